/-
  Texts of this proof, merged: NJoin. What each says stands at its head.
-/
import Derived.Test.YtifdglehfhoecaaMc6
/-
  Two nodes in one. Conditions: bounds that every node here keeps.
-/
namespace Go.Proofs.Ytifdglehfhoecaa.N
open Go.RowKit B E
theorem all2 {α : Type} {P : α → Prop} {a b : α} (h1 : P a) (h2 : P b) : ∀ p ∈ [a, b], P p := by simp [h1, h2]
theorem txts_cl {w : World} {v : Value} {key : ByteArray} (h : Cl w v [.string key]) : Txts w v [key] := by
  obtain ⟨g, rfl, hc⟩ := h
  exact Txts.close (l := [key]) (Nat.le_refl _) (by show 1 ≤ maxLen; unfold maxLen; omega) fun j hj => ⟨g, 0, rfl, by
    obtain rfl : j = 0 := by simp at hj; omega
    exact hc 0 (by simp)⟩
/-- three slices of texts, the one between of one text -/
def ClT (w : World) (v sa sb : Value) (key : ByteArray) : Prop := ∃ z, Cl w v [sa, z, sb] ∧ Txts w z [key]
theorem ClT.below {w w' : World} {v sa sb : Value} {key : ByteArray} (h : ClT w v sa sb key) (hb : Below w.heap.size w w') : ClT w' v sa sb key := by
  obtain ⟨z, h1, h2⟩ := h
  exact ⟨z, h1.below hb, h2.below hb⟩
/-- two nodes in one -/
def joinN (a : M.Nd) (key : ByteArray) (b : M.Nd) : M.Nd := if a.leaf = b.leaf then (if a.leaf = true then ⟨true, a.es ++ b.es, a.ks ++ b.ks, a.ss ++ b.ss⟩ else ⟨false, a.es ++ b.es, a.ks ++ b.ks, a.ss ++ [key] ++ b.ss⟩) else a
set_option maxRecDepth 100000 in
set_option maxHeartbeats 2000000 in
theorem join_other (va vb : Value) (a b : M.Nd) (key : ByteArray) (w : World) (ha : NdV w va a) (hb : NdV w vb b) (hda : Bd a) (hne : a.leaf ≠ b.leaf) :
    Calls Try.prog 59 #[va, .string key, vb] w (NMk a w) := by
  have HV := Lib.hid ha; have HBD := Lib.hid hda
  obtain ⟨l, es, ks, ss⟩ := a
  obtain ⟨m, fs, js, ts⟩ := b
  obtain ⟨e0, ec, k0, kc, s0, sc, rfl, _, _, _⟩ := ha
  obtain ⟨f0, fc, j0, jc, t0, tc, rfl, _, _, _⟩ := hb
  dsimp only at hne HV HBD ⊢
  obtain ⟨en, hen⟩ : ∃ x, es.length = x := ⟨_, rfl⟩
  obtain ⟨kn, hkn⟩ : ∃ x, ks.length = x := ⟨_, rfl⟩
  obtain ⟨sn, hsn⟩ : ∃ x, ss.length = x := ⟨_, rfl⟩
  obtain ⟨fn, hfn⟩ : ∃ x, fs.length = x := ⟨_, rfl⟩
  obtain ⟨jn, hjn⟩ : ∃ x, js.length = x := ⟨_, rfl⟩
  obtain ⟨tn, htn⟩ : ∃ x, ts.length = x := ⟨_, rfl⟩
  rw [hen, hkn, hsn] at HV ⊢
  rw [hfn, hjn, htn]
  have HEN := Lib.hid hen; have HKN := Lib.hid hkn; have HSN := Lib.hid hsn
  clear hen hkn hsn hfn hjn htn
  have q1 : (l != m) = true := by rw [bne_iff_ne]; exact hne
  have q2 : (l == m) = false := by rw [beq_eq_false_iff_ne]; exact hne
  clear hne
  go_enter Try.func59, Try.ntmps59
  go_upto_region 1 with (fail)
  obtain ⟨wa, hwa⟩ : ∃ W, w.alloc (.cells #[.bool l, .slice e0 en ec, .slice k0 kn kc, .slice s0 sn sc] 69) = W := ⟨_, rfl⟩
  have hza : wa.heap.size = w.heap.size + 1 := by rw [← hwa]; simp
  have hx : Bx wa w.heap.size l (.slice e0 en ec) (.slice k0 kn kc) (.slice s0 sn sc) := by rw [← hwa]; exact Bx.new _ _ _ _ _ _
  have hba : Below w.heap.size w wa := by rw [← hwa]; exact (Below.refl _ w).alloc (Nat.le_refl _) _
  rw [hwa]
  clear hwa
  obtain ⟨wb, hwb⟩ : ∃ W, wa.alloc (.cells #[.bool m, .slice f0 fn fc, .slice j0 jn jc, .slice t0 tn tc] 69) = W := ⟨_, rfl⟩
  have hzb : wb.heap.size = w.heap.size + 2 := by rw [← hwb]; simp [hza]
  have hy : Bx wb (w.heap.size + 1) m (.slice f0 fn fc) (.slice j0 jn jc) (.slice t0 tn tc) := by rw [← hwb, ← hza]; exact Bx.new _ _ _ _ _ _
  have hbb : Below wa.heap.size wa wb := by rw [← hwb]; exact (Below.refl _ wa).alloc (Nat.le_refl _) _
  rw [hwb]
  clear hwb
  obtain ⟨w1, hwc⟩ : ∃ W, wb.alloc (.cells #[.bool false, .slice none 0 0, .slice none 0 0, .slice none 0 0] 69) = W := ⟨_, rfl⟩
  have hzc : w1.heap.size = w.heap.size + 3 := by rw [← hwc]; simp [hzb]
  have z1 : Zb w1 (w.heap.size + 1 + 1) 69 := by rw [← hwc, ← hzb]; exact Zb.new _ _ _ _ _ _
  have hbc : Below wb.heap.size wb w1 := by rw [← hwc]; exact (Below.refl _ wb).alloc (Nat.le_refl _) _
  rw [hwc]
  clear hwc
  have hx := (hx.below hbb).below hbc
  have hy := hy.below hbc
  have hb1 := (hba.trans (hbb.mono hba.size)).trans (hbc.mono (Nat.le_trans hba.size hbb.size))
  clear hba hbb hbc hza hzb
  have HCP := Lib.hid (copied_any _ _ w1 (HV.out.below hb1) HBD.out)
  have HZC := Lib.hid hzc
  obtain ⟨x0, x1, x2, x3⟩ := hx
  obtain ⟨y0, y1, y2, y3⟩ := hy
  clear hzc
  go_wp2_with fail
  refine HCP.out.mono ?_
  rintro r w3 ⟨vc, rfl, ⟨a0, ac, b0, bc, c0, cc, rfl, o1, o2, o3⟩, hb3⟩
  dsimp only at o1 o2 o3 ⊢
  rw [HEN.out] at o1 ⊢
  rw [HKN.out] at o2 ⊢
  rw [HSN.out] at o3 ⊢
  have z1 := z1.below hb3
  have O1 := Lib.hid o1; have O2 := Lib.hid o2; have O3 := Lib.hid o3
  have hb4 := hb1.trans (hb3.mono hb1.size)
  clear x0 x1 x2 x3 y0 y1 y2 y3 o1 o2 o3 hb3
  go_wp2_with (refine wpList_store69 rfl _ _ rfl (w.heap.size + 1 + 1) rfl rfl z1 ?_)
  intro w5 hz5 hon
  have HZ5 := Lib.hid hz5; have HON := Lib.hid hon
  clear hz5 hon z1
  go_wp2
  have hon := HON.out
  have hlt : w.heap.size + 1 + 1 < w1.heap.size := by rw [HZC.out]; omega
  have f1 := own_mono (own_only' O1.out hon hlt) hb1.size
  have f2 := own_mono (own_only' O2.out hon hlt) hb1.size
  have f3 := own_mono (own_only' O3.out hon hlt) hb1.size
  have hb5 := hb4.trans (hon.to_below (by omega) hb4.size)
  refine bodyPost_ret (res_one rfl rfl (load69 (bx_blk HZ5.out))) rfl ?_
  refine ⟨_, rfl, ?_, hb5⟩
  rw [← HEN.out] at f1 ⊢
  rw [← HKN.out] at f2 ⊢
  rw [← HSN.out] at f3 ⊢
  exact ⟨_, _, _, _, _, _, rfl, f1, f2, f3⟩
set_option maxRecDepth 100000 in
set_option maxHeartbeats 8000000 in
theorem join_leaf (va vb : Value) (es fs : List Ent) (ks js : List Int) (ss ts : List ByteArray) (key : ByteArray) (w : World) (ha : NdV w va ⟨true, es, ks, ss⟩) (hb : NdV w vb ⟨true, fs, js, ts⟩) (hda : Bd ⟨true, es, ks, ss⟩) (hdb : Bd ⟨true, fs, js, ts⟩) :
    Calls Try.prog 59 #[va, .string key, vb] w (NMk ⟨true, es ++ fs, ks ++ js, ss ++ ts⟩ w) := by
  obtain ⟨c1, c2, c3, _, _⟩ := hda
  obtain ⟨d1, d2, d3, _, _⟩ := hdb
  obtain ⟨e0, ec, k0, kc, s0, sc, rfl, he, hk, hs⟩ := ha
  obtain ⟨f0, fc, j0, jc, t0, tc, rfl, hf, hj, ht⟩ := hb
  dsimp only at he hk hs hf hj ht c1 c2 c3 d1 d2 d3 ⊢
  have l1 : (es ++ fs).length ≤ 20000 := by rw [List.length_append]; omega
  have l2 : (ks ++ js).length ≤ 20000 := by rw [List.length_append]; omega
  have l3 : (ss ++ ts).length ≤ 20001 := by simp only [List.length_append]; omega
  obtain ⟨en, hen⟩ : ∃ x, es.length = x := ⟨_, rfl⟩
  obtain ⟨kn, hkn⟩ : ∃ x, ks.length = x := ⟨_, rfl⟩
  obtain ⟨sn, hsn⟩ : ∃ x, ss.length = x := ⟨_, rfl⟩
  obtain ⟨fn, hfn⟩ : ∃ x, fs.length = x := ⟨_, rfl⟩
  obtain ⟨jn, hjn⟩ : ∃ x, js.length = x := ⟨_, rfl⟩
  obtain ⟨tn, htn⟩ : ∃ x, ts.length = x := ⟨_, rfl⟩
  rw [hen] at he ⊢
  rw [hkn] at hk ⊢
  rw [hsn] at hs ⊢
  rw [hfn] at hf ⊢
  rw [hjn] at hj ⊢
  rw [htn] at ht ⊢
  clear hen hkn hsn hfn hjn htn c1 c2 c3 d1 d2 d3
  go_enter Try.func59, Try.ntmps59
  go_upto_region 1 with (fail)
  obtain ⟨wa, hwa⟩ : ∃ W, w.alloc (.cells #[.bool true, .slice e0 en ec, .slice k0 kn kc, .slice s0 sn sc] 69) = W := ⟨_, rfl⟩
  have hza : wa.heap.size = w.heap.size + 1 := by rw [← hwa]; simp
  have hx : Bx wa w.heap.size true (.slice e0 en ec) (.slice k0 kn kc) (.slice s0 sn sc) := by rw [← hwa]; exact Bx.new _ _ _ _ _ _
  have hba : Below w.heap.size w wa := by rw [← hwa]; exact (Below.refl _ w).alloc (Nat.le_refl _) _
  rw [hwa]
  clear hwa
  obtain ⟨wb, hwb⟩ : ∃ W, wa.alloc (.cells #[.bool true, .slice f0 fn fc, .slice j0 jn jc, .slice t0 tn tc] 69) = W := ⟨_, rfl⟩
  have hzb : wb.heap.size = w.heap.size + 2 := by rw [← hwb]; simp [hza]
  have hy : Bx wb (w.heap.size + 1) true (.slice f0 fn fc) (.slice j0 jn jc) (.slice t0 tn tc) := by rw [← hwb, ← hza]; exact Bx.new _ _ _ _ _ _
  have hbb : Below wa.heap.size wa wb := by rw [← hwb]; exact (Below.refl _ wa).alloc (Nat.le_refl _) _
  rw [hwb]
  clear hwb
  obtain ⟨w1, hwc⟩ : ∃ W, wb.alloc (.cells #[.bool false, .slice none 0 0, .slice none 0 0, .slice none 0 0] 69) = W := ⟨_, rfl⟩
  have hzc : w1.heap.size = w.heap.size + 3 := by rw [← hwc]; simp [hzb]
  have z1 : Zb w1 (w.heap.size + 1 + 1) 69 := by rw [← hwc, ← hzb]; exact Zb.new _ _ _ _ _ _
  have hbc : Below wb.heap.size wb w1 := by rw [← hwc]; exact (Below.refl _ wb).alloc (Nat.le_refl _) _
  rw [hwc]
  clear hwc
  have hx := (hx.below hbb).below hbc
  have hy := hy.below hbc
  have hb1 := (hba.trans (hbb.mono hba.size)).trans (hbc.mono (Nat.le_trans hba.size hbb.size))
  clear hba hbb hbc hza hzb
  have HE := Lib.hid (he.below hb1); have HKS := Lib.hid (hk.below hb1); have HS := Lib.hid (hs.below hb1)
  have HF := Lib.hid (hf.below hb1); have HJ := Lib.hid (hj.below hb1); have HT := Lib.hid (ht.below hb1)
  obtain ⟨EF, hEF⟩ : ∃ x, es ++ fs = x := ⟨_, rfl⟩
  obtain ⟨KJ, hKJ⟩ : ∃ x, ks ++ js = x := ⟨_, rfl⟩
  obtain ⟨ST, hST⟩ : ∃ x, ss ++ ts = x := ⟨_, rfl⟩
  rw [hEF] at l1
  rw [hKJ] at l2
  rw [hST] at l3
  have HEFE := Lib.hid hEF; have HKJE := Lib.hid hKJ; have HSTE := Lib.hid hST
  obtain ⟨efn, hefn⟩ : ∃ x, EF.length = x := ⟨_, rfl⟩
  obtain ⟨kjn, hkjn⟩ : ∃ x, KJ.length = x := ⟨_, rfl⟩
  obtain ⟨stn, hstn⟩ : ∃ x, ST.length = x := ⟨_, rfl⟩
  have HEFF := Lib.hid (show flatA [((.slice e0 en ec : Value), es), (.slice f0 fn fc, fs)] 2 = EF by rw [← hEF]; simp [flatA])
  have HKJF := Lib.hid (show flatA [((.slice k0 kn kc : Value), ks), (.slice j0 jn jc, js)] 2 = KJ by rw [← hKJ]; simp [flatA])
  have HSTF := Lib.hid (show flatA [((.slice s0 sn sc : Value), ss), (.slice t0 tn tc, ts)] 2 = ST by rw [← hST]; simp [flatA])
  have HEFB := Lib.hid (show (flatA [((.slice e0 en ec : Value), es), (.slice f0 fn fc, fs)] 2).length ≤ 1099511627776 by rw [HEFF.out]; omega)
  have HKJB := Lib.hid (show (flatA [((.slice k0 kn kc : Value), ks), (.slice j0 jn jc, js)] 2).length ≤ 1099511627776 by rw [HKJF.out]; omega)
  have HSTB := Lib.hid (show (flatA [((.slice s0 sn sc : Value), ss), (.slice t0 tn tc, ts)] 2).length ≤ 1099511627776 by rw [HSTF.out]; omega)
  have HEFN := Lib.hid hefn; have HKJN := Lib.hid hkjn; have HSTN := Lib.hid hstn
  have HX := Lib.hid hx; have HY := Lib.hid hy; have HZB := Lib.hid z1; have HZ1 := Lib.hid hzc
  obtain ⟨x0, x1, x2, x3⟩ := hx
  obtain ⟨y0, y1, y2, y3⟩ := hy
  clear he hk hs hf hj ht hEF hKJ hST hefn hkjn hstn l1 l2 l3 z1 hzc
  go_upto_region 4 with (fail)
  clear x0 x1 x2 x3 y0 y1 y2 y3
  refine wp_region_any (by kernel_rfl) ?_
  refine wpAny_upto_f 19 (fun f L a W => ∃ v18 v19 v20 v21 v22 v23 v24 v25 v26 v27 v28 v29 v30 v31 v32 v33 v34 v35 v36 : Value, a = { tmps := #[f 0, .string key, f 2, .pointer (some ⟨w.heap.size, 0, none⟩), f 4, .pointer (some ⟨w.heap.size + 1, 0, none⟩), .pointer (some ⟨w.heap.size + 1 + 1, 0, none⟩), f 7, f 8, f 9, f 10, f 11, f 12, f 13, f 14, f 15, f 16, f 17, v18, v19, v20, v21, v22, v23, v24, v25, v26, v27, v28, v29, v30, v31, v32, v33, v34, v35, v36, f 37, f 38, f 39, f 40, f 41, f 42, f 43, f 44, f 45, f 46, f 47, f 48, f 49, f 50, f 51, f 52, f 53, f 54, f 55, f 56, f 57], defers := [] } ∧ Below w1.heap.size w1 W ∧ (Lst L 0 → v18 = .pointer (some ⟨w.heap.size, 1, none⟩)) ∧ (Lst L 1 → v19 = .slice e0 en ec) ∧ (Lst L 2 → v20 = .pointer (some ⟨w.heap.size + 1, 1, none⟩)) ∧ (Lst L 3 → v21 = .slice f0 fn fc) ∧ (Lst L 4 → Cl W v22 [.slice e0 en ec, .slice f0 fn fc]) ∧ (Lst L 5 → World.ownsRow W w1.heap.size 49 2 v23 efn (ecs EF)) ∧ (Lst L 6 → v24 = .pointer (some ⟨w.heap.size, 2, none⟩)) ∧ (Lst L 7 → v25 = .slice k0 kn kc) ∧ (Lst L 8 → v26 = .pointer (some ⟨w.heap.size + 1, 2, none⟩)) ∧ (Lst L 9 → v27 = .slice j0 jn jc) ∧ (Lst L 10 → Cl W v28 [.slice k0 kn kc, .slice j0 jn jc]) ∧ (Lst L 11 → World.ownsRow W w1.heap.size 3 1 v29 kjn (ics KJ)) ∧ (Lst L 12 → v30 = .pointer (some ⟨w.heap.size, 3, none⟩)) ∧ (Lst L 13 → v31 = .slice s0 sn sc) ∧ (Lst L 14 → v32 = .pointer (some ⟨w.heap.size + 1, 3, none⟩)) ∧ (Lst L 15 → v33 = .slice t0 tn tc) ∧ (Lst L 16 → Cl W v34 [.slice s0 sn sc, .slice t0 tn tc]) ∧ (Lst L 17 → World.ownsRow W w1.heap.size 9 1 v35 stn (tcs ST)) ∧ (Lst L 18 → v36 = .agg #[.bool true, v23, v29, v35] ∧ Lst L 5 ∧ Lst L 11 ∧ Lst L 17)) (by decide) (by kernel_rfl) (by kernel_rfl) ?step ?fin _ _ _ _ ?ini (by simp) (fun k _ => lst_none) (by simp)
  case ini => exact ⟨_, _, _, _, _, _, _, _, _, _, _, _, _, _, _, _, _, _, _, rfl, (Below.refl _ w1).drew, fun h => absurd h lst_none, fun h => absurd h lst_none, fun h => absurd h lst_none, fun h => absurd h lst_none, fun h => absurd h lst_none, fun h => absurd h lst_none, fun h => absurd h lst_none, fun h => absurd h lst_none, fun h => absurd h lst_none, fun h => absurd h lst_none, fun h => absurd h lst_none, fun h => absurd h lst_none, fun h => absurd h lst_none, fun h => absurd h lst_none, fun h => absurd h lst_none, fun h => absurd h lst_none, fun h => absurd h lst_none, fun h => absurd h lst_none, fun h => absurd h lst_none⟩
  case step =>
    intro f L a W hI i him hi
    obtain ⟨v18, v19, v20, v21, v22, v23, v24, v25, v26, v27, v28, v29, v30, v31, v32, v33, v34, v35, v36, rfl, hb, hf⟩ := hI
    have F := Lib.hid hf
    clear hf
    rcases (show i = 0 ∨ i = 1 ∨ i = 2 ∨ i = 3 ∨ i = 4 ∨ i = 5 ∨ i = 6 ∨ i = 7 ∨ i = 8 ∨ i = 9 ∨ i = 10 ∨ i = 11 ∨ i = 12 ∨ i = 13 ∨ i = 14 ∨ i = 15 ∨ i = 16 ∨ i = 17 ∨ i = 18 by omega) with rfl | rfl | rfl | rfl | rfl | rfl | rfl | rfl | rfl | rfl | rfl | rfl | rfl | rfl | rfl | rfl | rfl | rfl | rfl
    · clear him
      have HI := Lib.hid hi
      clear hi
      refine wpOp_step (o := _) rfl (fun K' hK => ?_)
      have HK := Lib.hid hK
      clear hK
      go_simp
      refine HK.out _ _ ⟨_, _, _, _, _, _, _, _, _, _, _, _, _, _, _, _, _, _, _, rfl, hb, fun _ => rfl, fun h => F.out.2.1 (lst_old (by decide) h), fun h => F.out.2.2.1 (lst_old (by decide) h), fun h => F.out.2.2.2.1 (lst_old (by decide) h), fun h => F.out.2.2.2.2.1 (lst_old (by decide) h), fun h => F.out.2.2.2.2.2.1 (lst_old (by decide) h), fun h => F.out.2.2.2.2.2.2.1 (lst_old (by decide) h), fun h => F.out.2.2.2.2.2.2.2.1 (lst_old (by decide) h), fun h => F.out.2.2.2.2.2.2.2.2.1 (lst_old (by decide) h), fun h => F.out.2.2.2.2.2.2.2.2.2.1 (lst_old (by decide) h), fun h => F.out.2.2.2.2.2.2.2.2.2.2.1 (lst_old (by decide) h), fun h => F.out.2.2.2.2.2.2.2.2.2.2.2.1 (lst_old (by decide) h), fun h => F.out.2.2.2.2.2.2.2.2.2.2.2.2.1 (lst_old (by decide) h), fun h => F.out.2.2.2.2.2.2.2.2.2.2.2.2.2.1 (lst_old (by decide) h), fun h => F.out.2.2.2.2.2.2.2.2.2.2.2.2.2.2.1 (lst_old (by decide) h), fun h => F.out.2.2.2.2.2.2.2.2.2.2.2.2.2.2.2.1 (lst_old (by decide) h), fun h => F.out.2.2.2.2.2.2.2.2.2.2.2.2.2.2.2.2.1 (lst_old (by decide) h), fun h => F.out.2.2.2.2.2.2.2.2.2.2.2.2.2.2.2.2.2.1 (lst_old (by decide) h), fun h => ⟨(F.out.2.2.2.2.2.2.2.2.2.2.2.2.2.2.2.2.2.2 (lst_old (by decide) h)).1, lst_keep (F.out.2.2.2.2.2.2.2.2.2.2.2.2.2.2.2.2.2.2 (lst_old (by decide) h)).2.1, lst_keep (F.out.2.2.2.2.2.2.2.2.2.2.2.2.2.2.2.2.2.2 (lst_old (by decide) h)).2.2.1, lst_keep (F.out.2.2.2.2.2.2.2.2.2.2.2.2.2.2.2.2.2.2 (lst_old (by decide) h)).2.2.2⟩⟩
    · clear him
      have p0 := F.out.1 (ready_needs hi (by kernel_rfl))
      subst p0
      obtain ⟨b0, b1, b2, b3⟩ := HX.out.below hb
      have HI := Lib.hid hi
      clear hi
      refine wpOp_step (o := _) rfl (fun K' hK => ?_)
      have HK := Lib.hid hK
      clear hK
      go_simp
      refine HK.out _ _ ⟨_, _, _, _, _, _, _, _, _, _, _, _, _, _, _, _, _, _, _, rfl, hb, fun h => F.out.1 (lst_old (by decide) h), fun _ => rfl, fun h => F.out.2.2.1 (lst_old (by decide) h), fun h => F.out.2.2.2.1 (lst_old (by decide) h), fun h => F.out.2.2.2.2.1 (lst_old (by decide) h), fun h => F.out.2.2.2.2.2.1 (lst_old (by decide) h), fun h => F.out.2.2.2.2.2.2.1 (lst_old (by decide) h), fun h => F.out.2.2.2.2.2.2.2.1 (lst_old (by decide) h), fun h => F.out.2.2.2.2.2.2.2.2.1 (lst_old (by decide) h), fun h => F.out.2.2.2.2.2.2.2.2.2.1 (lst_old (by decide) h), fun h => F.out.2.2.2.2.2.2.2.2.2.2.1 (lst_old (by decide) h), fun h => F.out.2.2.2.2.2.2.2.2.2.2.2.1 (lst_old (by decide) h), fun h => F.out.2.2.2.2.2.2.2.2.2.2.2.2.1 (lst_old (by decide) h), fun h => F.out.2.2.2.2.2.2.2.2.2.2.2.2.2.1 (lst_old (by decide) h), fun h => F.out.2.2.2.2.2.2.2.2.2.2.2.2.2.2.1 (lst_old (by decide) h), fun h => F.out.2.2.2.2.2.2.2.2.2.2.2.2.2.2.2.1 (lst_old (by decide) h), fun h => F.out.2.2.2.2.2.2.2.2.2.2.2.2.2.2.2.2.1 (lst_old (by decide) h), fun h => F.out.2.2.2.2.2.2.2.2.2.2.2.2.2.2.2.2.2.1 (lst_old (by decide) h), fun h => ⟨(F.out.2.2.2.2.2.2.2.2.2.2.2.2.2.2.2.2.2.2 (lst_old (by decide) h)).1, lst_keep (F.out.2.2.2.2.2.2.2.2.2.2.2.2.2.2.2.2.2.2 (lst_old (by decide) h)).2.1, lst_keep (F.out.2.2.2.2.2.2.2.2.2.2.2.2.2.2.2.2.2.2 (lst_old (by decide) h)).2.2.1, lst_keep (F.out.2.2.2.2.2.2.2.2.2.2.2.2.2.2.2.2.2.2 (lst_old (by decide) h)).2.2.2⟩⟩
    · clear him
      have HI := Lib.hid hi
      clear hi
      refine wpOp_step (o := _) rfl (fun K' hK => ?_)
      have HK := Lib.hid hK
      clear hK
      go_simp
      refine HK.out _ _ ⟨_, _, _, _, _, _, _, _, _, _, _, _, _, _, _, _, _, _, _, rfl, hb, fun h => F.out.1 (lst_old (by decide) h), fun h => F.out.2.1 (lst_old (by decide) h), fun _ => rfl, fun h => F.out.2.2.2.1 (lst_old (by decide) h), fun h => F.out.2.2.2.2.1 (lst_old (by decide) h), fun h => F.out.2.2.2.2.2.1 (lst_old (by decide) h), fun h => F.out.2.2.2.2.2.2.1 (lst_old (by decide) h), fun h => F.out.2.2.2.2.2.2.2.1 (lst_old (by decide) h), fun h => F.out.2.2.2.2.2.2.2.2.1 (lst_old (by decide) h), fun h => F.out.2.2.2.2.2.2.2.2.2.1 (lst_old (by decide) h), fun h => F.out.2.2.2.2.2.2.2.2.2.2.1 (lst_old (by decide) h), fun h => F.out.2.2.2.2.2.2.2.2.2.2.2.1 (lst_old (by decide) h), fun h => F.out.2.2.2.2.2.2.2.2.2.2.2.2.1 (lst_old (by decide) h), fun h => F.out.2.2.2.2.2.2.2.2.2.2.2.2.2.1 (lst_old (by decide) h), fun h => F.out.2.2.2.2.2.2.2.2.2.2.2.2.2.2.1 (lst_old (by decide) h), fun h => F.out.2.2.2.2.2.2.2.2.2.2.2.2.2.2.2.1 (lst_old (by decide) h), fun h => F.out.2.2.2.2.2.2.2.2.2.2.2.2.2.2.2.2.1 (lst_old (by decide) h), fun h => F.out.2.2.2.2.2.2.2.2.2.2.2.2.2.2.2.2.2.1 (lst_old (by decide) h), fun h => ⟨(F.out.2.2.2.2.2.2.2.2.2.2.2.2.2.2.2.2.2.2 (lst_old (by decide) h)).1, lst_keep (F.out.2.2.2.2.2.2.2.2.2.2.2.2.2.2.2.2.2.2 (lst_old (by decide) h)).2.1, lst_keep (F.out.2.2.2.2.2.2.2.2.2.2.2.2.2.2.2.2.2.2 (lst_old (by decide) h)).2.2.1, lst_keep (F.out.2.2.2.2.2.2.2.2.2.2.2.2.2.2.2.2.2.2 (lst_old (by decide) h)).2.2.2⟩⟩
    · clear him
      have p2 := F.out.2.2.1 (ready_needs hi (by kernel_rfl))
      subst p2
      obtain ⟨b0, b1, b2, b3⟩ := HY.out.below hb
      have HI := Lib.hid hi
      clear hi
      refine wpOp_step (o := _) rfl (fun K' hK => ?_)
      have HK := Lib.hid hK
      clear hK
      go_simp
      refine HK.out _ _ ⟨_, _, _, _, _, _, _, _, _, _, _, _, _, _, _, _, _, _, _, rfl, hb, fun h => F.out.1 (lst_old (by decide) h), fun h => F.out.2.1 (lst_old (by decide) h), fun h => F.out.2.2.1 (lst_old (by decide) h), fun _ => rfl, fun h => F.out.2.2.2.2.1 (lst_old (by decide) h), fun h => F.out.2.2.2.2.2.1 (lst_old (by decide) h), fun h => F.out.2.2.2.2.2.2.1 (lst_old (by decide) h), fun h => F.out.2.2.2.2.2.2.2.1 (lst_old (by decide) h), fun h => F.out.2.2.2.2.2.2.2.2.1 (lst_old (by decide) h), fun h => F.out.2.2.2.2.2.2.2.2.2.1 (lst_old (by decide) h), fun h => F.out.2.2.2.2.2.2.2.2.2.2.1 (lst_old (by decide) h), fun h => F.out.2.2.2.2.2.2.2.2.2.2.2.1 (lst_old (by decide) h), fun h => F.out.2.2.2.2.2.2.2.2.2.2.2.2.1 (lst_old (by decide) h), fun h => F.out.2.2.2.2.2.2.2.2.2.2.2.2.2.1 (lst_old (by decide) h), fun h => F.out.2.2.2.2.2.2.2.2.2.2.2.2.2.2.1 (lst_old (by decide) h), fun h => F.out.2.2.2.2.2.2.2.2.2.2.2.2.2.2.2.1 (lst_old (by decide) h), fun h => F.out.2.2.2.2.2.2.2.2.2.2.2.2.2.2.2.2.1 (lst_old (by decide) h), fun h => F.out.2.2.2.2.2.2.2.2.2.2.2.2.2.2.2.2.2.1 (lst_old (by decide) h), fun h => ⟨(F.out.2.2.2.2.2.2.2.2.2.2.2.2.2.2.2.2.2.2 (lst_old (by decide) h)).1, lst_keep (F.out.2.2.2.2.2.2.2.2.2.2.2.2.2.2.2.2.2.2 (lst_old (by decide) h)).2.1, lst_keep (F.out.2.2.2.2.2.2.2.2.2.2.2.2.2.2.2.2.2.2 (lst_old (by decide) h)).2.2.1, lst_keep (F.out.2.2.2.2.2.2.2.2.2.2.2.2.2.2.2.2.2.2 (lst_old (by decide) h)).2.2.2⟩⟩
    · clear him
      have p1 := F.out.2.1 (ready_needs hi (by kernel_rfl))
      have p3 := F.out.2.2.2.1 (ready_needs hi (by kernel_rfl))
      subst p1
      subst p3
      have HI := Lib.hid hi
      clear hi
      refine wpOp_step (o := _) rfl (fun K' hK => ?_)
      have HK := Lib.hid hK
      clear hK
      go_simp
      refine HK.out _ _ ⟨_, _, _, _, _, _, _, _, _, _, _, _, _, _, _, _, _, _, _, rfl, (hb.alloc hb.size _), fun h => F.out.1 (lst_old (by decide) h), fun h => F.out.2.1 (lst_old (by decide) h), fun h => F.out.2.2.1 (lst_old (by decide) h), fun h => F.out.2.2.2.1 (lst_old (by decide) h), fun _ => Cl.new W _ 43 2 rfl, fun h => own_below (F.out.2.2.2.2.2.1 (lst_old (by decide) h)) ((Below.refl _ W).alloc (Nat.le_refl _) _), fun h => F.out.2.2.2.2.2.2.1 (lst_old (by decide) h), fun h => F.out.2.2.2.2.2.2.2.1 (lst_old (by decide) h), fun h => F.out.2.2.2.2.2.2.2.2.1 (lst_old (by decide) h), fun h => F.out.2.2.2.2.2.2.2.2.2.1 (lst_old (by decide) h), fun h => Cl.below (F.out.2.2.2.2.2.2.2.2.2.2.1 (lst_old (by decide) h)) ((Below.refl _ W).alloc (Nat.le_refl _) _), fun h => own_below (F.out.2.2.2.2.2.2.2.2.2.2.2.1 (lst_old (by decide) h)) ((Below.refl _ W).alloc (Nat.le_refl _) _), fun h => F.out.2.2.2.2.2.2.2.2.2.2.2.2.1 (lst_old (by decide) h), fun h => F.out.2.2.2.2.2.2.2.2.2.2.2.2.2.1 (lst_old (by decide) h), fun h => F.out.2.2.2.2.2.2.2.2.2.2.2.2.2.2.1 (lst_old (by decide) h), fun h => F.out.2.2.2.2.2.2.2.2.2.2.2.2.2.2.2.1 (lst_old (by decide) h), fun h => Cl.below (F.out.2.2.2.2.2.2.2.2.2.2.2.2.2.2.2.2.1 (lst_old (by decide) h)) ((Below.refl _ W).alloc (Nat.le_refl _) _), fun h => own_below (F.out.2.2.2.2.2.2.2.2.2.2.2.2.2.2.2.2.2.1 (lst_old (by decide) h)) ((Below.refl _ W).alloc (Nat.le_refl _) _), fun h => ⟨(F.out.2.2.2.2.2.2.2.2.2.2.2.2.2.2.2.2.2.2 (lst_old (by decide) h)).1, lst_keep (F.out.2.2.2.2.2.2.2.2.2.2.2.2.2.2.2.2.2.2 (lst_old (by decide) h)).2.1, lst_keep (F.out.2.2.2.2.2.2.2.2.2.2.2.2.2.2.2.2.2.2 (lst_old (by decide) h)).2.2.1, lst_keep (F.out.2.2.2.2.2.2.2.2.2.2.2.2.2.2.2.2.2.2 (lst_old (by decide) h)).2.2.2⟩⟩
    · clear him
      have p4 := F.out.2.2.2.2.1 (ready_needs hi (by kernel_rfl))
      have P4 := Lib.hid p4
      clear p4
      have HI := Lib.hid hi
      clear hi
      refine wpOp_step (o := _) rfl (fun K' hK => ?_)
      have HK := Lib.hid hK
      clear hK
      go_simp
      refine (gl_e [(.slice e0 en ec, es), (.slice f0 fn fc, fs)] P4.out (all2 (HE.out.below hb) (HF.out.below hb)) (by simp) HEFB.out EF HEFF.out).mono ?_
      rintro r W2 ⟨x, rfl, hown, hb2⟩
      refine HK.out _ _ ⟨_, _, _, _, _, _, _, _, _, _, _, _, _, _, _, _, _, _, _, rfl, (hb.trans (hb2.mono hb.size)), fun h => F.out.1 (lst_old (by decide) h), fun h => F.out.2.1 (lst_old (by decide) h), fun h => F.out.2.2.1 (lst_old (by decide) h), fun h => F.out.2.2.2.1 (lst_old (by decide) h), fun h => Cl.below (F.out.2.2.2.2.1 (lst_old (by decide) h)) hb2, fun _ => own_mono (HEFN.out ▸ hown) hb.size, fun h => F.out.2.2.2.2.2.2.1 (lst_old (by decide) h), fun h => F.out.2.2.2.2.2.2.2.1 (lst_old (by decide) h), fun h => F.out.2.2.2.2.2.2.2.2.1 (lst_old (by decide) h), fun h => F.out.2.2.2.2.2.2.2.2.2.1 (lst_old (by decide) h), fun h => Cl.below (F.out.2.2.2.2.2.2.2.2.2.2.1 (lst_old (by decide) h)) hb2, fun h => own_below (F.out.2.2.2.2.2.2.2.2.2.2.2.1 (lst_old (by decide) h)) hb2, fun h => F.out.2.2.2.2.2.2.2.2.2.2.2.2.1 (lst_old (by decide) h), fun h => F.out.2.2.2.2.2.2.2.2.2.2.2.2.2.1 (lst_old (by decide) h), fun h => F.out.2.2.2.2.2.2.2.2.2.2.2.2.2.2.1 (lst_old (by decide) h), fun h => F.out.2.2.2.2.2.2.2.2.2.2.2.2.2.2.2.1 (lst_old (by decide) h), fun h => Cl.below (F.out.2.2.2.2.2.2.2.2.2.2.2.2.2.2.2.2.1 (lst_old (by decide) h)) hb2, fun h => own_below (F.out.2.2.2.2.2.2.2.2.2.2.2.2.2.2.2.2.2.1 (lst_old (by decide) h)) hb2, fun h => absurd (F.out.2.2.2.2.2.2.2.2.2.2.2.2.2.2.2.2.2.2 (lst_old (by decide) h)).2.1 (ready_not HI.out)⟩
    · clear him
      have HI := Lib.hid hi
      clear hi
      refine wpOp_step (o := _) rfl (fun K' hK => ?_)
      have HK := Lib.hid hK
      clear hK
      go_simp
      refine HK.out _ _ ⟨_, _, _, _, _, _, _, _, _, _, _, _, _, _, _, _, _, _, _, rfl, hb, fun h => F.out.1 (lst_old (by decide) h), fun h => F.out.2.1 (lst_old (by decide) h), fun h => F.out.2.2.1 (lst_old (by decide) h), fun h => F.out.2.2.2.1 (lst_old (by decide) h), fun h => F.out.2.2.2.2.1 (lst_old (by decide) h), fun h => F.out.2.2.2.2.2.1 (lst_old (by decide) h), fun _ => rfl, fun h => F.out.2.2.2.2.2.2.2.1 (lst_old (by decide) h), fun h => F.out.2.2.2.2.2.2.2.2.1 (lst_old (by decide) h), fun h => F.out.2.2.2.2.2.2.2.2.2.1 (lst_old (by decide) h), fun h => F.out.2.2.2.2.2.2.2.2.2.2.1 (lst_old (by decide) h), fun h => F.out.2.2.2.2.2.2.2.2.2.2.2.1 (lst_old (by decide) h), fun h => F.out.2.2.2.2.2.2.2.2.2.2.2.2.1 (lst_old (by decide) h), fun h => F.out.2.2.2.2.2.2.2.2.2.2.2.2.2.1 (lst_old (by decide) h), fun h => F.out.2.2.2.2.2.2.2.2.2.2.2.2.2.2.1 (lst_old (by decide) h), fun h => F.out.2.2.2.2.2.2.2.2.2.2.2.2.2.2.2.1 (lst_old (by decide) h), fun h => F.out.2.2.2.2.2.2.2.2.2.2.2.2.2.2.2.2.1 (lst_old (by decide) h), fun h => F.out.2.2.2.2.2.2.2.2.2.2.2.2.2.2.2.2.2.1 (lst_old (by decide) h), fun h => ⟨(F.out.2.2.2.2.2.2.2.2.2.2.2.2.2.2.2.2.2.2 (lst_old (by decide) h)).1, lst_keep (F.out.2.2.2.2.2.2.2.2.2.2.2.2.2.2.2.2.2.2 (lst_old (by decide) h)).2.1, lst_keep (F.out.2.2.2.2.2.2.2.2.2.2.2.2.2.2.2.2.2.2 (lst_old (by decide) h)).2.2.1, lst_keep (F.out.2.2.2.2.2.2.2.2.2.2.2.2.2.2.2.2.2.2 (lst_old (by decide) h)).2.2.2⟩⟩
    · clear him
      have p6 := F.out.2.2.2.2.2.2.1 (ready_needs hi (by kernel_rfl))
      subst p6
      obtain ⟨b0, b1, b2, b3⟩ := HX.out.below hb
      have HI := Lib.hid hi
      clear hi
      refine wpOp_step (o := _) rfl (fun K' hK => ?_)
      have HK := Lib.hid hK
      clear hK
      go_simp
      refine HK.out _ _ ⟨_, _, _, _, _, _, _, _, _, _, _, _, _, _, _, _, _, _, _, rfl, hb, fun h => F.out.1 (lst_old (by decide) h), fun h => F.out.2.1 (lst_old (by decide) h), fun h => F.out.2.2.1 (lst_old (by decide) h), fun h => F.out.2.2.2.1 (lst_old (by decide) h), fun h => F.out.2.2.2.2.1 (lst_old (by decide) h), fun h => F.out.2.2.2.2.2.1 (lst_old (by decide) h), fun h => F.out.2.2.2.2.2.2.1 (lst_old (by decide) h), fun _ => rfl, fun h => F.out.2.2.2.2.2.2.2.2.1 (lst_old (by decide) h), fun h => F.out.2.2.2.2.2.2.2.2.2.1 (lst_old (by decide) h), fun h => F.out.2.2.2.2.2.2.2.2.2.2.1 (lst_old (by decide) h), fun h => F.out.2.2.2.2.2.2.2.2.2.2.2.1 (lst_old (by decide) h), fun h => F.out.2.2.2.2.2.2.2.2.2.2.2.2.1 (lst_old (by decide) h), fun h => F.out.2.2.2.2.2.2.2.2.2.2.2.2.2.1 (lst_old (by decide) h), fun h => F.out.2.2.2.2.2.2.2.2.2.2.2.2.2.2.1 (lst_old (by decide) h), fun h => F.out.2.2.2.2.2.2.2.2.2.2.2.2.2.2.2.1 (lst_old (by decide) h), fun h => F.out.2.2.2.2.2.2.2.2.2.2.2.2.2.2.2.2.1 (lst_old (by decide) h), fun h => F.out.2.2.2.2.2.2.2.2.2.2.2.2.2.2.2.2.2.1 (lst_old (by decide) h), fun h => ⟨(F.out.2.2.2.2.2.2.2.2.2.2.2.2.2.2.2.2.2.2 (lst_old (by decide) h)).1, lst_keep (F.out.2.2.2.2.2.2.2.2.2.2.2.2.2.2.2.2.2.2 (lst_old (by decide) h)).2.1, lst_keep (F.out.2.2.2.2.2.2.2.2.2.2.2.2.2.2.2.2.2.2 (lst_old (by decide) h)).2.2.1, lst_keep (F.out.2.2.2.2.2.2.2.2.2.2.2.2.2.2.2.2.2.2 (lst_old (by decide) h)).2.2.2⟩⟩
    · clear him
      have HI := Lib.hid hi
      clear hi
      refine wpOp_step (o := _) rfl (fun K' hK => ?_)
      have HK := Lib.hid hK
      clear hK
      go_simp
      refine HK.out _ _ ⟨_, _, _, _, _, _, _, _, _, _, _, _, _, _, _, _, _, _, _, rfl, hb, fun h => F.out.1 (lst_old (by decide) h), fun h => F.out.2.1 (lst_old (by decide) h), fun h => F.out.2.2.1 (lst_old (by decide) h), fun h => F.out.2.2.2.1 (lst_old (by decide) h), fun h => F.out.2.2.2.2.1 (lst_old (by decide) h), fun h => F.out.2.2.2.2.2.1 (lst_old (by decide) h), fun h => F.out.2.2.2.2.2.2.1 (lst_old (by decide) h), fun h => F.out.2.2.2.2.2.2.2.1 (lst_old (by decide) h), fun _ => rfl, fun h => F.out.2.2.2.2.2.2.2.2.2.1 (lst_old (by decide) h), fun h => F.out.2.2.2.2.2.2.2.2.2.2.1 (lst_old (by decide) h), fun h => F.out.2.2.2.2.2.2.2.2.2.2.2.1 (lst_old (by decide) h), fun h => F.out.2.2.2.2.2.2.2.2.2.2.2.2.1 (lst_old (by decide) h), fun h => F.out.2.2.2.2.2.2.2.2.2.2.2.2.2.1 (lst_old (by decide) h), fun h => F.out.2.2.2.2.2.2.2.2.2.2.2.2.2.2.1 (lst_old (by decide) h), fun h => F.out.2.2.2.2.2.2.2.2.2.2.2.2.2.2.2.1 (lst_old (by decide) h), fun h => F.out.2.2.2.2.2.2.2.2.2.2.2.2.2.2.2.2.1 (lst_old (by decide) h), fun h => F.out.2.2.2.2.2.2.2.2.2.2.2.2.2.2.2.2.2.1 (lst_old (by decide) h), fun h => ⟨(F.out.2.2.2.2.2.2.2.2.2.2.2.2.2.2.2.2.2.2 (lst_old (by decide) h)).1, lst_keep (F.out.2.2.2.2.2.2.2.2.2.2.2.2.2.2.2.2.2.2 (lst_old (by decide) h)).2.1, lst_keep (F.out.2.2.2.2.2.2.2.2.2.2.2.2.2.2.2.2.2.2 (lst_old (by decide) h)).2.2.1, lst_keep (F.out.2.2.2.2.2.2.2.2.2.2.2.2.2.2.2.2.2.2 (lst_old (by decide) h)).2.2.2⟩⟩
    · clear him
      have p8 := F.out.2.2.2.2.2.2.2.2.1 (ready_needs hi (by kernel_rfl))
      subst p8
      obtain ⟨b0, b1, b2, b3⟩ := HY.out.below hb
      have HI := Lib.hid hi
      clear hi
      refine wpOp_step (o := _) rfl (fun K' hK => ?_)
      have HK := Lib.hid hK
      clear hK
      go_simp
      refine HK.out _ _ ⟨_, _, _, _, _, _, _, _, _, _, _, _, _, _, _, _, _, _, _, rfl, hb, fun h => F.out.1 (lst_old (by decide) h), fun h => F.out.2.1 (lst_old (by decide) h), fun h => F.out.2.2.1 (lst_old (by decide) h), fun h => F.out.2.2.2.1 (lst_old (by decide) h), fun h => F.out.2.2.2.2.1 (lst_old (by decide) h), fun h => F.out.2.2.2.2.2.1 (lst_old (by decide) h), fun h => F.out.2.2.2.2.2.2.1 (lst_old (by decide) h), fun h => F.out.2.2.2.2.2.2.2.1 (lst_old (by decide) h), fun h => F.out.2.2.2.2.2.2.2.2.1 (lst_old (by decide) h), fun _ => rfl, fun h => F.out.2.2.2.2.2.2.2.2.2.2.1 (lst_old (by decide) h), fun h => F.out.2.2.2.2.2.2.2.2.2.2.2.1 (lst_old (by decide) h), fun h => F.out.2.2.2.2.2.2.2.2.2.2.2.2.1 (lst_old (by decide) h), fun h => F.out.2.2.2.2.2.2.2.2.2.2.2.2.2.1 (lst_old (by decide) h), fun h => F.out.2.2.2.2.2.2.2.2.2.2.2.2.2.2.1 (lst_old (by decide) h), fun h => F.out.2.2.2.2.2.2.2.2.2.2.2.2.2.2.2.1 (lst_old (by decide) h), fun h => F.out.2.2.2.2.2.2.2.2.2.2.2.2.2.2.2.2.1 (lst_old (by decide) h), fun h => F.out.2.2.2.2.2.2.2.2.2.2.2.2.2.2.2.2.2.1 (lst_old (by decide) h), fun h => ⟨(F.out.2.2.2.2.2.2.2.2.2.2.2.2.2.2.2.2.2.2 (lst_old (by decide) h)).1, lst_keep (F.out.2.2.2.2.2.2.2.2.2.2.2.2.2.2.2.2.2.2 (lst_old (by decide) h)).2.1, lst_keep (F.out.2.2.2.2.2.2.2.2.2.2.2.2.2.2.2.2.2.2 (lst_old (by decide) h)).2.2.1, lst_keep (F.out.2.2.2.2.2.2.2.2.2.2.2.2.2.2.2.2.2.2 (lst_old (by decide) h)).2.2.2⟩⟩
    · clear him
      have p7 := F.out.2.2.2.2.2.2.2.1 (ready_needs hi (by kernel_rfl))
      have p9 := F.out.2.2.2.2.2.2.2.2.2.1 (ready_needs hi (by kernel_rfl))
      subst p7
      subst p9
      have HI := Lib.hid hi
      clear hi
      refine wpOp_step (o := _) rfl (fun K' hK => ?_)
      have HK := Lib.hid hK
      clear hK
      go_simp
      refine HK.out _ _ ⟨_, _, _, _, _, _, _, _, _, _, _, _, _, _, _, _, _, _, _, rfl, (hb.alloc hb.size _), fun h => F.out.1 (lst_old (by decide) h), fun h => F.out.2.1 (lst_old (by decide) h), fun h => F.out.2.2.1 (lst_old (by decide) h), fun h => F.out.2.2.2.1 (lst_old (by decide) h), fun h => Cl.below (F.out.2.2.2.2.1 (lst_old (by decide) h)) ((Below.refl _ W).alloc (Nat.le_refl _) _), fun h => own_below (F.out.2.2.2.2.2.1 (lst_old (by decide) h)) ((Below.refl _ W).alloc (Nat.le_refl _) _), fun h => F.out.2.2.2.2.2.2.1 (lst_old (by decide) h), fun h => F.out.2.2.2.2.2.2.2.1 (lst_old (by decide) h), fun h => F.out.2.2.2.2.2.2.2.2.1 (lst_old (by decide) h), fun h => F.out.2.2.2.2.2.2.2.2.2.1 (lst_old (by decide) h), fun _ => Cl.new W _ 67 2 rfl, fun h => own_below (F.out.2.2.2.2.2.2.2.2.2.2.2.1 (lst_old (by decide) h)) ((Below.refl _ W).alloc (Nat.le_refl _) _), fun h => F.out.2.2.2.2.2.2.2.2.2.2.2.2.1 (lst_old (by decide) h), fun h => F.out.2.2.2.2.2.2.2.2.2.2.2.2.2.1 (lst_old (by decide) h), fun h => F.out.2.2.2.2.2.2.2.2.2.2.2.2.2.2.1 (lst_old (by decide) h), fun h => F.out.2.2.2.2.2.2.2.2.2.2.2.2.2.2.2.1 (lst_old (by decide) h), fun h => Cl.below (F.out.2.2.2.2.2.2.2.2.2.2.2.2.2.2.2.2.1 (lst_old (by decide) h)) ((Below.refl _ W).alloc (Nat.le_refl _) _), fun h => own_below (F.out.2.2.2.2.2.2.2.2.2.2.2.2.2.2.2.2.2.1 (lst_old (by decide) h)) ((Below.refl _ W).alloc (Nat.le_refl _) _), fun h => ⟨(F.out.2.2.2.2.2.2.2.2.2.2.2.2.2.2.2.2.2.2 (lst_old (by decide) h)).1, lst_keep (F.out.2.2.2.2.2.2.2.2.2.2.2.2.2.2.2.2.2.2 (lst_old (by decide) h)).2.1, lst_keep (F.out.2.2.2.2.2.2.2.2.2.2.2.2.2.2.2.2.2.2 (lst_old (by decide) h)).2.2.1, lst_keep (F.out.2.2.2.2.2.2.2.2.2.2.2.2.2.2.2.2.2.2 (lst_old (by decide) h)).2.2.2⟩⟩
    · clear him
      have p10 := F.out.2.2.2.2.2.2.2.2.2.2.1 (ready_needs hi (by kernel_rfl))
      have P10 := Lib.hid p10
      clear p10
      have HI := Lib.hid hi
      clear hi
      refine wpOp_step (o := _) rfl (fun K' hK => ?_)
      have HK := Lib.hid hK
      clear hK
      go_simp
      refine (gl_i [(.slice k0 kn kc, ks), (.slice j0 jn jc, js)] P10.out (all2 (HKS.out.below hb) (HJ.out.below hb)) (by simp) HKJB.out KJ HKJF.out).mono ?_
      rintro r W2 ⟨x, rfl, hown, hb2⟩
      refine HK.out _ _ ⟨_, _, _, _, _, _, _, _, _, _, _, _, _, _, _, _, _, _, _, rfl, (hb.trans (hb2.mono hb.size)), fun h => F.out.1 (lst_old (by decide) h), fun h => F.out.2.1 (lst_old (by decide) h), fun h => F.out.2.2.1 (lst_old (by decide) h), fun h => F.out.2.2.2.1 (lst_old (by decide) h), fun h => Cl.below (F.out.2.2.2.2.1 (lst_old (by decide) h)) hb2, fun h => own_below (F.out.2.2.2.2.2.1 (lst_old (by decide) h)) hb2, fun h => F.out.2.2.2.2.2.2.1 (lst_old (by decide) h), fun h => F.out.2.2.2.2.2.2.2.1 (lst_old (by decide) h), fun h => F.out.2.2.2.2.2.2.2.2.1 (lst_old (by decide) h), fun h => F.out.2.2.2.2.2.2.2.2.2.1 (lst_old (by decide) h), fun h => Cl.below (F.out.2.2.2.2.2.2.2.2.2.2.1 (lst_old (by decide) h)) hb2, fun _ => own_mono (HKJN.out ▸ hown) hb.size, fun h => F.out.2.2.2.2.2.2.2.2.2.2.2.2.1 (lst_old (by decide) h), fun h => F.out.2.2.2.2.2.2.2.2.2.2.2.2.2.1 (lst_old (by decide) h), fun h => F.out.2.2.2.2.2.2.2.2.2.2.2.2.2.2.1 (lst_old (by decide) h), fun h => F.out.2.2.2.2.2.2.2.2.2.2.2.2.2.2.2.1 (lst_old (by decide) h), fun h => Cl.below (F.out.2.2.2.2.2.2.2.2.2.2.2.2.2.2.2.2.1 (lst_old (by decide) h)) hb2, fun h => own_below (F.out.2.2.2.2.2.2.2.2.2.2.2.2.2.2.2.2.2.1 (lst_old (by decide) h)) hb2, fun h => absurd (F.out.2.2.2.2.2.2.2.2.2.2.2.2.2.2.2.2.2.2 (lst_old (by decide) h)).2.2.1 (ready_not HI.out)⟩
    · clear him
      have HI := Lib.hid hi
      clear hi
      refine wpOp_step (o := _) rfl (fun K' hK => ?_)
      have HK := Lib.hid hK
      clear hK
      go_simp
      refine HK.out _ _ ⟨_, _, _, _, _, _, _, _, _, _, _, _, _, _, _, _, _, _, _, rfl, hb, fun h => F.out.1 (lst_old (by decide) h), fun h => F.out.2.1 (lst_old (by decide) h), fun h => F.out.2.2.1 (lst_old (by decide) h), fun h => F.out.2.2.2.1 (lst_old (by decide) h), fun h => F.out.2.2.2.2.1 (lst_old (by decide) h), fun h => F.out.2.2.2.2.2.1 (lst_old (by decide) h), fun h => F.out.2.2.2.2.2.2.1 (lst_old (by decide) h), fun h => F.out.2.2.2.2.2.2.2.1 (lst_old (by decide) h), fun h => F.out.2.2.2.2.2.2.2.2.1 (lst_old (by decide) h), fun h => F.out.2.2.2.2.2.2.2.2.2.1 (lst_old (by decide) h), fun h => F.out.2.2.2.2.2.2.2.2.2.2.1 (lst_old (by decide) h), fun h => F.out.2.2.2.2.2.2.2.2.2.2.2.1 (lst_old (by decide) h), fun _ => rfl, fun h => F.out.2.2.2.2.2.2.2.2.2.2.2.2.2.1 (lst_old (by decide) h), fun h => F.out.2.2.2.2.2.2.2.2.2.2.2.2.2.2.1 (lst_old (by decide) h), fun h => F.out.2.2.2.2.2.2.2.2.2.2.2.2.2.2.2.1 (lst_old (by decide) h), fun h => F.out.2.2.2.2.2.2.2.2.2.2.2.2.2.2.2.2.1 (lst_old (by decide) h), fun h => F.out.2.2.2.2.2.2.2.2.2.2.2.2.2.2.2.2.2.1 (lst_old (by decide) h), fun h => ⟨(F.out.2.2.2.2.2.2.2.2.2.2.2.2.2.2.2.2.2.2 (lst_old (by decide) h)).1, lst_keep (F.out.2.2.2.2.2.2.2.2.2.2.2.2.2.2.2.2.2.2 (lst_old (by decide) h)).2.1, lst_keep (F.out.2.2.2.2.2.2.2.2.2.2.2.2.2.2.2.2.2.2 (lst_old (by decide) h)).2.2.1, lst_keep (F.out.2.2.2.2.2.2.2.2.2.2.2.2.2.2.2.2.2.2 (lst_old (by decide) h)).2.2.2⟩⟩
    · clear him
      have p12 := F.out.2.2.2.2.2.2.2.2.2.2.2.2.1 (ready_needs hi (by kernel_rfl))
      subst p12
      obtain ⟨b0, b1, b2, b3⟩ := HX.out.below hb
      have HI := Lib.hid hi
      clear hi
      refine wpOp_step (o := _) rfl (fun K' hK => ?_)
      have HK := Lib.hid hK
      clear hK
      go_simp
      refine HK.out _ _ ⟨_, _, _, _, _, _, _, _, _, _, _, _, _, _, _, _, _, _, _, rfl, hb, fun h => F.out.1 (lst_old (by decide) h), fun h => F.out.2.1 (lst_old (by decide) h), fun h => F.out.2.2.1 (lst_old (by decide) h), fun h => F.out.2.2.2.1 (lst_old (by decide) h), fun h => F.out.2.2.2.2.1 (lst_old (by decide) h), fun h => F.out.2.2.2.2.2.1 (lst_old (by decide) h), fun h => F.out.2.2.2.2.2.2.1 (lst_old (by decide) h), fun h => F.out.2.2.2.2.2.2.2.1 (lst_old (by decide) h), fun h => F.out.2.2.2.2.2.2.2.2.1 (lst_old (by decide) h), fun h => F.out.2.2.2.2.2.2.2.2.2.1 (lst_old (by decide) h), fun h => F.out.2.2.2.2.2.2.2.2.2.2.1 (lst_old (by decide) h), fun h => F.out.2.2.2.2.2.2.2.2.2.2.2.1 (lst_old (by decide) h), fun h => F.out.2.2.2.2.2.2.2.2.2.2.2.2.1 (lst_old (by decide) h), fun _ => rfl, fun h => F.out.2.2.2.2.2.2.2.2.2.2.2.2.2.2.1 (lst_old (by decide) h), fun h => F.out.2.2.2.2.2.2.2.2.2.2.2.2.2.2.2.1 (lst_old (by decide) h), fun h => F.out.2.2.2.2.2.2.2.2.2.2.2.2.2.2.2.2.1 (lst_old (by decide) h), fun h => F.out.2.2.2.2.2.2.2.2.2.2.2.2.2.2.2.2.2.1 (lst_old (by decide) h), fun h => ⟨(F.out.2.2.2.2.2.2.2.2.2.2.2.2.2.2.2.2.2.2 (lst_old (by decide) h)).1, lst_keep (F.out.2.2.2.2.2.2.2.2.2.2.2.2.2.2.2.2.2.2 (lst_old (by decide) h)).2.1, lst_keep (F.out.2.2.2.2.2.2.2.2.2.2.2.2.2.2.2.2.2.2 (lst_old (by decide) h)).2.2.1, lst_keep (F.out.2.2.2.2.2.2.2.2.2.2.2.2.2.2.2.2.2.2 (lst_old (by decide) h)).2.2.2⟩⟩
    · clear him
      have HI := Lib.hid hi
      clear hi
      refine wpOp_step (o := _) rfl (fun K' hK => ?_)
      have HK := Lib.hid hK
      clear hK
      go_simp
      refine HK.out _ _ ⟨_, _, _, _, _, _, _, _, _, _, _, _, _, _, _, _, _, _, _, rfl, hb, fun h => F.out.1 (lst_old (by decide) h), fun h => F.out.2.1 (lst_old (by decide) h), fun h => F.out.2.2.1 (lst_old (by decide) h), fun h => F.out.2.2.2.1 (lst_old (by decide) h), fun h => F.out.2.2.2.2.1 (lst_old (by decide) h), fun h => F.out.2.2.2.2.2.1 (lst_old (by decide) h), fun h => F.out.2.2.2.2.2.2.1 (lst_old (by decide) h), fun h => F.out.2.2.2.2.2.2.2.1 (lst_old (by decide) h), fun h => F.out.2.2.2.2.2.2.2.2.1 (lst_old (by decide) h), fun h => F.out.2.2.2.2.2.2.2.2.2.1 (lst_old (by decide) h), fun h => F.out.2.2.2.2.2.2.2.2.2.2.1 (lst_old (by decide) h), fun h => F.out.2.2.2.2.2.2.2.2.2.2.2.1 (lst_old (by decide) h), fun h => F.out.2.2.2.2.2.2.2.2.2.2.2.2.1 (lst_old (by decide) h), fun h => F.out.2.2.2.2.2.2.2.2.2.2.2.2.2.1 (lst_old (by decide) h), fun _ => rfl, fun h => F.out.2.2.2.2.2.2.2.2.2.2.2.2.2.2.2.1 (lst_old (by decide) h), fun h => F.out.2.2.2.2.2.2.2.2.2.2.2.2.2.2.2.2.1 (lst_old (by decide) h), fun h => F.out.2.2.2.2.2.2.2.2.2.2.2.2.2.2.2.2.2.1 (lst_old (by decide) h), fun h => ⟨(F.out.2.2.2.2.2.2.2.2.2.2.2.2.2.2.2.2.2.2 (lst_old (by decide) h)).1, lst_keep (F.out.2.2.2.2.2.2.2.2.2.2.2.2.2.2.2.2.2.2 (lst_old (by decide) h)).2.1, lst_keep (F.out.2.2.2.2.2.2.2.2.2.2.2.2.2.2.2.2.2.2 (lst_old (by decide) h)).2.2.1, lst_keep (F.out.2.2.2.2.2.2.2.2.2.2.2.2.2.2.2.2.2.2 (lst_old (by decide) h)).2.2.2⟩⟩
    · clear him
      have p14 := F.out.2.2.2.2.2.2.2.2.2.2.2.2.2.2.1 (ready_needs hi (by kernel_rfl))
      subst p14
      obtain ⟨b0, b1, b2, b3⟩ := HY.out.below hb
      have HI := Lib.hid hi
      clear hi
      refine wpOp_step (o := _) rfl (fun K' hK => ?_)
      have HK := Lib.hid hK
      clear hK
      go_simp
      refine HK.out _ _ ⟨_, _, _, _, _, _, _, _, _, _, _, _, _, _, _, _, _, _, _, rfl, hb, fun h => F.out.1 (lst_old (by decide) h), fun h => F.out.2.1 (lst_old (by decide) h), fun h => F.out.2.2.1 (lst_old (by decide) h), fun h => F.out.2.2.2.1 (lst_old (by decide) h), fun h => F.out.2.2.2.2.1 (lst_old (by decide) h), fun h => F.out.2.2.2.2.2.1 (lst_old (by decide) h), fun h => F.out.2.2.2.2.2.2.1 (lst_old (by decide) h), fun h => F.out.2.2.2.2.2.2.2.1 (lst_old (by decide) h), fun h => F.out.2.2.2.2.2.2.2.2.1 (lst_old (by decide) h), fun h => F.out.2.2.2.2.2.2.2.2.2.1 (lst_old (by decide) h), fun h => F.out.2.2.2.2.2.2.2.2.2.2.1 (lst_old (by decide) h), fun h => F.out.2.2.2.2.2.2.2.2.2.2.2.1 (lst_old (by decide) h), fun h => F.out.2.2.2.2.2.2.2.2.2.2.2.2.1 (lst_old (by decide) h), fun h => F.out.2.2.2.2.2.2.2.2.2.2.2.2.2.1 (lst_old (by decide) h), fun h => F.out.2.2.2.2.2.2.2.2.2.2.2.2.2.2.1 (lst_old (by decide) h), fun _ => rfl, fun h => F.out.2.2.2.2.2.2.2.2.2.2.2.2.2.2.2.2.1 (lst_old (by decide) h), fun h => F.out.2.2.2.2.2.2.2.2.2.2.2.2.2.2.2.2.2.1 (lst_old (by decide) h), fun h => ⟨(F.out.2.2.2.2.2.2.2.2.2.2.2.2.2.2.2.2.2.2 (lst_old (by decide) h)).1, lst_keep (F.out.2.2.2.2.2.2.2.2.2.2.2.2.2.2.2.2.2.2 (lst_old (by decide) h)).2.1, lst_keep (F.out.2.2.2.2.2.2.2.2.2.2.2.2.2.2.2.2.2.2 (lst_old (by decide) h)).2.2.1, lst_keep (F.out.2.2.2.2.2.2.2.2.2.2.2.2.2.2.2.2.2.2 (lst_old (by decide) h)).2.2.2⟩⟩
    · clear him
      have p13 := F.out.2.2.2.2.2.2.2.2.2.2.2.2.2.1 (ready_needs hi (by kernel_rfl))
      have p15 := F.out.2.2.2.2.2.2.2.2.2.2.2.2.2.2.2.1 (ready_needs hi (by kernel_rfl))
      subst p13
      subst p15
      have HI := Lib.hid hi
      clear hi
      refine wpOp_step (o := _) rfl (fun K' hK => ?_)
      have HK := Lib.hid hK
      clear hK
      go_simp
      refine HK.out _ _ ⟨_, _, _, _, _, _, _, _, _, _, _, _, _, _, _, _, _, _, _, rfl, (hb.alloc hb.size _), fun h => F.out.1 (lst_old (by decide) h), fun h => F.out.2.1 (lst_old (by decide) h), fun h => F.out.2.2.1 (lst_old (by decide) h), fun h => F.out.2.2.2.1 (lst_old (by decide) h), fun h => Cl.below (F.out.2.2.2.2.1 (lst_old (by decide) h)) ((Below.refl _ W).alloc (Nat.le_refl _) _), fun h => own_below (F.out.2.2.2.2.2.1 (lst_old (by decide) h)) ((Below.refl _ W).alloc (Nat.le_refl _) _), fun h => F.out.2.2.2.2.2.2.1 (lst_old (by decide) h), fun h => F.out.2.2.2.2.2.2.2.1 (lst_old (by decide) h), fun h => F.out.2.2.2.2.2.2.2.2.1 (lst_old (by decide) h), fun h => F.out.2.2.2.2.2.2.2.2.2.1 (lst_old (by decide) h), fun h => Cl.below (F.out.2.2.2.2.2.2.2.2.2.2.1 (lst_old (by decide) h)) ((Below.refl _ W).alloc (Nat.le_refl _) _), fun h => own_below (F.out.2.2.2.2.2.2.2.2.2.2.2.1 (lst_old (by decide) h)) ((Below.refl _ W).alloc (Nat.le_refl _) _), fun h => F.out.2.2.2.2.2.2.2.2.2.2.2.2.1 (lst_old (by decide) h), fun h => F.out.2.2.2.2.2.2.2.2.2.2.2.2.2.1 (lst_old (by decide) h), fun h => F.out.2.2.2.2.2.2.2.2.2.2.2.2.2.2.1 (lst_old (by decide) h), fun h => F.out.2.2.2.2.2.2.2.2.2.2.2.2.2.2.2.1 (lst_old (by decide) h), fun _ => Cl.new W _ 22 2 rfl, fun h => own_below (F.out.2.2.2.2.2.2.2.2.2.2.2.2.2.2.2.2.2.1 (lst_old (by decide) h)) ((Below.refl _ W).alloc (Nat.le_refl _) _), fun h => ⟨(F.out.2.2.2.2.2.2.2.2.2.2.2.2.2.2.2.2.2.2 (lst_old (by decide) h)).1, lst_keep (F.out.2.2.2.2.2.2.2.2.2.2.2.2.2.2.2.2.2.2 (lst_old (by decide) h)).2.1, lst_keep (F.out.2.2.2.2.2.2.2.2.2.2.2.2.2.2.2.2.2.2 (lst_old (by decide) h)).2.2.1, lst_keep (F.out.2.2.2.2.2.2.2.2.2.2.2.2.2.2.2.2.2.2 (lst_old (by decide) h)).2.2.2⟩⟩
    · clear him
      have p16 := F.out.2.2.2.2.2.2.2.2.2.2.2.2.2.2.2.2.1 (ready_needs hi (by kernel_rfl))
      have P16 := Lib.hid p16
      clear p16
      have HI := Lib.hid hi
      clear hi
      refine wpOp_step (o := _) rfl (fun K' hK => ?_)
      have HK := Lib.hid hK
      clear hK
      go_simp
      refine (gl_t [(.slice s0 sn sc, ss), (.slice t0 tn tc, ts)] P16.out (all2 (HS.out.below hb) (HT.out.below hb)) (by simp) HSTB.out ST HSTF.out).mono ?_
      rintro r W2 ⟨x, rfl, hown, hb2⟩
      refine HK.out _ _ ⟨_, _, _, _, _, _, _, _, _, _, _, _, _, _, _, _, _, _, _, rfl, (hb.trans (hb2.mono hb.size)), fun h => F.out.1 (lst_old (by decide) h), fun h => F.out.2.1 (lst_old (by decide) h), fun h => F.out.2.2.1 (lst_old (by decide) h), fun h => F.out.2.2.2.1 (lst_old (by decide) h), fun h => Cl.below (F.out.2.2.2.2.1 (lst_old (by decide) h)) hb2, fun h => own_below (F.out.2.2.2.2.2.1 (lst_old (by decide) h)) hb2, fun h => F.out.2.2.2.2.2.2.1 (lst_old (by decide) h), fun h => F.out.2.2.2.2.2.2.2.1 (lst_old (by decide) h), fun h => F.out.2.2.2.2.2.2.2.2.1 (lst_old (by decide) h), fun h => F.out.2.2.2.2.2.2.2.2.2.1 (lst_old (by decide) h), fun h => Cl.below (F.out.2.2.2.2.2.2.2.2.2.2.1 (lst_old (by decide) h)) hb2, fun h => own_below (F.out.2.2.2.2.2.2.2.2.2.2.2.1 (lst_old (by decide) h)) hb2, fun h => F.out.2.2.2.2.2.2.2.2.2.2.2.2.1 (lst_old (by decide) h), fun h => F.out.2.2.2.2.2.2.2.2.2.2.2.2.2.1 (lst_old (by decide) h), fun h => F.out.2.2.2.2.2.2.2.2.2.2.2.2.2.2.1 (lst_old (by decide) h), fun h => F.out.2.2.2.2.2.2.2.2.2.2.2.2.2.2.2.1 (lst_old (by decide) h), fun h => Cl.below (F.out.2.2.2.2.2.2.2.2.2.2.2.2.2.2.2.2.1 (lst_old (by decide) h)) hb2, fun _ => own_mono (HSTN.out ▸ hown) hb.size, fun h => absurd (F.out.2.2.2.2.2.2.2.2.2.2.2.2.2.2.2.2.2.2 (lst_old (by decide) h)).2.2.2 (ready_not HI.out)⟩
    · clear him
      have p5 := F.out.2.2.2.2.2.1 (ready_needs hi (by kernel_rfl))
      have p11 := F.out.2.2.2.2.2.2.2.2.2.2.2.1 (ready_needs hi (by kernel_rfl))
      have p17 := F.out.2.2.2.2.2.2.2.2.2.2.2.2.2.2.2.2.2.1 (ready_needs hi (by kernel_rfl))
      obtain ⟨a5, c5, h5⟩ := own_slice p5
      subst h5
      have P5 := Lib.hid p5
      clear p5
      obtain ⟨a11, c11, h11⟩ := own_slice p11
      subst h11
      have P11 := Lib.hid p11
      clear p11
      obtain ⟨a17, c17, h17⟩ := own_slice p17
      subst h17
      have P17 := Lib.hid p17
      clear p17
      have HI := Lib.hid hi
      clear hi
      refine wpOp_step (o := _) rfl (fun K' hK => ?_)
      have HK := Lib.hid hK
      clear hK
      go_simp
      refine HK.out _ _ ⟨_, _, _, _, _, _, _, _, _, _, _, _, _, _, _, _, _, _, _, rfl, hb, fun h => F.out.1 (lst_old (by decide) h), fun h => F.out.2.1 (lst_old (by decide) h), fun h => F.out.2.2.1 (lst_old (by decide) h), fun h => F.out.2.2.2.1 (lst_old (by decide) h), fun h => F.out.2.2.2.2.1 (lst_old (by decide) h), fun h => F.out.2.2.2.2.2.1 (lst_old (by decide) h), fun h => F.out.2.2.2.2.2.2.1 (lst_old (by decide) h), fun h => F.out.2.2.2.2.2.2.2.1 (lst_old (by decide) h), fun h => F.out.2.2.2.2.2.2.2.2.1 (lst_old (by decide) h), fun h => F.out.2.2.2.2.2.2.2.2.2.1 (lst_old (by decide) h), fun h => F.out.2.2.2.2.2.2.2.2.2.2.1 (lst_old (by decide) h), fun h => F.out.2.2.2.2.2.2.2.2.2.2.2.1 (lst_old (by decide) h), fun h => F.out.2.2.2.2.2.2.2.2.2.2.2.2.1 (lst_old (by decide) h), fun h => F.out.2.2.2.2.2.2.2.2.2.2.2.2.2.1 (lst_old (by decide) h), fun h => F.out.2.2.2.2.2.2.2.2.2.2.2.2.2.2.1 (lst_old (by decide) h), fun h => F.out.2.2.2.2.2.2.2.2.2.2.2.2.2.2.2.1 (lst_old (by decide) h), fun h => F.out.2.2.2.2.2.2.2.2.2.2.2.2.2.2.2.2.1 (lst_old (by decide) h), fun h => F.out.2.2.2.2.2.2.2.2.2.2.2.2.2.2.2.2.2.1 (lst_old (by decide) h), fun _ => ⟨rfl, lst_keep (ready_needs HI.out (by kernel_rfl)), lst_keep (ready_needs HI.out (by kernel_rfl)), lst_keep (ready_needs HI.out (by kernel_rfl))⟩⟩
  case fin =>
    intro f a W hI
    obtain ⟨v18, v19, v20, v21, v22, v23, v24, v25, v26, v27, v28, v29, v30, v31, v32, v33, v34, v35, v36, rfl, hb, hf⟩ := hI
    have p0 := hf.1 rfl
    have p1 := hf.2.1 rfl
    have p2 := hf.2.2.1 rfl
    have p3 := hf.2.2.2.1 rfl
    have p4 := hf.2.2.2.2.1 rfl
    have p5 := hf.2.2.2.2.2.1 rfl
    have p6 := hf.2.2.2.2.2.2.1 rfl
    have p7 := hf.2.2.2.2.2.2.2.1 rfl
    have p8 := hf.2.2.2.2.2.2.2.2.1 rfl
    have p9 := hf.2.2.2.2.2.2.2.2.2.1 rfl
    have p10 := hf.2.2.2.2.2.2.2.2.2.2.1 rfl
    have p11 := hf.2.2.2.2.2.2.2.2.2.2.2.1 rfl
    have p12 := hf.2.2.2.2.2.2.2.2.2.2.2.2.1 rfl
    have p13 := hf.2.2.2.2.2.2.2.2.2.2.2.2.2.1 rfl
    have p14 := hf.2.2.2.2.2.2.2.2.2.2.2.2.2.2.1 rfl
    have p15 := hf.2.2.2.2.2.2.2.2.2.2.2.2.2.2.2.1 rfl
    have p16 := hf.2.2.2.2.2.2.2.2.2.2.2.2.2.2.2.2.1 rfl
    have p17 := hf.2.2.2.2.2.2.2.2.2.2.2.2.2.2.2.2.2.1 rfl
    have p18 := hf.2.2.2.2.2.2.2.2.2.2.2.2.2.2.2.2.2.2 rfl
    clear hf
    subst p0
    subst p1
    subst p2
    subst p3
    clear p4
    obtain ⟨a5, c5, h5⟩ := own_slice p5
    subst h5
    have P5 := Lib.hid p5
    clear p5
    subst p6
    subst p7
    subst p8
    subst p9
    clear p10
    obtain ⟨a11, c11, h11⟩ := own_slice p11
    subst h11
    have P11 := Lib.hid p11
    clear p11
    subst p12
    subst p13
    subst p14
    subst p15
    clear p16
    obtain ⟨a17, c17, h17⟩ := own_slice p17
    subst h17
    have P17 := Lib.hid p17
    clear p17
    replace p18 := p18.1
    subst p18
    refine wpAny_all (rs := [19]) (by kernel_rfl) (by simp) ?_
    intro i' hi'
    obtain rfl := List.mem_singleton.1 hi'
    obtain ⟨z0a, z0b, z0c, z0d, hz0⟩ := HZB.out.below hb
    have c00 : World.cell? (W) ⟨w.heap.size + 1 + 1, 0, none⟩ = some z0a := by rw [blk_cell hz0]; rfl
    have f00 := blk_free hz0 0
    have hz00 := blk_set hz0 0 (.bool true)
    have c01 : World.cell? (World.setCell (W) ⟨w.heap.size + 1 + 1, 0, none⟩ (.bool true)) ⟨w.heap.size + 1 + 1, 1, none⟩ = some z0b := by rw [blk_cell hz00]; rfl
    have f01 := blk_free hz00 1
    have hz01 := blk_set hz00 1 (.slice a5 efn c5)
    have c02 : World.cell? (World.setCell (World.setCell (W) ⟨w.heap.size + 1 + 1, 0, none⟩ (.bool true)) ⟨w.heap.size + 1 + 1, 1, none⟩ (.slice a5 efn c5)) ⟨w.heap.size + 1 + 1, 2, none⟩ = some z0c := by rw [blk_cell hz01]; rfl
    have f02 := blk_free hz01 2
    have hz02 := blk_set hz01 2 (.slice a11 kjn c11)
    have c03 : World.cell? (World.setCell (World.setCell (World.setCell (W) ⟨w.heap.size + 1 + 1, 0, none⟩ (.bool true)) ⟨w.heap.size + 1 + 1, 1, none⟩ (.slice a5 efn c5)) ⟨w.heap.size + 1 + 1, 2, none⟩ (.slice a11 kjn c11)) ⟨w.heap.size + 1 + 1, 3, none⟩ = some z0d := by rw [blk_cell hz02]; rfl
    have f03 := blk_free hz02 3
    have hz03 := blk_set hz02 3 (.slice a17 stn c17)
    have HZ0 := Lib.hid hz03
    clear hz0 hz00 hz01 hz02 hz03
    refine wpOp_step (o := _) rfl (fun K' hK => ?_)
    have HKK := Lib.hid hK
    clear hK
    go_simp
    refine HKK.out _ _ (wpAny_done (by kernel_rfl) ?_ _)
    have hon : Only (w.heap.size + 1 + 1) W (World.setCell (World.setCell (World.setCell (World.setCell (W) ⟨w.heap.size + 1 + 1, 0, none⟩ (.bool true)) ⟨w.heap.size + 1 + 1, 1, none⟩ (.slice a5 efn c5)) ⟨w.heap.size + 1 + 1, 2, none⟩ (.slice a11 kjn c11)) ⟨w.heap.size + 1 + 1, 3, none⟩ (.slice a17 stn c17)) := (((Only.set _ _ _).trans (Only.set _ _ _)).trans (Only.set _ _ _)).trans (Only.set _ _ _)
    obtain ⟨W4, hW4⟩ : ∃ X, World.setCell (World.setCell (World.setCell (World.setCell (W) ⟨w.heap.size + 1 + 1, 0, none⟩ (.bool true)) ⟨w.heap.size + 1 + 1, 1, none⟩ (.slice a5 efn c5)) ⟨w.heap.size + 1 + 1, 2, none⟩ (.slice a11 kjn c11)) ⟨w.heap.size + 1 + 1, 3, none⟩ (.slice a17 stn c17) = X := ⟨_, rfl⟩
    rw [hW4] at HZ0 hon ⊢
    clear hW4
    have hb4 : Below w.heap.size w W4 := (hb1.trans (hb.mono hb1.size)).trans (hon.to_below (by omega) (Nat.le_trans hb1.size hb.size))
    have hlt : w.heap.size + 1 + 1 < w1.heap.size := by rw [HZ1.out]; omega
    have O1 := own_mono (own_only' P5.out hon hlt) hb1.size
    have O2 := own_mono (own_only' P11.out hon hlt) hb1.size
    have O3 := own_mono (own_only' P17.out hon hlt) hb1.size
    rw [← HEFN.out] at O1 HZ0
    rw [← HKJN.out] at O2 HZ0
    rw [← HSTN.out] at O3 HZ0
    have HRES := Lib.hid (show NdO W4 w.heap.size (.agg #[.bool true, .slice a5 EF.length c5, .slice a11 KJ.length c11, .slice a17 ST.length c17]) ⟨true, es ++ fs, ks ++ js, ss ++ ts⟩ by rw [HEFE.out, HKJE.out, HSTE.out]; exact ⟨_, _, _, _, _, _, rfl, O1, O2, O3⟩)
    go_wp2
    refine bodyPost_ret (res_one rfl rfl (load69 (bx_blk HZ0.out))) rfl ?_
    exact ⟨_, rfl, (by first | exact HRES.out | simpa using HRES.out), hb4⟩
set_option maxRecDepth 100000 in
set_option maxHeartbeats 8000000 in
theorem join_inner (va vb : Value) (es fs : List Ent) (ks js : List Int) (ss ts : List ByteArray) (key : ByteArray) (w : World) (ha : NdV w va ⟨false, es, ks, ss⟩) (hb : NdV w vb ⟨false, fs, js, ts⟩) (hda : Bd ⟨false, es, ks, ss⟩) (hdb : Bd ⟨false, fs, js, ts⟩) :
    Calls Try.prog 59 #[va, .string key, vb] w (NMk ⟨false, es ++ fs, ks ++ js, ss ++ [key] ++ ts⟩ w) := by
  obtain ⟨c1, c2, c3, _, _⟩ := hda
  obtain ⟨d1, d2, d3, _, _⟩ := hdb
  obtain ⟨e0, ec, k0, kc, s0, sc, rfl, he, hk, hs⟩ := ha
  obtain ⟨f0, fc, j0, jc, t0, tc, rfl, hf, hj, ht⟩ := hb
  dsimp only at he hk hs hf hj ht c1 c2 c3 d1 d2 d3 ⊢
  have l1 : (es ++ fs).length ≤ 20000 := by rw [List.length_append]; omega
  have l2 : (ks ++ js).length ≤ 20000 := by rw [List.length_append]; omega
  have l3 : (ss ++ [key] ++ ts).length ≤ 20001 := by simp only [List.length_append, List.length_cons, List.length_nil]; omega
  obtain ⟨en, hen⟩ : ∃ x, es.length = x := ⟨_, rfl⟩
  obtain ⟨kn, hkn⟩ : ∃ x, ks.length = x := ⟨_, rfl⟩
  obtain ⟨sn, hsn⟩ : ∃ x, ss.length = x := ⟨_, rfl⟩
  obtain ⟨fn, hfn⟩ : ∃ x, fs.length = x := ⟨_, rfl⟩
  obtain ⟨jn, hjn⟩ : ∃ x, js.length = x := ⟨_, rfl⟩
  obtain ⟨tn, htn⟩ : ∃ x, ts.length = x := ⟨_, rfl⟩
  rw [hen] at he ⊢
  rw [hkn] at hk ⊢
  rw [hsn] at hs ⊢
  rw [hfn] at hf ⊢
  rw [hjn] at hj ⊢
  rw [htn] at ht ⊢
  clear hen hkn hsn hfn hjn htn c1 c2 c3 d1 d2 d3
  go_enter Try.func59, Try.ntmps59
  go_upto_region 1 with (fail)
  obtain ⟨wa, hwa⟩ : ∃ W, w.alloc (.cells #[.bool false, .slice e0 en ec, .slice k0 kn kc, .slice s0 sn sc] 69) = W := ⟨_, rfl⟩
  have hza : wa.heap.size = w.heap.size + 1 := by rw [← hwa]; simp
  have hx : Bx wa w.heap.size false (.slice e0 en ec) (.slice k0 kn kc) (.slice s0 sn sc) := by rw [← hwa]; exact Bx.new _ _ _ _ _ _
  have hba : Below w.heap.size w wa := by rw [← hwa]; exact (Below.refl _ w).alloc (Nat.le_refl _) _
  rw [hwa]
  clear hwa
  obtain ⟨wb, hwb⟩ : ∃ W, wa.alloc (.cells #[.bool false, .slice f0 fn fc, .slice j0 jn jc, .slice t0 tn tc] 69) = W := ⟨_, rfl⟩
  have hzb : wb.heap.size = w.heap.size + 2 := by rw [← hwb]; simp [hza]
  have hy : Bx wb (w.heap.size + 1) false (.slice f0 fn fc) (.slice j0 jn jc) (.slice t0 tn tc) := by rw [← hwb, ← hza]; exact Bx.new _ _ _ _ _ _
  have hbb : Below wa.heap.size wa wb := by rw [← hwb]; exact (Below.refl _ wa).alloc (Nat.le_refl _) _
  rw [hwb]
  clear hwb
  obtain ⟨w1, hwc⟩ : ∃ W, wb.alloc (.cells #[.bool false, .slice none 0 0, .slice none 0 0, .slice none 0 0] 69) = W := ⟨_, rfl⟩
  have hzc : w1.heap.size = w.heap.size + 3 := by rw [← hwc]; simp [hzb]
  have z1 : Zb w1 (w.heap.size + 1 + 1) 69 := by rw [← hwc, ← hzb]; exact Zb.new _ _ _ _ _ _
  have hbc : Below wb.heap.size wb w1 := by rw [← hwc]; exact (Below.refl _ wb).alloc (Nat.le_refl _) _
  rw [hwc]
  clear hwc
  have hx := (hx.below hbb).below hbc
  have hy := hy.below hbc
  have hb1 := (hba.trans (hbb.mono hba.size)).trans (hbc.mono (Nat.le_trans hba.size hbb.size))
  clear hba hbb hbc hza hzb
  have HE := Lib.hid (he.below hb1); have HKS := Lib.hid (hk.below hb1); have HS := Lib.hid (hs.below hb1)
  have HF := Lib.hid (hf.below hb1); have HJ := Lib.hid (hj.below hb1); have HT := Lib.hid (ht.below hb1)
  obtain ⟨EF, hEF⟩ : ∃ x, es ++ fs = x := ⟨_, rfl⟩
  obtain ⟨KJ, hKJ⟩ : ∃ x, ks ++ js = x := ⟨_, rfl⟩
  obtain ⟨ST, hST⟩ : ∃ x, ss ++ [key] ++ ts = x := ⟨_, rfl⟩
  rw [hEF] at l1
  rw [hKJ] at l2
  rw [hST] at l3
  have HEFE := Lib.hid hEF; have HKJE := Lib.hid hKJ; have HSTE := Lib.hid hST
  obtain ⟨efn, hefn⟩ : ∃ x, EF.length = x := ⟨_, rfl⟩
  obtain ⟨kjn, hkjn⟩ : ∃ x, KJ.length = x := ⟨_, rfl⟩
  obtain ⟨stn, hstn⟩ : ∃ x, ST.length = x := ⟨_, rfl⟩
  have HEFF := Lib.hid (show flatA [((.slice e0 en ec : Value), es), (.slice f0 fn fc, fs)] 2 = EF by rw [← hEF]; simp [flatA])
  have HKJF := Lib.hid (show flatA [((.slice k0 kn kc : Value), ks), (.slice j0 jn jc, js)] 2 = KJ by rw [← hKJ]; simp [flatA])
  have HSTF := Lib.hid (fun z : Value => show flatA [((.slice s0 sn sc : Value), ss), (z, [key]), (.slice t0 tn tc, ts)] 3 = ST by rw [← hST]; simp [flatA])
  have HEFB := Lib.hid (show (flatA [((.slice e0 en ec : Value), es), (.slice f0 fn fc, fs)] 2).length ≤ 1099511627776 by rw [HEFF.out]; omega)
  have HKJB := Lib.hid (show (flatA [((.slice k0 kn kc : Value), ks), (.slice j0 jn jc, js)] 2).length ≤ 1099511627776 by rw [HKJF.out]; omega)
  have HSTB := Lib.hid (fun z : Value => show (flatA [((.slice s0 sn sc : Value), ss), (z, [key]), (.slice t0 tn tc, ts)] 3).length ≤ 1099511627776 by rw [HSTF.out z]; omega)
  have HEFN := Lib.hid hefn; have HKJN := Lib.hid hkjn; have HSTN := Lib.hid hstn
  have HX := Lib.hid hx; have HY := Lib.hid hy; have HZB := Lib.hid z1; have HZ1 := Lib.hid hzc
  obtain ⟨x0, x1, x2, x3⟩ := hx
  obtain ⟨y0, y1, y2, y3⟩ := hy
  clear he hk hs hf hj ht hEF hKJ hST hefn hkjn hstn l1 l2 l3 z1 hzc
  go_upto_region 5 with (fail)
  clear x0 x1 x2 x3 y0 y1 y2 y3
  refine wp_region_any (by kernel_rfl) ?_
  refine wpAny_upto_f 21 (fun f L a W => ∃ v37 v38 v39 v40 v41 v42 v43 v44 v45 v46 v47 v48 v49 v50 v51 v52 v53 v54 v55 v56 v57 : Value, a = { tmps := #[f 0, .string key, f 2, .pointer (some ⟨w.heap.size, 0, none⟩), f 4, .pointer (some ⟨w.heap.size + 1, 0, none⟩), .pointer (some ⟨w.heap.size + 1 + 1, 0, none⟩), f 7, f 8, f 9, f 10, f 11, f 12, f 13, f 14, f 15, f 16, f 17, f 18, f 19, f 20, f 21, f 22, f 23, f 24, f 25, f 26, f 27, f 28, f 29, f 30, f 31, f 32, f 33, f 34, f 35, f 36, v37, v38, v39, v40, v41, v42, v43, v44, v45, v46, v47, v48, v49, v50, v51, v52, v53, v54, v55, v56, v57], defers := [] } ∧ Below w1.heap.size w1 W ∧ (Lst L 0 → v37 = .pointer (some ⟨w.heap.size, 1, none⟩)) ∧ (Lst L 1 → v38 = .slice e0 en ec) ∧ (Lst L 2 → v39 = .pointer (some ⟨w.heap.size + 1, 1, none⟩)) ∧ (Lst L 3 → v40 = .slice f0 fn fc) ∧ (Lst L 4 → Cl W v41 [.slice e0 en ec, .slice f0 fn fc]) ∧ (Lst L 5 → World.ownsRow W w1.heap.size 49 2 v42 efn (ecs EF)) ∧ (Lst L 6 → v43 = .pointer (some ⟨w.heap.size, 2, none⟩)) ∧ (Lst L 7 → v44 = .slice k0 kn kc) ∧ (Lst L 8 → v45 = .pointer (some ⟨w.heap.size + 1, 2, none⟩)) ∧ (Lst L 9 → v46 = .slice j0 jn jc) ∧ (Lst L 10 → Cl W v47 [.slice k0 kn kc, .slice j0 jn jc]) ∧ (Lst L 11 → World.ownsRow W w1.heap.size 3 1 v48 kjn (ics KJ)) ∧ (Lst L 12 → v49 = .pointer (some ⟨w.heap.size, 3, none⟩)) ∧ (Lst L 13 → v50 = .slice s0 sn sc) ∧ (Lst L 14 → v51 = .string key) ∧ (Lst L 15 → Cl W v52 [.string key]) ∧ (Lst L 16 → v53 = .pointer (some ⟨w.heap.size + 1, 3, none⟩)) ∧ (Lst L 17 → v54 = .slice t0 tn tc) ∧ (Lst L 18 → ClT W v55 (.slice s0 sn sc) (.slice t0 tn tc) key) ∧ (Lst L 19 → World.ownsRow W w1.heap.size 9 1 v56 stn (tcs ST)) ∧ (Lst L 20 → v57 = .agg #[.bool false, v42, v48, v56] ∧ Lst L 5 ∧ Lst L 11 ∧ Lst L 19)) (by decide) (by kernel_rfl) (by kernel_rfl) ?step ?fin _ _ _ _ ?ini (by simp) (fun k _ => lst_none) (by simp)
  case ini => exact ⟨_, _, _, _, _, _, _, _, _, _, _, _, _, _, _, _, _, _, _, _, _, rfl, (Below.refl _ w1).drew, fun h => absurd h lst_none, fun h => absurd h lst_none, fun h => absurd h lst_none, fun h => absurd h lst_none, fun h => absurd h lst_none, fun h => absurd h lst_none, fun h => absurd h lst_none, fun h => absurd h lst_none, fun h => absurd h lst_none, fun h => absurd h lst_none, fun h => absurd h lst_none, fun h => absurd h lst_none, fun h => absurd h lst_none, fun h => absurd h lst_none, fun h => absurd h lst_none, fun h => absurd h lst_none, fun h => absurd h lst_none, fun h => absurd h lst_none, fun h => absurd h lst_none, fun h => absurd h lst_none, fun h => absurd h lst_none⟩
  case step =>
    intro f L a W hI i him hi
    obtain ⟨v37, v38, v39, v40, v41, v42, v43, v44, v45, v46, v47, v48, v49, v50, v51, v52, v53, v54, v55, v56, v57, rfl, hb, hf⟩ := hI
    have F := Lib.hid hf
    clear hf
    rcases (show i = 0 ∨ i = 1 ∨ i = 2 ∨ i = 3 ∨ i = 4 ∨ i = 5 ∨ i = 6 ∨ i = 7 ∨ i = 8 ∨ i = 9 ∨ i = 10 ∨ i = 11 ∨ i = 12 ∨ i = 13 ∨ i = 14 ∨ i = 15 ∨ i = 16 ∨ i = 17 ∨ i = 18 ∨ i = 19 ∨ i = 20 by omega) with rfl | rfl | rfl | rfl | rfl | rfl | rfl | rfl | rfl | rfl | rfl | rfl | rfl | rfl | rfl | rfl | rfl | rfl | rfl | rfl | rfl
    · clear him
      have HI := Lib.hid hi
      clear hi
      refine wpOp_step (o := _) rfl (fun K' hK => ?_)
      have HK := Lib.hid hK
      clear hK
      go_simp
      refine HK.out _ _ ⟨_, _, _, _, _, _, _, _, _, _, _, _, _, _, _, _, _, _, _, _, _, rfl, hb, fun _ => rfl, fun h => F.out.2.1 (lst_old (by decide) h), fun h => F.out.2.2.1 (lst_old (by decide) h), fun h => F.out.2.2.2.1 (lst_old (by decide) h), fun h => F.out.2.2.2.2.1 (lst_old (by decide) h), fun h => F.out.2.2.2.2.2.1 (lst_old (by decide) h), fun h => F.out.2.2.2.2.2.2.1 (lst_old (by decide) h), fun h => F.out.2.2.2.2.2.2.2.1 (lst_old (by decide) h), fun h => F.out.2.2.2.2.2.2.2.2.1 (lst_old (by decide) h), fun h => F.out.2.2.2.2.2.2.2.2.2.1 (lst_old (by decide) h), fun h => F.out.2.2.2.2.2.2.2.2.2.2.1 (lst_old (by decide) h), fun h => F.out.2.2.2.2.2.2.2.2.2.2.2.1 (lst_old (by decide) h), fun h => F.out.2.2.2.2.2.2.2.2.2.2.2.2.1 (lst_old (by decide) h), fun h => F.out.2.2.2.2.2.2.2.2.2.2.2.2.2.1 (lst_old (by decide) h), fun h => F.out.2.2.2.2.2.2.2.2.2.2.2.2.2.2.1 (lst_old (by decide) h), fun h => F.out.2.2.2.2.2.2.2.2.2.2.2.2.2.2.2.1 (lst_old (by decide) h), fun h => F.out.2.2.2.2.2.2.2.2.2.2.2.2.2.2.2.2.1 (lst_old (by decide) h), fun h => F.out.2.2.2.2.2.2.2.2.2.2.2.2.2.2.2.2.2.1 (lst_old (by decide) h), fun h => F.out.2.2.2.2.2.2.2.2.2.2.2.2.2.2.2.2.2.2.1 (lst_old (by decide) h), fun h => F.out.2.2.2.2.2.2.2.2.2.2.2.2.2.2.2.2.2.2.2.1 (lst_old (by decide) h), fun h => ⟨(F.out.2.2.2.2.2.2.2.2.2.2.2.2.2.2.2.2.2.2.2.2 (lst_old (by decide) h)).1, lst_keep (F.out.2.2.2.2.2.2.2.2.2.2.2.2.2.2.2.2.2.2.2.2 (lst_old (by decide) h)).2.1, lst_keep (F.out.2.2.2.2.2.2.2.2.2.2.2.2.2.2.2.2.2.2.2.2 (lst_old (by decide) h)).2.2.1, lst_keep (F.out.2.2.2.2.2.2.2.2.2.2.2.2.2.2.2.2.2.2.2.2 (lst_old (by decide) h)).2.2.2⟩⟩
    · clear him
      have p0 := F.out.1 (ready_needs hi (by kernel_rfl))
      subst p0
      obtain ⟨b0, b1, b2, b3⟩ := HX.out.below hb
      have HI := Lib.hid hi
      clear hi
      refine wpOp_step (o := _) rfl (fun K' hK => ?_)
      have HK := Lib.hid hK
      clear hK
      go_simp
      refine HK.out _ _ ⟨_, _, _, _, _, _, _, _, _, _, _, _, _, _, _, _, _, _, _, _, _, rfl, hb, fun h => F.out.1 (lst_old (by decide) h), fun _ => rfl, fun h => F.out.2.2.1 (lst_old (by decide) h), fun h => F.out.2.2.2.1 (lst_old (by decide) h), fun h => F.out.2.2.2.2.1 (lst_old (by decide) h), fun h => F.out.2.2.2.2.2.1 (lst_old (by decide) h), fun h => F.out.2.2.2.2.2.2.1 (lst_old (by decide) h), fun h => F.out.2.2.2.2.2.2.2.1 (lst_old (by decide) h), fun h => F.out.2.2.2.2.2.2.2.2.1 (lst_old (by decide) h), fun h => F.out.2.2.2.2.2.2.2.2.2.1 (lst_old (by decide) h), fun h => F.out.2.2.2.2.2.2.2.2.2.2.1 (lst_old (by decide) h), fun h => F.out.2.2.2.2.2.2.2.2.2.2.2.1 (lst_old (by decide) h), fun h => F.out.2.2.2.2.2.2.2.2.2.2.2.2.1 (lst_old (by decide) h), fun h => F.out.2.2.2.2.2.2.2.2.2.2.2.2.2.1 (lst_old (by decide) h), fun h => F.out.2.2.2.2.2.2.2.2.2.2.2.2.2.2.1 (lst_old (by decide) h), fun h => F.out.2.2.2.2.2.2.2.2.2.2.2.2.2.2.2.1 (lst_old (by decide) h), fun h => F.out.2.2.2.2.2.2.2.2.2.2.2.2.2.2.2.2.1 (lst_old (by decide) h), fun h => F.out.2.2.2.2.2.2.2.2.2.2.2.2.2.2.2.2.2.1 (lst_old (by decide) h), fun h => F.out.2.2.2.2.2.2.2.2.2.2.2.2.2.2.2.2.2.2.1 (lst_old (by decide) h), fun h => F.out.2.2.2.2.2.2.2.2.2.2.2.2.2.2.2.2.2.2.2.1 (lst_old (by decide) h), fun h => ⟨(F.out.2.2.2.2.2.2.2.2.2.2.2.2.2.2.2.2.2.2.2.2 (lst_old (by decide) h)).1, lst_keep (F.out.2.2.2.2.2.2.2.2.2.2.2.2.2.2.2.2.2.2.2.2 (lst_old (by decide) h)).2.1, lst_keep (F.out.2.2.2.2.2.2.2.2.2.2.2.2.2.2.2.2.2.2.2.2 (lst_old (by decide) h)).2.2.1, lst_keep (F.out.2.2.2.2.2.2.2.2.2.2.2.2.2.2.2.2.2.2.2.2 (lst_old (by decide) h)).2.2.2⟩⟩
    · clear him
      have HI := Lib.hid hi
      clear hi
      refine wpOp_step (o := _) rfl (fun K' hK => ?_)
      have HK := Lib.hid hK
      clear hK
      go_simp
      refine HK.out _ _ ⟨_, _, _, _, _, _, _, _, _, _, _, _, _, _, _, _, _, _, _, _, _, rfl, hb, fun h => F.out.1 (lst_old (by decide) h), fun h => F.out.2.1 (lst_old (by decide) h), fun _ => rfl, fun h => F.out.2.2.2.1 (lst_old (by decide) h), fun h => F.out.2.2.2.2.1 (lst_old (by decide) h), fun h => F.out.2.2.2.2.2.1 (lst_old (by decide) h), fun h => F.out.2.2.2.2.2.2.1 (lst_old (by decide) h), fun h => F.out.2.2.2.2.2.2.2.1 (lst_old (by decide) h), fun h => F.out.2.2.2.2.2.2.2.2.1 (lst_old (by decide) h), fun h => F.out.2.2.2.2.2.2.2.2.2.1 (lst_old (by decide) h), fun h => F.out.2.2.2.2.2.2.2.2.2.2.1 (lst_old (by decide) h), fun h => F.out.2.2.2.2.2.2.2.2.2.2.2.1 (lst_old (by decide) h), fun h => F.out.2.2.2.2.2.2.2.2.2.2.2.2.1 (lst_old (by decide) h), fun h => F.out.2.2.2.2.2.2.2.2.2.2.2.2.2.1 (lst_old (by decide) h), fun h => F.out.2.2.2.2.2.2.2.2.2.2.2.2.2.2.1 (lst_old (by decide) h), fun h => F.out.2.2.2.2.2.2.2.2.2.2.2.2.2.2.2.1 (lst_old (by decide) h), fun h => F.out.2.2.2.2.2.2.2.2.2.2.2.2.2.2.2.2.1 (lst_old (by decide) h), fun h => F.out.2.2.2.2.2.2.2.2.2.2.2.2.2.2.2.2.2.1 (lst_old (by decide) h), fun h => F.out.2.2.2.2.2.2.2.2.2.2.2.2.2.2.2.2.2.2.1 (lst_old (by decide) h), fun h => F.out.2.2.2.2.2.2.2.2.2.2.2.2.2.2.2.2.2.2.2.1 (lst_old (by decide) h), fun h => ⟨(F.out.2.2.2.2.2.2.2.2.2.2.2.2.2.2.2.2.2.2.2.2 (lst_old (by decide) h)).1, lst_keep (F.out.2.2.2.2.2.2.2.2.2.2.2.2.2.2.2.2.2.2.2.2 (lst_old (by decide) h)).2.1, lst_keep (F.out.2.2.2.2.2.2.2.2.2.2.2.2.2.2.2.2.2.2.2.2 (lst_old (by decide) h)).2.2.1, lst_keep (F.out.2.2.2.2.2.2.2.2.2.2.2.2.2.2.2.2.2.2.2.2 (lst_old (by decide) h)).2.2.2⟩⟩
    · clear him
      have p2 := F.out.2.2.1 (ready_needs hi (by kernel_rfl))
      subst p2
      obtain ⟨b0, b1, b2, b3⟩ := HY.out.below hb
      have HI := Lib.hid hi
      clear hi
      refine wpOp_step (o := _) rfl (fun K' hK => ?_)
      have HK := Lib.hid hK
      clear hK
      go_simp
      refine HK.out _ _ ⟨_, _, _, _, _, _, _, _, _, _, _, _, _, _, _, _, _, _, _, _, _, rfl, hb, fun h => F.out.1 (lst_old (by decide) h), fun h => F.out.2.1 (lst_old (by decide) h), fun h => F.out.2.2.1 (lst_old (by decide) h), fun _ => rfl, fun h => F.out.2.2.2.2.1 (lst_old (by decide) h), fun h => F.out.2.2.2.2.2.1 (lst_old (by decide) h), fun h => F.out.2.2.2.2.2.2.1 (lst_old (by decide) h), fun h => F.out.2.2.2.2.2.2.2.1 (lst_old (by decide) h), fun h => F.out.2.2.2.2.2.2.2.2.1 (lst_old (by decide) h), fun h => F.out.2.2.2.2.2.2.2.2.2.1 (lst_old (by decide) h), fun h => F.out.2.2.2.2.2.2.2.2.2.2.1 (lst_old (by decide) h), fun h => F.out.2.2.2.2.2.2.2.2.2.2.2.1 (lst_old (by decide) h), fun h => F.out.2.2.2.2.2.2.2.2.2.2.2.2.1 (lst_old (by decide) h), fun h => F.out.2.2.2.2.2.2.2.2.2.2.2.2.2.1 (lst_old (by decide) h), fun h => F.out.2.2.2.2.2.2.2.2.2.2.2.2.2.2.1 (lst_old (by decide) h), fun h => F.out.2.2.2.2.2.2.2.2.2.2.2.2.2.2.2.1 (lst_old (by decide) h), fun h => F.out.2.2.2.2.2.2.2.2.2.2.2.2.2.2.2.2.1 (lst_old (by decide) h), fun h => F.out.2.2.2.2.2.2.2.2.2.2.2.2.2.2.2.2.2.1 (lst_old (by decide) h), fun h => F.out.2.2.2.2.2.2.2.2.2.2.2.2.2.2.2.2.2.2.1 (lst_old (by decide) h), fun h => F.out.2.2.2.2.2.2.2.2.2.2.2.2.2.2.2.2.2.2.2.1 (lst_old (by decide) h), fun h => ⟨(F.out.2.2.2.2.2.2.2.2.2.2.2.2.2.2.2.2.2.2.2.2 (lst_old (by decide) h)).1, lst_keep (F.out.2.2.2.2.2.2.2.2.2.2.2.2.2.2.2.2.2.2.2.2 (lst_old (by decide) h)).2.1, lst_keep (F.out.2.2.2.2.2.2.2.2.2.2.2.2.2.2.2.2.2.2.2.2 (lst_old (by decide) h)).2.2.1, lst_keep (F.out.2.2.2.2.2.2.2.2.2.2.2.2.2.2.2.2.2.2.2.2 (lst_old (by decide) h)).2.2.2⟩⟩
    · clear him
      have p1 := F.out.2.1 (ready_needs hi (by kernel_rfl))
      have p3 := F.out.2.2.2.1 (ready_needs hi (by kernel_rfl))
      subst p1
      subst p3
      have HI := Lib.hid hi
      clear hi
      refine wpOp_step (o := _) rfl (fun K' hK => ?_)
      have HK := Lib.hid hK
      clear hK
      go_simp
      refine HK.out _ _ ⟨_, _, _, _, _, _, _, _, _, _, _, _, _, _, _, _, _, _, _, _, _, rfl, (hb.alloc hb.size _), fun h => F.out.1 (lst_old (by decide) h), fun h => F.out.2.1 (lst_old (by decide) h), fun h => F.out.2.2.1 (lst_old (by decide) h), fun h => F.out.2.2.2.1 (lst_old (by decide) h), fun _ => Cl.new W _ 43 2 rfl, fun h => own_below (F.out.2.2.2.2.2.1 (lst_old (by decide) h)) ((Below.refl _ W).alloc (Nat.le_refl _) _), fun h => F.out.2.2.2.2.2.2.1 (lst_old (by decide) h), fun h => F.out.2.2.2.2.2.2.2.1 (lst_old (by decide) h), fun h => F.out.2.2.2.2.2.2.2.2.1 (lst_old (by decide) h), fun h => F.out.2.2.2.2.2.2.2.2.2.1 (lst_old (by decide) h), fun h => Cl.below (F.out.2.2.2.2.2.2.2.2.2.2.1 (lst_old (by decide) h)) ((Below.refl _ W).alloc (Nat.le_refl _) _), fun h => own_below (F.out.2.2.2.2.2.2.2.2.2.2.2.1 (lst_old (by decide) h)) ((Below.refl _ W).alloc (Nat.le_refl _) _), fun h => F.out.2.2.2.2.2.2.2.2.2.2.2.2.1 (lst_old (by decide) h), fun h => F.out.2.2.2.2.2.2.2.2.2.2.2.2.2.1 (lst_old (by decide) h), fun h => F.out.2.2.2.2.2.2.2.2.2.2.2.2.2.2.1 (lst_old (by decide) h), fun h => Cl.below (F.out.2.2.2.2.2.2.2.2.2.2.2.2.2.2.2.1 (lst_old (by decide) h)) ((Below.refl _ W).alloc (Nat.le_refl _) _), fun h => F.out.2.2.2.2.2.2.2.2.2.2.2.2.2.2.2.2.1 (lst_old (by decide) h), fun h => F.out.2.2.2.2.2.2.2.2.2.2.2.2.2.2.2.2.2.1 (lst_old (by decide) h), fun h => ClT.below (F.out.2.2.2.2.2.2.2.2.2.2.2.2.2.2.2.2.2.2.1 (lst_old (by decide) h)) ((Below.refl _ W).alloc (Nat.le_refl _) _), fun h => own_below (F.out.2.2.2.2.2.2.2.2.2.2.2.2.2.2.2.2.2.2.2.1 (lst_old (by decide) h)) ((Below.refl _ W).alloc (Nat.le_refl _) _), fun h => ⟨(F.out.2.2.2.2.2.2.2.2.2.2.2.2.2.2.2.2.2.2.2.2 (lst_old (by decide) h)).1, lst_keep (F.out.2.2.2.2.2.2.2.2.2.2.2.2.2.2.2.2.2.2.2.2 (lst_old (by decide) h)).2.1, lst_keep (F.out.2.2.2.2.2.2.2.2.2.2.2.2.2.2.2.2.2.2.2.2 (lst_old (by decide) h)).2.2.1, lst_keep (F.out.2.2.2.2.2.2.2.2.2.2.2.2.2.2.2.2.2.2.2.2 (lst_old (by decide) h)).2.2.2⟩⟩
    · clear him
      have p4 := F.out.2.2.2.2.1 (ready_needs hi (by kernel_rfl))
      have P4 := Lib.hid p4
      clear p4
      have HI := Lib.hid hi
      clear hi
      refine wpOp_step (o := _) rfl (fun K' hK => ?_)
      have HK := Lib.hid hK
      clear hK
      go_simp
      refine (gl_e [(.slice e0 en ec, es), (.slice f0 fn fc, fs)] P4.out (all2 (HE.out.below hb) (HF.out.below hb)) (by simp) HEFB.out EF HEFF.out).mono ?_
      rintro r W2 ⟨x, rfl, hown, hb2⟩
      refine HK.out _ _ ⟨_, _, _, _, _, _, _, _, _, _, _, _, _, _, _, _, _, _, _, _, _, rfl, (hb.trans (hb2.mono hb.size)), fun h => F.out.1 (lst_old (by decide) h), fun h => F.out.2.1 (lst_old (by decide) h), fun h => F.out.2.2.1 (lst_old (by decide) h), fun h => F.out.2.2.2.1 (lst_old (by decide) h), fun h => Cl.below (F.out.2.2.2.2.1 (lst_old (by decide) h)) hb2, fun _ => own_mono (HEFN.out ▸ hown) hb.size, fun h => F.out.2.2.2.2.2.2.1 (lst_old (by decide) h), fun h => F.out.2.2.2.2.2.2.2.1 (lst_old (by decide) h), fun h => F.out.2.2.2.2.2.2.2.2.1 (lst_old (by decide) h), fun h => F.out.2.2.2.2.2.2.2.2.2.1 (lst_old (by decide) h), fun h => Cl.below (F.out.2.2.2.2.2.2.2.2.2.2.1 (lst_old (by decide) h)) hb2, fun h => own_below (F.out.2.2.2.2.2.2.2.2.2.2.2.1 (lst_old (by decide) h)) hb2, fun h => F.out.2.2.2.2.2.2.2.2.2.2.2.2.1 (lst_old (by decide) h), fun h => F.out.2.2.2.2.2.2.2.2.2.2.2.2.2.1 (lst_old (by decide) h), fun h => F.out.2.2.2.2.2.2.2.2.2.2.2.2.2.2.1 (lst_old (by decide) h), fun h => Cl.below (F.out.2.2.2.2.2.2.2.2.2.2.2.2.2.2.2.1 (lst_old (by decide) h)) hb2, fun h => F.out.2.2.2.2.2.2.2.2.2.2.2.2.2.2.2.2.1 (lst_old (by decide) h), fun h => F.out.2.2.2.2.2.2.2.2.2.2.2.2.2.2.2.2.2.1 (lst_old (by decide) h), fun h => ClT.below (F.out.2.2.2.2.2.2.2.2.2.2.2.2.2.2.2.2.2.2.1 (lst_old (by decide) h)) hb2, fun h => own_below (F.out.2.2.2.2.2.2.2.2.2.2.2.2.2.2.2.2.2.2.2.1 (lst_old (by decide) h)) hb2, fun h => absurd (F.out.2.2.2.2.2.2.2.2.2.2.2.2.2.2.2.2.2.2.2.2 (lst_old (by decide) h)).2.1 (ready_not HI.out)⟩
    · clear him
      have HI := Lib.hid hi
      clear hi
      refine wpOp_step (o := _) rfl (fun K' hK => ?_)
      have HK := Lib.hid hK
      clear hK
      go_simp
      refine HK.out _ _ ⟨_, _, _, _, _, _, _, _, _, _, _, _, _, _, _, _, _, _, _, _, _, rfl, hb, fun h => F.out.1 (lst_old (by decide) h), fun h => F.out.2.1 (lst_old (by decide) h), fun h => F.out.2.2.1 (lst_old (by decide) h), fun h => F.out.2.2.2.1 (lst_old (by decide) h), fun h => F.out.2.2.2.2.1 (lst_old (by decide) h), fun h => F.out.2.2.2.2.2.1 (lst_old (by decide) h), fun _ => rfl, fun h => F.out.2.2.2.2.2.2.2.1 (lst_old (by decide) h), fun h => F.out.2.2.2.2.2.2.2.2.1 (lst_old (by decide) h), fun h => F.out.2.2.2.2.2.2.2.2.2.1 (lst_old (by decide) h), fun h => F.out.2.2.2.2.2.2.2.2.2.2.1 (lst_old (by decide) h), fun h => F.out.2.2.2.2.2.2.2.2.2.2.2.1 (lst_old (by decide) h), fun h => F.out.2.2.2.2.2.2.2.2.2.2.2.2.1 (lst_old (by decide) h), fun h => F.out.2.2.2.2.2.2.2.2.2.2.2.2.2.1 (lst_old (by decide) h), fun h => F.out.2.2.2.2.2.2.2.2.2.2.2.2.2.2.1 (lst_old (by decide) h), fun h => F.out.2.2.2.2.2.2.2.2.2.2.2.2.2.2.2.1 (lst_old (by decide) h), fun h => F.out.2.2.2.2.2.2.2.2.2.2.2.2.2.2.2.2.1 (lst_old (by decide) h), fun h => F.out.2.2.2.2.2.2.2.2.2.2.2.2.2.2.2.2.2.1 (lst_old (by decide) h), fun h => F.out.2.2.2.2.2.2.2.2.2.2.2.2.2.2.2.2.2.2.1 (lst_old (by decide) h), fun h => F.out.2.2.2.2.2.2.2.2.2.2.2.2.2.2.2.2.2.2.2.1 (lst_old (by decide) h), fun h => ⟨(F.out.2.2.2.2.2.2.2.2.2.2.2.2.2.2.2.2.2.2.2.2 (lst_old (by decide) h)).1, lst_keep (F.out.2.2.2.2.2.2.2.2.2.2.2.2.2.2.2.2.2.2.2.2 (lst_old (by decide) h)).2.1, lst_keep (F.out.2.2.2.2.2.2.2.2.2.2.2.2.2.2.2.2.2.2.2.2 (lst_old (by decide) h)).2.2.1, lst_keep (F.out.2.2.2.2.2.2.2.2.2.2.2.2.2.2.2.2.2.2.2.2 (lst_old (by decide) h)).2.2.2⟩⟩
    · clear him
      have p6 := F.out.2.2.2.2.2.2.1 (ready_needs hi (by kernel_rfl))
      subst p6
      obtain ⟨b0, b1, b2, b3⟩ := HX.out.below hb
      have HI := Lib.hid hi
      clear hi
      refine wpOp_step (o := _) rfl (fun K' hK => ?_)
      have HK := Lib.hid hK
      clear hK
      go_simp
      refine HK.out _ _ ⟨_, _, _, _, _, _, _, _, _, _, _, _, _, _, _, _, _, _, _, _, _, rfl, hb, fun h => F.out.1 (lst_old (by decide) h), fun h => F.out.2.1 (lst_old (by decide) h), fun h => F.out.2.2.1 (lst_old (by decide) h), fun h => F.out.2.2.2.1 (lst_old (by decide) h), fun h => F.out.2.2.2.2.1 (lst_old (by decide) h), fun h => F.out.2.2.2.2.2.1 (lst_old (by decide) h), fun h => F.out.2.2.2.2.2.2.1 (lst_old (by decide) h), fun _ => rfl, fun h => F.out.2.2.2.2.2.2.2.2.1 (lst_old (by decide) h), fun h => F.out.2.2.2.2.2.2.2.2.2.1 (lst_old (by decide) h), fun h => F.out.2.2.2.2.2.2.2.2.2.2.1 (lst_old (by decide) h), fun h => F.out.2.2.2.2.2.2.2.2.2.2.2.1 (lst_old (by decide) h), fun h => F.out.2.2.2.2.2.2.2.2.2.2.2.2.1 (lst_old (by decide) h), fun h => F.out.2.2.2.2.2.2.2.2.2.2.2.2.2.1 (lst_old (by decide) h), fun h => F.out.2.2.2.2.2.2.2.2.2.2.2.2.2.2.1 (lst_old (by decide) h), fun h => F.out.2.2.2.2.2.2.2.2.2.2.2.2.2.2.2.1 (lst_old (by decide) h), fun h => F.out.2.2.2.2.2.2.2.2.2.2.2.2.2.2.2.2.1 (lst_old (by decide) h), fun h => F.out.2.2.2.2.2.2.2.2.2.2.2.2.2.2.2.2.2.1 (lst_old (by decide) h), fun h => F.out.2.2.2.2.2.2.2.2.2.2.2.2.2.2.2.2.2.2.1 (lst_old (by decide) h), fun h => F.out.2.2.2.2.2.2.2.2.2.2.2.2.2.2.2.2.2.2.2.1 (lst_old (by decide) h), fun h => ⟨(F.out.2.2.2.2.2.2.2.2.2.2.2.2.2.2.2.2.2.2.2.2 (lst_old (by decide) h)).1, lst_keep (F.out.2.2.2.2.2.2.2.2.2.2.2.2.2.2.2.2.2.2.2.2 (lst_old (by decide) h)).2.1, lst_keep (F.out.2.2.2.2.2.2.2.2.2.2.2.2.2.2.2.2.2.2.2.2 (lst_old (by decide) h)).2.2.1, lst_keep (F.out.2.2.2.2.2.2.2.2.2.2.2.2.2.2.2.2.2.2.2.2 (lst_old (by decide) h)).2.2.2⟩⟩
    · clear him
      have HI := Lib.hid hi
      clear hi
      refine wpOp_step (o := _) rfl (fun K' hK => ?_)
      have HK := Lib.hid hK
      clear hK
      go_simp
      refine HK.out _ _ ⟨_, _, _, _, _, _, _, _, _, _, _, _, _, _, _, _, _, _, _, _, _, rfl, hb, fun h => F.out.1 (lst_old (by decide) h), fun h => F.out.2.1 (lst_old (by decide) h), fun h => F.out.2.2.1 (lst_old (by decide) h), fun h => F.out.2.2.2.1 (lst_old (by decide) h), fun h => F.out.2.2.2.2.1 (lst_old (by decide) h), fun h => F.out.2.2.2.2.2.1 (lst_old (by decide) h), fun h => F.out.2.2.2.2.2.2.1 (lst_old (by decide) h), fun h => F.out.2.2.2.2.2.2.2.1 (lst_old (by decide) h), fun _ => rfl, fun h => F.out.2.2.2.2.2.2.2.2.2.1 (lst_old (by decide) h), fun h => F.out.2.2.2.2.2.2.2.2.2.2.1 (lst_old (by decide) h), fun h => F.out.2.2.2.2.2.2.2.2.2.2.2.1 (lst_old (by decide) h), fun h => F.out.2.2.2.2.2.2.2.2.2.2.2.2.1 (lst_old (by decide) h), fun h => F.out.2.2.2.2.2.2.2.2.2.2.2.2.2.1 (lst_old (by decide) h), fun h => F.out.2.2.2.2.2.2.2.2.2.2.2.2.2.2.1 (lst_old (by decide) h), fun h => F.out.2.2.2.2.2.2.2.2.2.2.2.2.2.2.2.1 (lst_old (by decide) h), fun h => F.out.2.2.2.2.2.2.2.2.2.2.2.2.2.2.2.2.1 (lst_old (by decide) h), fun h => F.out.2.2.2.2.2.2.2.2.2.2.2.2.2.2.2.2.2.1 (lst_old (by decide) h), fun h => F.out.2.2.2.2.2.2.2.2.2.2.2.2.2.2.2.2.2.2.1 (lst_old (by decide) h), fun h => F.out.2.2.2.2.2.2.2.2.2.2.2.2.2.2.2.2.2.2.2.1 (lst_old (by decide) h), fun h => ⟨(F.out.2.2.2.2.2.2.2.2.2.2.2.2.2.2.2.2.2.2.2.2 (lst_old (by decide) h)).1, lst_keep (F.out.2.2.2.2.2.2.2.2.2.2.2.2.2.2.2.2.2.2.2.2 (lst_old (by decide) h)).2.1, lst_keep (F.out.2.2.2.2.2.2.2.2.2.2.2.2.2.2.2.2.2.2.2.2 (lst_old (by decide) h)).2.2.1, lst_keep (F.out.2.2.2.2.2.2.2.2.2.2.2.2.2.2.2.2.2.2.2.2 (lst_old (by decide) h)).2.2.2⟩⟩
    · clear him
      have p8 := F.out.2.2.2.2.2.2.2.2.1 (ready_needs hi (by kernel_rfl))
      subst p8
      obtain ⟨b0, b1, b2, b3⟩ := HY.out.below hb
      have HI := Lib.hid hi
      clear hi
      refine wpOp_step (o := _) rfl (fun K' hK => ?_)
      have HK := Lib.hid hK
      clear hK
      go_simp
      refine HK.out _ _ ⟨_, _, _, _, _, _, _, _, _, _, _, _, _, _, _, _, _, _, _, _, _, rfl, hb, fun h => F.out.1 (lst_old (by decide) h), fun h => F.out.2.1 (lst_old (by decide) h), fun h => F.out.2.2.1 (lst_old (by decide) h), fun h => F.out.2.2.2.1 (lst_old (by decide) h), fun h => F.out.2.2.2.2.1 (lst_old (by decide) h), fun h => F.out.2.2.2.2.2.1 (lst_old (by decide) h), fun h => F.out.2.2.2.2.2.2.1 (lst_old (by decide) h), fun h => F.out.2.2.2.2.2.2.2.1 (lst_old (by decide) h), fun h => F.out.2.2.2.2.2.2.2.2.1 (lst_old (by decide) h), fun _ => rfl, fun h => F.out.2.2.2.2.2.2.2.2.2.2.1 (lst_old (by decide) h), fun h => F.out.2.2.2.2.2.2.2.2.2.2.2.1 (lst_old (by decide) h), fun h => F.out.2.2.2.2.2.2.2.2.2.2.2.2.1 (lst_old (by decide) h), fun h => F.out.2.2.2.2.2.2.2.2.2.2.2.2.2.1 (lst_old (by decide) h), fun h => F.out.2.2.2.2.2.2.2.2.2.2.2.2.2.2.1 (lst_old (by decide) h), fun h => F.out.2.2.2.2.2.2.2.2.2.2.2.2.2.2.2.1 (lst_old (by decide) h), fun h => F.out.2.2.2.2.2.2.2.2.2.2.2.2.2.2.2.2.1 (lst_old (by decide) h), fun h => F.out.2.2.2.2.2.2.2.2.2.2.2.2.2.2.2.2.2.1 (lst_old (by decide) h), fun h => F.out.2.2.2.2.2.2.2.2.2.2.2.2.2.2.2.2.2.2.1 (lst_old (by decide) h), fun h => F.out.2.2.2.2.2.2.2.2.2.2.2.2.2.2.2.2.2.2.2.1 (lst_old (by decide) h), fun h => ⟨(F.out.2.2.2.2.2.2.2.2.2.2.2.2.2.2.2.2.2.2.2.2 (lst_old (by decide) h)).1, lst_keep (F.out.2.2.2.2.2.2.2.2.2.2.2.2.2.2.2.2.2.2.2.2 (lst_old (by decide) h)).2.1, lst_keep (F.out.2.2.2.2.2.2.2.2.2.2.2.2.2.2.2.2.2.2.2.2 (lst_old (by decide) h)).2.2.1, lst_keep (F.out.2.2.2.2.2.2.2.2.2.2.2.2.2.2.2.2.2.2.2.2 (lst_old (by decide) h)).2.2.2⟩⟩
    · clear him
      have p7 := F.out.2.2.2.2.2.2.2.1 (ready_needs hi (by kernel_rfl))
      have p9 := F.out.2.2.2.2.2.2.2.2.2.1 (ready_needs hi (by kernel_rfl))
      subst p7
      subst p9
      have HI := Lib.hid hi
      clear hi
      refine wpOp_step (o := _) rfl (fun K' hK => ?_)
      have HK := Lib.hid hK
      clear hK
      go_simp
      refine HK.out _ _ ⟨_, _, _, _, _, _, _, _, _, _, _, _, _, _, _, _, _, _, _, _, _, rfl, (hb.alloc hb.size _), fun h => F.out.1 (lst_old (by decide) h), fun h => F.out.2.1 (lst_old (by decide) h), fun h => F.out.2.2.1 (lst_old (by decide) h), fun h => F.out.2.2.2.1 (lst_old (by decide) h), fun h => Cl.below (F.out.2.2.2.2.1 (lst_old (by decide) h)) ((Below.refl _ W).alloc (Nat.le_refl _) _), fun h => own_below (F.out.2.2.2.2.2.1 (lst_old (by decide) h)) ((Below.refl _ W).alloc (Nat.le_refl _) _), fun h => F.out.2.2.2.2.2.2.1 (lst_old (by decide) h), fun h => F.out.2.2.2.2.2.2.2.1 (lst_old (by decide) h), fun h => F.out.2.2.2.2.2.2.2.2.1 (lst_old (by decide) h), fun h => F.out.2.2.2.2.2.2.2.2.2.1 (lst_old (by decide) h), fun _ => Cl.new W _ 67 2 rfl, fun h => own_below (F.out.2.2.2.2.2.2.2.2.2.2.2.1 (lst_old (by decide) h)) ((Below.refl _ W).alloc (Nat.le_refl _) _), fun h => F.out.2.2.2.2.2.2.2.2.2.2.2.2.1 (lst_old (by decide) h), fun h => F.out.2.2.2.2.2.2.2.2.2.2.2.2.2.1 (lst_old (by decide) h), fun h => F.out.2.2.2.2.2.2.2.2.2.2.2.2.2.2.1 (lst_old (by decide) h), fun h => Cl.below (F.out.2.2.2.2.2.2.2.2.2.2.2.2.2.2.2.1 (lst_old (by decide) h)) ((Below.refl _ W).alloc (Nat.le_refl _) _), fun h => F.out.2.2.2.2.2.2.2.2.2.2.2.2.2.2.2.2.1 (lst_old (by decide) h), fun h => F.out.2.2.2.2.2.2.2.2.2.2.2.2.2.2.2.2.2.1 (lst_old (by decide) h), fun h => ClT.below (F.out.2.2.2.2.2.2.2.2.2.2.2.2.2.2.2.2.2.2.1 (lst_old (by decide) h)) ((Below.refl _ W).alloc (Nat.le_refl _) _), fun h => own_below (F.out.2.2.2.2.2.2.2.2.2.2.2.2.2.2.2.2.2.2.2.1 (lst_old (by decide) h)) ((Below.refl _ W).alloc (Nat.le_refl _) _), fun h => ⟨(F.out.2.2.2.2.2.2.2.2.2.2.2.2.2.2.2.2.2.2.2.2 (lst_old (by decide) h)).1, lst_keep (F.out.2.2.2.2.2.2.2.2.2.2.2.2.2.2.2.2.2.2.2.2 (lst_old (by decide) h)).2.1, lst_keep (F.out.2.2.2.2.2.2.2.2.2.2.2.2.2.2.2.2.2.2.2.2 (lst_old (by decide) h)).2.2.1, lst_keep (F.out.2.2.2.2.2.2.2.2.2.2.2.2.2.2.2.2.2.2.2.2 (lst_old (by decide) h)).2.2.2⟩⟩
    · clear him
      have p10 := F.out.2.2.2.2.2.2.2.2.2.2.1 (ready_needs hi (by kernel_rfl))
      have P10 := Lib.hid p10
      clear p10
      have HI := Lib.hid hi
      clear hi
      refine wpOp_step (o := _) rfl (fun K' hK => ?_)
      have HK := Lib.hid hK
      clear hK
      go_simp
      refine (gl_i [(.slice k0 kn kc, ks), (.slice j0 jn jc, js)] P10.out (all2 (HKS.out.below hb) (HJ.out.below hb)) (by simp) HKJB.out KJ HKJF.out).mono ?_
      rintro r W2 ⟨x, rfl, hown, hb2⟩
      refine HK.out _ _ ⟨_, _, _, _, _, _, _, _, _, _, _, _, _, _, _, _, _, _, _, _, _, rfl, (hb.trans (hb2.mono hb.size)), fun h => F.out.1 (lst_old (by decide) h), fun h => F.out.2.1 (lst_old (by decide) h), fun h => F.out.2.2.1 (lst_old (by decide) h), fun h => F.out.2.2.2.1 (lst_old (by decide) h), fun h => Cl.below (F.out.2.2.2.2.1 (lst_old (by decide) h)) hb2, fun h => own_below (F.out.2.2.2.2.2.1 (lst_old (by decide) h)) hb2, fun h => F.out.2.2.2.2.2.2.1 (lst_old (by decide) h), fun h => F.out.2.2.2.2.2.2.2.1 (lst_old (by decide) h), fun h => F.out.2.2.2.2.2.2.2.2.1 (lst_old (by decide) h), fun h => F.out.2.2.2.2.2.2.2.2.2.1 (lst_old (by decide) h), fun h => Cl.below (F.out.2.2.2.2.2.2.2.2.2.2.1 (lst_old (by decide) h)) hb2, fun _ => own_mono (HKJN.out ▸ hown) hb.size, fun h => F.out.2.2.2.2.2.2.2.2.2.2.2.2.1 (lst_old (by decide) h), fun h => F.out.2.2.2.2.2.2.2.2.2.2.2.2.2.1 (lst_old (by decide) h), fun h => F.out.2.2.2.2.2.2.2.2.2.2.2.2.2.2.1 (lst_old (by decide) h), fun h => Cl.below (F.out.2.2.2.2.2.2.2.2.2.2.2.2.2.2.2.1 (lst_old (by decide) h)) hb2, fun h => F.out.2.2.2.2.2.2.2.2.2.2.2.2.2.2.2.2.1 (lst_old (by decide) h), fun h => F.out.2.2.2.2.2.2.2.2.2.2.2.2.2.2.2.2.2.1 (lst_old (by decide) h), fun h => ClT.below (F.out.2.2.2.2.2.2.2.2.2.2.2.2.2.2.2.2.2.2.1 (lst_old (by decide) h)) hb2, fun h => own_below (F.out.2.2.2.2.2.2.2.2.2.2.2.2.2.2.2.2.2.2.2.1 (lst_old (by decide) h)) hb2, fun h => absurd (F.out.2.2.2.2.2.2.2.2.2.2.2.2.2.2.2.2.2.2.2.2 (lst_old (by decide) h)).2.2.1 (ready_not HI.out)⟩
    · clear him
      have HI := Lib.hid hi
      clear hi
      refine wpOp_step (o := _) rfl (fun K' hK => ?_)
      have HK := Lib.hid hK
      clear hK
      go_simp
      refine HK.out _ _ ⟨_, _, _, _, _, _, _, _, _, _, _, _, _, _, _, _, _, _, _, _, _, rfl, hb, fun h => F.out.1 (lst_old (by decide) h), fun h => F.out.2.1 (lst_old (by decide) h), fun h => F.out.2.2.1 (lst_old (by decide) h), fun h => F.out.2.2.2.1 (lst_old (by decide) h), fun h => F.out.2.2.2.2.1 (lst_old (by decide) h), fun h => F.out.2.2.2.2.2.1 (lst_old (by decide) h), fun h => F.out.2.2.2.2.2.2.1 (lst_old (by decide) h), fun h => F.out.2.2.2.2.2.2.2.1 (lst_old (by decide) h), fun h => F.out.2.2.2.2.2.2.2.2.1 (lst_old (by decide) h), fun h => F.out.2.2.2.2.2.2.2.2.2.1 (lst_old (by decide) h), fun h => F.out.2.2.2.2.2.2.2.2.2.2.1 (lst_old (by decide) h), fun h => F.out.2.2.2.2.2.2.2.2.2.2.2.1 (lst_old (by decide) h), fun _ => rfl, fun h => F.out.2.2.2.2.2.2.2.2.2.2.2.2.2.1 (lst_old (by decide) h), fun h => F.out.2.2.2.2.2.2.2.2.2.2.2.2.2.2.1 (lst_old (by decide) h), fun h => F.out.2.2.2.2.2.2.2.2.2.2.2.2.2.2.2.1 (lst_old (by decide) h), fun h => F.out.2.2.2.2.2.2.2.2.2.2.2.2.2.2.2.2.1 (lst_old (by decide) h), fun h => F.out.2.2.2.2.2.2.2.2.2.2.2.2.2.2.2.2.2.1 (lst_old (by decide) h), fun h => F.out.2.2.2.2.2.2.2.2.2.2.2.2.2.2.2.2.2.2.1 (lst_old (by decide) h), fun h => F.out.2.2.2.2.2.2.2.2.2.2.2.2.2.2.2.2.2.2.2.1 (lst_old (by decide) h), fun h => ⟨(F.out.2.2.2.2.2.2.2.2.2.2.2.2.2.2.2.2.2.2.2.2 (lst_old (by decide) h)).1, lst_keep (F.out.2.2.2.2.2.2.2.2.2.2.2.2.2.2.2.2.2.2.2.2 (lst_old (by decide) h)).2.1, lst_keep (F.out.2.2.2.2.2.2.2.2.2.2.2.2.2.2.2.2.2.2.2.2 (lst_old (by decide) h)).2.2.1, lst_keep (F.out.2.2.2.2.2.2.2.2.2.2.2.2.2.2.2.2.2.2.2.2 (lst_old (by decide) h)).2.2.2⟩⟩
    · clear him
      have p12 := F.out.2.2.2.2.2.2.2.2.2.2.2.2.1 (ready_needs hi (by kernel_rfl))
      subst p12
      obtain ⟨b0, b1, b2, b3⟩ := HX.out.below hb
      have HI := Lib.hid hi
      clear hi
      refine wpOp_step (o := _) rfl (fun K' hK => ?_)
      have HK := Lib.hid hK
      clear hK
      go_simp
      refine HK.out _ _ ⟨_, _, _, _, _, _, _, _, _, _, _, _, _, _, _, _, _, _, _, _, _, rfl, hb, fun h => F.out.1 (lst_old (by decide) h), fun h => F.out.2.1 (lst_old (by decide) h), fun h => F.out.2.2.1 (lst_old (by decide) h), fun h => F.out.2.2.2.1 (lst_old (by decide) h), fun h => F.out.2.2.2.2.1 (lst_old (by decide) h), fun h => F.out.2.2.2.2.2.1 (lst_old (by decide) h), fun h => F.out.2.2.2.2.2.2.1 (lst_old (by decide) h), fun h => F.out.2.2.2.2.2.2.2.1 (lst_old (by decide) h), fun h => F.out.2.2.2.2.2.2.2.2.1 (lst_old (by decide) h), fun h => F.out.2.2.2.2.2.2.2.2.2.1 (lst_old (by decide) h), fun h => F.out.2.2.2.2.2.2.2.2.2.2.1 (lst_old (by decide) h), fun h => F.out.2.2.2.2.2.2.2.2.2.2.2.1 (lst_old (by decide) h), fun h => F.out.2.2.2.2.2.2.2.2.2.2.2.2.1 (lst_old (by decide) h), fun _ => rfl, fun h => F.out.2.2.2.2.2.2.2.2.2.2.2.2.2.2.1 (lst_old (by decide) h), fun h => F.out.2.2.2.2.2.2.2.2.2.2.2.2.2.2.2.1 (lst_old (by decide) h), fun h => F.out.2.2.2.2.2.2.2.2.2.2.2.2.2.2.2.2.1 (lst_old (by decide) h), fun h => F.out.2.2.2.2.2.2.2.2.2.2.2.2.2.2.2.2.2.1 (lst_old (by decide) h), fun h => F.out.2.2.2.2.2.2.2.2.2.2.2.2.2.2.2.2.2.2.1 (lst_old (by decide) h), fun h => F.out.2.2.2.2.2.2.2.2.2.2.2.2.2.2.2.2.2.2.2.1 (lst_old (by decide) h), fun h => ⟨(F.out.2.2.2.2.2.2.2.2.2.2.2.2.2.2.2.2.2.2.2.2 (lst_old (by decide) h)).1, lst_keep (F.out.2.2.2.2.2.2.2.2.2.2.2.2.2.2.2.2.2.2.2.2 (lst_old (by decide) h)).2.1, lst_keep (F.out.2.2.2.2.2.2.2.2.2.2.2.2.2.2.2.2.2.2.2.2 (lst_old (by decide) h)).2.2.1, lst_keep (F.out.2.2.2.2.2.2.2.2.2.2.2.2.2.2.2.2.2.2.2.2 (lst_old (by decide) h)).2.2.2⟩⟩
    · clear him
      have HI := Lib.hid hi
      clear hi
      refine wpOp_step (o := _) rfl (fun K' hK => ?_)
      have HK := Lib.hid hK
      clear hK
      go_simp
      refine HK.out _ _ ⟨_, _, _, _, _, _, _, _, _, _, _, _, _, _, _, _, _, _, _, _, _, rfl, hb, fun h => F.out.1 (lst_old (by decide) h), fun h => F.out.2.1 (lst_old (by decide) h), fun h => F.out.2.2.1 (lst_old (by decide) h), fun h => F.out.2.2.2.1 (lst_old (by decide) h), fun h => F.out.2.2.2.2.1 (lst_old (by decide) h), fun h => F.out.2.2.2.2.2.1 (lst_old (by decide) h), fun h => F.out.2.2.2.2.2.2.1 (lst_old (by decide) h), fun h => F.out.2.2.2.2.2.2.2.1 (lst_old (by decide) h), fun h => F.out.2.2.2.2.2.2.2.2.1 (lst_old (by decide) h), fun h => F.out.2.2.2.2.2.2.2.2.2.1 (lst_old (by decide) h), fun h => F.out.2.2.2.2.2.2.2.2.2.2.1 (lst_old (by decide) h), fun h => F.out.2.2.2.2.2.2.2.2.2.2.2.1 (lst_old (by decide) h), fun h => F.out.2.2.2.2.2.2.2.2.2.2.2.2.1 (lst_old (by decide) h), fun h => F.out.2.2.2.2.2.2.2.2.2.2.2.2.2.1 (lst_old (by decide) h), fun _ => rfl, fun h => F.out.2.2.2.2.2.2.2.2.2.2.2.2.2.2.2.1 (lst_old (by decide) h), fun h => F.out.2.2.2.2.2.2.2.2.2.2.2.2.2.2.2.2.1 (lst_old (by decide) h), fun h => F.out.2.2.2.2.2.2.2.2.2.2.2.2.2.2.2.2.2.1 (lst_old (by decide) h), fun h => F.out.2.2.2.2.2.2.2.2.2.2.2.2.2.2.2.2.2.2.1 (lst_old (by decide) h), fun h => F.out.2.2.2.2.2.2.2.2.2.2.2.2.2.2.2.2.2.2.2.1 (lst_old (by decide) h), fun h => ⟨(F.out.2.2.2.2.2.2.2.2.2.2.2.2.2.2.2.2.2.2.2.2 (lst_old (by decide) h)).1, lst_keep (F.out.2.2.2.2.2.2.2.2.2.2.2.2.2.2.2.2.2.2.2.2 (lst_old (by decide) h)).2.1, lst_keep (F.out.2.2.2.2.2.2.2.2.2.2.2.2.2.2.2.2.2.2.2.2 (lst_old (by decide) h)).2.2.1, lst_keep (F.out.2.2.2.2.2.2.2.2.2.2.2.2.2.2.2.2.2.2.2.2 (lst_old (by decide) h)).2.2.2⟩⟩
    · clear him
      have p14 := F.out.2.2.2.2.2.2.2.2.2.2.2.2.2.2.1 (ready_needs hi (by kernel_rfl))
      subst p14
      have HI := Lib.hid hi
      clear hi
      refine wpOp_step (o := _) rfl (fun K' hK => ?_)
      have HK := Lib.hid hK
      clear hK
      go_simp
      refine HK.out _ _ ⟨_, _, _, _, _, _, _, _, _, _, _, _, _, _, _, _, _, _, _, _, _, rfl, (hb.alloc hb.size _), fun h => F.out.1 (lst_old (by decide) h), fun h => F.out.2.1 (lst_old (by decide) h), fun h => F.out.2.2.1 (lst_old (by decide) h), fun h => F.out.2.2.2.1 (lst_old (by decide) h), fun h => Cl.below (F.out.2.2.2.2.1 (lst_old (by decide) h)) ((Below.refl _ W).alloc (Nat.le_refl _) _), fun h => own_below (F.out.2.2.2.2.2.1 (lst_old (by decide) h)) ((Below.refl _ W).alloc (Nat.le_refl _) _), fun h => F.out.2.2.2.2.2.2.1 (lst_old (by decide) h), fun h => F.out.2.2.2.2.2.2.2.1 (lst_old (by decide) h), fun h => F.out.2.2.2.2.2.2.2.2.1 (lst_old (by decide) h), fun h => F.out.2.2.2.2.2.2.2.2.2.1 (lst_old (by decide) h), fun h => Cl.below (F.out.2.2.2.2.2.2.2.2.2.2.1 (lst_old (by decide) h)) ((Below.refl _ W).alloc (Nat.le_refl _) _), fun h => own_below (F.out.2.2.2.2.2.2.2.2.2.2.2.1 (lst_old (by decide) h)) ((Below.refl _ W).alloc (Nat.le_refl _) _), fun h => F.out.2.2.2.2.2.2.2.2.2.2.2.2.1 (lst_old (by decide) h), fun h => F.out.2.2.2.2.2.2.2.2.2.2.2.2.2.1 (lst_old (by decide) h), fun h => F.out.2.2.2.2.2.2.2.2.2.2.2.2.2.2.1 (lst_old (by decide) h), fun _ => Cl.new W _ 9 1 rfl, fun h => F.out.2.2.2.2.2.2.2.2.2.2.2.2.2.2.2.2.1 (lst_old (by decide) h), fun h => F.out.2.2.2.2.2.2.2.2.2.2.2.2.2.2.2.2.2.1 (lst_old (by decide) h), fun h => ClT.below (F.out.2.2.2.2.2.2.2.2.2.2.2.2.2.2.2.2.2.2.1 (lst_old (by decide) h)) ((Below.refl _ W).alloc (Nat.le_refl _) _), fun h => own_below (F.out.2.2.2.2.2.2.2.2.2.2.2.2.2.2.2.2.2.2.2.1 (lst_old (by decide) h)) ((Below.refl _ W).alloc (Nat.le_refl _) _), fun h => ⟨(F.out.2.2.2.2.2.2.2.2.2.2.2.2.2.2.2.2.2.2.2.2 (lst_old (by decide) h)).1, lst_keep (F.out.2.2.2.2.2.2.2.2.2.2.2.2.2.2.2.2.2.2.2.2 (lst_old (by decide) h)).2.1, lst_keep (F.out.2.2.2.2.2.2.2.2.2.2.2.2.2.2.2.2.2.2.2.2 (lst_old (by decide) h)).2.2.1, lst_keep (F.out.2.2.2.2.2.2.2.2.2.2.2.2.2.2.2.2.2.2.2.2 (lst_old (by decide) h)).2.2.2⟩⟩
    · clear him
      have HI := Lib.hid hi
      clear hi
      refine wpOp_step (o := _) rfl (fun K' hK => ?_)
      have HK := Lib.hid hK
      clear hK
      go_simp
      refine HK.out _ _ ⟨_, _, _, _, _, _, _, _, _, _, _, _, _, _, _, _, _, _, _, _, _, rfl, hb, fun h => F.out.1 (lst_old (by decide) h), fun h => F.out.2.1 (lst_old (by decide) h), fun h => F.out.2.2.1 (lst_old (by decide) h), fun h => F.out.2.2.2.1 (lst_old (by decide) h), fun h => F.out.2.2.2.2.1 (lst_old (by decide) h), fun h => F.out.2.2.2.2.2.1 (lst_old (by decide) h), fun h => F.out.2.2.2.2.2.2.1 (lst_old (by decide) h), fun h => F.out.2.2.2.2.2.2.2.1 (lst_old (by decide) h), fun h => F.out.2.2.2.2.2.2.2.2.1 (lst_old (by decide) h), fun h => F.out.2.2.2.2.2.2.2.2.2.1 (lst_old (by decide) h), fun h => F.out.2.2.2.2.2.2.2.2.2.2.1 (lst_old (by decide) h), fun h => F.out.2.2.2.2.2.2.2.2.2.2.2.1 (lst_old (by decide) h), fun h => F.out.2.2.2.2.2.2.2.2.2.2.2.2.1 (lst_old (by decide) h), fun h => F.out.2.2.2.2.2.2.2.2.2.2.2.2.2.1 (lst_old (by decide) h), fun h => F.out.2.2.2.2.2.2.2.2.2.2.2.2.2.2.1 (lst_old (by decide) h), fun h => F.out.2.2.2.2.2.2.2.2.2.2.2.2.2.2.2.1 (lst_old (by decide) h), fun _ => rfl, fun h => F.out.2.2.2.2.2.2.2.2.2.2.2.2.2.2.2.2.2.1 (lst_old (by decide) h), fun h => F.out.2.2.2.2.2.2.2.2.2.2.2.2.2.2.2.2.2.2.1 (lst_old (by decide) h), fun h => F.out.2.2.2.2.2.2.2.2.2.2.2.2.2.2.2.2.2.2.2.1 (lst_old (by decide) h), fun h => ⟨(F.out.2.2.2.2.2.2.2.2.2.2.2.2.2.2.2.2.2.2.2.2 (lst_old (by decide) h)).1, lst_keep (F.out.2.2.2.2.2.2.2.2.2.2.2.2.2.2.2.2.2.2.2.2 (lst_old (by decide) h)).2.1, lst_keep (F.out.2.2.2.2.2.2.2.2.2.2.2.2.2.2.2.2.2.2.2.2 (lst_old (by decide) h)).2.2.1, lst_keep (F.out.2.2.2.2.2.2.2.2.2.2.2.2.2.2.2.2.2.2.2.2 (lst_old (by decide) h)).2.2.2⟩⟩
    · clear him
      have p16 := F.out.2.2.2.2.2.2.2.2.2.2.2.2.2.2.2.2.1 (ready_needs hi (by kernel_rfl))
      subst p16
      obtain ⟨b0, b1, b2, b3⟩ := HY.out.below hb
      have HI := Lib.hid hi
      clear hi
      refine wpOp_step (o := _) rfl (fun K' hK => ?_)
      have HK := Lib.hid hK
      clear hK
      go_simp
      refine HK.out _ _ ⟨_, _, _, _, _, _, _, _, _, _, _, _, _, _, _, _, _, _, _, _, _, rfl, hb, fun h => F.out.1 (lst_old (by decide) h), fun h => F.out.2.1 (lst_old (by decide) h), fun h => F.out.2.2.1 (lst_old (by decide) h), fun h => F.out.2.2.2.1 (lst_old (by decide) h), fun h => F.out.2.2.2.2.1 (lst_old (by decide) h), fun h => F.out.2.2.2.2.2.1 (lst_old (by decide) h), fun h => F.out.2.2.2.2.2.2.1 (lst_old (by decide) h), fun h => F.out.2.2.2.2.2.2.2.1 (lst_old (by decide) h), fun h => F.out.2.2.2.2.2.2.2.2.1 (lst_old (by decide) h), fun h => F.out.2.2.2.2.2.2.2.2.2.1 (lst_old (by decide) h), fun h => F.out.2.2.2.2.2.2.2.2.2.2.1 (lst_old (by decide) h), fun h => F.out.2.2.2.2.2.2.2.2.2.2.2.1 (lst_old (by decide) h), fun h => F.out.2.2.2.2.2.2.2.2.2.2.2.2.1 (lst_old (by decide) h), fun h => F.out.2.2.2.2.2.2.2.2.2.2.2.2.2.1 (lst_old (by decide) h), fun h => F.out.2.2.2.2.2.2.2.2.2.2.2.2.2.2.1 (lst_old (by decide) h), fun h => F.out.2.2.2.2.2.2.2.2.2.2.2.2.2.2.2.1 (lst_old (by decide) h), fun h => F.out.2.2.2.2.2.2.2.2.2.2.2.2.2.2.2.2.1 (lst_old (by decide) h), fun _ => rfl, fun h => F.out.2.2.2.2.2.2.2.2.2.2.2.2.2.2.2.2.2.2.1 (lst_old (by decide) h), fun h => F.out.2.2.2.2.2.2.2.2.2.2.2.2.2.2.2.2.2.2.2.1 (lst_old (by decide) h), fun h => ⟨(F.out.2.2.2.2.2.2.2.2.2.2.2.2.2.2.2.2.2.2.2.2 (lst_old (by decide) h)).1, lst_keep (F.out.2.2.2.2.2.2.2.2.2.2.2.2.2.2.2.2.2.2.2.2 (lst_old (by decide) h)).2.1, lst_keep (F.out.2.2.2.2.2.2.2.2.2.2.2.2.2.2.2.2.2.2.2.2 (lst_old (by decide) h)).2.2.1, lst_keep (F.out.2.2.2.2.2.2.2.2.2.2.2.2.2.2.2.2.2.2.2.2 (lst_old (by decide) h)).2.2.2⟩⟩
    · clear him
      have p13 := F.out.2.2.2.2.2.2.2.2.2.2.2.2.2.1 (ready_needs hi (by kernel_rfl))
      have p15 := F.out.2.2.2.2.2.2.2.2.2.2.2.2.2.2.2.1 (ready_needs hi (by kernel_rfl))
      have p17 := F.out.2.2.2.2.2.2.2.2.2.2.2.2.2.2.2.2.2.1 (ready_needs hi (by kernel_rfl))
      subst p13
      have P15 := Lib.hid p15
      clear p15
      subst p17
      obtain ⟨g5, hv5, hc5⟩ := P15.out
      subst hv5
      have HI := Lib.hid hi
      clear hi
      refine wpOp_step (o := _) rfl (fun K' hK => ?_)
      have HK := Lib.hid hK
      clear hK
      go_simp
      refine HK.out _ _ ⟨_, _, _, _, _, _, _, _, _, _, _, _, _, _, _, _, _, _, _, _, _, rfl, (hb.alloc hb.size _), fun h => F.out.1 (lst_old (by decide) h), fun h => F.out.2.1 (lst_old (by decide) h), fun h => F.out.2.2.1 (lst_old (by decide) h), fun h => F.out.2.2.2.1 (lst_old (by decide) h), fun h => Cl.below (F.out.2.2.2.2.1 (lst_old (by decide) h)) ((Below.refl _ W).alloc (Nat.le_refl _) _), fun h => own_below (F.out.2.2.2.2.2.1 (lst_old (by decide) h)) ((Below.refl _ W).alloc (Nat.le_refl _) _), fun h => F.out.2.2.2.2.2.2.1 (lst_old (by decide) h), fun h => F.out.2.2.2.2.2.2.2.1 (lst_old (by decide) h), fun h => F.out.2.2.2.2.2.2.2.2.1 (lst_old (by decide) h), fun h => F.out.2.2.2.2.2.2.2.2.2.1 (lst_old (by decide) h), fun h => Cl.below (F.out.2.2.2.2.2.2.2.2.2.2.1 (lst_old (by decide) h)) ((Below.refl _ W).alloc (Nat.le_refl _) _), fun h => own_below (F.out.2.2.2.2.2.2.2.2.2.2.2.1 (lst_old (by decide) h)) ((Below.refl _ W).alloc (Nat.le_refl _) _), fun h => F.out.2.2.2.2.2.2.2.2.2.2.2.2.1 (lst_old (by decide) h), fun h => F.out.2.2.2.2.2.2.2.2.2.2.2.2.2.1 (lst_old (by decide) h), fun h => F.out.2.2.2.2.2.2.2.2.2.2.2.2.2.2.1 (lst_old (by decide) h), fun h => Cl.below (F.out.2.2.2.2.2.2.2.2.2.2.2.2.2.2.2.1 (lst_old (by decide) h)) ((Below.refl _ W).alloc (Nat.le_refl _) _), fun h => F.out.2.2.2.2.2.2.2.2.2.2.2.2.2.2.2.2.1 (lst_old (by decide) h), fun h => F.out.2.2.2.2.2.2.2.2.2.2.2.2.2.2.2.2.2.1 (lst_old (by decide) h), fun _ => ⟨_, Cl.new W _ 22 3 rfl, (txts_cl P15.out).below ((Below.refl _ W).alloc (Nat.le_refl _) _)⟩, fun h => own_below (F.out.2.2.2.2.2.2.2.2.2.2.2.2.2.2.2.2.2.2.2.1 (lst_old (by decide) h)) ((Below.refl _ W).alloc (Nat.le_refl _) _), fun h => ⟨(F.out.2.2.2.2.2.2.2.2.2.2.2.2.2.2.2.2.2.2.2.2 (lst_old (by decide) h)).1, lst_keep (F.out.2.2.2.2.2.2.2.2.2.2.2.2.2.2.2.2.2.2.2.2 (lst_old (by decide) h)).2.1, lst_keep (F.out.2.2.2.2.2.2.2.2.2.2.2.2.2.2.2.2.2.2.2.2 (lst_old (by decide) h)).2.2.1, lst_keep (F.out.2.2.2.2.2.2.2.2.2.2.2.2.2.2.2.2.2.2.2.2 (lst_old (by decide) h)).2.2.2⟩⟩
    · clear him
      have p18 := F.out.2.2.2.2.2.2.2.2.2.2.2.2.2.2.2.2.2.2.1 (ready_needs hi (by kernel_rfl))
      have P18 := Lib.hid p18
      clear p18
      obtain ⟨z5, hcl5, htx5⟩ := P18.out
      have HI := Lib.hid hi
      clear hi
      refine wpOp_step (o := _) rfl (fun K' hK => ?_)
      have HK := Lib.hid hK
      clear hK
      go_simp
      refine (gl_t [(.slice s0 sn sc, ss), (z5, [key]), (.slice t0 tn tc, ts)] hcl5 (all3 (HS.out.below hb) htx5 (HT.out.below hb)) (by simp) (HSTB.out z5) ST (HSTF.out z5)).mono ?_
      rintro r W2 ⟨x, rfl, hown, hb2⟩
      refine HK.out _ _ ⟨_, _, _, _, _, _, _, _, _, _, _, _, _, _, _, _, _, _, _, _, _, rfl, (hb.trans (hb2.mono hb.size)), fun h => F.out.1 (lst_old (by decide) h), fun h => F.out.2.1 (lst_old (by decide) h), fun h => F.out.2.2.1 (lst_old (by decide) h), fun h => F.out.2.2.2.1 (lst_old (by decide) h), fun h => Cl.below (F.out.2.2.2.2.1 (lst_old (by decide) h)) hb2, fun h => own_below (F.out.2.2.2.2.2.1 (lst_old (by decide) h)) hb2, fun h => F.out.2.2.2.2.2.2.1 (lst_old (by decide) h), fun h => F.out.2.2.2.2.2.2.2.1 (lst_old (by decide) h), fun h => F.out.2.2.2.2.2.2.2.2.1 (lst_old (by decide) h), fun h => F.out.2.2.2.2.2.2.2.2.2.1 (lst_old (by decide) h), fun h => Cl.below (F.out.2.2.2.2.2.2.2.2.2.2.1 (lst_old (by decide) h)) hb2, fun h => own_below (F.out.2.2.2.2.2.2.2.2.2.2.2.1 (lst_old (by decide) h)) hb2, fun h => F.out.2.2.2.2.2.2.2.2.2.2.2.2.1 (lst_old (by decide) h), fun h => F.out.2.2.2.2.2.2.2.2.2.2.2.2.2.1 (lst_old (by decide) h), fun h => F.out.2.2.2.2.2.2.2.2.2.2.2.2.2.2.1 (lst_old (by decide) h), fun h => Cl.below (F.out.2.2.2.2.2.2.2.2.2.2.2.2.2.2.2.1 (lst_old (by decide) h)) hb2, fun h => F.out.2.2.2.2.2.2.2.2.2.2.2.2.2.2.2.2.1 (lst_old (by decide) h), fun h => F.out.2.2.2.2.2.2.2.2.2.2.2.2.2.2.2.2.2.1 (lst_old (by decide) h), fun h => ClT.below (F.out.2.2.2.2.2.2.2.2.2.2.2.2.2.2.2.2.2.2.1 (lst_old (by decide) h)) hb2, fun _ => own_mono (HSTN.out ▸ hown) hb.size, fun h => absurd (F.out.2.2.2.2.2.2.2.2.2.2.2.2.2.2.2.2.2.2.2.2 (lst_old (by decide) h)).2.2.2 (ready_not HI.out)⟩
    · clear him
      have p5 := F.out.2.2.2.2.2.1 (ready_needs hi (by kernel_rfl))
      have p11 := F.out.2.2.2.2.2.2.2.2.2.2.2.1 (ready_needs hi (by kernel_rfl))
      have p19 := F.out.2.2.2.2.2.2.2.2.2.2.2.2.2.2.2.2.2.2.2.1 (ready_needs hi (by kernel_rfl))
      obtain ⟨a5, c5, h5⟩ := own_slice p5
      subst h5
      have P5 := Lib.hid p5
      clear p5
      obtain ⟨a11, c11, h11⟩ := own_slice p11
      subst h11
      have P11 := Lib.hid p11
      clear p11
      obtain ⟨a19, c19, h19⟩ := own_slice p19
      subst h19
      have P19 := Lib.hid p19
      clear p19
      have HI := Lib.hid hi
      clear hi
      refine wpOp_step (o := _) rfl (fun K' hK => ?_)
      have HK := Lib.hid hK
      clear hK
      go_simp
      refine HK.out _ _ ⟨_, _, _, _, _, _, _, _, _, _, _, _, _, _, _, _, _, _, _, _, _, rfl, hb, fun h => F.out.1 (lst_old (by decide) h), fun h => F.out.2.1 (lst_old (by decide) h), fun h => F.out.2.2.1 (lst_old (by decide) h), fun h => F.out.2.2.2.1 (lst_old (by decide) h), fun h => F.out.2.2.2.2.1 (lst_old (by decide) h), fun h => F.out.2.2.2.2.2.1 (lst_old (by decide) h), fun h => F.out.2.2.2.2.2.2.1 (lst_old (by decide) h), fun h => F.out.2.2.2.2.2.2.2.1 (lst_old (by decide) h), fun h => F.out.2.2.2.2.2.2.2.2.1 (lst_old (by decide) h), fun h => F.out.2.2.2.2.2.2.2.2.2.1 (lst_old (by decide) h), fun h => F.out.2.2.2.2.2.2.2.2.2.2.1 (lst_old (by decide) h), fun h => F.out.2.2.2.2.2.2.2.2.2.2.2.1 (lst_old (by decide) h), fun h => F.out.2.2.2.2.2.2.2.2.2.2.2.2.1 (lst_old (by decide) h), fun h => F.out.2.2.2.2.2.2.2.2.2.2.2.2.2.1 (lst_old (by decide) h), fun h => F.out.2.2.2.2.2.2.2.2.2.2.2.2.2.2.1 (lst_old (by decide) h), fun h => F.out.2.2.2.2.2.2.2.2.2.2.2.2.2.2.2.1 (lst_old (by decide) h), fun h => F.out.2.2.2.2.2.2.2.2.2.2.2.2.2.2.2.2.1 (lst_old (by decide) h), fun h => F.out.2.2.2.2.2.2.2.2.2.2.2.2.2.2.2.2.2.1 (lst_old (by decide) h), fun h => F.out.2.2.2.2.2.2.2.2.2.2.2.2.2.2.2.2.2.2.1 (lst_old (by decide) h), fun h => F.out.2.2.2.2.2.2.2.2.2.2.2.2.2.2.2.2.2.2.2.1 (lst_old (by decide) h), fun _ => ⟨rfl, lst_keep (ready_needs HI.out (by kernel_rfl)), lst_keep (ready_needs HI.out (by kernel_rfl)), lst_keep (ready_needs HI.out (by kernel_rfl))⟩⟩
  case fin =>
    intro f a W hI
    obtain ⟨v37, v38, v39, v40, v41, v42, v43, v44, v45, v46, v47, v48, v49, v50, v51, v52, v53, v54, v55, v56, v57, rfl, hb, hf⟩ := hI
    have p0 := hf.1 rfl
    have p1 := hf.2.1 rfl
    have p2 := hf.2.2.1 rfl
    have p3 := hf.2.2.2.1 rfl
    have p4 := hf.2.2.2.2.1 rfl
    have p5 := hf.2.2.2.2.2.1 rfl
    have p6 := hf.2.2.2.2.2.2.1 rfl
    have p7 := hf.2.2.2.2.2.2.2.1 rfl
    have p8 := hf.2.2.2.2.2.2.2.2.1 rfl
    have p9 := hf.2.2.2.2.2.2.2.2.2.1 rfl
    have p10 := hf.2.2.2.2.2.2.2.2.2.2.1 rfl
    have p11 := hf.2.2.2.2.2.2.2.2.2.2.2.1 rfl
    have p12 := hf.2.2.2.2.2.2.2.2.2.2.2.2.1 rfl
    have p13 := hf.2.2.2.2.2.2.2.2.2.2.2.2.2.1 rfl
    have p14 := hf.2.2.2.2.2.2.2.2.2.2.2.2.2.2.1 rfl
    have p15 := hf.2.2.2.2.2.2.2.2.2.2.2.2.2.2.2.1 rfl
    have p16 := hf.2.2.2.2.2.2.2.2.2.2.2.2.2.2.2.2.1 rfl
    have p17 := hf.2.2.2.2.2.2.2.2.2.2.2.2.2.2.2.2.2.1 rfl
    have p18 := hf.2.2.2.2.2.2.2.2.2.2.2.2.2.2.2.2.2.2.1 rfl
    have p19 := hf.2.2.2.2.2.2.2.2.2.2.2.2.2.2.2.2.2.2.2.1 rfl
    have p20 := hf.2.2.2.2.2.2.2.2.2.2.2.2.2.2.2.2.2.2.2.2 rfl
    clear hf
    subst p0
    subst p1
    subst p2
    subst p3
    clear p4
    obtain ⟨a5, c5, h5⟩ := own_slice p5
    subst h5
    have P5 := Lib.hid p5
    clear p5
    subst p6
    subst p7
    subst p8
    subst p9
    clear p10
    obtain ⟨a11, c11, h11⟩ := own_slice p11
    subst h11
    have P11 := Lib.hid p11
    clear p11
    subst p12
    subst p13
    subst p14
    clear p15
    subst p16
    subst p17
    clear p18
    obtain ⟨a19, c19, h19⟩ := own_slice p19
    subst h19
    have P19 := Lib.hid p19
    clear p19
    replace p20 := p20.1
    subst p20
    refine wpAny_all (rs := [21]) (by kernel_rfl) (by simp) ?_
    intro i' hi'
    obtain rfl := List.mem_singleton.1 hi'
    obtain ⟨z0a, z0b, z0c, z0d, hz0⟩ := HZB.out.below hb
    have c00 : World.cell? (W) ⟨w.heap.size + 1 + 1, 0, none⟩ = some z0a := by rw [blk_cell hz0]; rfl
    have f00 := blk_free hz0 0
    have hz00 := blk_set hz0 0 (.bool false)
    have c01 : World.cell? (World.setCell (W) ⟨w.heap.size + 1 + 1, 0, none⟩ (.bool false)) ⟨w.heap.size + 1 + 1, 1, none⟩ = some z0b := by rw [blk_cell hz00]; rfl
    have f01 := blk_free hz00 1
    have hz01 := blk_set hz00 1 (.slice a5 efn c5)
    have c02 : World.cell? (World.setCell (World.setCell (W) ⟨w.heap.size + 1 + 1, 0, none⟩ (.bool false)) ⟨w.heap.size + 1 + 1, 1, none⟩ (.slice a5 efn c5)) ⟨w.heap.size + 1 + 1, 2, none⟩ = some z0c := by rw [blk_cell hz01]; rfl
    have f02 := blk_free hz01 2
    have hz02 := blk_set hz01 2 (.slice a11 kjn c11)
    have c03 : World.cell? (World.setCell (World.setCell (World.setCell (W) ⟨w.heap.size + 1 + 1, 0, none⟩ (.bool false)) ⟨w.heap.size + 1 + 1, 1, none⟩ (.slice a5 efn c5)) ⟨w.heap.size + 1 + 1, 2, none⟩ (.slice a11 kjn c11)) ⟨w.heap.size + 1 + 1, 3, none⟩ = some z0d := by rw [blk_cell hz02]; rfl
    have f03 := blk_free hz02 3
    have hz03 := blk_set hz02 3 (.slice a19 stn c19)
    have HZ0 := Lib.hid hz03
    clear hz0 hz00 hz01 hz02 hz03
    refine wpOp_step (o := _) rfl (fun K' hK => ?_)
    have HKK := Lib.hid hK
    clear hK
    go_simp
    refine HKK.out _ _ (wpAny_done (by kernel_rfl) ?_ _)
    have hon : Only (w.heap.size + 1 + 1) W (World.setCell (World.setCell (World.setCell (World.setCell (W) ⟨w.heap.size + 1 + 1, 0, none⟩ (.bool false)) ⟨w.heap.size + 1 + 1, 1, none⟩ (.slice a5 efn c5)) ⟨w.heap.size + 1 + 1, 2, none⟩ (.slice a11 kjn c11)) ⟨w.heap.size + 1 + 1, 3, none⟩ (.slice a19 stn c19)) := (((Only.set _ _ _).trans (Only.set _ _ _)).trans (Only.set _ _ _)).trans (Only.set _ _ _)
    obtain ⟨W4, hW4⟩ : ∃ X, World.setCell (World.setCell (World.setCell (World.setCell (W) ⟨w.heap.size + 1 + 1, 0, none⟩ (.bool false)) ⟨w.heap.size + 1 + 1, 1, none⟩ (.slice a5 efn c5)) ⟨w.heap.size + 1 + 1, 2, none⟩ (.slice a11 kjn c11)) ⟨w.heap.size + 1 + 1, 3, none⟩ (.slice a19 stn c19) = X := ⟨_, rfl⟩
    rw [hW4] at HZ0 hon ⊢
    clear hW4
    have hb4 : Below w.heap.size w W4 := (hb1.trans (hb.mono hb1.size)).trans (hon.to_below (by omega) (Nat.le_trans hb1.size hb.size))
    have hlt : w.heap.size + 1 + 1 < w1.heap.size := by rw [HZ1.out]; omega
    have O1 := own_mono (own_only' P5.out hon hlt) hb1.size
    have O2 := own_mono (own_only' P11.out hon hlt) hb1.size
    have O3 := own_mono (own_only' P19.out hon hlt) hb1.size
    rw [← HEFN.out] at O1 HZ0
    rw [← HKJN.out] at O2 HZ0
    rw [← HSTN.out] at O3 HZ0
    have HRES := Lib.hid (show NdO W4 w.heap.size (.agg #[.bool false, .slice a5 EF.length c5, .slice a11 KJ.length c11, .slice a19 ST.length c19]) ⟨false, es ++ fs, ks ++ js, ss ++ [key] ++ ts⟩ by rw [HEFE.out, HKJE.out, HSTE.out]; exact ⟨_, _, _, _, _, _, rfl, O1, O2, O3⟩)
    go_wp2
    refine bodyPost_ret (res_one rfl rfl (load69 (bx_blk HZ0.out))) rfl ?_
    exact ⟨_, rfl, (by first | exact HRES.out | simpa using HRES.out), hb4⟩
end Go.Proofs.Ytifdglehfhoecaa.N
