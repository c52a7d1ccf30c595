/-
  The law on what is kept: true for every input. Conditions: none.
-/
import Derived.Test.YtifdglehfhoecaaNKeptA
import Derived.Test.YtifdglehfhoecaaNWorks
import Derived.Test.YtifdglehfhoecaaNSame
namespace Go.Proofs.Ytifdglehfhoecaa.N
open Go.RowKit B E
theorem ndv_ents {w : World} {l : Bool} {a : Option Addr} {n c : Nat} {x y : Value} {nd : M.Nd} (h : NdV w (.agg #[.bool l, .slice a n c, x, y]) nd) : Ents w (.slice a n c) nd.es := by
  obtain ⟨e0, ec, k0, kc, s0, sc, e, h1, _, _⟩ := h
  injection e with e
  injection e with e
  injection e with _ e
  injection e with e _
  rw [e]; exact h1
theorem mid_empty {a : ByteArray} (h : a = ByteArray.empty) : (a.toList == []) = true := by subst h; decide +kernel
theorem mid_full {es : List Ent} {k : Nat} (ho : M.Ok es) (h : k < es.length) : (es[k].1.toList == []) = false :=
  str_ne_nil (by have := (ho.1 _ (List.getElem_mem h)).1; omega)
theorem mid_full_i {ss : List ByteArray} {k : Nat} (ho : M.Oks ss) (h : k < ss.length) : (ss[k].toList == []) = false := by
  have h' : k < (M.asE ss).length := by rw [M.asE_len]; exact h
  have := mid_full ho h'
  rw [M.asE_get ss k h] at this
  exact this
theorem less_t {a b : ByteArray} (h : M.klt a b) : Op.bytesLess a.toList b.toList = true := by rw [toL, toL]; exact h
theorem less_f {a b : ByteArray} (h : ¬ M.klt a b) : Op.bytesLess a.toList b.toList = false := by rw [toL, toL]; unfold M.klt at h; simpa using h
set_option maxRecDepth 100000 in
set_option maxHeartbeats 16000000 in
theorem nkept_true (va vb : Value) (es : List Ent) (ks : List Int) (ss : List ByteArray) (m : M.Nd) (key : ByteArray) (w : World) (ha : NdV w va ⟨true, es, ks, ss⟩) (hb : NdV w vb m) :
    Calls Try.prog 15 #[va, vb, .string key] w fun r w' => r = .returned (.bool true) ∧ Below w.heap.size w w' := by
  have HVA := Lib.hid ha; have HVB := Lib.hid hb
  obtain ⟨lm, fs, js, ts⟩ := m
  obtain ⟨e0, ec, k0, kc, s0, sc, rfl, _, _, _⟩ := ha
  obtain ⟨f0, fc, j0, jc, t0, tc, rfl, _, _, _⟩ := hb
  dsimp only at HVA HVB ⊢
  obtain ⟨en, hen⟩ : ∃ x, es.length = x := ⟨_, rfl⟩
  obtain ⟨kn, hkn⟩ : ∃ x, ks.length = x := ⟨_, rfl⟩
  obtain ⟨sn, hsn⟩ : ∃ x, ss.length = x := ⟨_, rfl⟩
  obtain ⟨fn, hfn⟩ : ∃ x, fs.length = x := ⟨_, rfl⟩
  obtain ⟨jn, hjn⟩ : ∃ x, js.length = x := ⟨_, rfl⟩
  obtain ⟨tn, htn⟩ : ∃ x, ts.length = x := ⟨_, rfl⟩
  rw [hen, hkn, hsn] at HVA ⊢
  rw [hfn, hjn, htn] at HVB ⊢
  have HEN := Lib.hid hen; have HKN := Lib.hid hkn; have HSN := Lib.hid hsn
  clear hen hkn hsn hfn hjn htn
  go_enter Try.func15, Try.ntmps15
  go_upto_region 1 with (fail)
  obtain ⟨wa, hwa⟩ : ∃ W, w.alloc (.cells #[.bool true, .slice e0 en ec, .slice k0 kn kc, .slice s0 sn sc] 69) = W := ⟨_, rfl⟩
  have hza : wa.heap.size = w.heap.size + 1 := by rw [← hwa]; simp
  have hx : Bx wa w.heap.size true (.slice e0 en ec) (.slice k0 kn kc) (.slice s0 sn sc) := by rw [← hwa]; exact Bx.new _ _ _ _ _ _
  have hba : Below w.heap.size w wa := by rw [← hwa]; exact (Below.refl _ w).alloc (Nat.le_refl _) _
  rw [hwa]
  clear hwa
  obtain ⟨wb, hwb⟩ : ∃ W, wa.alloc (.cells #[.bool lm, .slice f0 fn fc, .slice j0 jn jc, .slice t0 tn tc] 69) = W := ⟨_, rfl⟩
  have hy : Bx wb (w.heap.size + 1) lm (.slice f0 fn fc) (.slice j0 jn jc) (.slice t0 tn tc) := by rw [← hwb, ← hza]; exact Bx.new _ _ _ _ _ _
  have hbb : Below wa.heap.size wa wb := by rw [← hwb]; exact (Below.refl _ wa).alloc (Nat.le_refl _) _
  rw [hwb]
  clear hwb
  have HX := Lib.hid (hx.below hbb); have HY := Lib.hid hy
  have hb0 := hba.trans (hbb.mono hba.size)
  clear hx hy hba hbb hza
  go_wp2_with fail
  refine (nworks_any _).mono ?_
  rintro r w1 ⟨rfl, hb1⟩
  have HX := Lib.hid (HX.out.below hb1); have HY := Lib.hid (HY.out.below hb1)
  have hb1 := hb0.trans (hb1.mono hb0.size)
  clear hb0
  obtain ⟨x0, x1, x2, x3⟩ := HX.out
  go_wp2_with fail
  refine (nover_any _ _ _ (HVA.out.below hb1)).mono ?_
  rintro r w2 ⟨much, rfl, hsma, hb2⟩
  have HX := Lib.hid (HX.out.below hb2); have HY := Lib.hid (HY.out.below hb2)
  have HSA := Lib.hid hsma
  have hb2 := hb1.trans (hb2.mono hb1.size)
  clear hb1 hsma x0 x1 x2 x3
  obtain ⟨y0, y1, y2, y3⟩ := HY.out
  go_wp2_with fail
  refine (nover_any _ _ _ (HVB.out.below hb2)).mono ?_
  rintro r w3 ⟨more, rfl, hsmb, hb3⟩
  have HX := Lib.hid (HX.out.below hb3); have HY := Lib.hid (HY.out.below hb3)
  have HSB := Lib.hid hsmb
  have hb3 := hb2.trans (hb3.mono hb2.size)
  clear hb2 hsmb y0 y1 y2 y3
  rcases much with _ | _
  case true =>
    go_wp2
    go_ret
    exact ⟨rfl, hb3⟩
  rcases more with _ | _
  case true =>
    go_wp2
    go_ret
    exact ⟨rfl, hb3⟩
  by_cases hk60 : 60 < key.size
  · go_wp2
    go_ret
    exact ⟨rfl, hb3⟩
  have HBD := Lib.hid (small_bd (HSA.out rfl)); have HBM := Lib.hid (small_bd (HSB.out rfl))
  have hsa := HSA.out rfl
  have hsb := HSB.out rfl
  have HLA := Lib.hid (show es.length ≤ 60 ∧ ks.length ≤ 60 from ⟨hsa.1.1, hsa.2.1⟩); have HLB := Lib.hid (show fs.length ≤ 60 ∧ js.length ≤ 60 from ⟨hsb.1.1, hsb.2.1⟩)
  clear hsa hsb HSA HSB
  have HRT := Lib.hid (nright_any _ _ w3 (HVA.out.below hb3) HBD.out)
  obtain ⟨x0, x1, x2, x3⟩ := HX.out
  by_cases ho : M.NOk ⟨true, es, ks, ss⟩
  case neg =>
    rw [decide_eq_false ho] at HRT
    clear ho
    go_wp2_with fail
    refine HRT.out.mono ?_
    rintro r w4 ⟨rfl, hb4⟩
    have hb4 := hb3.trans (hb4.mono hb3.size)
    clear x0 x1 x2 x3
    go_wp2
    go_ret
    exact ⟨rfl, hb4⟩
  rw [decide_eq_true ho] at HRT
  have HO := Lib.hid ho
  clear ho
  go_wp2_with fail
  refine HRT.out.mono ?_
  rintro r w4 ⟨rfl, hb4⟩
  have HX := Lib.hid (HX.out.below hb4); have HY := Lib.hid (HY.out.below hb4)
  have hb4 := hb3.trans (hb4.mono hb3.size)
  have HVA := Lib.hid (HVA.out.below hb4); have HVB := Lib.hid (HVB.out.below hb4)
  clear x0 x1 x2 x3 hb3 HRT hk60
  go_upto_region 8 with (fail)
  refine wp_region_any (by kernel_rfl) ?_
  refine wpAny_upto_f 7 (fun f L a W => ∃ v10 v50 v51 v52 v53 v54 v55 : Value, a = { tmps := List.toArray ((f 0) :: (f 1) :: (.string key) :: (.pointer (some ⟨w.heap.size, 0, none⟩)) :: (.pointer (some ⟨w.heap.size + 1, 0, none⟩)) :: (f 5) :: (f 6) :: (.bool true) :: (f 8) :: (f 9) :: v10 :: (f 11) :: (f 12) :: (f 13) :: (f 14) :: (f 15) :: (f 16) :: (f 17) :: (f 18) :: (f 19) :: (f 20) :: (f 21) :: (f 22) :: (f 23) :: (f 24) :: (f 25) :: (f 26) :: (f 27) :: (f 28) :: (f 29) :: (f 30) :: (f 31) :: (f 32) :: (f 33) :: (f 34) :: (f 35) :: (f 36) :: (f 37) :: (f 38) :: (f 39) :: (f 40) :: (f 41) :: (f 42) :: (f 43) :: (f 44) :: (f 45) :: (f 46) :: (f 47) :: (f 48) :: (f 49) :: v50 :: v51 :: v52 :: v53 :: v54 :: v55 :: (f 56) :: (f 57) :: (f 58) :: (f 59) :: (f 60) :: (f 61) :: (f 62) :: (f 63) :: (f 64) :: (f 65) :: (f 66) :: (f 67) :: (f 68) :: (f 69) :: (f 70) :: (f 71) :: (f 72) :: (f 73) :: (f 74) :: (f 75) :: (f 76) :: (f 77) :: (f 78) :: (f 79) :: (f 80) :: (f 81) :: (f 82) :: (f 83) :: (f 84) :: (f 85) :: (f 86) :: (f 87) :: (f 88) :: (f 89) :: (f 90) :: (f 91) :: (f 92) :: (f 93) :: (f 94) :: (f 95) :: (f 96) :: (f 97) :: (f 98) :: (f 99) :: (f 100) :: (f 101) :: (f 102) :: (f 103) :: (f 104) :: (f 105) :: (f 106) :: (f 107) :: (f 108) :: (f 109) :: (f 110) :: (f 111) :: (f 112) :: (f 113) :: (f 114) :: (f 115) :: (f 116) :: (f 117) :: (f 118) :: (f 119) :: (f 120) :: (f 121) :: (f 122) :: (f 123) :: (f 124) :: (f 125) :: (f 126) :: (f 127) :: (f 128) :: (f 129) :: (f 130) :: (f 131) :: (f 132) :: (f 133) :: (f 134) :: (f 135) :: (f 136) :: (f 137) :: (f 138) :: (f 139) :: (f 140) :: (f 141) :: (f 142) :: (f 143) :: (f 144) :: (f 145) :: (f 146) :: (f 147) :: (f 148) :: (f 149) :: (f 150) :: (f 151) :: (f 152) :: (f 153) :: (f 154) :: (f 155) :: (f 156) :: (f 157) :: (f 158) :: (f 159) :: (f 160) :: (f 161) :: (f 162) :: (f 163) :: (f 164) :: (f 165) :: (f 166) :: (f 167) :: (f 168) :: (f 169) :: (f 170) :: (f 171) :: (f 172) :: (f 173) :: (f 174) :: (f 175) :: (f 176) :: (f 177) :: (f 178) :: (f 179) :: (f 180) :: (f 181) :: (f 182) :: (f 183) :: (f 184) :: (f 185) :: (f 186) :: (f 187) :: (f 188) :: (f 189) :: (f 190) :: (f 191) :: (f 192) :: (f 193) :: (f 194) :: (f 195) :: (f 196) :: (f 197) :: (f 198) :: (f 199) :: (f 200) :: (f 201) :: (f 202) :: (f 203) :: (f 204) :: (f 205) :: (f 206) :: (f 207) :: (f 208) :: (f 209) :: (f 210) :: (f 211) :: (f 212) :: []), defers := [] } ∧ Below w4.heap.size w4 W ∧ (Lst L 0 → v50 = .agg #[.bool true, .slice e0 en ec, .slice k0 kn kc, .slice s0 sn sc]) ∧ (Lst L 1 → NdV W v51 ⟨true, es, ks, ss⟩) ∧ (Lst L 2 → v52 = .pointer (some ⟨w.heap.size, 0, none⟩)) ∧ (Lst L 3 → v53 = .bool true) ∧ (Lst L 4 → v54 = .agg #[.bool true, .slice none 0 0, .slice none 0 0, .slice none 0 0]) ∧ (Lst L 5 → NdO W w4.heap.size v55 ⟨true, es, ks, ss ++ xs true⟩) ∧ (Lst L 6 → ∃ g, v10 = .pointer (some ⟨g, 0, none⟩) ∧ w4.heap.size ≤ g ∧ Zb W g 73)) (by decide) (by kernel_rfl) (by kernel_rfl) ?step ?fin _ _ _ _ ?ini (by simp) (fun k _ => lst_none) (by simp)
  case ini => exact ⟨_, _, _, _, _, _, _, rfl, (Below.refl _ w4).drew, fun h => absurd h lst_none, fun h => absurd h lst_none, fun h => absurd h lst_none, fun h => absurd h lst_none, fun h => absurd h lst_none, fun h => absurd h lst_none, fun h => absurd h lst_none⟩
  case step =>
    intro f L a W hI i him hi
    obtain ⟨v10, v50, v51, v52, v53, v54, v55, rfl, hb, hf⟩ := hI
    have F := Lib.hid hf
    clear hf
    rcases (show i = 0 ∨ i = 1 ∨ i = 2 ∨ i = 3 ∨ i = 4 ∨ i = 5 ∨ i = 6 by omega) with rfl | rfl | rfl | rfl | rfl | rfl | rfl
    · clear him
      obtain ⟨b0, b1, b2, b3⟩ := HX.out.below hb
      have HI := Lib.hid hi
      clear hi
      refine wpOp_step (o := _) rfl (fun K' hK => ?_)
      have HK := Lib.hid hK
      clear hK
      go_simp
      refine HK.out _ _ ⟨_, _, _, _, _, _, _, rfl, hb, fun _ => rfl, fun h => F.out.2.1 (lst_old (by decide) h), fun h => F.out.2.2.1 (lst_old (by decide) h), fun h => F.out.2.2.2.1 (lst_old (by decide) h), fun h => F.out.2.2.2.2.1 (lst_old (by decide) h), fun h => F.out.2.2.2.2.2.1 (lst_old (by decide) h), fun h => F.out.2.2.2.2.2.2 (lst_old (by decide) h)⟩
    · clear him
      have p0 := F.out.1 (ready_needs hi (by kernel_rfl))
      subst p0
      have HI := Lib.hid hi
      clear hi
      refine wpOp_step (o := _) rfl (fun K' hK => ?_)
      have HK := Lib.hid hK
      clear hK
      go_simp
      refine (of_any _ ⟨true, es, ks, ss⟩ W (HVA.out.below hb)).mono ?_
      rintro r W2 ⟨x, rfl, hown, hb2⟩
      refine HK.out _ _ ⟨_, _, _, _, _, _, _, rfl, (hb.trans (hb2.mono hb.size)), fun h => F.out.1 (lst_old (by decide) h), fun _ => hown, fun h => F.out.2.2.1 (lst_old (by decide) h), fun h => F.out.2.2.2.1 (lst_old (by decide) h), fun h => F.out.2.2.2.2.1 (lst_old (by decide) h), fun h => NdO.below (F.out.2.2.2.2.2.1 (lst_old (by decide) h)) hb2, fun h => (let ⟨g, e1, e2, e3⟩ := F.out.2.2.2.2.2.2 (lst_old (by decide) h); ⟨g, e1, e2, e3.below hb2⟩)⟩
    · clear him
      have HI := Lib.hid hi
      clear hi
      refine wpOp_step (o := _) rfl (fun K' hK => ?_)
      have HK := Lib.hid hK
      clear hK
      go_simp
      refine HK.out _ _ ⟨_, _, _, _, _, _, _, rfl, hb, fun h => F.out.1 (lst_old (by decide) h), fun h => F.out.2.1 (lst_old (by decide) h), fun _ => rfl, fun h => F.out.2.2.2.1 (lst_old (by decide) h), fun h => F.out.2.2.2.2.1 (lst_old (by decide) h), fun h => F.out.2.2.2.2.2.1 (lst_old (by decide) h), fun h => F.out.2.2.2.2.2.2 (lst_old (by decide) h)⟩
    · clear him
      have p2 := F.out.2.2.1 (ready_needs hi (by kernel_rfl))
      subst p2
      obtain ⟨b0, b1, b2, b3⟩ := HX.out.below hb
      have HI := Lib.hid hi
      clear hi
      refine wpOp_step (o := _) rfl (fun K' hK => ?_)
      have HK := Lib.hid hK
      clear hK
      go_simp
      refine HK.out _ _ ⟨_, _, _, _, _, _, _, rfl, hb, fun h => F.out.1 (lst_old (by decide) h), fun h => F.out.2.1 (lst_old (by decide) h), fun h => F.out.2.2.1 (lst_old (by decide) h), fun _ => rfl, fun h => F.out.2.2.2.2.1 (lst_old (by decide) h), fun h => F.out.2.2.2.2.2.1 (lst_old (by decide) h), fun h => F.out.2.2.2.2.2.2 (lst_old (by decide) h)⟩
    · clear him
      have p3 := F.out.2.2.2.1 (ready_needs hi (by kernel_rfl))
      subst p3
      have HI := Lib.hid hi
      clear hi
      refine wpOp_step (o := _) rfl (fun K' hK => ?_)
      have HK := Lib.hid hK
      clear hK
      go_simp
      refine HK.out _ _ ⟨_, _, _, _, _, _, _, rfl, hb, fun h => F.out.1 (lst_old (by decide) h), fun h => F.out.2.1 (lst_old (by decide) h), fun h => F.out.2.2.1 (lst_old (by decide) h), fun h => F.out.2.2.2.1 (lst_old (by decide) h), fun _ => rfl, fun h => F.out.2.2.2.2.2.1 (lst_old (by decide) h), fun h => F.out.2.2.2.2.2.2 (lst_old (by decide) h)⟩
    · clear him
      have p1 := F.out.2.1 (ready_needs hi (by kernel_rfl))
      have p4 := F.out.2.2.2.2.1 (ready_needs hi (by kernel_rfl))
      have P1 := Lib.hid p1
      clear p1
      subst p4
      have HI := Lib.hid hi
      clear hi
      refine wpOp_step (o := _) rfl (fun K' hK => ?_)
      have HK := Lib.hid hK
      clear hK
      go_simp
      refine (rjoin_x _ true es ks ss W P1.out HBD.out).mono ?_
      rintro r W2 ⟨x, rfl, hown, hb2⟩
      refine HK.out _ _ ⟨_, _, _, _, _, _, _, rfl, (hb.trans (hb2.mono hb.size)), fun h => F.out.1 (lst_old (by decide) h), fun h => NdV.below (F.out.2.1 (lst_old (by decide) h)) hb2, fun h => F.out.2.2.1 (lst_old (by decide) h), fun h => F.out.2.2.2.1 (lst_old (by decide) h), fun h => F.out.2.2.2.2.1 (lst_old (by decide) h), fun _ => NdO.mono hown hb.size, fun h => (let ⟨g, e1, e2, e3⟩ := F.out.2.2.2.2.2.2 (lst_old (by decide) h); ⟨g, e1, e2, e3.below hb2⟩)⟩
    · clear him
      have HI := Lib.hid hi
      clear hi
      refine wpOp_step (o := _) rfl (fun K' hK => ?_)
      have HK := Lib.hid hK
      clear hK
      go_simp
      refine HK.out _ _ ⟨_, _, _, _, _, _, _, rfl, (hb.alloc hb.size _), fun h => F.out.1 (lst_old (by decide) h), fun h => NdV.below (F.out.2.1 (lst_old (by decide) h)) ((Below.refl _ W).alloc (Nat.le_refl _) _), fun h => F.out.2.2.1 (lst_old (by decide) h), fun h => F.out.2.2.2.1 (lst_old (by decide) h), fun h => F.out.2.2.2.2.1 (lst_old (by decide) h), fun h => NdO.below (F.out.2.2.2.2.2.1 (lst_old (by decide) h)) ((Below.refl _ W).alloc (Nat.le_refl _) _), fun _ => ⟨W.heap.size, rfl, hb.size, Zb.new W _ _ _ _ _⟩⟩
  case fin =>
    intro f a W hI
    obtain ⟨v10, v50, v51, v52, v53, v54, v55, rfl, hb, hf⟩ := hI
    have p0 := hf.1 rfl
    have p1 := hf.2.1 rfl
    have p2 := hf.2.2.1 rfl
    have p3 := hf.2.2.2.1 rfl
    have p4 := hf.2.2.2.2.1 rfl
    have p5 := hf.2.2.2.2.2.1 rfl
    have p6 := hf.2.2.2.2.2.2 rfl
    clear hf
    subst p0
    clear p1
    subst p2
    subst p3
    subst p4
    have qO := Lib.hid p5
    obtain ⟨q0, q0c, q1, q1c, q2, q2c, r5, _, _, _⟩ := p5
    dsimp only at r5
    rw [HEN.out, HKN.out] at r5
    obtain ⟨qn, hwn⟩ : ∃ x, (ss ++ xs true).length = x := ⟨_, rfl⟩
    rw [hwn] at r5
    subst r5
    clear hwn
    obtain ⟨gw, r6, hg, hzb⟩ := p6
    subst r6
    refine wpAny_all (rs := [7]) (by kernel_rfl) (by simp) ?_
    intro i' hi'
    obtain rfl := List.mem_singleton.1 hi'
    have HZG := Lib.hid hzb
    obtain ⟨z0a, z0b, z0c, z0d, hz0⟩ := hzb
    have c00 : World.cell? (W) ⟨gw, 0, none⟩ = some z0a := by rw [blk_cell hz0]; rfl
    have f00 := blk_free hz0 0
    have hz00 := blk_set hz0 0 (.bool true)
    have c01 : World.cell? (World.setCell (W) ⟨gw, 0, none⟩ (.bool true)) ⟨gw, 1, none⟩ = some z0b := by rw [blk_cell hz00]; rfl
    have f01 := blk_free hz00 1
    have hz01 := blk_set hz00 1 (.slice q0 en q0c)
    have c02 : World.cell? (World.setCell (World.setCell (W) ⟨gw, 0, none⟩ (.bool true)) ⟨gw, 1, none⟩ (.slice q0 en q0c)) ⟨gw, 2, none⟩ = some z0c := by rw [blk_cell hz01]; rfl
    have f02 := blk_free hz01 2
    have hz02 := blk_set hz01 2 (.slice q1 kn q1c)
    have c03 : World.cell? (World.setCell (World.setCell (World.setCell (W) ⟨gw, 0, none⟩ (.bool true)) ⟨gw, 1, none⟩ (.slice q0 en q0c)) ⟨gw, 2, none⟩ (.slice q1 kn q1c)) ⟨gw, 3, none⟩ = some z0d := by rw [blk_cell hz02]; rfl
    have f03 := blk_free hz02 3
    have hz03 := blk_set hz02 3 (.slice q2 qn q2c)
    have HZ0 := Lib.hid hz03
    clear hz0 hz00 hz01 hz02 hz03
    refine wpOp_step (o := _) rfl (fun K' hK => ?_)
    have HKK := Lib.hid hK
    clear hK
    go_simp
    refine HKK.out _ _ (wpAny_done (by kernel_rfl) ?_ _)
    have hon : Only gw W (World.setCell (World.setCell (World.setCell (World.setCell (W) ⟨gw, 0, none⟩ (.bool true)) ⟨gw, 1, none⟩ (.slice q0 en q0c)) ⟨gw, 2, none⟩ (.slice q1 kn q1c)) ⟨gw, 3, none⟩ (.slice q2 qn q2c)) := (((Only.set _ _ _).trans (Only.set _ _ _)).trans (Only.set _ _ _)).trans (Only.set _ _ _)
    obtain ⟨w5, hw5⟩ : ∃ X, World.setCell (World.setCell (World.setCell (World.setCell (W) ⟨gw, 0, none⟩ (.bool true)) ⟨gw, 1, none⟩ (.slice q0 en q0c)) ⟨gw, 2, none⟩ (.slice q1 kn q1c)) ⟨gw, 3, none⟩ (.slice q2 qn q2c) = X := ⟨_, rfl⟩
    rw [hw5] at HZ0 hon ⊢
    clear hw5
    have hb5' : Below w4.heap.size w4 w5 := hb.trans (hon.to_below hg hb.size)
    obtain ⟨_, _, _, _, hzg⟩ := HZG.out
    have hqo := NdO.other qO.out hzg hon (by decide) (by decide) (by decide)
    have HQV := Lib.hid hqo.val
    have HX := Lib.hid (HX.out.below hb5'); have HY := Lib.hid (HY.out.below hb5'); have HVA := Lib.hid (HVA.out.below hb5'); have HVB := Lib.hid (HVB.out.below hb5')
    have HW := Lib.hid (bx_blk73 HZ0.out)
    have hb5 := hb4.trans (hb5'.mono hb4.size)
    clear hb5' hon hg hb hqo
    obtain ⟨a, mid, b, hsp, hcs⟩ := splitl_any _ es ks ss w5 HVA.out HBD.out HO.out
    have HSP := Lib.hid hsp; have HCS := Lib.hid hcs
    clear hsp hcs
    obtain ⟨x0, x1, x2, x3⟩ := HX.out
    go_wp2_with fail
    refine HCS.out.mono ?_
    rintro r w6 ⟨xa, xb, rfl, oa, ob, hb6⟩
    have HAV := Lib.hid oa.val; have HBV := Lib.hid ob.val
    obtain ⟨a0, a0c, a1, a1c, a2, a2c, rfl, o1, _, _⟩ := oa
    obtain ⟨b0, b0c, b1, b1c, b2, b2c, rfl, p1, _, _⟩ := ob
    have HAE := Lib.hid (Rw.own o1); have HBE := Lib.hid (Rw.own p1)
    clear o1 p1
    obtain ⟨al, hal⟩ : ∃ x, a.leaf = x := ⟨_, rfl⟩
    obtain ⟨aen, haen⟩ : ∃ x, a.es.length = x := ⟨_, rfl⟩
    obtain ⟨akn, hakn⟩ : ∃ x, a.ks.length = x := ⟨_, rfl⟩
    obtain ⟨asn, hasn⟩ : ∃ x, a.ss.length = x := ⟨_, rfl⟩
    rw [hal, haen, hakn, hasn] at HAV ⊢
    rw [haen] at HAE
    have HAL := Lib.hid hal; have HAEN := Lib.hid haen; have HAKN := Lib.hid hakn; have HASN := Lib.hid hasn
    clear hal haen hakn hasn
    obtain ⟨bl, hbl⟩ : ∃ x, b.leaf = x := ⟨_, rfl⟩
    obtain ⟨ben, hben⟩ : ∃ x, b.es.length = x := ⟨_, rfl⟩
    obtain ⟨bkn, hbkn⟩ : ∃ x, b.ks.length = x := ⟨_, rfl⟩
    obtain ⟨bsn, hbsn⟩ : ∃ x, b.ss.length = x := ⟨_, rfl⟩
    rw [hbl, hben, hbkn, hbsn] at HBV ⊢
    rw [hben] at HBE
    have HBL := Lib.hid hbl; have HBEN := Lib.hid hben; have HBKN := Lib.hid hbkn; have HBSN := Lib.hid hbsn
    clear hbl hben hbkn hbsn
    have HX := Lib.hid (HX.out.below hb6); have HY := Lib.hid (HY.out.below hb6); have HVA := Lib.hid (HVA.out.below hb6); have HVB := Lib.hid (HVB.out.below hb6); have HW := Lib.hid (HW.out.below hb6); have HQV := Lib.hid (HQV.out.below hb6)
    have hb6 := hb5.trans (hb6.mono hb5.size)
    clear x0 x1 x2 x3 hb5 HCS
    go_upto_region 10 with (fail)
    obtain ⟨w7, hw7⟩ : ∃ W, (w6.alloc (.cells #[.bool al, .slice a0 aen a0c, .slice a1 akn a1c, .slice a2 asn a2c] 69)).alloc (.cells #[.bool bl, .slice b0 ben b0c, .slice b1 bkn b1c, .slice b2 bsn b2c] 69) = W := ⟨_, rfl⟩
    have hp : Bx w7 w6.heap.size al (.slice a0 aen a0c) (.slice a1 akn a1c) (.slice a2 asn a2c) := by rw [← hw7]; exact (Bx.new _ _ _ _ _ _).below ((Below.refl _ _).alloc (Nat.le_refl _) _)
    have hq : Bx w7 (w6.heap.size + 1) bl (.slice b0 ben b0c) (.slice b1 bkn b1c) (.slice b2 bsn b2c) := by
      rw [← hw7]
      have := Bx.new (w6.alloc (.cells #[.bool al, .slice a0 aen a0c, .slice a1 akn a1c, .slice a2 asn a2c] 69)) bl (.slice b0 ben b0c) (.slice b1 bkn b1c) (.slice b2 bsn b2c) 69
      rw [show (w6.alloc (.cells #[.bool al, .slice a0 aen a0c, .slice a1 akn a1c, .slice a2 asn a2c] 69)).heap.size = w6.heap.size + 1 by simp] at this
      exact this
    have b7 : Below w6.heap.size w6 w7 := by rw [← hw7]; exact ((Below.refl _ w6).alloc (Nat.le_refl _) _).alloc (by simp) _
    rw [hw7]
    clear hw7
    have HP := Lib.hid hp; have HQ := Lib.hid hq
    have HX := Lib.hid (HX.out.below b7); have HY := Lib.hid (HY.out.below b7); have HVA := Lib.hid (HVA.out.below b7); have HVB := Lib.hid (HVB.out.below b7); have HW := Lib.hid (HW.out.below b7); have HQV := Lib.hid (HQV.out.below b7); have HAV := Lib.hid (HAV.out.below b7); have HBV := Lib.hid (HBV.out.below b7); have HAE := Lib.hid (HAE.out.below b7); have HBE := Lib.hid (HBE.out.below b7)
    have hb7 := hb6.trans (b7.mono hb6.size)
    clear hp hq b7 hb6
    obtain ⟨g6, hg6⟩ : ∃ g, w6.heap.size = g := ⟨_, rfl⟩
    rw [hg6] at HP HQ ⊢
    clear hg6
    obtain ⟨x0, x1, x2, x3⟩ := HX.out
    obtain ⟨y0, y1, y2, y3⟩ := HY.out
    go_wp2_with fail
    refine (join_any _ _ _ _ _ w7 HVA.out HVB.out HBD.out HBM.out).mono ?_
    rintro r w8 ⟨xj, rfl, oj, hb8⟩
    have hjl := joinN_len (key := key) (a := ⟨true, es, ks, ss⟩) (b := ⟨lm, fs, js, ts⟩) HLA.out HLB.out
    obtain ⟨j, hj⟩ : ∃ j, joinN ⟨true, es, ks, ss⟩ key ⟨lm, fs, js, ts⟩ = j := ⟨_, rfl⟩
    rw [hj] at oj hjl
    obtain ⟨c0, c0c, c1, c1c, c2, c2c, rfl, o1, o2, _⟩ := oj
    obtain ⟨cl, hcl⟩ : ∃ x, j.leaf = x := ⟨_, rfl⟩
    obtain ⟨cen, hcen⟩ : ∃ x, j.es.length = x := ⟨_, rfl⟩
    obtain ⟨ckn, hckn⟩ : ∃ x, j.ks.length = x := ⟨_, rfl⟩
    obtain ⟨csn, hcsn⟩ : ∃ x, j.ss.length = x := ⟨_, rfl⟩
    rw [hcen, hckn] at hjl
    have HRE := Lib.hid (RowN.of o1); have HRK := Lib.hid (RowN.of o2); have HJL := Lib.hid hjl
    rw [hcen] at HRE
    rw [hckn] at HRK
    rw [hcl, hcen, hckn, hcsn]
    clear o1 o2 hcl hcen hckn hcsn hj hjl x0 x1 x2 x3 y0 y1 y2 y3
    have B8 := Lib.hid hb8
    have HX8 := Lib.hid (HX.out.below hb8); have HVA8 := Lib.hid (HVA.out.below hb8)
    clear hb8
    go_upto_region 11 with (fail)
    obtain ⟨w9, hw9⟩ : ∃ W, w8.alloc (.cells #[.bool cl, .slice c0 cen c0c, .slice c1 ckn c1c, .slice c2 csn c2c] 69) = W := ⟨_, rfl⟩
    have hj : w9.heap[w8.heap.size]? = some (.cells #[.bool cl, .slice c0 cen c0c, .slice c1 ckn c1c, .slice c2 csn c2c] 69 (0, 0)) := by rw [← hw9]; exact blk_new _ _
    have b9 : Below w8.heap.size w8 w9 := by rw [← hw9]; exact (Below.refl _ w8).alloc (Nat.le_refl _) _
    rw [hw9]
    clear hw9
    obtain ⟨g8, hg8⟩ : ∃ g, w8.heap.size = g := ⟨_, rfl⟩
    have B9 := Lib.hid (B8.out.trans (b9.mono B8.out.size))
    have HX9 := Lib.hid (HX8.out.below b9); have HVA9 := Lib.hid (HVA8.out.below b9); have HRE := Lib.hid (HRE.out.below b9); have HRK := Lib.hid (HRK.out.below b9)
    rw [hg8] at hj ⊢
    clear hg8 b9 HX8 HVA8 B8
    have HJ := Lib.hid hj
    clear hj
    obtain ⟨w10, hw10⟩ : ∃ W, (w9.alloc (.cells #[.int .i64 7, .int .i64 8] 3)).alloc (.cells #[.string ⟨#[113]⟩] 9) = W := ⟨_, rfl⟩
    have b10 : Below w9.heap.size w9 w10 := by rw [← hw10]; exact ((Below.refl _ w9).alloc (Nat.le_refl _) _).alloc (by simp) _
    have a6 : Ints w10 (.slice (some ⟨w9.heap.size, 0, none⟩) 2 2) [7, 8] := by rw [← hw10]; exact (new_int2 _ _ _ _).below ((Below.refl _ _).alloc (Nat.le_refl _) _)
    have a7 : Txts w10 (.slice (some ⟨w9.heap.size + 1, 0, none⟩) 1 1) [⟨#[113]⟩] := by
      rw [← hw10]
      have := new_txt (w9.alloc (.cells #[.int .i64 7, .int .i64 8] 3)) ⟨#[113]⟩ 9
      rw [show (w9.alloc (.cells #[.int .i64 7, .int .i64 8] 3)).heap.size = w9.heap.size + 1 by simp] at this
      exact this
    obtain ⟨s, hsl, hsc⟩ := swapk_any _ _ _ _ es ks ss w10 (HVA9.out.below b10) a6 a7 HBD.out HO.out HLA.out.2
    have HSW := Lib.hid hsc
    rw [← hw10] at HSW
    have HW10 := Lib.hid hw10
    clear hw10 a6 a7 hsc
    have B10 := Lib.hid b10
    clear b10
    obtain ⟨x0, x1, x2, x3⟩ := HX9.out
    go_wp2_with fail
    refine HSW.out.mono ?_
    rintro r w11 ⟨xs', rfl, os, hb11⟩
    rw [HW10.out] at os hb11
    obtain ⟨d0, d0c, d1, d1c, d2, d2c, rfl, _, o2, _⟩ := os
    obtain ⟨dl, hdl⟩ : ∃ x, s.leaf = x := ⟨_, rfl⟩
    obtain ⟨den, hden⟩ : ∃ x, s.es.length = x := ⟨_, rfl⟩
    obtain ⟨dkn, hdkn⟩ : ∃ x, s.ks.length = x := ⟨_, rfl⟩
    obtain ⟨dsn, hdsn⟩ : ∃ x, s.ss.length = x := ⟨_, rfl⟩
    rw [hdkn] at hsl
    have HRS := Lib.hid (RowN.of o2); have HSL := Lib.hid hsl
    rw [hdkn] at HRS
    rw [hdl, hden, hdkn, hdsn]
    have bb := B10.out.trans (hb11.mono B10.out.size)
    have HRE := Lib.hid (HRE.out.below bb); have HRK := Lib.hid (HRK.out.below bb); have HJ := Lib.hid (blk_below HJ.out bb)
    have B11 := Lib.hid (B9.out.trans (bb.mono B9.out.size))
    have HGS := Lib.hid (show w7.heap.size ≤ w10.heap.size from Nat.le_trans B9.out.size B10.out.size)
    clear o2 hdl hden hdkn hdsn hsl x0 x1 x2 x3 bb hb11 HX9 HVA9 B9 B10 HSW HW10
    go_upto_region 12 with (fail)
    obtain ⟨w12, hw12⟩ : ∃ W, w11.alloc (.cells #[.bool dl, .slice d0 den d0c, .slice d1 dkn d1c, .slice d2 dsn d2c] 69) = W := ⟨_, rfl⟩
    have hs : w12.heap[w11.heap.size]? = some (.cells #[.bool dl, .slice d0 den d0c, .slice d1 dkn d1c, .slice d2 dsn d2c] 69 (0, 0)) := by rw [← hw12]; exact blk_new _ _
    have b12 : Below w11.heap.size w11 w12 := by rw [← hw12]; exact (Below.refl _ w11).alloc (Nat.le_refl _) _
    rw [hw12]
    clear hw12
    obtain ⟨g11, hg11⟩ : ∃ g, w11.heap.size = g := ⟨_, rfl⟩
    rw [hg11] at hs ⊢
    have HKW := Lib.hid (show KW w7 g8 g11 #[.bool cl, .slice c0 cen c0c, .slice c1 ckn c1c, .slice c2 csn c2c] #[.bool dl, .slice d0 den d0c, .slice d1 dkn d1c, .slice d2 dsn d2c] c0 c1 d1 cen ckn dkn w12 from ⟨B11.out.trans (b12.mono B11.out.size), blk_below HJ.out b12, hs, HRE.out.below b12, HRK.out.below b12, (HRS.out.base HGS.out).below b12⟩)
    clear hg11 hs b12 B11 HRE HRK HRS HGS HJ
    have HCL := HJL.out
    obtain ⟨hcl1, hcl2⟩ := HCL
    have hsl := HSL.out
    go_wp2
    go_loopw [16] (fun i wr => ∃ k : Nat, k ≤ cen ∧ i = .int .i64 k ∧ KW w7 g8 g11 #[.bool cl, .slice c0 cen c0c, .slice c1 ckn c1c, .slice c2 csn c2c] #[.bool dl, .slice d0 den d0c, .slice d1 dkn d1c, .slice d2 dsn d2c] c0 c1 d1 cen ckn dkn wr) (fun i _ => cen - (intOf i).toNat)
    case atStart => exact ⟨0, Nat.zero_le _, rfl, HKW.out⟩
    case round =>
      obtain ⟨k, hkl, rfl, hkw⟩ := hrel
      have HKW := Lib.hid hkw
      clear hkw
      obtain ⟨y0, y1, y2, y3⟩ := bx_blk HKW.out.2.1
      by_cases hlt : k < cen
      · obtain ⟨g, c, rfl, hg, hc, hcs⟩ := (HKW.out.2.2.2.1).resolve_left (by omega)
        have HC := Lib.hid hc; have HG := Lib.hid hg; have HCS := Lib.hid hcs
        clear hc hg hcs
        go_wp2_with (refine wpList_store49 rfl _ _ rfl g (k * 2) c _ _ rfl rfl HC.out (by have := HCS.out; omega) ?_)
        intro w2 hwr
        have HKW2 := Lib.hid (HKW.out.wrote hwr (by decide) HG.out)
        clear hwr y0 y1 y2 y3
        go_wp2
        go_roundw
        case rel => exact ⟨k + 1, by omega, by go_num, HKW2.out⟩
        case measure => simp [intOf]; omega
      · skip
        go_wp2
        clear y0 y1 y2 y3 hkl hlt
        go_loopw [17] (fun i wr => ∃ k : Nat, k ≤ ckn ∧ i = .int .i64 k ∧ KW w7 g8 g11 #[.bool cl, .slice c0 cen c0c, .slice c1 ckn c1c, .slice c2 csn c2c] #[.bool dl, .slice d0 den d0c, .slice d1 dkn d1c, .slice d2 dsn d2c] c0 c1 d1 cen ckn dkn wr) (fun i _ => ckn - (intOf i).toNat)
        case atStart => exact ⟨0, Nat.zero_le _, rfl, HKW.out⟩
        case round =>
          obtain ⟨k, hkl, rfl, hkw⟩ := hrel
          have HKW := Lib.hid hkw
          clear hkw
          obtain ⟨y0, y1, y2, y3⟩ := bx_blk HKW.out.2.1
          by_cases hlt : k < ckn
          · obtain ⟨g, c, rfl, hg, hc, hcs⟩ := (HKW.out.2.2.2.2.1).resolve_left (by omega)
            have HC := Lib.hid hc; have HG := Lib.hid hg; have HCS := Lib.hid hcs
            clear hc hg hcs
            go_wp2_with (refine wpList_store3 rfl _ _ rfl g k c _ rfl rfl HC.out (by have := HCS.out; omega) ?_)
            intro w2 hwr
            have HKW2 := Lib.hid (HKW.out.wrote hwr (by decide) HG.out)
            clear hwr y0 y1 y2 y3
            go_wp2
            go_roundw
            case rel => exact ⟨k + 1, by omega, by go_num, HKW2.out⟩
            case measure => simp [intOf]; omega
          · skip
            have hk1 := HKW.out.1
            have HX := Lib.hid (HX.out.below hk1); have HVA := Lib.hid (HVA.out.below hk1); have HW := Lib.hid (HW.out.below hk1); have HQV := Lib.hid (HQV.out.below hk1); have HP := Lib.hid (HP.out.below hk1); have HQ := Lib.hid (HQ.out.below hk1); have HAV := Lib.hid (HAV.out.below hk1); have HBV := Lib.hid (HBV.out.below hk1); have HAE := Lib.hid (HAE.out.below hk1); have HBE := Lib.hid (HBE.out.below hk1)
            have hb8 := hb7.trans (hk1.mono hb7.size)
            clear hk1 hb7 HKW HVB HY hcl1 hcl2 hsl HJL HSL
            obtain ⟨x0, x1, x2, x3⟩ := HX.out
            go_upto_region 25 with (fail)
            clear y0 y1 y2 y3 hkl hlt x0 x1 x2 x3
            refine wp_region_any (by kernel_rfl) ?_
            refine wpAny_upto_f 7 (fun f L a W => ∃ v19 v107 v108 v109 v110 v111 v112 : Value, a = { tmps := List.toArray ((f 0) :: (f 1) :: (.string key) :: (.pointer (some ⟨w.heap.size, 0, none⟩)) :: (f 4) :: (f 5) :: (f 6) :: (.bool true) :: (f 8) :: (f 9) :: (.pointer (some ⟨gw, 0, none⟩)) :: (.pointer (some ⟨g6, 0, none⟩)) :: (.string mid) :: (.pointer (some ⟨g6 + 1, 0, none⟩)) :: (f 14) :: (f 15) :: (f 16) :: (f 17) :: (f 18) :: v19 :: (f 20) :: (f 21) :: (f 22) :: (f 23) :: (f 24) :: (f 25) :: (f 26) :: (f 27) :: (f 28) :: (f 29) :: (f 30) :: (f 31) :: (f 32) :: (f 33) :: (f 34) :: (f 35) :: (f 36) :: (f 37) :: (f 38) :: (f 39) :: (f 40) :: (f 41) :: (f 42) :: (f 43) :: (f 44) :: (f 45) :: (f 46) :: (f 47) :: (f 48) :: (f 49) :: (f 50) :: (f 51) :: (f 52) :: (f 53) :: (f 54) :: (f 55) :: (f 56) :: (f 57) :: (f 58) :: (f 59) :: (f 60) :: (f 61) :: (f 62) :: (f 63) :: (f 64) :: (f 65) :: (f 66) :: (f 67) :: (f 68) :: (f 69) :: (f 70) :: (f 71) :: (f 72) :: (f 73) :: (f 74) :: (f 75) :: (f 76) :: (f 77) :: (f 78) :: (f 79) :: (f 80) :: (f 81) :: (f 82) :: (f 83) :: (f 84) :: (f 85) :: (f 86) :: (f 87) :: (f 88) :: (f 89) :: (f 90) :: (f 91) :: (f 92) :: (f 93) :: (f 94) :: (f 95) :: (f 96) :: (f 97) :: (f 98) :: (f 99) :: (f 100) :: (f 101) :: (f 102) :: (f 103) :: (f 104) :: (f 105) :: (f 106) :: v107 :: v108 :: v109 :: v110 :: v111 :: v112 :: (f 113) :: (f 114) :: (f 115) :: (f 116) :: (f 117) :: (f 118) :: (f 119) :: (f 120) :: (f 121) :: (f 122) :: (f 123) :: (f 124) :: (f 125) :: (f 126) :: (f 127) :: (f 128) :: (f 129) :: (f 130) :: (f 131) :: (f 132) :: (f 133) :: (f 134) :: (f 135) :: (f 136) :: (f 137) :: (f 138) :: (f 139) :: (f 140) :: (f 141) :: (f 142) :: (f 143) :: (f 144) :: (f 145) :: (f 146) :: (f 147) :: (f 148) :: (f 149) :: (f 150) :: (f 151) :: (f 152) :: (f 153) :: (f 154) :: (f 155) :: (f 156) :: (f 157) :: (f 158) :: (f 159) :: (f 160) :: (f 161) :: (f 162) :: (f 163) :: (f 164) :: (f 165) :: (f 166) :: (f 167) :: (f 168) :: (f 169) :: (f 170) :: (f 171) :: (f 172) :: (f 173) :: (f 174) :: (f 175) :: (f 176) :: (f 177) :: (f 178) :: (f 179) :: (f 180) :: (f 181) :: (f 182) :: (f 183) :: (f 184) :: (f 185) :: (f 186) :: (f 187) :: (f 188) :: (f 189) :: (f 190) :: (f 191) :: (f 192) :: (f 193) :: (f 194) :: (f 195) :: (f 196) :: (f 197) :: (f 198) :: (f 199) :: (f 200) :: (f 201) :: (f 202) :: (f 203) :: (f 204) :: (f 205) :: (f 206) :: (f 207) :: (f 208) :: (f 209) :: (f 210) :: (f 211) :: (f 212) :: []), defers := [] } ∧ Below wr.heap.size wr W ∧ (Lst L 0 → v107 = .agg #[.bool true, .slice e0 en ec, .slice k0 kn kc, .slice s0 sn sc]) ∧ (Lst L 1 → NdV W v108 ⟨true, es, ks, ss⟩) ∧ (Lst L 2 → v109 = .pointer (some ⟨w.heap.size, 0, none⟩)) ∧ (Lst L 3 → v110 = .bool true) ∧ (Lst L 4 → v111 = .agg #[.bool true, .slice none 0 0, .slice none 0 0, .slice none 0 0]) ∧ (Lst L 5 → NdO W wr.heap.size v112 ⟨true, es, ks, ss ++ xs true⟩) ∧ (Lst L 6 → ∃ g, v19 = .pointer (some ⟨g, 0, none⟩) ∧ wr.heap.size ≤ g ∧ Zb W g 73)) (by decide) (by kernel_rfl) (by kernel_rfl) ?step ?fin _ _ _ _ ?ini (by simp) (fun k _ => lst_none) (by simp)
            case ini => exact ⟨_, _, _, _, _, _, _, rfl, (Below.refl _ wr).drew, fun h => absurd h lst_none, fun h => absurd h lst_none, fun h => absurd h lst_none, fun h => absurd h lst_none, fun h => absurd h lst_none, fun h => absurd h lst_none, fun h => absurd h lst_none⟩
            case step =>
              intro f L a W hI i him hi
              obtain ⟨v19, v107, v108, v109, v110, v111, v112, rfl, hb, hf⟩ := hI
              have F := Lib.hid hf
              clear hf
              rcases (show i = 0 ∨ i = 1 ∨ i = 2 ∨ i = 3 ∨ i = 4 ∨ i = 5 ∨ i = 6 by omega) with rfl | rfl | rfl | rfl | rfl | rfl | rfl
              · clear him
                obtain ⟨b0, b1, b2, b3⟩ := HX.out.below hb
                have HI := Lib.hid hi
                clear hi
                refine wpOp_step (o := _) rfl (fun K' hK => ?_)
                have HK := Lib.hid hK
                clear hK
                go_simp
                refine HK.out _ _ ⟨_, _, _, _, _, _, _, rfl, hb, fun _ => rfl, fun h => F.out.2.1 (lst_old (by decide) h), fun h => F.out.2.2.1 (lst_old (by decide) h), fun h => F.out.2.2.2.1 (lst_old (by decide) h), fun h => F.out.2.2.2.2.1 (lst_old (by decide) h), fun h => F.out.2.2.2.2.2.1 (lst_old (by decide) h), fun h => F.out.2.2.2.2.2.2 (lst_old (by decide) h)⟩
              · clear him
                have p0 := F.out.1 (ready_needs hi (by kernel_rfl))
                subst p0
                have HI := Lib.hid hi
                clear hi
                refine wpOp_step (o := _) rfl (fun K' hK => ?_)
                have HK := Lib.hid hK
                clear hK
                go_simp
                refine (of_any _ ⟨true, es, ks, ss⟩ W (HVA.out.below hb)).mono ?_
                rintro r W2 ⟨x, rfl, hown, hb2⟩
                refine HK.out _ _ ⟨_, _, _, _, _, _, _, rfl, (hb.trans (hb2.mono hb.size)), fun h => F.out.1 (lst_old (by decide) h), fun _ => hown, fun h => F.out.2.2.1 (lst_old (by decide) h), fun h => F.out.2.2.2.1 (lst_old (by decide) h), fun h => F.out.2.2.2.2.1 (lst_old (by decide) h), fun h => NdO.below (F.out.2.2.2.2.2.1 (lst_old (by decide) h)) hb2, fun h => (let ⟨g, e1, e2, e3⟩ := F.out.2.2.2.2.2.2 (lst_old (by decide) h); ⟨g, e1, e2, e3.below hb2⟩)⟩
              · clear him
                have HI := Lib.hid hi
                clear hi
                refine wpOp_step (o := _) rfl (fun K' hK => ?_)
                have HK := Lib.hid hK
                clear hK
                go_simp
                refine HK.out _ _ ⟨_, _, _, _, _, _, _, rfl, hb, fun h => F.out.1 (lst_old (by decide) h), fun h => F.out.2.1 (lst_old (by decide) h), fun _ => rfl, fun h => F.out.2.2.2.1 (lst_old (by decide) h), fun h => F.out.2.2.2.2.1 (lst_old (by decide) h), fun h => F.out.2.2.2.2.2.1 (lst_old (by decide) h), fun h => F.out.2.2.2.2.2.2 (lst_old (by decide) h)⟩
              · clear him
                have p2 := F.out.2.2.1 (ready_needs hi (by kernel_rfl))
                subst p2
                obtain ⟨b0, b1, b2, b3⟩ := HX.out.below hb
                have HI := Lib.hid hi
                clear hi
                refine wpOp_step (o := _) rfl (fun K' hK => ?_)
                have HK := Lib.hid hK
                clear hK
                go_simp
                refine HK.out _ _ ⟨_, _, _, _, _, _, _, rfl, hb, fun h => F.out.1 (lst_old (by decide) h), fun h => F.out.2.1 (lst_old (by decide) h), fun h => F.out.2.2.1 (lst_old (by decide) h), fun _ => rfl, fun h => F.out.2.2.2.2.1 (lst_old (by decide) h), fun h => F.out.2.2.2.2.2.1 (lst_old (by decide) h), fun h => F.out.2.2.2.2.2.2 (lst_old (by decide) h)⟩
              · clear him
                have p3 := F.out.2.2.2.1 (ready_needs hi (by kernel_rfl))
                subst p3
                have HI := Lib.hid hi
                clear hi
                refine wpOp_step (o := _) rfl (fun K' hK => ?_)
                have HK := Lib.hid hK
                clear hK
                go_simp
                refine HK.out _ _ ⟨_, _, _, _, _, _, _, rfl, hb, fun h => F.out.1 (lst_old (by decide) h), fun h => F.out.2.1 (lst_old (by decide) h), fun h => F.out.2.2.1 (lst_old (by decide) h), fun h => F.out.2.2.2.1 (lst_old (by decide) h), fun _ => rfl, fun h => F.out.2.2.2.2.2.1 (lst_old (by decide) h), fun h => F.out.2.2.2.2.2.2 (lst_old (by decide) h)⟩
              · clear him
                have p1 := F.out.2.1 (ready_needs hi (by kernel_rfl))
                have p4 := F.out.2.2.2.2.1 (ready_needs hi (by kernel_rfl))
                have P1 := Lib.hid p1
                clear p1
                subst p4
                have HI := Lib.hid hi
                clear hi
                refine wpOp_step (o := _) rfl (fun K' hK => ?_)
                have HK := Lib.hid hK
                clear hK
                go_simp
                refine (rjoin_x _ true es ks ss W P1.out HBD.out).mono ?_
                rintro r W2 ⟨x, rfl, hown, hb2⟩
                refine HK.out _ _ ⟨_, _, _, _, _, _, _, rfl, (hb.trans (hb2.mono hb.size)), fun h => F.out.1 (lst_old (by decide) h), fun h => NdV.below (F.out.2.1 (lst_old (by decide) h)) hb2, fun h => F.out.2.2.1 (lst_old (by decide) h), fun h => F.out.2.2.2.1 (lst_old (by decide) h), fun h => F.out.2.2.2.2.1 (lst_old (by decide) h), fun _ => NdO.mono hown hb.size, fun h => (let ⟨g, e1, e2, e3⟩ := F.out.2.2.2.2.2.2 (lst_old (by decide) h); ⟨g, e1, e2, e3.below hb2⟩)⟩
              · clear him
                have HI := Lib.hid hi
                clear hi
                refine wpOp_step (o := _) rfl (fun K' hK => ?_)
                have HK := Lib.hid hK
                clear hK
                go_simp
                refine HK.out _ _ ⟨_, _, _, _, _, _, _, rfl, (hb.alloc hb.size _), fun h => F.out.1 (lst_old (by decide) h), fun h => NdV.below (F.out.2.1 (lst_old (by decide) h)) ((Below.refl _ W).alloc (Nat.le_refl _) _), fun h => F.out.2.2.1 (lst_old (by decide) h), fun h => F.out.2.2.2.1 (lst_old (by decide) h), fun h => F.out.2.2.2.2.1 (lst_old (by decide) h), fun h => NdO.below (F.out.2.2.2.2.2.1 (lst_old (by decide) h)) ((Below.refl _ W).alloc (Nat.le_refl _) _), fun _ => ⟨W.heap.size, rfl, hb.size, Zb.new W _ _ _ _ _⟩⟩
            case fin =>
              intro f a W hI
              obtain ⟨v19, v107, v108, v109, v110, v111, v112, rfl, hb, hf⟩ := hI
              have p0 := hf.1 rfl
              have p1 := hf.2.1 rfl
              have p2 := hf.2.2.1 rfl
              have p3 := hf.2.2.2.1 rfl
              have p4 := hf.2.2.2.2.1 rfl
              have p5 := hf.2.2.2.2.2.1 rfl
              have p6 := hf.2.2.2.2.2.2 rfl
              clear hf
              subst p0
              clear p1
              subst p2
              subst p3
              subst p4
              have uO := Lib.hid p5
              obtain ⟨u0, u0c, u1, u1c, u2, u2c, r5, _, _, _⟩ := p5
              dsimp only at r5
              rw [HEN.out, HKN.out] at r5
              obtain ⟨un, hwn⟩ : ∃ x, (ss ++ xs true).length = x := ⟨_, rfl⟩
              rw [hwn] at r5
              subst r5
              clear hwn
              obtain ⟨gu, r6, hg, hzb⟩ := p6
              subst r6
              refine wpAny_all (rs := [7]) (by kernel_rfl) (by simp) ?_
              intro i' hi'
              obtain rfl := List.mem_singleton.1 hi'
              have HZG := Lib.hid hzb
              obtain ⟨z0a, z0b, z0c, z0d, hz0⟩ := hzb
              have c00 : World.cell? (W) ⟨gu, 0, none⟩ = some z0a := by rw [blk_cell hz0]; rfl
              have f00 := blk_free hz0 0
              have hz00 := blk_set hz0 0 (.bool true)
              have c01 : World.cell? (World.setCell (W) ⟨gu, 0, none⟩ (.bool true)) ⟨gu, 1, none⟩ = some z0b := by rw [blk_cell hz00]; rfl
              have f01 := blk_free hz00 1
              have hz01 := blk_set hz00 1 (.slice u0 en u0c)
              have c02 : World.cell? (World.setCell (World.setCell (W) ⟨gu, 0, none⟩ (.bool true)) ⟨gu, 1, none⟩ (.slice u0 en u0c)) ⟨gu, 2, none⟩ = some z0c := by rw [blk_cell hz01]; rfl
              have f02 := blk_free hz01 2
              have hz02 := blk_set hz01 2 (.slice u1 kn u1c)
              have c03 : World.cell? (World.setCell (World.setCell (World.setCell (W) ⟨gu, 0, none⟩ (.bool true)) ⟨gu, 1, none⟩ (.slice u0 en u0c)) ⟨gu, 2, none⟩ (.slice u1 kn u1c)) ⟨gu, 3, none⟩ = some z0d := by rw [blk_cell hz02]; rfl
              have f03 := blk_free hz02 3
              have hz03 := blk_set hz02 3 (.slice u2 un u2c)
              have HZ0 := Lib.hid hz03
              clear hz0 hz00 hz01 hz02 hz03
              refine wpOp_step (o := _) rfl (fun K' hK => ?_)
              have HKK := Lib.hid hK
              clear hK
              go_simp
              refine HKK.out _ _ (wpAny_done (by kernel_rfl) ?_ _)
              have hon : Only gu W (World.setCell (World.setCell (World.setCell (World.setCell (W) ⟨gu, 0, none⟩ (.bool true)) ⟨gu, 1, none⟩ (.slice u0 en u0c)) ⟨gu, 2, none⟩ (.slice u1 kn u1c)) ⟨gu, 3, none⟩ (.slice u2 un u2c)) := (((Only.set _ _ _).trans (Only.set _ _ _)).trans (Only.set _ _ _)).trans (Only.set _ _ _)
              obtain ⟨w13, hw13⟩ : ∃ X, World.setCell (World.setCell (World.setCell (World.setCell (W) ⟨gu, 0, none⟩ (.bool true)) ⟨gu, 1, none⟩ (.slice u0 en u0c)) ⟨gu, 2, none⟩ (.slice u1 kn u1c)) ⟨gu, 3, none⟩ (.slice u2 un u2c) = X := ⟨_, rfl⟩
              rw [hw13] at HZ0 hon ⊢
              clear hw13
              have hb9' : Below wr.heap.size wr w13 := hb.trans (hon.to_below hg hb.size)
              obtain ⟨_, _, _, _, hzg⟩ := HZG.out
              have huo := NdO.other uO.out hzg hon (by decide) (by decide) (by decide)
              have HUV := Lib.hid huo.val
              have HU := Lib.hid (bx_blk73 HZ0.out)
              have HX := Lib.hid (HX.out.below hb9'); have HVA := Lib.hid (HVA.out.below hb9'); have HW := Lib.hid (HW.out.below hb9'); have HQV := Lib.hid (HQV.out.below hb9'); have HP := Lib.hid (HP.out.below hb9'); have HQ := Lib.hid (HQ.out.below hb9'); have HAV := Lib.hid (HAV.out.below hb9'); have HBV := Lib.hid (HBV.out.below hb9'); have HAE := Lib.hid (HAE.out.below hb9'); have HBE := Lib.hid (HBE.out.below hb9')
              have hb9 := hb8.trans (hb9'.mono hb8.size)
              clear hb9' hon hg hb huo hb8
              have HSM := Lib.hid (nsame_any _ _ _ _ w13 HQV.out HUV.out)
              rw [show NSm ⟨true, es, ks, ss ++ xs true⟩ ⟨true, es, ks, ss ++ xs true⟩ w13 = fun r w' => r = .returned (.bool true) ∧ Below w13.heap.size w13 w' from by unfold NSm; rw [decide_eq_true rfl]] at HSM
              obtain ⟨y0, y1, y2, y3⟩ := HW.out
              obtain ⟨z0, z1, z2, z3⟩ := HU.out
              go_wp2_with fail
              refine HSM.out.mono ?_
              rintro r w14 ⟨rfl, hb10⟩
              have HX := Lib.hid (HX.out.below hb10); have HVA := Lib.hid (HVA.out.below hb10); have HP := Lib.hid (HP.out.below hb10); have HQ := Lib.hid (HQ.out.below hb10); have HAV := Lib.hid (HAV.out.below hb10); have HBV := Lib.hid (HBV.out.below hb10); have HAE := Lib.hid (HAE.out.below hb10); have HBE := Lib.hid (HBE.out.below hb10)
              have hb10 := hb9.trans (hb10.mono hb9.size)
              clear y0 y1 y2 y3 z0 z1 z2 z3 hb9 HU HW HUV HQV HSM
              obtain ⟨x0, x1, x2, x3⟩ := HX.out
              have HVE := Lib.hid (ndv_ents HVA.out); have HAE := Lib.hid (ndv_ents HAV.out); have HBE := Lib.hid (ndv_ents HBV.out)
              rcases HSP.out with hm | ⟨k, hkl, rfl, hm, rfl⟩
              · have q1 := mid_empty hm
                clear hm
                go_wp2
                go_ret
                exact ⟨rfl, hb10⟩
              have HPR := Lib.hid (prt key (nok_leaf.1 HO.out).1 hkl)
              have q1 := mid_full (nok_leaf.1 HO.out).1 hkl
              rw [← hm] at HPR q1
              clear hm HSP HAV HBV HVA
              dsimp only at HAE HBE HVE
              have HE := HPR.out
              rcases HE with ⟨u, v, h1, h2, h3, h4⟩ | ⟨u, v, h1, h2, h3, h4⟩ | ⟨h1, h2, h3⟩
              · have H1 := Lib.hid h1; have H2 := Lib.hid h2; have H3 := Lib.hid h3
                have q2 := less_t h4
                clear h1 h2 h3 h4 HPR
                go_wp2_with fail
                refine (rget_any _ es key _ HVE.out).mono ?_
                rintro r w15 ⟨rfl, hb11⟩
                rw [H1.out]
                have HAE := Lib.hid (HAE.out.below hb11); have HBE := Lib.hid (HBE.out.below hb11); have HP := Lib.hid (HP.out.below hb11); have HQ := Lib.hid (HQ.out.below hb11)
                have hb11 := hb10.trans (hb11.mono hb10.size)
                obtain ⟨y0, y1, y2, y3⟩ := HP.out
                clear hb10 x0 x1 x2 x3
                go_wp2_with fail
                refine (rget_any _ (es.take k) key _ HAE.out).mono ?_
                rintro r w16 ⟨rfl, hb12⟩
                rw [H2.out]
                have HBE := Lib.hid (HBE.out.below hb12); have HQ := Lib.hid (HQ.out.below hb12)
                have hb12 := hb11.trans (hb12.mono hb11.size)
                obtain ⟨z0, z1, z2, z3⟩ := HQ.out
                clear hb11 y0 y1 y2 y3
                go_wp2_with fail
                refine (rget_any _ (es.drop k) key _ HBE.out).mono ?_
                rintro r w17 ⟨rfl, hb13⟩
                rw [H3.out]
                have hb13 := hb12.trans (hb13.mono hb12.size)
                clear hb12 z0 z1 z2 z3
                go_wp2
                go_ret
                exact ⟨rfl, hb13⟩
              · have H1 := Lib.hid h1; have H2 := Lib.hid h2; have H3 := Lib.hid h3
                have q2 := less_f h4
                clear h1 h2 h3 h4 HPR
                go_wp2_with fail
                refine (rget_any _ es key _ HVE.out).mono ?_
                rintro r w15 ⟨rfl, hb11⟩
                rw [H1.out]
                have HAE := Lib.hid (HAE.out.below hb11); have HBE := Lib.hid (HBE.out.below hb11); have HP := Lib.hid (HP.out.below hb11); have HQ := Lib.hid (HQ.out.below hb11)
                have hb11 := hb10.trans (hb11.mono hb10.size)
                obtain ⟨y0, y1, y2, y3⟩ := HP.out
                clear hb10 x0 x1 x2 x3
                go_wp2_with fail
                refine (rget_any _ (es.take k) key _ HAE.out).mono ?_
                rintro r w16 ⟨rfl, hb12⟩
                rw [H2.out]
                have HBE := Lib.hid (HBE.out.below hb12); have HQ := Lib.hid (HQ.out.below hb12)
                have hb12 := hb11.trans (hb12.mono hb11.size)
                obtain ⟨z0, z1, z2, z3⟩ := HQ.out
                clear hb11 y0 y1 y2 y3
                go_wp2_with fail
                refine (rget_any _ (es.drop k) key _ HBE.out).mono ?_
                rintro r w17 ⟨rfl, hb13⟩
                rw [H3.out]
                have hb13 := hb12.trans (hb13.mono hb12.size)
                clear hb12 z0 z1 z2 z3
                go_wp2
                go_ret
                exact ⟨rfl, hb13⟩
              · have H1 := Lib.hid h1; have H2 := Lib.hid h2; have H3 := Lib.hid h3
                skip
                clear h1 h2 h3  HPR
                go_wp2_with fail
                refine (rget_any _ es key _ HVE.out).mono ?_
                rintro r w15 ⟨rfl, hb11⟩
                rw [H1.out]
                have HAE := Lib.hid (HAE.out.below hb11); have HBE := Lib.hid (HBE.out.below hb11); have HP := Lib.hid (HP.out.below hb11); have HQ := Lib.hid (HQ.out.below hb11)
                have hb11 := hb10.trans (hb11.mono hb10.size)
                obtain ⟨y0, y1, y2, y3⟩ := HP.out
                clear hb10 x0 x1 x2 x3
                go_wp2_with fail
                refine (rget_any _ (es.take k) key _ HAE.out).mono ?_
                rintro r w16 ⟨rfl, hb12⟩
                rw [H2.out]
                have HBE := Lib.hid (HBE.out.below hb12); have HQ := Lib.hid (HQ.out.below hb12)
                have hb12 := hb11.trans (hb12.mono hb11.size)
                obtain ⟨z0, z1, z2, z3⟩ := HQ.out
                clear hb11 y0 y1 y2 y3
                go_wp2_with fail
                refine (rget_any _ (es.drop k) key _ HBE.out).mono ?_
                rintro r w17 ⟨rfl, hb13⟩
                rw [H3.out]
                have hb13 := hb12.trans (hb13.mono hb12.size)
                clear hb12 z0 z1 z2 z3
                go_wp2
                go_ret
                exact ⟨rfl, hb13⟩
set_option maxRecDepth 100000 in
set_option maxHeartbeats 16000000 in
theorem nkept_false (va vb : Value) (es : List Ent) (ks : List Int) (ss : List ByteArray) (m : M.Nd) (key : ByteArray) (w : World) (ha : NdV w va ⟨false, es, ks, ss⟩) (hb : NdV w vb m) :
    Calls Try.prog 15 #[va, vb, .string key] w fun r w' => r = .returned (.bool true) ∧ Below w.heap.size w w' := by
  have HVA := Lib.hid ha; have HVB := Lib.hid hb
  obtain ⟨lm, fs, js, ts⟩ := m
  obtain ⟨e0, ec, k0, kc, s0, sc, rfl, _, _, _⟩ := ha
  obtain ⟨f0, fc, j0, jc, t0, tc, rfl, _, _, _⟩ := hb
  dsimp only at HVA HVB ⊢
  obtain ⟨en, hen⟩ : ∃ x, es.length = x := ⟨_, rfl⟩
  obtain ⟨kn, hkn⟩ : ∃ x, ks.length = x := ⟨_, rfl⟩
  obtain ⟨sn, hsn⟩ : ∃ x, ss.length = x := ⟨_, rfl⟩
  obtain ⟨fn, hfn⟩ : ∃ x, fs.length = x := ⟨_, rfl⟩
  obtain ⟨jn, hjn⟩ : ∃ x, js.length = x := ⟨_, rfl⟩
  obtain ⟨tn, htn⟩ : ∃ x, ts.length = x := ⟨_, rfl⟩
  rw [hen, hkn, hsn] at HVA ⊢
  rw [hfn, hjn, htn] at HVB ⊢
  have HEN := Lib.hid hen; have HKN := Lib.hid hkn; have HSN := Lib.hid hsn
  clear hen hkn hsn hfn hjn htn
  go_enter Try.func15, Try.ntmps15
  go_upto_region 1 with (fail)
  obtain ⟨wa, hwa⟩ : ∃ W, w.alloc (.cells #[.bool false, .slice e0 en ec, .slice k0 kn kc, .slice s0 sn sc] 69) = W := ⟨_, rfl⟩
  have hza : wa.heap.size = w.heap.size + 1 := by rw [← hwa]; simp
  have hx : Bx wa w.heap.size false (.slice e0 en ec) (.slice k0 kn kc) (.slice s0 sn sc) := by rw [← hwa]; exact Bx.new _ _ _ _ _ _
  have hba : Below w.heap.size w wa := by rw [← hwa]; exact (Below.refl _ w).alloc (Nat.le_refl _) _
  rw [hwa]
  clear hwa
  obtain ⟨wb, hwb⟩ : ∃ W, wa.alloc (.cells #[.bool lm, .slice f0 fn fc, .slice j0 jn jc, .slice t0 tn tc] 69) = W := ⟨_, rfl⟩
  have hy : Bx wb (w.heap.size + 1) lm (.slice f0 fn fc) (.slice j0 jn jc) (.slice t0 tn tc) := by rw [← hwb, ← hza]; exact Bx.new _ _ _ _ _ _
  have hbb : Below wa.heap.size wa wb := by rw [← hwb]; exact (Below.refl _ wa).alloc (Nat.le_refl _) _
  rw [hwb]
  clear hwb
  have HX := Lib.hid (hx.below hbb); have HY := Lib.hid hy
  have hb0 := hba.trans (hbb.mono hba.size)
  clear hx hy hba hbb hza
  go_wp2_with fail
  refine (nworks_any _).mono ?_
  rintro r w1 ⟨rfl, hb1⟩
  have HX := Lib.hid (HX.out.below hb1); have HY := Lib.hid (HY.out.below hb1)
  have hb1 := hb0.trans (hb1.mono hb0.size)
  clear hb0
  obtain ⟨x0, x1, x2, x3⟩ := HX.out
  go_wp2_with fail
  refine (nover_any _ _ _ (HVA.out.below hb1)).mono ?_
  rintro r w2 ⟨much, rfl, hsma, hb2⟩
  have HX := Lib.hid (HX.out.below hb2); have HY := Lib.hid (HY.out.below hb2)
  have HSA := Lib.hid hsma
  have hb2 := hb1.trans (hb2.mono hb1.size)
  clear hb1 hsma x0 x1 x2 x3
  obtain ⟨y0, y1, y2, y3⟩ := HY.out
  go_wp2_with fail
  refine (nover_any _ _ _ (HVB.out.below hb2)).mono ?_
  rintro r w3 ⟨more, rfl, hsmb, hb3⟩
  have HX := Lib.hid (HX.out.below hb3); have HY := Lib.hid (HY.out.below hb3)
  have HSB := Lib.hid hsmb
  have hb3 := hb2.trans (hb3.mono hb2.size)
  clear hb2 hsmb y0 y1 y2 y3
  rcases much with _ | _
  case true =>
    go_wp2
    go_ret
    exact ⟨rfl, hb3⟩
  rcases more with _ | _
  case true =>
    go_wp2
    go_ret
    exact ⟨rfl, hb3⟩
  by_cases hk60 : 60 < key.size
  · go_wp2
    go_ret
    exact ⟨rfl, hb3⟩
  have HBD := Lib.hid (small_bd (HSA.out rfl)); have HBM := Lib.hid (small_bd (HSB.out rfl))
  have hsa := HSA.out rfl
  have hsb := HSB.out rfl
  have HLA := Lib.hid (show es.length ≤ 60 ∧ ks.length ≤ 60 from ⟨hsa.1.1, hsa.2.1⟩); have HLB := Lib.hid (show fs.length ≤ 60 ∧ js.length ≤ 60 from ⟨hsb.1.1, hsb.2.1⟩)
  clear hsa hsb HSA HSB
  have HRT := Lib.hid (nright_any _ _ w3 (HVA.out.below hb3) HBD.out)
  obtain ⟨x0, x1, x2, x3⟩ := HX.out
  by_cases ho : M.NOk ⟨false, es, ks, ss⟩
  case neg =>
    rw [decide_eq_false ho] at HRT
    clear ho
    go_wp2_with fail
    refine HRT.out.mono ?_
    rintro r w4 ⟨rfl, hb4⟩
    have hb4 := hb3.trans (hb4.mono hb3.size)
    clear x0 x1 x2 x3
    go_wp2
    go_ret
    exact ⟨rfl, hb4⟩
  rw [decide_eq_true ho] at HRT
  have HO := Lib.hid ho
  clear ho
  go_wp2_with fail
  refine HRT.out.mono ?_
  rintro r w4 ⟨rfl, hb4⟩
  have HX := Lib.hid (HX.out.below hb4); have HY := Lib.hid (HY.out.below hb4)
  have hb4 := hb3.trans (hb4.mono hb3.size)
  have HVA := Lib.hid (HVA.out.below hb4); have HVB := Lib.hid (HVB.out.below hb4)
  clear x0 x1 x2 x3 hb3 HRT hk60
  go_upto_region 8 with (fail)
  refine wp_region_any (by kernel_rfl) ?_
  refine wpAny_upto_f 7 (fun f L a W => ∃ v10 v50 v51 v52 v53 v54 v55 : Value, a = { tmps := List.toArray ((f 0) :: (f 1) :: (.string key) :: (.pointer (some ⟨w.heap.size, 0, none⟩)) :: (.pointer (some ⟨w.heap.size + 1, 0, none⟩)) :: (f 5) :: (f 6) :: (.bool true) :: (f 8) :: (f 9) :: v10 :: (f 11) :: (f 12) :: (f 13) :: (f 14) :: (f 15) :: (f 16) :: (f 17) :: (f 18) :: (f 19) :: (f 20) :: (f 21) :: (f 22) :: (f 23) :: (f 24) :: (f 25) :: (f 26) :: (f 27) :: (f 28) :: (f 29) :: (f 30) :: (f 31) :: (f 32) :: (f 33) :: (f 34) :: (f 35) :: (f 36) :: (f 37) :: (f 38) :: (f 39) :: (f 40) :: (f 41) :: (f 42) :: (f 43) :: (f 44) :: (f 45) :: (f 46) :: (f 47) :: (f 48) :: (f 49) :: v50 :: v51 :: v52 :: v53 :: v54 :: v55 :: (f 56) :: (f 57) :: (f 58) :: (f 59) :: (f 60) :: (f 61) :: (f 62) :: (f 63) :: (f 64) :: (f 65) :: (f 66) :: (f 67) :: (f 68) :: (f 69) :: (f 70) :: (f 71) :: (f 72) :: (f 73) :: (f 74) :: (f 75) :: (f 76) :: (f 77) :: (f 78) :: (f 79) :: (f 80) :: (f 81) :: (f 82) :: (f 83) :: (f 84) :: (f 85) :: (f 86) :: (f 87) :: (f 88) :: (f 89) :: (f 90) :: (f 91) :: (f 92) :: (f 93) :: (f 94) :: (f 95) :: (f 96) :: (f 97) :: (f 98) :: (f 99) :: (f 100) :: (f 101) :: (f 102) :: (f 103) :: (f 104) :: (f 105) :: (f 106) :: (f 107) :: (f 108) :: (f 109) :: (f 110) :: (f 111) :: (f 112) :: (f 113) :: (f 114) :: (f 115) :: (f 116) :: (f 117) :: (f 118) :: (f 119) :: (f 120) :: (f 121) :: (f 122) :: (f 123) :: (f 124) :: (f 125) :: (f 126) :: (f 127) :: (f 128) :: (f 129) :: (f 130) :: (f 131) :: (f 132) :: (f 133) :: (f 134) :: (f 135) :: (f 136) :: (f 137) :: (f 138) :: (f 139) :: (f 140) :: (f 141) :: (f 142) :: (f 143) :: (f 144) :: (f 145) :: (f 146) :: (f 147) :: (f 148) :: (f 149) :: (f 150) :: (f 151) :: (f 152) :: (f 153) :: (f 154) :: (f 155) :: (f 156) :: (f 157) :: (f 158) :: (f 159) :: (f 160) :: (f 161) :: (f 162) :: (f 163) :: (f 164) :: (f 165) :: (f 166) :: (f 167) :: (f 168) :: (f 169) :: (f 170) :: (f 171) :: (f 172) :: (f 173) :: (f 174) :: (f 175) :: (f 176) :: (f 177) :: (f 178) :: (f 179) :: (f 180) :: (f 181) :: (f 182) :: (f 183) :: (f 184) :: (f 185) :: (f 186) :: (f 187) :: (f 188) :: (f 189) :: (f 190) :: (f 191) :: (f 192) :: (f 193) :: (f 194) :: (f 195) :: (f 196) :: (f 197) :: (f 198) :: (f 199) :: (f 200) :: (f 201) :: (f 202) :: (f 203) :: (f 204) :: (f 205) :: (f 206) :: (f 207) :: (f 208) :: (f 209) :: (f 210) :: (f 211) :: (f 212) :: []), defers := [] } ∧ Below w4.heap.size w4 W ∧ (Lst L 0 → v50 = .agg #[.bool false, .slice e0 en ec, .slice k0 kn kc, .slice s0 sn sc]) ∧ (Lst L 1 → NdV W v51 ⟨false, es, ks, ss⟩) ∧ (Lst L 2 → v52 = .pointer (some ⟨w.heap.size, 0, none⟩)) ∧ (Lst L 3 → v53 = .bool false) ∧ (Lst L 4 → v54 = .agg #[.bool false, .slice none 0 0, .slice none 0 0, .slice none 0 0]) ∧ (Lst L 5 → NdO W w4.heap.size v55 ⟨false, es, ks, ss ++ xs false⟩) ∧ (Lst L 6 → ∃ g, v10 = .pointer (some ⟨g, 0, none⟩) ∧ w4.heap.size ≤ g ∧ Zb W g 73)) (by decide) (by kernel_rfl) (by kernel_rfl) ?step ?fin _ _ _ _ ?ini (by simp) (fun k _ => lst_none) (by simp)
  case ini => exact ⟨_, _, _, _, _, _, _, rfl, (Below.refl _ w4).drew, fun h => absurd h lst_none, fun h => absurd h lst_none, fun h => absurd h lst_none, fun h => absurd h lst_none, fun h => absurd h lst_none, fun h => absurd h lst_none, fun h => absurd h lst_none⟩
  case step =>
    intro f L a W hI i him hi
    obtain ⟨v10, v50, v51, v52, v53, v54, v55, rfl, hb, hf⟩ := hI
    have F := Lib.hid hf
    clear hf
    rcases (show i = 0 ∨ i = 1 ∨ i = 2 ∨ i = 3 ∨ i = 4 ∨ i = 5 ∨ i = 6 by omega) with rfl | rfl | rfl | rfl | rfl | rfl | rfl
    · clear him
      obtain ⟨b0, b1, b2, b3⟩ := HX.out.below hb
      have HI := Lib.hid hi
      clear hi
      refine wpOp_step (o := _) rfl (fun K' hK => ?_)
      have HK := Lib.hid hK
      clear hK
      go_simp
      refine HK.out _ _ ⟨_, _, _, _, _, _, _, rfl, hb, fun _ => rfl, fun h => F.out.2.1 (lst_old (by decide) h), fun h => F.out.2.2.1 (lst_old (by decide) h), fun h => F.out.2.2.2.1 (lst_old (by decide) h), fun h => F.out.2.2.2.2.1 (lst_old (by decide) h), fun h => F.out.2.2.2.2.2.1 (lst_old (by decide) h), fun h => F.out.2.2.2.2.2.2 (lst_old (by decide) h)⟩
    · clear him
      have p0 := F.out.1 (ready_needs hi (by kernel_rfl))
      subst p0
      have HI := Lib.hid hi
      clear hi
      refine wpOp_step (o := _) rfl (fun K' hK => ?_)
      have HK := Lib.hid hK
      clear hK
      go_simp
      refine (of_any _ ⟨false, es, ks, ss⟩ W (HVA.out.below hb)).mono ?_
      rintro r W2 ⟨x, rfl, hown, hb2⟩
      refine HK.out _ _ ⟨_, _, _, _, _, _, _, rfl, (hb.trans (hb2.mono hb.size)), fun h => F.out.1 (lst_old (by decide) h), fun _ => hown, fun h => F.out.2.2.1 (lst_old (by decide) h), fun h => F.out.2.2.2.1 (lst_old (by decide) h), fun h => F.out.2.2.2.2.1 (lst_old (by decide) h), fun h => NdO.below (F.out.2.2.2.2.2.1 (lst_old (by decide) h)) hb2, fun h => (let ⟨g, e1, e2, e3⟩ := F.out.2.2.2.2.2.2 (lst_old (by decide) h); ⟨g, e1, e2, e3.below hb2⟩)⟩
    · clear him
      have HI := Lib.hid hi
      clear hi
      refine wpOp_step (o := _) rfl (fun K' hK => ?_)
      have HK := Lib.hid hK
      clear hK
      go_simp
      refine HK.out _ _ ⟨_, _, _, _, _, _, _, rfl, hb, fun h => F.out.1 (lst_old (by decide) h), fun h => F.out.2.1 (lst_old (by decide) h), fun _ => rfl, fun h => F.out.2.2.2.1 (lst_old (by decide) h), fun h => F.out.2.2.2.2.1 (lst_old (by decide) h), fun h => F.out.2.2.2.2.2.1 (lst_old (by decide) h), fun h => F.out.2.2.2.2.2.2 (lst_old (by decide) h)⟩
    · clear him
      have p2 := F.out.2.2.1 (ready_needs hi (by kernel_rfl))
      subst p2
      obtain ⟨b0, b1, b2, b3⟩ := HX.out.below hb
      have HI := Lib.hid hi
      clear hi
      refine wpOp_step (o := _) rfl (fun K' hK => ?_)
      have HK := Lib.hid hK
      clear hK
      go_simp
      refine HK.out _ _ ⟨_, _, _, _, _, _, _, rfl, hb, fun h => F.out.1 (lst_old (by decide) h), fun h => F.out.2.1 (lst_old (by decide) h), fun h => F.out.2.2.1 (lst_old (by decide) h), fun _ => rfl, fun h => F.out.2.2.2.2.1 (lst_old (by decide) h), fun h => F.out.2.2.2.2.2.1 (lst_old (by decide) h), fun h => F.out.2.2.2.2.2.2 (lst_old (by decide) h)⟩
    · clear him
      have p3 := F.out.2.2.2.1 (ready_needs hi (by kernel_rfl))
      subst p3
      have HI := Lib.hid hi
      clear hi
      refine wpOp_step (o := _) rfl (fun K' hK => ?_)
      have HK := Lib.hid hK
      clear hK
      go_simp
      refine HK.out _ _ ⟨_, _, _, _, _, _, _, rfl, hb, fun h => F.out.1 (lst_old (by decide) h), fun h => F.out.2.1 (lst_old (by decide) h), fun h => F.out.2.2.1 (lst_old (by decide) h), fun h => F.out.2.2.2.1 (lst_old (by decide) h), fun _ => rfl, fun h => F.out.2.2.2.2.2.1 (lst_old (by decide) h), fun h => F.out.2.2.2.2.2.2 (lst_old (by decide) h)⟩
    · clear him
      have p1 := F.out.2.1 (ready_needs hi (by kernel_rfl))
      have p4 := F.out.2.2.2.2.1 (ready_needs hi (by kernel_rfl))
      have P1 := Lib.hid p1
      clear p1
      subst p4
      have HI := Lib.hid hi
      clear hi
      refine wpOp_step (o := _) rfl (fun K' hK => ?_)
      have HK := Lib.hid hK
      clear hK
      go_simp
      refine (rjoin_x _ false es ks ss W P1.out HBD.out).mono ?_
      rintro r W2 ⟨x, rfl, hown, hb2⟩
      refine HK.out _ _ ⟨_, _, _, _, _, _, _, rfl, (hb.trans (hb2.mono hb.size)), fun h => F.out.1 (lst_old (by decide) h), fun h => NdV.below (F.out.2.1 (lst_old (by decide) h)) hb2, fun h => F.out.2.2.1 (lst_old (by decide) h), fun h => F.out.2.2.2.1 (lst_old (by decide) h), fun h => F.out.2.2.2.2.1 (lst_old (by decide) h), fun _ => NdO.mono hown hb.size, fun h => (let ⟨g, e1, e2, e3⟩ := F.out.2.2.2.2.2.2 (lst_old (by decide) h); ⟨g, e1, e2, e3.below hb2⟩)⟩
    · clear him
      have HI := Lib.hid hi
      clear hi
      refine wpOp_step (o := _) rfl (fun K' hK => ?_)
      have HK := Lib.hid hK
      clear hK
      go_simp
      refine HK.out _ _ ⟨_, _, _, _, _, _, _, rfl, (hb.alloc hb.size _), fun h => F.out.1 (lst_old (by decide) h), fun h => NdV.below (F.out.2.1 (lst_old (by decide) h)) ((Below.refl _ W).alloc (Nat.le_refl _) _), fun h => F.out.2.2.1 (lst_old (by decide) h), fun h => F.out.2.2.2.1 (lst_old (by decide) h), fun h => F.out.2.2.2.2.1 (lst_old (by decide) h), fun h => NdO.below (F.out.2.2.2.2.2.1 (lst_old (by decide) h)) ((Below.refl _ W).alloc (Nat.le_refl _) _), fun _ => ⟨W.heap.size, rfl, hb.size, Zb.new W _ _ _ _ _⟩⟩
  case fin =>
    intro f a W hI
    obtain ⟨v10, v50, v51, v52, v53, v54, v55, rfl, hb, hf⟩ := hI
    have p0 := hf.1 rfl
    have p1 := hf.2.1 rfl
    have p2 := hf.2.2.1 rfl
    have p3 := hf.2.2.2.1 rfl
    have p4 := hf.2.2.2.2.1 rfl
    have p5 := hf.2.2.2.2.2.1 rfl
    have p6 := hf.2.2.2.2.2.2 rfl
    clear hf
    subst p0
    clear p1
    subst p2
    subst p3
    subst p4
    have qO := Lib.hid p5
    obtain ⟨q0, q0c, q1, q1c, q2, q2c, r5, _, _, _⟩ := p5
    dsimp only at r5
    rw [HEN.out, HKN.out] at r5
    obtain ⟨qn, hwn⟩ : ∃ x, (ss ++ xs false).length = x := ⟨_, rfl⟩
    rw [hwn] at r5
    subst r5
    clear hwn
    obtain ⟨gw, r6, hg, hzb⟩ := p6
    subst r6
    refine wpAny_all (rs := [7]) (by kernel_rfl) (by simp) ?_
    intro i' hi'
    obtain rfl := List.mem_singleton.1 hi'
    have HZG := Lib.hid hzb
    obtain ⟨z0a, z0b, z0c, z0d, hz0⟩ := hzb
    have c00 : World.cell? (W) ⟨gw, 0, none⟩ = some z0a := by rw [blk_cell hz0]; rfl
    have f00 := blk_free hz0 0
    have hz00 := blk_set hz0 0 (.bool false)
    have c01 : World.cell? (World.setCell (W) ⟨gw, 0, none⟩ (.bool false)) ⟨gw, 1, none⟩ = some z0b := by rw [blk_cell hz00]; rfl
    have f01 := blk_free hz00 1
    have hz01 := blk_set hz00 1 (.slice q0 en q0c)
    have c02 : World.cell? (World.setCell (World.setCell (W) ⟨gw, 0, none⟩ (.bool false)) ⟨gw, 1, none⟩ (.slice q0 en q0c)) ⟨gw, 2, none⟩ = some z0c := by rw [blk_cell hz01]; rfl
    have f02 := blk_free hz01 2
    have hz02 := blk_set hz01 2 (.slice q1 kn q1c)
    have c03 : World.cell? (World.setCell (World.setCell (World.setCell (W) ⟨gw, 0, none⟩ (.bool false)) ⟨gw, 1, none⟩ (.slice q0 en q0c)) ⟨gw, 2, none⟩ (.slice q1 kn q1c)) ⟨gw, 3, none⟩ = some z0d := by rw [blk_cell hz02]; rfl
    have f03 := blk_free hz02 3
    have hz03 := blk_set hz02 3 (.slice q2 qn q2c)
    have HZ0 := Lib.hid hz03
    clear hz0 hz00 hz01 hz02 hz03
    refine wpOp_step (o := _) rfl (fun K' hK => ?_)
    have HKK := Lib.hid hK
    clear hK
    go_simp
    refine HKK.out _ _ (wpAny_done (by kernel_rfl) ?_ _)
    have hon : Only gw W (World.setCell (World.setCell (World.setCell (World.setCell (W) ⟨gw, 0, none⟩ (.bool false)) ⟨gw, 1, none⟩ (.slice q0 en q0c)) ⟨gw, 2, none⟩ (.slice q1 kn q1c)) ⟨gw, 3, none⟩ (.slice q2 qn q2c)) := (((Only.set _ _ _).trans (Only.set _ _ _)).trans (Only.set _ _ _)).trans (Only.set _ _ _)
    obtain ⟨w5, hw5⟩ : ∃ X, World.setCell (World.setCell (World.setCell (World.setCell (W) ⟨gw, 0, none⟩ (.bool false)) ⟨gw, 1, none⟩ (.slice q0 en q0c)) ⟨gw, 2, none⟩ (.slice q1 kn q1c)) ⟨gw, 3, none⟩ (.slice q2 qn q2c) = X := ⟨_, rfl⟩
    rw [hw5] at HZ0 hon ⊢
    clear hw5
    have hb5' : Below w4.heap.size w4 w5 := hb.trans (hon.to_below hg hb.size)
    obtain ⟨_, _, _, _, hzg⟩ := HZG.out
    have hqo := NdO.other qO.out hzg hon (by decide) (by decide) (by decide)
    have HQV := Lib.hid hqo.val
    have HX := Lib.hid (HX.out.below hb5'); have HY := Lib.hid (HY.out.below hb5'); have HVA := Lib.hid (HVA.out.below hb5'); have HVB := Lib.hid (HVB.out.below hb5')
    have HW := Lib.hid (bx_blk73 HZ0.out)
    have hb5 := hb4.trans (hb5'.mono hb4.size)
    clear hb5' hon hg hb hqo
    obtain ⟨a, mid, b, hsp, hcs⟩ := spliti_any _ es ks ss w5 HVA.out HBD.out HO.out
    have HSP := Lib.hid hsp; have HCS := Lib.hid hcs
    clear hsp hcs
    obtain ⟨x0, x1, x2, x3⟩ := HX.out
    go_wp2_with fail
    refine HCS.out.mono ?_
    rintro r w6 ⟨xa, xb, rfl, oa, ob, hb6⟩
    have HAV := Lib.hid oa.val; have HBV := Lib.hid ob.val
    obtain ⟨a0, a0c, a1, a1c, a2, a2c, rfl, o1, _, _⟩ := oa
    obtain ⟨b0, b0c, b1, b1c, b2, b2c, rfl, p1, _, _⟩ := ob
    have HAE := Lib.hid (Rw.own o1); have HBE := Lib.hid (Rw.own p1)
    clear o1 p1
    obtain ⟨al, hal⟩ : ∃ x, a.leaf = x := ⟨_, rfl⟩
    obtain ⟨aen, haen⟩ : ∃ x, a.es.length = x := ⟨_, rfl⟩
    obtain ⟨akn, hakn⟩ : ∃ x, a.ks.length = x := ⟨_, rfl⟩
    obtain ⟨asn, hasn⟩ : ∃ x, a.ss.length = x := ⟨_, rfl⟩
    rw [hal, haen, hakn, hasn] at HAV ⊢
    rw [haen] at HAE
    have HAL := Lib.hid hal; have HAEN := Lib.hid haen; have HAKN := Lib.hid hakn; have HASN := Lib.hid hasn
    clear hal haen hakn hasn
    obtain ⟨bl, hbl⟩ : ∃ x, b.leaf = x := ⟨_, rfl⟩
    obtain ⟨ben, hben⟩ : ∃ x, b.es.length = x := ⟨_, rfl⟩
    obtain ⟨bkn, hbkn⟩ : ∃ x, b.ks.length = x := ⟨_, rfl⟩
    obtain ⟨bsn, hbsn⟩ : ∃ x, b.ss.length = x := ⟨_, rfl⟩
    rw [hbl, hben, hbkn, hbsn] at HBV ⊢
    rw [hben] at HBE
    have HBL := Lib.hid hbl; have HBEN := Lib.hid hben; have HBKN := Lib.hid hbkn; have HBSN := Lib.hid hbsn
    clear hbl hben hbkn hbsn
    have HX := Lib.hid (HX.out.below hb6); have HY := Lib.hid (HY.out.below hb6); have HVA := Lib.hid (HVA.out.below hb6); have HVB := Lib.hid (HVB.out.below hb6); have HW := Lib.hid (HW.out.below hb6); have HQV := Lib.hid (HQV.out.below hb6)
    have hb6 := hb5.trans (hb6.mono hb5.size)
    clear x0 x1 x2 x3 hb5 HCS
    go_upto_region 10 with (fail)
    obtain ⟨w7, hw7⟩ : ∃ W, (w6.alloc (.cells #[.bool al, .slice a0 aen a0c, .slice a1 akn a1c, .slice a2 asn a2c] 69)).alloc (.cells #[.bool bl, .slice b0 ben b0c, .slice b1 bkn b1c, .slice b2 bsn b2c] 69) = W := ⟨_, rfl⟩
    have hp : Bx w7 w6.heap.size al (.slice a0 aen a0c) (.slice a1 akn a1c) (.slice a2 asn a2c) := by rw [← hw7]; exact (Bx.new _ _ _ _ _ _).below ((Below.refl _ _).alloc (Nat.le_refl _) _)
    have hq : Bx w7 (w6.heap.size + 1) bl (.slice b0 ben b0c) (.slice b1 bkn b1c) (.slice b2 bsn b2c) := by
      rw [← hw7]
      have := Bx.new (w6.alloc (.cells #[.bool al, .slice a0 aen a0c, .slice a1 akn a1c, .slice a2 asn a2c] 69)) bl (.slice b0 ben b0c) (.slice b1 bkn b1c) (.slice b2 bsn b2c) 69
      rw [show (w6.alloc (.cells #[.bool al, .slice a0 aen a0c, .slice a1 akn a1c, .slice a2 asn a2c] 69)).heap.size = w6.heap.size + 1 by simp] at this
      exact this
    have b7 : Below w6.heap.size w6 w7 := by rw [← hw7]; exact ((Below.refl _ w6).alloc (Nat.le_refl _) _).alloc (by simp) _
    rw [hw7]
    clear hw7
    have HP := Lib.hid hp; have HQ := Lib.hid hq
    have HX := Lib.hid (HX.out.below b7); have HY := Lib.hid (HY.out.below b7); have HVA := Lib.hid (HVA.out.below b7); have HVB := Lib.hid (HVB.out.below b7); have HW := Lib.hid (HW.out.below b7); have HQV := Lib.hid (HQV.out.below b7); have HAV := Lib.hid (HAV.out.below b7); have HBV := Lib.hid (HBV.out.below b7); have HAE := Lib.hid (HAE.out.below b7); have HBE := Lib.hid (HBE.out.below b7)
    have hb7 := hb6.trans (b7.mono hb6.size)
    clear hp hq b7 hb6
    obtain ⟨g6, hg6⟩ : ∃ g, w6.heap.size = g := ⟨_, rfl⟩
    rw [hg6] at HP HQ ⊢
    clear hg6
    obtain ⟨x0, x1, x2, x3⟩ := HX.out
    obtain ⟨y0, y1, y2, y3⟩ := HY.out
    go_wp2_with fail
    refine (join_any _ _ _ _ _ w7 HVA.out HVB.out HBD.out HBM.out).mono ?_
    rintro r w8 ⟨xj, rfl, oj, hb8⟩
    have hjl := joinN_len (key := key) (a := ⟨false, es, ks, ss⟩) (b := ⟨lm, fs, js, ts⟩) HLA.out HLB.out
    obtain ⟨j, hj⟩ : ∃ j, joinN ⟨false, es, ks, ss⟩ key ⟨lm, fs, js, ts⟩ = j := ⟨_, rfl⟩
    rw [hj] at oj hjl
    obtain ⟨c0, c0c, c1, c1c, c2, c2c, rfl, o1, o2, _⟩ := oj
    obtain ⟨cl, hcl⟩ : ∃ x, j.leaf = x := ⟨_, rfl⟩
    obtain ⟨cen, hcen⟩ : ∃ x, j.es.length = x := ⟨_, rfl⟩
    obtain ⟨ckn, hckn⟩ : ∃ x, j.ks.length = x := ⟨_, rfl⟩
    obtain ⟨csn, hcsn⟩ : ∃ x, j.ss.length = x := ⟨_, rfl⟩
    rw [hcen, hckn] at hjl
    have HRE := Lib.hid (RowN.of o1); have HRK := Lib.hid (RowN.of o2); have HJL := Lib.hid hjl
    rw [hcen] at HRE
    rw [hckn] at HRK
    rw [hcl, hcen, hckn, hcsn]
    clear o1 o2 hcl hcen hckn hcsn hj hjl x0 x1 x2 x3 y0 y1 y2 y3
    have B8 := Lib.hid hb8
    have HX8 := Lib.hid (HX.out.below hb8); have HVA8 := Lib.hid (HVA.out.below hb8)
    clear hb8
    go_upto_region 11 with (fail)
    obtain ⟨w9, hw9⟩ : ∃ W, w8.alloc (.cells #[.bool cl, .slice c0 cen c0c, .slice c1 ckn c1c, .slice c2 csn c2c] 69) = W := ⟨_, rfl⟩
    have hj : w9.heap[w8.heap.size]? = some (.cells #[.bool cl, .slice c0 cen c0c, .slice c1 ckn c1c, .slice c2 csn c2c] 69 (0, 0)) := by rw [← hw9]; exact blk_new _ _
    have b9 : Below w8.heap.size w8 w9 := by rw [← hw9]; exact (Below.refl _ w8).alloc (Nat.le_refl _) _
    rw [hw9]
    clear hw9
    obtain ⟨g8, hg8⟩ : ∃ g, w8.heap.size = g := ⟨_, rfl⟩
    have B9 := Lib.hid (B8.out.trans (b9.mono B8.out.size))
    have HX9 := Lib.hid (HX8.out.below b9); have HVA9 := Lib.hid (HVA8.out.below b9); have HRE := Lib.hid (HRE.out.below b9); have HRK := Lib.hid (HRK.out.below b9)
    rw [hg8] at hj ⊢
    clear hg8 b9 HX8 HVA8 B8
    have HJ := Lib.hid hj
    clear hj
    obtain ⟨w10, hw10⟩ : ∃ W, (w9.alloc (.cells #[.int .i64 7, .int .i64 8] 3)).alloc (.cells #[.string ⟨#[113]⟩] 9) = W := ⟨_, rfl⟩
    have b10 : Below w9.heap.size w9 w10 := by rw [← hw10]; exact ((Below.refl _ w9).alloc (Nat.le_refl _) _).alloc (by simp) _
    have a6 : Ints w10 (.slice (some ⟨w9.heap.size, 0, none⟩) 2 2) [7, 8] := by rw [← hw10]; exact (new_int2 _ _ _ _).below ((Below.refl _ _).alloc (Nat.le_refl _) _)
    have a7 : Txts w10 (.slice (some ⟨w9.heap.size + 1, 0, none⟩) 1 1) [⟨#[113]⟩] := by
      rw [← hw10]
      have := new_txt (w9.alloc (.cells #[.int .i64 7, .int .i64 8] 3)) ⟨#[113]⟩ 9
      rw [show (w9.alloc (.cells #[.int .i64 7, .int .i64 8] 3)).heap.size = w9.heap.size + 1 by simp] at this
      exact this
    obtain ⟨s, hsl, hsc⟩ := swapk_any _ _ _ _ es ks ss w10 (HVA9.out.below b10) a6 a7 HBD.out HO.out HLA.out.2
    have HSW := Lib.hid hsc
    rw [← hw10] at HSW
    have HW10 := Lib.hid hw10
    clear hw10 a6 a7 hsc
    have B10 := Lib.hid b10
    clear b10
    obtain ⟨x0, x1, x2, x3⟩ := HX9.out
    go_wp2_with fail
    refine HSW.out.mono ?_
    rintro r w11 ⟨xs', rfl, os, hb11⟩
    rw [HW10.out] at os hb11
    obtain ⟨d0, d0c, d1, d1c, d2, d2c, rfl, _, o2, _⟩ := os
    obtain ⟨dl, hdl⟩ : ∃ x, s.leaf = x := ⟨_, rfl⟩
    obtain ⟨den, hden⟩ : ∃ x, s.es.length = x := ⟨_, rfl⟩
    obtain ⟨dkn, hdkn⟩ : ∃ x, s.ks.length = x := ⟨_, rfl⟩
    obtain ⟨dsn, hdsn⟩ : ∃ x, s.ss.length = x := ⟨_, rfl⟩
    rw [hdkn] at hsl
    have HRS := Lib.hid (RowN.of o2); have HSL := Lib.hid hsl
    rw [hdkn] at HRS
    rw [hdl, hden, hdkn, hdsn]
    have bb := B10.out.trans (hb11.mono B10.out.size)
    have HRE := Lib.hid (HRE.out.below bb); have HRK := Lib.hid (HRK.out.below bb); have HJ := Lib.hid (blk_below HJ.out bb)
    have B11 := Lib.hid (B9.out.trans (bb.mono B9.out.size))
    have HGS := Lib.hid (show w7.heap.size ≤ w10.heap.size from Nat.le_trans B9.out.size B10.out.size)
    clear o2 hdl hden hdkn hdsn hsl x0 x1 x2 x3 bb hb11 HX9 HVA9 B9 B10 HSW HW10
    go_upto_region 12 with (fail)
    obtain ⟨w12, hw12⟩ : ∃ W, w11.alloc (.cells #[.bool dl, .slice d0 den d0c, .slice d1 dkn d1c, .slice d2 dsn d2c] 69) = W := ⟨_, rfl⟩
    have hs : w12.heap[w11.heap.size]? = some (.cells #[.bool dl, .slice d0 den d0c, .slice d1 dkn d1c, .slice d2 dsn d2c] 69 (0, 0)) := by rw [← hw12]; exact blk_new _ _
    have b12 : Below w11.heap.size w11 w12 := by rw [← hw12]; exact (Below.refl _ w11).alloc (Nat.le_refl _) _
    rw [hw12]
    clear hw12
    obtain ⟨g11, hg11⟩ : ∃ g, w11.heap.size = g := ⟨_, rfl⟩
    rw [hg11] at hs ⊢
    have HKW := Lib.hid (show KW w7 g8 g11 #[.bool cl, .slice c0 cen c0c, .slice c1 ckn c1c, .slice c2 csn c2c] #[.bool dl, .slice d0 den d0c, .slice d1 dkn d1c, .slice d2 dsn d2c] c0 c1 d1 cen ckn dkn w12 from ⟨B11.out.trans (b12.mono B11.out.size), blk_below HJ.out b12, hs, HRE.out.below b12, HRK.out.below b12, (HRS.out.base HGS.out).below b12⟩)
    clear hg11 hs b12 B11 HRE HRK HRS HGS HJ
    have HCL := HJL.out
    obtain ⟨hcl1, hcl2⟩ := HCL
    have hsl := HSL.out
    go_wp2
    go_loopw [16] (fun i wr => ∃ k : Nat, k ≤ cen ∧ i = .int .i64 k ∧ KW w7 g8 g11 #[.bool cl, .slice c0 cen c0c, .slice c1 ckn c1c, .slice c2 csn c2c] #[.bool dl, .slice d0 den d0c, .slice d1 dkn d1c, .slice d2 dsn d2c] c0 c1 d1 cen ckn dkn wr) (fun i _ => cen - (intOf i).toNat)
    case atStart => exact ⟨0, Nat.zero_le _, rfl, HKW.out⟩
    case round =>
      obtain ⟨k, hkl, rfl, hkw⟩ := hrel
      have HKW := Lib.hid hkw
      clear hkw
      obtain ⟨y0, y1, y2, y3⟩ := bx_blk HKW.out.2.1
      by_cases hlt : k < cen
      · obtain ⟨g, c, rfl, hg, hc, hcs⟩ := (HKW.out.2.2.2.1).resolve_left (by omega)
        have HC := Lib.hid hc; have HG := Lib.hid hg; have HCS := Lib.hid hcs
        clear hc hg hcs
        go_wp2_with (refine wpList_store49 rfl _ _ rfl g (k * 2) c _ _ rfl rfl HC.out (by have := HCS.out; omega) ?_)
        intro w2 hwr
        have HKW2 := Lib.hid (HKW.out.wrote hwr (by decide) HG.out)
        clear hwr y0 y1 y2 y3
        go_wp2
        go_roundw
        case rel => exact ⟨k + 1, by omega, by go_num, HKW2.out⟩
        case measure => simp [intOf]; omega
      · skip
        go_wp2
        clear y0 y1 y2 y3 hkl hlt
        go_loopw [17] (fun i wr => ∃ k : Nat, k ≤ ckn ∧ i = .int .i64 k ∧ KW w7 g8 g11 #[.bool cl, .slice c0 cen c0c, .slice c1 ckn c1c, .slice c2 csn c2c] #[.bool dl, .slice d0 den d0c, .slice d1 dkn d1c, .slice d2 dsn d2c] c0 c1 d1 cen ckn dkn wr) (fun i _ => ckn - (intOf i).toNat)
        case atStart => exact ⟨0, Nat.zero_le _, rfl, HKW.out⟩
        case round =>
          obtain ⟨k, hkl, rfl, hkw⟩ := hrel
          have HKW := Lib.hid hkw
          clear hkw
          obtain ⟨y0, y1, y2, y3⟩ := bx_blk HKW.out.2.1
          by_cases hlt : k < ckn
          · obtain ⟨g, c, rfl, hg, hc, hcs⟩ := (HKW.out.2.2.2.2.1).resolve_left (by omega)
            have HC := Lib.hid hc; have HG := Lib.hid hg; have HCS := Lib.hid hcs
            clear hc hg hcs
            go_wp2_with (refine wpList_store3 rfl _ _ rfl g k c _ rfl rfl HC.out (by have := HCS.out; omega) ?_)
            intro w2 hwr
            have HKW2 := Lib.hid (HKW.out.wrote hwr (by decide) HG.out)
            clear hwr y0 y1 y2 y3
            go_wp2
            go_roundw
            case rel => exact ⟨k + 1, by omega, by go_num, HKW2.out⟩
            case measure => simp [intOf]; omega
          · skip
            obtain ⟨x0, x1, x2, x3⟩ := HX.out.below HKW.out.1
            go_wp2
            clear x0 x1 x2 x3 y0 y1 y2 y3 hkl hlt
            go_loopw [18] (fun i wr => ∃ k : Nat, k ≤ dkn ∧ i = .int .i64 k ∧ KW w7 g8 g11 #[.bool cl, .slice c0 cen c0c, .slice c1 ckn c1c, .slice c2 csn c2c] #[.bool dl, .slice d0 den d0c, .slice d1 dkn d1c, .slice d2 dsn d2c] c0 c1 d1 cen ckn dkn wr) (fun i _ => dkn - (intOf i).toNat)
            case atStart => exact ⟨0, Nat.zero_le _, rfl, HKW.out⟩
            case round =>
              obtain ⟨k, hkl, rfl, hkw⟩ := hrel
              have HKW := Lib.hid hkw
              clear hkw
              obtain ⟨y0, y1, y2, y3⟩ := bx_blk HKW.out.2.2.1
              by_cases hlt : k < dkn
              · obtain ⟨g, c, rfl, hg, hc, hcs⟩ := (HKW.out.2.2.2.2.2).resolve_left (by omega)
                have HC := Lib.hid hc; have HG := Lib.hid hg; have HCS := Lib.hid hcs
                clear hc hg hcs
                go_wp2_with (refine wpList_store3 rfl _ _ rfl g k c _ rfl rfl HC.out (by have := HCS.out; omega) ?_)
                intro w2 hwr
                have HKW2 := Lib.hid (HKW.out.wrote hwr (by decide) HG.out)
                clear hwr y0 y1 y2 y3
                go_wp2
                go_roundw
                case rel => exact ⟨k + 1, by omega, by go_num, HKW2.out⟩
                case measure => simp [intOf]; omega
              · skip
                have hk1 := HKW.out.1
                have HX := Lib.hid (HX.out.below hk1); have HVA := Lib.hid (HVA.out.below hk1); have HW := Lib.hid (HW.out.below hk1); have HQV := Lib.hid (HQV.out.below hk1); have HP := Lib.hid (HP.out.below hk1); have HQ := Lib.hid (HQ.out.below hk1); have HAV := Lib.hid (HAV.out.below hk1); have HBV := Lib.hid (HBV.out.below hk1); have HAE := Lib.hid (HAE.out.below hk1); have HBE := Lib.hid (HBE.out.below hk1)
                have hb8 := hb7.trans (hk1.mono hb7.size)
                clear hk1 hb7 HKW HVB HY hcl1 hcl2 hsl HJL HSL
                go_upto_region 25 with (fail)
                clear y0 y1 y2 y3 hkl hlt
                refine wp_region_any (by kernel_rfl) ?_
                refine wpAny_upto_f 7 (fun f L a W => ∃ v19 v107 v108 v109 v110 v111 v112 : Value, a = { tmps := List.toArray ((f 0) :: (f 1) :: (.string key) :: (.pointer (some ⟨w.heap.size, 0, none⟩)) :: (f 4) :: (f 5) :: (f 6) :: (.bool true) :: (f 8) :: (f 9) :: (.pointer (some ⟨gw, 0, none⟩)) :: (.pointer (some ⟨g6, 0, none⟩)) :: (.string mid) :: (.pointer (some ⟨g6 + 1, 0, none⟩)) :: (f 14) :: (f 15) :: (f 16) :: (f 17) :: (f 18) :: v19 :: (f 20) :: (f 21) :: (f 22) :: (f 23) :: (f 24) :: (f 25) :: (f 26) :: (f 27) :: (f 28) :: (f 29) :: (f 30) :: (f 31) :: (f 32) :: (f 33) :: (f 34) :: (f 35) :: (f 36) :: (f 37) :: (f 38) :: (f 39) :: (f 40) :: (f 41) :: (f 42) :: (f 43) :: (f 44) :: (f 45) :: (f 46) :: (f 47) :: (f 48) :: (f 49) :: (f 50) :: (f 51) :: (f 52) :: (f 53) :: (f 54) :: (f 55) :: (f 56) :: (f 57) :: (f 58) :: (f 59) :: (f 60) :: (f 61) :: (f 62) :: (f 63) :: (f 64) :: (f 65) :: (f 66) :: (f 67) :: (f 68) :: (f 69) :: (f 70) :: (f 71) :: (f 72) :: (f 73) :: (f 74) :: (f 75) :: (f 76) :: (f 77) :: (f 78) :: (f 79) :: (f 80) :: (f 81) :: (f 82) :: (f 83) :: (f 84) :: (f 85) :: (f 86) :: (f 87) :: (f 88) :: (f 89) :: (f 90) :: (f 91) :: (f 92) :: (f 93) :: (f 94) :: (f 95) :: (f 96) :: (f 97) :: (f 98) :: (f 99) :: (f 100) :: (f 101) :: (f 102) :: (f 103) :: (f 104) :: (f 105) :: (f 106) :: v107 :: v108 :: v109 :: v110 :: v111 :: v112 :: (f 113) :: (f 114) :: (f 115) :: (f 116) :: (f 117) :: (f 118) :: (f 119) :: (f 120) :: (f 121) :: (f 122) :: (f 123) :: (f 124) :: (f 125) :: (f 126) :: (f 127) :: (f 128) :: (f 129) :: (f 130) :: (f 131) :: (f 132) :: (f 133) :: (f 134) :: (f 135) :: (f 136) :: (f 137) :: (f 138) :: (f 139) :: (f 140) :: (f 141) :: (f 142) :: (f 143) :: (f 144) :: (f 145) :: (f 146) :: (f 147) :: (f 148) :: (f 149) :: (f 150) :: (f 151) :: (f 152) :: (f 153) :: (f 154) :: (f 155) :: (f 156) :: (f 157) :: (f 158) :: (f 159) :: (f 160) :: (f 161) :: (f 162) :: (f 163) :: (f 164) :: (f 165) :: (f 166) :: (f 167) :: (f 168) :: (f 169) :: (f 170) :: (f 171) :: (f 172) :: (f 173) :: (f 174) :: (f 175) :: (f 176) :: (f 177) :: (f 178) :: (f 179) :: (f 180) :: (f 181) :: (f 182) :: (f 183) :: (f 184) :: (f 185) :: (f 186) :: (f 187) :: (f 188) :: (f 189) :: (f 190) :: (f 191) :: (f 192) :: (f 193) :: (f 194) :: (f 195) :: (f 196) :: (f 197) :: (f 198) :: (f 199) :: (f 200) :: (f 201) :: (f 202) :: (f 203) :: (f 204) :: (f 205) :: (f 206) :: (f 207) :: (f 208) :: (f 209) :: (f 210) :: (f 211) :: (f 212) :: []), defers := [] } ∧ Below wr.heap.size wr W ∧ (Lst L 0 → v107 = .agg #[.bool false, .slice e0 en ec, .slice k0 kn kc, .slice s0 sn sc]) ∧ (Lst L 1 → NdV W v108 ⟨false, es, ks, ss⟩) ∧ (Lst L 2 → v109 = .pointer (some ⟨w.heap.size, 0, none⟩)) ∧ (Lst L 3 → v110 = .bool false) ∧ (Lst L 4 → v111 = .agg #[.bool false, .slice none 0 0, .slice none 0 0, .slice none 0 0]) ∧ (Lst L 5 → NdO W wr.heap.size v112 ⟨false, es, ks, ss ++ xs false⟩) ∧ (Lst L 6 → ∃ g, v19 = .pointer (some ⟨g, 0, none⟩) ∧ wr.heap.size ≤ g ∧ Zb W g 73)) (by decide) (by kernel_rfl) (by kernel_rfl) ?step ?fin _ _ _ _ ?ini (by simp) (fun k _ => lst_none) (by simp)
                case ini => exact ⟨_, _, _, _, _, _, _, rfl, (Below.refl _ wr).drew, fun h => absurd h lst_none, fun h => absurd h lst_none, fun h => absurd h lst_none, fun h => absurd h lst_none, fun h => absurd h lst_none, fun h => absurd h lst_none, fun h => absurd h lst_none⟩
                case step =>
                  intro f L a W hI i him hi
                  obtain ⟨v19, v107, v108, v109, v110, v111, v112, rfl, hb, hf⟩ := hI
                  have F := Lib.hid hf
                  clear hf
                  rcases (show i = 0 ∨ i = 1 ∨ i = 2 ∨ i = 3 ∨ i = 4 ∨ i = 5 ∨ i = 6 by omega) with rfl | rfl | rfl | rfl | rfl | rfl | rfl
                  · clear him
                    obtain ⟨b0, b1, b2, b3⟩ := HX.out.below hb
                    have HI := Lib.hid hi
                    clear hi
                    refine wpOp_step (o := _) rfl (fun K' hK => ?_)
                    have HK := Lib.hid hK
                    clear hK
                    go_simp
                    refine HK.out _ _ ⟨_, _, _, _, _, _, _, rfl, hb, fun _ => rfl, fun h => F.out.2.1 (lst_old (by decide) h), fun h => F.out.2.2.1 (lst_old (by decide) h), fun h => F.out.2.2.2.1 (lst_old (by decide) h), fun h => F.out.2.2.2.2.1 (lst_old (by decide) h), fun h => F.out.2.2.2.2.2.1 (lst_old (by decide) h), fun h => F.out.2.2.2.2.2.2 (lst_old (by decide) h)⟩
                  · clear him
                    have p0 := F.out.1 (ready_needs hi (by kernel_rfl))
                    subst p0
                    have HI := Lib.hid hi
                    clear hi
                    refine wpOp_step (o := _) rfl (fun K' hK => ?_)
                    have HK := Lib.hid hK
                    clear hK
                    go_simp
                    refine (of_any _ ⟨false, es, ks, ss⟩ W (HVA.out.below hb)).mono ?_
                    rintro r W2 ⟨x, rfl, hown, hb2⟩
                    refine HK.out _ _ ⟨_, _, _, _, _, _, _, rfl, (hb.trans (hb2.mono hb.size)), fun h => F.out.1 (lst_old (by decide) h), fun _ => hown, fun h => F.out.2.2.1 (lst_old (by decide) h), fun h => F.out.2.2.2.1 (lst_old (by decide) h), fun h => F.out.2.2.2.2.1 (lst_old (by decide) h), fun h => NdO.below (F.out.2.2.2.2.2.1 (lst_old (by decide) h)) hb2, fun h => (let ⟨g, e1, e2, e3⟩ := F.out.2.2.2.2.2.2 (lst_old (by decide) h); ⟨g, e1, e2, e3.below hb2⟩)⟩
                  · clear him
                    have HI := Lib.hid hi
                    clear hi
                    refine wpOp_step (o := _) rfl (fun K' hK => ?_)
                    have HK := Lib.hid hK
                    clear hK
                    go_simp
                    refine HK.out _ _ ⟨_, _, _, _, _, _, _, rfl, hb, fun h => F.out.1 (lst_old (by decide) h), fun h => F.out.2.1 (lst_old (by decide) h), fun _ => rfl, fun h => F.out.2.2.2.1 (lst_old (by decide) h), fun h => F.out.2.2.2.2.1 (lst_old (by decide) h), fun h => F.out.2.2.2.2.2.1 (lst_old (by decide) h), fun h => F.out.2.2.2.2.2.2 (lst_old (by decide) h)⟩
                  · clear him
                    have p2 := F.out.2.2.1 (ready_needs hi (by kernel_rfl))
                    subst p2
                    obtain ⟨b0, b1, b2, b3⟩ := HX.out.below hb
                    have HI := Lib.hid hi
                    clear hi
                    refine wpOp_step (o := _) rfl (fun K' hK => ?_)
                    have HK := Lib.hid hK
                    clear hK
                    go_simp
                    refine HK.out _ _ ⟨_, _, _, _, _, _, _, rfl, hb, fun h => F.out.1 (lst_old (by decide) h), fun h => F.out.2.1 (lst_old (by decide) h), fun h => F.out.2.2.1 (lst_old (by decide) h), fun _ => rfl, fun h => F.out.2.2.2.2.1 (lst_old (by decide) h), fun h => F.out.2.2.2.2.2.1 (lst_old (by decide) h), fun h => F.out.2.2.2.2.2.2 (lst_old (by decide) h)⟩
                  · clear him
                    have p3 := F.out.2.2.2.1 (ready_needs hi (by kernel_rfl))
                    subst p3
                    have HI := Lib.hid hi
                    clear hi
                    refine wpOp_step (o := _) rfl (fun K' hK => ?_)
                    have HK := Lib.hid hK
                    clear hK
                    go_simp
                    refine HK.out _ _ ⟨_, _, _, _, _, _, _, rfl, hb, fun h => F.out.1 (lst_old (by decide) h), fun h => F.out.2.1 (lst_old (by decide) h), fun h => F.out.2.2.1 (lst_old (by decide) h), fun h => F.out.2.2.2.1 (lst_old (by decide) h), fun _ => rfl, fun h => F.out.2.2.2.2.2.1 (lst_old (by decide) h), fun h => F.out.2.2.2.2.2.2 (lst_old (by decide) h)⟩
                  · clear him
                    have p1 := F.out.2.1 (ready_needs hi (by kernel_rfl))
                    have p4 := F.out.2.2.2.2.1 (ready_needs hi (by kernel_rfl))
                    have P1 := Lib.hid p1
                    clear p1
                    subst p4
                    have HI := Lib.hid hi
                    clear hi
                    refine wpOp_step (o := _) rfl (fun K' hK => ?_)
                    have HK := Lib.hid hK
                    clear hK
                    go_simp
                    refine (rjoin_x _ false es ks ss W P1.out HBD.out).mono ?_
                    rintro r W2 ⟨x, rfl, hown, hb2⟩
                    refine HK.out _ _ ⟨_, _, _, _, _, _, _, rfl, (hb.trans (hb2.mono hb.size)), fun h => F.out.1 (lst_old (by decide) h), fun h => NdV.below (F.out.2.1 (lst_old (by decide) h)) hb2, fun h => F.out.2.2.1 (lst_old (by decide) h), fun h => F.out.2.2.2.1 (lst_old (by decide) h), fun h => F.out.2.2.2.2.1 (lst_old (by decide) h), fun _ => NdO.mono hown hb.size, fun h => (let ⟨g, e1, e2, e3⟩ := F.out.2.2.2.2.2.2 (lst_old (by decide) h); ⟨g, e1, e2, e3.below hb2⟩)⟩
                  · clear him
                    have HI := Lib.hid hi
                    clear hi
                    refine wpOp_step (o := _) rfl (fun K' hK => ?_)
                    have HK := Lib.hid hK
                    clear hK
                    go_simp
                    refine HK.out _ _ ⟨_, _, _, _, _, _, _, rfl, (hb.alloc hb.size _), fun h => F.out.1 (lst_old (by decide) h), fun h => NdV.below (F.out.2.1 (lst_old (by decide) h)) ((Below.refl _ W).alloc (Nat.le_refl _) _), fun h => F.out.2.2.1 (lst_old (by decide) h), fun h => F.out.2.2.2.1 (lst_old (by decide) h), fun h => F.out.2.2.2.2.1 (lst_old (by decide) h), fun h => NdO.below (F.out.2.2.2.2.2.1 (lst_old (by decide) h)) ((Below.refl _ W).alloc (Nat.le_refl _) _), fun _ => ⟨W.heap.size, rfl, hb.size, Zb.new W _ _ _ _ _⟩⟩
                case fin =>
                  intro f a W hI
                  obtain ⟨v19, v107, v108, v109, v110, v111, v112, rfl, hb, hf⟩ := hI
                  have p0 := hf.1 rfl
                  have p1 := hf.2.1 rfl
                  have p2 := hf.2.2.1 rfl
                  have p3 := hf.2.2.2.1 rfl
                  have p4 := hf.2.2.2.2.1 rfl
                  have p5 := hf.2.2.2.2.2.1 rfl
                  have p6 := hf.2.2.2.2.2.2 rfl
                  clear hf
                  subst p0
                  clear p1
                  subst p2
                  subst p3
                  subst p4
                  have uO := Lib.hid p5
                  obtain ⟨u0, u0c, u1, u1c, u2, u2c, r5, _, _, _⟩ := p5
                  dsimp only at r5
                  rw [HEN.out, HKN.out] at r5
                  obtain ⟨un, hwn⟩ : ∃ x, (ss ++ xs false).length = x := ⟨_, rfl⟩
                  rw [hwn] at r5
                  subst r5
                  clear hwn
                  obtain ⟨gu, r6, hg, hzb⟩ := p6
                  subst r6
                  refine wpAny_all (rs := [7]) (by kernel_rfl) (by simp) ?_
                  intro i' hi'
                  obtain rfl := List.mem_singleton.1 hi'
                  have HZG := Lib.hid hzb
                  obtain ⟨z0a, z0b, z0c, z0d, hz0⟩ := hzb
                  have c00 : World.cell? (W) ⟨gu, 0, none⟩ = some z0a := by rw [blk_cell hz0]; rfl
                  have f00 := blk_free hz0 0
                  have hz00 := blk_set hz0 0 (.bool false)
                  have c01 : World.cell? (World.setCell (W) ⟨gu, 0, none⟩ (.bool false)) ⟨gu, 1, none⟩ = some z0b := by rw [blk_cell hz00]; rfl
                  have f01 := blk_free hz00 1
                  have hz01 := blk_set hz00 1 (.slice u0 en u0c)
                  have c02 : World.cell? (World.setCell (World.setCell (W) ⟨gu, 0, none⟩ (.bool false)) ⟨gu, 1, none⟩ (.slice u0 en u0c)) ⟨gu, 2, none⟩ = some z0c := by rw [blk_cell hz01]; rfl
                  have f02 := blk_free hz01 2
                  have hz02 := blk_set hz01 2 (.slice u1 kn u1c)
                  have c03 : World.cell? (World.setCell (World.setCell (World.setCell (W) ⟨gu, 0, none⟩ (.bool false)) ⟨gu, 1, none⟩ (.slice u0 en u0c)) ⟨gu, 2, none⟩ (.slice u1 kn u1c)) ⟨gu, 3, none⟩ = some z0d := by rw [blk_cell hz02]; rfl
                  have f03 := blk_free hz02 3
                  have hz03 := blk_set hz02 3 (.slice u2 un u2c)
                  have HZ0 := Lib.hid hz03
                  clear hz0 hz00 hz01 hz02 hz03
                  refine wpOp_step (o := _) rfl (fun K' hK => ?_)
                  have HKK := Lib.hid hK
                  clear hK
                  go_simp
                  refine HKK.out _ _ (wpAny_done (by kernel_rfl) ?_ _)
                  have hon : Only gu W (World.setCell (World.setCell (World.setCell (World.setCell (W) ⟨gu, 0, none⟩ (.bool false)) ⟨gu, 1, none⟩ (.slice u0 en u0c)) ⟨gu, 2, none⟩ (.slice u1 kn u1c)) ⟨gu, 3, none⟩ (.slice u2 un u2c)) := (((Only.set _ _ _).trans (Only.set _ _ _)).trans (Only.set _ _ _)).trans (Only.set _ _ _)
                  obtain ⟨w13, hw13⟩ : ∃ X, World.setCell (World.setCell (World.setCell (World.setCell (W) ⟨gu, 0, none⟩ (.bool false)) ⟨gu, 1, none⟩ (.slice u0 en u0c)) ⟨gu, 2, none⟩ (.slice u1 kn u1c)) ⟨gu, 3, none⟩ (.slice u2 un u2c) = X := ⟨_, rfl⟩
                  rw [hw13] at HZ0 hon ⊢
                  clear hw13
                  have hb9' : Below wr.heap.size wr w13 := hb.trans (hon.to_below hg hb.size)
                  obtain ⟨_, _, _, _, hzg⟩ := HZG.out
                  have huo := NdO.other uO.out hzg hon (by decide) (by decide) (by decide)
                  have HUV := Lib.hid huo.val
                  have HU := Lib.hid (bx_blk73 HZ0.out)
                  have HX := Lib.hid (HX.out.below hb9'); have HVA := Lib.hid (HVA.out.below hb9'); have HW := Lib.hid (HW.out.below hb9'); have HQV := Lib.hid (HQV.out.below hb9'); have HP := Lib.hid (HP.out.below hb9'); have HQ := Lib.hid (HQ.out.below hb9'); have HAV := Lib.hid (HAV.out.below hb9'); have HBV := Lib.hid (HBV.out.below hb9'); have HAE := Lib.hid (HAE.out.below hb9'); have HBE := Lib.hid (HBE.out.below hb9')
                  have hb9 := hb8.trans (hb9'.mono hb8.size)
                  clear hb9' hon hg hb huo hb8
                  have HSM := Lib.hid (nsame_any _ _ _ _ w13 HQV.out HUV.out)
                  rw [show NSm ⟨false, es, ks, ss ++ xs false⟩ ⟨false, es, ks, ss ++ xs false⟩ w13 = fun r w' => r = .returned (.bool true) ∧ Below w13.heap.size w13 w' from by unfold NSm; rw [decide_eq_true rfl]] at HSM
                  obtain ⟨y0, y1, y2, y3⟩ := HW.out
                  obtain ⟨z0, z1, z2, z3⟩ := HU.out
                  go_wp2_with fail
                  refine HSM.out.mono ?_
                  rintro r w14 ⟨rfl, hb10⟩
                  have HX := Lib.hid (HX.out.below hb10); have HVA := Lib.hid (HVA.out.below hb10); have HP := Lib.hid (HP.out.below hb10); have HQ := Lib.hid (HQ.out.below hb10); have HAV := Lib.hid (HAV.out.below hb10); have HBV := Lib.hid (HBV.out.below hb10); have HAE := Lib.hid (HAE.out.below hb10); have HBE := Lib.hid (HBE.out.below hb10)
                  have hb10 := hb9.trans (hb10.mono hb9.size)
                  clear y0 y1 y2 y3 z0 z1 z2 z3 hb9 HU HW HUV HQV HSM
                  obtain ⟨x0, x1, x2, x3⟩ := HX.out
                  rcases HSP.out with hm | ⟨k, hkl, hkk, rfl, hm, rfl⟩
                  · have q1 := mid_empty hm
                    clear hm
                    go_wp2
                    go_ret
                    exact ⟨rfl, hb10⟩
                  have HSO := Lib.hid (nok_inner.1 HO.out).2.2.2
                  have q1 := mid_full_i HSO.out hkl
                  rw [← hm] at q1
                  have HM := Lib.hid hm
                  clear hm HSP
                  dsimp only at HAV HBV HAKN
                  have HLS := Lib.hid (show ss.length ≤ 10000 from HBD.out.2.2.1)
                  go_wp2_with fail
                  refine (child_any _ ⟨false, es, ks, ss⟩ key _ HVA.out HSO.out HLS.out).mono ?_
                  rintro r w15 ⟨i, rfl, hu, hb11⟩
                  have HU := Lib.hid hu
                  have HAV := Lib.hid (HAV.out.below hb11); have HBV := Lib.hid (HBV.out.below hb11); have HP := Lib.hid (HP.out.below hb11); have HQ := Lib.hid (HQ.out.below hb11)
                  have hb11 := hb10.trans (hb11.mono hb10.size)
                  clear hb10 hu x0 x1 x2 x3 HVA
                  obtain ⟨y0, y1, y2, y3⟩ := HP.out
                  by_cases hk : M.klt key mid
                  · have q2 := less_t hk
                    have HK := Lib.hid hk
                    clear hk
                    go_wp2_with fail
                    refine (child_any _ ⟨false, [], ks.take (k + 1), ss.take k⟩ key _ HAV.out (M.oks_take HSO.out k) (by have := HLS.out; simp; omega)).mono ?_
                    rintro r w16 ⟨j, rfl, hj, hb12⟩
                    have hji := up_lo hkl HU.out (by rw [← HM.out]; exact HK.out) hj
                    subst hji
                    have hb12 := hb11.trans (hb12.mono hb11.size)
                    clear hb11 y0 y1 y2 y3 hj
                    go_wp2
                    go_ret
                    exact ⟨rfl, hb12⟩
                  · have q2 := less_f hk
                    have hik : k + 1 ≤ i := by
                      rcases Nat.lt_or_ge k i with h | h
                      · exact h
                      · exact absurd (by rw [HM.out]; exact HU.out.2.2 k hkl h) hk
                    have HK := Lib.hid hk
                    clear hk
                    have hakn : akn = k + 1 := by rw [← HAKN.out, List.length_take]; omega
                    obtain ⟨j, hj⟩ : ∃ j, i = j + akn := ⟨i - akn, by omega⟩
                    have hil : i ≤ ss.length := HU.out.1
                    have hls := HLS.out
                    have q3 : IntKind.i64.wrap ((i : Int) - (akn : Int)) = (j : Int) := by rw [IntKind.wrap_i64]; omega
                    have q4 : (i : Int) - (akn : Int) = (j : Int) := by omega
                    have q5 : IntKind.i64.wrap (j : Int) = (j : Int) := by rw [IntKind.wrap_i64]; omega
                    have HJ := Lib.hid (show i = j + (k + 1) by omega)
                    clear hj hakn hik hil hls
                    obtain ⟨z0, z1, z2, z3⟩ := HQ.out
                    go_wp2_with fail
                    have HC := Lib.hid (show ∀ W, Below w15.heap.size w15 W → Calls Try.prog 60 #[.agg #[.bool bl, .slice b0 ben b0c, .slice b1 bkn b1c, .slice b2 bsn b2c], .string key] W (fun r w' => r = .returned (.int .i64 (j : Int)) ∧ Below W.heap.size W w') from fun W hW => (child_any _ ⟨false, [], ks.drop (k + 1), ss.drop (k + 1)⟩ key W (HBV.out.below hW) (M.oks_drop HSO.out (k + 1)) (by have := HLS.out; simp; omega)).mono (by
                      rintro r w16 ⟨j', rfl, hj', hb12⟩
                      have := up_hi HSO.out hkl HU.out (by rw [← HM.out]; exact HK.out) hj'
                      have h2 := HJ.out
                      obtain rfl : j' = j := by omega
                      exact ⟨rfl, hb12⟩))
                    go_region_held3 (fun W' => W'.cell? ⟨g6, 2, none⟩ = some (.slice a1 akn a1c) ∧ W'.cell? ⟨g6 + 1, 0, none⟩ = some (.bool bl) ∧ W'.cell? ⟨g6 + 1, 1, none⟩ = some (.slice b0 ben b0c) ∧ W'.cell? ⟨g6 + 1, 2, none⟩ = some (.slice b1 bkn b1c) ∧ W'.cell? ⟨g6 + 1, 3, none⟩ = some (.slice b2 bsn b2c)) (first | assumption | go_keep | (refine ⟨?_, ?_, ?_, ?_, ?_⟩ <;> (refine bcell (by assumption) ?_; first | assumption | go_keep))) (first | (go_at_call 60; refine (HC.out _ ((Below.refl _ _).drew)).mono ?_; rintro r w3 ⟨rfl, hb3⟩))
                    have hb12 : Below w.heap.size w w3 := (hb11.drew).trans (hb3.mono hb11.drew.size)
                    clear hb11 hb3 z0 z1 z2 z3 y0 y1 y2 y3 q3 q4 q5
                    go_wp2
                    go_ret
                    exact ⟨rfl, hb12⟩
theorem nkept_any (va vb : Value) (n m : M.Nd) (key : ByteArray) (w : World) (ha : NdV w va n) (hb : NdV w vb m) :
    Calls Try.prog 15 #[va, vb, .string key] w fun r w' => r = .returned (.bool true) ∧ Below w.heap.size w w' := by
  obtain ⟨l, es, ks, ss⟩ := n
  rcases l with _ | _
  · exact nkept_false va vb es ks ss m key w ha hb
  · exact nkept_true va vb es ks ss m key w ha hb
end Go.Proofs.Ytifdglehfhoecaa.N
