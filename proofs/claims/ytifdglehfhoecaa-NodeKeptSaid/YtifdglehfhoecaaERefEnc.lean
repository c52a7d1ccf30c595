/-
  The document's bytes of a right list. Conditions: below 2^30 entries.
-/
import Derived.Test.YtifdglehfhoecaaEEnc
import Derived.Test.YtifdglehfhoecaaEDecMath
import Derived.BigRegion
namespace Go.Proofs.Ytifdglehfhoecaa.E
open Go.RowKit B
theorem conv_cell {W : World} (g : Nat) (b : UInt8) (h : W.cell? ⟨g, 0, none⟩ = some (.int .u8 (b.toNat : Int))) : (convert 30 9 (.slice (some ⟨g, 0, none⟩) 1 1)).run Try.prog W = .ok (.string (txt [b])) W :=
  C.conv_text (w := W) ⟨g, 0, none⟩ 1 [b] (fun j hj => by
    obtain rfl : j = 0 := by simp at hj; omega
    rw [add_lit]; exact h)
set_option maxRecDepth 100000 in
set_option maxHeartbeats 4000000 in
theorem rencode_any (v : Value) (l : List Ent) (w : World) (hv : Ents w v l) (hlen : l.length ≤ 1000000000) (ho : M.Ok l) :
    Calls Try.prog 48 #[v] w fun r w' => r = .returned (.string (txt (M.enc l))) ∧ Below w.heap.size w w' := by
  have hop := hv.open
  have HV := Lib.hid hv; clear hv
  obtain ⟨ao, cap, rfl, _, _, hc⟩ := hop
  have HC := Lib.hid hc; clear hc
  have HO := Lib.hid ho
  clear ho
  go_enter Try.func48, Try.ntmps48
  go_wp2
  go_loopw [3, 4] (fun n i wr => ∃ k : Nat, k ≤ l.length ∧ i = .int .i64 k ∧ n = .string (txt (M.enc (l.take k))) ∧ M.sz (l.take k) ≤ k * 512 ∧ Below w.heap.size w wr) (fun _ i _ => l.length - (intOf i).toNat)
  case atStart => exact ⟨0, Nat.zero_le _, rfl, rfl, Nat.le_refl _, Below.refl _ _⟩
  case round =>
    obtain ⟨k, hk, rfl, rfl, hsz, hb⟩ := hrel
    by_cases hlt : k < l.length
    · obtain ⟨b, o, rfl, hk0, hv0⟩ := HC.out k hlt
      have c0 := (hb.cell (lt_of_cell hk0)).trans hk0
      have c1 := (hb.cell (lt_of_cell hv0)).trans hv0
      have hm := HO.out.1 l[k] (List.getElem_mem hlt)
      have hm1 : l[k].1.size ≤ 255 := by unfold M.may at hm; omega
      have hm2 : l[k].2.size ≤ 255 := by unfold M.may at hm; omega
      have HS := Lib.hid (enc_snoc l k hlt)
      obtain ⟨p, hp⟩ : ∃ p, txt (M.enc (l.take k)) = p := ⟨_, rfl⟩
      have HP := Lib.hid hp
      have hps : p.size = M.sz (l.take k) := by rw [← hp, txt_size, M.enc_len]
      have hsn := M.sz_snoc l k hlt
      have hnz : M.sz (l.take (k + 1)) ≤ (k + 1) * 512 := by omega
      have hps2 : p.size ≤ 1000000000 * 512 := by omega
      have HNZ := Lib.hid hnz
      rw [hp]
      clear hps hsn hnz hsz
      clear hp hk0 hv0 hm
      obtain ⟨x, hx⟩ : ∃ x, l[k].1 = x := ⟨_, rfl⟩
      obtain ⟨y, hy⟩ : ∃ y, l[k].2 = y := ⟨_, rfl⟩
      rw [hx] at c0 hm1
      rw [hy] at c1 hm2
      rw [hx, hy] at HS
      obtain ⟨c, hc⟩ : ∃ c, UInt8.ofNat x.size = c := ⟨_, rfl⟩
      obtain ⟨d, hd⟩ : ∃ d, UInt8.ofNat y.size = d := ⟨_, rfl⟩
      have hcz : (x.size : Int) = (c.toNat : Int) := by rw [← hc, UInt8.toNat_ofNat']; omega
      have hdz : (y.size : Int) = (d.toNat : Int) := by rw [← hd, UInt8.toNat_ofNat']; omega
      have HT := Lib.hid (show p ++ txt [c] ++ x ++ txt [d] ++ y = txt (M.enc (l.take (k + 1))) by
        rw [HS.out, HP.out]
        apply bts_inj
        simp only [bts_append, bts_txt, C.tb, hc, hd, List.append_assoc, List.cons_append, List.nil_append])
      have htc1 : (txt [c]).size ≤ 1 := by rw [txt_size]; simp
      have htd1 : (txt [d]).size ≤ 1 := by rw [txt_size]; simp
      obtain ⟨tc, htc⟩ : ∃ z, txt [c] = z := ⟨_, rfl⟩
      obtain ⟨td, htd⟩ : ∃ z, txt [d] = z := ⟨_, rfl⟩
      rw [htc, htd] at HT
      rw [htc] at htc1
      rw [htd] at htd1
      have mk : ∀ (W : World) (O : Obj), (W.alloc O).heap.size = W.heap.size + 1 := fun W O => by simp
      have at1 : ∀ (W : World) (q : Nat) (v : Value), W.heap.size = q → (W.alloc (.cells #[v] 5)).cell? ⟨q, 0, none⟩ = some v := fun W q v h => by subst h; rw [World.cell?_alloc_mark]; rfl
      have at2 : ∀ (W : World) (q : Nat) (v u : Value), W.heap.size = q → ((W.alloc (.cells #[v] 5)).alloc (.cells #[u] 5)).cell? ⟨q, 0, none⟩ = some v := fun W q v u h => (World.cell?_alloc_lt _ _ _ (by rw [mk]; show q < _; omega)).trans (at1 W q v h)
      have f1 : (convert 30 9 (.slice (some ⟨wr.heap.size, 0, none⟩) 1 1)).run Try.prog ((wr.alloc (.cells #[.int .u8 (x.size : Int)] 5)).drew) = .ok (.string tc) ((wr.alloc (.cells #[.int .u8 (x.size : Int)] 5)).drew) := by rw [← htc]; exact conv_cell _ c (by rw [← hcz]; exact at1 _ _ _ rfl)
      have f2 : (convert 30 9 (.slice (some ⟨wr.heap.size, 0, none⟩) 1 1)).run Try.prog (((wr.alloc (.cells #[.int .u8 (x.size : Int)] 5)).alloc (.cells #[.int .u8 (y.size : Int)] 5)).drew) = .ok (.string tc) (((wr.alloc (.cells #[.int .u8 (x.size : Int)] 5)).alloc (.cells #[.int .u8 (y.size : Int)] 5)).drew) := by rw [← htc]; exact conv_cell _ c (by rw [← hcz]; exact at2 _ _ _ _ rfl)
      have f3 : (convert 30 9 (.slice (some ⟨wr.heap.size + 1, 0, none⟩) 1 1)).run Try.prog (((wr.alloc (.cells #[.int .u8 (x.size : Int)] 5)).alloc (.cells #[.int .u8 (y.size : Int)] 5)).drew) = .ok (.string td) (((wr.alloc (.cells #[.int .u8 (x.size : Int)] 5)).alloc (.cells #[.int .u8 (y.size : Int)] 5)).drew) := by rw [← htd]; exact conv_cell _ d (by rw [← hdz]; exact at1 _ _ _ (mk _ _))
      have g1 : (convert 30 9 (.slice (some ⟨wr.heap.size, 0, none⟩) 1 1)).run Try.prog ((wr.alloc (.cells #[.int .u8 (y.size : Int)] 5)).drew) = .ok (.string td) ((wr.alloc (.cells #[.int .u8 (y.size : Int)] 5)).drew) := by rw [← htd]; exact conv_cell _ d (by rw [← hdz]; exact at1 _ _ _ rfl)
      have g2 : (convert 30 9 (.slice (some ⟨wr.heap.size, 0, none⟩) 1 1)).run Try.prog (((wr.alloc (.cells #[.int .u8 (y.size : Int)] 5)).alloc (.cells #[.int .u8 (x.size : Int)] 5)).drew) = .ok (.string td) (((wr.alloc (.cells #[.int .u8 (y.size : Int)] 5)).alloc (.cells #[.int .u8 (x.size : Int)] 5)).drew) := by rw [← htd]; exact conv_cell _ d (by rw [← hdz]; exact at2 _ _ _ _ rfl)
      have g3 : (convert 30 9 (.slice (some ⟨wr.heap.size + 1, 0, none⟩) 1 1)).run Try.prog (((wr.alloc (.cells #[.int .u8 (y.size : Int)] 5)).alloc (.cells #[.int .u8 (x.size : Int)] 5)).drew) = .ok (.string tc) (((wr.alloc (.cells #[.int .u8 (y.size : Int)] 5)).alloc (.cells #[.int .u8 (x.size : Int)] 5)).drew) := by rw [← htc]; exact conv_cell _ c (by rw [← hcz]; exact at1 _ _ _ (mk _ _))
      have q1 : IntKind.u8.wrap (x.size : Int) = (x.size : Int) := by rw [IntKind.wrap_u8]; omega
      have q2 : IntKind.u8.wrap (y.size : Int) = (y.size : Int) := by rw [IntKind.wrap_u8]; omega
      clear hx hy hc hd hcz hdz htc htd mk at1 at2
      have z1 : ¬ 9223372036854775807 < p.size + tc.size := by omega
      have z2 : ¬ 9223372036854775807 < p.size + tc.size + x.size := by omega
      have z3 : ¬ 9223372036854775807 < p.size + tc.size + x.size + td.size := by omega
      have z4 : ¬ 9223372036854775807 < p.size + tc.size + x.size + td.size + y.size := by omega
      have hkz : (0 : Int) ≤ (k : Int) := Int.natCast_nonneg _
      have hkl : (k : Int) < (l.length : Int) := by omega
      go_upto_region 5 with (fail)
      have hbA : Below wr.heap.size wr (wr.alloc (.cells #[.int .u8 (x.size : Int)] 5)) := (Below.refl _ wr).alloc (Nat.le_refl _) _
      have hbB : Below wr.heap.size wr (wr.alloc (.cells #[.int .u8 (y.size : Int)] 5)) := (Below.refl _ wr).alloc (Nat.le_refl _) _
      have hbAB : Below wr.heap.size wr ((wr.alloc (.cells #[.int .u8 (x.size : Int)] 5)).alloc (.cells #[.int .u8 (y.size : Int)] 5)) := hbA.alloc hbA.size _
      have hbBA : Below wr.heap.size wr ((wr.alloc (.cells #[.int .u8 (y.size : Int)] 5)).alloc (.cells #[.int .u8 (x.size : Int)] 5)) := hbB.alloc hbB.size _
      have cA0 := bcell hbA c0; have cA1 := bcell hbA c1
      have cB0 := bcell hbB c0; have cB1 := bcell hbB c1
      have cC0 := bcell hbAB c0; have cC1 := bcell hbAB c1
      have cD0 := bcell hbBA c0; have cD1 := bcell hbBA c1
      clear hbA hbB hbAB hbBA
      go_region
      all_goals (
        go_wp2
        go_roundw
        case rel => exact ⟨k + 1, by omega, by go_num, by rw [HT.out], HNZ.out, ((hb.alloc hb.size _).alloc (hb.alloc hb.size _).size _).drew⟩
        case measure => simp [intOf]; omega)
    · have hkk : k = l.length := by omega
      have HK := Lib.hid hkk; clear hkk
      go_wp2
      go_ret
      exact ⟨by rw [HK.out, List.take_length]; rfl, hb⟩
end Go.Proofs.Ytifdglehfhoecaa.E
