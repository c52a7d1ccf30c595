/-
  The walk of CrcHarm: it answers true. Conditions: the table lies in its cells.
-/
import Derived.Test.YtnkcmlkehholhaaDoorLawFolds
import Derived.Deep.DeepCutAuto
namespace Go.Proofs.YtnkcmlkehholhaaDoor.Crcw
open Go.RowKit
/-- the bytes that a text was turned into, and that they may be written -/
theorem bytes_world2 (w : World) (s : ByteArray) (cap : Nat) (t : TypeId) : ∃ w', (w.alloc (.cells (bytesRow s cap) t ((bytesRow s cap).size, (bytesRow s cap).size + 1))).drew = w' ∧ Below w.heap.size w w' ∧ w.heap.size < w'.heap.size ∧
    (∀ j (h : j < s.size), w'.cell? ⟨w.heap.size, j, none⟩ = some (.int .u8 ((s[j]).toNat : Int))) ∧ ∀ j, j < s.size → w'.frozen? ⟨w.heap.size, j, none⟩ = false := by
  refine ⟨_, rfl, ((Below.refl _ w).alloc (Nat.le_refl _) _).drew, by simp, fun j h => ?_, fun j h => ?_⟩
  · show (w.alloc _).cell? _ = _
    rw [World.cell?_alloc_mark, bytesRow_at s cap j h]; rfl
  · show (w.alloc _).frozen? _ = _
    have hz : s.size ≤ (bytesRow s cap).size := by simp [bytesRow]
    rw [World.frozen?_alloc_mark]
    have : ¬ (bytesRow s cap).size ≤ j := by omega
    simp [this]
/-- a row of bytes -/
def Row (w : World) (b0 : Nat) (l : List UInt8) : Prop := ∀ j (h : j < l.length), w.cell? ⟨b0, j, none⟩ = some (.int .u8 (l[j].toNat : Int))
theorem Row.set {w : World} {b0 : Nat} {l : List UInt8} (h : Row w b0 l) (k : Nat) (y : UInt8) : Row (w.setCell ⟨b0, k, none⟩ (.int .u8 (y.toNat : Int))) b0 (l.set k y) := by
  intro j hj
  have hj' : j < l.length := by simpa using hj
  by_cases e : k = j
  · subst e
    rw [World.cell?_setCell_same _ _ _ (h k hj')]; simp
  · rw [World.cell?_setCell_other _ _ _ _ (by intro e2; injection e2; contradiction), h j hj']; simp [e]
theorem harm_sum (p q : List UInt8) (x0 x1 x2 x3 a b c d : UInt8) (hn : ¬ (a = 0 ∧ b = 0 ∧ c = 0 ∧ d = 0)) : Crcm.sum (p ++ ([x0 ^^^ a, x1 ^^^ b, x2 ^^^ c, x3 ^^^ d] ++ q)) ≠ Crcm.sum (p ++ ([x0, x1, x2, x3] ++ q)) := by
  intro h
  have hl := Crcm.run_lt p (c := 4294967295) (by omega)
  unfold Crcm.sum at h
  have h1 := Crcm.xor_right_inj h
  rw [Crcm.run_append, Crcm.run_append, Crcm.run_append, Crcm.run_append] at h1
  have h2 := Crcm.run_inj q (Crcm.run_lt _ hl) (Crcm.run_lt _ hl) h1
  simp only [Crcm.run, UInt8.toNat_xor] at h2
  have h3 := Crcm.harm a.toNat_lt b.toNat_lt c.toNat_lt d.toNat_lt h2.symm
  apply hn
  refine ⟨UInt8.toNat_inj.1 ?_, UInt8.toNat_inj.1 ?_, UInt8.toNat_inj.1 ?_, UInt8.toNat_inj.1 ?_⟩ <;> simp [h3]
theorem set4 (l : List UInt8) (k : Nat) (hk : k + 4 ≤ l.length) (y0 y1 y2 y3 : UInt8) : ((((l.set k y0).set (k + 1) y1).set (k + 2) y2).set (k + 3) y3) = l.take k ++ ([y0, y1, y2, y3] ++ l.drop (k + 4)) := by
  apply List.ext_getElem?
  intro i
  simp only [List.getElem?_set, List.getElem?_append, List.getElem?_take, List.getElem?_drop, List.length_take, List.length_set]
  rw [Nat.min_eq_left (by omega)]
  rcases Nat.lt_or_ge i k with h | h
  · simp [h, show ¬ k = i by omega, show ¬ k + 1 = i by omega, show ¬ k + 2 = i by omega, show ¬ k + 3 = i by omega]
  · obtain ⟨j, rfl⟩ : ∃ j, i = k + j := ⟨i - k, by omega⟩
    match j with
    | 0 => simp [show k < l.length by omega]
    | 1 => simp [show k + 1 < l.length by omega, show ¬ k + 1 < k by omega]
    | 2 => simp [show k + 2 < l.length by omega, show ¬ k + 2 < k by omega]
    | 3 => simp [show k + 3 < l.length by omega, show ¬ k + 3 < k by omega]
    | j + 4 => simp [show ¬ k + (j + 4) < k by omega, show k + (j + 4) - k = j + 4 by omega]; congr 1; omega
theorem split4 (l : List UInt8) (k : Nat) (hk : k + 4 ≤ l.length) : l = l.take k ++ ([l[k], l[k + 1], l[k + 2], l[k + 3]] ++ l.drop (k + 4)) := by
  conv => lhs; rw [← List.take_append_drop k l]
  congr 1
  rw [List.drop_eq_getElem_cons (by omega), List.drop_eq_getElem_cons (by omega), List.drop_eq_getElem_cons (by omega), List.drop_eq_getElem_cons (by omega)]
  rfl
theorem bts_get (s : ByteArray) (k : Nat) (h : k < s.size) : (bts s)[k]'(by simpa using h) = s[k] := rfl
theorem u8x (x a : UInt8) : bits .xor .u8 (x.toNat : Int) (a.toNat : Int) = ((x ^^^ a).toNat : Int) := by
  rw [UInt8.toNat_xor]; exact u8_xor_nat _ _ x.toNat_lt a.toNat_lt
theorem guard4 (a b c d : UInt8) (hn : ¬ (a = 0 ∧ b = 0 ∧ c = 0 ∧ d = 0)) : ((a.toNat : Int) == 0) = false ∨ (((a.toNat : Int) == 0) = true ∧ ((b.toNat : Int) == 0) = false) ∨ (((a.toNat : Int) == 0) = true ∧ ((b.toNat : Int) == 0) = true ∧ ((c.toNat : Int) == 0) = false) ∨
    (((a.toNat : Int) == 0) = true ∧ ((b.toNat : Int) == 0) = true ∧ ((c.toNat : Int) == 0) = true ∧ ((d.toNat : Int) == 0) = false) := by
  have h : ∀ x : UInt8, x = 0 ↔ ((x.toNat : Int) == 0) = true := fun x => by
    rw [← UInt8.toNat_inj]; simp
  rw [h a, h b, h c, h d] at hn
  generalize ((a.toNat : Int) == 0) = p at *
  generalize ((b.toNat : Int) == 0) = q at *
  generalize ((c.toNat : Int) == 0) = r at *
  generalize ((d.toNat : Int) == 0) = t at *
  clear h
  revert hn; revert p q r t; decide
set_option maxRecDepth 100000 in
set_option maxHeartbeats 2000000 in
theorem harm_core (s : ByteArray) (at_ : Int) (a b c d : UInt8) (k : Nat) (w : World) (hT : Table w) (hs : s.size ≤ 2048) (hs4 : 4 ≤ s.size) (hk : k + 4 ≤ s.size) (hk1 : (at_ < 0 ∧ k = 0) ∨ ((s.size : Int) - 4 < at_ ∧ k + 4 = s.size) ∨ (at_ = k))
    (hn : ¬ (a = 0 ∧ b = 0 ∧ c = 0 ∧ d = 0)) :
    Calls Tryd.prog 5 #[.string s, .int .i64 at_, .int .u8 (a.toNat : Int), .int .u8 (b.toNat : Int), .int .u8 (c.toNat : Int), .int .u8 (d.toNat : Int)] w fun e w' => e = .returned (.bool true) ∧ Below w.heap.size w w' := by
  have HK := Lib.hid hk1; clear hk1
  have HN := Lib.hid hn; clear hn
  have hcv := fun w s => run_bytes_of_string (P := Tryd.prog) w 9 29 5 s Tryd.underlying9 Tryd.underlying29 Tryd.underlying5
  go_enter Tryd.func5, Tryd.ntmps5
  go_wp2_with fail
  refine (works_any _ hT).mono ?_
  rintro e w1 ⟨rfl, hb⟩
  have hT1 := hT.below hb
  go_upto_region 4 with (fail)
  go_cut [42] (fun s42 wx => s42 = .bool false ∧ wx = w1)
  case first =>
    rcases guard4 a b c d HN.out with h | ⟨h, h'⟩ | ⟨h, h', h''⟩ | ⟨h, h', h'', h'''⟩
    all_goals
      go_wp2
      go_meet
      exact ⟨congrArg Value.bool (by simp; omega), rfl⟩
  case rest =>
    obtain ⟨rfl, rfl⟩ := hcut
    go_upto_region 6 with (fail)
    go_cut [14] (fun s14 wx => s14 = .int .i64 (k : Int) ∧ wx = wc)
    case first =>
      rcases HK.out with ⟨h1, h2⟩ | ⟨h1, h2⟩ | h2
      · have H2 := Lib.hid h2; clear h2
        go_wp2
        go_meet
        exact ⟨by rw [H2.out]; rfl, rfl⟩
      · have h3 : (k : Int) = (s.size : Int) - 4 := by omega
        have H2 := Lib.hid h2; clear h2
        have H3 := Lib.hid h3; clear h3
        go_wp2
        go_meet
        exact ⟨by rw [H3.out], rfl⟩
      · subst h2
        go_wp2
        go_meet
        exact ⟨rfl, rfl⟩
    case rest =>
      obtain ⟨rfl, rfl⟩ := hcut
      go_upto_region 8 with (fail)
      obtain ⟨wo, hwo, hb2, hsz, hby, hfr⟩ := bytes_world2 wc s (grownCap wc s.size 0 5) 5
      rw [hwo]; clear hwo
      obtain ⟨cap, hcap⟩ : ∃ cap, grownCap wc s.size 0 5 = cap := ⟨_, rfl⟩
      rw [hcap]; clear hcap
      obtain ⟨B, hB⟩ : ∃ B, wc.heap.size = B := ⟨_, rfl⟩
      have hB2 : w.heap.size ≤ B := by rw [← hB]; exact hb.size
      have hBo : Below w.heap.size w wo := hb.trans (hb2.mono hb.size)
      rw [hB] at hby hfr hsz
      rw [hB]
      have hRow : Row wo B (bts s) := fun j hj => by
        have hj' : j < s.size := by simpa using hj
        exact hby j hj'
      have c0 := hby k (by omega)
      have c1 := hby (k + 1) (by omega)
      have c2 := hby (k + 2) (by omega)
      have c3 := hby (k + 3) (by omega)
      have f0 := hfr k (by omega)
      have f1 := hfr (k + 1) (by omega)
      have f2 := hfr (k + 2) (by omega)
      have f3 := hfr (k + 3) (by omega)
      clear hby hfr hb2 hB hb hT1 hcv
      have e0 := u8x s[k] a
      have e1 := u8x s[k + 1] b
      have e2 := u8x s[k + 2] c
      have e3 := u8x s[k + 3] d
      obtain ⟨x0, hx0⟩ : ∃ x, s[k] = x := ⟨_, rfl⟩
      obtain ⟨x1, hx1⟩ : ∃ x, s[k + 1] = x := ⟨_, rfl⟩
      obtain ⟨x2, hx2⟩ : ∃ x, s[k + 2] = x := ⟨_, rfl⟩
      obtain ⟨x3, hx3⟩ : ∃ x, s[k + 3] = x := ⟨_, rfl⟩
      rw [hx0] at c0 e0
      rw [hx1] at c1 e1
      rw [hx2] at c2 e2
      rw [hx3] at c3 e3
      have hl : k + 4 ≤ (bts s).length := by rw [bts_size]; exact hk
      have hsplit := split4 (bts s) k hl
      rw [bts_get s k (by omega), bts_get s (k + 1) (by omega), bts_get s (k + 2) (by omega), bts_get s (k + 3) (by omega), hx0, hx1, hx2, hx3] at hsplit
      have hne := harm_sum ((bts s).take k) ((bts s).drop (k + 4)) x0 x1 x2 x3 a b c d HN.out
      rw [← hsplit, ← set4 (bts s) k hl] at hne
      have hR4 := ((((hRow.set k (x0 ^^^ a)).set (k + 1) (x1 ^^^ b)).set (k + 2) (x2 ^^^ c)).set (k + 3) (x3 ^^^ d))
      have hlen : (((((bts s).set k (x0 ^^^ a)).set (k + 1) (x1 ^^^ b)).set (k + 2) (x2 ^^^ c)).set (k + 3) (x3 ^^^ d)).length = s.size := by simp
      generalize ((((bts s).set k (x0 ^^^ a)).set (k + 1) (x1 ^^^ b)).set (k + 2) (x2 ^^^ c)).set (k + 3) (x3 ^^^ d) = l at *
      simp only [UInt8.toNat_xor] at hR4
      have HR := Lib.hid hR4; clear hR4
      have HNE := Lib.hid hne; clear hne
      have HL := Lib.hid hlen; clear hlen
      have HBo := Lib.hid hBo; clear hBo
      clear hsplit hx0 hx1 hx2 hx3 hRow HN HK hl
      go_upto_region 12 with (fail)
      obtain ⟨wf, hwf⟩ : ∃ wf, ((((wo.setCell ⟨B, k, none⟩ (.int .u8 ((x0.toNat ^^^ a.toNat : Nat) : Int))).setCell ⟨B, k + 1, none⟩ (.int .u8 ((x1.toNat ^^^ b.toNat : Nat) : Int))).setCell ⟨B, k + 2, none⟩ (.int .u8 ((x2.toNat ^^^ c.toNat : Nat) : Int))).setCell ⟨B, k + 3, none⟩ (.int .u8 ((x3.toNat ^^^ d.toNat : Nat) : Int))) = wf := ⟨_, rfl⟩
      have hBf : Below w.heap.size w wf := by rw [← hwf]; exact (((HBo.out.setCell (by exact hB2) _).setCell (by exact hB2) _).setCell (by exact hB2) _).setCell (by exact hB2) _
      have hRf := HR.out
      rw [hwf] at hRf
      rw [hwf]
      clear hwf HR HBo c0 c1 c2 c3 f0 f1 f2 f3 e0 e1 e2 e3
      have hconv := run_convert_bytes_back (P := Tryd.prog) wf 29 9 5 ⟨B, 0, none⟩ cap l Tryd.underlying29 Tryd.underlying5 Tryd.underlying9 (fun j hj => by
        rw [show (⟨B, 0, none⟩ : Addr).add j = ⟨B, j, none⟩ from by unfold Addr.add; split <;> simp_all]; exact hRf j hj)
      rw [HL.out] at hconv
      have hsz2 : l.length ≤ 2048 := by rw [HL.out]; exact hs
      clear hRf
      have hTf := hT.below hBf
      have hneq : (((Crcm.sum l : Nat) : Int) != ((Crcm.sum (bts s) : Nat) : Int)) = true := by
        have := HNE.out
        rw [bne_iff_ne]; omega
      generalize hS1 : Crcm.sum l = S1 at *
      generalize hS2 : Crcm.sum (bts s) = S2 at *
      have HS1 := Lib.hid hS1; clear hS1
      have HS2 := Lib.hid hS2; clear hS2
      clear HNE
      go_wp2_with fail
      refine (sum_at S1 _ [⟨l.toArray⟩] _ (by rw [← HS1.out]; simp [bts]) (strs_new1 _ _ _ _) (by simp) (by intro x hx; obtain rfl := List.mem_singleton.1 hx; show l.toArray.size ≤ _; simp; omega) (hTf.below ((Below.refl _ _).alloc (Nat.le_refl _) _))).mono ?_
      rintro e w2 ⟨rfl, hb2⟩
      have hB2' : Below w.heap.size w w2 := hBf.trans ((((Below.refl _ _).alloc (Nat.le_refl _) _).trans (hb2.mono (by simp))).mono hBf.size)
      have hT2 := hT.below hB2'
      clear hb2 hconv
      go_wp2_with fail
      refine (sum_at S2 _ [s] _ (by rw [← HS2.out]; simp) (strs_new1 _ _ _ _) (by simp) (by simp; omega) (hT2.below ((Below.refl _ _).alloc (Nat.le_refl _) _))).mono ?_
      rintro e w3 ⟨rfl, hb3⟩
      have hB3 : Below w.heap.size w w3 := hB2'.trans ((((Below.refl _ _).alloc (Nat.le_refl _) _).trans (hb3.mono (by simp))).mono hB2'.size)
      clear hb3
      go_wp2
      go_ret
      exact ⟨rfl, hB3⟩
set_option maxRecDepth 100000 in
set_option maxHeartbeats 1000000 in
theorem harm_early (s : ByteArray) (at_ : Int) (a b c d : UInt8) (w : World) (hT : Table w) (h : 2048 < s.size ∨ (s.size ≤ 2048 ∧ s.size < 4)) :
    Calls Tryd.prog 5 #[.string s, .int .i64 at_, .int .u8 (a.toNat : Int), .int .u8 (b.toNat : Int), .int .u8 (c.toNat : Int), .int .u8 (d.toNat : Int)] w fun e w' => e = .returned (.bool true) ∧ Below w.heap.size w w' := by
  rcases h with h | ⟨h, h'⟩
  all_goals
    go_enter Tryd.func5, Tryd.ntmps5
    go_wp2_with fail
    refine (works_any _ hT).mono ?_
    rintro e w1 ⟨rfl, hb⟩
    go_wp2
    go_ret
    exact ⟨rfl, hb⟩
set_option maxRecDepth 100000 in
set_option maxHeartbeats 1000000 in
theorem harm_zero (s : ByteArray) (at_ : Int) (w : World) (hT : Table w) (h : s.size ≤ 2048) (h' : 4 ≤ s.size) :
    Calls Tryd.prog 5 #[.string s, .int .i64 at_, .int .u8 0, .int .u8 0, .int .u8 0, .int .u8 0] w fun e w' => e = .returned (.bool true) ∧ Below w.heap.size w w' := by
  go_enter Tryd.func5, Tryd.ntmps5
  go_wp2_with fail
  refine (works_any _ hT).mono ?_
  rintro e w1 ⟨rfl, hb⟩
  go_wp2
  go_ret
  exact ⟨rfl, hb⟩
theorem harm_any (s : ByteArray) (at_ : Int) (a b c d : UInt8) (w : World) (hT : Table w) :
    Calls Tryd.prog 5 #[.string s, .int .i64 at_, .int .u8 (a.toNat : Int), .int .u8 (b.toNat : Int), .int .u8 (c.toNat : Int), .int .u8 (d.toNat : Int)] w fun e w' => e = .returned (.bool true) ∧ Below w.heap.size w w' := by
  by_cases h1 : 2048 < s.size
  · exact harm_early s at_ a b c d w hT (.inl h1)
  by_cases h2 : s.size < 4
  · exact harm_early s at_ a b c d w hT (.inr ⟨by omega, h2⟩)
  by_cases hn : a = 0 ∧ b = 0 ∧ c = 0 ∧ d = 0
  · obtain ⟨rfl, rfl, rfl, rfl⟩ := hn
    exact harm_zero s at_ w hT (by omega) (by omega)
  by_cases h3 : at_ < 0
  · exact harm_core s at_ a b c d 0 w hT (by omega) (by omega) (by omega) (.inl ⟨h3, rfl⟩) hn
  by_cases h4 : (s.size : Int) - 4 < at_
  · exact harm_core s at_ a b c d (s.size - 4) w hT (by omega) (by omega) (by omega) (.inr (.inl ⟨h4, by omega⟩)) hn
  · exact harm_core s at_ a b c d at_.toNat w hT (by omega) (by omega) (by omega) (.inr (.inr (by omega))) hn
end Go.Proofs.YtnkcmlkehholhaaDoor.Crcw
