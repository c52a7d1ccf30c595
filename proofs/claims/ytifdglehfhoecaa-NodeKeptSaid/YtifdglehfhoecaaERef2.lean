/-
  The document's answers on lists: what may be, same lists, right lists, a key's value. Conditions: none.
-/
import Derived.Test.YtifdglehfhoecaaECheck
import Derived.Test.YtifdglehfhoecaaESize
namespace Go.Proofs.Ytifdglehfhoecaa.E
open Go.RowKit B
theorem rmay_any (k v : ByteArray) (w : World) : Calls Try.prog 40 #[.string k, .string v] w fun r w' => r = .returned (.bool (decide (M.may k v))) ∧ w = w' := by
  by_cases h0 : k.size < 1
  · have hm : decide (M.may k v) = false := by rw [decide_eq_false_iff_not]; unfold M.may; omega
    rw [hm]
    clear hm
    go_enter Try.func40, Try.ntmps40
    go_wp2
    go_ret
    exact ⟨rfl, rfl⟩
  · by_cases h1 : 16 < k.size
    · have hm : decide (M.may k v) = false := by rw [decide_eq_false_iff_not]; unfold M.may; omega
      rw [hm]
      clear hm
      go_enter Try.func40, Try.ntmps40
      go_wp2
      go_ret
      exact ⟨rfl, rfl⟩
    · by_cases h2 : 40 < v.size
      · have hm : decide (M.may k v) = false := by rw [decide_eq_false_iff_not]; unfold M.may; omega
        rw [hm]
        clear hm
        have hd : decide ((v.size : Int) ≤ 40) = false := by rw [decide_eq_false_iff_not]; omega
        go_enter Try.func40, Try.ntmps40
        go_wp2
        go_ret
        exact ⟨rfl, rfl⟩
      · have hm : decide (M.may k v) = true := by rw [decide_eq_true_eq]; unfold M.may; omega
        rw [hm]
        clear hm
        have hd : decide ((v.size : Int) ≤ 40) = true := by rw [decide_eq_true_eq]; omega
        go_enter Try.func40, Try.ntmps40
        go_wp2
        go_ret
        exact ⟨rfl, rfl⟩
/-- what says whether two lists are one -/
def Sm (a b : List Ent) (w : World) (r : Ending) (w' : World) : Prop := r = .returned (.bool (decide (a = b))) ∧ Below w.heap.size w w'
theorem ents_len {w : World} {v : Value} {l : List Ent} (h : Ents w v l) : l.length ≤ 9223372036854775807 := by
  obtain ⟨_, cap, _, h1, h2, _⟩ := h.open
  have e : maxLen = 9223372036854775807 := by decide
  omega
set_option maxHeartbeats 1000000 in
theorem same_any (va vb : Value) (a b : List Ent) (w : World) (ha : Ents w va a) (hb : Ents w vb b) : Calls Try.prog 39 #[va, vb] w (Sm a b w) := by
  have hla := ents_len ha
  have hlb := ents_len hb
  obtain ⟨ao, ca, rfl, _, _, hca⟩ := ha.open
  obtain ⟨bo, cb, rfl, _, _, hcb⟩ := hb.open
  have HA := Lib.hid hca; have HB := Lib.hid hcb
  clear hca hcb ha hb
  by_cases hl : a.length = b.length
  case neg =>
    have hne : decide (a = b) = false := by rw [decide_eq_false_iff_not]; intro h; exact hl (by rw [h])
    have hbe : ((a.length : Int) == (b.length : Int)) = false := by rw [beq_eq_false_iff_ne]; omega
    have HN := Lib.hid hne; clear hne hl
    go_enter Try.func39, Try.ntmps39
    go_wp2
    go_ret
    exact ⟨by rw [HN.out]; rfl, Below.refl _ _⟩
  obtain ⟨n, hn⟩ : ∃ n, b.length = n := ⟨_, rfl⟩
  rw [hn] at hl hlb ⊢
  rw [hl]
  have HLA := Lib.hid hl; have HLB := Lib.hid hn
  clear hl hn hla
  go_enter Try.func39, Try.ntmps39
  go_wp2
  go_loopw [5] (fun i wr => ∃ k : Nat, k ≤ n ∧ i = .int .i64 k ∧ (∀ j (h1 : j < a.length) (h2 : j < b.length), j < k → a[j] = b[j]) ∧ Below w.heap.size w wr) (fun i _ => n - (intOf i).toNat)
  case atStart => exact ⟨0, Nat.zero_le _, rfl, fun j _ _ h => absurd h (by omega), Below.refl _ _⟩
  case round =>
    obtain ⟨k, hk, rfl, hpre, hb⟩ := hrel
    have HPRE := Lib.hid hpre; clear hpre
    by_cases hlt : k < n
    · have hka : k < a.length := by rw [HLA.out]; exact hlt
      have hkb : k < b.length := by rw [HLB.out]; exact hlt
      obtain ⟨ab, ai, rfl, ak, av⟩ := HA.out k hka
      obtain ⟨bb, bi, rfl, bk, bv⟩ := HB.out k hkb
      have c0 := (hb.cell (lt_of_cell ak)).trans ak
      have c1 := (hb.cell (lt_of_cell av)).trans av
      have c2 := (hb.cell (lt_of_cell bk)).trans bk
      have c3 := (hb.cell (lt_of_cell bv)).trans bv
      clear ak av bk bv
      obtain ⟨ka, hka1⟩ : ∃ x, a[k].1 = x := ⟨_, rfl⟩
      obtain ⟨xa, hxa1⟩ : ∃ x, a[k].2 = x := ⟨_, rfl⟩
      obtain ⟨kb, hkb1⟩ : ∃ x, b[k].1 = x := ⟨_, rfl⟩
      obtain ⟨xb, hxb1⟩ : ∃ x, b[k].2 = x := ⟨_, rfl⟩
      rw [hka1] at c0
      rw [hxa1] at c1
      rw [hkb1] at c2
      rw [hxb1] at c3
      have E1 := Lib.hid hka1; have E2 := Lib.hid hxa1; have E3 := Lib.hid hkb1; have E4 := Lib.hid hxb1
      clear hka1 hxa1 hkb1 hxb1
      have hkz : (0 : Int) ≤ (k : Int) := Int.natCast_nonneg _
      have hkn : (k : Int) < (n : Int) := by omega
      by_cases hk1 : ka = kb
      · have hq1 := str_eq hk1
        by_cases hv1 : xa = xb
        · have hq2 := str_eq hv1
          have hnx : ∀ j (h1 : j < a.length) (h2 : j < b.length), j < k + 1 → a[j] = b[j] := fun j h1 h2 h => by
            rcases Nat.lt_or_ge j k with h' | h'
            · exact HPRE.out j h1 h2 h'
            · obtain rfl : j = k := by omega
              exact Prod.ext (by rw [E1.out, E3.out, hk1]) (by rw [E2.out, E4.out, hv1])
          have HN := Lib.hid hnx
          clear hnx hk1 hv1
          go_upto_region 6 with (fail)
          go_quiet (fail)
          go_wp2
          go_roundw
          case rel => exact ⟨k + 1, by omega, by go_num, HN.out, ⟨hb.os, hb.tape, hb.output, hb.size, hb.block⟩⟩
          case measure => simp [intOf]; omega
        · have hq2 := str_ne hv1
          have hne : decide (a = b) = false := by
            rw [decide_eq_false_iff_not]
            intro h
            apply hv1
            rw [← E2.out, ← E4.out]
            congr 2
          have HN := Lib.hid hne
          clear hne hk1 hv1
          go_upto_region 6 with (fail)
          go_quiet (fail)
          go_wp2
          go_ret
          exact ⟨by rw [HN.out]; rfl, ⟨hb.os, hb.tape, hb.output, hb.size, hb.block⟩⟩
      · have hq1 := str_ne hk1
        have hne : decide (a = b) = false := by
          rw [decide_eq_false_iff_not]
          intro h
          apply hk1
          rw [← E1.out, ← E3.out]
          congr 2
        have HN := Lib.hid hne
        clear hne hk1
        go_upto_region 6 with (fail)
        go_quiet (fail)
        go_wp2
        go_ret
        exact ⟨by rw [HN.out]; rfl, ⟨hb.os, hb.tape, hb.output, hb.size, hb.block⟩⟩
    · have hyes : decide (a = b) = true := by
        rw [decide_eq_true_eq]
        refine List.ext_getElem (by rw [HLA.out, HLB.out]) fun j h1 h2 => HPRE.out j h1 h2 (by rw [HLB.out] at h2; omega)
      have HY := Lib.hid hyes; clear hyes
      go_wp2
      go_ret
      exact ⟨by rw [HY.out]; rfl, hb⟩
end Go.Proofs.Ytifdglehfhoecaa.E
