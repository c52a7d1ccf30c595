/-
  The document's answer: is a list right; a key's value. Conditions: none.
-/
import Derived.Test.YtifdglehfhoecaaERef2
namespace Go.Proofs.Ytifdglehfhoecaa.E
open Go.RowKit B
set_option maxHeartbeats 1000000 in
theorem rright_any (v : Value) (l : List Ent) (w : World) (hv : Ents w v l) : Calls Try.prog 37 #[v] w fun r w' => r = .returned (.bool (decide (M.Ok l))) ∧ Below w.heap.size w w' := by
  have hlen := ents_len hv
  obtain ⟨ao, cap, rfl, _, _, hc⟩ := hv.open
  have HC := Lib.hid hc; clear hc hv
  go_enter Try.func37, Try.ntmps37
  go_wp2
  go_loopw [3] (fun i wr => ∃ k : Nat, k ≤ l.length ∧ i = .int .i64 k ∧ M.Ok (l.take k) ∧ Below w.heap.size w wr) (fun i _ => l.length - (intOf i).toNat)
  case atStart => exact ⟨0, Nat.zero_le _, rfl, by simpa using ok_nil, Below.refl _ _⟩
  case round =>
    obtain ⟨k, hk, rfl, hok, hb⟩ := hrel
    have HOK := Lib.hid hok; clear hok
    by_cases hlt : k < l.length
    · obtain ⟨b, o, rfl, hk0, hv0⟩ := HC.out k hlt
      have c0 := (hb.cell (lt_of_cell hk0)).trans hk0
      have c1 := (hb.cell (lt_of_cell hv0)).trans hv0
      clear hk0 hv0
      have hkz : (0 : Int) ≤ (k : Int) := Int.natCast_nonneg _
      have hkl : (k : Int) < (l.length : Int) := by omega
      have hck := rmay_any l[k].1 l[k].2
      by_cases hmay : M.may l[k].1 l[k].2
      · rw [decide_eq_true hmay] at hck
        have HMAY := Lib.hid hmay
        have HCK := Lib.hid hck
        clear hmay hck
        go_upto_region 4 with (fail)
        go_quiet ((go_at_call 40; exact Calls.quiet_of_same ((HCK.out _).mono fun _ _ h => ⟨h.1, h.2.symm⟩)))
        have hbW := hb
        rcases Nat.eq_zero_or_pos k with h0 | h0
        · have hd : decide ((0 : Int) < (k : Int)) = false := by rw [h0]; rfl
          have hd2 : decide (0 < k) = false := by rw [h0]; rfl
          have H0 := Lib.hid h0; clear h0
          go_upto_region 5 with (fail)
          go_quiet (fail)
          go_wp2
          go_roundw
          case rel => exact ⟨k + 1, by omega, by go_num, (M.ok_take_succ hlt).2 ⟨HOK.out, HMAY.out, fun h => absurd H0.out (by omega)⟩, ⟨hbW.os, hbW.tape, hbW.output, hbW.size, hbW.block⟩⟩
          case measure => simp [intOf]; omega
        · obtain ⟨b', o', e', hp0, _⟩ := HC.out (k - 1) (by omega)
          obtain ⟨rfl, rfl⟩ : b = b' ∧ o = o' := by injection e' with e'; injection e' with a1 a2 a3; exact ⟨a1, a2⟩
          have c2 := (hbW.cell (lt_of_cell hp0)).trans hp0
          clear hp0
          have hd : decide ((0 : Int) < (k : Int)) = true := by rw [decide_eq_true_eq]; omega
          have hd2 : decide (0 < k) = true := by rw [decide_eq_true_eq]; omega
          by_cases hl : Op.bytesLess (l[k - 1]'(by omega)).1.toList l[k].1.toList = true
          · have hl2 : (!Op.bytesLess (l[k - 1]'(by omega)).1.toList l[k].1.toList) = false := by rw [hl]; rfl
            have HL := Lib.hid hl
            go_upto_region 5 with (fail)
            go_quiet (fail)
            go_wp2
            go_roundw
            case rel => exact ⟨k + 1, by omega, by go_num, (M.ok_take_succ hlt).2 ⟨HOK.out, HMAY.out, fun _ => by have := HL.out; rwa [toL, toL] at this⟩, ⟨hbW.os, hbW.tape, hbW.output, hbW.size, hbW.block⟩⟩
            case measure => simp [intOf]; omega
          · have hl1 : Op.bytesLess (l[k - 1]'(by omega)).1.toList l[k].1.toList = false := by simpa using hl
            have hl2 : (!Op.bytesLess (l[k - 1]'(by omega)).1.toList l[k].1.toList) = true := by rw [hl1]; rfl
            have hno : decide (M.Ok l) = false := by
              rw [decide_eq_false_iff_not]
              intro h
              have := ((M.ok_take_succ hlt).1 (M.ok_take h (k + 1))).2.2 h0
              unfold M.klt at this
              rw [toL, toL] at hl1
              rw [hl1] at this
              exact Bool.noConfusion this
            have HNO := Lib.hid hno
            clear hno hl
            go_upto_region 5 with (fail)
            go_quiet (fail)
            go_wp2
            go_ret
            exact ⟨by rw [HNO.out]; rfl, ⟨hbW.os, hbW.tape, hbW.output, hbW.size, hbW.block⟩⟩
      · rw [decide_eq_false hmay] at hck
        have hno : decide (M.Ok l) = false := by
          rw [decide_eq_false_iff_not]
          intro h
          exact hmay ((M.ok_take_succ hlt).1 (M.ok_take h (k + 1))).2.1
        have HNO := Lib.hid hno
        have HCK := Lib.hid hck
        clear hmay hck hno
        go_upto_region 4 with (fail)
        go_quiet ((go_at_call 40; exact Calls.quiet_of_same ((HCK.out _).mono fun _ _ h => ⟨h.1, h.2.symm⟩)))
        go_upto_region 5 with (fail)
        go_quiet (fail)
        go_wp2
        go_ret
        exact ⟨by rw [HNO.out]; rfl, ⟨hb.os, hb.tape, hb.output, hb.size, hb.block⟩⟩
    · have hkl : k = l.length := by omega
      have hyes : decide (M.Ok l) = true := by
        rw [decide_eq_true_eq]
        have := HOK.out
        rwa [hkl, List.take_length] at this
      have HK := Lib.hid hkl; have HY := Lib.hid hyes
      clear hkl hyes
      go_wp2
      go_ret
      exact ⟨by rw [HY.out]; rfl, hb⟩
/-- the document's value of a key -/
def getr (l : List Ent) (k : ByteArray) : Option ByteArray := (l.find? fun e => decide (e.1 = k)).map (·.2)
theorem getr_eq {l : List Ent} {k : ByteArray} (h : M.Ok l) : getl l k = getr l k := by unfold getl getr; rw [if_pos h]
theorem rget_any (v : Value) (l : List Ent) (key : ByteArray) (w : World) (hv : Ents w v l) : Calls Try.prog 43 #[v, .string key] w (Got (getr l key) w) := by
  have hlen := ents_len hv
  obtain ⟨ao, cap, rfl, _, _, hc⟩ := hv.open
  have HC := Lib.hid hc; clear hc hv
  go_enter Try.func43, Try.ntmps43
  go_wp2
  go_loopw [6] (fun i wr => ∃ k : Nat, k ≤ l.length ∧ i = .int .i64 k ∧ (∀ j (h1 : j < l.length), j < k → l[j].1 ≠ key) ∧ w = wr) (fun i _ => l.length - (intOf i).toNat)
  case atStart => exact ⟨0, Nat.zero_le _, rfl, fun j _ h => absurd h (by omega), rfl⟩
  case round =>
    obtain ⟨k, hk, rfl, hpre, hw⟩ := hrel
    subst hw
    have HPRE := Lib.hid hpre; clear hpre
    by_cases hlt : k < l.length
    · obtain ⟨b, o, rfl, c0, c1⟩ := HC.out k hlt
      by_cases hkey : l[k].1 = key
      · have hy : getr l key = some l[k].2 := by
          unfold getr
          have h : l.find? (fun e => decide (e.1 = key)) = some l[k] := by
            rw [List.find?_eq_some_iff_getElem]
            exact ⟨by simp [hkey], k, hlt, rfl, fun j hj => by have := HPRE.out j (by omega) hj; simpa using this⟩
          rw [h]; rfl
        have HY := Lib.hid hy
        have hq := str_eq hkey
        clear hy hkey
        go_wp2
        go_ret2
        exact ⟨by rw [HY.out]; rfl, Below.refl _ _⟩
      · have hn : ∀ j (h1 : j < l.length), j < k + 1 → l[j].1 ≠ key := fun j h1 h => by
          rcases Nat.lt_or_ge j k with h' | h'
          · exact HPRE.out j h1 h'
          · obtain rfl : j = k := by omega
            exact hkey
        have HN := Lib.hid hn
        have hq := str_ne hkey
        clear hn hkey
        go_wp2
        go_roundw
        case rel => exact ⟨k + 1, by omega, by go_num, HN.out, by first | rfl | trivial⟩
        case measure => simp [intOf]; omega
    · have hno : getr l key = none := by
        unfold getr
        have h : l.find? (fun e => decide (e.1 = key)) = none := by
          rw [List.find?_eq_none]
          intro e he
          obtain ⟨j, hj, rfl⟩ := List.getElem_of_mem he
          simpa using HPRE.out j hj (by omega)
        rw [h]; rfl
      have HN := Lib.hid hno; clear hno
      go_wp2
      go_ret2
      exact ⟨by rw [HN.out]; rfl, Below.refl _ _⟩
end Go.Proofs.Ytifdglehfhoecaa.E
