/-
  What may be a key with a value; whether a list is right. Conditions: none.
-/
import Derived.Test.YtifdglehfhoecaaEBase
import Derived.Test.YtifdglehfhoecaaEMath
import Derived.Deep.QuietTactic
import Derived.BigQuiet
import Derived.Deep.RegionHeld3
import Derived.Deep.DeepCutAuto
import Derived.Outline
namespace Go.Proofs.Ytifdglehfhoecaa.E
open Go.RowKit B
theorem check_any (k v : ByteArray) (w : World) : Calls Try.prog 41 #[.string k, .string v] w fun r w' => r = .returned (.int .i64 (if M.may k v then 0 else 110)) ∧ w = w' := by
  by_cases h0 : k.size = 0
  · have h1 := size_zero h0
    subst h1
    have hm : ¬ M.may ByteArray.empty v := by unfold M.may; simp
    rw [if_neg hm]
    clear hm h0
    go_enter Try.func41, Try.ntmps41
    go_wp2
    go_ret
    exact ⟨rfl, rfl⟩
  · have hb := str_ne_nil h0
    have hk1 : 1 ≤ k.size := by omega
    clear h0
    by_cases h1 : 16 < k.size
    · have hm : ¬ M.may k v := by unfold M.may; omega
      rw [if_neg hm]
      clear hm
      go_enter Try.func41, Try.ntmps41
      go_wp2
      go_ret
      exact ⟨rfl, rfl⟩
    · by_cases h2 : 40 < v.size
      · have hm : ¬ M.may k v := by unfold M.may; omega
        rw [if_neg hm]
        clear hm
        go_enter Try.func41, Try.ntmps41
        go_wp2
        go_ret
        exact ⟨rfl, rfl⟩
      · have hm : M.may k v := by unfold M.may; omega
        rw [if_pos hm]
        clear hm
        go_enter Try.func41, Try.ntmps41
        go_wp2
        go_ret
        exact ⟨rfl, rfl⟩
/-- the first k entries are right -/
theorem ok_nil : M.Ok [] := ⟨by simp, List.Pairwise.nil⟩
set_option maxHeartbeats 1000000 in
theorem right_walk (ao : Option Addr) (cap : Nat) (l : List Ent) (w : World) (hlen : l.length ≤ 4611686018427387904)
    (hc : ∀ j (_h : j < l.length), ∃ b o, ao = some ⟨b, o, none⟩ ∧ w.cell? ⟨b, o + j * 2, none⟩ = some (.string l[j].1) ∧ w.cell? ⟨b, o + j * 2 + 1, none⟩ = some (.string l[j].2)) :
    Calls Try.prog 72 #[.slice ao l.length cap] w fun r w' => r = .returned (.bool (decide (M.Ok l))) ∧ Below w.heap.size w w' := by
  have HC := Lib.hid hc; clear hc
  go_enter Try.func72, Try.ntmps72
  go_wp2
  go_loopw [7] (fun i wr => ∃ k : Nat, k ≤ l.length ∧ i = .int .i64 k ∧ M.Ok (l.take k) ∧ Below w.heap.size w wr) (fun i _ => l.length - (intOf i).toNat)
  case atStart => exact ⟨0, Nat.zero_le _, rfl, by simpa using ok_nil, Below.refl _ _⟩
  case round =>
    obtain ⟨k, hk, rfl, hok, hb⟩ := hrel
    have HOK := Lib.hid hok; clear hok
    by_cases hlt : k < l.length
    · obtain ⟨b, o, rfl, hk0, hv0⟩ := HC.out k hlt
      have c0 := (hb.cell (lt_of_cell hk0)).trans hk0
      have c1 := (hb.cell (lt_of_cell hv0)).trans hv0
      clear hk0 hv0
      go_upto_region 4 with (fail)
      obtain ⟨W, hW⟩ : ∃ W, wr.alloc (.cells #[.string l[k].1, .string l[k].2] 49) = W := ⟨_, rfl⟩
      have hbW : Below w.heap.size w W := by rw [← hW]; exact hb.alloc hb.size _
      have d0 : W.cell? ⟨wr.heap.size, 0, none⟩ = some (.string l[k].1) := by rw [← hW, World.cell?_alloc_mark]; rfl
      have d1 : W.cell? ⟨wr.heap.size, 1, none⟩ = some (.string l[k].2) := by rw [← hW, World.cell?_alloc_mark]; rfl
      rw [hW]
      clear hW c0 c1 hb
      have hck := check_any l[k].1 l[k].2
      by_cases hmay : M.may l[k].1 l[k].2
      · rw [if_pos hmay] at hck
        have HMAY := Lib.hid hmay
        have HCK := Lib.hid hck
        clear hmay hck
        rcases Nat.eq_zero_or_pos k with h0 | h0
        · have hd : decide ((0 : Int) < (k : Int)) = false := by rw [h0]; rfl
          have hd2 : decide (0 < k) = false := by rw [h0]; rfl
          have H0 := Lib.hid h0; clear h0
          go_quiet ((go_at_call 41; exact Calls.quiet_of_same ((HCK.out _).mono fun _ _ h => ⟨h.1, h.2.symm⟩)))
          go_wp2
          go_roundw
          case rel => exact ⟨k + 1, by omega, by go_num, (M.ok_take_succ hlt).2 ⟨HOK.out, HMAY.out, fun h => absurd H0.out (by omega)⟩, ⟨hbW.os, hbW.tape, hbW.output, hbW.size, hbW.block⟩⟩
          case measure => simp [intOf]; omega
        · obtain ⟨b', o', e', hp0, _⟩ := HC.out (k - 1) (by omega)
          obtain ⟨rfl, rfl⟩ : b = b' ∧ o = o' := by injection e' with e'; injection e' with a1 a2 a3; exact ⟨a1, a2⟩
          have c2 := (hbW.cell (lt_of_cell hp0)).trans hp0
          clear hp0
          have hd : decide ((0 : Int) < (k : Int)) = true := by rw [decide_eq_true_eq]; omega
          have hd2 : decide (0 < k) = true := by rw [decide_eq_true_eq]; omega
          by_cases hl : Op.bytesLess (l[k - 1]'(by omega)).1.toList l[k].1.toList = true
          · have hl2 : (!Op.bytesLess (l[k - 1]'(by omega)).1.toList l[k].1.toList) = false := by rw [hl]; rfl
            have HL := Lib.hid hl
            go_quiet ((go_at_call 41; exact Calls.quiet_of_same ((HCK.out _).mono fun _ _ h => ⟨h.1, h.2.symm⟩)))
            go_wp2
            go_roundw
            case rel => exact ⟨k + 1, by omega, by go_num, (M.ok_take_succ hlt).2 ⟨HOK.out, HMAY.out, fun _ => by have := HL.out; rwa [toL, toL] at this⟩, ⟨hbW.os, hbW.tape, hbW.output, hbW.size, hbW.block⟩⟩
            case measure => simp [intOf]; omega
          · have hl1 : Op.bytesLess (l[k - 1]'(by omega)).1.toList l[k].1.toList = false := by simpa using hl
            have hl2 : (!Op.bytesLess (l[k - 1]'(by omega)).1.toList l[k].1.toList) = true := by rw [hl1]; rfl
            have hno : decide (M.Ok l) = false := by
              rw [decide_eq_false_iff_not]
              intro h
              have := ((M.ok_take_succ hlt).1 (M.ok_take h (k + 1))).2.2 h0
              unfold M.klt at this
              rw [toL, toL] at hl1
              rw [hl1] at this
              exact Bool.noConfusion this
            have HNO := Lib.hid hno
            clear hno hl
            go_quiet ((go_at_call 41; exact Calls.quiet_of_same ((HCK.out _).mono fun _ _ h => ⟨h.1, h.2.symm⟩)))
            go_wp2
            go_ret
            exact ⟨by rw [HNO.out]; rfl, ⟨hbW.os, hbW.tape, hbW.output, hbW.size, hbW.block⟩⟩
      · rw [if_neg hmay] at hck
        have hno : decide (M.Ok l) = false := by
          rw [decide_eq_false_iff_not]
          intro h
          exact hmay ((M.ok_take_succ hlt).1 (M.ok_take h (k + 1))).2.1
        have HNO := Lib.hid hno
        have HCK := Lib.hid hck
        clear hmay hck hno
        go_quiet ((go_at_call 41; exact Calls.quiet_of_same ((HCK.out _).mono fun _ _ h => ⟨h.1, h.2.symm⟩)))
        go_wp2
        go_ret
        exact ⟨by rw [HNO.out]; rfl, ⟨hbW.os, hbW.tape, hbW.output, hbW.size, hbW.block⟩⟩
    · have hkl : k = l.length := by omega
      have hyes : decide (M.Ok l) = true := by
        rw [decide_eq_true_eq]
        have := HOK.out
        rwa [hkl, List.take_length] at this
      have HK := Lib.hid hkl; have HY := Lib.hid hyes
      clear hkl hyes
      go_wp2
      go_ret
      exact ⟨by rw [HY.out]; rfl, hb⟩
theorem right_any (v : Value) (l : List Ent) (w : World) (hv : Ents w v l) (hlen : l.length ≤ 4611686018427387904) :
    Calls Try.prog 72 #[v] w fun r w' => r = .returned (.bool (decide (M.Ok l))) ∧ Below w.heap.size w w' := by
  obtain ⟨ao, cap, rfl, _, _, hc⟩ := hv.open
  exact right_walk ao cap l w hlen hc
end Go.Proofs.Ytifdglehfhoecaa.E
