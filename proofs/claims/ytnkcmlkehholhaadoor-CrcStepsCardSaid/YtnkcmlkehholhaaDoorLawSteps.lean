import Derived.Test.YtnkcmlkehholhaaDoorWorks
namespace Go.Proofs.YtnkcmlkehholhaaDoor.Crcw
open Go.RowKit
theorem steps_core (c d a b : Int) (X Y Z : Nat) (w : World) (hT : Table w) (s1 s2 : Bool) (h1 : ((X : Int) == (Y : Int)) = s1) (h2 : ((c % 4294967296) == (d % 4294967296)) = s1) (h3 : ((X : Int) == (Z : Int)) = s2) (h4 : (a == b) = s2)
    (hX : ∀ w, Table w → Calls Tryd.prog 11 #[.int .i64 c, .int .u8 a] w fun e w' => e = .returned (.int .i64 X) ∧ w = w')
    (hY : ∀ w, Table w → Calls Tryd.prog 11 #[.int .i64 d, .int .u8 a] w fun e w' => e = .returned (.int .i64 Y) ∧ w = w')
    (hZ : ∀ w, Table w → Calls Tryd.prog 11 #[.int .i64 c, .int .u8 b] w fun e w' => e = .returned (.int .i64 Z) ∧ w = w')
    (hX2 : (X : Int) ≤ 4294967295) :
    Calls Tryd.prog 6 #[.int .i64 c, .int .i64 d, .int .u8 a, .int .u8 b] w fun e w' => e = .returned (.bool true) ∧ Below w.heap.size w w' := by
  have HX := Lib.hid hX; clear hX
  have HY := Lib.hid hY; clear hY
  have HZ := Lib.hid hZ; clear hZ
  go_enter Tryd.func6, Tryd.ntmps6
  go_wp2_with fail
  refine (works_any _ hT).mono ?_
  rintro e w1 ⟨rfl, hb⟩
  have hT1 := hT.below hb
  go_wp2_with fail
  refine (HX.out _ hT1).mono ?_
  rintro e w2 ⟨rfl, rfl⟩
  go_wp2_with fail
  refine (HY.out _ hT1).mono ?_
  rintro e w2 ⟨rfl, rfl⟩
  go_wp2_with fail
  refine (HZ.out _ hT1).mono ?_
  rintro e w2 ⟨rfl, rfl⟩
  cases s1 <;> cases s2
  all_goals
    go_wp2
    go_ret
    exact ⟨rfl, hb⟩
theorem nat_beq (x y : Nat) (b : Bool) (h : x = y ↔ b = true) : ((x : Int) == (y : Int)) = b := by
  cases b
  · simp at h; simp; omega
  · simp at h; simp; omega
theorem steps_any (c d : Int) (a b : UInt8) (w : World) (hT : Table w) :
    Calls Tryd.prog 6 #[.int .i64 c, .int .i64 d, .int .u8 (a.toNat : Int), .int .u8 (b.toNat : Int)] w fun e w' => e = .returned (.bool true) ∧ Below w.heap.size w w' := by
  refine steps_core c d a.toNat b.toNat _ _ _ w hT (decide ((c % 4294967296).toNat = (d % 4294967296).toNat)) (decide (a.toNat = b.toNat)) ?_ ?_ ?_ ?_ (fun w hT => step_int c a w hT) (fun w hT => step_int d a w hT) (fun w hT => step_int c b w hT) ?_
  · refine nat_beq _ _ _ ⟨fun h => ?_, fun h => ?_⟩
    · simp; exact Crcm.step_inj (by omega) (by omega) a.toNat_lt h
    · rw [of_decide_eq_true h]
  · have : (c % 4294967296 = d % 4294967296) ↔ ((c % 4294967296).toNat = (d % 4294967296).toNat) := by omega
    rw [Bool.eq_iff_iff]; simp only [beq_iff_eq, decide_eq_true_eq]; exact this
  · refine nat_beq _ _ _ ⟨fun h => ?_, fun h => ?_⟩
    · simp only [decide_eq_true_eq]; exact Crcm.step_inj_byte (c := (c % 4294967296).toNat) (by omega) a.toNat_lt b.toNat_lt h
    · rw [of_decide_eq_true h]
  · rw [Bool.eq_iff_iff]; simp only [beq_iff_eq, decide_eq_true_eq]; omega
  · have := Crcm.step_lt (c := (c % 4294967296).toNat) (by omega) a.toNat_lt; omega
end Go.Proofs.YtnkcmlkehholhaaDoor.Crcw
