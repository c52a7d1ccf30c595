/-
  The walk of CrcFolds: it answers true. Conditions: the table lies in its cells.
-/
import Derived.Test.YtnkcmlkehholhaaDoorLawSums
namespace Go.Proofs.YtnkcmlkehholhaaDoor.Crcw
open Go.RowKit
theorem sum_at (n : Nat) (v : Value) (l : List ByteArray) (w : World) (hn : Crcm.sum (l.flatMap bts) = n) (hv : Strs w v l) (hlen : l.length ≤ 9223372036854775807) (hs : ∀ s ∈ l, s.size ≤ 9223372036854775807) (hT : Table w) :
    Calls Tryd.prog 9 #[v] w fun e w' => e = .returned (.int .i64 (n : Int)) ∧ Below w.heap.size w w' := by
  rw [← hn]; exact sum_any v l w hv hlen hs hT
theorem one_byte (W : World) (b : UInt8) : (convert 29 9 (.slice (some ⟨W.heap.size, 0, none⟩) 1 1)).run Tryd.prog (W.alloc (.cells #[.int .u8 (b.toNat : Int)] 5)) = .ok (.string ⟨#[b]⟩) (W.alloc (.cells #[.int .u8 (b.toNat : Int)] 5)) := by
  have h := run_convert_bytes_back (P := Tryd.prog) (W.alloc (.cells #[.int .u8 (b.toNat : Int)] 5)) 29 9 5 ⟨W.heap.size, 0, none⟩ 1 [b] Tryd.underlying29 Tryd.underlying5 Tryd.underlying9 (fun j hj => by
    obtain rfl : j = 0 := by simp at hj; omega
    rw [show (⟨W.heap.size, 0, none⟩ : Addr).add 0 = ⟨W.heap.size, 0, none⟩ from rfl, World.cell?_alloc_mark]; rfl)
  simpa using h
set_option maxHeartbeats 1000000 in
theorem folds_core (s : ByteArray) (b : UInt8) (c d r q : Nat) (w : World) (hT : Table w) (hc : Crcm.sum ([s].flatMap bts) = c) (hd : Crcm.sum ([s, ⟨#[b]⟩].flatMap bts) = d) (hd2 : Crcm.sum ([s, ByteArray.empty].flatMap bts) = c)
    (e0 : bits .xor .i64 (c : Int) 4294967295 = (r : Int)) (e1 : bits .xor .i64 (q : Int) 4294967295 = (d : Int)) (hr : r < 4294967296) (hq : Crcm.step r b.toNat = q) (hc2 : (c : Int) ≤ 4294967295) (hs : s.size ≤ 2048) :
    Calls Tryd.prog 7 #[.string s, .int .u8 (b.toNat : Int)] w fun e w' => e = .returned (.bool true) ∧ Below w.heap.size w w' := by
  have HC := Lib.hid hc; clear hc
  have HD := Lib.hid hd; clear hd
  have HD2 := Lib.hid hd2; clear hd2
  have HQ := Lib.hid hq; clear hq
  have h1 := fun W => one_byte W b
  have e2 := beq_self_nat c
  have e3 := beq_self_nat d
  go_enter Tryd.func7, Tryd.ntmps7
  go_wp2_with fail
  refine (works_any _ hT).mono ?_
  rintro e w1 ⟨rfl, hb⟩
  have hT1 := hT.below hb
  go_wp2_with fail
  refine (sum_at c _ [s] _ HC.out (strs_new1 _ _ _ _) (by simp) (by simp; omega) (hT1.below ((Below.refl _ _).alloc (Nat.le_refl _) _))).mono ?_
  rintro e w2 ⟨rfl, hb2⟩
  have hB2 : Below w.heap.size w w2 := hb.trans ((((Below.refl _ _).alloc (Nat.le_refl _) _).trans (hb2.mono (by simp))).mono hb.size)
  have hT2 := hT.below hB2
  clear hb hb2
  go_wp2_with fail
  generalize hW : w2.alloc (.cells #[.int .u8 (b.toNat : Int)] 5) = w3
  have hb3 : Below w2.heap.size w2 w3 := by rw [← hW]; exact (Below.refl _ _).alloc (Nat.le_refl _) _
  have hs3 : w2.heap.size + 1 = w3.heap.size := by rw [← hW]; simp
  rw [hs3]
  clear hW hs3
  have hT3 := hT2.below hb3
  refine (sum_at d _ [s, ⟨#[b]⟩] _ HD.out (strs_new2 _ _ _ _ _) (by simp) (by simp; exact ⟨by omega, by show (1 : Nat) ≤ 9223372036854775807; omega⟩) (hT3.below ((Below.refl _ _).alloc (Nat.le_refl _) _))).mono ?_
  rintro e w4 ⟨rfl, hb4⟩
  have hB4 : Below w.heap.size w w4 := (hB2.trans (hb3.mono hB2.size)).trans ((((Below.refl _ _).alloc (Nat.le_refl _) _).trans (hb4.mono (by simp))).mono (Nat.le_trans hB2.size hb3.size))
  have hT4 := hT.below hB4
  clear hb4 hb3 hB2
  go_wp2_with fail
  refine (step_any r hr b _ hT4).mono ?_
  rintro e w5 ⟨rfl, rfl⟩
  rw [HQ.out]
  go_wp2_with fail
  refine (sum_at c _ [s, ByteArray.empty] _ HD2.out (strs_new2 _ _ _ _ _) (by simp) (by simp; omega) (hT4.below ((Below.refl _ _).alloc (Nat.le_refl _) _))).mono ?_
  rintro e w6 ⟨rfl, hb6⟩
  have hB6 : Below w.heap.size w w6 := hB4.trans ((((Below.refl _ _).alloc (Nat.le_refl _) _).trans (hb6.mono (by simp))).mono hB4.size)
  clear hb6
  go_wp2
  go_ret
  exact ⟨rfl, hB6⟩
theorem folds_big (s : ByteArray) (b : UInt8) (w : World) (hT : Table w) (hs : ¬ s.size ≤ 2048) :
    Calls Tryd.prog 7 #[.string s, .int .u8 (b.toNat : Int)] w fun e w' => e = .returned (.bool true) ∧ Below w.heap.size w w' := by
  go_enter Tryd.func7, Tryd.ntmps7
  go_wp2_with fail
  refine (works_any _ hT).mono ?_
  rintro e w1 ⟨rfl, hb⟩
  go_wp2
  go_ret
  exact ⟨rfl, hb⟩
theorem folds_any (s : ByteArray) (b : UInt8) (w : World) (hT : Table w) :
    Calls Tryd.prog 7 #[.string s, .int .u8 (b.toNat : Int)] w fun e w' => e = .returned (.bool true) ∧ Below w.heap.size w w' := by
  by_cases hs : s.size ≤ 2048
  · have hr := Crcm.run_lt (bts s) (c := 4294967295) (by omega)
    have hq := Crcm.step_lt (b := b.toNat) hr b.toNat_lt
    have hx : ∀ x y : Nat, (x ^^^ y) ^^^ y = x := fun x y => by rw [Nat.xor_assoc, Nat.xor_self, Nat.xor_zero]
    have hsum := Crcm.sum_lt (bts s)
    refine folds_core s b (Crcm.sum (bts s)) (Crcm.sum (bts s ++ [b])) (Crcm.run 4294967295 (bts s)) _ w hT (by simp) (by simp [bts]) (by simp [bts]) ?_ ?_ hr rfl (by omega) hs
    · have h := i64_xor_nat (Crcm.sum (bts s)) 4294967295 (by omega) (by omega)
      rw [Crcm.sum, hx] at h
      exact h
    · have h := i64_xor_nat (Crcm.step (Crcm.run 4294967295 (bts s)) b.toNat) 4294967295 (by omega) (by omega)
      rw [Crcm.sum, Crcm.run_append]
      exact h
  · exact folds_big s b w hT hs
end Go.Proofs.YtnkcmlkehholhaaDoor.Crcw
