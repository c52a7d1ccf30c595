import Derived.Test.YtnkcmlkehholhaaDoorChecked
import Derived.Test.YtnkcmlkehholhaaDoorMath
import Derived.WalkKit
import Derived.WalkLawsBesides
import Derived.Lib.Hide
namespace Go.Proofs.YtnkcmlkehholhaaDoor.Crcw
open Go.RowKit
/-- the table's cells hold its numbers -/
def Table (w : World) : Prop := ∀ k, k < 16 → w.cell? ⟨0, k, none⟩ = some (.int .u32 ((Crcm.half k : Nat) : Int))
theorem Table.size {w : World} (h : Table w) : 0 < w.heap.size := by
  have h0 := h 0 (by omega)
  rcases Nat.eq_zero_or_pos w.heap.size with h1 | h1
  · simp [World.cell?, h1] at h0
  · exact h1
theorem Table.below {w w' : World} (h : Table w) (hb : Below w.heap.size w w') : Table w' := fun k hk => (hb.cell (p := ⟨0, k, none⟩) h.size).trans (h k hk)
theorem Table.below' {B : Nat} {w w' : World} (h : Table w) (hB : 0 < B) (hb : Below B w w') : Table w' := fun k hk => (hb.cell (p := ⟨0, k, none⟩) hB).trans (h k hk)

theorem step_core (c b : Int) (w : World) (n l t m l2 t2 r : Nat) (e1 : bits .xor .u32 (c % 4294967296) b = (n : Int)) (e2 : bits .and .u32 (n : Int) 15 = (l : Int)) (hl : l < 16) (c1 : w.cell? ⟨0, l, none⟩ = some (.int .u32 (t : Int)))
    (e3 : bits .xor .u32 ((n : Int) / 16) (t : Int) = (m : Int)) (e4 : bits .and .u32 (m : Int) 15 = (l2 : Int)) (hl2 : l2 < 16) (c2 : w.cell? ⟨0, l2, none⟩ = some (.int .u32 (t2 : Int)))
    (e5 : bits .xor .u32 ((m : Int) / 16) (t2 : Int) = (r : Int)) (hr : r < 4294967296) (hb : 0 ≤ b) (hb2 : b < 256) :
    Calls Tryd.prog 11 #[.int .i64 c, .int .u8 b] w fun e w' => e = .returned (.int .i64 r) ∧ w = w' := by
  go_enter Tryd.func11, Tryd.ntmps11
  go_wp2
  go_ret
  exact ⟨rfl, rfl⟩
theorem half_lt : ∀ k, k < 16 → Crcm.half k < 4294967296 := by decide
theorem and15 (n : Nat) : n &&& 15 = n % 16 := Nat.and_two_pow_sub_one_eq_mod n 4
/-- one step, from any number -/
theorem step_int (c : Int) (b : UInt8) (w : World) (hT : Table w) :
    Calls Tryd.prog 11 #[.int .i64 c, .int .u8 (b.toNat : Int)] w fun e w' => e = .returned (.int .i64 ((Crcm.step (c % 4294967296).toNat b.toNat : Nat) : Int)) ∧ w = w' := by
  obtain ⟨C, hC⟩ : ∃ C : Nat, c % 4294967296 = (C : Int) := ⟨(c % 4294967296).toNat, by omega⟩
  have hb := b.toNat_lt
  have hC2 : C < 4294967296 := by omega
  have hn := Crcm.xor_lt hC2 (show b.toNat < 4294967296 by omega)
  have hm := Crcm.xor_lt (a := (C ^^^ b.toNat) / 16) (by omega) (half_lt ((C ^^^ b.toNat) % 16) (by omega))
  have hr := Crcm.step_lt (c := C) (b := b.toNat) hC2 hb
  have e5 : Crcm.step C b.toNat = _ := Crcm.step_halves C b.toNat
  rw [show (c % 4294967296).toNat = C by omega]
  refine step_core c b.toNat w (C ^^^ b.toNat) ((C ^^^ b.toNat) % 16) _ ((C ^^^ b.toNat) / 16 ^^^ Crcm.half ((C ^^^ b.toNat) % 16)) (((C ^^^ b.toNat) / 16 ^^^ Crcm.half ((C ^^^ b.toNat) % 16)) % 16) _ (Crcm.step C b.toNat) ?_ ?_ ?_ (hT _ ?_) ?_ ?_ ?_ (hT _ ?_) ?_ hr ?_ ?_
  · rw [hC]; exact u32_xor_nat C b.toNat hC2 (by omega)
  · rw [← and15]; exact u32_and_nat _ 15 hn (by omega)
  · omega
  · omega
  · exact u32_xor_nat ((C ^^^ b.toNat) / 16) _ (by omega) (half_lt _ (by omega))
  · rw [← and15 (_ ^^^ Crcm.half _)]; exact u32_and_nat _ 15 hm (by omega)
  · omega
  · omega
  · rw [e5]; exact u32_xor_nat (((C ^^^ b.toNat) / 16 ^^^ Crcm.half ((C ^^^ b.toNat) % 16)) / 16) _ (by omega) (half_lt _ (by omega))
  · omega
  · omega
theorem step_any (C : Nat) (hC : C < 4294967296) (b : UInt8) (w : World) (hT : Table w) :
    Calls Tryd.prog 11 #[.int .i64 (C : Int), .int .u8 (b.toNat : Int)] w fun e w' => e = .returned (.int .i64 ((Crcm.step C b.toNat : Nat) : Int)) ∧ w = w' := by
  have h := step_int (C : Int) b w hT
  rwa [show ((C : Int) % 4294967296).toNat = C by omega] at h
end Go.Proofs.YtnkcmlkehholhaaDoor.Crcw
