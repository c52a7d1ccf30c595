import Derived.Test.YtnkcmlkehholhaaDoorSum
import Derived.Outline
namespace Go.Proofs.YtnkcmlkehholhaaDoor.Crcw
open Go.RowKit
theorem sum_is (n : Int) (v : Value) (l : List ByteArray) (w : World) (hn : ((Crcm.sum (l.flatMap bts) : Nat) : Int) = n) (hv : Strs w v l) (hlen : l.length ≤ 9223372036854775807) (hs : ∀ s ∈ l, s.size ≤ 9223372036854775807) (hT : Table w) :
    Calls Tryd.prog 9 #[v] w fun e w' => e = .returned (.int .i64 n) ∧ Below w.heap.size w w' := by
  rw [← hn]; exact sum_any v l w hv hlen hs hT
def s9 : ByteArray := ⟨#[49, 50, 51, 52, 53, 54, 55, 56, 57]⟩
def s4 : ByteArray := ⟨#[49, 50, 51, 52]⟩
def s5 : ByteArray := ⟨#[53, 54, 55, 56, 57]⟩
theorem sum9 : ((Crcm.sum ([s9].flatMap bts) : Nat) : Int) = 3421780262 := by decide +kernel
theorem sum45 : ((Crcm.sum ([s4, s5].flatMap bts) : Nat) : Int) = 3421780262 := by decide +kernel
theorem strs_new1 (w : World) (s : ByteArray) (t : TypeId) (cap : Nat) : Strs (w.alloc (.cells #[.string s] t)) (.slice (some ⟨w.heap.size, 0, none⟩) 1 cap) [s] := by
  refine ⟨_, _, rfl, fun j h => ⟨_, rfl, ?_⟩⟩
  obtain rfl : j = 0 := by simp at h; omega
  rw [show (⟨w.heap.size, 0, none⟩ : Addr).add 0 = ⟨w.heap.size, 0, none⟩ from rfl, World.cell?_alloc_mark]; rfl
theorem strs_new2 (w : World) (s r : ByteArray) (t : TypeId) (cap : Nat) : Strs (w.alloc (.cells #[.string s, .string r] t)) (.slice (some ⟨w.heap.size, 0, none⟩) 2 cap) [s, r] := by
  refine ⟨_, _, rfl, fun j h => ⟨_, rfl, ?_⟩⟩
  match j, h with
  | 0, _ => rw [show (⟨w.heap.size, 0, none⟩ : Addr).add 0 = ⟨w.heap.size, 0, none⟩ from rfl, World.cell?_alloc_mark]; rfl
  | 1, _ => rw [show (⟨w.heap.size, 0, none⟩ : Addr).add 1 = ⟨w.heap.size, 1, none⟩ from rfl, World.cell?_alloc_mark]; rfl
theorem works_any (w : World) (hT : Table w) : Calls Tryd.prog 8 #[] w fun e w' => e = .returned (.bool true) ∧ Below w.heap.size w w' := by
  go_enter Tryd.func8, Tryd.ntmps8
  go_wp2_with fail
  refine (sum_is 0 _ [] _ (by decide) ⟨none, 0, rfl, fun j h => by simp at h⟩ (by simp) (by simp) hT).mono ?_
  rintro e w1 ⟨rfl, hb1⟩
  have hT1 := hT.below hb1
  go_wp2_with fail
  refine (sum_is 3421780262 _ [s9] _ sum9 (strs_new1 _ _ _ _) (by simp) (by simp; decide) (hT1.below ((Below.refl _ _).alloc (Nat.le_refl _) _))).mono ?_
  rintro e w2 ⟨rfl, hb2⟩
  have hB2 : Below w.heap.size w w2 := hb1.trans ((((Below.refl _ _).alloc (Nat.le_refl _) _).trans (hb2.mono (by simp))).mono hb1.size)
  have hT2 := hT.below hB2
  clear hb1 hb2
  go_wp2_with fail
  refine (sum_is 3421780262 _ [s4, s5] _ sum45 (strs_new2 _ _ _ _ _) (by simp) (by simp; decide) (hT2.below ((Below.refl _ _).alloc (Nat.le_refl _) _))).mono ?_
  rintro e w3 ⟨rfl, hb3⟩
  have hB3 : Below w.heap.size w w3 := hB2.trans ((((Below.refl _ _).alloc (Nat.le_refl _) _).trans (hb3.mono (by simp))).mono hB2.size)
  have hT3 := hT.below hB3
  clear hb3
  go_wp2_with fail
  refine (step_int 4294967296 0 _ hT3).mono ?_
  rintro e w4 ⟨rfl, rfl⟩
  have e0 : ((Crcm.step ((4294967296 : Int) % 4294967296).toNat (0 : UInt8).toNat : Nat) : Int) = 0 := by decide
  rw [e0]
  go_wp2
  go_ret
  exact ⟨rfl, hB3⟩
end Go.Proofs.YtnkcmlkehholhaaDoor.Crcw
