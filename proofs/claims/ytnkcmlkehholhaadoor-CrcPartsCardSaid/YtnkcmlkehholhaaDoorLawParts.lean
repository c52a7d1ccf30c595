import Derived.Test.YtnkcmlkehholhaaDoorLawSums
import Derived.Deep.RegionHeld3
import Derived.Deep.DeepCutAuto
import Derived.WalkSpells
namespace Go.Proofs.YtnkcmlkehholhaaDoor.Crcw
open Go.RowKit
/-- texts whose bytes are all of S, and fit -/
def Text (w : World) (v : Value) (S : List UInt8) : Prop := ∃ l, Strs w v l ∧ l.flatMap bts = S ∧ l.length ≤ 9223372036854775807 ∧ ∀ s ∈ l, s.size ≤ 9223372036854775807
theorem sum_text (S : List UInt8) (v : Value) (w : World) (h : Text w v S) (hT : Table w) :
    Calls Tryd.prog 9 #[v] w fun e w' => e = .returned (.int .i64 ((Crcm.sum S : Nat) : Int)) ∧ Below w.heap.size w w' := by
  obtain ⟨l, h1, rfl, h3, h4⟩ := h
  exact sum_any v l w h1 h3 h4 hT
theorem Strs.below {w w' : World} {v : Value} {l : List ByteArray} (h : Strs w v l) (hb : Below w.heap.size w w') : Strs w' v l := by
  obtain ⟨ao, cap, rfl, h⟩ := h
  exact ⟨ao, cap, rfl, fun j hj => by
    obtain ⟨a, e, hc⟩ := h j hj
    exact ⟨a, e, (hb.cell (lt_of_cell hc)).trans hc⟩⟩
theorem Text.below {w w' : World} {v : Value} {S : List UInt8} (h : Text w v S) (hb : Below w.heap.size w w') : Text w' v S := by
  obtain ⟨l, h1, h2, h3, h4⟩ := h
  exact ⟨l, h1.below hb, h2, h3, h4⟩
theorem Table.alloc {w : World} (h : Table w) (o : Obj) : Table (w.alloc o) := h.below ((Below.refl _ _).alloc (Nat.le_refl _) _)
theorem Table.drew {w : World} (h : Table w) : Table w.drew := h
theorem Text.alloc {w : World} {v : Value} {S : List UInt8} (h : Text w v S) (o : Obj) : Text (w.alloc o) v S := h.below ((Below.refl _ _).alloc (Nat.le_refl _) _)
theorem Text.drew {w : World} {v : Value} {S : List UInt8} (h : Text w v S) : Text w.drew v S := h
theorem small_of {x : ByteArray} {S : List UInt8} {n : Nat} (hS : S.length ≤ n) (h : ∃ p q, p ++ bts x ++ q = S) (hn : n ≤ 9223372036854775807) : x.size ≤ 9223372036854775807 := by
  obtain ⟨p, q, e⟩ := h
  have := congrArg List.length e
  simp at this
  omega
theorem Text.new1 (w : World) (b cap : Nat) (t : TypeId) (x : ByteArray) {S : List UInt8} (hb : b = w.heap.size) (h : bts x = S) (hS : S.length ≤ 1000000) : Text (w.alloc (.cells #[.string x] t)) (.slice (some ⟨b, 0, none⟩) 1 cap) S := by
  subst hb
  refine ⟨[x], strs_new1 _ _ _ _, by simpa using h, by simp, ?_⟩
  have := bts_size x
  rw [h] at this
  simp; omega
theorem Text.new2 (w : World) (b cap : Nat) (t : TypeId) (x y : ByteArray) {S : List UInt8} (hb : b = w.heap.size) (h : bts x ++ bts y = S) (hS : S.length ≤ 1000000) : Text (w.alloc (.cells #[.string x, .string y] t)) (.slice (some ⟨b, 0, none⟩) 2 cap) S := by
  subst hb
  refine ⟨[x, y], strs_new2 _ _ _ _ _, by simpa using h, by simp, ?_⟩
  have := congrArg List.length h
  rw [List.length_append, bts_size, bts_size] at this
  simp; omega
theorem strs_new3 (w : World) (s r q : ByteArray) (t : TypeId) (cap : Nat) : Strs (w.alloc (.cells #[.string s, .string r, .string q] t)) (.slice (some ⟨w.heap.size, 0, none⟩) 3 cap) [s, r, q] := by
  refine ⟨_, _, rfl, fun j h => ⟨_, rfl, ?_⟩⟩
  match j, h with
  | 0, _ => rw [show (⟨w.heap.size, 0, none⟩ : Addr).add 0 = ⟨w.heap.size, 0, none⟩ from rfl, World.cell?_alloc_mark]; rfl
  | 1, _ => rw [show (⟨w.heap.size, 0, none⟩ : Addr).add 1 = ⟨w.heap.size, 1, none⟩ from rfl, World.cell?_alloc_mark]; rfl
  | 2, _ => rw [show (⟨w.heap.size, 0, none⟩ : Addr).add 2 = ⟨w.heap.size, 2, none⟩ from rfl, World.cell?_alloc_mark]; rfl
theorem Text.new3 (w : World) (b cap : Nat) (t : TypeId) (x y z : ByteArray) {S : List UInt8} (hb : b = w.heap.size) (h : bts x ++ (bts y ++ bts z) = S) (hS : S.length ≤ 1000000) : Text (w.alloc (.cells #[.string x, .string y, .string z] t)) (.slice (some ⟨b, 0, none⟩) 3 cap) S := by
  subst hb
  refine ⟨[x, y, z], strs_new3 _ _ _ _ _ _, by simpa using h, by simp, ?_⟩
  have := congrArg List.length h
  rw [List.length_append, List.length_append, bts_size, bts_size, bts_size] at this
  simp; omega
theorem bts_extract (s : ByteArray) (i j : Nat) : bts (s.extract i j) = ((bts s).take j).drop i := by simp [bts, ByteArray.data_extract, List.extract_eq_take_drop, List.drop_take]
theorem parts_eq (s : ByteArray) (k : Nat) : bts (s.extract 0 k) ++ bts (s.extract k s.size) = bts s := by
  rw [bts_extract, bts_extract, List.drop_zero, List.take_of_length_le (i := s.size) (by simp [bts]), List.take_append_drop]

/-- the table is there, and below the call's beginning nothing has turned -/
def Ok (w W : World) : Prop := Table W ∧ Below w.heap.size w W
theorem Ok.alloc {w W : World} (h : Ok w W) (o : Obj) : Ok w (W.alloc o) := ⟨h.1.alloc o, h.2.alloc h.2.size o⟩
theorem Ok.drew {w W : World} (h : Ok w W) : Ok w W.drew := ⟨h.1, h.2.drew⟩
theorem Ok.da {w W : World} (h : Ok w W.drew) (o : Obj) : Ok w (W.alloc o).drew := Ok.drew (Ok.alloc (W := W) ⟨h.1, ⟨h.2.os, h.2.tape, h.2.output, h.2.size, h.2.block⟩⟩ o)
theorem Ok.step {w X W : World} (hb : Below X.heap.size X W) (h : Ok w X) : Ok w W := ⟨h.1.below hb, h.2.trans (hb.mono h.2.size)⟩
theorem Text.step {X W : World} {v : Value} {S : List UInt8} (hb : Below X.heap.size X W) (h : Text X v S) : Text W v S := h.below hb
theorem sum_ok (S : List UInt8) (v : Value) (w0 w : World) (h : Text w v S) (hT : Ok w0 w) :
    Calls Tryd.prog 9 #[v] w fun e w' => e = .returned (.int .i64 ((Crcm.sum S : Nat) : Int)) ∧ Below w.heap.size w w' := sum_text S v w h hT.1
theorem nil_bts (s : ByteArray) : bts ⟨#[]⟩ ++ (bts s ++ bts ⟨#[]⟩) = bts s := by simp [bts]
theorem nil_bts' (s : ByteArray) : bts ByteArray.empty ++ (bts s ++ bts ByteArray.empty) = bts s := by simp [bts]

set_option maxHeartbeats 8000000 in
theorem parts_walk (s : ByteArray) (at_ : Int) (k : Nat) (w : World) (hT : Table w) (hs : s.size ≤ 2048) (hk : k ≤ s.size) (hk1 : (at_ < 0 ∧ k = 0) ∨ ((s.size : Int) < at_ ∧ k = s.size) ∨ (at_ = k)) :
    Calls Tryd.prog 4 #[.string s, .int .i64 at_] w fun e w' => e = .returned (.bool true) ∧ Below w.heap.size w w' := by
  have hS : (bts s).length ≤ 1000000 := by rw [bts_size]; omega
  have HS := Lib.hid hS; clear hS
  have HK := Lib.hid hk1; clear hk1
  go_enter Tryd.func4, Tryd.ntmps4
  go_wp2_with fail
  refine (works_any _ hT).mono ?_
  rintro e w1 ⟨rfl, hb⟩
  have hOk : Ok w w1.drew := ⟨Table.drew (hT.below hb), hb.drew⟩
  clear hb
  go_upto_region 6 with (fail)
  go_cut [6] (fun s6 wx => s6 = .int .i64 (k : Int) ∧ wx = w1)
  case first =>
    rcases HK.out with ⟨h1, h2⟩ | ⟨h1, h2⟩ | h2
    · have H2 := Lib.hid h2; clear h2
      go_wp2
      go_meet
      exact ⟨by rw [H2.out]; rfl, rfl⟩
    · have H2 := Lib.hid h2; clear h2
      go_wp2
      go_meet
      exact ⟨by rw [H2.out], rfl⟩
    · subst h2
      go_wp2
      go_meet
      exact ⟨rfl, rfl⟩
  case rest =>
    obtain ⟨rfl, rfl⟩ := hcut
    go_wp2
    go_region_held3 (fun W => Ok w W) (first | assumption | (with_reducible refine Ok.da ?_ _; assumption) | (with_reducible refine Ok.alloc ?_ _; assumption) | ((with_reducible apply Ok.step); assumption; assumption)) (first | (go_at_call 9; refine (sum_ok (bts s) _ w _ (by repeat (first | (with_reducible refine Text.drew ?_) | (with_reducible refine Text.new1 _ _ _ _ _ ?_ rfl HS.out; simp) | (with_reducible refine Text.new2 _ _ _ _ _ _ ?_ (parts_eq s _) HS.out; simp) | (with_reducible refine Text.new3 _ _ _ _ _ _ _ ?_ (nil_bts s) HS.out; simp) | (with_reducible refine Text.alloc ?_ _) | ((with_reducible apply Text.step); assumption))) (by assumption)).mono ?_; rintro e w' ⟨rfl, hb'⟩))
    all_goals
      simp only [Exit.then]
      go_wp2
      go_ret
      exact ⟨rfl, (by assumption : Ok w _).2⟩
theorem parts_big (s : ByteArray) (at_ : Int) (w : World) (hT : Table w) (hs : ¬ s.size ≤ 2048) :
    Calls Tryd.prog 4 #[.string s, .int .i64 at_] w fun e w' => e = .returned (.bool true) ∧ Below w.heap.size w w' := by
  go_enter Tryd.func4, Tryd.ntmps4
  go_wp2_with fail
  refine (works_any _ hT).mono ?_
  rintro e w1 ⟨rfl, hb⟩
  go_wp2
  go_ret
  exact ⟨rfl, hb⟩
theorem parts_any (s : ByteArray) (at_ : Int) (w : World) (hT : Table w) :
    Calls Tryd.prog 4 #[.string s, .int .i64 at_] w fun e w' => e = .returned (.bool true) ∧ Below w.heap.size w w' := by
  by_cases hs : s.size ≤ 2048
  · by_cases h1 : at_ < 0
    · exact parts_walk s at_ 0 w hT hs (by omega) (.inl ⟨h1, rfl⟩)
    · by_cases h2 : (s.size : Int) < at_
      · exact parts_walk s at_ s.size w hT hs (by omega) (.inr (.inl ⟨h2, rfl⟩))
      · exact parts_walk s at_ at_.toNat w hT hs (by omega) (.inr (.inr (by omega)))
  · exact parts_big s at_ w hT hs
end Go.Proofs.YtnkcmlkehholhaaDoor.Crcw
