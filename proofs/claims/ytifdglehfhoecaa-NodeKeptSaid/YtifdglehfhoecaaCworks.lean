/-
  The document's examples of layer 1: they hold. Conditions: none.
-/
import Derived.Test.YtifdglehfhoecaaJoin
namespace Go.Proofs.Ytifdglehfhoecaa.C
open Go.RowKit B
def s123 : ByteArray := ⟨#[1, 2, 3]⟩
theorem w1 : txt (pb 2 258) = ⟨#[1, 2]⟩ := by decide +kernel
theorem w2 : tb ⟨#[97, 98]⟩ = ⟨#[2, 97, 98]⟩ := by decide +kernel
theorem w3 : intO s123 0 2 = 258 := by decide +kernel
theorem w4 : intS s123 0 2 = ⟨#[3]⟩ := by decide +kernel
theorem w5 : intE s123 0 2 = 0 := by decide +kernel
theorem w6 : endE ⟨#[3]⟩ 0 = 11 := by decide +kernel
theorem w7 : intO ⟨#[3]⟩ 0 2 = 0 := by decide +kernel
theorem w8 : intS ⟨#[3]⟩ 0 2 = ⟨#[3]⟩ := by decide +kernel
theorem w9 : intE ⟨#[3]⟩ 0 2 = 10 := by decide +kernel
theorem w10 : cat [⟨#[97]⟩, ⟨#[]⟩, ⟨#[98, 99]⟩] = ⟨#[97, 98, 99]⟩ := by decide +kernel
set_option maxHeartbeats 400000 in
theorem works_any (w : World) : Calls Try.prog 18 #[] w fun r w' => r = .returned (.bool true) ∧ Below w.heap.size w w' := by
  have p1 := fun W => put_ok 2 258 W (by decide) (by decide)
  rw [w1] at p1
  have p2 := fun W => text_ok ⟨#[97, 98]⟩ W (by decide)
  rw [w2] at p2
  have p3 := fun a W h => int_any a s123 0 2 W h
  rw [w3, w4, w5] at p3
  have p4 := fun a W h => left_any a ⟨#[3]⟩ 0 W h
  have p5 := fun a W h => end_any a ⟨#[3]⟩ 0 W h
  rw [w6] at p5
  have p6 := fun a W h => int_any a ⟨#[3]⟩ 0 2 W h
  rw [w7, w8, w9] at p6
  have p7 := fun a W h => err_any a ⟨#[3]⟩ 10 W h
  have p8 := fun v W h => join_any v [⟨#[97]⟩, ⟨#[]⟩, ⟨#[98, 99]⟩] W h (by decide) (by decide)
  rw [w10] at p8
  have P1 := Lib.hid p1; have P2 := Lib.hid p2; have P3 := Lib.hid p3; have P4 := Lib.hid p4; have P5 := Lib.hid p5; have P6 := Lib.hid p6; have P7 := Lib.hid p7; have P8 := Lib.hid p8
  clear p1 p2 p3 p4 p5 p6 p7 p8
  go_enter Try.func18, Try.ntmps18
  go_wp2_with fail
  refine (P1.out _).mono ?_
  rintro r x1 ⟨rfl, hb1⟩
  go_wp2_with fail
  refine (P2.out _).mono ?_
  rintro r x2 ⟨rfl, hb2⟩
  have hB := hb1.trans (hb2.mono hb1.size)
  clear hb1 hb2
  go_wp2_with fail
  refine (read_any s123 _).mono ?_
  rintro r x3 ⟨rfl, hr, hb3⟩
  have hB3 := hB.trans (hb3.mono hB.size)
  obtain ⟨a, ha⟩ : ∃ a, x2.heap.size = a := ⟨_, rfl⟩
  rw [ha] at hr ⊢
  have hla : w.heap.size ≤ a := by rw [← ha]; exact hB.size
  clear hB hb3 ha
  go_wp2_with fail
  refine (P3.out a _ hr).mono ?_
  rintro r x4 ⟨rfl, hr4, ho4⟩
  have hB4 := hB3.trans (ho4.to_below hla hB3.size)
  clear hB3 ho4 hr
  go_wp2_with fail
  refine (P4.out a _ hr4).mono ?_
  rintro r x5 ⟨rfl, rfl⟩
  go_wp2_with fail
  refine (P5.out a _ hr4).mono ?_
  rintro r x5 ⟨rfl, hb5⟩
  have hr5 := hr4.below hb5
  have hB5 := hB4.trans (hb5.mono hB4.size)
  clear hr4 hb5 hB4
  go_wp2_with fail
  refine (P6.out a _ hr5).mono ?_
  rintro r x6 ⟨rfl, hr6, ho6⟩
  have hB6 := hB5.trans (ho6.to_below hla hB5.size)
  clear hB5 ho6 hr5
  go_wp2_with fail
  refine (P7.out a _ hr6).mono ?_
  rintro r x7 ⟨rfl, rfl⟩
  go_wp2_with fail
  refine (P8.out _ _ (strs_new3 _ _ _ _ _)).mono ?_
  rintro r x8 ⟨rfl, hb8⟩
  have hB8 := hB6.trans ((((Below.refl _ _).alloc (Nat.le_refl _) _).trans (hb8.mono (by simp))).mono hB6.size)
  clear hb8 hB6
  go_wp2
  go_ret
  exact ⟨rfl, hB8⟩
end Go.Proofs.Ytifdglehfhoecaa.C
