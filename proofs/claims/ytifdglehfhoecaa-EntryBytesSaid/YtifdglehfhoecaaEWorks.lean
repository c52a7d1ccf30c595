/-
  The document's examples. Conditions: none.
-/
import Derived.Test.YtifdglehfhoecaaEHalf
import Derived.Test.YtifdglehfhoecaaEEnc
namespace Go.Proofs.Ytifdglehfhoecaa.E
open Go.RowKit B
def kA : ByteArray := ⟨#[97]⟩
def kB : ByteArray := ⟨#[98]⟩
def kC : ByteArray := ⟨#[99]⟩
def v1 : ByteArray := ⟨#[49]⟩
def v2 : ByteArray := ⟨#[50]⟩
def vX : ByteArray := ⟨#[120, 121]⟩
def l2 : List Ent := [(kA, vX), (kB, v2)]
def l3 : List Ent := [(kA, vX), (kB, vX), (kC, vX)]
theorem p1 : putl [] kB v1 = [(kB, v1)] := by decide +kernel
theorem p2 : putl [(kB, v1)] kA vX = [(kA, vX), (kB, v1)] := by decide +kernel
theorem p3 : putl [(kA, vX), (kB, v1)] kB v2 = l2 := by decide +kernel
theorem g2 : getl l2 kB = some ⟨#[50]⟩ := by decide +kernel
theorem e2 : encl l2 = ⟨#[1, 97, 2, 120, 121, 1, 98, 1, 50]⟩ := by decide +kernel
theorem ok2 : M.Ok l2 := by decide +kernel
theorem low2 : M.Low l2 ⟨#[97, 97]⟩ 1 := by unfold M.Low; decide +kernel
theorem not2 : ¬ ∃ h : 1 < l2.length, l2[1].1 = ⟨#[97, 97]⟩ := by decide +kernel
theorem s1 : M.sz [(kA, vX)] = 5 := by decide +kernel
theorem h3 : M.Half l3 2 := .inr ⟨by decide, by decide, .inl (by decide +kernel), fun j a b => by
  obtain rfl : j = 1 := by omega
  decide +kernel⟩
theorem may1 : ¬ M.may ⟨#[]⟩ ⟨#[]⟩ := by decide +kernel
theorem may2 : M.may kA ⟨#[]⟩ := by decide +kernel
theorem find2 (v : Value) (w : World) (hv : Ents w v l2) : Calls Try.prog 46 #[v, .string ⟨#[97, 97]⟩] w fun r w' => r = .returned (.tuple #[.int .i64 1, .bool false]) ∧ Below w.heap.size w w' := by
  refine (find_any v l2 _ w hv (by decide)).mono ?_
  rintro r w' ⟨i, ok, rfl, h1, h2, h3, hb⟩
  obtain rfl : i = 1 := M.low_unique (h3 ok2.2) low2
  have : ok = false := by
    rcases ok with _ | _
    · rfl
    · exact absurd (h2.1 rfl) not2
  subst this
  exact ⟨rfl, hb⟩
theorem half3 (v : Value) (w : World) (hv : Ents w v l3) : Calls Try.prog 32 #[v] w fun r w' => r = .returned (.int .i64 2) ∧ Below w.heap.size w w' := by
  refine (half_any v l3 w hv (by decide) (by decide +kernel)).mono ?_
  rintro r w' ⟨k, rfl, h1, hb⟩
  obtain rfl : k = 2 := M.half_unique h1 h3
  exact ⟨rfl, hb⟩
theorem new3 (w : World) : Ents (w.alloc (.cells #[.string kA, .string vX, .string kB, .string vX, .string kC, .string vX] 49)) (.slice (some ⟨w.heap.size, 0, none⟩) 3 3) l3 :=
  Ents.close (l := l3) (Nat.le_refl _) (by unfold maxLen; omega) fun j hj => ⟨w.heap.size, 0, rfl, by
    match j, hj with
    | 0, _ => constructor <;> (rw [World.cell?_alloc_mark]; rfl)
    | 1, _ => constructor <;> (rw [World.cell?_alloc_mark]; rfl)
    | 2, _ => constructor <;> (rw [World.cell?_alloc_mark]; rfl)⟩
set_option maxRecDepth 100000 in
set_option maxHeartbeats 1000000 in
theorem works_any (w : World) : Calls Try.prog 30 #[] w fun r w' => r = .returned (.bool true) ∧ Below w.heap.size w w' := by
  have P1 := Lib.hid (fun W => put_any (.slice none 0 0) [] kB v1 W (Rw.nil W 2) (by decide))
  have P2 := Lib.hid (fun v W h => put_any v [(kB, v1)] kA vX W h (by decide))
  have P3 := Lib.hid (fun v W h => put_any v [(kA, vX), (kB, v1)] kB v2 W h (by decide))
  rw [p1] at P1
  rw [p2] at P2
  rw [p3] at P3
  have P4 := Lib.hid (fun v W h => get_any v l2 kB W h (by decide))
  rw [g2] at P4
  have P5 := Lib.hid (fun v W h => encode_any v l2 W h (by decide))
  rw [e2, if_pos ok2] at P5
  have P6 := Lib.hid (fun v W h => size_any v [(kA, vX)] W h (by decide) (by decide +kernel))
  rw [s1] at P6
  have P7 := Lib.hid (fun W => check_any ⟨#[]⟩ ⟨#[]⟩ W)
  rw [if_neg may1] at P7
  have P8 := Lib.hid (fun W => check_any kA ⟨#[]⟩ W)
  rw [if_pos may2] at P8
  go_enter Try.func30, Try.ntmps30
  go_wp2_with fail
  refine (P1.out _).mono ?_
  rintro r x1 ⟨u1, rfl, hE1, hb1⟩
  have HE1 := Lib.hid hE1; clear hE1
  go_wp2_with fail
  refine (P2.out _ _ HE1.out).mono ?_
  rintro r x2 ⟨u2, rfl, hE2, hb2⟩
  have hb2 := hb1.trans (hb2.mono hb1.size)
  have HE2 := Lib.hid hE2; clear hE2 hb1
  go_wp2_with fail
  refine (P3.out _ _ HE2.out).mono ?_
  rintro r x3 ⟨u3, rfl, hE3, hb3⟩
  have hb3 := hb2.trans (hb3.mono hb2.size)
  clear hb2
  obtain ⟨ao, cap, rfl, hcp, hcm, hc⟩ := hE3.open
  obtain ⟨b, o, rfl, c0, c1⟩ := hc 0 (by decide)
  obtain ⟨b', o', e', c2, c3⟩ := hc 1 (by decide)
  obtain ⟨rfl, rfl⟩ : b = b' ∧ o = o' := by injection e' with e'; injection e' with a1 a2 a3; exact ⟨a1, a2⟩
  have c0 : x3.cell? ⟨b, o, none⟩ = some (.string ⟨#[97]⟩) := c0
  have c1 : x3.cell? ⟨b, o + 1, none⟩ = some (.string ⟨#[120, 121]⟩) := c1
  have c2 : x3.cell? ⟨b, o + 2, none⟩ = some (.string ⟨#[98]⟩) := c2
  have c3 : x3.cell? ⟨b, o + 2 + 1, none⟩ = some (.string ⟨#[50]⟩) := c3
  have hl2 : l2.length = 2 := rfl
  rw [hl2] at hE3 hcp
  rw [hl2]
  have HE3 := Lib.hid hE3
  have HC := Lib.hid (And.intro c0 (And.intro c1 (And.intro c2 c3)))
  clear hE3 hc e' hl2 c0 c1 c2 c3
  go_wp2_with fail
  refine (find2 _ _ HE3.out).mono ?_
  rintro r x4 ⟨rfl, hb4⟩
  go_wp2_with fail
  refine (P4.out _ _ (HE3.out.below hb4)).mono ?_
  rintro r x5 ⟨rfl, hb5⟩
  have hb5 := hb4.trans (hb5.mono hb4.size)
  clear hb4
  go_wp2_with fail
  obtain ⟨X, hX⟩ : ∃ X, x5.alloc (.cells #[.string ⟨#[97]⟩, .string ⟨#[120, 121]⟩, .string ⟨#[98]⟩, .string ⟨#[120, 121]⟩, .string ⟨#[99]⟩, .string ⟨#[120, 121]⟩] 49) = X := ⟨_, rfl⟩
  have hthree : Ents X (.slice (some ⟨x5.heap.size, 0, none⟩) 3 3) l3 := by rw [← hX]; exact new3 x5
  have hb6 : Below x3.heap.size x3 X := by rw [← hX]; exact hb5.alloc hb5.size _
  rw [hX]
  have H3 := Lib.hid hthree
  clear hX hthree hb5
  refine (P5.out _ _ (HE3.out.below hb6)).mono ?_
  rintro r x6 ⟨rfl, hb7⟩
  have H3 := Lib.hid (H3.out.below hb7)
  have hb7 := hb6.trans (hb7.mono hb6.size)
  have c0 := bcell hb7 HC.out.1
  have c1 := bcell hb7 HC.out.2.1
  have c2 := bcell hb7 HC.out.2.2.1
  have c3 := bcell hb7 HC.out.2.2.2
  clear hb6
  have H0 := Lib.hid (new_one x6 (kA, vX) 49)
  have hs6 : (x6.alloc (.cells #[.string ⟨#[97]⟩, .string ⟨#[120, 121]⟩] 49)).heap.size = x6.heap.size + 1 := by simp
  go_wp2_with fail
  refine (P6.out (.slice (some ⟨x6.heap.size, 0, none⟩) 1 1) _ H0.out).mono ?_
  rintro r x7 ⟨rfl, hb8⟩
  have H3 := Lib.hid ((H3.out.below ((Below.refl _ x6).alloc (Nat.le_refl _) _)).below hb8)
  have hb8 := (hb7.alloc hb7.size _).trans (hb8.mono (by have := hb7.size; simp; omega))
  clear hs6 hb7 c0 c1 c2 c3 H0
  go_wp2_with fail
  refine (half3 _ _ H3.out).mono ?_
  rintro r x8 ⟨rfl, hb9⟩
  have hb9 := hb8.trans (hb9.mono hb8.size)
  clear hb8
  go_wp2_with fail
  refine (P7.out _).mono ?_
  rintro r x9 ⟨rfl, rfl⟩
  go_wp2_with fail
  refine (P8.out _).mono ?_
  rintro r x10 ⟨rfl, rfl⟩
  have hB := hb3.trans (hb9.mono hb3.size)
  clear hb9
  go_wp2
  go_ret
  exact ⟨rfl, hB⟩
end Go.Proofs.Ytifdglehfhoecaa.E
