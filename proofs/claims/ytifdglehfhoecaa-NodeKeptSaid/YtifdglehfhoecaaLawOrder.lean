/-
  The walk of CodecOrder: it answers true. Conditions: the numbers are ints.
-/
import Derived.Test.YtifdglehfhoecaaCworks
namespace Go.Proofs.Ytifdglehfhoecaa.C
open Go.RowKit B
/-- may a number be written? -/
def pok (z n : Int) : Prop := szd z ∧ 0 ≤ n ∧ n / 2 ^ (8 * z.toNat) = 0
theorem pok_nat {z n : Int} (h : pok z n) : ∃ Z N : Nat, z = (Z : Int) ∧ n = (N : Int) ∧ szd (Z : Int) ∧ N < 256 ^ Z := by
  obtain ⟨h1, h2, h3⟩ := h
  obtain ⟨N, rfl⟩ := Int.eq_ofNat_of_zero_le h2
  obtain ⟨Z, rfl⟩ := Int.eq_ofNat_of_zero_le (show 0 ≤ z by unfold szd at h1; omega)
  refine ⟨Z, N, rfl, rfl, h1, ?_⟩
  rw [Int.toNat_natCast, div8] at h3
  have h4 : N / 256 ^ Z = 0 := by omega
  exact (Nat.div_eq_zero_iff.1 h4).resolve_left (by have := Nat.pow_pos (a := 256) (n := Z) (by omega); omega)
theorem pok_mk {Z N : Nat} (h : szd (Z : Int)) (hN : N < 256 ^ Z) : pok Z N := by
  refine ⟨h, by omega, ?_⟩
  rw [Int.toNat_natCast, div8, Nat.div_eq_of_lt hN]; rfl
theorem pb_cons (Z n : Nat) : pb (Z + 1) n = UInt8.ofNat (n / 256 ^ Z) :: pb Z n := by
  unfold pb pbF
  rw [Nat.sub_zero, Nat.sub_zero, List.range_succ_eq_map, List.map_cons, List.map_map]
  congr 1
  apply List.map_congr_left
  intro t ht
  have := List.mem_range.1 ht
  simp only [Function.comp]
  rw [show Z + 1 - 1 - (t + 1) = Z - 1 - t by omega]
theorem pb_mod (Z n : Nat) : pb Z (n % 256 ^ Z) = pb Z n := by
  unfold pb pbF
  apply List.map_congr_left
  intro t ht
  have := List.mem_range.1 ht
  apply UInt8.toNat_inj.1
  rw [UInt8.toNat_ofNat', UInt8.toNat_ofNat']
  have e : 256 ^ Z = 256 ^ (Z - 1 - t) * 256 ^ (t + 1) := by rw [← Nat.pow_add]; congr 1; omega
  rw [e, Nat.mod_mul_right_div_self, Nat.pow_succ, Nat.mul_comm (256 ^ t) 256]
  exact Nat.mod_mul_right_mod _ 256 (256 ^ t)
theorem pb_len (Z n : Nat) : (pb Z n).length = Z := by rw [pb, pbF_len, Nat.sub_zero]
theorem lt_of_digit {P q r s t : Nat} (h : q < r) (hs : s < P) : P * q + s < P * r + t := by
  have : P * (q + 1) ≤ P * r := Nat.mul_le_mul_left _ h
  rw [Nat.mul_add] at this
  omega
theorem pb_less (Z : Nat) : ∀ n m : Nat, n < 256 ^ Z → m < 256 ^ Z → Op.bytesLess (pb Z n) (pb Z m) = decide (n < m) := by
  induction Z with
  | zero =>
    intro n m hn hm
    have : n = 0 ∧ m = 0 := by simp at hn hm; omega
    obtain ⟨rfl, rfl⟩ := this
    rfl
  | succ Z ih =>
    intro n m hn hm
    have hP : 0 < 256 ^ Z := Nat.pow_pos (by omega)
    rw [pb_cons, pb_cons, ← pb_mod Z n, ← pb_mod Z m, Op.bytesLess, ih _ _ (Nat.mod_lt _ hP) (Nat.mod_lt _ hP)]
    have dn : n / 256 ^ Z < 256 := Nat.div_lt_of_lt_mul (by rwa [Nat.pow_succ] at hn)
    have dm : m / 256 ^ Z < 256 := Nat.div_lt_of_lt_mul (by rwa [Nat.pow_succ] at hm)
    have en := Nat.div_add_mod n (256 ^ Z)
    have em := Nat.div_add_mod m (256 ^ Z)
    have ln := Nat.mod_lt n hP
    have lm := Nat.mod_lt m hP
    generalize n / 256 ^ Z = qn at *
    generalize m / 256 ^ Z = qm at *
    generalize n % 256 ^ Z = rn at *
    generalize m % 256 ^ Z = rm at *
    have e1 : (UInt8.ofNat qn < UInt8.ofNat qm) ↔ qn < qm := by rw [UInt8.lt_iff_toNat_lt, UInt8.toNat_ofNat', UInt8.toNat_ofNat']; omega
    have e2 : (UInt8.ofNat qn = UInt8.ofNat qm) ↔ qn = qm := by rw [← UInt8.toNat_inj, UInt8.toNat_ofNat', UInt8.toNat_ofNat']; omega
    rw [Bool.eq_iff_iff]
    simp only [Bool.or_eq_true, Bool.and_eq_true, decide_eq_true_eq, beq_iff_eq, e1, e2]
    rcases Nat.lt_trichotomy qn qm with h | h | h
    · have := lt_of_digit (t := rm) h ln; constructor
      · intro _; omega
      · intro _; exact .inl h
    · subst h; omega
    · have := lt_of_digit (t := rn) h lm; constructor
      · rintro (h1 | ⟨h1, _⟩) <;> omega
      · intro h1; omega
theorem pb_inj (Z n m : Nat) (hn : n < 256 ^ Z) (hm : m < 256 ^ Z) (h : pb Z n = pb Z m) : n = m := by
  have h1 := pb_less Z n m hn hm
  have h2 := pb_less Z m n hm hn
  rw [h] at h1 h2
  have := h1.symm.trans h2
  have hr := pb_less Z m m hm hm
  rw [hr] at h1
  simp at h1
  rw [hr] at h2
  simp at h2
  omega
set_option maxHeartbeats 400000 in
theorem order_ok (Z n m : Nat) (w : World) (hz : szd (Z : Int)) (hn : n < 256 ^ Z) (hm : m < 256 ^ Z) :
    Calls Try.prog 4 #[.int .i64 (Z : Int), .int .i64 (n : Int), .int .i64 (m : Int)] w fun r w' => r = .returned (.bool true) ∧ Below w.heap.size w w' := by
  have hz4 : Z ≤ 4 := by unfold szd at hz; omega
  have p1 := fun W => put_ok Z n W hz hn
  have p2 := fun W => put_ok Z m W hz hm
  have s1 : (txt (pb Z n)).size = Z := by rw [txt_size, pb_len]
  have s2 : (txt (pb Z m)).size = Z := by rw [txt_size, pb_len]
  have e1 : Op.bytesLess (txt (pb Z n)).toList (txt (pb Z m)).toList = decide ((n : Int) < (m : Int)) := by
    rw [toL, toL, bts_txt, bts_txt, pb_less Z n m hn hm]; exact decide_eq_decide.2 (by omega)
  have e2 : ((txt (pb Z n)).toList == (txt (pb Z m)).toList) = ((n : Int) == (m : Int)) := by
    rw [toL, toL, bts_txt, bts_txt, Bool.eq_iff_iff, beq_iff_eq, beq_iff_eq]
    exact ⟨fun h => by rw [pb_inj Z n m hn hm h], fun h => by rw [show n = m by omega]⟩
  generalize txt (pb Z n) = A at *
  generalize txt (pb Z m) = B at *
  have t1 : ((A.size : Int) == (Z : Int)) = true := by rw [s1]; simp
  have t2 : ((B.size : Int) == (Z : Int)) = true := by rw [s2]; simp
  have P1 := Lib.hid p1; have P2 := Lib.hid p2
  clear p1 p2 s1 s2
  go_enter Try.func4, Try.ntmps4
  go_wp2_with fail
  refine (works_any _).mono ?_
  rintro r x1 ⟨rfl, hb1⟩
  go_wp2_with fail
  refine (P1.out _).mono ?_
  rintro r x2 ⟨rfl, hb2⟩
  have hB2 := hb1.trans (hb2.mono hb1.size)
  clear hb1 hb2
  go_wp2_with fail
  refine (P2.out _).mono ?_
  rintro r x3 ⟨rfl, hb3⟩
  have hB3 := hB2.trans (hb3.mono hB2.size)
  clear hB2 hb3
  clear hn hm hz
  rcases Nat.lt_trichotomy n m with h | h | h
  · have d1 : decide ((n : Int) < (m : Int)) = true := by rw [decide_eq_true_eq]; omega
    have d2 : ((n : Int) == (m : Int)) = false := by rw [beq_eq_false_iff_ne]; omega
    rw [d1] at e1
    rw [d2] at e2
    go_wp2
    go_ret
    exact ⟨rfl, hB3⟩
  · subst h
    have d1 : decide ((n : Int) < (n : Int)) = false := by rw [decide_eq_false_iff_not]; omega
    have d2 : ((n : Int) == (n : Int)) = true := by rw [beq_iff_eq]
    rw [d1] at e1
    rw [d2] at e2
    go_wp2
    go_ret
    exact ⟨rfl, hB3⟩
  · have d1 : decide ((n : Int) < (m : Int)) = false := by rw [decide_eq_false_iff_not]; omega
    have d3 : decide (n < m) = false := by rw [decide_eq_false_iff_not]; omega
    have d2 : ((n : Int) == (m : Int)) = false := by rw [beq_eq_false_iff_ne]; omega
    rw [d1] at e1
    rw [d2] at e2
    go_wp2
    go_ret
    exact ⟨rfl, hB3⟩
set_option maxHeartbeats 400000 in
theorem order_bad1 (z n m : Int) (w : World) (h : ¬ pok z n) (hlo : -9223372036854775808 ≤ n) (hhi : n ≤ 9223372036854775807) (hp : ∃ (B : ByteArray) (E : Int), ∀ W, Calls Try.prog 19 #[.int .i64 z, .int .i64 m] W fun r w' => r = .returned (.tuple #[.string B, .int .i64 E]) ∧ Below W.heap.size W w') :
    Calls Try.prog 4 #[.int .i64 z, .int .i64 n, .int .i64 m] w fun r w' => r = .returned (.bool true) ∧ Below w.heap.size w w' := by
  have p1 := fun W => put_bad z n W h hlo hhi
  obtain ⟨B, E, p2⟩ := hp
  have P1 := Lib.hid p1; have P2 := Lib.hid p2; have H := Lib.hid h
  clear p1 p2 h
  go_enter Try.func4, Try.ntmps4
  go_wp2_with fail
  refine (works_any _).mono ?_
  rintro r x1 ⟨rfl, hb1⟩
  go_wp2_with fail
  refine (P1.out _).mono ?_
  rintro r x2 ⟨rfl, hb2⟩
  have hB2 := hb1.trans (hb2.mono hb1.size)
  clear hb1 hb2
  go_wp2_with fail
  refine (P2.out _).mono ?_
  rintro r x3 ⟨rfl, hb3⟩
  have hB3 := hB2.trans (hb3.mono hB2.size)
  clear hB2 hb3
  go_wp2
  go_ret
  exact ⟨rfl, hB3⟩
set_option maxHeartbeats 400000 in
theorem order_bad2 (Z n : Nat) (m : Int) (w : World) (hz : szd (Z : Int)) (hn : n < 256 ^ Z) (h : ¬ pok Z m) (hlo : -9223372036854775808 ≤ m) (hhi : m ≤ 9223372036854775807) :
    Calls Try.prog 4 #[.int .i64 (Z : Int), .int .i64 (n : Int), .int .i64 m] w fun r w' => r = .returned (.bool true) ∧ Below w.heap.size w w' := by
  have p1 := fun W => put_ok Z n W hz hn
  have p2 := fun W => put_bad Z m W h hlo hhi
  have P1 := Lib.hid p1; have P2 := Lib.hid p2; have H := Lib.hid h
  clear p1 p2 h hn
  go_enter Try.func4, Try.ntmps4
  go_wp2_with fail
  refine (works_any _).mono ?_
  rintro r x1 ⟨rfl, hb1⟩
  go_wp2_with fail
  refine (P1.out _).mono ?_
  rintro r x2 ⟨rfl, hb2⟩
  have hB2 := hb1.trans (hb2.mono hb1.size)
  clear hb1 hb2
  go_wp2_with fail
  refine (P2.out _).mono ?_
  rintro r x3 ⟨rfl, hb3⟩
  have hB3 := hB2.trans (hb3.mono hB2.size)
  clear hB2 hb3
  go_wp2
  go_ret
  exact ⟨rfl, hB3⟩
theorem order_any (z n m : Int) (w : World) (hn : -9223372036854775808 ≤ n ∧ n ≤ 9223372036854775807) (hm : -9223372036854775808 ≤ m ∧ m ≤ 9223372036854775807) :
    Calls Try.prog 4 #[.int .i64 z, .int .i64 n, .int .i64 m] w fun r w' => r = .returned (.bool true) ∧ Below w.heap.size w w' := by
  by_cases h1 : pok z n
  · by_cases h2 : pok z m
    · obtain ⟨Z, N, rfl, rfl, hz, hN⟩ := pok_nat h1
      obtain ⟨Z', M, hZ', rfl, _, hM⟩ := pok_nat h2
      obtain rfl : Z = Z' := by omega
      exact order_ok Z N M w hz hN hM
    · obtain ⟨Z, N, rfl, rfl, hz, hN⟩ := pok_nat h1
      exact order_bad2 Z N m w hz hN h2 hm.1 hm.2
  · refine order_bad1 z n m w h1 hn.1 hn.2 ?_
    by_cases h2 : pok z m
    · obtain ⟨Z, M, rfl, rfl, hz, hM⟩ := pok_nat h2
      exact ⟨_, _, fun W => put_ok Z M W hz hM⟩
    · exact ⟨_, _, fun W => put_bad z m W h2 hm.1 hm.2⟩
end Go.Proofs.Ytifdglehfhoecaa.C
