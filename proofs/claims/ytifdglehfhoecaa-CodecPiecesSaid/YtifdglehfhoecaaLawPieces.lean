/-
  The walk of CodecPieces: it answers true. Conditions: none.
-/
import Derived.Test.YtifdglehfhoecaaCworks
import Derived.Deep.DeepCutAuto
namespace Go.Proofs.Ytifdglehfhoecaa.C
open Go.RowKit B
/-- what min(max(a, 0), s) is -/
def clamp (a : Int) (s k : Nat) : Prop := (a < 0 ∧ k = 0) ∨ ((s : Int) < a ∧ k = s) ∨ a = (k : Int)
theorem clamp_ex (a : Int) (s : Nat) : ∃ k, k ≤ s ∧ clamp a s k := by
  by_cases h1 : a < 0
  · exact ⟨0, by omega, .inl ⟨h1, rfl⟩⟩
  · by_cases h2 : (s : Int) < a
    · exact ⟨s, by omega, .inr (.inl ⟨h2, rfl⟩)⟩
    · exact ⟨a.toNat, by omega, .inr (.inr (by omega))⟩
set_option maxRecDepth 100000 in
set_option maxHeartbeats 1000000 in
theorem pieces_core (s X Y V S1 S2 : ByteArray) (a b : Int) (n m : Nat) (w : World) (hs : s.size ≤ 4096) (hn : n ≤ s.size) (hm : n + m ≤ s.size) (ha : clamp a s.size n) (hb : clamp b (s.size - n) m)
    (eX : s.extract 0 n = X) (eS1 : s.extract n s.size = S1) (eV : (V.toList == (X ++ Y).toList) = true) (hX : X.size ≤ 4096) (hY : Y.size ≤ 4096) (hS2 : ((S2.size : Int) == (s.size : Int) - n - m) = true)
    (p1 : ∀ W c, Rd W c s 0 → Calls Try.prog 24 #[.pointer (some ⟨c, 0, none⟩), .int .i64 (n : Int)] W fun r w' => r = .returned (.string X) ∧ Rd w' c S1 0 ∧ Only c W w')
    (p2 : ∀ W c, Rd W c S1 0 → Calls Try.prog 24 #[.pointer (some ⟨c, 0, none⟩), .int .i64 (m : Int)] W fun r w' => r = .returned (.string Y) ∧ Rd w' c S2 0 ∧ Only c W w')
    (p3 : ∀ W c, Rd W c s 0 → Calls Try.prog 24 #[.pointer (some ⟨c, 0, none⟩), .int .i64 ((n : Int) + (m : Int))] W fun r w' => r = .returned (.string V) ∧ Rd w' c S2 0 ∧ Only c W w') :
    Calls Try.prog 5 #[.string s, .int .i64 a, .int .i64 b] w fun r w' => r = .returned (.bool true) ∧ Below w.heap.size w w' := by
  have P1 := Lib.hid p1; have P2 := Lib.hid p2; have P3 := Lib.hid p3
  have HA := Lib.hid ha; have HB := Lib.hid hb
  clear p1 p2 p3 ha hb
  have HS1 := Lib.hid eS1
  have HX := Lib.hid eX
  clear eS1 eX
  go_enter Try.func5, Try.ntmps5
  go_wp2_with fail
  refine (works_any _).mono ?_
  rintro r x1 ⟨rfl, hb1⟩
  go_upto_region 6 with (fail)
  go_cut [8] (fun s8 wx => s8 = .int .i64 (n : Int) ∧ wx = x1)
  case first =>
    go_wp2
    go_meet
    exact ⟨congrArg (Value.int .i64) (by have := HA.out; unfold clamp at this; omega), rfl⟩
  case rest =>
    obtain ⟨rfl, rfl⟩ := hcut
    go_upto_region 7 with (fail)
    go_cut [9] (fun s9 wx => s9 = .int .i64 (m : Int) ∧ wx = wc)
    case first =>
      go_wp2
      go_meet
      exact ⟨congrArg (Value.int .i64) (by have := HB.out; unfold clamp at this; omega), rfl⟩
    case rest =>
      obtain ⟨rfl, rfl⟩ := hcut
      go_wp2_with fail
      refine (read_any s _).mono ?_
      rintro r x3 ⟨rfl, hr, hb3⟩
      have hB3 := hb1.trans (hb3.mono hb1.size)
      obtain ⟨c, hc⟩ : ∃ c, wc.heap.size = c := ⟨_, rfl⟩
      rw [hc] at hr ⊢
      have hlc : w.heap.size ≤ c := by rw [← hc]; exact hb1.size
      clear hb1 hb3 hc
      go_wp2_with fail
      refine (P1.out _ c hr).mono ?_
      rintro r x4 ⟨rfl, hr4, ho4⟩
      have hB4 := hB3.trans (ho4.to_below hlc hB3.size)
      clear hr ho4 hB3
      go_wp2_with fail
      refine (P2.out _ c hr4).mono ?_
      rintro r x5 ⟨rfl, hr5, ho5⟩
      have hB5 := hB4.trans (ho5.to_below hlc hB4.size)
      clear hr4 ho5 hB4
      go_wp2_with fail
      rw [HS1.out]
      refine (read_any S1 _).mono ?_
      rintro r x6 ⟨rfl, hq, hb6⟩
      have hB6 := hB5.trans (hb6.mono hB5.size)
      have hr6 := hr5.below hb6
      have hlt : c < x5.heap.size := hr5.lt
      obtain ⟨d, hd⟩ : ∃ d, x5.heap.size = d := ⟨_, rfl⟩
      rw [hd] at hq hlt ⊢
      have hld : w.heap.size ≤ d := by rw [← hd]; exact hB5.size
      clear hr5 hB5 hb6 hd
      go_wp2_with fail
      refine (P2.out _ d hq).mono ?_
      rintro r x7 ⟨rfl, hq7, ho7⟩
      have hB7 := hB6.trans (ho7.to_below hld hB6.size)
      have hr7 := hr6.only ho7 (by omega)
      clear hq ho7 hB6 hr6
      go_wp2_with fail
      refine (read_any s _).mono ?_
      rintro r x8 ⟨rfl, ht, hb8⟩
      have hB8 := hB7.trans (hb8.mono hB7.size)
      have hr8 := hr7.below hb8
      have hq8 := hq7.below hb8
      have hltd := hq7.lt
      obtain ⟨f, hf⟩ : ∃ f, x7.heap.size = f := ⟨_, rfl⟩
      rw [hf] at ht hltd ⊢
      have hlf : w.heap.size ≤ f := by rw [← hf]; exact hB7.size
      clear hq7 hr7 hB7 hb8 hf
      go_wp2_with fail
      refine (P3.out _ f ht).mono ?_
      rintro r x9 ⟨rfl, _, ho9⟩
      have hB9 := hB8.trans (ho9.to_below hlf hB8.size)
      have hr9 := hr8.only ho9 (by omega)
      have hq9 := hq8.only ho9 (by omega)
      clear hq8 hr8 hB8 ho9 ht
      have eX := HX.out
      go_wp2_with fail
      refine (left_any c S2 0 _ hr9).mono ?_
      rintro r y ⟨rfl, rfl⟩
      go_wp2_with fail
      refine (left_any c S2 0 _ hr9).mono ?_
      rintro r y ⟨rfl, rfl⟩
      go_wp2_with fail
      refine (left_any d S2 0 _ hq9).mono ?_
      rintro r y ⟨rfl, rfl⟩
      go_wp2_with fail
      refine (err_any c S2 0 _ hr9).mono ?_
      rintro r y ⟨rfl, rfl⟩
      go_wp2
      go_ret
      exact ⟨rfl, hB9⟩
theorem pieces_big (s : ByteArray) (a b : Int) (w : World) (hs : ¬ s.size ≤ 4096) :
    Calls Try.prog 5 #[.string s, .int .i64 a, .int .i64 b] w fun r w' => r = .returned (.bool true) ∧ Below w.heap.size w w' := by
  go_enter Try.func5, Try.ntmps5
  go_wp2_with fail
  refine (works_any _).mono ?_
  rintro r x1 ⟨rfl, hb1⟩
  go_wp2
  go_ret
  exact ⟨rfl, hb1⟩
theorem extract_size (s : ByteArray) (i j : Nat) (h : j ≤ s.size) : (s.extract i j).size = j - i := by
  rw [← bts_len, bts_extract, List.length_drop, List.length_take, bts_len]; omega
theorem pieces_any (s : ByteArray) (a b : Int) (w : World) :
    Calls Try.prog 5 #[.string s, .int .i64 a, .int .i64 b] w fun r w' => r = .returned (.bool true) ∧ Below w.heap.size w w' := by
  by_cases hs : s.size ≤ 4096
  · obtain ⟨n, hn, ha⟩ := clamp_ex a s.size
    obtain ⟨m, hm, hb⟩ := clamp_ex b (s.size - n)
    have z1 := extract_size s n s.size (Nat.le_refl _)
    have z0 := extract_size s 0 n hn
    have z2 := extract_size (s.extract n s.size) 0 m (by omega)
    have z3 := extract_size (s.extract n s.size) m (s.extract n s.size).size (Nat.le_refl _)
    have e3 : s.extract (n + m) s.size = (s.extract n s.size).extract m (s.extract n s.size).size := by
      apply bts_inj
      rw [bts_extract, bts_extract, bts_extract, List.take_of_length_le (by rw [bts_len]; omega), List.take_of_length_le (by rw [List.length_drop, bts_len]; omega), List.drop_drop]
    refine pieces_core s (s.extract 0 n) ((s.extract n s.size).extract 0 m) (s.extract 0 (n + m)) (s.extract n s.size) ((s.extract n s.size).extract m (s.extract n s.size).size) a b n m w hs hn (by omega) ha hb rfl rfl ?_ (by omega) (by omega) ?_
      (fun W c h => bytes_ok c s n W h hn) (fun W c h => bytes_ok c (s.extract n s.size) m W h (by omega)) (fun W c h => ?_)
    · apply str_eq
      apply bts_inj
      rw [bts_append, bts_extract, bts_extract, bts_extract, bts_extract, List.take_of_length_le (i := s.size) (by rw [bts_len]; omega), List.drop_zero, List.drop_zero, List.drop_zero, ← List.take_add]
    · rw [beq_iff_eq]; omega
    · have := bytes_ok c s (n + m) W h (by omega)
      rw [e3] at this
      simpa using this
  · exact pieces_big s a b w hs
end Go.Proofs.Ytifdglehfhoecaa.C
