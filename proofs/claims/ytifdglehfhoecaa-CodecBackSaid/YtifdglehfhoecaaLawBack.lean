/-
  The walk of CodecBack: it answers true. Conditions: the numbers are ints.
-/
import Derived.Test.YtifdglehfhoecaaCodecLaw
import Derived.Deep.DeepCutAuto
namespace Go.Proofs.Ytifdglehfhoecaa.C
open Go.RowKit B
/-- what the first half asks: if both could be written, they are read again -/
def Half1 (z n : Int) (s A T : ByteArray) (E F : Int) : Prop :=
  E ≠ 0 ∨ (E = 0 ∧ F ≠ 0) ∨ (E = 0 ∧ F = 0 ∧ ∃ X S1 : ByteArray, cat [A, T] = X ∧ X.size ≤ 8192 ∧ ([A, T].flatMap bts).length ≤ 140737488355328 ∧
    (∀ W c, Rd W c X 0 → Calls Try.prog 27 #[.pointer (some ⟨c, 0, none⟩), .int .i64 z] W fun r w' => r = .returned (.int .i64 n) ∧ Rd w' c S1 0 ∧ Only c W w') ∧
    (∀ W c, Rd W c S1 0 → Calls Try.prog 28 #[.pointer (some ⟨c, 0, none⟩)] W fun r w' => r = .returned (.string s) ∧ Rd w' c ByteArray.empty 0 ∧ Only c W w'))
set_option maxRecDepth 100000 in
set_option maxHeartbeats 2000000 in
theorem back_core (z n : Int) (s b A T : ByteArray) (E F : Int) (w : World) (hs : s.size ≤ 4096) (hb : b.size ≤ 4096)
    (pA : ∀ W, Calls Try.prog 19 #[.int .i64 z, .int .i64 n] W fun r w' => r = .returned (.tuple #[.string A, .int .i64 E]) ∧ Below W.heap.size W w')
    (pT : ∀ W, Calls Try.prog 21 #[.string s] W fun r w' => r = .returned (.tuple #[.string T, .int .i64 F]) ∧ Below W.heap.size W w')
    (h1 : Half1 z n s A T E F) (M : Nat) (u S1 S2 : ByteArray) (E1 E2 : Int)
    (pI : ∀ W c, Rd W c b 0 → Calls Try.prog 27 #[.pointer (some ⟨c, 0, none⟩), .int .i64 z] W fun r w' => r = .returned (.int .i64 (M : Int)) ∧ Rd w' c S1 E1 ∧ Only c W w')
    (pU : ∀ W c, Rd W c S1 E1 → Calls Try.prog 28 #[.pointer (some ⟨c, 0, none⟩)] W fun r w' => r = .returned (.string u) ∧ Rd w' c S2 E2 ∧ Only c W w')
    (h2 : E2 ≠ 0 ∨ (E2 = 0 ∧ ∃ A2 T2 V : ByteArray, (∀ W, Calls Try.prog 19 #[.int .i64 z, .int .i64 (M : Int)] W fun r w' => r = .returned (.tuple #[.string A2, .int .i64 0]) ∧ Below W.heap.size W w') ∧
      (∀ W, Calls Try.prog 21 #[.string u] W fun r w' => r = .returned (.tuple #[.string T2, .int .i64 0]) ∧ Below W.heap.size W w') ∧ ([A2, T2].flatMap bts).length ≤ 140737488355328 ∧ cat [A2, T2] = V ∧ (V.size : Int) + S2.size = b.size ∧ b.extract 0 V.size = V)) :
    Calls Try.prog 6 #[.int .i64 z, .int .i64 n, .string s, .string b] w fun r w' => r = .returned (.bool true) ∧ Below w.heap.size w w' := by
  have PA := Lib.hid pA; have PT := Lib.hid pT; have H1 := Lib.hid h1; have PI := Lib.hid pI; have PU := Lib.hid pU; have H2 := Lib.hid h2
  clear pA pT h1 pI pU h2
  go_enter Try.func6, Try.ntmps6
  go_wp2_with fail
  refine (works_any _).mono ?_
  rintro r x1 ⟨rfl, hb1⟩
  go_wp2_with fail
  refine (PA.out _).mono ?_
  rintro r x2 ⟨rfl, hb2⟩
  have hB2 := hb1.trans (hb2.mono hb1.size)
  clear hb1 hb2
  go_wp2_with fail
  refine (PT.out _).mono ?_
  rintro r x3 ⟨rfl, hb3⟩
  have hB3 := hB2.trans (hb3.mono hB2.size)
  clear hB2 hb3 PA PT
  obtain ⟨ok, hok⟩ : ∃ ok : Bool, decide (E = 0 ∧ F = 0) = ok := ⟨_, rfl⟩
  have HOK := Lib.hid hok; clear hok
  go_upto_region 8 with (fail)
  go_cut [49] (fun s49 wx => s49 = .bool ok ∧ wx = x3)
  case first =>
    rcases H1.out with h | ⟨h, h'⟩ | ⟨h, h', _⟩
    · have hE : (E == 0) = false := beq_eq_false_iff_ne.2 h
      have hk : ok = false := by rw [← HOK.out]; simp [h]
      have HK := Lib.hid hk; clear hk h
      go_wp2
      go_meet
      exact ⟨by rw [HK.out], rfl⟩
    · have hF : (F == 0) = false := beq_eq_false_iff_ne.2 h'
      have hk : ok = false := by rw [← HOK.out]; simp [h']
      have HK := Lib.hid hk; clear hk h'
      subst h
      go_wp2
      go_meet
      exact ⟨by rw [HK.out], rfl⟩
    · have hk : ok = true := by rw [← HOK.out]; simp [h, h']
      have HK := Lib.hid hk; clear hk
      subst h h'
      go_wp2
      go_meet
      exact ⟨by rw [HK.out], rfl⟩
  case rest =>
    obtain ⟨rfl, rfl⟩ := hcut
    go_upto_if 49 with (fail)
    go_cut [14, 15, 16] (fun _ _ _ wx => Below w.heap.size w wx)
    case first =>
      have hok := HOK.out
      cases ok
      · go_wp2
        go_meet
        exact hB3
      · have h00 := of_decide_eq_true hok
        clear hok HOK
        obtain ⟨rfl, rfl⟩ := h00
        rcases H1.out with h | ⟨h, h'⟩ | ⟨_, _, X, R1, hX, hX2, hl, pR, pV⟩
        · exact absurd rfl h
        · exact absurd rfl h'
        clear H1 H2 PI PU
        have HX := Lib.hid hX; have HL := Lib.hid hl; have PR := Lib.hid pR; have PV := Lib.hid pV
        clear hX hl pR pV
        go_wp2_with fail
        refine (join_any _ [A, T] _ (strs_new2 _ _ _ _) HL.out (by simp)).mono ?_
        rintro r x4 ⟨rfl, hb4⟩
        have hB4 := hB3.trans ((((Below.refl _ _).alloc (Nat.le_refl _) _).trans (hb4.mono (by simp))).mono hB3.size)
        rw [HX.out]
        clear hb4 hB3
        go_wp2_with fail
        refine (read_any X _).mono ?_
        rintro r x5 ⟨rfl, hr, hb5⟩
        have hB5 := hB4.trans (hb5.mono hB4.size)
        obtain ⟨c, hc⟩ : ∃ c, x4.heap.size = c := ⟨_, rfl⟩
        rw [hc] at hr ⊢
        have hlc : w.heap.size ≤ c := by rw [← hc]; exact hB4.size
        clear hB4 hb5 hc
        go_wp2_with fail
        refine (PR.out _ c hr).mono ?_
        rintro r x6 ⟨rfl, hr6, ho6⟩
        have hB6 := hB5.trans (ho6.to_below hlc hB5.size)
        clear hr ho6 hB5
        go_wp2_with fail
        refine (PV.out _ c hr6).mono ?_
        rintro r x7 ⟨rfl, hr7, ho7⟩
        have hB7 := hB6.trans (ho7.to_below hlc hB6.size)
        clear hr6 ho7 hB6
        go_wp2_with fail
        refine (end_any c ByteArray.empty 0 _ hr7).mono ?_
        rintro r x8 ⟨rfl, hb8⟩
        have hB8 := hB7.trans (hb8.mono hB7.size)
        clear hb8 hB7 hr7
        have he0 : endE ByteArray.empty 0 = 0 := rfl
        rw [he0]
        go_wp2
        go_meet
        exact hB8
    case rest =>
      clear HOK H1 hB3
      have hB3 := hcut
      clear hcut
      go_wp2_with fail
      refine (read_any b _).mono ?_
      rintro r x5 ⟨rfl, hr, hb5⟩
      have hB5 := hB3.trans (hb5.mono hB3.size)
      obtain ⟨c, hc⟩ : ∃ c, wc.heap.size = c := ⟨_, rfl⟩
      rw [hc] at hr ⊢
      have hlc : w.heap.size ≤ c := by rw [← hc]; exact hB3.size
      clear hB3 hb5 hc
      go_wp2_with fail
      refine (PI.out _ c hr).mono ?_
      rintro r x6 ⟨rfl, hr6, ho6⟩
      have hB6 := hB5.trans (ho6.to_below hlc hB5.size)
      clear hr ho6 hB5
      go_wp2_with fail
      refine (PU.out _ c hr6).mono ?_
      rintro r x7 ⟨rfl, hr7, ho7⟩
      have hB7 := hB6.trans (ho7.to_below hlc hB6.size)
      clear hr6 ho7 hB6
      go_wp2_with fail
      refine (err_any c S2 E2 _ hr7).mono ?_
      rintro r x8 ⟨rfl, rfl⟩
      rcases H2.out with h | ⟨rfl, A2, T2, V, pA2, pT2, hl2, hV, hV2, hV3⟩
      · have hE : (E2 != 0) = true := by rw [bne_iff_ne]; exact h
        clear h H2
        go_wp2
        go_ret
        exact ⟨rfl, hB7⟩
      · clear H2
        have PA2 := Lib.hid pA2; have PT2 := Lib.hid pT2; have HL2 := Lib.hid hl2; have HV := Lib.hid hV; have HV3 := Lib.hid hV3
        clear pA2 pT2 hl2 hV hV3
        have hV4 : (b.size : Int) - (S2.size : Int) = (V.size : Int) := by omega
        have hV6 : S2.size ≤ b.size := by omega
        have hV5 : V.size ≤ b.size := by omega
        have HV2 := Lib.hid hV2; clear hV2
        go_wp2_with fail
        refine (PA2.out _).mono ?_
        rintro r y1 ⟨rfl, hb1⟩
        have hB8 := hB7.trans (hb1.mono hB7.size)
        have hr8 := hr7.below hb1
        clear hb1 hB7 hr7
        go_wp2_with fail
        refine (PT2.out _).mono ?_
        rintro r y2 ⟨rfl, hb2⟩
        have hB9 := hB8.trans (hb2.mono hB8.size)
        have hr9 := hr8.below hb2
        clear hb2 hB8 hr8
        go_wp2_with fail
        refine (join_any _ [A2, T2] _ (strs_new2 _ _ _ _) HL2.out (by simp)).mono ?_
        rintro r y3 ⟨rfl, hb3⟩
        have hb3' := ((Below.refl _ _).alloc (Nat.le_refl _) _).trans (hb3.mono (by simp))
        have hB10 := hB9.trans (hb3'.mono hB9.size)
        have hr10 := hr9.below hb3'
        rw [HV.out]
        clear hb3 hb3' hB9 hr9
        go_wp2_with fail
        refine (left_any c S2 0 _ hr10).mono ?_
        rintro r y4 ⟨rfl, rfl⟩
        have hV3 := HV3.out
        have HV3' := HV3; clear HV3
        go_wp2
        go_ret
        exact ⟨rfl, hB10⟩
set_option maxRecDepth 100000 in
theorem back_early (z n : Int) (s b : ByteArray) (w : World) (h : 4096 < s.size ∨ (s.size ≤ 4096 ∧ 4096 < b.size)) :
    Calls Try.prog 6 #[.int .i64 z, .int .i64 n, .string s, .string b] w fun r w' => r = .returned (.bool true) ∧ Below w.heap.size w w' := by
  rcases h with h | ⟨h, h'⟩
  all_goals
    go_enter Try.func6, Try.ntmps6
    go_wp2_with fail
    refine (works_any _).mono ?_
    rintro r x1 ⟨rfl, hb1⟩
    go_wp2
    go_ret
    exact ⟨rfl, hb1⟩
theorem flat2 (A T : ByteArray) : ([A, T].flatMap bts).length = A.size + T.size := by
  simp only [List.flatMap_cons, List.flatMap_nil, List.append_nil, List.length_append, bts_len]
theorem back_any (z n : Int) (s b : ByteArray) (w : World) (hn : -9223372036854775808 ≤ n ∧ n ≤ 9223372036854775807) :
    Calls Try.prog 6 #[.int .i64 z, .int .i64 n, .string s, .string b] w fun r w' => r = .returned (.bool true) ∧ Below w.heap.size w w' := by
  by_cases hs : 4096 < s.size
  · exact back_early z n s b w (.inl hs)
  by_cases hb : 4096 < b.size
  · exact back_early z n s b w (.inr ⟨by omega, hb⟩)
  have hA : ∃ A E, (∀ W, Calls Try.prog 19 #[.int .i64 z, .int .i64 n] W fun r w' => r = .returned (.tuple #[.string A, .int .i64 E]) ∧ Below W.heap.size W w') ∧ (E ≠ 0 ∨ (E = 0 ∧ ∃ Z N : Nat, z = (Z : Int) ∧ n = (N : Int) ∧ szd z ∧ N < 256 ^ Z ∧ A = txt (pb Z N))) := by
    by_cases hp : pok z n
    · obtain ⟨Z, N, rfl, rfl, hz, hN⟩ := pok_nat hp
      exact ⟨_, 0, fun W => put_ok Z N W hz hN, .inr ⟨rfl, Z, N, rfl, rfl, hz, hN, rfl⟩⟩
    · exact ⟨_, 1, fun W => put_bad z n W hp hn.1 hn.2, .inl (by omega)⟩
  obtain ⟨A, E, pA, hE⟩ := hA
  have hT : ∃ T F, (∀ W, Calls Try.prog 21 #[.string s] W fun r w' => r = .returned (.tuple #[.string T, .int .i64 F]) ∧ Below W.heap.size W w') ∧ (F ≠ 0 ∨ (F = 0 ∧ s.size ≤ 255 ∧ T = tb s)) := by
    by_cases h3 : s.size ≤ 255
    · exact ⟨_, 0, fun W => text_ok s W h3, .inr ⟨rfl, h3, rfl⟩⟩
    · exact ⟨_, 1, fun W => text_bad s W (by omega), .inl (by omega)⟩
  obtain ⟨T, F, pT, hF⟩ := hT
  have h1 : Half1 z n s A T E F := by
    rcases hE with hE | ⟨hE, Z, N, rfl, rfl, hz, hN, rfl⟩
    · exact .inl hE
    · rcases hF with hF | ⟨hF, hs2, rfl⟩
      · exact .inr (.inl ⟨hE, hF⟩)
      · obtain ⟨i1, i2, i3, i4, i5⟩ := back_there Z N s hz hN hs2 _ rfl
        have hlen : ([txt (pb Z N), tb s].flatMap bts).length ≤ 8192 := by
          rw [flat2, txt_size, pb_len, tb_size]
          unfold szd at hz; omega
        refine .inr (.inr ⟨hE, hF, _, intS (cat [txt (pb Z N), tb s]) 0 Z, rfl, ?_, by omega, fun W c h => ?_, fun W c h => ?_⟩)
        · rw [cat, txt_size]; exact hlen
        · have := int_any c _ 0 Z W h
          rwa [i1, i2] at this
        · have := text_any c _ 0 W h
          rwa [i3, i4, i5] at this
  refine back_core z n s b A T E F w (by omega) (by omega) pA pT h1 (intO b 0 z) (textO (intS b 0 z) (intE b 0 z)) (intS b 0 z) (textS (intS b 0 z) (intE b 0 z)) (intE b 0 z) (textE (intS b 0 z) (intE b 0 z))
    (fun W c h => int_any c b 0 z W h) (fun W c h => text_any c _ _ W h) ?_
  by_cases h2 : textE (intS b 0 z) (intE b 0 z) = 0
  · obtain ⟨Z, M, rfl, hz, hM, hO, hu, hcat⟩ := back_again z b h2
    have hl : ([txt (pb Z M), tb (textO (intS b 0 Z) (intE b 0 Z))].flatMap bts).length ≤ 8192 := by
      rw [flat2, txt_size, pb_len, tb_size]
      unfold szd at hz; omega
    have hsz := congrArg List.length hcat
    rw [List.length_append, bts_len, bts_len, bts_len] at hsz
    refine .inr ⟨h2, txt (pb Z M), _, _, fun W => ?_, fun W => text_ok _ W hu, by omega, rfl, by omega, ?_⟩
    · rw [hO]; exact put_ok Z M W hz hM
    · apply bts_inj
      rw [bts_extract, List.drop_zero, hcat, List.take_append_of_le_length (by rw [bts_len]; omega), List.take_of_length_le (by rw [bts_len]; omega)]
  · exact .inl h2
end Go.Proofs.Ytifdglehfhoecaa.C
