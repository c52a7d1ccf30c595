/-
  The document's number as bytes, and the walk of CodecWrites: it answers true. Conditions: the numbers are ints; the slice's cells are texts.
-/
import Derived.Test.YtifdglehfhoecaaLawOrder
import Derived.Deep.DeepCutAuto
namespace Go.Proofs.Ytifdglehfhoecaa.C
open Go.RowKit B
theorem refput_no (z n : Int) (w : World) (h : ¬ szd z ∨ n < 0) :
    Calls Try.prog 20 #[.int .i64 z, .int .i64 n] w fun r w' => r = .returned (.tuple #[.string ByteArray.empty, .bool false]) ∧ Below w.heap.size w w' := by
  by_cases hz : szd z
  · have hn : n < 0 := h.resolve_left (fun h => h hz)
    clear h
    rcases hz with rfl | rfl | rfl
    all_goals
      go_enter Try.func20, Try.ntmps20
      go_wp2
      go_ret2
      exact ⟨rfl, Below.refl _ _⟩
  · have h1 : (z != 1) = true := by rw [bne_iff_ne]; intro e; exact hz (.inl e)
    have h2 : (z != 2) = true := by rw [bne_iff_ne]; intro e; exact hz (.inr (.inl e))
    have h4 : (z != 4) = true := by rw [bne_iff_ne]; intro e; exact hz (.inr (.inr e))
    clear h hz
    go_enter Try.func20, Try.ntmps20
    go_wp2
    go_ret2
    exact ⟨rfl, Below.refl _ _⟩
theorem byte_mod (n : Nat) : ((n : Int) % 256) = ((UInt8.ofNat n).toNat : Int) := by rw [UInt8.toNat_ofNat']; omega
theorem szd_tests {Z : Int} (hz : szd Z) : (Z != 1) = false ∨ ((Z != 1) = true ∧ (Z != 2) = false) ∨ ((Z != 1) = true ∧ (Z != 2) = true ∧ (Z != 4) = false) := by
  rcases hz with h | h | h <;> rw [h] <;> decide
set_option maxHeartbeats 400000 in
theorem refput_yes (Z n : Nat) (w : World) (hz : szd (Z : Int)) (hn : n ≤ 9223372036854775807) :
    Calls Try.prog 20 #[.int .i64 (Z : Int), .int .i64 (n : Int)] w fun r w' => r = .returned (.tuple #[.string (txt (pb Z n)), .bool (((n / 256 ^ Z : Nat) : Int) == 0)]) ∧ Below w.heap.size w w' := by
  have hz4 : Z ≤ 4 := by unfold szd at hz; omega
  have ht := szd_tests hz
  have HZ := Lib.hid hz; have HT := Lib.hid ht
  clear hz ht
  go_enter Try.func20, Try.ntmps20
  go_upto_region 1 with (fail)
  go_cut [21] (fun s21 wx => s21 = .bool false ∧ wx = w)
  case first =>
    rcases HT.out with h | ⟨h, h'⟩ | ⟨h, h', h''⟩
    all_goals
      go_wp2
      go_meet
      exact ⟨rfl, rfl⟩
  case rest =>
    obtain ⟨rfl, rfl⟩ := hcut
    go_wp2
    go_loopw [1, 6, 7] (fun x v i wr => ∃ (k N : Nat) (t : ByteArray), k ≤ Z ∧ i = .int .i64 (k : Int) ∧ x = .int .i64 (N : Int) ∧ v = .string t ∧ t = txt (pb k n) ∧ N = n / 256 ^ k ∧ N ≤ n ∧ t.size ≤ 4 ∧ Below wc.heap.size wc wr) (fun _ _ i _ => Z - (intOf i).toNat)
    case atStart => exact ⟨0, n, ByteArray.empty, by omega, rfl, rfl, rfl, rfl, by simp, Nat.le_refl _, by simp, Below.refl _ _⟩
    case round =>
      obtain ⟨k, N, t, hk, rfl, rfl, rfl, ht, hN, hNn, ht4, hb⟩ := hrel
      have HT2 := Lib.hid ht; have HN := Lib.hid hN
      clear ht hN
      by_cases hlt : k < Z
      · have hby := byte_mod N
        obtain ⟨c, hc⟩ : ∃ c, UInt8.ofNat N = c := ⟨_, rfl⟩
        rw [hc] at hby
        have HC := Lib.hid hc; clear hc
        have h1 := fun W => one_text W c
        have hs1 : (txt [c]).size ≤ 1 := by rw [txt_size]; simp
        obtain ⟨u, hu⟩ : ∃ u, txt [c] = u := ⟨_, rfl⟩
        rw [hu] at h1 hs1
        have HU := Lib.hid hu; clear hu
        go_wp2
        go_roundw
        case rel =>
          have e1 : u ++ t = txt (pb (k + 1) n) := by
            rw [← HU.out, HT2.out, txt_append, pb_cons, ← HN.out, HC.out]; rfl
          have e2 : (u ++ t).size ≤ 4 := by rw [e1, txt_size, pb_len]; omega
          exact ⟨k + 1, N / 256, u ++ t, by omega, by go_num, rfl, rfl, e1, by rw [HN.out, Nat.div_div_eq_div_mul, Nat.pow_succ], Nat.le_trans (Nat.div_le_self _ _) hNn, e2, hb.alloc hb.size _⟩
        case measure => simp [intOf]; omega
      · have hkz : k = Z := by omega
        have HK := Lib.hid hkz; clear hkz
        go_wp2
        go_ret2
        exact ⟨by rw [← HK.out, ← HT2.out, ← HN.out]; rfl, hb⟩
theorem cat_snoc (l : List ByteArray) (s : ByteArray) : cat (l ++ [s]) = cat l ++ s := by
  apply bts_inj; rw [bts_append]; simp [cat]
set_option maxRecDepth 100000 in
set_option maxHeartbeats 2000000 in
theorem writes_core (z n : Int) (s : ByteArray) (ao : Option Addr) (cap : Nat) (L : List ByteArray) (w : World) (A B T : ByteArray) (E F : Int) (ok : Bool) (hs : s.size ≤ 4096) (hL : L.length ≤ 50)
    (hcap : L.length ≤ cap) (hc : ∀ j (h : j < L.length), ∃ a, ao = some a ∧ w.cell? (a.add j) = some (.string L[j]))
    (pA : ∀ W, Calls Try.prog 19 #[.int .i64 z, .int .i64 n] W fun r w' => r = .returned (.tuple #[.string A, .int .i64 E]) ∧ Below W.heap.size W w')
    (pB : ∀ W, Calls Try.prog 20 #[.int .i64 z, .int .i64 n] W fun r w' => r = .returned (.tuple #[.string B, .bool ok]) ∧ Below W.heap.size W w')
    (pT : ∀ W, Calls Try.prog 21 #[.string s] W fun r w' => r = .returned (.tuple #[.string T, .int .i64 F]) ∧ Below W.heap.size W w')
    (h8 : (ok = true ∧ A = B ∧ E = 0) ∨ (ok = false ∧ A = ByteArray.empty ∧ E = 1)) (h11 : (s.size ≤ 255 ∧ T = tb s ∧ F = 0) ∨ (255 < s.size ∧ T = ByteArray.empty ∧ F = 1)) :
    Calls Try.prog 3 #[.int .i64 z, .int .i64 n, .string s, .slice ao L.length cap] w fun r w' => r = .returned (.bool true) ∧ Below w.heap.size w w' := by
  have PA := Lib.hid pA; have PB := Lib.hid pB; have PT := Lib.hid pT; have H8 := Lib.hid h8; have H11 := Lib.hid h11; have HC := Lib.hid hc
  clear pA pB pT h8 h11 hc
  go_enter Try.func3, Try.ntmps3
  go_wp2_with fail
  refine (works_any _).mono ?_
  rintro r x1 ⟨rfl, hb1⟩
  go_wp2_with fail
  refine (PA.out _).mono ?_
  rintro r x2 ⟨rfl, hb2⟩
  have hB2 := hb1.trans (hb2.mono hb1.size)
  clear hb1 hb2
  go_wp2_with fail
  refine (PB.out _).mono ?_
  rintro r x3 ⟨rfl, hb3⟩
  have hB3 := hB2.trans (hb3.mono hB2.size)
  clear hB2 hb3
  go_upto_region 8 with (fail)
  go_cut [63] (fun s63 wx => s63 = .bool false ∧ wx = x3)
  case first =>
    rcases H8.out with ⟨h1, h2, h3⟩ | ⟨h1, h2, h3⟩
    all_goals
      subst h1 h2 h3
      clear PA PB H8
      go_wp2
      go_meet
      exact ⟨rfl, rfl⟩
  case rest =>
    obtain ⟨rfl, rfl⟩ := hcut
    clear PA PB H8
    go_wp2_with fail
    refine (PT.out _).mono ?_
    rintro r x4 ⟨rfl, hb4⟩
    have hB4 := hB3.trans (hb4.mono hB3.size)
    clear hB3 hb4
    go_upto_region 11 with (fail)
    go_cut [99] (fun s99 wx => s99 = .bool false ∧ Below w.heap.size w wx)
    case first =>
      rcases H11.out with ⟨h1, h2, h3⟩ | ⟨h1, h2, h3⟩
      · obtain ⟨c, hc⟩ : ∃ c, UInt8.ofNat s.size = c := ⟨_, rfl⟩
        have hb2 : (s.size : Int) = (c.toNat : Int) := by rw [← hc, UInt8.toNat_ofNat']; omega
        have ht : txt [c] ++ s = tb s := by rw [tb, hc]; apply bts_inj; rw [bts_append]; rfl
        have h1' : ∀ W : World, (convert 30 9 (.slice (some ⟨W.heap.size, 0, none⟩) 1 1)).run Try.prog (W.alloc (.cells #[.int .u8 (s.size : Int)] 5)) = .ok (.string (txt [c])) (W.alloc (.cells #[.int .u8 (s.size : Int)] 5)) := fun W => by
          rw [hb2]; exact one_text W c
        have hs1 : (txt [c]).size ≤ 1 := by rw [txt_size]; simp
        obtain ⟨u, hu⟩ : ∃ u, txt [c] = u := ⟨_, rfl⟩
        rw [hu] at h1' hs1 ht
        rw [← ht] at h2
        subst h2 h3
        clear ht hc hb2 hu PT H11
        go_wp2
        go_meet
        exact ⟨rfl, hB4.alloc hB4.size _⟩
      · subst h2 h3
        clear PT H11
        go_wp2
        go_meet
        exact ⟨rfl, hB4⟩
    case rest =>
      obtain ⟨rfl, hB⟩ := hcut
      clear hB4 PT H11
      go_wp2
      go_loop [16, 17] (fun v i => ∃ (j : Nat) (t : ByteArray), j ≤ L.length ∧ i = .int .i64 j ∧ v = .string t ∧ t = cat (L.take j) ∧ t.size ≤ 4096 * j ∧ ∀ x ∈ L.take j, x.size ≤ 4096) (fun _ i => L.length - (intOf i).toNat)
      case atStart => exact ⟨0, ByteArray.empty, by omega, rfl, rfl, rfl, by simp, by simp⟩
      case round =>
        obtain ⟨j, t, hj, rfl, rfl, ht, ht2, hA3⟩ := hrel
        have HA := Lib.hid ht; clear ht
        have HA3 := Lib.hid hA3; clear hA3
        by_cases hlt : j < L.length
        · obtain ⟨a, rfl, hcell⟩ := HC.out j hlt
          have hcell1 := (hB.cell (lt_of_cell hcell)).trans hcell
          clear hcell
          obtain ⟨x, hx1⟩ : ∃ x, x = L[j] := ⟨_, rfl⟩
          rw [← hx1] at hcell1
          have HX := Lib.hid hx1; clear hx1
          by_cases hbig : 4096 < x.size
          · go_wp2
            go_ret
            exact ⟨rfl, hB⟩
          · go_wp2
            go_round
            case rel =>
              refine ⟨j + 1, t ++ x, by omega, by go_num, rfl, ?_, ?_, ?_⟩
              · rw [List.take_succ_eq_append_getElem hlt, cat_snoc, HA.out, HX.out]
              · have h3 : (t ++ x).size = t.size + x.size := ByteArray.size_append
                omega
              · intro y hy
                rw [List.take_succ_eq_append_getElem hlt, List.mem_append] at hy
                rcases hy with hy | hy
                · exact HA3.out y hy
                · simp at hy; rw [hy, ← HX.out]; omega
            case measure => simp [intOf]; omega
        · have hjl : j = L.length := by omega
          have h4 : cat L = t := by rw [HA.out, hjl, List.take_length]
          have h5 : (L.flatMap bts).length ≤ 140737488355328 := by
            have : (L.flatMap bts).length = (cat L).size := by rw [cat, txt_size]
            rw [this, h4]; omega
          have H4 := Lib.hid h4; clear h4
          have HJ := Lib.hid hjl; clear hjl
          go_wp2_with fail
          refine (join_any _ L _ ⟨ao, cap, rfl, hcap, fun j h => ?_⟩ h5 (by omega)).mono ?_
          · obtain ⟨a, e, hcell⟩ := HC.out j h
            exact ⟨a, e, (hB.cell (lt_of_cell hcell)).trans hcell⟩
          rintro r x5 ⟨rfl, hb5⟩
          have hB5 := hB.trans (hb5.mono hB.size)
          rw [H4.out]
          clear hb5 h5
          go_wp2
          go_ret
          exact ⟨rfl, hB5⟩
set_option maxRecDepth 100000 in
theorem writes_early (z n : Int) (s : ByteArray) (ao : Option Addr) (len cap : Nat) (w : World) (h : 4096 < s.size ∨ (s.size ≤ 4096 ∧ 50 < len)) :
    Calls Try.prog 3 #[.int .i64 z, .int .i64 n, .string s, .slice ao len cap] w fun r w' => r = .returned (.bool true) ∧ Below w.heap.size w w' := by
  rcases h with h | ⟨h, h'⟩
  all_goals
    go_enter Try.func3, Try.ntmps3
    go_wp2_with fail
    refine (works_any _).mono ?_
    rintro r x1 ⟨rfl, hb1⟩
    go_wp2
    go_ret
    exact ⟨rfl, hb1⟩
theorem writes_any (z n : Int) (s : ByteArray) (v : Value) (L : List ByteArray) (w : World) (hn : -9223372036854775808 ≤ n ∧ n ≤ 9223372036854775807) (hv : Strs w v L) :
    Calls Try.prog 3 #[.int .i64 z, .int .i64 n, .string s, v] w fun r w' => r = .returned (.bool true) ∧ Below w.heap.size w w' := by
  obtain ⟨ao, cap, rfl, hcap, hc⟩ := hv
  by_cases h1 : 4096 < s.size
  · exact writes_early z n s ao _ cap w (.inl h1)
  by_cases h2 : 50 < L.length
  · exact writes_early z n s ao _ cap w (.inr ⟨by omega, h2⟩)
  have hT : ∃ T F, (∀ W, Calls Try.prog 21 #[.string s] W fun r w' => r = .returned (.tuple #[.string T, .int .i64 F]) ∧ Below W.heap.size W w') ∧ ((s.size ≤ 255 ∧ T = tb s ∧ F = 0) ∨ (255 < s.size ∧ T = ByteArray.empty ∧ F = 1)) := by
    by_cases h3 : s.size ≤ 255
    · exact ⟨_, _, fun W => text_ok s W h3, .inl ⟨h3, rfl, rfl⟩⟩
    · exact ⟨_, _, fun W => text_bad s W (by omega), .inr ⟨by omega, rfl, rfl⟩⟩
  obtain ⟨T, F, pT, h11⟩ := hT
  by_cases hp : pok z n
  · obtain ⟨Z, N, rfl, rfl, hz, hN⟩ := pok_nat hp
    have hB := fun W => refput_yes Z N W hz (by omega)
    have hq : (((N / 256 ^ Z : Nat) : Int) == 0) = true := by rw [Nat.div_eq_of_lt hN]; rfl
    rw [hq] at hB
    exact writes_core Z N s ao cap L w _ _ T 0 F true (by omega) (by omega) hcap hc (fun W => put_ok Z N W hz hN) hB pT (.inl ⟨rfl, rfl, rfl⟩) h11
  · have hA := fun W => put_bad z n W hp hn.1 hn.2
    by_cases hz : szd z ∧ 0 ≤ n
    · obtain ⟨hz, h0⟩ := hz
      obtain ⟨N, rfl⟩ := Int.eq_ofNat_of_zero_le h0
      obtain ⟨Z, rfl⟩ := Int.eq_ofNat_of_zero_le (show 0 ≤ z by unfold szd at hz; omega)
      have hB := fun W => refput_yes Z N W hz (by omega)
      have hq : (((N / 256 ^ Z : Nat) : Int) == 0) = false := by
        rw [beq_eq_false_iff_ne]; intro e
        apply hp
        refine ⟨hz, h0, ?_⟩
        rw [Int.toNat_natCast, div8]; exact e
      rw [hq] at hB
      exact writes_core Z N s ao cap L w _ _ T 1 F false (by omega) (by omega) hcap hc hA hB pT (.inr ⟨rfl, rfl, rfl⟩) h11
    · have hB := fun W => refput_no z n W (by by_cases h : szd z; exact .inr (by have : ¬ 0 ≤ n := fun h0 => hz ⟨h, h0⟩; omega); exact .inl h)
      exact writes_core z n s ao cap L w _ _ T 1 F false (by omega) (by omega) hcap hc hA hB pT (.inr ⟨rfl, rfl, rfl⟩) h11
end Go.Proofs.Ytifdglehfhoecaa.C
