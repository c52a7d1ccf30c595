/-
  Lists of numbers and of texts in one, in new memory. Conditions: 2^40 elements at most.
-/
import Derived.Test.YtifdglehfhoecaaEGrow
import Derived.Test.YtifdglehfhoecaaNBase
namespace Go.Proofs.Ytifdglehfhoecaa.N
open Go.RowKit B E
/-- the first k of so many lists, as one -/
def flatA {α : Type} (vs : List (Value × List α)) (k : Nat) : List α := (vs.take k).flatMap (·.2)
theorem flatA_succ {α : Type} (vs : List (Value × List α)) (k : Nat) (h : k < vs.length) : flatA vs (k + 1) = flatA vs k ++ vs[k].2 := by
  unfold flatA; rw [List.take_succ_eq_append_getElem h, List.flatMap_append, List.flatMap_singleton]
theorem flatA_len {α : Type} (vs : List (Value × List α)) (k : Nat) : (flatA vs k).length ≤ (flatA vs vs.length).length := by
  unfold flatA
  rw [List.take_length]
  conv => rhs; rw [← List.take_append_drop k vs]
  rw [List.flatMap_append, List.length_append]
  exact Nat.le_add_right _ _

theorem info3 : (Try.prog.info? 3).map (fun i => (i.zero, i.size, i.bytes)) = some (some (.int .i64 0), 1, 8) := by kernel_rfl
set_option maxRecDepth 100000 in
theorem grow_i (n : Nat) (w : World) (hn : n ≤ 1099511627776) :
    Calls Try.prog 98 #[.slice none 0 0, .int .i64 (n : Int)] w fun r w' => ∃ v, r = .returned v ∧ w'.ownsRow w.heap.size 3 1 v 0 [] ∧ Below w.heap.size w w' := by
  rcases Nat.eq_zero_or_pos n with h0 | h0
  · subst h0
    go_enter Try.func98, Try.ntmps98
    go_wp2
    go_ret
    exact ⟨_, rfl, World.ownsRow_nil _ _ _ _, Below.refl _ _⟩
  · obtain ⟨i, hi, hz0, hz1, hz2⟩ := info_parts info3
    go_enter Try.func98, Try.ntmps98
    go_wp2_with (at_builtin; refine wpList_append_zeros rfl _ _ 67 3 rfl 3 i _ 1 8 Try.underlying67 Try.underlying3 hi hz0 hz1 hz2 rfl (by decide) w.heap.size n rfl rfl h0 (by unfold maxLen; omega) (by omega) (Nat.le_refl _) ?_)
    intro cap w1 hcap hown hb
    have HOWN := Lib.hid hown; clear hown
    go_wp2
    go_ret
    exact ⟨_, rfl, HOWN.out, hb⟩
set_option maxRecDepth 100000 in
set_option maxHeartbeats 1000000 in
theorem concat_i (g : Nat) (vs : List (Value × List Int)) (w : World) (hn : vs.length ≤ 100) (hlen : (flatA vs vs.length).length ≤ 1099511627776)
    (hc : ∀ j (_h : j < vs.length), w.cell? ⟨g, j, none⟩ = some vs[j].1 ∧ Ints w vs[j].1 vs[j].2) :
    Calls Try.prog 93 #[.slice (some ⟨g, 0, none⟩) vs.length vs.length] w fun r w' => ∃ v, r = .returned v ∧ w'.ownsRow w.heap.size 3 1 v (flatA vs vs.length).length (ics (flatA vs vs.length)) ∧ Below w.heap.size w w' := by
  obtain ⟨i, hi, hz0, hz1, hz2⟩ := info_parts info3
  have HC := Lib.hid hc; clear hc
  obtain ⟨tot, htot⟩ : ∃ t, (flatA vs vs.length).length = t := ⟨_, rfl⟩
  have HTOT := Lib.hid htot
  rw [htot] at hlen
  go_enter Try.func93, Try.ntmps93
  go_wp2
  go_loopw [3, 11] (fun n i wr => ∃ k : Nat, k ≤ vs.length ∧ i = .int .i64 k ∧ n = .int .i64 ((flatA vs k).length : Int) ∧ w = wr) (fun _ i _ => vs.length - (intOf i).toNat)
  case atStart => exact ⟨0, Nat.zero_le _, rfl, rfl, rfl⟩
  case round =>
    obtain ⟨k, hk, rfl, rfl, rfl⟩ := hrel
    by_cases hlt : k < vs.length
    · obtain ⟨h0, hE⟩ := HC.out k hlt
      obtain ⟨ao, cap, e, _, _, _⟩ := hE.open
      rw [e] at h0
      clear e hE
      have hs := congrArg List.length (flatA_succ vs k hlt)
      rw [List.length_append] at hs
      have hle := flatA_len vs (k + 1)
      rw [HTOT.out, hs] at hle
      obtain ⟨p, hp⟩ : ∃ p, (flatA vs k).length = p := ⟨_, rfl⟩
      obtain ⟨q, hq⟩ : ∃ q, vs[k].2.length = q := ⟨_, rfl⟩
      rw [hp, hq] at hs hle
      rw [hq] at h0
      rw [hp]
      have HS := Lib.hid hs
      clear hs hp hq
      go_wp2
      go_roundw
      case rel => exact ⟨k + 1, by omega, by go_num, by rw [HS.out]; go_num, by first | rfl | trivial⟩
      case measure => simp [intOf]; omega
    · have hkk : k = vs.length := by omega
      subst hkk
      rw [HTOT.out]
      go_wp2_with fail
      refine (grow_i tot _ (by omega)).mono ?_
      rintro r w1 ⟨v, rfl, hown, hb⟩
      have HOWN := Lib.hid hown; clear hown
      go_wp2
      go_loopw [6, 27] (fun v i wr => ∃ k : Nat, k ≤ vs.length ∧ i = .int .i64 k ∧ wr.ownsRow w.heap.size 3 1 v (flatA vs k).length (ics (flatA vs k)) ∧ Below w.heap.size w wr) (fun _ i _ => vs.length - (intOf i).toNat)
      case atStart => exact ⟨0, Nat.zero_le _, rfl, HOWN.out, hb⟩
      case round =>
        obtain ⟨k, hk, rfl, hown, hbr⟩ := hrel
        have HO := Lib.hid hown; clear hown
        by_cases hlt : k < vs.length
        · obtain ⟨h0, hE⟩ := HC.out k hlt
          have hE := hE.below hbr
          obtain ⟨ao, cap, e, _, _, _⟩ := hE.open
          have c0 := (hbr.cell (lt_of_cell h0)).trans h0
          rw [e] at c0 hE
          clear e h0
          have hle := flatA_len vs (k + 1)
          rw [HTOT.out, flatA_succ vs k hlt, List.length_append] at hle
          have HE := Lib.hid hE; clear hE
          go_wp2_with (at_builtin; go_loud (refine wpList_append_row rfl _ _ 67 rfl w.heap.size 3 i _ 1 8 Try.underlying67 hi hz0 hz1 hz2 rfl (by decide) _ (flatA vs k).length (ics (flatA vs k)) rfl HO.out (.slice ao vs[k].2.length cap) rfl vs[k].2.length (ics vs[k].2) HE.out (ics_one _) (by unfold maxLen; omega) (by omega) hbr.size ?_))
          intro v' w2 hown2 hg
          have hb2 : Below w.heap.size w w2 := hbr.grown hg hbr.size (fun g hg => (HO.out.lt g hg).1)
          rw [← ics_append, ← List.length_append, ← flatA_succ vs k hlt] at hown2
          have HO2 := Lib.hid hown2; clear hown2 hg
          go_wp2
          go_roundw
          case rel => exact ⟨k + 1, by omega, by go_num, HO2.out, hb2⟩
          case measure => simp [intOf]; omega
        · have hkk : k = vs.length := by omega
          have HK := Lib.hid hkk; clear hkk
          go_wp2
          go_ret
          exact ⟨_, rfl, by have := HO.out; rw [HK.out] at this; exact this, hbr⟩

/-- glue -/
theorem glue_i (g : Nat) (vs : List (Value × List Int)) (w : World) (hn : vs.length ≤ 100) (hlen : (flatA vs vs.length).length ≤ 1099511627776)
    (hc : ∀ j (_h : j < vs.length), w.cell? ⟨g, j, none⟩ = some vs[j].1 ∧ Ints w vs[j].1 vs[j].2) :
    Calls Try.prog 81 #[.slice (some ⟨g, 0, none⟩) vs.length vs.length] w fun r w' => ∃ v, r = .returned v ∧ w'.ownsRow w.heap.size 3 1 v (flatA vs vs.length).length (ics (flatA vs vs.length)) ∧ Below w.heap.size w w' := by
  have HC := Lib.hid (concat_i g vs w hn hlen hc); clear hc
  go_enter Try.func81, Try.ntmps81
  go_wp2_with fail
  refine HC.out.mono ?_
  rintro r w1 ⟨v, rfl, hown, hb⟩
  have HO := Lib.hid hown; clear hown
  go_wp2
  go_ret
  exact ⟨_, rfl, HO.out, hb⟩

theorem info9 : (Try.prog.info? 9).map (fun i => (i.zero, i.size, i.bytes)) = some (some (.string ByteArray.empty), 1, 16) := by kernel_rfl
set_option maxRecDepth 100000 in
theorem grow_t (n : Nat) (w : World) (hn : n ≤ 1099511627776) :
    Calls Try.prog 99 #[.slice none 0 0, .int .i64 (n : Int)] w fun r w' => ∃ v, r = .returned v ∧ w'.ownsRow w.heap.size 9 1 v 0 [] ∧ Below w.heap.size w w' := by
  rcases Nat.eq_zero_or_pos n with h0 | h0
  · subst h0
    go_enter Try.func99, Try.ntmps99
    go_wp2
    go_ret
    exact ⟨_, rfl, World.ownsRow_nil _ _ _ _, Below.refl _ _⟩
  · obtain ⟨i, hi, hz0, hz1, hz2⟩ := info_parts info9
    go_enter Try.func99, Try.ntmps99
    go_wp2_with (at_builtin; refine wpList_append_zeros rfl _ _ 22 3 rfl 9 i _ 1 16 Try.underlying22 Try.underlying3 hi hz0 hz1 hz2 rfl (by decide) w.heap.size n rfl rfl h0 (by unfold maxLen; omega) (by omega) (Nat.le_refl _) ?_)
    intro cap w1 hcap hown hb
    have HOWN := Lib.hid hown; clear hown
    go_wp2
    go_ret
    exact ⟨_, rfl, HOWN.out, hb⟩
set_option maxRecDepth 100000 in
set_option maxHeartbeats 1000000 in
theorem concat_t (g : Nat) (vs : List (Value × List ByteArray)) (w : World) (hn : vs.length ≤ 100) (hlen : (flatA vs vs.length).length ≤ 1099511627776)
    (hc : ∀ j (_h : j < vs.length), w.cell? ⟨g, j, none⟩ = some vs[j].1 ∧ Txts w vs[j].1 vs[j].2) :
    Calls Try.prog 94 #[.slice (some ⟨g, 0, none⟩) vs.length vs.length] w fun r w' => ∃ v, r = .returned v ∧ w'.ownsRow w.heap.size 9 1 v (flatA vs vs.length).length (tcs (flatA vs vs.length)) ∧ Below w.heap.size w w' := by
  obtain ⟨i, hi, hz0, hz1, hz2⟩ := info_parts info9
  have HC := Lib.hid hc; clear hc
  obtain ⟨tot, htot⟩ : ∃ t, (flatA vs vs.length).length = t := ⟨_, rfl⟩
  have HTOT := Lib.hid htot
  rw [htot] at hlen
  go_enter Try.func94, Try.ntmps94
  go_wp2
  go_loopw [3, 11] (fun n i wr => ∃ k : Nat, k ≤ vs.length ∧ i = .int .i64 k ∧ n = .int .i64 ((flatA vs k).length : Int) ∧ w = wr) (fun _ i _ => vs.length - (intOf i).toNat)
  case atStart => exact ⟨0, Nat.zero_le _, rfl, rfl, rfl⟩
  case round =>
    obtain ⟨k, hk, rfl, rfl, rfl⟩ := hrel
    by_cases hlt : k < vs.length
    · obtain ⟨h0, hE⟩ := HC.out k hlt
      obtain ⟨ao, cap, e, _, _, _⟩ := hE.open
      rw [e] at h0
      clear e hE
      have hs := congrArg List.length (flatA_succ vs k hlt)
      rw [List.length_append] at hs
      have hle := flatA_len vs (k + 1)
      rw [HTOT.out, hs] at hle
      obtain ⟨p, hp⟩ : ∃ p, (flatA vs k).length = p := ⟨_, rfl⟩
      obtain ⟨q, hq⟩ : ∃ q, vs[k].2.length = q := ⟨_, rfl⟩
      rw [hp, hq] at hs hle
      rw [hq] at h0
      rw [hp]
      have HS := Lib.hid hs
      clear hs hp hq
      go_wp2
      go_roundw
      case rel => exact ⟨k + 1, by omega, by go_num, by rw [HS.out]; go_num, by first | rfl | trivial⟩
      case measure => simp [intOf]; omega
    · have hkk : k = vs.length := by omega
      subst hkk
      rw [HTOT.out]
      go_wp2_with fail
      refine (grow_t tot _ (by omega)).mono ?_
      rintro r w1 ⟨v, rfl, hown, hb⟩
      have HOWN := Lib.hid hown; clear hown
      go_wp2
      go_loopw [6, 27] (fun v i wr => ∃ k : Nat, k ≤ vs.length ∧ i = .int .i64 k ∧ wr.ownsRow w.heap.size 9 1 v (flatA vs k).length (tcs (flatA vs k)) ∧ Below w.heap.size w wr) (fun _ i _ => vs.length - (intOf i).toNat)
      case atStart => exact ⟨0, Nat.zero_le _, rfl, HOWN.out, hb⟩
      case round =>
        obtain ⟨k, hk, rfl, hown, hbr⟩ := hrel
        have HO := Lib.hid hown; clear hown
        by_cases hlt : k < vs.length
        · obtain ⟨h0, hE⟩ := HC.out k hlt
          have hE := hE.below hbr
          obtain ⟨ao, cap, e, _, _, _⟩ := hE.open
          have c0 := (hbr.cell (lt_of_cell h0)).trans h0
          rw [e] at c0 hE
          clear e h0
          have hle := flatA_len vs (k + 1)
          rw [HTOT.out, flatA_succ vs k hlt, List.length_append] at hle
          have HE := Lib.hid hE; clear hE
          go_wp2_with (at_builtin; go_loud (refine wpList_append_row rfl _ _ 22 rfl w.heap.size 9 i _ 1 16 Try.underlying22 hi hz0 hz1 hz2 rfl (by decide) _ (flatA vs k).length (tcs (flatA vs k)) rfl HO.out (.slice ao vs[k].2.length cap) rfl vs[k].2.length (tcs vs[k].2) HE.out (tcs_one _) (by unfold maxLen; omega) (by omega) hbr.size ?_))
          intro v' w2 hown2 hg
          have hb2 : Below w.heap.size w w2 := hbr.grown hg hbr.size (fun g hg => (HO.out.lt g hg).1)
          rw [← tcs_append, ← List.length_append, ← flatA_succ vs k hlt] at hown2
          have HO2 := Lib.hid hown2; clear hown2 hg
          go_wp2
          go_roundw
          case rel => exact ⟨k + 1, by omega, by go_num, HO2.out, hb2⟩
          case measure => simp [intOf]; omega
        · have hkk : k = vs.length := by omega
          have HK := Lib.hid hkk; clear hkk
          go_wp2
          go_ret
          exact ⟨_, rfl, by have := HO.out; rw [HK.out] at this; exact this, hbr⟩

/-- glue -/
theorem glue_t (g : Nat) (vs : List (Value × List ByteArray)) (w : World) (hn : vs.length ≤ 100) (hlen : (flatA vs vs.length).length ≤ 1099511627776)
    (hc : ∀ j (_h : j < vs.length), w.cell? ⟨g, j, none⟩ = some vs[j].1 ∧ Txts w vs[j].1 vs[j].2) :
    Calls Try.prog 82 #[.slice (some ⟨g, 0, none⟩) vs.length vs.length] w fun r w' => ∃ v, r = .returned v ∧ w'.ownsRow w.heap.size 9 1 v (flatA vs vs.length).length (tcs (flatA vs vs.length)) ∧ Below w.heap.size w w' := by
  have HC := Lib.hid (concat_t g vs w hn hlen hc); clear hc
  go_enter Try.func82, Try.ntmps82
  go_wp2_with fail
  refine HC.out.mono ?_
  rintro r w1 ⟨v, rfl, hown, hb⟩
  have HO := Lib.hid hown; clear hown
  go_wp2
  go_ret
  exact ⟨_, rfl, HO.out, hb⟩

/-- glue -/
theorem glue_e (g : Nat) (vs : List (Value × List Ent)) (w : World) (hn : vs.length ≤ 100) (hlen : (flatA vs vs.length).length ≤ 1099511627776)
    (hc : ∀ j (_h : j < vs.length), w.cell? ⟨g, j, none⟩ = some vs[j].1 ∧ Ents w vs[j].1 vs[j].2) :
    Calls Try.prog 83 #[.slice (some ⟨g, 0, none⟩) vs.length vs.length] w fun r w' => ∃ v, r = .returned v ∧ w'.ownsRow w.heap.size 49 2 v (flatA vs vs.length).length (ecs (flatA vs vs.length)) ∧ Below w.heap.size w w' := by
  have HC := Lib.hid (concat_any g vs w hn hlen hc); clear hc
  go_enter Try.func83, Try.ntmps83
  go_wp2_with fail
  refine HC.out.mono ?_
  rintro r w1 ⟨v, rfl, hown, hb⟩
  have HO := Lib.hid hown; clear hown
  go_wp2
  go_ret
  exact ⟨_, rfl, HO.out, hb⟩
end Go.Proofs.Ytifdglehfhoecaa.N
