/-
  A list that grows, a copy of one, several as one. Conditions: 2^40 entries at most.
-/
import Derived.Test.YtifdglehfhoecaaEAppend
import Derived.Outline
import Derived.Lib.BufferMore
namespace Go.Proofs.Ytifdglehfhoecaa.E
open Go.RowKit B
theorem info49 : (Try.prog.info? 49).map (fun i => (i.zero, i.size, i.bytes)) = some (some (.agg #[.string ByteArray.empty, .string ByteArray.empty]), 2, 32) := by kernel_rfl
set_option maxRecDepth 100000 in
theorem grow_any (n : Nat) (w : World) (hn : n ≤ 1099511627776) :
    Calls Try.prog 90 #[.slice none 0 0, .int .i64 (n : Int)] w fun r w' => ∃ v, r = .returned v ∧ w'.ownsRow w.heap.size 49 2 v 0 [] ∧ Below w.heap.size w w' := by
  rcases Nat.eq_zero_or_pos n with h0 | h0
  · subst h0
    go_enter Try.func90, Try.ntmps90
    go_wp2
    go_ret
    exact ⟨_, rfl, World.ownsRow_nil _ _ _ _, Below.refl _ _⟩
  · obtain ⟨i, hi, hz0, hz1, hz2⟩ := info_parts info49
    go_enter Try.func90, Try.ntmps90
    go_wp2_with (at_builtin; refine wpList_append_zeros rfl _ _ 43 3 rfl 49 i _ 2 32 Try.underlying43 Try.underlying3 hi hz0 hz1 hz2 rfl (by decide) w.heap.size n rfl rfl h0 (by unfold maxLen; omega) (by omega) (Nat.le_refl _) ?_)
    intro cap w1 hcap hown hb
    have HOWN := Lib.hid hown; clear hown
    go_wp2
    go_ret
    exact ⟨_, rfl, HOWN.out, hb⟩
set_option maxRecDepth 100000 in
theorem clone_any (v : Value) (l : List Ent) (w : World) (hv : Ents w v l) (hne : l ≠ []) (hlen : l.length ≤ 1099511627776) :
    Calls Try.prog 73 #[v] w fun r w' => ∃ v', r = .returned v' ∧ w'.ownsRow w.heap.size 49 2 v' l.length (ecs l) ∧ Below w.heap.size w w' := by
  obtain ⟨i, hi, hz0, hz1, hz2⟩ := info_parts info49
  obtain ⟨ao, cap, rfl, h1, h2, hc⟩ := hv.open
  obtain ⟨b, o, rfl, _, _⟩ := hc 0 (List.length_pos_iff.2 hne)
  have HV := Lib.hid hv
  clear hv hc
  have hnil : ∀ W, (binOp .eql 43 (.slice (some ⟨b, o, none⟩) l.length cap) (.slice none 0 0)).run Try.prog W = .ok (.bool false) W := fun W => Lib.run_eql_slice_some_nil W _ _ _ Try.underlying43
  go_enter Try.func73, Try.ntmps73
  go_wp2_with (at_builtin; go_loud (refine wpList_append_row rfl _ _ 43 rfl w.heap.size 49 i _ 2 32 Try.underlying43 hi hz0 hz1 hz2 rfl (by decide) (.slice (some ⟨w.heap.size, 0, none⟩) 0 0) 0 [] rfl (World.ownsRow_made w #[] 0 (Nat.le_refl _) (by unfold maxLen; omega) rfl) (.slice (some ⟨b, o, none⟩) l.length cap) rfl l.length (ecs l) (Rw.below HV.out ((Below.refl _ w).alloc (Nat.le_refl _) _)) (ecs_one l) (by unfold maxLen; omega) (by omega) (by simp) ?_))
  intro v' w1 hown hg
  have hb : Below w.heap.size w w1 := ((Below.refl _ w).alloc (Nat.le_refl _) _).grown hg (by simp) (fun g h => by simp [Value.ownBlock] at h; omega)
  have HOWN := Lib.hid hown; clear hown hg
  go_wp2
  go_ret
  exact ⟨_, rfl, HOWN.out, hb⟩
/-- the first k of so many lists, as one -/
def flat (vs : List (Value × List Ent)) (k : Nat) : List Ent := (vs.take k).flatMap (·.2)
theorem flat_succ (vs : List (Value × List Ent)) (k : Nat) (h : k < vs.length) : flat vs (k + 1) = flat vs k ++ vs[k].2 := by
  unfold flat; rw [List.take_succ_eq_append_getElem h, List.flatMap_append, List.flatMap_singleton]
theorem flat_len (vs : List (Value × List Ent)) (k : Nat) : (flat vs k).length ≤ (flat vs vs.length).length := by
  unfold flat
  rw [List.take_length]
  conv => rhs; rw [← List.take_append_drop k vs]
  rw [List.flatMap_append, List.length_append]
  exact Nat.le_add_right _ _
set_option maxRecDepth 100000 in
set_option maxHeartbeats 1000000 in
theorem concat_any (g : Nat) (vs : List (Value × List Ent)) (w : World) (hn : vs.length ≤ 100) (hlen : (flat vs vs.length).length ≤ 1099511627776)
    (hc : ∀ j (_h : j < vs.length), w.cell? ⟨g, j, none⟩ = some vs[j].1 ∧ Ents w vs[j].1 vs[j].2) :
    Calls Try.prog 74 #[.slice (some ⟨g, 0, none⟩) vs.length vs.length] w fun r w' => ∃ v, r = .returned v ∧ w'.ownsRow w.heap.size 49 2 v (flat vs vs.length).length (ecs (flat vs vs.length)) ∧ Below w.heap.size w w' := by
  obtain ⟨i, hi, hz0, hz1, hz2⟩ := info_parts info49
  have HC := Lib.hid hc; clear hc
  obtain ⟨tot, htot⟩ : ∃ t, (flat vs vs.length).length = t := ⟨_, rfl⟩
  have HTOT := Lib.hid htot
  rw [htot] at hlen
  go_enter Try.func74, Try.ntmps74
  go_wp2
  go_loopw [3, 11] (fun n i wr => ∃ k : Nat, k ≤ vs.length ∧ i = .int .i64 k ∧ n = .int .i64 ((flat vs k).length : Int) ∧ w = wr) (fun _ i _ => vs.length - (intOf i).toNat)
  case atStart => exact ⟨0, Nat.zero_le _, rfl, rfl, rfl⟩
  case round =>
    obtain ⟨k, hk, rfl, rfl, rfl⟩ := hrel
    by_cases hlt : k < vs.length
    · obtain ⟨h0, hE⟩ := HC.out k hlt
      obtain ⟨ao, cap, e, _, _, _⟩ := hE.open
      rw [e] at h0
      clear e hE
      have hs := congrArg List.length (flat_succ vs k hlt)
      rw [List.length_append] at hs
      have hle := flat_len vs (k + 1)
      rw [HTOT.out, hs] at hle
      obtain ⟨p, hp⟩ : ∃ p, (flat vs k).length = p := ⟨_, rfl⟩
      obtain ⟨q, hq⟩ : ∃ q, vs[k].2.length = q := ⟨_, rfl⟩
      rw [hp, hq] at hs hle
      rw [hq] at h0
      rw [hp]
      have HS := Lib.hid hs
      clear hs hp hq
      go_wp2
      go_roundw
      case rel => exact ⟨k + 1, by omega, by go_num, by rw [HS.out]; go_num, by first | rfl | trivial⟩
      case measure => simp [intOf]; omega
    · have hkk : k = vs.length := by omega
      subst hkk
      rw [HTOT.out]
      go_wp2_with fail
      refine (grow_any tot _ (by omega)).mono ?_
      rintro r w1 ⟨v, rfl, hown, hb⟩
      have HOWN := Lib.hid hown; clear hown
      go_wp2
      go_loopw [6, 27] (fun v i wr => ∃ k : Nat, k ≤ vs.length ∧ i = .int .i64 k ∧ wr.ownsRow w.heap.size 49 2 v (flat vs k).length (ecs (flat vs k)) ∧ Below w.heap.size w wr) (fun _ i _ => vs.length - (intOf i).toNat)
      case atStart => exact ⟨0, Nat.zero_le _, rfl, HOWN.out, hb⟩
      case round =>
        obtain ⟨k, hk, rfl, hown, hbr⟩ := hrel
        have HO := Lib.hid hown; clear hown
        by_cases hlt : k < vs.length
        · obtain ⟨h0, hE⟩ := HC.out k hlt
          have hE := hE.below hbr
          obtain ⟨ao, cap, e, _, _, _⟩ := hE.open
          have c0 := (hbr.cell (lt_of_cell h0)).trans h0
          rw [e] at c0 hE
          clear e h0
          have hle := flat_len vs (k + 1)
          rw [HTOT.out, flat_succ vs k hlt, List.length_append] at hle
          have HE := Lib.hid hE; clear hE
          go_wp2_with (at_builtin; go_loud (refine wpList_append_row rfl _ _ 43 rfl w.heap.size 49 i _ 2 32 Try.underlying43 hi hz0 hz1 hz2 rfl (by decide) _ (flat vs k).length (ecs (flat vs k)) rfl HO.out (.slice ao vs[k].2.length cap) rfl vs[k].2.length (ecs vs[k].2) HE.out (ecs_one _) (by unfold maxLen; omega) (by omega) hbr.size ?_))
          intro v' w2 hown2 hg
          have hb2 : Below w.heap.size w w2 := hbr.grown hg hbr.size (fun g hg => (HO.out.lt g hg).1)
          rw [← ecs_append, ← List.length_append, ← flat_succ vs k hlt] at hown2
          have HO2 := Lib.hid hown2; clear hown2 hg
          go_wp2
          go_roundw
          case rel => exact ⟨k + 1, by omega, by go_num, HO2.out, hb2⟩
          case measure => simp [intOf]; omega
        · have hkk : k = vs.length := by omega
          have HK := Lib.hid hkk; clear hkk
          go_wp2
          go_ret
          exact ⟨_, rfl, by have := HO.out; rw [HK.out] at this; exact this, hbr⟩
end Go.Proofs.Ytifdglehfhoecaa.E
