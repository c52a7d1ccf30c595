/-
  The document's list with a key. Conditions: below 2^29 entries.
-/
import Derived.Test.YtifdglehfhoecaaERefPut
namespace Go.Proofs.Ytifdglehfhoecaa.E
open Go.RowKit B
theorem ins_yes {k v : ByteArray} (x : Ent) : ∀ {a : List Ent}, (∃ e ∈ a, M.klt k e.1) → M.insert k v (a ++ [x]) = M.insert k v a ++ [x]
  | [], h => by obtain ⟨_, he, _⟩ := h; simp at he
  | e :: a, h => by
    rw [List.cons_append, M.insert, M.insert]
    by_cases hk : M.klt k e.1
    · rw [if_pos hk, if_pos hk]; rfl
    · rw [if_neg hk, if_neg hk, ins_yes x (a := a) (by
        obtain ⟨y, hy, hky⟩ := h
        rcases List.mem_cons.1 hy with rfl | hy
        · exact absurd hky hk
        · exact ⟨y, hy, hky⟩)]
      rfl
theorem ins_none {k v : ByteArray} : ∀ {a : List Ent}, (∀ e ∈ a, ¬ M.klt k e.1) → M.insert k v a = a ++ [(k, v)]
  | [], _ => rfl
  | e :: a, h => by
    rw [M.insert, if_neg (h e (by simp)), ins_none fun x hx => h x (by simp [hx])]; rfl
theorem ins_first {k v : ByteArray} {x : Ent} (hx : M.klt k x.1) : ∀ {a : List Ent}, (∀ e ∈ a, ¬ M.klt k e.1) → M.insert k v (a ++ [x]) = (a ++ [(k, v)]) ++ [x]
  | [], _ => by rw [List.nil_append, M.insert, if_pos hx]; rfl
  | e :: a, h => by
    rw [List.cons_append, M.insert, if_neg (h e (by simp)), ins_first hx fun y hy => h y (by simp [hy])]; rfl
/-- what is in the new list behind so many rounds -/
def St (k v : ByteArray) (a : List Ent) (done : Bool) (acc : List Ent) : Prop := (done = false → acc = a ∧ ∀ e ∈ a, ¬ M.klt k e.1) ∧ (done = true → acc = M.insert k v a ∧ ∃ e ∈ a, M.klt k e.1)
theorem st_end {k v : ByteArray} {a acc : List Ent} (h : St k v a false acc) : acc ++ [(k, v)] = M.insert k v a := by
  obtain ⟨rfl, h2⟩ := h.1 rfl
  exact (ins_none h2).symm
theorem st_end' {k v : ByteArray} {a acc : List Ent} (h : St k v a true acc) : acc = M.insert k v a := (h.2 rfl).1
theorem st_more {k v : ByteArray} {a acc : List Ent} (x : Ent) (h : St k v a true acc) : St k v (a ++ [x]) true (acc ++ [x]) := by
  obtain ⟨h1, h2⟩ := h.2 rfl
  refine ⟨fun h => Bool.noConfusion h, fun _ => ⟨by rw [h1, ins_yes x h2], ?_⟩⟩
  obtain ⟨e, he, hk⟩ := h2
  exact ⟨e, by simp [he], hk⟩
theorem st_past {k v : ByteArray} {a acc : List Ent} {x : Ent} (h : St k v a false acc) (hx : ¬ M.klt k x.1) : St k v (a ++ [x]) false (acc ++ [x]) := by
  obtain ⟨h1, h2⟩ := h.1 rfl
  refine ⟨fun _ => ⟨by rw [h1], fun e he => ?_⟩, fun h => Bool.noConfusion h⟩
  rcases List.mem_append.1 he with he | he
  · exact h2 e he
  · rw [List.mem_singleton.1 he]; exact hx
theorem st_here {k v : ByteArray} {a acc : List Ent} {x : Ent} (h : St k v a false acc) (hx : M.klt k x.1) : St k v (a ++ [x]) true ((acc ++ [(k, v)]) ++ [x]) := by
  obtain ⟨h1, h2⟩ := h.1 rfl
  exact ⟨fun h => Bool.noConfusion h, fun _ => ⟨by rw [h1, ins_first hx h2], x, by simp, hx⟩⟩
set_option maxRecDepth 100000 in
set_option maxHeartbeats 2000000 in
theorem rput_any (v : Value) (l : List Ent) (key val : ByteArray) (w : World) (hv : Ents w v l) (hlen : l.length ≤ 500000000) :
    Calls Try.prog 45 #[v, .string key, .string val] w (Mk (M.insert key val (M.del l key)) w) := by
  obtain ⟨i0, hi, hz0, hz1, hz2⟩ := info_parts info49
  have HV := Lib.hid hv; clear hv
  have hml : (M.del l key).length ≤ l.length := List.length_filter_le _ _
  obtain ⟨m, hm⟩ : ∃ m, M.del l key = m := ⟨_, rfl⟩
  have HM := Lib.hid hm
  rw [hm] at hml ⊢
  clear hm
  go_enter Try.func45, Try.ntmps45
  go_wp2_with fail
  refine (rdel_any _ l key _ HV.out (by omega)).mono ?_
  rintro r w1 ⟨u, rfl, hE, hb1⟩
  rw [HM.out] at hE
  obtain ⟨ao, cap, rfl, _, _, hc⟩ := hE.open
  have HC := Lib.hid hc; clear hc hE
  go_wp2
  go_loopw [8, 9, 10] (fun x dn i wr => ∃ (k : Nat) (done : Bool) (acc : List Ent), k ≤ m.length ∧ i = .int .i64 k ∧ dn = .bool done ∧ wr.ownsRow w1.heap.size 49 2 x acc.length (ecs acc) ∧ acc.length ≤ k + 1 ∧ St key val (m.take k) done acc ∧ Below w1.heap.size w1 wr) (fun _ _ i _ => m.length - (intOf i).toNat)
  case atStart => exact ⟨0, false, [], Nat.zero_le _, rfl, rfl, World.ownsRow_nil _ _ _ _, Nat.zero_le _, ⟨fun _ => ⟨rfl, fun e he => by simp at he⟩, fun h => Bool.noConfusion h⟩, Below.refl _ _⟩
  case round =>
    obtain ⟨k, done, acc, hk, rfl, rfl, hown, hal, hst, hbr⟩ := hrel
    have HO := Lib.hid hown; have HST := Lib.hid hst
    have hb : Below w.heap.size w wr := hb1.trans (hbr.mono hb1.size)
    clear hown hst
    by_cases hlt : k < m.length
    · obtain ⟨b, o, rfl, hk0, hv0⟩ := HC.out k hlt
      have hk0' := hk0; have hv0' := hv0
      have c0 := (hbr.cell (lt_of_cell hk0)).trans hk0
      have c1 := (hbr.cell (lt_of_cell hv0)).trans hv0
      have HT := Lib.hid (show m.take (k + 1) = m.take k ++ [m[k]] from List.take_succ_eq_append_getElem hlt)
      rcases done with _ | _
      · by_cases hkl : M.klt key m[k].1
        · have HN := Lib.hid (st_here (x := m[k]) HST.out hkl)
          have hal2 : acc.length ≤ k := by rw [(HST.out.1 rfl).1]; exact List.length_take_le _ _
          have q1 : Op.bytesLess m[k].1.toList key.toList = false := by rw [toL, toL]; have := M.klt_asymm hkl; unfold M.klt at this; simpa using this
          have q2 := str_ne (M.klt_ne hkl).symm
          have HK0 := Lib.hid hk0'; have HV0 := Lib.hid hv0'
          clear hk0 hv0 hk0' hv0'
          go_wp2_with (at_builtin; go_loud (refine wpList_append_row rfl _ _ 43 rfl w1.heap.size 49 i0 _ 2 32 Try.underlying43 hi hz0 hz1 hz2 rfl (by decide) _ (acc).length (ecs (acc)) rfl (HO.out.alloc _) (.slice (some ⟨wr.heap.size, 0, none⟩) 1 1) rfl 1 (ecs [((key, val) : Ent)]) (new_one wr ((key, val) : Ent) 49) (ecs_one _) (by unfold maxLen; (try simp); omega) (by (try simp); omega) (by have := hbr.size; simp; omega) ?_))
          intro v3 w3 hown3 hg3
          have hb3 : Below w1.heap.size w1 w3 := (hbr.alloc hbr.size _).grown hg3 (by have := hbr.size; simp; omega) (fun g hg => (HO.out.lt g hg).1)
          rw [← ecs_append] at hown3
          have HO3 := Lib.hid (show w3.ownsRow w1.heap.size 49 2 v3 (acc ++ [((key, val) : Ent)]).length (ecs (acc ++ [((key, val) : Ent)])) by first | (rw [List.length_append]; exact hown3) | (simp only [List.length_append]; exact hown3)); clear hown3 hg3
          have c0 := (hb3.cell (lt_of_cell HK0.out)).trans HK0.out
          have c1 := (hb3.cell (lt_of_cell HV0.out)).trans HV0.out
          go_wp2_with (at_builtin; go_loud (refine wpList_append_row rfl _ _ 43 rfl w1.heap.size 49 i0 _ 2 32 Try.underlying43 hi hz0 hz1 hz2 rfl (by decide) _ (acc ++ [((key, val) : Ent)]).length (ecs (acc ++ [((key, val) : Ent)])) rfl (HO3.out.alloc _) (.slice (some ⟨w3.heap.size, 0, none⟩) 1 1) rfl 1 (ecs [m[k]]) (new_one w3 m[k] 49) (ecs_one _) (by unfold maxLen; (try simp); omega) (by (try simp); omega) (by have := hb3.size; simp; omega) ?_))
          intro v4 w4 hown4 hg4
          have hb4 : Below w1.heap.size w1 w4 := (hb3.alloc hb3.size _).grown hg4 (by have := hb3.size; simp; omega) (fun g hg => (HO3.out.lt g hg).1)
          rw [← ecs_append] at hown4
          have HO4 := Lib.hid (show w4.ownsRow w1.heap.size 49 2 v4 (acc ++ [((key, val) : Ent)] ++ [m[k]]).length (ecs (acc ++ [((key, val) : Ent)] ++ [m[k]])) by first | (rw [List.length_append]; exact hown4) | (simp only [List.length_append]; exact hown4)); clear hown4 hg4
          go_wp2
          go_roundw
          case rel => exact ⟨k + 1, true, (acc ++ [((key, val) : Ent)]) ++ [m[k]], by omega, by go_num, rfl, HO4.out, by simp; omega, by rw [HT.out]; exact HN.out, hb4⟩
          case measure => simp [intOf]; omega
        · have HN := Lib.hid (st_past (x := m[k]) HST.out hkl)
          clear hk0 hv0 hk0' hv0'
          by_cases hke : m[k].1 = key
          · have q1 : Op.bytesLess m[k].1.toList key.toList = false := by rw [toL, toL, hke]; exact M.less_irrefl _
            have q2 := str_eq hke
            clear hkl hke
            go_wp2_with (at_builtin; go_loud (refine wpList_append_row rfl _ _ 43 rfl w1.heap.size 49 i0 _ 2 32 Try.underlying43 hi hz0 hz1 hz2 rfl (by decide) _ (acc).length (ecs (acc)) rfl (HO.out.alloc _) (.slice (some ⟨wr.heap.size, 0, none⟩) 1 1) rfl 1 (ecs [m[k]]) (new_one wr m[k] 49) (ecs_one _) (by unfold maxLen; (try simp); omega) (by (try simp); omega) (by have := hbr.size; simp; omega) ?_))
            intro v3 w3 hown3 hg3
            have hb3 : Below w1.heap.size w1 w3 := (hbr.alloc hbr.size _).grown hg3 (by have := hbr.size; simp; omega) (fun g hg => (HO.out.lt g hg).1)
            rw [← ecs_append] at hown3
            have HO3 := Lib.hid (show w3.ownsRow w1.heap.size 49 2 v3 (acc ++ [m[k]]).length (ecs (acc ++ [m[k]])) by first | (rw [List.length_append]; exact hown3) | (simp only [List.length_append]; exact hown3)); clear hown3 hg3
            go_wp2
            go_roundw
            case rel => exact ⟨k + 1, false, acc ++ [m[k]], by omega, by go_num, rfl, HO3.out, by simp; omega, by rw [HT.out]; exact HN.out, hb3⟩
            case measure => simp [intOf]; omega
          · have q1 : Op.bytesLess m[k].1.toList key.toList = true := by rw [toL, toL]; exact M.klt_of_not hkl (Ne.symm hke)
            clear hkl hke
            go_wp2_with (at_builtin; go_loud (refine wpList_append_row rfl _ _ 43 rfl w1.heap.size 49 i0 _ 2 32 Try.underlying43 hi hz0 hz1 hz2 rfl (by decide) _ (acc).length (ecs (acc)) rfl (HO.out.alloc _) (.slice (some ⟨wr.heap.size, 0, none⟩) 1 1) rfl 1 (ecs [m[k]]) (new_one wr m[k] 49) (ecs_one _) (by unfold maxLen; (try simp); omega) (by (try simp); omega) (by have := hbr.size; simp; omega) ?_))
            intro v3 w3 hown3 hg3
            have hb3 : Below w1.heap.size w1 w3 := (hbr.alloc hbr.size _).grown hg3 (by have := hbr.size; simp; omega) (fun g hg => (HO.out.lt g hg).1)
            rw [← ecs_append] at hown3
            have HO3 := Lib.hid (show w3.ownsRow w1.heap.size 49 2 v3 (acc ++ [m[k]]).length (ecs (acc ++ [m[k]])) by first | (rw [List.length_append]; exact hown3) | (simp only [List.length_append]; exact hown3)); clear hown3 hg3
            go_wp2
            go_roundw
            case rel => exact ⟨k + 1, false, acc ++ [m[k]], by omega, by go_num, rfl, HO3.out, by simp; omega, by rw [HT.out]; exact HN.out, hb3⟩
            case measure => simp [intOf]; omega
      · have HN := Lib.hid (st_more m[k] HST.out)
        clear hk0 hv0 hk0' hv0'
        go_wp2_with (at_builtin; go_loud (refine wpList_append_row rfl _ _ 43 rfl w1.heap.size 49 i0 _ 2 32 Try.underlying43 hi hz0 hz1 hz2 rfl (by decide) _ (acc).length (ecs (acc)) rfl (HO.out.alloc _) (.slice (some ⟨wr.heap.size, 0, none⟩) 1 1) rfl 1 (ecs [m[k]]) (new_one wr m[k] 49) (ecs_one _) (by unfold maxLen; (try simp); omega) (by (try simp); omega) (by have := hbr.size; simp; omega) ?_))
        intro v3 w3 hown3 hg3
        have hb3 : Below w1.heap.size w1 w3 := (hbr.alloc hbr.size _).grown hg3 (by have := hbr.size; simp; omega) (fun g hg => (HO.out.lt g hg).1)
        rw [← ecs_append] at hown3
        have HO3 := Lib.hid (show w3.ownsRow w1.heap.size 49 2 v3 (acc ++ [m[k]]).length (ecs (acc ++ [m[k]])) by first | (rw [List.length_append]; exact hown3) | (simp only [List.length_append]; exact hown3)); clear hown3 hg3
        go_wp2
        go_roundw
        case rel => exact ⟨k + 1, true, acc ++ [m[k]], by omega, by go_num, rfl, HO3.out, by simp; omega, by rw [HT.out]; exact HN.out, hb3⟩
        case measure => simp [intOf]; omega
    · have hkk : k = m.length := by omega
      have htk : m.take k = m := by rw [hkk, List.take_length]
      rw [htk] at HST
      have HK := Lib.hid hkk; clear hkk htk
      rcases done with _ | _
      · have HN := Lib.hid (st_end HST.out)
        go_wp2_with (at_builtin; go_loud (refine wpList_append_row rfl _ _ 43 rfl w1.heap.size 49 i0 _ 2 32 Try.underlying43 hi hz0 hz1 hz2 rfl (by decide) _ (acc).length (ecs (acc)) rfl (HO.out.alloc _) (.slice (some ⟨wr.heap.size, 0, none⟩) 1 1) rfl 1 (ecs [((key, val) : Ent)]) (new_one wr ((key, val) : Ent) 49) (ecs_one _) (by unfold maxLen; (try simp); omega) (by (try simp); omega) (by have := hbr.size; simp; omega) ?_))
        intro v3 w3 hown3 hg3
        have hb3 : Below w1.heap.size w1 w3 := (hbr.alloc hbr.size _).grown hg3 (by have := hbr.size; simp; omega) (fun g hg => (HO.out.lt g hg).1)
        rw [← ecs_append] at hown3
        have HO3 := Lib.hid (show w3.ownsRow w1.heap.size 49 2 v3 (acc ++ [((key, val) : Ent)]).length (ecs (acc ++ [((key, val) : Ent)])) by first | (rw [List.length_append]; exact hown3) | (simp only [List.length_append]; exact hown3)); clear hown3 hg3
        have HF := Lib.hid (show Ents w3 v3 (M.insert key val m) by rw [← HN.out]; exact Rw.own HO3.out)
        have hb4 := hb1.trans (hb3.mono hb1.size)
        go_wp2
        go_ret
        exact ⟨_, rfl, HF.out, hb4⟩
      · have HF := Lib.hid (show Ents wr _ (M.insert key val m) by rw [← st_end' HST.out]; exact Rw.own HO.out)
        go_wp2
        go_ret
        exact ⟨_, rfl, HF.out, hb⟩
end Go.Proofs.Ytifdglehfhoecaa.E
