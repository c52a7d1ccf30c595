/-
  What putting and deleting does to what is got. Conditions: none. No program in sight.
-/
import Derived.Test.YtifdglehfhoecaaEDel
import Derived.Test.YtifdglehfhoecaaERight
namespace Go.Proofs.Ytifdglehfhoecaa.E
open Go.RowKit B
theorem getl_iff {l : List Ent} (ho : M.Ok l) (k v : ByteArray) : getl l k = some v ↔ (k, v) ∈ l := by
  constructor
  · intro h
    unfold getl at h
    rw [if_pos ho, Option.map_eq_some_iff] at h
    obtain ⟨e, he, rfl⟩ := h
    have h1 := List.mem_of_find?_eq_some he
    have h2 := List.find?_some he
    have h3 : e.1 = k := by simpa using h2
    rw [← h3]; exact h1
  · intro h
    obtain ⟨i, hi, e⟩ := List.getElem_of_mem h
    have := getl_yes ho hi
    rw [e] at this
    exact this
theorem ok_putl {l : List Ent} {k v : ByteArray} (ho : M.Ok l) : M.Ok (putl l k v) := by
  by_cases hm : M.may k v
  · obtain ⟨i, hi⟩ := M.low_ex l k ho.2
    rw [putl_eq hi ho hm]
    exact M.ok_put hi ho hm
  · rw [putl_no fun h => hm h.2]; exact ho
theorem mem_putl {l : List Ent} {k v : ByteArray} (ho : M.Ok l) (hm : M.may k v) (e : Ent) : e ∈ putl l k v ↔ e = (k, v) ∨ (e ∈ l ∧ e.1 ≠ k) := by
  unfold putl
  rw [if_pos ⟨ho, hm⟩, M.mem_insert, M.mem_del]
theorem ok_dell {l : List Ent} {k : ByteArray} (ho : M.Ok l) : M.Ok (dell l k) := by
  unfold dell; rw [if_pos ho]; exact M.ok_del ho
theorem mem_dell {l : List Ent} {k : ByteArray} (ho : M.Ok l) (e : Ent) : e ∈ dell l k ↔ e ∈ l ∧ e.1 ≠ k := by
  unfold dell; rw [if_pos ho, M.mem_del]
theorem got_new {l : List Ent} {k v : ByteArray} (ho : M.Ok l) (hm : M.may k v) : getl (putl l k v) k = some v := by
  rw [getl_iff (ok_putl ho), mem_putl ho hm]; exact .inl rfl
theorem got_other {l : List Ent} {k v o : ByteArray} (ho : M.Ok l) (hm : M.may k v) (hn : o ≠ k) : getl (putl l k v) o = getl l o := by
  apply Option.ext
  intro x
  rw [getl_iff (ok_putl ho), getl_iff ho, mem_putl ho hm]
  constructor
  · rintro (h | h)
    · exact absurd (congrArg Prod.fst h) hn
    · exact h.1
  · intro h
    exact .inr ⟨h, hn⟩
theorem got_gone {l : List Ent} {k : ByteArray} (ho : M.Ok l) : getl (dell l k) k = none := by
  rw [Option.eq_none_iff_forall_ne_some]
  intro x h
  rw [getl_iff (ok_dell ho), mem_dell ho] at h
  exact h.2 rfl
theorem got_kept {l : List Ent} {k o : ByteArray} (ho : M.Ok l) (hn : o ≠ k) : getl (dell l k) o = getl l o := by
  apply Option.ext
  intro x
  rw [getl_iff (ok_dell ho), getl_iff ho, mem_dell ho]
  exact ⟨fun h => h.1, fun h => ⟨h, hn⟩⟩
theorem len_putl (l : List Ent) (k v : ByteArray) : (putl l k v).length ≤ l.length + 1 := by
  unfold putl
  split
  · have h1 : ∀ m : List Ent, (M.insert k v m).length = m.length + 1 := fun m => by
      induction m with
      | nil => rfl
      | cons e m ih =>
        unfold M.insert
        split
        · rfl
        · rw [List.length_cons, ih, List.length_cons]
    rw [h1]
    have : (M.del l k).length ≤ l.length := List.length_filter_le _ _
    omega
  · omega
theorem len_dell (l : List Ent) (k : ByteArray) : (dell l k).length ≤ l.length := by
  unfold dell
  split
  · exact List.length_filter_le _ _
  · omega
end Go.Proofs.Ytifdglehfhoecaa.E
