/-
  Slices as rows of cells: entries (a key, a value), numbers, texts; a row that a call made itself. Conditions: none. No function of the program is named.
-/
import Derived.Test.YtifdglehfhoecaaBase
import Derived.OwnWalk
namespace Go.Proofs.Ytifdglehfhoecaa.B
open Go.RowKit
/-- a slice of n elements of so many cells each, and what its cells are -/
def Rw (w : World) (v : Value) (size : Nat) (cs : List Value) (n : Nat) : Prop :=
  ∃ ao cap, v = .slice ao n cap ∧ cs.length = n * size ∧ n ≤ cap ∧ cap ≤ maxLen ∧ ∀ j (h : j < cs.length), ∃ b o, ao = some ⟨b, o, none⟩ ∧ w.cell? ⟨b, o + j, none⟩ = some cs[j]
theorem Rw.below {w w' : World} {v : Value} {size n : Nat} {cs : List Value} (h : Rw w v size cs n) (hb : Below w.heap.size w w') : Rw w' v size cs n := by
  obtain ⟨ao, cap, rfl, h1, h2, h3, h⟩ := h
  exact ⟨ao, cap, rfl, h1, h2, h3, fun j hj => by
    obtain ⟨b, o, e, hc⟩ := h j hj
    exact ⟨b, o, e, bcell hb hc⟩⟩
theorem Rw.nil (w : World) (size : Nat) : Rw w (.slice none 0 0) size [] 0 := ⟨none, 0, rfl, by simp, Nat.le_refl _, by simp, fun j h => by simp at h⟩
/-- what the call made itself is such a row -/
theorem Rw.own {w : World} {base : Nat} {e : TypeId} {size : Nat} {v : Value} {n : Nat} {cs : List Value} (h : w.ownsRow base e size v n cs) : Rw w v size cs n := by
  have h' := h
  obtain ⟨hlen, ⟨rfl, rfl⟩ | ⟨g, cap, cur, rfl, hg, hh, hn, hcap, hcur, hx⟩⟩ := h
  · obtain rfl : cs = [] := List.eq_nil_of_length_eq_zero (by simpa using hlen)
    exact Rw.nil w size
  · refine ⟨_, cap, rfl, hlen, hn, hcap, fun j hj => ⟨g, 0, rfl, ?_⟩⟩
    have := h'.cells (g := g) rfl j cs[j] (by simp)
    rwa [add_lit] at this
/-- a key and a value -/
abbrev Ent := ByteArray × ByteArray
def ecs (l : List Ent) : List Value := l.flatMap fun e => [.string e.1, .string e.2]
@[simp] theorem ecs_nil : ecs [] = [] := rfl
theorem ecs_cons (e : Ent) (l : List Ent) : ecs (e :: l) = .string e.1 :: .string e.2 :: ecs l := rfl
theorem ecs_append (a b : List Ent) : ecs (a ++ b) = ecs a ++ ecs b := by simp [ecs]
theorem ecs_len (l : List Ent) : (ecs l).length = l.length * 2 := by
  induction l with
  | nil => rfl
  | cons e l ih => rw [ecs_cons, List.length_cons, List.length_cons, List.length_cons, ih]; omega
theorem ecs_get (l : List Ent) : ∀ j (h : j < l.length), (ecs l)[j * 2]? = some (.string l[j].1) ∧ (ecs l)[j * 2 + 1]? = some (.string l[j].2) := by
  induction l with
  | nil => intro j h; simp at h
  | cons e l ih =>
    intro j h
    rcases j with _ | j
    · exact ⟨rfl, rfl⟩
    · have := ih j (by simpa using h)
      rw [ecs_cons, show (j + 1) * 2 = j * 2 + 1 + 1 by omega]
      simpa using this
theorem ecs_take (l : List Ent) (k : Nat) : (ecs l).take (k * 2) = ecs (l.take k) := by
  induction l generalizing k with
  | nil => simp
  | cons e l ih =>
    rcases k with _ | k
    · simp
    · rw [ecs_cons, show (k + 1) * 2 = k * 2 + 1 + 1 by omega, List.take_succ_cons, List.take_succ_cons, ih, List.take_succ_cons, ecs_cons]
theorem ecs_drop (l : List Ent) (k : Nat) : (ecs l).drop (k * 2) = ecs (l.drop k) := by
  induction l generalizing k with
  | nil => simp
  | cons e l ih =>
    rcases k with _ | k
    · simp
    · rw [ecs_cons, show (k + 1) * 2 = k * 2 + 1 + 1 by omega, List.drop_succ_cons, List.drop_succ_cons, ih, List.drop_succ_cons]
theorem ecs_one (l : List Ent) : ∀ u ∈ ecs l, u.oneCell' = true := by
  intro u hu
  simp only [ecs, List.mem_flatMap, List.mem_cons, List.not_mem_nil, or_false] at hu
  obtain ⟨e, _, rfl | rfl⟩ := hu <;> rfl
/-- a slice of entries -/
def Ents (w : World) (v : Value) (l : List Ent) : Prop := Rw w v 2 (ecs l) l.length
theorem Ents.below {w w' : World} {v : Value} {l : List Ent} (h : Ents w v l) (hb : Below w.heap.size w w') : Ents w' v l := Rw.below h hb
theorem Ents.open {w : World} {v : Value} {l : List Ent} (h : Ents w v l) : ∃ ao cap, v = .slice ao l.length cap ∧ l.length ≤ cap ∧ cap ≤ maxLen ∧
    ∀ j (_h : j < l.length), ∃ b o, ao = some ⟨b, o, none⟩ ∧ w.cell? ⟨b, o + j * 2, none⟩ = some (.string l[j].1) ∧ w.cell? ⟨b, o + j * 2 + 1, none⟩ = some (.string l[j].2) := by
  obtain ⟨ao, cap, rfl, h1, h2, h3, h⟩ := h
  refine ⟨ao, cap, rfl, h2, h3, fun j hj => ?_⟩
  have hl := ecs_len l
  obtain ⟨e1, e2⟩ := ecs_get l j hj
  obtain ⟨b, o, e, hc⟩ := h (j * 2) (by omega)
  obtain ⟨b', o', e', hc'⟩ := h (j * 2 + 1) (by omega)
  rw [e] at e'
  obtain ⟨rfl, rfl⟩ : b = b' ∧ o = o' := by injection e' with e'; injection e' with a1 a2 a3; exact ⟨a1, a2⟩
  refine ⟨b, o, e, ?_, ?_⟩
  · rw [hc]; rw [List.getElem?_eq_getElem (by omega)] at e1; exact e1
  · rw [← Nat.add_assoc] at hc'
    rw [hc']; rw [List.getElem?_eq_getElem (by omega)] at e2; exact e2
theorem Ents.close {w : World} {ao : Option Addr} {cap : Nat} {l : List Ent} (h2 : l.length ≤ cap) (h3 : cap ≤ maxLen)
    (h : ∀ j (_h : j < l.length), ∃ b o, ao = some ⟨b, o, none⟩ ∧ w.cell? ⟨b, o + j * 2, none⟩ = some (.string l[j].1) ∧ w.cell? ⟨b, o + j * 2 + 1, none⟩ = some (.string l[j].2)) : Ents w (.slice ao l.length cap) l := by
  refine ⟨ao, cap, rfl, ecs_len l, h2, h3, fun j hj => ?_⟩
  have hl := ecs_len l
  have hj2 : j / 2 < l.length := by omega
  obtain ⟨b, o, e, c0, c1⟩ := h (j / 2) hj2
  obtain ⟨e1, e2⟩ := ecs_get l (j / 2) hj2
  refine ⟨b, o, e, ?_⟩
  rcases Nat.mod_two_eq_zero_or_one j with hm | hm
  · have hjj : j / 2 * 2 = j := by omega
    rw [hjj] at c0 e1
    rw [c0]; rw [List.getElem?_eq_getElem hj] at e1; exact e1.symm
  · have hjj : j / 2 * 2 + 1 = j := by omega
    rw [Nat.add_assoc, hjj] at c1
    rw [hjj] at e2
    rw [c1]; rw [List.getElem?_eq_getElem hj] at e2; exact e2.symm
/-- the first k entries, and the others, of such a slice -/
theorem Rw.take {w : World} {ao : Option Addr} {n cap size : Nat} {cs : List Value} (h : Rw w (.slice ao n cap) size cs n) (k cap' : Nat) (hk : k ≤ n) (hc : k ≤ cap') (hm : cap' ≤ maxLen) : Rw w (.slice ao k cap') size (cs.take (k * size)) k := by
  obtain ⟨ao', c', e, h1, h2, h3, h⟩ := h
  obtain ⟨rfl, rfl⟩ : ao = ao' ∧ cap = c' := by injection e with a1 a2 a3; exact ⟨a1, a3⟩
  have hks : k * size ≤ n * size := Nat.mul_le_mul_right _ hk
  refine ⟨ao, cap', rfl, by rw [List.length_take, h1]; omega, hc, hm, fun j hj => ?_⟩
  rw [List.length_take] at hj
  obtain ⟨b, o, e, hc⟩ := h j (by omega)
  exact ⟨b, o, e, by rw [hc]; simp⟩
theorem Rw.drop {w : World} {b o : Nat} {n cap size : Nat} {cs : List Value} (h : Rw w (.slice (some ⟨b, o, none⟩) n cap) size cs n) (k cap' : Nat) (hk : k ≤ n) (hc : n - k ≤ cap') (hm : cap' ≤ maxLen) :
    Rw w (.slice (some ⟨b, o + k * size, none⟩) (n - k) cap') size (cs.drop (k * size)) (n - k) := by
  obtain ⟨ao', c', e, h1, h2, h3, h⟩ := h
  obtain ⟨rfl, rfl⟩ : some (⟨b, o, none⟩ : Addr) = ao' ∧ cap = c' := by injection e with a1 a2 a3; exact ⟨a1, a3⟩
  have hks : k * size ≤ n * size := Nat.mul_le_mul_right _ hk
  refine ⟨_, cap', rfl, by rw [List.length_drop, h1, Nat.sub_mul], hc, hm, fun j hj => ?_⟩
  rw [List.length_drop] at hj
  obtain ⟨b', o', e, hc⟩ := h (k * size + j) (by omega)
  obtain ⟨rfl, rfl⟩ : b = b' ∧ o = o' := by injection e with e; injection e with a1 a2 a3; exact ⟨a1, a2⟩
  exact ⟨b, o + k * size, rfl, by rw [Nat.add_assoc, hc]; simp⟩
end Go.Proofs.Ytifdglehfhoecaa.B
