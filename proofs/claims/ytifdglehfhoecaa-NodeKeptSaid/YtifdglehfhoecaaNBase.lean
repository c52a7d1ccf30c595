/-
  Slices of numbers and of texts, nodes as values. Conditions: none. No function of the program is named.
-/
import Derived.Test.YtifdglehfhoecaaEAppend
import Derived.Test.YtifdglehfhoecaaNMath
namespace Go.Proofs.Ytifdglehfhoecaa.B
open Go.RowKit
def ics (l : List Int) : List Value := l.map (Value.int .i64 ·)
def tcs (l : List ByteArray) : List Value := l.map (Value.string ·)
theorem ics_len (l : List Int) : (ics l).length = l.length := by simp [ics]
theorem tcs_len (l : List ByteArray) : (tcs l).length = l.length := by simp [tcs]
theorem ics_append (a b : List Int) : ics (a ++ b) = ics a ++ ics b := by simp [ics]
theorem tcs_append (a b : List ByteArray) : tcs (a ++ b) = tcs a ++ tcs b := by simp [tcs]
theorem ics_one (l : List Int) : ∀ u ∈ ics l, u.oneCell' = true := by
  intro u hu
  simp only [ics, List.mem_map] at hu
  obtain ⟨e, _, rfl⟩ := hu; rfl
theorem tcs_one (l : List ByteArray) : ∀ u ∈ tcs l, u.oneCell' = true := by
  intro u hu
  simp only [tcs, List.mem_map] at hu
  obtain ⟨e, _, rfl⟩ := hu; rfl
/-- a slice of numbers, of texts -/
def Ints (w : World) (v : Value) (l : List Int) : Prop := Rw w v 1 (ics l) l.length
def Txts (w : World) (v : Value) (l : List ByteArray) : Prop := Rw w v 1 (tcs l) l.length
theorem Ints.below {w w' : World} {v : Value} {l : List Int} (h : Ints w v l) (hb : Below w.heap.size w w') : Ints w' v l := Rw.below h hb
theorem Txts.below {w w' : World} {v : Value} {l : List ByteArray} (h : Txts w v l) (hb : Below w.heap.size w w') : Txts w' v l := Rw.below h hb
theorem Ints.open {w : World} {v : Value} {l : List Int} (h : Ints w v l) : ∃ ao cap, v = .slice ao l.length cap ∧ l.length ≤ cap ∧ cap ≤ maxLen ∧
    ∀ j (_h : j < l.length), ∃ b o, ao = some ⟨b, o, none⟩ ∧ w.cell? ⟨b, o + j, none⟩ = some (.int .i64 l[j]) := by
  obtain ⟨ao, cap, rfl, h1, h2, h3, h⟩ := h
  refine ⟨ao, cap, rfl, h2, h3, fun j hj => ?_⟩
  obtain ⟨b, o, e, hc⟩ := h j (by rw [ics_len]; exact hj)
  exact ⟨b, o, e, by rw [hc]; simp [ics]⟩
theorem Txts.open {w : World} {v : Value} {l : List ByteArray} (h : Txts w v l) : ∃ ao cap, v = .slice ao l.length cap ∧ l.length ≤ cap ∧ cap ≤ maxLen ∧
    ∀ j (_h : j < l.length), ∃ b o, ao = some ⟨b, o, none⟩ ∧ w.cell? ⟨b, o + j, none⟩ = some (.string l[j]) := by
  obtain ⟨ao, cap, rfl, h1, h2, h3, h⟩ := h
  refine ⟨ao, cap, rfl, h2, h3, fun j hj => ?_⟩
  obtain ⟨b, o, e, hc⟩ := h j (by rw [tcs_len]; exact hj)
  exact ⟨b, o, e, by rw [hc]; simp [tcs]⟩
theorem Ints.close {w : World} {ao : Option Addr} {cap : Nat} {l : List Int} (h2 : l.length ≤ cap) (h3 : cap ≤ maxLen)
    (h : ∀ j (_h : j < l.length), ∃ b o, ao = some ⟨b, o, none⟩ ∧ w.cell? ⟨b, o + j, none⟩ = some (.int .i64 l[j])) : Ints w (.slice ao l.length cap) l := by
  refine ⟨ao, cap, rfl, by rw [ics_len]; omega, h2, h3, fun j hj => ?_⟩
  rw [ics_len] at hj
  obtain ⟨b, o, e, hc⟩ := h j hj
  exact ⟨b, o, e, by rw [hc]; simp [ics]⟩
theorem Txts.close {w : World} {ao : Option Addr} {cap : Nat} {l : List ByteArray} (h2 : l.length ≤ cap) (h3 : cap ≤ maxLen)
    (h : ∀ j (_h : j < l.length), ∃ b o, ao = some ⟨b, o, none⟩ ∧ w.cell? ⟨b, o + j, none⟩ = some (.string l[j])) : Txts w (.slice ao l.length cap) l := by
  refine ⟨ao, cap, rfl, by rw [tcs_len]; omega, h2, h3, fun j hj => ?_⟩
  rw [tcs_len] at hj
  obtain ⟨b, o, e, hc⟩ := h j hj
  exact ⟨b, o, e, by rw [hc]; simp [tcs]⟩
theorem ints_len {w : World} {v : Value} {l : List Int} (h : Ints w v l) : l.length ≤ 9223372036854775807 := by
  obtain ⟨_, cap, _, h1, h2, _⟩ := h.open
  have e : maxLen = 9223372036854775807 := by decide
  omega
theorem txts_len {w : World} {v : Value} {l : List ByteArray} (h : Txts w v l) : l.length ≤ 9223372036854775807 := by
  obtain ⟨_, cap, _, h1, h2, _⟩ := h.open
  have e : maxLen = 9223372036854775807 := by decide
  omega
theorem Ents.at {w : World} {ao : Option Addr} {n cap : Nat} {l : List Ent} (h : Ents w (.slice ao n cap) l) : n = l.length ∧ n ≤ cap ∧ cap ≤ maxLen ∧
    ∀ j (_h : j < l.length), ∃ b o, ao = some ⟨b, o, none⟩ ∧ w.cell? ⟨b, o + j * 2, none⟩ = some (.string l[j].1) ∧ w.cell? ⟨b, o + j * 2 + 1, none⟩ = some (.string l[j].2) := by
  obtain ⟨a, c, e, h1, h2, h3⟩ := h.open
  injection e with e1 e2 e3
  subst e1 e2 e3
  exact ⟨rfl, h1, h2, h3⟩
theorem Ints.at {w : World} {ao : Option Addr} {n cap : Nat} {l : List Int} (h : Ints w (.slice ao n cap) l) : n = l.length ∧ n ≤ cap ∧ cap ≤ maxLen ∧
    ∀ j (_h : j < l.length), ∃ b o, ao = some ⟨b, o, none⟩ ∧ w.cell? ⟨b, o + j, none⟩ = some (.int .i64 l[j]) := by
  obtain ⟨a, c, e, h1, h2, h3⟩ := h.open
  injection e with e1 e2 e3
  subst e1 e2 e3
  exact ⟨rfl, h1, h2, h3⟩
theorem Txts.at {w : World} {ao : Option Addr} {n cap : Nat} {l : List ByteArray} (h : Txts w (.slice ao n cap) l) : n = l.length ∧ n ≤ cap ∧ cap ≤ maxLen ∧
    ∀ j (_h : j < l.length), ∃ b o, ao = some ⟨b, o, none⟩ ∧ w.cell? ⟨b, o + j, none⟩ = some (.string l[j]) := by
  obtain ⟨a, c, e, h1, h2, h3⟩ := h.open
  injection e with e1 e2 e3
  subst e1 e2 e3
  exact ⟨rfl, h1, h2, h3⟩
/-- bounds that every node here keeps -/
def Bd (n : M.Nd) : Prop := n.es.length ≤ 10000 ∧ n.ks.length ≤ 10000 ∧ n.ss.length ≤ 10000 ∧ M.sz n.es ≤ 1000000000 ∧ M.szs n.ss ≤ 1000000000
/-- a node as a value -/
def NdV (w : World) (v : Value) (n : M.Nd) : Prop := ∃ e0 ec k0 kc s0 sc, v = .agg #[.bool n.leaf, .slice e0 n.es.length ec, .slice k0 n.ks.length kc, .slice s0 n.ss.length sc] ∧ Ents w (.slice e0 n.es.length ec) n.es ∧ Ints w (.slice k0 n.ks.length kc) n.ks ∧ Txts w (.slice s0 n.ss.length sc) n.ss
theorem NdV.below {w w' : World} {v : Value} {n : M.Nd} (h : NdV w v n) (hb : Below w.heap.size w w') : NdV w' v n := by
  obtain ⟨a0, a1, b0, b1, c0, c1, e, h1, h2, h3⟩ := h
  exact ⟨a0, a1, b0, b1, c0, c1, e, h1.below hb, h2.below hb, h3.below hb⟩
theorem own_slice {w : World} {base : Nat} {e : TypeId} {size n : Nat} {v : Value} {cs : List Value} (h : w.ownsRow base e size v n cs) : ∃ ao cap, v = .slice ao n cap := by
  obtain ⟨_, ⟨rfl, rfl⟩ | ⟨g, cap, cur, rfl, _⟩⟩ := h
  · exact ⟨none, 0, rfl⟩
  · exact ⟨_, _, rfl⟩
/-- a slice whose cells are these -/
def Cl (w : World) (v : Value) (cs : List Value) : Prop := ∃ g, v = .slice (some ⟨g, 0, none⟩) cs.length cs.length ∧ ∀ j (h : j < cs.length), w.cell? ⟨g, j, none⟩ = some cs[j]
theorem Cl.below {w w' : World} {v : Value} {cs : List Value} (h : Cl w v cs) (hb : Below w.heap.size w w') : Cl w' v cs := by
  obtain ⟨g, e, h⟩ := h
  exact ⟨g, e, fun j hj => bcell hb (h j hj)⟩
theorem Cl.new (w : World) (cs : List Value) (t : TypeId) (m : Nat) (h : cs.length = m) : Cl (w.alloc (.cells cs.toArray t)) (.slice (some ⟨w.heap.size, 0, none⟩) m m) cs := by
  subst h
  exact ⟨w.heap.size, rfl, fun j hj => by rw [World.cell?_alloc_mark]; simp [hj]⟩
/-- a box with a node's fields -/
def Bx (w : World) (g : Nat) (l : Bool) (a b c : Value) : Prop := w.cell? ⟨g, 0, none⟩ = some (.bool l) ∧ w.cell? ⟨g, 1, none⟩ = some a ∧ w.cell? ⟨g, 2, none⟩ = some b ∧ w.cell? ⟨g, 3, none⟩ = some c
theorem Bx.below {w w' : World} {g : Nat} {l : Bool} {a b c : Value} (h : Bx w g l a b c) (hb : Below w.heap.size w w') : Bx w' g l a b c := ⟨bcell hb h.1, bcell hb h.2.1, bcell hb h.2.2.1, bcell hb h.2.2.2⟩
theorem Bx.new (w : World) (l : Bool) (a b c : Value) (t : TypeId) : Bx (w.alloc (.cells #[.bool l, a, b, c] t)) w.heap.size l a b c := by
  refine ⟨?_, ?_, ?_, ?_⟩ <;> (rw [World.cell?_alloc_mark]; rfl)
theorem new_int (w : World) (x : Int) (t : TypeId) : Ints (w.alloc (.cells #[.int .i64 x] t)) (.slice (some ⟨w.heap.size, 0, none⟩) 1 1) [x] :=
  Ints.close (l := [x]) (Nat.le_refl _) (by unfold maxLen; omega) fun j hj => ⟨w.heap.size, 0, rfl, by
    obtain rfl : j = 0 := by simp at hj; omega
    rw [World.cell?_alloc_mark]; rfl⟩
theorem new_int2 (w : World) (x y : Int) (t : TypeId) : Ints (w.alloc (.cells #[.int .i64 x, .int .i64 y] t)) (.slice (some ⟨w.heap.size, 0, none⟩) 2 2) [x, y] :=
  Ints.close (l := [x, y]) (Nat.le_refl _) (by unfold maxLen; omega) fun j hj => ⟨w.heap.size, 0, rfl, by
    match j, hj with
    | 0, _ => rw [World.cell?_alloc_mark]; rfl
    | 1, _ => rw [World.cell?_alloc_mark]; rfl⟩
theorem new_txt (w : World) (x : ByteArray) (t : TypeId) : Txts (w.alloc (.cells #[.string x] t)) (.slice (some ⟨w.heap.size, 0, none⟩) 1 1) [x] :=
  Txts.close (l := [x]) (Nat.le_refl _) (by unfold maxLen; omega) fun j hj => ⟨w.heap.size, 0, rfl, by
    obtain rfl : j = 0 := by simp at hj; omega
    rw [World.cell?_alloc_mark]; rfl⟩
end Go.Proofs.Ytifdglehfhoecaa.B
