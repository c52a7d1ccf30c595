/-
  Texts of this proof, merged: Base, EBase, EAppend, EGrow, EMath, Read, Int, EDecMath, Put, Shelf, Join, Cworks, LawOrder. What each says stands at its head.
-/
import Derived.Test.YtifdglehfhoecaaChecked
import Derived.WalkKit
import Derived.WalkLawsBesides
import Derived.Lib.Hide
import Derived.OwnWalk
import Derived.Outline
import Derived.Lib.BufferMore
import GoSem.Op.String
import Derived.Shelf.Strings.Builder1
import Derived.Shelf.Strings.Builder2
import Derived.Shelf.Strings.OnBuilder
import Derived.Shelf.Small.Strs
import Derived.Test.YtifdglehfhoecaaProg
/-
  Small words for the walks of this seat: the bytes of a text, blocks that stand whole, what only one block has changed. Conditions: none. No function of the program is named.
-/
namespace Go.Proofs.Ytifdglehfhoecaa.B
open Go.RowKit
/-- the bytes of a text -/
abbrev bts (s : ByteArray) : List UInt8 := s.data.toList
/-- the text of bytes -/
def txt (l : List UInt8) : ByteArray := ⟨l.toArray⟩
@[simp] theorem bts_txt (l : List UInt8) : bts (txt l) = l := rfl
theorem txt_bts (s : ByteArray) : txt (bts s) = s := rfl
theorem txt_size (l : List UInt8) : (txt l).size = l.length := by show l.toArray.size = _; simp
theorem bts_len (s : ByteArray) : (bts s).length = s.size := by simp [bts]
theorem txt_append (a b : List UInt8) : txt a ++ txt b = txt (a ++ b) := by
  apply ByteArray.ext; simp [txt]
theorem bts_append (a b : ByteArray) : bts (a ++ b) = bts a ++ bts b := by simp [bts]
theorem bts_inj {a b : ByteArray} (h : bts a = bts b) : a = b := by
  apply ByteArray.ext; exact Array.ext' h
theorem bts_extract (s : ByteArray) (i j : Nat) : bts (s.extract i j) = ((bts s).take j).drop i := by simp [bts, ByteArray.data_extract, List.extract_eq_take_drop, List.drop_take]
theorem toL (s : ByteArray) : s.toList = bts s := ByteArray.toList_eq s
/-- Go's '==' on texts, decided -/
theorem str_eq {a b : ByteArray} (h : a = b) : (a.toList == b.toList) = true := by subst h; simp
theorem str_ne {a b : ByteArray} (h : a ≠ b) : (a.toList == b.toList) = false := by
  rw [toL, toL, beq_eq_false_iff_ne]; exact fun e => h (bts_inj e)
theorem str_ne_nil {a : ByteArray} (h : a.size ≠ 0) : (a.toList == []) = false := by
  rw [toL, beq_eq_false_iff_ne]; intro e; exact h (by rw [← bts_len, e]; rfl)
theorem size_zero {s : ByteArray} (h : s.size = 0) : s = ByteArray.empty := by
  apply bts_inj; rw [List.length_eq_zero_iff.1 ((bts_len s).trans h)]; rfl
theorem ret_int {k : IntKind} {a b : Int} (h : a = b) : Ending.returned (.int k a) = .returned (.int k b) := by rw [h]
theorem addBlock (a : Addr) (n : Nat) : (a.add n).block = a.block := by unfold Addr.add; split <;> rfl
theorem add_lit (b o n : Nat) : (⟨b, o, none⟩ : Addr).add n = ⟨b, o + n, none⟩ := by unfold Addr.add; split <;> simp_all
theorem lt_of_cell {w : World} {a : Addr} {v : Value} (h : w.cell? a = some v) : a.block < w.heap.size := by
  rcases Nat.lt_or_ge a.block w.heap.size with h1 | h1
  · exact h1
  · have : w.heap[a.block]? = none := by simp [h1]
    simp [World.cell?, this] at h
theorem lt_of_blk {w : World} {b : Nat} {o : Obj} (h : w.heap[b]? = some o) : b < w.heap.size := (Array.getElem?_eq_some_iff.1 h).1
/-- a whole block -/
theorem blk_cell {w : World} {b : Nat} {c : Array Value} {t : TypeId} {f : Nat × Nat} (h : w.heap[b]? = some (.cells c t f)) (j : Nat) : w.cell? ⟨b, j, none⟩ = c[j]? := by
  simp [World.cell?, h]
theorem blk_free {w : World} {b : Nat} {c : Array Value} {t : TypeId} (h : w.heap[b]? = some (.cells c t (0, 0))) (j : Nat) : w.frozen? ⟨b, j, none⟩ = false := by
  simp [World.frozen?, h]
theorem blk_new (w : World) (o : Obj) : (w.alloc o).heap[w.heap.size]? = some o := by
  show (w.heap.push o)[w.heap.size]? = _
  simp
theorem blk_set {w : World} {b : Nat} {c : Array Value} {t : TypeId} {f : Nat × Nat} (h : w.heap[b]? = some (.cells c t f)) (j : Nat) (v : Value) :
    (w.setCell ⟨b, j, none⟩ v).heap[b]? = some (.cells (c.setIfInBounds j v) t f) := by
  simp [World.setCell, Array.getElem?_modify, h]
theorem blk_below {w w' : World} {b : Nat} {o : Obj} (h : w.heap[b]? = some o) (hb : Below w.heap.size w w') : w'.heap[b]? = some o := by rw [hb.block b (lt_of_blk h)]; exact h
/-- only block g, and what is new, has changed -/
def Only (g : Nat) (a w : World) : Prop := a.grownBy w (some g)
theorem Only.refl (g : Nat) (w : World) : Only g w w := ⟨rfl, rfl, rfl, Nat.le_refl _, fun _ _ _ => rfl⟩
theorem Only.trans {g : Nat} {a b c : World} (h : Only g a b) (k : Only g b c) : Only g a c :=
  ⟨k.os.trans h.os, k.tape.trans h.tape, k.output.trans h.output, Nat.le_trans h.size k.size, fun i hi hn => (k.block i (Nat.lt_of_lt_of_le hi h.size) hn).trans (h.block i hi hn)⟩
theorem Only.below {g : Nat} {a w : World} (h : Below a.heap.size a w) : Only g a w := ⟨h.os, h.tape, h.output, h.size, fun i hi _ => h.block i hi⟩
theorem Only.set {g : Nat} (w : World) (j : Nat) (v : Value) : Only g w (w.setCell ⟨g, j, none⟩ v) :=
  ⟨rfl, rfl, rfl, by simp [World.setCell], fun i _ hn => Below.heap_setCell w ⟨g, j, none⟩ v i (fun e => hn (by rw [e]))⟩
theorem Only.to_below {g B : Nat} {a w : World} (h : Only g a w) (hB : B ≤ g) (hB2 : B ≤ a.heap.size) : Below B a w :=
  ⟨h.os, h.tape, h.output, h.size, fun i hi => h.block i (by omega) (fun e => by injection e; omega)⟩
theorem Only.blk {g : Nat} {a w : World} (h : Only g a w) {b : Nat} {o : Obj} (hb : a.heap[b]? = some o) (hn : b ≠ g) : w.heap[b]? = some o := by
  rw [h.block b (lt_of_blk hb) (fun e => hn (by injection e))]; exact hb
theorem Only.cell {g : Nat} {a w : World} (h : Only g a w) {p : Addr} {v : Value} (hc : a.cell? p = some v) (hn : p.block ≠ g) : w.cell? p = some v := by
  have hlt := lt_of_cell hc
  have := h.block p.block hlt (fun e => hn (by injection e))
  rw [World.cell?_of_block (w := a) this]; exact hc
theorem bcell {w w' : World} (hb : Below w.heap.size w w') {p : Addr} {v : Value} (hc : w.cell? p = some v) : w'.cell? p = some v := (hb.cell (lt_of_cell hc)).trans hc
/-- the bytes that a text was turned into -/
theorem bytes_world (w : World) (s : ByteArray) (cap : Nat) (t : TypeId) (fr : Nat × Nat) : ∃ w', (w.alloc (.cells (bytesRow s cap) t fr)).drew = w' ∧ Below w.heap.size w w' ∧ ∀ j (h : j < s.size), w'.cell? ⟨w.heap.size, j, none⟩ = some (.int .u8 ((s[j]).toNat : Int)) := by
  refine ⟨_, rfl, ((Below.refl _ w).alloc (Nat.le_refl _) _).drew, fun j h => ?_⟩
  show (w.alloc _).cell? _ = _
  rw [World.cell?_alloc_mark, bytesRow_at s cap j h]; rfl
theorem take_snoc (s : ByteArray) (k : Nat) (h : k < s.size) : (bts s).take (k + 1) = (bts s).take k ++ [s[k]] := by
  rw [List.take_succ_eq_append_getElem (by simpa using h)]; rfl
/-- a slice whose cells are so many texts -/
def Strs (w : World) (v : Value) (l : List ByteArray) : Prop := ∃ ao cap, v = .slice ao l.length cap ∧ l.length ≤ cap ∧ ∀ j (h : j < l.length), ∃ a, ao = some a ∧ w.cell? (a.add j) = some (.string l[j])
theorem Strs.below {w w' : World} {v : Value} {l : List ByteArray} (h : Strs w v l) (hb : Below w.heap.size w w') : Strs w' v l := by
  obtain ⟨ao, cap, rfl, hl, h⟩ := h
  exact ⟨ao, cap, rfl, hl, fun j hj => by
    obtain ⟨a, e, hc⟩ := h j hj
    exact ⟨a, e, bcell hb hc⟩⟩
theorem strs_new1 (w : World) (s : ByteArray) (t : TypeId) : Strs (w.alloc (.cells #[.string s] t)) (.slice (some ⟨w.heap.size, 0, none⟩) 1 1) [s] := by
  refine ⟨_, _, rfl, Nat.le_refl _, fun j h => ⟨_, rfl, ?_⟩⟩
  obtain rfl : j = 0 := by simp at h; omega
  rw [add_lit, World.cell?_alloc_mark]; rfl
theorem strs_new2 (w : World) (s r : ByteArray) (t : TypeId) : Strs (w.alloc (.cells #[.string s, .string r] t)) (.slice (some ⟨w.heap.size, 0, none⟩) 2 2) [s, r] := by
  refine ⟨_, _, rfl, Nat.le_refl _, fun j h => ⟨_, rfl, ?_⟩⟩
  match j, h with
  | 0, _ => rw [add_lit, World.cell?_alloc_mark]; rfl
  | 1, _ => rw [add_lit, World.cell?_alloc_mark]; rfl
theorem strs_new3 (w : World) (s r q : ByteArray) (t : TypeId) : Strs (w.alloc (.cells #[.string s, .string r, .string q] t)) (.slice (some ⟨w.heap.size, 0, none⟩) 3 3) [s, r, q] := by
  refine ⟨_, _, rfl, Nat.le_refl _, fun j h => ⟨_, rfl, ?_⟩⟩
  match j, h with
  | 0, _ => rw [add_lit, World.cell?_alloc_mark]; rfl
  | 1, _ => rw [add_lit, World.cell?_alloc_mark]; rfl
  | 2, _ => rw [add_lit, World.cell?_alloc_mark]; rfl
end Go.Proofs.Ytifdglehfhoecaa.B

/-
  Slices as rows of cells: entries (a key, a value), numbers, texts; a row that a call made itself. Conditions: none. No function of the program is named.
-/
namespace Go.Proofs.Ytifdglehfhoecaa.B
open Go.RowKit
/-- a slice of n elements of so many cells each, and what its cells are -/
def Rw (w : World) (v : Value) (size : Nat) (cs : List Value) (n : Nat) : Prop :=
  ∃ ao cap, v = .slice ao n cap ∧ cs.length = n * size ∧ n ≤ cap ∧ cap ≤ maxLen ∧ ∀ j (h : j < cs.length), ∃ b o, ao = some ⟨b, o, none⟩ ∧ w.cell? ⟨b, o + j, none⟩ = some cs[j]
theorem Rw.below {w w' : World} {v : Value} {size n : Nat} {cs : List Value} (h : Rw w v size cs n) (hb : Below w.heap.size w w') : Rw w' v size cs n := by
  obtain ⟨ao, cap, rfl, h1, h2, h3, h⟩ := h
  exact ⟨ao, cap, rfl, h1, h2, h3, fun j hj => by
    obtain ⟨b, o, e, hc⟩ := h j hj
    exact ⟨b, o, e, bcell hb hc⟩⟩
theorem Rw.nil (w : World) (size : Nat) : Rw w (.slice none 0 0) size [] 0 := ⟨none, 0, rfl, by simp, Nat.le_refl _, by simp, fun j h => by simp at h⟩
/-- what the call made itself is such a row -/
theorem Rw.own {w : World} {base : Nat} {e : TypeId} {size : Nat} {v : Value} {n : Nat} {cs : List Value} (h : w.ownsRow base e size v n cs) : Rw w v size cs n := by
  have h' := h
  obtain ⟨hlen, ⟨rfl, rfl⟩ | ⟨g, cap, cur, rfl, hg, hh, hn, hcap, hcur, hx⟩⟩ := h
  · obtain rfl : cs = [] := List.eq_nil_of_length_eq_zero (by simpa using hlen)
    exact Rw.nil w size
  · refine ⟨_, cap, rfl, hlen, hn, hcap, fun j hj => ⟨g, 0, rfl, ?_⟩⟩
    have := h'.cells (g := g) rfl j cs[j] (by simp)
    rwa [add_lit] at this
/-- a key and a value -/
abbrev Ent := ByteArray × ByteArray
def ecs (l : List Ent) : List Value := l.flatMap fun e => [.string e.1, .string e.2]
@[simp] theorem ecs_nil : ecs [] = [] := rfl
theorem ecs_cons (e : Ent) (l : List Ent) : ecs (e :: l) = .string e.1 :: .string e.2 :: ecs l := rfl
theorem ecs_append (a b : List Ent) : ecs (a ++ b) = ecs a ++ ecs b := by simp [ecs]
theorem ecs_len (l : List Ent) : (ecs l).length = l.length * 2 := by
  induction l with
  | nil => rfl
  | cons e l ih => rw [ecs_cons, List.length_cons, List.length_cons, List.length_cons, ih]; omega
theorem ecs_get (l : List Ent) : ∀ j (h : j < l.length), (ecs l)[j * 2]? = some (.string l[j].1) ∧ (ecs l)[j * 2 + 1]? = some (.string l[j].2) := by
  induction l with
  | nil => intro j h; simp at h
  | cons e l ih =>
    intro j h
    rcases j with _ | j
    · exact ⟨rfl, rfl⟩
    · have := ih j (by simpa using h)
      rw [ecs_cons, show (j + 1) * 2 = j * 2 + 1 + 1 by omega]
      simpa using this
theorem ecs_take (l : List Ent) (k : Nat) : (ecs l).take (k * 2) = ecs (l.take k) := by
  induction l generalizing k with
  | nil => simp
  | cons e l ih =>
    rcases k with _ | k
    · simp
    · rw [ecs_cons, show (k + 1) * 2 = k * 2 + 1 + 1 by omega, List.take_succ_cons, List.take_succ_cons, ih, List.take_succ_cons, ecs_cons]
theorem ecs_drop (l : List Ent) (k : Nat) : (ecs l).drop (k * 2) = ecs (l.drop k) := by
  induction l generalizing k with
  | nil => simp
  | cons e l ih =>
    rcases k with _ | k
    · simp
    · rw [ecs_cons, show (k + 1) * 2 = k * 2 + 1 + 1 by omega, List.drop_succ_cons, List.drop_succ_cons, ih, List.drop_succ_cons]
theorem ecs_one (l : List Ent) : ∀ u ∈ ecs l, u.oneCell' = true := by
  intro u hu
  simp only [ecs, List.mem_flatMap, List.mem_cons, List.not_mem_nil, or_false] at hu
  obtain ⟨e, _, rfl | rfl⟩ := hu <;> rfl
/-- a slice of entries -/
def Ents (w : World) (v : Value) (l : List Ent) : Prop := Rw w v 2 (ecs l) l.length
theorem Ents.below {w w' : World} {v : Value} {l : List Ent} (h : Ents w v l) (hb : Below w.heap.size w w') : Ents w' v l := Rw.below h hb
theorem Ents.open {w : World} {v : Value} {l : List Ent} (h : Ents w v l) : ∃ ao cap, v = .slice ao l.length cap ∧ l.length ≤ cap ∧ cap ≤ maxLen ∧
    ∀ j (_h : j < l.length), ∃ b o, ao = some ⟨b, o, none⟩ ∧ w.cell? ⟨b, o + j * 2, none⟩ = some (.string l[j].1) ∧ w.cell? ⟨b, o + j * 2 + 1, none⟩ = some (.string l[j].2) := by
  obtain ⟨ao, cap, rfl, h1, h2, h3, h⟩ := h
  refine ⟨ao, cap, rfl, h2, h3, fun j hj => ?_⟩
  have hl := ecs_len l
  obtain ⟨e1, e2⟩ := ecs_get l j hj
  obtain ⟨b, o, e, hc⟩ := h (j * 2) (by omega)
  obtain ⟨b', o', e', hc'⟩ := h (j * 2 + 1) (by omega)
  rw [e] at e'
  obtain ⟨rfl, rfl⟩ : b = b' ∧ o = o' := by injection e' with e'; injection e' with a1 a2 a3; exact ⟨a1, a2⟩
  refine ⟨b, o, e, ?_, ?_⟩
  · rw [hc]; rw [List.getElem?_eq_getElem (by omega)] at e1; exact e1
  · rw [← Nat.add_assoc] at hc'
    rw [hc']; rw [List.getElem?_eq_getElem (by omega)] at e2; exact e2
theorem Ents.close {w : World} {ao : Option Addr} {cap : Nat} {l : List Ent} (h2 : l.length ≤ cap) (h3 : cap ≤ maxLen)
    (h : ∀ j (_h : j < l.length), ∃ b o, ao = some ⟨b, o, none⟩ ∧ w.cell? ⟨b, o + j * 2, none⟩ = some (.string l[j].1) ∧ w.cell? ⟨b, o + j * 2 + 1, none⟩ = some (.string l[j].2)) : Ents w (.slice ao l.length cap) l := by
  refine ⟨ao, cap, rfl, ecs_len l, h2, h3, fun j hj => ?_⟩
  have hl := ecs_len l
  have hj2 : j / 2 < l.length := by omega
  obtain ⟨b, o, e, c0, c1⟩ := h (j / 2) hj2
  obtain ⟨e1, e2⟩ := ecs_get l (j / 2) hj2
  refine ⟨b, o, e, ?_⟩
  rcases Nat.mod_two_eq_zero_or_one j with hm | hm
  · have hjj : j / 2 * 2 = j := by omega
    rw [hjj] at c0 e1
    rw [c0]; rw [List.getElem?_eq_getElem hj] at e1; exact e1.symm
  · have hjj : j / 2 * 2 + 1 = j := by omega
    rw [Nat.add_assoc, hjj] at c1
    rw [hjj] at e2
    rw [c1]; rw [List.getElem?_eq_getElem hj] at e2; exact e2.symm
/-- the first k entries, and the others, of such a slice -/
theorem Rw.take {w : World} {ao : Option Addr} {n cap size : Nat} {cs : List Value} (h : Rw w (.slice ao n cap) size cs n) (k cap' : Nat) (hk : k ≤ n) (hc : k ≤ cap') (hm : cap' ≤ maxLen) : Rw w (.slice ao k cap') size (cs.take (k * size)) k := by
  obtain ⟨ao', c', e, h1, h2, h3, h⟩ := h
  obtain ⟨rfl, rfl⟩ : ao = ao' ∧ cap = c' := by injection e with a1 a2 a3; exact ⟨a1, a3⟩
  have hks : k * size ≤ n * size := Nat.mul_le_mul_right _ hk
  refine ⟨ao, cap', rfl, by rw [List.length_take, h1]; omega, hc, hm, fun j hj => ?_⟩
  rw [List.length_take] at hj
  obtain ⟨b, o, e, hc⟩ := h j (by omega)
  exact ⟨b, o, e, by rw [hc]; simp⟩
theorem Rw.drop {w : World} {b o : Nat} {n cap size : Nat} {cs : List Value} (h : Rw w (.slice (some ⟨b, o, none⟩) n cap) size cs n) (k cap' : Nat) (hk : k ≤ n) (hc : n - k ≤ cap') (hm : cap' ≤ maxLen) :
    Rw w (.slice (some ⟨b, o + k * size, none⟩) (n - k) cap') size (cs.drop (k * size)) (n - k) := by
  obtain ⟨ao', c', e, h1, h2, h3, h⟩ := h
  obtain ⟨rfl, rfl⟩ : some (⟨b, o, none⟩ : Addr) = ao' ∧ cap = c' := by injection e with a1 a2 a3; exact ⟨a1, a3⟩
  have hks : k * size ≤ n * size := Nat.mul_le_mul_right _ hk
  refine ⟨_, cap', rfl, by rw [List.length_drop, h1, Nat.sub_mul], hc, hm, fun j hj => ?_⟩
  rw [List.length_drop] at hj
  obtain ⟨b', o', e, hc⟩ := h (k * size + j) (by omega)
  obtain ⟨rfl, rfl⟩ : b = b' ∧ o = o' := by injection e with e; injection e with a1 a2 a3; exact ⟨a1, a2⟩
  exact ⟨b, o + k * size, rfl, by rw [Nat.add_assoc, hc]; simp⟩
end Go.Proofs.Ytifdglehfhoecaa.B

/-
  append onto a slice that the call owns, of any row of cells (nil, empty or not); append of so many zeros onto nil. Conditions: sizes that memory bears. No function of the program is named.
-/
namespace Go
open Go.RowKit
section
variable {P : Program} {w : World}
theorem run_append_row (base : Nat) (t ty e : TypeId) (i : TypeInfo) (z : Value) (size bytes : Nat) (ht : P.underlying t = some (.slice e)) (hi : P.info? e = some i) (hz : i.zero = some z)
    (hsize : i.size = size) (hby : i.bytes = bytes) (hzs : z.cells.size = size) (hsz : 0 < size)
    (v : Value) (n : Nat) (xs : List Value) (hown : w.ownsRow base e size v n xs)
    (x : Value) (m : Nat) (news : List Value) (hx : Proofs.Ytifdglehfhoecaa.B.Rw w x size news m) (h1 : ∀ u ∈ news, u.oneCell' = true)
    (h63 : n + m ≤ maxLen) (hbytes : (n + m) * bytes ≤ 140737488355328) (hbase : base ≤ w.heap.size) :
    ∃ v' w', (Builtin.append_ #[t, t] ty #[v, x]).run P w = .ok v' w' ∧ w'.ownsRow base e size v' (n + m) (xs ++ news) ∧ w.grownBy w' v.ownBlock := by
  obtain ⟨ao, cap, rfl, hl, hc, hm, h⟩ := hx
  rcases ao with _ | ad
  · have h0 : news = [] := by
      rcases news with _ | ⟨a, r⟩
      · rfl
      · obtain ⟨b, o, e, _⟩ := h 0 (by simp)
        exact absurd e (by simp)
    subst h0
    have hm0 : m = 0 := by
      have : m * size = 0 := by simpa using hl.symm
      rcases Nat.mul_eq_zero.1 this with h | h
      · exact h
      · omega
    subst hm0
    refine ⟨v, w, ?_, by simpa using hown, ⟨rfl, rfl, rfl, Nat.le_refl _, fun _ _ _ => rfl⟩⟩
    rcases hown.2 with ⟨rfl, rfl⟩ | ⟨g, cap, cur, rfl, _, _, hnc, _⟩
    · simp [Builtin.append_, run_underlying ht, sizeOf, typeInfo, hi, Builtin.lenOf, Builtin.firstCells]
    · simp [Builtin.append_, run_underlying ht, sizeOf, typeInfo, hi, Builtin.lenOf, Builtin.firstCells, hnc, storeCells]
  · obtain ⟨v', w', a1, a2, a3, _⟩ := run_append_own (P := P) w base t ty e i z size bytes ht hi hz hsize hby hzs hsz v n xs hown ad m cap news hl (fun j u hu => by
      have hj := (List.getElem?_eq_some_iff.1 hu).1
      obtain ⟨b, o, e, hcell⟩ := h j hj
      obtain rfl := Option.some.inj e
      rw [Proofs.Ytifdglehfhoecaa.B.add_lit, hcell, ← hu, List.getElem?_eq_getElem hj]) h1 h63 hbytes hbase
    exact ⟨v', w', a1, a2, a3⟩
theorem wpList_append_row {ops : Array Oper} {rest : List Oper} {o : Oper} {a : Act} {Q : Exit → Act → World → Prop} (hgd : o.guard = none) (s x : Operand) (t : TypeId)
    (ho : o.op = .call { callee := .builtin .append, args := #[s, x], argTypes := #[t, t] })
    (base : Nat) (e : TypeId) (i : TypeInfo) (z : Value) (size bytes : Nat) (ht : P.underlying t = some (.slice e)) (hi : P.info? e = some i) (hz : i.zero = some z)
    (hsize : i.size = size) (hby : i.bytes = bytes) (hzs : z.cells.size = size) (hsz : 0 < size)
    (v : Value) (n : Nat) (xs : List Value) (hs : a.eval s = v) (hown : w.ownsRow base e size v n xs)
    (y : Value) (hx : a.eval x = y) (m : Nat) (news : List Value) (hrow : Proofs.Ytifdglehfhoecaa.B.Rw w y size news m) (h1 : ∀ u ∈ news, u.oneCell' = true)
    (h63 : n + m ≤ maxLen) (hbytes : (n + m) * bytes ≤ 140737488355328) (hbase : base ≤ w.heap.size)
    (h : ∀ v' w', w'.ownsRow base e size v' (n + m) (xs ++ news) → w.grownBy w' v.ownBlock → wpList P ops Q rest (a.put o.dst v') w') : wpList P ops Q (o :: rest) a w := by
  refine wpList_plain hgd fun _ hK => ?_
  obtain ⟨v', w', hr, h2, h3⟩ := run_append_row (P := P) base t o.type e i z size bytes ht hi hz hsize hby hzs hsz v n xs hown y m news hrow h1 h63 hbytes hbase
  unfold Oper.wp execOp
  simp only [ho, resolve, invoke, builtin, Sem.run_bind, Sem.run_pure, Result.andThen_ok, List.map_toArray, List.map_cons, List.map_nil, hs, hx, hr]
  exact hK _ _ (h v' w' h2 h3)
theorem run_append_zeros (base : Nat) (t ti ty e : TypeId) (i : TypeInfo) (z : Value) (ht : P.underlying t = some (.slice e)) (hti : P.underlying ti = some (.int .i64)) (hi : P.info? e = some i) (hz : i.zero = some z)
    (hzs : z.cells.size = i.size) (hsz : 0 < i.size)
    (n : Nat) (h0 : 0 < n) (h63 : n ≤ maxLen) (h48 : n * i.bytes ≤ 281474976710656) (hbase : base ≤ w.heap.size) :
    ∃ cap w', (Builtin.append_ #[t, ti] ty #[.slice none 0 0, .int .i64 (n : Int)]).run P w = .ok (.slice (some ⟨w.heap.size, 0, none⟩) n cap) w' ∧ n ≤ cap ∧
      w'.ownsRow base e i.size (.slice (some ⟨w.heap.size, 0, none⟩) 0 cap) 0 [] ∧ Below w.heap.size w w' := by
  have hn : n ≠ 0 := by omega
  have hsm : n ≤ 9223372036854775807 := by have e : maxLen = 9223372036854775807 := by decide
                                           omega
  have h63' : ¬ (9223372036854775807 < (n : Int)) := by omega
  have h48' : ¬ (281474976710656 < Builtin.nextslicecap n 0 * i.bytes) := by rw [nextslicecap_zero h0]; omega
  have h48i : ¬ ((281474976710656 : Int) < (n : Int) * (i.bytes : Int)) := by
    have : ((n * i.bytes : Nat) : Int) ≤ 281474976710656 := Int.ofNat_le.2 h48
    rw [Int.natCast_mul] at this; omega
  have hwr : IntKind.i64.wrap (n : Int) = (n : Int) := by rw [IntKind.wrap_i64]; omega
  have hneg : ¬ ((n : Int) < 0) := by omega
  have hns : n * i.size ≠ 0 := Nat.mul_ne_zero hn (by omega)
  refine ⟨grownCap w n 0 e, w.drew.alloc (.cells (Builtin.zeroCells z.cells n ++ Builtin.zeroCells z.cells (grownCap w n 0 e - n)) e), ?_, grownCap_ge w n 0 e, ⟨by simp, .inr ⟨w.heap.size, _, _, rfl, hbase, heap_alloc_new w.drew _, Nat.zero_le _, grownCap_le_maxLen w n 0 e h63, ?_, by simp⟩⟩, ?_⟩
  · simp [Builtin.append_, run_underlying ht, run_underlying hti, sizeOf, typeInfo, zeroValue, hi, hz, Builtin.lenOf, hn, h63', h48', h48i, Question.forced, run_firstCells_none, newRow, grownCap, asInt, asIntOf, hwr, hneg, hns]
  · rw [Array.size_append, size_zeroCells, size_zeroCells, hzs, ← Nat.add_mul]
    congr 1
    have := grownCap_ge w n 0 e
    omega
  · exact ((Below.refl _ w).drew).alloc (Nat.le_refl _) _
theorem wpList_append_zeros {ops : Array Oper} {rest : List Oper} {o : Oper} {a : Act} {Q : Exit → Act → World → Prop} (hgd : o.guard = none) (s x : Operand) (t ti : TypeId)
    (ho : o.op = .call { callee := .builtin .append, args := #[s, x], argTypes := #[t, ti] })
    (e : TypeId) (i : TypeInfo) (z : Value) (size bytes : Nat) (ht : P.underlying t = some (.slice e)) (hti : P.underlying ti = some (.int .i64)) (hi : P.info? e = some i) (hz : i.zero = some z)
    (hsize : i.size = size) (hby : i.bytes = bytes) (hzs : z.cells.size = size) (hsz : 0 < size) (base : Nat)
    (n : Nat) (hs : a.eval s = .slice none 0 0) (hx : a.eval x = .int .i64 (n : Int)) (h0 : 0 < n) (h63 : n ≤ maxLen) (h48 : n * bytes ≤ 281474976710656) (hbase : base ≤ w.heap.size)
    (h : ∀ cap w', n ≤ cap → w'.ownsRow base e size (.slice (some ⟨w.heap.size, 0, none⟩) 0 cap) 0 [] → Below w.heap.size w w' → wpList P ops Q rest (a.put o.dst (.slice (some ⟨w.heap.size, 0, none⟩) n cap)) w') : wpList P ops Q (o :: rest) a w := by
  refine wpList_plain hgd fun _ hK => ?_
  subst hsize
  subst hby
  obtain ⟨cap, w', hr, h1, h2, h3⟩ := run_append_zeros (P := P) (w := w) base t ti o.type e i z ht hti hi hz hzs hsz n h0 h63 h48 hbase
  unfold Oper.wp execOp
  simp only [ho, resolve, invoke, builtin, Sem.run_bind, Sem.run_pure, Result.andThen_ok, List.map_toArray, List.map_cons, List.map_nil, hs, hx, hr]
  exact hK _ _ (h cap w' h1 h2 h3)
end
end Go

/-
  A list that grows, a copy of one, several as one. Conditions: 2^40 entries at most.
-/
namespace Go.Proofs.Ytifdglehfhoecaa.E
open Go.RowKit B
theorem info49 : (Try.prog.info? 49).map (fun i => (i.zero, i.size, i.bytes)) = some (some (.agg #[.string ByteArray.empty, .string ByteArray.empty]), 2, 32) := by kernel_rfl
set_option maxRecDepth 100000 in
theorem grow_any (n : Nat) (w : World) (hn : n ≤ 1099511627776) :
    Calls Try.prog 90 #[.slice none 0 0, .int .i64 (n : Int)] w fun r w' => ∃ v, r = .returned v ∧ w'.ownsRow w.heap.size 49 2 v 0 [] ∧ Below w.heap.size w w' := by
  rcases Nat.eq_zero_or_pos n with h0 | h0
  · subst h0
    go_enter Try.func90, Try.ntmps90
    go_wp2
    go_ret
    exact ⟨_, rfl, World.ownsRow_nil _ _ _ _, Below.refl _ _⟩
  · obtain ⟨i, hi, hz0, hz1, hz2⟩ := info_parts info49
    go_enter Try.func90, Try.ntmps90
    go_wp2_with (at_builtin; refine wpList_append_zeros rfl _ _ 43 3 rfl 49 i _ 2 32 Try.underlying43 Try.underlying3 hi hz0 hz1 hz2 rfl (by decide) w.heap.size n rfl rfl h0 (by unfold maxLen; omega) (by omega) (Nat.le_refl _) ?_)
    intro cap w1 hcap hown hb
    have HOWN := Lib.hid hown; clear hown
    go_wp2
    go_ret
    exact ⟨_, rfl, HOWN.out, hb⟩
set_option maxRecDepth 100000 in
theorem clone_any (v : Value) (l : List Ent) (w : World) (hv : Ents w v l) (hne : l ≠ []) (hlen : l.length ≤ 1099511627776) :
    Calls Try.prog 73 #[v] w fun r w' => ∃ v', r = .returned v' ∧ w'.ownsRow w.heap.size 49 2 v' l.length (ecs l) ∧ Below w.heap.size w w' := by
  obtain ⟨i, hi, hz0, hz1, hz2⟩ := info_parts info49
  obtain ⟨ao, cap, rfl, h1, h2, hc⟩ := hv.open
  obtain ⟨b, o, rfl, _, _⟩ := hc 0 (List.length_pos_iff.2 hne)
  have HV := Lib.hid hv
  clear hv hc
  have hnil : ∀ W, (binOp .eql 43 (.slice (some ⟨b, o, none⟩) l.length cap) (.slice none 0 0)).run Try.prog W = .ok (.bool false) W := fun W => Lib.run_eql_slice_some_nil W _ _ _ Try.underlying43
  go_enter Try.func73, Try.ntmps73
  go_wp2_with (at_builtin; go_loud (refine wpList_append_row rfl _ _ 43 rfl w.heap.size 49 i _ 2 32 Try.underlying43 hi hz0 hz1 hz2 rfl (by decide) (.slice (some ⟨w.heap.size, 0, none⟩) 0 0) 0 [] rfl (World.ownsRow_made w #[] 0 (Nat.le_refl _) (by unfold maxLen; omega) rfl) (.slice (some ⟨b, o, none⟩) l.length cap) rfl l.length (ecs l) (Rw.below HV.out ((Below.refl _ w).alloc (Nat.le_refl _) _)) (ecs_one l) (by unfold maxLen; omega) (by omega) (by simp) ?_))
  intro v' w1 hown hg
  have hb : Below w.heap.size w w1 := ((Below.refl _ w).alloc (Nat.le_refl _) _).grown hg (by simp) (fun g h => by simp [Value.ownBlock] at h; omega)
  have HOWN := Lib.hid hown; clear hown hg
  go_wp2
  go_ret
  exact ⟨_, rfl, HOWN.out, hb⟩
/-- the first k of so many lists, as one -/
def flat (vs : List (Value × List Ent)) (k : Nat) : List Ent := (vs.take k).flatMap (·.2)
theorem flat_succ (vs : List (Value × List Ent)) (k : Nat) (h : k < vs.length) : flat vs (k + 1) = flat vs k ++ vs[k].2 := by
  unfold flat; rw [List.take_succ_eq_append_getElem h, List.flatMap_append, List.flatMap_singleton]
theorem flat_len (vs : List (Value × List Ent)) (k : Nat) : (flat vs k).length ≤ (flat vs vs.length).length := by
  unfold flat
  rw [List.take_length]
  conv => rhs; rw [← List.take_append_drop k vs]
  rw [List.flatMap_append, List.length_append]
  exact Nat.le_add_right _ _
set_option maxRecDepth 100000 in
set_option maxHeartbeats 1000000 in
theorem concat_any (g : Nat) (vs : List (Value × List Ent)) (w : World) (hn : vs.length ≤ 100) (hlen : (flat vs vs.length).length ≤ 1099511627776)
    (hc : ∀ j (_h : j < vs.length), w.cell? ⟨g, j, none⟩ = some vs[j].1 ∧ Ents w vs[j].1 vs[j].2) :
    Calls Try.prog 74 #[.slice (some ⟨g, 0, none⟩) vs.length vs.length] w fun r w' => ∃ v, r = .returned v ∧ w'.ownsRow w.heap.size 49 2 v (flat vs vs.length).length (ecs (flat vs vs.length)) ∧ Below w.heap.size w w' := by
  obtain ⟨i, hi, hz0, hz1, hz2⟩ := info_parts info49
  have HC := Lib.hid hc; clear hc
  obtain ⟨tot, htot⟩ : ∃ t, (flat vs vs.length).length = t := ⟨_, rfl⟩
  have HTOT := Lib.hid htot
  rw [htot] at hlen
  go_enter Try.func74, Try.ntmps74
  go_wp2
  go_loopw [3, 11] (fun n i wr => ∃ k : Nat, k ≤ vs.length ∧ i = .int .i64 k ∧ n = .int .i64 ((flat vs k).length : Int) ∧ w = wr) (fun _ i _ => vs.length - (intOf i).toNat)
  case atStart => exact ⟨0, Nat.zero_le _, rfl, rfl, rfl⟩
  case round =>
    obtain ⟨k, hk, rfl, rfl, rfl⟩ := hrel
    by_cases hlt : k < vs.length
    · obtain ⟨h0, hE⟩ := HC.out k hlt
      obtain ⟨ao, cap, e, _, _, _⟩ := hE.open
      rw [e] at h0
      clear e hE
      have hs := congrArg List.length (flat_succ vs k hlt)
      rw [List.length_append] at hs
      have hle := flat_len vs (k + 1)
      rw [HTOT.out, hs] at hle
      obtain ⟨p, hp⟩ : ∃ p, (flat vs k).length = p := ⟨_, rfl⟩
      obtain ⟨q, hq⟩ : ∃ q, vs[k].2.length = q := ⟨_, rfl⟩
      rw [hp, hq] at hs hle
      rw [hq] at h0
      rw [hp]
      have HS := Lib.hid hs
      clear hs hp hq
      go_wp2
      go_roundw
      case rel => exact ⟨k + 1, by omega, by go_num, by rw [HS.out]; go_num, by first | rfl | trivial⟩
      case measure => simp [intOf]; omega
    · have hkk : k = vs.length := by omega
      subst hkk
      rw [HTOT.out]
      go_wp2_with fail
      refine (grow_any tot _ (by omega)).mono ?_
      rintro r w1 ⟨v, rfl, hown, hb⟩
      have HOWN := Lib.hid hown; clear hown
      go_wp2
      go_loopw [6, 27] (fun v i wr => ∃ k : Nat, k ≤ vs.length ∧ i = .int .i64 k ∧ wr.ownsRow w.heap.size 49 2 v (flat vs k).length (ecs (flat vs k)) ∧ Below w.heap.size w wr) (fun _ i _ => vs.length - (intOf i).toNat)
      case atStart => exact ⟨0, Nat.zero_le _, rfl, HOWN.out, hb⟩
      case round =>
        obtain ⟨k, hk, rfl, hown, hbr⟩ := hrel
        have HO := Lib.hid hown; clear hown
        by_cases hlt : k < vs.length
        · obtain ⟨h0, hE⟩ := HC.out k hlt
          have hE := hE.below hbr
          obtain ⟨ao, cap, e, _, _, _⟩ := hE.open
          have c0 := (hbr.cell (lt_of_cell h0)).trans h0
          rw [e] at c0 hE
          clear e h0
          have hle := flat_len vs (k + 1)
          rw [HTOT.out, flat_succ vs k hlt, List.length_append] at hle
          have HE := Lib.hid hE; clear hE
          go_wp2_with (at_builtin; go_loud (refine wpList_append_row rfl _ _ 43 rfl w.heap.size 49 i _ 2 32 Try.underlying43 hi hz0 hz1 hz2 rfl (by decide) _ (flat vs k).length (ecs (flat vs k)) rfl HO.out (.slice ao vs[k].2.length cap) rfl vs[k].2.length (ecs vs[k].2) HE.out (ecs_one _) (by unfold maxLen; omega) (by omega) hbr.size ?_))
          intro v' w2 hown2 hg
          have hb2 : Below w.heap.size w w2 := hbr.grown hg hbr.size (fun g hg => (HO.out.lt g hg).1)
          rw [← ecs_append, ← List.length_append, ← flat_succ vs k hlt] at hown2
          have HO2 := Lib.hid hown2; clear hown2 hg
          go_wp2
          go_roundw
          case rel => exact ⟨k + 1, by omega, by go_num, HO2.out, hb2⟩
          case measure => simp [intOf]; omega
        · have hkk : k = vs.length := by omega
          have HK := Lib.hid hkk; clear hkk
          go_wp2
          go_ret
          exact ⟨_, rfl, by have := HO.out; rw [HK.out] at this; exact this, hbr⟩
end Go.Proofs.Ytifdglehfhoecaa.E

/-
  Keys with values in order, as plain lists: where a key stands, what is put, deleted, where a list is cut. Conditions: none. No program in sight.
-/
namespace Go.Proofs.Ytifdglehfhoecaa.M
/-- a key and a value -/
abbrev Ent := ByteArray × ByteArray
abbrev bt (s : ByteArray) : List UInt8 := s.data.toList
theorem bt_inj {a b : ByteArray} (h : bt a = bt b) : a = b := by apply ByteArray.ext; exact Array.ext' h
theorem less_irrefl (l : List UInt8) : Op.bytesLess l l = false := by
  induction l with
  | nil => rfl
  | cons a l ih => rw [Op.bytesLess, ih]; simp
theorem less_trans : ∀ a b c : List UInt8, Op.bytesLess a b = true → Op.bytesLess b c = true → Op.bytesLess a c = true
  | _, [], _, h, _ => by cases ‹List UInt8› <;> simp [Op.bytesLess] at h
  | _, _ :: _, [], _, h => by simp [Op.bytesLess] at h
  | [], _ :: _, _ :: _, _, _ => rfl
  | a :: x, b :: y, c :: z, h1, h2 => by
    simp only [Op.bytesLess, Bool.or_eq_true, Bool.and_eq_true, decide_eq_true_eq, beq_iff_eq] at h1 h2 ⊢
    rcases h1 with h1 | ⟨rfl, h1⟩
    · rcases h2 with h2 | ⟨rfl, h2⟩
      · exact .inl (UInt8.lt_trans h1 h2)
      · exact .inl h1
    · rcases h2 with h2 | ⟨rfl, h2⟩
      · exact .inl h2
      · exact .inr ⟨rfl, less_trans x y z h1 h2⟩
theorem less_total : ∀ a b : List UInt8, Op.bytesLess a b = true ∨ a = b ∨ Op.bytesLess b a = true
  | [], [] => .inr (.inl rfl)
  | [], _ :: _ => .inl rfl
  | _ :: _, [] => .inr (.inr rfl)
  | a :: x, b :: y => by
    simp only [Op.bytesLess, Bool.or_eq_true, Bool.and_eq_true, decide_eq_true_eq, beq_iff_eq, List.cons.injEq]
    have h3 : a < b ∨ b < a ∨ a = b := by
      rw [UInt8.lt_iff_toNat_lt, UInt8.lt_iff_toNat_lt, ← UInt8.toNat_inj]; omega
    rcases h3 with h | h | rfl
    · exact .inl (.inl h)
    · exact .inr (.inr (.inl h))
    · rcases less_total x y with h | h | h
      · exact .inl (.inr ⟨rfl, h⟩)
      · exact .inr (.inl ⟨rfl, h⟩)
      · exact .inr (.inr (.inr ⟨rfl, h⟩))
/-- a key is less -/
def klt (a b : ByteArray) : Prop := Op.bytesLess (bt a) (bt b) = true
instance (a b : ByteArray) : Decidable (klt a b) := by unfold klt; exact inferInstance
theorem klt_irrefl (a : ByteArray) : ¬ klt a a := by unfold klt; rw [less_irrefl]; simp
theorem klt_trans {a b c : ByteArray} (h : klt a b) (k : klt b c) : klt a c := less_trans _ _ _ h k
theorem klt_total (a b : ByteArray) : klt a b ∨ a = b ∨ klt b a := by
  rcases less_total (bt a) (bt b) with h | h | h
  · exact .inl h
  · exact .inr (.inl (bt_inj h))
  · exact .inr (.inr h)
theorem klt_asymm {a b : ByteArray} (h : klt a b) : ¬ klt b a := fun k => klt_irrefl a (klt_trans h k)
theorem klt_ne {a b : ByteArray} (h : klt a b) : a ≠ b := fun e => klt_irrefl b (e ▸ h)
theorem klt_of_not {a b : ByteArray} (h : ¬ klt a b) (hn : a ≠ b) : klt b a := ((klt_total a b).resolve_left h).resolve_left hn
/-- keys that rise -/
def Asc (l : List Ent) : Prop := l.Pairwise fun a b => klt a.1 b.1
/-- may there be a key with a value? -/
def may (k v : ByteArray) : Prop := 1 ≤ k.size ∧ k.size ≤ 16 ∧ v.size ≤ 40
instance (k v : ByteArray) : Decidable (may k v) := by unfold may; exact inferInstance
/-- a right list -/
def Ok (l : List Ent) : Prop := (∀ e ∈ l, may e.1 e.2) ∧ Asc l
instance (l : List Ent) : Decidable (Asc l) := by unfold Asc; exact inferInstance
instance (l : List Ent) : Decidable (Ok l) := by unfold Ok; exact inferInstance
/-- by neighbours -/
theorem asc_iff (l : List Ent) : Asc l ↔ ∀ i (h : i + 1 < l.length), klt l[i].1 l[i + 1].1 := by
  induction l with
  | nil => simp [Asc]
  | cons a l ih =>
    constructor
    · intro h i hi
      obtain ⟨h1, h2⟩ := List.pairwise_cons.1 h
      rcases i with _ | i
      · exact h1 _ (List.getElem_mem _)
      · exact (ih.1 h2) i (by simpa using hi)
    · intro h
      have h2 : Asc l := ih.2 fun i hi => h (i + 1) (by simpa using hi)
      refine List.pairwise_cons.2 ⟨fun b hb => ?_, h2⟩
      rcases l with _ | ⟨c, l⟩
      · simp at hb
      · have hc : klt a.1 c.1 := h 0 (by simp)
        rcases List.mem_cons.1 hb with rfl | hb
        · exact hc
        · exact klt_trans hc ((List.pairwise_cons.1 h2).1 b hb)
theorem asc_lt {l : List Ent} (h : Asc l) {i j : Nat} (hi : i < j) (hj : j < l.length) : klt (l[i]'(by omega)).1 l[j].1 :=
  List.pairwise_iff_getElem.1 h i j (by omega) hj hi
/-- rising lists with the same members are the same -/
theorem asc_ext : ∀ (a b : List Ent), Asc a → Asc b → (∀ e, e ∈ a ↔ e ∈ b) → a = b
  | [], [], _, _, _ => rfl
  | [], y :: b, _, _, h => by have := (h y).2 (by simp); simp at this
  | x :: a, [], _, _, h => by have := (h x).1 (by simp); simp at this
  | x :: a, y :: b, ha, hb, h => by
    obtain ⟨ha1, ha2⟩ := List.pairwise_cons.1 ha
    obtain ⟨hb1, hb2⟩ := List.pairwise_cons.1 hb
    have hxy : x = y := by
      rcases List.mem_cons.1 ((h x).1 (by simp)) with e | hx
      · exact e
      · rcases List.mem_cons.1 ((h y).2 (by simp)) with e | hy
        · exact e.symm
        · exact absurd (ha1 y hy) (klt_asymm (hb1 x hx))
    subst hxy
    congr 1
    refine asc_ext a b ha2 hb2 fun e => ⟨fun he => ?_, fun he => ?_⟩
    · rcases List.mem_cons.1 ((h e).1 (by simp [he])) with rfl | h'
      · exact absurd (ha1 e he) (klt_irrefl _)
      · exact h'
    · rcases List.mem_cons.1 ((h e).2 (by simp [he])) with rfl | h'
      · exact absurd (hb1 e he) (klt_irrefl _)
      · exact h'
/-- where a key stands, or would -/
def Low (l : List Ent) (k : ByteArray) (i : Nat) : Prop := i ≤ l.length ∧ (∀ t (h : t < l.length), t < i → klt l[t].1 k) ∧ (∀ t (h : t < l.length), i ≤ t → ¬ klt l[t].1 k)
theorem low_unique {l : List Ent} {k : ByteArray} {i j : Nat} (h : Low l k i) (h' : Low l k j) : i = j := by
  obtain ⟨a1, a2, a3⟩ := h
  obtain ⟨b1, b2, b3⟩ := h'
  rcases Nat.lt_trichotomy i j with h | h | h
  · exact absurd (b2 i (by omega) h) (a3 i (by omega) (Nat.le_refl _))
  · exact h
  · exact absurd (a2 j (by omega) h) (b3 j (by omega) (Nat.le_refl _))
theorem low_ex (l : List Ent) (k : ByteArray) (h : Asc l) : ∃ i, Low l k i := by
  induction l with
  | nil => exact ⟨0, by simp, fun t h => by simp at h, fun t h => by simp at h⟩
  | cons a l ih =>
    obtain ⟨h1, h2⟩ := List.pairwise_cons.1 h
    by_cases ha : klt a.1 k
    · obtain ⟨i, i1, i2, i3⟩ := ih h2
      refine ⟨i + 1, by simpa using i1, fun t ht hti => ?_, fun t ht hti => ?_⟩
      · rcases t with _ | t
        · exact ha
        · exact i2 t (by simpa using ht) (by omega)
      · rcases t with _ | t
        · omega
        · exact i3 t (by simpa using ht) (by omega)
    · refine ⟨0, by simp, fun t ht hti => by omega, fun t ht _ => ?_⟩
      rcases t with _ | t
      · exact ha
      · intro hk
        exact ha (klt_trans (h1 _ (List.getElem_mem _)) hk)
/-- is the key there? -/
def has (l : List Ent) (k : ByteArray) : Prop := ∃ v, (k, v) ∈ l
theorem low_has {l : List Ent} {k : ByteArray} {i : Nat} (h : Low l k i) (ha : Asc l) : has l k ↔ ∃ hi : i < l.length, l[i].1 = k := by
  obtain ⟨a1, a2, a3⟩ := h
  constructor
  · rintro ⟨v, hv⟩
    obtain ⟨t, ht, e⟩ := List.getElem_of_mem hv
    have h1 : ¬ t < i := fun hti => by have := a2 t ht hti; rw [e] at this; exact klt_irrefl _ this
    have h2 : ¬ i < t := fun hit => by
      have h3 := asc_lt ha hit ht
      rw [e] at h3
      exact a3 i (by omega) (Nat.le_refl _) h3
    obtain rfl : t = i := by omega
    exact ⟨ht, by rw [e]⟩
  · rintro ⟨hi, e⟩
    exact ⟨l[i].2, by rw [← e]; exact List.getElem_mem _⟩
/-- a list around a key -/
theorem around {l : List Ent} {k : ByteArray} {i : Nat} (h : Low l k i) (ha : Asc l) : (∀ e ∈ l.take i, klt e.1 k) ∧ (∀ e ∈ l.drop i, e.1 = k ∨ klt k e.1) ∧ (∀ e ∈ l.drop (i + 1), klt k e.1) := by
  obtain ⟨a1, a2, a3⟩ := h
  refine ⟨fun e he => ?_, fun e he => ?_, fun e he => ?_⟩
  · obtain ⟨t, ht, rfl⟩ := List.getElem_of_mem he
    rw [List.length_take] at ht
    rw [List.getElem_take]
    exact a2 t (by omega) (by omega)
  · obtain ⟨t, ht, rfl⟩ := List.getElem_of_mem he
    rw [List.length_drop] at ht
    rw [List.getElem_drop]
    have := a3 (i + t) (by omega) (by omega)
    rcases klt_total (l[i + t]).1 k with h | h | h
    · exact absurd h this
    · exact .inl h
    · exact .inr h
  · obtain ⟨t, ht, rfl⟩ := List.getElem_of_mem he
    rw [List.length_drop] at ht
    rw [List.getElem_drop]
    have h1 := a3 i (by omega) (Nat.le_refl _)
    have h2 := asc_lt ha (show i < i + 1 + t by omega) (by omega)
    rcases klt_total (l[i]'(by omega)).1 k with h | h | h
    · exact absurd h h1
    · rw [h] at h2; exact h2
    · exact klt_trans h h2
/-- a list with a key -/
def put (l : List Ent) (i : Nat) (k v : ByteArray) : List Ent := l.take i ++ ((k, v) :: l.drop (if has' l i k then i + 1 else i))
where has' (l : List Ent) (i : Nat) (k : ByteArray) : Bool := (l[i]?).any fun e => decide (e.1 = k)
/-- a list without a key -/
def del (l : List Ent) (k : ByteArray) : List Ent := l.filter fun e => decide (e.1 ≠ k)
theorem has'_iff {l : List Ent} {i : Nat} {k : ByteArray} : put.has' l i k = true ↔ ∃ hi : i < l.length, l[i].1 = k := by
  unfold put.has'
  by_cases hi : i < l.length
  · rw [List.getElem?_eq_getElem hi]; simp [hi]
  · rw [List.getElem?_eq_none (by omega)]; simp [hi]
theorem mem_put {l : List Ent} {i : Nat} {k v : ByteArray} (h : Low l k i) (ha : Asc l) (e : Ent) : e ∈ put l i k v ↔ e = (k, v) ∨ (e ∈ l ∧ e.1 ≠ k) := by
  obtain ⟨r1, r2, r3⟩ := around h ha
  have hl := List.take_append_drop i l
  unfold put
  rw [List.mem_append, List.mem_cons]
  constructor
  · rintro (he | he | he)
    · exact .inr ⟨List.mem_of_mem_take he, klt_ne (r1 e he)⟩
    · exact .inl he
    · refine .inr ⟨List.mem_of_mem_drop he, ?_⟩
      by_cases hh : put.has' l i k = true
      · rw [if_pos hh] at he
        exact (klt_ne (r3 e he)).symm
      · rw [if_neg hh] at he
        intro hk
        rcases h with ⟨h1, h2, h3⟩
        obtain ⟨t, ht, rfl⟩ := List.getElem_of_mem he
        rw [List.length_drop] at ht
        rw [List.getElem_drop] at hk
        rcases t with _ | t
        · exact hh (has'_iff.2 ⟨by omega, hk⟩)
        · have hm : (l[i + (t + 1)]'(by omega)) ∈ l.drop (i + 1) := by
            rw [List.mem_drop_iff_getElem]
            exact ⟨t, by omega, by congr 1; omega⟩
          have := r3 _ hm
          rw [hk] at this
          exact klt_irrefl _ this
  · rintro (he | ⟨he, hk⟩)
    · exact .inr (.inl he)
    · rw [← hl, List.mem_append] at he
      rcases he with he | he
      · exact .inl he
      · refine .inr (.inr ?_)
        by_cases hh : put.has' l i k = true
        · rw [if_pos hh]
          obtain ⟨hi, hki⟩ := has'_iff.1 hh
          rw [List.drop_eq_getElem_cons hi, List.mem_cons] at he
          rcases he with rfl | he
          · exact absurd hki hk
          · exact he
        · rw [if_neg hh]; exact he
theorem asc_append {a b : List Ent} (ha : Asc a) (hb : Asc b) (h : ∀ x ∈ a, ∀ y ∈ b, klt x.1 y.1) : Asc (a ++ b) := List.pairwise_append.2 ⟨ha, hb, h⟩
theorem asc_put {l : List Ent} {i : Nat} {k v : ByteArray} (h : Low l k i) (ha : Asc l) : Asc (put l i k v) := by
  obtain ⟨r1, r2, r3⟩ := around h ha
  have hmem := fun e => mem_put (v := v) h ha e
  unfold put at hmem ⊢
  have hd : Asc (l.drop (if put.has' l i k then i + 1 else i)) := List.Pairwise.drop ha
  refine asc_append (List.Pairwise.take ha) (List.pairwise_cons.2 ⟨fun e he => ?_, hd⟩) fun x hx y hy => ?_
  · have h1 := (hmem e).1 (by simp [he])
    have h2 : e ∈ l.drop i := by
      by_cases hh : put.has' l i k = true
      · rw [if_pos hh, ← List.drop_drop] at he
        exact List.mem_of_mem_drop he
      · rw [if_neg hh] at he; exact he
    have hne : e.1 ≠ k := by
      by_cases hh : put.has' l i k = true
      · rw [if_pos hh] at he; exact (klt_ne (r3 e he)).symm
      · rw [if_neg hh] at he
        intro hk
        obtain ⟨t, ht, rfl⟩ := List.getElem_of_mem he
        rw [List.length_drop] at ht
        rw [List.getElem_drop] at hk
        rcases t with _ | t
        · exact hh (has'_iff.2 ⟨by omega, hk⟩)
        · have hm : (l[i + (t + 1)]'(by omega)) ∈ l.drop (i + 1) := by
            rw [List.mem_drop_iff_getElem]
            exact ⟨t, by omega, by congr 1; omega⟩
          have := r3 _ hm
          rw [hk] at this
          exact klt_irrefl _ this
    exact (r2 e h2).resolve_left hne
  · rcases List.mem_cons.1 hy with rfl | hy
    · exact r1 x hx
    · have h2 : y ∈ l.drop i := by
        by_cases hh : put.has' l i k = true
        · rw [if_pos hh, ← List.drop_drop] at hy
          exact List.mem_of_mem_drop hy
        · rw [if_neg hh] at hy; exact hy
      rcases r2 y h2 with e | e
      · rw [e]; exact r1 x hx
      · exact klt_trans (r1 x hx) e
theorem ok_put {l : List Ent} {i : Nat} {k v : ByteArray} (h : Low l k i) (ho : Ok l) (hm : may k v) : Ok (put l i k v) := by
  refine ⟨fun e he => ?_, asc_put h ho.2⟩
  rcases (mem_put h ho.2 e).1 he with rfl | ⟨he, _⟩
  · exact hm
  · exact ho.1 e he
theorem mem_del {l : List Ent} {k : ByteArray} (e : Ent) : e ∈ del l k ↔ e ∈ l ∧ e.1 ≠ k := by simp [del]
theorem asc_del {l : List Ent} {k : ByteArray} (h : Asc l) : Asc (del l k) := List.Pairwise.filter _ h
theorem ok_del {l : List Ent} {k : ByteArray} (h : Ok l) : Ok (del l k) := ⟨fun e he => h.1 e ((mem_del e).1 he).1, asc_del h.2⟩
/-- what is cut out -/
theorem del_eq {l : List Ent} {k : ByteArray} {i : Nat} (h : Low l k i) (ha : Asc l) (hi : i < l.length) (hk : l[i].1 = k) : l.take i ++ l.drop (i + 1) = del l k := by
  obtain ⟨r1, r2, r3⟩ := around h ha
  refine asc_ext _ _ ?_ (asc_del ha) fun e => ?_
  · exact asc_append (List.Pairwise.take ha) (List.Pairwise.drop ha) fun x hx y hy => klt_trans (r1 x hx) (r3 y hy)
  · rw [mem_del, List.mem_append]
    constructor
    · rintro (he | he)
      · exact ⟨List.mem_of_mem_take he, klt_ne (r1 e he)⟩
      · exact ⟨List.mem_of_mem_drop he, (klt_ne (r3 e he)).symm⟩
    · rintro ⟨he, hne⟩
      rw [← List.take_append_drop i l, List.mem_append, List.drop_eq_getElem_cons hi, List.mem_cons] at he
      rcases he with he | rfl | he
      · exact .inl he
      · exact absurd hk hne
      · exact .inr he
theorem del_none {l : List Ent} {k : ByteArray} (h : ¬ has l k) : del l k = l := by
  unfold del
  refine List.filter_eq_self.2 fun e he => ?_
  rw [decide_eq_true_eq]
  intro hk
  exact h ⟨e.2, by rw [← hk]; exact he⟩
/-- the document's put -/
def insert (k v : ByteArray) : List Ent → List Ent
  | [] => [(k, v)]
  | e :: l => if klt k e.1 then (k, v) :: e :: l else e :: insert k v l
theorem mem_insert (k v : ByteArray) (l : List Ent) (e : Ent) : e ∈ insert k v l ↔ e = (k, v) ∨ e ∈ l := by
  induction l with
  | nil => simp [insert]
  | cons x l ih =>
    unfold insert
    split
    · simp
    · rw [List.mem_cons, ih, List.mem_cons]
      constructor
      · rintro (h | h | h)
        · exact .inr (.inl h)
        · exact .inl h
        · exact .inr (.inr h)
      · rintro (h | h | h)
        · exact .inr (.inl h)
        · exact .inl h
        · exact .inr (.inr h)
theorem asc_insert {k v : ByteArray} {l : List Ent} (h : Asc l) (hk : ∀ e ∈ l, e.1 ≠ k) : Asc (insert k v l) := by
  induction l with
  | nil => exact List.pairwise_singleton _ _
  | cons x l ih =>
    obtain ⟨h1, h2⟩ := List.pairwise_cons.1 h
    unfold insert
    split
    · rename_i hx
      exact List.pairwise_cons.2 ⟨fun e he => by
        rcases List.mem_cons.1 he with rfl | he
        · exact hx
        · exact klt_trans hx (h1 e he), h⟩
    · rename_i hx
      refine List.pairwise_cons.2 ⟨fun e he => ?_, ih h2 fun e he => hk e (by simp [he])⟩
      rcases (mem_insert k v l e).1 he with rfl | he
      · exact klt_of_not hx (hk x (by simp)).symm
      · exact h1 e he
theorem put_ref {l : List Ent} {i : Nat} {k v : ByteArray} (h : Low l k i) (ha : Asc l) : put l i k v = insert k v (del l k) := by
  refine asc_ext _ _ (asc_put h ha) (asc_insert (asc_del ha) fun e he => ((mem_del e).1 he).2) fun e => ?_
  rw [mem_put h ha, mem_insert, mem_del]
/-- a text with its length ahead; a list's bytes -/
def tbl (s : ByteArray) : List UInt8 := UInt8.ofNat s.size :: bt s
def enc (l : List Ent) : List UInt8 := l.flatMap fun e => tbl e.1 ++ tbl e.2
def Fits (l : List Ent) : Prop := ∀ e ∈ l, e.1.size ≤ 255 ∧ e.2.size ≤ 255
theorem bt_len (s : ByteArray) : (bt s).length = s.size := by simp [bt]
theorem tbl_len (s : ByteArray) : (tbl s).length = s.size + 1 := by rw [tbl, List.length_cons, bt_len]
theorem tbl_inj {s t : ByteArray} {a b : List UInt8} (hs : s.size ≤ 255) (ht : t.size ≤ 255) (h : tbl s ++ a = tbl t ++ b) : s = t ∧ a = b := by
  unfold tbl at h
  rw [List.cons_append, List.cons_append, List.cons.injEq] at h
  obtain ⟨h1, h2⟩ := h
  have h3 : s.size = t.size := by
    have := congrArg UInt8.toNat h1
    rw [UInt8.toNat_ofNat', UInt8.toNat_ofNat'] at this
    omega
  obtain ⟨h4, h5⟩ := List.append_inj h2 (by rw [bt_len, bt_len, h3])
  exact ⟨bt_inj h4, h5⟩
theorem enc_cons (e : Ent) (l : List Ent) : enc (e :: l) = tbl e.1 ++ (tbl e.2 ++ enc l) := by simp [enc]
theorem enc_append (a b : List Ent) : enc (a ++ b) = enc a ++ enc b := by simp [enc]
theorem enc_inj : ∀ {a b : List Ent}, Fits a → Fits b → enc a = enc b → a = b
  | [], [], _, _, _ => rfl
  | [], e :: b, _, _, h => by rw [enc_cons] at h; simp [enc, tbl] at h
  | e :: a, [], _, _, h => by rw [enc_cons] at h; simp [enc, tbl] at h
  | e :: a, f :: b, ha, hb, h => by
    rw [enc_cons, enc_cons] at h
    obtain ⟨h1, h2⟩ := tbl_inj (ha e (by simp)).1 (hb f (by simp)).1 h
    obtain ⟨h3, h4⟩ := tbl_inj (ha e (by simp)).2 (hb f (by simp)).2 h2
    have := enc_inj (fun x hx => ha x (by simp [hx])) (fun x hx => hb x (by simp [hx])) h4
    rw [this]
    congr 1
    exact Prod.ext h1 h3
/-- a list of which bytes are just that -/
def Dec (b : List UInt8) (l : List Ent) : Prop := Fits l ∧ enc l = b
theorem dec_inj {b : List UInt8} {l m : List Ent} (h : Dec b l) (k : Dec b m) : l = m := enc_inj h.1 k.1 (h.2.trans k.2.symm)
theorem ok_fits {l : List Ent} (h : Ok l) : Fits l := fun e he => by
  have := h.1 e he
  unfold may at this
  omega
/-- how many bytes entries take -/
def sz (l : List Ent) : Nat := (l.map fun e => 2 + e.1.size + e.2.size).sum
theorem sz_append (a b : List Ent) : sz (a ++ b) = sz a + sz b := by simp [sz]
theorem sz_cons (e : Ent) (l : List Ent) : sz (e :: l) = 2 + e.1.size + e.2.size + sz l := by simp [sz]
theorem enc_len (l : List Ent) : (enc l).length = sz l := by
  induction l with
  | nil => rfl
  | cons e l ih => rw [enc_cons, List.length_append, List.length_append, tbl_len, tbl_len, ih, sz_cons]; omega
theorem sz_take_le (l : List Ent) (k : Nat) : sz (l.take k) ≤ sz l := by
  have := sz_append (l.take k) (l.drop k)
  rw [List.take_append_drop] at this
  omega
theorem sz_snoc (l : List Ent) (k : Nat) (h : k < l.length) : sz (l.take (k + 1)) = sz (l.take k) + (2 + l[k].1.size + l[k].2.size) := by
  rw [List.take_succ_eq_append_getElem h, sz_append, sz_cons]; rfl
/-- where to cut a list in two -/
def Half (l : List Ent) (k : Nat) : Prop := (l.length < 2 ∧ k = 0) ∨ (1 ≤ k ∧ k < l.length ∧ (sz l ≤ 2 * sz (l.take k) ∨ k + 1 = l.length) ∧ ∀ j, 1 ≤ j → j < k → 2 * sz (l.take j) < sz l)
theorem half_unique {l : List Ent} {i j : Nat} (h : Half l i) (k : Half l j) : i = j := by
  rcases h with ⟨h1, h2⟩ | ⟨h1, h2, h3, h4⟩ <;> rcases k with ⟨k1, k2⟩ | ⟨k1, k2, k3, k4⟩
  · omega
  · omega
  · omega
  · rcases Nat.lt_trichotomy i j with h | h | h
    · have := k4 i h1 h; omega
    · exact h
    · have := h4 j k1 h; omega
/-- what a key's value is -/
theorem get_unique {l : List Ent} (h : Asc l) {k v v' : ByteArray} (hv : (k, v) ∈ l) (hv' : (k, v') ∈ l) : v = v' := by
  obtain ⟨i, hi, e⟩ := List.getElem_of_mem hv
  obtain ⟨j, hj, e'⟩ := List.getElem_of_mem hv'
  rcases Nat.lt_trichotomy i j with h1 | h1 | h1
  · have := asc_lt h h1 hj; rw [e, e'] at this; exact absurd this (klt_irrefl _)
  · subst h1
    have := e.symm.trans e'
    exact (Prod.mk.inj this).2
  · have := asc_lt h h1 hi; rw [e, e'] at this; exact absurd this (klt_irrefl _)
theorem ok_take_succ {l : List Ent} {k : Nat} (h : k < l.length) : Ok (l.take (k + 1)) ↔ Ok (l.take k) ∧ may l[k].1 l[k].2 ∧ (0 < k → klt (l[k - 1]'(by omega)).1 l[k].1) := by
  unfold Ok
  rw [asc_iff, asc_iff, List.take_succ_eq_append_getElem h]
  have hl : (l.take k ++ [l[k]]).length = k + 1 := by rw [List.length_append, List.length_take, List.length_singleton]; omega
  have hl2 : (l.take k).length = k := by rw [List.length_take]; omega
  have hg : ∀ i (hi : i < (l.take k ++ [l[k]]).length), (l.take k ++ [l[k]])[i] = l[i]'(by omega) := fun i hi => by
    rcases Nat.lt_or_ge i k with h1 | h1
    · rw [List.getElem_append_left (by omega), List.getElem_take]
    · obtain rfl : i = k := by omega
      rw [List.getElem_append_right (by omega)]; simp
  constructor
  · rintro ⟨h1, h2⟩
    refine ⟨⟨fun e he => h1 e (List.mem_append.2 (.inl he)), fun i hi => ?_⟩, h1 _ (List.mem_append.2 (.inr (List.mem_singleton.2 rfl))), fun hk => ?_⟩
    · have := h2 i (by omega)
      rw [hg, hg] at this
      rw [List.getElem_take, List.getElem_take]; exact this
    · have := h2 (k - 1) (by omega)
      rw [hg, hg] at this
      simpa [Nat.sub_add_cancel hk] using this
  · rintro ⟨⟨h1, h2⟩, h3, h4⟩
    refine ⟨fun e he => ?_, fun i hi => ?_⟩
    · rcases List.mem_append.1 he with he | he
      · exact h1 e he
      · rw [List.mem_singleton.1 he]; exact h3
    · rw [hg, hg]
      rcases Nat.lt_or_ge (i + 1) k with h5 | h5
      · have := h2 i (by omega)
        rw [List.getElem_take, List.getElem_take] at this; exact this
      · obtain rfl : k = i + 1 := by omega
        exact h4 (by omega)
theorem ok_take {l : List Ent} (h : Ok l) (k : Nat) : Ok (l.take k) := ⟨fun e he => h.1 e (List.mem_of_mem_take he), List.Pairwise.take h.2⟩
end Go.Proofs.Ytifdglehfhoecaa.M

/-
  The reader of bytes: what each of its methods does, of every state. Conditions: none.
-/
namespace Go.Proofs.Ytifdglehfhoecaa.C
open Go.RowKit B
/-- the reader's block: what is left, the first error -/
def Rd (w : World) (a : Nat) (s : ByteArray) (e : Int) : Prop := w.heap[a]? = some (.cells #[.string s, .int .i64 e] 97 (0, 0))
theorem Rd.c0 {w : World} {a : Nat} {s : ByteArray} {e : Int} (h : Rd w a s e) : w.cell? ⟨a, 0, none⟩ = some (.string s) := by rw [blk_cell h]; rfl
theorem Rd.c1 {w : World} {a : Nat} {s : ByteArray} {e : Int} (h : Rd w a s e) : w.cell? ⟨a, 1, none⟩ = some (.int .i64 e) := by rw [blk_cell h]; rfl
theorem Rd.f {w : World} {a : Nat} {s : ByteArray} {e : Int} (h : Rd w a s e) (j : Nat) : w.frozen? ⟨a, j, none⟩ = false := blk_free h j
theorem Rd.lt {w : World} {a : Nat} {s : ByteArray} {e : Int} (h : Rd w a s e) : a < w.heap.size := lt_of_blk h
theorem Rd.below {w w' : World} {a : Nat} {s : ByteArray} {e : Int} (h : Rd w a s e) (hb : Below w.heap.size w w') : Rd w' a s e := blk_below h hb
theorem Rd.only {w w' : World} {a g : Nat} {s : ByteArray} {e : Int} (h : Rd w a s e) (hb : Only g w w') (hn : a ≠ g) : Rd w' a s e := hb.blk h hn
theorem Rd.set0 {w : World} {a : Nat} {s : ByteArray} {e : Int} (h : Rd w a s e) (s' : ByteArray) : Rd (w.setCell ⟨a, 0, none⟩ (.string s')) a s' e := blk_set h 0 _
theorem Rd.set1 {w : World} {a : Nat} {s : ByteArray} {e : Int} (h : Rd w a s e) (e' : Int) : Rd (w.setCell ⟨a, 1, none⟩ (.int .i64 e')) a s e' := blk_set h 1 _

theorem read_any (s : ByteArray) (w : World) :
    Calls Try.prog 23 #[.string s] w fun e w' => (e = .returned (.pointer (some ⟨w.heap.size, 0, none⟩))) ∧ Rd w' w.heap.size s 0 ∧ Below w.heap.size w w' := by
  go_enter Try.func23, Try.ntmps23
  go_wp2
  go_ret
  refine ⟨rfl, blk_new _ _, (Below.refl _ _).alloc (Nat.le_refl _) _⟩

def failE (e k : Int) : Int := if e = 0 then k else e
theorem fail_any (a : Nat) (s : ByteArray) (e k : Int) (w : World) (h : Rd w a s e) :
    Calls Try.prog 71 #[.pointer (some ⟨a, 0, none⟩), .int .i64 k] w fun r w' => r = .returned (.tuple #[]) ∧ Rd w' a s (failE e k) ∧ Only a w w' := by
  have c1 := h.c1
  have f1 := h.f 1
  by_cases he : e = 0
  · subst he
    go_enter Try.func71, Try.ntmps71
    go_wp2
    go_end0
    exact ⟨rfl, h.set1 k, Only.set _ _ _⟩
  · have hb : (e == 0) = false := beq_eq_false_iff_ne.2 he
    have H := Lib.hid he; clear he
    go_enter Try.func71, Try.ntmps71
    go_wp2
    go_end0
    exact ⟨rfl, by rw [failE, if_neg H.out]; exact h, Only.refl _ _⟩
theorem left_any (a : Nat) (s : ByteArray) (e : Int) (w : World) (h : Rd w a s e) :
    Calls Try.prog 25 #[.pointer (some ⟨a, 0, none⟩)] w fun r w' => r = .returned (.int .i64 (s.size : Int)) ∧ w = w' := by
  have c0 := h.c0
  go_enter Try.func25, Try.ntmps25
  go_wp2
  go_ret
  exact ⟨rfl, rfl⟩
theorem err_any (a : Nat) (s : ByteArray) (e : Int) (w : World) (h : Rd w a s e) :
    Calls Try.prog 26 #[.pointer (some ⟨a, 0, none⟩)] w fun r w' => r = .returned (.int .i64 e) ∧ w = w' := by
  have c1 := h.c1
  go_enter Try.func26, Try.ntmps26
  go_wp2
  go_ret
  exact ⟨rfl, rfl⟩
def bytesE (s : ByteArray) (e n : Int) : Int := failE e (if n < 0 then 1 else if (s.size : Int) < n then 10 else 0)
def bytesO (s : ByteArray) (e n : Int) : ByteArray := if bytesE s e n = 0 then s.extract 0 n.toNat else ByteArray.empty
def bytesS (s : ByteArray) (e n : Int) : ByteArray := if bytesE s e n = 0 then s.extract n.toNat s.size else s
set_option maxHeartbeats 400000 in
theorem bytes_err (a : Nat) (s : ByteArray) (e n : Int) (w : World) (h : Rd w a s e) (hE : bytesE s e n ≠ 0) :
    Calls Try.prog 24 #[.pointer (some ⟨a, 0, none⟩), .int .i64 n] w fun r w' => r = .returned (.string ByteArray.empty) ∧ Rd w' a s (bytesE s e n) ∧ Only a w w' := by
  have c0 := h.c0
  have hne : ((bytesE s e n) == 0) = false := beq_eq_false_iff_ne.2 hE
  by_cases h1 : n < 0
  · have e1 : bytesE s e n = failE e 1 := by rw [bytesE, if_pos h1]
    rw [e1] at hne hE ⊢
    have HE := Lib.hid hE; clear hE e1
    go_enter Try.func24, Try.ntmps24
    go_wp2_with fail
    refine (fail_any a s e 1 _ h).mono ?_
    rintro r w1 ⟨rfl, hr, ho⟩
    have c1 := hr.c1
    go_wp2
    go_ret
    exact ⟨rfl, hr, ho⟩
  · by_cases h2 : (s.size : Int) < n
    · have e1 : bytesE s e n = failE e 10 := by rw [bytesE, if_neg h1, if_pos h2]
      rw [e1] at hne hE ⊢
      have HE := Lib.hid hE; clear hE e1
      go_enter Try.func24, Try.ntmps24
      go_wp2_with fail
      refine (fail_any a s e 10 _ h).mono ?_
      rintro r w1 ⟨rfl, hr, ho⟩
      have c1 := hr.c1
      go_wp2
      go_ret
      exact ⟨rfl, hr, ho⟩
    · have e1 : bytesE s e n = failE e 0 := by rw [bytesE, if_neg h1, if_neg h2]
      have e2 : failE e 0 = e := by unfold failE; split <;> omega
      rw [e1, e2] at hne hE ⊢
      have HE := Lib.hid hE; clear hE e1 e2
      have c1 := h.c1
      go_enter Try.func24, Try.ntmps24
      go_wp2
      go_ret
      exact ⟨rfl, h, Only.refl _ _⟩
set_option maxHeartbeats 400000 in
theorem bytes_ok (a : Nat) (s : ByteArray) (n : Nat) (w : World) (h : Rd w a s 0) (hn : n ≤ s.size) :
    Calls Try.prog 24 #[.pointer (some ⟨a, 0, none⟩), .int .i64 (n : Int)] w fun r w' => r = .returned (.string (s.extract 0 n)) ∧ Rd w' a (s.extract n s.size) 0 ∧ Only a w w' := by
  have c0 := h.c0
  have c1 := h.c1
  have f0 := h.f 0
  go_enter Try.func24, Try.ntmps24
  go_wp2
  go_ret
  exact ⟨rfl, h.set0 _, Only.set _ _ _⟩
theorem bytes_any (a : Nat) (s : ByteArray) (e n : Int) (w : World) (h : Rd w a s e) :
    Calls Try.prog 24 #[.pointer (some ⟨a, 0, none⟩), .int .i64 n] w fun r w' => r = .returned (.string (bytesO s e n)) ∧ Rd w' a (bytesS s e n) (bytesE s e n) ∧ Only a w w' := by
  by_cases hE : bytesE s e n = 0
  · have h0 : e = 0 ∧ 0 ≤ n ∧ n ≤ s.size := by
      unfold bytesE failE at hE
      by_cases he : e = 0
      · rw [if_pos he] at hE
        by_cases h1 : n < 0
        · rw [if_pos h1] at hE; omega
        · rw [if_neg h1] at hE
          by_cases h2 : (s.size : Int) < n
          · rw [if_pos h2] at hE; omega
          · omega
      · rw [if_neg he] at hE; omega
    obtain ⟨rfl, h1, h2⟩ := h0
    obtain ⟨m, rfl⟩ := Int.eq_ofNat_of_zero_le h1
    rw [bytesO, bytesS, if_pos hE, if_pos hE, hE]
    exact bytes_ok a s m w h (by omega)
  · rw [bytesO, bytesS, if_neg hE, if_neg hE]
    exact bytes_err a s e n w h hE
end Go.Proofs.Ytifdglehfhoecaa.C

/-
  The reader's numbers and texts, and what is wrong at its end. Conditions: none.
-/
namespace Go.Proofs.Ytifdglehfhoecaa.C
open Go.RowKit B
/-- may numbers have so many bytes? -/
def szd (z : Int) : Prop := z = 1 ∨ z = 2 ∨ z = 4
instance (z : Int) : Decidable (szd z) := by unfold szd; exact inferInstance
theorem sized_any (z : Int) (w : World) : Calls Try.prog 69 #[.int .i64 z] w fun r w' => r = .returned (.bool (decide (szd z))) ∧ w = w' := by
  by_cases h1 : z = 1
  · subst h1
    go_enter Try.func69, Try.ntmps69
    go_wp2
    go_ret
    exact ⟨rfl, rfl⟩
  · have b1 : (z == 1) = false := beq_eq_false_iff_ne.2 h1
    by_cases h2 : z = 2
    · subst h2
      go_enter Try.func69, Try.ntmps69
      go_wp2
      go_ret
      exact ⟨rfl, rfl⟩
    · have b2 : (z == 2) = false := beq_eq_false_iff_ne.2 h2
      by_cases h4 : z = 4
      · subst h4
        go_enter Try.func69, Try.ntmps69
        go_wp2
        go_ret
        exact ⟨rfl, rfl⟩
      · have b4 : (z == 4) = false := beq_eq_false_iff_ne.2 h4
        have H : decide (szd z) = false := by simp [szd, h1, h2, h4]
        have H' := Lib.hid H; clear H h1 h2 h4
        go_enter Try.func69, Try.ntmps69
        go_wp2
        go_ret
        exact ⟨by rw [H'.out]; rfl, rfl⟩
theorem sized_yes (z : Int) (w : World) (h : szd z) : Calls Try.prog 69 #[.int .i64 z] w fun r w' => r = .returned (.bool true) ∧ w = w' := by
  have := sized_any z w; rwa [decide_eq_true h] at this
theorem sized_no (z : Int) (w : World) (h : ¬ szd z) : Calls Try.prog 69 #[.int .i64 z] w fun r w' => r = .returned (.bool false) ∧ w = w' := by
  have := sized_any z w; rwa [decide_eq_false h] at this
/-- the number of bytes, the greatest first -/
def be (l : List UInt8) : Nat := l.foldl (fun n c => n * 256 + c.toNat) 0
theorem be_snoc (l : List UInt8) (c : UInt8) : be (l ++ [c]) = be l * 256 + c.toNat := by simp [be]
theorem be_fold_lt (l : List UInt8) : ∀ n : Nat, l.foldl (fun n c => n * 256 + c.toNat) n < (n + 1) * 256 ^ l.length := by
  induction l with
  | nil => intro n; simp
  | cons c l ih =>
    intro n
    have h1 := ih (n * 256 + c.toNat)
    have h2 := c.toNat_lt
    have h3 : (n * 256 + c.toNat + 1) * 256 ^ l.length ≤ ((n + 1) * 256) * 256 ^ l.length := Nat.mul_le_mul_right _ (by omega)
    rw [List.foldl_cons, List.length_cons, Nat.pow_succ, Nat.mul_comm (256 ^ l.length) 256, ← Nat.mul_assoc]
    omega
theorem be_lt (l : List UInt8) : be l < 256 ^ l.length := by
  have := be_fold_lt l 0
  simpa [be] using this
def intE (s : ByteArray) (e z : Int) : Int := if szd z then bytesE s e z else failE e 1
def intO (s : ByteArray) (e z : Int) : Nat := if szd z then be (bts (bytesO s e z)) else 0
def intS (s : ByteArray) (e z : Int) : ByteArray := if szd z then bytesS s e z else s
theorem ofInt_i64 (a : Nat) (ha : a < 9223372036854775808) : (BitVec.ofInt 64 (a : Int)).toNat = a := by
  rw [BitVec.ofInt_natCast, BitVec.toNat_ofNat]; exact Nat.mod_eq_of_lt (by omega)
theorem or_bytes (n c : Nat) (hc : c < 256) : n * 256 ||| c = n * 256 + c := by
  have := Nat.two_pow_add_eq_or_of_lt (i := 8) (b := c) (by omega) n
  rw [Nat.mul_comm]; exact this.symm
theorem i64_or_byte (n c : Nat) (hn : n * 256 < 9223372036854775808) (hc : c < 256) : bits .or .i64 ((n : Int) * 256) (c : Int) = ((n * 256 + c : Nat) : Int) := by
  rw [show ((n : Int) * 256) = ((n * 256 : Nat) : Int) by omega]
  have hx : n * 256 ||| c < 2 ^ 63 := Nat.or_lt_two_pow (by omega) (by omega)
  show IntKind.i64.wrap ((BitVec.ofInt 64 ((n * 256 : Nat) : Int) ||| BitVec.ofInt 64 (c : Int)).toNat : Int) = _
  rw [BitVec.toNat_or, ofInt_i64 _ hn, ofInt_i64 c (by omega), or_bytes n c hc, IntKind.wrap_i64]
  rw [or_bytes n c hc] at hx
  omega
theorem bytesO_size (s : ByteArray) (e z : Int) (hz : szd z) : (bytesO s e z).size ≤ 4 := by
  unfold bytesO
  split
  · have : (s.extract 0 z.toNat).size = min z.toNat s.size := by simp
    rcases hz with rfl | rfl | rfl <;> omega
  · simp
set_option maxHeartbeats 400000 in
theorem int_yes (a : Nat) (s : ByteArray) (e z : Int) (w : World) (h : Rd w a s e) (hz : szd z) :
    Calls Try.prog 27 #[.pointer (some ⟨a, 0, none⟩), .int .i64 z] w fun r w' => r = .returned (.int .i64 (be (bts (bytesO s e z)) : Nat)) ∧ Rd w' a (bytesS s e z) (bytesE s e z) ∧ Only a w w' := by
  have hcv := fun w s => run_bytes_of_string (P := Try.prog) w 9 30 5 s Try.underlying9 Try.underlying30 Try.underlying5
  have HZ := Lib.hid hz; clear hz
  have hsz := bytesO_size s e z HZ.out
  have h0 := bytes_any a s e z w h
  obtain ⟨o, ho⟩ : ∃ o, bytesO s e z = o := ⟨_, rfl⟩
  rw [ho] at h0 hsz ⊢
  clear ho
  have H0 := Lib.hid h0; clear h0
  go_enter Try.func27, Try.ntmps27
  go_wp2_with fail
  refine (sized_yes z _ HZ.out).mono ?_
  rintro r w1 ⟨rfl, rfl⟩
  go_wp2_with fail
  refine H0.out.mono ?_
  rintro r w1 ⟨rfl, hr, ho⟩
  go_wp2
  obtain ⟨wo, hwo, hb2, hby⟩ := bytes_world w1 o (grownCap w1 o.size 0 5) 5 ((bytesRow o (grownCap w1 o.size 0 5)).size, (bytesRow o (grownCap w1 o.size 0 5)).size + 1)
  rw [hwo]; clear hwo
  have hr2 := hr.below hb2
  have ho2 := ho.trans (Only.below hb2)
  clear hr ho hb2
  go_loop [5, 7, 18] (fun n c i => ∃ j N : Nat, j ≤ o.size ∧ i = .int .i64 j ∧ n = .int .i64 N ∧ N = be ((bts o).take j)) (fun _ _ i => o.size - (intOf i).toNat)
  case atStart => exact ⟨0, 0, by omega, rfl, rfl, by simp [be]⟩
  case round =>
    obtain ⟨j, N, hj, rfl, rfl, hN⟩ := hrel
    by_cases hlt : j < o.size
    · have hbj := hby j hlt
      have hl := be_lt ((bts o).take j)
      have hl2 : ((bts o).take j).length ≤ 3 := by rw [List.length_take]; omega
      have hl3 : 256 ^ ((bts o).take j).length ≤ 256 ^ 3 := Nat.pow_le_pow_right (by omega) hl2
      have hNlt : N < 16777216 := by rw [hN]; omega
      have ec := (o[j]).toNat_lt
      have e1 := i64_or_byte N (o[j]).toNat (by omega) ec
      have HN := Lib.hid hN; clear hN hl hl2 hl3
      go_wp2
      go_round
      case rel => exact ⟨j + 1, N * 256 + (o[j]).toNat, by omega, by go_num, rfl, by rw [take_snoc o j hlt, be_snoc, ← HN.out]⟩
      case measure => simp [intOf]; omega
    · have hjo : j = o.size := by omega
      have HJ := Lib.hid hjo; clear hjo
      have HN := Lib.hid hN; clear hN
      go_wp2
      go_ret
      exact ⟨ret_int (by rw [HN.out, HJ.out, List.take_of_length_le (by simp)]), hr2, ho2⟩
theorem int_any (a : Nat) (s : ByteArray) (e z : Int) (w : World) (h : Rd w a s e) :
    Calls Try.prog 27 #[.pointer (some ⟨a, 0, none⟩), .int .i64 z] w fun r w' => r = .returned (.int .i64 (intO s e z : Nat)) ∧ Rd w' a (intS s e z) (intE s e z) ∧ Only a w w' := by
  by_cases hz : szd z
  · rw [intO, intS, intE, if_pos hz, if_pos hz, if_pos hz]
    exact int_yes a s e z w h hz
  · rw [intO, intS, intE, if_neg hz, if_neg hz, if_neg hz]
    have HZ := Lib.hid hz; clear hz
    go_enter Try.func27, Try.ntmps27
    go_wp2_with fail
    refine (sized_no z _ HZ.out).mono ?_
    rintro r w1 ⟨rfl, rfl⟩
    go_wp2_with fail
    refine (fail_any a s e 1 _ h).mono ?_
    rintro r w1 ⟨rfl, hr, ho⟩
    go_wp2
    go_ret
    exact ⟨rfl, hr, ho⟩
/-- the next text: its length, its bytes -/
def textN (s : ByteArray) (e : Int) : Int := (intO s e 1 : Nat)
def textE (s : ByteArray) (e : Int) : Int := bytesE (intS s e 1) (intE s e 1) (textN s e)
def textO (s : ByteArray) (e : Int) : ByteArray := bytesO (intS s e 1) (intE s e 1) (textN s e)
def textS (s : ByteArray) (e : Int) : ByteArray := bytesS (intS s e 1) (intE s e 1) (textN s e)
theorem text_any (a : Nat) (s : ByteArray) (e : Int) (w : World) (h : Rd w a s e) :
    Calls Try.prog 28 #[.pointer (some ⟨a, 0, none⟩)] w fun r w' => r = .returned (.string (textO s e)) ∧ Rd w' a (textS s e) (textE s e) ∧ Only a w w' := by
  go_enter Try.func28, Try.ntmps28
  go_wp2_with fail
  refine (int_any a s e 1 _ h).mono ?_
  rintro r w1 ⟨rfl, hr, ho⟩
  go_wp2_with fail
  refine (bytes_any a _ _ (intO s e 1 : Nat) _ hr).mono ?_
  rintro r w2 ⟨rfl, hr2, ho2⟩
  go_wp2
  go_ret
  exact ⟨rfl, hr2, ho.trans ho2⟩
def endE (s : ByteArray) (e : Int) : Int := if s.size = 0 then e else failE e 11
theorem end_any (a : Nat) (s : ByteArray) (e : Int) (w : World) (h : Rd w a s e) :
    Calls Try.prog 29 #[.pointer (some ⟨a, 0, none⟩)] w fun r w' => r = .returned (.int .i64 (endE s e)) ∧ Below w.heap.size w w' := by
  have c0 := h.c0
  have c1 := h.c1
  by_cases hs : s.size = 0
  · have h0 := size_zero hs
    subst h0
    go_enter Try.func29, Try.ntmps29
    go_wp2
    go_ret
    exact ⟨rfl, Below.refl _ _⟩
  · have hb := str_ne_nil hs
    have HS := Lib.hid hs; clear hs
    go_enter Try.func29, Try.ntmps29
    go_wp2_with fail
    refine (fail_any w.heap.size ByteArray.empty e 11 _ (blk_new _ _)).mono ?_
    rintro r w1 ⟨rfl, hr, ho⟩
    have hb1 : Below w.heap.size w w1 := ((Below.refl _ w).alloc (Nat.le_refl _) _).trans (ho.to_below (Nat.le_refl _) (by simp))
    have c2 := hr.c1
    go_wp2
    go_ret
    exact ⟨ret_int (by rw [endE, if_neg HS.out]), hb1⟩
end Go.Proofs.Ytifdglehfhoecaa.C

/-
  Reading texts with their lengths ahead, as plain lists, and what the reader's next text is. Conditions: none. No walk is here.
-/
namespace Go.Proofs.Ytifdglehfhoecaa.M
theorem enc_prefix : ∀ {a l : List Ent} {r : List UInt8}, Fits a → Fits l → enc l = enc a ++ r → ∃ l', l = a ++ l' ∧ enc l' = r ∧ Fits l'
  | [], l, r, _, hl, h => ⟨l, rfl, by simpa [enc] using h, hl⟩
  | e :: a, [], r, _, _, h => by rw [enc_cons] at h; simp [enc, tbl] at h
  | e :: a, f :: l, r, ha, hl, h => by
    rw [enc_cons, enc_cons, List.append_assoc, List.append_assoc] at h
    obtain ⟨h1, h2⟩ := tbl_inj (hl f (by simp)).1 (ha e (by simp)).1 h
    obtain ⟨h3, h4⟩ := tbl_inj (hl f (by simp)).2 (ha e (by simp)).2 h2
    obtain ⟨l', h5, h6, h7⟩ := enc_prefix (a := a) (l := l) (r := r) (fun x hx => ha x (by simp [hx])) (fun x hx => hl x (by simp [hx])) h4
    exact ⟨l', by rw [h5, List.cons_append]; congr 1; exact Prod.ext h1 h3, h6, h7⟩
/-- what is left is no entry -/
theorem no_dec {body s : List UInt8} {acc : List Ent} (ha : Fits acc) (hb : body = enc acc ++ s) (hs : s ≠ []) (hn : ∀ k v r, k.size ≤ 255 → v.size ≤ 255 → s ≠ tbl k ++ (tbl v ++ r)) : ∀ l, ¬ Dec body l := by
  rintro l ⟨h1, h2⟩
  obtain ⟨l', h3, h4, h5⟩ := enc_prefix ha h1 (h2.trans hb)
  rcases l' with _ | ⟨e, l'⟩
  · exact hs (by rw [← h4]; rfl)
  · rw [enc_cons] at h4
    exact hn e.1 e.2 _ (h5 e (by simp)).1 (h5 e (by simp)).2 h4.symm
theorem fits_snoc {a : List Ent} {k v : ByteArray} (h : Fits a) (hk : k.size ≤ 255) (hv : v.size ≤ 255) : Fits (a ++ [(k, v)]) := fun e he => by
  rcases List.mem_append.1 he with he | he
  · exact h e he
  · rw [List.mem_singleton.1 he]; exact ⟨hk, hv⟩
theorem enc_snoc2 (a : List Ent) (k v : ByteArray) : enc (a ++ [(k, v)]) = enc a ++ (tbl k ++ tbl v) := by rw [enc_append]; simp [enc]
end Go.Proofs.Ytifdglehfhoecaa.M
namespace Go.Proofs.Ytifdglehfhoecaa.C
open Go.RowKit B
theorem be_one (c : UInt8) : be [c] = c.toNat := by simp [be]
theorem len_pos_of {s : ByteArray} {c : UInt8} {t : List UInt8} (h : bts s = c :: t) : s.size = t.length + 1 := by rw [← bts_len, h]; rfl
theorem b1_yes {s : ByteArray} {c : UInt8} {t : List UInt8} (h : bts s = c :: t) : bytesE s 0 1 = 0 ∧ bts (bytesO s 0 1) = [c] ∧ bts (bytesS s 0 1) = t := by
  have hl := len_pos_of h
  have h0 : bytesE s 0 1 = 0 := by
    unfold bytesE failE
    rw [if_pos rfl, if_neg (by omega), if_neg (by omega)]
  refine ⟨h0, ?_, ?_⟩
  · rw [bytesO, if_pos h0, bts_extract, h]; rfl
  · rw [bytesS, if_pos h0, bts_extract, h]
    show List.drop 1 (List.take s.size (c :: t)) = t
    rw [hl, List.take_succ_cons, List.take_length]; rfl
theorem i1_yes {s : ByteArray} {c : UInt8} {t : List UInt8} (h : bts s = c :: t) : intE s 0 1 = 0 ∧ intO s 0 1 = c.toNat ∧ bts (intS s 0 1) = t := by
  have hz : szd 1 := .inl rfl
  obtain ⟨h1, h2, h3⟩ := b1_yes h
  exact ⟨by rw [intE, if_pos hz, h1], by rw [intO, if_pos hz, h2, be_one], by rw [intS, if_pos hz, h3]⟩
theorem i1_no {s : ByteArray} (h : s.size = 0) : intE s 0 1 ≠ 0 := by
  have hz : szd 1 := .inl rfl
  rw [intE, if_pos hz]
  unfold bytesE failE
  rw [if_pos rfl, if_neg (by omega), if_pos (by omega)]
  omega
theorem bytesE_ne {s : ByteArray} {e n : Int} (h : e ≠ 0) : bytesE s e n = e := by unfold bytesE failE; rw [if_neg h]
theorem intE_ne {s : ByteArray} {e : Int} (h : e ≠ 0) : intE s e 1 = e := by rw [intE, if_pos (.inl rfl), bytesE_ne h]
theorem textE_ne {s : ByteArray} {e : Int} (h : e ≠ 0) : textE s e = e := by unfold textE; rw [intE_ne h, bytesE_ne h]
/-- the next text is there -/
theorem text_yes {s : ByteArray} {c : UInt8} {t : List UInt8} (h : bts s = c :: t) (hn : c.toNat ≤ t.length) : textE s 0 = 0 ∧ (textO s 0).size = c.toNat ∧ bts s = M.tbl (textO s 0) ++ bts (textS s 0) := by
  obtain ⟨h1, h2, h3⟩ := i1_yes h
  have hl : (intS s 0 1).size = t.length := by rw [← bts_len, h3]
  have h0 : bytesE (intS s 0 1) 0 (c.toNat : Nat) = 0 := by
    unfold bytesE failE
    rw [if_pos rfl, if_neg (by omega), if_neg (by omega)]
  have hO : bts (textO s 0) = t.take c.toNat := by
    unfold textO textN
    rw [h1, h2, bytesO, if_pos h0, bts_extract, h3]; rfl
  have hS : bts (textS s 0) = t.drop c.toNat := by
    unfold textS textN
    rw [h1, h2, bytesS, if_pos h0, bts_extract, h3, hl, List.take_length]; rfl
  have hz : (textO s 0).size = c.toNat := by rw [← bts_len, hO, List.length_take]; omega
  refine ⟨by unfold textE textN; rw [h1, h2, h0], hz, ?_⟩
  have e1 : M.bt (textO s 0) = t.take c.toNat := hO
  rw [M.tbl, hz, e1, hS, h, List.cons_append, List.take_append_drop, UInt8.ofNat_toNat]
/-- no text is there -/
theorem text_no {s : ByteArray} (h : ∀ k r, k.size ≤ 255 → bts s ≠ M.tbl k ++ r) : textE s 0 ≠ 0 := by
  rcases hs : bts s with _ | ⟨c, t⟩
  · have : s.size = 0 := by rw [← bts_len, hs]; rfl
    have h1 := i1_no this
    unfold textE
    rw [bytesE_ne h1]; exact h1
  · obtain ⟨h1, h2, h3⟩ := i1_yes hs
    have hl : (intS s 0 1).size = t.length := by rw [← bts_len, h3]
    by_cases hn : c.toNat ≤ t.length
    · obtain ⟨_, h5, h6⟩ := text_yes hs hn
      have := c.toNat_lt
      exact absurd h6 (h _ _ (by omega))
    · unfold textE textN
      rw [h1, h2]
      unfold bytesE failE
      rw [if_pos rfl, if_neg (by omega), if_pos (by omega)]
      omega
/-- the next text is there, or is not -/
theorem text_or (s : ByteArray) : (textE s 0 = 0 ∧ (textO s 0).size ≤ 255 ∧ bts s = M.tbl (textO s 0) ++ bts (textS s 0)) ∨ (textE s 0 ≠ 0 ∧ ∀ k r, k.size ≤ 255 → bts s ≠ M.tbl k ++ r) := by
  by_cases h : ∀ k r, k.size ≤ 255 → bts s ≠ M.tbl k ++ r
  · exact .inr ⟨text_no h, h⟩
  · left
    rcases hs : bts s with _ | ⟨c, t⟩
    · exact absurd (fun k r _ => by rw [hs]; simp [M.tbl]) h
    · by_cases hn : c.toNat ≤ t.length
      · obtain ⟨h1, h2, h3⟩ := text_yes hs hn
        have := c.toNat_lt
        exact ⟨h1, by omega, by rw [← hs]; exact h3⟩
      · refine absurd (fun k r hk => ?_) h
        rw [hs, M.tbl, List.cons_append]
        intro he
        rw [List.cons.injEq] at he
        obtain ⟨e1, e2⟩ := he
        apply hn
        have h1 : c.toNat = k.size := by rw [e1, UInt8.toNat_ofNat']; omega
        rw [h1, e2, List.length_append]
        have := M.bt_len k
        omega
end Go.Proofs.Ytifdglehfhoecaa.C

/-
  Numbers and texts as bytes. Conditions: texts below 2^62 bytes.
-/
namespace Go.Proofs.Ytifdglehfhoecaa.C
open Go.RowKit B
/-- a byte's cell -/
def u8v (b : UInt8) : Value := .int .u8 (b.toNat : Int)
/-- the first bytes of a number of Z bytes: those but the last j -/
def pbF (Z j n : Nat) : List UInt8 := (List.range (Z - j)).map fun t => UInt8.ofNat (n / 256 ^ (Z - 1 - t))
def pb (Z n : Nat) : List UInt8 := pbF Z 0 n
theorem info5 : (Try.prog.info? 5).map (fun i => (i.zero, i.size, i.bytes)) = some (some (.int .u8 0), 1, 1) := by kernel_rfl
theorem pow8 (k : Nat) : 2 ^ (8 * k) = 256 ^ k := by rw [Nat.pow_mul]
theorem div8 (n k : Nat) : (n : Int) / 2 ^ (8 * k) = ((n / 256 ^ k : Nat) : Int) := by
  rw [← pow8]; push_cast; rfl
theorem pbF_len (Z j n : Nat) : (pbF Z j n).length = Z - j := by simp [pbF]
theorem pbF_snoc (Z k n : Nat) (h : k < Z) : pbF Z k n = pbF Z (k + 1) n ++ [UInt8.ofNat (n / 256 ^ k)] := by
  unfold pbF
  rw [show Z - k = (Z - (k + 1)) + 1 by omega, List.range_succ, List.map_append, List.map_singleton, show Z - 1 - (Z - (k + 1)) = k by omega]
theorem byte_of (n k : Nat) : ((n : Int) / 2 ^ (8 * k)) % 256 = ((UInt8.ofNat (n / 256 ^ k)).toNat : Int) := by
  rw [div8, UInt8.toNat_ofNat']; omega
/-- bytes in their cells, as a text -/
theorem conv_text {w : World} (a : Addr) (cap : Nat) (l : List UInt8) (hc : ∀ j (hj : j < l.length), w.cell? (a.add j) = some (u8v l[j])) :
    (convert 30 9 (.slice (some a) l.length cap)).run Try.prog w = .ok (.string (txt l)) w :=
  run_convert_bytes_back (P := Try.prog) w 30 9 5 a cap l Try.underlying30 Try.underlying5 Try.underlying9 hc
/-- an owned row of bytes, as the bytes of a text -/
theorem own_text {w : World} {base : Nat} {v : Value} {l : List UInt8} {n : Nat} (hown : w.ownsRow base 5 1 v n (l.map u8v)) (hl : l ≠ []) :
    (convert 30 9 v).run Try.prog w = .ok (.string (txt l)) w := by
  have hown' := hown
  obtain ⟨hlen, h | ⟨g, cap, cur, rfl, hg, hh, hn, hcap, hcur, hx⟩⟩ := hown
  · obtain ⟨_, rfl⟩ := h
    exact absurd (List.length_eq_zero_iff.1 (by simpa using hlen)) hl
  · have hn' : n = l.length := by simpa using hlen.symm
    subst hn'
    refine conv_text _ _ _ fun j hj => ?_
    have := hown'.cells (g := g) rfl j (u8v l[j]) (by simp [hj])
    exact this
theorem one_text (W : World) (b : UInt8) : (convert 30 9 (.slice (some ⟨W.heap.size, 0, none⟩) 1 1)).run Try.prog (W.alloc (.cells #[.int .u8 (b.toNat : Int)] 5)) = .ok (.string (txt [b])) (W.alloc (.cells #[.int .u8 (b.toNat : Int)] 5)) :=
  conv_text (w := W.alloc (.cells #[u8v b] 5)) ⟨W.heap.size, 0, none⟩ 1 [b] (fun j hj => by
    obtain rfl : j = 0 := by simp at hj; omega
    rw [add_lit, World.cell?_alloc_mark]; rfl)
theorem pb_ne (Z n : Nat) (h : 1 ≤ Z) : pb Z n ≠ [] := by
  intro e
  have := congrArg List.length e
  rw [pb, pbF_len] at this
  simp at this; omega
set_option maxRecDepth 100000 in
set_option maxHeartbeats 400000 in
theorem put_ok (Z n : Nat) (w : World) (hz : szd Z) (hn : n < 256 ^ Z) :
    Calls Try.prog 19 #[.int .i64 (Z : Int), .int .i64 (n : Int)] w fun r w' => r = .returned (.tuple #[.string (txt (pb Z n)), .int .i64 0]) ∧ Below w.heap.size w w' := by
  have hz1 : Z ≤ 4 ∧ 1 ≤ Z := by unfold szd at hz; omega
  obtain ⟨hz4, hz1⟩ := hz1
  have hn4 : n < 4294967296 := Nat.lt_of_lt_of_le hn (Nat.pow_le_pow_right (by omega) hz4)
  have hc : ((n : Int) / 2 ^ (8 * Z) != 0) = false := by rw [div8, Nat.div_eq_of_lt hn]; rfl
  have HZ := Lib.hid hz; clear hz
  have HN := Lib.hid hn; clear hn
  obtain ⟨i0, hi, hzz0, hzz1, hzz2⟩ := info_parts info5
  go_enter Try.func19, Try.ntmps19
  go_wp2_with fail
  refine (sized_yes Z _ HZ.out).mono ?_
  rintro r w1 ⟨rfl, rfl⟩
  go_wp2_with fail
  go_loopw [6, 7] (fun v i wr => ∃ j : Nat, j ≤ Z ∧ i = .int .i64 ((j : Int) - 1) ∧ wr.ownsRow w.heap.size 5 1 v (Z - j) ((pbF Z j n).map u8v) ∧ Below w.heap.size w wr) (fun _ i _ => (intOf i + 1).toNat)
  case atStart =>
    refine ⟨Z, Nat.le_refl _, rfl, ?_, Below.refl _ _⟩
    rw [Nat.sub_self, show pbF Z Z n = [] by simp [pbF]]
    exact World.ownsRow_nil _ _ _ _
  case round =>
    obtain ⟨j, hj, rfl, hown, hb⟩ := hrel
    rcases j with _ | k
    · have h0 : (((0 : Nat) : Int) - 1) = -1 := by omega
      rw [h0]
      have hconv := own_text hown (pb_ne Z n hz1)
      clear hown h0
      have e0 : pbF Z 0 n = pb Z n := rfl
      rw [e0] at hconv
      clear e0
      go_wp2
      go_ret2
      exact ⟨rfl, hb⟩
    · have h0 : (((k + 1 : Nat) : Int) - 1) = (k : Int) := by omega
      rw [h0]
      have HO := Lib.hid hown; clear hown h0
      have hby := byte_of n k
      obtain ⟨c, hcb⟩ : ∃ c, UInt8.ofNat (n / 256 ^ k) = c := ⟨_, rfl⟩
      rw [hcb] at hby
      have HCB := Lib.hid hcb; clear hcb
      go_wp2_with (at_builtin; refine wpList_append_own _ rfl _ _ 30 rfl w.heap.size 5 i0 (.int .u8 0) 1 1 Try.underlying30 hi hzz0 hzz1 hzz2 rfl (by decide) _ _ _ rfl (HO.out.alloc _) ⟨wr.heap.size, 0, none⟩ 1 1 [u8v c] rfl rfl ?c1 ?c2 ?c3 ?c4 ?c5 ?_)
      case c1 =>
        intro j u hj
        obtain ⟨rfl, rfl⟩ : j = 0 ∧ u = u8v c := by
          rcases j with _ | j
          · simpa using hj.symm
          · simp at hj
        rw [add_lit, World.cell?_alloc_mark]; rfl
      case c2 => intro u hu; simp at hu; subst hu; rfl
      case c3 => unfold maxLen; omega
      case c4 => omega
      case c5 => have := hb.size; simp; omega
      · intro v' w1 hown' hgrow _
        have hb1 : Below w.heap.size w w1 := (hb.alloc hb.size _).grown hgrow (by have := hb.size; simp; omega) (fun g hg => (HO.out.lt g hg).1)
        have e1 : Z - (k + 1) + 1 = Z - k := by omega
        have e2 : (pbF Z (k + 1) n).map u8v ++ [u8v c] = (pbF Z k n).map u8v := by
          rw [pbF_snoc Z k n (by omega), List.map_append, HCB.out]; rfl
        rw [e1, e2] at hown'
        clear hgrow e1 e2 HO
        have HO := Lib.hid hown'; clear hown'
        go_wp2
        go_roundw
        case rel => exact ⟨k, by omega, rfl, HO.out, hb1⟩
        case measure => simp [intOf]
theorem put_bad (z n : Int) (w : World) (h : ¬ (szd z ∧ 0 ≤ n ∧ n / 2 ^ (8 * z.toNat) = 0)) (hlo : -9223372036854775808 ≤ n) (hhi : n ≤ 9223372036854775807) :
    Calls Try.prog 19 #[.int .i64 z, .int .i64 n] w fun r w' => r = .returned (.tuple #[.string ByteArray.empty, .int .i64 1]) ∧ Below w.heap.size w w' := by
  by_cases hz : szd z
  · have HZ := Lib.hid hz
    have hz' : z.toNat ≤ 4 ∧ 1 ≤ z ∧ z ≤ 4 := by unfold szd at hz; omega
    obtain ⟨hz1, hz2, hz3⟩ := hz'
    by_cases hn : n < 0
    · clear h hz
      go_enter Try.func19, Try.ntmps19
      go_wp2_with fail
      refine (sized_yes z _ HZ.out).mono ?_
      rintro r w1 ⟨rfl, rfl⟩
      go_wp2_with fail
      go_ret2
      exact ⟨rfl, Below.refl _ _⟩
    · obtain ⟨Z, rfl⟩ := Int.eq_ofNat_of_zero_le (show 0 ≤ z by omega)
      have hq : (n / 2 ^ (8 * Z) != 0) = true := by
        rw [bne_iff_ne]; intro e; exact h ⟨hz, by omega, by simpa using e⟩
      clear h hz
      go_enter Try.func19, Try.ntmps19
      go_wp2_with fail
      refine (sized_yes Z _ HZ.out).mono ?_
      rintro r w1 ⟨rfl, rfl⟩
      go_wp2_with fail
      go_ret2
      exact ⟨rfl, Below.refl _ _⟩
  · have HZ := Lib.hid hz; clear hz h
    go_enter Try.func19, Try.ntmps19
    go_wp2_with fail
    refine (sized_no z _ HZ.out).mono ?_
    rintro r w1 ⟨rfl, rfl⟩
    go_wp2_with fail
    go_ret2
    exact ⟨rfl, Below.refl _ _⟩
/-- a text as bytes: its length ahead -/
def tb (s : ByteArray) : ByteArray := txt (UInt8.ofNat s.size :: bts s)
theorem tb_size (s : ByteArray) : (tb s).size = s.size + 1 := by rw [tb, txt_size, List.length_cons, bts_len]
theorem text_ok (s : ByteArray) (w : World) (h : s.size ≤ 255) :
    Calls Try.prog 21 #[.string s] w fun r w' => r = .returned (.tuple #[.string (tb s), .int .i64 0]) ∧ Below w.heap.size w w' := by
  obtain ⟨c, hc⟩ : ∃ c, UInt8.ofNat s.size = c := ⟨_, rfl⟩
  have hb2 : (s.size : Int) = (c.toNat : Int) := by rw [← hc, UInt8.toNat_ofNat']; omega
  have ht : txt [c] ++ s = tb s := by rw [tb, hc]; apply bts_inj; rw [bts_append]; rfl
  have h1 : ∀ W : World, (convert 30 9 (.slice (some ⟨W.heap.size, 0, none⟩) 1 1)).run Try.prog (W.alloc (.cells #[.int .u8 (s.size : Int)] 5)) = .ok (.string (txt [c])) (W.alloc (.cells #[.int .u8 (s.size : Int)] 5)) := fun W => by
    rw [hb2]; exact one_text W c
  have hs1 : (txt [c]).size ≤ 1 := by rw [txt_size]; simp
  generalize txt [c] = t at *
  have HT := Lib.hid ht; clear ht hc hb2
  go_enter Try.func21, Try.ntmps21
  go_wp2
  go_ret2
  exact ⟨by rw [← HT.out]; rfl, (Below.refl _ _).alloc (Nat.le_refl _) _⟩
theorem text_bad (s : ByteArray) (w : World) (h : 255 < s.size) :
    Calls Try.prog 21 #[.string s] w fun r w' => r = .returned (.tuple #[.string ByteArray.empty, .int .i64 1]) ∧ Below w.heap.size w w' := by
  go_enter Try.func21, Try.ntmps21
  go_wp2
  go_ret2
  exact ⟨rfl, Below.refl _ _⟩
end Go.Proofs.Ytifdglehfhoecaa.C

/-
  Two contracts of Go's library, laid at this program by the kit's tool in its plain mode (strings.Join, strings.Compare). Conditions: as each states them.
-/
namespace Go.Proofs
open Go.Shelf Go.RowKit
def Try.lays156_ren : Go.Shelf.Ren := ⟨fun | 156 => 70 | 165 => 87 | 166 => 88 | 169 => 89 | 240 => 95 | 241 => 96 | 276 => 100 | 277 => 101 | n => n, fun | 31 => 22 | 9 => 9 | 3 => 3 | 4 => 4 | 0 => 0 | 20 => 20 | 72 => 113 | 76 => 117 | 70 => 111 | 37 => 30 | 75 => 116 | 127 => 124 | 164 => 127 | 5 => 5 | 80 => 41 | n => n, fun | n => n⟩
theorem Try.lays156 : Go.Proofs.Lays.n156 Try.prog Try.lays156_ren := {
  mixed := by kernel_rfl
  f156 := Try.func70.trans (congrArg some (by kernel_rfl))
  f165 := Try.func87.trans (congrArg some (by kernel_rfl))
  f166 := Try.func88.trans (congrArg some (by kernel_rfl))
  f169 := Try.func89.trans (congrArg some (by kernel_rfl))
  f240 := Try.func95.trans (congrArg some (by kernel_rfl))
  f241 := Try.func96.trans (congrArg some (by kernel_rfl))
  f276 := Try.func100.trans (congrArg some (by kernel_rfl))
  f277 := Try.func101.trans (congrArg some (by kernel_rfl))
  t0 := Try.underlying0
  a0 := Try.isAgg0
  z0 := Try.sizeOf0
  v0 := Try.zeroValue0
  t3 := Try.underlying3
  a3 := Try.isAgg3
  z3 := Try.sizeOf3
  v3 := Try.zeroValue3
  t4 := Try.underlying4
  a4 := Try.isAgg4
  z4 := Try.sizeOf4
  v4 := Try.zeroValue4
  t9 := Try.underlying9
  a9 := Try.isAgg9
  z9 := Try.sizeOf9
  v9 := Try.zeroValue9
  t20 := Try.underlying20
  a20 := Try.isAgg20
  z20 := Try.sizeOf20
  v20 := Try.zeroValue20
  t31 := Try.underlying22
  a31 := Try.isAgg22
  z31 := Try.sizeOf22
  v31 := Try.zeroValue22
  t37 := Try.underlying30
  a37 := Try.isAgg30
  z37 := Try.sizeOf30
  v37 := Try.zeroValue30
  t70 := Try.underlying111
  a70 := Try.isAgg111
  z70 := Try.sizeOf111
  v70 := Try.zeroValue111
  t72 := Try.underlying113
  a72 := Try.isAgg113
  z72 := Try.sizeOf113
  v72 := Try.zeroValue113
  t75 := Try.underlying116
  a75 := Try.isAgg116
  z75 := Try.sizeOf116
  v75 := Try.zeroValue116
  t76 := Try.underlying117
  a76 := Try.isAgg117
  z76 := Try.sizeOf117
  v76 := Try.zeroValue117
  t127 := Try.underlying124
  a127 := Try.isAgg124
  z127 := Try.sizeOf124
  v127 := Try.zeroValue124
  t164 := Try.underlying127
  a164 := Try.isAgg127
  z164 := Try.sizeOf127
  v164 := Try.zeroValue127 }
theorem Try.Builder_Extra_156 : Builder.Extra Try.prog Try.lays156_ren := {
  sizeBuilder := by kernel_rfl
  liesBuilder := by kernel_rfl
  t5 := Try.underlying5
  a5 := Try.isAgg5
  z5 := Try.sizeOf5
  v5 := Try.zeroValue5
  infoByte := by kernel_rfl
  cellsByte := by kernel_rfl
  sizeByte := by kernel_rfl
  neB5 := by decide }
theorem Try.strings_Join_none (a : Option Addr) (c : Nat) (sep : ByteArray) (w : World) :
    Calls Try.prog 70 #[.slice a 0 c, .string sep] w fun e w' => e = .returned (.string ⟨#[]⟩) ∧ w' = w := Any.strings_Join_none Try.lays156 Try.Builder_Extra_156 a c sep w
theorem Try.strings_Join (bk o c : Nat) (xs : List ByteArray) (sep : ByteArray) (w : World) (hcells : ∀ (j : Nat) x, xs[j]? = some x → w.cell? ⟨bk, o + j, none⟩ = some (.string x)) (hbk : bk < w.heap.size) (hN : xs.length ≤ 140737488355328) (hcap : xs.length ≤ c) (hlen : (Lib.join (xs.map (·.data.toList)) sep.data.toList).length ≤ 140737488355328) :
    Calls Try.prog 70 #[.slice (some ⟨bk, o, none⟩) xs.length c, .string sep] w fun e w' => e = .returned (.string ⟨(Lib.join (xs.map (·.data.toList)) sep.data.toList).toArray⟩) ∧ Below w.heap.size w w' := Any.strings_Join Try.lays156 Try.Builder_Extra_156 bk o c xs sep w hcells hbk hN hcap hlen
def Try.lays213_ren : Go.Shelf.Ren := ⟨fun | 213 => 91 | 265 => 97 | n => n, fun | 9 => 9 | 3 => 3 | n => n, fun | n => n⟩
theorem Try.lays213 : Go.Proofs.Lays.n213 Try.prog Try.lays213_ren := {
  mixed := by kernel_rfl
  f213 := Try.func91.trans (congrArg some (by kernel_rfl))
  f265 := Try.func97.trans (congrArg some (by kernel_rfl))
  t3 := Try.underlying3
  a3 := Try.isAgg3
  z3 := Try.sizeOf3
  v3 := Try.zeroValue3
  t9 := Try.underlying9
  a9 := Try.isAgg9
  z9 := Try.sizeOf9
  v9 := Try.zeroValue9 }
theorem Try.bytealg_CompareString (a b : ByteArray) (w : World) :
    Calls Try.prog 91 #[.string a, .string b] w fun e w' => e = .returned (.int .i64 (Lib.compareBytes a.data.toList b.data.toList)) ∧ w' = w := Any.bytealg_CompareString Try.lays213 a b w
def Try.lays106_ren : Go.Shelf.Ren := ⟨fun | 106 => 77 | 213 => 91 | 265 => 97 | n => n, fun | 9 => 9 | 3 => 3 | n => n, fun | n => n⟩
theorem Try.lays106 : Go.Proofs.Lays.n106 Try.prog Try.lays106_ren := {
  mixed := by kernel_rfl
  f106 := Try.func77.trans (congrArg some (by kernel_rfl))
  f213 := Try.func91.trans (congrArg some (by kernel_rfl))
  f265 := Try.func97.trans (congrArg some (by kernel_rfl))
  t3 := Try.underlying3
  a3 := Try.isAgg3
  z3 := Try.sizeOf3
  v3 := Try.zeroValue3
  t9 := Try.underlying9
  a9 := Try.isAgg9
  z9 := Try.sizeOf9
  v9 := Try.zeroValue9 }
theorem Try.strings_Compare (a b : ByteArray) (w : World) :
    Calls Try.prog 77 #[.string a, .string b] w fun e w' => e = .returned (.int .i64 (Lib.compareBytes a.data.toList b.data.toList)) ∧ w' = w := Any.strings_Compare Try.lays106 a b w

end Go.Proofs

/-
  Texts one behind the other. Conditions: all together at most 2^47 bytes.
-/
namespace Go.Proofs.Ytifdglehfhoecaa.C
open Go.RowKit B
theorem lib_join (l : List (List UInt8)) : Lib.join l [] = l.flatten := by
  induction l with
  | nil => rfl
  | cons x r ih =>
    cases r with
    | nil => simp [Lib.join]
    | cons y r => simp [Lib.join] at ih ⊢; rw [ih]
theorem cell_spot {w : World} {a : Addr} {v : Value} (h : w.cell? a = some v) : ∃ b o, a = ⟨b, o, none⟩ := by
  obtain ⟨b, off, spot⟩ := a
  have hspot : spot = none := World.cell?_spot h
  subst hspot
  exact ⟨b, off, rfl⟩
/-- all texts, one behind the other -/
def cat (l : List ByteArray) : ByteArray := txt (l.flatMap bts)
theorem join_any (v : Value) (l : List ByteArray) (w : World) (hv : Strs w v l) (hlen : (l.flatMap bts).length ≤ 140737488355328) (hN : l.length ≤ 140737488355328) :
    Calls Try.prog 22 #[v] w fun r w' => r = .returned (.string (cat l)) ∧ Below w.heap.size w w' := by
  obtain ⟨ao, cap, rfl, hcap, hc⟩ := hv
  have hj : Calls Try.prog 70 #[.slice ao l.length cap, .string ⟨#[]⟩] w fun r w' => r = .returned (.string (cat l)) ∧ Below w.heap.size w w' := by
    rcases Nat.eq_zero_or_pos l.length with h0 | h0
    · rw [h0]
      obtain rfl := List.length_eq_zero_iff.1 h0
      exact (Try.strings_Join_none ao cap ⟨#[]⟩ w).mono fun e w' ⟨he, hw⟩ => ⟨he, hw ▸ Below.refl _ _⟩
    · obtain ⟨a, rfl, h1⟩ := hc 0 h0
      have h1' : w.cell? a = some (.string l[0]) := h1
      obtain ⟨b, o, rfl⟩ := cell_spot h1'
      have hcells : ∀ (j : Nat) x, l[j]? = some x → w.cell? ⟨b, o + j, none⟩ = some (.string x) := fun j x hx => by
        obtain ⟨hj, rfl⟩ := List.getElem?_eq_some_iff.1 hx
        obtain ⟨a', e, h'⟩ := hc j hj
        obtain rfl := Option.some.inj e
        rwa [add_lit] at h'
      have e1 : Lib.join (l.map (·.data.toList)) (⟨#[]⟩ : ByteArray).data.toList = l.flatMap bts := by
        rw [List.flatMap_def]; exact lib_join _
      have := Try.strings_Join b o cap l ⟨#[]⟩ w hcells (lt_of_cell h1') hN hcap (by rw [e1]; exact hlen)
      rwa [e1] at this
  have HJ := Lib.hid hj; clear hj hc
  go_enter Try.func22, Try.ntmps22
  go_wp2_with fail
  refine HJ.out.mono ?_
  rintro r w1 ⟨rfl, hb⟩
  go_wp2
  go_ret
  exact ⟨rfl, hb⟩
end Go.Proofs.Ytifdglehfhoecaa.C

/-
  The document's examples of layer 1: they hold. Conditions: none.
-/
namespace Go.Proofs.Ytifdglehfhoecaa.C
open Go.RowKit B
def s123 : ByteArray := ⟨#[1, 2, 3]⟩
theorem w1 : txt (pb 2 258) = ⟨#[1, 2]⟩ := by decide +kernel
theorem w2 : tb ⟨#[97, 98]⟩ = ⟨#[2, 97, 98]⟩ := by decide +kernel
theorem w3 : intO s123 0 2 = 258 := by decide +kernel
theorem w4 : intS s123 0 2 = ⟨#[3]⟩ := by decide +kernel
theorem w5 : intE s123 0 2 = 0 := by decide +kernel
theorem w6 : endE ⟨#[3]⟩ 0 = 11 := by decide +kernel
theorem w7 : intO ⟨#[3]⟩ 0 2 = 0 := by decide +kernel
theorem w8 : intS ⟨#[3]⟩ 0 2 = ⟨#[3]⟩ := by decide +kernel
theorem w9 : intE ⟨#[3]⟩ 0 2 = 10 := by decide +kernel
theorem w10 : cat [⟨#[97]⟩, ⟨#[]⟩, ⟨#[98, 99]⟩] = ⟨#[97, 98, 99]⟩ := by decide +kernel
set_option maxHeartbeats 400000 in
theorem works_any (w : World) : Calls Try.prog 18 #[] w fun r w' => r = .returned (.bool true) ∧ Below w.heap.size w w' := by
  have p1 := fun W => put_ok 2 258 W (by decide) (by decide)
  rw [w1] at p1
  have p2 := fun W => text_ok ⟨#[97, 98]⟩ W (by decide)
  rw [w2] at p2
  have p3 := fun a W h => int_any a s123 0 2 W h
  rw [w3, w4, w5] at p3
  have p4 := fun a W h => left_any a ⟨#[3]⟩ 0 W h
  have p5 := fun a W h => end_any a ⟨#[3]⟩ 0 W h
  rw [w6] at p5
  have p6 := fun a W h => int_any a ⟨#[3]⟩ 0 2 W h
  rw [w7, w8, w9] at p6
  have p7 := fun a W h => err_any a ⟨#[3]⟩ 10 W h
  have p8 := fun v W h => join_any v [⟨#[97]⟩, ⟨#[]⟩, ⟨#[98, 99]⟩] W h (by decide) (by decide)
  rw [w10] at p8
  have P1 := Lib.hid p1; have P2 := Lib.hid p2; have P3 := Lib.hid p3; have P4 := Lib.hid p4; have P5 := Lib.hid p5; have P6 := Lib.hid p6; have P7 := Lib.hid p7; have P8 := Lib.hid p8
  clear p1 p2 p3 p4 p5 p6 p7 p8
  go_enter Try.func18, Try.ntmps18
  go_wp2_with fail
  refine (P1.out _).mono ?_
  rintro r x1 ⟨rfl, hb1⟩
  go_wp2_with fail
  refine (P2.out _).mono ?_
  rintro r x2 ⟨rfl, hb2⟩
  have hB := hb1.trans (hb2.mono hb1.size)
  clear hb1 hb2
  go_wp2_with fail
  refine (read_any s123 _).mono ?_
  rintro r x3 ⟨rfl, hr, hb3⟩
  have hB3 := hB.trans (hb3.mono hB.size)
  obtain ⟨a, ha⟩ : ∃ a, x2.heap.size = a := ⟨_, rfl⟩
  rw [ha] at hr ⊢
  have hla : w.heap.size ≤ a := by rw [← ha]; exact hB.size
  clear hB hb3 ha
  go_wp2_with fail
  refine (P3.out a _ hr).mono ?_
  rintro r x4 ⟨rfl, hr4, ho4⟩
  have hB4 := hB3.trans (ho4.to_below hla hB3.size)
  clear hB3 ho4 hr
  go_wp2_with fail
  refine (P4.out a _ hr4).mono ?_
  rintro r x5 ⟨rfl, rfl⟩
  go_wp2_with fail
  refine (P5.out a _ hr4).mono ?_
  rintro r x5 ⟨rfl, hb5⟩
  have hr5 := hr4.below hb5
  have hB5 := hB4.trans (hb5.mono hB4.size)
  clear hr4 hb5 hB4
  go_wp2_with fail
  refine (P6.out a _ hr5).mono ?_
  rintro r x6 ⟨rfl, hr6, ho6⟩
  have hB6 := hB5.trans (ho6.to_below hla hB5.size)
  clear hB5 ho6 hr5
  go_wp2_with fail
  refine (P7.out a _ hr6).mono ?_
  rintro r x7 ⟨rfl, rfl⟩
  go_wp2_with fail
  refine (P8.out _ _ (strs_new3 _ _ _ _ _)).mono ?_
  rintro r x8 ⟨rfl, hb8⟩
  have hB8 := hB6.trans ((((Below.refl _ _).alloc (Nat.le_refl _) _).trans (hb8.mono (by simp))).mono hB6.size)
  clear hb8 hB6
  go_wp2
  go_ret
  exact ⟨rfl, hB8⟩
end Go.Proofs.Ytifdglehfhoecaa.C

/-
  The walk of CodecOrder: it answers true. Conditions: the numbers are ints.
-/
namespace Go.Proofs.Ytifdglehfhoecaa.C
open Go.RowKit B
/-- may a number be written? -/
def pok (z n : Int) : Prop := szd z ∧ 0 ≤ n ∧ n / 2 ^ (8 * z.toNat) = 0
theorem pok_nat {z n : Int} (h : pok z n) : ∃ Z N : Nat, z = (Z : Int) ∧ n = (N : Int) ∧ szd (Z : Int) ∧ N < 256 ^ Z := by
  obtain ⟨h1, h2, h3⟩ := h
  obtain ⟨N, rfl⟩ := Int.eq_ofNat_of_zero_le h2
  obtain ⟨Z, rfl⟩ := Int.eq_ofNat_of_zero_le (show 0 ≤ z by unfold szd at h1; omega)
  refine ⟨Z, N, rfl, rfl, h1, ?_⟩
  rw [Int.toNat_natCast, div8] at h3
  have h4 : N / 256 ^ Z = 0 := by omega
  exact (Nat.div_eq_zero_iff.1 h4).resolve_left (by have := Nat.pow_pos (a := 256) (n := Z) (by omega); omega)
theorem pok_mk {Z N : Nat} (h : szd (Z : Int)) (hN : N < 256 ^ Z) : pok Z N := by
  refine ⟨h, by omega, ?_⟩
  rw [Int.toNat_natCast, div8, Nat.div_eq_of_lt hN]; rfl
theorem pb_cons (Z n : Nat) : pb (Z + 1) n = UInt8.ofNat (n / 256 ^ Z) :: pb Z n := by
  unfold pb pbF
  rw [Nat.sub_zero, Nat.sub_zero, List.range_succ_eq_map, List.map_cons, List.map_map]
  congr 1
  apply List.map_congr_left
  intro t ht
  have := List.mem_range.1 ht
  simp only [Function.comp]
  rw [show Z + 1 - 1 - (t + 1) = Z - 1 - t by omega]
theorem pb_mod (Z n : Nat) : pb Z (n % 256 ^ Z) = pb Z n := by
  unfold pb pbF
  apply List.map_congr_left
  intro t ht
  have := List.mem_range.1 ht
  apply UInt8.toNat_inj.1
  rw [UInt8.toNat_ofNat', UInt8.toNat_ofNat']
  have e : 256 ^ Z = 256 ^ (Z - 1 - t) * 256 ^ (t + 1) := by rw [← Nat.pow_add]; congr 1; omega
  rw [e, Nat.mod_mul_right_div_self, Nat.pow_succ, Nat.mul_comm (256 ^ t) 256]
  exact Nat.mod_mul_right_mod _ 256 (256 ^ t)
theorem pb_len (Z n : Nat) : (pb Z n).length = Z := by rw [pb, pbF_len, Nat.sub_zero]
theorem lt_of_digit {P q r s t : Nat} (h : q < r) (hs : s < P) : P * q + s < P * r + t := by
  have : P * (q + 1) ≤ P * r := Nat.mul_le_mul_left _ h
  rw [Nat.mul_add] at this
  omega
theorem pb_less (Z : Nat) : ∀ n m : Nat, n < 256 ^ Z → m < 256 ^ Z → Op.bytesLess (pb Z n) (pb Z m) = decide (n < m) := by
  induction Z with
  | zero =>
    intro n m hn hm
    have : n = 0 ∧ m = 0 := by simp at hn hm; omega
    obtain ⟨rfl, rfl⟩ := this
    rfl
  | succ Z ih =>
    intro n m hn hm
    have hP : 0 < 256 ^ Z := Nat.pow_pos (by omega)
    rw [pb_cons, pb_cons, ← pb_mod Z n, ← pb_mod Z m, Op.bytesLess, ih _ _ (Nat.mod_lt _ hP) (Nat.mod_lt _ hP)]
    have dn : n / 256 ^ Z < 256 := Nat.div_lt_of_lt_mul (by rwa [Nat.pow_succ] at hn)
    have dm : m / 256 ^ Z < 256 := Nat.div_lt_of_lt_mul (by rwa [Nat.pow_succ] at hm)
    have en := Nat.div_add_mod n (256 ^ Z)
    have em := Nat.div_add_mod m (256 ^ Z)
    have ln := Nat.mod_lt n hP
    have lm := Nat.mod_lt m hP
    generalize n / 256 ^ Z = qn at *
    generalize m / 256 ^ Z = qm at *
    generalize n % 256 ^ Z = rn at *
    generalize m % 256 ^ Z = rm at *
    have e1 : (UInt8.ofNat qn < UInt8.ofNat qm) ↔ qn < qm := by rw [UInt8.lt_iff_toNat_lt, UInt8.toNat_ofNat', UInt8.toNat_ofNat']; omega
    have e2 : (UInt8.ofNat qn = UInt8.ofNat qm) ↔ qn = qm := by rw [← UInt8.toNat_inj, UInt8.toNat_ofNat', UInt8.toNat_ofNat']; omega
    rw [Bool.eq_iff_iff]
    simp only [Bool.or_eq_true, Bool.and_eq_true, decide_eq_true_eq, beq_iff_eq, e1, e2]
    rcases Nat.lt_trichotomy qn qm with h | h | h
    · have := lt_of_digit (t := rm) h ln; constructor
      · intro _; omega
      · intro _; exact .inl h
    · subst h; omega
    · have := lt_of_digit (t := rn) h lm; constructor
      · rintro (h1 | ⟨h1, _⟩) <;> omega
      · intro h1; omega
theorem pb_inj (Z n m : Nat) (hn : n < 256 ^ Z) (hm : m < 256 ^ Z) (h : pb Z n = pb Z m) : n = m := by
  have h1 := pb_less Z n m hn hm
  have h2 := pb_less Z m n hm hn
  rw [h] at h1 h2
  have := h1.symm.trans h2
  have hr := pb_less Z m m hm hm
  rw [hr] at h1
  simp at h1
  rw [hr] at h2
  simp at h2
  omega
set_option maxHeartbeats 400000 in
theorem order_ok (Z n m : Nat) (w : World) (hz : szd (Z : Int)) (hn : n < 256 ^ Z) (hm : m < 256 ^ Z) :
    Calls Try.prog 4 #[.int .i64 (Z : Int), .int .i64 (n : Int), .int .i64 (m : Int)] w fun r w' => r = .returned (.bool true) ∧ Below w.heap.size w w' := by
  have hz4 : Z ≤ 4 := by unfold szd at hz; omega
  have p1 := fun W => put_ok Z n W hz hn
  have p2 := fun W => put_ok Z m W hz hm
  have s1 : (txt (pb Z n)).size = Z := by rw [txt_size, pb_len]
  have s2 : (txt (pb Z m)).size = Z := by rw [txt_size, pb_len]
  have e1 : Op.bytesLess (txt (pb Z n)).toList (txt (pb Z m)).toList = decide ((n : Int) < (m : Int)) := by
    rw [toL, toL, bts_txt, bts_txt, pb_less Z n m hn hm]; exact decide_eq_decide.2 (by omega)
  have e2 : ((txt (pb Z n)).toList == (txt (pb Z m)).toList) = ((n : Int) == (m : Int)) := by
    rw [toL, toL, bts_txt, bts_txt, Bool.eq_iff_iff, beq_iff_eq, beq_iff_eq]
    exact ⟨fun h => by rw [pb_inj Z n m hn hm h], fun h => by rw [show n = m by omega]⟩
  generalize txt (pb Z n) = A at *
  generalize txt (pb Z m) = B at *
  have t1 : ((A.size : Int) == (Z : Int)) = true := by rw [s1]; simp
  have t2 : ((B.size : Int) == (Z : Int)) = true := by rw [s2]; simp
  have P1 := Lib.hid p1; have P2 := Lib.hid p2
  clear p1 p2 s1 s2
  go_enter Try.func4, Try.ntmps4
  go_wp2_with fail
  refine (works_any _).mono ?_
  rintro r x1 ⟨rfl, hb1⟩
  go_wp2_with fail
  refine (P1.out _).mono ?_
  rintro r x2 ⟨rfl, hb2⟩
  have hB2 := hb1.trans (hb2.mono hb1.size)
  clear hb1 hb2
  go_wp2_with fail
  refine (P2.out _).mono ?_
  rintro r x3 ⟨rfl, hb3⟩
  have hB3 := hB2.trans (hb3.mono hB2.size)
  clear hB2 hb3
  clear hn hm hz
  rcases Nat.lt_trichotomy n m with h | h | h
  · have d1 : decide ((n : Int) < (m : Int)) = true := by rw [decide_eq_true_eq]; omega
    have d2 : ((n : Int) == (m : Int)) = false := by rw [beq_eq_false_iff_ne]; omega
    rw [d1] at e1
    rw [d2] at e2
    go_wp2
    go_ret
    exact ⟨rfl, hB3⟩
  · subst h
    have d1 : decide ((n : Int) < (n : Int)) = false := by rw [decide_eq_false_iff_not]; omega
    have d2 : ((n : Int) == (n : Int)) = true := by rw [beq_iff_eq]
    rw [d1] at e1
    rw [d2] at e2
    go_wp2
    go_ret
    exact ⟨rfl, hB3⟩
  · have d1 : decide ((n : Int) < (m : Int)) = false := by rw [decide_eq_false_iff_not]; omega
    have d3 : decide (n < m) = false := by rw [decide_eq_false_iff_not]; omega
    have d2 : ((n : Int) == (m : Int)) = false := by rw [beq_eq_false_iff_ne]; omega
    rw [d1] at e1
    rw [d2] at e2
    go_wp2
    go_ret
    exact ⟨rfl, hB3⟩
set_option maxHeartbeats 400000 in
theorem order_bad1 (z n m : Int) (w : World) (h : ¬ pok z n) (hlo : -9223372036854775808 ≤ n) (hhi : n ≤ 9223372036854775807) (hp : ∃ (B : ByteArray) (E : Int), ∀ W, Calls Try.prog 19 #[.int .i64 z, .int .i64 m] W fun r w' => r = .returned (.tuple #[.string B, .int .i64 E]) ∧ Below W.heap.size W w') :
    Calls Try.prog 4 #[.int .i64 z, .int .i64 n, .int .i64 m] w fun r w' => r = .returned (.bool true) ∧ Below w.heap.size w w' := by
  have p1 := fun W => put_bad z n W h hlo hhi
  obtain ⟨B, E, p2⟩ := hp
  have P1 := Lib.hid p1; have P2 := Lib.hid p2; have H := Lib.hid h
  clear p1 p2 h
  go_enter Try.func4, Try.ntmps4
  go_wp2_with fail
  refine (works_any _).mono ?_
  rintro r x1 ⟨rfl, hb1⟩
  go_wp2_with fail
  refine (P1.out _).mono ?_
  rintro r x2 ⟨rfl, hb2⟩
  have hB2 := hb1.trans (hb2.mono hb1.size)
  clear hb1 hb2
  go_wp2_with fail
  refine (P2.out _).mono ?_
  rintro r x3 ⟨rfl, hb3⟩
  have hB3 := hB2.trans (hb3.mono hB2.size)
  clear hB2 hb3
  go_wp2
  go_ret
  exact ⟨rfl, hB3⟩
set_option maxHeartbeats 400000 in
theorem order_bad2 (Z n : Nat) (m : Int) (w : World) (hz : szd (Z : Int)) (hn : n < 256 ^ Z) (h : ¬ pok Z m) (hlo : -9223372036854775808 ≤ m) (hhi : m ≤ 9223372036854775807) :
    Calls Try.prog 4 #[.int .i64 (Z : Int), .int .i64 (n : Int), .int .i64 m] w fun r w' => r = .returned (.bool true) ∧ Below w.heap.size w w' := by
  have p1 := fun W => put_ok Z n W hz hn
  have p2 := fun W => put_bad Z m W h hlo hhi
  have P1 := Lib.hid p1; have P2 := Lib.hid p2; have H := Lib.hid h
  clear p1 p2 h hn
  go_enter Try.func4, Try.ntmps4
  go_wp2_with fail
  refine (works_any _).mono ?_
  rintro r x1 ⟨rfl, hb1⟩
  go_wp2_with fail
  refine (P1.out _).mono ?_
  rintro r x2 ⟨rfl, hb2⟩
  have hB2 := hb1.trans (hb2.mono hb1.size)
  clear hb1 hb2
  go_wp2_with fail
  refine (P2.out _).mono ?_
  rintro r x3 ⟨rfl, hb3⟩
  have hB3 := hB2.trans (hb3.mono hB2.size)
  clear hB2 hb3
  go_wp2
  go_ret
  exact ⟨rfl, hB3⟩
theorem order_any (z n m : Int) (w : World) (hn : -9223372036854775808 ≤ n ∧ n ≤ 9223372036854775807) (hm : -9223372036854775808 ≤ m ∧ m ≤ 9223372036854775807) :
    Calls Try.prog 4 #[.int .i64 z, .int .i64 n, .int .i64 m] w fun r w' => r = .returned (.bool true) ∧ Below w.heap.size w w' := by
  by_cases h1 : pok z n
  · by_cases h2 : pok z m
    · obtain ⟨Z, N, rfl, rfl, hz, hN⟩ := pok_nat h1
      obtain ⟨Z', M, hZ', rfl, _, hM⟩ := pok_nat h2
      obtain rfl : Z = Z' := by omega
      exact order_ok Z N M w hz hN hM
    · obtain ⟨Z, N, rfl, rfl, hz, hN⟩ := pok_nat h1
      exact order_bad2 Z N m w hz hN h2 hm.1 hm.2
  · refine order_bad1 z n m w h1 hn.1 hn.2 ?_
    by_cases h2 : pok z m
    · obtain ⟨Z, M, rfl, rfl, hz, hM⟩ := pok_nat h2
      exact ⟨_, _, fun W => put_ok Z M W hz hM⟩
    · exact ⟨_, _, fun W => put_bad z m W h2 hm.1 hm.2⟩
end Go.Proofs.Ytifdglehfhoecaa.C
