/-
  Small words for the walks of this seat: the bytes of a text, blocks that stand whole, what only one block has changed. Conditions: none. No function of the program is named.
-/
import Derived.Test.YtifdglehfhoecaaChecked
import Derived.WalkKit
import Derived.WalkLawsBesides
import Derived.Lib.Hide
namespace Go.Proofs.Ytifdglehfhoecaa.B
open Go.RowKit
/-- the bytes of a text -/
abbrev bts (s : ByteArray) : List UInt8 := s.data.toList
/-- the text of bytes -/
def txt (l : List UInt8) : ByteArray := ⟨l.toArray⟩
@[simp] theorem bts_txt (l : List UInt8) : bts (txt l) = l := rfl
theorem txt_bts (s : ByteArray) : txt (bts s) = s := rfl
theorem txt_size (l : List UInt8) : (txt l).size = l.length := by show l.toArray.size = _; simp
theorem bts_len (s : ByteArray) : (bts s).length = s.size := by simp [bts]
theorem txt_append (a b : List UInt8) : txt a ++ txt b = txt (a ++ b) := by
  apply ByteArray.ext; simp [txt]
theorem bts_append (a b : ByteArray) : bts (a ++ b) = bts a ++ bts b := by simp [bts]
theorem bts_inj {a b : ByteArray} (h : bts a = bts b) : a = b := by
  apply ByteArray.ext; exact Array.ext' h
theorem bts_extract (s : ByteArray) (i j : Nat) : bts (s.extract i j) = ((bts s).take j).drop i := by simp [bts, ByteArray.data_extract, List.extract_eq_take_drop, List.drop_take]
theorem toL (s : ByteArray) : s.toList = bts s := ByteArray.toList_eq s
/-- Go's '==' on texts, decided -/
theorem str_eq {a b : ByteArray} (h : a = b) : (a.toList == b.toList) = true := by subst h; simp
theorem str_ne {a b : ByteArray} (h : a ≠ b) : (a.toList == b.toList) = false := by
  rw [toL, toL, beq_eq_false_iff_ne]; exact fun e => h (bts_inj e)
theorem str_ne_nil {a : ByteArray} (h : a.size ≠ 0) : (a.toList == []) = false := by
  rw [toL, beq_eq_false_iff_ne]; intro e; exact h (by rw [← bts_len, e]; rfl)
theorem size_zero {s : ByteArray} (h : s.size = 0) : s = ByteArray.empty := by
  apply bts_inj; rw [List.length_eq_zero_iff.1 ((bts_len s).trans h)]; rfl
theorem ret_int {k : IntKind} {a b : Int} (h : a = b) : Ending.returned (.int k a) = .returned (.int k b) := by rw [h]
theorem addBlock (a : Addr) (n : Nat) : (a.add n).block = a.block := by unfold Addr.add; split <;> rfl
theorem add_lit (b o n : Nat) : (⟨b, o, none⟩ : Addr).add n = ⟨b, o + n, none⟩ := by unfold Addr.add; split <;> simp_all
theorem lt_of_cell {w : World} {a : Addr} {v : Value} (h : w.cell? a = some v) : a.block < w.heap.size := by
  rcases Nat.lt_or_ge a.block w.heap.size with h1 | h1
  · exact h1
  · have : w.heap[a.block]? = none := by simp [h1]
    simp [World.cell?, this] at h
theorem lt_of_blk {w : World} {b : Nat} {o : Obj} (h : w.heap[b]? = some o) : b < w.heap.size := (Array.getElem?_eq_some_iff.1 h).1
/-- a whole block -/
theorem blk_cell {w : World} {b : Nat} {c : Array Value} {t : TypeId} {f : Nat × Nat} (h : w.heap[b]? = some (.cells c t f)) (j : Nat) : w.cell? ⟨b, j, none⟩ = c[j]? := by
  simp [World.cell?, h]
theorem blk_free {w : World} {b : Nat} {c : Array Value} {t : TypeId} (h : w.heap[b]? = some (.cells c t (0, 0))) (j : Nat) : w.frozen? ⟨b, j, none⟩ = false := by
  simp [World.frozen?, h]
theorem blk_new (w : World) (o : Obj) : (w.alloc o).heap[w.heap.size]? = some o := by
  show (w.heap.push o)[w.heap.size]? = _
  simp
theorem blk_set {w : World} {b : Nat} {c : Array Value} {t : TypeId} {f : Nat × Nat} (h : w.heap[b]? = some (.cells c t f)) (j : Nat) (v : Value) :
    (w.setCell ⟨b, j, none⟩ v).heap[b]? = some (.cells (c.setIfInBounds j v) t f) := by
  simp [World.setCell, Array.getElem?_modify, h]
theorem blk_below {w w' : World} {b : Nat} {o : Obj} (h : w.heap[b]? = some o) (hb : Below w.heap.size w w') : w'.heap[b]? = some o := by rw [hb.block b (lt_of_blk h)]; exact h
/-- only block g, and what is new, has changed -/
def Only (g : Nat) (a w : World) : Prop := a.grownBy w (some g)
theorem Only.refl (g : Nat) (w : World) : Only g w w := ⟨rfl, rfl, rfl, Nat.le_refl _, fun _ _ _ => rfl⟩
theorem Only.trans {g : Nat} {a b c : World} (h : Only g a b) (k : Only g b c) : Only g a c :=
  ⟨k.os.trans h.os, k.tape.trans h.tape, k.output.trans h.output, Nat.le_trans h.size k.size, fun i hi hn => (k.block i (Nat.lt_of_lt_of_le hi h.size) hn).trans (h.block i hi hn)⟩
theorem Only.below {g : Nat} {a w : World} (h : Below a.heap.size a w) : Only g a w := ⟨h.os, h.tape, h.output, h.size, fun i hi _ => h.block i hi⟩
theorem Only.set {g : Nat} (w : World) (j : Nat) (v : Value) : Only g w (w.setCell ⟨g, j, none⟩ v) :=
  ⟨rfl, rfl, rfl, by simp [World.setCell], fun i _ hn => Below.heap_setCell w ⟨g, j, none⟩ v i (fun e => hn (by rw [e]))⟩
theorem Only.to_below {g B : Nat} {a w : World} (h : Only g a w) (hB : B ≤ g) (hB2 : B ≤ a.heap.size) : Below B a w :=
  ⟨h.os, h.tape, h.output, h.size, fun i hi => h.block i (by omega) (fun e => by injection e; omega)⟩
theorem Only.blk {g : Nat} {a w : World} (h : Only g a w) {b : Nat} {o : Obj} (hb : a.heap[b]? = some o) (hn : b ≠ g) : w.heap[b]? = some o := by
  rw [h.block b (lt_of_blk hb) (fun e => hn (by injection e))]; exact hb
theorem Only.cell {g : Nat} {a w : World} (h : Only g a w) {p : Addr} {v : Value} (hc : a.cell? p = some v) (hn : p.block ≠ g) : w.cell? p = some v := by
  have hlt := lt_of_cell hc
  have := h.block p.block hlt (fun e => hn (by injection e))
  rw [World.cell?_of_block (w := a) this]; exact hc
theorem bcell {w w' : World} (hb : Below w.heap.size w w') {p : Addr} {v : Value} (hc : w.cell? p = some v) : w'.cell? p = some v := (hb.cell (lt_of_cell hc)).trans hc
/-- the bytes that a text was turned into -/
theorem bytes_world (w : World) (s : ByteArray) (cap : Nat) (t : TypeId) (fr : Nat × Nat) : ∃ w', (w.alloc (.cells (bytesRow s cap) t fr)).drew = w' ∧ Below w.heap.size w w' ∧ ∀ j (h : j < s.size), w'.cell? ⟨w.heap.size, j, none⟩ = some (.int .u8 ((s[j]).toNat : Int)) := by
  refine ⟨_, rfl, ((Below.refl _ w).alloc (Nat.le_refl _) _).drew, fun j h => ?_⟩
  show (w.alloc _).cell? _ = _
  rw [World.cell?_alloc_mark, bytesRow_at s cap j h]; rfl
theorem take_snoc (s : ByteArray) (k : Nat) (h : k < s.size) : (bts s).take (k + 1) = (bts s).take k ++ [s[k]] := by
  rw [List.take_succ_eq_append_getElem (by simpa using h)]; rfl
/-- a slice whose cells are so many texts -/
def Strs (w : World) (v : Value) (l : List ByteArray) : Prop := ∃ ao cap, v = .slice ao l.length cap ∧ l.length ≤ cap ∧ ∀ j (h : j < l.length), ∃ a, ao = some a ∧ w.cell? (a.add j) = some (.string l[j])
theorem Strs.below {w w' : World} {v : Value} {l : List ByteArray} (h : Strs w v l) (hb : Below w.heap.size w w') : Strs w' v l := by
  obtain ⟨ao, cap, rfl, hl, h⟩ := h
  exact ⟨ao, cap, rfl, hl, fun j hj => by
    obtain ⟨a, e, hc⟩ := h j hj
    exact ⟨a, e, bcell hb hc⟩⟩
theorem strs_new1 (w : World) (s : ByteArray) (t : TypeId) : Strs (w.alloc (.cells #[.string s] t)) (.slice (some ⟨w.heap.size, 0, none⟩) 1 1) [s] := by
  refine ⟨_, _, rfl, Nat.le_refl _, fun j h => ⟨_, rfl, ?_⟩⟩
  obtain rfl : j = 0 := by simp at h; omega
  rw [add_lit, World.cell?_alloc_mark]; rfl
theorem strs_new2 (w : World) (s r : ByteArray) (t : TypeId) : Strs (w.alloc (.cells #[.string s, .string r] t)) (.slice (some ⟨w.heap.size, 0, none⟩) 2 2) [s, r] := by
  refine ⟨_, _, rfl, Nat.le_refl _, fun j h => ⟨_, rfl, ?_⟩⟩
  match j, h with
  | 0, _ => rw [add_lit, World.cell?_alloc_mark]; rfl
  | 1, _ => rw [add_lit, World.cell?_alloc_mark]; rfl
theorem strs_new3 (w : World) (s r q : ByteArray) (t : TypeId) : Strs (w.alloc (.cells #[.string s, .string r, .string q] t)) (.slice (some ⟨w.heap.size, 0, none⟩) 3 3) [s, r, q] := by
  refine ⟨_, _, rfl, Nat.le_refl _, fun j h => ⟨_, rfl, ?_⟩⟩
  match j, h with
  | 0, _ => rw [add_lit, World.cell?_alloc_mark]; rfl
  | 1, _ => rw [add_lit, World.cell?_alloc_mark]; rfl
  | 2, _ => rw [add_lit, World.cell?_alloc_mark]; rfl
end Go.Proofs.Ytifdglehfhoecaa.B
