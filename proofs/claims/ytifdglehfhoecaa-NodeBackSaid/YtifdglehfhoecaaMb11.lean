/-
  Texts of this proof, merged: ELaw, NLaw, Seat. What each says stands at its head.
-/
import Derived.Deep.Slices
import Derived.Deep.Fields
import Derived.ChangeSame
import Derived.Lib.SmallJoins
import Derived.Test.YtifdglehfhoecaaRows
import Derived.Test.YtifdglehfhoecaaMb10
/-
  An argument that is a slice of entries. Conditions: none.
-/
namespace Go.Proofs.Ytifdglehfhoecaa.Law
open Go.ChangeShapes Go.WideShapes Go.RowKit Go.Deep
section
variable {H : Type} {enc : TypeId × Value → H} {P : Program} {w : World} {base : Nat} {spare : Nat → Bool} {held : Bool}
theorem open_slice_fields {t e : TypeId} {fs : Array Field} {fuel : Nat} {cs : List Value} {x : DataW H × List MemPlace} (ht : P.underlying t = some (.slice e)) (he : P.underlying e = some (.struct fs))
    (hone : oneCellFields P fs = true) (hC : P.cellsOf e = fs.size) (h : DataW.trod enc P w base spare held fuel t cs = some x) :
    (cs = [.slice none 0 0] ∧ x = (.nil, [])) ∨
    ∃ (a : Addr) (len cap m : Nat) (D : Nat → DataW H) (Pl : Nat → List MemPlace), cs = [.slice (some a) len cap] ∧ base ≤ a.block ∧ len ≤ cap ∧ cap ≤ maxLen ∧ m = (if spare a.block then cap else len) ∧
      x = (.slice ((List.range len).map D) ((List.range (m - len)).map fun j => D (len + j)), MemPlace.row a (m * fs.size) ++ (List.range m).flatMap Pl) ∧
      ∀ i, i < m → ∃ (ys : List (DataW H × List MemPlace)) (n : Nat), D i = .agg (ys.map (·.1)) ∧ Pl i = ys.flatMap (·.2) ∧ ys.length = fs.size ∧
        ∀ (j : Nat) (f : Field), fs[j]? = some f → ∃ (v : Value) (y : DataW H × List MemPlace), w.cell? (a.add (i * fs.size + j)) = some v ∧ ys[j]? = some y ∧ DataW.trod enc P w base spare held n f.type [v] = some y := by
  rcases open_slice ht h with h0 | ⟨a, len, cap, m, n, D, Pl, hcs, hb, hl, hm, hmm, hx, hi⟩
  · exact .inl h0
  · refine .inr ⟨a, len, cap, m, D, Pl, hcs, hb, hl, hm, hmm, by rw [hC] at hx; exact hx, fun i him => ?_⟩
    obtain ⟨cs', hc, ht'⟩ := hi i him
    rw [hC] at hc
    obtain ⟨ys, n', hn', hy, hlen, hyl, hf⟩ := DataW.trod_struct he ht'
    obtain ⟨_, hcl, hat⟩ := World.cells?_some hc
    simp only [Prod.mk.injEq] at hy
    refine ⟨ys, n', hy.1, hy.2, hyl, fun j f hj => ?_⟩
    obtain ⟨ho, hk⟩ := hone_of hone j f hj
    have hjl : j < fs.size := (Array.getElem?_eq_some_iff.1 hj).1
    have hcell := hat j hjl
    have hv : cs'[j]? = some (cs'[j]'(by omega)) := List.getElem?_eq_getElem (by omega)
    have h1 := hf j f hj
    rw [ho, hk] at h1
    have hone' : (cs'.drop j).take 1 = [cs'[j]'(by omega)] := by
      rw [List.drop_eq_getElem_cons (by omega)]
      rfl
    rw [hone'] at h1
    have hys : ys[j]? = some (ys[j]'(by omega)) := List.getElem?_eq_getElem (by omega)
    refine ⟨_, _, ?_, hys, h1.trans hys⟩
    rw [← Go.Deep.add_add, hcell, hv]
end
theorem cell_lit {w : World} {a : Addr} {v : Value} (h : w.cell? (a.add 0) = some v) : ∃ b o, a = ⟨b, o, none⟩ := by
  obtain ⟨b, o, s⟩ := a
  rcases s with _ | s
  · exact ⟨b, o, rfl⟩
  · exfalso
    unfold World.cell? Addr.add at h
    simp at h
    split at h <;> simp at h
variable {H : Type} {enc : TypeId × Value → H} {P : Program}
/-- an argument that is a slice of two-text structs -/
theorem ents_of {W : World} {base : Nat} {t e s : TypeId} {fs : Array Field} {f0 f1 : Field} {v : Value} {d : DataW H} {p : List MemPlace} (ht : P.underlying t = some (.slice e)) (he : P.underlying e = some (.struct fs)) (hfs : fs = #[f0, f1])
    (h0 : f0.type = s) (h1 : f1.type = s) (hstr : P.underlying s = some .string) (hone : oneCellFields P fs = true) (hC : P.cellsOf e = fs.size)
    (hv : Value.okWide P W .any base t v) (h : DataW.Trod enc P W 0 (fun _ => true) true t v d p) :
    ∃ l : List B.Ent, B.Ents W v l := by
  obtain ⟨a0, len, cap, rfl⟩ := okWide_slice ht hv
  obtain ⟨fuel, hf⟩ := h
  subst hfs
  rcases open_slice_fields ht he hone hC hf with ⟨hcs, hx⟩ | ⟨a, len', cap', m, D, Pl, hcs, _, hl, hm, hz, hx, hi⟩
  · simp [Value.cells] at hcs
    obtain ⟨rfl, rfl, rfl⟩ := hcs
    exact ⟨[], B.Rw.nil W 2⟩
  · simp [Value.cells] at hcs
    obtain ⟨rfl, rfl, rfl⟩ := hcs
    simp only [if_true] at hz
    have hel : ∀ i, i < len → ∃ k x : ByteArray, W.cell? (a.add (i * 2)) = some (.string k) ∧ W.cell? (a.add (i * 2 + 1)) = some (.string x) := fun i hil => by
      obtain ⟨ys, n, _, _, _, hf2⟩ := hi i (by omega)
      obtain ⟨u, y, hc0, _, ht0⟩ := hf2 0 f0 rfl
      obtain ⟨u', y', hc1, _, ht1⟩ := hf2 1 f1 rfl
      rw [h0] at ht0
      rw [h1] at ht1
      obtain ⟨k, hk, _⟩ := DataW.trod_string hstr ht0
      obtain ⟨x, hx', _⟩ := DataW.trod_string hstr ht1
      refine ⟨k, x, ?_, ?_⟩
      · simp at hk; subst hk; exact hc0
      · simp at hx'; subst hx'; exact hc1
    obtain ⟨ks, hks⟩ : ∃ ks : Nat → ByteArray × ByteArray, ∀ i, i < len → W.cell? (a.add (i * 2)) = some (.string (ks i).1) ∧ W.cell? (a.add (i * 2 + 1)) = some (.string (ks i).2) := by
      refine ⟨fun i => if h : i < len then ((hel i h).choose, (hel i h).choose_spec.choose) else (ByteArray.empty, ByteArray.empty), fun i hil => ?_⟩
      simp only [hil, dif_pos]
      exact (hel i hil).choose_spec.choose_spec
    have hlen : ((List.range len).map ks).length = len := by simp
    refine ⟨(List.range len).map ks, ?_⟩
    have := B.Ents.close (w := W) (ao := some a) (cap := cap) (l := (List.range len).map ks) (by rw [hlen]; exact hl) hm fun j hj => by
      have hj' : j < len := by rwa [hlen] at hj
      obtain ⟨c0, c1⟩ := hks j hj'
      have cz := (hks 0 (by omega)).1
      rw [Nat.zero_mul] at cz
      obtain ⟨b, o, rfl⟩ := cell_lit cz
      rw [B.add_lit] at c0 c1
      refine ⟨b, o, rfl, ?_, ?_⟩
      · rw [c0]; simp
      · rw [Nat.add_assoc, c1]; simp
    rwa [hlen] at this
end Go.Proofs.Ytifdglehfhoecaa.Law

/-
  Arguments that are slices of numbers, of texts, nodes. Conditions: none.
-/
namespace Go.Proofs.Ytifdglehfhoecaa.Law
open Go.Joins Go.ChangeShapes Go.WideShapes Go.RowKit Go.Deep
variable {H : Type} {enc : TypeId × Value → H} {P : Program}
theorem ents_trod {W : World} {n : Nat} {t e s : TypeId} {fs : Array Field} {f0 f1 : Field} {v : Value} {y : DataW H × List MemPlace} (ht : P.underlying t = some (.slice e)) (he : P.underlying e = some (.struct fs)) (hfs : fs = #[f0, f1])
    (h0 : f0.type = s) (h1 : f1.type = s) (hstr : P.underlying s = some .string) (hone : oneCellFields P fs = true) (hC : P.cellsOf e = fs.size)
    (hf : DataW.trod enc P W 0 (fun _ => true) true n t [v] = some y) :
    ∃ l : List B.Ent, B.Ents W v l := by
  subst hfs
  rcases open_slice_fields ht he hone hC hf with ⟨hcs, hx⟩ | ⟨a, len, cap, m, D, Pl, hcs, _, hl, hm, hz, hx, hi⟩
  · simp at hcs
    subst hcs
    exact ⟨[], B.Rw.nil W 2⟩
  · simp at hcs
    subst hcs
    simp only [if_true] at hz
    have hel : ∀ i, i < len → ∃ k x : ByteArray, W.cell? (a.add (i * 2)) = some (.string k) ∧ W.cell? (a.add (i * 2 + 1)) = some (.string x) := fun i hil => by
      obtain ⟨ys, n, _, _, _, hf2⟩ := hi i (by omega)
      obtain ⟨u, y, hc0, _, ht0⟩ := hf2 0 f0 rfl
      obtain ⟨u', y', hc1, _, ht1⟩ := hf2 1 f1 rfl
      rw [h0] at ht0
      rw [h1] at ht1
      obtain ⟨k, hk, _⟩ := DataW.trod_string hstr ht0
      obtain ⟨x, hx', _⟩ := DataW.trod_string hstr ht1
      refine ⟨k, x, ?_, ?_⟩
      · simp at hk; subst hk; exact hc0
      · simp at hx'; subst hx'; exact hc1
    obtain ⟨ks, hks⟩ : ∃ ks : Nat → ByteArray × ByteArray, ∀ i, i < len → W.cell? (a.add (i * 2)) = some (.string (ks i).1) ∧ W.cell? (a.add (i * 2 + 1)) = some (.string (ks i).2) := by
      refine ⟨fun i => if h : i < len then ((hel i h).choose, (hel i h).choose_spec.choose) else (ByteArray.empty, ByteArray.empty), fun i hil => ?_⟩
      simp only [hil, dif_pos]
      exact (hel i hil).choose_spec.choose_spec
    have hlen : ((List.range len).map ks).length = len := by simp
    refine ⟨(List.range len).map ks, ?_⟩
    have := B.Ents.close (w := W) (ao := some a) (cap := cap) (l := (List.range len).map ks) (by rw [hlen]; exact hl) hm fun j hj => by
      have hj' : j < len := by rwa [hlen] at hj
      obtain ⟨c0, c1⟩ := hks j hj'
      have cz := (hks 0 (by omega)).1
      rw [Nat.zero_mul] at cz
      obtain ⟨b, o, rfl⟩ := cell_lit cz
      rw [B.add_lit] at c0 c1
      refine ⟨b, o, rfl, ?_, ?_⟩
      · rw [c0]; simp
      · rw [Nat.add_assoc, c1]; simp
    rwa [hlen] at this
theorem ints_trod {W : World} {n : Nat} {t e : TypeId} {v : Value} {y : DataW H × List MemPlace} (ht : P.underlying t = some (.slice e)) (he : P.underlying e = some (.int .i64)) (hC : P.cellsOf e = 1)
    (hf : DataW.trod enc P W 0 (fun _ => true) true n t [v] = some y) : ∃ l : List Int, B.Ints W v l := by
  rcases open_slice ht hf with ⟨hcs, _⟩ | ⟨a, len, cap, m, n', D, Pl, hcs, _, hl, hm, hz, _, hi⟩
  · simp at hcs
    subst hcs
    exact ⟨[], B.Rw.nil W 1⟩
  · simp at hcs
    subst hcs
    simp only [if_true] at hz
    have hel : ∀ i, i < len → ∃ k : Int, W.cell? (a.add i) = some (.int .i64 k) := fun i hil => by
      obtain ⟨cs', hc, ht'⟩ := hi i (by omega)
      rw [hC] at hc
      obtain ⟨k, hk, _⟩ := DataW.trod_int he ht'
      obtain ⟨_, _, hat⟩ := World.cells?_some hc
      have h0 := hat 0 (by omega)
      rw [Go.Deep.add_add, Nat.mul_one, Nat.add_zero, hk] at h0
      exact ⟨k, h0⟩
    obtain ⟨ks, hks⟩ : ∃ ks : Nat → Int, ∀ i, i < len → W.cell? (a.add i) = some (.int .i64 (ks i)) := by
      refine ⟨fun i => if h : i < len then (hel i h).choose else 0, fun i hil => ?_⟩
      simp only [hil, dif_pos]
      exact (hel i hil).choose_spec
    have hlen : ((List.range len).map ks).length = len := by simp
    refine ⟨(List.range len).map ks, ?_⟩
    have := B.Ints.close (w := W) (ao := some a) (cap := cap) (l := (List.range len).map ks) (by rw [hlen]; exact hl) hm fun j hj => by
      have hj' : j < len := by rwa [hlen] at hj
      have c0 := hks j hj'
      have cz := hks 0 (by omega)
      obtain ⟨b, o, rfl⟩ := cell_lit cz
      rw [B.add_lit] at c0
      exact ⟨b, o, rfl, by rw [c0]; simp⟩
    rwa [hlen] at this
theorem txts_trod {W : World} {n : Nat} {t e : TypeId} {v : Value} {y : DataW H × List MemPlace} (ht : P.underlying t = some (.slice e)) (he : P.underlying e = some .string) (hC : P.cellsOf e = 1)
    (hf : DataW.trod enc P W 0 (fun _ => true) true n t [v] = some y) : ∃ l : List ByteArray, B.Txts W v l := by
  rcases open_slice ht hf with ⟨hcs, _⟩ | ⟨a, len, cap, m, n', D, Pl, hcs, _, hl, hm, hz, _, hi⟩
  · simp at hcs
    subst hcs
    exact ⟨[], B.Rw.nil W 1⟩
  · simp at hcs
    subst hcs
    simp only [if_true] at hz
    have hel : ∀ i, i < len → ∃ k : ByteArray, W.cell? (a.add i) = some (.string k) := fun i hil => by
      obtain ⟨cs', hc, ht'⟩ := hi i (by omega)
      rw [hC] at hc
      obtain ⟨k, hk, _⟩ := DataW.trod_string he ht'
      obtain ⟨_, _, hat⟩ := World.cells?_some hc
      have h0 := hat 0 (by omega)
      rw [Go.Deep.add_add, Nat.mul_one, Nat.add_zero, hk] at h0
      exact ⟨k, h0⟩
    obtain ⟨ks, hks⟩ : ∃ ks : Nat → ByteArray, ∀ i, i < len → W.cell? (a.add i) = some (.string (ks i)) := by
      refine ⟨fun i => if h : i < len then (hel i h).choose else ByteArray.empty, fun i hil => ?_⟩
      simp only [hil, dif_pos]
      exact (hel i hil).choose_spec
    have hlen : ((List.range len).map ks).length = len := by simp
    refine ⟨(List.range len).map ks, ?_⟩
    have := B.Txts.close (w := W) (ao := some a) (cap := cap) (l := (List.range len).map ks) (by rw [hlen]; exact hl) hm fun j hj => by
      have hj' : j < len := by rwa [hlen] at hj
      have c0 := hks j hj'
      have cz := hks 0 (by omega)
      obtain ⟨b, o, rfl⟩ := cell_lit cz
      rw [B.add_lit] at c0
      exact ⟨b, o, rfl, by rw [c0]; simp⟩
    rwa [hlen] at this
theorem ints_of {W : World} {base : Nat} {t e : TypeId} {v : Value} {d : DataW H} {p : List MemPlace} (ht : P.underlying t = some (.slice e)) (he : P.underlying e = some (.int .i64)) (hC : P.cellsOf e = 1)
    (hv : Value.okWide P W .any base t v) (h : DataW.Trod enc P W 0 (fun _ => true) true t v d p) : ∃ l : List Int, B.Ints W v l := by
  obtain ⟨a0, len, cap, rfl⟩ := okWide_slice ht hv
  obtain ⟨fuel, hf⟩ := h
  exact ints_trod ht he hC (y := (d, p)) (by simpa [Value.cells] using hf)
theorem txts_of {W : World} {base : Nat} {t e : TypeId} {v : Value} {d : DataW H} {p : List MemPlace} (ht : P.underlying t = some (.slice e)) (he : P.underlying e = some .string) (hC : P.cellsOf e = 1)
    (hv : Value.okWide P W .any base t v) (h : DataW.Trod enc P W 0 (fun _ => true) true t v d p) : ∃ l : List ByteArray, B.Txts W v l := by
  obtain ⟨a0, len, cap, rfl⟩ := okWide_slice ht hv
  obtain ⟨fuel, hf⟩ := h
  exact txts_trod ht he hC (y := (d, p)) (by simpa [Value.cells] using hf)
/-- an argument that is a node -/
theorem node_of {W : World} {base : Nat} {t tb te tk ts ee ei es : TypeId} {fs : Array Field} {g0 g1 f0 f1 f2 f3 : Field} {v : Value} {d : DataW H} {p : List MemPlace} (hs : P.underlying t = some (.struct #[f0, f1, f2, f3])) (hone : oneCellFields P #[f0, f1, f2, f3] = true) (hC : P.cellsOf t = 4)
    (t0 : f0.type = tb) (t1 : f1.type = te) (t2 : f2.type = tk) (t3 : f3.type = ts) (hb : P.underlying tb = some .bool) (he : P.underlying te = some (.slice ee)) (hk : P.underlying tk = some (.slice ei)) (hx : P.underlying ts = some (.slice es))
    (hee : P.underlying ee = some (.struct fs)) (hfs : fs = #[g0, g1]) (h0 : g0.type = es) (h1 : g1.type = es) (hstr : P.underlying es = some .string) (hone2 : oneCellFields P fs = true) (hC2 : P.cellsOf ee = fs.size)
    (hi : P.underlying ei = some (.int .i64)) (hCi : P.cellsOf ei = 1) (hCs : P.cellsOf es = 1)
    (hv : Value.okWide P W .any base t v) (h : DataW.Trod enc P W 0 (fun _ => true) true t v d p) : ∃ n : M.Nd, B.NdV W v n := by
  obtain ⟨v0, v1, v2, v3, y0, y1, y2, y3, n, rfl, _, _, r0, r1, r2, r3⟩ := open_agg4 hs hone hC hv h
  rw [t0] at r0
  rw [t1] at r1
  rw [t2] at r2
  rw [t3] at r3
  obtain ⟨b, hb0, _⟩ := DataW.trod_bool hb r0
  obtain ⟨le, hle⟩ := ents_trod he hee hfs h0 h1 hstr hone2 hC2 r1
  obtain ⟨lk, hlk⟩ := ints_trod hk hi hCi r2
  obtain ⟨lt, hlt⟩ := txts_trod hx hstr hCs r3
  simp at hb0
  subst hb0
  obtain ⟨a1, c1, rfl, _⟩ := hle.open
  obtain ⟨a2, c2, rfl, _⟩ := hlk.open
  obtain ⟨a3, c3, rfl, _⟩ := hlt.open
  exact ⟨⟨b, le, lk, lt⟩, a1, c1, a2, c2, a3, c3, rfl, hle, hlk, hlt⟩
end Go.Proofs.Ytifdglehfhoecaa.Law

/-
  What all rows of this seat need: the program's own facts. Conditions: none.
-/
namespace Go.Proofs.Ytifdglehfhoecaa.Seat
theorem own : ownKnob Try.prog.godebug = none := by kernel_rfl
theorem laidOut : laidOutB Try.prog = true := by kernel_rfl
end Go.Proofs.Ytifdglehfhoecaa.Seat
