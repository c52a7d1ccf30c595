/-
  An argument that is a slice of entries. Conditions: none.
-/
import Derived.Test.YtifdglehfhoecaaLaw
import Derived.Test.YtifdglehfhoecaaEBase
import Derived.Deep.Slices
import Derived.Deep.Fields
import Derived.ChangeSame
namespace Go.Proofs.Ytifdglehfhoecaa.Law
open Go.ChangeShapes Go.WideShapes Go.RowKit Go.Deep
section
variable {H : Type} {enc : TypeId × Value → H} {P : Program} {w : World} {base : Nat} {spare : Nat → Bool} {held : Bool}
theorem open_slice_fields {t e : TypeId} {fs : Array Field} {fuel : Nat} {cs : List Value} {x : DataW H × List MemPlace} (ht : P.underlying t = some (.slice e)) (he : P.underlying e = some (.struct fs))
    (hone : oneCellFields P fs = true) (hC : P.cellsOf e = fs.size) (h : DataW.trod enc P w base spare held fuel t cs = some x) :
    (cs = [.slice none 0 0] ∧ x = (.nil, [])) ∨
    ∃ (a : Addr) (len cap m : Nat) (D : Nat → DataW H) (Pl : Nat → List MemPlace), cs = [.slice (some a) len cap] ∧ base ≤ a.block ∧ len ≤ cap ∧ cap ≤ maxLen ∧ m = (if spare a.block then cap else len) ∧
      x = (.slice ((List.range len).map D) ((List.range (m - len)).map fun j => D (len + j)), MemPlace.row a (m * fs.size) ++ (List.range m).flatMap Pl) ∧
      ∀ i, i < m → ∃ (ys : List (DataW H × List MemPlace)) (n : Nat), D i = .agg (ys.map (·.1)) ∧ Pl i = ys.flatMap (·.2) ∧ ys.length = fs.size ∧
        ∀ (j : Nat) (f : Field), fs[j]? = some f → ∃ (v : Value) (y : DataW H × List MemPlace), w.cell? (a.add (i * fs.size + j)) = some v ∧ ys[j]? = some y ∧ DataW.trod enc P w base spare held n f.type [v] = some y := by
  rcases open_slice ht h with h0 | ⟨a, len, cap, m, n, D, Pl, hcs, hb, hl, hm, hmm, hx, hi⟩
  · exact .inl h0
  · refine .inr ⟨a, len, cap, m, D, Pl, hcs, hb, hl, hm, hmm, by rw [hC] at hx; exact hx, fun i him => ?_⟩
    obtain ⟨cs', hc, ht'⟩ := hi i him
    rw [hC] at hc
    obtain ⟨ys, n', hn', hy, hlen, hyl, hf⟩ := DataW.trod_struct he ht'
    obtain ⟨_, hcl, hat⟩ := World.cells?_some hc
    simp only [Prod.mk.injEq] at hy
    refine ⟨ys, n', hy.1, hy.2, hyl, fun j f hj => ?_⟩
    obtain ⟨ho, hk⟩ := hone_of hone j f hj
    have hjl : j < fs.size := (Array.getElem?_eq_some_iff.1 hj).1
    have hcell := hat j hjl
    have hv : cs'[j]? = some (cs'[j]'(by omega)) := List.getElem?_eq_getElem (by omega)
    have h1 := hf j f hj
    rw [ho, hk] at h1
    have hone' : (cs'.drop j).take 1 = [cs'[j]'(by omega)] := by
      rw [List.drop_eq_getElem_cons (by omega)]
      rfl
    rw [hone'] at h1
    have hys : ys[j]? = some (ys[j]'(by omega)) := List.getElem?_eq_getElem (by omega)
    refine ⟨_, _, ?_, hys, h1.trans hys⟩
    rw [← Go.Deep.add_add, hcell, hv]
end
theorem cell_lit {w : World} {a : Addr} {v : Value} (h : w.cell? (a.add 0) = some v) : ∃ b o, a = ⟨b, o, none⟩ := by
  obtain ⟨b, o, s⟩ := a
  rcases s with _ | s
  · exact ⟨b, o, rfl⟩
  · exfalso
    unfold World.cell? Addr.add at h
    simp at h
    split at h <;> simp at h
variable {H : Type} {enc : TypeId × Value → H} {P : Program}
/-- an argument that is a slice of two-text structs -/
theorem ents_of {W : World} {base : Nat} {t e s : TypeId} {fs : Array Field} {f0 f1 : Field} {v : Value} {d : DataW H} {p : List MemPlace} (ht : P.underlying t = some (.slice e)) (he : P.underlying e = some (.struct fs)) (hfs : fs = #[f0, f1])
    (h0 : f0.type = s) (h1 : f1.type = s) (hstr : P.underlying s = some .string) (hone : oneCellFields P fs = true) (hC : P.cellsOf e = fs.size)
    (hv : Value.okWide P W .any base t v) (h : DataW.Trod enc P W 0 (fun _ => true) true t v d p) :
    ∃ l : List B.Ent, B.Ents W v l := by
  obtain ⟨a0, len, cap, rfl⟩ := okWide_slice ht hv
  obtain ⟨fuel, hf⟩ := h
  subst hfs
  rcases open_slice_fields ht he hone hC hf with ⟨hcs, hx⟩ | ⟨a, len', cap', m, D, Pl, hcs, _, hl, hm, hz, hx, hi⟩
  · simp [Value.cells] at hcs
    obtain ⟨rfl, rfl, rfl⟩ := hcs
    exact ⟨[], B.Rw.nil W 2⟩
  · simp [Value.cells] at hcs
    obtain ⟨rfl, rfl, rfl⟩ := hcs
    simp only [if_true] at hz
    have hel : ∀ i, i < len → ∃ k x : ByteArray, W.cell? (a.add (i * 2)) = some (.string k) ∧ W.cell? (a.add (i * 2 + 1)) = some (.string x) := fun i hil => by
      obtain ⟨ys, n, _, _, _, hf2⟩ := hi i (by omega)
      obtain ⟨u, y, hc0, _, ht0⟩ := hf2 0 f0 rfl
      obtain ⟨u', y', hc1, _, ht1⟩ := hf2 1 f1 rfl
      rw [h0] at ht0
      rw [h1] at ht1
      obtain ⟨k, hk, _⟩ := DataW.trod_string hstr ht0
      obtain ⟨x, hx', _⟩ := DataW.trod_string hstr ht1
      refine ⟨k, x, ?_, ?_⟩
      · simp at hk; subst hk; exact hc0
      · simp at hx'; subst hx'; exact hc1
    obtain ⟨ks, hks⟩ : ∃ ks : Nat → ByteArray × ByteArray, ∀ i, i < len → W.cell? (a.add (i * 2)) = some (.string (ks i).1) ∧ W.cell? (a.add (i * 2 + 1)) = some (.string (ks i).2) := by
      refine ⟨fun i => if h : i < len then ((hel i h).choose, (hel i h).choose_spec.choose) else (ByteArray.empty, ByteArray.empty), fun i hil => ?_⟩
      simp only [hil, dif_pos]
      exact (hel i hil).choose_spec.choose_spec
    have hlen : ((List.range len).map ks).length = len := by simp
    refine ⟨(List.range len).map ks, ?_⟩
    have := B.Ents.close (w := W) (ao := some a) (cap := cap) (l := (List.range len).map ks) (by rw [hlen]; exact hl) hm fun j hj => by
      have hj' : j < len := by rwa [hlen] at hj
      obtain ⟨c0, c1⟩ := hks j hj'
      have cz := (hks 0 (by omega)).1
      rw [Nat.zero_mul] at cz
      obtain ⟨b, o, rfl⟩ := cell_lit cz
      rw [B.add_lit] at c0 c1
      refine ⟨b, o, rfl, ?_, ?_⟩
      · rw [c0]; simp
      · rw [Nat.add_assoc, c1]; simp
    rwa [hlen] at this
end Go.Proofs.Ytifdglehfhoecaa.Law
