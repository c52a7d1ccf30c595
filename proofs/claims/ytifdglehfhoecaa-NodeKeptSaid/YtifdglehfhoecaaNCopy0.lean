/-
  What is owned stays owned; glue by the cells of its argument; a struct into its box. Conditions: none.
-/
import Derived.Test.YtifdglehfhoecaaNOf
import Derived.Test.YtifdglehfhoecaaNRegion
import Derived.Test.YtifdglehfhoecaaEPut
namespace Go.Proofs.Ytifdglehfhoecaa.N
open Go.RowKit B E
theorem own_below {w w' : World} {base : Nat} {e : TypeId} {size n : Nat} {v : Value} {cs : List Value} (h : w.ownsRow base e size v n cs) (hb : Below w.heap.size w w') : w'.ownsRow base e size v n cs := by
  have hg : w.grownBy w' none := ⟨hb.os, hb.tape, hb.output, hb.size, fun i hi _ => hb.block i hi⟩
  rcases ho : v.ownBlock with _ | g
  · exact h.kept hg (.inl ho)
  · exact h.kept hg (.inr (by rw [ho]; simp))
theorem own_mono {w : World} {base base' : Nat} {e : TypeId} {size n : Nat} {v : Value} {cs : List Value} (h : w.ownsRow base e size v n cs) (hb : base' ≤ base) : w.ownsRow base' e size v n cs := by
  refine ⟨h.1, ?_⟩
  rcases h.2 with h | ⟨g, cap, cur, h1, h2, h3⟩
  · exact .inl h
  · exact .inr ⟨g, cap, cur, h1, Nat.le_trans hb h2, h3⟩
/-- glue, its argument told by its cells -/
theorem gl_e {w : World} {v : Value} (us : List (Value × List Ent)) (hcl : Cl w v (us.map (·.1))) (hr : ∀ p ∈ us, Ents w p.1 p.2) (hn : us.length ≤ 100) (hl : (flatA us us.length).length ≤ 1099511627776) (m : List Ent) (hm : flatA us us.length = m) :
    Calls Try.prog 83 #[v] w fun r w' => ∃ x, r = .returned x ∧ w'.ownsRow w.heap.size 49 2 x m.length (ecs m) ∧ Below w.heap.size w w' := by
  subst hm
  obtain ⟨g, rfl, hc⟩ := hcl
  rw [List.length_map]
  exact glue_e g us w hn hl fun j hj => ⟨by have := hc j (by simpa using hj); rwa [List.getElem_map] at this, hr _ (List.getElem_mem hj)⟩
theorem gl_i {w : World} {v : Value} (us : List (Value × List Int)) (hcl : Cl w v (us.map (·.1))) (hr : ∀ p ∈ us, Ints w p.1 p.2) (hn : us.length ≤ 100) (hl : (flatA us us.length).length ≤ 1099511627776) (m : List Int) (hm : flatA us us.length = m) :
    Calls Try.prog 81 #[v] w fun r w' => ∃ x, r = .returned x ∧ w'.ownsRow w.heap.size 3 1 x m.length (ics m) ∧ Below w.heap.size w w' := by
  subst hm
  obtain ⟨g, rfl, hc⟩ := hcl
  rw [List.length_map]
  exact glue_i g us w hn hl fun j hj => ⟨by have := hc j (by simpa using hj); rwa [List.getElem_map] at this, hr _ (List.getElem_mem hj)⟩
theorem gl_t {w : World} {v : Value} (us : List (Value × List ByteArray)) (hcl : Cl w v (us.map (·.1))) (hr : ∀ p ∈ us, Txts w p.1 p.2) (hn : us.length ≤ 100) (hl : (flatA us us.length).length ≤ 1099511627776) (m : List ByteArray) (hm : flatA us us.length = m) :
    Calls Try.prog 82 #[v] w fun r w' => ∃ x, r = .returned x ∧ w'.ownsRow w.heap.size 9 1 x m.length (tcs m) ∧ Below w.heap.size w w' := by
  subst hm
  obtain ⟨g, rfl, hc⟩ := hcl
  rw [List.length_map]
  exact glue_t g us w hn hl fun j hj => ⟨by have := hc j (by simpa using hj); rwa [List.getElem_map] at this, hr _ (List.getElem_mem hj)⟩
theorem gl1_e {w : World} {v u : Value} {l : List Ent} (hcl : Cl w v [u]) (hr : Ents w u l) (hl : l.length ≤ 1099511627776) :
    Calls Try.prog 83 #[v] w fun r w' => ∃ x, r = .returned x ∧ w'.ownsRow w.heap.size 49 2 x l.length (ecs l) ∧ Below w.heap.size w w' :=
  gl_e [(u, l)] hcl (fun p hp => by rw [List.mem_singleton.1 hp]; exact hr) (by simp) (by simpa [flatA] using hl) l (by simp [flatA])
theorem gl1_i {w : World} {v u : Value} {l : List Int} (hcl : Cl w v [u]) (hr : Ints w u l) (hl : l.length ≤ 1099511627776) :
    Calls Try.prog 81 #[v] w fun r w' => ∃ x, r = .returned x ∧ w'.ownsRow w.heap.size 3 1 x l.length (ics l) ∧ Below w.heap.size w w' :=
  gl_i [(u, l)] hcl (fun p hp => by rw [List.mem_singleton.1 hp]; exact hr) (by simp) (by simpa [flatA] using hl) l (by simp [flatA])
theorem gl1_t {w : World} {v u : Value} {l : List ByteArray} (hcl : Cl w v [u]) (hr : Txts w u l) (hl : l.length ≤ 1099511627776) :
    Calls Try.prog 82 #[v] w fun r w' => ∃ x, r = .returned x ∧ w'.ownsRow w.heap.size 9 1 x l.length (tcs l) ∧ Below w.heap.size w w' :=
  gl_t [(u, l)] hcl (fun p hp => by rw [List.mem_singleton.1 hp]; exact hr) (by simp) (by simpa [flatA] using hl) l (by simp [flatA])
/-- an empty box, and what is stored there -/
def Zb (w : World) (g : Nat) (t : TypeId) : Prop := ∃ a b c d, w.heap[g]? = some (.cells #[a, b, c, d] t (0, 0))
theorem Zb.below {w w' : World} {g : Nat} {t : TypeId} (h : Zb w g t) (hb : Below w.heap.size w w') : Zb w' g t := by
  obtain ⟨a, b, c, d, h⟩ := h
  exact ⟨a, b, c, d, blk_below h hb⟩
theorem Zb.new (w : World) (a b c d : Value) (t : TypeId) : Zb (w.alloc (.cells #[a, b, c, d] t)) w.heap.size t := ⟨a, b, c, d, blk_new _ _⟩
theorem store69 {w : World} {g : Nat} {l : Bool} {e0 k0 s0 : Option Addr} {en ec kn kc sn sc : Nat} (h : Zb w g 69) :
    ∃ w', (storeVar 69 ⟨g, 0, none⟩ (.agg #[.bool l, .slice e0 en ec, .slice k0 kn kc, .slice s0 sn sc])).run Try.prog w = .ok () w' ∧ w'.heap[g]? = some (.cells #[.bool l, .slice e0 en ec, .slice k0 kn kc, .slice s0 sn sc] 69 (0, 0)) ∧ Only g w w' := by
  obtain ⟨a, b, c, d, h⟩ := h
  have h0 := blk_set h 0 (.bool l)
  have h1 := blk_set h0 1 (.slice e0 en ec)
  have h2 := blk_set h1 2 (.slice k0 kn kc)
  have h3 := blk_set h2 3 (.slice s0 sn sc)
  refine ⟨_, ?_, h3, (((Only.set _ _ _).trans (Only.set _ _ _)).trans (Only.set _ _ _)).trans (Only.set _ _ _)⟩
  have c0 : w.cell? ⟨g, 0, none⟩ = some a := by rw [blk_cell h]; rfl
  have c1 : (w.setCell ⟨g, 0, none⟩ (.bool l)).cell? ⟨g, 1, none⟩ = some b := by rw [blk_cell h0]; rfl
  have c2 : ((w.setCell ⟨g, 0, none⟩ (.bool l)).setCell ⟨g, 1, none⟩ (.slice e0 en ec)).cell? ⟨g, 2, none⟩ = some c := by rw [blk_cell h1]; rfl
  have c3 : (((w.setCell ⟨g, 0, none⟩ (.bool l)).setCell ⟨g, 1, none⟩ (.slice e0 en ec)).setCell ⟨g, 2, none⟩ (.slice k0 kn kc)).cell? ⟨g, 3, none⟩ = some d := by rw [blk_cell h2]; rfl
  have f0 := blk_free h 0
  have f1 := blk_free h0 1
  have f2 := blk_free h1 2
  have f3 := blk_free h2 3
  simp [storeVar, go_sem, *]
end Go.Proofs.Ytifdglehfhoecaa.N
