/-
  A node as the document has it; a node's box, read whole. Conditions: none.
-/
import Derived.Test.YtifdglehfhoecaaNGlue
namespace Go.Proofs.Ytifdglehfhoecaa.N
open Go.RowKit B E
theorem load69 {w : World} {g : Nat} {l : Bool} {e0 k0 s0 : Option Addr} {en ec kn kc sn sc : Nat} (h : Bx w g l (.slice e0 en ec) (.slice k0 kn kc) (.slice s0 sn sc)) :
    (loadVar 69 ⟨g, 0, none⟩).run Try.prog w = .ok (.agg #[.bool l, .slice e0 en ec, .slice k0 kn kc, .slice s0 sn sc]) w := by
  obtain ⟨c0, c1, c2, c3⟩ := h
  simp [loadVar, go_sem, *]
theorem load73 {w : World} {g : Nat} {l : Bool} {e0 k0 s0 : Option Addr} {en ec kn kc sn sc : Nat} (h : Bx w g l (.slice e0 en ec) (.slice k0 kn kc) (.slice s0 sn sc)) :
    (loadVar 73 ⟨g, 0, none⟩).run Try.prog w = .ok (.agg #[.bool l, .slice e0 en ec, .slice k0 kn kc, .slice s0 sn sc]) w := by
  obtain ⟨c0, c1, c2, c3⟩ := h
  simp [loadVar, go_sem, *]
theorem res_one {P : Program} {fn : Func} {a t : Nat} {tmps : Array Value} {w : World} {p : Addr} {v : Value} (h : fn.results = #[.cell a t]) (hp : tmps.getD a undef = .pointer (some p)) (hl : (loadVar t p).run P w = .ok v w) : (results fn tmps).run P w = .ok v w := by
  rw [Array.getD_eq_getD_getElem?] at hp
  simp [results, h, hp, hl, asAddr]
theorem of_any (v : Value) (n : M.Nd) (w : World) (hv : NdV w v n) : Calls Try.prog 56 #[v] w fun r w' => ∃ u, r = .returned u ∧ NdV w' u n ∧ Below w.heap.size w w' := by
  obtain ⟨e0, ec, k0, kc, s0, sc, rfl, he, hi, hs⟩ := hv
  have HE := Lib.hid he; have HI := Lib.hid hi; have HS := Lib.hid hs
  clear he hi hs
  go_enter Try.func56, Try.ntmps56
  go_wp2
  have hb : Below w.heap.size w ((w.alloc (.cells #[.bool n.leaf, .slice e0 n.es.length ec, .slice k0 n.ks.length kc, .slice s0 n.ss.length sc] 69)).alloc (.cells #[.bool n.leaf, .slice e0 n.es.length ec, .slice k0 n.ks.length kc, .slice s0 n.ss.length sc] 73)) := ((Below.refl _ w).alloc (Nat.le_refl _) _).alloc (by simp) _
  have hx := Bx.new (w.alloc (.cells #[.bool n.leaf, .slice e0 n.es.length ec, .slice k0 n.ks.length kc, .slice s0 n.ss.length sc] 69)) n.leaf (.slice e0 n.es.length ec) (.slice k0 n.ks.length kc) (.slice s0 n.ss.length sc) 73
  rw [show (w.alloc (.cells #[.bool n.leaf, .slice e0 n.es.length ec, .slice k0 n.ks.length kc, .slice s0 n.ss.length sc] 69)).heap.size = w.heap.size + 1 by simp] at hx
  refine bodyPost_ret (res_one rfl rfl (load73 hx)) rfl ?_
  exact ⟨_, rfl, ⟨e0, ec, k0, kc, s0, sc, rfl, HE.out.below hb, HI.out.below hb, HS.out.below hb⟩, hb⟩
end Go.Proofs.Ytifdglehfhoecaa.N
