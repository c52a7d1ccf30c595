/-
  NodeSwaps answers true for every input, and leaves its arguments as they were. Conditions: none.
-/
import Derived.Test.YtifdglehfhoecaaNLawSwaps
import Derived.Test.YtifdglehfhoecaaNLaw
import Derived.Test.YtifdglehfhoecaaSeat
namespace Go.Proofs.Ytifdglehfhoecaa.nodeSwapsP
open Go.ChangeShapes Go.WideShapes Go.ChangeAt Go.RowKit
/-- the zero arguments, for the witness -/
def args0 : Array Value := #[.agg #[.bool false, .slice none 0 0, .slice none 0 0, .slice none 0 0], .int .i64 0, .slice none 0 0, .slice none 0 0]
set_option maxRecDepth 100000 in
theorem contract (H : Type) (enc : TypeId × Value → H) (W : World) (base : Nat) (args : Array Value) (ds gs : List (DataW H)) (before : List MemPlace)
    (hval : ∀ (j : Nat) t v, Try.f14.params[j]? = some t → args[j]? = some v → Value.okWide Try.prog W .any base t v)
    (hW : DataW.Whole enc Try.prog Try.f14.params.toList Rows.nodeSwapsSpec.vars false W args.toList ds gs before) :
    Calls Try.prog 14 args W fun e W' => ∃ v, e = .returned v ∧ Rows.nodeSwapsSpec.post enc Try.prog Try.f14 false true false false W args v W' := by
  have hW' := hW
  obtain ⟨p, q, hA0, hV, rfl, hfz, hnd⟩ := hW
  have hA : DataW.TrodAll enc Try.prog W 0 (fun _ => true) true Try.f14.params.toList args.toList ds p := hA0
  rw [Try.params14] at hA hval
  obtain ⟨v0, vs0, d0, ds0, p0, q0, hargs, rfl, rfl, h0, r0⟩ := trodAll_cons hA
  obtain ⟨v1, vs1, d1, ds1, p1, q1, rfl, rfl, rfl, h1, r1⟩ := trodAll_cons r0
  obtain ⟨v2, vs2, d2, ds2, p2, q2, rfl, rfl, rfl, h2, r2⟩ := trodAll_cons r1
  obtain ⟨v3, vs3, d3, ds3, p3, q3, rfl, rfl, rfl, h3, r3⟩ := trodAll_cons r2
  obtain ⟨rfl, rfl, rfl⟩ := trodAll_nil r3
  obtain rfl : args = #[v0, v1, v2, v3] := by cases args; simp_all
  obtain ⟨rfl, rfl⟩ := trodVars_none hV
  obtain ⟨x0, hx0⟩ := Law.node_of Try.underlying69 (by kernel_rfl) (by kernel_rfl) rfl rfl rfl rfl Try.underlying4 Try.underlying43 Try.underlying67 Try.underlying22 Try.underlying49 rfl rfl rfl Try.underlying9 (by kernel_rfl) (by kernel_rfl) Try.underlying3 (by kernel_rfl) (by kernel_rfl) (hval 0 69 v0 rfl rfl) h0
  obtain ⟨x1, rfl, rfl, rfl, w1⟩ := open_int Try.underlying3 (hval 1 3 v1 rfl rfl) h1
  obtain ⟨x2, hx2⟩ := Law.ints_of Try.underlying67 Try.underlying3 (by kernel_rfl) (hval 2 67 v2 rfl rfl) h2
  obtain ⟨x3, hx3⟩ := Law.txts_of Try.underlying22 Try.underlying9 (by kernel_rfl) (hval 3 22 v3 rfl rfl) h3
  refine (N.nswaps_any _ _ _ x0 x1 x2 x3 W hx0 hx2 hx3 (bounds_i64 w1)).mono fun e W' ⟨he, hb⟩ => ?_
  subst he
  exact ⟨_, rfl, Law.law_post Seat.laidOut (by kernel_rfl) rfl rfl Try.underlying4 rfl hW' hb⟩
set_option maxRecDepth 100000 in
theorem lifted (os : Os) (started : os.Started) (H : Type) (enc : TypeId × Value → H) :
    ReturnsInHanded {} Try.checked os 14 .any (Rows.nodeSwapsSpec.pre6 enc Try.prog Try.f14 Rows.nodeSwapsRow.domain false) (Rows.nodeSwapsSpec.post enc Try.prog Try.f14 false true false false) := by
  refine returnsInHanded_of_change (C := Try.checked) Seat.own started (by kernel_rfl) Try.func14
    (ChangeSpec.witness6 (enc := enc) (C := Try.checked) false ⟨#[], args0, []⟩ 8 (by kernel_rfl) (by kernel_rfl) (by kernel_rfl) (by kernel_rfl)) ?_
  intro W base args ds gs before hval hW _ _
  exact contract H enc W base args ds gs before hval hW
end Go.Proofs.Ytifdglehfhoecaa.nodeSwapsP
namespace Go.Proofs.Ytifdglehfhoecaa
/-- NodeSwaps answers true for every input. -/
theorem nodeSwaps_said : Rows.NodeSwapsSaid :=
  OpenClaim.holds_of_wide 14 Try.f14 rfl rfl rfl rfl rfl rfl rfl ⟨rfl, rfl, rfl, rfl, rfl⟩ rfl rfl rfl rfl rfl (by kernel_rfl) Try.func14 (by kernel_rfl)
    (of_decide_eq_true (by kernel_rfl)) (by unfold Func.isWrapper; first | (rw [if_pos (by decide +kernel)]; kernel_rfl) | (rw [if_neg (by decide +kernel)]; exact ⟨rfl, rfl⟩))
    (fun os started H enc _ => nodeSwapsP.lifted os started H enc)
#print axioms nodeSwaps_said
end Go.Proofs.Ytifdglehfhoecaa
