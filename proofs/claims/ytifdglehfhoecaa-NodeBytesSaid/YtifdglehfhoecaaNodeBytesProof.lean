/-
  NodeBytes answers true for every input, and leaves its arguments as they were. Conditions: none.
-/
import Derived.Test.YtifdglehfhoecaaMc11
namespace Go.Proofs.Ytifdglehfhoecaa.nodeBytesP
open Go.ChangeShapes Go.WideShapes Go.ChangeAt Go.RowKit
open Go.ChangeMaps (open_string)
/-- the zero arguments, for the witness -/
def args0 : Array Value := #[.agg #[.bool false, .slice none 0 0, .slice none 0 0, .slice none 0 0], .int .u8 0, .string ⟨#[]⟩]
set_option maxRecDepth 100000 in
theorem contract (H : Type) (enc : TypeId × Value → H) (W : World) (base : Nat) (args : Array Value) (ds gs : List (DataW H)) (before : List MemPlace)
    (hval : ∀ (j : Nat) t v, Try.f16.params[j]? = some t → args[j]? = some v → Value.okWide Try.prog W .any base t v)
    (hW : DataW.Whole enc Try.prog Try.f16.params.toList Rows.nodeBytesSpec.vars false W args.toList ds gs before) :
    Calls Try.prog 16 args W fun e W' => ∃ v, e = .returned v ∧ Rows.nodeBytesSpec.post enc Try.prog Try.f16 false true false false W args v W' := by
  have hW' := hW
  obtain ⟨p, q, hA0, hV, rfl, hfz, hnd⟩ := hW
  have hA : DataW.TrodAll enc Try.prog W 0 (fun _ => true) true Try.f16.params.toList args.toList ds p := hA0
  rw [Try.params16] at hA hval
  obtain ⟨v0, vs0, d0, ds0, p0, q0, hargs, rfl, rfl, h0, r0⟩ := trodAll_cons hA
  obtain ⟨v1, vs1, d1, ds1, p1, q1, rfl, rfl, rfl, h1, r1⟩ := trodAll_cons r0
  obtain ⟨v2, vs2, d2, ds2, p2, q2, rfl, rfl, rfl, h2, r2⟩ := trodAll_cons r1
  obtain ⟨rfl, rfl, rfl⟩ := trodAll_nil r2
  obtain rfl : args = #[v0, v1, v2] := by cases args; simp_all
  obtain ⟨rfl, rfl⟩ := trodVars_none hV
  obtain ⟨x0, hx0⟩ := Law.node_of Try.underlying69 (by kernel_rfl) (by kernel_rfl) rfl rfl rfl rfl Try.underlying4 Try.underlying43 Try.underlying67 Try.underlying22 Try.underlying49 rfl rfl rfl Try.underlying9 (by kernel_rfl) (by kernel_rfl) Try.underlying3 (by kernel_rfl) (by kernel_rfl) (hval 0 69 v0 rfl rfl) h0
  obtain ⟨x1, rfl, rfl, rfl, w1⟩ := open_int Try.underlying82 (hval 1 82 v1 rfl rfl) h1
  obtain ⟨b1, rfl⟩ := Law.u8_of w1
  obtain ⟨x2, rfl, rfl, rfl, w2⟩ := open_string Try.underlying9 (hval 2 9 v2 rfl rfl) h2
  refine (N.nbytes_any _ x0 b1 x2 W hx0).mono fun e W' ⟨he, hb⟩ => ?_
  subst he
  exact ⟨_, rfl, Law.law_post Seat.laidOut (by kernel_rfl) rfl rfl Try.underlying4 rfl hW' hb⟩
set_option maxRecDepth 100000 in
theorem lifted (os : Os) (started : os.Started) (H : Type) (enc : TypeId × Value → H) :
    ReturnsInHanded {} Try.checked os 16 .any (Rows.nodeBytesSpec.pre6 enc Try.prog Try.f16 Rows.nodeBytesRow.domain false) (Rows.nodeBytesSpec.post enc Try.prog Try.f16 false true false false) := by
  refine returnsInHanded_of_change (C := Try.checked) Seat.own started (by kernel_rfl) Try.func16
    (ChangeSpec.witness6 (enc := enc) (C := Try.checked) false ⟨#[], args0, []⟩ 8 (by kernel_rfl) (by kernel_rfl) (by kernel_rfl) (by kernel_rfl)) ?_
  intro W base args ds gs before hval hW _ _
  exact contract H enc W base args ds gs before hval hW
end Go.Proofs.Ytifdglehfhoecaa.nodeBytesP
namespace Go.Proofs.Ytifdglehfhoecaa
/-- NodeBytes answers true for every input. -/
theorem nodeBytes_said : Rows.NodeBytesSaid :=
  OpenClaim.holds_of_wide 16 Try.f16 rfl rfl rfl rfl rfl rfl rfl ⟨rfl, rfl, rfl, rfl, rfl⟩ rfl rfl rfl rfl rfl (by kernel_rfl) Try.func16 (by kernel_rfl)
    (of_decide_eq_true (by kernel_rfl)) (by unfold Func.isWrapper; first | (rw [if_pos (by decide +kernel)]; kernel_rfl) | (rw [if_neg (by decide +kernel)]; exact ⟨rfl, rfl⟩))
    (fun os started H enc _ => nodeBytesP.lifted os started H enc)
#print axioms nodeBytes_said
end Go.Proofs.Ytifdglehfhoecaa
