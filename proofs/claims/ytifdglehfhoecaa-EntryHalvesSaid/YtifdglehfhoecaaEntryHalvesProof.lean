/-
  EntryHalves answers true for every input, and leaves its arguments as they were. Conditions: none.
-/
import Derived.Test.YtifdglehfhoecaaELawHalves
import Derived.Test.YtifdglehfhoecaaELaw
import Derived.Test.YtifdglehfhoecaaSeat
namespace Go.Proofs.Ytifdglehfhoecaa.entryHalvesP
open Go.ChangeShapes Go.WideShapes Go.ChangeAt Go.RowKit
/-- the zero arguments, for the witness -/
def args0 : Array Value := #[.slice none 0 0]
set_option maxRecDepth 100000 in
theorem contract (H : Type) (enc : TypeId × Value → H) (W : World) (base : Nat) (args : Array Value) (ds gs : List (DataW H)) (before : List MemPlace)
    (hval : ∀ (j : Nat) t v, Try.f9.params[j]? = some t → args[j]? = some v → Value.okWide Try.prog W .any base t v)
    (hW : DataW.Whole enc Try.prog Try.f9.params.toList Rows.entryHalvesSpec.vars false W args.toList ds gs before) :
    Calls Try.prog 9 args W fun e W' => ∃ v, e = .returned v ∧ Rows.entryHalvesSpec.post enc Try.prog Try.f9 false true false false W args v W' := by
  have hW' := hW
  obtain ⟨p, q, hA0, hV, rfl, hfz, hnd⟩ := hW
  have hA : DataW.TrodAll enc Try.prog W 0 (fun _ => true) true Try.f9.params.toList args.toList ds p := hA0
  rw [Try.params9] at hA hval
  obtain ⟨v0, vs0, d0, ds0, p0, q0, hargs, rfl, rfl, h0, r0⟩ := trodAll_cons hA
  obtain ⟨rfl, rfl, rfl⟩ := trodAll_nil r0
  obtain rfl : args = #[v0] := by cases args; simp_all
  obtain ⟨rfl, rfl⟩ := trodVars_none hV
  obtain ⟨x0, hx0⟩ := Law.ents_of Try.underlying43 Try.underlying49 rfl rfl rfl Try.underlying9 (by kernel_rfl) (by kernel_rfl) (hval 0 43 v0 rfl rfl) h0
  refine (E.halves_any _ x0 W hx0).mono fun e W' ⟨he, hb⟩ => ?_
  subst he
  exact ⟨_, rfl, Law.law_post Seat.laidOut (by kernel_rfl) rfl rfl Try.underlying4 rfl hW' hb⟩
set_option maxRecDepth 100000 in
theorem lifted (os : Os) (started : os.Started) (H : Type) (enc : TypeId × Value → H) :
    ReturnsInHanded {} Try.checked os 9 .any (Rows.entryHalvesSpec.pre6 enc Try.prog Try.f9 Rows.entryHalvesRow.domain false) (Rows.entryHalvesSpec.post enc Try.prog Try.f9 false true false false) := by
  refine returnsInHanded_of_change (C := Try.checked) Seat.own started (by kernel_rfl) Try.func9
    (ChangeSpec.witness6 (enc := enc) (C := Try.checked) false ⟨#[], args0, []⟩ 8 (by kernel_rfl) (by kernel_rfl) (by kernel_rfl) (by kernel_rfl)) ?_
  intro W base args ds gs before hval hW _ _
  exact contract H enc W base args ds gs before hval hW
end Go.Proofs.Ytifdglehfhoecaa.entryHalvesP
namespace Go.Proofs.Ytifdglehfhoecaa
/-- EntryHalves answers true for every input. -/
theorem entryHalves_said : Rows.EntryHalvesSaid :=
  OpenClaim.holds_of_wide 9 Try.f9 rfl rfl rfl rfl rfl rfl rfl ⟨rfl, rfl, rfl, rfl, rfl⟩ rfl rfl rfl rfl rfl (by kernel_rfl) Try.func9 (by kernel_rfl)
    (of_decide_eq_true (by kernel_rfl)) (by unfold Func.isWrapper; first | (rw [if_pos (by decide +kernel)]; kernel_rfl) | (rw [if_neg (by decide +kernel)]; exact ⟨rfl, rfl⟩))
    (fun os started H enc _ => entryHalvesP.lifted os started H enc)
#print axioms entryHalves_said
end Go.Proofs.Ytifdglehfhoecaa
