/-
  The law on bytes: true for every input. Conditions: none.
-/
import Derived.Test.YtifdglehfhoecaaERefDec
import Derived.Test.YtifdglehfhoecaaERefEnc
import Derived.Test.YtifdglehfhoecaaELawBack
namespace Go.Proofs.Ytifdglehfhoecaa.E
open Go.RowKit B
set_option maxRecDepth 100000 in
set_option maxHeartbeats 4000000 in
theorem bytes_any (v : Value) (l : List Ent) (body : ByteArray) (w : World) (hv : Ents w v l) :
    Calls Try.prog 12 #[v, .string body] w fun r w' => r = .returned (.bool true) ∧ Below w.heap.size w w' := by
  have HV := Lib.hid hv; clear hv
  go_enter Try.func12, Try.ntmps12
  go_wp2_with fail
  refine (works_any _).mono ?_
  rintro r w1 ⟨rfl, hb1⟩
  go_wp2_with fail
  refine (over_any _ l _ (HV.out.below hb1)).mono ?_
  rintro r w2 ⟨much, rfl, hsm, hw⟩
  subst hw
  rcases much with _ | _
  case true =>
    go_wp2
    go_ret
    exact ⟨rfl, hb1⟩
  have hl60 := (hsm rfl).1
  clear hsm
  by_cases hbs : 1000 < body.size
  · go_wp2
    go_ret
    exact ⟨rfl, hb1⟩
  by_cases ho : M.Ok l
  · have HL := Lib.hid (show encl l = txt (M.enc l) by unfold encl; rw [if_pos ho])
    have HO := Lib.hid ho
    go_wp2_with fail
    refine (rright_any _ l _ (HV.out.below hb1)).mono ?_
    rintro r w3 ⟨rfl, hb3⟩
    rw [decide_eq_true ho]
    have hb3 := hb1.trans (hb3.mono hb1.size)
    clear hb1 ho
    go_wp2_with fail
    refine (encode_any _ l _ (HV.out.below hb3) (by omega)).mono ?_
    rintro r w4 ⟨rfl, hb4⟩
    rw [if_pos HO.out, HL.out]
    have hb4 := hb3.trans (hb4.mono hb3.size)
    clear hb3
    have HRE := Lib.hid (fun (vv : Value) (W : World) (h : Ents W vv l) => rencode_any vv l W h (by omega) HO.out)
    obtain ⟨t, ht⟩ : ∃ t, txt (M.enc l) = t := ⟨_, rfl⟩
    rw [ht] at HRE ⊢
    clear ht
    have hq : (t.toList == t.toList) = true := str_eq rfl
    go_wp2_with fail
    refine (HRE.out _ _ (HV.out.below hb4)).mono ?_
    rintro r w5 ⟨rfl, hb5⟩
    have hb5 := hb4.trans (hb5.mono hb4.size)
    clear hb4
    go_wp2_with fail
    refine (decode_any body _ (by omega)).mono ?_
    rintro r w6 ⟨ua, a, f, rfl, hEa, hda, hb6⟩
    have hb6 := hb5.trans (hb6.mono hb5.size)
    have HEA := Lib.hid hEa
    have HDA := Lib.hid hda
    clear hb5 hEa hda
    go_wp2_with fail
    refine (rdecode_any body _ (by omega)).mono ?_
    rintro r w7 ⟨ub, b, ok, rfl, hEb, hdb, hb7⟩
    obtain ⟨rfl, rfl⟩ := dr_inj HDA.out hdb
    have HEA := Lib.hid (HEA.out.below hb7)
    have hb7 := hb6.trans (hb7.mono hb6.size)
    have HEB := Lib.hid hEb
    clear hb6 hEb hdb HDA
    obtain ⟨f, hf⟩ : ∃ f : Int, (if ok = true then (0 : Int) else 3) = f := ⟨_, rfl⟩
    rw [hf]
    have hcs : (ok = true ∧ f = 0) ∨ (ok = false ∧ f = 3) := by rcases ok with _ | _ <;> simp at hf <;> simp [hf]
    clear hf
    rcases hcs with ⟨rfl, rfl⟩ | ⟨rfl, rfl⟩
    · go_wp2_with fail
      refine (same_any _ _ a a _ HEA.out HEB.out).mono ?_
      rintro r w8 ⟨rfl, hb8⟩
      rw [decide_eq_true rfl]
      have hb8 := hb7.trans (hb8.mono hb7.size)
      clear hb7
      go_wp2
      go_ret
      exact ⟨rfl, hb8⟩
    · go_wp2_with fail
      refine (same_any _ _ a a _ HEA.out HEB.out).mono ?_
      rintro r w8 ⟨rfl, hb8⟩
      rw [decide_eq_true rfl]
      have hb8 := hb7.trans (hb8.mono hb7.size)
      clear hb7
      go_wp2
      go_ret
      exact ⟨rfl, hb8⟩
  · have HL := Lib.hid (show encl l = ByteArray.empty by unfold encl; rw [if_neg ho])
    go_wp2_with fail
    refine (rright_any _ l _ (HV.out.below hb1)).mono ?_
    rintro r w3 ⟨rfl, hb3⟩
    rw [decide_eq_false ho]
    have hb3 := hb1.trans (hb3.mono hb1.size)
    clear hb1
    go_wp2_with fail
    refine (encode_any _ l _ (HV.out.below hb3) (by omega)).mono ?_
    rintro r w4 ⟨rfl, hb4⟩
    rw [if_neg ho, HL.out]
    have hb4 := hb3.trans (hb4.mono hb3.size)
    clear hb3 ho
    go_wp2_with fail
    refine (decode_any body _ (by omega)).mono ?_
    rintro r w6 ⟨ua, a, f, rfl, hEa, hda, hb6⟩
    have hb6 := hb4.trans (hb6.mono hb4.size)
    have HEA := Lib.hid hEa
    have HDA := Lib.hid hda
    clear hb4 hEa hda
    go_wp2_with fail
    refine (rdecode_any body _ (by omega)).mono ?_
    rintro r w7 ⟨ub, b, ok, rfl, hEb, hdb, hb7⟩
    obtain ⟨rfl, rfl⟩ := dr_inj HDA.out hdb
    have HEA := Lib.hid (HEA.out.below hb7)
    have hb7 := hb6.trans (hb7.mono hb6.size)
    have HEB := Lib.hid hEb
    clear hb6 hEb hdb HDA
    obtain ⟨f, hf⟩ : ∃ f : Int, (if ok = true then (0 : Int) else 3) = f := ⟨_, rfl⟩
    rw [hf]
    have hcs : (ok = true ∧ f = 0) ∨ (ok = false ∧ f = 3) := by rcases ok with _ | _ <;> simp at hf <;> simp [hf]
    clear hf
    rcases hcs with ⟨rfl, rfl⟩ | ⟨rfl, rfl⟩
    · go_wp2_with fail
      refine (same_any _ _ a a _ HEA.out HEB.out).mono ?_
      rintro r w8 ⟨rfl, hb8⟩
      rw [decide_eq_true rfl]
      have hb8 := hb7.trans (hb8.mono hb7.size)
      clear hb7
      go_wp2
      go_ret
      exact ⟨rfl, hb8⟩
    · go_wp2_with fail
      refine (same_any _ _ a a _ HEA.out HEB.out).mono ?_
      rintro r w8 ⟨rfl, hb8⟩
      rw [decide_eq_true rfl]
      have hb8 := hb7.trans (hb8.mono hb7.size)
      clear hb7
      go_wp2
      go_ret
      exact ⟨rfl, hb8⟩
end Go.Proofs.Ytifdglehfhoecaa.E
