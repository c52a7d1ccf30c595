/-
  The law on bytes there and back: true for every input. Conditions: none.
-/
import Derived.Test.YtifdglehfhoecaaEDec
import Derived.Test.YtifdglehfhoecaaEWorks
import Derived.Test.YtifdglehfhoecaaERef
import Derived.Test.YtifdglehfhoecaaERef2
namespace Go.Proofs.Ytifdglehfhoecaa.E
open Go.RowKit B
theorem small_sz {l : List Ent} (h : Small l) : M.sz l ≤ 21720 := by
  have : ∀ (l : List Ent), (∀ e ∈ l, e.1.size ≤ 60 ∧ e.2.size ≤ 300) → M.sz l ≤ l.length * 362 := by
    intro l
    induction l with
    | nil => intro _; simp [M.sz]
    | cons e l ih =>
      intro h
      have h1 := h e (by simp)
      have h2 := ih fun x hx => h x (by simp [hx])
      rw [M.sz_cons, List.length_cons]; omega
  have h2 := this l h.2
  have := h.1
  omega
theorem len_sz (l : List Ent) : l.length ≤ M.sz l := by
  induction l with
  | nil => simp
  | cons e l ih => rw [M.sz_cons, List.length_cons]; omega
set_option maxRecDepth 100000 in
set_option maxHeartbeats 4000000 in
theorem back_any (v : Value) (l : List Ent) (body : ByteArray) (w : World) (hv : Ents w v l) :
    Calls Try.prog 13 #[v, .string body] w fun r w' => r = .returned (.bool true) ∧ Below w.heap.size w w' := by
  have HV := Lib.hid hv; clear hv
  go_enter Try.func13, Try.ntmps13
  go_wp2_with fail
  refine (works_any _).mono ?_
  rintro r w1 ⟨rfl, hb1⟩
  go_wp2_with fail
  refine (over_any _ l _ (HV.out.below hb1)).mono ?_
  rintro r w2 ⟨much, rfl, hsm, hw⟩
  subst hw
  rcases much with _ | _
  case true =>
    go_wp2
    go_ret
    exact ⟨rfl, hb1⟩
  have hl60 := (hsm rfl).1
  have hsz := small_sz (hsm rfl)
  clear hsm
  by_cases hbs : 1000 < body.size
  · go_wp2
    go_ret
    exact ⟨rfl, hb1⟩
  by_cases ho : M.Ok l
  · have HL := Lib.hid (show encl l = txt (M.enc l) by unfold encl; rw [if_pos ho])
    have hts : (txt (M.enc l)).size ≤ 1000000000 := by rw [txt_size, M.enc_len]; omega
    go_wp2_with fail
    refine (encode_any _ l _ (HV.out.below hb1) (by omega)).mono ?_
    rintro r w3 ⟨rfl, hb3⟩
    rw [if_pos ho, HL.out]
    have HO := Lib.hid ho
    have hb3 := hb1.trans (hb3.mono hb1.size)
    clear hb1 ho
    have HT := Lib.hid (dr_enc HO.out)
    obtain ⟨t, ht⟩ : ∃ t, txt (M.enc l) = t := ⟨_, rfl⟩
    have HTT := Lib.hid (show bts t = M.enc l by rw [← ht]; rfl)
    rw [ht] at hts ⊢
    clear ht hsz
    go_wp2_with fail
    refine (decode_any t _ hts).mono ?_
    rintro r w4 ⟨u, m, e, rfl, hE, hd, hb4⟩
    rw [HTT.out] at hd
    obtain ⟨rfl, rfl⟩ := dr_inj hd HT.out
    have HE := Lib.hid hE
    have hb4 := hb3.trans (hb4.mono hb3.size)
    clear hE hd hb3 hts
    go_wp2_with fail
    refine (same_any _ _ m m _ HE.out (HV.out.below hb4)).mono ?_
    rintro r w5 ⟨rfl, hb5⟩
    rw [decide_eq_true rfl]
    have hb5 := hb4.trans (hb5.mono hb4.size)
    clear hb4
    go_wp2_with fail
    refine (decode_any body _ (by omega)).mono ?_
    rintro r w6 ⟨ua, a, f, rfl, hEa, hda, hb6⟩
    have hb6 := hb5.trans (hb6.mono hb5.size)
    have HEA := Lib.hid hEa
    clear hb5 hEa
    rcases hda with ⟨rfl, hdec, hok⟩ | ⟨rfl, rfl, hno⟩
    · have HTB := Lib.hid (show encl a = body by unfold encl; rw [if_pos hok, hdec.2]; rfl)
      have hla : a.length ≤ 1000000000 := by
        have h1 := len_sz a
        have h2 := M.enc_len a
        rw [hdec.2, bts_len] at h2
        omega
      have HOK := Lib.hid hok
      clear hok hdec
      go_wp2_with fail
      refine (encode_any _ a _ HEA.out hla).mono ?_
      rintro r w7 ⟨rfl, hb7⟩
      rw [if_pos HOK.out, HTB.out]
      have hq : (body.toList == body.toList) = true := str_eq rfl
      have hb7 := hb6.trans (hb7.mono hb6.size)
      clear hb6
      go_wp2
      go_ret
      exact ⟨rfl, hb7⟩
    · clear hno
      go_wp2
      go_ret
      exact ⟨rfl, hb6⟩
  · go_wp2_with fail
    refine (encode_any _ l _ (HV.out.below hb1) (by omega)).mono ?_
    rintro r w3 ⟨rfl, hb3⟩
    rw [if_neg ho]
    obtain ⟨tx, htx⟩ : ∃ t, encl l = t := ⟨_, rfl⟩
    rw [htx]
    have hb3 := hb1.trans (hb3.mono hb1.size)
    clear hb1 ho hsz htx
    go_wp2_with fail
    refine (decode_any body _ (by omega)).mono ?_
    rintro r w6 ⟨ua, a, f, rfl, hEa, hda, hb6⟩
    have hb6 := hb3.trans (hb6.mono hb3.size)
    have HEA := Lib.hid hEa
    clear hb3 hEa
    rcases hda with ⟨rfl, hdec, hok⟩ | ⟨rfl, rfl, hno⟩
    · have HTB := Lib.hid (show encl a = body by unfold encl; rw [if_pos hok, hdec.2]; rfl)
      have hla : a.length ≤ 1000000000 := by
        have h1 := len_sz a
        have h2 := M.enc_len a
        rw [hdec.2, bts_len] at h2
        omega
      have HOK := Lib.hid hok
      clear hok hdec
      go_wp2_with fail
      refine (encode_any _ a _ HEA.out hla).mono ?_
      rintro r w7 ⟨rfl, hb7⟩
      rw [if_pos HOK.out, HTB.out]
      have hq : (body.toList == body.toList) = true := str_eq rfl
      have hb7 := hb6.trans (hb7.mono hb6.size)
      clear hb6
      go_wp2
      go_ret
      exact ⟨rfl, hb7⟩
    · clear hno
      go_wp2
      go_ret
      exact ⟨rfl, hb6⟩
end Go.Proofs.Ytifdglehfhoecaa.E
