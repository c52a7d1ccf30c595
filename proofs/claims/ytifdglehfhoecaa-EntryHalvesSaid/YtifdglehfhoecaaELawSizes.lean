/-
  The law on sizes: true for every list. Conditions: none.
-/
import Derived.Test.YtifdglehfhoecaaEWorks
import Derived.Test.YtifdglehfhoecaaERef
namespace Go.Proofs.Ytifdglehfhoecaa.E
open Go.RowKit B
theorem sz_small {l : List Ent} (h : Small l) : M.sz l ≤ l.length * 362 := by
  obtain ⟨_, h⟩ := h
  induction l with
  | nil => simp [M.sz]
  | cons e l ih =>
    have h1 := h e (by simp)
    have h2 := ih (by simp at *; omega) fun x hx => h x (by simp [hx])
    rw [M.sz_cons, List.length_cons]
    omega
set_option maxRecDepth 100000 in
set_option maxHeartbeats 1000000 in
theorem sizes_aux (v : Value) (l : List Ent) (w : World) (S : ByteArray) (E : Int) (henc : ∀ W, Ents W v l → l.length ≤ 1000000000 → Calls Try.prog 33 #[v] W fun r w' => r = .returned (.tuple #[.string S, .int .i64 E]) ∧ Below W.heap.size W w')
    (hE : (E = 0 ∧ S.size = M.sz l) ∨ E = 1) (hv : Ents w v l) : Calls Try.prog 7 #[v] w fun r w' => r = .returned (.bool true) ∧ Below w.heap.size w w' := by
  have HV := Lib.hid hv; have HENC := Lib.hid henc; have HE := Lib.hid hE; clear hv henc hE
  go_enter Try.func7, Try.ntmps7
  go_wp2_with fail
  refine (works_any _).mono ?_
  rintro r w1 ⟨rfl, hb1⟩
  go_wp2_with fail
  refine (over_any _ l _ (HV.out.below hb1)).mono ?_
  rintro r w2 ⟨much, rfl, hsm, hw⟩
  subst hw
  rcases much with _ | _
  case true =>
    go_wp2
    go_ret
    exact ⟨rfl, hb1⟩
  have hS := hsm rfl
  have hsz := sz_small hS
  have hl := hS.1
  have HSM := Lib.hid hS
  clear hsm hS
  go_wp2_with fail
  refine (half_any _ l _ (HV.out.below hb1) (by omega) (by omega)).mono ?_
  rintro r w3 ⟨k, rfl, hk, hb3⟩
  have HK := Lib.hid hk; clear hk
  have hb3 := hb1.trans (hb3.mono hb1.size)
  clear hb1
  go_wp2_with fail
  refine (HENC.out _ (HV.out.below hb3) (by omega)).mono ?_
  rintro r w4 ⟨rfl, hb4⟩
  have hb4 := hb3.trans (hb4.mono hb3.size)
  clear hb3
  rcases HE.out with ⟨rfl, hen⟩ | rfl
  · have HEN := Lib.hid hen; clear hen
    go_wp2_with fail
    refine (size_any _ l _ (HV.out.below hb4) (by omega) (by omega)).mono ?_
    rintro r w5 ⟨rfl, hb5⟩
    have hb5 := hb4.trans (hb5.mono hb4.size)
    clear hb4
    go_wp2_with fail
    refine (rsize_any _ l _ (HV.out.below hb5) (by omega) (by omega)).mono ?_
    rintro r w6 ⟨rfl, hb6⟩
    have hb6 := hb5.trans (hb6.mono hb5.size)
    clear hb5
    go_wp2_with fail
    refine (rhalf_any _ l _ (HV.out.below hb6) (by omega) (by omega)).mono ?_
    rintro r w7 ⟨k', rfl, hk', hb7⟩
    have hb7 := hb6.trans (hb7.mono hb6.size)
    obtain rfl : k' = k := M.half_unique hk' HK.out
    clear hb6 hk'
    have hen := HEN.out
    have hbe : ((S.size : Int) == (M.sz l : Int)) = true := by rw [hen, beq_self_eq_true]
    obtain ⟨z, hz⟩ : ∃ z, M.sz l = z := ⟨_, rfl⟩
    rw [hz] at hen hbe hsz
    have HZ := Lib.hid hz
    rw [hz]
    clear hz
    go_wp2_with fail
    refine (size_any _ l _ (HV.out.below hb7) (by omega) (by rw [HZ.out]; omega)).mono ?_
    rintro r w8 ⟨rfl, hb8⟩
    have hb8 := hb7.trans (hb8.mono hb7.size)
    rw [HZ.out]
    clear hb7
    go_wp2
    go_ret
    exact ⟨rfl, hb8⟩
  · clear HE
    go_wp2_with fail
    refine (size_any _ l _ (HV.out.below hb4) (by omega) (by omega)).mono ?_
    rintro r w5 ⟨rfl, hb5⟩
    have hb5 := hb4.trans (hb5.mono hb4.size)
    clear hb4
    go_wp2_with fail
    refine (rsize_any _ l _ (HV.out.below hb5) (by omega) (by omega)).mono ?_
    rintro r w6 ⟨rfl, hb6⟩
    have hb6 := hb5.trans (hb6.mono hb5.size)
    clear hb5
    go_wp2_with fail
    refine (rhalf_any _ l _ (HV.out.below hb6) (by omega) (by omega)).mono ?_
    rintro r w7 ⟨k', rfl, hk', hb7⟩
    have hb7 := hb6.trans (hb7.mono hb6.size)
    obtain rfl : k' = k := M.half_unique hk' HK.out
    clear hb6 hk'
    go_wp2
    go_ret
    exact ⟨rfl, hb7⟩
theorem sizes_any (v : Value) (l : List Ent) (w : World) (hv : Ents w v l) : Calls Try.prog 7 #[v] w fun r w' => r = .returned (.bool true) ∧ Below w.heap.size w w' := by
  refine sizes_aux v l w _ _ (fun W h hl => encode_any v l W h hl) ?_ hv
  by_cases ho : M.Ok l
  · rw [if_pos ho]
    exact .inl ⟨rfl, by unfold encl; rw [if_pos ho, txt_size, M.enc_len]⟩
  · rw [if_neg ho]
    exact .inr rfl
end Go.Proofs.Ytifdglehfhoecaa.E
