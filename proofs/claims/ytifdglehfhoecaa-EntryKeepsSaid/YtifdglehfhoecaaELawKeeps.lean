/-
  The law on what is kept: true for every input. Conditions: none.
-/
import Derived.Test.YtifdglehfhoecaaEKeep
import Derived.Test.YtifdglehfhoecaaEWorks
import Derived.Test.YtifdglehfhoecaaERef
namespace Go.Proofs.Ytifdglehfhoecaa.E
open Go.RowKit B
set_option maxRecDepth 100000 in
set_option maxHeartbeats 2000000 in
theorem keeps_go (v : Value) (l : List Ent) (key value other : ByteArray) (w : World) (hv : Ents w v l) (x y : ByteArray) (bx bY : Bool) (zb : ByteArray) (zbb : Bool)
    (hx : ∀ W, Ents W v l → l.length ≤ 60 → Calls Try.prog 42 #[v, .string other] W fun r w' => r = .returned (.tuple #[.string x, .bool bx]) ∧ Below W.heap.size W w')
    (hy : ∀ u W, Ents W u (putl l key value) → l.length ≤ 60 → M.Ok l → M.may key value → Calls Try.prog 42 #[u, .string other] W fun r w' => r = .returned (.tuple #[.string y, .bool bY]) ∧ Below W.heap.size W w')
    (hz : ∀ u W, Ents W u (dell (putl l key value) key) → l.length ≤ 60 → M.Ok l → M.may key value → Calls Try.prog 42 #[u, .string other] W fun r w' => r = .returned (.tuple #[.string zb, .bool zbb]) ∧ Below W.heap.size W w')
    (hc : (other.toList == key.toList) = true ∨ ((other.toList == key.toList) = false ∧ x = y ∧ bx = bY ∧ x = zb ∧ bx = zbb)) :
    Calls Try.prog 11 #[v, .string key, .string value, .string other] w fun r w' => r = .returned (.bool true) ∧ Below w.heap.size w w' := by
  obtain ⟨i0, hi, hz0, hz1, hz2⟩ := info_parts info49
  have HV := Lib.hid hv; have HX := Lib.hid hx; have HY := Lib.hid hy; have HZ := Lib.hid hz; have HCC := Lib.hid hc
  clear hv hx hy hz hc
  have HP1 := Lib.hid (len_putl l key value)
  have HP2 := Lib.hid (len_dell (putl l key value) key)
  go_enter Try.func11, Try.ntmps11
  go_wp2_with fail
  refine (works_any _).mono ?_
  rintro r w1 ⟨rfl, hb1⟩
  go_wp2_with fail
  refine (over_any _ l _ (HV.out.below hb1)).mono ?_
  rintro r w2 ⟨much, rfl, hsm, hw⟩
  subst hw
  go_wp2_with fail
  refine (rright_any _ l _ (HV.out.below hb1)).mono ?_
  rintro r w3 ⟨rfl, hb3⟩
  have hb3 := hb1.trans (hb3.mono hb1.size)
  clear hb1
  rcases much with _ | _
  case true =>
    obtain ⟨z, hz⟩ : ∃ z, decide (M.Ok l) = z := ⟨_, rfl⟩
    rw [hz]
    clear hz hsm
    go_wp2
    go_ret
    exact ⟨rfl, hb3⟩
  have HSM := Lib.hid (hsm rfl)
  have hl60 := (hsm rfl).1
  clear hsm
  by_cases ho : M.Ok l
  case neg =>
    rw [decide_eq_false ho]
    clear ho
    go_wp2
    go_ret
    exact ⟨rfl, hb3⟩
  rw [decide_eq_true ho]
  have HO := Lib.hid ho; clear ho
  by_cases hk : 60 < key.size
  · go_wp2
    go_ret
    exact ⟨rfl, hb3⟩
  by_cases hva : 300 < value.size
  · go_wp2
    go_ret
    exact ⟨rfl, hb3⟩
  by_cases hot : 60 < other.size
  · go_wp2
    go_ret
    exact ⟨rfl, hb3⟩
  go_wp2_with fail
  refine (check_any key value _).mono ?_
  rintro r w4 ⟨rfl, rfl⟩
  by_cases hm : M.may key value
  case neg =>
    rw [if_neg hm]
    clear hm
    go_wp2
    go_ret
    exact ⟨rfl, hb3⟩
  rw [if_pos hm]
  have HM := Lib.hid hm; clear hm hk hva hot
  go_wp2_with (at_builtin; go_loud (refine wpList_append_row rfl _ _ 43 rfl w.heap.size 49 i0 _ 2 32 Try.underlying43 hi hz0 hz1 hz2 rfl (by decide) (.slice none 0 0) 0 [] rfl (World.ownsRow_nil _ _ _ _) v rfl l.length (ecs l) (HV.out.below hb3) (ecs_one l) (by unfold maxLen; omega) (by omega) hb3.size ?_))
  intro u1 w5 hown hg
  have hb5 : Below w.heap.size w w5 := hb3.grown hg hb3.size (fun g h => by simp [Value.ownBlock] at h)
  have HW1 := Lib.hid (show Ents w5 u1 l by have h := Rw.own hown; first | exact h | (simp at h; exact h))
  clear hb3 hown hg
  go_wp2_with fail
  refine (put_any _ l key value _ (HV.out.below hb5) (by omega)).mono ?_
  rintro r w6 ⟨u2, rfl, hE2, hb6⟩
  have HW1 := Lib.hid (HW1.out.below hb6)
  have HW2 := Lib.hid hE2
  have hb6 := hb5.trans (hb6.mono hb5.size)
  clear hb5 hE2
  go_wp2_with fail
  refine (del_any _ (putl l key value) key _ HW2.out (by have := HP1.out; omega)).mono ?_
  rintro r w7 ⟨u3, rfl, hE3, hb7⟩
  have HW1 := Lib.hid (HW1.out.below hb7); have HW2 := Lib.hid (HW2.out.below hb7)
  have HW3 := Lib.hid hE3
  have hb7 := hb6.trans (hb7.mono hb6.size)
  clear hb6 hE3
  go_wp2_with fail
  refine (get_any _ (putl l key value) key _ HW2.out (by have := HP1.out; omega)).mono ?_
  rintro r w8 ⟨rfl, hb8⟩
  rw [got_new HO.out HM.out]
  have HW1 := Lib.hid (HW1.out.below hb8); have HW2 := Lib.hid (HW2.out.below hb8); have HW3 := Lib.hid (HW3.out.below hb8)
  have hb8 := hb7.trans (hb8.mono hb7.size)
  clear hb7
  go_wp2_with fail
  refine (get_any _ (dell (putl l key value) key) key _ HW3.out (by have := HP1.out; have := HP2.out; omega)).mono ?_
  rintro r w9 ⟨rfl, hb9⟩
  rw [got_gone (ok_putl HO.out)]
  have HW1 := Lib.hid (HW1.out.below hb9); have HW2 := Lib.hid (HW2.out.below hb9); have HW3 := Lib.hid (HW3.out.below hb9)
  have hb9 := hb8.trans (hb9.mono hb8.size)
  clear hb8
  go_wp2_with fail
  refine (HX.out _ (HV.out.below hb9) hl60).mono ?_
  rintro r w10 ⟨rfl, hb10⟩
  have HW1 := Lib.hid (HW1.out.below hb10); have HW2 := Lib.hid (HW2.out.below hb10); have HW3 := Lib.hid (HW3.out.below hb10)
  have hb10 := hb9.trans (hb10.mono hb9.size)
  clear hb9
  go_wp2_with fail
  refine (HY.out _ _ HW2.out hl60 HO.out HM.out).mono ?_
  rintro r w11 ⟨rfl, hb11⟩
  have HW1 := Lib.hid (HW1.out.below hb11); have HW2 := Lib.hid (HW2.out.below hb11); have HW3 := Lib.hid (HW3.out.below hb11)
  have hb11 := hb10.trans (hb11.mono hb10.size)
  clear hb10
  go_wp2_with fail
  refine (HZ.out _ _ HW3.out hl60 HO.out HM.out).mono ?_
  rintro r w12 ⟨rfl, hb12⟩
  have HW1 := Lib.hid (HW1.out.below hb12); have HW2 := Lib.hid (HW2.out.below hb12); have HW3 := Lib.hid (HW3.out.below hb12)
  have hb12 := hb11.trans (hb12.mono hb11.size)
  clear hb11
  rcases HCC.out with hq | ⟨hq, rfl, rfl, rfl, rfl⟩
  all_goals
    have hvv := str_eq (rfl : value = value)
    have hxx := str_eq (rfl : x = x)
    go_wp2_with fail
    refine (same_any _ _ l l _ (HV.out.below hb12) HW1.out).mono ?_
    rintro r w13 ⟨rfl, hb13⟩
    rw [decide_eq_true rfl]
    have HW2 := Lib.hid (HW2.out.below hb13); have HW3 := Lib.hid (HW3.out.below hb13)
    have hb13 := hb12.trans (hb13.mono hb12.size)
    clear hb12
    go_wp2_with fail
    refine (rright_any _ _ _ HW2.out).mono ?_
    rintro r w14 ⟨rfl, hb14⟩
    rw [decide_eq_true (ok_putl HO.out)]
    have HW3 := Lib.hid (HW3.out.below hb14)
    have hb14 := hb13.trans (hb14.mono hb13.size)
    clear hb13
    go_wp2_with fail
    refine (rright_any _ _ _ HW3.out).mono ?_
    rintro r w15 ⟨rfl, hb15⟩
    rw [decide_eq_true (ok_dell (ok_putl HO.out))]
    have hb15 := hb14.trans (hb15.mono hb14.size)
    clear hb14
    go_wp2
    go_ret
    exact ⟨rfl, hb15⟩
theorem keeps_any (v : Value) (l : List Ent) (key value other : ByteArray) (w : World) (hv : Ents w v l) :
    Calls Try.prog 11 #[v, .string key, .string value, .string other] w fun r w' => r = .returned (.bool true) ∧ Below w.heap.size w w' := by
  by_cases hok : other = key
  · refine keeps_go v l key value other w hv _ _ _ _ _ _ (fun W h hl => get_any v l other W h (by omega)) (fun u W h hl _ _ => get_any u _ other W h (by have := len_putl l key value; omega))
      (fun u W h hl _ _ => get_any u _ other W h (by have := len_putl l key value; have := len_dell (putl l key value) key; omega)) (.inl (str_eq hok))
  · refine keeps_go v l key value other w hv _ _ _ _ _ _ (fun W h hl => get_any v l other W h (by omega)) (fun u W h hl ho hm => by
        have := get_any u _ other W h (by have := len_putl l key value; omega)
        rw [got_other ho hm hok] at this
        exact this)
      (fun u W h hl ho hm => by
        have := get_any u _ other W h (by have := len_putl l key value; have := len_dell (putl l key value) key; omega)
        rw [got_kept (ok_putl ho) hok, got_other ho hm hok] at this
        exact this) (.inr ⟨str_ne hok, rfl, rfl, rfl, rfl⟩)
end Go.Proofs.Ytifdglehfhoecaa.E
