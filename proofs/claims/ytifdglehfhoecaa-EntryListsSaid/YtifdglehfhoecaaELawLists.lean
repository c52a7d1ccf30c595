/-
  The law on lists: true for every input. Conditions: none.
-/
import Derived.Test.YtifdglehfhoecaaEKeep
import Derived.Test.YtifdglehfhoecaaERefPut2
import Derived.Test.YtifdglehfhoecaaEWorks
import Derived.Test.YtifdglehfhoecaaERef
namespace Go.Proofs.Ytifdglehfhoecaa.E
open Go.RowKit B
/-- the walk's count of keys below is the place -/
theorem low_of {l : List Ent} {key : ByteArray} {k : Nat} (ho : M.Ok l) (hk : k ≤ l.length) (h1 : ∀ j (_h : j < l.length), j < k → M.klt l[j].1 key) (h2 : ∀ h : k < l.length, ¬ M.klt l[k].1 key) : M.Low l key k := by
  refine ⟨hk, h1, fun t ht hkt hlt => ?_⟩
  have hkl : k < l.length := by omega
  rcases Nat.lt_or_ge k t with h | h
  · exact h2 hkl (M.klt_trans (M.asc_lt ho.2 h ht) hlt)
  · obtain rfl : t = k := by omega
    exact h2 hkl hlt
theorem found_is {l : List Ent} {key : ByteArray} {i : Nat} {ok : Bool} (ho : M.Ok l) (h : ok = true ↔ ∃ h : i < l.length, l[i].1 = key) (hl : M.Low l key i) : ok = (getl l key).isSome := by
  rw [Bool.eq_iff_iff, h, ← M.low_has hl ho.2, Option.isSome_iff_exists]
  constructor
  · rintro ⟨v, hv⟩; exact ⟨v, (getl_iff ho key v).2 hv⟩
  · rintro ⟨v, hv⟩; exact ⟨v, (getl_iff ho key v).1 hv⟩
set_option maxRecDepth 100000 in
set_option maxHeartbeats 4000000 in
theorem lists_any (v : Value) (l : List Ent) (key value : ByteArray) (w : World) (hv : Ents w v l) :
    Calls Try.prog 10 #[v, .string key, .string value] w fun r w' => r = .returned (.bool true) ∧ Below w.heap.size w w' := by
  have hop := hv.open
  have HV := Lib.hid hv; clear hv
  obtain ⟨ao, cap, rfl, _, _, hc⟩ := hop
  have HC := Lib.hid hc; clear hc
  go_enter Try.func10, Try.ntmps10
  go_wp2_with fail
  refine (works_any _).mono ?_
  rintro r w1 ⟨rfl, hb1⟩
  go_wp2_with fail
  refine (over_any _ l _ (HV.out.below hb1)).mono ?_
  rintro r w2 ⟨much, rfl, hsm, hw⟩
  subst hw
  rcases much with _ | _
  case true =>
    go_wp2
    go_ret
    exact ⟨rfl, hb1⟩
  have hl60 := (hsm rfl).1
  clear hsm
  by_cases hks : 60 < key.size
  · go_wp2
    go_ret
    exact ⟨rfl, hb1⟩
  by_cases hvs : 300 < value.size
  · go_wp2
    go_ret
    exact ⟨rfl, hb1⟩
  go_wp2_with fail
  refine (rmay_any key value _).mono ?_
  rintro r w3 ⟨rfl, hw⟩
  subst hw
  clear hks hvs
  have HP1 := Lib.hid (len_putl l key value)
  by_cases hm : M.may key value
  · rw [decide_eq_true hm]
    have HM := Lib.hid hm; clear hm
    by_cases ho : M.Ok l
    case neg =>
      go_wp2_with fail
      refine (rright_any _ l _ (HV.out.below hb1)).mono ?_
      rintro r w3 ⟨rfl, hb3⟩
      rw [decide_eq_false ho]
      have hb3 := hb1.trans (hb3.mono hb1.size)
      clear hb1
      go_wp2_with fail
      refine (check_any key value _).mono ?_
      rintro r w4 ⟨rfl, hw⟩
      subst hw
      rw [if_pos HM.out]
      have HG := Lib.hid (getl_no (k := key) (fun h => absurd h ho))
      have HPN := Lib.hid (putl_no (l := l) (k := key) (v := value) fun h => ho h.1)
      have HDN := Lib.hid (show dell l key = l by unfold dell; rw [if_neg ho])
      clear ho
      go_wp2_with fail
      refine (get_any _ l key _ (HV.out.below hb3) (by omega)).mono ?_
      rintro r w5 ⟨rfl, hb5⟩
      rw [HG.out]
      have hb5 := hb3.trans (hb5.mono hb3.size)
      clear hb3
      go_wp2_with fail
      refine (rget_any _ l key _ (HV.out.below hb5)).mono ?_
      rintro r w6 ⟨rfl, hb6⟩
      have hb6 := hb5.trans (hb6.mono hb5.size)
      obtain ⟨rx, hrx⟩ : ∃ x, getr l key = x := ⟨_, rfl⟩
      rw [hrx]
      clear hb5 hrx
      go_wp2_with fail
      refine (put_any _ l key value _ (HV.out.below hb6) (by omega)).mono ?_
      rintro r w7 ⟨u1, rfl, hE1, hb7⟩
      rw [HPN.out] at hE1
      have HE1 := Lib.hid hE1
      have hb7 := hb6.trans (hb7.mono hb6.size)
      clear hb6 hE1
      go_wp2_with fail
      refine (del_any _ l key _ (HV.out.below hb7) (by omega)).mono ?_
      rintro r w8 ⟨u2, rfl, hE2, hb8⟩
      rw [HDN.out] at hE2
      have HE2 := Lib.hid hE2
      have HE1 := Lib.hid (HE1.out.below hb8)
      have hb8 := hb7.trans (hb8.mono hb7.size)
      clear hb7 hE2
      go_wp2_with fail
      refine (same_any _ _ l l _ HE1.out (HV.out.below hb8)).mono ?_
      rintro r w9 ⟨rfl, hb9⟩
      rw [decide_eq_true rfl]
      have HE2 := Lib.hid (HE2.out.below hb9)
      have hb9 := hb8.trans (hb9.mono hb8.size)
      clear hb8
      go_wp2_with fail
      refine (same_any _ _ l l _ HE2.out (HV.out.below hb9)).mono ?_
      rintro r w10 ⟨rfl, hb10⟩
      rw [decide_eq_true rfl]
      have hb10 := hb9.trans (hb10.mono hb9.size)
      clear hb9
      go_wp2
      go_ret
      exact ⟨rfl, hb10⟩
    have HO := Lib.hid ho
    have HGR := Lib.hid (getr_eq (k := key) ho)
    have HDR := Lib.hid (show dell l key = M.del l key by unfold dell; rw [if_pos ho])
    go_wp2_with fail
    refine (rright_any _ l _ (HV.out.below hb1)).mono ?_
    rintro r w3 ⟨rfl, hb3⟩
    rw [decide_eq_true ho]
    have hb3 := hb1.trans (hb3.mono hb1.size)
    clear hb1 ho
    go_wp2_with fail
    refine (check_any key value _).mono ?_
    rintro r w4 ⟨rfl, hw⟩
    subst hw
    rw [if_pos HM.out]
    go_wp2_with fail
    refine (get_any _ l key _ (HV.out.below hb3) (by omega)).mono ?_
    rintro r w5 ⟨rfl, hb5⟩
    have hb5 := hb3.trans (hb5.mono hb3.size)
    clear hb3
    obtain ⟨gx, hgx⟩ : ∃ x, (getl l key).getD ByteArray.empty = x := ⟨_, rfl⟩
    obtain ⟨gb, hgb⟩ : ∃ x, (getl l key).isSome = x := ⟨_, rfl⟩
    rw [hgx, hgb]
    have HGX := Lib.hid hgx; have HGB := Lib.hid hgb
    clear hgx hgb
    go_wp2_with fail
    refine (rget_any _ l key _ (HV.out.below hb5)).mono ?_
    rintro r w6 ⟨rfl, hb6⟩
    rw [← HGR.out, HGX.out, HGB.out]
    have hb6 := hb5.trans (hb6.mono hb5.size)
    clear hb5
    go_wp2_with fail
    refine (put_any _ l key value _ (HV.out.below hb6) (by omega)).mono ?_
    rintro r w7 ⟨u1, rfl, hE1, hb7⟩
    have HE1 := Lib.hid hE1
    have hb7 := hb6.trans (hb7.mono hb6.size)
    clear hb6 hE1
    go_wp2_with fail
    refine (del_any _ l key _ (HV.out.below hb7) (by omega)).mono ?_
    rintro r w8 ⟨u2, rfl, hE2, hb8⟩
    rw [HDR.out] at hE2
    have HE2 := Lib.hid hE2
    have HE1 := Lib.hid (HE1.out.below hb8)
    have hb8 := hb7.trans (hb8.mono hb7.size)
    clear hb7 hE2
    have HPI := Lib.hid (show putl l key value = M.insert key value (M.del l key) by unfold putl; rw [if_pos ⟨HO.out, HM.out⟩])
    go_wp2_with fail
    refine (rput_any _ l key value _ (HV.out.below hb8) (by omega)).mono ?_
    rintro r w9 ⟨u3, rfl, hE3, hb9⟩
    rw [← HPI.out] at hE3
    have HE3 := Lib.hid hE3
    have HE1 := Lib.hid (HE1.out.below hb9); have HE2 := Lib.hid (HE2.out.below hb9)
    have hb9 := hb8.trans (hb9.mono hb8.size)
    clear hb8 hE3
    go_wp2_with fail
    refine (find_any _ l key _ (HV.out.below hb9) (by omega)).mono ?_
    rintro r w10 ⟨i, ok, rfl, h1, h2, h3, hb10⟩
    have HLOW := Lib.hid (h3 HO.out.2)
    have hok : ok = gb := by rw [found_is HO.out h2 HLOW.out, HGB.out]
    subst hok
    have HE1 := Lib.hid (HE1.out.below hb10); have HE2 := Lib.hid (HE2.out.below hb10); have HE3 := Lib.hid (HE3.out.below hb10)
    have hb10 := hb9.trans (hb10.mono hb9.size)
    clear hb9 h2 h3
    go_wp2
    go_loopw [23] (fun n wr => ∃ k : Nat, k ≤ l.length ∧ n = .int .i64 k ∧ (∀ j (_h : j < l.length), j < k → M.klt l[j].1 key) ∧ w10 = wr) (fun n _ => l.length - (intOf n).toNat)
    case atStart => exact ⟨0, Nat.zero_le _, rfl, fun j _ h => absurd h (by omega), rfl⟩
    case round =>
      obtain ⟨k, hk, rfl, hpre, hw⟩ := hrel
      subst hw
      have HPRE := Lib.hid hpre; clear hpre
      have hgo : (∃ h : k < l.length, M.klt l[k].1 key) ∨ (∀ h : k < l.length, ¬ M.klt l[k].1 key) := by
        by_cases hlt : k < l.length
        · by_cases hkl : M.klt l[k].1 key
          · exact .inl ⟨hlt, hkl⟩
          · exact .inr fun _ => hkl
        · exact .inr fun h => absurd h hlt
      rcases hgo with ⟨hlt, hkl⟩ | hno
      · obtain ⟨b, o, rfl, hk0, hv0⟩ := HC.out k hlt
        have c0 := (hb10.cell (lt_of_cell hk0)).trans hk0
        have q1 : Op.bytesLess l[k].1.toList key.toList = true := by rw [toL, toL]; exact hkl
        have HN := Lib.hid (show ∀ j (_h : j < l.length), j < k + 1 → M.klt l[j].1 key from fun j hj h => by
          rcases Nat.lt_or_ge j k with h' | h'
          · exact HPRE.out j hj h'
          · obtain rfl : j = k := by omega
            exact hkl)
        clear hk0 hv0 hkl
        go_wp2
        go_roundw
        case rel => exact ⟨k + 1, by omega, by go_num, HN.out, by first | rfl | trivial⟩
        case measure => simp [intOf]; omega
      · have hki : k = i := M.low_unique (low_of HO.out hk HPRE.out hno) HLOW.out
        have hgx : (gx.toList == gx.toList) = true := str_eq rfl
        by_cases hlt : k < l.length
        · obtain ⟨b, o, rfl, hk0, hv0⟩ := HC.out k hlt
          have c0 := (hb10.cell (lt_of_cell hk0)).trans hk0
          have q1 : Op.bytesLess l[k].1.toList key.toList = false := by rw [toL, toL]; have := hno hlt; unfold M.klt at this; simpa using this
          clear hk0 hv0 hno
          subst hki
          go_wp2_with fail
          refine (same_any _ _ _ _ _ HE1.out HE3.out).mono ?_
          rintro r w11 ⟨rfl, hb11⟩
          rw [decide_eq_true rfl]
          have HE2 := Lib.hid (HE2.out.below hb11)
          have hb11 := hb10.trans (hb11.mono hb10.size)
          clear hb10
          go_wp2_with fail
          refine (rdel_any _ l key _ (HV.out.below hb11) (by omega)).mono ?_
          rintro r w12 ⟨u4, rfl, hE4, hb12⟩
          have HE4 := Lib.hid hE4
          have HE2 := Lib.hid (HE2.out.below hb12)
          have hb12 := hb11.trans (hb12.mono hb11.size)
          clear hb11 hE4
          go_wp2_with fail
          refine (same_any _ _ _ _ _ HE2.out HE4.out).mono ?_
          rintro r w13 ⟨rfl, hb13⟩
          rw [decide_eq_true rfl]
          have hb13 := hb12.trans (hb13.mono hb12.size)
          clear hb12
          go_wp2
          go_ret
          exact ⟨rfl, hb13⟩
        · clear hno
          subst hki
          go_wp2_with fail
          refine (same_any _ _ _ _ _ HE1.out HE3.out).mono ?_
          rintro r w11 ⟨rfl, hb11⟩
          rw [decide_eq_true rfl]
          have HE2 := Lib.hid (HE2.out.below hb11)
          have hb11 := hb10.trans (hb11.mono hb10.size)
          clear hb10
          go_wp2_with fail
          refine (rdel_any _ l key _ (HV.out.below hb11) (by omega)).mono ?_
          rintro r w12 ⟨u4, rfl, hE4, hb12⟩
          have HE4 := Lib.hid hE4
          have HE2 := Lib.hid (HE2.out.below hb12)
          have hb12 := hb11.trans (hb12.mono hb11.size)
          clear hb11 hE4
          go_wp2_with fail
          refine (same_any _ _ _ _ _ HE2.out HE4.out).mono ?_
          rintro r w13 ⟨rfl, hb13⟩
          rw [decide_eq_true rfl]
          have hb13 := hb12.trans (hb13.mono hb12.size)
          clear hb12
          go_wp2
          go_ret
          exact ⟨rfl, hb13⟩
  · rw [decide_eq_false hm]
    have HM := Lib.hid hm; clear hm
    by_cases ho : M.Ok l
    case neg =>
      go_wp2_with fail
      refine (rright_any _ l _ (HV.out.below hb1)).mono ?_
      rintro r w3 ⟨rfl, hb3⟩
      rw [decide_eq_false ho]
      have hb3 := hb1.trans (hb3.mono hb1.size)
      clear hb1
      go_wp2_with fail
      refine (check_any key value _).mono ?_
      rintro r w4 ⟨rfl, hw⟩
      subst hw
      rw [if_neg HM.out]
      have HG := Lib.hid (getl_no (k := key) (fun h => absurd h ho))
      have HPN := Lib.hid (putl_no (l := l) (k := key) (v := value) fun h => ho h.1)
      have HDN := Lib.hid (show dell l key = l by unfold dell; rw [if_neg ho])
      clear ho
      go_wp2_with fail
      refine (get_any _ l key _ (HV.out.below hb3) (by omega)).mono ?_
      rintro r w5 ⟨rfl, hb5⟩
      rw [HG.out]
      have hb5 := hb3.trans (hb5.mono hb3.size)
      clear hb3
      go_wp2_with fail
      refine (rget_any _ l key _ (HV.out.below hb5)).mono ?_
      rintro r w6 ⟨rfl, hb6⟩
      have hb6 := hb5.trans (hb6.mono hb5.size)
      obtain ⟨rx, hrx⟩ : ∃ x, getr l key = x := ⟨_, rfl⟩
      rw [hrx]
      clear hb5 hrx
      go_wp2_with fail
      refine (put_any _ l key value _ (HV.out.below hb6) (by omega)).mono ?_
      rintro r w7 ⟨u1, rfl, hE1, hb7⟩
      rw [HPN.out] at hE1
      have HE1 := Lib.hid hE1
      have hb7 := hb6.trans (hb7.mono hb6.size)
      clear hb6 hE1
      go_wp2_with fail
      refine (del_any _ l key _ (HV.out.below hb7) (by omega)).mono ?_
      rintro r w8 ⟨u2, rfl, hE2, hb8⟩
      rw [HDN.out] at hE2
      have HE2 := Lib.hid hE2
      have HE1 := Lib.hid (HE1.out.below hb8)
      have hb8 := hb7.trans (hb8.mono hb7.size)
      clear hb7 hE2
      go_wp2_with fail
      refine (same_any _ _ l l _ HE1.out (HV.out.below hb8)).mono ?_
      rintro r w9 ⟨rfl, hb9⟩
      rw [decide_eq_true rfl]
      have HE2 := Lib.hid (HE2.out.below hb9)
      have hb9 := hb8.trans (hb9.mono hb8.size)
      clear hb8
      go_wp2_with fail
      refine (same_any _ _ l l _ HE2.out (HV.out.below hb9)).mono ?_
      rintro r w10 ⟨rfl, hb10⟩
      rw [decide_eq_true rfl]
      have hb10 := hb9.trans (hb10.mono hb9.size)
      clear hb9
      go_wp2
      go_ret
      exact ⟨rfl, hb10⟩
    have HO := Lib.hid ho
    have HGR := Lib.hid (getr_eq (k := key) ho)
    have HDR := Lib.hid (show dell l key = M.del l key by unfold dell; rw [if_pos ho])
    go_wp2_with fail
    refine (rright_any _ l _ (HV.out.below hb1)).mono ?_
    rintro r w3 ⟨rfl, hb3⟩
    rw [decide_eq_true ho]
    have hb3 := hb1.trans (hb3.mono hb1.size)
    clear hb1 ho
    go_wp2_with fail
    refine (check_any key value _).mono ?_
    rintro r w4 ⟨rfl, hw⟩
    subst hw
    rw [if_neg HM.out]
    go_wp2_with fail
    refine (get_any _ l key _ (HV.out.below hb3) (by omega)).mono ?_
    rintro r w5 ⟨rfl, hb5⟩
    have hb5 := hb3.trans (hb5.mono hb3.size)
    clear hb3
    obtain ⟨gx, hgx⟩ : ∃ x, (getl l key).getD ByteArray.empty = x := ⟨_, rfl⟩
    obtain ⟨gb, hgb⟩ : ∃ x, (getl l key).isSome = x := ⟨_, rfl⟩
    rw [hgx, hgb]
    have HGX := Lib.hid hgx; have HGB := Lib.hid hgb
    clear hgx hgb
    go_wp2_with fail
    refine (rget_any _ l key _ (HV.out.below hb5)).mono ?_
    rintro r w6 ⟨rfl, hb6⟩
    rw [← HGR.out, HGX.out, HGB.out]
    have hb6 := hb5.trans (hb6.mono hb5.size)
    clear hb5
    go_wp2_with fail
    refine (put_any _ l key value _ (HV.out.below hb6) (by omega)).mono ?_
    rintro r w7 ⟨u1, rfl, hE1, hb7⟩
    have HE1 := Lib.hid hE1
    have hb7 := hb6.trans (hb7.mono hb6.size)
    clear hb6 hE1
    go_wp2_with fail
    refine (del_any _ l key _ (HV.out.below hb7) (by omega)).mono ?_
    rintro r w8 ⟨u2, rfl, hE2, hb8⟩
    rw [HDR.out] at hE2
    have HE2 := Lib.hid hE2
    have HE1 := Lib.hid (HE1.out.below hb8)
    have hb8 := hb7.trans (hb8.mono hb7.size)
    clear hb7 hE2
    have HE3 : Hid (Ents w8 (.slice ao l.length cap) (putl l key value)) := Lib.hid (by rw [putl_no fun h => HM.out h.2]; exact HV.out.below hb8)
    have hb9 := hb8
    clear hb8
    go_wp2_with fail
    refine (find_any _ l key _ (HV.out.below hb9) (by omega)).mono ?_
    rintro r w10 ⟨i, ok, rfl, h1, h2, h3, hb10⟩
    have HLOW := Lib.hid (h3 HO.out.2)
    have hok : ok = gb := by rw [found_is HO.out h2 HLOW.out, HGB.out]
    subst hok
    have HE1 := Lib.hid (HE1.out.below hb10); have HE2 := Lib.hid (HE2.out.below hb10); have HE3 := Lib.hid (HE3.out.below hb10)
    have hb10 := hb9.trans (hb10.mono hb9.size)
    clear hb9 h2 h3
    go_wp2
    go_loopw [23] (fun n wr => ∃ k : Nat, k ≤ l.length ∧ n = .int .i64 k ∧ (∀ j (_h : j < l.length), j < k → M.klt l[j].1 key) ∧ w10 = wr) (fun n _ => l.length - (intOf n).toNat)
    case atStart => exact ⟨0, Nat.zero_le _, rfl, fun j _ h => absurd h (by omega), rfl⟩
    case round =>
      obtain ⟨k, hk, rfl, hpre, hw⟩ := hrel
      subst hw
      have HPRE := Lib.hid hpre; clear hpre
      have hgo : (∃ h : k < l.length, M.klt l[k].1 key) ∨ (∀ h : k < l.length, ¬ M.klt l[k].1 key) := by
        by_cases hlt : k < l.length
        · by_cases hkl : M.klt l[k].1 key
          · exact .inl ⟨hlt, hkl⟩
          · exact .inr fun _ => hkl
        · exact .inr fun h => absurd h hlt
      rcases hgo with ⟨hlt, hkl⟩ | hno
      · obtain ⟨b, o, rfl, hk0, hv0⟩ := HC.out k hlt
        have c0 := (hb10.cell (lt_of_cell hk0)).trans hk0
        have q1 : Op.bytesLess l[k].1.toList key.toList = true := by rw [toL, toL]; exact hkl
        have HN := Lib.hid (show ∀ j (_h : j < l.length), j < k + 1 → M.klt l[j].1 key from fun j hj h => by
          rcases Nat.lt_or_ge j k with h' | h'
          · exact HPRE.out j hj h'
          · obtain rfl : j = k := by omega
            exact hkl)
        clear hk0 hv0 hkl
        go_wp2
        go_roundw
        case rel => exact ⟨k + 1, by omega, by go_num, HN.out, by first | rfl | trivial⟩
        case measure => simp [intOf]; omega
      · have hki : k = i := M.low_unique (low_of HO.out hk HPRE.out hno) HLOW.out
        have hgx : (gx.toList == gx.toList) = true := str_eq rfl
        by_cases hlt : k < l.length
        · obtain ⟨b, o, rfl, hk0, hv0⟩ := HC.out k hlt
          have c0 := (hb10.cell (lt_of_cell hk0)).trans hk0
          have q1 : Op.bytesLess l[k].1.toList key.toList = false := by rw [toL, toL]; have := hno hlt; unfold M.klt at this; simpa using this
          clear hk0 hv0 hno
          subst hki
          go_wp2_with fail
          refine (same_any _ _ _ _ _ HE1.out HE3.out).mono ?_
          rintro r w11 ⟨rfl, hb11⟩
          rw [decide_eq_true rfl]
          have HE2 := Lib.hid (HE2.out.below hb11)
          have hb11 := hb10.trans (hb11.mono hb10.size)
          clear hb10
          go_wp2_with fail
          refine (rdel_any _ l key _ (HV.out.below hb11) (by omega)).mono ?_
          rintro r w12 ⟨u4, rfl, hE4, hb12⟩
          have HE4 := Lib.hid hE4
          have HE2 := Lib.hid (HE2.out.below hb12)
          have hb12 := hb11.trans (hb12.mono hb11.size)
          clear hb11 hE4
          go_wp2_with fail
          refine (same_any _ _ _ _ _ HE2.out HE4.out).mono ?_
          rintro r w13 ⟨rfl, hb13⟩
          rw [decide_eq_true rfl]
          have hb13 := hb12.trans (hb13.mono hb12.size)
          clear hb12
          go_wp2
          go_ret
          exact ⟨rfl, hb13⟩
        · clear hno
          subst hki
          go_wp2_with fail
          refine (same_any _ _ _ _ _ HE1.out HE3.out).mono ?_
          rintro r w11 ⟨rfl, hb11⟩
          rw [decide_eq_true rfl]
          have HE2 := Lib.hid (HE2.out.below hb11)
          have hb11 := hb10.trans (hb11.mono hb10.size)
          clear hb10
          go_wp2_with fail
          refine (rdel_any _ l key _ (HV.out.below hb11) (by omega)).mono ?_
          rintro r w12 ⟨u4, rfl, hE4, hb12⟩
          have HE4 := Lib.hid hE4
          have HE2 := Lib.hid (HE2.out.below hb12)
          have hb12 := hb11.trans (hb12.mono hb11.size)
          clear hb11 hE4
          go_wp2_with fail
          refine (same_any _ _ _ _ _ HE2.out HE4.out).mono ?_
          rintro r w13 ⟨rfl, hb13⟩
          rw [decide_eq_true rfl]
          have hb13 := hb12.trans (hb13.mono hb12.size)
          clear hb12
          go_wp2
          go_ret
          exact ⟨rfl, hb13⟩
end Go.Proofs.Ytifdglehfhoecaa.E
