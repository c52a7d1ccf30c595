/-
  Whether a node may be, whether it fits; the document's answer. Conditions: bounds that every node here keeps.
-/
import Derived.Test.YtifdglehfhoecaaNSize
import Derived.Test.YtifdglehfhoecaaEEnc
import Derived.Test.YtifdglehfhoecaaERef2
import Derived.Test.YtifdglehfhoecaaERight
namespace Go.Proofs.Ytifdglehfhoecaa.N
open Go.RowKit B E
theorem odd_any (k : Int) (w : World) : Calls Try.prog 78 #[.int .i64 k] w fun r w' => r = .returned (.bool (decide (¬ M.okk k))) ∧ w = w' := by
  by_cases h1 : k < 2
  · have hd : decide (¬ M.okk k) = true := by rw [decide_eq_true_eq]; unfold M.okk; omega
    rw [hd]
    go_enter Try.func78, Try.ntmps78
    go_wp2
    go_ret
    exact ⟨rfl, rfl⟩
  · by_cases h2 : 4294967295 < k
    · have hd : decide (¬ M.okk k) = true := by rw [decide_eq_true_eq]; unfold M.okk; omega
      rw [hd]
      have q2 : decide ((4294967295 : Int) < k) = true := by rw [decide_eq_true_eq]; exact h2
      go_enter Try.func78, Try.ntmps78
      go_wp2
      go_ret
      exact ⟨rfl, rfl⟩
    · have hd : decide (¬ M.okk k) = false := by rw [decide_eq_false_iff_not]; unfold M.okk; omega
      rw [hd]
      have q2 : decide ((4294967295 : Int) < k) = false := by rw [decide_eq_false_iff_not]; exact h2
      go_enter Try.func78, Try.ntmps78
      go_wp2
      go_ret
      exact ⟨rfl, rfl⟩
def Idx (ks : List Int) (w : World) (r : Ending) (w' : World) : Prop := ∃ i : Int, r = .returned (.int .i64 i) ∧ (0 ≤ i ↔ ¬ M.Okk ks) ∧ w = w'
theorem index_any (v : Value) (ks : List Int) (w : World) (hv : Ints w v ks) : Calls Try.prog 92 #[v, .func (.func 78) #[] #[]] w (Idx ks w) := by
  have hlen := ints_len hv
  obtain ⟨ao, cap, rfl, _, _, hc⟩ := hv.open
  have HC := Lib.hid hc; clear hc hv
  go_enter Try.func92, Try.ntmps92
  go_wp2
  go_loopw [8] (fun i wr => ∃ k : Nat, k ≤ ks.length ∧ i = .int .i64 k ∧ (∀ j (_h : j < ks.length), j < k → M.okk ks[j]) ∧ w = wr) (fun i _ => ks.length - (intOf i).toNat)
  case atStart => exact ⟨0, Nat.zero_le _, rfl, fun j _ h => absurd h (by omega), rfl⟩
  case round =>
    obtain ⟨k, hkl, rfl, hpre, hw⟩ := hrel
    subst hw
    have HPRE := Lib.hid hpre; clear hpre
    by_cases hlt : k < ks.length
    · obtain ⟨b, o, rfl, c0⟩ := HC.out k hlt
      have HOD := Lib.hid (fun W => odd_any ks[k] W)
      by_cases hok : M.okk ks[k]
      · rw [decide_eq_false (not_not_intro hok)] at HOD
        have HN := Lib.hid (show ∀ j (_h : j < ks.length), j < k + 1 → M.okk ks[j] from fun j hj h => by
          rcases Nat.lt_or_ge j k with h' | h'
          · exact HPRE.out j hj h'
          · obtain rfl : j = k := by omega
            exact hok)
        clear hok
        go_wp2_with fail
        refine (HOD.out _).mono ?_
        rintro r w2 ⟨rfl, hw⟩
        subst hw
        go_wp2
        go_roundw
        case rel => exact ⟨k + 1, by omega, by go_num, HN.out, by first | rfl | trivial⟩
        case measure => simp [intOf]; omega
      · rw [decide_eq_true hok] at HOD
        have HR := Lib.hid (show (0 : Int) ≤ (k : Int) ↔ ¬ M.Okk ks from ⟨fun _ h => hok (h _ (List.getElem_mem hlt)), fun _ => by omega⟩)
        clear hok
        go_wp2_with fail
        refine (HOD.out _).mono ?_
        rintro r w2 ⟨rfl, hw⟩
        subst hw
        go_wp2
        go_ret
        exact ⟨_, rfl, HR.out, by first | rfl | trivial⟩
    · have HR := Lib.hid (show (0 : Int) ≤ -1 ↔ ¬ M.Okk ks from ⟨fun h => by omega, fun h => absurd (fun x hx => by
        obtain ⟨j, hj, rfl⟩ := List.getElem_of_mem hx
        exact HPRE.out j hj (by omega)) h⟩)
      go_wp2
      go_ret
      exact ⟨_, rfl, HR.out, by first | rfl | trivial⟩
theorem contains_any (v : Value) (ks : List Int) (w : World) (hv : Ints w v ks) : Calls Try.prog 79 #[v, .func (.func 78) #[] #[]] w fun r w' => r = .returned (.bool (decide (¬ M.Okk ks))) ∧ w = w' := by
  have HI := Lib.hid (index_any v ks w hv); clear hv
  go_enter Try.func79, Try.ntmps79
  go_wp2_with fail
  refine HI.out.mono ?_
  rintro r w2 ⟨i, rfl, hi, hw⟩
  subst hw
  have HQ := Lib.hid (show decide (0 ≤ i) = decide (¬ M.Okk ks) by rw [decide_eq_decide]; exact hi)
  clear hi
  go_wp2
  go_ret
  exact ⟨congrArg (fun b => Ending.returned (.bool b)) HQ.out, rfl⟩
theorem nok_leaf {es : List Ent} {ks : List Int} {ss : List ByteArray} : M.NOk ⟨true, es, ks, ss⟩ ↔ M.Ok es ∧ ks = [] ∧ ss = [] := ⟨fun h => h.1 rfl, fun h => ⟨fun _ => h, fun e => Bool.noConfusion e⟩⟩
theorem nok_inner {es : List Ent} {ks : List Int} {ss : List ByteArray} : M.NOk ⟨false, es, ks, ss⟩ ↔ es = [] ∧ ss.length + 1 = ks.length ∧ M.Okk ks ∧ M.Oks ss := ⟨fun h => h.2 rfl, fun h => ⟨fun e => Bool.noConfusion e, fun _ => h⟩⟩
set_option maxRecDepth 100000 in
set_option maxHeartbeats 4000000 in
theorem nright_any (v : Value) (n : M.Nd) (w : World) (hv : NdV w v n) (hbd : Bd n) : Calls Try.prog 53 #[v] w fun r w' => r = .returned (.bool (decide (M.NOk n))) ∧ Below w.heap.size w w' := by
  obtain ⟨d1, d2, d3, d4, d5⟩ := hbd
  obtain ⟨l, es, ks, ss⟩ := n
  obtain ⟨e0, ec, k0, kc, s0, sc, rfl, he, hk, hs⟩ := hv
  dsimp only at he hk hs d1 d2 d3 d4 d5 ⊢
  have HE := Lib.hid he; have HK := Lib.hid hk; have HS := Lib.hid hs
  clear he hk hs
  rcases l with _ | _
  case true =>
    by_cases ho : M.Ok es
    · by_cases hz : ks.length + ss.length = 0
      · have hd : decide (M.NOk ⟨true, es, ks, ss⟩) = true := by
          rw [decide_eq_true_eq, nok_leaf]
          exact ⟨ho, List.eq_nil_of_length_eq_zero (by omega), List.eq_nil_of_length_eq_zero (by omega)⟩
        have q1 : ((ks.length : Int) + (ss.length : Int) == 0) = true := by rw [beq_iff_eq]; omega
        have HD := Lib.hid hd; have HO := Lib.hid ho
        rw [hd]
        clear hd ho hz
        go_enter Try.func53, Try.ntmps53
        go_upto_region 1 with (fail)
        obtain ⟨w1, hw1⟩ : ∃ W, w.alloc (.cells #[.bool true, .slice e0 es.length ec, .slice k0 ks.length kc, .slice s0 ss.length sc] 69) = W := ⟨_, rfl⟩
        have hx : Bx w1 w.heap.size true (.slice e0 es.length ec) (.slice k0 ks.length kc) (.slice s0 ss.length sc) := by rw [← hw1]; exact Bx.new _ _ _ _ _ _
        have hb1 : Below w.heap.size w w1 := by rw [← hw1]; exact (Below.refl _ w).alloc (Nat.le_refl _) _
        rw [hw1]
        clear hw1
        obtain ⟨x0, x1, x2, x3⟩ := hx
        go_wp2_with fail
        refine (encode_any _ es _ (HE.out.below hb1) (by omega)).mono ?_
        rintro r w2 ⟨rfl, hb2⟩
        rw [if_pos HO.out]
        obtain ⟨tx, htx⟩ : ∃ t, encl es = t := ⟨_, rfl⟩
        rw [htx]
        have x2 := bcell hb2 x2; have x3 := bcell hb2 x3
        have hb2 := hb1.trans (hb2.mono hb1.size)
        clear x0 x1 htx hb1
        go_wp2
        go_ret
        exact ⟨rfl, hb2⟩
      · have hd : decide (M.NOk ⟨true, es, ks, ss⟩) = false := by
          rw [decide_eq_false_iff_not, nok_leaf]
          rintro ⟨_, rfl, rfl⟩
          exact hz rfl
        have q1 : ((ks.length : Int) + (ss.length : Int) == 0) = false := by rw [beq_eq_false_iff_ne]; omega
        have HD := Lib.hid hd; have HO := Lib.hid ho
        rw [hd]
        clear hd ho hz
        go_enter Try.func53, Try.ntmps53
        go_upto_region 1 with (fail)
        obtain ⟨w1, hw1⟩ : ∃ W, w.alloc (.cells #[.bool true, .slice e0 es.length ec, .slice k0 ks.length kc, .slice s0 ss.length sc] 69) = W := ⟨_, rfl⟩
        have hx : Bx w1 w.heap.size true (.slice e0 es.length ec) (.slice k0 ks.length kc) (.slice s0 ss.length sc) := by rw [← hw1]; exact Bx.new _ _ _ _ _ _
        have hb1 : Below w.heap.size w w1 := by rw [← hw1]; exact (Below.refl _ w).alloc (Nat.le_refl _) _
        rw [hw1]
        clear hw1
        obtain ⟨x0, x1, x2, x3⟩ := hx
        go_wp2_with fail
        refine (encode_any _ es _ (HE.out.below hb1) (by omega)).mono ?_
        rintro r w2 ⟨rfl, hb2⟩
        rw [if_pos HO.out]
        obtain ⟨tx, htx⟩ : ∃ t, encl es = t := ⟨_, rfl⟩
        rw [htx]
        have x2 := bcell hb2 x2; have x3 := bcell hb2 x3
        have hb2 := hb1.trans (hb2.mono hb1.size)
        clear x0 x1 htx hb1
        go_wp2
        go_ret
        exact ⟨rfl, hb2⟩
    · have hd : decide (M.NOk ⟨true, es, ks, ss⟩) = false := by
        rw [decide_eq_false_iff_not, nok_leaf]
        exact fun h => ho h.1
      have HO := Lib.hid ho
      rw [hd]
      clear hd ho
      go_enter Try.func53, Try.ntmps53
      go_upto_region 1 with (fail)
      obtain ⟨w1, hw1⟩ : ∃ W, w.alloc (.cells #[.bool true, .slice e0 es.length ec, .slice k0 ks.length kc, .slice s0 ss.length sc] 69) = W := ⟨_, rfl⟩
      have hx : Bx w1 w.heap.size true (.slice e0 es.length ec) (.slice k0 ks.length kc) (.slice s0 ss.length sc) := by rw [← hw1]; exact Bx.new _ _ _ _ _ _
      have hb1 : Below w.heap.size w w1 := by rw [← hw1]; exact (Below.refl _ w).alloc (Nat.le_refl _) _
      rw [hw1]
      clear hw1
      obtain ⟨x0, x1, x2, x3⟩ := hx
      go_wp2_with fail
      refine (encode_any _ es _ (HE.out.below hb1) (by omega)).mono ?_
      rintro r w2 ⟨rfl, hb2⟩
      rw [if_neg HO.out]
      obtain ⟨tx, htx⟩ : ∃ t, encl es = t := ⟨_, rfl⟩
      rw [htx]
      have hb2 := hb1.trans (hb2.mono hb1.size)
      clear x0 x1 x2 x3 htx hb1
      go_wp2
      go_ret
      exact ⟨rfl, hb2⟩
  obtain ⟨R, hR⟩ : ∃ R, decide (M.NOk ⟨false, es, ks, ss⟩) = R := ⟨_, rfl⟩
  rw [hR]
  have HR := Lib.hid (show (R = true ↔ es = [] ∧ ss.length + 1 = ks.length ∧ M.Okk ks ∧ M.Oks ss) by rw [← hR, decide_eq_true_eq, nok_inner])
  have HF := Lib.hid (show (¬ (es = [] ∧ ss.length + 1 = ks.length ∧ M.Okk ks ∧ M.Oks ss)) → R = false by
    intro h
    rw [← HR.out] at h
    simpa using h)
  clear hR
  go_enter Try.func53, Try.ntmps53
  go_upto_region 1 with (fail)
  obtain ⟨w1, hw1⟩ : ∃ W, w.alloc (.cells #[.bool false, .slice e0 es.length ec, .slice k0 ks.length kc, .slice s0 ss.length sc] 69) = W := ⟨_, rfl⟩
  have hx : Bx w1 w.heap.size false (.slice e0 es.length ec) (.slice k0 ks.length kc) (.slice s0 ss.length sc) := by rw [← hw1]; exact Bx.new _ _ _ _ _ _
  have hb1 : Below w.heap.size w w1 := by rw [← hw1]; exact (Below.refl _ w).alloc (Nat.le_refl _) _
  rw [hw1]
  clear hw1
  obtain ⟨x0, x1, x2, x3⟩ := hx
  by_cases he0 : 0 < es.length
  · have hRf := HF.out fun h => by rw [h.1] at he0; simp at he0
    subst hRf
    go_wp2
    go_ret
    exact ⟨rfl, hb1⟩
  by_cases hl : ss.length + 1 = ks.length
  case neg =>
    have hRf := HF.out fun h => hl h.2.1
    subst hRf
    have q1 : ((ss.length : Int) != (ks.length : Int) - 1) = true := by rw [bne_iff_ne]; omega
    have q2 : ((ss.length : Int) == (ks.length : Int) - 1) = false := by rw [beq_eq_false_iff_ne]; omega
    clear hl
    go_wp2
    go_ret
    exact ⟨rfl, hb1⟩
  have q1 : ((ss.length : Int) != (ks.length : Int) - 1) = false := by rw [bne_eq_false_iff_eq]; omega
  have q2 : ((ss.length : Int) == (ks.length : Int) - 1) = true := by rw [beq_iff_eq]; omega
  have HL := Lib.hid hl
  have HES := Lib.hid (List.eq_nil_of_length_eq_zero (show es.length = 0 by omega))
  clear hl
  have HCO := Lib.hid (contains_any (.slice k0 ks.length kc) ks w1 (HK.out.below hb1))
  by_cases hok : M.Okk ks
  case neg =>
    have hRf := HF.out fun h => hok h.2.2.1
    subst hRf
    rw [decide_eq_true hok] at HCO
    clear hok
    go_wp2_with fail
    refine HCO.out.mono ?_
    rintro r w2 ⟨rfl, hw⟩
    subst hw
    go_wp2
    go_ret
    exact ⟨rfl, hb1⟩
  rw [decide_eq_false (not_not_intro hok)] at HCO
  have HOK := Lib.hid hok
  clear hok
  go_wp2_with fail
  refine HCO.out.mono ?_
  rintro r w2 ⟨rfl, hw⟩
  subst hw
  have HCS := Lib.hid (HS.out.below hb1).at.2.2.2
  clear q1 q2
  go_wp2
  go_loopw [51] (fun i wr => ∃ k : Nat, k ≤ ss.length ∧ i = .int .i64 k ∧ M.Oks (ss.take k) ∧ w1 = wr) (fun i _ => ss.length - (intOf i).toNat)
  case atStart => exact ⟨0, Nat.zero_le _, rfl, by simpa using M.oks_nil, rfl⟩
  case round =>
    obtain ⟨k, hkl, rfl, hpre, hw⟩ := hrel
    subst hw
    have HPRE := Lib.hid hpre; clear hpre
    by_cases hlt : k < ss.length
    · obtain ⟨b, o, rfl, c0⟩ := HCS.out k hlt
      have HSU := Lib.hid (M.oks_take_succ hlt)
      have HCK := Lib.hid (fun W => check_any ss[k] ByteArray.empty W)
      by_cases hmay : M.may ss[k] ByteArray.empty
      · rw [if_pos hmay] at HCK
        have HMAY := Lib.hid hmay
        clear hmay
        rcases Nat.eq_zero_or_pos k with h0 | h0
        · have HN := Lib.hid (HSU.out.2 ⟨HPRE.out, HMAY.out, fun h => by omega⟩)
          have hd : decide ((0 : Int) < (k : Int)) = false := by rw [h0]; rfl
          have hd2 : decide (0 < k) = false := by rw [h0]; rfl
          have H0 := Lib.hid h0; clear h0
          go_wp2_with fail
          refine (HCK.out _).mono ?_
          rintro r w3 ⟨rfl, hw⟩
          subst hw
          go_wp2
          go_roundw
          case rel => exact ⟨k + 1, by omega, by go_num, HN.out, by first | rfl | trivial⟩
          case measure => simp [intOf]; omega
        · obtain ⟨b', o', e', c2⟩ := HCS.out (k - 1) (by omega)
          obtain ⟨rfl, rfl⟩ : b = b' ∧ o = o' := by injection e' with e'; injection e' with a1 a2 a3; exact ⟨a1, a2⟩
          have hd : decide ((0 : Int) < (k : Int)) = true := by rw [decide_eq_true_eq]; omega
          have hd2 : decide (0 < k) = true := by rw [decide_eq_true_eq]; omega
          by_cases hll : Op.bytesLess (ss[k - 1]'(by omega)).toList ss[k].toList = true
          · have hl2 : (!Op.bytesLess (ss[k - 1]'(by omega)).toList ss[k].toList) = false := by rw [hll]; rfl
            have HN := Lib.hid (HSU.out.2 ⟨HPRE.out, HMAY.out, fun _ => by rw [toL, toL] at hll; exact hll⟩)
            go_wp2_with fail
            refine (HCK.out _).mono ?_
            rintro r w3 ⟨rfl, hw⟩
            subst hw
            go_wp2
            go_roundw
            case rel => exact ⟨k + 1, by omega, by go_num, HN.out, by first | rfl | trivial⟩
            case measure => simp [intOf]; omega
          · have hl1 : Op.bytesLess (ss[k - 1]'(by omega)).toList ss[k].toList = false := by simpa using hll
            have hl2 : (!Op.bytesLess (ss[k - 1]'(by omega)).toList ss[k].toList) = true := by rw [hl1]; rfl
            have hRf := HF.out fun h => by
              have := (HSU.out.1 (M.oks_take h.2.2.2 (k + 1))).2.2 h0
              unfold M.klt at this
              rw [toL, toL] at hl1
              rw [hl1] at this
              exact Bool.noConfusion this
            subst hRf
            clear hll
            go_wp2_with fail
            refine (HCK.out _).mono ?_
            rintro r w3 ⟨rfl, hw⟩
            subst hw
            go_wp2
            go_ret
            exact ⟨rfl, hb1⟩
      · rw [if_neg hmay] at HCK
        have hRf := HF.out fun h => hmay (HSU.out.1 (M.oks_take h.2.2.2 (k + 1))).2.1
        subst hRf
        clear hmay
        go_wp2_with fail
        refine (HCK.out _).mono ?_
        rintro r w3 ⟨rfl, hw⟩
        subst hw
        go_wp2
        go_ret
        exact ⟨rfl, hb1⟩
    · have hRt := HR.out.2 ⟨HES.out, HL.out, HOK.out, by
        have := HPRE.out
        rwa [show k = ss.length by omega, List.take_length] at this⟩
      subst hRt
      go_wp2
      go_ret
      exact ⟨rfl, hb1⟩
end Go.Proofs.Ytifdglehfhoecaa.N
