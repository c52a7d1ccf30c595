/-
  Whether a node fits; the document's answer whether one may be; whether two are the same. Conditions: bounds that every node here keeps.
-/
import Derived.Test.YtifdglehfhoecaaNRight
namespace Go.Proofs.Ytifdglehfhoecaa.N
open Go.RowKit B E
def fitsN (n : M.Nd) : Prop := M.NOk n ∧ M.nsz n ≤ 240
instance (n : M.Nd) : Decidable (fitsN n) := by unfold fitsN; exact inferInstance
theorem fits_any (v : Value) (n : M.Nd) (w : World) (hv : NdV w v n) (hbd : Bd n) : Calls Try.prog 64 #[v] w fun r w' => r = .returned (.bool (decide (fitsN n))) ∧ Below w.heap.size w w' := by
  have HV := Lib.hid hv
  have hbd' := hbd
  obtain ⟨d1, d2, d3, d4, d5⟩ := hbd'
  have hz : M.nsz n ≤ 1000000004 := by unfold M.nsz; split <;> omega
  have HBD := Lib.hid hbd
  obtain ⟨e0, ec, k0, kc, s0, sc, rfl, he, hk, hs⟩ := hv
  obtain ⟨z, hzz⟩ : ∃ z, M.nsz n = z := ⟨_, rfl⟩
  have HZ := Lib.hid hzz
  rw [hzz] at hz
  clear hbd d1 d2 d3 d4 d5 he hk hs hzz
  obtain ⟨el, hel⟩ : ∃ x, n.es.length = x := ⟨_, rfl⟩
  obtain ⟨kl, hkl⟩ : ∃ x, n.ks.length = x := ⟨_, rfl⟩
  obtain ⟨sl, hsl⟩ : ∃ x, n.ss.length = x := ⟨_, rfl⟩
  obtain ⟨lf, hlf⟩ : ∃ x, n.leaf = x := ⟨_, rfl⟩
  rw [hel, hkl, hsl, hlf] at HV ⊢
  clear hel hkl hsl hlf
  have hb1 : Below w.heap.size w (w.alloc (.cells #[.bool lf, .slice e0 el ec, .slice k0 kl kc, .slice s0 sl sc] 69)) := (Below.refl _ w).alloc (Nat.le_refl _) _
  have hx := Bx.new w lf (.slice e0 el ec) (.slice k0 kl kc) (.slice s0 sl sc) 69
  go_enter Try.func64, Try.ntmps64
  go_upto_region 1 with (fail)
  obtain ⟨w1, hw1⟩ : ∃ W, w.alloc (.cells #[.bool lf, .slice e0 el ec, .slice k0 kl kc, .slice s0 sl sc] 69) = W := ⟨_, rfl⟩
  rw [hw1] at hb1 hx ⊢
  clear hw1
  obtain ⟨x0, x1, x2, x3⟩ := hx
  by_cases ho : M.NOk n
  · have HRT := Lib.hid (nright_any _ n w1 (HV.out.below hb1) HBD.out)
    rw [decide_eq_true ho] at HRT
    have HQ := Lib.hid (show decide ((z : Int) ≤ 240) = decide (fitsN n) by
      rw [decide_eq_decide]
      unfold fitsN
      rw [HZ.out]
      exact ⟨fun h => ⟨ho, by omega⟩, fun h => by omega⟩)
    clear ho
    go_wp2_with fail
    refine HRT.out.mono ?_
    rintro r w2 ⟨rfl, hb2⟩
    have x0 := bcell hb2 x0; have x1 := bcell hb2 x1; have x2 := bcell hb2 x2; have x3 := bcell hb2 x3
    have hb2 := hb1.trans (hb2.mono hb1.size)
    go_wp2_with fail
    refine (nsize_any _ n _ (HV.out.below hb2) HBD.out).mono ?_
    rintro r w3 ⟨rfl, hb3⟩
    rw [HZ.out]
    have hb3 := hb2.trans (hb3.mono hb2.size)
    clear x0 x1 x2 x3
    go_wp2
    go_ret
    exact ⟨congrArg (fun b => Ending.returned (.bool b)) HQ.out, hb3⟩
  · have HRT := Lib.hid (nright_any _ n w1 (HV.out.below hb1) HBD.out)
    rw [decide_eq_false ho] at HRT
    have HFN := Lib.hid (show false = decide (fitsN n) by symm; rw [decide_eq_false_iff_not]; exact fun h => ho h.1)
    clear ho
    go_wp2_with fail
    refine HRT.out.mono ?_
    rintro r w2 ⟨rfl, hb2⟩
    have hb2 := hb1.trans (hb2.mono hb1.size)
    clear x0 x1 x2 x3
    go_wp2
    go_ret
    exact ⟨congrArg (fun b => Ending.returned (.bool b)) HFN.out, hb2⟩
set_option maxRecDepth 100000 in
set_option maxHeartbeats 4000000 in
theorem rnright_any (v : Value) (n : M.Nd) (w : World) (hv : NdV w v n) (hbd : Bd n) : Calls Try.prog 61 #[v] w fun r w' => r = .returned (.bool (decide (M.NOk n))) ∧ Below w.heap.size w w' := by
  obtain ⟨d1, d2, d3, d4, d5⟩ := hbd
  obtain ⟨l, es, ks, ss⟩ := n
  obtain ⟨e0, ec, k0, kc, s0, sc, rfl, he, hk, hs⟩ := hv
  dsimp only at he hk hs d1 d2 d3 d4 d5 ⊢
  have HE := Lib.hid he; have HK := Lib.hid hk; have HS := Lib.hid hs
  clear he hk hs
  obtain ⟨R, hR⟩ : ∃ R, decide (M.NOk ⟨l, es, ks, ss⟩) = R := ⟨_, rfl⟩
  rw [hR]
  rcases l with _ | _
  case true =>
    have HR := Lib.hid (show (R = true ↔ M.Ok es ∧ ks = [] ∧ ss = []) by rw [← hR, decide_eq_true_eq, nok_leaf])
    have HF := Lib.hid (show (¬ (M.Ok es ∧ ks = [] ∧ ss = [])) → R = false by
      intro h
      rw [← HR.out] at h
      simpa using h)
    clear hR
    go_enter Try.func61, Try.ntmps61
    go_upto_region 1 with (fail)
    obtain ⟨w1, hw1⟩ : ∃ W, w.alloc (.cells #[.bool true, .slice e0 es.length ec, .slice k0 ks.length kc, .slice s0 ss.length sc] 73) = W := ⟨_, rfl⟩
    have hx : Bx w1 w.heap.size true (.slice e0 es.length ec) (.slice k0 ks.length kc) (.slice s0 ss.length sc) := by rw [← hw1]; exact Bx.new _ _ _ _ _ _
    have hb1 : Below w.heap.size w w1 := by rw [← hw1]; exact (Below.refl _ w).alloc (Nat.le_refl _) _
    rw [hw1]
    clear hw1
    obtain ⟨x0, x1, x2, x3⟩ := hx
    have HRR := Lib.hid (rright_any _ es w1 (HE.out.below hb1))
    by_cases ho : M.Ok es
    · rw [decide_eq_true ho] at HRR
      have HO := Lib.hid ho
      clear ho
      by_cases hk0 : ks.length = 0
      · have q1 : ((ks.length : Int) == 0) = true := by rw [beq_iff_eq]; omega
        by_cases hs0 : ss.length = 0
        · have q2 : ((ss.length : Int) == 0) = true := by rw [beq_iff_eq]; omega
          have hRt := HR.out.2 ⟨HO.out, List.eq_nil_of_length_eq_zero hk0, List.eq_nil_of_length_eq_zero hs0⟩
          subst hRt
          clear hk0 hs0
          go_wp2_with fail
          refine HRR.out.mono ?_
          rintro r w2 ⟨rfl, hb2⟩
          have x2 := bcell hb2 x2; have x3 := bcell hb2 x3
          have hb2 := hb1.trans (hb2.mono hb1.size)
          clear x0 x1 hb1
          go_wp2
          go_ret
          exact ⟨rfl, hb2⟩
        · have q2 : ((ss.length : Int) == 0) = false := by rw [beq_eq_false_iff_ne]; omega
          have hRt := HF.out fun h => by rw [h.2.2] at hs0; exact hs0 rfl
          subst hRt
          clear hk0 hs0
          go_wp2_with fail
          refine HRR.out.mono ?_
          rintro r w2 ⟨rfl, hb2⟩
          have x2 := bcell hb2 x2; have x3 := bcell hb2 x3
          have hb2 := hb1.trans (hb2.mono hb1.size)
          clear x0 x1 hb1
          go_wp2
          go_ret
          exact ⟨rfl, hb2⟩
      · have q1 : ((ks.length : Int) == 0) = false := by rw [beq_eq_false_iff_ne]; omega
        have hRt := HF.out fun h => by rw [h.2.1] at hk0; exact hk0 rfl
        subst hRt
        clear hk0
        go_wp2_with fail
        refine HRR.out.mono ?_
        rintro r w2 ⟨rfl, hb2⟩
        have x2 := bcell hb2 x2; have x3 := bcell hb2 x3
        have hb2 := hb1.trans (hb2.mono hb1.size)
        clear x0 x1 hb1
        go_wp2
        go_ret
        exact ⟨rfl, hb2⟩
    · rw [decide_eq_false ho] at HRR
      have hRt := HF.out fun h => ho h.1
      subst hRt
      clear ho
      go_wp2_with fail
      refine HRR.out.mono ?_
      rintro r w2 ⟨rfl, hb2⟩
      have hb2 := hb1.trans (hb2.mono hb1.size)
      clear x0 x1 x2 x3 hb1
      go_wp2
      go_ret
      exact ⟨rfl, hb2⟩
  have HR := Lib.hid (show (R = true ↔ es = [] ∧ ss.length + 1 = ks.length ∧ M.Okk ks ∧ M.Oks ss) by rw [← hR, decide_eq_true_eq, nok_inner])
  have HF := Lib.hid (show (¬ (es = [] ∧ ss.length + 1 = ks.length ∧ M.Okk ks ∧ M.Oks ss)) → R = false by
    intro h
    rw [← HR.out] at h
    simpa using h)
  clear hR
  go_enter Try.func61, Try.ntmps61
  go_upto_region 1 with (fail)
  obtain ⟨w1, hw1⟩ : ∃ W, w.alloc (.cells #[.bool false, .slice e0 es.length ec, .slice k0 ks.length kc, .slice s0 ss.length sc] 73) = W := ⟨_, rfl⟩
  have hx : Bx w1 w.heap.size false (.slice e0 es.length ec) (.slice k0 ks.length kc) (.slice s0 ss.length sc) := by rw [← hw1]; exact Bx.new _ _ _ _ _ _
  have hb1 : Below w.heap.size w w1 := by rw [← hw1]; exact (Below.refl _ w).alloc (Nat.le_refl _) _
  rw [hw1]
  clear hw1
  obtain ⟨x0, x1, x2, x3⟩ := hx
  by_cases he0 : 0 < es.length
  · have hRf := HF.out fun h => by rw [h.1] at he0; simp at he0
    subst hRf
    go_wp2
    go_ret
    exact ⟨rfl, hb1⟩
  by_cases hk1 : ks.length = 0
  · have q1 : ((ks.length : Int) == 0) = true := by rw [beq_iff_eq]; omega
    have hRf := HF.out fun h => by omega
    subst hRf
    clear hk1
    go_wp2
    go_ret
    exact ⟨rfl, hb1⟩
  have q3 : ((ks.length : Int) == 0) = false := by rw [beq_eq_false_iff_ne]; omega
  by_cases hl : ss.length + 1 = ks.length
  case neg =>
    have hRf := HF.out fun h => hl h.2.1
    subst hRf
    have q1 : ((ss.length : Int) != (ks.length : Int) - 1) = true := by rw [bne_iff_ne]; omega
    have q2 : ((ss.length : Int) == (ks.length : Int) - 1) = false := by rw [beq_eq_false_iff_ne]; omega
    clear hl
    go_wp2
    go_ret
    exact ⟨rfl, hb1⟩
  have q1 : ((ss.length : Int) != (ks.length : Int) - 1) = false := by rw [bne_eq_false_iff_eq]; omega
  have q2 : ((ss.length : Int) == (ks.length : Int) - 1) = true := by rw [beq_iff_eq]; omega
  have HL := Lib.hid hl
  have HES := Lib.hid (List.eq_nil_of_length_eq_zero (show es.length = 0 by omega))
  clear hl hk1
  have HCS := Lib.hid (HS.out.below hb1).at.2.2.2
  have HCK := Lib.hid (HK.out.below hb1).at.2.2.2
  go_upto_region 6 with (fail)
  clear q1 q2 q3
  go_wp2
  go_loopw [4] (fun i wr => ∃ k : Nat, k ≤ ks.length ∧ i = .int .i64 k ∧ (∀ j (_h : j < ks.length), j < k → M.okk ks[j]) ∧ w1 = wr) (fun i _ => ks.length - (intOf i).toNat)
  case atStart => exact ⟨0, Nat.zero_le _, rfl, fun j _ h => absurd h (by omega), rfl⟩
  case round =>
    obtain ⟨k, hkl, rfl, hpre, hw⟩ := hrel
    subst hw
    have HPRE := Lib.hid hpre; clear hpre
    by_cases hlt : k < ks.length
    · obtain ⟨b, o, rfl, c0⟩ := HCK.out k hlt
      by_cases hok : M.okk ks[k]
      · have HN := Lib.hid (show ∀ j (_h : j < ks.length), j < k + 1 → M.okk ks[j] from fun j hj h => by
          rcases Nat.lt_or_ge j k with h' | h'
          · exact HPRE.out j hj h'
          · obtain rfl : j = k := by omega
            exact hok)
        have p1 : ¬ ks[k] < 2 := by unfold M.okk at hok; omega
        have p2 : ¬ 4294967295 < ks[k] := by unfold M.okk at hok; omega
        clear hok
        go_wp2
        go_roundw
        case rel => exact ⟨k + 1, by omega, by go_num, HN.out, by first | rfl | trivial⟩
        case measure => simp [intOf]; omega
      · have hRf := HF.out fun h => hok (h.2.2.1 _ (List.getElem_mem hlt))
        subst hRf
        by_cases p1 : ks[k] < 2
        · clear hok
          go_wp2
          go_ret
          exact ⟨rfl, hb1⟩
        · have p2 : 4294967295 < ks[k] := by unfold M.okk at hok; omega
          clear hok
          go_wp2
          go_ret
          exact ⟨rfl, hb1⟩
    · have HOK := Lib.hid (show M.Okk ks from fun x hx => by
        obtain ⟨j, hj, rfl⟩ := List.getElem_of_mem hx
        exact HPRE.out j hj (by omega))
      go_wp2
      go_loopw [5] (fun i wr => ∃ k : Nat, k ≤ ss.length ∧ i = .int .i64 k ∧ M.Oks (ss.take k) ∧ Below w1.heap.size w1 wr) (fun i _ => ss.length - (intOf i).toNat)
      case atStart => exact ⟨0, Nat.zero_le _, rfl, by simpa using M.oks_nil, Below.refl _ _⟩
      case round =>
        obtain ⟨m, hml, rfl, hpre, hbr⟩ := hrel
        have HPRE := Lib.hid hpre; clear hpre
        have x3 := bcell hbr x3
        have hbW := hb1.trans (hbr.mono hb1.size)
        by_cases hlm : m < ss.length
        · obtain ⟨b, o, rfl, c0⟩ := HCS.out m hlm
          have c0 := bcell hbr c0
          have HSU := Lib.hid (M.oks_take_succ hlm)
          have HCK := Lib.hid (fun W => rmay_any ss[m] ByteArray.empty W)
          have hmz : (0 : Int) ≤ (m : Int) := Int.natCast_nonneg _
          have hmn : (m : Int) < (ss.length : Int) := by omega
          by_cases hmay : M.may ss[m] ByteArray.empty
          · rw [decide_eq_true hmay] at HCK
            have HMAY := Lib.hid hmay
            clear hmay
            rcases Nat.eq_zero_or_pos m with h0 | h0
            · have HN := Lib.hid (HSU.out.2 ⟨HPRE.out, HMAY.out, fun h => by omega⟩)
              have hd : decide ((0 : Int) < (m : Int)) = false := by rw [h0]; rfl
              have hd2 : decide (0 < m) = false := by rw [h0]; rfl
              have H0 := Lib.hid h0; clear h0
              go_wp2_with fail
              refine (HCK.out _).mono ?_
              rintro r w3 ⟨rfl, hw⟩
              subst hw
              go_upto_region 15 with (fail)
              go_quiet (fail)
              go_wp2
              go_roundw
              case rel => exact ⟨m + 1, by omega, by go_num, HN.out, ⟨hbr.os, hbr.tape, hbr.output, hbr.size, hbr.block⟩⟩
              case measure => simp [intOf]; omega
            · obtain ⟨b', o', e', c2⟩ := HCS.out (m - 1) (by omega)
              obtain ⟨rfl, rfl⟩ : b = b' ∧ o = o' := by injection e' with e'; injection e' with a1 a2 a3; exact ⟨a1, a2⟩
              have c2 := bcell hbr c2
              have hd : decide ((0 : Int) < (m : Int)) = true := by rw [decide_eq_true_eq]; omega
              have hd2 : decide (0 < m) = true := by rw [decide_eq_true_eq]; omega
              by_cases hll : Op.bytesLess (ss[m - 1]'(by omega)).toList ss[m].toList = true
              · have hl2 : (!Op.bytesLess (ss[m - 1]'(by omega)).toList ss[m].toList) = false := by rw [hll]; rfl
                have HN := Lib.hid (HSU.out.2 ⟨HPRE.out, HMAY.out, fun _ => by rw [toL, toL] at hll; exact hll⟩)
                go_wp2_with fail
                refine (HCK.out _).mono ?_
                rintro r w3 ⟨rfl, hw⟩
                subst hw
                go_upto_region 15 with (fail)
                go_quiet (fail)
                go_wp2
                go_roundw
                case rel => exact ⟨m + 1, by omega, by go_num, HN.out, ⟨hbr.os, hbr.tape, hbr.output, hbr.size, hbr.block⟩⟩
                case measure => simp [intOf]; omega
              · have hl1 : Op.bytesLess (ss[m - 1]'(by omega)).toList ss[m].toList = false := by simpa using hll
                have hl2 : (!Op.bytesLess (ss[m - 1]'(by omega)).toList ss[m].toList) = true := by rw [hl1]; rfl
                have hRf := HF.out fun h => by
                  have := (HSU.out.1 (M.oks_take h.2.2.2 (m + 1))).2.2 h0
                  unfold M.klt at this
                  rw [toL, toL] at hl1
                  rw [hl1] at this
                  exact Bool.noConfusion this
                subst hRf
                clear hll
                go_wp2_with fail
                refine (HCK.out _).mono ?_
                rintro r w3 ⟨rfl, hw⟩
                subst hw
                go_upto_region 15 with (fail)
                go_quiet (fail)
                go_wp2
                go_ret
                exact ⟨rfl, ⟨hbW.os, hbW.tape, hbW.output, hbW.size, hbW.block⟩⟩
          · rw [decide_eq_false hmay] at HCK
            have hRf := HF.out fun h => hmay (HSU.out.1 (M.oks_take h.2.2.2 (m + 1))).2.1
            subst hRf
            clear hmay
            go_wp2_with fail
            refine (HCK.out _).mono ?_
            rintro r w3 ⟨rfl, hw⟩
            subst hw
            go_upto_region 15 with (fail)
            go_quiet (fail)
            go_wp2
            go_ret
            exact ⟨rfl, ⟨hbW.os, hbW.tape, hbW.output, hbW.size, hbW.block⟩⟩
        · have hRt := HR.out.2 ⟨HES.out, HL.out, HOK.out, by
            have := HPRE.out
            rwa [show m = ss.length by omega, List.take_length] at this⟩
          subst hRt
          go_wp2
          go_ret
          exact ⟨rfl, hbW⟩
end Go.Proofs.Ytifdglehfhoecaa.N
