/-
  Whether two nodes are the same: the document's answer. Conditions: none.
-/
import Derived.Test.YtifdglehfhoecaaNRef
namespace Go.Proofs.Ytifdglehfhoecaa.N
open Go.RowKit B E
def NSm (a b : M.Nd) (w : World) (r : Ending) (w' : World) : Prop := r = .returned (.bool (decide (a = b))) ∧ Below w.heap.size w w'
theorem nd_iff (l m : Bool) (es fs : List Ent) (ks js : List Int) (ss ts : List ByteArray) : (⟨l, es, ks, ss⟩ : M.Nd) = ⟨m, fs, js, ts⟩ ↔ l = m ∧ es = fs ∧ ks = js ∧ ss = ts := by
  constructor
  · intro h; injection h with a b c d; exact ⟨a, b, c, d⟩
  · rintro ⟨rfl, rfl, rfl, rfl⟩; rfl
set_option maxRecDepth 100000 in
set_option maxHeartbeats 4000000 in
theorem nsame_any (va vb : Value) (a b : M.Nd) (w : World) (ha : NdV w va a) (hb : NdV w vb b) : Calls Try.prog 55 #[va, vb] w (NSm a b w) := by
  obtain ⟨l, es, ks, ss⟩ := a
  obtain ⟨e0, ec, k0, kc, s0, sc, rfl, he, hk, hs⟩ := ha
  obtain ⟨m, fs, js, ts⟩ := b
  obtain ⟨f0, fc, j0, jc, t0, tc, rfl, hf, hj, ht⟩ := hb
  dsimp only at he hk hs hf hj ht ⊢
  have hkn := ints_len hk; have hjn := ints_len hj; have hsn := txts_len hs; have htn := txts_len ht
  obtain ⟨R, hR⟩ : ∃ R, decide ((⟨l, es, ks, ss⟩ : M.Nd) = ⟨m, fs, js, ts⟩) = R := ⟨_, rfl⟩
  unfold NSm
  rw [hR]
  have HR := Lib.hid (show (R = true ↔ l = m ∧ es = fs ∧ ks = js ∧ ss = ts) by rw [← hR, decide_eq_true_eq, nd_iff])
  have HF := Lib.hid (show (¬ (l = m ∧ es = fs ∧ ks = js ∧ ss = ts)) → R = false by
    intro h
    rw [← HR.out] at h
    simpa using h)
  clear hR
  obtain ⟨ne, hne⟩ : ∃ x, es.length = x := ⟨_, rfl⟩
  obtain ⟨nf, hnf⟩ : ∃ x, fs.length = x := ⟨_, rfl⟩
  obtain ⟨nk, hnk⟩ : ∃ x, ks.length = x := ⟨_, rfl⟩
  obtain ⟨nj, hnj⟩ : ∃ x, js.length = x := ⟨_, rfl⟩
  obtain ⟨ns, hns⟩ : ∃ x, ss.length = x := ⟨_, rfl⟩
  obtain ⟨nt, hnt⟩ : ∃ x, ts.length = x := ⟨_, rfl⟩
  rw [hne] at he ⊢
  rw [hnf] at hf ⊢
  rw [hnk] at hk hkn ⊢
  rw [hnj] at hj hjn ⊢
  rw [hns] at hs hsn ⊢
  rw [hnt] at ht htn ⊢
  have HE := Lib.hid he; have HFS := Lib.hid hf
  have HCK := Lib.hid hk.at.2.2.2; have HCJ := Lib.hid hj.at.2.2.2; have HCS := Lib.hid hs.at.2.2.2; have HCT := Lib.hid ht.at.2.2.2
  have HNK := Lib.hid hnk; have HNJ := Lib.hid hnj; have HNS := Lib.hid hns; have HNT := Lib.hid hnt
  clear he hf hk hj hs ht hne hnf hnk hnj hns hnt
  go_enter Try.func55, Try.ntmps55
  go_upto_region 1 with (fail)
  obtain ⟨w0, hw0⟩ : ∃ W, w.alloc (.cells #[.bool l, .slice e0 ne ec, .slice k0 nk kc, .slice s0 ns sc] 73) = W := ⟨_, rfl⟩
  have hz0 : w0.heap.size = w.heap.size + 1 := by rw [← hw0]; simp
  have hx : Bx w0 w.heap.size l (.slice e0 ne ec) (.slice k0 nk kc) (.slice s0 ns sc) := by rw [← hw0]; exact Bx.new _ _ _ _ _ _
  have hb0 : Below w.heap.size w w0 := by rw [← hw0]; exact (Below.refl _ w).alloc (Nat.le_refl _) _
  rw [hw0]
  clear hw0
  obtain ⟨w1, hw1⟩ : ∃ W, w0.alloc (.cells #[.bool m, .slice f0 nf fc, .slice j0 nj jc, .slice t0 nt tc] 73) = W := ⟨_, rfl⟩
  have hy : Bx w1 w0.heap.size m (.slice f0 nf fc) (.slice j0 nj jc) (.slice t0 nt tc) := by rw [← hw1]; exact Bx.new _ _ _ _ _ _
  have hb01 : Below w0.heap.size w0 w1 := by rw [← hw1]; exact (Below.refl _ w0).alloc (Nat.le_refl _) _
  rw [hw1]
  clear hw1
  have hx := hx.below hb01
  have hb1 := hb0.trans (hb01.mono hb0.size)
  rw [hz0] at hy
  clear hz0 hb0 hb01
  obtain ⟨x0, x1, x2, x3⟩ := hx
  obtain ⟨y0, y1, y2, y3⟩ := hy
  by_cases hlm : l = m
  case neg =>
    have q0 : (l != m) = true := by rw [bne_iff_ne]; exact hlm
    have q1 : (l == m) = false := by rw [beq_eq_false_iff_ne]; exact hlm
    have hRf := HF.out fun h => hlm h.1
    subst hRf
    clear hlm
    go_wp2
    go_ret
    exact ⟨rfl, hb1⟩
  have q0 : (l != m) = false := by rw [bne_eq_false_iff_eq]; exact hlm
  have q1 : (l == m) = true := by rw [beq_iff_eq]; exact hlm
  have HLM := Lib.hid hlm
  clear hlm
  by_cases hkj : nk = nj
  case neg =>
    have q2 : ((nk : Int) != (nj : Int)) = true := by rw [bne_iff_ne]; omega
    have q3 : ((nk : Int) == (nj : Int)) = false := by rw [beq_eq_false_iff_ne]; omega
    have hRf := HF.out fun h => hkj (by rw [← HNK.out, ← HNJ.out, h.2.2.1])
    subst hRf
    clear hkj
    go_wp2
    go_ret
    exact ⟨rfl, hb1⟩
  have HKJ := Lib.hid hkj
  have q2 : ((nk : Int) != (nj : Int)) = false := by rw [bne_eq_false_iff_eq]; omega
  have q3 : ((nk : Int) == (nj : Int)) = true := by rw [beq_iff_eq]; omega
  clear hkj
  by_cases hst : ns = nt
  case neg =>
    have q4 : ((ns : Int) != (nt : Int)) = true := by rw [bne_iff_ne]; omega
    have q5 : ((ns : Int) == (nt : Int)) = false := by rw [beq_eq_false_iff_ne]; omega
    have hRf := HF.out fun h => hst (by rw [← HNS.out, ← HNT.out, h.2.2.2])
    subst hRf
    clear hst
    go_wp2
    go_ret
    exact ⟨rfl, hb1⟩
  have HST := Lib.hid hst
  have q4 : ((ns : Int) != (nt : Int)) = false := by rw [bne_eq_false_iff_eq]; omega
  have q5 : ((ns : Int) == (nt : Int)) = true := by rw [beq_iff_eq]; omega
  clear hst
  go_upto_region 3 with (fail)
  clear q0 q1 q2 q3 q4 q5
  go_wp2
  go_loopw [5] (fun i wr => ∃ k : Nat, k ≤ nk ∧ i = .int .i64 k ∧ (∀ j (h1 : j < ks.length) (h2 : j < js.length), j < k → ks[j] = js[j]) ∧ Below w1.heap.size w1 wr) (fun i _ => nk - (intOf i).toNat)
  case atStart => exact ⟨0, Nat.zero_le _, rfl, fun j _ _ h => absurd h (by omega), Below.refl _ _⟩
  case round =>
    obtain ⟨k, hkl, rfl, hpre, hbr⟩ := hrel
    have HPRE := Lib.hid hpre; clear hpre
    have x0 := bcell hbr x0; have x1 := bcell hbr x1; have x2 := bcell hbr x2; have x3 := bcell hbr x3
    have y0 := bcell hbr y0; have y1 := bcell hbr y1; have y2 := bcell hbr y2; have y3 := bcell hbr y3
    have hbW := hb1.trans (hbr.mono hb1.size)
    by_cases hlt : k < nk
    · have hka : k < ks.length := by rw [HNK.out]; exact hlt
      have hkb : k < js.length := by rw [HNJ.out, ← HKJ.out]; exact hlt
      obtain ⟨ab, ai, rfl, c0⟩ := HCK.out k hka
      obtain ⟨bb, bi, rfl, c1⟩ := HCJ.out k hkb
      have c0 := bcell hbW c0
      have c1 := bcell hbW c1
      have hkz : (0 : Int) ≤ (k : Int) := Int.natCast_nonneg _
      have hkn1 : (k : Int) < (nk : Int) := by omega
      have hkn2 : (k : Int) < (nj : Int) := by have := HKJ.out; omega
      obtain ⟨p, hp⟩ : ∃ x, ks[k] = x := ⟨_, rfl⟩
      obtain ⟨q, hq⟩ : ∃ x, js[k] = x := ⟨_, rfl⟩
      rw [hp] at c0
      rw [hq] at c1
      have HP := Lib.hid hp; have HQ := Lib.hid hq
      clear hp hq
      by_cases hpq : p = q
      · have HN := Lib.hid (show ∀ j (h1 : j < ks.length) (h2 : j < js.length), j < k + 1 → ks[j] = js[j] from fun j h1 h2 h => by
          rcases Nat.lt_or_ge j k with h' | h'
          · exact HPRE.out j h1 h2 h'
          · obtain rfl : j = k := by omega
            rw [HP.out, HQ.out, hpq])
        have r1 : (p == q) = true := by rw [beq_iff_eq]; exact hpq
        have r2 : (p != q) = false := by rw [bne_eq_false_iff_eq]; exact hpq
        clear hpq
        go_upto_region 6 with (fail)
        go_quiet (fail)
        go_wp2
        go_roundw
        case rel => exact ⟨k + 1, by omega, by go_num, HN.out, ⟨hbr.os, hbr.tape, hbr.output, hbr.size, hbr.block⟩⟩
        case measure => simp [intOf]; omega
      · have hRf := HF.out fun h => hpq (by
          obtain ⟨_, _, h3, _⟩ := h
          subst h3
          rw [← HP.out, ← HQ.out])
        subst hRf
        have r1 : (p == q) = false := by rw [beq_eq_false_iff_ne]; exact hpq
        have r2 : (p != q) = true := by rw [bne_iff_ne]; exact hpq
        clear hpq
        go_upto_region 6 with (fail)
        go_quiet (fail)
        go_wp2
        go_ret
        exact ⟨rfl, ⟨hbW.os, hbW.tape, hbW.output, hbW.size, hbW.block⟩⟩
    · have HKS := Lib.hid (show ks = js from List.ext_getElem (by rw [HNK.out, HNJ.out, HKJ.out]) fun j h1 h2 => HPRE.out j h1 h2 (by rw [HNK.out] at h1; omega))
      go_wp2
      go_loopw [6] (fun i w2 => ∃ k : Nat, k ≤ ns ∧ i = .int .i64 k ∧ (∀ j (h1 : j < ss.length) (h2 : j < ts.length), j < k → ss[j] = ts[j]) ∧ Below wr.heap.size wr w2) (fun i _ => ns - (intOf i).toNat)
      case atStart => exact ⟨0, Nat.zero_le _, rfl, fun j _ _ h => absurd h (by omega), Below.refl _ _⟩
      case round =>
        rename_i w2
        obtain ⟨k2, hkl2, rfl, hpre, hbr2⟩ := hrel
        have HPRE2 := Lib.hid hpre; clear hpre
        have x0 := bcell hbr2 x0; have x1 := bcell hbr2 x1; have x2 := bcell hbr2 x2; have x3 := bcell hbr2 x3
        have y0 := bcell hbr2 y0; have y1 := bcell hbr2 y1; have y2 := bcell hbr2 y2; have y3 := bcell hbr2 y3
        have hbW2 := hbW.trans (hbr2.mono hbW.size)
        by_cases hlt2 : k2 < ns
        · have hka : k2 < ss.length := by rw [HNS.out]; exact hlt2
          have hkb : k2 < ts.length := by rw [HNT.out, ← HST.out]; exact hlt2
          obtain ⟨ab, ai, rfl, c0⟩ := HCS.out k2 hka
          obtain ⟨bb, bi, rfl, c1⟩ := HCT.out k2 hkb
          have c0 := bcell hbW2 c0
          have c1 := bcell hbW2 c1
          have hkz : (0 : Int) ≤ (k2 : Int) := Int.natCast_nonneg _
          have hkn1 : (k2 : Int) < (ns : Int) := by omega
          have hkn2 : (k2 : Int) < (nt : Int) := by have := HST.out; omega
          obtain ⟨p, hp⟩ : ∃ x, ss[k2] = x := ⟨_, rfl⟩
          obtain ⟨q, hq⟩ : ∃ x, ts[k2] = x := ⟨_, rfl⟩
          rw [hp] at c0
          rw [hq] at c1
          have HP := Lib.hid hp; have HQ := Lib.hid hq
          clear hp hq
          by_cases hpq : p = q
          · have HN := Lib.hid (show ∀ j (h1 : j < ss.length) (h2 : j < ts.length), j < k2 + 1 → ss[j] = ts[j] from fun j h1 h2 h => by
              rcases Nat.lt_or_ge j k2 with h' | h'
              · exact HPRE2.out j h1 h2 h'
              · obtain rfl : j = k2 := by omega
                rw [HP.out, HQ.out, hpq])
            have r1 := str_eq hpq
            clear hpq
            go_upto_region 11 with (fail)
            go_quiet (fail)
            go_wp2
            go_roundw
            case rel => exact ⟨k2 + 1, by omega, by go_num, HN.out, ⟨hbr2.os, hbr2.tape, hbr2.output, hbr2.size, hbr2.block⟩⟩
            case measure => simp [intOf]; omega
          · have hRf := HF.out fun h => hpq (by
              obtain ⟨_, _, _, h4⟩ := h
              subst h4
              rw [← HP.out, ← HQ.out])
            subst hRf
            have r1 := str_ne hpq
            clear hpq
            go_upto_region 11 with (fail)
            go_quiet (fail)
            go_wp2
            go_ret
            exact ⟨rfl, ⟨hbW2.os, hbW2.tape, hbW2.output, hbW2.size, hbW2.block⟩⟩
        · have HSS := Lib.hid (show ss = ts from List.ext_getElem (by rw [HNS.out, HNT.out, HST.out]) fun j h1 h2 => HPRE2.out j h1 h2 (by rw [HNS.out] at h1; omega))
          have HQR := Lib.hid (show decide (es = fs) = R by
            rw [Bool.eq_iff_iff, decide_eq_true_eq, HR.out]
            exact ⟨fun h => ⟨HLM.out, h, HKS.out, HSS.out⟩, fun h => h.2.1⟩)
          go_wp2_with fail
          refine (same_any _ _ es fs _ (HE.out.below hbW2) (HFS.out.below hbW2)).mono ?_
          rintro r w5 ⟨rfl, hb5⟩
          rw [HQR.out]
          have hb5 := hbW2.trans (hb5.mono hbW2.size)
          go_wp2
          go_ret
          exact ⟨rfl, hb5⟩
end Go.Proofs.Ytifdglehfhoecaa.N
