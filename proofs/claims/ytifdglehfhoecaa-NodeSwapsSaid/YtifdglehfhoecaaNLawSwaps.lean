/-
  The law on kids that are put in: true for every input. Conditions: none.
-/
import Derived.Test.YtifdglehfhoecaaNWorks
import Derived.Test.YtifdglehfhoecaaNSame
namespace Go.Proofs.Ytifdglehfhoecaa.N
open Go.RowKit B E
theorem mk_low (ks xs : List Int) (kk i : Nat) (hk : kk < ks.length) (h : i < kk) (hi : i < (ks.take kk ++ xs ++ ks.drop (kk + 1)).length) : (ks.take kk ++ xs ++ ks.drop (kk + 1))[i] = ks[i]'(by omega) := by
  rw [List.getElem_append_left (by rw [List.length_append, List.length_take]; omega), List.getElem_append_left (by rw [List.length_take]; omega), List.getElem_take]
theorem mk_mid (ks xs : List Int) (kk i : Nat) (hk : kk < ks.length) (h : kk ≤ i) (h2 : i < kk + xs.length) (hi : i < (ks.take kk ++ xs ++ ks.drop (kk + 1)).length) : (ks.take kk ++ xs ++ ks.drop (kk + 1))[i] = xs[i - kk]'(by omega) := by
  have hl : (ks.take kk).length = kk := by rw [List.length_take]; omega
  rw [List.getElem_append_left (by rw [List.length_append, hl]; omega), List.getElem_append_right (by rw [hl]; exact h)]
  congr 1
  rw [hl]
theorem mk_high (ks xs : List Int) (kk i : Nat) (hk : kk < ks.length) (h2 : kk + xs.length ≤ i) (hi : i < (ks.take kk ++ xs ++ ks.drop (kk + 1)).length) : (ks.take kk ++ xs ++ ks.drop (kk + 1))[i] = ks[i - xs.length + 1]'(by rw [List.length_append, List.length_append, List.length_take, List.length_drop] at hi; omega) := by
  have hl : (ks.take kk ++ xs).length = kk + xs.length := by rw [List.length_append, List.length_take]; omega
  rw [List.getElem_append_right (by rw [hl]; exact h2), List.getElem_drop]
  congr 1
  rw [hl]
  omega
theorem mk_low' {ks xs MK : List Int} {kk i : Nat} (hM : ks.take kk ++ xs ++ ks.drop (kk + 1) = MK) (hk : kk < ks.length) (h : i < kk) (hi : i < MK.length) : MK[i] = ks[i]'(by omega) := by
  subst hM; exact mk_low ks xs kk i hk h hi
theorem mk_mid' {ks xs MK : List Int} {kk i d : Nat} (hM : ks.take kk ++ xs ++ ks.drop (kk + 1) = MK) (hk : kk < ks.length) (h : kk ≤ i) (hd : i - kk = d) (h2 : d < xs.length) (hi : i < MK.length) : MK[i] = xs[d] := by
  subst hM; subst hd; exact mk_mid ks xs kk i hk h (by omega) hi
theorem mk_high' {ks xs MK : List Int} {kk i d : Nat} (hM : ks.take kk ++ xs ++ ks.drop (kk + 1) = MK) (hk : kk < ks.length) (h2 : kk + xs.length ≤ i) (hd : i - xs.length + 1 = d) (h3 : d < ks.length) (hi : i < MK.length) : MK[i] = ks[d] := by
  subst hM; subst hd; exact mk_high ks xs kk i hk h2 hi
theorem mk_len (ks xs : List Int) (kk : Nat) (hk : kk < ks.length) : (ks.take kk ++ xs ++ ks.drop (kk + 1)).length = ks.length - 1 + xs.length := by
  rw [List.length_append, List.length_append, List.length_take, List.length_drop]; omega
theorem back_ks (ks xs : List Int) (kk : Nat) (hk : kk < ks.length) : (ks.take kk ++ xs ++ ks.drop (kk + 1)).take kk ++ [ks[kk]] ++ (ks.take kk ++ xs ++ ks.drop (kk + 1)).drop (kk + xs.length) = ks := by
  have hl : (ks.take kk).length = kk := by rw [List.length_take]; omega
  have e1 : (ks.take kk ++ xs ++ ks.drop (kk + 1)).take kk = ks.take kk := by
    rw [List.append_assoc, List.take_append_of_le_length (by rw [hl]; exact Nat.le_refl _), List.take_of_length_le (by rw [hl]; exact Nat.le_refl _)]
  have e2 : (ks.take kk ++ xs ++ ks.drop (kk + 1)).drop (kk + xs.length) = ks.drop (kk + 1) := by
    have hl2 : (ks.take kk ++ xs).length = kk + xs.length := by rw [List.length_append, hl]
    rw [← hl2, List.drop_left]
  rw [e1, e2, List.append_assoc, List.singleton_append, ← List.drop_eq_getElem_cons hk, List.take_append_drop]
theorem back_ss (ss ys : List ByteArray) (kk : Nat) (hk : kk ≤ ss.length) : (ss.take kk ++ ys ++ ss.drop kk).take kk ++ [] ++ (ss.take kk ++ ys ++ ss.drop kk).drop (kk + ys.length) = ss := by
  have hl : (ss.take kk).length = kk := by rw [List.length_take]; omega
  have e1 : (ss.take kk ++ ys ++ ss.drop kk).take kk = ss.take kk := by
    rw [List.append_assoc, List.take_append_of_le_length (by rw [hl]; exact Nat.le_refl _), List.take_of_length_le (by rw [hl]; exact Nat.le_refl _)]
  have e2 : (ss.take kk ++ ys ++ ss.drop kk).drop (kk + ys.length) = ss.drop kk := by
    have hl2 : (ss.take kk ++ ys).length = kk + ys.length := by rw [List.length_append, hl]
    rw [← hl2, List.drop_left]
  rw [e1, e2, List.append_nil, List.take_append_drop]
theorem own_kind {w : World} {base size n g : Nat} {e t : TypeId} {v : Value} {cs : List Value} {c : Array Value} {fz : Nat × Nat} (h : w.ownsRow base e size v n cs) (hg : w.heap[g]? = some (.cells c t fz)) (hne : t ≠ e) : v.ownBlock ≠ some g := by
  obtain ⟨_, ⟨rfl, _⟩ | ⟨g', cap, cur, rfl, _, hh, _⟩⟩ := h
  · simp [Value.ownBlock]
  · intro h1
    simp [Value.ownBlock] at h1
    subst h1
    rw [hg] at hh
    injection hh with hh
    injection hh with h1 h2 h3
    exact hne h2
theorem own_other {w w' : World} {base size n g : Nat} {e : TypeId} {v : Value} {cs : List Value} (h : w.ownsRow base e size v n cs) (hz : Zb w g 69) (ho : Only g w w') (hne : (69 : TypeId) ≠ e) : w'.ownsRow base e size v n cs := by
  obtain ⟨a, b, c, d, hz⟩ := hz
  exact h.kept ho (.inr (own_kind h hz hne))
theorem sz_zero {l : List Ent} (h : l = []) : M.sz l ≤ 1000000000 := by subst h; simp [M.sz]
set_option maxRecDepth 100000 in
set_option maxHeartbeats 8000000 in
theorem nswaps_any (v xv yv : Value) (n : M.Nd) (at_ : Int) (xs : List Int) (ys : List ByteArray) (w : World) (hv : NdV w v n) (hx : Ints w xv xs) (hy : Txts w yv ys) (hat : -9223372036854775808 ≤ at_ ∧ at_ ≤ 9223372036854775807) :
    Calls Try.prog 14 #[v, .int .i64 at_, xv, yv] w fun r w' => r = .returned (.bool true) ∧ Below w.heap.size w w' := by
  have HV := Lib.hid hv
  obtain ⟨l, es, ks, ss⟩ := n
  obtain ⟨e0, ec, k0, kc, s0, sc, rfl, he, hk, hs⟩ := hv
  dsimp only at he hk hs HV ⊢
  obtain ⟨x0, xc, rfl, _⟩ := hx.open
  obtain ⟨y0, yc, rfl, _⟩ := hy.open
  obtain ⟨en, hen⟩ : ∃ x, es.length = x := ⟨_, rfl⟩
  obtain ⟨kn, hkn⟩ : ∃ x, ks.length = x := ⟨_, rfl⟩
  obtain ⟨sn, hsn⟩ : ∃ x, ss.length = x := ⟨_, rfl⟩
  obtain ⟨xn, hxn⟩ : ∃ x, xs.length = x := ⟨_, rfl⟩
  obtain ⟨yn, hyn⟩ : ∃ x, ys.length = x := ⟨_, rfl⟩
  rw [hen] at he HV ⊢
  rw [hkn] at hk HV ⊢
  rw [hsn] at hs HV ⊢
  rw [hxn] at hx ⊢
  rw [hyn] at hy ⊢
  have HE := Lib.hid he; have HK := Lib.hid hk; have HS := Lib.hid hs; have HXS := Lib.hid hx; have HYS := Lib.hid hy
  have HEN := Lib.hid hen; have HKN := Lib.hid hkn; have HSN := Lib.hid hsn; have HXN := Lib.hid hxn; have HYN := Lib.hid hyn
  have hxz := ints_len hx; have hyz := txts_len hy
  rw [hxn] at hxz
  rw [hyn] at hyz
  clear he hk hs hx hy hen hkn hsn hxn hyn
  go_enter Try.func14, Try.ntmps14
  go_upto_region 1 with (fail)
  obtain ⟨w0, hw0⟩ : ∃ W, w.alloc (.cells #[.bool l, .slice e0 en ec, .slice k0 kn kc, .slice s0 sn sc] 69) = W := ⟨_, rfl⟩
  have hxx : Bx w0 w.heap.size l (.slice e0 en ec) (.slice k0 kn kc) (.slice s0 sn sc) := by rw [← hw0]; exact Bx.new _ _ _ _ _ _
  have hb0 : Below w.heap.size w w0 := by rw [← hw0]; exact (Below.refl _ w).alloc (Nat.le_refl _) _
  rw [hw0]
  clear hw0
  go_wp2_with fail
  refine (nworks_any _).mono ?_
  rintro r w1 ⟨rfl, hb1⟩
  have hxx := hxx.below hb1
  have hb1 := hb0.trans (hb1.mono hb0.size)
  clear hb0
  have HX := Lib.hid hxx
  obtain ⟨z0, z1, z2, z3⟩ := hxx
  go_wp2_with fail
  refine (nover_any _ _ _ (HV.out.below hb1)).mono ?_
  rintro r w2 ⟨much, rfl, hsm, hb2⟩
  have HX := Lib.hid (HX.out.below hb2)
  have hb2 := hb1.trans (hb2.mono hb1.size)
  clear z0 z1 z2 z3 hb1
  rcases much with _ | _
  case true =>
    clear hsm
    go_wp2
    go_ret
    exact ⟨rfl, hb2⟩
  have hbd := small_bd (hsm rfl)
  have hsm2 := hsm rfl
  have HBD := Lib.hid hbd; have HSMN := Lib.hid hsm2
  clear hsm hbd hsm2
  obtain ⟨z0, z1, z2, z3⟩ := HX.out
  have HRT := Lib.hid (nright_any _ _ w2 (HV.out.below hb2) HBD.out)
  by_cases ho : M.NOk ⟨l, es, ks, ss⟩
  case neg =>
    rw [decide_eq_false ho] at HRT
    clear ho
    go_wp2_with fail
    refine HRT.out.mono ?_
    rintro r w3 ⟨rfl, hb3⟩
    have hb3 := hb2.trans (hb3.mono hb2.size)
    clear z0 z1 z2 z3
    go_wp2
    go_ret
    exact ⟨rfl, hb3⟩
  rw [decide_eq_true ho] at HRT
  have HO := Lib.hid ho
  clear ho z0 z1 z2 z3
  obtain ⟨z0, z1, z2, z3⟩ := HX.out
  rcases l with _ | _
  case true =>
    go_wp2_with fail
    refine HRT.out.mono ?_
    rintro r w3 ⟨rfl, hb3⟩
    have z0 := bcell hb3 z0
    have hb3 := hb2.trans (hb3.mono hb2.size)
    clear z1 z2 z3
    go_wp2
    go_ret
    exact ⟨rfl, hb3⟩
  obtain ⟨hes, hsk, hok, hos⟩ := nok_inner.1 HO.out
  rw [HSN.out, HKN.out] at hsk
  have hen0 : en = 0 := by rw [← HEN.out, hes]; rfl
  subst hen0
  have HES := Lib.hid hes
  clear hes hok hos
  have hk60 : kn ≤ 60 := by have := HSMN.out.2.1; rw [← HKN.out]; exact this
  clear z0 z1 z2 z3
  obtain ⟨z0, z1, z2, z3⟩ := HX.out
  go_wp2_with fail
  refine HRT.out.mono ?_
  rintro r w3 ⟨rfl, hb3⟩
  have HX := Lib.hid (HX.out.below hb3)
  have hb3 := hb2.trans (hb3.mono hb2.size)
  clear z0 z1 z2 z3 hb2 HRT
  obtain ⟨z0, z1, z2, z3⟩ := HX.out
  by_cases hx0 : xn = 0
  · have q0 : ((xn : Int) == 0) = true := by rw [beq_iff_eq]; omega
    clear hx0
    go_wp2
    go_ret
    exact ⟨rfl, hb3⟩
  have q0 : ((xn : Int) == 0) = false := by rw [beq_eq_false_iff_ne]; omega
  by_cases hx60 : 60 < xn
  · clear hx0
    go_wp2
    go_ret
    exact ⟨rfl, hb3⟩
  by_cases hyx : yn + 1 = xn
  case neg =>
    have q1 : ((yn : Int) != (xn : Int) - 1) = true := by rw [bne_iff_ne]; omega
    have q2 : ((yn : Int) == (xn : Int) - 1) = false := by rw [beq_eq_false_iff_ne]; omega
    clear hyx hx0
    go_wp2
    go_ret
    exact ⟨rfl, hb3⟩
  have q1 : ((yn : Int) != (xn : Int) - 1) = false := by rw [bne_eq_false_iff_eq]; omega
  have q2 : ((yn : Int) == (xn : Int) - 1) = true := by rw [beq_iff_eq]; omega
  obtain ⟨kk, hkk, hkkn⟩ : ∃ kk : Nat, min (max at_ 0) ((kn : Int) - 1) = (kk : Int) ∧ kk < kn := ⟨(min (max at_ 0) ((kn : Int) - 1)).toNat, by omega, by omega⟩
  have hkkI : kk < ks.length := by rw [HKN.out]; exact hkkn
  have HYX := Lib.hid hyx; have HSK := Lib.hid hsk; have HX60 := Lib.hid (show xn ≤ 60 by omega); have HX0 := Lib.hid (show 0 < xn by omega)
  have HSW := Lib.hid (swap_good _ _ _ es ks xs ss ys kk (kk + 1) kk w3 (HV.out.below hb3) (HXS.out.below hb3) (HYS.out.below hb3) ⟨HBD.out.1, HBD.out.2.1, HBD.out.2.2.1⟩ (by rw [HXN.out]; omega) (by omega) (by omega) (by rw [HXN.out, HYN.out]; exact hyx) rfl (by rw [HSN.out]; omega))
  rw [show (((kk + 1 : Nat) : Int)) = (kk : Int) + 1 by omega] at HSW
  clear hyx hsk
  go_upto_region 8 with (fail)
  clear q0 q1 q2 hkk
  go_wp2_with fail
  refine HSW.out.mono ?_
  rintro r w4 ⟨mv, rfl, ho, hb4⟩
  have HMV := Lib.hid ho.val
  obtain ⟨m0, m0c, mk, mkc, ms, msc, rfl, _, o2, _⟩ := ho
  dsimp only at o2 ⊢
  have HX := Lib.hid (HX.out.below hb4); have HV := Lib.hid ((HV.out.below hb3).below hb4)
  have HXS := Lib.hid ((HXS.out.below hb3).below hb4)
  have hb4 := hb3.trans (hb4.mono hb3.size)
  have hmnv := mk_len ks xs kk hkkI
  have hmsv : (ss.take kk ++ ys ++ ss.drop kk).length = sn + yn := by
    rw [List.length_append, List.length_append, List.length_take, List.length_drop, HYN.out, HSN.out]; omega
  have hbks := back_ks ks xs kk hkkI
  have hbss := back_ss ss ys kk (by rw [HSN.out]; have := HSK.out; omega)
  obtain ⟨MK, hMK⟩ : ∃ x, ks.take kk ++ xs ++ ks.drop (kk + 1) = x := ⟨_, rfl⟩
  obtain ⟨MS, hMS⟩ : ∃ x, ss.take kk ++ ys ++ ss.drop kk = x := ⟨_, rfl⟩
  rw [hMK] at hmnv hbks HMV o2
  rw [hMS] at hmsv hbss HMV
  rw [hMK, hMS]
  have HLOW := Lib.hid (show ∀ i (h : i < kk) (hi : i < MK.length), MK[i] = ks[i]'(by omega) from fun i h hi => mk_low' hMK hkkI h hi)
  have HMID := Lib.hid (show ∀ i d (h : kk ≤ i) (hd : i - kk = d) (h2 : d < xs.length) (hi : i < MK.length), MK[i] = xs[d] from fun i d h hd h2 hi => mk_mid' hMK hkkI h hd h2 hi)
  have HHIGH := Lib.hid (show ∀ i d (h2 : kk + xs.length ≤ i) (hd : i - xs.length + 1 = d) (h3 : d < ks.length) (hi : i < MK.length), MK[i] = ks[d] from fun i d h2 hd h3 hi => mk_high' hMK hkkI h2 hd h3 hi)
  obtain ⟨nk, hnk⟩ : ∃ x, ks[kk] = x := ⟨_, rfl⟩
  rw [hnk] at hbks
  obtain ⟨mn, hmn⟩ : ∃ x, MK.length = x := ⟨_, rfl⟩
  obtain ⟨msn, hmsn⟩ : ∃ x, MS.length = x := ⟨_, rfl⟩
  rw [HXN.out] at hbks
  rw [HYN.out] at hbss
  rw [HKN.out, HXN.out] at hmnv
  rw [hmn] at hmnv o2 HMV ⊢
  rw [hmsn] at hmsv HMV ⊢
  have HMN := Lib.hid hmn; have HMSN := Lib.hid hmsn
  have HNK := Lib.hid hnk
  have HMVAL := Lib.hid hmnv; have HMSV := Lib.hid hmsv
  have HSB := Lib.hid (show ∀ (W : World) (v' : Value), NdV W (.agg #[.bool false, .slice m0 0 m0c, .slice mk mn mkc, .slice ms msn msc]) ⟨false, [], MK, MS⟩ → Ints W v' [nk] → Calls Try.prog 54 #[.agg #[.bool false, .slice m0 0 m0c, .slice mk mn mkc, .slice ms msn msc], .int .i64 (kk : Int), .int .i64 ((kk : Int) + (xn : Int)), v', .slice none 0 0] W (NMk ⟨false, [], ks, ss⟩ W) from fun W v' h1 h2 => by
    have h3 := swap_good _ v' (.slice none 0 0) [] MK [nk] MS [] kk (kk + xn) (kk + yn) W h1 h2 (Rw.nil W 1) ⟨by simp, by rw [hmn]; have := HX60.out; omega, by rw [hmsn]; have := HX60.out; have := HSK.out; have := HYX.out; omega⟩ (by simp) (by have := HX0.out; omega) (by rw [hmn]; have := HX0.out; omega) rfl (by have := HYX.out; omega) (by rw [hmsn]; have := HSK.out; omega)
    rw [hbks, hbss, show ((kk + xn : Nat) : Int) = (kk : Int) + (xn : Int) by omega] at h3
    exact h3)
  have HCM := Lib.hid o2
  clear hmn hmsn hnk hbks hbss hMK hMS o2 HSW
  have r1 : ((mn : Int) != (kn : Int) - 1 + (xn : Int)) = false := by rw [bne_eq_false_iff_eq]; omega
  have r2 : ((mn : Int) == (kn : Int) - 1 + (xn : Int)) = true := by rw [beq_iff_eq]; omega
  have r3 : ((msn : Int) != (mn : Int) - 1) = false := by rw [bne_eq_false_iff_eq]; have := HSK.out; have := HYX.out; omega
  have r4 : ((msn : Int) == (mn : Int) - 1) = true := by rw [beq_iff_eq]; have := HSK.out; have := HYX.out; omega
  have hmn200 : mn ≤ 200 := by have := HX60.out; omega
  clear hmnv hmsv
  go_upto_region 9 with (fail)
  obtain ⟨w5, hw5⟩ : ∃ W, w4.alloc (.cells #[.bool false, .slice m0 0 m0c, .slice mk mn mkc, .slice ms msn msc] 69) = W := ⟨_, rfl⟩
  have hyy : Bx w5 w4.heap.size false (.slice m0 0 m0c) (.slice mk mn mkc) (.slice ms msn msc) := by rw [← hw5]; exact Bx.new _ _ _ _ _ _
  have b5 : Below w4.heap.size w4 w5 := by rw [← hw5]; exact (Below.refl _ w4).alloc (Nat.le_refl _) _
  rw [hw5]
  clear hw5
  obtain ⟨gm, hgm⟩ : ∃ g, w4.heap.size = g := ⟨_, rfl⟩
  rw [hgm] at hyy ⊢
  clear hgm
  have HX := Lib.hid (HX.out.below b5); have HV := Lib.hid (HV.out.below b5); have HXS := Lib.hid (HXS.out.below b5); have HMV := Lib.hid (HMV.out.below b5); have HCM := Lib.hid ((show Ints w4 (.slice mk mn mkc) MK by have h := HCM.out; rw [← HMN.out] at h ⊢; exact Rw.own h).below b5)
  have hb5 := hb4.trans (b5.mono hb4.size)
  clear b5 hb4 hb3 z0 z1 z2 z3
  have HY := Lib.hid hyy
  obtain ⟨z0, z1, z2, z3⟩ := HX.out
  obtain ⟨y0', y1, y2, y3⟩ := hyy
  obtain ⟨f0', fc', f1, f1c, f2, f2c, e', he', hk', hs'⟩ := HV.out
  have hk'' : Ints w5 (.slice k0 kn kc) ks := by
    injection e' with e'
    have e2 := congrArg (fun a : Array Value => a[2]?) e'
    simp at e2
    obtain ⟨rfl, e3, rfl⟩ := e2
    rw [e3]; exact hk'
  have HKC := Lib.hid hk''.at.2.2.2
  obtain ⟨kb, ko, rfl, ck0⟩ := HKC.out kk hkkI
  rw [HNK.out] at ck0
  have HCK := Lib.hid ck0
  have HMC := Lib.hid HCM.out.at.2.2.2
  have HXC := Lib.hid HXS.out.at.2.2.2
  clear e' he' hk' hs' hk'' ck0
  go_upto_region 11 with (fail)
  clear r1 r2 r3 r4
  go_wp2
  go_loopw [13] (fun i wr => ∃ k : Nat, k ≤ mn ∧ i = .int .i64 k ∧ w5 = wr) (fun i _ => mn - (intOf i).toNat)
  case atStart => exact ⟨0, Nat.zero_le _, rfl, rfl⟩
  case round =>
    obtain ⟨k, hkl, rfl, hw⟩ := hrel
    subst hw
    by_cases hlt : k < mn
    · have hkM : k < MK.length := by rw [HMN.out]; exact hlt
      obtain ⟨b2, o2, rfl, c2⟩ := HMC.out k hkM
      by_cases hA : k < kk
      · obtain ⟨b3, o3, e3, c3⟩ := HKC.out k (by rw [HKN.out]; omega)
        obtain ⟨rfl, rfl⟩ : kb = b3 ∧ ko = o3 := by injection e3 with e3; injection e3 with a1 a2 a3; exact ⟨a1, a2⟩
        have hv3 := HLOW.out k hA hkM
        rw [hv3] at c2
        obtain ⟨p, hp⟩ : ∃ p, ks[k]'(by rw [HKN.out]; omega) = p := ⟨_, rfl⟩
        rw [hp] at c2 c3
        have s1 : (p != p) = false := by simp
        clear hp hv3 e3
        go_wp2
        go_roundw
        case rel => exact ⟨k + 1, by omega, by go_num, by first | rfl | trivial⟩
        case measure => simp [intOf]; omega
      · by_cases hB : k < kk + xn
        · obtain ⟨d, hd⟩ : ∃ d, k - kk = d := ⟨_, rfl⟩
          have hdx : d < xs.length := by rw [HXN.out]; omega
          have hdn : d < xn := by omega
          obtain ⟨b3, o3, rfl, c3⟩ := HXC.out d hdx
          have hv3 := HMID.out k d (by omega) hd hdx hkM
          rw [hv3] at c2
          obtain ⟨p, hp⟩ : ∃ p, xs[d] = p := ⟨_, rfl⟩
          rw [hp] at c2 c3
          have s1 : (p != p) = false := by simp
          have s2 : (k : Int) - (kk : Int) = (d : Int) := by omega
          clear hp hv3 hd
          go_wp2
          go_roundw
          case rel => exact ⟨k + 1, by omega, by go_num, by first | rfl | trivial⟩
          case measure => simp [intOf]; omega
        · obtain ⟨d, hd⟩ : ∃ d, k - xn + 1 = d := ⟨_, rfl⟩
          have hdn : d < kn := by have := HMVAL.out; omega
          have hdx : d < ks.length := by rw [HKN.out]; exact hdn
          obtain ⟨b3, o3, e3, c3⟩ := HKC.out d hdx
          obtain ⟨rfl, rfl⟩ : kb = b3 ∧ ko = o3 := by injection e3 with e3; injection e3 with a1 a2 a3; exact ⟨a1, a2⟩
          have hv3 := HHIGH.out k d (by rw [HXN.out]; omega) (by rw [HXN.out]; exact hd) hdx hkM
          rw [hv3] at c2
          obtain ⟨p, hp⟩ : ∃ p, ks[d] = p := ⟨_, rfl⟩
          rw [hp] at c2 c3
          have s1 : (p != p) = false := by simp
          have s2 : (k : Int) - (xn : Int) + 1 = (d : Int) := by omega
          clear hp hv3 hd e3
          go_wp2
          go_roundw
          case rel => exact ⟨k + 1, by omega, by go_num, by first | rfl | trivial⟩
          case measure => simp [intOf]; omega
    · go_upto_region 22 with (fail)
      have p1 : (kk : Int) < (kn : Int) := by omega
      have p2 : (0 : Int) ≤ (kk : Int) := Int.natCast_nonneg _
      have g1 : IntKind.i64.wrap ((kk : Int) + (xn : Int)) = (kk : Int) + (xn : Int) := IntWalk.i64_in _ (by have := HX60.out; omega)
      clear z0 z1 z2 z3 y0' y1 y2 y3
      refine wp_region_any (by kernel_rfl) ?_
      refine wpAny_upto_f 14 (fun f L a W => ∃ v15 v129 v130 v131 v132 v133 v134 v135 v136 v137 v138 v139 v140 v141 : Value, a = { tmps := List.toArray ((f 0) :: (f 1) :: (.slice x0 xn xc) :: (f 3) :: (.pointer (some ⟨w.heap.size, 0, none⟩)) :: (f 5) :: (f 6) :: (f 7) :: (f 8) :: (.bool true) :: (f 10) :: (.int .i64 (kk : Int)) :: (.pointer (some ⟨gm, 0, none⟩)) :: (f 13) :: (f 14) :: v15 :: (f 16) :: (f 17) :: (f 18) :: (f 19) :: (f 20) :: (f 21) :: (f 22) :: (f 23) :: (f 24) :: (f 25) :: (f 26) :: (f 27) :: (f 28) :: (f 29) :: (f 30) :: (f 31) :: (f 32) :: (f 33) :: (f 34) :: (f 35) :: (f 36) :: (f 37) :: (f 38) :: (f 39) :: (f 40) :: (f 41) :: (f 42) :: (f 43) :: (f 44) :: (f 45) :: (f 46) :: (f 47) :: (f 48) :: (f 49) :: (f 50) :: (f 51) :: (f 52) :: (f 53) :: (f 54) :: (f 55) :: (f 56) :: (f 57) :: (f 58) :: (f 59) :: (f 60) :: (f 61) :: (f 62) :: (f 63) :: (f 64) :: (f 65) :: (f 66) :: (f 67) :: (f 68) :: (f 69) :: (f 70) :: (f 71) :: (f 72) :: (f 73) :: (f 74) :: (f 75) :: (f 76) :: (f 77) :: (f 78) :: (f 79) :: (f 80) :: (f 81) :: (f 82) :: (f 83) :: (f 84) :: (f 85) :: (f 86) :: (f 87) :: (f 88) :: (f 89) :: (f 90) :: (f 91) :: (f 92) :: (f 93) :: (f 94) :: (f 95) :: (f 96) :: (f 97) :: (f 98) :: (f 99) :: (f 100) :: (f 101) :: (f 102) :: (f 103) :: (f 104) :: (f 105) :: (f 106) :: (f 107) :: (f 108) :: (f 109) :: (f 110) :: (f 111) :: (f 112) :: (f 113) :: (f 114) :: (f 115) :: (f 116) :: (f 117) :: (f 118) :: (f 119) :: (f 120) :: (f 121) :: (f 122) :: (f 123) :: (f 124) :: (f 125) :: (f 126) :: (f 127) :: (f 128) :: v129 :: v130 :: v131 :: v132 :: v133 :: v134 :: v135 :: v136 :: v137 :: v138 :: v139 :: v140 :: v141 :: (f 142) :: (f 143) :: (f 144) :: (f 145) :: (f 146) :: (f 147) :: (f 148) :: (f 149) :: (f 150) :: []), defers := [] } ∧ Below w5.heap.size w5 W ∧ (Lst L 0 → v129 = .agg #[.bool false, .slice m0 0 m0c, .slice mk mn mkc, .slice ms msn msc]) ∧ (Lst L 1 → v130 = .int .i64 (kk : Int)) ∧ (Lst L 2 → v131 = .int .i64 (kk : Int)) ∧ (Lst L 3 → v132 = .slice x0 xn xc) ∧ (Lst L 4 → v133 = .int .i64 (xn : Int)) ∧ (Lst L 5 → v134 = .int .i64 ((kk : Int) + (xn : Int))) ∧ (Lst L 6 → v135 = .pointer (some ⟨w.heap.size, 2, none⟩)) ∧ (Lst L 7 → v136 = .slice (some ⟨kb, ko, none⟩) kn kc) ∧ (Lst L 8 → v137 = .int .i64 (kk : Int)) ∧ (Lst L 9 → v138 = .pointer (some ⟨kb, ko + kk, none⟩)) ∧ (Lst L 10 → v139 = .int .i64 nk) ∧ (Lst L 11 → Ints W v140 [nk]) ∧ (Lst L 12 → NdO W w5.heap.size v141 ⟨false, [], ks, ss⟩) ∧ (Lst L 13 → ∃ g, v15 = .pointer (some ⟨g, 0, none⟩) ∧ w5.heap.size ≤ g ∧ Zb W g 69)) (by decide) (by kernel_rfl) (by kernel_rfl) ?step ?fin _ _ _ _ ?ini (by simp) (fun k _ => lst_none) (by simp)
      case ini => exact ⟨_, _, _, _, _, _, _, _, _, _, _, _, _, _, rfl, (Below.refl _ w5).drew, fun h => absurd h lst_none, fun h => absurd h lst_none, fun h => absurd h lst_none, fun h => absurd h lst_none, fun h => absurd h lst_none, fun h => absurd h lst_none, fun h => absurd h lst_none, fun h => absurd h lst_none, fun h => absurd h lst_none, fun h => absurd h lst_none, fun h => absurd h lst_none, fun h => absurd h lst_none, fun h => absurd h lst_none, fun h => absurd h lst_none⟩
      case step =>
        intro f L a W hI i him hi
        obtain ⟨v15, v129, v130, v131, v132, v133, v134, v135, v136, v137, v138, v139, v140, v141, rfl, hb, hf⟩ := hI
        have F := Lib.hid hf
        clear hf
        rcases (show i = 0 ∨ i = 1 ∨ i = 2 ∨ i = 3 ∨ i = 4 ∨ i = 5 ∨ i = 6 ∨ i = 7 ∨ i = 8 ∨ i = 9 ∨ i = 10 ∨ i = 11 ∨ i = 12 ∨ i = 13 by omega) with rfl | rfl | rfl | rfl | rfl | rfl | rfl | rfl | rfl | rfl | rfl | rfl | rfl | rfl
        · clear him
          obtain ⟨b0, b1, b2, b3⟩ := HY.out.below hb
          have HI := Lib.hid hi
          clear hi
          refine wpOp_step (o := _) rfl (fun K' hK => ?_)
          have HK := Lib.hid hK
          clear hK
          go_simp
          refine HK.out _ _ ⟨_, _, _, _, _, _, _, _, _, _, _, _, _, _, rfl, hb, fun _ => rfl, fun h => F.out.2.1 (lst_old (by decide) h), fun h => F.out.2.2.1 (lst_old (by decide) h), fun h => F.out.2.2.2.1 (lst_old (by decide) h), fun h => F.out.2.2.2.2.1 (lst_old (by decide) h), fun h => F.out.2.2.2.2.2.1 (lst_old (by decide) h), fun h => F.out.2.2.2.2.2.2.1 (lst_old (by decide) h), fun h => F.out.2.2.2.2.2.2.2.1 (lst_old (by decide) h), fun h => F.out.2.2.2.2.2.2.2.2.1 (lst_old (by decide) h), fun h => F.out.2.2.2.2.2.2.2.2.2.1 (lst_old (by decide) h), fun h => F.out.2.2.2.2.2.2.2.2.2.2.1 (lst_old (by decide) h), fun h => F.out.2.2.2.2.2.2.2.2.2.2.2.1 (lst_old (by decide) h), fun h => F.out.2.2.2.2.2.2.2.2.2.2.2.2.1 (lst_old (by decide) h), fun h => F.out.2.2.2.2.2.2.2.2.2.2.2.2.2 (lst_old (by decide) h)⟩
        · clear him
          have HI := Lib.hid hi
          clear hi
          refine wpOp_step (o := _) rfl (fun K' hK => ?_)
          have HK := Lib.hid hK
          clear hK
          go_simp
          refine HK.out _ _ ⟨_, _, _, _, _, _, _, _, _, _, _, _, _, _, rfl, hb, fun h => F.out.1 (lst_old (by decide) h), fun _ => rfl, fun h => F.out.2.2.1 (lst_old (by decide) h), fun h => F.out.2.2.2.1 (lst_old (by decide) h), fun h => F.out.2.2.2.2.1 (lst_old (by decide) h), fun h => F.out.2.2.2.2.2.1 (lst_old (by decide) h), fun h => F.out.2.2.2.2.2.2.1 (lst_old (by decide) h), fun h => F.out.2.2.2.2.2.2.2.1 (lst_old (by decide) h), fun h => F.out.2.2.2.2.2.2.2.2.1 (lst_old (by decide) h), fun h => F.out.2.2.2.2.2.2.2.2.2.1 (lst_old (by decide) h), fun h => F.out.2.2.2.2.2.2.2.2.2.2.1 (lst_old (by decide) h), fun h => F.out.2.2.2.2.2.2.2.2.2.2.2.1 (lst_old (by decide) h), fun h => F.out.2.2.2.2.2.2.2.2.2.2.2.2.1 (lst_old (by decide) h), fun h => F.out.2.2.2.2.2.2.2.2.2.2.2.2.2 (lst_old (by decide) h)⟩
        · clear him
          have HI := Lib.hid hi
          clear hi
          refine wpOp_step (o := _) rfl (fun K' hK => ?_)
          have HK := Lib.hid hK
          clear hK
          go_simp
          refine HK.out _ _ ⟨_, _, _, _, _, _, _, _, _, _, _, _, _, _, rfl, hb, fun h => F.out.1 (lst_old (by decide) h), fun h => F.out.2.1 (lst_old (by decide) h), fun _ => rfl, fun h => F.out.2.2.2.1 (lst_old (by decide) h), fun h => F.out.2.2.2.2.1 (lst_old (by decide) h), fun h => F.out.2.2.2.2.2.1 (lst_old (by decide) h), fun h => F.out.2.2.2.2.2.2.1 (lst_old (by decide) h), fun h => F.out.2.2.2.2.2.2.2.1 (lst_old (by decide) h), fun h => F.out.2.2.2.2.2.2.2.2.1 (lst_old (by decide) h), fun h => F.out.2.2.2.2.2.2.2.2.2.1 (lst_old (by decide) h), fun h => F.out.2.2.2.2.2.2.2.2.2.2.1 (lst_old (by decide) h), fun h => F.out.2.2.2.2.2.2.2.2.2.2.2.1 (lst_old (by decide) h), fun h => F.out.2.2.2.2.2.2.2.2.2.2.2.2.1 (lst_old (by decide) h), fun h => F.out.2.2.2.2.2.2.2.2.2.2.2.2.2 (lst_old (by decide) h)⟩
        · clear him
          have HI := Lib.hid hi
          clear hi
          refine wpOp_step (o := _) rfl (fun K' hK => ?_)
          have HK := Lib.hid hK
          clear hK
          go_simp
          refine HK.out _ _ ⟨_, _, _, _, _, _, _, _, _, _, _, _, _, _, rfl, hb, fun h => F.out.1 (lst_old (by decide) h), fun h => F.out.2.1 (lst_old (by decide) h), fun h => F.out.2.2.1 (lst_old (by decide) h), fun _ => rfl, fun h => F.out.2.2.2.2.1 (lst_old (by decide) h), fun h => F.out.2.2.2.2.2.1 (lst_old (by decide) h), fun h => F.out.2.2.2.2.2.2.1 (lst_old (by decide) h), fun h => F.out.2.2.2.2.2.2.2.1 (lst_old (by decide) h), fun h => F.out.2.2.2.2.2.2.2.2.1 (lst_old (by decide) h), fun h => F.out.2.2.2.2.2.2.2.2.2.1 (lst_old (by decide) h), fun h => F.out.2.2.2.2.2.2.2.2.2.2.1 (lst_old (by decide) h), fun h => F.out.2.2.2.2.2.2.2.2.2.2.2.1 (lst_old (by decide) h), fun h => F.out.2.2.2.2.2.2.2.2.2.2.2.2.1 (lst_old (by decide) h), fun h => F.out.2.2.2.2.2.2.2.2.2.2.2.2.2 (lst_old (by decide) h)⟩
        · clear him
          have p3 := F.out.2.2.2.1 (ready_needs hi (by kernel_rfl))
          subst p3
          have HI := Lib.hid hi
          clear hi
          refine wpOp_step (o := _) rfl (fun K' hK => ?_)
          have HK := Lib.hid hK
          clear hK
          go_simp
          refine HK.out _ _ ⟨_, _, _, _, _, _, _, _, _, _, _, _, _, _, rfl, hb, fun h => F.out.1 (lst_old (by decide) h), fun h => F.out.2.1 (lst_old (by decide) h), fun h => F.out.2.2.1 (lst_old (by decide) h), fun h => F.out.2.2.2.1 (lst_old (by decide) h), fun _ => rfl, fun h => F.out.2.2.2.2.2.1 (lst_old (by decide) h), fun h => F.out.2.2.2.2.2.2.1 (lst_old (by decide) h), fun h => F.out.2.2.2.2.2.2.2.1 (lst_old (by decide) h), fun h => F.out.2.2.2.2.2.2.2.2.1 (lst_old (by decide) h), fun h => F.out.2.2.2.2.2.2.2.2.2.1 (lst_old (by decide) h), fun h => F.out.2.2.2.2.2.2.2.2.2.2.1 (lst_old (by decide) h), fun h => F.out.2.2.2.2.2.2.2.2.2.2.2.1 (lst_old (by decide) h), fun h => F.out.2.2.2.2.2.2.2.2.2.2.2.2.1 (lst_old (by decide) h), fun h => F.out.2.2.2.2.2.2.2.2.2.2.2.2.2 (lst_old (by decide) h)⟩
        · clear him
          have p2 := F.out.2.2.1 (ready_needs hi (by kernel_rfl))
          have p4 := F.out.2.2.2.2.1 (ready_needs hi (by kernel_rfl))
          subst p2
          subst p4
          have HI := Lib.hid hi
          clear hi
          refine wpOp_step (o := _) rfl (fun K' hK => ?_)
          have HK := Lib.hid hK
          clear hK
          go_simp
          refine HK.out _ _ ⟨_, _, _, _, _, _, _, _, _, _, _, _, _, _, rfl, hb, fun h => F.out.1 (lst_old (by decide) h), fun h => F.out.2.1 (lst_old (by decide) h), fun h => F.out.2.2.1 (lst_old (by decide) h), fun h => F.out.2.2.2.1 (lst_old (by decide) h), fun h => F.out.2.2.2.2.1 (lst_old (by decide) h), fun _ => rfl, fun h => F.out.2.2.2.2.2.2.1 (lst_old (by decide) h), fun h => F.out.2.2.2.2.2.2.2.1 (lst_old (by decide) h), fun h => F.out.2.2.2.2.2.2.2.2.1 (lst_old (by decide) h), fun h => F.out.2.2.2.2.2.2.2.2.2.1 (lst_old (by decide) h), fun h => F.out.2.2.2.2.2.2.2.2.2.2.1 (lst_old (by decide) h), fun h => F.out.2.2.2.2.2.2.2.2.2.2.2.1 (lst_old (by decide) h), fun h => F.out.2.2.2.2.2.2.2.2.2.2.2.2.1 (lst_old (by decide) h), fun h => F.out.2.2.2.2.2.2.2.2.2.2.2.2.2 (lst_old (by decide) h)⟩
        · clear him
          have HI := Lib.hid hi
          clear hi
          refine wpOp_step (o := _) rfl (fun K' hK => ?_)
          have HK := Lib.hid hK
          clear hK
          go_simp
          refine HK.out _ _ ⟨_, _, _, _, _, _, _, _, _, _, _, _, _, _, rfl, hb, fun h => F.out.1 (lst_old (by decide) h), fun h => F.out.2.1 (lst_old (by decide) h), fun h => F.out.2.2.1 (lst_old (by decide) h), fun h => F.out.2.2.2.1 (lst_old (by decide) h), fun h => F.out.2.2.2.2.1 (lst_old (by decide) h), fun h => F.out.2.2.2.2.2.1 (lst_old (by decide) h), fun _ => rfl, fun h => F.out.2.2.2.2.2.2.2.1 (lst_old (by decide) h), fun h => F.out.2.2.2.2.2.2.2.2.1 (lst_old (by decide) h), fun h => F.out.2.2.2.2.2.2.2.2.2.1 (lst_old (by decide) h), fun h => F.out.2.2.2.2.2.2.2.2.2.2.1 (lst_old (by decide) h), fun h => F.out.2.2.2.2.2.2.2.2.2.2.2.1 (lst_old (by decide) h), fun h => F.out.2.2.2.2.2.2.2.2.2.2.2.2.1 (lst_old (by decide) h), fun h => F.out.2.2.2.2.2.2.2.2.2.2.2.2.2 (lst_old (by decide) h)⟩
        · clear him
          have p6 := F.out.2.2.2.2.2.2.1 (ready_needs hi (by kernel_rfl))
          subst p6
          obtain ⟨b0, b1, b2, b3⟩ := HX.out.below hb
          have HI := Lib.hid hi
          clear hi
          refine wpOp_step (o := _) rfl (fun K' hK => ?_)
          have HK := Lib.hid hK
          clear hK
          go_simp
          refine HK.out _ _ ⟨_, _, _, _, _, _, _, _, _, _, _, _, _, _, rfl, hb, fun h => F.out.1 (lst_old (by decide) h), fun h => F.out.2.1 (lst_old (by decide) h), fun h => F.out.2.2.1 (lst_old (by decide) h), fun h => F.out.2.2.2.1 (lst_old (by decide) h), fun h => F.out.2.2.2.2.1 (lst_old (by decide) h), fun h => F.out.2.2.2.2.2.1 (lst_old (by decide) h), fun h => F.out.2.2.2.2.2.2.1 (lst_old (by decide) h), fun _ => rfl, fun h => F.out.2.2.2.2.2.2.2.2.1 (lst_old (by decide) h), fun h => F.out.2.2.2.2.2.2.2.2.2.1 (lst_old (by decide) h), fun h => F.out.2.2.2.2.2.2.2.2.2.2.1 (lst_old (by decide) h), fun h => F.out.2.2.2.2.2.2.2.2.2.2.2.1 (lst_old (by decide) h), fun h => F.out.2.2.2.2.2.2.2.2.2.2.2.2.1 (lst_old (by decide) h), fun h => F.out.2.2.2.2.2.2.2.2.2.2.2.2.2 (lst_old (by decide) h)⟩
        · clear him
          have HI := Lib.hid hi
          clear hi
          refine wpOp_step (o := _) rfl (fun K' hK => ?_)
          have HK := Lib.hid hK
          clear hK
          go_simp
          refine HK.out _ _ ⟨_, _, _, _, _, _, _, _, _, _, _, _, _, _, rfl, hb, fun h => F.out.1 (lst_old (by decide) h), fun h => F.out.2.1 (lst_old (by decide) h), fun h => F.out.2.2.1 (lst_old (by decide) h), fun h => F.out.2.2.2.1 (lst_old (by decide) h), fun h => F.out.2.2.2.2.1 (lst_old (by decide) h), fun h => F.out.2.2.2.2.2.1 (lst_old (by decide) h), fun h => F.out.2.2.2.2.2.2.1 (lst_old (by decide) h), fun h => F.out.2.2.2.2.2.2.2.1 (lst_old (by decide) h), fun _ => rfl, fun h => F.out.2.2.2.2.2.2.2.2.2.1 (lst_old (by decide) h), fun h => F.out.2.2.2.2.2.2.2.2.2.2.1 (lst_old (by decide) h), fun h => F.out.2.2.2.2.2.2.2.2.2.2.2.1 (lst_old (by decide) h), fun h => F.out.2.2.2.2.2.2.2.2.2.2.2.2.1 (lst_old (by decide) h), fun h => F.out.2.2.2.2.2.2.2.2.2.2.2.2.2 (lst_old (by decide) h)⟩
        · clear him
          have p7 := F.out.2.2.2.2.2.2.2.1 (ready_needs hi (by kernel_rfl))
          have p8 := F.out.2.2.2.2.2.2.2.2.1 (ready_needs hi (by kernel_rfl))
          subst p7
          subst p8
          have HI := Lib.hid hi
          clear hi
          refine wpOp_step (o := _) rfl (fun K' hK => ?_)
          have HK := Lib.hid hK
          clear hK
          go_simp
          refine HK.out _ _ ⟨_, _, _, _, _, _, _, _, _, _, _, _, _, _, rfl, hb, fun h => F.out.1 (lst_old (by decide) h), fun h => F.out.2.1 (lst_old (by decide) h), fun h => F.out.2.2.1 (lst_old (by decide) h), fun h => F.out.2.2.2.1 (lst_old (by decide) h), fun h => F.out.2.2.2.2.1 (lst_old (by decide) h), fun h => F.out.2.2.2.2.2.1 (lst_old (by decide) h), fun h => F.out.2.2.2.2.2.2.1 (lst_old (by decide) h), fun h => F.out.2.2.2.2.2.2.2.1 (lst_old (by decide) h), fun h => F.out.2.2.2.2.2.2.2.2.1 (lst_old (by decide) h), fun _ => rfl, fun h => F.out.2.2.2.2.2.2.2.2.2.2.1 (lst_old (by decide) h), fun h => F.out.2.2.2.2.2.2.2.2.2.2.2.1 (lst_old (by decide) h), fun h => F.out.2.2.2.2.2.2.2.2.2.2.2.2.1 (lst_old (by decide) h), fun h => F.out.2.2.2.2.2.2.2.2.2.2.2.2.2 (lst_old (by decide) h)⟩
        · clear him
          have p9 := F.out.2.2.2.2.2.2.2.2.2.1 (ready_needs hi (by kernel_rfl))
          subst p9
          have ck := bcell hb HCK.out
          have HI := Lib.hid hi
          clear hi
          refine wpOp_step (o := _) rfl (fun K' hK => ?_)
          have HK := Lib.hid hK
          clear hK
          go_simp
          refine HK.out _ _ ⟨_, _, _, _, _, _, _, _, _, _, _, _, _, _, rfl, hb, fun h => F.out.1 (lst_old (by decide) h), fun h => F.out.2.1 (lst_old (by decide) h), fun h => F.out.2.2.1 (lst_old (by decide) h), fun h => F.out.2.2.2.1 (lst_old (by decide) h), fun h => F.out.2.2.2.2.1 (lst_old (by decide) h), fun h => F.out.2.2.2.2.2.1 (lst_old (by decide) h), fun h => F.out.2.2.2.2.2.2.1 (lst_old (by decide) h), fun h => F.out.2.2.2.2.2.2.2.1 (lst_old (by decide) h), fun h => F.out.2.2.2.2.2.2.2.2.1 (lst_old (by decide) h), fun h => F.out.2.2.2.2.2.2.2.2.2.1 (lst_old (by decide) h), fun _ => rfl, fun h => F.out.2.2.2.2.2.2.2.2.2.2.2.1 (lst_old (by decide) h), fun h => F.out.2.2.2.2.2.2.2.2.2.2.2.2.1 (lst_old (by decide) h), fun h => F.out.2.2.2.2.2.2.2.2.2.2.2.2.2 (lst_old (by decide) h)⟩
        · clear him
          have p10 := F.out.2.2.2.2.2.2.2.2.2.2.1 (ready_needs hi (by kernel_rfl))
          subst p10
          have HI := Lib.hid hi
          clear hi
          refine wpOp_step (o := _) rfl (fun K' hK => ?_)
          have HK := Lib.hid hK
          clear hK
          go_simp
          refine HK.out _ _ ⟨_, _, _, _, _, _, _, _, _, _, _, _, _, _, rfl, (hb.alloc hb.size _), fun h => F.out.1 (lst_old (by decide) h), fun h => F.out.2.1 (lst_old (by decide) h), fun h => F.out.2.2.1 (lst_old (by decide) h), fun h => F.out.2.2.2.1 (lst_old (by decide) h), fun h => F.out.2.2.2.2.1 (lst_old (by decide) h), fun h => F.out.2.2.2.2.2.1 (lst_old (by decide) h), fun h => F.out.2.2.2.2.2.2.1 (lst_old (by decide) h), fun h => F.out.2.2.2.2.2.2.2.1 (lst_old (by decide) h), fun h => F.out.2.2.2.2.2.2.2.2.1 (lst_old (by decide) h), fun h => F.out.2.2.2.2.2.2.2.2.2.1 (lst_old (by decide) h), fun h => F.out.2.2.2.2.2.2.2.2.2.2.1 (lst_old (by decide) h), fun _ => new_int W _ _, fun h => NdO.below (F.out.2.2.2.2.2.2.2.2.2.2.2.2.1 (lst_old (by decide) h)) ((Below.refl _ W).alloc (Nat.le_refl _) _), fun h => (let ⟨g, e1, e2, e3⟩ := F.out.2.2.2.2.2.2.2.2.2.2.2.2.2 (lst_old (by decide) h); ⟨g, e1, e2, e3.below ((Below.refl _ W).alloc (Nat.le_refl _) _)⟩)⟩
        · clear him
          have p0 := F.out.1 (ready_needs hi (by kernel_rfl))
          have p1 := F.out.2.1 (ready_needs hi (by kernel_rfl))
          have p5 := F.out.2.2.2.2.2.1 (ready_needs hi (by kernel_rfl))
          have p11 := F.out.2.2.2.2.2.2.2.2.2.2.2.1 (ready_needs hi (by kernel_rfl))
          subst p0
          subst p1
          subst p5
          have P11 := Lib.hid p11
          clear p11
          have HI := Lib.hid hi
          clear hi
          refine wpOp_step (o := _) rfl (fun K' hK => ?_)
          have HK := Lib.hid hK
          clear hK
          go_simp
          refine (HSB.out W _ (HMV.out.below hb) P11.out).mono ?_
          rintro r W2 ⟨x, rfl, hown, hb2⟩
          refine HK.out _ _ ⟨_, _, _, _, _, _, _, _, _, _, _, _, _, _, rfl, (hb.trans (hb2.mono hb.size)), fun h => F.out.1 (lst_old (by decide) h), fun h => F.out.2.1 (lst_old (by decide) h), fun h => F.out.2.2.1 (lst_old (by decide) h), fun h => F.out.2.2.2.1 (lst_old (by decide) h), fun h => F.out.2.2.2.2.1 (lst_old (by decide) h), fun h => F.out.2.2.2.2.2.1 (lst_old (by decide) h), fun h => F.out.2.2.2.2.2.2.1 (lst_old (by decide) h), fun h => F.out.2.2.2.2.2.2.2.1 (lst_old (by decide) h), fun h => F.out.2.2.2.2.2.2.2.2.1 (lst_old (by decide) h), fun h => F.out.2.2.2.2.2.2.2.2.2.1 (lst_old (by decide) h), fun h => F.out.2.2.2.2.2.2.2.2.2.2.1 (lst_old (by decide) h), fun h => Ints.below (F.out.2.2.2.2.2.2.2.2.2.2.2.1 (lst_old (by decide) h)) hb2, fun _ => NdO.mono hown hb.size, fun h => (let ⟨g, e1, e2, e3⟩ := F.out.2.2.2.2.2.2.2.2.2.2.2.2.2 (lst_old (by decide) h); ⟨g, e1, e2, e3.below hb2⟩)⟩
        · clear him
          have HI := Lib.hid hi
          clear hi
          refine wpOp_step (o := _) rfl (fun K' hK => ?_)
          have HK := Lib.hid hK
          clear hK
          go_simp
          refine HK.out _ _ ⟨_, _, _, _, _, _, _, _, _, _, _, _, _, _, rfl, (hb.alloc hb.size _), fun h => F.out.1 (lst_old (by decide) h), fun h => F.out.2.1 (lst_old (by decide) h), fun h => F.out.2.2.1 (lst_old (by decide) h), fun h => F.out.2.2.2.1 (lst_old (by decide) h), fun h => F.out.2.2.2.2.1 (lst_old (by decide) h), fun h => F.out.2.2.2.2.2.1 (lst_old (by decide) h), fun h => F.out.2.2.2.2.2.2.1 (lst_old (by decide) h), fun h => F.out.2.2.2.2.2.2.2.1 (lst_old (by decide) h), fun h => F.out.2.2.2.2.2.2.2.2.1 (lst_old (by decide) h), fun h => F.out.2.2.2.2.2.2.2.2.2.1 (lst_old (by decide) h), fun h => F.out.2.2.2.2.2.2.2.2.2.2.1 (lst_old (by decide) h), fun h => Ints.below (F.out.2.2.2.2.2.2.2.2.2.2.2.1 (lst_old (by decide) h)) ((Below.refl _ W).alloc (Nat.le_refl _) _), fun h => NdO.below (F.out.2.2.2.2.2.2.2.2.2.2.2.2.1 (lst_old (by decide) h)) ((Below.refl _ W).alloc (Nat.le_refl _) _), fun _ => ⟨W.heap.size, rfl, hb.size, Zb.new W _ _ _ _ _⟩⟩
      case fin =>
        intro f a W hI
        obtain ⟨v15, v129, v130, v131, v132, v133, v134, v135, v136, v137, v138, v139, v140, v141, rfl, hb, hf⟩ := hI
        have p0 := hf.1 rfl
        have p1 := hf.2.1 rfl
        have p2 := hf.2.2.1 rfl
        have p3 := hf.2.2.2.1 rfl
        have p4 := hf.2.2.2.2.1 rfl
        have p5 := hf.2.2.2.2.2.1 rfl
        have p6 := hf.2.2.2.2.2.2.1 rfl
        have p7 := hf.2.2.2.2.2.2.2.1 rfl
        have p8 := hf.2.2.2.2.2.2.2.2.1 rfl
        have p9 := hf.2.2.2.2.2.2.2.2.2.1 rfl
        have p10 := hf.2.2.2.2.2.2.2.2.2.2.1 rfl
        have p11 := hf.2.2.2.2.2.2.2.2.2.2.2.1 rfl
        have p12 := hf.2.2.2.2.2.2.2.2.2.2.2.2.1 rfl
        have p13 := hf.2.2.2.2.2.2.2.2.2.2.2.2.2 rfl
        clear hf
        subst p0
        subst p1
        subst p2
        subst p3
        subst p4
        subst p5
        subst p6
        subst p7
        subst p8
        subst p9
        subst p10
        clear p11
        obtain ⟨f0, fc, g0, gc, h0, hc, r12, o1, o2, o3⟩ := p12
        dsimp only at r12 o1 o2 o3
        subst r12
        have O1 := Lib.hid o1; have O2 := Lib.hid o2; have O3 := Lib.hid o3
        clear o1 o2 o3
        obtain ⟨g, r13, hg, hzb⟩ := p13
        subst r13
        refine wpAny_all (rs := [14]) (by kernel_rfl) (by simp) ?_
        intro i' hi'
        obtain rfl := List.mem_singleton.1 hi'
        rw [HKN.out] at O2 ⊢
        rw [HSN.out] at O3 ⊢
        have HZG := Lib.hid hzb
        obtain ⟨z0a, z0b, z0c, z0d, hz0⟩ := hzb
        have c00 : World.cell? (W) ⟨g, 0, none⟩ = some z0a := by rw [blk_cell hz0]; rfl
        have f00 := blk_free hz0 0
        have hz00 := blk_set hz0 0 (.bool false)
        have c01 : World.cell? (World.setCell (W) ⟨g, 0, none⟩ (.bool false)) ⟨g, 1, none⟩ = some z0b := by rw [blk_cell hz00]; rfl
        have f01 := blk_free hz00 1
        have hz01 := blk_set hz00 1 (.slice f0 0 fc)
        have c02 : World.cell? (World.setCell (World.setCell (W) ⟨g, 0, none⟩ (.bool false)) ⟨g, 1, none⟩ (.slice f0 0 fc)) ⟨g, 2, none⟩ = some z0c := by rw [blk_cell hz01]; rfl
        have f02 := blk_free hz01 2
        have hz02 := blk_set hz01 2 (.slice g0 kn gc)
        have c03 : World.cell? (World.setCell (World.setCell (World.setCell (W) ⟨g, 0, none⟩ (.bool false)) ⟨g, 1, none⟩ (.slice f0 0 fc)) ⟨g, 2, none⟩ (.slice g0 kn gc)) ⟨g, 3, none⟩ = some z0d := by rw [blk_cell hz02]; rfl
        have f03 := blk_free hz02 3
        have hz03 := blk_set hz02 3 (.slice h0 sn hc)
        have HZ0 := Lib.hid hz03
        clear hz0 hz00 hz01 hz02 hz03
        refine wpOp_step (o := _) rfl (fun K' hK => ?_)
        have HKK := Lib.hid hK
        clear hK
        go_simp
        refine HKK.out _ _ (wpAny_done (by kernel_rfl) ?_ _)
        have hon : Only g W (World.setCell (World.setCell (World.setCell (World.setCell (W) ⟨g, 0, none⟩ (.bool false)) ⟨g, 1, none⟩ (.slice f0 0 fc)) ⟨g, 2, none⟩ (.slice g0 kn gc)) ⟨g, 3, none⟩ (.slice h0 sn hc)) := (((Only.set _ _ _).trans (Only.set _ _ _)).trans (Only.set _ _ _)).trans (Only.set _ _ _)
        obtain ⟨w6, hw6⟩ : ∃ X, World.setCell (World.setCell (World.setCell (World.setCell (W) ⟨g, 0, none⟩ (.bool false)) ⟨g, 1, none⟩ (.slice f0 0 fc)) ⟨g, 2, none⟩ (.slice g0 kn gc)) ⟨g, 3, none⟩ (.slice h0 sn hc) = X := ⟨_, rfl⟩
        rw [hw6] at HZ0 hon ⊢
        clear hw6
        have hgz : w.heap.size < w5.heap.size := lt_of_cell HX.out.1
        have hb6' : Below w5.heap.size w5 w6 := hb.trans (hon.to_below hg hb.size)
        have R1 : Ents w6 (.slice f0 0 fc) [] := Rw.own (own_other O1.out HZG.out hon (by decide))
        have R2 : Ints w6 (.slice g0 ks.length gc) ks := by
          have h1 := own_other O2.out HZG.out hon (by decide)
          rw [← HKN.out] at h1
          exact Rw.own h1
        have R3 : Txts w6 (.slice h0 ss.length hc) ss := by
          have h1 := own_other O3.out HZG.out hon (by decide)
          rw [← HSN.out] at h1
          exact Rw.own h1
        have HBV := Lib.hid (show NdV w6 (.agg #[.bool false, .slice f0 0 fc, .slice g0 kn gc, .slice h0 sn hc]) ⟨false, [], ks, ss⟩ from ⟨f0, fc, g0, gc, h0, hc, by rw [← HKN.out, ← HSN.out]; rfl, R1, R2, R3⟩)
        have HBX := Lib.hid (bx_blk HZ0.out)
        have HX2 := Lib.hid (Bx.upto HX.out hb6' hgz)
        have HV2 := Lib.hid (HV.out.below hb6')
        rw [HES.out] at HV2
        have hb6 := hb5.trans (hb6'.mono hb5.size)
        clear R1 R2 R3 hb6' hon hg
        go_upto_region 23 with (fail)
        refine wp_region_any (by kernel_rfl) ?_
        refine wpAny_upto_f 5 (fun f L a W => ∃ v142 v143 v144 v145 v146 : Value, a = { tmps := List.toArray ((f 0) :: (f 1) :: (.slice x0 xn xc) :: (f 3) :: (.pointer (some ⟨w.heap.size, 0, none⟩)) :: (f 5) :: (f 6) :: (f 7) :: (f 8) :: (.bool true) :: (f 10) :: (.int .i64 (kk : Int)) :: (.pointer (some ⟨gm, 0, none⟩)) :: (f 13) :: (f 14) :: (.pointer (some ⟨g, 0, none⟩)) :: (f 16) :: (f 17) :: (f 18) :: (f 19) :: (f 20) :: (f 21) :: (f 22) :: (f 23) :: (f 24) :: (f 25) :: (f 26) :: (f 27) :: (f 28) :: (f 29) :: (f 30) :: (f 31) :: (f 32) :: (f 33) :: (f 34) :: (f 35) :: (f 36) :: (f 37) :: (f 38) :: (f 39) :: (f 40) :: (f 41) :: (f 42) :: (f 43) :: (f 44) :: (f 45) :: (f 46) :: (f 47) :: (f 48) :: (f 49) :: (f 50) :: (f 51) :: (f 52) :: (f 53) :: (f 54) :: (f 55) :: (f 56) :: (f 57) :: (f 58) :: (f 59) :: (f 60) :: (f 61) :: (f 62) :: (f 63) :: (f 64) :: (f 65) :: (f 66) :: (f 67) :: (f 68) :: (f 69) :: (f 70) :: (f 71) :: (f 72) :: (f 73) :: (f 74) :: (f 75) :: (f 76) :: (f 77) :: (f 78) :: (f 79) :: (f 80) :: (f 81) :: (f 82) :: (f 83) :: (f 84) :: (f 85) :: (f 86) :: (f 87) :: (f 88) :: (f 89) :: (f 90) :: (f 91) :: (f 92) :: (f 93) :: (f 94) :: (f 95) :: (f 96) :: (f 97) :: (f 98) :: (f 99) :: (f 100) :: (f 101) :: (f 102) :: (f 103) :: (f 104) :: (f 105) :: (f 106) :: (f 107) :: (f 108) :: (f 109) :: (f 110) :: (f 111) :: (f 112) :: (f 113) :: (f 114) :: (f 115) :: (f 116) :: (f 117) :: (f 118) :: (f 119) :: (f 120) :: (f 121) :: (f 122) :: (f 123) :: (f 124) :: (f 125) :: (f 126) :: (f 127) :: (f 128) :: (f 129) :: (f 130) :: (f 131) :: (f 132) :: (f 133) :: (f 134) :: (f 135) :: (f 136) :: (f 137) :: (f 138) :: (f 139) :: (f 140) :: (f 141) :: v142 :: v143 :: v144 :: v145 :: v146 :: (f 147) :: (f 148) :: (f 149) :: (f 150) :: []), defers := [] } ∧ Below w6.heap.size w6 W ∧ (Lst L 0 → v142 = .agg #[.bool false, .slice f0 0 fc, .slice g0 kn gc, .slice h0 sn hc]) ∧ (Lst L 1 → NdV W v143 ⟨false, [], ks, ss⟩) ∧ (Lst L 2 → v144 = .agg #[.bool false, .slice e0 0 ec, .slice (some ⟨kb, ko, none⟩) kn kc, .slice s0 sn sc]) ∧ (Lst L 3 → NdV W v145 ⟨false, [], ks, ss⟩) ∧ (Lst L 4 → v146 = .bool true)) (by decide) (by kernel_rfl) (by kernel_rfl) ?step ?fin _ _ _ _ ?ini (by simp) (fun k _ => lst_none) (by simp)
        case ini => exact ⟨_, _, _, _, _, rfl, (Below.refl _ w6).drew, fun h => absurd h lst_none, fun h => absurd h lst_none, fun h => absurd h lst_none, fun h => absurd h lst_none, fun h => absurd h lst_none⟩
        case step =>
          intro f L a W hI i him hi
          obtain ⟨v142, v143, v144, v145, v146, rfl, hb, hf⟩ := hI
          have F := Lib.hid hf
          clear hf
          rcases (show i = 0 ∨ i = 1 ∨ i = 2 ∨ i = 3 ∨ i = 4 by omega) with rfl | rfl | rfl | rfl | rfl
          · clear him
            obtain ⟨b0, b1, b2, b3⟩ := HBX.out.below hb
            have HI := Lib.hid hi
            clear hi
            refine wpOp_step (o := _) rfl (fun K' hK => ?_)
            have HK := Lib.hid hK
            clear hK
            go_simp
            refine HK.out _ _ ⟨_, _, _, _, _, rfl, hb, fun _ => rfl, fun h => F.out.2.1 (lst_old (by decide) h), fun h => F.out.2.2.1 (lst_old (by decide) h), fun h => F.out.2.2.2.1 (lst_old (by decide) h), fun h => F.out.2.2.2.2 (lst_old (by decide) h)⟩
          · clear him
            have p0 := F.out.1 (ready_needs hi (by kernel_rfl))
            subst p0
            have HI := Lib.hid hi
            clear hi
            refine wpOp_step (o := _) rfl (fun K' hK => ?_)
            have HK := Lib.hid hK
            clear hK
            go_simp
            refine (of_any _ ⟨false, [], ks, ss⟩ W (HBV.out.below hb)).mono ?_
            rintro r W2 ⟨x, rfl, hown, hb2⟩
            refine HK.out _ _ ⟨_, _, _, _, _, rfl, (hb.trans (hb2.mono hb.size)), fun h => F.out.1 (lst_old (by decide) h), fun _ => hown, fun h => F.out.2.2.1 (lst_old (by decide) h), fun h => NdV.below (F.out.2.2.2.1 (lst_old (by decide) h)) hb2, fun h => (fun h _ => h) (F.out.2.2.2.2 (lst_old (by decide) h)) hb2⟩
          · clear him
            obtain ⟨b0, b1, b2, b3⟩ := HX2.out.below hb
            have HI := Lib.hid hi
            clear hi
            refine wpOp_step (o := _) rfl (fun K' hK => ?_)
            have HK := Lib.hid hK
            clear hK
            go_simp
            refine HK.out _ _ ⟨_, _, _, _, _, rfl, hb, fun h => F.out.1 (lst_old (by decide) h), fun h => F.out.2.1 (lst_old (by decide) h), fun _ => rfl, fun h => F.out.2.2.2.1 (lst_old (by decide) h), fun h => F.out.2.2.2.2 (lst_old (by decide) h)⟩
          · clear him
            have p2 := F.out.2.2.1 (ready_needs hi (by kernel_rfl))
            subst p2
            have HI := Lib.hid hi
            clear hi
            refine wpOp_step (o := _) rfl (fun K' hK => ?_)
            have HK := Lib.hid hK
            clear hK
            go_simp
            refine (of_any _ ⟨false, [], ks, ss⟩ W (HV2.out.below hb)).mono ?_
            rintro r W2 ⟨x, rfl, hown, hb2⟩
            refine HK.out _ _ ⟨_, _, _, _, _, rfl, (hb.trans (hb2.mono hb.size)), fun h => F.out.1 (lst_old (by decide) h), fun h => NdV.below (F.out.2.1 (lst_old (by decide) h)) hb2, fun h => F.out.2.2.1 (lst_old (by decide) h), fun _ => hown, fun h => (fun h _ => h) (F.out.2.2.2.2 (lst_old (by decide) h)) hb2⟩
          · clear him
            have p1 := F.out.2.1 (ready_needs hi (by kernel_rfl))
            have p3 := F.out.2.2.2.1 (ready_needs hi (by kernel_rfl))
            have P1 := Lib.hid p1
            clear p1
            have P3 := Lib.hid p3
            clear p3
            have HI := Lib.hid hi
            clear hi
            refine wpOp_step (o := _) rfl (fun K' hK => ?_)
            have HK := Lib.hid hK
            clear hK
            go_simp
            refine (nsame_any _ _ ⟨false, [], ks, ss⟩ ⟨false, [], ks, ss⟩ W P1.out P3.out).mono ?_
            rintro r W2 ⟨rfl, hb2⟩
            refine HK.out _ _ ⟨_, _, _, _, _, rfl, (hb.trans (hb2.mono hb.size)), fun h => F.out.1 (lst_old (by decide) h), fun h => NdV.below (F.out.2.1 (lst_old (by decide) h)) hb2, fun h => F.out.2.2.1 (lst_old (by decide) h), fun h => NdV.below (F.out.2.2.2.1 (lst_old (by decide) h)) hb2, fun _ => (by rw [decide_eq_true rfl])⟩
        case fin =>
          intro f a W hI
          obtain ⟨v142, v143, v144, v145, v146, rfl, hb, hf⟩ := hI
          have p0 := hf.1 rfl
          have p1 := hf.2.1 rfl
          have p2 := hf.2.2.1 rfl
          have p3 := hf.2.2.2.1 rfl
          have p4 := hf.2.2.2.2 rfl
          clear hf
          subst p0
          clear p1
          subst p2
          clear p3
          subst p4
          refine wpAny_all (rs := [5]) (by kernel_rfl) (by simp) ?_
          intro i2 hi2
          obtain rfl := List.mem_singleton.1 hi2
          refine wpOp_step (o := _) rfl (fun K' hK => ?_)
          have HKK := Lib.hid hK
          clear hK
          go_simp
          refine HKK.out _ _ (wpAny_done (by kernel_rfl) ?_ _)
          have hb7 := hb6.trans (hb.mono hb6.size)
          go_wp2
          go_ret
          exact ⟨rfl, hb7⟩
end Go.Proofs.Ytifdglehfhoecaa.N
