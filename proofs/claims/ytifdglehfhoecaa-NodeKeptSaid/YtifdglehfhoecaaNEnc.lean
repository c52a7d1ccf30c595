/-
  A node's body, with its kind; the document's body. Conditions: bounds that every node here keeps.
-/
import Derived.Test.YtifdglehfhoecaaNRef
import Derived.Test.YtifdglehfhoecaaLawWrites
import Derived.Test.YtifdglehfhoecaaERefEnc
import Derived.BigRegion
namespace Go.Proofs.Ytifdglehfhoecaa.N
open Go.RowKit B E
theorem szd4 : C.szd ((4 : Nat) : Int) := .inr (.inr rfl)
theorem put4 (k : Int) (hk : M.f4 k) (w : World) : Calls Try.prog 19 #[.int .i64 4, .int .i64 k] w fun r w' => r = .returned (.tuple #[.string (txt (M.p4 k)), .int .i64 0]) ∧ Below w.heap.size w w' := by
  obtain ⟨h0, h1⟩ := hk
  obtain ⟨m, rfl⟩ := Int.eq_ofNat_of_zero_le h0
  have := C.put_ok 4 m w szd4 (by omega)
  exact this
theorem refput4 (k : Int) (hk : M.f4 k) (w : World) : Calls Try.prog 20 #[.int .i64 4, .int .i64 k] w fun r w' => ∃ z, r = .returned (.tuple #[.string (txt (M.p4 k)), .bool z]) ∧ Below w.heap.size w w' := by
  obtain ⟨h0, h1⟩ := hk
  obtain ⟨m, rfl⟩ := Int.eq_ofNat_of_zero_le h0
  refine (C.refput_yes 4 m w szd4 (by omega)).mono ?_
  rintro r w' ⟨rfl, hb⟩
  exact ⟨_, rfl, hb⟩
/-- what is told of a node's bytes -/
def EncR (n : M.Nd) (K : Int) (T : ByteArray) (e : Int) : Prop := (¬ M.NOk n ∧ K = 0 ∧ T = ByteArray.empty ∧ e = 1) ∨ (M.NOk n ∧ 240 < M.nsz n ∧ K = 0 ∧ T = ByteArray.empty ∧ e = 50) ∨ (M.NOk n ∧ M.nsz n ≤ 240 ∧ K = M.kindN n ∧ T = txt (M.bodyN n) ∧ e = 0)
def NEnc (n : M.Nd) (w : World) (r : Ending) (w' : World) : Prop := ∃ K T e, r = .returned (.tuple #[.int .u8 K, .string T, .int .i64 e]) ∧ EncR n K T e ∧ Below w.heap.size w w'
/-- the first so many bytes of a body -/
def pre (kk : Int) (ss : List ByteArray) (kt : List Int) (i : Nat) : List UInt8 := M.p4 kk ++ M.encP ((ss.zip kt).take i)
theorem pre_snoc (kk : Int) (ss : List ByteArray) (kt : List Int) (i : Nat) (h1 : i < ss.length) (h2 : i < kt.length) : txt (pre kk ss kt (i + 1)) = txt (pre kk ss kt i) ++ (C.tb ss[i] ++ txt (M.p4 kt[i])) := by
  have hz : i < (ss.zip kt).length := by rw [List.length_zip]; omega
  unfold pre
  rw [List.take_succ_eq_append_getElem hz, M.encP_append, List.getElem_zip, C.tb, txt_append, txt_append]
  congr 1
  simp [M.encP, M.tbl]
theorem pre_len (kk : Int) (ss : List ByteArray) (kt : List Int) (h : ∀ s ∈ ss, s.size ≤ 16) : ∀ i, i ≤ ss.length → i ≤ kt.length → (txt (pre kk ss kt i)).size ≤ 4 + i * 300 := by
  intro i
  induction i with
  | zero => intro _ _; rw [txt_size]; simp [pre, M.encP, M.p4_len]
  | succ i ih =>
    intro h1 h2
    have := ih (by omega) (by omega)
    have h3 := h ss[i] (List.getElem_mem (by omega))
    rw [pre_snoc kk ss kt i (by omega) (by omega), ByteArray.size_append, ByteArray.size_append, C.tb_size, txt_size (M.p4 _), M.p4_len]
    omega
theorem pre_all {es : List Ent} {ks : List Int} {ss : List ByteArray} {kk : Int} {kt : List Int} (hk : ks = kk :: kt) (hl : ss.length = kt.length) : pre kk ss kt ss.length = M.bodyN ⟨false, es, ks, ss⟩ := by
  subst hk
  unfold pre M.bodyN
  rw [List.take_of_length_le (by rw [List.length_zip]; omega)]
  rfl
theorem inner_parts {es : List Ent} {ks : List Int} {ss : List ByteArray} (h : M.NOk ⟨false, es, ks, ss⟩) : ∃ kk kt, ks = kk :: kt ∧ ss.length = kt.length ∧ M.f4 kk ∧ (∀ k ∈ kt, M.f4 k) ∧ ∀ s ∈ ss, s.size ≤ 16 := by
  obtain ⟨h1, h2, h3, h4⟩ := nok_inner.1 h
  have hf : ∀ k, M.okk k → M.f4 k := fun k h => by unfold M.okk at h; unfold M.f4; omega
  rcases ks with _ | ⟨kk, kt⟩
  · simp at h2
  · exact ⟨kk, kt, rfl, by simpa using h2, hf _ (h3 kk (by simp)), fun k hk => hf _ (h3 k (by simp [hk])), fun s hs => (M.oks_mem h4 s hs).2⟩
set_option maxRecDepth 100000 in
set_option maxHeartbeats 4000000 in
theorem nencode_any (v : Value) (n : M.Nd) (w : World) (hv : NdV w v n) (hbd : Bd n) : Calls Try.prog 65 #[v] w (NEnc n w) := by
  have HBD := Lib.hid hbd
  have HV := Lib.hid hv
  obtain ⟨d1, d2, d3, d4, d5⟩ := hbd
  obtain ⟨l, es, ks, ss⟩ := n
  obtain ⟨e0, ec, k0, kc, s0, sc, rfl, he, hk, hs⟩ := hv
  dsimp only at he hk hs d1 d2 d3 d4 d5 HV HBD ⊢
  have HE := Lib.hid he; have HK := Lib.hid hk; have HS := Lib.hid hs
  clear he hk hs
  go_enter Try.func65, Try.ntmps65
  go_upto_region 1 with (fail)
  obtain ⟨w1, hw1⟩ : ∃ W, w.alloc (.cells #[.bool l, .slice e0 es.length ec, .slice k0 ks.length kc, .slice s0 ss.length sc] 69) = W := ⟨_, rfl⟩
  have hx : Bx w1 w.heap.size l (.slice e0 es.length ec) (.slice k0 ks.length kc) (.slice s0 ss.length sc) := by rw [← hw1]; exact Bx.new _ _ _ _ _ _
  have hb1 : Below w.heap.size w w1 := by rw [← hw1]; exact (Below.refl _ w).alloc (Nat.le_refl _) _
  rw [hw1]
  clear hw1
  obtain ⟨x0, x1, x2, x3⟩ := hx
  have HRT := Lib.hid (nright_any _ _ w1 (HV.out.below hb1) HBD.out)
  by_cases ho : M.NOk ⟨l, es, ks, ss⟩
  case neg =>
    rw [decide_eq_false ho] at HRT
    have HR := Lib.hid (show EncR ⟨l, es, ks, ss⟩ 0 ByteArray.empty 1 from .inl ⟨ho, rfl, rfl, rfl⟩)
    clear ho
    go_wp2_with fail
    refine HRT.out.mono ?_
    rintro r w2 ⟨rfl, hb2⟩
    have hb2 := hb1.trans (hb2.mono hb1.size)
    clear x0 x1 x2 x3
    go_wp2
    go_ret3
    exact ⟨0, ByteArray.empty, 1, rfl, HR.out, hb2⟩
  rw [decide_eq_true ho] at HRT
  have HO := Lib.hid ho
  clear ho
  go_wp2_with fail
  refine HRT.out.mono ?_
  rintro r w2 ⟨rfl, hb2⟩
  have x0 := bcell hb2 x0; have x1 := bcell hb2 x1; have x2 := bcell hb2 x2; have x3 := bcell hb2 x3
  have hb2 := hb1.trans (hb2.mono hb1.size)
  clear hb1 HRT
  have HFT := Lib.hid (fits_any _ _ w2 (HV.out.below hb2) HBD.out)
  by_cases hf : M.nsz ⟨l, es, ks, ss⟩ ≤ 240
  case neg =>
    rw [decide_eq_false (show ¬ fitsN _ from fun h => hf h.2)] at HFT
    have HR := Lib.hid (show EncR ⟨l, es, ks, ss⟩ 0 ByteArray.empty 50 from .inr (.inl ⟨HO.out, by omega, rfl, rfl, rfl⟩))
    clear hf
    go_wp2_with fail
    refine HFT.out.mono ?_
    rintro r w3 ⟨rfl, hb3⟩
    have hb3 := hb2.trans (hb3.mono hb2.size)
    clear x0 x1 x2 x3
    go_wp2
    go_ret3
    exact ⟨0, ByteArray.empty, 50, rfl, HR.out, hb3⟩
  rw [decide_eq_true (show fitsN _ from ⟨HO.out, hf⟩)] at HFT
  have HR := Lib.hid (show ∀ T, T = txt (M.bodyN ⟨l, es, ks, ss⟩) → EncR ⟨l, es, ks, ss⟩ (M.kindN ⟨l, es, ks, ss⟩) T 0 from fun T h => .inr (.inr ⟨HO.out, hf, rfl, h, rfl⟩))
  clear hf
  go_wp2_with fail
  refine HFT.out.mono ?_
  rintro r w3 ⟨rfl, hb3⟩
  have x0 := bcell hb3 x0; have x1 := bcell hb3 x1; have x2 := bcell hb3 x2; have x3 := bcell hb3 x3
  have hb3 := hb2.trans (hb3.mono hb2.size)
  clear hb2 HFT
  rcases l with _ | _
  case true =>
    have hoe := (nok_leaf.1 HO.out).1
    have HTX := Lib.hid (show encl es = txt (M.enc es) by unfold encl; rw [if_pos hoe])
    have HOE := Lib.hid hoe
    clear hoe
    go_wp2_with fail
    refine (encode_any _ es _ (HE.out.below hb3) (by omega)).mono ?_
    rintro r w4 ⟨rfl, hb4⟩
    rw [if_pos HOE.out, HTX.out]
    have hb4 := hb3.trans (hb4.mono hb3.size)
    clear x0 x1 x2 x3
    go_wp2
    go_ret3
    exact ⟨1, _, 0, rfl, HR.out _ rfl, hb4⟩
  obtain ⟨kk, kt, hks, hlen, hkk, hkt, hsz⟩ := inner_parts HO.out
  have HKS := Lib.hid hks; have HLEN := Lib.hid hlen; have HKT := Lib.hid hkt; have HSZ := Lib.hid hsz
  have hk1 : ks.length = ss.length + 1 := by rw [hks, hlen]; rfl
  have HK1 := Lib.hid hk1
  have hk2 : (0 : Int) < (ks.length : Int) := by omega
  have hk3 : 0 < ks.length := by omega
  clear hks hlen hkt hsz
  have HCK := Lib.hid (HK.out.below hb3).at.2.2.2
  have HCS := Lib.hid (HS.out.below hb3).at.2.2.2
  obtain ⟨b, o, rfl, c0⟩ := HCK.out 0 hk3
  have hk00 : ks[0] = kk := by simp only [HKS.out]; rfl
  rw [hk00, Nat.add_zero] at c0
  clear hk00 hk1
  go_wp2_with fail
  refine (put4 kk hkk _).mono ?_
  rintro r w4 ⟨rfl, hb4⟩
  have x0 := bcell hb4 x0; have x1 := bcell hb4 x1; have x2 := bcell hb4 x2; have x3 := bcell hb4 x3
  have HCK := Lib.hid (HK.out.below (hb3.trans (hb4.mono hb3.size))).at.2.2.2
  have HCS := Lib.hid (HS.out.below (hb3.trans (hb4.mono hb3.size))).at.2.2.2
  have hb4 := hb3.trans (hb4.mono hb3.size)
  clear hb3 c0 hkk
  go_wp2
  go_loopw [7, 45] (fun t i wr => ∃ k : Nat, k ≤ ss.length ∧ i = .int .i64 k ∧ t = .string (txt (pre kk ss kt k)) ∧ Below w4.heap.size w4 wr) (fun _ i _ => ss.length - (intOf i).toNat)
  case atStart => exact ⟨0, Nat.zero_le _, rfl, by simp [pre, M.encP], Below.refl _ _⟩
  case round =>
    obtain ⟨k, hkl, rfl, rfl, hbr⟩ := hrel
    have x2 := bcell hbr x2
    have hbW := hb4.trans (hbr.mono hb4.size)
    by_cases hlt : k < ss.length
    · obtain ⟨b1, o1, rfl, c1⟩ := HCS.out k hlt
      have c1 := bcell hbr c1
      have hkk1 : k + 1 < ks.length := by rw [HK1.out]; omega
      have hkt1 : k < kt.length := by rw [← HLEN.out]; exact hlt
      obtain ⟨b2, o2, e2, c2⟩ := HCK.out (k + 1) hkk1
      obtain ⟨rfl, rfl⟩ : b = b2 ∧ o = o2 := by injection e2 with e2; injection e2 with a1 a2 a3; exact ⟨a1, a2⟩
      have c2 := bcell hbr c2
      have hkx : ks[k + 1] = kt[k] := by simp only [HKS.out]; rfl
      have hf4 := HKT.out kt[k] (List.getElem_mem hkt1)
      have hs16 := HSZ.out ss[k] (List.getElem_mem hlt)
      have hp2 := pre_len kk ss kt HSZ.out k hkl (by omega)
      have HSN := Lib.hid (pre_snoc kk ss kt k hlt hkt1)
      rw [hkx] at c2
      obtain ⟨q, hq⟩ : ∃ x, kt[k] = x := ⟨_, rfl⟩
      obtain ⟨s, hs⟩ : ∃ x, ss[k] = x := ⟨_, rfl⟩
      obtain ⟨p, hp⟩ : ∃ x, txt (pre kk ss kt k) = x := ⟨_, rfl⟩
      rw [hq] at c2 hf4 HSN
      rw [hs] at c1 hs16 HSN
      rw [hp] at hp2 HSN ⊢
      have t1 : (C.tb s).size ≤ 17 := by rw [C.tb_size]; omega
      have t2 : (txt (M.p4 q)).size = 4 := by rw [txt_size, M.p4_len]
      have hp3 : p.size ≤ 4000000 := by omega
      have hkc : (k : Int) + 1 < (ks.length : Int) := by omega
      clear hp2 hkx hq hs hp e2
      go_wp2_with fail
      refine (C.text_ok s _ (by omega)).mono ?_
      rintro r w5 ⟨rfl, hb5⟩
      have x2 := bcell hb5 x2; have c2 := bcell hb5 c2
      have hb5 := hbr.trans (hb5.mono hbr.size)
      clear c1 hbr
      go_wp2_with fail
      refine (put4 q hf4 _).mono ?_
      rintro r w6 ⟨rfl, hb6⟩
      have hb6 := hb5.trans (hb6.mono hb5.size)
      clear c2 hb5 x2 hf4
      go_wp2
      go_roundw
      case rel => exact ⟨k + 1, by omega, by go_num, by rw [HSN.out], hb6⟩
      case measure => simp [intOf]; omega
    · have HKL := Lib.hid (show k = ss.length by omega)
      have HPA := Lib.hid (pre_all (es := es) HKS.out HLEN.out)
      go_wp2
      go_ret3
      exact ⟨2, _, 0, rfl, HR.out _ (by rw [← HPA.out, HKL.out]), hbW⟩
set_option maxRecDepth 100000 in
set_option maxHeartbeats 4000000 in
theorem body_any (v : Value) (n : M.Nd) (w : World) (hv : NdV w v n) (hbd : Bd n) (ho : M.NOk n) : Calls Try.prog 66 #[v] w fun r w' => r = .returned (.string (txt (M.bodyN n))) ∧ Below w.heap.size w w' := by
  obtain ⟨d1, d2, d3, d4, d5⟩ := hbd
  obtain ⟨l, es, ks, ss⟩ := n
  obtain ⟨e0, ec, k0, kc, s0, sc, rfl, he, hk, hs⟩ := hv
  dsimp only at he hk hs d1 d2 d3 d4 d5 ⊢
  have HE := Lib.hid he; have HK := Lib.hid hk; have HS := Lib.hid hs
  clear he hk hs
  have HO := Lib.hid ho
  clear ho
  rcases l with _ | _
  case true =>
    have hoe := (nok_leaf.1 HO.out).1
    go_enter Try.func66, Try.ntmps66
    go_upto_region 1 with (fail)
    obtain ⟨w1, hw1⟩ : ∃ W, w.alloc (.cells #[.bool true, .slice e0 es.length ec, .slice k0 ks.length kc, .slice s0 ss.length sc] 73) = W := ⟨_, rfl⟩
    have hx : Bx w1 w.heap.size true (.slice e0 es.length ec) (.slice k0 ks.length kc) (.slice s0 ss.length sc) := by rw [← hw1]; exact Bx.new _ _ _ _ _ _
    have hb1 : Below w.heap.size w w1 := by rw [← hw1]; exact (Below.refl _ w).alloc (Nat.le_refl _) _
    rw [hw1]
    clear hw1
    obtain ⟨x0, x1, x2, x3⟩ := hx
    have HRE := Lib.hid (rencode_any _ es w1 (HE.out.below hb1) (by omega) hoe)
    clear hoe
    go_wp2_with fail
    refine HRE.out.mono ?_
    rintro r w2 ⟨rfl, hb2⟩
    have hb2 := hb1.trans (hb2.mono hb1.size)
    clear x0 x1 x2 x3
    go_wp2
    go_ret
    exact ⟨rfl, hb2⟩
  obtain ⟨kk, kt, hks, hlen, hkk, hkt, hsz⟩ := inner_parts HO.out
  have HKS := Lib.hid hks; have HLEN := Lib.hid hlen; have HKT := Lib.hid hkt; have HSZ := Lib.hid hsz
  have hk1 : ks.length = ss.length + 1 := by rw [hks, hlen]; rfl
  have HK1 := Lib.hid hk1
  have hk2 : (0 : Int) < (ks.length : Int) := by omega
  have hk3 : 0 < ks.length := by omega
  clear hks hlen hkt hsz hk1
  go_enter Try.func66, Try.ntmps66
  go_upto_region 1 with (fail)
  obtain ⟨w1, hw1⟩ : ∃ W, w.alloc (.cells #[.bool false, .slice e0 es.length ec, .slice k0 ks.length kc, .slice s0 ss.length sc] 73) = W := ⟨_, rfl⟩
  have hx : Bx w1 w.heap.size false (.slice e0 es.length ec) (.slice k0 ks.length kc) (.slice s0 ss.length sc) := by rw [← hw1]; exact Bx.new _ _ _ _ _ _
  have hb1 : Below w.heap.size w w1 := by rw [← hw1]; exact (Below.refl _ w).alloc (Nat.le_refl _) _
  rw [hw1]
  clear hw1
  obtain ⟨x0, x1, x2, x3⟩ := hx
  have HCK := Lib.hid (HK.out.below hb1).at.2.2.2
  obtain ⟨b, o, rfl, c0⟩ := HCK.out 0 hk3
  have hk00 : ks[0] = kk := by simp only [HKS.out]; rfl
  rw [hk00, Nat.add_zero] at c0
  clear hk00
  go_wp2_with fail
  refine (refput4 kk hkk _).mono ?_
  rintro r w4 ⟨z, rfl, hb4⟩
  have x0 := bcell hb4 x0; have x1 := bcell hb4 x1; have x2 := bcell hb4 x2; have x3 := bcell hb4 x3
  have HCK := Lib.hid (HK.out.below (hb1.trans (hb4.mono hb1.size))).at.2.2.2
  have HCS := Lib.hid (HS.out.below (hb1.trans (hb4.mono hb1.size))).at.2.2.2
  have hb4 := hb1.trans (hb4.mono hb1.size)
  clear hb1 c0 hkk
  go_wp2
  go_loopw [3, 5] (fun t i wr => ∃ k : Nat, k ≤ ss.length ∧ i = .int .i64 k ∧ t = .string (txt (pre kk ss kt k)) ∧ Below w4.heap.size w4 wr) (fun _ i _ => ss.length - (intOf i).toNat)
  case atStart => exact ⟨0, Nat.zero_le _, rfl, by simp [pre, M.encP], Below.refl _ _⟩
  case round =>
    obtain ⟨k, hkl, rfl, rfl, hbr⟩ := hrel
    have x2 := bcell hbr x2; have x3 := bcell hbr x3
    have hbW := hb4.trans (hbr.mono hb4.size)
    by_cases hlt : k < ss.length
    · obtain ⟨b1, o1, rfl, c1⟩ := HCS.out k hlt
      have c1 := bcell hbr c1
      have hkk1 : k + 1 < ks.length := by rw [HK1.out]; omega
      have hkt1 : k < kt.length := by rw [← HLEN.out]; exact hlt
      obtain ⟨b2, o2, e2, c2⟩ := HCK.out (k + 1) hkk1
      obtain ⟨rfl, rfl⟩ : b = b2 ∧ o = o2 := by injection e2 with e2; injection e2 with a1 a2 a3; exact ⟨a1, a2⟩
      have c2 := bcell hbr c2
      have hkx : ks[k + 1] = kt[k] := by simp only [HKS.out]; rfl
      have hf4 := HKT.out kt[k] (List.getElem_mem hkt1)
      have hs16 := HSZ.out ss[k] (List.getElem_mem hlt)
      have hp2 := pre_len kk ss kt HSZ.out k hkl (by omega)
      have hsn := pre_snoc kk ss kt k hlt hkt1
      rw [hkx] at c2
      obtain ⟨q, hq⟩ : ∃ x, kt[k] = x := ⟨_, rfl⟩
      obtain ⟨s, hs⟩ : ∃ x, ss[k] = x := ⟨_, rfl⟩
      obtain ⟨p, hp⟩ : ∃ x, txt (pre kk ss kt k) = x := ⟨_, rfl⟩
      rw [hq] at c2 hf4 hsn
      rw [hs] at c1 hs16 hsn
      rw [hp] at hp2 hsn ⊢
      have t2 : (txt (M.p4 q)).size = 4 := by rw [txt_size, M.p4_len]
      have hp3 : p.size ≤ 4000000 := by omega
      have hkc : (k : Int) + 1 < (ks.length : Int) := by omega
      have hkz : (0 : Int) ≤ (k : Int) := Int.natCast_nonneg _
      have hks : (k : Int) < (ss.length : Int) := by omega
      clear hp2 hkx hq hs hp e2
      go_wp2_with fail
      refine (refput4 q hf4 _).mono ?_
      rintro r w5 ⟨z5, rfl, hb5⟩
      have x3 := bcell hb5 x3; have c1 := bcell hb5 c1
      have hb5 := hbr.trans (hb5.mono hbr.size)
      obtain ⟨y, hy⟩ : ∃ x, txt (M.p4 q) = x := ⟨_, rfl⟩
      rw [hy] at t2 hsn ⊢
      obtain ⟨c, hc⟩ : ∃ c, UInt8.ofNat s.size = c := ⟨_, rfl⟩
      have hcz : (s.size : Int) = (c.toNat : Int) := by rw [← hc, UInt8.toNat_ofNat']; omega
      have htc1 : (txt [c]).size ≤ 1 := by rw [txt_size]; simp
      have hT : p ++ txt [c] ++ s ++ y = txt (pre kk ss kt (k + 1)) := by
        rw [hsn]
        apply bts_inj
        simp only [bts_append, bts_txt, C.tb, hc, List.append_assoc, List.cons_append, List.nil_append]
      obtain ⟨tc, htc⟩ : ∃ z, txt [c] = z := ⟨_, rfl⟩
      rw [htc] at htc1 hT
      have HT := Lib.hid hT
      have hbA : Below w5.heap.size w5 (w5.alloc (.cells #[.int .u8 (s.size : Int)] 5)) := (Below.refl _ w5).alloc (Nat.le_refl _) _
      have f1 : (convert 30 9 (.slice (some ⟨w5.heap.size, 0, none⟩) 1 1)).run Try.prog (w5.alloc (.cells #[.int .u8 (s.size : Int)] 5)).drew = .ok (.string tc) (w5.alloc (.cells #[.int .u8 (s.size : Int)] 5)).drew := by rw [← htc]; exact conv_cell _ c (by rw [← hcz]; exact (World.cell?_alloc_mark w5 _ _ _ 0).trans rfl)
      have q1 : IntKind.u8.wrap (s.size : Int) = (s.size : Int) := by rw [IntKind.wrap_u8]; omega
      have z1 : ¬ 9223372036854775807 < p.size + tc.size := by omega
      have z2 : ¬ 9223372036854775807 < p.size + tc.size + s.size := by omega
      have z3 : ¬ 9223372036854775807 < p.size + tc.size + s.size + y.size := by omega
      have xA := bcell hbA x3; have cA := bcell hbA c1
      have hbR := hb5.alloc hb5.size (.cells #[.int .u8 (s.size : Int)] 5)
      have HBR := Lib.hid hbR.drew
      clear hbA hbR hsn hT hc hcz htc hbr c2 hf4 hy
      go_upto_region 8 with (fail)
      go_region
      all_goals (
        go_wp2
        go_roundw
        case rel => exact ⟨k + 1, by omega, by go_num, by rw [HT.out], HBR.out⟩
        case measure => simp [intOf]; omega)
    · have HKL := Lib.hid (show k = ss.length by omega)
      have HPA := Lib.hid (pre_all (es := es) HKS.out HLEN.out)
      go_wp2
      go_ret
      exact ⟨by rw [← HPA.out, HKL.out]; rfl, hbW⟩
end Go.Proofs.Ytifdglehfhoecaa.N
