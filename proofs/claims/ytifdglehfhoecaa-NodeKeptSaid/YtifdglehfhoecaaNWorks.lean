/-
  The document's examples of nodes. Conditions: none.
-/
import Derived.Test.YtifdglehfhoecaaNSplitB
import Derived.Test.YtifdglehfhoecaaNChild
import Derived.Test.YtifdglehfhoecaaNEnc
namespace Go.Proofs.Ytifdglehfhoecaa.N
open Go.RowKit B E
def kM : ByteArray := ⟨#[109]⟩
def kCc : ByteArray := ⟨#[99]⟩
def nW : M.Nd := ⟨false, [], [5, 9], [kM]⟩
def mW : M.Nd := ⟨false, [], [6, 7, 9], [kCc, kM]⟩
theorem okW : M.NOk nW := by decide +kernel
theorem okM : M.NOk mW := by decide +kernel
theorem szW : M.nsz nW = 10 := by decide +kernel
theorem bodyW : txt (M.bodyN nW) = ⟨#[0, 0, 0, 5, 1, 109, 0, 0, 0, 9]⟩ := by decide +kernel
theorem fitW : fitsN nW := ⟨okW, by rw [szW]; decide⟩
theorem ltA : M.klt ⟨#[97]⟩ kM := by decide +kernel
theorem nltM : ¬ M.klt ⟨#[109]⟩ kM := by decide +kernel
theorem upA : Up [kM] ⟨#[97]⟩ 0 := ⟨Nat.zero_le _, fun t h hh => by omega, fun t h _ => by
  obtain rfl : t = 0 := by simp at h; omega
  exact ltA⟩
theorem upM : Up [kM] ⟨#[109]⟩ 1 := ⟨Nat.le_refl _, fun t h _ => by
  obtain rfl : t = 0 := by simp at h; omega
  exact nltM, fun t h hh => by simp at h; omega⟩
theorem bdW : Bd nW := ⟨by decide, by decide, by decide, by decide +kernel, by decide +kernel⟩
theorem bdM : Bd mW := ⟨by decide, by decide, by decide, by decide +kernel, by decide +kernel⟩
theorem enc_w (v : Value) (w : World) (hv : NdV w v nW) : Calls Try.prog 65 #[v] w fun r w' => r = .returned (.tuple #[.int .u8 2, .string ⟨#[0, 0, 0, 5, 1, 109, 0, 0, 0, 9]⟩, .int .i64 0]) ∧ Below w.heap.size w w' := by
  refine (nencode_any v nW w hv bdW).mono ?_
  rintro r w' ⟨K, T, e, rfl, h, hb⟩
  rcases h with ⟨h, _⟩ | ⟨_, h, _⟩ | ⟨_, _, rfl, rfl, rfl⟩
  · exact absurd okW h
  · rw [szW] at h; omega
  · rw [bodyW]; exact ⟨rfl, hb⟩
theorem childA (v : Value) (w : World) (hv : NdV w v nW) : Calls Try.prog 60 #[v, .string ⟨#[97]⟩] w fun r w' => r = .returned (.int .i64 0) ∧ Below w.heap.size w w' := by
  refine (child_any v nW _ w hv ((okW.2 rfl).2.2.2) (by decide)).mono ?_
  rintro r w' ⟨i, rfl, h, hb⟩
  obtain rfl := up_unique h upA
  exact ⟨rfl, hb⟩
theorem childM (v : Value) (w : World) (hv : NdV w v nW) : Calls Try.prog 60 #[v, .string ⟨#[109]⟩] w fun r w' => r = .returned (.int .i64 1) ∧ Below w.heap.size w w' := by
  refine (child_any v nW _ w hv ((okW.2 rfl).2.2.2) (by decide)).mono ?_
  rintro r w' ⟨i, rfl, h, hb⟩
  obtain rfl := up_unique h upM
  exact ⟨rfl, hb⟩
theorem swapW (v xv yv : Value) (w : World) (hv : NdV w v nW) (hx : Ints w xv [6, 7]) (hy : Txts w yv [kCc]) : Calls Try.prog 54 #[v, .int .i64 0, .int .i64 1, xv, yv] w (NMk mW w) :=
  swap_good v xv yv [] [5, 9] [6, 7] [kM] [kCc] 0 1 0 w hv hx hy ⟨by decide, by decide, by decide⟩ (by decide) (by decide) (by decide) rfl rfl (by decide)
theorem splitM (v : Value) (w : World) (hv : NdV w v mW) : Calls Try.prog 58 #[v] w (NSp ⟨false, [], [6], []⟩ kCc ⟨false, [], [7, 9], [kM]⟩ w) :=
  split_inner v [] [6, 7, 9] [kCc, kM] w hv bdM okM (by decide) 1 0 rfl rfl (by decide)
set_option maxRecDepth 100000 in
set_option maxHeartbeats 4000000 in
theorem nworks_any (w : World) : Calls Try.prog 51 #[] w fun r w' => r = .returned (.bool true) ∧ Below w.heap.size w w' := by
  go_enter Try.func51, Try.ntmps51
  go_upto_region 2 with (fail)
  obtain ⟨w1, hw1⟩ : ∃ W, w.alloc (.cells #[.int .i64 5, .int .i64 9] 3) = W := ⟨_, rfl⟩
  have a1 : Ints w1 (.slice (some ⟨w.heap.size, 0, none⟩) 2 2) [5, 9] := by rw [← hw1]; exact new_int2 _ _ _ _
  have z1 : w1.heap.size = w.heap.size + 1 := by rw [← hw1]; simp
  have b1 : Below w.heap.size w w1 := by rw [← hw1]; exact (Below.refl _ w).alloc (Nat.le_refl _) _
  rw [hw1]
  clear hw1
  obtain ⟨w2, hw2⟩ : ∃ W, w1.alloc (.cells #[.string kM] 9) = W := ⟨_, rfl⟩
  have a2 : Txts w2 (.slice (some ⟨w.heap.size + 1, 0, none⟩) 1 1) [kM] := by rw [← hw2, ← z1]; exact new_txt _ _ _
  have z2 : w2.heap.size = w.heap.size + 2 := by rw [← hw2]; simp [z1]
  have b2 : Below w1.heap.size w1 w2 := by rw [← hw2]; exact (Below.refl _ w1).alloc (Nat.le_refl _) _
  have hk : (⟨#[109]⟩ : ByteArray) = kM := rfl
  try rw [hk]
  rw [hw2]
  clear hw2 hk
  obtain ⟨w3, hw3⟩ : ∃ W, w2.alloc (.cells #[.bool false, .slice none 0 0, .slice (some ⟨w.heap.size, 0, none⟩) 2 2, .slice (some ⟨w.heap.size + 1, 0, none⟩) 1 1] 69) = W := ⟨_, rfl⟩
  have hx : Bx w3 w2.heap.size false (.slice none 0 0) (.slice (some ⟨w.heap.size, 0, none⟩) 2 2) (.slice (some ⟨w.heap.size + 1, 0, none⟩) 1 1) := by rw [← hw3]; exact Bx.new _ _ _ _ _ _
  have b3 : Below w2.heap.size w2 w3 := by rw [← hw3]; exact (Below.refl _ w2).alloc (Nat.le_refl _) _
  rw [hw3]
  clear hw3
  have hv : NdV w3 (.agg #[.bool false, .slice none 0 0, .slice (some ⟨w.heap.size, 0, none⟩) 2 2, .slice (some ⟨w.heap.size + 1, 0, none⟩) 1 1]) nW := ⟨none, 0, _, 2, _, 1, rfl, Rw.nil _ 2, (a1.below b2).below b3, a2.below b3⟩
  have hb3 := (b1.trans (b2.mono b1.size)).trans (b3.mono (Nat.le_trans b1.size b2.size))
  rw [z2, show w.heap.size + 2 = w.heap.size + 1 + 1 from rfl] at hx
  clear b1 b2 b3 a1 a2 z1 z2
  have HV := Lib.hid hv; have HX := Lib.hid hx
  clear hv
  obtain ⟨x0, x1, x2, x3⟩ := hx
  go_wp2_with fail
  refine (enc_w _ _ HV.out).mono ?_
  rintro r w4 ⟨rfl, hb4⟩
  have HV := Lib.hid (HV.out.below hb4); have HX := Lib.hid (HX.out.below hb4)
  have hb4 := hb3.trans (hb4.mono hb3.size)
  clear x0 x1 x2 x3 hb3
  obtain ⟨x0, x1, x2, x3⟩ := HX.out
  obtain ⟨w5, hw5⟩ : ∃ W, (w4.alloc (.cells #[.int .i64 6, .int .i64 7] 3)).alloc (.cells #[.string ⟨#[99]⟩] 9) = W := ⟨_, rfl⟩
  have b5 : Below w4.heap.size w4 w5 := by rw [← hw5]; exact ((Below.refl _ w4).alloc (Nat.le_refl _) _).alloc (by simp) _
  have a6 : Ints w5 (.slice (some ⟨w4.heap.size, 0, none⟩) 2 2) [6, 7] := by rw [← hw5]; exact (new_int2 _ _ _ _).below ((Below.refl _ _).alloc (Nat.le_refl _) _)
  have a7 : Txts w5 (.slice (some ⟨w4.heap.size + 1, 0, none⟩) 1 1) [kCc] := by
    rw [← hw5]
    have := new_txt (w4.alloc (.cells #[.int .i64 6, .int .i64 7] 3)) kCc 9
    rw [show (w4.alloc (.cells #[.int .i64 6, .int .i64 7] 3)).heap.size = w4.heap.size + 1 by simp] at this
    exact this
  have HSW := Lib.hid (swapW _ _ _ _ (HV.out.below b5) a6 a7)
  rw [← hw5] at HSW
  have HW5 := Lib.hid hw5
  clear hw5 a6 a7
  go_wp2_with fail
  refine HSW.out.mono ?_
  rintro r w7 ⟨v, rfl, ho, hb7⟩
  rw [HW5.out] at ho hb7
  have HV := Lib.hid ((HV.out.below b5).below hb7); have HX := Lib.hid ((HX.out.below b5).below hb7)
  have hb7 := (hb4.trans (b5.mono hb4.size)).trans (hb7.mono (Nat.le_trans hb4.size b5.size))
  have HM := Lib.hid ho.val
  obtain ⟨e0, ec, k0, kc, s0, sc, rfl, o1, o2, o3⟩ : ∃ e0 ec k0 kc s0 sc, v = .agg #[.bool false, .slice e0 0 ec, .slice k0 3 kc, .slice s0 2 sc] ∧ Ents w7 (.slice e0 0 ec) [] ∧ Ints w7 (.slice k0 3 kc) [6, 7, 9] ∧ Txts w7 (.slice s0 2 sc) [kCc, kM] := ho.val
  have HMI := Lib.hid o2; have HMT := Lib.hid o3
  clear x0 x1 x2 x3 o1 o2 o3 ho b5 hb4 HSW
  go_upto_region 4 with (fail)
  obtain ⟨w8, hw8⟩ : ∃ W, w7.alloc (.cells #[.bool false, .slice e0 0 ec, .slice k0 3 kc, .slice s0 2 sc] 69) = W := ⟨_, rfl⟩
  have hy : Bx w8 w7.heap.size false (.slice e0 0 ec) (.slice k0 3 kc) (.slice s0 2 sc) := by rw [← hw8]; exact Bx.new _ _ _ _ _ _
  have b8 : Below w7.heap.size w7 w8 := by rw [← hw8]; exact (Below.refl _ w7).alloc (Nat.le_refl _) _
  rw [hw8]
  clear hw8
  have HV := Lib.hid (HV.out.below b8); have HX := Lib.hid (HX.out.below b8); have HM := Lib.hid (HM.out.below b8); have HMI := Lib.hid (HMI.out.below b8); have HMT := Lib.hid (HMT.out.below b8)
  have hb8 := hb7.trans (b8.mono hb7.size)
  clear hb7 b8
  have HY := Lib.hid hy
  obtain ⟨y0, y1, y2, y3⟩ := hy
  go_wp2_with fail
  refine (splitM _ _ HM.out).mono ?_
  rintro r w9 ⟨va, vb, rfl, oa, ob, hb9⟩
  have HV := Lib.hid (HV.out.below hb9); have HX := Lib.hid (HX.out.below hb9); have HMI := Lib.hid (HMI.out.below hb9); have HMT := Lib.hid (HMT.out.below hb9); have HY := Lib.hid (HY.out.below hb9)
  have hb9 := hb8.trans (hb9.mono hb8.size)
  obtain ⟨ae, aec, ak, akc, az, azc, rfl, _, _, _⟩ : ∃ e0 ec k0 kc s0 sc, va = .agg #[.bool false, .slice e0 0 ec, .slice k0 1 kc, .slice s0 0 sc] ∧ Ents w9 (.slice e0 0 ec) [] ∧ Ints w9 (.slice k0 1 kc) [6] ∧ Txts w9 (.slice s0 0 sc) [] := oa.val
  obtain ⟨be, bec, bk, bkc, bz, bzc, rfl, _, _, _⟩ : ∃ e0 ec k0 kc s0 sc, vb = .agg #[.bool false, .slice e0 0 ec, .slice k0 2 kc, .slice s0 1 sc] ∧ Ents w9 (.slice e0 0 ec) [] ∧ Ints w9 (.slice k0 2 kc) [7, 9] ∧ Txts w9 (.slice s0 1 sc) [kM] := ob.val
  clear y0 y1 y2 y3 oa ob hb8
  go_upto_region 5 with (fail)
  obtain ⟨w10, hw10⟩ : ∃ W, (w9.alloc (.cells #[.bool false, .slice ae 0 aec, .slice ak 1 akc, .slice az 0 azc] 69)).alloc (.cells #[.bool false, .slice be 0 bec, .slice bk 2 bkc, .slice bz 1 bzc] 69) = W := ⟨_, rfl⟩
  have hp : Bx w10 w9.heap.size false (.slice ae 0 aec) (.slice ak 1 akc) (.slice az 0 azc) := by rw [← hw10]; exact (Bx.new _ _ _ _ _ _).below ((Below.refl _ _).alloc (Nat.le_refl _) _)
  have hq : Bx w10 (w9.heap.size + 1) false (.slice be 0 bec) (.slice bk 2 bkc) (.slice bz 1 bzc) := by
    rw [← hw10]
    have := Bx.new (w9.alloc (.cells #[.bool false, .slice ae 0 aec, .slice ak 1 akc, .slice az 0 azc] 69)) false (.slice be 0 bec) (.slice bk 2 bkc) (.slice bz 1 bzc) 69
    rw [show (w9.alloc (.cells #[.bool false, .slice ae 0 aec, .slice ak 1 akc, .slice az 0 azc] 69)).heap.size = w9.heap.size + 1 by simp] at this
    exact this
  have b10 : Below w9.heap.size w9 w10 := by rw [← hw10]; exact ((Below.refl _ w9).alloc (Nat.le_refl _) _).alloc (by simp) _
  rw [hw10]
  clear hw10
  have HV := Lib.hid (HV.out.below b10); have HX := Lib.hid (HX.out.below b10); have HMI := Lib.hid (HMI.out.below b10); have HMT := Lib.hid (HMT.out.below b10); have HY := Lib.hid (HY.out.below b10)
  have hb10 := hb9.trans (b10.mono hb9.size)
  clear hb9 b10
  obtain ⟨_, _, p2, p3⟩ := hp
  obtain ⟨_, _, q2, q3⟩ := hq
  obtain ⟨x0, x1, x2, x3⟩ := HX.out
  obtain ⟨y0, y1, y2, y3⟩ := HY.out
  go_wp2_with fail
  refine (childA _ _ HV.out).mono ?_
  rintro r w11 ⟨rfl, hb11⟩
  have HV := Lib.hid (HV.out.below hb11); have HX := Lib.hid (HX.out.below hb11); have HMI := Lib.hid (HMI.out.below hb11); have HMT := Lib.hid (HMT.out.below hb11); have HY := Lib.hid (HY.out.below hb11)
  have hb11 := hb10.trans (hb11.mono hb10.size)
  clear x0 x1 x2 x3 y0 y1 y2 y3 p2 p3 q2 q3 hb10
  obtain ⟨x0, x1, x2, x3⟩ := HX.out
  go_wp2_with fail
  refine (childM _ _ HV.out).mono ?_
  rintro r w12 ⟨rfl, hb12⟩
  have HV := Lib.hid (HV.out.below hb12); have HX := Lib.hid (HX.out.below hb12); have HMI := Lib.hid (HMI.out.below hb12); have HMT := Lib.hid (HMT.out.below hb12); have HY := Lib.hid (HY.out.below hb12)
  have hb12 := hb11.trans (hb12.mono hb11.size)
  clear x0 x1 x2 x3 hb11
  obtain ⟨x0, x1, x2, x3⟩ := HX.out
  obtain ⟨y0, y1, y2, y3⟩ := HY.out
  obtain ⟨b, o, rfl, c0⟩ := HMI.out.at.2.2.2 0 (by decide)
  obtain ⟨b', o', e', c1⟩ := HMI.out.at.2.2.2 1 (by decide)
  obtain ⟨rfl, rfl⟩ : b = b' ∧ o = o' := by injection e' with e'; injection e' with a1 a2 a3; exact ⟨a1, a2⟩
  obtain ⟨b', o', e', c2⟩ := HMI.out.at.2.2.2 2 (by decide)
  obtain ⟨rfl, rfl⟩ : b = b' ∧ o = o' := by injection e' with e'; injection e' with a1 a2 a3; exact ⟨a1, a2⟩
  obtain ⟨d, p, rfl, t0⟩ := HMT.out.at.2.2.2 0 (by decide)
  obtain ⟨b', o', e', t1⟩ := HMT.out.at.2.2.2 1 (by decide)
  obtain ⟨rfl, rfl⟩ : d = b' ∧ p = o' := by injection e' with e'; injection e' with a1 a2 a3; exact ⟨a1, a2⟩
  have c0 : w12.cell? ⟨b, o, none⟩ = some (.int .i64 6) := c0
  have c1 : w12.cell? ⟨b, o + 1, none⟩ = some (.int .i64 7) := c1
  have c2 : w12.cell? ⟨b, o + 2, none⟩ = some (.int .i64 9) := c2
  have t0 : w12.cell? ⟨d, p, none⟩ = some (.string ⟨#[99]⟩) := t0
  have t1 : w12.cell? ⟨d, p + 1, none⟩ = some (.string ⟨#[109]⟩) := t1
  have HNR := Lib.hid (fun W h => nright_any (.agg #[.bool false, .slice none 0 0, .slice (some ⟨w.heap.size, 0, none⟩) 2 2, .slice (some ⟨w.heap.size + 1, 0, none⟩) 1 1]) nW W h bdW)
  rw [decide_eq_true okW] at HNR
  have HNF := Lib.hid (fun W h => fits_any (.agg #[.bool false, .slice none 0 0, .slice (some ⟨w.heap.size, 0, none⟩) 2 2, .slice (some ⟨w.heap.size + 1, 0, none⟩) 1 1]) nW W h bdW)
  rw [decide_eq_true fitW] at HNF
  have HNS := Lib.hid (fun W h => nsize_any (.agg #[.bool false, .slice none 0 0, .slice (some ⟨w.heap.size, 0, none⟩) 2 2, .slice (some ⟨w.heap.size + 1, 0, none⟩) 1 1]) nW W h bdW)
  rw [szW] at HNS
  clear e'
  have hkq : kCc = ⟨#[99]⟩ := rfl
  have hkm : kM.toList = [109] := by rw [toL]; rfl
  rw [hkq]
  go_wp2_with fail
  refine (HNR.out _ HV.out).mono ?_
  rintro r w13 ⟨rfl, hb13⟩
  have HV := Lib.hid (HV.out.below hb13); have HX := Lib.hid (HX.out.below hb13)
  have hb13 := hb12.trans (hb13.mono hb12.size)
  clear x0 x1 x2 x3 y0 y1 y2 y3 c0 c1 c2 t0 t1 hb12
  obtain ⟨x0, x1, x2, x3⟩ := HX.out
  go_wp2_with fail
  refine (HNF.out _ HV.out).mono ?_
  rintro r w14 ⟨rfl, hb14⟩
  have HV := Lib.hid (HV.out.below hb14); have HX := Lib.hid (HX.out.below hb14)
  have hb14 := hb13.trans (hb14.mono hb13.size)
  clear x0 x1 x2 x3 hb13
  obtain ⟨x0, x1, x2, x3⟩ := HX.out
  go_wp2_with fail
  refine (HNS.out _ HV.out).mono ?_
  rintro r w15 ⟨rfl, hb15⟩
  have hb15 := hb14.trans (hb15.mono hb14.size)
  clear x0 x1 x2 x3 hb14
  go_wp2
  go_ret
  exact ⟨rfl, hb15⟩
end Go.Proofs.Ytifdglehfhoecaa.N
