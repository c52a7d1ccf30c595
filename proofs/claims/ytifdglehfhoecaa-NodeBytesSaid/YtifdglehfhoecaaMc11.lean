/-
  Texts of this proof, merged: NChild, NWorks, NSame, NLawBytes, Law, ELaw, NLaw, Seat. What each says stands at its head.
-/
import Derived.WalkKit
import Derived.ProofKit
import Derived.OpenShut
import Derived.SliceStrings
import Derived.Deep.Slices
import Derived.Deep.Fields
import Derived.ChangeSame
import Derived.Lib.SmallJoins
import Derived.Test.YtifdglehfhoecaaRows
import Derived.Test.YtifdglehfhoecaaMc10
/-
  The place of the kid that has a key. Conditions: keys that rise; bounds that every node here keeps.
-/
namespace Go.Proofs.Ytifdglehfhoecaa.N
open Go.RowKit B E
/-- how many keys are not above -/
def Up (ss : List ByteArray) (key : ByteArray) (i : Nat) : Prop := i ≤ ss.length ∧ (∀ t (h : t < ss.length), t < i → ¬ M.klt key ss[t]) ∧ (∀ t (h : t < ss.length), i ≤ t → M.klt key ss[t])
theorem up_unique {ss : List ByteArray} {key : ByteArray} {i j : Nat} (h : Up ss key i) (k : Up ss key j) : i = j := by
  obtain ⟨a1, a2, a3⟩ := h
  obtain ⟨b1, b2, b3⟩ := k
  rcases Nat.lt_trichotomy i j with h | h | h
  · exact absurd (a3 i (by omega) (Nat.le_refl _)) (b2 i (by omega) h)
  · exact h
  · exact absurd (b3 j (by omega) (Nat.le_refl _)) (a2 j (by omega) h)
theorem child1_any (i g0 g1 : Nat) (l : Bool) (ve vk : Value) (s0 : Option Addr) (sc : Nat) (ss : List ByteArray) (key : ByteArray) (w : World) (hx : Bx w g0 l ve vk (.slice s0 ss.length sc)) (hs : Txts w (.slice s0 ss.length sc) ss) (hy : w.cell? ⟨g1, 0, none⟩ = some (.string key)) (hi : i < ss.length) :
    Calls Try.prog 85 #[.int .i64 (i : Int), .pointer (some ⟨g0, 0, none⟩), .pointer (some ⟨g1, 0, none⟩)] w fun r w' => r = .returned (.bool (decide (M.klt key ss[i]))) ∧ Below w.heap.size w w' := by
  obtain ⟨_, _, _, x3⟩ := hx
  obtain ⟨b, o, rfl, c0⟩ := hs.at.2.2.2 i hi
  clear hs
  have hiz : (0 : Int) ≤ (i : Int) := Int.natCast_nonneg _
  have hin : (i : Int) < (ss.length : Int) := by omega
  obtain ⟨R, hR⟩ : ∃ R, decide (M.klt key ss[i]) = R := ⟨_, rfl⟩
  rw [hR]
  obtain ⟨s, hs⟩ : ∃ s, ss[i] = s := ⟨_, rfl⟩
  rw [hs] at hR c0
  clear hs
  by_cases h1 : M.klt s key
  · have q1 : Op.bytesLess s.toList key.toList = true := by rw [toL, toL]; exact h1
    have hRf : R = false := by rw [← hR, decide_eq_false_iff_not]; exact M.klt_asymm h1
    subst hRf
    clear hR h1
    go_enter Try.func85, Try.ntmps85
    go_upto_region 1 with (fail)
    go_quiet (fail)
    go_wp2
    go_ret
    exact ⟨rfl, ⟨rfl, rfl, rfl, Nat.le_refl _, fun _ _ => rfl⟩⟩
  · have q1 : Op.bytesLess s.toList key.toList = false := by rw [toL, toL]; unfold M.klt at h1; simpa using h1
    by_cases h2 : s = key
    · have q2 := str_eq h2
      have hRf : R = false := by rw [← hR, decide_eq_false_iff_not, h2]; exact M.klt_irrefl _
      subst hRf
      clear hR h1 h2
      go_enter Try.func85, Try.ntmps85
      go_upto_region 1 with (fail)
      go_quiet (fail)
      go_wp2
      go_ret
      exact ⟨rfl, ⟨rfl, rfl, rfl, Nat.le_refl _, fun _ _ => rfl⟩⟩
    · have q2 := str_ne h2
      have hRf : R = true := by rw [← hR, decide_eq_true_eq]; exact M.klt_of_not h1 h2
      subst hRf
      clear hR h1 h2
      go_enter Try.func85, Try.ntmps85
      go_upto_region 1 with (fail)
      go_quiet (fail)
      go_wp2
      go_ret
      exact ⟨rfl, ⟨rfl, rfl, rfl, Nat.le_refl _, fun _ _ => rfl⟩⟩
def Chd (ss : List ByteArray) (key : ByteArray) (w : World) (r : Ending) (w' : World) : Prop := ∃ i : Nat, r = .returned (.int .i64 (i : Int)) ∧ Up ss key i ∧ Below w.heap.size w w'
set_option maxRecDepth 100000 in
set_option maxHeartbeats 1000000 in
theorem nsearch_any (g0 g1 : Nat) (l : Bool) (ve vk : Value) (s0 : Option Addr) (sc : Nat) (ss : List ByteArray) (key : ByteArray) (w : World) (hx : Bx w g0 l ve vk (.slice s0 ss.length sc)) (hs : Txts w (.slice s0 ss.length sc) ss) (hy : w.cell? ⟨g1, 0, none⟩ = some (.string key)) (ho : M.Oks ss) (hlen : ss.length ≤ 10000) :
    Calls Try.prog 84 #[.int .i64 (ss.length : Int), .func (.func 85) #[] #[.pointer (some ⟨g0, 0, none⟩), .pointer (some ⟨g1, 0, none⟩)]] w (Chd ss key w) := by
  have HX := Lib.hid hx; have HS := Lib.hid hs; have HY := Lib.hid hy; have HO := Lib.hid ho
  clear hx hs hy ho
  go_enter Try.func84, Try.ntmps84
  go_wp2
  go_loopw [5, 6] (fun i j wr => ∃ a b : Nat, i = .int .i64 a ∧ j = .int .i64 b ∧ a ≤ b ∧ b ≤ ss.length ∧ (∀ t (h : t < ss.length), t < a → ¬ M.klt key ss[t]) ∧ (∀ t (h : t < ss.length), b ≤ t → M.klt key ss[t]) ∧ Below w.heap.size w wr) (fun i j _ => (intOf j - intOf i).toNat)
  case atStart => exact ⟨0, ss.length, rfl, rfl, Nat.zero_le _, Nat.le_refl _, fun t _ h => by omega, fun t h h' => by omega, Below.refl _ _⟩
  case round =>
    obtain ⟨a, b, rfl, rfl, hab, hbl, hlo, hhi, hb⟩ := hrel
    have HLO := Lib.hid hlo; have HHI := Lib.hid hhi
    clear hlo hhi
    by_cases hlt : a < b
    · obtain ⟨h, hh⟩ : ∃ h, (a + b) / 2 = h := ⟨_, rfl⟩
      have hh1 : a ≤ h ∧ h < b := by omega
      obtain ⟨hh1, hh2⟩ := hh1
      have hhl : h < ss.length := by omega
      have hdiv : ((a : Int) + (b : Int)) / 2 = (h : Int) := by omega
      have g1' : IntKind.u64.wrap ((a : Int) + (b : Int)) = (a : Int) + (b : Int) := by rw [IntKind.wrap_u64]; omega
      have HC := Lib.hid (child1_any h g0 g1 l ve vk s0 sc ss key wr (HX.out.below hb) (HS.out.below hb) (bcell hb HY.out) hhl)
      clear hh
      by_cases hk : M.klt key ss[h]
      · rw [decide_eq_true hk] at HC
        have HN := Lib.hid (show ∀ t (h' : t < ss.length), h ≤ t → M.klt key ss[t] from fun t ht hth => by
          rcases Nat.lt_or_ge h t with h3 | h3
          · exact M.klt_trans hk (M.oks_lt HO.out h3 ht)
          · obtain rfl : t = h := by omega
            exact hk)
        clear hk
        go_wp2_with fail
        refine HC.out.mono ?_
        rintro r w2 ⟨rfl, hb2⟩
        have hb2 := hb.trans (hb2.mono hb.size)
        go_wp2
        go_roundw
        case rel => exact ⟨a, h, rfl, rfl, by omega, by omega, HLO.out, HN.out, hb2⟩
        case measure => simp [intOf]; omega
      · rw [decide_eq_false hk] at HC
        have HN := Lib.hid (show ∀ t (h' : t < ss.length), t < h + 1 → ¬ M.klt key ss[t] from fun t ht hth hkt => by
          rcases Nat.lt_or_ge t h with h3 | h3
          · exact hk (M.klt_trans hkt (M.oks_lt HO.out h3 hhl))
          · obtain rfl : t = h := by omega
            exact hk hkt)
        clear hk
        go_wp2_with fail
        refine HC.out.mono ?_
        rintro r w2 ⟨rfl, hb2⟩
        have hb2 := hb.trans (hb2.mono hb.size)
        go_wp2
        go_roundw
        case rel => exact ⟨h + 1, b, by go_num, rfl, by omega, by omega, HN.out, HHI.out, hb2⟩
        case measure => simp [intOf]; omega
    · have HU := Lib.hid (show Up ss key a from ⟨by omega, HLO.out, fun t ht h => HHI.out t ht (by omega)⟩)
      go_wp2
      go_ret
      exact ⟨a, rfl, HU.out, hb⟩
theorem child_any (v : Value) (n : M.Nd) (key : ByteArray) (w : World) (hv : NdV w v n) (ho : M.Oks n.ss) (hlen : n.ss.length ≤ 10000) : Calls Try.prog 60 #[v, .string key] w (Chd n.ss key w) := by
  obtain ⟨l, es, ks, ss⟩ := n
  obtain ⟨e0, ec, k0, kc, s0, sc, rfl, he, hk, hs⟩ := hv
  dsimp only at he hk hs ho hlen ⊢
  have HS := Lib.hid hs; have HO := Lib.hid ho
  clear he hk hs ho
  go_enter Try.func60, Try.ntmps60
  go_upto_region 1 with (fail)
  obtain ⟨w0, hw0⟩ : ∃ W, w.alloc (.cells #[.bool l, .slice e0 es.length ec, .slice k0 ks.length kc, .slice s0 ss.length sc] 69) = W := ⟨_, rfl⟩
  have hz0 : w0.heap.size = w.heap.size + 1 := by rw [← hw0]; simp
  have hx : Bx w0 w.heap.size l (.slice e0 es.length ec) (.slice k0 ks.length kc) (.slice s0 ss.length sc) := by rw [← hw0]; exact Bx.new _ _ _ _ _ _
  have hb0 : Below w.heap.size w w0 := by rw [← hw0]; exact (Below.refl _ w).alloc (Nat.le_refl _) _
  rw [hw0]
  clear hw0
  obtain ⟨w1, hw1⟩ : ∃ W, w0.alloc (.cells #[.string key] 9) = W := ⟨_, rfl⟩
  have hy : w1.cell? ⟨w0.heap.size, 0, none⟩ = some (.string key) := by rw [← hw1, World.cell?_alloc_mark]; rfl
  have hb01 : Below w0.heap.size w0 w1 := by rw [← hw1]; exact (Below.refl _ w0).alloc (Nat.le_refl _) _
  rw [hw1]
  clear hw1
  have hx := hx.below hb01
  have hb1 := hb0.trans (hb01.mono hb0.size)
  rw [hz0] at hy
  clear hz0 hb0 hb01
  have HSE := Lib.hid (nsearch_any w.heap.size (w.heap.size + 1) l (.slice e0 es.length ec) (.slice k0 ks.length kc) s0 sc ss key w1 hx (HS.out.below hb1) hy HO.out hlen)
  obtain ⟨x0, x1, x2, x3⟩ := hx
  clear hy
  go_wp2_with fail
  refine HSE.out.mono ?_
  rintro r w2 ⟨i, rfl, hu, hb2⟩
  have HU := Lib.hid hu
  have hb2 := hb1.trans (hb2.mono hb1.size)
  clear hu
  go_wp2
  go_ret
  exact ⟨i, rfl, HU.out, hb2⟩
end Go.Proofs.Ytifdglehfhoecaa.N

/-
  The document's examples of nodes. Conditions: none.
-/
namespace Go.Proofs.Ytifdglehfhoecaa.N
open Go.RowKit B E
def kM : ByteArray := ⟨#[109]⟩
def kCc : ByteArray := ⟨#[99]⟩
def nW : M.Nd := ⟨false, [], [5, 9], [kM]⟩
def mW : M.Nd := ⟨false, [], [6, 7, 9], [kCc, kM]⟩
theorem okW : M.NOk nW := by decide +kernel
theorem okM : M.NOk mW := by decide +kernel
theorem szW : M.nsz nW = 10 := by decide +kernel
theorem bodyW : txt (M.bodyN nW) = ⟨#[0, 0, 0, 5, 1, 109, 0, 0, 0, 9]⟩ := by decide +kernel
theorem fitW : fitsN nW := ⟨okW, by rw [szW]; decide⟩
theorem ltA : M.klt ⟨#[97]⟩ kM := by decide +kernel
theorem nltM : ¬ M.klt ⟨#[109]⟩ kM := by decide +kernel
theorem upA : Up [kM] ⟨#[97]⟩ 0 := ⟨Nat.zero_le _, fun t h hh => by omega, fun t h _ => by
  obtain rfl : t = 0 := by simp at h; omega
  exact ltA⟩
theorem upM : Up [kM] ⟨#[109]⟩ 1 := ⟨Nat.le_refl _, fun t h _ => by
  obtain rfl : t = 0 := by simp at h; omega
  exact nltM, fun t h hh => by simp at h; omega⟩
theorem bdW : Bd nW := ⟨by decide, by decide, by decide, by decide +kernel, by decide +kernel⟩
theorem bdM : Bd mW := ⟨by decide, by decide, by decide, by decide +kernel, by decide +kernel⟩
theorem enc_w (v : Value) (w : World) (hv : NdV w v nW) : Calls Try.prog 65 #[v] w fun r w' => r = .returned (.tuple #[.int .u8 2, .string ⟨#[0, 0, 0, 5, 1, 109, 0, 0, 0, 9]⟩, .int .i64 0]) ∧ Below w.heap.size w w' := by
  refine (nencode_any v nW w hv bdW).mono ?_
  rintro r w' ⟨K, T, e, rfl, h, hb⟩
  rcases h with ⟨h, _⟩ | ⟨_, h, _⟩ | ⟨_, _, rfl, rfl, rfl⟩
  · exact absurd okW h
  · rw [szW] at h; omega
  · rw [bodyW]; exact ⟨rfl, hb⟩
theorem childA (v : Value) (w : World) (hv : NdV w v nW) : Calls Try.prog 60 #[v, .string ⟨#[97]⟩] w fun r w' => r = .returned (.int .i64 0) ∧ Below w.heap.size w w' := by
  refine (child_any v nW _ w hv ((okW.2 rfl).2.2.2) (by decide)).mono ?_
  rintro r w' ⟨i, rfl, h, hb⟩
  obtain rfl := up_unique h upA
  exact ⟨rfl, hb⟩
theorem childM (v : Value) (w : World) (hv : NdV w v nW) : Calls Try.prog 60 #[v, .string ⟨#[109]⟩] w fun r w' => r = .returned (.int .i64 1) ∧ Below w.heap.size w w' := by
  refine (child_any v nW _ w hv ((okW.2 rfl).2.2.2) (by decide)).mono ?_
  rintro r w' ⟨i, rfl, h, hb⟩
  obtain rfl := up_unique h upM
  exact ⟨rfl, hb⟩
theorem swapW (v xv yv : Value) (w : World) (hv : NdV w v nW) (hx : Ints w xv [6, 7]) (hy : Txts w yv [kCc]) : Calls Try.prog 54 #[v, .int .i64 0, .int .i64 1, xv, yv] w (NMk mW w) :=
  swap_good v xv yv [] [5, 9] [6, 7] [kM] [kCc] 0 1 0 w hv hx hy ⟨by decide, by decide, by decide⟩ (by decide) (by decide) (by decide) rfl rfl (by decide)
theorem splitM (v : Value) (w : World) (hv : NdV w v mW) : Calls Try.prog 58 #[v] w (NSp ⟨false, [], [6], []⟩ kCc ⟨false, [], [7, 9], [kM]⟩ w) :=
  split_inner v [] [6, 7, 9] [kCc, kM] w hv bdM okM (by decide) 1 0 rfl rfl (by decide)
set_option maxRecDepth 100000 in
set_option maxHeartbeats 4000000 in
theorem nworks_any (w : World) : Calls Try.prog 51 #[] w fun r w' => r = .returned (.bool true) ∧ Below w.heap.size w w' := by
  go_enter Try.func51, Try.ntmps51
  go_upto_region 2 with (fail)
  obtain ⟨w1, hw1⟩ : ∃ W, w.alloc (.cells #[.int .i64 5, .int .i64 9] 3) = W := ⟨_, rfl⟩
  have a1 : Ints w1 (.slice (some ⟨w.heap.size, 0, none⟩) 2 2) [5, 9] := by rw [← hw1]; exact new_int2 _ _ _ _
  have z1 : w1.heap.size = w.heap.size + 1 := by rw [← hw1]; simp
  have b1 : Below w.heap.size w w1 := by rw [← hw1]; exact (Below.refl _ w).alloc (Nat.le_refl _) _
  rw [hw1]
  clear hw1
  obtain ⟨w2, hw2⟩ : ∃ W, w1.alloc (.cells #[.string kM] 9) = W := ⟨_, rfl⟩
  have a2 : Txts w2 (.slice (some ⟨w.heap.size + 1, 0, none⟩) 1 1) [kM] := by rw [← hw2, ← z1]; exact new_txt _ _ _
  have z2 : w2.heap.size = w.heap.size + 2 := by rw [← hw2]; simp [z1]
  have b2 : Below w1.heap.size w1 w2 := by rw [← hw2]; exact (Below.refl _ w1).alloc (Nat.le_refl _) _
  have hk : (⟨#[109]⟩ : ByteArray) = kM := rfl
  try rw [hk]
  rw [hw2]
  clear hw2 hk
  obtain ⟨w3, hw3⟩ : ∃ W, w2.alloc (.cells #[.bool false, .slice none 0 0, .slice (some ⟨w.heap.size, 0, none⟩) 2 2, .slice (some ⟨w.heap.size + 1, 0, none⟩) 1 1] 69) = W := ⟨_, rfl⟩
  have hx : Bx w3 w2.heap.size false (.slice none 0 0) (.slice (some ⟨w.heap.size, 0, none⟩) 2 2) (.slice (some ⟨w.heap.size + 1, 0, none⟩) 1 1) := by rw [← hw3]; exact Bx.new _ _ _ _ _ _
  have b3 : Below w2.heap.size w2 w3 := by rw [← hw3]; exact (Below.refl _ w2).alloc (Nat.le_refl _) _
  rw [hw3]
  clear hw3
  have hv : NdV w3 (.agg #[.bool false, .slice none 0 0, .slice (some ⟨w.heap.size, 0, none⟩) 2 2, .slice (some ⟨w.heap.size + 1, 0, none⟩) 1 1]) nW := ⟨none, 0, _, 2, _, 1, rfl, Rw.nil _ 2, (a1.below b2).below b3, a2.below b3⟩
  have hb3 := (b1.trans (b2.mono b1.size)).trans (b3.mono (Nat.le_trans b1.size b2.size))
  rw [z2, show w.heap.size + 2 = w.heap.size + 1 + 1 from rfl] at hx
  clear b1 b2 b3 a1 a2 z1 z2
  have HV := Lib.hid hv; have HX := Lib.hid hx
  clear hv
  obtain ⟨x0, x1, x2, x3⟩ := hx
  go_wp2_with fail
  refine (enc_w _ _ HV.out).mono ?_
  rintro r w4 ⟨rfl, hb4⟩
  have HV := Lib.hid (HV.out.below hb4); have HX := Lib.hid (HX.out.below hb4)
  have hb4 := hb3.trans (hb4.mono hb3.size)
  clear x0 x1 x2 x3 hb3
  obtain ⟨x0, x1, x2, x3⟩ := HX.out
  obtain ⟨w5, hw5⟩ : ∃ W, (w4.alloc (.cells #[.int .i64 6, .int .i64 7] 3)).alloc (.cells #[.string ⟨#[99]⟩] 9) = W := ⟨_, rfl⟩
  have b5 : Below w4.heap.size w4 w5 := by rw [← hw5]; exact ((Below.refl _ w4).alloc (Nat.le_refl _) _).alloc (by simp) _
  have a6 : Ints w5 (.slice (some ⟨w4.heap.size, 0, none⟩) 2 2) [6, 7] := by rw [← hw5]; exact (new_int2 _ _ _ _).below ((Below.refl _ _).alloc (Nat.le_refl _) _)
  have a7 : Txts w5 (.slice (some ⟨w4.heap.size + 1, 0, none⟩) 1 1) [kCc] := by
    rw [← hw5]
    have := new_txt (w4.alloc (.cells #[.int .i64 6, .int .i64 7] 3)) kCc 9
    rw [show (w4.alloc (.cells #[.int .i64 6, .int .i64 7] 3)).heap.size = w4.heap.size + 1 by simp] at this
    exact this
  have HSW := Lib.hid (swapW _ _ _ _ (HV.out.below b5) a6 a7)
  rw [← hw5] at HSW
  have HW5 := Lib.hid hw5
  clear hw5 a6 a7
  go_wp2_with fail
  refine HSW.out.mono ?_
  rintro r w7 ⟨v, rfl, ho, hb7⟩
  rw [HW5.out] at ho hb7
  have HV := Lib.hid ((HV.out.below b5).below hb7); have HX := Lib.hid ((HX.out.below b5).below hb7)
  have hb7 := (hb4.trans (b5.mono hb4.size)).trans (hb7.mono (Nat.le_trans hb4.size b5.size))
  have HM := Lib.hid ho.val
  obtain ⟨e0, ec, k0, kc, s0, sc, rfl, o1, o2, o3⟩ : ∃ e0 ec k0 kc s0 sc, v = .agg #[.bool false, .slice e0 0 ec, .slice k0 3 kc, .slice s0 2 sc] ∧ Ents w7 (.slice e0 0 ec) [] ∧ Ints w7 (.slice k0 3 kc) [6, 7, 9] ∧ Txts w7 (.slice s0 2 sc) [kCc, kM] := ho.val
  have HMI := Lib.hid o2; have HMT := Lib.hid o3
  clear x0 x1 x2 x3 o1 o2 o3 ho b5 hb4 HSW
  go_upto_region 4 with (fail)
  obtain ⟨w8, hw8⟩ : ∃ W, w7.alloc (.cells #[.bool false, .slice e0 0 ec, .slice k0 3 kc, .slice s0 2 sc] 69) = W := ⟨_, rfl⟩
  have hy : Bx w8 w7.heap.size false (.slice e0 0 ec) (.slice k0 3 kc) (.slice s0 2 sc) := by rw [← hw8]; exact Bx.new _ _ _ _ _ _
  have b8 : Below w7.heap.size w7 w8 := by rw [← hw8]; exact (Below.refl _ w7).alloc (Nat.le_refl _) _
  rw [hw8]
  clear hw8
  have HV := Lib.hid (HV.out.below b8); have HX := Lib.hid (HX.out.below b8); have HM := Lib.hid (HM.out.below b8); have HMI := Lib.hid (HMI.out.below b8); have HMT := Lib.hid (HMT.out.below b8)
  have hb8 := hb7.trans (b8.mono hb7.size)
  clear hb7 b8
  have HY := Lib.hid hy
  obtain ⟨y0, y1, y2, y3⟩ := hy
  go_wp2_with fail
  refine (splitM _ _ HM.out).mono ?_
  rintro r w9 ⟨va, vb, rfl, oa, ob, hb9⟩
  have HV := Lib.hid (HV.out.below hb9); have HX := Lib.hid (HX.out.below hb9); have HMI := Lib.hid (HMI.out.below hb9); have HMT := Lib.hid (HMT.out.below hb9); have HY := Lib.hid (HY.out.below hb9)
  have hb9 := hb8.trans (hb9.mono hb8.size)
  obtain ⟨ae, aec, ak, akc, az, azc, rfl, _, _, _⟩ : ∃ e0 ec k0 kc s0 sc, va = .agg #[.bool false, .slice e0 0 ec, .slice k0 1 kc, .slice s0 0 sc] ∧ Ents w9 (.slice e0 0 ec) [] ∧ Ints w9 (.slice k0 1 kc) [6] ∧ Txts w9 (.slice s0 0 sc) [] := oa.val
  obtain ⟨be, bec, bk, bkc, bz, bzc, rfl, _, _, _⟩ : ∃ e0 ec k0 kc s0 sc, vb = .agg #[.bool false, .slice e0 0 ec, .slice k0 2 kc, .slice s0 1 sc] ∧ Ents w9 (.slice e0 0 ec) [] ∧ Ints w9 (.slice k0 2 kc) [7, 9] ∧ Txts w9 (.slice s0 1 sc) [kM] := ob.val
  clear y0 y1 y2 y3 oa ob hb8
  go_upto_region 5 with (fail)
  obtain ⟨w10, hw10⟩ : ∃ W, (w9.alloc (.cells #[.bool false, .slice ae 0 aec, .slice ak 1 akc, .slice az 0 azc] 69)).alloc (.cells #[.bool false, .slice be 0 bec, .slice bk 2 bkc, .slice bz 1 bzc] 69) = W := ⟨_, rfl⟩
  have hp : Bx w10 w9.heap.size false (.slice ae 0 aec) (.slice ak 1 akc) (.slice az 0 azc) := by rw [← hw10]; exact (Bx.new _ _ _ _ _ _).below ((Below.refl _ _).alloc (Nat.le_refl _) _)
  have hq : Bx w10 (w9.heap.size + 1) false (.slice be 0 bec) (.slice bk 2 bkc) (.slice bz 1 bzc) := by
    rw [← hw10]
    have := Bx.new (w9.alloc (.cells #[.bool false, .slice ae 0 aec, .slice ak 1 akc, .slice az 0 azc] 69)) false (.slice be 0 bec) (.slice bk 2 bkc) (.slice bz 1 bzc) 69
    rw [show (w9.alloc (.cells #[.bool false, .slice ae 0 aec, .slice ak 1 akc, .slice az 0 azc] 69)).heap.size = w9.heap.size + 1 by simp] at this
    exact this
  have b10 : Below w9.heap.size w9 w10 := by rw [← hw10]; exact ((Below.refl _ w9).alloc (Nat.le_refl _) _).alloc (by simp) _
  rw [hw10]
  clear hw10
  have HV := Lib.hid (HV.out.below b10); have HX := Lib.hid (HX.out.below b10); have HMI := Lib.hid (HMI.out.below b10); have HMT := Lib.hid (HMT.out.below b10); have HY := Lib.hid (HY.out.below b10)
  have hb10 := hb9.trans (b10.mono hb9.size)
  clear hb9 b10
  obtain ⟨_, _, p2, p3⟩ := hp
  obtain ⟨_, _, q2, q3⟩ := hq
  obtain ⟨x0, x1, x2, x3⟩ := HX.out
  obtain ⟨y0, y1, y2, y3⟩ := HY.out
  go_wp2_with fail
  refine (childA _ _ HV.out).mono ?_
  rintro r w11 ⟨rfl, hb11⟩
  have HV := Lib.hid (HV.out.below hb11); have HX := Lib.hid (HX.out.below hb11); have HMI := Lib.hid (HMI.out.below hb11); have HMT := Lib.hid (HMT.out.below hb11); have HY := Lib.hid (HY.out.below hb11)
  have hb11 := hb10.trans (hb11.mono hb10.size)
  clear x0 x1 x2 x3 y0 y1 y2 y3 p2 p3 q2 q3 hb10
  obtain ⟨x0, x1, x2, x3⟩ := HX.out
  go_wp2_with fail
  refine (childM _ _ HV.out).mono ?_
  rintro r w12 ⟨rfl, hb12⟩
  have HV := Lib.hid (HV.out.below hb12); have HX := Lib.hid (HX.out.below hb12); have HMI := Lib.hid (HMI.out.below hb12); have HMT := Lib.hid (HMT.out.below hb12); have HY := Lib.hid (HY.out.below hb12)
  have hb12 := hb11.trans (hb12.mono hb11.size)
  clear x0 x1 x2 x3 hb11
  obtain ⟨x0, x1, x2, x3⟩ := HX.out
  obtain ⟨y0, y1, y2, y3⟩ := HY.out
  obtain ⟨b, o, rfl, c0⟩ := HMI.out.at.2.2.2 0 (by decide)
  obtain ⟨b', o', e', c1⟩ := HMI.out.at.2.2.2 1 (by decide)
  obtain ⟨rfl, rfl⟩ : b = b' ∧ o = o' := by injection e' with e'; injection e' with a1 a2 a3; exact ⟨a1, a2⟩
  obtain ⟨b', o', e', c2⟩ := HMI.out.at.2.2.2 2 (by decide)
  obtain ⟨rfl, rfl⟩ : b = b' ∧ o = o' := by injection e' with e'; injection e' with a1 a2 a3; exact ⟨a1, a2⟩
  obtain ⟨d, p, rfl, t0⟩ := HMT.out.at.2.2.2 0 (by decide)
  obtain ⟨b', o', e', t1⟩ := HMT.out.at.2.2.2 1 (by decide)
  obtain ⟨rfl, rfl⟩ : d = b' ∧ p = o' := by injection e' with e'; injection e' with a1 a2 a3; exact ⟨a1, a2⟩
  have c0 : w12.cell? ⟨b, o, none⟩ = some (.int .i64 6) := c0
  have c1 : w12.cell? ⟨b, o + 1, none⟩ = some (.int .i64 7) := c1
  have c2 : w12.cell? ⟨b, o + 2, none⟩ = some (.int .i64 9) := c2
  have t0 : w12.cell? ⟨d, p, none⟩ = some (.string ⟨#[99]⟩) := t0
  have t1 : w12.cell? ⟨d, p + 1, none⟩ = some (.string ⟨#[109]⟩) := t1
  have HNR := Lib.hid (fun W h => nright_any (.agg #[.bool false, .slice none 0 0, .slice (some ⟨w.heap.size, 0, none⟩) 2 2, .slice (some ⟨w.heap.size + 1, 0, none⟩) 1 1]) nW W h bdW)
  rw [decide_eq_true okW] at HNR
  have HNF := Lib.hid (fun W h => fits_any (.agg #[.bool false, .slice none 0 0, .slice (some ⟨w.heap.size, 0, none⟩) 2 2, .slice (some ⟨w.heap.size + 1, 0, none⟩) 1 1]) nW W h bdW)
  rw [decide_eq_true fitW] at HNF
  have HNS := Lib.hid (fun W h => nsize_any (.agg #[.bool false, .slice none 0 0, .slice (some ⟨w.heap.size, 0, none⟩) 2 2, .slice (some ⟨w.heap.size + 1, 0, none⟩) 1 1]) nW W h bdW)
  rw [szW] at HNS
  clear e'
  have hkq : kCc = ⟨#[99]⟩ := rfl
  have hkm : kM.toList = [109] := by rw [toL]; rfl
  rw [hkq]
  go_wp2_with fail
  refine (HNR.out _ HV.out).mono ?_
  rintro r w13 ⟨rfl, hb13⟩
  have HV := Lib.hid (HV.out.below hb13); have HX := Lib.hid (HX.out.below hb13)
  have hb13 := hb12.trans (hb13.mono hb12.size)
  clear x0 x1 x2 x3 y0 y1 y2 y3 c0 c1 c2 t0 t1 hb12
  obtain ⟨x0, x1, x2, x3⟩ := HX.out
  go_wp2_with fail
  refine (HNF.out _ HV.out).mono ?_
  rintro r w14 ⟨rfl, hb14⟩
  have HV := Lib.hid (HV.out.below hb14); have HX := Lib.hid (HX.out.below hb14)
  have hb14 := hb13.trans (hb14.mono hb13.size)
  clear x0 x1 x2 x3 hb13
  obtain ⟨x0, x1, x2, x3⟩ := HX.out
  go_wp2_with fail
  refine (HNS.out _ HV.out).mono ?_
  rintro r w15 ⟨rfl, hb15⟩
  have hb15 := hb14.trans (hb15.mono hb14.size)
  clear x0 x1 x2 x3 hb14
  go_wp2
  go_ret
  exact ⟨rfl, hb15⟩
end Go.Proofs.Ytifdglehfhoecaa.N

/-
  Whether two nodes are the same: the document's answer. Conditions: none.
-/
namespace Go.Proofs.Ytifdglehfhoecaa.N
open Go.RowKit B E
def NSm (a b : M.Nd) (w : World) (r : Ending) (w' : World) : Prop := r = .returned (.bool (decide (a = b))) ∧ Below w.heap.size w w'
theorem nd_iff (l m : Bool) (es fs : List Ent) (ks js : List Int) (ss ts : List ByteArray) : (⟨l, es, ks, ss⟩ : M.Nd) = ⟨m, fs, js, ts⟩ ↔ l = m ∧ es = fs ∧ ks = js ∧ ss = ts := by
  constructor
  · intro h; injection h with a b c d; exact ⟨a, b, c, d⟩
  · rintro ⟨rfl, rfl, rfl, rfl⟩; rfl
set_option maxRecDepth 100000 in
set_option maxHeartbeats 4000000 in
theorem nsame_any (va vb : Value) (a b : M.Nd) (w : World) (ha : NdV w va a) (hb : NdV w vb b) : Calls Try.prog 55 #[va, vb] w (NSm a b w) := by
  obtain ⟨l, es, ks, ss⟩ := a
  obtain ⟨e0, ec, k0, kc, s0, sc, rfl, he, hk, hs⟩ := ha
  obtain ⟨m, fs, js, ts⟩ := b
  obtain ⟨f0, fc, j0, jc, t0, tc, rfl, hf, hj, ht⟩ := hb
  dsimp only at he hk hs hf hj ht ⊢
  have hkn := ints_len hk; have hjn := ints_len hj; have hsn := txts_len hs; have htn := txts_len ht
  obtain ⟨R, hR⟩ : ∃ R, decide ((⟨l, es, ks, ss⟩ : M.Nd) = ⟨m, fs, js, ts⟩) = R := ⟨_, rfl⟩
  unfold NSm
  rw [hR]
  have HR := Lib.hid (show (R = true ↔ l = m ∧ es = fs ∧ ks = js ∧ ss = ts) by rw [← hR, decide_eq_true_eq, nd_iff])
  have HF := Lib.hid (show (¬ (l = m ∧ es = fs ∧ ks = js ∧ ss = ts)) → R = false by
    intro h
    rw [← HR.out] at h
    simpa using h)
  clear hR
  obtain ⟨ne, hne⟩ : ∃ x, es.length = x := ⟨_, rfl⟩
  obtain ⟨nf, hnf⟩ : ∃ x, fs.length = x := ⟨_, rfl⟩
  obtain ⟨nk, hnk⟩ : ∃ x, ks.length = x := ⟨_, rfl⟩
  obtain ⟨nj, hnj⟩ : ∃ x, js.length = x := ⟨_, rfl⟩
  obtain ⟨ns, hns⟩ : ∃ x, ss.length = x := ⟨_, rfl⟩
  obtain ⟨nt, hnt⟩ : ∃ x, ts.length = x := ⟨_, rfl⟩
  rw [hne] at he ⊢
  rw [hnf] at hf ⊢
  rw [hnk] at hk hkn ⊢
  rw [hnj] at hj hjn ⊢
  rw [hns] at hs hsn ⊢
  rw [hnt] at ht htn ⊢
  have HE := Lib.hid he; have HFS := Lib.hid hf
  have HCK := Lib.hid hk.at.2.2.2; have HCJ := Lib.hid hj.at.2.2.2; have HCS := Lib.hid hs.at.2.2.2; have HCT := Lib.hid ht.at.2.2.2
  have HNK := Lib.hid hnk; have HNJ := Lib.hid hnj; have HNS := Lib.hid hns; have HNT := Lib.hid hnt
  clear he hf hk hj hs ht hne hnf hnk hnj hns hnt
  go_enter Try.func55, Try.ntmps55
  go_upto_region 1 with (fail)
  obtain ⟨w0, hw0⟩ : ∃ W, w.alloc (.cells #[.bool l, .slice e0 ne ec, .slice k0 nk kc, .slice s0 ns sc] 73) = W := ⟨_, rfl⟩
  have hz0 : w0.heap.size = w.heap.size + 1 := by rw [← hw0]; simp
  have hx : Bx w0 w.heap.size l (.slice e0 ne ec) (.slice k0 nk kc) (.slice s0 ns sc) := by rw [← hw0]; exact Bx.new _ _ _ _ _ _
  have hb0 : Below w.heap.size w w0 := by rw [← hw0]; exact (Below.refl _ w).alloc (Nat.le_refl _) _
  rw [hw0]
  clear hw0
  obtain ⟨w1, hw1⟩ : ∃ W, w0.alloc (.cells #[.bool m, .slice f0 nf fc, .slice j0 nj jc, .slice t0 nt tc] 73) = W := ⟨_, rfl⟩
  have hy : Bx w1 w0.heap.size m (.slice f0 nf fc) (.slice j0 nj jc) (.slice t0 nt tc) := by rw [← hw1]; exact Bx.new _ _ _ _ _ _
  have hb01 : Below w0.heap.size w0 w1 := by rw [← hw1]; exact (Below.refl _ w0).alloc (Nat.le_refl _) _
  rw [hw1]
  clear hw1
  have hx := hx.below hb01
  have hb1 := hb0.trans (hb01.mono hb0.size)
  rw [hz0] at hy
  clear hz0 hb0 hb01
  obtain ⟨x0, x1, x2, x3⟩ := hx
  obtain ⟨y0, y1, y2, y3⟩ := hy
  by_cases hlm : l = m
  case neg =>
    have q0 : (l != m) = true := by rw [bne_iff_ne]; exact hlm
    have q1 : (l == m) = false := by rw [beq_eq_false_iff_ne]; exact hlm
    have hRf := HF.out fun h => hlm h.1
    subst hRf
    clear hlm
    go_wp2
    go_ret
    exact ⟨rfl, hb1⟩
  have q0 : (l != m) = false := by rw [bne_eq_false_iff_eq]; exact hlm
  have q1 : (l == m) = true := by rw [beq_iff_eq]; exact hlm
  have HLM := Lib.hid hlm
  clear hlm
  by_cases hkj : nk = nj
  case neg =>
    have q2 : ((nk : Int) != (nj : Int)) = true := by rw [bne_iff_ne]; omega
    have q3 : ((nk : Int) == (nj : Int)) = false := by rw [beq_eq_false_iff_ne]; omega
    have hRf := HF.out fun h => hkj (by rw [← HNK.out, ← HNJ.out, h.2.2.1])
    subst hRf
    clear hkj
    go_wp2
    go_ret
    exact ⟨rfl, hb1⟩
  have HKJ := Lib.hid hkj
  have q2 : ((nk : Int) != (nj : Int)) = false := by rw [bne_eq_false_iff_eq]; omega
  have q3 : ((nk : Int) == (nj : Int)) = true := by rw [beq_iff_eq]; omega
  clear hkj
  by_cases hst : ns = nt
  case neg =>
    have q4 : ((ns : Int) != (nt : Int)) = true := by rw [bne_iff_ne]; omega
    have q5 : ((ns : Int) == (nt : Int)) = false := by rw [beq_eq_false_iff_ne]; omega
    have hRf := HF.out fun h => hst (by rw [← HNS.out, ← HNT.out, h.2.2.2])
    subst hRf
    clear hst
    go_wp2
    go_ret
    exact ⟨rfl, hb1⟩
  have HST := Lib.hid hst
  have q4 : ((ns : Int) != (nt : Int)) = false := by rw [bne_eq_false_iff_eq]; omega
  have q5 : ((ns : Int) == (nt : Int)) = true := by rw [beq_iff_eq]; omega
  clear hst
  go_upto_region 3 with (fail)
  clear q0 q1 q2 q3 q4 q5
  go_wp2
  go_loopw [5] (fun i wr => ∃ k : Nat, k ≤ nk ∧ i = .int .i64 k ∧ (∀ j (h1 : j < ks.length) (h2 : j < js.length), j < k → ks[j] = js[j]) ∧ Below w1.heap.size w1 wr) (fun i _ => nk - (intOf i).toNat)
  case atStart => exact ⟨0, Nat.zero_le _, rfl, fun j _ _ h => absurd h (by omega), Below.refl _ _⟩
  case round =>
    obtain ⟨k, hkl, rfl, hpre, hbr⟩ := hrel
    have HPRE := Lib.hid hpre; clear hpre
    have x0 := bcell hbr x0; have x1 := bcell hbr x1; have x2 := bcell hbr x2; have x3 := bcell hbr x3
    have y0 := bcell hbr y0; have y1 := bcell hbr y1; have y2 := bcell hbr y2; have y3 := bcell hbr y3
    have hbW := hb1.trans (hbr.mono hb1.size)
    by_cases hlt : k < nk
    · have hka : k < ks.length := by rw [HNK.out]; exact hlt
      have hkb : k < js.length := by rw [HNJ.out, ← HKJ.out]; exact hlt
      obtain ⟨ab, ai, rfl, c0⟩ := HCK.out k hka
      obtain ⟨bb, bi, rfl, c1⟩ := HCJ.out k hkb
      have c0 := bcell hbW c0
      have c1 := bcell hbW c1
      have hkz : (0 : Int) ≤ (k : Int) := Int.natCast_nonneg _
      have hkn1 : (k : Int) < (nk : Int) := by omega
      have hkn2 : (k : Int) < (nj : Int) := by have := HKJ.out; omega
      obtain ⟨p, hp⟩ : ∃ x, ks[k] = x := ⟨_, rfl⟩
      obtain ⟨q, hq⟩ : ∃ x, js[k] = x := ⟨_, rfl⟩
      rw [hp] at c0
      rw [hq] at c1
      have HP := Lib.hid hp; have HQ := Lib.hid hq
      clear hp hq
      by_cases hpq : p = q
      · have HN := Lib.hid (show ∀ j (h1 : j < ks.length) (h2 : j < js.length), j < k + 1 → ks[j] = js[j] from fun j h1 h2 h => by
          rcases Nat.lt_or_ge j k with h' | h'
          · exact HPRE.out j h1 h2 h'
          · obtain rfl : j = k := by omega
            rw [HP.out, HQ.out, hpq])
        have r1 : (p == q) = true := by rw [beq_iff_eq]; exact hpq
        have r2 : (p != q) = false := by rw [bne_eq_false_iff_eq]; exact hpq
        clear hpq
        go_upto_region 6 with (fail)
        go_quiet (fail)
        go_wp2
        go_roundw
        case rel => exact ⟨k + 1, by omega, by go_num, HN.out, ⟨hbr.os, hbr.tape, hbr.output, hbr.size, hbr.block⟩⟩
        case measure => simp [intOf]; omega
      · have hRf := HF.out fun h => hpq (by
          obtain ⟨_, _, h3, _⟩ := h
          subst h3
          rw [← HP.out, ← HQ.out])
        subst hRf
        have r1 : (p == q) = false := by rw [beq_eq_false_iff_ne]; exact hpq
        have r2 : (p != q) = true := by rw [bne_iff_ne]; exact hpq
        clear hpq
        go_upto_region 6 with (fail)
        go_quiet (fail)
        go_wp2
        go_ret
        exact ⟨rfl, ⟨hbW.os, hbW.tape, hbW.output, hbW.size, hbW.block⟩⟩
    · have HKS := Lib.hid (show ks = js from List.ext_getElem (by rw [HNK.out, HNJ.out, HKJ.out]) fun j h1 h2 => HPRE.out j h1 h2 (by rw [HNK.out] at h1; omega))
      go_wp2
      go_loopw [6] (fun i w2 => ∃ k : Nat, k ≤ ns ∧ i = .int .i64 k ∧ (∀ j (h1 : j < ss.length) (h2 : j < ts.length), j < k → ss[j] = ts[j]) ∧ Below wr.heap.size wr w2) (fun i _ => ns - (intOf i).toNat)
      case atStart => exact ⟨0, Nat.zero_le _, rfl, fun j _ _ h => absurd h (by omega), Below.refl _ _⟩
      case round =>
        rename_i w2
        obtain ⟨k2, hkl2, rfl, hpre, hbr2⟩ := hrel
        have HPRE2 := Lib.hid hpre; clear hpre
        have x0 := bcell hbr2 x0; have x1 := bcell hbr2 x1; have x2 := bcell hbr2 x2; have x3 := bcell hbr2 x3
        have y0 := bcell hbr2 y0; have y1 := bcell hbr2 y1; have y2 := bcell hbr2 y2; have y3 := bcell hbr2 y3
        have hbW2 := hbW.trans (hbr2.mono hbW.size)
        by_cases hlt2 : k2 < ns
        · have hka : k2 < ss.length := by rw [HNS.out]; exact hlt2
          have hkb : k2 < ts.length := by rw [HNT.out, ← HST.out]; exact hlt2
          obtain ⟨ab, ai, rfl, c0⟩ := HCS.out k2 hka
          obtain ⟨bb, bi, rfl, c1⟩ := HCT.out k2 hkb
          have c0 := bcell hbW2 c0
          have c1 := bcell hbW2 c1
          have hkz : (0 : Int) ≤ (k2 : Int) := Int.natCast_nonneg _
          have hkn1 : (k2 : Int) < (ns : Int) := by omega
          have hkn2 : (k2 : Int) < (nt : Int) := by have := HST.out; omega
          obtain ⟨p, hp⟩ : ∃ x, ss[k2] = x := ⟨_, rfl⟩
          obtain ⟨q, hq⟩ : ∃ x, ts[k2] = x := ⟨_, rfl⟩
          rw [hp] at c0
          rw [hq] at c1
          have HP := Lib.hid hp; have HQ := Lib.hid hq
          clear hp hq
          by_cases hpq : p = q
          · have HN := Lib.hid (show ∀ j (h1 : j < ss.length) (h2 : j < ts.length), j < k2 + 1 → ss[j] = ts[j] from fun j h1 h2 h => by
              rcases Nat.lt_or_ge j k2 with h' | h'
              · exact HPRE2.out j h1 h2 h'
              · obtain rfl : j = k2 := by omega
                rw [HP.out, HQ.out, hpq])
            have r1 := str_eq hpq
            clear hpq
            go_upto_region 11 with (fail)
            go_quiet (fail)
            go_wp2
            go_roundw
            case rel => exact ⟨k2 + 1, by omega, by go_num, HN.out, ⟨hbr2.os, hbr2.tape, hbr2.output, hbr2.size, hbr2.block⟩⟩
            case measure => simp [intOf]; omega
          · have hRf := HF.out fun h => hpq (by
              obtain ⟨_, _, _, h4⟩ := h
              subst h4
              rw [← HP.out, ← HQ.out])
            subst hRf
            have r1 := str_ne hpq
            clear hpq
            go_upto_region 11 with (fail)
            go_quiet (fail)
            go_wp2
            go_ret
            exact ⟨rfl, ⟨hbW2.os, hbW2.tape, hbW2.output, hbW2.size, hbW2.block⟩⟩
        · have HSS := Lib.hid (show ss = ts from List.ext_getElem (by rw [HNS.out, HNT.out, HST.out]) fun j h1 h2 => HPRE2.out j h1 h2 (by rw [HNS.out] at h1; omega))
          have HQR := Lib.hid (show decide (es = fs) = R by
            rw [Bool.eq_iff_iff, decide_eq_true_eq, HR.out]
            exact ⟨fun h => ⟨HLM.out, h, HKS.out, HSS.out⟩, fun h => h.2.1⟩)
          go_wp2_with fail
          refine (same_any _ _ es fs _ (HE.out.below hbW2) (HFS.out.below hbW2)).mono ?_
          rintro r w5 ⟨rfl, hb5⟩
          rw [HQR.out]
          have hb5 := hbW2.trans (hb5.mono hbW2.size)
          go_wp2
          go_ret
          exact ⟨rfl, hb5⟩
end Go.Proofs.Ytifdglehfhoecaa.N

/-
  The law on a node's bytes: true for every input. Conditions: none.
-/
namespace Go.Proofs.Ytifdglehfhoecaa.N
open Go.RowKit B E
/-- a node as a value, its lengths letters -/
theorem ndv_letters {w : World} {v : Value} {n : M.Nd} (h : NdV w v n) : ∃ (a0 b0 c0 : Option Addr) (an bn cn ac bc cc : Nat), v = .agg #[.bool n.leaf, .slice a0 an ac, .slice b0 bn bc, .slice c0 cn cc] := by
  obtain ⟨e0, ec, k0, kc, s0, sc, rfl, _⟩ := h
  exact ⟨e0, k0, s0, _, _, _, ec, kc, sc, rfl⟩
set_option maxRecDepth 100000 in
set_option maxHeartbeats 16000000 in
theorem nbytes_any (va : Value) (n : M.Nd) (b1 : UInt8) (body : ByteArray) (w : World) (ha : NdV w va n) :
    Calls Try.prog 16 #[va, .int .u8 (b1.toNat : Int), .string body] w fun r w' => r = .returned (.bool true) ∧ Below w.heap.size w w' := by
  have HVA := Lib.hid ha
  obtain ⟨l, es, ks, ss⟩ := n
  obtain ⟨e0, ec, k0, kc, s0, sc, rfl, _, _, _⟩ := ha
  dsimp only at HVA ⊢
  obtain ⟨kd, hkd⟩ : ∃ x : Int, (b1.toNat : Int) = x := ⟨_, rfl⟩
  rw [hkd]
  clear hkd
  obtain ⟨en, hen⟩ : ∃ x, es.length = x := ⟨_, rfl⟩
  obtain ⟨kn, hkn⟩ : ∃ x, ks.length = x := ⟨_, rfl⟩
  obtain ⟨sn, hsn⟩ : ∃ x, ss.length = x := ⟨_, rfl⟩
  rw [hen, hkn, hsn] at HVA ⊢
  clear hen hkn hsn
  go_enter Try.func16, Try.ntmps16
  go_upto_region 1 with (fail)
  obtain ⟨wa, hwa⟩ : ∃ W, w.alloc (.cells #[.bool l, .slice e0 en ec, .slice k0 kn kc, .slice s0 sn sc] 69) = W := ⟨_, rfl⟩
  have hx : Bx wa w.heap.size l (.slice e0 en ec) (.slice k0 kn kc) (.slice s0 sn sc) := by rw [← hwa]; exact Bx.new _ _ _ _ _ _
  have hba : Below w.heap.size w wa := by rw [← hwa]; exact (Below.refl _ w).alloc (Nat.le_refl _) _
  rw [hwa]
  clear hwa
  have HX := Lib.hid hx
  clear hx
  go_wp2_with fail
  refine (nworks_any _).mono ?_
  rintro r w1 ⟨rfl, hb1⟩
  have HX := Lib.hid (HX.out.below hb1)
  have hb1 := hba.trans (hb1.mono hba.size)
  clear hba
  obtain ⟨x0, x1, x2, x3⟩ := HX.out
  go_wp2_with fail
  refine (nover_any _ _ _ (HVA.out.below hb1)).mono ?_
  rintro r w2 ⟨much, rfl, hsm, hb2⟩
  have HX := Lib.hid (HX.out.below hb2)
  have HSM := Lib.hid hsm
  have hb2 := hb1.trans (hb2.mono hb1.size)
  clear hb1 hsm x0 x1 x2 x3
  rcases much with _ | _
  case true =>
    go_wp2
    go_ret
    exact ⟨rfl, hb2⟩
  by_cases hbs : 1000 < body.size
  · go_wp2
    go_ret
    exact ⟨rfl, hb2⟩
  have hbs : body.size ≤ 1000 := by omega
  have HBD := Lib.hid (small_bd (HSM.out rfl))
  have HVA := Lib.hid (HVA.out.below hb2)
  clear HSM
  obtain ⟨x0, x1, x2, x3⟩ := HX.out
  go_wp2_with fail
  refine (of_any _ ⟨l, es, ks, ss⟩ _ HVA.out).mono ?_
  rintro r w3 ⟨u, rfl, hu, hb3⟩
  have HU := Lib.hid hu
  obtain ⟨u0, u1, u2, un0, un1, un2, uc0, uc1, uc2, rfl⟩ := ndv_letters hu
  dsimp only at HU ⊢
  have HX := Lib.hid (HX.out.below hb3); have HVA := Lib.hid (HVA.out.below hb3)
  have hb3 := hb2.trans (hb3.mono hb2.size)
  clear hb2 hu x0 x1 x2 x3
  go_upto_region 8 with (fail)
  obtain ⟨w4, hw4⟩ : ∃ W, w3.alloc (.cells #[.bool l, .slice u0 un0 uc0, .slice u1 un1 uc1, .slice u2 un2 uc2] 73) = W := ⟨_, rfl⟩
  have hy : Bx w4 w3.heap.size l (.slice u0 un0 uc0) (.slice u1 un1 uc1) (.slice u2 un2 uc2) := by rw [← hw4]; exact Bx.new _ _ _ _ _ _
  have hb4 : Below w3.heap.size w3 w4 := by rw [← hw4]; exact (Below.refl _ w3).alloc (Nat.le_refl _) _
  rw [hw4]
  clear hw4
  have HY := Lib.hid hy
  have HX := Lib.hid (HX.out.below hb4); have HVA := Lib.hid (HVA.out.below hb4); have HU := Lib.hid (HU.out.below hb4)
  have hb4 := hb3.trans (hb4.mono hb3.size)
  obtain ⟨g3, hg3⟩ : ∃ g, w3.heap.size = g := ⟨_, rfl⟩
  rw [hg3] at HY ⊢
  clear hy hb3 hg3
  have HRR := Lib.hid (fun (W : World) (h : Below w4.heap.size w4 W) => rnright_any _ ⟨l, es, ks, ss⟩ W (HU.out.below h) HBD.out)
  have HRZ := Lib.hid (fun (W : World) (h : Below w4.heap.size w4 W) => rnsize_any _ ⟨l, es, ks, ss⟩ W (HU.out.below h) HBD.out)
  have HNR := Lib.hid (fun (W : World) (h : Below w4.heap.size w4 W) => nright_any _ ⟨l, es, ks, ss⟩ W (HVA.out.below h) HBD.out)
  have HNZ := Lib.hid (fun (W : World) (h : Below w4.heap.size w4 W) => nsize_any _ ⟨l, es, ks, ss⟩ W (HVA.out.below h) HBD.out)
  have HNF := Lib.hid (fun (W : World) (h : Below w4.heap.size w4 W) => fits_any _ ⟨l, es, ks, ss⟩ W (HVA.out.below h) HBD.out)
  have HNE := Lib.hid (fun (W : World) (h : Below w4.heap.size w4 W) => nencode_any _ ⟨l, es, ks, ss⟩ W (HVA.out.below h) HBD.out)
  obtain ⟨z, hz⟩ : ∃ x, M.nsz ⟨l, es, ks, ss⟩ = x := ⟨_, rfl⟩
  rw [hz] at HRZ HNZ
  have HZ := Lib.hid hz
  clear hz
  have hbb := Below.refl w4.heap.size w4
  by_cases ho : M.NOk ⟨l, es, ks, ss⟩
  case neg =>
    rw [decide_eq_false ho] at HRR HNR
    rw [decide_eq_false (fun h : fitsN ⟨l, es, ks, ss⟩ => ho h.1)] at HNF
    obtain ⟨x0, x1, x2, x3⟩ := HX.out
    obtain ⟨y0, y1, y2, y3⟩ := HY.out
    have HO := Lib.hid ho
    clear ho
    go_wp2_with fail
    refine (HRR.out _ hbb).mono ?_
    rintro r w5 ⟨rfl, hbn⟩
    have hbb := hbb.trans (hbn.mono hbb.size)
    clear hbn x0 x1 x2 x3 y0 y1 y2 y3
    obtain ⟨x0, x1, x2, x3⟩ := HX.out.below hbb
    obtain ⟨y0, y1, y2, y3⟩ := HY.out.below hbb
    go_wp2_with fail
    refine (HRZ.out _ hbb).mono ?_
    rintro r w6 ⟨rfl, hbn⟩
    have hbb := hbb.trans (hbn.mono hbb.size)
    clear hbn x0 x1 x2 x3 y0 y1 y2 y3
    obtain ⟨x0, x1, x2, x3⟩ := HX.out.below hbb
    obtain ⟨y0, y1, y2, y3⟩ := HY.out.below hbb
    go_wp2_with fail
    refine (HNR.out _ hbb).mono ?_
    rintro r w7 ⟨rfl, hbn⟩
    have hbb := hbb.trans (hbn.mono hbb.size)
    clear hbn x0 x1 x2 x3 y0 y1 y2 y3
    obtain ⟨x0, x1, x2, x3⟩ := HX.out.below hbb
    obtain ⟨y0, y1, y2, y3⟩ := HY.out.below hbb
    go_wp2_with fail
    refine (HNZ.out _ hbb).mono ?_
    rintro r w8 ⟨rfl, hbn⟩
    have hbb := hbb.trans (hbn.mono hbb.size)
    clear hbn x0 x1 x2 x3 y0 y1 y2 y3
    obtain ⟨x0, x1, x2, x3⟩ := HX.out.below hbb
    obtain ⟨y0, y1, y2, y3⟩ := HY.out.below hbb
    go_wp2_with fail
    refine (HNF.out _ hbb).mono ?_
    rintro r w9 ⟨rfl, hbn⟩
    have hbb := hbb.trans (hbn.mono hbb.size)
    clear hbn x0 x1 x2 x3 y0 y1 y2 y3
    obtain ⟨x0, x1, x2, x3⟩ := HX.out.below hbb
    obtain ⟨y0, y1, y2, y3⟩ := HY.out.below hbb
    go_wp2_with fail
    refine (HNE.out _ hbb).mono ?_
    rintro r w10 ⟨K, T, e, rfl, her, hbn⟩
    have hbb := hbb.trans (hbn.mono hbb.size)
    clear hbn x0 x1 x2 x3 y0 y1 y2 y3
    rcases her with ⟨_, hK, hT, he⟩ | ⟨h, _⟩ | ⟨h, _⟩
    case inr.inl => exact absurd h HO.out
    case inr.inr => exact absurd h HO.out
    subst hK hT he
    have hb5 := hb4.trans (hbb.mono hb4.size)
    skip
    clear hbb hb4
    go_wp2_with fail
    refine (ndecode_any kd body _ hbs).mono ?_
    rintro r w20 ⟨vm, m, ee, rfl, hvm, hdr, hb20⟩
    have HVM := Lib.hid hvm; have HDR := Lib.hid hdr
    obtain ⟨m0, m1, m2, mn0, mn1, mn2, mc0, mc1, mc2, rfl⟩ := ndv_letters hvm
    obtain ⟨ml, hml⟩ : ∃ x, m.leaf = x := ⟨_, rfl⟩
    rw [hml] at HVM ⊢
    have hb20 := hb5.trans (hb20.mono hb5.size)
    clear hb5 hvm hdr hml
    go_upto_region 25 with (fail)
    obtain ⟨w21, hw21⟩ : ∃ W, w20.alloc (.cells #[.bool ml, .slice m0 mn0 mc0, .slice m1 mn1 mc1, .slice m2 mn2 mc2] 69) = W := ⟨_, rfl⟩
    have hbx : Bx w21 w20.heap.size ml (.slice m0 mn0 mc0) (.slice m1 mn1 mc1) (.slice m2 mn2 mc2) := by rw [← hw21]; exact Bx.new _ _ _ _ _ _
    have hb21 : Below w20.heap.size w20 w21 := by rw [← hw21]; exact (Below.refl _ w20).alloc (Nat.le_refl _) _
    rw [hw21]
    clear hw21
    have HBX := Lib.hid hbx
    have HVM := Lib.hid (HVM.out.below hb21)
    have hb21 := hb20.trans (hb21.mono hb20.size)
    obtain ⟨g20, hg20⟩ : ∃ g, w20.heap.size = g := ⟨_, rfl⟩
    rw [hg20] at HBX ⊢
    clear hbx hb20 hg20
    go_wp2_with fail
    refine (nrdecode_any kd body _).mono ?_
    rintro r w22 ⟨vr, m', ok, rfl, hvr, hdr, hb22⟩
    obtain ⟨hmm, hff⟩ := drn_inj HDR.out hdr
    subst hmm
    have HF := Lib.hid hff
    have HVR := Lib.hid hvr
    obtain ⟨r0, r1, r2, rn0, rn1, rn2, rc0, rc1, rc2, rfl⟩ := ndv_letters hvr
    obtain ⟨rl, hrl⟩ : ∃ x, m.leaf = x := ⟨_, rfl⟩
    rw [hrl] at HVR ⊢
    have HBX := Lib.hid (HBX.out.below hb22); have HVM := Lib.hid (HVM.out.below hb22)
    have hb22 := hb21.trans (hb22.mono hb21.size)
    clear hb21 hvr hdr hrl hff HDR
    go_upto_region 26 with (fail)
    obtain ⟨w23, hw23⟩ : ∃ W, w22.alloc (.cells #[.bool rl, .slice r0 rn0 rc0, .slice r1 rn1 rc1, .slice r2 rn2 rc2] 73) = W := ⟨_, rfl⟩
    have hbx : Bx w23 w22.heap.size rl (.slice r0 rn0 rc0) (.slice r1 rn1 rc1) (.slice r2 rn2 rc2) := by rw [← hw23]; exact Bx.new _ _ _ _ _ _
    have hb23 : Below w22.heap.size w22 w23 := by rw [← hw23]; exact (Below.refl _ w22).alloc (Nat.le_refl _) _
    rw [hw23]
    clear hw23
    have HBR := Lib.hid hbx
    have HBX := Lib.hid (HBX.out.below hb23); have HVM := Lib.hid (HVM.out.below hb23); have HVR := Lib.hid (HVR.out.below hb23)
    have hb23 := hb22.trans (hb23.mono hb22.size)
    obtain ⟨g22, hg22⟩ : ∃ g, w22.heap.size = g := ⟨_, rfl⟩
    rw [hg22] at HBR ⊢
    clear hbx hb22 hg22
    refine wp_region_any (by kernel_rfl) ?_
    refine wpAny_upto_f 4 (fun f L a W => ∃ v118 v119 v120 v121 : Value, a = { tmps := List.toArray ((f 0) :: (f 1) :: (f 2) :: (f 3) :: (f 4) :: (f 5) :: (f 6) :: (.bool true) :: (f 8) :: (f 9) :: (f 10) :: (f 11) :: (f 12) :: (f 13) :: (f 14) :: (f 15) :: (.pointer (some ⟨g20, 0, none⟩)) :: (.int .i64 ee) :: (.pointer (some ⟨g22, 0, none⟩)) :: (.bool ok) :: (f 20) :: (f 21) :: (f 22) :: (f 23) :: (f 24) :: (f 25) :: (f 26) :: (f 27) :: (f 28) :: (f 29) :: (f 30) :: (f 31) :: (f 32) :: (f 33) :: (f 34) :: (f 35) :: (f 36) :: (f 37) :: (f 38) :: (f 39) :: (f 40) :: (f 41) :: (f 42) :: (f 43) :: (f 44) :: (f 45) :: (f 46) :: (f 47) :: (f 48) :: (f 49) :: (f 50) :: (f 51) :: (f 52) :: (f 53) :: (f 54) :: (f 55) :: (f 56) :: (f 57) :: (f 58) :: (f 59) :: (f 60) :: (f 61) :: (f 62) :: (f 63) :: (f 64) :: (f 65) :: (f 66) :: (f 67) :: (f 68) :: (f 69) :: (f 70) :: (f 71) :: (f 72) :: (f 73) :: (f 74) :: (f 75) :: (f 76) :: (f 77) :: (f 78) :: (f 79) :: (f 80) :: (f 81) :: (f 82) :: (f 83) :: (f 84) :: (f 85) :: (f 86) :: (f 87) :: (f 88) :: (f 89) :: (f 90) :: (f 91) :: (f 92) :: (f 93) :: (f 94) :: (f 95) :: (f 96) :: (f 97) :: (f 98) :: (f 99) :: (f 100) :: (f 101) :: (f 102) :: (f 103) :: (f 104) :: (f 105) :: (f 106) :: (f 107) :: (f 108) :: (f 109) :: (f 110) :: (f 111) :: (f 112) :: (f 113) :: (f 114) :: (f 115) :: (f 116) :: (f 117) :: v118 :: v119 :: v120 :: v121 :: (f 122) :: (f 123) :: (f 124) :: (f 125) :: (f 126) :: (f 127) :: (f 128) :: (f 129) :: (f 130) :: (f 131) :: (f 132) :: (f 133) :: (f 134) :: (f 135) :: (f 136) :: (f 137) :: (f 138) :: []), defers := [] } ∧ Below w23.heap.size w23 W ∧ (Lst L 0 → v118 = .agg #[.bool ml, .slice m0 mn0 mc0, .slice m1 mn1 mc1, .slice m2 mn2 mc2]) ∧ (Lst L 1 → NdV W v119 m) ∧ (Lst L 2 → v120 = .agg #[.bool rl, .slice r0 rn0 rc0, .slice r1 rn1 rc1, .slice r2 rn2 rc2]) ∧ (Lst L 3 → v121 = .bool true)) (by decide) (by kernel_rfl) (by kernel_rfl) ?step ?fin _ _ _ _ ?ini (by simp) (fun k _ => lst_none) (by simp)
    case ini => exact ⟨_, _, _, _, rfl, (Below.refl _ w23).drew, fun h => absurd h lst_none, fun h => absurd h lst_none, fun h => absurd h lst_none, fun h => absurd h lst_none⟩
    case step =>
      intro f L a W hI i him hi
      obtain ⟨v118, v119, v120, v121, rfl, hb, hf⟩ := hI
      have F := Lib.hid hf
      clear hf
      rcases (show i = 0 ∨ i = 1 ∨ i = 2 ∨ i = 3 by omega) with rfl | rfl | rfl | rfl
      · clear him
        obtain ⟨b0, b1, b2, b3⟩ := HBX.out.below hb
        have HI := Lib.hid hi
        clear hi
        refine wpOp_step (o := _) rfl (fun K' hK => ?_)
        have HK := Lib.hid hK
        clear hK
        go_simp
        refine HK.out _ _ ⟨_, _, _, _, rfl, hb, fun _ => rfl, fun h => F.out.2.1 (lst_old (by decide) h), fun h => F.out.2.2.1 (lst_old (by decide) h), fun h => F.out.2.2.2 (lst_old (by decide) h)⟩
      · clear him
        have p0 := F.out.1 (ready_needs hi (by kernel_rfl))
        subst p0
        have HI := Lib.hid hi
        clear hi
        refine wpOp_step (o := _) rfl (fun K' hK => ?_)
        have HK := Lib.hid hK
        clear hK
        go_simp
        refine (of_any _ m W (HVM.out.below hb)).mono ?_
        rintro r W2 ⟨x, rfl, hown, hb2⟩
        refine HK.out _ _ ⟨_, _, _, _, rfl, (hb.trans (hb2.mono hb.size)), fun h => F.out.1 (lst_old (by decide) h), fun _ => hown, fun h => F.out.2.2.1 (lst_old (by decide) h), fun h => (fun h _ => h) (F.out.2.2.2 (lst_old (by decide) h)) hb2⟩
      · clear him
        obtain ⟨b0, b1, b2, b3⟩ := HBR.out.below hb
        have HI := Lib.hid hi
        clear hi
        refine wpOp_step (o := _) rfl (fun K' hK => ?_)
        have HK := Lib.hid hK
        clear hK
        go_simp
        refine HK.out _ _ ⟨_, _, _, _, rfl, hb, fun h => F.out.1 (lst_old (by decide) h), fun h => F.out.2.1 (lst_old (by decide) h), fun _ => rfl, fun h => F.out.2.2.2 (lst_old (by decide) h)⟩
      · clear him
        have p1 := F.out.2.1 (ready_needs hi (by kernel_rfl))
        have p2 := F.out.2.2.1 (ready_needs hi (by kernel_rfl))
        have P1 := Lib.hid p1
        clear p1
        subst p2
        have HI := Lib.hid hi
        clear hi
        refine wpOp_step (o := _) rfl (fun K' hK => ?_)
        have HK := Lib.hid hK
        clear hK
        go_simp
        refine (nsame_any _ _ m m W P1.out (HVR.out.below hb)).mono ?_
        rintro r W2 ⟨rfl, hb2⟩
        refine HK.out _ _ ⟨_, _, _, _, rfl, (hb.trans (hb2.mono hb.size)), fun h => F.out.1 (lst_old (by decide) h), fun h => NdV.below (F.out.2.1 (lst_old (by decide) h)) hb2, fun h => F.out.2.2.1 (lst_old (by decide) h), fun _ => (by rw [decide_eq_true rfl])⟩
    case fin =>
      intro f a W hI
      obtain ⟨v118, v119, v120, v121, rfl, hb, hf⟩ := hI
      have p0 := hf.1 rfl
      have p1 := hf.2.1 rfl
      have p2 := hf.2.2.1 rfl
      have p3 := hf.2.2.2 rfl
      clear hf
      subst p0
      clear p1
      subst p2
      subst p3
      refine wpAny_all (rs := [4]) (by kernel_rfl) (by simp) ?_
      intro i2 hi2
      obtain rfl := List.mem_singleton.1 hi2
      refine wpOp_step (o := _) rfl (fun K' hK => ?_)
      have HKK := Lib.hid hK
      clear hK
      go_simp
      refine HKK.out _ _ (wpAny_done (by kernel_rfl) ?_ _)
      have hb24 := hb23.trans (hb.mono hb23.size)
      clear hb hb23 HBX HBR HVM HVR
      have hff := HF.out
      rcases ok with _ | _
      · obtain rfl : ee = 3 := by simpa using hff
        clear hff HF
        go_wp2
        go_ret
        exact ⟨rfl, hb24⟩
      · obtain rfl : ee = 0 := by simpa using hff
        clear hff HF
        go_wp2
        go_ret
        exact ⟨rfl, hb24⟩
  by_cases hz : 240 < z
  case pos =>
    rw [decide_eq_true ho] at HRR HNR
    rw [decide_eq_false (fun h : fitsN ⟨l, es, ks, ss⟩ => by have := h.2; have := HZ.out; omega)] at HNF
    obtain ⟨x0, x1, x2, x3⟩ := HX.out
    obtain ⟨y0, y1, y2, y3⟩ := HY.out
    have HO := Lib.hid ho
    clear ho
    have q1 : decide ((z : Int) ≤ 240) = false := decide_eq_false (by omega)
    have q2 : decide ((240 : Int) < (z : Int)) = true := decide_eq_true (by omega)
    go_wp2_with fail
    refine (HRR.out _ hbb).mono ?_
    rintro r w5 ⟨rfl, hbn⟩
    have hbb := hbb.trans (hbn.mono hbb.size)
    clear hbn x0 x1 x2 x3 y0 y1 y2 y3
    obtain ⟨x0, x1, x2, x3⟩ := HX.out.below hbb
    obtain ⟨y0, y1, y2, y3⟩ := HY.out.below hbb
    go_wp2_with fail
    refine (HRZ.out _ hbb).mono ?_
    rintro r w6 ⟨rfl, hbn⟩
    have hbb := hbb.trans (hbn.mono hbb.size)
    clear hbn x0 x1 x2 x3 y0 y1 y2 y3
    obtain ⟨x0, x1, x2, x3⟩ := HX.out.below hbb
    obtain ⟨y0, y1, y2, y3⟩ := HY.out.below hbb
    go_wp2_with fail
    refine (HNR.out _ hbb).mono ?_
    rintro r w7 ⟨rfl, hbn⟩
    have hbb := hbb.trans (hbn.mono hbb.size)
    clear hbn x0 x1 x2 x3 y0 y1 y2 y3
    obtain ⟨x0, x1, x2, x3⟩ := HX.out.below hbb
    obtain ⟨y0, y1, y2, y3⟩ := HY.out.below hbb
    go_wp2_with fail
    refine (HNZ.out _ hbb).mono ?_
    rintro r w8 ⟨rfl, hbn⟩
    have hbb := hbb.trans (hbn.mono hbb.size)
    clear hbn x0 x1 x2 x3 y0 y1 y2 y3
    obtain ⟨x0, x1, x2, x3⟩ := HX.out.below hbb
    obtain ⟨y0, y1, y2, y3⟩ := HY.out.below hbb
    go_wp2_with fail
    refine (HNF.out _ hbb).mono ?_
    rintro r w9 ⟨rfl, hbn⟩
    have hbb := hbb.trans (hbn.mono hbb.size)
    clear hbn x0 x1 x2 x3 y0 y1 y2 y3
    obtain ⟨x0, x1, x2, x3⟩ := HX.out.below hbb
    obtain ⟨y0, y1, y2, y3⟩ := HY.out.below hbb
    go_wp2_with fail
    refine (HNE.out _ hbb).mono ?_
    rintro r w10 ⟨K, T, e, rfl, her, hbn⟩
    have hbb := hbb.trans (hbn.mono hbb.size)
    clear hbn x0 x1 x2 x3 y0 y1 y2 y3
    rcases her with ⟨h, _⟩ | ⟨_, _, hK, hT, he⟩ | ⟨_, h, _⟩
    case inl => exact absurd HO.out h
    case inr.inr => exact absurd h (by rw [HZ.out]; omega)
    subst hK hT he
    have hb5 := hb4.trans (hbb.mono hb4.size)
    skip
    clear hbb hb4
    go_wp2_with fail
    refine (ndecode_any kd body _ hbs).mono ?_
    rintro r w20 ⟨vm, m, ee, rfl, hvm, hdr, hb20⟩
    have HVM := Lib.hid hvm; have HDR := Lib.hid hdr
    obtain ⟨m0, m1, m2, mn0, mn1, mn2, mc0, mc1, mc2, rfl⟩ := ndv_letters hvm
    obtain ⟨ml, hml⟩ : ∃ x, m.leaf = x := ⟨_, rfl⟩
    rw [hml] at HVM ⊢
    have hb20 := hb5.trans (hb20.mono hb5.size)
    clear hb5 hvm hdr hml
    go_upto_region 25 with (fail)
    obtain ⟨w21, hw21⟩ : ∃ W, w20.alloc (.cells #[.bool ml, .slice m0 mn0 mc0, .slice m1 mn1 mc1, .slice m2 mn2 mc2] 69) = W := ⟨_, rfl⟩
    have hbx : Bx w21 w20.heap.size ml (.slice m0 mn0 mc0) (.slice m1 mn1 mc1) (.slice m2 mn2 mc2) := by rw [← hw21]; exact Bx.new _ _ _ _ _ _
    have hb21 : Below w20.heap.size w20 w21 := by rw [← hw21]; exact (Below.refl _ w20).alloc (Nat.le_refl _) _
    rw [hw21]
    clear hw21
    have HBX := Lib.hid hbx
    have HVM := Lib.hid (HVM.out.below hb21)
    have hb21 := hb20.trans (hb21.mono hb20.size)
    obtain ⟨g20, hg20⟩ : ∃ g, w20.heap.size = g := ⟨_, rfl⟩
    rw [hg20] at HBX ⊢
    clear hbx hb20 hg20
    go_wp2_with fail
    refine (nrdecode_any kd body _).mono ?_
    rintro r w22 ⟨vr, m', ok, rfl, hvr, hdr, hb22⟩
    obtain ⟨hmm, hff⟩ := drn_inj HDR.out hdr
    subst hmm
    have HF := Lib.hid hff
    have HVR := Lib.hid hvr
    obtain ⟨r0, r1, r2, rn0, rn1, rn2, rc0, rc1, rc2, rfl⟩ := ndv_letters hvr
    obtain ⟨rl, hrl⟩ : ∃ x, m.leaf = x := ⟨_, rfl⟩
    rw [hrl] at HVR ⊢
    have HBX := Lib.hid (HBX.out.below hb22); have HVM := Lib.hid (HVM.out.below hb22)
    have hb22 := hb21.trans (hb22.mono hb21.size)
    clear hb21 hvr hdr hrl hff HDR
    go_upto_region 26 with (fail)
    obtain ⟨w23, hw23⟩ : ∃ W, w22.alloc (.cells #[.bool rl, .slice r0 rn0 rc0, .slice r1 rn1 rc1, .slice r2 rn2 rc2] 73) = W := ⟨_, rfl⟩
    have hbx : Bx w23 w22.heap.size rl (.slice r0 rn0 rc0) (.slice r1 rn1 rc1) (.slice r2 rn2 rc2) := by rw [← hw23]; exact Bx.new _ _ _ _ _ _
    have hb23 : Below w22.heap.size w22 w23 := by rw [← hw23]; exact (Below.refl _ w22).alloc (Nat.le_refl _) _
    rw [hw23]
    clear hw23
    have HBR := Lib.hid hbx
    have HBX := Lib.hid (HBX.out.below hb23); have HVM := Lib.hid (HVM.out.below hb23); have HVR := Lib.hid (HVR.out.below hb23)
    have hb23 := hb22.trans (hb23.mono hb22.size)
    obtain ⟨g22, hg22⟩ : ∃ g, w22.heap.size = g := ⟨_, rfl⟩
    rw [hg22] at HBR ⊢
    clear hbx hb22 hg22
    refine wp_region_any (by kernel_rfl) ?_
    refine wpAny_upto_f 4 (fun f L a W => ∃ v118 v119 v120 v121 : Value, a = { tmps := List.toArray ((f 0) :: (f 1) :: (f 2) :: (f 3) :: (f 4) :: (f 5) :: (f 6) :: (.bool true) :: (f 8) :: (f 9) :: (f 10) :: (f 11) :: (f 12) :: (f 13) :: (f 14) :: (f 15) :: (.pointer (some ⟨g20, 0, none⟩)) :: (.int .i64 ee) :: (.pointer (some ⟨g22, 0, none⟩)) :: (.bool ok) :: (f 20) :: (f 21) :: (f 22) :: (f 23) :: (f 24) :: (f 25) :: (f 26) :: (f 27) :: (f 28) :: (f 29) :: (f 30) :: (f 31) :: (f 32) :: (f 33) :: (f 34) :: (f 35) :: (f 36) :: (f 37) :: (f 38) :: (f 39) :: (f 40) :: (f 41) :: (f 42) :: (f 43) :: (f 44) :: (f 45) :: (f 46) :: (f 47) :: (f 48) :: (f 49) :: (f 50) :: (f 51) :: (f 52) :: (f 53) :: (f 54) :: (f 55) :: (f 56) :: (f 57) :: (f 58) :: (f 59) :: (f 60) :: (f 61) :: (f 62) :: (f 63) :: (f 64) :: (f 65) :: (f 66) :: (f 67) :: (f 68) :: (f 69) :: (f 70) :: (f 71) :: (f 72) :: (f 73) :: (f 74) :: (f 75) :: (f 76) :: (f 77) :: (f 78) :: (f 79) :: (f 80) :: (f 81) :: (f 82) :: (f 83) :: (f 84) :: (f 85) :: (f 86) :: (f 87) :: (f 88) :: (f 89) :: (f 90) :: (f 91) :: (f 92) :: (f 93) :: (f 94) :: (f 95) :: (f 96) :: (f 97) :: (f 98) :: (f 99) :: (f 100) :: (f 101) :: (f 102) :: (f 103) :: (f 104) :: (f 105) :: (f 106) :: (f 107) :: (f 108) :: (f 109) :: (f 110) :: (f 111) :: (f 112) :: (f 113) :: (f 114) :: (f 115) :: (f 116) :: (f 117) :: v118 :: v119 :: v120 :: v121 :: (f 122) :: (f 123) :: (f 124) :: (f 125) :: (f 126) :: (f 127) :: (f 128) :: (f 129) :: (f 130) :: (f 131) :: (f 132) :: (f 133) :: (f 134) :: (f 135) :: (f 136) :: (f 137) :: (f 138) :: []), defers := [] } ∧ Below w23.heap.size w23 W ∧ (Lst L 0 → v118 = .agg #[.bool ml, .slice m0 mn0 mc0, .slice m1 mn1 mc1, .slice m2 mn2 mc2]) ∧ (Lst L 1 → NdV W v119 m) ∧ (Lst L 2 → v120 = .agg #[.bool rl, .slice r0 rn0 rc0, .slice r1 rn1 rc1, .slice r2 rn2 rc2]) ∧ (Lst L 3 → v121 = .bool true)) (by decide) (by kernel_rfl) (by kernel_rfl) ?step ?fin _ _ _ _ ?ini (by simp) (fun k _ => lst_none) (by simp)
    case ini => exact ⟨_, _, _, _, rfl, (Below.refl _ w23).drew, fun h => absurd h lst_none, fun h => absurd h lst_none, fun h => absurd h lst_none, fun h => absurd h lst_none⟩
    case step =>
      intro f L a W hI i him hi
      obtain ⟨v118, v119, v120, v121, rfl, hb, hf⟩ := hI
      have F := Lib.hid hf
      clear hf
      rcases (show i = 0 ∨ i = 1 ∨ i = 2 ∨ i = 3 by omega) with rfl | rfl | rfl | rfl
      · clear him
        obtain ⟨b0, b1, b2, b3⟩ := HBX.out.below hb
        have HI := Lib.hid hi
        clear hi
        refine wpOp_step (o := _) rfl (fun K' hK => ?_)
        have HK := Lib.hid hK
        clear hK
        go_simp
        refine HK.out _ _ ⟨_, _, _, _, rfl, hb, fun _ => rfl, fun h => F.out.2.1 (lst_old (by decide) h), fun h => F.out.2.2.1 (lst_old (by decide) h), fun h => F.out.2.2.2 (lst_old (by decide) h)⟩
      · clear him
        have p0 := F.out.1 (ready_needs hi (by kernel_rfl))
        subst p0
        have HI := Lib.hid hi
        clear hi
        refine wpOp_step (o := _) rfl (fun K' hK => ?_)
        have HK := Lib.hid hK
        clear hK
        go_simp
        refine (of_any _ m W (HVM.out.below hb)).mono ?_
        rintro r W2 ⟨x, rfl, hown, hb2⟩
        refine HK.out _ _ ⟨_, _, _, _, rfl, (hb.trans (hb2.mono hb.size)), fun h => F.out.1 (lst_old (by decide) h), fun _ => hown, fun h => F.out.2.2.1 (lst_old (by decide) h), fun h => (fun h _ => h) (F.out.2.2.2 (lst_old (by decide) h)) hb2⟩
      · clear him
        obtain ⟨b0, b1, b2, b3⟩ := HBR.out.below hb
        have HI := Lib.hid hi
        clear hi
        refine wpOp_step (o := _) rfl (fun K' hK => ?_)
        have HK := Lib.hid hK
        clear hK
        go_simp
        refine HK.out _ _ ⟨_, _, _, _, rfl, hb, fun h => F.out.1 (lst_old (by decide) h), fun h => F.out.2.1 (lst_old (by decide) h), fun _ => rfl, fun h => F.out.2.2.2 (lst_old (by decide) h)⟩
      · clear him
        have p1 := F.out.2.1 (ready_needs hi (by kernel_rfl))
        have p2 := F.out.2.2.1 (ready_needs hi (by kernel_rfl))
        have P1 := Lib.hid p1
        clear p1
        subst p2
        have HI := Lib.hid hi
        clear hi
        refine wpOp_step (o := _) rfl (fun K' hK => ?_)
        have HK := Lib.hid hK
        clear hK
        go_simp
        refine (nsame_any _ _ m m W P1.out (HVR.out.below hb)).mono ?_
        rintro r W2 ⟨rfl, hb2⟩
        refine HK.out _ _ ⟨_, _, _, _, rfl, (hb.trans (hb2.mono hb.size)), fun h => F.out.1 (lst_old (by decide) h), fun h => NdV.below (F.out.2.1 (lst_old (by decide) h)) hb2, fun h => F.out.2.2.1 (lst_old (by decide) h), fun _ => (by rw [decide_eq_true rfl])⟩
    case fin =>
      intro f a W hI
      obtain ⟨v118, v119, v120, v121, rfl, hb, hf⟩ := hI
      have p0 := hf.1 rfl
      have p1 := hf.2.1 rfl
      have p2 := hf.2.2.1 rfl
      have p3 := hf.2.2.2 rfl
      clear hf
      subst p0
      clear p1
      subst p2
      subst p3
      refine wpAny_all (rs := [4]) (by kernel_rfl) (by simp) ?_
      intro i2 hi2
      obtain rfl := List.mem_singleton.1 hi2
      refine wpOp_step (o := _) rfl (fun K' hK => ?_)
      have HKK := Lib.hid hK
      clear hK
      go_simp
      refine HKK.out _ _ (wpAny_done (by kernel_rfl) ?_ _)
      have hb24 := hb23.trans (hb.mono hb23.size)
      clear hb hb23 HBX HBR HVM HVR
      have hff := HF.out
      rcases ok with _ | _
      · obtain rfl : ee = 3 := by simpa using hff
        clear hff HF
        go_wp2
        go_ret
        exact ⟨rfl, hb24⟩
      · obtain rfl : ee = 0 := by simpa using hff
        clear hff HF
        go_wp2
        go_ret
        exact ⟨rfl, hb24⟩
  have hz : z ≤ 240 := by omega
  rw [decide_eq_true ho] at HRR HNR
  rw [decide_eq_true (show fitsN ⟨l, es, ks, ss⟩ from ⟨ho, by rw [HZ.out]; exact hz⟩)] at HNF
  obtain ⟨x0, x1, x2, x3⟩ := HX.out
  obtain ⟨y0, y1, y2, y3⟩ := HY.out
  have HO := Lib.hid ho
  clear ho
  have q1 : decide ((z : Int) ≤ 240) = true := decide_eq_true (by omega)
  have q2 : decide ((240 : Int) < (z : Int)) = false := decide_eq_false (by omega)
  go_wp2_with fail
  refine (HRR.out _ hbb).mono ?_
  rintro r w5 ⟨rfl, hbn⟩
  have hbb := hbb.trans (hbn.mono hbb.size)
  clear hbn x0 x1 x2 x3 y0 y1 y2 y3
  obtain ⟨x0, x1, x2, x3⟩ := HX.out.below hbb
  obtain ⟨y0, y1, y2, y3⟩ := HY.out.below hbb
  go_wp2_with fail
  refine (HRZ.out _ hbb).mono ?_
  rintro r w6 ⟨rfl, hbn⟩
  have hbb := hbb.trans (hbn.mono hbb.size)
  clear hbn x0 x1 x2 x3 y0 y1 y2 y3
  obtain ⟨x0, x1, x2, x3⟩ := HX.out.below hbb
  obtain ⟨y0, y1, y2, y3⟩ := HY.out.below hbb
  go_wp2_with fail
  refine (HNR.out _ hbb).mono ?_
  rintro r w7 ⟨rfl, hbn⟩
  have hbb := hbb.trans (hbn.mono hbb.size)
  clear hbn x0 x1 x2 x3 y0 y1 y2 y3
  obtain ⟨x0, x1, x2, x3⟩ := HX.out.below hbb
  obtain ⟨y0, y1, y2, y3⟩ := HY.out.below hbb
  go_wp2_with fail
  refine (HNZ.out _ hbb).mono ?_
  rintro r w8 ⟨rfl, hbn⟩
  have hbb := hbb.trans (hbn.mono hbb.size)
  clear hbn x0 x1 x2 x3 y0 y1 y2 y3
  obtain ⟨x0, x1, x2, x3⟩ := HX.out.below hbb
  obtain ⟨y0, y1, y2, y3⟩ := HY.out.below hbb
  go_wp2_with fail
  refine (HNF.out _ hbb).mono ?_
  rintro r w9 ⟨rfl, hbn⟩
  have hbb := hbb.trans (hbn.mono hbb.size)
  clear hbn x0 x1 x2 x3 y0 y1 y2 y3
  obtain ⟨x0, x1, x2, x3⟩ := HX.out.below hbb
  obtain ⟨y0, y1, y2, y3⟩ := HY.out.below hbb
  go_wp2_with fail
  refine (HNE.out _ hbb).mono ?_
  rintro r w10 ⟨K, T, e, rfl, her, hbn⟩
  have hbb := hbb.trans (hbn.mono hbb.size)
  clear hbn x0 x1 x2 x3 y0 y1 y2 y3
  rcases her with ⟨h, _⟩ | ⟨_, h, _⟩ | ⟨_, _, hK, hT, he⟩
  case inl => exact absurd HO.out h
  case inr.inl => exact absurd h (by rw [HZ.out]; omega)
  subst he
  have HBY := Lib.hid (body_any _ ⟨l, es, ks, ss⟩ w10 (HU.out.below hbb) HBD.out HO.out)
  rw [← hT] at HBY
  have hq : (T.toList == T.toList) = true := str_eq rfl
  clear hT
  have HK := Lib.hid hK
  clear hK
  rcases l with _ | _
  · obtain rfl : K = 2 := HK.out
    clear HK
    obtain ⟨x0, x1, x2, x3⟩ := HX.out.below hbb
    obtain ⟨y0, y1, y2, y3⟩ := HY.out.below hbb
    go_wp2_with fail
    refine HBY.out.mono ?_
    rintro r w11 ⟨rfl, hbn⟩
    have hbb := hbb.trans (hbn.mono hbb.size)
    clear hbn x0 x1 x2 x3 y0 y1 y2 y3 HBY
    have hb5 := hb4.trans (hbb.mono hb4.size)
    clear hbb hb4 hz
    go_wp2_with fail
    refine (ndecode_any kd body _ hbs).mono ?_
    rintro r w20 ⟨vm, m, ee, rfl, hvm, hdr, hb20⟩
    have HVM := Lib.hid hvm; have HDR := Lib.hid hdr
    obtain ⟨m0, m1, m2, mn0, mn1, mn2, mc0, mc1, mc2, rfl⟩ := ndv_letters hvm
    obtain ⟨ml, hml⟩ : ∃ x, m.leaf = x := ⟨_, rfl⟩
    rw [hml] at HVM ⊢
    have hb20 := hb5.trans (hb20.mono hb5.size)
    clear hb5 hvm hdr hml
    go_upto_region 25 with (fail)
    obtain ⟨w21, hw21⟩ : ∃ W, w20.alloc (.cells #[.bool ml, .slice m0 mn0 mc0, .slice m1 mn1 mc1, .slice m2 mn2 mc2] 69) = W := ⟨_, rfl⟩
    have hbx : Bx w21 w20.heap.size ml (.slice m0 mn0 mc0) (.slice m1 mn1 mc1) (.slice m2 mn2 mc2) := by rw [← hw21]; exact Bx.new _ _ _ _ _ _
    have hb21 : Below w20.heap.size w20 w21 := by rw [← hw21]; exact (Below.refl _ w20).alloc (Nat.le_refl _) _
    rw [hw21]
    clear hw21
    have HBX := Lib.hid hbx
    have HVM := Lib.hid (HVM.out.below hb21)
    have hb21 := hb20.trans (hb21.mono hb20.size)
    obtain ⟨g20, hg20⟩ : ∃ g, w20.heap.size = g := ⟨_, rfl⟩
    rw [hg20] at HBX ⊢
    clear hbx hb20 hg20
    go_wp2_with fail
    refine (nrdecode_any kd body _).mono ?_
    rintro r w22 ⟨vr, m', ok, rfl, hvr, hdr, hb22⟩
    obtain ⟨hmm, hff⟩ := drn_inj HDR.out hdr
    subst hmm
    have HF := Lib.hid hff
    have HVR := Lib.hid hvr
    obtain ⟨r0, r1, r2, rn0, rn1, rn2, rc0, rc1, rc2, rfl⟩ := ndv_letters hvr
    obtain ⟨rl, hrl⟩ : ∃ x, m.leaf = x := ⟨_, rfl⟩
    rw [hrl] at HVR ⊢
    have HBX := Lib.hid (HBX.out.below hb22); have HVM := Lib.hid (HVM.out.below hb22)
    have hb22 := hb21.trans (hb22.mono hb21.size)
    clear hb21 hvr hdr hrl hff HDR
    go_upto_region 26 with (fail)
    obtain ⟨w23, hw23⟩ : ∃ W, w22.alloc (.cells #[.bool rl, .slice r0 rn0 rc0, .slice r1 rn1 rc1, .slice r2 rn2 rc2] 73) = W := ⟨_, rfl⟩
    have hbx : Bx w23 w22.heap.size rl (.slice r0 rn0 rc0) (.slice r1 rn1 rc1) (.slice r2 rn2 rc2) := by rw [← hw23]; exact Bx.new _ _ _ _ _ _
    have hb23 : Below w22.heap.size w22 w23 := by rw [← hw23]; exact (Below.refl _ w22).alloc (Nat.le_refl _) _
    rw [hw23]
    clear hw23
    have HBR := Lib.hid hbx
    have HBX := Lib.hid (HBX.out.below hb23); have HVM := Lib.hid (HVM.out.below hb23); have HVR := Lib.hid (HVR.out.below hb23)
    have hb23 := hb22.trans (hb23.mono hb22.size)
    obtain ⟨g22, hg22⟩ : ∃ g, w22.heap.size = g := ⟨_, rfl⟩
    rw [hg22] at HBR ⊢
    clear hbx hb22 hg22
    refine wp_region_any (by kernel_rfl) ?_
    refine wpAny_upto_f 4 (fun f L a W => ∃ v118 v119 v120 v121 : Value, a = { tmps := List.toArray ((f 0) :: (f 1) :: (f 2) :: (f 3) :: (f 4) :: (f 5) :: (f 6) :: (.bool true) :: (f 8) :: (f 9) :: (f 10) :: (f 11) :: (f 12) :: (f 13) :: (f 14) :: (f 15) :: (.pointer (some ⟨g20, 0, none⟩)) :: (.int .i64 ee) :: (.pointer (some ⟨g22, 0, none⟩)) :: (.bool ok) :: (f 20) :: (f 21) :: (f 22) :: (f 23) :: (f 24) :: (f 25) :: (f 26) :: (f 27) :: (f 28) :: (f 29) :: (f 30) :: (f 31) :: (f 32) :: (f 33) :: (f 34) :: (f 35) :: (f 36) :: (f 37) :: (f 38) :: (f 39) :: (f 40) :: (f 41) :: (f 42) :: (f 43) :: (f 44) :: (f 45) :: (f 46) :: (f 47) :: (f 48) :: (f 49) :: (f 50) :: (f 51) :: (f 52) :: (f 53) :: (f 54) :: (f 55) :: (f 56) :: (f 57) :: (f 58) :: (f 59) :: (f 60) :: (f 61) :: (f 62) :: (f 63) :: (f 64) :: (f 65) :: (f 66) :: (f 67) :: (f 68) :: (f 69) :: (f 70) :: (f 71) :: (f 72) :: (f 73) :: (f 74) :: (f 75) :: (f 76) :: (f 77) :: (f 78) :: (f 79) :: (f 80) :: (f 81) :: (f 82) :: (f 83) :: (f 84) :: (f 85) :: (f 86) :: (f 87) :: (f 88) :: (f 89) :: (f 90) :: (f 91) :: (f 92) :: (f 93) :: (f 94) :: (f 95) :: (f 96) :: (f 97) :: (f 98) :: (f 99) :: (f 100) :: (f 101) :: (f 102) :: (f 103) :: (f 104) :: (f 105) :: (f 106) :: (f 107) :: (f 108) :: (f 109) :: (f 110) :: (f 111) :: (f 112) :: (f 113) :: (f 114) :: (f 115) :: (f 116) :: (f 117) :: v118 :: v119 :: v120 :: v121 :: (f 122) :: (f 123) :: (f 124) :: (f 125) :: (f 126) :: (f 127) :: (f 128) :: (f 129) :: (f 130) :: (f 131) :: (f 132) :: (f 133) :: (f 134) :: (f 135) :: (f 136) :: (f 137) :: (f 138) :: []), defers := [] } ∧ Below w23.heap.size w23 W ∧ (Lst L 0 → v118 = .agg #[.bool ml, .slice m0 mn0 mc0, .slice m1 mn1 mc1, .slice m2 mn2 mc2]) ∧ (Lst L 1 → NdV W v119 m) ∧ (Lst L 2 → v120 = .agg #[.bool rl, .slice r0 rn0 rc0, .slice r1 rn1 rc1, .slice r2 rn2 rc2]) ∧ (Lst L 3 → v121 = .bool true)) (by decide) (by kernel_rfl) (by kernel_rfl) ?step ?fin _ _ _ _ ?ini (by simp) (fun k _ => lst_none) (by simp)
    case ini => exact ⟨_, _, _, _, rfl, (Below.refl _ w23).drew, fun h => absurd h lst_none, fun h => absurd h lst_none, fun h => absurd h lst_none, fun h => absurd h lst_none⟩
    case step =>
      intro f L a W hI i him hi
      obtain ⟨v118, v119, v120, v121, rfl, hb, hf⟩ := hI
      have F := Lib.hid hf
      clear hf
      rcases (show i = 0 ∨ i = 1 ∨ i = 2 ∨ i = 3 by omega) with rfl | rfl | rfl | rfl
      · clear him
        obtain ⟨b0, b1, b2, b3⟩ := HBX.out.below hb
        have HI := Lib.hid hi
        clear hi
        refine wpOp_step (o := _) rfl (fun K' hK => ?_)
        have HK := Lib.hid hK
        clear hK
        go_simp
        refine HK.out _ _ ⟨_, _, _, _, rfl, hb, fun _ => rfl, fun h => F.out.2.1 (lst_old (by decide) h), fun h => F.out.2.2.1 (lst_old (by decide) h), fun h => F.out.2.2.2 (lst_old (by decide) h)⟩
      · clear him
        have p0 := F.out.1 (ready_needs hi (by kernel_rfl))
        subst p0
        have HI := Lib.hid hi
        clear hi
        refine wpOp_step (o := _) rfl (fun K' hK => ?_)
        have HK := Lib.hid hK
        clear hK
        go_simp
        refine (of_any _ m W (HVM.out.below hb)).mono ?_
        rintro r W2 ⟨x, rfl, hown, hb2⟩
        refine HK.out _ _ ⟨_, _, _, _, rfl, (hb.trans (hb2.mono hb.size)), fun h => F.out.1 (lst_old (by decide) h), fun _ => hown, fun h => F.out.2.2.1 (lst_old (by decide) h), fun h => (fun h _ => h) (F.out.2.2.2 (lst_old (by decide) h)) hb2⟩
      · clear him
        obtain ⟨b0, b1, b2, b3⟩ := HBR.out.below hb
        have HI := Lib.hid hi
        clear hi
        refine wpOp_step (o := _) rfl (fun K' hK => ?_)
        have HK := Lib.hid hK
        clear hK
        go_simp
        refine HK.out _ _ ⟨_, _, _, _, rfl, hb, fun h => F.out.1 (lst_old (by decide) h), fun h => F.out.2.1 (lst_old (by decide) h), fun _ => rfl, fun h => F.out.2.2.2 (lst_old (by decide) h)⟩
      · clear him
        have p1 := F.out.2.1 (ready_needs hi (by kernel_rfl))
        have p2 := F.out.2.2.1 (ready_needs hi (by kernel_rfl))
        have P1 := Lib.hid p1
        clear p1
        subst p2
        have HI := Lib.hid hi
        clear hi
        refine wpOp_step (o := _) rfl (fun K' hK => ?_)
        have HK := Lib.hid hK
        clear hK
        go_simp
        refine (nsame_any _ _ m m W P1.out (HVR.out.below hb)).mono ?_
        rintro r W2 ⟨rfl, hb2⟩
        refine HK.out _ _ ⟨_, _, _, _, rfl, (hb.trans (hb2.mono hb.size)), fun h => F.out.1 (lst_old (by decide) h), fun h => NdV.below (F.out.2.1 (lst_old (by decide) h)) hb2, fun h => F.out.2.2.1 (lst_old (by decide) h), fun _ => (by rw [decide_eq_true rfl])⟩
    case fin =>
      intro f a W hI
      obtain ⟨v118, v119, v120, v121, rfl, hb, hf⟩ := hI
      have p0 := hf.1 rfl
      have p1 := hf.2.1 rfl
      have p2 := hf.2.2.1 rfl
      have p3 := hf.2.2.2 rfl
      clear hf
      subst p0
      clear p1
      subst p2
      subst p3
      refine wpAny_all (rs := [4]) (by kernel_rfl) (by simp) ?_
      intro i2 hi2
      obtain rfl := List.mem_singleton.1 hi2
      refine wpOp_step (o := _) rfl (fun K' hK => ?_)
      have HKK := Lib.hid hK
      clear hK
      go_simp
      refine HKK.out _ _ (wpAny_done (by kernel_rfl) ?_ _)
      have hb24 := hb23.trans (hb.mono hb23.size)
      clear hb hb23 HBX HBR HVM HVR
      have hff := HF.out
      rcases ok with _ | _
      · obtain rfl : ee = 3 := by simpa using hff
        clear hff HF
        go_wp2
        go_ret
        exact ⟨rfl, hb24⟩
      · obtain rfl : ee = 0 := by simpa using hff
        clear hff HF
        go_wp2
        go_ret
        exact ⟨rfl, hb24⟩
  · obtain rfl : K = 1 := HK.out
    clear HK
    obtain ⟨x0, x1, x2, x3⟩ := HX.out.below hbb
    obtain ⟨y0, y1, y2, y3⟩ := HY.out.below hbb
    go_wp2_with fail
    refine HBY.out.mono ?_
    rintro r w11 ⟨rfl, hbn⟩
    have hbb := hbb.trans (hbn.mono hbb.size)
    clear hbn x0 x1 x2 x3 y0 y1 y2 y3 HBY
    have hb5 := hb4.trans (hbb.mono hb4.size)
    clear hbb hb4 hz
    go_wp2_with fail
    refine (ndecode_any kd body _ hbs).mono ?_
    rintro r w20 ⟨vm, m, ee, rfl, hvm, hdr, hb20⟩
    have HVM := Lib.hid hvm; have HDR := Lib.hid hdr
    obtain ⟨m0, m1, m2, mn0, mn1, mn2, mc0, mc1, mc2, rfl⟩ := ndv_letters hvm
    obtain ⟨ml, hml⟩ : ∃ x, m.leaf = x := ⟨_, rfl⟩
    rw [hml] at HVM ⊢
    have hb20 := hb5.trans (hb20.mono hb5.size)
    clear hb5 hvm hdr hml
    go_upto_region 25 with (fail)
    obtain ⟨w21, hw21⟩ : ∃ W, w20.alloc (.cells #[.bool ml, .slice m0 mn0 mc0, .slice m1 mn1 mc1, .slice m2 mn2 mc2] 69) = W := ⟨_, rfl⟩
    have hbx : Bx w21 w20.heap.size ml (.slice m0 mn0 mc0) (.slice m1 mn1 mc1) (.slice m2 mn2 mc2) := by rw [← hw21]; exact Bx.new _ _ _ _ _ _
    have hb21 : Below w20.heap.size w20 w21 := by rw [← hw21]; exact (Below.refl _ w20).alloc (Nat.le_refl _) _
    rw [hw21]
    clear hw21
    have HBX := Lib.hid hbx
    have HVM := Lib.hid (HVM.out.below hb21)
    have hb21 := hb20.trans (hb21.mono hb20.size)
    obtain ⟨g20, hg20⟩ : ∃ g, w20.heap.size = g := ⟨_, rfl⟩
    rw [hg20] at HBX ⊢
    clear hbx hb20 hg20
    go_wp2_with fail
    refine (nrdecode_any kd body _).mono ?_
    rintro r w22 ⟨vr, m', ok, rfl, hvr, hdr, hb22⟩
    obtain ⟨hmm, hff⟩ := drn_inj HDR.out hdr
    subst hmm
    have HF := Lib.hid hff
    have HVR := Lib.hid hvr
    obtain ⟨r0, r1, r2, rn0, rn1, rn2, rc0, rc1, rc2, rfl⟩ := ndv_letters hvr
    obtain ⟨rl, hrl⟩ : ∃ x, m.leaf = x := ⟨_, rfl⟩
    rw [hrl] at HVR ⊢
    have HBX := Lib.hid (HBX.out.below hb22); have HVM := Lib.hid (HVM.out.below hb22)
    have hb22 := hb21.trans (hb22.mono hb21.size)
    clear hb21 hvr hdr hrl hff HDR
    go_upto_region 26 with (fail)
    obtain ⟨w23, hw23⟩ : ∃ W, w22.alloc (.cells #[.bool rl, .slice r0 rn0 rc0, .slice r1 rn1 rc1, .slice r2 rn2 rc2] 73) = W := ⟨_, rfl⟩
    have hbx : Bx w23 w22.heap.size rl (.slice r0 rn0 rc0) (.slice r1 rn1 rc1) (.slice r2 rn2 rc2) := by rw [← hw23]; exact Bx.new _ _ _ _ _ _
    have hb23 : Below w22.heap.size w22 w23 := by rw [← hw23]; exact (Below.refl _ w22).alloc (Nat.le_refl _) _
    rw [hw23]
    clear hw23
    have HBR := Lib.hid hbx
    have HBX := Lib.hid (HBX.out.below hb23); have HVM := Lib.hid (HVM.out.below hb23); have HVR := Lib.hid (HVR.out.below hb23)
    have hb23 := hb22.trans (hb23.mono hb22.size)
    obtain ⟨g22, hg22⟩ : ∃ g, w22.heap.size = g := ⟨_, rfl⟩
    rw [hg22] at HBR ⊢
    clear hbx hb22 hg22
    refine wp_region_any (by kernel_rfl) ?_
    refine wpAny_upto_f 4 (fun f L a W => ∃ v118 v119 v120 v121 : Value, a = { tmps := List.toArray ((f 0) :: (f 1) :: (f 2) :: (f 3) :: (f 4) :: (f 5) :: (f 6) :: (.bool true) :: (f 8) :: (f 9) :: (f 10) :: (f 11) :: (f 12) :: (f 13) :: (f 14) :: (f 15) :: (.pointer (some ⟨g20, 0, none⟩)) :: (.int .i64 ee) :: (.pointer (some ⟨g22, 0, none⟩)) :: (.bool ok) :: (f 20) :: (f 21) :: (f 22) :: (f 23) :: (f 24) :: (f 25) :: (f 26) :: (f 27) :: (f 28) :: (f 29) :: (f 30) :: (f 31) :: (f 32) :: (f 33) :: (f 34) :: (f 35) :: (f 36) :: (f 37) :: (f 38) :: (f 39) :: (f 40) :: (f 41) :: (f 42) :: (f 43) :: (f 44) :: (f 45) :: (f 46) :: (f 47) :: (f 48) :: (f 49) :: (f 50) :: (f 51) :: (f 52) :: (f 53) :: (f 54) :: (f 55) :: (f 56) :: (f 57) :: (f 58) :: (f 59) :: (f 60) :: (f 61) :: (f 62) :: (f 63) :: (f 64) :: (f 65) :: (f 66) :: (f 67) :: (f 68) :: (f 69) :: (f 70) :: (f 71) :: (f 72) :: (f 73) :: (f 74) :: (f 75) :: (f 76) :: (f 77) :: (f 78) :: (f 79) :: (f 80) :: (f 81) :: (f 82) :: (f 83) :: (f 84) :: (f 85) :: (f 86) :: (f 87) :: (f 88) :: (f 89) :: (f 90) :: (f 91) :: (f 92) :: (f 93) :: (f 94) :: (f 95) :: (f 96) :: (f 97) :: (f 98) :: (f 99) :: (f 100) :: (f 101) :: (f 102) :: (f 103) :: (f 104) :: (f 105) :: (f 106) :: (f 107) :: (f 108) :: (f 109) :: (f 110) :: (f 111) :: (f 112) :: (f 113) :: (f 114) :: (f 115) :: (f 116) :: (f 117) :: v118 :: v119 :: v120 :: v121 :: (f 122) :: (f 123) :: (f 124) :: (f 125) :: (f 126) :: (f 127) :: (f 128) :: (f 129) :: (f 130) :: (f 131) :: (f 132) :: (f 133) :: (f 134) :: (f 135) :: (f 136) :: (f 137) :: (f 138) :: []), defers := [] } ∧ Below w23.heap.size w23 W ∧ (Lst L 0 → v118 = .agg #[.bool ml, .slice m0 mn0 mc0, .slice m1 mn1 mc1, .slice m2 mn2 mc2]) ∧ (Lst L 1 → NdV W v119 m) ∧ (Lst L 2 → v120 = .agg #[.bool rl, .slice r0 rn0 rc0, .slice r1 rn1 rc1, .slice r2 rn2 rc2]) ∧ (Lst L 3 → v121 = .bool true)) (by decide) (by kernel_rfl) (by kernel_rfl) ?step ?fin _ _ _ _ ?ini (by simp) (fun k _ => lst_none) (by simp)
    case ini => exact ⟨_, _, _, _, rfl, (Below.refl _ w23).drew, fun h => absurd h lst_none, fun h => absurd h lst_none, fun h => absurd h lst_none, fun h => absurd h lst_none⟩
    case step =>
      intro f L a W hI i him hi
      obtain ⟨v118, v119, v120, v121, rfl, hb, hf⟩ := hI
      have F := Lib.hid hf
      clear hf
      rcases (show i = 0 ∨ i = 1 ∨ i = 2 ∨ i = 3 by omega) with rfl | rfl | rfl | rfl
      · clear him
        obtain ⟨b0, b1, b2, b3⟩ := HBX.out.below hb
        have HI := Lib.hid hi
        clear hi
        refine wpOp_step (o := _) rfl (fun K' hK => ?_)
        have HK := Lib.hid hK
        clear hK
        go_simp
        refine HK.out _ _ ⟨_, _, _, _, rfl, hb, fun _ => rfl, fun h => F.out.2.1 (lst_old (by decide) h), fun h => F.out.2.2.1 (lst_old (by decide) h), fun h => F.out.2.2.2 (lst_old (by decide) h)⟩
      · clear him
        have p0 := F.out.1 (ready_needs hi (by kernel_rfl))
        subst p0
        have HI := Lib.hid hi
        clear hi
        refine wpOp_step (o := _) rfl (fun K' hK => ?_)
        have HK := Lib.hid hK
        clear hK
        go_simp
        refine (of_any _ m W (HVM.out.below hb)).mono ?_
        rintro r W2 ⟨x, rfl, hown, hb2⟩
        refine HK.out _ _ ⟨_, _, _, _, rfl, (hb.trans (hb2.mono hb.size)), fun h => F.out.1 (lst_old (by decide) h), fun _ => hown, fun h => F.out.2.2.1 (lst_old (by decide) h), fun h => (fun h _ => h) (F.out.2.2.2 (lst_old (by decide) h)) hb2⟩
      · clear him
        obtain ⟨b0, b1, b2, b3⟩ := HBR.out.below hb
        have HI := Lib.hid hi
        clear hi
        refine wpOp_step (o := _) rfl (fun K' hK => ?_)
        have HK := Lib.hid hK
        clear hK
        go_simp
        refine HK.out _ _ ⟨_, _, _, _, rfl, hb, fun h => F.out.1 (lst_old (by decide) h), fun h => F.out.2.1 (lst_old (by decide) h), fun _ => rfl, fun h => F.out.2.2.2 (lst_old (by decide) h)⟩
      · clear him
        have p1 := F.out.2.1 (ready_needs hi (by kernel_rfl))
        have p2 := F.out.2.2.1 (ready_needs hi (by kernel_rfl))
        have P1 := Lib.hid p1
        clear p1
        subst p2
        have HI := Lib.hid hi
        clear hi
        refine wpOp_step (o := _) rfl (fun K' hK => ?_)
        have HK := Lib.hid hK
        clear hK
        go_simp
        refine (nsame_any _ _ m m W P1.out (HVR.out.below hb)).mono ?_
        rintro r W2 ⟨rfl, hb2⟩
        refine HK.out _ _ ⟨_, _, _, _, rfl, (hb.trans (hb2.mono hb.size)), fun h => F.out.1 (lst_old (by decide) h), fun h => NdV.below (F.out.2.1 (lst_old (by decide) h)) hb2, fun h => F.out.2.2.1 (lst_old (by decide) h), fun _ => (by rw [decide_eq_true rfl])⟩
    case fin =>
      intro f a W hI
      obtain ⟨v118, v119, v120, v121, rfl, hb, hf⟩ := hI
      have p0 := hf.1 rfl
      have p1 := hf.2.1 rfl
      have p2 := hf.2.2.1 rfl
      have p3 := hf.2.2.2 rfl
      clear hf
      subst p0
      clear p1
      subst p2
      subst p3
      refine wpAny_all (rs := [4]) (by kernel_rfl) (by simp) ?_
      intro i2 hi2
      obtain rfl := List.mem_singleton.1 hi2
      refine wpOp_step (o := _) rfl (fun K' hK => ?_)
      have HKK := Lib.hid hK
      clear hK
      go_simp
      refine HKK.out _ _ (wpAny_done (by kernel_rfl) ?_ _)
      have hb24 := hb23.trans (hb.mono hb23.size)
      clear hb hb23 HBX HBR HVM HVR
      have hff := HF.out
      rcases ok with _ | _
      · obtain rfl : ee = 3 := by simpa using hff
        clear hff HF
        go_wp2
        go_ret
        exact ⟨rfl, hb24⟩
      · obtain rfl : ee = 0 := by simpa using hff
        clear hff HF
        go_wp2
        go_ret
        exact ⟨rfl, hb24⟩
end Go.Proofs.Ytifdglehfhoecaa.N

/-
  What every law's row needs behind its walk: the call answered true, and below the heap's old size nothing has turned: so the arguments read as they did. Conditions: the arguments' types can be read; no variable is named in the specification.
-/
namespace Go.Proofs.Ytifdglehfhoecaa.Law
open Go.ChangeShapes Go.WideShapes Go.RowKit
variable {H : Type} {enc : TypeId × Value → H} {P : Program}

theorem trodAll_below (hl : laidOutB P = true) {W W' : World} (hb : Below W.heap.size W W') : ∀ (ts : List TypeId) (vs : List Value) (ds : List (DataW H)) (ps : List MemPlace),
    (∀ t ∈ ts, P.readableRec t = true ∧ t < P.types.size) → (∀ x ∈ ps, x.block < W.heap.size) → DataW.TrodAll enc P W 0 (fun _ => true) true ts vs ds ps →
    DataW.TrodAll enc P W' 0 (fun b => decide (b < W.heap.size)) true ts vs ds ps
  | [], [], [], _, _, _, h => h
  | t :: ts, v :: vs, d :: ds, ps, hr, hlt, h => by
    obtain ⟨p, q, h1, h2, rfl⟩ := h
    exact ⟨p, q, Below.trod hl (hr t (by simp)).1 (hr t (by simp)).2 h1 hb (fun x hx => hlt x (by simp [hx])), trodAll_below hl hb ts vs ds q (fun t ht => hr t (by simp [ht])) (fun x hx => hlt x (by simp [hx])) h2, rfl⟩

theorem law_post {f : Func} {s : ChangeSpec} {apart fresh handsOn : Bool} {W W' : World} {args : Array Value} {ds gs : List (DataW H)} {before : List MemPlace} {bt : TypeId}
    (hl : laidOutB P = true) (hr0 : (f.params.toList.all fun t => P.readableRec t && decide (t < P.types.size)) = true) (hvars : s.vars = []) (hbt : f.resultTypes = #[bt]) (hbool : P.underlying bt = some .bool)
    (hspec : s.fn H (ds ++ gs) = { results := [.lit (.bool true)], args := ds }) (hW : DataW.Whole enc P f.params.toList s.vars apart W args.toList ds gs before) (hb : Below W.heap.size W W') :
    s.post enc P f apart fresh handsOn false W args (.bool true) W' := by
  have hr : ∀ t ∈ f.params.toList, P.readableRec t = true ∧ t < P.types.size := fun t ht => by
    have := List.all_eq_true.1 hr0 t ht
    simpa using this
  have hW' := hW
  obtain ⟨p, q, hA, hV, rfl, hfz, hnd⟩ := hW
  rw [hvars] at hV
  obtain ⟨rfl, rfl⟩ := trodVars_none hV
  refine ⟨ds, _, _, [], p, [], hW', ?_, ?_, ?_, hb.frame _, fun h => by cases h⟩
  · rw [hspec, hbt]
    exact trodAll_mk1 (shut_bool hbool _)
  · rw [hspec]
    exact trodAll_below hl hb _ _ _ _ hr (fun x hx => hW'.lt x (by simp [hx])) hA
  · rw [hspec, hvars]; rfl
theorem u8_of {x : Int} (h : (Lit.int .u8 x).wf = true) : ∃ b : UInt8, x = (b.toNat : Int) := by
  have := bounds_u8 h
  exact ⟨UInt8.ofNat x.toNat, by simp; omega⟩
/-- an argument that is a slice of texts -/
theorem strs_of {W : World} {base : Nat} {t e : TypeId} {v : Value} {d : DataW H} {p : List MemPlace} (ht : P.underlying t = some (.slice e)) (he : P.underlying e = some .string) (hc : P.cellsOf e = 1)
    (hv : Value.okWide P W .any base t v) (h : DataW.Trod enc P W 0 (fun _ => true) true t v d p) :
    ∃ l : List ByteArray, B.Strs W v l ∧ l.length ≤ maxLen ∧ ∀ s ∈ l, s.size ≤ maxLen := by
  obtain ⟨a0, len, cap, rfl⟩ := okWide_slice ht hv
  obtain ⟨fuel, hf⟩ := h
  rcases open_strings ht he hc hf with ⟨hcs, hx⟩ | ⟨a, len', cap', ss, hcs, _, hl, hm, hz, hx, hcell, hws⟩
  · simp [Value.cells] at hcs
    obtain ⟨rfl, rfl, rfl⟩ := hcs
    exact ⟨[], ⟨none, 0, rfl, by simp, fun j hj => by simp at hj⟩, by simp, by simp⟩
  · simp [Value.cells] at hcs
    obtain ⟨rfl, rfl, rfl⟩ := hcs
    simp only [if_true] at hz
    have hlen : (ss.take len).length = len := by simp; omega
    refine ⟨ss.take len, ⟨some a, cap, by rw [hlen], by rw [hlen]; omega, fun j hj => ⟨a, rfl, ?_⟩⟩, by rw [hlen]; omega, fun s hs => hws s (List.mem_of_mem_take hs)⟩
    have hj' : j < ss.length := by rw [hlen] at hj; omega
    rw [hcell j hj', List.getD_eq_getElem?_getD, List.getElem?_eq_getElem hj']
    simp
end Go.Proofs.Ytifdglehfhoecaa.Law

/-
  An argument that is a slice of entries. Conditions: none.
-/
namespace Go.Proofs.Ytifdglehfhoecaa.Law
open Go.ChangeShapes Go.WideShapes Go.RowKit Go.Deep
section
variable {H : Type} {enc : TypeId × Value → H} {P : Program} {w : World} {base : Nat} {spare : Nat → Bool} {held : Bool}
theorem open_slice_fields {t e : TypeId} {fs : Array Field} {fuel : Nat} {cs : List Value} {x : DataW H × List MemPlace} (ht : P.underlying t = some (.slice e)) (he : P.underlying e = some (.struct fs))
    (hone : oneCellFields P fs = true) (hC : P.cellsOf e = fs.size) (h : DataW.trod enc P w base spare held fuel t cs = some x) :
    (cs = [.slice none 0 0] ∧ x = (.nil, [])) ∨
    ∃ (a : Addr) (len cap m : Nat) (D : Nat → DataW H) (Pl : Nat → List MemPlace), cs = [.slice (some a) len cap] ∧ base ≤ a.block ∧ len ≤ cap ∧ cap ≤ maxLen ∧ m = (if spare a.block then cap else len) ∧
      x = (.slice ((List.range len).map D) ((List.range (m - len)).map fun j => D (len + j)), MemPlace.row a (m * fs.size) ++ (List.range m).flatMap Pl) ∧
      ∀ i, i < m → ∃ (ys : List (DataW H × List MemPlace)) (n : Nat), D i = .agg (ys.map (·.1)) ∧ Pl i = ys.flatMap (·.2) ∧ ys.length = fs.size ∧
        ∀ (j : Nat) (f : Field), fs[j]? = some f → ∃ (v : Value) (y : DataW H × List MemPlace), w.cell? (a.add (i * fs.size + j)) = some v ∧ ys[j]? = some y ∧ DataW.trod enc P w base spare held n f.type [v] = some y := by
  rcases open_slice ht h with h0 | ⟨a, len, cap, m, n, D, Pl, hcs, hb, hl, hm, hmm, hx, hi⟩
  · exact .inl h0
  · refine .inr ⟨a, len, cap, m, D, Pl, hcs, hb, hl, hm, hmm, by rw [hC] at hx; exact hx, fun i him => ?_⟩
    obtain ⟨cs', hc, ht'⟩ := hi i him
    rw [hC] at hc
    obtain ⟨ys, n', hn', hy, hlen, hyl, hf⟩ := DataW.trod_struct he ht'
    obtain ⟨_, hcl, hat⟩ := World.cells?_some hc
    simp only [Prod.mk.injEq] at hy
    refine ⟨ys, n', hy.1, hy.2, hyl, fun j f hj => ?_⟩
    obtain ⟨ho, hk⟩ := hone_of hone j f hj
    have hjl : j < fs.size := (Array.getElem?_eq_some_iff.1 hj).1
    have hcell := hat j hjl
    have hv : cs'[j]? = some (cs'[j]'(by omega)) := List.getElem?_eq_getElem (by omega)
    have h1 := hf j f hj
    rw [ho, hk] at h1
    have hone' : (cs'.drop j).take 1 = [cs'[j]'(by omega)] := by
      rw [List.drop_eq_getElem_cons (by omega)]
      rfl
    rw [hone'] at h1
    have hys : ys[j]? = some (ys[j]'(by omega)) := List.getElem?_eq_getElem (by omega)
    refine ⟨_, _, ?_, hys, h1.trans hys⟩
    rw [← Go.Deep.add_add, hcell, hv]
end
theorem cell_lit {w : World} {a : Addr} {v : Value} (h : w.cell? (a.add 0) = some v) : ∃ b o, a = ⟨b, o, none⟩ := by
  obtain ⟨b, o, s⟩ := a
  rcases s with _ | s
  · exact ⟨b, o, rfl⟩
  · exfalso
    unfold World.cell? Addr.add at h
    simp at h
    split at h <;> simp at h
variable {H : Type} {enc : TypeId × Value → H} {P : Program}
/-- an argument that is a slice of two-text structs -/
theorem ents_of {W : World} {base : Nat} {t e s : TypeId} {fs : Array Field} {f0 f1 : Field} {v : Value} {d : DataW H} {p : List MemPlace} (ht : P.underlying t = some (.slice e)) (he : P.underlying e = some (.struct fs)) (hfs : fs = #[f0, f1])
    (h0 : f0.type = s) (h1 : f1.type = s) (hstr : P.underlying s = some .string) (hone : oneCellFields P fs = true) (hC : P.cellsOf e = fs.size)
    (hv : Value.okWide P W .any base t v) (h : DataW.Trod enc P W 0 (fun _ => true) true t v d p) :
    ∃ l : List B.Ent, B.Ents W v l := by
  obtain ⟨a0, len, cap, rfl⟩ := okWide_slice ht hv
  obtain ⟨fuel, hf⟩ := h
  subst hfs
  rcases open_slice_fields ht he hone hC hf with ⟨hcs, hx⟩ | ⟨a, len', cap', m, D, Pl, hcs, _, hl, hm, hz, hx, hi⟩
  · simp [Value.cells] at hcs
    obtain ⟨rfl, rfl, rfl⟩ := hcs
    exact ⟨[], B.Rw.nil W 2⟩
  · simp [Value.cells] at hcs
    obtain ⟨rfl, rfl, rfl⟩ := hcs
    simp only [if_true] at hz
    have hel : ∀ i, i < len → ∃ k x : ByteArray, W.cell? (a.add (i * 2)) = some (.string k) ∧ W.cell? (a.add (i * 2 + 1)) = some (.string x) := fun i hil => by
      obtain ⟨ys, n, _, _, _, hf2⟩ := hi i (by omega)
      obtain ⟨u, y, hc0, _, ht0⟩ := hf2 0 f0 rfl
      obtain ⟨u', y', hc1, _, ht1⟩ := hf2 1 f1 rfl
      rw [h0] at ht0
      rw [h1] at ht1
      obtain ⟨k, hk, _⟩ := DataW.trod_string hstr ht0
      obtain ⟨x, hx', _⟩ := DataW.trod_string hstr ht1
      refine ⟨k, x, ?_, ?_⟩
      · simp at hk; subst hk; exact hc0
      · simp at hx'; subst hx'; exact hc1
    obtain ⟨ks, hks⟩ : ∃ ks : Nat → ByteArray × ByteArray, ∀ i, i < len → W.cell? (a.add (i * 2)) = some (.string (ks i).1) ∧ W.cell? (a.add (i * 2 + 1)) = some (.string (ks i).2) := by
      refine ⟨fun i => if h : i < len then ((hel i h).choose, (hel i h).choose_spec.choose) else (ByteArray.empty, ByteArray.empty), fun i hil => ?_⟩
      simp only [hil, dif_pos]
      exact (hel i hil).choose_spec.choose_spec
    have hlen : ((List.range len).map ks).length = len := by simp
    refine ⟨(List.range len).map ks, ?_⟩
    have := B.Ents.close (w := W) (ao := some a) (cap := cap) (l := (List.range len).map ks) (by rw [hlen]; exact hl) hm fun j hj => by
      have hj' : j < len := by rwa [hlen] at hj
      obtain ⟨c0, c1⟩ := hks j hj'
      have cz := (hks 0 (by omega)).1
      rw [Nat.zero_mul] at cz
      obtain ⟨b, o, rfl⟩ := cell_lit cz
      rw [B.add_lit] at c0 c1
      refine ⟨b, o, rfl, ?_, ?_⟩
      · rw [c0]; simp
      · rw [Nat.add_assoc, c1]; simp
    rwa [hlen] at this
end Go.Proofs.Ytifdglehfhoecaa.Law

/-
  Arguments that are slices of numbers, of texts, nodes. Conditions: none.
-/
namespace Go.Proofs.Ytifdglehfhoecaa.Law
open Go.Joins Go.ChangeShapes Go.WideShapes Go.RowKit Go.Deep
variable {H : Type} {enc : TypeId × Value → H} {P : Program}
theorem ents_trod {W : World} {n : Nat} {t e s : TypeId} {fs : Array Field} {f0 f1 : Field} {v : Value} {y : DataW H × List MemPlace} (ht : P.underlying t = some (.slice e)) (he : P.underlying e = some (.struct fs)) (hfs : fs = #[f0, f1])
    (h0 : f0.type = s) (h1 : f1.type = s) (hstr : P.underlying s = some .string) (hone : oneCellFields P fs = true) (hC : P.cellsOf e = fs.size)
    (hf : DataW.trod enc P W 0 (fun _ => true) true n t [v] = some y) :
    ∃ l : List B.Ent, B.Ents W v l := by
  subst hfs
  rcases open_slice_fields ht he hone hC hf with ⟨hcs, hx⟩ | ⟨a, len, cap, m, D, Pl, hcs, _, hl, hm, hz, hx, hi⟩
  · simp at hcs
    subst hcs
    exact ⟨[], B.Rw.nil W 2⟩
  · simp at hcs
    subst hcs
    simp only [if_true] at hz
    have hel : ∀ i, i < len → ∃ k x : ByteArray, W.cell? (a.add (i * 2)) = some (.string k) ∧ W.cell? (a.add (i * 2 + 1)) = some (.string x) := fun i hil => by
      obtain ⟨ys, n, _, _, _, hf2⟩ := hi i (by omega)
      obtain ⟨u, y, hc0, _, ht0⟩ := hf2 0 f0 rfl
      obtain ⟨u', y', hc1, _, ht1⟩ := hf2 1 f1 rfl
      rw [h0] at ht0
      rw [h1] at ht1
      obtain ⟨k, hk, _⟩ := DataW.trod_string hstr ht0
      obtain ⟨x, hx', _⟩ := DataW.trod_string hstr ht1
      refine ⟨k, x, ?_, ?_⟩
      · simp at hk; subst hk; exact hc0
      · simp at hx'; subst hx'; exact hc1
    obtain ⟨ks, hks⟩ : ∃ ks : Nat → ByteArray × ByteArray, ∀ i, i < len → W.cell? (a.add (i * 2)) = some (.string (ks i).1) ∧ W.cell? (a.add (i * 2 + 1)) = some (.string (ks i).2) := by
      refine ⟨fun i => if h : i < len then ((hel i h).choose, (hel i h).choose_spec.choose) else (ByteArray.empty, ByteArray.empty), fun i hil => ?_⟩
      simp only [hil, dif_pos]
      exact (hel i hil).choose_spec.choose_spec
    have hlen : ((List.range len).map ks).length = len := by simp
    refine ⟨(List.range len).map ks, ?_⟩
    have := B.Ents.close (w := W) (ao := some a) (cap := cap) (l := (List.range len).map ks) (by rw [hlen]; exact hl) hm fun j hj => by
      have hj' : j < len := by rwa [hlen] at hj
      obtain ⟨c0, c1⟩ := hks j hj'
      have cz := (hks 0 (by omega)).1
      rw [Nat.zero_mul] at cz
      obtain ⟨b, o, rfl⟩ := cell_lit cz
      rw [B.add_lit] at c0 c1
      refine ⟨b, o, rfl, ?_, ?_⟩
      · rw [c0]; simp
      · rw [Nat.add_assoc, c1]; simp
    rwa [hlen] at this
theorem ints_trod {W : World} {n : Nat} {t e : TypeId} {v : Value} {y : DataW H × List MemPlace} (ht : P.underlying t = some (.slice e)) (he : P.underlying e = some (.int .i64)) (hC : P.cellsOf e = 1)
    (hf : DataW.trod enc P W 0 (fun _ => true) true n t [v] = some y) : ∃ l : List Int, B.Ints W v l := by
  rcases open_slice ht hf with ⟨hcs, _⟩ | ⟨a, len, cap, m, n', D, Pl, hcs, _, hl, hm, hz, _, hi⟩
  · simp at hcs
    subst hcs
    exact ⟨[], B.Rw.nil W 1⟩
  · simp at hcs
    subst hcs
    simp only [if_true] at hz
    have hel : ∀ i, i < len → ∃ k : Int, W.cell? (a.add i) = some (.int .i64 k) := fun i hil => by
      obtain ⟨cs', hc, ht'⟩ := hi i (by omega)
      rw [hC] at hc
      obtain ⟨k, hk, _⟩ := DataW.trod_int he ht'
      obtain ⟨_, _, hat⟩ := World.cells?_some hc
      have h0 := hat 0 (by omega)
      rw [Go.Deep.add_add, Nat.mul_one, Nat.add_zero, hk] at h0
      exact ⟨k, h0⟩
    obtain ⟨ks, hks⟩ : ∃ ks : Nat → Int, ∀ i, i < len → W.cell? (a.add i) = some (.int .i64 (ks i)) := by
      refine ⟨fun i => if h : i < len then (hel i h).choose else 0, fun i hil => ?_⟩
      simp only [hil, dif_pos]
      exact (hel i hil).choose_spec
    have hlen : ((List.range len).map ks).length = len := by simp
    refine ⟨(List.range len).map ks, ?_⟩
    have := B.Ints.close (w := W) (ao := some a) (cap := cap) (l := (List.range len).map ks) (by rw [hlen]; exact hl) hm fun j hj => by
      have hj' : j < len := by rwa [hlen] at hj
      have c0 := hks j hj'
      have cz := hks 0 (by omega)
      obtain ⟨b, o, rfl⟩ := cell_lit cz
      rw [B.add_lit] at c0
      exact ⟨b, o, rfl, by rw [c0]; simp⟩
    rwa [hlen] at this
theorem txts_trod {W : World} {n : Nat} {t e : TypeId} {v : Value} {y : DataW H × List MemPlace} (ht : P.underlying t = some (.slice e)) (he : P.underlying e = some .string) (hC : P.cellsOf e = 1)
    (hf : DataW.trod enc P W 0 (fun _ => true) true n t [v] = some y) : ∃ l : List ByteArray, B.Txts W v l := by
  rcases open_slice ht hf with ⟨hcs, _⟩ | ⟨a, len, cap, m, n', D, Pl, hcs, _, hl, hm, hz, _, hi⟩
  · simp at hcs
    subst hcs
    exact ⟨[], B.Rw.nil W 1⟩
  · simp at hcs
    subst hcs
    simp only [if_true] at hz
    have hel : ∀ i, i < len → ∃ k : ByteArray, W.cell? (a.add i) = some (.string k) := fun i hil => by
      obtain ⟨cs', hc, ht'⟩ := hi i (by omega)
      rw [hC] at hc
      obtain ⟨k, hk, _⟩ := DataW.trod_string he ht'
      obtain ⟨_, _, hat⟩ := World.cells?_some hc
      have h0 := hat 0 (by omega)
      rw [Go.Deep.add_add, Nat.mul_one, Nat.add_zero, hk] at h0
      exact ⟨k, h0⟩
    obtain ⟨ks, hks⟩ : ∃ ks : Nat → ByteArray, ∀ i, i < len → W.cell? (a.add i) = some (.string (ks i)) := by
      refine ⟨fun i => if h : i < len then (hel i h).choose else ByteArray.empty, fun i hil => ?_⟩
      simp only [hil, dif_pos]
      exact (hel i hil).choose_spec
    have hlen : ((List.range len).map ks).length = len := by simp
    refine ⟨(List.range len).map ks, ?_⟩
    have := B.Txts.close (w := W) (ao := some a) (cap := cap) (l := (List.range len).map ks) (by rw [hlen]; exact hl) hm fun j hj => by
      have hj' : j < len := by rwa [hlen] at hj
      have c0 := hks j hj'
      have cz := hks 0 (by omega)
      obtain ⟨b, o, rfl⟩ := cell_lit cz
      rw [B.add_lit] at c0
      exact ⟨b, o, rfl, by rw [c0]; simp⟩
    rwa [hlen] at this
theorem ints_of {W : World} {base : Nat} {t e : TypeId} {v : Value} {d : DataW H} {p : List MemPlace} (ht : P.underlying t = some (.slice e)) (he : P.underlying e = some (.int .i64)) (hC : P.cellsOf e = 1)
    (hv : Value.okWide P W .any base t v) (h : DataW.Trod enc P W 0 (fun _ => true) true t v d p) : ∃ l : List Int, B.Ints W v l := by
  obtain ⟨a0, len, cap, rfl⟩ := okWide_slice ht hv
  obtain ⟨fuel, hf⟩ := h
  exact ints_trod ht he hC (y := (d, p)) (by simpa [Value.cells] using hf)
theorem txts_of {W : World} {base : Nat} {t e : TypeId} {v : Value} {d : DataW H} {p : List MemPlace} (ht : P.underlying t = some (.slice e)) (he : P.underlying e = some .string) (hC : P.cellsOf e = 1)
    (hv : Value.okWide P W .any base t v) (h : DataW.Trod enc P W 0 (fun _ => true) true t v d p) : ∃ l : List ByteArray, B.Txts W v l := by
  obtain ⟨a0, len, cap, rfl⟩ := okWide_slice ht hv
  obtain ⟨fuel, hf⟩ := h
  exact txts_trod ht he hC (y := (d, p)) (by simpa [Value.cells] using hf)
/-- an argument that is a node -/
theorem node_of {W : World} {base : Nat} {t tb te tk ts ee ei es : TypeId} {fs : Array Field} {g0 g1 f0 f1 f2 f3 : Field} {v : Value} {d : DataW H} {p : List MemPlace} (hs : P.underlying t = some (.struct #[f0, f1, f2, f3])) (hone : oneCellFields P #[f0, f1, f2, f3] = true) (hC : P.cellsOf t = 4)
    (t0 : f0.type = tb) (t1 : f1.type = te) (t2 : f2.type = tk) (t3 : f3.type = ts) (hb : P.underlying tb = some .bool) (he : P.underlying te = some (.slice ee)) (hk : P.underlying tk = some (.slice ei)) (hx : P.underlying ts = some (.slice es))
    (hee : P.underlying ee = some (.struct fs)) (hfs : fs = #[g0, g1]) (h0 : g0.type = es) (h1 : g1.type = es) (hstr : P.underlying es = some .string) (hone2 : oneCellFields P fs = true) (hC2 : P.cellsOf ee = fs.size)
    (hi : P.underlying ei = some (.int .i64)) (hCi : P.cellsOf ei = 1) (hCs : P.cellsOf es = 1)
    (hv : Value.okWide P W .any base t v) (h : DataW.Trod enc P W 0 (fun _ => true) true t v d p) : ∃ n : M.Nd, B.NdV W v n := by
  obtain ⟨v0, v1, v2, v3, y0, y1, y2, y3, n, rfl, _, _, r0, r1, r2, r3⟩ := open_agg4 hs hone hC hv h
  rw [t0] at r0
  rw [t1] at r1
  rw [t2] at r2
  rw [t3] at r3
  obtain ⟨b, hb0, _⟩ := DataW.trod_bool hb r0
  obtain ⟨le, hle⟩ := ents_trod he hee hfs h0 h1 hstr hone2 hC2 r1
  obtain ⟨lk, hlk⟩ := ints_trod hk hi hCi r2
  obtain ⟨lt, hlt⟩ := txts_trod hx hstr hCs r3
  simp at hb0
  subst hb0
  obtain ⟨a1, c1, rfl, _⟩ := hle.open
  obtain ⟨a2, c2, rfl, _⟩ := hlk.open
  obtain ⟨a3, c3, rfl, _⟩ := hlt.open
  exact ⟨⟨b, le, lk, lt⟩, a1, c1, a2, c2, a3, c3, rfl, hle, hlk, hlt⟩
end Go.Proofs.Ytifdglehfhoecaa.Law

/-
  What all rows of this seat need: the program's own facts. Conditions: none.
-/
namespace Go.Proofs.Ytifdglehfhoecaa.Seat
theorem own : ownKnob Try.prog.godebug = none := by kernel_rfl
theorem laidOut : laidOutB Try.prog = true := by kernel_rfl
end Go.Proofs.Ytifdglehfhoecaa.Seat
