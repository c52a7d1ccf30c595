/-
  The place of the kid that has a key. Conditions: keys that rise; bounds that every node here keeps.
-/
import Derived.Test.YtifdglehfhoecaaNCopied
import Derived.Test.YtifdglehfhoecaaEFind
namespace Go.Proofs.Ytifdglehfhoecaa.N
open Go.RowKit B E
/-- how many keys are not above -/
def Up (ss : List ByteArray) (key : ByteArray) (i : Nat) : Prop := i ≤ ss.length ∧ (∀ t (h : t < ss.length), t < i → ¬ M.klt key ss[t]) ∧ (∀ t (h : t < ss.length), i ≤ t → M.klt key ss[t])
theorem up_unique {ss : List ByteArray} {key : ByteArray} {i j : Nat} (h : Up ss key i) (k : Up ss key j) : i = j := by
  obtain ⟨a1, a2, a3⟩ := h
  obtain ⟨b1, b2, b3⟩ := k
  rcases Nat.lt_trichotomy i j with h | h | h
  · exact absurd (a3 i (by omega) (Nat.le_refl _)) (b2 i (by omega) h)
  · exact h
  · exact absurd (b3 j (by omega) (Nat.le_refl _)) (a2 j (by omega) h)
theorem child1_any (i g0 g1 : Nat) (l : Bool) (ve vk : Value) (s0 : Option Addr) (sc : Nat) (ss : List ByteArray) (key : ByteArray) (w : World) (hx : Bx w g0 l ve vk (.slice s0 ss.length sc)) (hs : Txts w (.slice s0 ss.length sc) ss) (hy : w.cell? ⟨g1, 0, none⟩ = some (.string key)) (hi : i < ss.length) :
    Calls Try.prog 85 #[.int .i64 (i : Int), .pointer (some ⟨g0, 0, none⟩), .pointer (some ⟨g1, 0, none⟩)] w fun r w' => r = .returned (.bool (decide (M.klt key ss[i]))) ∧ Below w.heap.size w w' := by
  obtain ⟨_, _, _, x3⟩ := hx
  obtain ⟨b, o, rfl, c0⟩ := hs.at.2.2.2 i hi
  clear hs
  have hiz : (0 : Int) ≤ (i : Int) := Int.natCast_nonneg _
  have hin : (i : Int) < (ss.length : Int) := by omega
  obtain ⟨R, hR⟩ : ∃ R, decide (M.klt key ss[i]) = R := ⟨_, rfl⟩
  rw [hR]
  obtain ⟨s, hs⟩ : ∃ s, ss[i] = s := ⟨_, rfl⟩
  rw [hs] at hR c0
  clear hs
  by_cases h1 : M.klt s key
  · have q1 : Op.bytesLess s.toList key.toList = true := by rw [toL, toL]; exact h1
    have hRf : R = false := by rw [← hR, decide_eq_false_iff_not]; exact M.klt_asymm h1
    subst hRf
    clear hR h1
    go_enter Try.func85, Try.ntmps85
    go_upto_region 1 with (fail)
    go_quiet (fail)
    go_wp2
    go_ret
    exact ⟨rfl, ⟨rfl, rfl, rfl, Nat.le_refl _, fun _ _ => rfl⟩⟩
  · have q1 : Op.bytesLess s.toList key.toList = false := by rw [toL, toL]; unfold M.klt at h1; simpa using h1
    by_cases h2 : s = key
    · have q2 := str_eq h2
      have hRf : R = false := by rw [← hR, decide_eq_false_iff_not, h2]; exact M.klt_irrefl _
      subst hRf
      clear hR h1 h2
      go_enter Try.func85, Try.ntmps85
      go_upto_region 1 with (fail)
      go_quiet (fail)
      go_wp2
      go_ret
      exact ⟨rfl, ⟨rfl, rfl, rfl, Nat.le_refl _, fun _ _ => rfl⟩⟩
    · have q2 := str_ne h2
      have hRf : R = true := by rw [← hR, decide_eq_true_eq]; exact M.klt_of_not h1 h2
      subst hRf
      clear hR h1 h2
      go_enter Try.func85, Try.ntmps85
      go_upto_region 1 with (fail)
      go_quiet (fail)
      go_wp2
      go_ret
      exact ⟨rfl, ⟨rfl, rfl, rfl, Nat.le_refl _, fun _ _ => rfl⟩⟩
def Chd (ss : List ByteArray) (key : ByteArray) (w : World) (r : Ending) (w' : World) : Prop := ∃ i : Nat, r = .returned (.int .i64 (i : Int)) ∧ Up ss key i ∧ Below w.heap.size w w'
set_option maxRecDepth 100000 in
set_option maxHeartbeats 1000000 in
theorem nsearch_any (g0 g1 : Nat) (l : Bool) (ve vk : Value) (s0 : Option Addr) (sc : Nat) (ss : List ByteArray) (key : ByteArray) (w : World) (hx : Bx w g0 l ve vk (.slice s0 ss.length sc)) (hs : Txts w (.slice s0 ss.length sc) ss) (hy : w.cell? ⟨g1, 0, none⟩ = some (.string key)) (ho : M.Oks ss) (hlen : ss.length ≤ 10000) :
    Calls Try.prog 84 #[.int .i64 (ss.length : Int), .func (.func 85) #[] #[.pointer (some ⟨g0, 0, none⟩), .pointer (some ⟨g1, 0, none⟩)]] w (Chd ss key w) := by
  have HX := Lib.hid hx; have HS := Lib.hid hs; have HY := Lib.hid hy; have HO := Lib.hid ho
  clear hx hs hy ho
  go_enter Try.func84, Try.ntmps84
  go_wp2
  go_loopw [5, 6] (fun i j wr => ∃ a b : Nat, i = .int .i64 a ∧ j = .int .i64 b ∧ a ≤ b ∧ b ≤ ss.length ∧ (∀ t (h : t < ss.length), t < a → ¬ M.klt key ss[t]) ∧ (∀ t (h : t < ss.length), b ≤ t → M.klt key ss[t]) ∧ Below w.heap.size w wr) (fun i j _ => (intOf j - intOf i).toNat)
  case atStart => exact ⟨0, ss.length, rfl, rfl, Nat.zero_le _, Nat.le_refl _, fun t _ h => by omega, fun t h h' => by omega, Below.refl _ _⟩
  case round =>
    obtain ⟨a, b, rfl, rfl, hab, hbl, hlo, hhi, hb⟩ := hrel
    have HLO := Lib.hid hlo; have HHI := Lib.hid hhi
    clear hlo hhi
    by_cases hlt : a < b
    · obtain ⟨h, hh⟩ : ∃ h, (a + b) / 2 = h := ⟨_, rfl⟩
      have hh1 : a ≤ h ∧ h < b := by omega
      obtain ⟨hh1, hh2⟩ := hh1
      have hhl : h < ss.length := by omega
      have hdiv : ((a : Int) + (b : Int)) / 2 = (h : Int) := by omega
      have g1' : IntKind.u64.wrap ((a : Int) + (b : Int)) = (a : Int) + (b : Int) := by rw [IntKind.wrap_u64]; omega
      have HC := Lib.hid (child1_any h g0 g1 l ve vk s0 sc ss key wr (HX.out.below hb) (HS.out.below hb) (bcell hb HY.out) hhl)
      clear hh
      by_cases hk : M.klt key ss[h]
      · rw [decide_eq_true hk] at HC
        have HN := Lib.hid (show ∀ t (h' : t < ss.length), h ≤ t → M.klt key ss[t] from fun t ht hth => by
          rcases Nat.lt_or_ge h t with h3 | h3
          · exact M.klt_trans hk (M.oks_lt HO.out h3 ht)
          · obtain rfl : t = h := by omega
            exact hk)
        clear hk
        go_wp2_with fail
        refine HC.out.mono ?_
        rintro r w2 ⟨rfl, hb2⟩
        have hb2 := hb.trans (hb2.mono hb.size)
        go_wp2
        go_roundw
        case rel => exact ⟨a, h, rfl, rfl, by omega, by omega, HLO.out, HN.out, hb2⟩
        case measure => simp [intOf]; omega
      · rw [decide_eq_false hk] at HC
        have HN := Lib.hid (show ∀ t (h' : t < ss.length), t < h + 1 → ¬ M.klt key ss[t] from fun t ht hth hkt => by
          rcases Nat.lt_or_ge t h with h3 | h3
          · exact hk (M.klt_trans hkt (M.oks_lt HO.out h3 hhl))
          · obtain rfl : t = h := by omega
            exact hk hkt)
        clear hk
        go_wp2_with fail
        refine HC.out.mono ?_
        rintro r w2 ⟨rfl, hb2⟩
        have hb2 := hb.trans (hb2.mono hb.size)
        go_wp2
        go_roundw
        case rel => exact ⟨h + 1, b, by go_num, rfl, by omega, by omega, HN.out, HHI.out, hb2⟩
        case measure => simp [intOf]; omega
    · have HU := Lib.hid (show Up ss key a from ⟨by omega, HLO.out, fun t ht h => HHI.out t ht (by omega)⟩)
      go_wp2
      go_ret
      exact ⟨a, rfl, HU.out, hb⟩
theorem child_any (v : Value) (n : M.Nd) (key : ByteArray) (w : World) (hv : NdV w v n) (ho : M.Oks n.ss) (hlen : n.ss.length ≤ 10000) : Calls Try.prog 60 #[v, .string key] w (Chd n.ss key w) := by
  obtain ⟨l, es, ks, ss⟩ := n
  obtain ⟨e0, ec, k0, kc, s0, sc, rfl, he, hk, hs⟩ := hv
  dsimp only at he hk hs ho hlen ⊢
  have HS := Lib.hid hs; have HO := Lib.hid ho
  clear he hk hs ho
  go_enter Try.func60, Try.ntmps60
  go_upto_region 1 with (fail)
  obtain ⟨w0, hw0⟩ : ∃ W, w.alloc (.cells #[.bool l, .slice e0 es.length ec, .slice k0 ks.length kc, .slice s0 ss.length sc] 69) = W := ⟨_, rfl⟩
  have hz0 : w0.heap.size = w.heap.size + 1 := by rw [← hw0]; simp
  have hx : Bx w0 w.heap.size l (.slice e0 es.length ec) (.slice k0 ks.length kc) (.slice s0 ss.length sc) := by rw [← hw0]; exact Bx.new _ _ _ _ _ _
  have hb0 : Below w.heap.size w w0 := by rw [← hw0]; exact (Below.refl _ w).alloc (Nat.le_refl _) _
  rw [hw0]
  clear hw0
  obtain ⟨w1, hw1⟩ : ∃ W, w0.alloc (.cells #[.string key] 9) = W := ⟨_, rfl⟩
  have hy : w1.cell? ⟨w0.heap.size, 0, none⟩ = some (.string key) := by rw [← hw1, World.cell?_alloc_mark]; rfl
  have hb01 : Below w0.heap.size w0 w1 := by rw [← hw1]; exact (Below.refl _ w0).alloc (Nat.le_refl _) _
  rw [hw1]
  clear hw1
  have hx := hx.below hb01
  have hb1 := hb0.trans (hb01.mono hb0.size)
  rw [hz0] at hy
  clear hz0 hb0 hb01
  have HSE := Lib.hid (nsearch_any w.heap.size (w.heap.size + 1) l (.slice e0 es.length ec) (.slice k0 ks.length kc) s0 sc ss key w1 hx (HS.out.below hb1) hy HO.out hlen)
  obtain ⟨x0, x1, x2, x3⟩ := hx
  clear hy
  go_wp2_with fail
  refine HSE.out.mono ?_
  rintro r w2 ⟨i, rfl, hu, hb2⟩
  have HU := Lib.hid hu
  have hb2 := hb1.trans (hb2.mono hb1.size)
  clear hu
  go_wp2
  go_ret
  exact ⟨i, rfl, HU.out, hb2⟩
end Go.Proofs.Ytifdglehfhoecaa.N
