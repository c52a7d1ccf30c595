/-
  Texts of this proof, merged: NChild, EDel, EKeep, NKeptA, NWorks, NSame, NLawBack, Law. What each says stands at its head.
-/
import Derived.Deep.DeepCutAuto
import Derived.WalkKit
import Derived.ProofKit
import Derived.OpenShut
import Derived.SliceStrings
import Derived.Test.YtifdglehfhoecaaMb9
/-
  The place of the kid that has a key. Conditions: keys that rise; bounds that every node here keeps.
-/
namespace Go.Proofs.Ytifdglehfhoecaa.N
open Go.RowKit B E
/-- how many keys are not above -/
def Up (ss : List ByteArray) (key : ByteArray) (i : Nat) : Prop := i ≤ ss.length ∧ (∀ t (h : t < ss.length), t < i → ¬ M.klt key ss[t]) ∧ (∀ t (h : t < ss.length), i ≤ t → M.klt key ss[t])
theorem up_unique {ss : List ByteArray} {key : ByteArray} {i j : Nat} (h : Up ss key i) (k : Up ss key j) : i = j := by
  obtain ⟨a1, a2, a3⟩ := h
  obtain ⟨b1, b2, b3⟩ := k
  rcases Nat.lt_trichotomy i j with h | h | h
  · exact absurd (a3 i (by omega) (Nat.le_refl _)) (b2 i (by omega) h)
  · exact h
  · exact absurd (b3 j (by omega) (Nat.le_refl _)) (a2 j (by omega) h)
theorem child1_any (i g0 g1 : Nat) (l : Bool) (ve vk : Value) (s0 : Option Addr) (sc : Nat) (ss : List ByteArray) (key : ByteArray) (w : World) (hx : Bx w g0 l ve vk (.slice s0 ss.length sc)) (hs : Txts w (.slice s0 ss.length sc) ss) (hy : w.cell? ⟨g1, 0, none⟩ = some (.string key)) (hi : i < ss.length) :
    Calls Try.prog 85 #[.int .i64 (i : Int), .pointer (some ⟨g0, 0, none⟩), .pointer (some ⟨g1, 0, none⟩)] w fun r w' => r = .returned (.bool (decide (M.klt key ss[i]))) ∧ Below w.heap.size w w' := by
  obtain ⟨_, _, _, x3⟩ := hx
  obtain ⟨b, o, rfl, c0⟩ := hs.at.2.2.2 i hi
  clear hs
  have hiz : (0 : Int) ≤ (i : Int) := Int.natCast_nonneg _
  have hin : (i : Int) < (ss.length : Int) := by omega
  obtain ⟨R, hR⟩ : ∃ R, decide (M.klt key ss[i]) = R := ⟨_, rfl⟩
  rw [hR]
  obtain ⟨s, hs⟩ : ∃ s, ss[i] = s := ⟨_, rfl⟩
  rw [hs] at hR c0
  clear hs
  by_cases h1 : M.klt s key
  · have q1 : Op.bytesLess s.toList key.toList = true := by rw [toL, toL]; exact h1
    have hRf : R = false := by rw [← hR, decide_eq_false_iff_not]; exact M.klt_asymm h1
    subst hRf
    clear hR h1
    go_enter Try.func85, Try.ntmps85
    go_upto_region 1 with (fail)
    go_quiet (fail)
    go_wp2
    go_ret
    exact ⟨rfl, ⟨rfl, rfl, rfl, Nat.le_refl _, fun _ _ => rfl⟩⟩
  · have q1 : Op.bytesLess s.toList key.toList = false := by rw [toL, toL]; unfold M.klt at h1; simpa using h1
    by_cases h2 : s = key
    · have q2 := str_eq h2
      have hRf : R = false := by rw [← hR, decide_eq_false_iff_not, h2]; exact M.klt_irrefl _
      subst hRf
      clear hR h1 h2
      go_enter Try.func85, Try.ntmps85
      go_upto_region 1 with (fail)
      go_quiet (fail)
      go_wp2
      go_ret
      exact ⟨rfl, ⟨rfl, rfl, rfl, Nat.le_refl _, fun _ _ => rfl⟩⟩
    · have q2 := str_ne h2
      have hRf : R = true := by rw [← hR, decide_eq_true_eq]; exact M.klt_of_not h1 h2
      subst hRf
      clear hR h1 h2
      go_enter Try.func85, Try.ntmps85
      go_upto_region 1 with (fail)
      go_quiet (fail)
      go_wp2
      go_ret
      exact ⟨rfl, ⟨rfl, rfl, rfl, Nat.le_refl _, fun _ _ => rfl⟩⟩
def Chd (ss : List ByteArray) (key : ByteArray) (w : World) (r : Ending) (w' : World) : Prop := ∃ i : Nat, r = .returned (.int .i64 (i : Int)) ∧ Up ss key i ∧ Below w.heap.size w w'
set_option maxRecDepth 100000 in
set_option maxHeartbeats 1000000 in
theorem nsearch_any (g0 g1 : Nat) (l : Bool) (ve vk : Value) (s0 : Option Addr) (sc : Nat) (ss : List ByteArray) (key : ByteArray) (w : World) (hx : Bx w g0 l ve vk (.slice s0 ss.length sc)) (hs : Txts w (.slice s0 ss.length sc) ss) (hy : w.cell? ⟨g1, 0, none⟩ = some (.string key)) (ho : M.Oks ss) (hlen : ss.length ≤ 10000) :
    Calls Try.prog 84 #[.int .i64 (ss.length : Int), .func (.func 85) #[] #[.pointer (some ⟨g0, 0, none⟩), .pointer (some ⟨g1, 0, none⟩)]] w (Chd ss key w) := by
  have HX := Lib.hid hx; have HS := Lib.hid hs; have HY := Lib.hid hy; have HO := Lib.hid ho
  clear hx hs hy ho
  go_enter Try.func84, Try.ntmps84
  go_wp2
  go_loopw [5, 6] (fun i j wr => ∃ a b : Nat, i = .int .i64 a ∧ j = .int .i64 b ∧ a ≤ b ∧ b ≤ ss.length ∧ (∀ t (h : t < ss.length), t < a → ¬ M.klt key ss[t]) ∧ (∀ t (h : t < ss.length), b ≤ t → M.klt key ss[t]) ∧ Below w.heap.size w wr) (fun i j _ => (intOf j - intOf i).toNat)
  case atStart => exact ⟨0, ss.length, rfl, rfl, Nat.zero_le _, Nat.le_refl _, fun t _ h => by omega, fun t h h' => by omega, Below.refl _ _⟩
  case round =>
    obtain ⟨a, b, rfl, rfl, hab, hbl, hlo, hhi, hb⟩ := hrel
    have HLO := Lib.hid hlo; have HHI := Lib.hid hhi
    clear hlo hhi
    by_cases hlt : a < b
    · obtain ⟨h, hh⟩ : ∃ h, (a + b) / 2 = h := ⟨_, rfl⟩
      have hh1 : a ≤ h ∧ h < b := by omega
      obtain ⟨hh1, hh2⟩ := hh1
      have hhl : h < ss.length := by omega
      have hdiv : ((a : Int) + (b : Int)) / 2 = (h : Int) := by omega
      have g1' : IntKind.u64.wrap ((a : Int) + (b : Int)) = (a : Int) + (b : Int) := by rw [IntKind.wrap_u64]; omega
      have HC := Lib.hid (child1_any h g0 g1 l ve vk s0 sc ss key wr (HX.out.below hb) (HS.out.below hb) (bcell hb HY.out) hhl)
      clear hh
      by_cases hk : M.klt key ss[h]
      · rw [decide_eq_true hk] at HC
        have HN := Lib.hid (show ∀ t (h' : t < ss.length), h ≤ t → M.klt key ss[t] from fun t ht hth => by
          rcases Nat.lt_or_ge h t with h3 | h3
          · exact M.klt_trans hk (M.oks_lt HO.out h3 ht)
          · obtain rfl : t = h := by omega
            exact hk)
        clear hk
        go_wp2_with fail
        refine HC.out.mono ?_
        rintro r w2 ⟨rfl, hb2⟩
        have hb2 := hb.trans (hb2.mono hb.size)
        go_wp2
        go_roundw
        case rel => exact ⟨a, h, rfl, rfl, by omega, by omega, HLO.out, HN.out, hb2⟩
        case measure => simp [intOf]; omega
      · rw [decide_eq_false hk] at HC
        have HN := Lib.hid (show ∀ t (h' : t < ss.length), t < h + 1 → ¬ M.klt key ss[t] from fun t ht hth hkt => by
          rcases Nat.lt_or_ge t h with h3 | h3
          · exact hk (M.klt_trans hkt (M.oks_lt HO.out h3 hhl))
          · obtain rfl : t = h := by omega
            exact hk hkt)
        clear hk
        go_wp2_with fail
        refine HC.out.mono ?_
        rintro r w2 ⟨rfl, hb2⟩
        have hb2 := hb.trans (hb2.mono hb.size)
        go_wp2
        go_roundw
        case rel => exact ⟨h + 1, b, by go_num, rfl, by omega, by omega, HN.out, HHI.out, hb2⟩
        case measure => simp [intOf]; omega
    · have HU := Lib.hid (show Up ss key a from ⟨by omega, HLO.out, fun t ht h => HHI.out t ht (by omega)⟩)
      go_wp2
      go_ret
      exact ⟨a, rfl, HU.out, hb⟩
theorem child_any (v : Value) (n : M.Nd) (key : ByteArray) (w : World) (hv : NdV w v n) (ho : M.Oks n.ss) (hlen : n.ss.length ≤ 10000) : Calls Try.prog 60 #[v, .string key] w (Chd n.ss key w) := by
  obtain ⟨l, es, ks, ss⟩ := n
  obtain ⟨e0, ec, k0, kc, s0, sc, rfl, he, hk, hs⟩ := hv
  dsimp only at he hk hs ho hlen ⊢
  have HS := Lib.hid hs; have HO := Lib.hid ho
  clear he hk hs ho
  go_enter Try.func60, Try.ntmps60
  go_upto_region 1 with (fail)
  obtain ⟨w0, hw0⟩ : ∃ W, w.alloc (.cells #[.bool l, .slice e0 es.length ec, .slice k0 ks.length kc, .slice s0 ss.length sc] 69) = W := ⟨_, rfl⟩
  have hz0 : w0.heap.size = w.heap.size + 1 := by rw [← hw0]; simp
  have hx : Bx w0 w.heap.size l (.slice e0 es.length ec) (.slice k0 ks.length kc) (.slice s0 ss.length sc) := by rw [← hw0]; exact Bx.new _ _ _ _ _ _
  have hb0 : Below w.heap.size w w0 := by rw [← hw0]; exact (Below.refl _ w).alloc (Nat.le_refl _) _
  rw [hw0]
  clear hw0
  obtain ⟨w1, hw1⟩ : ∃ W, w0.alloc (.cells #[.string key] 9) = W := ⟨_, rfl⟩
  have hy : w1.cell? ⟨w0.heap.size, 0, none⟩ = some (.string key) := by rw [← hw1, World.cell?_alloc_mark]; rfl
  have hb01 : Below w0.heap.size w0 w1 := by rw [← hw1]; exact (Below.refl _ w0).alloc (Nat.le_refl _) _
  rw [hw1]
  clear hw1
  have hx := hx.below hb01
  have hb1 := hb0.trans (hb01.mono hb0.size)
  rw [hz0] at hy
  clear hz0 hb0 hb01
  have HSE := Lib.hid (nsearch_any w.heap.size (w.heap.size + 1) l (.slice e0 es.length ec) (.slice k0 ks.length kc) s0 sc ss key w1 hx (HS.out.below hb1) hy HO.out hlen)
  obtain ⟨x0, x1, x2, x3⟩ := hx
  clear hy
  go_wp2_with fail
  refine HSE.out.mono ?_
  rintro r w2 ⟨i, rfl, hu, hb2⟩
  have HU := Lib.hid hu
  have hb2 := hb1.trans (hb2.mono hb1.size)
  clear hu
  go_wp2
  go_ret
  exact ⟨i, rfl, HU.out, hb2⟩
end Go.Proofs.Ytifdglehfhoecaa.N

/-
  A list without a key. Conditions: below 2^30 entries.
-/
namespace Go.Proofs.Ytifdglehfhoecaa.E
open Go.RowKit B
/-- a list without a key, as it is told -/
def dell (l : List Ent) (k : ByteArray) : List Ent := if M.Ok l then M.del l k else l
theorem two_cells (W : World) (a b : List Ent) (v0 : Value) (h0 : Ents W v0 a) (v2 : Value) (h2 : Ents W v2 b) :
    let vs : List (Value × List Ent) := [(v0, a), (v2, b)]
    ∀ j (_h : j < vs.length), (W.alloc (.cells #[v0, v2] 43)).drew.cell? ⟨W.heap.size, j, none⟩ = some vs[j].1 ∧ Ents (W.alloc (.cells #[v0, v2] 43)).drew vs[j].1 vs[j].2 := by
  intro vs j hj
  have hb2 : Below W.heap.size W (W.alloc (.cells #[v0, v2] 43)).drew := ((Below.refl _ W).alloc (Nat.le_refl _) _).drew
  refine ⟨?_, ?_⟩
  · show (W.alloc _).cell? _ = _
    rw [World.cell?_alloc_mark]
    match j, hj with
    | 0, _ => rfl
    | 1, _ => rfl
  · match j, hj with
    | 0, _ => exact h0.below hb2
    | 1, _ => exact h2.below hb2
theorem flat2 (a b : Value × List Ent) : flat [a, b] [a, b].length = a.2 ++ b.2 := by simp [flat]
set_option maxRecDepth 100000 in
set_option maxHeartbeats 1000000 in
theorem del_walk (ao : Option Addr) (cap : Nat) (l : List Ent) (k : ByteArray) (w : World) (hv : Ents w (.slice ao l.length cap) l) (hlen : l.length ≤ 1000000000) :
    Calls Try.prog 44 #[.slice ao l.length cap, .string k] w (Mk (dell l k) w) := by
  have hop := hv.open
  have HV := Lib.hid hv; clear hv
  obtain ⟨_, _, e, hcp, hcm, hc⟩ := hop
  obtain ⟨rfl, rfl⟩ := (show _ ∧ _ from ⟨(Value.slice.inj e).1, (Value.slice.inj e).2.2⟩)
  have HC := Lib.hid hc; clear hc e
  go_enter Try.func44, Try.ntmps44
  go_wp2_with fail
  refine (find_any _ l k _ HV.out (by omega)).mono ?_
  rintro r w1 ⟨i, ok, rfl, h1, h2, h3, hb1⟩
  have H2 := Lib.hid h2; have H3 := Lib.hid h3
  clear h2 h3
  rcases ok with _ | _
  · have hno : dell l k = l := by
      unfold dell
      split
      · rename_i ho
        exact M.del_none fun hh => by
          have := H2.out.2 ((M.low_has (H3.out ho.2) ho.2).1 hh)
          exact Bool.noConfusion this
      · rfl
    have HN := Lib.hid hno; clear hno
    go_wp2
    go_ret
    exact ⟨_, rfl, by rw [HN.out]; exact HV.out.below hb1, hb1⟩
  obtain ⟨hi, hki⟩ := H2.out.1 rfl
  have HKI := Lib.hid hki; clear hki
  by_cases ho : M.Ok l
  case neg =>
    have HD := Lib.hid (show decide (M.Ok l) = false by simp [ho])
    have HN := Lib.hid (show dell l k = l by unfold dell; rw [if_neg ho])
    clear ho
    go_wp2_with fail
    refine (right_any _ l _ (HV.out.below hb1) (by omega)).mono ?_
    rintro r w2 ⟨rfl, hb2⟩
    rw [HD.out]
    have hb2 := hb1.trans (hb2.mono hb1.size)
    clear hb1
    go_wp2
    go_ret
    exact ⟨_, rfl, by rw [HN.out]; exact HV.out.below hb2, hb2⟩
  have HD := Lib.hid (show decide (M.Ok l) = true by simp [ho])
  have HN := Lib.hid (show l.take i ++ l.drop (i + 1) = dell l k by unfold dell; rw [if_pos ho]; exact M.del_eq (H3.out ho.2) ho.2 hi HKI.out)
  clear ho
  go_wp2_with fail
  refine (right_any _ l _ (HV.out.below hb1) (by omega)).mono ?_
  rintro r W ⟨rfl, hb2⟩
  rw [HD.out]
  have hbW := hb1.trans (hb2.mono hb1.size)
  clear hb1 hb2
  obtain ⟨b, o, rfl, _, _⟩ := HC.out i hi
  obtain ⟨n, hn⟩ : ∃ n, i + 1 = n := ⟨_, rfl⟩
  have HLO := Lib.hid (cut_lo (HV.out.below hbW) i h1)
  have hhi := cut_hi (HV.out.below hbW) n (by omega)
  have HNN := Lib.hid hn
  have hi0 : (0 : Int) ≤ (i : Int) := Int.natCast_nonneg _
  have hi1 : (i : Int) ≤ (cap : Int) := by omega
  have hn0 : (0 : Int) ≤ (n : Int) := Int.natCast_nonneg _
  have hn1 : (n : Int) ≤ (l.length : Int) := by omega
  have hn2 : (l.length : Int) ≤ (cap : Int) := by omega
  have HLEN : ∀ x z : Value, (flat [(x, l.take i), (z, l.drop n)] [(x, l.take i), (z, l.drop n)].length).length ≤ 1099511627776 := fun x z => by rw [flat2]; simp; omega
  have HW1 := Lib.hid (show IntKind.i64.wrap ((i : Int) + 1) = (n : Int) by rw [IntKind.wrap_i64]; omega)
  go_wp2_with fail
  by_cases hci : cap = n
  · subst hci
    rw [if_pos rfl] at hhi
    have hli : l.length - cap = 0 := by omega
    rw [hli, Nat.sub_self] at hhi
    have HHI := Lib.hid hhi; clear hhi
    have HLEN := Lib.hid (HLEN (.slice (some ⟨b, o, none⟩) i i) (.slice (some ⟨b, o, none⟩) 0 0))
    have hw1 := HW1.out
    clear hn
    go_region_held3 (fun _ => True) (first | trivial) (first | (go_at_call 74; refine (concat_any W.heap.size [(.slice (some ⟨b, o, none⟩) i i, l.take i), (.slice (some ⟨b, o, none⟩) 0 0, l.drop cap)] _ (by simp) HLEN.out (two_cells W _ _ _ HLO.out _ HHI.out)).mono ?_; rintro r w3 ⟨v, rfl, hown, hb3⟩))
    have hEn : Ents w3 v _ := Rw.own hown
    rw [flat2] at hEn
    have hEn2 : Ents w3 v (dell l k) := by rw [← HN.out, HNN.out]; exact hEn
    have hbZ : Below w.heap.size w w3 := ((hbW.alloc hbW.size _).drew).trans (hb3.mono (by have := hbW.size; show _ ≤ (W.alloc _).heap.size; simp; omega))
    have HEN := Lib.hid hEn2
    clear hEn hEn2 hown hb3
    go_wp2
    go_ret
    exact ⟨_, rfl, HEN.out, hbZ⟩
  · rw [if_neg hci, add_lit] at hhi
    have HHI := Lib.hid hhi; clear hhi
    have HLEN := Lib.hid (HLEN (.slice (some ⟨b, o, none⟩) i i) (.slice (some ⟨b, o + n * 2, none⟩) (l.length - n) (cap - n)))
    have hw1 := HW1.out
    clear hn
    go_region_held3 (fun _ => True) (first | trivial) (first | (go_at_call 74; refine (concat_any W.heap.size [(.slice (some ⟨b, o, none⟩) i i, l.take i), (.slice (some ⟨b, o + n * 2, none⟩) (l.length - n) (cap - n), l.drop n)] _ (by simp) HLEN.out (two_cells W _ _ _ HLO.out _ HHI.out)).mono ?_; rintro r w3 ⟨v, rfl, hown, hb3⟩))
    have hEn : Ents w3 v _ := Rw.own hown
    rw [flat2] at hEn
    have hEn2 : Ents w3 v (dell l k) := by rw [← HN.out, HNN.out]; exact hEn
    have hbZ : Below w.heap.size w w3 := ((hbW.alloc hbW.size _).drew).trans (hb3.mono (by have := hbW.size; show _ ≤ (W.alloc _).heap.size; simp; omega))
    have HEN := Lib.hid hEn2
    clear hEn hEn2 hown hb3
    go_wp2
    go_ret
    exact ⟨_, rfl, HEN.out, hbZ⟩
theorem del_any (v : Value) (l : List Ent) (k : ByteArray) (w : World) (hv : Ents w v l) (hlen : l.length ≤ 1000000000) :
    Calls Try.prog 44 #[v, .string k] w (Mk (dell l k) w) := by
  obtain ⟨ao, cap, rfl, _⟩ := hv.open
  exact del_walk ao cap l k w hv hlen
end Go.Proofs.Ytifdglehfhoecaa.E

/-
  What putting and deleting does to what is got. Conditions: none. No program in sight.
-/
namespace Go.Proofs.Ytifdglehfhoecaa.E
open Go.RowKit B
theorem getl_iff {l : List Ent} (ho : M.Ok l) (k v : ByteArray) : getl l k = some v ↔ (k, v) ∈ l := by
  constructor
  · intro h
    unfold getl at h
    rw [if_pos ho, Option.map_eq_some_iff] at h
    obtain ⟨e, he, rfl⟩ := h
    have h1 := List.mem_of_find?_eq_some he
    have h2 := List.find?_some he
    have h3 : e.1 = k := by simpa using h2
    rw [← h3]; exact h1
  · intro h
    obtain ⟨i, hi, e⟩ := List.getElem_of_mem h
    have := getl_yes ho hi
    rw [e] at this
    exact this
theorem ok_putl {l : List Ent} {k v : ByteArray} (ho : M.Ok l) : M.Ok (putl l k v) := by
  by_cases hm : M.may k v
  · obtain ⟨i, hi⟩ := M.low_ex l k ho.2
    rw [putl_eq hi ho hm]
    exact M.ok_put hi ho hm
  · rw [putl_no fun h => hm h.2]; exact ho
theorem mem_putl {l : List Ent} {k v : ByteArray} (ho : M.Ok l) (hm : M.may k v) (e : Ent) : e ∈ putl l k v ↔ e = (k, v) ∨ (e ∈ l ∧ e.1 ≠ k) := by
  unfold putl
  rw [if_pos ⟨ho, hm⟩, M.mem_insert, M.mem_del]
theorem ok_dell {l : List Ent} {k : ByteArray} (ho : M.Ok l) : M.Ok (dell l k) := by
  unfold dell; rw [if_pos ho]; exact M.ok_del ho
theorem mem_dell {l : List Ent} {k : ByteArray} (ho : M.Ok l) (e : Ent) : e ∈ dell l k ↔ e ∈ l ∧ e.1 ≠ k := by
  unfold dell; rw [if_pos ho, M.mem_del]
theorem got_new {l : List Ent} {k v : ByteArray} (ho : M.Ok l) (hm : M.may k v) : getl (putl l k v) k = some v := by
  rw [getl_iff (ok_putl ho), mem_putl ho hm]; exact .inl rfl
theorem got_other {l : List Ent} {k v o : ByteArray} (ho : M.Ok l) (hm : M.may k v) (hn : o ≠ k) : getl (putl l k v) o = getl l o := by
  apply Option.ext
  intro x
  rw [getl_iff (ok_putl ho), getl_iff ho, mem_putl ho hm]
  constructor
  · rintro (h | h)
    · exact absurd (congrArg Prod.fst h) hn
    · exact h.1
  · intro h
    exact .inr ⟨h, hn⟩
theorem got_gone {l : List Ent} {k : ByteArray} (ho : M.Ok l) : getl (dell l k) k = none := by
  rw [Option.eq_none_iff_forall_ne_some]
  intro x h
  rw [getl_iff (ok_dell ho), mem_dell ho] at h
  exact h.2 rfl
theorem got_kept {l : List Ent} {k o : ByteArray} (ho : M.Ok l) (hn : o ≠ k) : getl (dell l k) o = getl l o := by
  apply Option.ext
  intro x
  rw [getl_iff (ok_dell ho), getl_iff ho, mem_dell ho]
  exact ⟨fun h => h.1, fun h => ⟨h, hn⟩⟩
theorem len_putl (l : List Ent) (k v : ByteArray) : (putl l k v).length ≤ l.length + 1 := by
  unfold putl
  split
  · have h1 : ∀ m : List Ent, (M.insert k v m).length = m.length + 1 := fun m => by
      induction m with
      | nil => rfl
      | cons e m ih =>
        unfold M.insert
        split
        · rfl
        · rw [List.length_cons, ih, List.length_cons]
    rw [h1]
    have : (M.del l k).length ≤ l.length := List.length_filter_le _ _
    omega
  · omega
theorem len_dell (l : List Ent) (k : ByteArray) : (dell l k).length ≤ l.length := by
  unfold dell
  split
  · exact List.length_filter_le _ _
  · omega
end Go.Proofs.Ytifdglehfhoecaa.E

/-
  For the law on what is kept: splitting, joining and swapping told at once; writing into a row; and what lies in which part. Conditions: bounds that every node here keeps.
-/
namespace Go.Proofs.Ytifdglehfhoecaa.N
open Go.RowKit B E
/-- a cut is there -/
theorem half_go (l : List Ent) : ∀ d k, l.length = k + 1 + d → 1 ≤ k → (∀ j, 1 ≤ j → j < k → 2 * M.sz (l.take j) < M.sz l) → ∃ k, M.Half l k
  | 0, k, h, h1, h2 => ⟨k, .inr ⟨h1, by omega, .inr (by omega), h2⟩⟩
  | d + 1, k, h, h1, h2 => by
    by_cases hc : M.sz l ≤ 2 * M.sz (l.take k)
    · exact ⟨k, .inr ⟨h1, by omega, .inl hc, h2⟩⟩
    · exact half_go l d (k + 1) (by omega) (by omega) fun j hj hjk => by
        rcases Nat.lt_or_ge j k with h3 | h3
        · exact h2 j hj h3
        · obtain rfl : j = k := by omega
          omega
theorem half_ex (l : List Ent) (h : 2 ≤ l.length) : ∃ k, M.Half l k ∧ k < l.length := by
  obtain ⟨k, hk⟩ := half_go l (l.length - 2) 1 (by omega) (Nat.le_refl _) fun j h1 h2 => by omega
  exact ⟨k, hk, by rcases hk with ⟨h1, _⟩ | ⟨_, h1, _⟩ <;> omega⟩
/-- what splitting a node may tell -/
def SPl (es : List Ent) (a : M.Nd) (mid : ByteArray) (b : M.Nd) : Prop := mid = ByteArray.empty ∨ ∃ k, ∃ h : k < es.length, a = ⟨true, es.take k, [], []⟩ ∧ mid = es[k].1 ∧ b = ⟨true, es.drop k, [], []⟩
def SPi (ks : List Int) (ss : List ByteArray) (a : M.Nd) (mid : ByteArray) (b : M.Nd) : Prop := mid = ByteArray.empty ∨ ∃ k, ∃ h : k < ss.length, k + 1 ≤ ks.length ∧ a = ⟨false, [], ks.take (k + 1), ss.take k⟩ ∧ mid = ss[k] ∧ b = ⟨false, [], ks.drop (k + 1), ss.drop (k + 1)⟩
theorem splitl_any (v : Value) (es : List Ent) (ks : List Int) (ss : List ByteArray) (w : World) (hv : NdV w v ⟨true, es, ks, ss⟩) (hbd : Bd ⟨true, es, ks, ss⟩) (ho : M.NOk ⟨true, es, ks, ss⟩) :
    ∃ a mid b, SPl es a mid b ∧ Calls Try.prog 58 #[v] w (NSp a mid b w) := by
  obtain ⟨h1, h2, h3⟩ := nok_leaf.1 ho
  by_cases hl : es.length < 2
  · exact ⟨_, _, _, .inl rfl, split_copy v true es ks ss w hv hbd ho hl (by rw [h2]; simp)⟩
  · obtain ⟨k, hk, hkl⟩ := half_ex es (by omega)
    exact ⟨_, _, _, .inr ⟨k, hkl, rfl, rfl, rfl⟩, split_leaf v es ks ss w hv hbd ho (by omega) k hk hkl⟩
theorem spliti_any (v : Value) (es : List Ent) (ks : List Int) (ss : List ByteArray) (w : World) (hv : NdV w v ⟨false, es, ks, ss⟩) (hbd : Bd ⟨false, es, ks, ss⟩) (ho : M.NOk ⟨false, es, ks, ss⟩) :
    ∃ a mid b, SPi ks ss a mid b ∧ Calls Try.prog 58 #[v] w (NSp a mid b w) := by
  obtain ⟨h1, h2, h3, h4⟩ := nok_inner.1 ho
  by_cases hl : ks.length < 2
  · exact ⟨_, _, _, .inl rfl, split_copy v false es ks ss w hv hbd ho (by rw [h1]; simp) hl⟩
  · exact ⟨_, _, _, .inr ⟨ks.length / 2 - 1, by omega, by omega, rfl, rfl, rfl⟩, split_inner v es ks ss w hv hbd ho (by omega) (ks.length / 2 - 1 + 1) (ks.length / 2 - 1) (by omega) rfl (by omega)⟩
theorem join_any (va vb : Value) (a b : M.Nd) (key : ByteArray) (w : World) (ha : NdV w va a) (hb : NdV w vb b) (hda : Bd a) (hdb : Bd b) : Calls Try.prog 59 #[va, .string key, vb] w (NMk (joinN a key b) w) := by
  obtain ⟨la, es, ks, ss⟩ := a
  obtain ⟨lb, fs, js, ts⟩ := b
  by_cases h : la = lb
  · subst h
    rcases la with _ | _
    · exact join_inner va vb es fs ks js ss ts key w ha hb hda hdb
    · exact join_leaf va vb es fs ks js ss ts key w ha hb hda hdb
  · have e : joinN ⟨la, es, ks, ss⟩ key ⟨lb, fs, js, ts⟩ = ⟨la, es, ks, ss⟩ := by unfold joinN; exact if_neg h
    rw [e]
    exact join_other va vb _ _ key w ha hb hda h
theorem joinN_len {a b : M.Nd} {key : ByteArray} (ha : a.es.length ≤ 60 ∧ a.ks.length ≤ 60) (hb : b.es.length ≤ 60 ∧ b.ks.length ≤ 60) : (joinN a key b).es.length ≤ 120 ∧ (joinN a key b).ks.length ≤ 120 := by
  unfold joinN
  split
  · split
    · simp only [List.length_append]; omega
    · simp only [List.length_append]; omega
  · omega
/-- the x between a node and nothing -/
def xs (l : Bool) : List ByteArray := if l = true then [] else [⟨#[120]⟩]
theorem rjoin_x (va : Value) (l : Bool) (es : List Ent) (ks : List Int) (ss : List ByteArray) (w : World) (ha : NdV w va ⟨l, es, ks, ss⟩) (hda : Bd ⟨l, es, ks, ss⟩) :
    Calls Try.prog 57 #[va, .string ⟨#[120]⟩, .agg #[.bool l, .slice none 0 0, .slice none 0 0, .slice none 0 0]] w (NMk ⟨l, es, ks, ss ++ xs l⟩ w) := by
  have hb : NdV w (.agg #[.bool l, .slice none 0 0, .slice none 0 0, .slice none 0 0]) ⟨l, [], [], []⟩ := ⟨none, 0, none, 0, none, 0, rfl, rw_empty w none 0 2 (by decide), iempty w none 0 (by decide), tempty w none 0 (by decide)⟩
  have hd : Bd ⟨l, [], [], []⟩ := ⟨by simp, by simp, by simp, by simp [M.sz], by simp [M.szs]⟩
  rcases l with _ | _
  · refine (rjoin_false va _ es [] ks [] ss [] ⟨#[120]⟩ w ha hb hda hd).mono ?_
    rintro r w' ⟨v, rfl, h1, h2⟩
    refine ⟨v, rfl, ?_, h2⟩
    simpa [xs] using h1
  · refine (rjoin_true va _ es [] ks [] ss [] ⟨#[120]⟩ w ha hb hda hd).mono ?_
    rintro r w' ⟨v, rfl, h1, h2⟩
    refine ⟨v, rfl, ?_, h2⟩
    simpa [xs] using h1
theorem NdO.other {w w' : World} {base g : Nat} {v : Value} {n : M.Nd} {t : TypeId} {c : Array Value} {f : Nat × Nat} (h : NdO w base v n) (hg : w.heap[g]? = some (.cells c t f)) (ho : Only g w w') (h1 : t ≠ 49) (h2 : t ≠ 3) (h3 : t ≠ 9) : NdO w' base v n := by
  obtain ⟨e0, ec, k0, kc, s0, sc, rfl, o1, o2, o3⟩ := h
  exact ⟨e0, ec, k0, kc, s0, sc, rfl, o1.kept ho (.inr (own_kindJ o1 hg h1)), o2.kept ho (.inr (own_kindJ o2 hg h2)), o3.kept ho (.inr (own_kindJ o3 hg h3))⟩
set_option maxRecDepth 100000 in
set_option maxHeartbeats 4000000 in
theorem swap_leaf (v xv yv : Value) (i j : Int) (es : List Ent) (ks : List Int) (ss : List ByteArray) (w : World) (hv : NdV w v ⟨true, es, ks, ss⟩) (hbd : Bd ⟨true, es, ks, ss⟩) :
    Calls Try.prog 54 #[v, .int .i64 i, .int .i64 j, xv, yv] w (NMk ⟨true, es, ks, ss⟩ w) := by
  have HV := Lib.hid hv; have HBD := Lib.hid hbd
  obtain ⟨e0, ec, k0, kc, s0, sc, rfl, he, hk, hs⟩ := hv
  dsimp only at HV HBD ⊢
  clear he hk hs hbd
  obtain ⟨en, hen⟩ : ∃ x, es.length = x := ⟨_, rfl⟩
  obtain ⟨kn, hkn⟩ : ∃ x, ks.length = x := ⟨_, rfl⟩
  obtain ⟨sn, hsn⟩ : ∃ x, ss.length = x := ⟨_, rfl⟩
  rw [hen, hkn, hsn] at HV ⊢
  have HEN := Lib.hid hen; have HKN := Lib.hid hkn; have HSN := Lib.hid hsn
  clear hen hkn hsn
  go_enter Try.func54, Try.ntmps54
  go_upto_region 1 with (fail)
  obtain ⟨wa, hwa⟩ : ∃ W, w.alloc (.cells #[.bool true, .slice e0 en ec, .slice k0 kn kc, .slice s0 sn sc] 69) = W := ⟨_, rfl⟩
  have hza : wa.heap.size = w.heap.size + 1 := by rw [← hwa]; simp
  have hx : Bx wa w.heap.size true (.slice e0 en ec) (.slice k0 kn kc) (.slice s0 sn sc) := by rw [← hwa]; exact Bx.new _ _ _ _ _ _
  have hba : Below w.heap.size w wa := by rw [← hwa]; exact (Below.refl _ w).alloc (Nat.le_refl _) _
  rw [hwa]
  clear hwa
  obtain ⟨w1, hwc⟩ : ∃ W, wa.alloc (.cells #[.bool false, .slice none 0 0, .slice none 0 0, .slice none 0 0] 69) = W := ⟨_, rfl⟩
  have hzc : w1.heap.size = w.heap.size + 2 := by rw [← hwc]; simp [hza]
  have z1 : Zb w1 (w.heap.size + 1) 69 := by rw [← hwc, ← hza]; exact Zb.new _ _ _ _ _ _
  have hbc : Below wa.heap.size wa w1 := by rw [← hwc]; exact (Below.refl _ wa).alloc (Nat.le_refl _) _
  rw [hwc]
  clear hwc
  have hx := hx.below hbc
  have hb1 := hba.trans (hbc.mono hba.size)
  clear hba hbc hza
  have HCP := Lib.hid (copied_any _ _ w1 (HV.out.below hb1) HBD.out)
  have HZC := Lib.hid hzc
  obtain ⟨x0, x1, x2, x3⟩ := hx
  clear hzc
  go_wp2_with fail
  refine HCP.out.mono ?_
  rintro r w3 ⟨vc, rfl, ⟨a0, ac, b0, bc, c0, cc, rfl, o1, o2, o3⟩, hb3⟩
  dsimp only at o1 o2 o3 ⊢
  rw [HEN.out] at o1 ⊢
  rw [HKN.out] at o2 ⊢
  rw [HSN.out] at o3 ⊢
  have z1 := z1.below hb3
  have O1 := Lib.hid o1; have O2 := Lib.hid o2; have O3 := Lib.hid o3
  have hb4 := hb1.trans (hb3.mono hb1.size)
  clear x0 x1 x2 x3 o1 o2 o3 hb3
  go_wp2_with (refine wpList_store69 rfl _ _ rfl (w.heap.size + 1) rfl rfl z1 ?_)
  intro w5 hz5 hon
  have HZ5 := Lib.hid hz5; have HON := Lib.hid hon
  clear hz5 hon z1
  go_wp2
  have hon := HON.out
  have hlt : w.heap.size + 1 < w1.heap.size := by rw [HZC.out]; omega
  have f1 := own_mono (own_only' O1.out hon hlt) hb1.size
  have f2 := own_mono (own_only' O2.out hon hlt) hb1.size
  have f3 := own_mono (own_only' O3.out hon hlt) hb1.size
  have hb5 := hb4.trans (hon.to_below (by omega) hb4.size)
  refine bodyPost_ret (res_one rfl rfl (load69 (bx_blk HZ5.out))) rfl ?_
  refine ⟨_, rfl, ?_, hb5⟩
  rw [← HEN.out] at f1 ⊢
  rw [← HKN.out] at f2 ⊢
  rw [← HSN.out] at f3 ⊢
  exact ⟨_, _, _, _, _, _, rfl, f1, f2, f3⟩
theorem swapk_any (v xv yv : Value) (l : Bool) (es : List Ent) (ks : List Int) (ss : List ByteArray) (w : World) (hv : NdV w v ⟨l, es, ks, ss⟩) (hx : Ints w xv [7, 8]) (hy : Txts w yv [⟨#[113]⟩]) (hbd : Bd ⟨l, es, ks, ss⟩) (ho : M.NOk ⟨l, es, ks, ss⟩) (hs : ks.length ≤ 60) :
    ∃ sn : M.Nd, sn.ks.length ≤ 200 ∧ Calls Try.prog 54 #[v, .int .i64 0, .int .i64 1, xv, yv] w (NMk sn w) := by
  rcases l with _ | _
  · obtain ⟨h1, h2, h3, h4⟩ := nok_inner.1 ho
    exact ⟨_, by simp; omega, swap_good v xv yv es ks [7, 8] ss [⟨#[113]⟩] 0 1 0 w hv hx hy ⟨hbd.1, hbd.2.1, hbd.2.2.1⟩ (by decide) (by decide) (by omega) rfl rfl (by omega)⟩
  · exact ⟨_, by show ks.length ≤ 200; omega, swap_leaf v xv yv 0 1 es ks ss w hv hbd⟩
/-- where a key is: leaves -/
theorem getr_iff {l : List Ent} (ho : M.Ok l) (k v : ByteArray) : getr l k = some v ↔ (k, v) ∈ l := by rw [← getr_eq ho]; exact getl_iff ho k v
theorem getr_none {l : List Ent} (ho : M.Ok l) (k : ByteArray) (h : ∀ v, (k, v) ∉ l) : getr l k = none := by
  rcases hg : getr l k with _ | v
  · rfl
  · exact absurd ((getr_iff ho k v).1 hg) (h v)
inductive Prt (es : List Ent) (k : Nat) (key mid : ByteArray) : Prop where
  | one (a b : ByteArray) (h1 : getr es key = some a) (h2 : getr (es.take k) key = some b) (h3 : getr (es.drop k) key = none) (h4 : M.klt key mid) : Prt es k key mid
  | two (a b : ByteArray) (h1 : getr es key = some a) (h2 : getr (es.take k) key = none) (h3 : getr (es.drop k) key = some b) (h4 : ¬ M.klt key mid) : Prt es k key mid
  | no (h1 : getr es key = none) (h2 : getr (es.take k) key = none) (h3 : getr (es.drop k) key = none) : Prt es k key mid
theorem prt {es : List Ent} {k : Nat} (key : ByteArray) (ho : M.Ok es) (hk : k < es.length) : Prt es k key es[k].1 := by
  have oa := M.ok_take ho k
  have ob := M.ok_drop ho k
  have hlo : ∀ v, (key, v) ∈ es.take k → M.klt key es[k].1 := fun v h => by
    obtain ⟨i, hi, e⟩ := List.getElem_of_mem h
    rw [List.getElem_take] at e
    have hik : i < k := by rw [List.length_take] at hi; omega
    have := M.asc_lt ho.2 hik hk
    rw [e] at this
    exact this
  have hhi : ∀ v, (key, v) ∈ es.drop k → ¬ M.klt key es[k].1 := fun v h => by
    obtain ⟨i, hi, e⟩ := List.getElem_of_mem h
    rw [List.getElem_drop] at e
    rw [List.length_drop] at hi
    rcases Nat.eq_zero_or_pos i with h0 | h0
    · subst h0
      have e' : es[k] = (key, v) := e
      rw [e']; exact M.klt_irrefl _
    · have := M.asc_lt ho.2 (show k < k + i by omega) (by omega)
      rw [e] at this
      exact M.klt_asymm this
  by_cases h1 : ∃ v, (key, v) ∈ es.take k
  · obtain ⟨v, h1⟩ := h1
    exact .one v v ((getr_iff ho key v).2 (List.mem_of_mem_take h1)) ((getr_iff oa key v).2 h1) (getr_none ob key fun u hu => hhi u hu (hlo v h1)) (hlo v h1)
  · by_cases h2 : ∃ v, (key, v) ∈ es.drop k
    · obtain ⟨v, h2⟩ := h2
      exact .two v v ((getr_iff ho key v).2 (List.mem_of_mem_drop h2)) (getr_none oa key fun u hu => h1 ⟨u, hu⟩) ((getr_iff ob key v).2 h2) (hhi v h2)
    · refine .no (getr_none ho key fun u hu => ?_) (getr_none oa key fun u hu => h1 ⟨u, hu⟩) (getr_none ob key fun u hu => h2 ⟨u, hu⟩)
      rw [← List.take_append_drop k es, List.mem_append] at hu
      rcases hu with hu | hu
      · exact h1 ⟨u, hu⟩
      · exact h2 ⟨u, hu⟩
/-- where a key is: inner nodes -/
theorem up_lo {ss : List ByteArray} {key : ByteArray} {i j k : Nat} (hk : k < ss.length) (h : Up ss key i) (hl : M.klt key ss[k]) (hj : Up (ss.take k) key j) : j = i := by
  obtain ⟨h1, h2, h3⟩ := h
  have hik : i ≤ k := by
    rcases Nat.lt_or_ge k i with h | h
    · exact absurd hl (h2 k hk h)
    · exact h
  refine up_unique hj ⟨by rw [List.length_take]; omega, fun t ht h => ?_, fun t ht h => ?_⟩
  · rw [List.getElem_take]; exact h2 t (by rw [List.length_take] at ht; omega) h
  · rw [List.getElem_take]; exact h3 t (by rw [List.length_take] at ht; omega) h
theorem up_hi {ss : List ByteArray} {key : ByteArray} {i j k : Nat} (ho : M.Oks ss) (hk : k < ss.length) (h : Up ss key i) (hl : ¬ M.klt key ss[k]) (hj : Up (ss.drop (k + 1)) key j) : i = j + (k + 1) := by
  obtain ⟨h1, h2, h3⟩ := hj
  rw [List.length_drop] at h1
  refine up_unique h ⟨by omega, fun t ht hh hkt => ?_, fun t ht hh => ?_⟩
  · rcases Nat.lt_or_ge k t with h4 | h4
    · have := h2 (t - (k + 1)) (by rw [List.length_drop]; omega) (by omega)
      rw [List.getElem_drop] at this
      have e : k + 1 + (t - (k + 1)) = t := by omega
      simp only [e] at this
      exact this hkt
    · rcases Nat.lt_or_ge t k with h5 | h5
      · exact hl (M.klt_trans hkt (M.oks_lt ho h5 hk))
      · obtain rfl : t = k := by omega
        exact hl hkt
  · have := h3 (t - (k + 1)) (by rw [List.length_drop]; omega) (by omega)
    rw [List.getElem_drop] at this
    have e : k + 1 + (t - (k + 1)) = t := by omega
    simp only [e] at this
    exact this
/-- a row of memory that may be written -/
def RowN (G : Nat) (ao : Option Addr) (e : TypeId) (m : Nat) (w : World) : Prop := m = 0 ∨ ∃ g c, ao = some ⟨g, 0, none⟩ ∧ G ≤ g ∧ w.heap[g]? = some (.cells c e (0, 0)) ∧ m ≤ c.size
theorem RowN.of {w : World} {base size n cap : Nat} {e : TypeId} {ao : Option Addr} {cs : List Value} (h : w.ownsRow base e size (.slice ao n cap) n cs) : RowN base ao e (n * size) w := by
  obtain ⟨_, ⟨h1, h2⟩ | ⟨g, cap', cur, h1, h2, h3, h4, h5, h6, h7⟩⟩ := h
  · exact .inl (by rw [h2]; simp)
  · injection h1 with h1 h8 h9
    exact .inr ⟨g, cur, h1, h2, h3, by rw [h6]; exact Nat.mul_le_mul_right _ h4⟩
theorem RowN.base {w : World} {G G' m : Nat} {e : TypeId} {ao : Option Addr} (h : RowN G' ao e m w) (hg : G ≤ G') : RowN G ao e m w := by
  rcases h with h | ⟨g, c, h1, h2, h3, h4⟩
  · exact .inl h
  · exact .inr ⟨g, c, h1, Nat.le_trans hg h2, h3, h4⟩
theorem RowN.below {w w' : World} {G m : Nat} {e : TypeId} {ao : Option Addr} (h : RowN G ao e m w) (hb : Below w.heap.size w w') : RowN G ao e m w' := by
  rcases h with h | ⟨g, c, h1, h2, h3, h4⟩
  · exact .inl h
  · exact .inr ⟨g, c, h1, h2, blk_below h3 hb, h4⟩
/-- one cell, or more, of a block have been written -/
def Wrote (g : Nat) (t : TypeId) (w w' : World) : Prop := ∃ c c', w.heap[g]? = some (.cells c t (0, 0)) ∧ w'.heap[g]? = some (.cells c' t (0, 0)) ∧ c'.size = c.size ∧ Only g w w'
theorem RowN.wrote {w w' : World} {G m g : Nat} {e t : TypeId} {ao : Option Addr} (h : RowN G ao e m w) (hw : Wrote g t w w') : RowN G ao e m w' := by
  obtain ⟨c, c', h1, h2, h3, ho⟩ := hw
  rcases h with h | ⟨g', d, k1, k2, k3, k4⟩
  · exact .inl h
  · by_cases hg : g' = g
    · subst hg
      rw [h1] at k3
      injection k3 with k3
      injection k3 with k5 k6 k7
      subst k5 k6
      exact .inr ⟨g', c', k1, k2, h2, by omega⟩
    · exact .inr ⟨g', d, k1, k2, by rw [ho.block g' (lt_of_blk k3) fun he => hg (Option.some.inj he)]; exact k3, k4⟩
theorem blk_wrote {w w' : World} {b g : Nat} {t s : TypeId} {c : Array Value} {f : Nat × Nat} (h : w.heap[b]? = some (.cells c s f)) (hw : Wrote g t w w') (hne : s ≠ t) : w'.heap[b]? = some (.cells c s f) := by
  obtain ⟨c1, c2, h1, h2, h3, ho⟩ := hw
  have hg : b ≠ g := fun e => by
    subst e
    rw [h1] at h
    injection h with h
    injection h with _ h _
    exact hne h.symm
  rw [ho.block b (lt_of_blk h) fun he => hg (Option.some.inj he)]; exact h
set_option maxRecDepth 10000 in
/-- an entry into a row -/
theorem wpList_store49 {w : World} {ops : Array Oper} {rest : List Oper} {o : Oper} {a : Act} {Q : Exit → Act → World → Prop} (hgd : o.guard = none) (p x : Operand) (ho : o.op = .store 49 p x)
    (g i : Nat) (c : Array Value) (k v : ByteArray) (hp : a.eval p = .pointer (some ⟨g, i, none⟩)) (hx : a.eval x = .agg #[.string k, .string v]) (hz : w.heap[g]? = some (.cells c 49 (0, 0))) (hi : i + 1 < c.size)
    (h : ∀ w', Wrote g 49 w w' → wpList Try.prog ops Q rest (a.put o.dst undef) w') : wpList Try.prog ops Q (o :: rest) a w := by
  refine wpList_plain hgd fun _ hK => ?_
  have h0 := blk_set hz i (.string k)
  have h1 := blk_set h0 (i + 1) (.string v)
  have c0 : w.cell? ⟨g, i, none⟩ = some c[i] := by rw [blk_cell hz]; exact Array.getElem?_eq_getElem _
  have c1 : (w.setCell ⟨g, i, none⟩ (.string k)).cell? ⟨g, i + 1, none⟩ = some c[i + 1] := by
    rw [blk_cell h0, Array.getElem?_setIfInBounds_ne (by omega)]; exact Array.getElem?_eq_getElem _
  have f0 := blk_free hz i
  have f1 := blk_free h0 (i + 1)
  have hr : (storeVar 49 ⟨g, i, none⟩ (.agg #[.string k, .string v])).run Try.prog w = .ok () ((w.setCell ⟨g, i, none⟩ (.string k)).setCell ⟨g, i + 1, none⟩ (.string v)) := by simp [storeVar, go_sem, *]
  have hr' : (Instr.storeAt 49 (.pointer (some ⟨g, i, none⟩)) (.agg #[.string k, .string v])).run Try.prog w = .ok () ((w.setCell ⟨g, i, none⟩ (.string k)).setCell ⟨g, i + 1, none⟩ (.string v)) := by
    simp only [Instr.storeAt, Instr.sureAddr, Sem.run_bind, Sem.run_pure, Result.andThen]
    exact hr
  unfold Oper.wp execOp
  simp only [ho, hp, hx, Sem.run_bind, hr', Result.andThen_ok, Sem.run_pure]
  exact hK _ _ (h _ ⟨c, _, hz, h1, by simp, (Only.set _ _ _).trans (Only.set _ _ _)⟩)
set_option maxRecDepth 10000 in
/-- a number into a row -/
theorem wpList_store3 {w : World} {ops : Array Oper} {rest : List Oper} {o : Oper} {a : Act} {Q : Exit → Act → World → Prop} (hgd : o.guard = none) (p x : Operand) (ho : o.op = .store 3 p x)
    (g i : Nat) (c : Array Value) (k : Int) (hp : a.eval p = .pointer (some ⟨g, i, none⟩)) (hx : a.eval x = .int .i64 k) (hz : w.heap[g]? = some (.cells c 3 (0, 0))) (hi : i < c.size)
    (h : ∀ w', Wrote g 3 w w' → wpList Try.prog ops Q rest (a.put o.dst undef) w') : wpList Try.prog ops Q (o :: rest) a w := by
  refine wpList_plain hgd fun _ hK => ?_
  have h0 := blk_set hz i (.int .i64 k)
  have c0 : w.cell? ⟨g, i, none⟩ = some c[i] := by rw [blk_cell hz]; exact Array.getElem?_eq_getElem _
  have f0 := blk_free hz i
  have hr : (storeVar 3 ⟨g, i, none⟩ (.int .i64 k)).run Try.prog w = .ok () (w.setCell ⟨g, i, none⟩ (.int .i64 k)) := by simp [storeVar, go_sem, *]
  have hr' : (Instr.storeAt 3 (.pointer (some ⟨g, i, none⟩)) (.int .i64 k)).run Try.prog w = .ok () (w.setCell ⟨g, i, none⟩ (.int .i64 k)) := by
    simp only [Instr.storeAt, Instr.sureAddr, Sem.run_bind, Sem.run_pure, Result.andThen]
    exact hr
  unfold Oper.wp execOp
  simp only [ho, hp, hx, Sem.run_bind, hr', Result.andThen_ok, Sem.run_pure]
  exact hK _ _ (h _ ⟨c, _, hz, h0, by simp, Only.set _ _ _⟩)
/-- what holds while what came out is written -/
def KW (w0 : World) (gj gs : Nat) (jc sc : Array Value) (je jk sk : Option Addr) (jen jkn skn : Nat) (w : World) : Prop :=
  Below w0.heap.size w0 w ∧ w.heap[gj]? = some (.cells jc 69 (0, 0)) ∧ w.heap[gs]? = some (.cells sc 69 (0, 0)) ∧ RowN w0.heap.size je 49 (jen * 2) w ∧ RowN w0.heap.size jk 3 (jkn * 1) w ∧ RowN w0.heap.size sk 3 (skn * 1) w
theorem KW.wrote {w0 w w' : World} {gj gs g : Nat} {jc sc : Array Value} {je jk sk : Option Addr} {jen jkn skn : Nat} {t : TypeId} (h : KW w0 gj gs jc sc je jk sk jen jkn skn w) (hw : Wrote g t w w') (hne : (69 : TypeId) ≠ t) (hg : w0.heap.size ≤ g) : KW w0 gj gs jc sc je jk sk jen jkn skn w' := by
  obtain ⟨h1, h2, h3, h4, h5, h6⟩ := h
  have ho := hw
  obtain ⟨_, _, _, _, _, ho⟩ := ho
  exact ⟨h1.trans (ho.to_below hg h1.size), blk_wrote h2 hw hne, blk_wrote h3 hw hne, h4.wrote hw, h5.wrote hw, h6.wrote hw⟩
end Go.Proofs.Ytifdglehfhoecaa.N

/-
  The document's examples of nodes. Conditions: none.
-/
namespace Go.Proofs.Ytifdglehfhoecaa.N
open Go.RowKit B E
def kM : ByteArray := ⟨#[109]⟩
def kCc : ByteArray := ⟨#[99]⟩
def nW : M.Nd := ⟨false, [], [5, 9], [kM]⟩
def mW : M.Nd := ⟨false, [], [6, 7, 9], [kCc, kM]⟩
theorem okW : M.NOk nW := by decide +kernel
theorem okM : M.NOk mW := by decide +kernel
theorem szW : M.nsz nW = 10 := by decide +kernel
theorem bodyW : txt (M.bodyN nW) = ⟨#[0, 0, 0, 5, 1, 109, 0, 0, 0, 9]⟩ := by decide +kernel
theorem fitW : fitsN nW := ⟨okW, by rw [szW]; decide⟩
theorem ltA : M.klt ⟨#[97]⟩ kM := by decide +kernel
theorem nltM : ¬ M.klt ⟨#[109]⟩ kM := by decide +kernel
theorem upA : Up [kM] ⟨#[97]⟩ 0 := ⟨Nat.zero_le _, fun t h hh => by omega, fun t h _ => by
  obtain rfl : t = 0 := by simp at h; omega
  exact ltA⟩
theorem upM : Up [kM] ⟨#[109]⟩ 1 := ⟨Nat.le_refl _, fun t h _ => by
  obtain rfl : t = 0 := by simp at h; omega
  exact nltM, fun t h hh => by simp at h; omega⟩
theorem bdW : Bd nW := ⟨by decide, by decide, by decide, by decide +kernel, by decide +kernel⟩
theorem bdM : Bd mW := ⟨by decide, by decide, by decide, by decide +kernel, by decide +kernel⟩
theorem enc_w (v : Value) (w : World) (hv : NdV w v nW) : Calls Try.prog 65 #[v] w fun r w' => r = .returned (.tuple #[.int .u8 2, .string ⟨#[0, 0, 0, 5, 1, 109, 0, 0, 0, 9]⟩, .int .i64 0]) ∧ Below w.heap.size w w' := by
  refine (nencode_any v nW w hv bdW).mono ?_
  rintro r w' ⟨K, T, e, rfl, h, hb⟩
  rcases h with ⟨h, _⟩ | ⟨_, h, _⟩ | ⟨_, _, rfl, rfl, rfl⟩
  · exact absurd okW h
  · rw [szW] at h; omega
  · rw [bodyW]; exact ⟨rfl, hb⟩
theorem childA (v : Value) (w : World) (hv : NdV w v nW) : Calls Try.prog 60 #[v, .string ⟨#[97]⟩] w fun r w' => r = .returned (.int .i64 0) ∧ Below w.heap.size w w' := by
  refine (child_any v nW _ w hv ((okW.2 rfl).2.2.2) (by decide)).mono ?_
  rintro r w' ⟨i, rfl, h, hb⟩
  obtain rfl := up_unique h upA
  exact ⟨rfl, hb⟩
theorem childM (v : Value) (w : World) (hv : NdV w v nW) : Calls Try.prog 60 #[v, .string ⟨#[109]⟩] w fun r w' => r = .returned (.int .i64 1) ∧ Below w.heap.size w w' := by
  refine (child_any v nW _ w hv ((okW.2 rfl).2.2.2) (by decide)).mono ?_
  rintro r w' ⟨i, rfl, h, hb⟩
  obtain rfl := up_unique h upM
  exact ⟨rfl, hb⟩
theorem swapW (v xv yv : Value) (w : World) (hv : NdV w v nW) (hx : Ints w xv [6, 7]) (hy : Txts w yv [kCc]) : Calls Try.prog 54 #[v, .int .i64 0, .int .i64 1, xv, yv] w (NMk mW w) :=
  swap_good v xv yv [] [5, 9] [6, 7] [kM] [kCc] 0 1 0 w hv hx hy ⟨by decide, by decide, by decide⟩ (by decide) (by decide) (by decide) rfl rfl (by decide)
theorem splitM (v : Value) (w : World) (hv : NdV w v mW) : Calls Try.prog 58 #[v] w (NSp ⟨false, [], [6], []⟩ kCc ⟨false, [], [7, 9], [kM]⟩ w) :=
  split_inner v [] [6, 7, 9] [kCc, kM] w hv bdM okM (by decide) 1 0 rfl rfl (by decide)
set_option maxRecDepth 100000 in
set_option maxHeartbeats 4000000 in
theorem nworks_any (w : World) : Calls Try.prog 51 #[] w fun r w' => r = .returned (.bool true) ∧ Below w.heap.size w w' := by
  go_enter Try.func51, Try.ntmps51
  go_upto_region 2 with (fail)
  obtain ⟨w1, hw1⟩ : ∃ W, w.alloc (.cells #[.int .i64 5, .int .i64 9] 3) = W := ⟨_, rfl⟩
  have a1 : Ints w1 (.slice (some ⟨w.heap.size, 0, none⟩) 2 2) [5, 9] := by rw [← hw1]; exact new_int2 _ _ _ _
  have z1 : w1.heap.size = w.heap.size + 1 := by rw [← hw1]; simp
  have b1 : Below w.heap.size w w1 := by rw [← hw1]; exact (Below.refl _ w).alloc (Nat.le_refl _) _
  rw [hw1]
  clear hw1
  obtain ⟨w2, hw2⟩ : ∃ W, w1.alloc (.cells #[.string kM] 9) = W := ⟨_, rfl⟩
  have a2 : Txts w2 (.slice (some ⟨w.heap.size + 1, 0, none⟩) 1 1) [kM] := by rw [← hw2, ← z1]; exact new_txt _ _ _
  have z2 : w2.heap.size = w.heap.size + 2 := by rw [← hw2]; simp [z1]
  have b2 : Below w1.heap.size w1 w2 := by rw [← hw2]; exact (Below.refl _ w1).alloc (Nat.le_refl _) _
  have hk : (⟨#[109]⟩ : ByteArray) = kM := rfl
  try rw [hk]
  rw [hw2]
  clear hw2 hk
  obtain ⟨w3, hw3⟩ : ∃ W, w2.alloc (.cells #[.bool false, .slice none 0 0, .slice (some ⟨w.heap.size, 0, none⟩) 2 2, .slice (some ⟨w.heap.size + 1, 0, none⟩) 1 1] 69) = W := ⟨_, rfl⟩
  have hx : Bx w3 w2.heap.size false (.slice none 0 0) (.slice (some ⟨w.heap.size, 0, none⟩) 2 2) (.slice (some ⟨w.heap.size + 1, 0, none⟩) 1 1) := by rw [← hw3]; exact Bx.new _ _ _ _ _ _
  have b3 : Below w2.heap.size w2 w3 := by rw [← hw3]; exact (Below.refl _ w2).alloc (Nat.le_refl _) _
  rw [hw3]
  clear hw3
  have hv : NdV w3 (.agg #[.bool false, .slice none 0 0, .slice (some ⟨w.heap.size, 0, none⟩) 2 2, .slice (some ⟨w.heap.size + 1, 0, none⟩) 1 1]) nW := ⟨none, 0, _, 2, _, 1, rfl, Rw.nil _ 2, (a1.below b2).below b3, a2.below b3⟩
  have hb3 := (b1.trans (b2.mono b1.size)).trans (b3.mono (Nat.le_trans b1.size b2.size))
  rw [z2, show w.heap.size + 2 = w.heap.size + 1 + 1 from rfl] at hx
  clear b1 b2 b3 a1 a2 z1 z2
  have HV := Lib.hid hv; have HX := Lib.hid hx
  clear hv
  obtain ⟨x0, x1, x2, x3⟩ := hx
  go_wp2_with fail
  refine (enc_w _ _ HV.out).mono ?_
  rintro r w4 ⟨rfl, hb4⟩
  have HV := Lib.hid (HV.out.below hb4); have HX := Lib.hid (HX.out.below hb4)
  have hb4 := hb3.trans (hb4.mono hb3.size)
  clear x0 x1 x2 x3 hb3
  obtain ⟨x0, x1, x2, x3⟩ := HX.out
  obtain ⟨w5, hw5⟩ : ∃ W, (w4.alloc (.cells #[.int .i64 6, .int .i64 7] 3)).alloc (.cells #[.string ⟨#[99]⟩] 9) = W := ⟨_, rfl⟩
  have b5 : Below w4.heap.size w4 w5 := by rw [← hw5]; exact ((Below.refl _ w4).alloc (Nat.le_refl _) _).alloc (by simp) _
  have a6 : Ints w5 (.slice (some ⟨w4.heap.size, 0, none⟩) 2 2) [6, 7] := by rw [← hw5]; exact (new_int2 _ _ _ _).below ((Below.refl _ _).alloc (Nat.le_refl _) _)
  have a7 : Txts w5 (.slice (some ⟨w4.heap.size + 1, 0, none⟩) 1 1) [kCc] := by
    rw [← hw5]
    have := new_txt (w4.alloc (.cells #[.int .i64 6, .int .i64 7] 3)) kCc 9
    rw [show (w4.alloc (.cells #[.int .i64 6, .int .i64 7] 3)).heap.size = w4.heap.size + 1 by simp] at this
    exact this
  have HSW := Lib.hid (swapW _ _ _ _ (HV.out.below b5) a6 a7)
  rw [← hw5] at HSW
  have HW5 := Lib.hid hw5
  clear hw5 a6 a7
  go_wp2_with fail
  refine HSW.out.mono ?_
  rintro r w7 ⟨v, rfl, ho, hb7⟩
  rw [HW5.out] at ho hb7
  have HV := Lib.hid ((HV.out.below b5).below hb7); have HX := Lib.hid ((HX.out.below b5).below hb7)
  have hb7 := (hb4.trans (b5.mono hb4.size)).trans (hb7.mono (Nat.le_trans hb4.size b5.size))
  have HM := Lib.hid ho.val
  obtain ⟨e0, ec, k0, kc, s0, sc, rfl, o1, o2, o3⟩ : ∃ e0 ec k0 kc s0 sc, v = .agg #[.bool false, .slice e0 0 ec, .slice k0 3 kc, .slice s0 2 sc] ∧ Ents w7 (.slice e0 0 ec) [] ∧ Ints w7 (.slice k0 3 kc) [6, 7, 9] ∧ Txts w7 (.slice s0 2 sc) [kCc, kM] := ho.val
  have HMI := Lib.hid o2; have HMT := Lib.hid o3
  clear x0 x1 x2 x3 o1 o2 o3 ho b5 hb4 HSW
  go_upto_region 4 with (fail)
  obtain ⟨w8, hw8⟩ : ∃ W, w7.alloc (.cells #[.bool false, .slice e0 0 ec, .slice k0 3 kc, .slice s0 2 sc] 69) = W := ⟨_, rfl⟩
  have hy : Bx w8 w7.heap.size false (.slice e0 0 ec) (.slice k0 3 kc) (.slice s0 2 sc) := by rw [← hw8]; exact Bx.new _ _ _ _ _ _
  have b8 : Below w7.heap.size w7 w8 := by rw [← hw8]; exact (Below.refl _ w7).alloc (Nat.le_refl _) _
  rw [hw8]
  clear hw8
  have HV := Lib.hid (HV.out.below b8); have HX := Lib.hid (HX.out.below b8); have HM := Lib.hid (HM.out.below b8); have HMI := Lib.hid (HMI.out.below b8); have HMT := Lib.hid (HMT.out.below b8)
  have hb8 := hb7.trans (b8.mono hb7.size)
  clear hb7 b8
  have HY := Lib.hid hy
  obtain ⟨y0, y1, y2, y3⟩ := hy
  go_wp2_with fail
  refine (splitM _ _ HM.out).mono ?_
  rintro r w9 ⟨va, vb, rfl, oa, ob, hb9⟩
  have HV := Lib.hid (HV.out.below hb9); have HX := Lib.hid (HX.out.below hb9); have HMI := Lib.hid (HMI.out.below hb9); have HMT := Lib.hid (HMT.out.below hb9); have HY := Lib.hid (HY.out.below hb9)
  have hb9 := hb8.trans (hb9.mono hb8.size)
  obtain ⟨ae, aec, ak, akc, az, azc, rfl, _, _, _⟩ : ∃ e0 ec k0 kc s0 sc, va = .agg #[.bool false, .slice e0 0 ec, .slice k0 1 kc, .slice s0 0 sc] ∧ Ents w9 (.slice e0 0 ec) [] ∧ Ints w9 (.slice k0 1 kc) [6] ∧ Txts w9 (.slice s0 0 sc) [] := oa.val
  obtain ⟨be, bec, bk, bkc, bz, bzc, rfl, _, _, _⟩ : ∃ e0 ec k0 kc s0 sc, vb = .agg #[.bool false, .slice e0 0 ec, .slice k0 2 kc, .slice s0 1 sc] ∧ Ents w9 (.slice e0 0 ec) [] ∧ Ints w9 (.slice k0 2 kc) [7, 9] ∧ Txts w9 (.slice s0 1 sc) [kM] := ob.val
  clear y0 y1 y2 y3 oa ob hb8
  go_upto_region 5 with (fail)
  obtain ⟨w10, hw10⟩ : ∃ W, (w9.alloc (.cells #[.bool false, .slice ae 0 aec, .slice ak 1 akc, .slice az 0 azc] 69)).alloc (.cells #[.bool false, .slice be 0 bec, .slice bk 2 bkc, .slice bz 1 bzc] 69) = W := ⟨_, rfl⟩
  have hp : Bx w10 w9.heap.size false (.slice ae 0 aec) (.slice ak 1 akc) (.slice az 0 azc) := by rw [← hw10]; exact (Bx.new _ _ _ _ _ _).below ((Below.refl _ _).alloc (Nat.le_refl _) _)
  have hq : Bx w10 (w9.heap.size + 1) false (.slice be 0 bec) (.slice bk 2 bkc) (.slice bz 1 bzc) := by
    rw [← hw10]
    have := Bx.new (w9.alloc (.cells #[.bool false, .slice ae 0 aec, .slice ak 1 akc, .slice az 0 azc] 69)) false (.slice be 0 bec) (.slice bk 2 bkc) (.slice bz 1 bzc) 69
    rw [show (w9.alloc (.cells #[.bool false, .slice ae 0 aec, .slice ak 1 akc, .slice az 0 azc] 69)).heap.size = w9.heap.size + 1 by simp] at this
    exact this
  have b10 : Below w9.heap.size w9 w10 := by rw [← hw10]; exact ((Below.refl _ w9).alloc (Nat.le_refl _) _).alloc (by simp) _
  rw [hw10]
  clear hw10
  have HV := Lib.hid (HV.out.below b10); have HX := Lib.hid (HX.out.below b10); have HMI := Lib.hid (HMI.out.below b10); have HMT := Lib.hid (HMT.out.below b10); have HY := Lib.hid (HY.out.below b10)
  have hb10 := hb9.trans (b10.mono hb9.size)
  clear hb9 b10
  obtain ⟨_, _, p2, p3⟩ := hp
  obtain ⟨_, _, q2, q3⟩ := hq
  obtain ⟨x0, x1, x2, x3⟩ := HX.out
  obtain ⟨y0, y1, y2, y3⟩ := HY.out
  go_wp2_with fail
  refine (childA _ _ HV.out).mono ?_
  rintro r w11 ⟨rfl, hb11⟩
  have HV := Lib.hid (HV.out.below hb11); have HX := Lib.hid (HX.out.below hb11); have HMI := Lib.hid (HMI.out.below hb11); have HMT := Lib.hid (HMT.out.below hb11); have HY := Lib.hid (HY.out.below hb11)
  have hb11 := hb10.trans (hb11.mono hb10.size)
  clear x0 x1 x2 x3 y0 y1 y2 y3 p2 p3 q2 q3 hb10
  obtain ⟨x0, x1, x2, x3⟩ := HX.out
  go_wp2_with fail
  refine (childM _ _ HV.out).mono ?_
  rintro r w12 ⟨rfl, hb12⟩
  have HV := Lib.hid (HV.out.below hb12); have HX := Lib.hid (HX.out.below hb12); have HMI := Lib.hid (HMI.out.below hb12); have HMT := Lib.hid (HMT.out.below hb12); have HY := Lib.hid (HY.out.below hb12)
  have hb12 := hb11.trans (hb12.mono hb11.size)
  clear x0 x1 x2 x3 hb11
  obtain ⟨x0, x1, x2, x3⟩ := HX.out
  obtain ⟨y0, y1, y2, y3⟩ := HY.out
  obtain ⟨b, o, rfl, c0⟩ := HMI.out.at.2.2.2 0 (by decide)
  obtain ⟨b', o', e', c1⟩ := HMI.out.at.2.2.2 1 (by decide)
  obtain ⟨rfl, rfl⟩ : b = b' ∧ o = o' := by injection e' with e'; injection e' with a1 a2 a3; exact ⟨a1, a2⟩
  obtain ⟨b', o', e', c2⟩ := HMI.out.at.2.2.2 2 (by decide)
  obtain ⟨rfl, rfl⟩ : b = b' ∧ o = o' := by injection e' with e'; injection e' with a1 a2 a3; exact ⟨a1, a2⟩
  obtain ⟨d, p, rfl, t0⟩ := HMT.out.at.2.2.2 0 (by decide)
  obtain ⟨b', o', e', t1⟩ := HMT.out.at.2.2.2 1 (by decide)
  obtain ⟨rfl, rfl⟩ : d = b' ∧ p = o' := by injection e' with e'; injection e' with a1 a2 a3; exact ⟨a1, a2⟩
  have c0 : w12.cell? ⟨b, o, none⟩ = some (.int .i64 6) := c0
  have c1 : w12.cell? ⟨b, o + 1, none⟩ = some (.int .i64 7) := c1
  have c2 : w12.cell? ⟨b, o + 2, none⟩ = some (.int .i64 9) := c2
  have t0 : w12.cell? ⟨d, p, none⟩ = some (.string ⟨#[99]⟩) := t0
  have t1 : w12.cell? ⟨d, p + 1, none⟩ = some (.string ⟨#[109]⟩) := t1
  have HNR := Lib.hid (fun W h => nright_any (.agg #[.bool false, .slice none 0 0, .slice (some ⟨w.heap.size, 0, none⟩) 2 2, .slice (some ⟨w.heap.size + 1, 0, none⟩) 1 1]) nW W h bdW)
  rw [decide_eq_true okW] at HNR
  have HNF := Lib.hid (fun W h => fits_any (.agg #[.bool false, .slice none 0 0, .slice (some ⟨w.heap.size, 0, none⟩) 2 2, .slice (some ⟨w.heap.size + 1, 0, none⟩) 1 1]) nW W h bdW)
  rw [decide_eq_true fitW] at HNF
  have HNS := Lib.hid (fun W h => nsize_any (.agg #[.bool false, .slice none 0 0, .slice (some ⟨w.heap.size, 0, none⟩) 2 2, .slice (some ⟨w.heap.size + 1, 0, none⟩) 1 1]) nW W h bdW)
  rw [szW] at HNS
  clear e'
  have hkq : kCc = ⟨#[99]⟩ := rfl
  have hkm : kM.toList = [109] := by rw [toL]; rfl
  rw [hkq]
  go_wp2_with fail
  refine (HNR.out _ HV.out).mono ?_
  rintro r w13 ⟨rfl, hb13⟩
  have HV := Lib.hid (HV.out.below hb13); have HX := Lib.hid (HX.out.below hb13)
  have hb13 := hb12.trans (hb13.mono hb12.size)
  clear x0 x1 x2 x3 y0 y1 y2 y3 c0 c1 c2 t0 t1 hb12
  obtain ⟨x0, x1, x2, x3⟩ := HX.out
  go_wp2_with fail
  refine (HNF.out _ HV.out).mono ?_
  rintro r w14 ⟨rfl, hb14⟩
  have HV := Lib.hid (HV.out.below hb14); have HX := Lib.hid (HX.out.below hb14)
  have hb14 := hb13.trans (hb14.mono hb13.size)
  clear x0 x1 x2 x3 hb13
  obtain ⟨x0, x1, x2, x3⟩ := HX.out
  go_wp2_with fail
  refine (HNS.out _ HV.out).mono ?_
  rintro r w15 ⟨rfl, hb15⟩
  have hb15 := hb14.trans (hb15.mono hb14.size)
  clear x0 x1 x2 x3 hb14
  go_wp2
  go_ret
  exact ⟨rfl, hb15⟩
end Go.Proofs.Ytifdglehfhoecaa.N

/-
  Whether two nodes are the same: the document's answer. Conditions: none.
-/
namespace Go.Proofs.Ytifdglehfhoecaa.N
open Go.RowKit B E
def NSm (a b : M.Nd) (w : World) (r : Ending) (w' : World) : Prop := r = .returned (.bool (decide (a = b))) ∧ Below w.heap.size w w'
theorem nd_iff (l m : Bool) (es fs : List Ent) (ks js : List Int) (ss ts : List ByteArray) : (⟨l, es, ks, ss⟩ : M.Nd) = ⟨m, fs, js, ts⟩ ↔ l = m ∧ es = fs ∧ ks = js ∧ ss = ts := by
  constructor
  · intro h; injection h with a b c d; exact ⟨a, b, c, d⟩
  · rintro ⟨rfl, rfl, rfl, rfl⟩; rfl
set_option maxRecDepth 100000 in
set_option maxHeartbeats 4000000 in
theorem nsame_any (va vb : Value) (a b : M.Nd) (w : World) (ha : NdV w va a) (hb : NdV w vb b) : Calls Try.prog 55 #[va, vb] w (NSm a b w) := by
  obtain ⟨l, es, ks, ss⟩ := a
  obtain ⟨e0, ec, k0, kc, s0, sc, rfl, he, hk, hs⟩ := ha
  obtain ⟨m, fs, js, ts⟩ := b
  obtain ⟨f0, fc, j0, jc, t0, tc, rfl, hf, hj, ht⟩ := hb
  dsimp only at he hk hs hf hj ht ⊢
  have hkn := ints_len hk; have hjn := ints_len hj; have hsn := txts_len hs; have htn := txts_len ht
  obtain ⟨R, hR⟩ : ∃ R, decide ((⟨l, es, ks, ss⟩ : M.Nd) = ⟨m, fs, js, ts⟩) = R := ⟨_, rfl⟩
  unfold NSm
  rw [hR]
  have HR := Lib.hid (show (R = true ↔ l = m ∧ es = fs ∧ ks = js ∧ ss = ts) by rw [← hR, decide_eq_true_eq, nd_iff])
  have HF := Lib.hid (show (¬ (l = m ∧ es = fs ∧ ks = js ∧ ss = ts)) → R = false by
    intro h
    rw [← HR.out] at h
    simpa using h)
  clear hR
  obtain ⟨ne, hne⟩ : ∃ x, es.length = x := ⟨_, rfl⟩
  obtain ⟨nf, hnf⟩ : ∃ x, fs.length = x := ⟨_, rfl⟩
  obtain ⟨nk, hnk⟩ : ∃ x, ks.length = x := ⟨_, rfl⟩
  obtain ⟨nj, hnj⟩ : ∃ x, js.length = x := ⟨_, rfl⟩
  obtain ⟨ns, hns⟩ : ∃ x, ss.length = x := ⟨_, rfl⟩
  obtain ⟨nt, hnt⟩ : ∃ x, ts.length = x := ⟨_, rfl⟩
  rw [hne] at he ⊢
  rw [hnf] at hf ⊢
  rw [hnk] at hk hkn ⊢
  rw [hnj] at hj hjn ⊢
  rw [hns] at hs hsn ⊢
  rw [hnt] at ht htn ⊢
  have HE := Lib.hid he; have HFS := Lib.hid hf
  have HCK := Lib.hid hk.at.2.2.2; have HCJ := Lib.hid hj.at.2.2.2; have HCS := Lib.hid hs.at.2.2.2; have HCT := Lib.hid ht.at.2.2.2
  have HNK := Lib.hid hnk; have HNJ := Lib.hid hnj; have HNS := Lib.hid hns; have HNT := Lib.hid hnt
  clear he hf hk hj hs ht hne hnf hnk hnj hns hnt
  go_enter Try.func55, Try.ntmps55
  go_upto_region 1 with (fail)
  obtain ⟨w0, hw0⟩ : ∃ W, w.alloc (.cells #[.bool l, .slice e0 ne ec, .slice k0 nk kc, .slice s0 ns sc] 73) = W := ⟨_, rfl⟩
  have hz0 : w0.heap.size = w.heap.size + 1 := by rw [← hw0]; simp
  have hx : Bx w0 w.heap.size l (.slice e0 ne ec) (.slice k0 nk kc) (.slice s0 ns sc) := by rw [← hw0]; exact Bx.new _ _ _ _ _ _
  have hb0 : Below w.heap.size w w0 := by rw [← hw0]; exact (Below.refl _ w).alloc (Nat.le_refl _) _
  rw [hw0]
  clear hw0
  obtain ⟨w1, hw1⟩ : ∃ W, w0.alloc (.cells #[.bool m, .slice f0 nf fc, .slice j0 nj jc, .slice t0 nt tc] 73) = W := ⟨_, rfl⟩
  have hy : Bx w1 w0.heap.size m (.slice f0 nf fc) (.slice j0 nj jc) (.slice t0 nt tc) := by rw [← hw1]; exact Bx.new _ _ _ _ _ _
  have hb01 : Below w0.heap.size w0 w1 := by rw [← hw1]; exact (Below.refl _ w0).alloc (Nat.le_refl _) _
  rw [hw1]
  clear hw1
  have hx := hx.below hb01
  have hb1 := hb0.trans (hb01.mono hb0.size)
  rw [hz0] at hy
  clear hz0 hb0 hb01
  obtain ⟨x0, x1, x2, x3⟩ := hx
  obtain ⟨y0, y1, y2, y3⟩ := hy
  by_cases hlm : l = m
  case neg =>
    have q0 : (l != m) = true := by rw [bne_iff_ne]; exact hlm
    have q1 : (l == m) = false := by rw [beq_eq_false_iff_ne]; exact hlm
    have hRf := HF.out fun h => hlm h.1
    subst hRf
    clear hlm
    go_wp2
    go_ret
    exact ⟨rfl, hb1⟩
  have q0 : (l != m) = false := by rw [bne_eq_false_iff_eq]; exact hlm
  have q1 : (l == m) = true := by rw [beq_iff_eq]; exact hlm
  have HLM := Lib.hid hlm
  clear hlm
  by_cases hkj : nk = nj
  case neg =>
    have q2 : ((nk : Int) != (nj : Int)) = true := by rw [bne_iff_ne]; omega
    have q3 : ((nk : Int) == (nj : Int)) = false := by rw [beq_eq_false_iff_ne]; omega
    have hRf := HF.out fun h => hkj (by rw [← HNK.out, ← HNJ.out, h.2.2.1])
    subst hRf
    clear hkj
    go_wp2
    go_ret
    exact ⟨rfl, hb1⟩
  have HKJ := Lib.hid hkj
  have q2 : ((nk : Int) != (nj : Int)) = false := by rw [bne_eq_false_iff_eq]; omega
  have q3 : ((nk : Int) == (nj : Int)) = true := by rw [beq_iff_eq]; omega
  clear hkj
  by_cases hst : ns = nt
  case neg =>
    have q4 : ((ns : Int) != (nt : Int)) = true := by rw [bne_iff_ne]; omega
    have q5 : ((ns : Int) == (nt : Int)) = false := by rw [beq_eq_false_iff_ne]; omega
    have hRf := HF.out fun h => hst (by rw [← HNS.out, ← HNT.out, h.2.2.2])
    subst hRf
    clear hst
    go_wp2
    go_ret
    exact ⟨rfl, hb1⟩
  have HST := Lib.hid hst
  have q4 : ((ns : Int) != (nt : Int)) = false := by rw [bne_eq_false_iff_eq]; omega
  have q5 : ((ns : Int) == (nt : Int)) = true := by rw [beq_iff_eq]; omega
  clear hst
  go_upto_region 3 with (fail)
  clear q0 q1 q2 q3 q4 q5
  go_wp2
  go_loopw [5] (fun i wr => ∃ k : Nat, k ≤ nk ∧ i = .int .i64 k ∧ (∀ j (h1 : j < ks.length) (h2 : j < js.length), j < k → ks[j] = js[j]) ∧ Below w1.heap.size w1 wr) (fun i _ => nk - (intOf i).toNat)
  case atStart => exact ⟨0, Nat.zero_le _, rfl, fun j _ _ h => absurd h (by omega), Below.refl _ _⟩
  case round =>
    obtain ⟨k, hkl, rfl, hpre, hbr⟩ := hrel
    have HPRE := Lib.hid hpre; clear hpre
    have x0 := bcell hbr x0; have x1 := bcell hbr x1; have x2 := bcell hbr x2; have x3 := bcell hbr x3
    have y0 := bcell hbr y0; have y1 := bcell hbr y1; have y2 := bcell hbr y2; have y3 := bcell hbr y3
    have hbW := hb1.trans (hbr.mono hb1.size)
    by_cases hlt : k < nk
    · have hka : k < ks.length := by rw [HNK.out]; exact hlt
      have hkb : k < js.length := by rw [HNJ.out, ← HKJ.out]; exact hlt
      obtain ⟨ab, ai, rfl, c0⟩ := HCK.out k hka
      obtain ⟨bb, bi, rfl, c1⟩ := HCJ.out k hkb
      have c0 := bcell hbW c0
      have c1 := bcell hbW c1
      have hkz : (0 : Int) ≤ (k : Int) := Int.natCast_nonneg _
      have hkn1 : (k : Int) < (nk : Int) := by omega
      have hkn2 : (k : Int) < (nj : Int) := by have := HKJ.out; omega
      obtain ⟨p, hp⟩ : ∃ x, ks[k] = x := ⟨_, rfl⟩
      obtain ⟨q, hq⟩ : ∃ x, js[k] = x := ⟨_, rfl⟩
      rw [hp] at c0
      rw [hq] at c1
      have HP := Lib.hid hp; have HQ := Lib.hid hq
      clear hp hq
      by_cases hpq : p = q
      · have HN := Lib.hid (show ∀ j (h1 : j < ks.length) (h2 : j < js.length), j < k + 1 → ks[j] = js[j] from fun j h1 h2 h => by
          rcases Nat.lt_or_ge j k with h' | h'
          · exact HPRE.out j h1 h2 h'
          · obtain rfl : j = k := by omega
            rw [HP.out, HQ.out, hpq])
        have r1 : (p == q) = true := by rw [beq_iff_eq]; exact hpq
        have r2 : (p != q) = false := by rw [bne_eq_false_iff_eq]; exact hpq
        clear hpq
        go_upto_region 6 with (fail)
        go_quiet (fail)
        go_wp2
        go_roundw
        case rel => exact ⟨k + 1, by omega, by go_num, HN.out, ⟨hbr.os, hbr.tape, hbr.output, hbr.size, hbr.block⟩⟩
        case measure => simp [intOf]; omega
      · have hRf := HF.out fun h => hpq (by
          obtain ⟨_, _, h3, _⟩ := h
          subst h3
          rw [← HP.out, ← HQ.out])
        subst hRf
        have r1 : (p == q) = false := by rw [beq_eq_false_iff_ne]; exact hpq
        have r2 : (p != q) = true := by rw [bne_iff_ne]; exact hpq
        clear hpq
        go_upto_region 6 with (fail)
        go_quiet (fail)
        go_wp2
        go_ret
        exact ⟨rfl, ⟨hbW.os, hbW.tape, hbW.output, hbW.size, hbW.block⟩⟩
    · have HKS := Lib.hid (show ks = js from List.ext_getElem (by rw [HNK.out, HNJ.out, HKJ.out]) fun j h1 h2 => HPRE.out j h1 h2 (by rw [HNK.out] at h1; omega))
      go_wp2
      go_loopw [6] (fun i w2 => ∃ k : Nat, k ≤ ns ∧ i = .int .i64 k ∧ (∀ j (h1 : j < ss.length) (h2 : j < ts.length), j < k → ss[j] = ts[j]) ∧ Below wr.heap.size wr w2) (fun i _ => ns - (intOf i).toNat)
      case atStart => exact ⟨0, Nat.zero_le _, rfl, fun j _ _ h => absurd h (by omega), Below.refl _ _⟩
      case round =>
        rename_i w2
        obtain ⟨k2, hkl2, rfl, hpre, hbr2⟩ := hrel
        have HPRE2 := Lib.hid hpre; clear hpre
        have x0 := bcell hbr2 x0; have x1 := bcell hbr2 x1; have x2 := bcell hbr2 x2; have x3 := bcell hbr2 x3
        have y0 := bcell hbr2 y0; have y1 := bcell hbr2 y1; have y2 := bcell hbr2 y2; have y3 := bcell hbr2 y3
        have hbW2 := hbW.trans (hbr2.mono hbW.size)
        by_cases hlt2 : k2 < ns
        · have hka : k2 < ss.length := by rw [HNS.out]; exact hlt2
          have hkb : k2 < ts.length := by rw [HNT.out, ← HST.out]; exact hlt2
          obtain ⟨ab, ai, rfl, c0⟩ := HCS.out k2 hka
          obtain ⟨bb, bi, rfl, c1⟩ := HCT.out k2 hkb
          have c0 := bcell hbW2 c0
          have c1 := bcell hbW2 c1
          have hkz : (0 : Int) ≤ (k2 : Int) := Int.natCast_nonneg _
          have hkn1 : (k2 : Int) < (ns : Int) := by omega
          have hkn2 : (k2 : Int) < (nt : Int) := by have := HST.out; omega
          obtain ⟨p, hp⟩ : ∃ x, ss[k2] = x := ⟨_, rfl⟩
          obtain ⟨q, hq⟩ : ∃ x, ts[k2] = x := ⟨_, rfl⟩
          rw [hp] at c0
          rw [hq] at c1
          have HP := Lib.hid hp; have HQ := Lib.hid hq
          clear hp hq
          by_cases hpq : p = q
          · have HN := Lib.hid (show ∀ j (h1 : j < ss.length) (h2 : j < ts.length), j < k2 + 1 → ss[j] = ts[j] from fun j h1 h2 h => by
              rcases Nat.lt_or_ge j k2 with h' | h'
              · exact HPRE2.out j h1 h2 h'
              · obtain rfl : j = k2 := by omega
                rw [HP.out, HQ.out, hpq])
            have r1 := str_eq hpq
            clear hpq
            go_upto_region 11 with (fail)
            go_quiet (fail)
            go_wp2
            go_roundw
            case rel => exact ⟨k2 + 1, by omega, by go_num, HN.out, ⟨hbr2.os, hbr2.tape, hbr2.output, hbr2.size, hbr2.block⟩⟩
            case measure => simp [intOf]; omega
          · have hRf := HF.out fun h => hpq (by
              obtain ⟨_, _, _, h4⟩ := h
              subst h4
              rw [← HP.out, ← HQ.out])
            subst hRf
            have r1 := str_ne hpq
            clear hpq
            go_upto_region 11 with (fail)
            go_quiet (fail)
            go_wp2
            go_ret
            exact ⟨rfl, ⟨hbW2.os, hbW2.tape, hbW2.output, hbW2.size, hbW2.block⟩⟩
        · have HSS := Lib.hid (show ss = ts from List.ext_getElem (by rw [HNS.out, HNT.out, HST.out]) fun j h1 h2 => HPRE2.out j h1 h2 (by rw [HNS.out] at h1; omega))
          have HQR := Lib.hid (show decide (es = fs) = R by
            rw [Bool.eq_iff_iff, decide_eq_true_eq, HR.out]
            exact ⟨fun h => ⟨HLM.out, h, HKS.out, HSS.out⟩, fun h => h.2.1⟩)
          go_wp2_with fail
          refine (same_any _ _ es fs _ (HE.out.below hbW2) (HFS.out.below hbW2)).mono ?_
          rintro r w5 ⟨rfl, hb5⟩
          rw [HQR.out]
          have hb5 := hbW2.trans (hb5.mono hbW2.size)
          go_wp2
          go_ret
          exact ⟨rfl, hb5⟩
end Go.Proofs.Ytifdglehfhoecaa.N

/-
  The law on what is written and read again, split and joined again: true for every input. Conditions: none.
-/
namespace Go.Proofs.Ytifdglehfhoecaa.N
open Go.RowKit B E
/-- split and joined again -/
theorem back_leaf {es : List Ent} {ks : List Int} {ss : List ByteArray} {k : Nat} {mid : ByteArray} (ho : M.NOk ⟨true, es, ks, ss⟩) : joinN (M.mkL (es.take k)) mid (M.mkL (es.drop k)) = ⟨true, es, ks, ss⟩ := by
  obtain ⟨_, h2, h3⟩ := nok_leaf.1 ho
  subst h2 h3
  simp [joinN, M.mkL]
theorem back_inner {es : List Ent} {ks : List Int} {ss : List ByteArray} {k k1 : Nat} (ho : M.NOk ⟨false, es, ks, ss⟩) (hk : k1 + 1 = k) (hl : k1 < ss.length) : joinN ⟨false, [], ks.take k, ss.take k1⟩ ss[k1] ⟨false, [], ks.drop k, ss.drop k⟩ = ⟨false, es, ks, ss⟩ := by
  obtain ⟨h1, _⟩ := nok_inner.1 ho
  subst h1 hk
  simp [joinN]
theorem szs_drop_le (ss : List ByteArray) (k : Nat) : M.szs (ss.drop k) ≤ M.szs ss := by
  have : M.szs ss = M.szs (ss.take k) + M.szs (ss.drop k) := by
    conv => lhs; rw [← List.take_append_drop k ss]
    exact M.szs_append _ _
  omega
theorem sz_drop_le (l : List Ent) (k : Nat) : M.sz (l.drop k) ≤ M.sz l := by
  have : M.sz l = M.sz (l.take k) + M.sz (l.drop k) := by
    conv => lhs; rw [← List.take_append_drop k l]
    exact M.sz_append _ _
  omega
theorem len_szs (l : List ByteArray) : l.length ≤ M.szs l := by
  induction l with
  | nil => simp
  | cons e l ih => simp only [M.szs, List.map_cons, List.sum_cons, List.length_cons] at ih ⊢; omega
theorem decn_bd {kd : Int} {b : List UInt8} {m : M.Nd} (h : M.DecN kd b m) : Bd m := by
  obtain ⟨h1, h2, _, _⟩ := h
  obtain ⟨l, es, ks, ss⟩ := m
  unfold M.nsz at h2
  rcases l with _ | _
  · obtain ⟨h3, h4, _, _⟩ := nok_inner.1 h1
    have hl := len_szs ss
    subst h3
    simp at h2
    exact ⟨by simp, by show ks.length ≤ _; omega, by show ss.length ≤ _; omega, by simp [M.sz], by show M.szs ss ≤ _; omega⟩
  · obtain ⟨_, h3, h4⟩ := nok_leaf.1 h1
    have hl := len_sz es
    subst h3 h4
    simp at h2
    exact ⟨by show es.length ≤ _; omega, by simp, by simp, by show M.sz es ≤ _; omega, by simp [M.szs]⟩
theorem enc_back {kd K : Int} {body T : ByteArray} {e : Int} {m : M.Nd} (h : M.DecN kd (bts body) m) (k : EncR m K T e) : kd = K ∧ body = T ∧ e = 0 := by
  obtain ⟨h1, h2, h3, h4⟩ := h
  rcases k with ⟨k1, _⟩ | ⟨_, k1, _⟩ | ⟨_, _, k1, k2, k3⟩
  · exact absurd h1 k1
  · omega
  · exact ⟨by rw [k1, h4], by rw [k2, h3, txt_bts], k3⟩
theorem okk_take {ks : List Int} (h : M.Okk ks) (k : Nat) : M.Okk (ks.take k) := fun x hx => h x (List.mem_of_mem_take hx)
theorem okk_drop {ks : List Int} (h : M.Okk ks) (k : Nat) : M.Okk (ks.drop k) := fun x hx => h x (List.mem_of_mem_drop hx)
/-- what splitting makes: two right parts, and the node again -/
def Spt (n a : M.Nd) (mid : ByteArray) (b : M.Nd) : Prop := joinN a mid b = n ∧ M.NOk a ∧ M.NOk b ∧ 0 < a.es.length + a.ks.length ∧ 0 < b.es.length + b.ks.length ∧ Bd a ∧ Bd b ∧ a.es.length ≤ 60 ∧ a.ks.length ≤ 60 ∧ b.es.length ≤ 60 ∧ b.ks.length ≤ 60
theorem split_any (v : Value) (l : Bool) (es : List Ent) (ks : List Int) (ss : List ByteArray) (w : World) (hv : NdV w v ⟨l, es, ks, ss⟩) (hbd : Bd ⟨l, es, ks, ss⟩) (ho : M.NOk ⟨l, es, ks, ss⟩) (h2 : 2 ≤ es.length ∨ 2 ≤ ks.length) (he : es.length ≤ 60) (hk : ks.length ≤ 60) :
    ∃ a mid b, Spt ⟨l, es, ks, ss⟩ a mid b ∧ Calls Try.prog 58 #[v] w (NSp a mid b w) := by
  obtain ⟨d1, d2, d3, d4, d5⟩ := hbd
  rcases l with _ | _
  · obtain ⟨h3, h4, h5, h6⟩ := nok_inner.1 ho
    have hl2 : 2 ≤ ks.length := by rcases h2 with h2 | h2; · rw [h3] at h2; simp at h2
                                   · exact h2
    refine ⟨_, _, _, ⟨back_inner (k := ks.length / 2 - 1 + 1) (k1 := ks.length / 2 - 1) ho rfl (by omega), ?_, ?_, ?_, ?_, ?_, ?_, ?_, ?_, ?_, ?_⟩, split_inner v es ks ss w hv ⟨d1, d2, d3, d4, d5⟩ ho hl2 (ks.length / 2 - 1 + 1) (ks.length / 2 - 1) (by omega) rfl (by omega)⟩
    · exact nok_inner.2 ⟨rfl, by simp only [List.length_take]; omega, okk_take h5 _, M.oks_take h6 _⟩
    · exact nok_inner.2 ⟨rfl, by simp only [List.length_drop]; omega, okk_drop h5 _, M.oks_drop h6 _⟩
    · simp only [List.length_take, List.length_nil]; omega
    · simp only [List.length_drop, List.length_nil]; omega
    · exact ⟨by simp, by simp only [List.length_take]; omega, by simp only [List.length_take]; omega, by simp [M.sz], Nat.le_trans (M.szs_take_le _ _) d5⟩
    · exact ⟨by simp, by simp only [List.length_drop]; omega, by simp only [List.length_drop]; omega, by simp [M.sz], Nat.le_trans (szs_drop_le _ _) d5⟩
    · simp
    · simp only [List.length_take]; omega
    · simp
    · simp only [List.length_drop]; omega
  · obtain ⟨h3, h4, h5⟩ := nok_leaf.1 ho
    have hl2 : 2 ≤ es.length := by rcases h2 with h2 | h2; · exact h2
                                   · rw [h4] at h2; simp at h2
    obtain ⟨k, hk, hkl⟩ := half_ex es hl2
    have hk1 : 1 ≤ k := by rcases hk with ⟨h, _⟩ | ⟨h, _⟩ <;> omega
    refine ⟨_, _, _, ⟨back_leaf (k := k) (mid := es[k].1) ho, ?_, ?_, ?_, ?_, ?_, ?_, ?_, ?_, ?_, ?_⟩, split_leaf v es ks ss w hv ⟨d1, d2, d3, d4, d5⟩ ho hl2 k hk hkl⟩
    · exact nok_leaf.2 ⟨M.ok_take h3 k, rfl, rfl⟩
    · exact nok_leaf.2 ⟨M.ok_drop h3 k, rfl, rfl⟩
    · simp only [M.mkL, List.length_take, List.length_nil]; omega
    · simp only [M.mkL, List.length_drop, List.length_nil]; omega
    · exact ⟨by simp only [M.mkL, List.length_take]; omega, by simp [M.mkL], by simp [M.mkL], Nat.le_trans (M.sz_take_le _ _) d4, by simp [M.mkL, M.szs]⟩
    · exact ⟨by simp only [M.mkL, List.length_drop]; omega, by simp [M.mkL], by simp [M.mkL], Nat.le_trans (sz_drop_le _ _) d4, by simp [M.mkL, M.szs]⟩
    · simp only [M.mkL, List.length_take]; omega
    · simp [M.mkL]
    · simp only [M.mkL, List.length_drop]; omega
    · simp [M.mkL]
/-- what holds behind the question whether a node can be split -/
def C18 (n : M.Nd) (en kn : Nat) (w0 : World) (s : Value) (w : World) : Prop := ∃ c : Bool, s = .bool c ∧ (c = false → M.NOk n ∧ (2 ≤ en ∨ 2 ≤ kn)) ∧ Below w0.heap.size w0 w
/-- a node as a value, its lengths letters -/
theorem ndv_open {w : World} {v : Value} {n : M.Nd} (h : NdV w v n) : ∃ (a0 b0 c0 : Option Addr) (an bn cn ac bc cc : Nat), v = .agg #[.bool n.leaf, .slice a0 an ac, .slice b0 bn bc, .slice c0 cn cc] ∧ n.es.length = an ∧ n.ks.length = bn ∧ n.ss.length = cn := by
  obtain ⟨e0, ec, k0, kc, s0, sc, rfl, _⟩ := h
  exact ⟨e0, k0, s0, _, _, _, ec, kc, sc, rfl, rfl, rfl, rfl⟩
set_option maxRecDepth 100000 in
set_option maxHeartbeats 16000000 in
theorem nback_any (va : Value) (n : M.Nd) (b1 : UInt8) (body : ByteArray) (w : World) (ha : NdV w va n) :
    Calls Try.prog 17 #[va, .int .u8 (b1.toNat : Int), .string body] w fun r w' => r = .returned (.bool true) ∧ Below w.heap.size w w' := by
  have HVA := Lib.hid ha
  obtain ⟨l, es, ks, ss⟩ := n
  obtain ⟨e0, ec, k0, kc, s0, sc, rfl, _, _, _⟩ := ha
  dsimp only at HVA ⊢
  obtain ⟨kd, hkd⟩ : ∃ x : Int, (b1.toNat : Int) = x := ⟨_, rfl⟩
  rw [hkd]
  clear hkd
  obtain ⟨en, hen⟩ : ∃ x, es.length = x := ⟨_, rfl⟩
  obtain ⟨kn, hkn⟩ : ∃ x, ks.length = x := ⟨_, rfl⟩
  obtain ⟨sn, hsn⟩ : ∃ x, ss.length = x := ⟨_, rfl⟩
  rw [hen, hkn, hsn] at HVA ⊢
  have HEN := Lib.hid hen; have HKN := Lib.hid hkn; have HSN := Lib.hid hsn
  clear hen hkn hsn
  go_enter Try.func17, Try.ntmps17
  go_upto_region 1 with (fail)
  obtain ⟨wa, hwa⟩ : ∃ W, w.alloc (.cells #[.bool l, .slice e0 en ec, .slice k0 kn kc, .slice s0 sn sc] 69) = W := ⟨_, rfl⟩
  have hx : Bx wa w.heap.size l (.slice e0 en ec) (.slice k0 kn kc) (.slice s0 sn sc) := by rw [← hwa]; exact Bx.new _ _ _ _ _ _
  have hba : Below w.heap.size w wa := by rw [← hwa]; exact (Below.refl _ w).alloc (Nat.le_refl _) _
  rw [hwa]
  clear hwa
  have HX := Lib.hid hx
  clear hx
  go_wp2_with fail
  refine (nworks_any _).mono ?_
  rintro r w1 ⟨rfl, hb1⟩
  have HX := Lib.hid (HX.out.below hb1)
  have hb1 := hba.trans (hb1.mono hba.size)
  clear hba
  obtain ⟨x0, x1, x2, x3⟩ := HX.out
  go_wp2_with fail
  refine (nover_any _ _ _ (HVA.out.below hb1)).mono ?_
  rintro r w2 ⟨much, rfl, hsm, hb2⟩
  have HX := Lib.hid (HX.out.below hb2)
  have HSM := Lib.hid hsm
  have hb2 := hb1.trans (hb2.mono hb1.size)
  clear hb1 hsm x0 x1 x2 x3
  rcases much with _ | _
  case true =>
    go_wp2
    go_ret
    exact ⟨rfl, hb2⟩
  by_cases hbs : 1000 < body.size
  · go_wp2
    go_ret
    exact ⟨rfl, hb2⟩
  have hbs : body.size ≤ 1000 := by omega
  have HBD := Lib.hid (small_bd (HSM.out rfl))
  have hsa := HSM.out rfl
  have HLA := Lib.hid (show es.length ≤ 60 ∧ ks.length ≤ 60 from ⟨hsa.1.1, hsa.2.1⟩)
  have HVA := Lib.hid (HVA.out.below hb2)
  clear hsa HSM
  obtain ⟨x0, x1, x2, x3⟩ := HX.out
  go_wp2_with fail
  refine (nencode_any _ ⟨l, es, ks, ss⟩ _ HVA.out HBD.out).mono ?_
  rintro r w3 ⟨K, T, e, rfl, her, hb3⟩
  have HX := Lib.hid (HX.out.below hb3); have HVA := Lib.hid (HVA.out.below hb3)
  have hb3 := hb2.trans (hb3.mono hb2.size)
  have HER := Lib.hid her
  clear hb2 her x0 x1 x2 x3
  go_upto_if 44 with (fail)
  go_cut [12, 13, 14] (fun _ _ _ wx => Below w3.heap.size w3 wx)
  case first =>
    rcases HER.out with ⟨_, _, _, he⟩ | ⟨_, _, _, _, he⟩ | ⟨ho, hf, hK, hT, he⟩
    · subst he
      go_wp2
      go_meet
      exact Below.refl _ _
    · subst he
      go_wp2
      go_meet
      exact Below.refl _ _
    have hTs : T.size = M.nsz ⟨l, es, ks, ss⟩ := by rw [hT, txt_size, M.body_len ho]
    have HDR := Lib.hid (show DrN K (bts T) ⟨l, es, ks, ss⟩ 0 from .inl ⟨rfl, ho, hf, by rw [hT]; rfl, hK.symm⟩)
    have HTS := Lib.hid hTs
    have hts : T.size ≤ 1000 := by omega
    subst he
    clear ho hK hT hTs hf HER
    go_wp2_with fail
    refine (ndecode_any K T _ hts).mono ?_
    rintro r w4 ⟨vm, m, e, rfl, hvm, hdr, hb4⟩
    obtain ⟨hmn, he⟩ := drn_inj hdr HDR.out
    subst hmn he
    have HVM := Lib.hid hvm
    obtain ⟨m0, m1, m2, mn0, mn1, mn2, mc0, mc1, mc2, rfl, _, _, _⟩ := ndv_open hvm
    dsimp only at HVM ⊢
    have HX := Lib.hid (HX.out.below hb4); have HVA := Lib.hid (HVA.out.below hb4)
    have HB3 := Lib.hid hb3
    clear hvm hdr HDR hb3
    go_upto_region 10 with (fail)
    obtain ⟨w5, hw5⟩ : ∃ W, w4.alloc (.cells #[.bool l, .slice m0 mn0 mc0, .slice m1 mn1 mc1, .slice m2 mn2 mc2] 69) = W := ⟨_, rfl⟩
    have hbx : Bx w5 w4.heap.size l (.slice m0 mn0 mc0) (.slice m1 mn1 mc1) (.slice m2 mn2 mc2) := by rw [← hw5]; exact Bx.new _ _ _ _ _ _
    have hb5 : Below w4.heap.size w4 w5 := by rw [← hw5]; exact (Below.refl _ w4).alloc (Nat.le_refl _) _
    rw [hw5]
    clear hw5
    have HBX := Lib.hid hbx
    have HX := Lib.hid (HX.out.below hb5); have HVA := Lib.hid (HVA.out.below hb5); have HVM := Lib.hid (HVM.out.below hb5)
    have hb5 := hb4.trans (hb5.mono hb4.size)
    obtain ⟨g4, hg4⟩ : ∃ g, w4.heap.size = g := ⟨_, rfl⟩
    rw [hg4] at HBX ⊢
    clear hbx hb4 hg4
    refine wp_region_any (by kernel_rfl) ?_
    refine wpAny_upto_f 5 (fun f L a W => ∃ v51 v52 v53 v54 v55 : Value, a = { tmps := List.toArray ((.agg #[.bool l, .slice e0 en ec, .slice k0 kn kc, .slice s0 sn sc]) :: (.int .u8 kd) :: (.string body) :: (.pointer (some ⟨w.heap.size, 0, none⟩)) :: undef :: undef :: (f 6) :: (.bool true) :: (.bool false) :: (.int .u8 K) :: (.string T) :: (.int .i64 0) :: (.pointer (some ⟨g4, 0, none⟩)) :: (.int .i64 0) :: (f 14) :: undef :: undef :: undef :: undef :: undef :: undef :: undef :: undef :: undef :: undef :: (f 25) :: (f 26) :: (f 27) :: (f 28) :: (f 29) :: (f 30) :: (f 31) :: (f 32) :: (f 33) :: (f 34) :: (f 35) :: (f 36) :: (f 37) :: (f 38) :: (f 39) :: (f 40) :: (f 41) :: (f 42) :: (f 43) :: (f 44) :: (f 45) :: (f 46) :: (f 47) :: (f 48) :: (f 49) :: (f 50) :: v51 :: v52 :: v53 :: v54 :: v55 :: (f 56) :: (f 57) :: (f 58) :: (f 59) :: (f 60) :: (f 61) :: (f 62) :: (f 63) :: (f 64) :: (f 65) :: (f 66) :: (f 67) :: (f 68) :: undef :: undef :: undef :: undef :: undef :: undef :: undef :: undef :: undef :: undef :: undef :: undef :: undef :: undef :: undef :: undef :: undef :: undef :: undef :: undef :: undef :: undef :: undef :: undef :: undef :: undef :: undef :: undef :: undef :: undef :: undef :: undef :: undef :: undef :: undef :: undef :: undef :: undef :: undef :: undef :: undef :: undef :: undef :: undef :: undef :: undef :: undef :: undef :: undef :: undef :: undef :: undef :: undef :: undef :: undef :: undef :: undef :: undef :: undef :: undef :: undef :: undef :: undef :: undef :: undef :: undef :: undef :: undef :: undef :: undef :: undef :: undef :: undef :: undef :: undef :: undef :: undef :: undef :: undef :: undef :: undef :: undef :: undef :: undef :: undef :: undef :: undef :: undef :: undef :: undef :: undef :: undef :: undef :: undef :: []), defers := [] } ∧ Below w5.heap.size w5 W ∧ (Lst L 0 → v51 = .agg #[.bool l, .slice m0 mn0 mc0, .slice m1 mn1 mc1, .slice m2 mn2 mc2]) ∧ (Lst L 1 → NdV W v52 ⟨l, es, ks, ss⟩) ∧ (Lst L 2 → v53 = .agg #[.bool l, .slice e0 en ec, .slice k0 kn kc, .slice s0 sn sc]) ∧ (Lst L 3 → NdV W v54 ⟨l, es, ks, ss⟩) ∧ (Lst L 4 → v55 = .bool true)) (by decide) (by kernel_rfl) (by kernel_rfl) ?step ?fin _ _ _ _ ?ini (by simp) (fun k _ => lst_none) (by simp)
    case ini => exact ⟨_, _, _, _, _, rfl, (Below.refl _ w5).drew, fun h => absurd h lst_none, fun h => absurd h lst_none, fun h => absurd h lst_none, fun h => absurd h lst_none, fun h => absurd h lst_none⟩
    case step =>
      intro f L a W hI i him hi
      obtain ⟨v51, v52, v53, v54, v55, rfl, hb, hf⟩ := hI
      have F := Lib.hid hf
      clear hf
      rcases (show i = 0 ∨ i = 1 ∨ i = 2 ∨ i = 3 ∨ i = 4 by omega) with rfl | rfl | rfl | rfl | rfl
      · clear him
        obtain ⟨b0, b1, b2, b3⟩ := HBX.out.below hb
        have HI := Lib.hid hi
        clear hi
        refine wpOp_step (o := _) rfl (fun K' hK => ?_)
        have HK := Lib.hid hK
        clear hK
        go_simp
        refine HK.out _ _ ⟨_, _, _, _, _, rfl, hb, fun _ => rfl, fun h => F.out.2.1 (lst_old (by decide) h), fun h => F.out.2.2.1 (lst_old (by decide) h), fun h => F.out.2.2.2.1 (lst_old (by decide) h), fun h => F.out.2.2.2.2 (lst_old (by decide) h)⟩
      · clear him
        have p0 := F.out.1 (ready_needs hi (by kernel_rfl))
        subst p0
        have HI := Lib.hid hi
        clear hi
        refine wpOp_step (o := _) rfl (fun K' hK => ?_)
        have HK := Lib.hid hK
        clear hK
        go_simp
        refine (of_any _ ⟨l, es, ks, ss⟩ W (HVM.out.below hb)).mono ?_
        rintro r W2 ⟨x, rfl, hown, hb2⟩
        refine HK.out _ _ ⟨_, _, _, _, _, rfl, (hb.trans (hb2.mono hb.size)), fun h => F.out.1 (lst_old (by decide) h), fun _ => hown, fun h => F.out.2.2.1 (lst_old (by decide) h), fun h => NdV.below (F.out.2.2.2.1 (lst_old (by decide) h)) hb2, fun h => (fun h _ => h) (F.out.2.2.2.2 (lst_old (by decide) h)) hb2⟩
      · clear him
        obtain ⟨b0, b1, b2, b3⟩ := HX.out.below hb
        have HI := Lib.hid hi
        clear hi
        refine wpOp_step (o := _) rfl (fun K' hK => ?_)
        have HK := Lib.hid hK
        clear hK
        go_simp
        refine HK.out _ _ ⟨_, _, _, _, _, rfl, hb, fun h => F.out.1 (lst_old (by decide) h), fun h => F.out.2.1 (lst_old (by decide) h), fun _ => rfl, fun h => F.out.2.2.2.1 (lst_old (by decide) h), fun h => F.out.2.2.2.2 (lst_old (by decide) h)⟩
      · clear him
        have p2 := F.out.2.2.1 (ready_needs hi (by kernel_rfl))
        subst p2
        have HI := Lib.hid hi
        clear hi
        refine wpOp_step (o := _) rfl (fun K' hK => ?_)
        have HK := Lib.hid hK
        clear hK
        go_simp
        refine (of_any _ ⟨l, es, ks, ss⟩ W (HVA.out.below hb)).mono ?_
        rintro r W2 ⟨x, rfl, hown, hb2⟩
        refine HK.out _ _ ⟨_, _, _, _, _, rfl, (hb.trans (hb2.mono hb.size)), fun h => F.out.1 (lst_old (by decide) h), fun h => NdV.below (F.out.2.1 (lst_old (by decide) h)) hb2, fun h => F.out.2.2.1 (lst_old (by decide) h), fun _ => hown, fun h => (fun h _ => h) (F.out.2.2.2.2 (lst_old (by decide) h)) hb2⟩
      · clear him
        have p1 := F.out.2.1 (ready_needs hi (by kernel_rfl))
        have p3 := F.out.2.2.2.1 (ready_needs hi (by kernel_rfl))
        have P1 := Lib.hid p1
        clear p1
        have P3 := Lib.hid p3
        clear p3
        have HI := Lib.hid hi
        clear hi
        refine wpOp_step (o := _) rfl (fun K' hK => ?_)
        have HK := Lib.hid hK
        clear hK
        go_simp
        refine (nsame_any _ _ ⟨l, es, ks, ss⟩ ⟨l, es, ks, ss⟩ W P1.out P3.out).mono ?_
        rintro r W2 ⟨rfl, hb2⟩
        refine HK.out _ _ ⟨_, _, _, _, _, rfl, (hb.trans (hb2.mono hb.size)), fun h => F.out.1 (lst_old (by decide) h), fun h => NdV.below (F.out.2.1 (lst_old (by decide) h)) hb2, fun h => F.out.2.2.1 (lst_old (by decide) h), fun h => NdV.below (F.out.2.2.2.1 (lst_old (by decide) h)) hb2, fun _ => (by rw [decide_eq_true rfl])⟩
    case fin =>
      intro f a W hI
      obtain ⟨v51, v52, v53, v54, v55, rfl, hb, hf⟩ := hI
      have p0 := hf.1 rfl
      have p1 := hf.2.1 rfl
      have p2 := hf.2.2.1 rfl
      have p3 := hf.2.2.2.1 rfl
      have p4 := hf.2.2.2.2 rfl
      clear hf
      subst p0
      clear p1
      subst p2
      clear p3
      subst p4
      refine wpAny_all (rs := [5]) (by kernel_rfl) (by simp) ?_
      intro i2 hi2
      obtain rfl := List.mem_singleton.1 hi2
      refine wpOp_step (o := _) rfl (fun K' hK => ?_)
      have HKK := Lib.hid hK
      clear hK
      go_simp
      refine HKK.out _ _ (wpAny_done (by kernel_rfl) ?_ _)
      have HX := Lib.hid (HX.out.below hb); have HVA := Lib.hid (HVA.out.below hb)
      have hb6 := hb5.trans (hb.mono hb5.size)
      clear hb hb5 HBX HVM
      obtain ⟨x0, x1, x2, x3⟩ := HX.out
      have q1 : (T.size : Int) = (M.nsz ⟨l, es, ks, ss⟩ : Int) := by rw [HTS.out]
      obtain ⟨ts, hts2⟩ : ∃ x, M.nsz ⟨l, es, ks, ss⟩ = x := ⟨_, rfl⟩
      have HNS := Lib.hid (nsize_any _ ⟨l, es, ks, ss⟩ W HVA.out HBD.out)
      rw [hts2] at HNS q1
      have Q1 := Lib.hid q1
      clear q1 hts2
      go_wp2_with fail
      refine HNS.out.mono ?_
      rintro r w7 ⟨rfl, hb7⟩
      have hb7 := hb6.trans (hb7.mono hb6.size)
      rw [Q1.out]
      clear hb6 x0 x1 x2 x3
      go_wp2
      go_meet
      exact hb7
  case rest =>
    have HX := Lib.hid (HX.out.below hcut); have HVA := Lib.hid (HVA.out.below hcut)
    have hb4 := hb3.trans (hcut.mono hb3.size)
    clear hcut hb3 HER
    go_wp2_with fail
    refine (ndecode_any kd body _ hbs).mono ?_
    rintro r w5 ⟨vm, m, f, rfl, hvm, hdr, hb5⟩
    have HVM := Lib.hid hvm; have HDR := Lib.hid hdr
    obtain ⟨m0, m1, m2, mn0, mn1, mn2, mc0, mc1, mc2, rfl, _, _, _⟩ := ndv_open hvm
    obtain ⟨ml, hml⟩ : ∃ x, m.leaf = x := ⟨_, rfl⟩
    rw [hml] at HVM ⊢
    have HX := Lib.hid (HX.out.below hb5); have HVA := Lib.hid (HVA.out.below hb5)
    have hb5 := hb4.trans (hb5.mono hb4.size)
    clear hb4 hvm hdr hml
    go_upto_if 76 with (fail)
    obtain ⟨w6, hw6⟩ : ∃ W, w5.alloc (.cells #[.bool ml, .slice m0 mn0 mc0, .slice m1 mn1 mc1, .slice m2 mn2 mc2] 69) = W := ⟨_, rfl⟩
    have hbx : Bx w6 w5.heap.size ml (.slice m0 mn0 mc0) (.slice m1 mn1 mc1) (.slice m2 mn2 mc2) := by rw [← hw6]; exact Bx.new _ _ _ _ _ _
    have hb6 : Below w5.heap.size w5 w6 := by rw [← hw6]; exact (Below.refl _ w5).alloc (Nat.le_refl _) _
    rw [hw6]
    clear hw6
    have HBX := Lib.hid hbx
    have HX := Lib.hid (HX.out.below hb6); have HVA := Lib.hid (HVA.out.below hb6); have HVM := Lib.hid (HVM.out.below hb6)
    have hb6 := hb5.trans (hb6.mono hb5.size)
    obtain ⟨g5, hg5⟩ : ∃ g, w5.heap.size = g := ⟨_, rfl⟩
    rw [hg5] at HBX ⊢
    clear hbx hb5 hg5
    go_cut [17, 18, 19] (fun _ _ _ wx => Below w6.heap.size w6 wx)
    case first =>
      rcases HDR.out with ⟨h0, hd⟩ | ⟨h0, _, _⟩
      case inr =>
        subst h0
        go_wp2
        go_meet
        exact Below.refl _ _
      subst h0
      have HD := Lib.hid hd
      have hbm := decn_bd hd
      have HBM := Lib.hid hbm
      clear hd hbm
      obtain ⟨x0, x1, x2, x3⟩ := HBX.out
      go_wp2_with fail
      refine (nencode_any _ m _ HVM.out HBM.out).mono ?_
      rintro r w7 ⟨K2, T2, e2, rfl, her, hb7⟩
      obtain ⟨h1, h2, h3⟩ := enc_back HD.out her
      subst h1 h2 h3
      have HBX := Lib.hid (HBX.out.below hb7); have HVM := Lib.hid (HVM.out.below hb7)
      clear x0 x1 x2 x3 her
      obtain ⟨x0, x1, x2, x3⟩ := HBX.out
      have hq : (body.toList == body.toList) = true := str_eq rfl
      have HFT := Lib.hid (fits_any _ m w7 HVM.out HBM.out)
      rw [decide_eq_true (show fitsN m from ⟨HD.out.1, HD.out.2.1⟩)] at HFT
      go_wp2_with fail
      refine HFT.out.mono ?_
      rintro r w8 ⟨rfl, hb8⟩
      have hb8 := hb7.trans (hb8.mono hb7.size)
      clear hb7 x0 x1 x2 x3 hq
      go_wp2
      go_meet
      exact hb8
    case rest =>
      have HX := Lib.hid (HX.out.below hcut); have HVA := Lib.hid (HVA.out.below hcut)
      have hb7 := hb6.trans (hcut.mono hb6.size)
      clear hcut hb6 HDR HVM HBX hbs
      obtain ⟨wz, hwz⟩ : ∃ x, x = wc := ⟨_, rfl⟩
      subst hwz
      have HRT := Lib.hid (nright_any _ ⟨l, es, ks, ss⟩ wz HVA.out HBD.out)
      go_upto_region 18 with (fail)
      go_cut [114] (fun s wx => C18 ⟨l, es, ks, ss⟩ en kn wz s wx)
      case first =>
        obtain ⟨x0, x1, x2, x3⟩ := HX.out
        by_cases ho : M.NOk ⟨l, es, ks, ss⟩
        case neg =>
          rw [decide_eq_false ho] at HRT
          clear ho
          go_wp2_with fail
          refine HRT.out.mono ?_
          rintro r w8 ⟨rfl, hb8⟩
          clear x0 x1 x2 x3
          go_wp2
          go_meet
          exact ⟨true, rfl, fun h => Bool.noConfusion h, hb8⟩
        rw [decide_eq_true ho] at HRT
        have HO := Lib.hid ho
        clear ho
        go_wp2_with fail
        refine HRT.out.mono ?_
        rintro r w8 ⟨rfl, hb8⟩
        have HX := Lib.hid (HX.out.below hb8)
        clear x0 x1 x2 x3 HRT
        obtain ⟨x0, x1, x2, x3⟩ := HX.out
        by_cases h2 : en < 2
        · by_cases h3 : kn < 2
          · have q3 : decide ((kn : Int) < 2) = true := decide_eq_true (by omega)
            go_wp2
            go_meet
            exact ⟨true, rfl, fun h => Bool.noConfusion h, hb8⟩
          · have H3 := Lib.hid (show 2 ≤ kn by omega)
            have q3 : decide ((kn : Int) < 2) = false := decide_eq_false (by omega)
            go_wp2
            go_meet
            exact ⟨false, rfl, fun _ => ⟨HO.out, .inr H3.out⟩, hb8⟩
        · have H2 := Lib.hid (show 2 ≤ en by omega)
          go_wp2
          go_meet
          exact ⟨false, rfl, fun _ => ⟨HO.out, .inl H2.out⟩, hb8⟩
      case rest =>
        obtain ⟨c, hs114, hc, hb8⟩ := hcut
        subst hs114
        have HX := Lib.hid (HX.out.below hb8); have HVA := Lib.hid (HVA.out.below hb8)
        have hb8 := hb7.trans (hb8.mono hb7.size)
        clear hb7 HRT
        rcases c with _ | _
        case true =>
          go_wp2
          go_ret
          exact ⟨rfl, hb8⟩
        obtain ⟨ho, h22⟩ := hc rfl
        obtain ⟨a, mid, b, hsp, hcs⟩ := split_any _ l es ks ss wc HVA.out HBD.out ho (by rw [HEN.out, HKN.out]; omega) HLA.out.1 HLA.out.2
        have HSP := Lib.hid hsp; have HCS := Lib.hid hcs
        clear hsp hcs hc ho h22
        obtain ⟨x0, x1, x2, x3⟩ := HX.out
        go_wp2_with fail
        refine HCS.out.mono ?_
        rintro r w9 ⟨xa, xb, rfl, oa, ob, hb9⟩
        have HAV := Lib.hid oa.val; have HBV := Lib.hid ob.val
        obtain ⟨a0, a1, a2, an0, an1, an2, ac0, ac1, ac2, rfl, han0, han1, _⟩ := ndv_open oa.val
        obtain ⟨p0, p1, p2, pn0, pn1, pn2, pc0, pc1, pc2, rfl, hpn0, hpn1, _⟩ := ndv_open ob.val
        obtain ⟨al, hal⟩ : ∃ x, a.leaf = x := ⟨_, rfl⟩
        obtain ⟨bl, hbl⟩ : ∃ x, b.leaf = x := ⟨_, rfl⟩
        rw [hal] at HAV ⊢
        rw [hbl] at HBV ⊢
        have HL := Lib.hid (show an0 ≤ 60 ∧ an1 ≤ 60 ∧ pn0 ≤ 60 ∧ pn1 ≤ 60 ∧ 0 < an0 + an1 ∧ 0 < pn0 + pn1 from ⟨by rw [← han0]; exact HSP.out.2.2.2.2.2.2.2.1, by rw [← han1]; exact HSP.out.2.2.2.2.2.2.2.2.1, by rw [← hpn0]; exact HSP.out.2.2.2.2.2.2.2.2.2.1, by rw [← hpn1]; exact HSP.out.2.2.2.2.2.2.2.2.2.2, by rw [← han0, ← han1]; exact HSP.out.2.2.2.1, by rw [← hpn0, ← hpn1]; exact HSP.out.2.2.2.2.1⟩)
        have HX := Lib.hid (HX.out.below hb9); have HVA := Lib.hid (HVA.out.below hb9)
        have hb9 := hb8.trans (hb9.mono hb8.size)
        clear hb8 oa ob han0 han1 hpn0 hpn1 hal hbl x0 x1 x2 x3 HCS
        go_upto_region 21 with (fail)
        obtain ⟨w10, hw10⟩ : ∃ W, (w9.alloc (.cells #[.bool al, .slice a0 an0 ac0, .slice a1 an1 ac1, .slice a2 an2 ac2] 69)).alloc (.cells #[.bool bl, .slice p0 pn0 pc0, .slice p1 pn1 pc1, .slice p2 pn2 pc2] 69) = W := ⟨_, rfl⟩
        have hp : Bx w10 w9.heap.size al (.slice a0 an0 ac0) (.slice a1 an1 ac1) (.slice a2 an2 ac2) := by rw [← hw10]; exact (Bx.new _ _ _ _ _ _).below ((Below.refl _ _).alloc (Nat.le_refl _) _)
        have hq : Bx w10 (w9.heap.size + 1) bl (.slice p0 pn0 pc0) (.slice p1 pn1 pc1) (.slice p2 pn2 pc2) := by
          rw [← hw10]
          have := Bx.new (w9.alloc (.cells #[.bool al, .slice a0 an0 ac0, .slice a1 an1 ac1, .slice a2 an2 ac2] 69)) bl (.slice p0 pn0 pc0) (.slice p1 pn1 pc1) (.slice p2 pn2 pc2) 69
          rw [show (w9.alloc (.cells #[.bool al, .slice a0 an0 ac0, .slice a1 an1 ac1, .slice a2 an2 ac2] 69)).heap.size = w9.heap.size + 1 by simp] at this
          exact this
        have b10 : Below w9.heap.size w9 w10 := by rw [← hw10]; exact ((Below.refl _ w9).alloc (Nat.le_refl _) _).alloc (by simp) _
        rw [hw10]
        clear hw10
        have HP := Lib.hid hp; have HQ := Lib.hid hq
        have HX := Lib.hid (HX.out.below b10); have HVA := Lib.hid (HVA.out.below b10); have HAV := Lib.hid (HAV.out.below b10); have HBV := Lib.hid (HBV.out.below b10)
        have hb10 := hb9.trans (b10.mono hb9.size)
        clear hp hq b10 hb9
        obtain ⟨g9, hg9⟩ : ∃ g, w9.heap.size = g := ⟨_, rfl⟩
        rw [hg9] at HP HQ ⊢
        clear hg9
        refine wp_region_any (by kernel_rfl) ?_
        refine wpAny_upto_f 8 (fun f L a W => ∃ v122 v123 v124 v125 v126 v127 v128 v129 : Value, a = { tmps := List.toArray ((f 0) :: (f 1) :: (f 2) :: (.pointer (some ⟨w.heap.size, 0, none⟩)) :: (f 4) :: (f 5) :: (f 6) :: (.bool true) :: (f 8) :: (f 9) :: (f 10) :: (f 11) :: (f 12) :: (f 13) :: (f 14) :: (f 15) :: (f 16) :: (f 17) :: (f 18) :: (f 19) :: (.pointer (some ⟨g9, 0, none⟩)) :: (.string mid) :: (.pointer (some ⟨g9 + 1, 0, none⟩)) :: (f 23) :: (f 24) :: (f 25) :: (f 26) :: (f 27) :: (f 28) :: (f 29) :: (f 30) :: (f 31) :: (f 32) :: (f 33) :: (f 34) :: (f 35) :: (f 36) :: (f 37) :: (f 38) :: (f 39) :: (f 40) :: (f 41) :: (f 42) :: (f 43) :: (f 44) :: (f 45) :: (f 46) :: (f 47) :: (f 48) :: (f 49) :: (f 50) :: (f 51) :: (f 52) :: (f 53) :: (f 54) :: (f 55) :: (f 56) :: (f 57) :: (f 58) :: (f 59) :: (f 60) :: (f 61) :: (f 62) :: (f 63) :: (f 64) :: (f 65) :: (f 66) :: (f 67) :: (f 68) :: (f 69) :: (f 70) :: (f 71) :: (f 72) :: (f 73) :: (f 74) :: (f 75) :: (f 76) :: (f 77) :: (f 78) :: (f 79) :: (f 80) :: (f 81) :: (f 82) :: (f 83) :: (f 84) :: (f 85) :: (f 86) :: (f 87) :: (f 88) :: (f 89) :: (f 90) :: (f 91) :: (f 92) :: (f 93) :: (f 94) :: (f 95) :: (f 96) :: (f 97) :: (f 98) :: (f 99) :: (f 100) :: (f 101) :: (f 102) :: (f 103) :: (f 104) :: (f 105) :: (f 106) :: (f 107) :: (f 108) :: (f 109) :: (f 110) :: (f 111) :: (f 112) :: (f 113) :: (f 114) :: (f 115) :: (f 116) :: (f 117) :: (f 118) :: (f 119) :: (f 120) :: (f 121) :: v122 :: v123 :: v124 :: v125 :: v126 :: v127 :: v128 :: v129 :: (f 130) :: (f 131) :: (f 132) :: (f 133) :: (f 134) :: (f 135) :: (f 136) :: (f 137) :: (f 138) :: (f 139) :: (f 140) :: (f 141) :: (f 142) :: (f 143) :: (f 144) :: (f 145) :: (f 146) :: (f 147) :: (f 148) :: (f 149) :: (f 150) :: (f 151) :: (f 152) :: (f 153) :: (f 154) :: (f 155) :: (f 156) :: (f 157) :: (f 158) :: (f 159) :: (f 160) :: (f 161) :: (f 162) :: []), defers := [] } ∧ Below w10.heap.size w10 W ∧ (Lst L 0 → v122 = .agg #[.bool al, .slice a0 an0 ac0, .slice a1 an1 ac1, .slice a2 an2 ac2]) ∧ (Lst L 1 → v123 = .string mid) ∧ (Lst L 2 → v124 = .agg #[.bool bl, .slice p0 pn0 pc0, .slice p1 pn1 pc1, .slice p2 pn2 pc2]) ∧ (Lst L 3 → NdV W v125 ⟨l, es, ks, ss⟩) ∧ (Lst L 4 → NdV W v126 ⟨l, es, ks, ss⟩) ∧ (Lst L 5 → v127 = .agg #[.bool l, .slice e0 en ec, .slice k0 kn kc, .slice s0 sn sc]) ∧ (Lst L 6 → NdV W v128 ⟨l, es, ks, ss⟩) ∧ (Lst L 7 → v129 = .bool true)) (by decide) (by kernel_rfl) (by kernel_rfl) ?step ?fin _ _ _ _ ?ini (by simp) (fun k _ => lst_none) (by simp)
        case ini => exact ⟨_, _, _, _, _, _, _, _, rfl, (Below.refl _ w10).drew, fun h => absurd h lst_none, fun h => absurd h lst_none, fun h => absurd h lst_none, fun h => absurd h lst_none, fun h => absurd h lst_none, fun h => absurd h lst_none, fun h => absurd h lst_none, fun h => absurd h lst_none⟩
        case step =>
          intro f L a W hI i him hi
          obtain ⟨v122, v123, v124, v125, v126, v127, v128, v129, rfl, hb, hf⟩ := hI
          have F := Lib.hid hf
          clear hf
          rcases (show i = 0 ∨ i = 1 ∨ i = 2 ∨ i = 3 ∨ i = 4 ∨ i = 5 ∨ i = 6 ∨ i = 7 by omega) with rfl | rfl | rfl | rfl | rfl | rfl | rfl | rfl
          · clear him
            obtain ⟨b0, b1, b2, b3⟩ := HP.out.below hb
            have HI := Lib.hid hi
            clear hi
            refine wpOp_step (o := _) rfl (fun K' hK => ?_)
            have HK := Lib.hid hK
            clear hK
            go_simp
            refine HK.out _ _ ⟨_, _, _, _, _, _, _, _, rfl, hb, fun _ => rfl, fun h => F.out.2.1 (lst_old (by decide) h), fun h => F.out.2.2.1 (lst_old (by decide) h), fun h => F.out.2.2.2.1 (lst_old (by decide) h), fun h => F.out.2.2.2.2.1 (lst_old (by decide) h), fun h => F.out.2.2.2.2.2.1 (lst_old (by decide) h), fun h => F.out.2.2.2.2.2.2.1 (lst_old (by decide) h), fun h => F.out.2.2.2.2.2.2.2 (lst_old (by decide) h)⟩
          · clear him
            have HI := Lib.hid hi
            clear hi
            refine wpOp_step (o := _) rfl (fun K' hK => ?_)
            have HK := Lib.hid hK
            clear hK
            go_simp
            refine HK.out _ _ ⟨_, _, _, _, _, _, _, _, rfl, hb, fun h => F.out.1 (lst_old (by decide) h), fun _ => rfl, fun h => F.out.2.2.1 (lst_old (by decide) h), fun h => F.out.2.2.2.1 (lst_old (by decide) h), fun h => F.out.2.2.2.2.1 (lst_old (by decide) h), fun h => F.out.2.2.2.2.2.1 (lst_old (by decide) h), fun h => F.out.2.2.2.2.2.2.1 (lst_old (by decide) h), fun h => F.out.2.2.2.2.2.2.2 (lst_old (by decide) h)⟩
          · clear him
            obtain ⟨b0, b1, b2, b3⟩ := HQ.out.below hb
            have HI := Lib.hid hi
            clear hi
            refine wpOp_step (o := _) rfl (fun K' hK => ?_)
            have HK := Lib.hid hK
            clear hK
            go_simp
            refine HK.out _ _ ⟨_, _, _, _, _, _, _, _, rfl, hb, fun h => F.out.1 (lst_old (by decide) h), fun h => F.out.2.1 (lst_old (by decide) h), fun _ => rfl, fun h => F.out.2.2.2.1 (lst_old (by decide) h), fun h => F.out.2.2.2.2.1 (lst_old (by decide) h), fun h => F.out.2.2.2.2.2.1 (lst_old (by decide) h), fun h => F.out.2.2.2.2.2.2.1 (lst_old (by decide) h), fun h => F.out.2.2.2.2.2.2.2 (lst_old (by decide) h)⟩
          · clear him
            have p0 := F.out.1 (ready_needs hi (by kernel_rfl))
            have p1 := F.out.2.1 (ready_needs hi (by kernel_rfl))
            have p2 := F.out.2.2.1 (ready_needs hi (by kernel_rfl))
            subst p0
            subst p1
            subst p2
            have HI := Lib.hid hi
            clear hi
            refine wpOp_step (o := _) rfl (fun K' hK => ?_)
            have HK := Lib.hid hK
            clear hK
            go_simp
            refine (join_any _ _ a b mid W (HAV.out.below hb) (HBV.out.below hb) HSP.out.2.2.2.2.2.1 HSP.out.2.2.2.2.2.2.1).mono ?_
            rintro r W2 ⟨x, rfl, hown0, hb2⟩
            refine HK.out _ _ ⟨_, _, _, _, _, _, _, _, rfl, (hb.trans (hb2.mono hb.size)), fun h => F.out.1 (lst_old (by decide) h), fun h => F.out.2.1 (lst_old (by decide) h), fun h => F.out.2.2.1 (lst_old (by decide) h), fun _ => (by have h := hown0.val; rw [HSP.out.1] at h; exact h), fun h => NdV.below (F.out.2.2.2.2.1 (lst_old (by decide) h)) hb2, fun h => F.out.2.2.2.2.2.1 (lst_old (by decide) h), fun h => NdV.below (F.out.2.2.2.2.2.2.1 (lst_old (by decide) h)) hb2, fun h => (fun h _ => h) (F.out.2.2.2.2.2.2.2 (lst_old (by decide) h)) hb2⟩
          · clear him
            have p3 := F.out.2.2.2.1 (ready_needs hi (by kernel_rfl))
            have P3 := Lib.hid p3
            clear p3
            have HI := Lib.hid hi
            clear hi
            refine wpOp_step (o := _) rfl (fun K' hK => ?_)
            have HK := Lib.hid hK
            clear hK
            go_simp
            refine (of_any _ ⟨l, es, ks, ss⟩ W P3.out).mono ?_
            rintro r W2 ⟨x, rfl, hown, hb2⟩
            refine HK.out _ _ ⟨_, _, _, _, _, _, _, _, rfl, (hb.trans (hb2.mono hb.size)), fun h => F.out.1 (lst_old (by decide) h), fun h => F.out.2.1 (lst_old (by decide) h), fun h => F.out.2.2.1 (lst_old (by decide) h), fun h => NdV.below (F.out.2.2.2.1 (lst_old (by decide) h)) hb2, fun _ => hown, fun h => F.out.2.2.2.2.2.1 (lst_old (by decide) h), fun h => NdV.below (F.out.2.2.2.2.2.2.1 (lst_old (by decide) h)) hb2, fun h => (fun h _ => h) (F.out.2.2.2.2.2.2.2 (lst_old (by decide) h)) hb2⟩
          · clear him
            obtain ⟨b0, b1, b2, b3⟩ := HX.out.below hb
            have HI := Lib.hid hi
            clear hi
            refine wpOp_step (o := _) rfl (fun K' hK => ?_)
            have HK := Lib.hid hK
            clear hK
            go_simp
            refine HK.out _ _ ⟨_, _, _, _, _, _, _, _, rfl, hb, fun h => F.out.1 (lst_old (by decide) h), fun h => F.out.2.1 (lst_old (by decide) h), fun h => F.out.2.2.1 (lst_old (by decide) h), fun h => F.out.2.2.2.1 (lst_old (by decide) h), fun h => F.out.2.2.2.2.1 (lst_old (by decide) h), fun _ => rfl, fun h => F.out.2.2.2.2.2.2.1 (lst_old (by decide) h), fun h => F.out.2.2.2.2.2.2.2 (lst_old (by decide) h)⟩
          · clear him
            have p5 := F.out.2.2.2.2.2.1 (ready_needs hi (by kernel_rfl))
            subst p5
            have HI := Lib.hid hi
            clear hi
            refine wpOp_step (o := _) rfl (fun K' hK => ?_)
            have HK := Lib.hid hK
            clear hK
            go_simp
            refine (of_any _ ⟨l, es, ks, ss⟩ W (HVA.out.below hb)).mono ?_
            rintro r W2 ⟨x, rfl, hown, hb2⟩
            refine HK.out _ _ ⟨_, _, _, _, _, _, _, _, rfl, (hb.trans (hb2.mono hb.size)), fun h => F.out.1 (lst_old (by decide) h), fun h => F.out.2.1 (lst_old (by decide) h), fun h => F.out.2.2.1 (lst_old (by decide) h), fun h => NdV.below (F.out.2.2.2.1 (lst_old (by decide) h)) hb2, fun h => NdV.below (F.out.2.2.2.2.1 (lst_old (by decide) h)) hb2, fun h => F.out.2.2.2.2.2.1 (lst_old (by decide) h), fun _ => hown, fun h => (fun h _ => h) (F.out.2.2.2.2.2.2.2 (lst_old (by decide) h)) hb2⟩
          · clear him
            have p4 := F.out.2.2.2.2.1 (ready_needs hi (by kernel_rfl))
            have p6 := F.out.2.2.2.2.2.2.1 (ready_needs hi (by kernel_rfl))
            have P4 := Lib.hid p4
            clear p4
            have P6 := Lib.hid p6
            clear p6
            have HI := Lib.hid hi
            clear hi
            refine wpOp_step (o := _) rfl (fun K' hK => ?_)
            have HK := Lib.hid hK
            clear hK
            go_simp
            refine (nsame_any _ _ ⟨l, es, ks, ss⟩ ⟨l, es, ks, ss⟩ W P4.out P6.out).mono ?_
            rintro r W2 ⟨rfl, hb2⟩
            refine HK.out _ _ ⟨_, _, _, _, _, _, _, _, rfl, (hb.trans (hb2.mono hb.size)), fun h => F.out.1 (lst_old (by decide) h), fun h => F.out.2.1 (lst_old (by decide) h), fun h => F.out.2.2.1 (lst_old (by decide) h), fun h => NdV.below (F.out.2.2.2.1 (lst_old (by decide) h)) hb2, fun h => NdV.below (F.out.2.2.2.2.1 (lst_old (by decide) h)) hb2, fun h => F.out.2.2.2.2.2.1 (lst_old (by decide) h), fun h => NdV.below (F.out.2.2.2.2.2.2.1 (lst_old (by decide) h)) hb2, fun _ => (by rw [decide_eq_true rfl])⟩
        case fin =>
          intro f a W hI
          obtain ⟨v122, v123, v124, v125, v126, v127, v128, v129, rfl, hb, hf⟩ := hI
          have p0 := hf.1 rfl
          have p1 := hf.2.1 rfl
          have p2 := hf.2.2.1 rfl
          have p3 := hf.2.2.2.1 rfl
          have p4 := hf.2.2.2.2.1 rfl
          have p5 := hf.2.2.2.2.2.1 rfl
          have p6 := hf.2.2.2.2.2.2.1 rfl
          have p7 := hf.2.2.2.2.2.2.2 rfl
          clear hf
          subst p0
          subst p1
          subst p2
          clear p3
          clear p4
          subst p5
          clear p6
          subst p7
          refine wpAny_all (rs := [8]) (by kernel_rfl) (by simp) ?_
          intro i2 hi2
          obtain rfl := List.mem_singleton.1 hi2
          refine wpOp_step (o := _) rfl (fun K' hK => ?_)
          have HKK := Lib.hid hK
          clear hK
          go_simp
          refine HKK.out _ _ (wpAny_done (by kernel_rfl) ?_ _)
          have HP := Lib.hid (HP.out.below hb); have HQ := Lib.hid (HQ.out.below hb); have HAV := Lib.hid (HAV.out.below hb); have HBV := Lib.hid (HBV.out.below hb)
          have hb11 := hb10.trans (hb.mono hb10.size)
          obtain ⟨l1, l2, l3, l4, l5, l6⟩ := HL.out
          have q1 : (0 : Int) < (an0 : Int) + (an1 : Int) := by omega
          have q2 : (0 : Int) < (pn0 : Int) + (pn1 : Int) := by omega
          have q3 : IntKind.i64.wrap ((an0 : Int) + (an1 : Int)) = (an0 : Int) + (an1 : Int) := IntWalk.i64_in _ (by omega)
          have q4 : IntKind.i64.wrap ((pn0 : Int) + (pn1 : Int)) = (pn0 : Int) + (pn1 : Int) := IntWalk.i64_in _ (by omega)
          have q5 : decide (0 < an0 + an1) = true := decide_eq_true l5
          have q6 : decide (0 < pn0 + pn1) = true := decide_eq_true l6
          clear hb hb10 HX HVA
          obtain ⟨x0, x1, x2, x3⟩ := HP.out
          obtain ⟨y0, y1, y2, y3⟩ := HQ.out
          have HRA := Lib.hid (nright_any _ a W HAV.out HSP.out.2.2.2.2.2.1)
          rw [decide_eq_true HSP.out.2.1] at HRA
          go_wp2_with fail
          refine HRA.out.mono ?_
          rintro r w12 ⟨rfl, hb12⟩
          have HQ := Lib.hid (HQ.out.below hb12); have HBV := Lib.hid (HBV.out.below hb12)
          have hb12 := hb11.trans (hb12.mono hb11.size)
          clear x0 x1 x2 x3 y0 y1 y2 y3 hb11 HRA q1 q2 q3 q4 q5 q6 l1 l2 l3 l4 l5 l6
          obtain ⟨y0, y1, y2, y3⟩ := HQ.out
          have HRB := Lib.hid (nright_any _ b w12 HBV.out HSP.out.2.2.2.2.2.2.1)
          rw [decide_eq_true HSP.out.2.2.1] at HRB
          go_wp2_with fail
          refine HRB.out.mono ?_
          rintro r w13 ⟨rfl, hb13⟩
          have hb13 := hb12.trans (hb13.mono hb12.size)
          clear y0 y1 y2 y3 hb12 HRB
          go_wp2
          go_ret
          exact ⟨rfl, hb13⟩
end Go.Proofs.Ytifdglehfhoecaa.N

/-
  What every law's row needs behind its walk: the call answered true, and below the heap's old size nothing has turned: so the arguments read as they did. Conditions: the arguments' types can be read; no variable is named in the specification.
-/
namespace Go.Proofs.Ytifdglehfhoecaa.Law
open Go.ChangeShapes Go.WideShapes Go.RowKit
variable {H : Type} {enc : TypeId × Value → H} {P : Program}

theorem trodAll_below (hl : laidOutB P = true) {W W' : World} (hb : Below W.heap.size W W') : ∀ (ts : List TypeId) (vs : List Value) (ds : List (DataW H)) (ps : List MemPlace),
    (∀ t ∈ ts, P.readableRec t = true ∧ t < P.types.size) → (∀ x ∈ ps, x.block < W.heap.size) → DataW.TrodAll enc P W 0 (fun _ => true) true ts vs ds ps →
    DataW.TrodAll enc P W' 0 (fun b => decide (b < W.heap.size)) true ts vs ds ps
  | [], [], [], _, _, _, h => h
  | t :: ts, v :: vs, d :: ds, ps, hr, hlt, h => by
    obtain ⟨p, q, h1, h2, rfl⟩ := h
    exact ⟨p, q, Below.trod hl (hr t (by simp)).1 (hr t (by simp)).2 h1 hb (fun x hx => hlt x (by simp [hx])), trodAll_below hl hb ts vs ds q (fun t ht => hr t (by simp [ht])) (fun x hx => hlt x (by simp [hx])) h2, rfl⟩

theorem law_post {f : Func} {s : ChangeSpec} {apart fresh handsOn : Bool} {W W' : World} {args : Array Value} {ds gs : List (DataW H)} {before : List MemPlace} {bt : TypeId}
    (hl : laidOutB P = true) (hr0 : (f.params.toList.all fun t => P.readableRec t && decide (t < P.types.size)) = true) (hvars : s.vars = []) (hbt : f.resultTypes = #[bt]) (hbool : P.underlying bt = some .bool)
    (hspec : s.fn H (ds ++ gs) = { results := [.lit (.bool true)], args := ds }) (hW : DataW.Whole enc P f.params.toList s.vars apart W args.toList ds gs before) (hb : Below W.heap.size W W') :
    s.post enc P f apart fresh handsOn false W args (.bool true) W' := by
  have hr : ∀ t ∈ f.params.toList, P.readableRec t = true ∧ t < P.types.size := fun t ht => by
    have := List.all_eq_true.1 hr0 t ht
    simpa using this
  have hW' := hW
  obtain ⟨p, q, hA, hV, rfl, hfz, hnd⟩ := hW
  rw [hvars] at hV
  obtain ⟨rfl, rfl⟩ := trodVars_none hV
  refine ⟨ds, _, _, [], p, [], hW', ?_, ?_, ?_, hb.frame _, fun h => by cases h⟩
  · rw [hspec, hbt]
    exact trodAll_mk1 (shut_bool hbool _)
  · rw [hspec]
    exact trodAll_below hl hb _ _ _ _ hr (fun x hx => hW'.lt x (by simp [hx])) hA
  · rw [hspec, hvars]; rfl
theorem u8_of {x : Int} (h : (Lit.int .u8 x).wf = true) : ∃ b : UInt8, x = (b.toNat : Int) := by
  have := bounds_u8 h
  exact ⟨UInt8.ofNat x.toNat, by simp; omega⟩
/-- an argument that is a slice of texts -/
theorem strs_of {W : World} {base : Nat} {t e : TypeId} {v : Value} {d : DataW H} {p : List MemPlace} (ht : P.underlying t = some (.slice e)) (he : P.underlying e = some .string) (hc : P.cellsOf e = 1)
    (hv : Value.okWide P W .any base t v) (h : DataW.Trod enc P W 0 (fun _ => true) true t v d p) :
    ∃ l : List ByteArray, B.Strs W v l ∧ l.length ≤ maxLen ∧ ∀ s ∈ l, s.size ≤ maxLen := by
  obtain ⟨a0, len, cap, rfl⟩ := okWide_slice ht hv
  obtain ⟨fuel, hf⟩ := h
  rcases open_strings ht he hc hf with ⟨hcs, hx⟩ | ⟨a, len', cap', ss, hcs, _, hl, hm, hz, hx, hcell, hws⟩
  · simp [Value.cells] at hcs
    obtain ⟨rfl, rfl, rfl⟩ := hcs
    exact ⟨[], ⟨none, 0, rfl, by simp, fun j hj => by simp at hj⟩, by simp, by simp⟩
  · simp [Value.cells] at hcs
    obtain ⟨rfl, rfl, rfl⟩ := hcs
    simp only [if_true] at hz
    have hlen : (ss.take len).length = len := by simp; omega
    refine ⟨ss.take len, ⟨some a, cap, by rw [hlen], by rw [hlen]; omega, fun j hj => ⟨a, rfl, ?_⟩⟩, by rw [hlen]; omega, fun s hs => hws s (List.mem_of_mem_take hs)⟩
    have hj' : j < ss.length := by rw [hlen] at hj; omega
    rw [hcell j hj', List.getD_eq_getElem?_getD, List.getElem?_eq_getElem hj']
    simp
end Go.Proofs.Ytifdglehfhoecaa.Law
