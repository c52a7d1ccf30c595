/-
  A list without a key. Conditions: below 2^30 entries.
-/
import Derived.Test.YtifdglehfhoecaaEPut
namespace Go.Proofs.Ytifdglehfhoecaa.E
open Go.RowKit B
/-- a list without a key, as it is told -/
def dell (l : List Ent) (k : ByteArray) : List Ent := if M.Ok l then M.del l k else l
theorem two_cells (W : World) (a b : List Ent) (v0 : Value) (h0 : Ents W v0 a) (v2 : Value) (h2 : Ents W v2 b) :
    let vs : List (Value × List Ent) := [(v0, a), (v2, b)]
    ∀ j (_h : j < vs.length), (W.alloc (.cells #[v0, v2] 43)).drew.cell? ⟨W.heap.size, j, none⟩ = some vs[j].1 ∧ Ents (W.alloc (.cells #[v0, v2] 43)).drew vs[j].1 vs[j].2 := by
  intro vs j hj
  have hb2 : Below W.heap.size W (W.alloc (.cells #[v0, v2] 43)).drew := ((Below.refl _ W).alloc (Nat.le_refl _) _).drew
  refine ⟨?_, ?_⟩
  · show (W.alloc _).cell? _ = _
    rw [World.cell?_alloc_mark]
    match j, hj with
    | 0, _ => rfl
    | 1, _ => rfl
  · match j, hj with
    | 0, _ => exact h0.below hb2
    | 1, _ => exact h2.below hb2
theorem flat2 (a b : Value × List Ent) : flat [a, b] [a, b].length = a.2 ++ b.2 := by simp [flat]
set_option maxRecDepth 100000 in
set_option maxHeartbeats 1000000 in
theorem del_walk (ao : Option Addr) (cap : Nat) (l : List Ent) (k : ByteArray) (w : World) (hv : Ents w (.slice ao l.length cap) l) (hlen : l.length ≤ 1000000000) :
    Calls Try.prog 44 #[.slice ao l.length cap, .string k] w (Mk (dell l k) w) := by
  have hop := hv.open
  have HV := Lib.hid hv; clear hv
  obtain ⟨_, _, e, hcp, hcm, hc⟩ := hop
  obtain ⟨rfl, rfl⟩ := (show _ ∧ _ from ⟨(Value.slice.inj e).1, (Value.slice.inj e).2.2⟩)
  have HC := Lib.hid hc; clear hc e
  go_enter Try.func44, Try.ntmps44
  go_wp2_with fail
  refine (find_any _ l k _ HV.out (by omega)).mono ?_
  rintro r w1 ⟨i, ok, rfl, h1, h2, h3, hb1⟩
  have H2 := Lib.hid h2; have H3 := Lib.hid h3
  clear h2 h3
  rcases ok with _ | _
  · have hno : dell l k = l := by
      unfold dell
      split
      · rename_i ho
        exact M.del_none fun hh => by
          have := H2.out.2 ((M.low_has (H3.out ho.2) ho.2).1 hh)
          exact Bool.noConfusion this
      · rfl
    have HN := Lib.hid hno; clear hno
    go_wp2
    go_ret
    exact ⟨_, rfl, by rw [HN.out]; exact HV.out.below hb1, hb1⟩
  obtain ⟨hi, hki⟩ := H2.out.1 rfl
  have HKI := Lib.hid hki; clear hki
  by_cases ho : M.Ok l
  case neg =>
    have HD := Lib.hid (show decide (M.Ok l) = false by simp [ho])
    have HN := Lib.hid (show dell l k = l by unfold dell; rw [if_neg ho])
    clear ho
    go_wp2_with fail
    refine (right_any _ l _ (HV.out.below hb1) (by omega)).mono ?_
    rintro r w2 ⟨rfl, hb2⟩
    rw [HD.out]
    have hb2 := hb1.trans (hb2.mono hb1.size)
    clear hb1
    go_wp2
    go_ret
    exact ⟨_, rfl, by rw [HN.out]; exact HV.out.below hb2, hb2⟩
  have HD := Lib.hid (show decide (M.Ok l) = true by simp [ho])
  have HN := Lib.hid (show l.take i ++ l.drop (i + 1) = dell l k by unfold dell; rw [if_pos ho]; exact M.del_eq (H3.out ho.2) ho.2 hi HKI.out)
  clear ho
  go_wp2_with fail
  refine (right_any _ l _ (HV.out.below hb1) (by omega)).mono ?_
  rintro r W ⟨rfl, hb2⟩
  rw [HD.out]
  have hbW := hb1.trans (hb2.mono hb1.size)
  clear hb1 hb2
  obtain ⟨b, o, rfl, _, _⟩ := HC.out i hi
  obtain ⟨n, hn⟩ : ∃ n, i + 1 = n := ⟨_, rfl⟩
  have HLO := Lib.hid (cut_lo (HV.out.below hbW) i h1)
  have hhi := cut_hi (HV.out.below hbW) n (by omega)
  have HNN := Lib.hid hn
  have hi0 : (0 : Int) ≤ (i : Int) := Int.natCast_nonneg _
  have hi1 : (i : Int) ≤ (cap : Int) := by omega
  have hn0 : (0 : Int) ≤ (n : Int) := Int.natCast_nonneg _
  have hn1 : (n : Int) ≤ (l.length : Int) := by omega
  have hn2 : (l.length : Int) ≤ (cap : Int) := by omega
  have HLEN : ∀ x z : Value, (flat [(x, l.take i), (z, l.drop n)] [(x, l.take i), (z, l.drop n)].length).length ≤ 1099511627776 := fun x z => by rw [flat2]; simp; omega
  have HW1 := Lib.hid (show IntKind.i64.wrap ((i : Int) + 1) = (n : Int) by rw [IntKind.wrap_i64]; omega)
  go_wp2_with fail
  by_cases hci : cap = n
  · subst hci
    rw [if_pos rfl] at hhi
    have hli : l.length - cap = 0 := by omega
    rw [hli, Nat.sub_self] at hhi
    have HHI := Lib.hid hhi; clear hhi
    have HLEN := Lib.hid (HLEN (.slice (some ⟨b, o, none⟩) i i) (.slice (some ⟨b, o, none⟩) 0 0))
    have hw1 := HW1.out
    clear hn
    go_region_held3 (fun _ => True) (first | trivial) (first | (go_at_call 74; refine (concat_any W.heap.size [(.slice (some ⟨b, o, none⟩) i i, l.take i), (.slice (some ⟨b, o, none⟩) 0 0, l.drop cap)] _ (by simp) HLEN.out (two_cells W _ _ _ HLO.out _ HHI.out)).mono ?_; rintro r w3 ⟨v, rfl, hown, hb3⟩))
    have hEn : Ents w3 v _ := Rw.own hown
    rw [flat2] at hEn
    have hEn2 : Ents w3 v (dell l k) := by rw [← HN.out, HNN.out]; exact hEn
    have hbZ : Below w.heap.size w w3 := ((hbW.alloc hbW.size _).drew).trans (hb3.mono (by have := hbW.size; show _ ≤ (W.alloc _).heap.size; simp; omega))
    have HEN := Lib.hid hEn2
    clear hEn hEn2 hown hb3
    go_wp2
    go_ret
    exact ⟨_, rfl, HEN.out, hbZ⟩
  · rw [if_neg hci, add_lit] at hhi
    have HHI := Lib.hid hhi; clear hhi
    have HLEN := Lib.hid (HLEN (.slice (some ⟨b, o, none⟩) i i) (.slice (some ⟨b, o + n * 2, none⟩) (l.length - n) (cap - n)))
    have hw1 := HW1.out
    clear hn
    go_region_held3 (fun _ => True) (first | trivial) (first | (go_at_call 74; refine (concat_any W.heap.size [(.slice (some ⟨b, o, none⟩) i i, l.take i), (.slice (some ⟨b, o + n * 2, none⟩) (l.length - n) (cap - n), l.drop n)] _ (by simp) HLEN.out (two_cells W _ _ _ HLO.out _ HHI.out)).mono ?_; rintro r w3 ⟨v, rfl, hown, hb3⟩))
    have hEn : Ents w3 v _ := Rw.own hown
    rw [flat2] at hEn
    have hEn2 : Ents w3 v (dell l k) := by rw [← HN.out, HNN.out]; exact hEn
    have hbZ : Below w.heap.size w w3 := ((hbW.alloc hbW.size _).drew).trans (hb3.mono (by have := hbW.size; show _ ≤ (W.alloc _).heap.size; simp; omega))
    have HEN := Lib.hid hEn2
    clear hEn hEn2 hown hb3
    go_wp2
    go_ret
    exact ⟨_, rfl, HEN.out, hbZ⟩
theorem del_any (v : Value) (l : List Ent) (k : ByteArray) (w : World) (hv : Ents w v l) (hlen : l.length ≤ 1000000000) :
    Calls Try.prog 44 #[v, .string k] w (Mk (dell l k) w) := by
  obtain ⟨ao, cap, rfl, _⟩ := hv.open
  exact del_walk ao cap l k w hv hlen
end Go.Proofs.Ytifdglehfhoecaa.E
