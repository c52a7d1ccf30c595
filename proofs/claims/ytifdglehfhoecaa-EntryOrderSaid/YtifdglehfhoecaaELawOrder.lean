/-
  The law on orders: true for every input. Conditions: none.
-/
import Derived.Test.YtifdglehfhoecaaEKeep
import Derived.Test.YtifdglehfhoecaaEWorks
import Derived.Test.YtifdglehfhoecaaERef
namespace Go.Proofs.Ytifdglehfhoecaa.E
open Go.RowKit B
/-- so many entries of l, in whatever order, are in a -/
def Some_ (l : List Ent) (f : Nat → Nat) (i : Nat) (a : List Ent) : Prop := M.Ok a ∧ a.length ≤ i ∧ ∀ e, e ∈ a ↔ ∃ t, t < i ∧ l[f t]? = some e
theorem some_nil (l : List Ent) (f : Nat → Nat) : Some_ l f 0 [] := ⟨ok_nil, Nat.le_refl _, fun e => by simp⟩
theorem some_next {l : List Ent} {f : Nat → Nat} {i : Nat} {a : List Ent} (ho : M.Ok l) (h : Some_ l f i a) (hf : f i < l.length) : Some_ l f (i + 1) (putl a l[f i].1 l[f i].2) := by
  obtain ⟨h1, h2, h3⟩ := h
  have hx : l[f i] ∈ l := List.getElem_mem hf
  have hm := ho.1 _ hx
  refine ⟨ok_putl h1, by have := len_putl a l[f i].1 l[f i].2; omega, fun e => ?_⟩
  rw [mem_putl h1 hm, h3]
  constructor
  · rintro (rfl | ⟨⟨t, ht, he⟩, _⟩)
    · exact ⟨i, by omega, by rw [List.getElem?_eq_getElem hf]⟩
    · exact ⟨t, by omega, he⟩
  · rintro ⟨t, ht, he⟩
    by_cases hk : e.1 = l[f i].1
    · left
      have hel : e ∈ l := List.mem_of_getElem? he
      have : e.2 = l[f i].2 := M.get_unique ho.2 (k := e.1) hel (by rw [hk]; exact hx)
      exact Prod.ext hk this
    · rcases Nat.lt_or_ge t i with h | h
      · exact .inr ⟨⟨t, h, he⟩, hk⟩
      · obtain rfl : t = i := by omega
        rw [List.getElem?_eq_getElem hf] at he
        exact absurd (congrArg Prod.fst (Option.some.inj he)).symm hk
theorem some_all {l : List Ent} {f : Nat → Nat} {a : List Ent} (ho : M.Ok l) (h : Some_ l f l.length a) (hf : ∀ j, j < l.length → ∃ t, t < l.length ∧ f t = j) : a = l := by
  obtain ⟨h1, _, h3⟩ := h
  refine M.asc_ext a l h1.2 ho.2 fun e => ?_
  rw [h3]
  constructor
  · rintro ⟨t, _, he⟩; exact List.mem_of_getElem? he
  · intro he
    obtain ⟨j, hj, rfl⟩ := List.getElem_of_mem he
    obtain ⟨t, ht, rfl⟩ := hf j hj
    exact ⟨t, ht, List.getElem?_eq_getElem hj⟩
theorem surj1 {n k : Nat} (hk : k < n) : ∀ j, j < n → ∃ t, t < n ∧ (k + t) % n = j := fun j hj => by
  rcases Nat.lt_or_ge j k with h | h
  · exact ⟨j + n - k, by omega, by rw [show k + (j + n - k) = j + n by omega, Nat.add_mod_right, Nat.mod_eq_of_lt hj]⟩
  · exact ⟨j - k, by omega, by rw [show k + (j - k) = j by omega, Nat.mod_eq_of_lt hj]⟩
theorem surj2 {n : Nat} : ∀ j, j < n → ∃ t, t < n ∧ n - 1 - t = j := fun j hj => ⟨n - 1 - j, by omega, by omega⟩
set_option maxRecDepth 100000 in
set_option maxHeartbeats 2000000 in
theorem order_any (v : Value) (l : List Ent) (x : Int) (w : World) (hv : Ents w v l) (hx : -9223372036854775808 ≤ x ∧ x ≤ 9223372036854775807) :
    Calls Try.prog 8 #[v, .int .i64 x] w fun r w' => r = .returned (.bool true) ∧ Below w.heap.size w w' := by
  have hop := hv.open
  have HV := Lib.hid hv; clear hv
  obtain ⟨ao, cap, rfl, _, _, hc⟩ := hop
  have HC := Lib.hid hc; clear hc
  go_enter Try.func8, Try.ntmps8
  go_wp2_with fail
  refine (works_any _).mono ?_
  rintro r w1 ⟨rfl, hb1⟩
  go_wp2_with fail
  refine (over_any _ l _ (HV.out.below hb1)).mono ?_
  rintro r w2 ⟨much, rfl, hsm, hw⟩
  subst hw
  go_wp2_with fail
  refine (rright_any _ l _ (HV.out.below hb1)).mono ?_
  rintro r w3 ⟨rfl, hb3⟩
  have hb3 := hb1.trans (hb3.mono hb1.size)
  clear hb1
  rcases much with _ | _
  case true =>
    obtain ⟨z, hz⟩ : ∃ z, decide (M.Ok l) = z := ⟨_, rfl⟩
    rw [hz]
    clear hz hsm
    go_wp2
    go_ret
    exact ⟨rfl, hb3⟩
  have hl60 := (hsm rfl).1
  clear hsm
  by_cases ho : M.Ok l
  case neg =>
    rw [decide_eq_false ho]
    clear ho
    go_wp2
    go_ret
    exact ⟨rfl, hb3⟩
  rw [decide_eq_true ho]
  have HO := Lib.hid ho; clear ho
  by_cases h0 : l.length = 0
  · have hbe : ((l.length : Int) == 0) = true := by rw [h0]; rfl
    clear h0
    go_wp2
    go_ret
    exact ⟨rfl, hb3⟩
  have hbe : ((l.length : Int) == 0) = false := by rw [beq_eq_false_iff_ne]; omega
  obtain ⟨n, hn⟩ : ∃ n, l.length = n := ⟨_, rfl⟩
  have HN := Lib.hid hn
  rw [hn] at hl60 h0 hbe ⊢
  clear hn
  obtain ⟨kn, hk, hkn⟩ : ∃ kn : Nat, min (max x 0) ((n : Int) - 1) = (kn : Int) ∧ kn < n := ⟨(min (max x 0) ((n : Int) - 1)).toNat, by omega, by omega⟩
  have HKN := Lib.hid hk; have HKL := Lib.hid hkn
  go_upto_region 9 with (fail)
  clear hk hbe
  go_wp2
  go_loopw [9, 10, 11] (fun va vb i wr => ∃ (k : Nat) (a b : List Ent), k ≤ n ∧ i = .int .i64 k ∧ Ents wr va a ∧ Ents wr vb b ∧ Some_ l (fun t => (kn + t) % n) k a ∧ Some_ l (fun t => n - 1 - t) k b ∧ Below w.heap.size w wr) (fun _ _ i _ => n - (intOf i).toNat)
  case atStart => exact ⟨0, [], [], Nat.zero_le _, rfl, Rw.nil _ 2, Rw.nil _ 2, some_nil _ _, some_nil _ _, hb3⟩
  case round =>
    obtain ⟨k, a, b, hkn', rfl, hEa, hEb, hSa, hSb, hb⟩ := hrel
    have HEA := Lib.hid hEa; have HEB := Lib.hid hEb; have HSA := Lib.hid hSa; have HSB := Lib.hid hSb
    clear hEa hEb hSa hSb
    by_cases hlt : k < n
    · obtain ⟨m, hm⟩ : ∃ m, (kn + k) % n = m := ⟨_, rfl⟩
      have hml : m < n := by rw [← hm]; exact Nat.mod_lt _ (by omega)
      obtain ⟨q, hq⟩ : ∃ q, n - 1 - k = q := ⟨_, rfl⟩
      have hql : q < n := by omega
      have hml' : m < l.length := by rw [HN.out]; exact hml
      have hql' : q < l.length := by rw [HN.out]; exact hql
      have hnA : Some_ l (fun t => (kn + t) % n) (k + 1) (putl a l[m].1 l[m].2) := by
        have := some_next (f := fun t => (kn + t) % n) HO.out HSA.out (by show (kn + k) % n < _; rw [hm]; exact hml')
        simpa only [hm] using this
      have hnB : Some_ l (fun t => n - 1 - t) (k + 1) (putl b l[q].1 l[q].2) := by
        have := some_next (f := fun t => n - 1 - t) HO.out HSB.out (by show n - 1 - k < _; rw [hq]; exact hql')
        simpa only [hq] using this
      have HNA := Lib.hid hnA; have HNB := Lib.hid hnB
      clear hnA hnB
      obtain ⟨b1, o1, rfl, hk0, hv0⟩ := HC.out m hml'
      obtain ⟨b2, o2, e2, hk1, hv1⟩ := HC.out q hql'
      obtain ⟨rfl, rfl⟩ : b1 = b2 ∧ o1 = o2 := by injection e2 with e2; injection e2 with a1 a2 a3; exact ⟨a1, a2⟩
      have c0 := (hb.cell (lt_of_cell hk0)).trans hk0
      have c1 := (hb.cell (lt_of_cell hv0)).trans hv0
      have c2 := (hb.cell (lt_of_cell hk1)).trans hk1
      have c3 := (hb.cell (lt_of_cell hv1)).trans hv1
      clear hk0 hv0 hk1 hv1 e2
      have r1 : ((kn : Int) + (k : Int)) % (n : Int) = (m : Int) := by rw [← hm, Int.natCast_emod, Int.natCast_add]
      have r2 : Int.tmod ((kn : Int) + (k : Int)) (n : Int) = (m : Int) := by rw [Int.tmod_eq_emod_of_nonneg (by omega)]; exact r1
      have r3 : ((n : Int) - 1 - (k : Int)) = (q : Int) := by omega
      have hnz : ((n : Int) == 0) = false := by rw [beq_eq_false_iff_ne]; omega
      have hmz : (0 : Int) ≤ (m : Int) := Int.natCast_nonneg _
      have hmn : (m : Int) < (n : Int) := by omega
      have hqz : (0 : Int) ≤ (q : Int) := Int.natCast_nonneg _
      have hqn : (q : Int) < (n : Int) := by omega
      clear hm hq
      go_upto_region 15 with (fail)
      obtain ⟨W1, hW1⟩ : ∃ W, wr.alloc (.cells #[.string l[m].1, .string l[m].2] 49) = W := ⟨_, rfl⟩
      have hbw1 : Below wr.heap.size wr W1 := by rw [← hW1]; exact (Below.refl _ wr).alloc (Nat.le_refl _) _
      have d0 : W1.cell? ⟨wr.heap.size, 0, none⟩ = some (.string l[m].1) := by rw [← hW1, World.cell?_alloc_mark]; rfl
      have d1 : W1.cell? ⟨wr.heap.size, 1, none⟩ = some (.string l[m].2) := by rw [← hW1, World.cell?_alloc_mark]; rfl
      rw [hW1]
      have c2 := bcell hbw1 c2
      have c3 := bcell hbw1 c3
      clear hW1 c0 c1
      go_upto_region 16 with (fail)
      obtain ⟨W2, hW2⟩ : ∃ W, W1.alloc (.cells #[.string l[q].1, .string l[q].2] 49) = W := ⟨_, rfl⟩
      have hbw2 : Below W1.heap.size W1 W2 := by rw [← hW2]; exact (Below.refl _ W1).alloc (Nat.le_refl _) _
      have f0 : W2.cell? ⟨W1.heap.size, 0, none⟩ = some (.string l[q].1) := by rw [← hW2, World.cell?_alloc_mark]; rfl
      have f1 : W2.cell? ⟨W1.heap.size, 1, none⟩ = some (.string l[q].2) := by rw [← hW2, World.cell?_alloc_mark]; rfl
      rw [hW2]
      have d0 := bcell hbw2 d0
      have d1 := bcell hbw2 d1
      have hbw := hbw1.trans (hbw2.mono hbw1.size)
      have hB2 := hb.trans (hbw.mono hb.size)
      have HEA2 := Lib.hid (HEA.out.below hbw); have HEB2 := Lib.hid (HEB.out.below hbw)
      have hka : a.length ≤ k := HSA.out.2.1
      have hkb : b.length ≤ k := HSB.out.2.1
      clear hW2 c2 c3 r1 r2 r3 hbw1 hbw2 hbw
      go_wp2_with fail
      refine (put_any _ a _ _ _ HEA2.out (by omega)).mono ?_
      rintro r w5 ⟨ua, rfl, hE5, hb5⟩
      have f0 := bcell hb5 f0
      have f1 := bcell hb5 f1
      have HE5 := Lib.hid hE5
      have HEB2 := Lib.hid (HEB2.out.below hb5)
      have hB5 := hB2.trans (hb5.mono hB2.size)
      clear d0 d1 hE5 hb5
      go_wp2_with fail
      refine (put_any _ b _ _ _ HEB2.out (by omega)).mono ?_
      rintro r w6 ⟨ub, rfl, hE6, hb6⟩
      have HE6 := Lib.hid hE6
      have HE5 := Lib.hid (HE5.out.below hb6)
      have hB6 := hB5.trans (hb6.mono hB5.size)
      clear f0 f1 hE6 hb6
      go_wp2
      go_roundw
      case rel => exact ⟨k + 1, _, _, by omega, by go_num, HE5.out, HE6.out, HNA.out, HNB.out, hB6⟩
      case measure => simp [intOf]; omega
    · have hkk : k = n := by omega
      subst hkk
      have e1 : a = l := some_all HO.out (by rw [HN.out]; exact HSA.out) (by rw [HN.out]; exact surj1 HKL.out)
      have e2 : b = l := some_all HO.out (by rw [HN.out]; exact HSB.out) (by rw [HN.out]; exact surj2)
      have HV1 := Lib.hid (HV.out.below hb)
      rw [HN.out] at HV1
      rw [e1] at HEA
      rw [e2] at HEB
      clear e1 e2
      go_wp2_with fail
      refine (same_any _ _ l l _ HEA.out HV1.out).mono ?_
      rintro r w5 ⟨rfl, hb5⟩
      rw [decide_eq_true rfl]
      have HEB := Lib.hid (HEB.out.below hb5); have HV1 := Lib.hid (HV1.out.below hb5)
      have hb5 := hb.trans (hb5.mono hb.size)
      go_wp2_with fail
      refine (same_any _ _ l l _ HEB.out HV1.out).mono ?_
      rintro r w6 ⟨rfl, hb6⟩
      rw [decide_eq_true rfl]
      have hb6 := hb5.trans (hb6.mono hb5.size)
      clear hb5
      go_wp2
      go_ret
      exact ⟨rfl, hb6⟩
end Go.Proofs.Ytifdglehfhoecaa.E
