/-
  A list with a key. Conditions: below 2^40 entries.
-/
import Derived.Test.YtifdglehfhoecaaEFind
import Derived.Test.YtifdglehfhoecaaEGrow
namespace Go.Proofs.Ytifdglehfhoecaa.E
open Go.RowKit B
/-- a list with a key, as it is told -/
def putl (l : List Ent) (k v : ByteArray) : List Ent := if M.Ok l ∧ M.may k v then M.insert k v (M.del l k) else l
theorem putl_eq {l : List Ent} {k v : ByteArray} {i : Nat} (h : M.Low l k i) (ho : M.Ok l) (hm : M.may k v) : putl l k v = M.put l i k v := by
  unfold putl; rw [if_pos ⟨ho, hm⟩, M.put_ref h ho.2]
theorem putl_no {l : List Ent} {k v : ByteArray} (h : ¬ (M.Ok l ∧ M.may k v)) : putl l k v = l := by unfold putl; rw [if_neg h]
/-- what a call that makes a list answers -/
def Mk (l : List Ent) (w : World) (r : Ending) (w' : World) : Prop := ∃ v, r = .returned v ∧ Ents w' v l ∧ Below w.heap.size w w'
theorem cell_set_same {w : World} {g j : Nat} {u v : Value} (h : w.cell? ⟨g, j, none⟩ = some u) : (w.setCell ⟨g, j, none⟩ v).cell? ⟨g, j, none⟩ = some v := by
  exact World.cell?_setCell_same' _ _ _ (by rw [h]; rfl)
theorem cell_set_ne (w : World) (g j t : Nat) {v : Value} (h : t ≠ j) : (w.setCell ⟨g, t, none⟩ v).cell? ⟨g, j, none⟩ = w.cell? ⟨g, j, none⟩ := by
  exact World.cell?_setCell_other _ _ _ _ (by intro e; injection e with e1 e2 e3; exact h e2)
/-- the lower and the upper part of a slice of entries -/
theorem rw_empty (w : World) (ao : Option Addr) (cap size : Nat) (h : cap ≤ maxLen) : Rw w (.slice ao 0 cap) size [] 0 := ⟨ao, cap, rfl, by simp, Nat.zero_le _, h, fun j hj => by simp at hj⟩
theorem cut_lo {w : World} {ao : Option Addr} {cap : Nat} {l : List Ent} (h : Ents w (.slice ao l.length cap) l) (i : Nat) (hi : i ≤ l.length) : Ents w (.slice ao i i) (l.take i) := by
  have hm : i ≤ maxLen := by
    obtain ⟨_, _, e, _, h1, h2, _⟩ := h
    injection e with e1 e2 e3
    omega
  have := Rw.take h i i hi (Nat.le_refl _) hm
  rw [ecs_take] at this
  unfold Ents
  rwa [List.length_take, Nat.min_eq_left hi]
theorem cut_hi {w : World} {a : Addr} {cap : Nat} {l : List Ent} (h : Ents w (.slice (some a) l.length cap) l) (i : Nat) (hi : i ≤ l.length) : Ents w (.slice (if cap = i then some a else some (a.add (i * 2))) (l.length - i) (cap - i)) (l.drop i) := by
  obtain ⟨ao', cap', e, h0, h1, h2, hc⟩ := id h
  obtain ⟨rfl, rfl⟩ : some a = ao' ∧ cap = cap' := by injection e with e1 e2 e3; exact ⟨e1, e3⟩
  by_cases hl : i < l.length
  · rw [if_neg (by omega)]
    obtain ⟨b, o, e, _⟩ := hc 0 (by rw [h0]; omega)
    obtain rfl := Option.some.inj e
    have := Rw.drop h i (cap - i) hi (by omega) (by omega)
    rw [ecs_drop] at this
    unfold Ents
    rw [List.length_drop, add_lit]
    exact this
  · have hi2 : i = l.length := by omega
    have hd : l.drop i = [] := by rw [hi2]; simp
    rw [hd, hi2, Nat.sub_self]
    exact rw_empty w _ _ 2 (by omega)
theorem new_one (w : World) (e : Ent) (t : TypeId) : Ents (w.alloc (.cells #[.string e.1, .string e.2] t)) (.slice (some ⟨w.heap.size, 0, none⟩) 1 1) [e] :=
  Ents.close (l := [e]) (Nat.le_refl _) (by unfold maxLen; omega) fun j hj => ⟨w.heap.size, 0, rfl, by
    obtain rfl : j = 0 := by simp at hj; omega
    constructor <;> (rw [World.cell?_alloc_mark]; rfl)⟩
theorem put_three (W : World) (l : List Ent) (k val : ByteArray) (i : Nat) (v0 : Value) (h0 : Ents W v0 (l.take i)) (v2 : Value) (h2 : Ents W v2 (l.drop i)) :
    let vs : List (Value × List Ent) := [(v0, l.take i), (.slice (some ⟨W.heap.size, 0, none⟩) 1 1, [(k, val)]), (v2, l.drop i)]
    ∀ j (_h : j < vs.length), ((W.alloc (.cells #[.string k, .string val] 49)).alloc (.cells #[v0, .slice (some ⟨W.heap.size, 0, none⟩) 1 1, v2] 43)).drew.cell? ⟨W.heap.size + 1, j, none⟩ = some vs[j].1 ∧
      Ents ((W.alloc (.cells #[.string k, .string val] 49)).alloc (.cells #[v0, .slice (some ⟨W.heap.size, 0, none⟩) 1 1, v2] 43)).drew vs[j].1 vs[j].2 := by
  intro vs j hj
  have hs : (W.alloc (.cells #[.string k, .string val] 49)).heap.size = W.heap.size + 1 := by simp
  have hb1 : Below W.heap.size W (W.alloc (.cells #[.string k, .string val] 49)) := (Below.refl _ W).alloc (Nat.le_refl _) _
  obtain ⟨X, hX⟩ : ∃ X, W.alloc (.cells #[.string k, .string val] 49) = X := ⟨_, rfl⟩
  have hone : Ents X (.slice (some ⟨W.heap.size, 0, none⟩) 1 1) [(k, val)] := by rw [← hX]; exact new_one W (k, val) 49
  rw [hX] at hs hb1 ⊢
  rw [← hs]
  have hb2 : Below X.heap.size X (X.alloc (.cells #[v0, .slice (some ⟨W.heap.size, 0, none⟩) 1 1, v2] 43)).drew := ((Below.refl _ X).alloc (Nat.le_refl _) _).drew
  refine ⟨?_, ?_⟩
  · show (X.alloc _).cell? _ = _
    rw [World.cell?_alloc_mark]
    match j, hj with
    | 0, _ => rfl
    | 1, _ => rfl
    | 2, _ => rfl
  · match j, hj with
    | 0, _ => exact (h0.below hb1).below hb2
    | 1, _ => exact hone.below hb2
    | 2, _ => exact (h2.below hb1).below hb2
theorem flat3 (a b c : Value × List Ent) : flat [a, b, c] [a, b, c].length = a.2 ++ (b.2 ++ c.2) := by simp [flat]
theorem put_new {l : List Ent} {i : Nat} {k v : ByteArray} (h : ¬ ∃ hi : i < l.length, l[i].1 = k) : M.put l i k v = l.take i ++ ([(k, v)] ++ l.drop i) := by
  unfold M.put
  have : M.put.has' l i k = false := by
    rw [Bool.eq_false_iff]; intro e; exact h (M.has'_iff.1 e)
  rw [this]; rfl
theorem put_old {l : List Ent} {i : Nat} {k v : ByteArray} (hi : i < l.length) (hk : l[i].1 = k) : M.put l i k v = l.set i (k, v) := by
  unfold M.put
  rw [M.has'_iff.2 ⟨hi, hk⟩, List.set_eq_take_append_cons_drop, if_pos hi]; rfl
set_option maxRecDepth 100000 in
set_option maxHeartbeats 1000000 in
theorem put_walk (ao : Option Addr) (cap : Nat) (l : List Ent) (k val : ByteArray) (w : World) (hv : Ents w (.slice ao l.length cap) l) (hlen : l.length ≤ 1000000000) :
    Calls Try.prog 38 #[.slice ao l.length cap, .string k, .string val] w (Mk (putl l k val) w) := by
  have HV := Lib.hid hv; clear hv
  by_cases ho : M.Ok l
  case neg =>
    have hd : decide (M.Ok l) = false := by simp [ho]
    have HP := Lib.hid (putl_no (k := k) (v := val) fun h => ho h.1)
    have HD := Lib.hid hd; clear hd ho
    go_enter Try.func38, Try.ntmps38
    go_wp2_with fail
    refine (right_any _ l _ HV.out (by omega)).mono ?_
    rintro r w1 ⟨rfl, hb1⟩
    rw [HD.out]
    go_wp2
    go_ret
    exact ⟨_, rfl, by rw [HP.out]; exact HV.out.below hb1, hb1⟩
  have hd : decide (M.Ok l) = true := by simp [ho]
  have HD := Lib.hid hd; have HO := Lib.hid ho
  clear hd ho
  go_enter Try.func38, Try.ntmps38
  go_wp2_with fail
  refine (right_any _ l _ HV.out (by omega)).mono ?_
  rintro r w1 ⟨rfl, hb1⟩
  rw [HD.out]
  go_wp2_with fail
  refine (check_any k val _).mono ?_
  rintro r w1' ⟨rfl, rfl⟩
  by_cases hm : M.may k val
  case neg =>
    rw [if_neg hm]
    have HP := Lib.hid (putl_no (l := l) fun h => hm h.2)
    clear hm
    go_wp2
    go_ret
    exact ⟨_, rfl, by rw [HP.out]; exact HV.out.below hb1, hb1⟩
  rw [if_pos hm]
  have HM := Lib.hid hm; clear hm
  go_wp2_with fail
  refine (find_any _ l k _ (HV.out.below hb1) (by omega)).mono ?_
  rintro r w2 ⟨i, ok, rfl, h1, h2, h3, hb2⟩
  have hb := hb1.trans (hb2.mono hb1.size)
  have HP := Lib.hid (putl_eq (h3 HO.out.2) HO.out HM.out)
  have HV2 := Lib.hid (HV.out.below hb)
  have H2 := Lib.hid h2
  clear hb1 hb2 h2 h3
  rcases ok with _ | _
  · go_wp2_with fail
    obtain ⟨W, hW⟩ : ∃ W, w2.alloc (.cells #[.string k, .string val] 49) = W := ⟨_, rfl⟩
    have c0 : W.cell? ⟨w2.heap.size, 0, none⟩ = some (.string k) := by rw [← hW, World.cell?_alloc_mark]; rfl
    have c1 : W.cell? ⟨w2.heap.size, 1, none⟩ = some (.string val) := by rw [← hW, World.cell?_alloc_mark]; rfl
    have hbW : Below w.heap.size w W := by rw [← hW]; exact hb.alloc hb.size _
    rw [hW]
    have HEW := Lib.hid (HV.out.below hbW)
    clear hW hb HV2
    have hcap : l.length ≤ cap := by obtain ⟨_, _, e, _, h, _⟩ := HV.out; injection e with e1 e2 e3; omega
    have hi0 : (0 : Int) ≤ (i : Int) := Int.natCast_nonneg _
    have hi1 : (i : Int) ≤ (cap : Int) := by omega
    have hi2 : (i : Int) ≤ (l.length : Int) := by omega
    have hi3 : (l.length : Int) ≤ (cap : Int) := by omega
    rcases ao with _ | ⟨b, o, pp⟩
    · have hl0 : l = [] := by
        rcases l with _ | ⟨x, l⟩
        · rfl
        · obtain ⟨ao', _, e, _, _, hc⟩ := HV.out.open
          obtain ⟨b, o, e', _⟩ := hc 0 (by simp)
          rw [e'] at e
          exact absurd (Value.slice.inj e).1 (by simp)
      subst hl0
      obtain rfl : i = 0 := by simpa using h1
      have HLO := Lib.hid (rw_empty W none 0 2 (by unfold maxLen; omega))
      have HHI := Lib.hid (rw_empty W none cap 2 (by obtain ⟨_, _, e, _, _, h, _⟩ := HV.out; injection e with e1 e2 e3; omega))
      have HLEN : ∀ x y z : Value, (flat [(x, List.take 0 []), (y, [(k, val)]), (z, List.drop 0 [])] [(x, List.take 0 []), (y, [(k, val)]), (z, List.drop 0 [])].length).length ≤ 1099511627776 := fun x y z => by rw [flat3]; simp
      have HLEN := Lib.hid (HLEN (.slice none 0 0) (.slice (some ⟨W.heap.size, 0, none⟩) 1 1) (.slice none 0 cap))
      go_region_held3 (fun W' => W'.cell? ⟨w2.heap.size, 0, none⟩ = some (.string k) ∧ W'.cell? ⟨w2.heap.size, 1, none⟩ = some (.string val)) (first | assumption | go_keep | (refine ⟨?_, ?_⟩ <;> (refine bcell (by assumption) ?_; first | assumption | go_keep))) (first | (go_at_call 74; refine (concat_any (W.heap.size + 1) [((.slice none 0 0), List.take 0 []), (.slice (some ⟨W.heap.size, 0, none⟩) 1 1, [(k, val)]), ((.slice none 0 cap), List.drop 0 [])] _ (by simp) HLEN.out (put_three W [] k val 0 _ HLO.out _ HHI.out)).mono ?_; rintro r w3 ⟨v, rfl, hown, hb3⟩))
      have hEn : Ents w3 v _ := Rw.own hown
      rw [flat3] at hEn
      have hEn2 : Ents w3 v (putl [] k val) := by rw [HP.out, put_new (fun h => by have := H2.out.2 h; exact Bool.noConfusion this)]; exact hEn
      have hbZ : Below w.heap.size w w3 := (((hbW.alloc hbW.size _).alloc (by have := hbW.size; simp; omega) _).drew).trans (hb3.mono (by have := hbW.size; show _ ≤ ((W.alloc _).alloc _).heap.size; simp; omega))
      have HEN := Lib.hid hEn2
      clear hEn hEn2 hown hb3
      go_wp2
      go_ret
      exact ⟨_, rfl, HEN.out, hbZ⟩
    have HLO := Lib.hid (cut_lo HEW.out i h1)
    have hhi := cut_hi HEW.out i h1
    have HLEN : ∀ x y z : Value, (flat [(x, l.take i), (y, [(k, val)]), (z, l.drop i)] [(x, l.take i), (y, [(k, val)]), (z, l.drop i)].length).length ≤ 1099511627776 := fun x y z => by rw [flat3]; simp; omega
    by_cases hci : cap = i
    · subst hci
      rw [if_pos rfl, Nat.sub_self] at hhi
      have hli : l.length - cap = 0 := by omega
      rw [hli] at hhi
      have HHI := Lib.hid hhi; clear hhi
      have HLEN := Lib.hid (HLEN (.slice (some ⟨b, o, pp⟩) cap cap) (.slice (some ⟨W.heap.size, 0, none⟩) 1 1) (.slice (some ⟨b, o, pp⟩) 0 0))
      go_region_held3 (fun W' => W'.cell? ⟨w2.heap.size, 0, none⟩ = some (.string k) ∧ W'.cell? ⟨w2.heap.size, 1, none⟩ = some (.string val)) (first | assumption | go_keep | (refine ⟨?_, ?_⟩ <;> (refine bcell (by assumption) ?_; first | assumption | go_keep))) (first | (go_at_call 74; refine (concat_any (W.heap.size + 1) [(.slice (some ⟨b, o, pp⟩) cap cap, l.take cap), (.slice (some ⟨W.heap.size, 0, none⟩) 1 1, [(k, val)]), ((.slice (some ⟨b, o, pp⟩) 0 0), l.drop cap)] _ (by simp) HLEN.out (put_three W l k val cap _ HLO.out _ HHI.out)).mono ?_; rintro r w3 ⟨v, rfl, hown, hb3⟩))
      have hEn : Ents w3 v _ := Rw.own hown
      rw [flat3] at hEn
      have hEn2 : Ents w3 v (putl l k val) := by rw [HP.out, put_new (fun h => by have := H2.out.2 h; exact Bool.noConfusion this)]; exact hEn
      have hbZ : Below w.heap.size w w3 := (((hbW.alloc hbW.size _).alloc (by have := hbW.size; simp; omega) _).drew).trans (hb3.mono (by have := hbW.size; show _ ≤ ((W.alloc _).alloc _).heap.size; simp; omega))
      have HEN := Lib.hid hEn2
      clear hEn hEn2 hown hb3
      go_wp2
      go_ret
      exact ⟨_, rfl, HEN.out, hbZ⟩
    · rw [if_neg hci] at hhi
      have HHI := Lib.hid hhi; clear hhi
      have HLEN := Lib.hid (HLEN (.slice (some ⟨b, o, pp⟩) i i) (.slice (some ⟨W.heap.size, 0, none⟩) 1 1) (.slice (some ((⟨b, o, pp⟩ : Addr).add (i * 2))) (l.length - i) (cap - i)))
      go_region_held3 (fun W' => W'.cell? ⟨w2.heap.size, 0, none⟩ = some (.string k) ∧ W'.cell? ⟨w2.heap.size, 1, none⟩ = some (.string val)) (first | assumption | go_keep | (refine ⟨?_, ?_⟩ <;> (refine bcell (by assumption) ?_; first | assumption | go_keep))) (first | (go_at_call 74; refine (concat_any (W.heap.size + 1) [(.slice (some ⟨b, o, pp⟩) i i, l.take i), (.slice (some ⟨W.heap.size, 0, none⟩) 1 1, [(k, val)]), ((.slice (some ((⟨b, o, pp⟩ : Addr).add (i * 2))) (l.length - i) (cap - i)), l.drop i)] _ (by simp) HLEN.out (put_three W l k val i _ HLO.out _ HHI.out)).mono ?_; rintro r w3 ⟨v, rfl, hown, hb3⟩))
      have hEn : Ents w3 v _ := Rw.own hown
      rw [flat3] at hEn
      have hEn2 : Ents w3 v (putl l k val) := by rw [HP.out, put_new (fun h => by have := H2.out.2 h; exact Bool.noConfusion this)]; exact hEn
      have hbZ : Below w.heap.size w w3 := (((hbW.alloc hbW.size _).alloc (by have := hbW.size; simp; omega) _).drew).trans (hb3.mono (by have := hbW.size; show _ ≤ ((W.alloc _).alloc _).heap.size; simp; omega))
      have HEN := Lib.hid hEn2
      clear hEn hEn2 hown hb3
      go_wp2
      go_ret
      exact ⟨_, rfl, HEN.out, hbZ⟩
  · obtain ⟨hi, hki⟩ := H2.out.1 rfl
    have HKI := Lib.hid hki; clear hki
    go_wp2_with fail
    refine (clone_any _ l _ ((HV2.out.below ((Below.refl _ w2).alloc (Nat.le_refl _) _))) (by intro e; rw [e] at hi; simp at hi) (by omega)).mono ?_
    rintro r w3 ⟨v', rfl, hown, hb3⟩
    have hb4 : Below w.heap.size w w3 := (hb.alloc hb.size _).trans (hb3.mono (by have := hb.size; simp; omega))
    have d0 := hb3.cell (p := ⟨w2.heap.size, 0, none⟩) (by simp)
    have d1 := hb3.cell (p := ⟨w2.heap.size, 1, none⟩) (by simp)
    rw [World.cell?_alloc_mark] at d0 d1
    obtain ⟨hxl, ⟨rfl, hz⟩ | ⟨g, cap', cur, rfl, hg, hh, hn, hcap, hcur, hx⟩⟩ := hown
    · omega
    have hg2 : w2.heap.size < g := by simp at hg; omega
    have hE3 : Ents w3 (.slice (some ⟨g, 0, none⟩) l.length cap') l := Rw.own (base := w.heap.size) ⟨hxl, .inr ⟨g, cap', cur, rfl, by have := hb.size; omega, hh, hn, hcap, hcur, hx⟩⟩
    obtain ⟨ao', cap'', e', _, _, hcl⟩ := hE3.open
    obtain ⟨rfl, rfl⟩ : some (⟨g, 0, none⟩ : Addr) = ao' ∧ cap' = cap'' := by injection e' with a1 a2 a3; exact ⟨a1, a3⟩
    have hcl' : ∀ j (_h : j < l.length), w3.cell? ⟨g, j * 2, none⟩ = some (.string l[j].1) ∧ w3.cell? ⟨g, j * 2 + 1, none⟩ = some (.string l[j].2) := fun j hj => by
      obtain ⟨b, o, e, c0, c1⟩ := hcl j hj
      obtain ⟨rfl, rfl⟩ : g = b ∧ 0 = o := by injection e with e; injection e with a1 a2 a3; exact ⟨a1, a2⟩
      rw [Nat.zero_add] at c0 c1
      exact ⟨c0, c1⟩
    have HCL := Lib.hid hcl'
    obtain ⟨e0, e1⟩ := hcl' i hi
    have f0 := blk_free hh (i * 2)
    have f1 := blk_free hh (i * 2 + 1)
    have HH := Lib.hid hh
    clear hcl hcl' hE3 e' hh hx hcur hxl
    have hW : ∀ j (_h : j < (l.set i (k, val)).length), ∃ b o, (some ⟨g, 0, none⟩ : Option Addr) = some ⟨b, o, none⟩ ∧ ((w3.setCell ⟨g, i * 2, none⟩ (.string k)).setCell ⟨g, i * 2 + 1, none⟩ (.string val)).cell? ⟨b, o + j * 2, none⟩ = some (.string (l.set i (k, val))[j].1) ∧
        ((w3.setCell ⟨g, i * 2, none⟩ (.string k)).setCell ⟨g, i * 2 + 1, none⟩ (.string val)).cell? ⟨b, o + j * 2 + 1, none⟩ = some (.string (l.set i (k, val))[j].2) := fun j hj => by
      refine ⟨g, 0, rfl, ?_⟩
      rw [Nat.zero_add, List.getElem_set]
      have hj' : j < l.length := by simpa using hj
      by_cases hij : i = j
      · subst hij
        rw [if_pos rfl]
        exact ⟨by rw [cell_set_ne _ _ _ _ (by omega), cell_set_same e0], by rw [cell_set_same (by rw [cell_set_ne _ _ _ _ (by omega)]; exact e1)]⟩
      · rw [if_neg hij]
        obtain ⟨z0, z1⟩ := HCL.out j hj'
        exact ⟨by rw [cell_set_ne _ _ _ _ (by omega), cell_set_ne _ _ _ _ (by omega)]; exact z0, by rw [cell_set_ne _ _ _ _ (by omega), cell_set_ne _ _ _ _ (by omega)]; exact z1⟩
    have hEn : Ents ((w3.setCell ⟨g, i * 2, none⟩ (.string k)).setCell ⟨g, i * 2 + 1, none⟩ (.string val)) (.slice (some ⟨g, 0, none⟩) (l.set i (k, val)).length cap') (l.set i (k, val)) := Ents.close (by rw [List.length_set]; exact hn) hcap hW
    have hbZ : Below w.heap.size w ((w3.setCell ⟨g, i * 2, none⟩ (.string k)).setCell ⟨g, i * 2 + 1, none⟩ (.string val)) := (hb4.setCell (p := ⟨g, i * 2, none⟩) (by have := hb.size; simp; omega) _).setCell (p := ⟨g, i * 2 + 1, none⟩) (by have := hb.size; simp; omega) _
    rw [List.length_set, ← put_old hi HKI.out, ← HP.out] at hEn
    have HEN := Lib.hid hEn
    clear hW hEn
    go_wp2
    go_ret
    exact ⟨_, rfl, HEN.out, hbZ⟩
theorem put_any (v : Value) (l : List Ent) (k val : ByteArray) (w : World) (hv : Ents w v l) (hlen : l.length ≤ 1000000000) :
    Calls Try.prog 38 #[v, .string k, .string val] w (Mk (putl l k val) w) := by
  obtain ⟨ao, cap, rfl, _⟩ := hv.open
  exact put_walk ao cap l k val w hv hlen
end Go.Proofs.Ytifdglehfhoecaa.E
