/-
  A node with memory of its own. Conditions: bounds that every node here keeps.
-/
import Derived.Test.YtifdglehfhoecaaNCopy0
import Derived.BigQuiet
namespace Go.Proofs.Ytifdglehfhoecaa.N
open Go.RowKit B E
/-- a node whose lists are the call's own -/
def NdO (w : World) (base : Nat) (v : Value) (n : M.Nd) : Prop := ∃ e0 ec k0 kc s0 sc, v = .agg #[.bool n.leaf, .slice e0 n.es.length ec, .slice k0 n.ks.length kc, .slice s0 n.ss.length sc] ∧
  w.ownsRow base 49 2 (.slice e0 n.es.length ec) n.es.length (ecs n.es) ∧ w.ownsRow base 3 1 (.slice k0 n.ks.length kc) n.ks.length (ics n.ks) ∧ w.ownsRow base 9 1 (.slice s0 n.ss.length sc) n.ss.length (tcs n.ss)
theorem NdO.val {w : World} {base : Nat} {v : Value} {n : M.Nd} (h : NdO w base v n) : NdV w v n := by
  obtain ⟨e0, ec, k0, kc, s0, sc, rfl, h1, h2, h3⟩ := h
  exact ⟨e0, ec, k0, kc, s0, sc, rfl, Rw.own h1, Rw.own h2, Rw.own h3⟩
theorem NdO.below {w w' : World} {base : Nat} {v : Value} {n : M.Nd} (h : NdO w base v n) (hb : Below w.heap.size w w') : NdO w' base v n := by
  obtain ⟨e0, ec, k0, kc, s0, sc, rfl, h1, h2, h3⟩ := h
  exact ⟨e0, ec, k0, kc, s0, sc, rfl, own_below h1 hb, own_below h2 hb, own_below h3 hb⟩
theorem NdO.mono {w : World} {base base' : Nat} {v : Value} {n : M.Nd} (h : NdO w base v n) (hb : base' ≤ base) : NdO w base' v n := by
  obtain ⟨e0, ec, k0, kc, s0, sc, rfl, h1, h2, h3⟩ := h
  exact ⟨e0, ec, k0, kc, s0, sc, rfl, own_mono h1 hb, own_mono h2 hb, own_mono h3 hb⟩
def NMk (n : M.Nd) (w : World) (r : Ending) (w' : World) : Prop := ∃ v, r = .returned v ∧ NdO w' w.heap.size v n ∧ Below w.heap.size w w'
theorem own_only' {w w' : World} {g base size n : Nat} {e : TypeId} {v : Value} {cs : List Value} (h : w.ownsRow base e size v n cs) (ho : Only g w w') (hg : g < base) : w'.ownsRow base e size v n cs :=
  h.kept ho (.inr fun he => by have := (h.lt g he).1; omega)
set_option maxRecDepth 100000 in
set_option maxHeartbeats 4000000 in
theorem copied_any (v : Value) (n : M.Nd) (w : World) (hv : NdV w v n) (hbd : Bd n) : Calls Try.prog 80 #[v] w (NMk n w) := by
  obtain ⟨d1, d2, d3, d4, d5⟩ := hbd
  obtain ⟨l, es, ks, ss⟩ := n
  obtain ⟨e0, ec, k0, kc, s0, sc, rfl, he, hk, hs⟩ := hv
  dsimp only at he hk hs d1 d2 d3 d4 d5 ⊢
  obtain ⟨en, hen⟩ : ∃ x, es.length = x := ⟨_, rfl⟩
  obtain ⟨kn, hkn⟩ : ∃ x, ks.length = x := ⟨_, rfl⟩
  obtain ⟨sn, hsn⟩ : ∃ x, ss.length = x := ⟨_, rfl⟩
  rw [hen] at he ⊢
  rw [hkn] at hk ⊢
  rw [hsn] at hs ⊢
  clear hen hkn hsn
  go_enter Try.func80, Try.ntmps80
  go_upto_region 1 with (fail)
  obtain ⟨w0, hw0⟩ : ∃ W, w.alloc (.cells #[.bool l, .slice e0 en ec, .slice k0 kn kc, .slice s0 sn sc] 69) = W := ⟨_, rfl⟩
  have hz0 : w0.heap.size = w.heap.size + 1 := by rw [← hw0]; simp
  have hx : Bx w0 w.heap.size l (.slice e0 en ec) (.slice k0 kn kc) (.slice s0 sn sc) := by rw [← hw0]; exact Bx.new _ _ _ _ _ _
  have hb0 : Below w.heap.size w w0 := by rw [← hw0]; exact (Below.refl _ w).alloc (Nat.le_refl _) _
  rw [hw0]
  clear hw0
  obtain ⟨w1, hw1⟩ : ∃ W, w0.alloc (.cells #[.bool false, .slice none 0 0, .slice none 0 0, .slice none 0 0] 69) = W := ⟨_, rfl⟩
  have hz1 : w1.heap.size = w.heap.size + 2 := by rw [← hw1]; simp [hz0]
  have hzb : Zb w1 (w.heap.size + 1) 69 := by rw [← hw1, ← hz0]; exact Zb.new _ _ _ _ _ _
  have hb01 : Below w0.heap.size w0 w1 := by rw [← hw1]; exact (Below.refl _ w0).alloc (Nat.le_refl _) _
  rw [hw1]
  clear hw1
  have hx := hx.below hb01
  have hb1 := hb0.trans (hb01.mono hb0.size)
  clear hb0 hb01 hz0
  have HE := Lib.hid (he.below hb1); have HK0 := Lib.hid (hk.below hb1); have HS := Lib.hid (hs.below hb1)
  have HZB := Lib.hid hzb
  have HZ1 := Lib.hid hz1
  clear he hk hs hzb hz1
  refine wp_region_any (by kernel_rfl) ?_
  refine wpAny_upto_f 15 (fun f L a W => ∃ v3 v4 v5 v6 v7 v8 v9 v10 v11 v12 v13 v14 v15 v16 v17 : Value, a = { tmps := #[.agg #[.bool l, .slice e0 en ec, .slice k0 kn kc, .slice s0 sn sc], .pointer (some ⟨w.heap.size, 0, none⟩), .pointer (some ⟨w.heap.size + 1, 0, none⟩), v3, v4, v5, v6, v7, v8, v9, v10, v11, v12, v13, v14, v15, v16, v17], defers := [] } ∧ Below w1.heap.size w1 W ∧ (Lst L 0 → v3 = .pointer (some ⟨w.heap.size, 0, none⟩)) ∧ (Lst L 1 → v4 = .bool l) ∧ (Lst L 2 → v5 = .pointer (some ⟨w.heap.size, 1, none⟩)) ∧ (Lst L 3 → v6 = .slice e0 en ec) ∧ (Lst L 4 → Cl W v7 [.slice e0 en ec]) ∧ (Lst L 5 → World.ownsRow W w1.heap.size 49 2 v8 es.length (ecs es)) ∧ (Lst L 6 → v9 = .pointer (some ⟨w.heap.size, 2, none⟩)) ∧ (Lst L 7 → v10 = .slice k0 kn kc) ∧ (Lst L 8 → Cl W v11 [.slice k0 kn kc]) ∧ (Lst L 9 → World.ownsRow W w1.heap.size 3 1 v12 ks.length (ics ks)) ∧ (Lst L 10 → v13 = .pointer (some ⟨w.heap.size, 3, none⟩)) ∧ (Lst L 11 → v14 = .slice s0 sn sc) ∧ (Lst L 12 → Cl W v15 [.slice s0 sn sc]) ∧ (Lst L 13 → World.ownsRow W w1.heap.size 9 1 v16 ss.length (tcs ss)) ∧ (Lst L 14 → v17 = .agg #[.bool l, v8, v12, v16] ∧ Lst L 5 ∧ Lst L 9 ∧ Lst L 13)) (by decide) (by kernel_rfl) (by kernel_rfl) ?step ?fin _ _ _ _ ?ini (by simp) (fun k _ => lst_none) (by simp)
  case ini => exact ⟨_, _, _, _, _, _, _, _, _, _, _, _, _, _, _, rfl, (Below.refl _ w1).drew, fun h => absurd h lst_none, fun h => absurd h lst_none, fun h => absurd h lst_none, fun h => absurd h lst_none, fun h => absurd h lst_none, fun h => absurd h lst_none, fun h => absurd h lst_none, fun h => absurd h lst_none, fun h => absurd h lst_none, fun h => absurd h lst_none, fun h => absurd h lst_none, fun h => absurd h lst_none, fun h => absurd h lst_none, fun h => absurd h lst_none, fun h => absurd h lst_none⟩
  case step =>
    intro f L a W hI i him hi
    obtain ⟨v3, v4, v5, v6, v7, v8, v9, v10, v11, v12, v13, v14, v15, v16, v17, rfl, hb, hf⟩ := hI
    have F := Lib.hid hf
    clear hf
    rcases (show i = 0 ∨ i = 1 ∨ i = 2 ∨ i = 3 ∨ i = 4 ∨ i = 5 ∨ i = 6 ∨ i = 7 ∨ i = 8 ∨ i = 9 ∨ i = 10 ∨ i = 11 ∨ i = 12 ∨ i = 13 ∨ i = 14 by omega) with rfl | rfl | rfl | rfl | rfl | rfl | rfl | rfl | rfl | rfl | rfl | rfl | rfl | rfl | rfl
    · clear him
      have HI := Lib.hid hi
      clear hi
      refine wpOp_step (o := _) rfl (fun K' hK => ?_)
      have HK := Lib.hid hK
      clear hK
      go_simp
      try simp only [Act.put, List.setIfInBounds_toArray, List.set_cons_zero, List.set_cons_succ]
      refine HK.out _ _ ⟨_, _, _, _, _, _, _, _, _, _, _, _, _, _, _, rfl, hb, fun _ => rfl, fun h => F.out.2.1 (lst_old (by decide) h), fun h => F.out.2.2.1 (lst_old (by decide) h), fun h => F.out.2.2.2.1 (lst_old (by decide) h), fun h => F.out.2.2.2.2.1 (lst_old (by decide) h), fun h => F.out.2.2.2.2.2.1 (lst_old (by decide) h), fun h => F.out.2.2.2.2.2.2.1 (lst_old (by decide) h), fun h => F.out.2.2.2.2.2.2.2.1 (lst_old (by decide) h), fun h => F.out.2.2.2.2.2.2.2.2.1 (lst_old (by decide) h), fun h => F.out.2.2.2.2.2.2.2.2.2.1 (lst_old (by decide) h), fun h => F.out.2.2.2.2.2.2.2.2.2.2.1 (lst_old (by decide) h), fun h => F.out.2.2.2.2.2.2.2.2.2.2.2.1 (lst_old (by decide) h), fun h => F.out.2.2.2.2.2.2.2.2.2.2.2.2.1 (lst_old (by decide) h), fun h => F.out.2.2.2.2.2.2.2.2.2.2.2.2.2.1 (lst_old (by decide) h), fun h => ⟨(F.out.2.2.2.2.2.2.2.2.2.2.2.2.2.2 (lst_old (by decide) h)).1, lst_keep (F.out.2.2.2.2.2.2.2.2.2.2.2.2.2.2 (lst_old (by decide) h)).2.1, lst_keep (F.out.2.2.2.2.2.2.2.2.2.2.2.2.2.2 (lst_old (by decide) h)).2.2.1, lst_keep (F.out.2.2.2.2.2.2.2.2.2.2.2.2.2.2 (lst_old (by decide) h)).2.2.2⟩⟩
    · clear him
      have p0 := F.out.1 (ready_needs hi (by kernel_rfl))
      subst p0
      have hxx := hx.below hb
      obtain ⟨y0, y1, y2, y3⟩ := hxx
      have HI := Lib.hid hi
      clear hi
      refine wpOp_step (o := _) rfl (fun K' hK => ?_)
      have HK := Lib.hid hK
      clear hK
      go_simp
      try simp only [Act.put, List.setIfInBounds_toArray, List.set_cons_zero, List.set_cons_succ]
      refine HK.out _ _ ⟨_, _, _, _, _, _, _, _, _, _, _, _, _, _, _, rfl, hb, fun h => F.out.1 (lst_old (by decide) h), fun _ => rfl, fun h => F.out.2.2.1 (lst_old (by decide) h), fun h => F.out.2.2.2.1 (lst_old (by decide) h), fun h => F.out.2.2.2.2.1 (lst_old (by decide) h), fun h => F.out.2.2.2.2.2.1 (lst_old (by decide) h), fun h => F.out.2.2.2.2.2.2.1 (lst_old (by decide) h), fun h => F.out.2.2.2.2.2.2.2.1 (lst_old (by decide) h), fun h => F.out.2.2.2.2.2.2.2.2.1 (lst_old (by decide) h), fun h => F.out.2.2.2.2.2.2.2.2.2.1 (lst_old (by decide) h), fun h => F.out.2.2.2.2.2.2.2.2.2.2.1 (lst_old (by decide) h), fun h => F.out.2.2.2.2.2.2.2.2.2.2.2.1 (lst_old (by decide) h), fun h => F.out.2.2.2.2.2.2.2.2.2.2.2.2.1 (lst_old (by decide) h), fun h => F.out.2.2.2.2.2.2.2.2.2.2.2.2.2.1 (lst_old (by decide) h), fun h => ⟨(F.out.2.2.2.2.2.2.2.2.2.2.2.2.2.2 (lst_old (by decide) h)).1, lst_keep (F.out.2.2.2.2.2.2.2.2.2.2.2.2.2.2 (lst_old (by decide) h)).2.1, lst_keep (F.out.2.2.2.2.2.2.2.2.2.2.2.2.2.2 (lst_old (by decide) h)).2.2.1, lst_keep (F.out.2.2.2.2.2.2.2.2.2.2.2.2.2.2 (lst_old (by decide) h)).2.2.2⟩⟩
    · clear him
      have HI := Lib.hid hi
      clear hi
      refine wpOp_step (o := _) rfl (fun K' hK => ?_)
      have HK := Lib.hid hK
      clear hK
      go_simp
      try simp only [Act.put, List.setIfInBounds_toArray, List.set_cons_zero, List.set_cons_succ]
      refine HK.out _ _ ⟨_, _, _, _, _, _, _, _, _, _, _, _, _, _, _, rfl, hb, fun h => F.out.1 (lst_old (by decide) h), fun h => F.out.2.1 (lst_old (by decide) h), fun _ => rfl, fun h => F.out.2.2.2.1 (lst_old (by decide) h), fun h => F.out.2.2.2.2.1 (lst_old (by decide) h), fun h => F.out.2.2.2.2.2.1 (lst_old (by decide) h), fun h => F.out.2.2.2.2.2.2.1 (lst_old (by decide) h), fun h => F.out.2.2.2.2.2.2.2.1 (lst_old (by decide) h), fun h => F.out.2.2.2.2.2.2.2.2.1 (lst_old (by decide) h), fun h => F.out.2.2.2.2.2.2.2.2.2.1 (lst_old (by decide) h), fun h => F.out.2.2.2.2.2.2.2.2.2.2.1 (lst_old (by decide) h), fun h => F.out.2.2.2.2.2.2.2.2.2.2.2.1 (lst_old (by decide) h), fun h => F.out.2.2.2.2.2.2.2.2.2.2.2.2.1 (lst_old (by decide) h), fun h => F.out.2.2.2.2.2.2.2.2.2.2.2.2.2.1 (lst_old (by decide) h), fun h => ⟨(F.out.2.2.2.2.2.2.2.2.2.2.2.2.2.2 (lst_old (by decide) h)).1, lst_keep (F.out.2.2.2.2.2.2.2.2.2.2.2.2.2.2 (lst_old (by decide) h)).2.1, lst_keep (F.out.2.2.2.2.2.2.2.2.2.2.2.2.2.2 (lst_old (by decide) h)).2.2.1, lst_keep (F.out.2.2.2.2.2.2.2.2.2.2.2.2.2.2 (lst_old (by decide) h)).2.2.2⟩⟩
    · clear him
      have p2 := F.out.2.2.1 (ready_needs hi (by kernel_rfl))
      subst p2
      have hxx := hx.below hb
      obtain ⟨y0, y1, y2, y3⟩ := hxx
      have HI := Lib.hid hi
      clear hi
      refine wpOp_step (o := _) rfl (fun K' hK => ?_)
      have HK := Lib.hid hK
      clear hK
      go_simp
      try simp only [Act.put, List.setIfInBounds_toArray, List.set_cons_zero, List.set_cons_succ]
      refine HK.out _ _ ⟨_, _, _, _, _, _, _, _, _, _, _, _, _, _, _, rfl, hb, fun h => F.out.1 (lst_old (by decide) h), fun h => F.out.2.1 (lst_old (by decide) h), fun h => F.out.2.2.1 (lst_old (by decide) h), fun _ => rfl, fun h => F.out.2.2.2.2.1 (lst_old (by decide) h), fun h => F.out.2.2.2.2.2.1 (lst_old (by decide) h), fun h => F.out.2.2.2.2.2.2.1 (lst_old (by decide) h), fun h => F.out.2.2.2.2.2.2.2.1 (lst_old (by decide) h), fun h => F.out.2.2.2.2.2.2.2.2.1 (lst_old (by decide) h), fun h => F.out.2.2.2.2.2.2.2.2.2.1 (lst_old (by decide) h), fun h => F.out.2.2.2.2.2.2.2.2.2.2.1 (lst_old (by decide) h), fun h => F.out.2.2.2.2.2.2.2.2.2.2.2.1 (lst_old (by decide) h), fun h => F.out.2.2.2.2.2.2.2.2.2.2.2.2.1 (lst_old (by decide) h), fun h => F.out.2.2.2.2.2.2.2.2.2.2.2.2.2.1 (lst_old (by decide) h), fun h => ⟨(F.out.2.2.2.2.2.2.2.2.2.2.2.2.2.2 (lst_old (by decide) h)).1, lst_keep (F.out.2.2.2.2.2.2.2.2.2.2.2.2.2.2 (lst_old (by decide) h)).2.1, lst_keep (F.out.2.2.2.2.2.2.2.2.2.2.2.2.2.2 (lst_old (by decide) h)).2.2.1, lst_keep (F.out.2.2.2.2.2.2.2.2.2.2.2.2.2.2 (lst_old (by decide) h)).2.2.2⟩⟩
    · clear him
      have p3 := F.out.2.2.2.1 (ready_needs hi (by kernel_rfl))
      subst p3
      have HI := Lib.hid hi
      clear hi
      refine wpOp_step (o := _) rfl (fun K' hK => ?_)
      have HK := Lib.hid hK
      clear hK
      go_simp
      try simp only [Act.put, List.setIfInBounds_toArray, List.set_cons_zero, List.set_cons_succ]
      refine HK.out _ _ ⟨_, _, _, _, _, _, _, _, _, _, _, _, _, _, _, rfl, (hb.alloc hb.size _), fun h => F.out.1 (lst_old (by decide) h), fun h => F.out.2.1 (lst_old (by decide) h), fun h => F.out.2.2.1 (lst_old (by decide) h), fun h => F.out.2.2.2.1 (lst_old (by decide) h), fun _ => Cl.new W [.slice e0 en ec] 43 1 rfl, fun h => own_below (F.out.2.2.2.2.2.1 (lst_old (by decide) h)) ((Below.refl _ W).alloc (Nat.le_refl _) _), fun h => F.out.2.2.2.2.2.2.1 (lst_old (by decide) h), fun h => F.out.2.2.2.2.2.2.2.1 (lst_old (by decide) h), fun h => Cl.below (F.out.2.2.2.2.2.2.2.2.1 (lst_old (by decide) h)) ((Below.refl _ W).alloc (Nat.le_refl _) _), fun h => own_below (F.out.2.2.2.2.2.2.2.2.2.1 (lst_old (by decide) h)) ((Below.refl _ W).alloc (Nat.le_refl _) _), fun h => F.out.2.2.2.2.2.2.2.2.2.2.1 (lst_old (by decide) h), fun h => F.out.2.2.2.2.2.2.2.2.2.2.2.1 (lst_old (by decide) h), fun h => Cl.below (F.out.2.2.2.2.2.2.2.2.2.2.2.2.1 (lst_old (by decide) h)) ((Below.refl _ W).alloc (Nat.le_refl _) _), fun h => own_below (F.out.2.2.2.2.2.2.2.2.2.2.2.2.2.1 (lst_old (by decide) h)) ((Below.refl _ W).alloc (Nat.le_refl _) _), fun h => ⟨(F.out.2.2.2.2.2.2.2.2.2.2.2.2.2.2 (lst_old (by decide) h)).1, lst_keep (F.out.2.2.2.2.2.2.2.2.2.2.2.2.2.2 (lst_old (by decide) h)).2.1, lst_keep (F.out.2.2.2.2.2.2.2.2.2.2.2.2.2.2 (lst_old (by decide) h)).2.2.1, lst_keep (F.out.2.2.2.2.2.2.2.2.2.2.2.2.2.2 (lst_old (by decide) h)).2.2.2⟩⟩
    · clear him
      have p4 := F.out.2.2.2.2.1 (ready_needs hi (by kernel_rfl))
      have P4 := Lib.hid p4
      clear p4
      have HI := Lib.hid hi
      clear hi
      refine wpOp_step (o := _) rfl (fun K' hK => ?_)
      have HK := Lib.hid hK
      clear hK
      go_simp
      refine (gl1_e P4.out (HE.out.below hb) (by omega)).mono ?_
      rintro r W2 ⟨x, rfl, hown, hb2⟩
      try simp only [Act.put, List.setIfInBounds_toArray, List.set_cons_zero, List.set_cons_succ]
      refine HK.out _ _ ⟨_, _, _, _, _, _, _, _, _, _, _, _, _, _, _, rfl, (hb.trans (hb2.mono hb.size)), fun h => F.out.1 (lst_old (by decide) h), fun h => F.out.2.1 (lst_old (by decide) h), fun h => F.out.2.2.1 (lst_old (by decide) h), fun h => F.out.2.2.2.1 (lst_old (by decide) h), fun h => Cl.below (F.out.2.2.2.2.1 (lst_old (by decide) h)) hb2, fun _ => own_mono hown hb.size, fun h => F.out.2.2.2.2.2.2.1 (lst_old (by decide) h), fun h => F.out.2.2.2.2.2.2.2.1 (lst_old (by decide) h), fun h => Cl.below (F.out.2.2.2.2.2.2.2.2.1 (lst_old (by decide) h)) hb2, fun h => own_below (F.out.2.2.2.2.2.2.2.2.2.1 (lst_old (by decide) h)) hb2, fun h => F.out.2.2.2.2.2.2.2.2.2.2.1 (lst_old (by decide) h), fun h => F.out.2.2.2.2.2.2.2.2.2.2.2.1 (lst_old (by decide) h), fun h => Cl.below (F.out.2.2.2.2.2.2.2.2.2.2.2.2.1 (lst_old (by decide) h)) hb2, fun h => own_below (F.out.2.2.2.2.2.2.2.2.2.2.2.2.2.1 (lst_old (by decide) h)) hb2, fun h => absurd (F.out.2.2.2.2.2.2.2.2.2.2.2.2.2.2 (lst_old (by decide) h)).2.1 (ready_not HI.out)⟩
    · clear him
      have HI := Lib.hid hi
      clear hi
      refine wpOp_step (o := _) rfl (fun K' hK => ?_)
      have HK := Lib.hid hK
      clear hK
      go_simp
      try simp only [Act.put, List.setIfInBounds_toArray, List.set_cons_zero, List.set_cons_succ]
      refine HK.out _ _ ⟨_, _, _, _, _, _, _, _, _, _, _, _, _, _, _, rfl, hb, fun h => F.out.1 (lst_old (by decide) h), fun h => F.out.2.1 (lst_old (by decide) h), fun h => F.out.2.2.1 (lst_old (by decide) h), fun h => F.out.2.2.2.1 (lst_old (by decide) h), fun h => F.out.2.2.2.2.1 (lst_old (by decide) h), fun h => F.out.2.2.2.2.2.1 (lst_old (by decide) h), fun _ => rfl, fun h => F.out.2.2.2.2.2.2.2.1 (lst_old (by decide) h), fun h => F.out.2.2.2.2.2.2.2.2.1 (lst_old (by decide) h), fun h => F.out.2.2.2.2.2.2.2.2.2.1 (lst_old (by decide) h), fun h => F.out.2.2.2.2.2.2.2.2.2.2.1 (lst_old (by decide) h), fun h => F.out.2.2.2.2.2.2.2.2.2.2.2.1 (lst_old (by decide) h), fun h => F.out.2.2.2.2.2.2.2.2.2.2.2.2.1 (lst_old (by decide) h), fun h => F.out.2.2.2.2.2.2.2.2.2.2.2.2.2.1 (lst_old (by decide) h), fun h => ⟨(F.out.2.2.2.2.2.2.2.2.2.2.2.2.2.2 (lst_old (by decide) h)).1, lst_keep (F.out.2.2.2.2.2.2.2.2.2.2.2.2.2.2 (lst_old (by decide) h)).2.1, lst_keep (F.out.2.2.2.2.2.2.2.2.2.2.2.2.2.2 (lst_old (by decide) h)).2.2.1, lst_keep (F.out.2.2.2.2.2.2.2.2.2.2.2.2.2.2 (lst_old (by decide) h)).2.2.2⟩⟩
    · clear him
      have p6 := F.out.2.2.2.2.2.2.1 (ready_needs hi (by kernel_rfl))
      subst p6
      have hxx := hx.below hb
      obtain ⟨y0, y1, y2, y3⟩ := hxx
      have HI := Lib.hid hi
      clear hi
      refine wpOp_step (o := _) rfl (fun K' hK => ?_)
      have HK := Lib.hid hK
      clear hK
      go_simp
      try simp only [Act.put, List.setIfInBounds_toArray, List.set_cons_zero, List.set_cons_succ]
      refine HK.out _ _ ⟨_, _, _, _, _, _, _, _, _, _, _, _, _, _, _, rfl, hb, fun h => F.out.1 (lst_old (by decide) h), fun h => F.out.2.1 (lst_old (by decide) h), fun h => F.out.2.2.1 (lst_old (by decide) h), fun h => F.out.2.2.2.1 (lst_old (by decide) h), fun h => F.out.2.2.2.2.1 (lst_old (by decide) h), fun h => F.out.2.2.2.2.2.1 (lst_old (by decide) h), fun h => F.out.2.2.2.2.2.2.1 (lst_old (by decide) h), fun _ => rfl, fun h => F.out.2.2.2.2.2.2.2.2.1 (lst_old (by decide) h), fun h => F.out.2.2.2.2.2.2.2.2.2.1 (lst_old (by decide) h), fun h => F.out.2.2.2.2.2.2.2.2.2.2.1 (lst_old (by decide) h), fun h => F.out.2.2.2.2.2.2.2.2.2.2.2.1 (lst_old (by decide) h), fun h => F.out.2.2.2.2.2.2.2.2.2.2.2.2.1 (lst_old (by decide) h), fun h => F.out.2.2.2.2.2.2.2.2.2.2.2.2.2.1 (lst_old (by decide) h), fun h => ⟨(F.out.2.2.2.2.2.2.2.2.2.2.2.2.2.2 (lst_old (by decide) h)).1, lst_keep (F.out.2.2.2.2.2.2.2.2.2.2.2.2.2.2 (lst_old (by decide) h)).2.1, lst_keep (F.out.2.2.2.2.2.2.2.2.2.2.2.2.2.2 (lst_old (by decide) h)).2.2.1, lst_keep (F.out.2.2.2.2.2.2.2.2.2.2.2.2.2.2 (lst_old (by decide) h)).2.2.2⟩⟩
    · clear him
      have p7 := F.out.2.2.2.2.2.2.2.1 (ready_needs hi (by kernel_rfl))
      subst p7
      have HI := Lib.hid hi
      clear hi
      refine wpOp_step (o := _) rfl (fun K' hK => ?_)
      have HK := Lib.hid hK
      clear hK
      go_simp
      try simp only [Act.put, List.setIfInBounds_toArray, List.set_cons_zero, List.set_cons_succ]
      refine HK.out _ _ ⟨_, _, _, _, _, _, _, _, _, _, _, _, _, _, _, rfl, (hb.alloc hb.size _), fun h => F.out.1 (lst_old (by decide) h), fun h => F.out.2.1 (lst_old (by decide) h), fun h => F.out.2.2.1 (lst_old (by decide) h), fun h => F.out.2.2.2.1 (lst_old (by decide) h), fun h => Cl.below (F.out.2.2.2.2.1 (lst_old (by decide) h)) ((Below.refl _ W).alloc (Nat.le_refl _) _), fun h => own_below (F.out.2.2.2.2.2.1 (lst_old (by decide) h)) ((Below.refl _ W).alloc (Nat.le_refl _) _), fun h => F.out.2.2.2.2.2.2.1 (lst_old (by decide) h), fun h => F.out.2.2.2.2.2.2.2.1 (lst_old (by decide) h), fun _ => Cl.new W [.slice k0 kn kc] 67 1 rfl, fun h => own_below (F.out.2.2.2.2.2.2.2.2.2.1 (lst_old (by decide) h)) ((Below.refl _ W).alloc (Nat.le_refl _) _), fun h => F.out.2.2.2.2.2.2.2.2.2.2.1 (lst_old (by decide) h), fun h => F.out.2.2.2.2.2.2.2.2.2.2.2.1 (lst_old (by decide) h), fun h => Cl.below (F.out.2.2.2.2.2.2.2.2.2.2.2.2.1 (lst_old (by decide) h)) ((Below.refl _ W).alloc (Nat.le_refl _) _), fun h => own_below (F.out.2.2.2.2.2.2.2.2.2.2.2.2.2.1 (lst_old (by decide) h)) ((Below.refl _ W).alloc (Nat.le_refl _) _), fun h => ⟨(F.out.2.2.2.2.2.2.2.2.2.2.2.2.2.2 (lst_old (by decide) h)).1, lst_keep (F.out.2.2.2.2.2.2.2.2.2.2.2.2.2.2 (lst_old (by decide) h)).2.1, lst_keep (F.out.2.2.2.2.2.2.2.2.2.2.2.2.2.2 (lst_old (by decide) h)).2.2.1, lst_keep (F.out.2.2.2.2.2.2.2.2.2.2.2.2.2.2 (lst_old (by decide) h)).2.2.2⟩⟩
    · clear him
      have p8 := F.out.2.2.2.2.2.2.2.2.1 (ready_needs hi (by kernel_rfl))
      have P8 := Lib.hid p8
      clear p8
      have HI := Lib.hid hi
      clear hi
      refine wpOp_step (o := _) rfl (fun K' hK => ?_)
      have HK := Lib.hid hK
      clear hK
      go_simp
      refine (gl1_i P8.out (HK0.out.below hb) (by omega)).mono ?_
      rintro r W2 ⟨x, rfl, hown, hb2⟩
      try simp only [Act.put, List.setIfInBounds_toArray, List.set_cons_zero, List.set_cons_succ]
      refine HK.out _ _ ⟨_, _, _, _, _, _, _, _, _, _, _, _, _, _, _, rfl, (hb.trans (hb2.mono hb.size)), fun h => F.out.1 (lst_old (by decide) h), fun h => F.out.2.1 (lst_old (by decide) h), fun h => F.out.2.2.1 (lst_old (by decide) h), fun h => F.out.2.2.2.1 (lst_old (by decide) h), fun h => Cl.below (F.out.2.2.2.2.1 (lst_old (by decide) h)) hb2, fun h => own_below (F.out.2.2.2.2.2.1 (lst_old (by decide) h)) hb2, fun h => F.out.2.2.2.2.2.2.1 (lst_old (by decide) h), fun h => F.out.2.2.2.2.2.2.2.1 (lst_old (by decide) h), fun h => Cl.below (F.out.2.2.2.2.2.2.2.2.1 (lst_old (by decide) h)) hb2, fun _ => own_mono hown hb.size, fun h => F.out.2.2.2.2.2.2.2.2.2.2.1 (lst_old (by decide) h), fun h => F.out.2.2.2.2.2.2.2.2.2.2.2.1 (lst_old (by decide) h), fun h => Cl.below (F.out.2.2.2.2.2.2.2.2.2.2.2.2.1 (lst_old (by decide) h)) hb2, fun h => own_below (F.out.2.2.2.2.2.2.2.2.2.2.2.2.2.1 (lst_old (by decide) h)) hb2, fun h => absurd (F.out.2.2.2.2.2.2.2.2.2.2.2.2.2.2 (lst_old (by decide) h)).2.2.1 (ready_not HI.out)⟩
    · clear him
      have HI := Lib.hid hi
      clear hi
      refine wpOp_step (o := _) rfl (fun K' hK => ?_)
      have HK := Lib.hid hK
      clear hK
      go_simp
      try simp only [Act.put, List.setIfInBounds_toArray, List.set_cons_zero, List.set_cons_succ]
      refine HK.out _ _ ⟨_, _, _, _, _, _, _, _, _, _, _, _, _, _, _, rfl, hb, fun h => F.out.1 (lst_old (by decide) h), fun h => F.out.2.1 (lst_old (by decide) h), fun h => F.out.2.2.1 (lst_old (by decide) h), fun h => F.out.2.2.2.1 (lst_old (by decide) h), fun h => F.out.2.2.2.2.1 (lst_old (by decide) h), fun h => F.out.2.2.2.2.2.1 (lst_old (by decide) h), fun h => F.out.2.2.2.2.2.2.1 (lst_old (by decide) h), fun h => F.out.2.2.2.2.2.2.2.1 (lst_old (by decide) h), fun h => F.out.2.2.2.2.2.2.2.2.1 (lst_old (by decide) h), fun h => F.out.2.2.2.2.2.2.2.2.2.1 (lst_old (by decide) h), fun _ => rfl, fun h => F.out.2.2.2.2.2.2.2.2.2.2.2.1 (lst_old (by decide) h), fun h => F.out.2.2.2.2.2.2.2.2.2.2.2.2.1 (lst_old (by decide) h), fun h => F.out.2.2.2.2.2.2.2.2.2.2.2.2.2.1 (lst_old (by decide) h), fun h => ⟨(F.out.2.2.2.2.2.2.2.2.2.2.2.2.2.2 (lst_old (by decide) h)).1, lst_keep (F.out.2.2.2.2.2.2.2.2.2.2.2.2.2.2 (lst_old (by decide) h)).2.1, lst_keep (F.out.2.2.2.2.2.2.2.2.2.2.2.2.2.2 (lst_old (by decide) h)).2.2.1, lst_keep (F.out.2.2.2.2.2.2.2.2.2.2.2.2.2.2 (lst_old (by decide) h)).2.2.2⟩⟩
    · clear him
      have p10 := F.out.2.2.2.2.2.2.2.2.2.2.1 (ready_needs hi (by kernel_rfl))
      subst p10
      have hxx := hx.below hb
      obtain ⟨y0, y1, y2, y3⟩ := hxx
      have HI := Lib.hid hi
      clear hi
      refine wpOp_step (o := _) rfl (fun K' hK => ?_)
      have HK := Lib.hid hK
      clear hK
      go_simp
      try simp only [Act.put, List.setIfInBounds_toArray, List.set_cons_zero, List.set_cons_succ]
      refine HK.out _ _ ⟨_, _, _, _, _, _, _, _, _, _, _, _, _, _, _, rfl, hb, fun h => F.out.1 (lst_old (by decide) h), fun h => F.out.2.1 (lst_old (by decide) h), fun h => F.out.2.2.1 (lst_old (by decide) h), fun h => F.out.2.2.2.1 (lst_old (by decide) h), fun h => F.out.2.2.2.2.1 (lst_old (by decide) h), fun h => F.out.2.2.2.2.2.1 (lst_old (by decide) h), fun h => F.out.2.2.2.2.2.2.1 (lst_old (by decide) h), fun h => F.out.2.2.2.2.2.2.2.1 (lst_old (by decide) h), fun h => F.out.2.2.2.2.2.2.2.2.1 (lst_old (by decide) h), fun h => F.out.2.2.2.2.2.2.2.2.2.1 (lst_old (by decide) h), fun h => F.out.2.2.2.2.2.2.2.2.2.2.1 (lst_old (by decide) h), fun _ => rfl, fun h => F.out.2.2.2.2.2.2.2.2.2.2.2.2.1 (lst_old (by decide) h), fun h => F.out.2.2.2.2.2.2.2.2.2.2.2.2.2.1 (lst_old (by decide) h), fun h => ⟨(F.out.2.2.2.2.2.2.2.2.2.2.2.2.2.2 (lst_old (by decide) h)).1, lst_keep (F.out.2.2.2.2.2.2.2.2.2.2.2.2.2.2 (lst_old (by decide) h)).2.1, lst_keep (F.out.2.2.2.2.2.2.2.2.2.2.2.2.2.2 (lst_old (by decide) h)).2.2.1, lst_keep (F.out.2.2.2.2.2.2.2.2.2.2.2.2.2.2 (lst_old (by decide) h)).2.2.2⟩⟩
    · clear him
      have p11 := F.out.2.2.2.2.2.2.2.2.2.2.2.1 (ready_needs hi (by kernel_rfl))
      subst p11
      have HI := Lib.hid hi
      clear hi
      refine wpOp_step (o := _) rfl (fun K' hK => ?_)
      have HK := Lib.hid hK
      clear hK
      go_simp
      try simp only [Act.put, List.setIfInBounds_toArray, List.set_cons_zero, List.set_cons_succ]
      refine HK.out _ _ ⟨_, _, _, _, _, _, _, _, _, _, _, _, _, _, _, rfl, (hb.alloc hb.size _), fun h => F.out.1 (lst_old (by decide) h), fun h => F.out.2.1 (lst_old (by decide) h), fun h => F.out.2.2.1 (lst_old (by decide) h), fun h => F.out.2.2.2.1 (lst_old (by decide) h), fun h => Cl.below (F.out.2.2.2.2.1 (lst_old (by decide) h)) ((Below.refl _ W).alloc (Nat.le_refl _) _), fun h => own_below (F.out.2.2.2.2.2.1 (lst_old (by decide) h)) ((Below.refl _ W).alloc (Nat.le_refl _) _), fun h => F.out.2.2.2.2.2.2.1 (lst_old (by decide) h), fun h => F.out.2.2.2.2.2.2.2.1 (lst_old (by decide) h), fun h => Cl.below (F.out.2.2.2.2.2.2.2.2.1 (lst_old (by decide) h)) ((Below.refl _ W).alloc (Nat.le_refl _) _), fun h => own_below (F.out.2.2.2.2.2.2.2.2.2.1 (lst_old (by decide) h)) ((Below.refl _ W).alloc (Nat.le_refl _) _), fun h => F.out.2.2.2.2.2.2.2.2.2.2.1 (lst_old (by decide) h), fun h => F.out.2.2.2.2.2.2.2.2.2.2.2.1 (lst_old (by decide) h), fun _ => Cl.new W [.slice s0 sn sc] 22 1 rfl, fun h => own_below (F.out.2.2.2.2.2.2.2.2.2.2.2.2.2.1 (lst_old (by decide) h)) ((Below.refl _ W).alloc (Nat.le_refl _) _), fun h => ⟨(F.out.2.2.2.2.2.2.2.2.2.2.2.2.2.2 (lst_old (by decide) h)).1, lst_keep (F.out.2.2.2.2.2.2.2.2.2.2.2.2.2.2 (lst_old (by decide) h)).2.1, lst_keep (F.out.2.2.2.2.2.2.2.2.2.2.2.2.2.2 (lst_old (by decide) h)).2.2.1, lst_keep (F.out.2.2.2.2.2.2.2.2.2.2.2.2.2.2 (lst_old (by decide) h)).2.2.2⟩⟩
    · clear him
      have p12 := F.out.2.2.2.2.2.2.2.2.2.2.2.2.1 (ready_needs hi (by kernel_rfl))
      have P12 := Lib.hid p12
      clear p12
      have HI := Lib.hid hi
      clear hi
      refine wpOp_step (o := _) rfl (fun K' hK => ?_)
      have HK := Lib.hid hK
      clear hK
      go_simp
      refine (gl1_t P12.out (HS.out.below hb) (by omega)).mono ?_
      rintro r W2 ⟨x, rfl, hown, hb2⟩
      try simp only [Act.put, List.setIfInBounds_toArray, List.set_cons_zero, List.set_cons_succ]
      refine HK.out _ _ ⟨_, _, _, _, _, _, _, _, _, _, _, _, _, _, _, rfl, (hb.trans (hb2.mono hb.size)), fun h => F.out.1 (lst_old (by decide) h), fun h => F.out.2.1 (lst_old (by decide) h), fun h => F.out.2.2.1 (lst_old (by decide) h), fun h => F.out.2.2.2.1 (lst_old (by decide) h), fun h => Cl.below (F.out.2.2.2.2.1 (lst_old (by decide) h)) hb2, fun h => own_below (F.out.2.2.2.2.2.1 (lst_old (by decide) h)) hb2, fun h => F.out.2.2.2.2.2.2.1 (lst_old (by decide) h), fun h => F.out.2.2.2.2.2.2.2.1 (lst_old (by decide) h), fun h => Cl.below (F.out.2.2.2.2.2.2.2.2.1 (lst_old (by decide) h)) hb2, fun h => own_below (F.out.2.2.2.2.2.2.2.2.2.1 (lst_old (by decide) h)) hb2, fun h => F.out.2.2.2.2.2.2.2.2.2.2.1 (lst_old (by decide) h), fun h => F.out.2.2.2.2.2.2.2.2.2.2.2.1 (lst_old (by decide) h), fun h => Cl.below (F.out.2.2.2.2.2.2.2.2.2.2.2.2.1 (lst_old (by decide) h)) hb2, fun _ => own_mono hown hb.size, fun h => absurd (F.out.2.2.2.2.2.2.2.2.2.2.2.2.2.2 (lst_old (by decide) h)).2.2.2 (ready_not HI.out)⟩
    · clear him
      have p1 := F.out.2.1 (ready_needs hi (by kernel_rfl))
      have p5 := F.out.2.2.2.2.2.1 (ready_needs hi (by kernel_rfl))
      have p9 := F.out.2.2.2.2.2.2.2.2.2.1 (ready_needs hi (by kernel_rfl))
      have p13 := F.out.2.2.2.2.2.2.2.2.2.2.2.2.2.1 (ready_needs hi (by kernel_rfl))
      subst p1
      obtain ⟨a5, c5, h5⟩ := own_slice p5
      subst h5
      have P5 := Lib.hid p5
      clear p5
      obtain ⟨a9, c9, h9⟩ := own_slice p9
      subst h9
      have P9 := Lib.hid p9
      clear p9
      obtain ⟨a13, c13, h13⟩ := own_slice p13
      subst h13
      have P13 := Lib.hid p13
      clear p13
      have HI := Lib.hid hi
      clear hi
      refine wpOp_step (o := _) rfl (fun K' hK => ?_)
      have HK := Lib.hid hK
      clear hK
      go_simp
      try simp only [Act.put, List.setIfInBounds_toArray, List.set_cons_zero, List.set_cons_succ]
      refine HK.out _ _ ⟨_, _, _, _, _, _, _, _, _, _, _, _, _, _, _, rfl, hb, fun h => F.out.1 (lst_old (by decide) h), fun h => F.out.2.1 (lst_old (by decide) h), fun h => F.out.2.2.1 (lst_old (by decide) h), fun h => F.out.2.2.2.1 (lst_old (by decide) h), fun h => F.out.2.2.2.2.1 (lst_old (by decide) h), fun h => F.out.2.2.2.2.2.1 (lst_old (by decide) h), fun h => F.out.2.2.2.2.2.2.1 (lst_old (by decide) h), fun h => F.out.2.2.2.2.2.2.2.1 (lst_old (by decide) h), fun h => F.out.2.2.2.2.2.2.2.2.1 (lst_old (by decide) h), fun h => F.out.2.2.2.2.2.2.2.2.2.1 (lst_old (by decide) h), fun h => F.out.2.2.2.2.2.2.2.2.2.2.1 (lst_old (by decide) h), fun h => F.out.2.2.2.2.2.2.2.2.2.2.2.1 (lst_old (by decide) h), fun h => F.out.2.2.2.2.2.2.2.2.2.2.2.2.1 (lst_old (by decide) h), fun h => F.out.2.2.2.2.2.2.2.2.2.2.2.2.2.1 (lst_old (by decide) h), fun _ => ⟨rfl, lst_keep (ready_needs HI.out (by kernel_rfl)), lst_keep (ready_needs HI.out (by kernel_rfl)), lst_keep (ready_needs HI.out (by kernel_rfl))⟩⟩
  case fin =>
    intro f a W hI
    obtain ⟨v3, v4, v5, v6, v7, v8, v9, v10, v11, v12, v13, v14, v15, v16, v17, rfl, hb, hf⟩ := hI
    have p0 := hf.1 rfl
    have p1 := hf.2.1 rfl
    have p2 := hf.2.2.1 rfl
    have p3 := hf.2.2.2.1 rfl
    have p4 := hf.2.2.2.2.1 rfl
    have p5 := hf.2.2.2.2.2.1 rfl
    have p6 := hf.2.2.2.2.2.2.1 rfl
    have p7 := hf.2.2.2.2.2.2.2.1 rfl
    have p8 := hf.2.2.2.2.2.2.2.2.1 rfl
    have p9 := hf.2.2.2.2.2.2.2.2.2.1 rfl
    have p10 := hf.2.2.2.2.2.2.2.2.2.2.1 rfl
    have p11 := hf.2.2.2.2.2.2.2.2.2.2.2.1 rfl
    have p12 := hf.2.2.2.2.2.2.2.2.2.2.2.2.1 rfl
    have p13 := hf.2.2.2.2.2.2.2.2.2.2.2.2.2.1 rfl
    have p14 := hf.2.2.2.2.2.2.2.2.2.2.2.2.2.2 rfl
    clear hf
    subst p0
    subst p1
    subst p2
    subst p3
    clear p4
    obtain ⟨a5, c5, h5⟩ := own_slice p5
    subst h5
    have P5 := Lib.hid p5
    clear p5
    subst p6
    subst p7
    clear p8
    obtain ⟨a9, c9, h9⟩ := own_slice p9
    subst h9
    have P9 := Lib.hid p9
    clear p9
    subst p10
    subst p11
    clear p12
    obtain ⟨a13, c13, h13⟩ := own_slice p13
    subst h13
    have P13 := Lib.hid p13
    clear p13
    replace p14 := p14.1
    subst p14
    refine wpAny_all (rs := [15]) (by kernel_rfl) (by simp) ?_
    intro i hi
    obtain rfl := List.mem_singleton.1 hi
    obtain ⟨z0a, z0b, z0c, z0d, hz0⟩ := HZB.out.below hb
    have c00 : World.cell? (W) ⟨w.heap.size + 1, 0, none⟩ = some z0a := by rw [blk_cell hz0]; rfl
    have f00 := blk_free hz0 0
    have hz00 := blk_set hz0 0 (.bool l)
    have c01 : World.cell? (World.setCell (W) ⟨w.heap.size + 1, 0, none⟩ (.bool l)) ⟨w.heap.size + 1, 1, none⟩ = some z0b := by rw [blk_cell hz00]; rfl
    have f01 := blk_free hz00 1
    have hz01 := blk_set hz00 1 (.slice a5 es.length c5)
    have c02 : World.cell? (World.setCell (World.setCell (W) ⟨w.heap.size + 1, 0, none⟩ (.bool l)) ⟨w.heap.size + 1, 1, none⟩ (.slice a5 es.length c5)) ⟨w.heap.size + 1, 2, none⟩ = some z0c := by rw [blk_cell hz01]; rfl
    have f02 := blk_free hz01 2
    have hz02 := blk_set hz01 2 (.slice a9 ks.length c9)
    have c03 : World.cell? (World.setCell (World.setCell (World.setCell (W) ⟨w.heap.size + 1, 0, none⟩ (.bool l)) ⟨w.heap.size + 1, 1, none⟩ (.slice a5 es.length c5)) ⟨w.heap.size + 1, 2, none⟩ (.slice a9 ks.length c9)) ⟨w.heap.size + 1, 3, none⟩ = some z0d := by rw [blk_cell hz02]; rfl
    have f03 := blk_free hz02 3
    have hz03 := blk_set hz02 3 (.slice a13 ss.length c13)
    have HZ0 := Lib.hid hz03
    clear hz0 hz00 hz01 hz02 hz03
    refine wpOp_step (o := _) rfl (fun K' hK => ?_)
    have HKK := Lib.hid hK
    clear hK
    go_simp
    refine HKK.out _ _ (wpAny_done (by kernel_rfl) ?_ _)
    have hon : Only (w.heap.size + 1) W (World.setCell (World.setCell (World.setCell (World.setCell (W) ⟨w.heap.size + 1, 0, none⟩ (.bool l)) ⟨w.heap.size + 1, 1, none⟩ (.slice a5 es.length c5)) ⟨w.heap.size + 1, 2, none⟩ (.slice a9 ks.length c9)) ⟨w.heap.size + 1, 3, none⟩ (.slice a13 ss.length c13)) := (((Only.set _ _ _).trans (Only.set _ _ _)).trans (Only.set _ _ _)).trans (Only.set _ _ _)
    obtain ⟨W4, hW4⟩ : ∃ X, World.setCell (World.setCell (World.setCell (World.setCell (W) ⟨w.heap.size + 1, 0, none⟩ (.bool l)) ⟨w.heap.size + 1, 1, none⟩ (.slice a5 es.length c5)) ⟨w.heap.size + 1, 2, none⟩ (.slice a9 ks.length c9)) ⟨w.heap.size + 1, 3, none⟩ (.slice a13 ss.length c13) = X := ⟨_, rfl⟩
    rw [hW4] at HZ0 hon ⊢
    clear hW4
    have hb4 : Below w.heap.size w W4 := (hb1.trans (hb.mono hb1.size)).trans (hon.to_below (by omega) (Nat.le_trans hb1.size hb.size))
    have hbx : Bx W4 (w.heap.size + 1) l (.slice a5 es.length c5) (.slice a9 ks.length c9) (.slice a13 ss.length c13) := ⟨by rw [blk_cell HZ0.out]; rfl, by rw [blk_cell HZ0.out]; rfl, by rw [blk_cell HZ0.out]; rfl, by rw [blk_cell HZ0.out]; rfl⟩
    have hlt : w.heap.size + 1 < w1.heap.size := by rw [HZ1.out]; omega
    have O1 := Lib.hid (own_mono (own_only' P5.out hon hlt) hb1.size)
    have O2 := Lib.hid (own_mono (own_only' P9.out hon hlt) hb1.size)
    have O3 := Lib.hid (own_mono (own_only' P13.out hon hlt) hb1.size)
    go_wp2
    refine bodyPost_ret (res_one rfl rfl (load69 hbx)) rfl ?_
    exact ⟨_, rfl, ⟨_, _, _, _, _, _, rfl, O1.out, O2.out, O3.out⟩, hb4⟩
end Go.Proofs.Ytifdglehfhoecaa.N
