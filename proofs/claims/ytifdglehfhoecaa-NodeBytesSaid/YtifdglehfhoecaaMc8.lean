/-
  Texts of this proof, merged: NRJoin, NDec2. What each says stands at its head.
-/
import Derived.Lib.OwnKind
import Derived.Test.YtifdglehfhoecaaMc7
/-
  Two nodes in one: the document's answer. Conditions: bounds that every node here keeps.
-/
namespace Go.Proofs.Ytifdglehfhoecaa.N
open Go.RowKit B E
theorem own_kindJ {w : World} {base size n g : Nat} {e t : TypeId} {v : Value} {cs : List Value} {c : Array Value} {fz : Nat × Nat} (h : w.ownsRow base e size v n cs) (hg : w.heap[g]? = some (.cells c t fz)) (hne : t ≠ e) : v.ownBlock ≠ some g := by
  obtain ⟨_, ⟨rfl, _⟩ | ⟨g2, cap, cur, rfl, _, hh, _⟩⟩ := h
  · simp [Value.ownBlock]
  · intro h1
    simp [Value.ownBlock] at h1
    subst h1
    rw [hg] at hh
    injection hh with hh
    injection hh with h1 h2 h3
    exact hne h2
theorem own_apart {w w' : World} {base b2 e1 e2 s1 s2 n1 n2 : Nat} {v1 v2 : Value} {c1 c2 : List Value} (h1 : w.ownsRow base e1 s1 v1 n1 c1) (h2 : w.ownsRow b2 e2 s2 v2 n2 c2) (hne : e2 ≠ e1) (hg : w.grownBy w' v2.ownBlock) : w'.ownsRow base e1 s1 v1 n1 c1 := by
  obtain ⟨_, ⟨rfl, _⟩ | ⟨g2, cap, cur, rfl, _, hh, _⟩⟩ := h2
  · rcases ho : v1.ownBlock with _ | g
    · exact h1.kept hg (.inl ho)
    · exact h1.kept hg (.inr (by rw [ho]; simp [Value.ownBlock]))
  · have hk := own_kindJ h1 hh hne
    exact h1.kept hg (.inr (by simpa [Value.ownBlock] using hk))
theorem grown_blk {w w' : World} {g base e s n : Nat} {v : Value} {cs : List Value} {o : Obj} (h : w.heap[g]? = some o) (hr : w.ownsRow base e s v n cs) (hg : w.grownBy w' v.ownBlock) (hlt : g < base) : w'.heap[g]? = some o := by
  rw [hg.block g (lt_of_blk h) fun he => by have := (hr.lt g he.symm).1; omega]
  exact h
/-- a box of the document's -/
def Zc (w : World) (g : Nat) : Prop := ∃ a b c d, w.heap[g]? = some (.cells #[a, b, c, d] 73 (0, 0))
theorem store73 {w : World} {g : Nat} {l : Bool} {e0 k0 s0 : Option Addr} {en ec kn kc sn sc : Nat} (h : Zc w g) :
    ∃ w', (storeVar 73 ⟨g, 0, none⟩ (.agg #[.bool l, .slice e0 en ec, .slice k0 kn kc, .slice s0 sn sc])).run Try.prog w = .ok () w' ∧ w'.heap[g]? = some (.cells #[.bool l, .slice e0 en ec, .slice k0 kn kc, .slice s0 sn sc] 73 (0, 0)) ∧ Only g w w' := by
  obtain ⟨a, b, c, d, h⟩ := h
  have h0 := blk_set h 0 (.bool l)
  have h1 := blk_set h0 1 (.slice e0 en ec)
  have h2 := blk_set h1 2 (.slice k0 kn kc)
  have h3 := blk_set h2 3 (.slice s0 sn sc)
  refine ⟨_, ?_, h3, (((Only.set _ _ _).trans (Only.set _ _ _)).trans (Only.set _ _ _)).trans (Only.set _ _ _)⟩
  have c0 : w.cell? ⟨g, 0, none⟩ = some a := by rw [blk_cell h]; rfl
  have c1 : (w.setCell ⟨g, 0, none⟩ (.bool l)).cell? ⟨g, 1, none⟩ = some b := by rw [blk_cell h0]; rfl
  have c2 : ((w.setCell ⟨g, 0, none⟩ (.bool l)).setCell ⟨g, 1, none⟩ (.slice e0 en ec)).cell? ⟨g, 2, none⟩ = some c := by rw [blk_cell h1]; rfl
  have c3 : (((w.setCell ⟨g, 0, none⟩ (.bool l)).setCell ⟨g, 1, none⟩ (.slice e0 en ec)).setCell ⟨g, 2, none⟩ (.slice k0 kn kc)).cell? ⟨g, 3, none⟩ = some d := by rw [blk_cell h2]; rfl
  have f0 := blk_free h 0
  have f1 := blk_free h0 1
  have f2 := blk_free h1 2
  have f3 := blk_free h2 3
  simp [storeVar, go_sem, *]
set_option maxRecDepth 10000 in
theorem wpList_store73 {w : World} {ops : Array Oper} {rest : List Oper} {o : Oper} {a : Act} {Q : Exit → Act → World → Prop} (hgd : o.guard = none) (p x : Operand) (ho : o.op = .store 73 p x)
    (g : Nat) {l : Bool} {e0 k0 s0 : Option Addr} {en ec kn kc sn sc : Nat} (hp : a.eval p = .pointer (some ⟨g, 0, none⟩)) (hx : a.eval x = .agg #[.bool l, .slice e0 en ec, .slice k0 kn kc, .slice s0 sn sc]) (hz : Zc w g)
    (h : ∀ w', w'.heap[g]? = some (.cells #[.bool l, .slice e0 en ec, .slice k0 kn kc, .slice s0 sn sc] 73 (0, 0)) → Only g w w' → wpList Try.prog ops Q rest (a.put o.dst undef) w') : wpList Try.prog ops Q (o :: rest) a w := by
  refine wpList_plain hgd fun _ hK => ?_
  obtain ⟨w', hr, h1, h2⟩ := store73 (l := l) (e0 := e0) (en := en) (ec := ec) (k0 := k0) (kn := kn) (kc := kc) (s0 := s0) (sn := sn) (sc := sc) hz
  unfold Oper.wp execOp
  have hr' : (Instr.storeAt 73 (.pointer (some ⟨g, 0, none⟩)) (.agg #[.bool l, .slice e0 en ec, .slice k0 kn kc, .slice s0 sn sc])).run Try.prog w = .ok () w' := by
    simp only [Instr.storeAt, Instr.sureAddr, Sem.run_bind, Sem.run_pure, Result.andThen]
    exact hr
  simp only [ho, hp, hx, Sem.run_bind, hr', Result.andThen_ok, Sem.run_pure]
  exact hK _ _ (h w' h1 h2)
theorem bx_blk73 {w : World} {g : Nat} {l : Bool} {a b c : Value} (h : w.heap[g]? = some (.cells #[.bool l, a, b, c] 73 (0, 0))) : Bx w g l a b c := ⟨by rw [blk_cell h]; rfl, by rw [blk_cell h]; rfl, by rw [blk_cell h]; rfl, by rw [blk_cell h]; rfl⟩
set_option maxRecDepth 100000 in
set_option maxHeartbeats 8000000 in
theorem rjoin_true (va vb : Value) (es fs : List Ent) (ks js : List Int) (ss ts : List ByteArray) (key : ByteArray) (w : World) (ha : NdV w va ⟨true, es, ks, ss⟩) (hb : NdV w vb ⟨true, fs, js, ts⟩) (hda : Bd ⟨true, es, ks, ss⟩) (hdb : Bd ⟨true, fs, js, ts⟩) :
    Calls Try.prog 57 #[va, .string key, vb] w fun r w' => ∃ v, r = .returned v ∧ NdO w' w.heap.size v ⟨true, es ++ fs, ks ++ js, ss ++ ts⟩ ∧ Below w.heap.size w w' := by
  obtain ⟨c1, c2, c3, _, _⟩ := hda
  obtain ⟨d1, d2, d3, _, _⟩ := hdb
  obtain ⟨ie, hie, ie0, ie1, ie2⟩ := info_parts E.info49
  obtain ⟨ik, hik, ik0, ik1, ik2⟩ := info_parts info3
  obtain ⟨it, hit, it0, it1, it2⟩ := info_parts info9
  obtain ⟨e0, ec, k0, kc, s0, sc, rfl, he, hk, hs⟩ := ha
  obtain ⟨f0, fc, j0, jc, t0, tc, rfl, hf, hj, ht⟩ := hb
  dsimp only at he hk hs hf hj ht c1 c2 c3 d1 d2 d3 ⊢
  obtain ⟨en, hen⟩ : ∃ x, es.length = x := ⟨_, rfl⟩
  obtain ⟨kn, hkn⟩ : ∃ x, ks.length = x := ⟨_, rfl⟩
  obtain ⟨sn, hsn⟩ : ∃ x, ss.length = x := ⟨_, rfl⟩
  obtain ⟨fn, hfn⟩ : ∃ x, fs.length = x := ⟨_, rfl⟩
  obtain ⟨jn, hjn⟩ : ∃ x, js.length = x := ⟨_, rfl⟩
  obtain ⟨tn, htn⟩ : ∃ x, ts.length = x := ⟨_, rfl⟩
  have e1 : en ≤ 10000 := by rw [← hen]; exact c1
  have e2 : kn ≤ 10000 := by rw [← hkn]; exact c2
  have e3 : sn ≤ 10000 := by rw [← hsn]; exact c3
  have e4 : fn ≤ 10000 := by rw [← hfn]; exact d1
  have e5 : jn ≤ 10000 := by rw [← hjn]; exact d2
  have e6 : tn ≤ 10000 := by rw [← htn]; exact d3
  rw [hen] at he ⊢
  rw [hkn] at hk ⊢
  rw [hsn] at hs ⊢
  rw [hfn] at hf ⊢
  rw [hjn] at hj ⊢
  rw [htn] at ht ⊢
  have HE := Lib.hid he; have HKS := Lib.hid hk; have HS := Lib.hid hs
  have HF := Lib.hid hf; have HJ := Lib.hid hj; have HT := Lib.hid ht
  have HESN := Lib.hid hen; have HKSN := Lib.hid hkn; have HSSN := Lib.hid hsn; have HFSN := Lib.hid hfn; have HJSN := Lib.hid hjn; have HTSN := Lib.hid htn
  clear he hk hs hf hj ht hen hkn hsn hfn hjn htn
  go_enter Try.func57, Try.ntmps57
  go_upto_region 1 with (fail)
  obtain ⟨wa, hwa⟩ : ∃ W, w.alloc (.cells #[.bool true, .slice e0 en ec, .slice k0 kn kc, .slice s0 sn sc] 73) = W := ⟨_, rfl⟩
  have hza : wa.heap.size = w.heap.size + 1 := by rw [← hwa]; simp
  have hx : Bx wa w.heap.size true (.slice e0 en ec) (.slice k0 kn kc) (.slice s0 sn sc) := by rw [← hwa]; exact Bx.new _ _ _ _ _ _
  have hba : Below w.heap.size w wa := by rw [← hwa]; exact (Below.refl _ w).alloc (Nat.le_refl _) _
  rw [hwa]
  clear hwa
  obtain ⟨wb, hwb⟩ : ∃ W, wa.alloc (.cells #[.bool true, .slice f0 fn fc, .slice j0 jn jc, .slice t0 tn tc] 73) = W := ⟨_, rfl⟩
  have hzb : wb.heap.size = w.heap.size + 2 := by rw [← hwb]; simp [hza]
  have hy : Bx wb (w.heap.size + 1) true (.slice f0 fn fc) (.slice j0 jn jc) (.slice t0 tn tc) := by rw [← hwb, ← hza]; exact Bx.new _ _ _ _ _ _
  have hbb : Below wa.heap.size wa wb := by rw [← hwb]; exact (Below.refl _ wa).alloc (Nat.le_refl _) _
  rw [hwb]
  clear hwb
  obtain ⟨wc, hwc⟩ : ∃ W, wb.alloc (.cells #[.bool false, .slice none 0 0, .slice none 0 0, .slice none 0 0] 73) = W := ⟨_, rfl⟩
  have hzc : wc.heap.size = w.heap.size + 3 := by rw [← hwc]; simp [hzb]
  have hC : wc.heap[w.heap.size + 1 + 1]? = some (.cells #[.bool false, .slice none 0 0, .slice none 0 0, .slice none 0 0] 73 (0, 0)) := by rw [← hwc, ← hzb]; exact blk_new _ _
  have hbc : Below wb.heap.size wb wc := by rw [← hwc]; exact (Below.refl _ wb).alloc (Nat.le_refl _) _
  rw [hwc]
  clear hwc
  have hx := (hx.below hbb).below hbc
  have hy := hy.below hbc
  have hb1 := (hba.trans (hbb.mono hba.size)).trans (hbc.mono (Nat.le_trans hba.size hbb.size))
  clear hba hbb hbc hza hzb
  obtain ⟨x0, x1, x2, x3⟩ := hx
  obtain ⟨y0, y1, y2, y3⟩ := hy
  go_upto_region 4 with (fail)
  obtain ⟨w1, hw1⟩ : ∃ W, wc.alloc (.cells #[.bool true, .slice none 0 0, .slice none 0 0, .slice none 0 0] 73) = W := ⟨_, rfl⟩
  have hz1 : w1.heap.size = w.heap.size + 4 := by rw [← hw1]; simp [hzc]
  have hN : w1.heap[w.heap.size + 3]? = some (.cells #[.bool true, .slice none 0 0, .slice none 0 0, .slice none 0 0] 73 (0, 0)) := by rw [← hw1, show w.heap.size + 3 = wc.heap.size by omega]; exact blk_new _ _
  have hbd : Below wc.heap.size wc w1 := by rw [← hw1]; exact (Below.refl _ wc).alloc (Nat.le_refl _) _
  rw [hw1]
  clear hw1
  have hx : Bx w1 w.heap.size true (.slice e0 en ec) (.slice k0 kn kc) (.slice s0 sn sc) := ⟨bcell hbd x0, bcell hbd x1, bcell hbd x2, bcell hbd x3⟩
  have hy : Bx w1 (w.heap.size + 1) true (.slice f0 fn fc) (.slice j0 jn jc) (.slice t0 tn tc) := ⟨bcell hbd y0, bcell hbd y1, bcell hbd y2, bcell hbd y3⟩
  have hC := blk_below hC hbd
  have hb1 := hb1.trans (hbd.mono hb1.size)
  have HX := Lib.hid hx; have HY := Lib.hid hy
  have HN1 := Lib.hid hN; have HC1 := Lib.hid hC; have HB1 := Lib.hid (Below.refl (w.heap.size + 1 + 1) w1); have HS1 := Lib.hid (Nat.le_of_eq hz1.symm)
  have Oe1 := Lib.hid (World.ownsRow_nil w1 (w.heap.size + 4) 49 2); have Ok1 := Lib.hid (World.ownsRow_nil w1 (w.heap.size + 4) 3 1); have Ot1 := Lib.hid (World.ownsRow_nil w1 (w.heap.size + 4) 9 1)
  clear x0 x1 x2 x3 y0 y1 y2 y3 hbd hx hy hN hC hzc hz1 c1 c2 c3 d1 d2 d3
  obtain ⟨n0, n1, n2, n3⟩ := bx_blk73 HN1.out
  obtain ⟨x0, x1, x2, x3⟩ := Bx.upto HX.out HB1.out (by omega)
  obtain ⟨y0, y1, y2, y3⟩ := Bx.upto HY.out HB1.out (by omega)
  have hbw : Below w.heap.size w w1 := hb1.trans (HB1.out.mono (by omega))
  have hbs : (w.heap.size + 4) ≤ w1.heap.size := HS1.out
  go_wp2_with (at_builtin; go_loud (refine wpList_append_row rfl _ _ 43 rfl (w.heap.size + 4) 49 ie _ 2 32 Try.underlying43 hie ie0 ie1 ie2 rfl (by decide) _ (0) (ecs ([])) rfl Oe1.out (.slice e0 en ec) rfl es.length (ecs es) (HE.out.below hbw) (ecs_one _) (by have hl_ := HESN.out; unfold maxLen; omega) (by have hl_ := HESN.out; omega) (by have hl_ := HESN.out; first | omega | (simp; done) | (simp; omega)) ?_))
  intro v' w2a hown hg
  have hown : w2a.ownsRow (w.heap.size + 4) 49 2 v' en (ecs es) := by
    rw [← HESN.out]
    first | exact hown | (rw [Nat.zero_add] at hown; exact hown)
  obtain ⟨a', c', hv'⟩ := own_slice hown
  subst hv'
  have hN := grown_blk HN1.out Oe1.out hg (by omega)
  have hC := grown_blk HC1.out Oe1.out hg (by omega)
  have hB : Below (w.heap.size + 1 + 1) w1 w2a := HB1.out.grown hg (by omega) (fun g hg2 => by have := (Oe1.out.lt g hg2).1; omega)
  have hSz : (w.heap.size + 4) ≤ w2a.heap.size := Nat.le_trans hbs hg.size
  have Ok := own_apart Ok1.out Oe1.out (by decide) hg
  have Ot := own_apart Ot1.out Oe1.out (by decide) hg
  have cc : w2a.cell? ⟨w.heap.size + 3, 1, none⟩ = some (.slice none 0 0) := by rw [blk_cell hN]; rfl
  have ff := blk_free hN 1
  have HOWN := Lib.hid hown
  clear hown hg n0 n1 n2 n3 x0 x1 x2 x3 y0 y1 y2 y3
  go_upto_region 5 with (fail)
  obtain ⟨w2, hw⟩ : ∃ X, w2a.setCell ⟨w.heap.size + 3, 1, none⟩ (.slice a' (en) c') = X := ⟨_, rfl⟩
  have hon : Only (w.heap.size + 3) w2a w2 := by rw [← hw]; exact Only.set _ _ _
  have hN2 := blk_set hN 1 (.slice a' (en) c')
  rw [hw] at hN2 ⊢
  clear hw cc ff
  have HN2 := Lib.hid hN2
  have HC2 := Lib.hid (hon.blk hC (by omega))
  have HB2 := Lib.hid (hB.trans (hon.to_below (by omega) (by omega)))
  have HS2 := Lib.hid (Nat.le_trans hSz hon.size)
  have Ok2 := Lib.hid (own_only' Ok hon (by omega))
  have Ot2 := Lib.hid (own_only' Ot hon (by omega))
  have Oe2 := Lib.hid (own_only' HOWN.out hon (by omega))
  obtain ⟨ea2, ec2, he2⟩ : ∃ a c, a = a' ∧ c = c' := ⟨_, _, rfl, rfl⟩
  obtain ⟨rfl, rfl⟩ := he2
  clear hN hC hB hN2 hon hSz hbs hbw Ok Ot
  obtain ⟨n0, n1, n2, n3⟩ := bx_blk73 HN2.out
  obtain ⟨x0, x1, x2, x3⟩ := Bx.upto HX.out HB2.out (by omega)
  obtain ⟨y0, y1, y2, y3⟩ := Bx.upto HY.out HB2.out (by omega)
  have hbw : Below w.heap.size w w2 := hb1.trans (HB2.out.mono (by omega))
  have hbs : (w.heap.size + 4) ≤ w2.heap.size := HS2.out
  go_wp2_with (at_builtin; go_loud (refine wpList_append_row rfl _ _ 43 rfl (w.heap.size + 4) 49 ie _ 2 32 Try.underlying43 hie ie0 ie1 ie2 rfl (by decide) _ (en) (ecs (es)) rfl Oe2.out (.slice f0 fn fc) rfl fs.length (ecs fs) (HF.out.below hbw) (ecs_one _) (by have hl_ := HFSN.out; unfold maxLen; omega) (by have hl_ := HFSN.out; omega) (by have hl_ := HFSN.out; first | omega | (simp; done) | (simp; omega)) ?_))
  intro v' w3a hown hg
  have hown : w3a.ownsRow (w.heap.size + 4) 49 2 v' (en + fn) (ecs (es ++ fs)) := by rw [ecs_append, ← HFSN.out]; exact hown
  obtain ⟨a', c', hv'⟩ := own_slice hown
  subst hv'
  have hN := grown_blk HN2.out Oe2.out hg (by omega)
  have hC := grown_blk HC2.out Oe2.out hg (by omega)
  have hB : Below (w.heap.size + 1 + 1) w1 w3a := HB2.out.grown hg (by omega) (fun g hg2 => by have := (Oe2.out.lt g hg2).1; omega)
  have hSz : (w.heap.size + 4) ≤ w3a.heap.size := Nat.le_trans hbs hg.size
  have Ok := own_apart Ok2.out Oe2.out (by decide) hg
  have Ot := own_apart Ot2.out Oe2.out (by decide) hg
  have cc : w3a.cell? ⟨w.heap.size + 3, 1, none⟩ = some (.slice ea2 (en) ec2) := by rw [blk_cell hN]; rfl
  have ff := blk_free hN 1
  have HOWN := Lib.hid hown
  clear hown hg n0 n1 n2 n3 x0 x1 x2 x3 y0 y1 y2 y3
  go_upto_region 6 with (fail)
  obtain ⟨w3, hw⟩ : ∃ X, w3a.setCell ⟨w.heap.size + 3, 1, none⟩ (.slice a' (en + fn) c') = X := ⟨_, rfl⟩
  have hon : Only (w.heap.size + 3) w3a w3 := by rw [← hw]; exact Only.set _ _ _
  have hN2 := blk_set hN 1 (.slice a' (en + fn) c')
  rw [hw] at hN2 ⊢
  clear hw cc ff
  have HN3 := Lib.hid hN2
  have HC3 := Lib.hid (hon.blk hC (by omega))
  have HB3 := Lib.hid (hB.trans (hon.to_below (by omega) (by omega)))
  have HS3 := Lib.hid (Nat.le_trans hSz hon.size)
  have Ok3 := Lib.hid (own_only' Ok hon (by omega))
  have Ot3 := Lib.hid (own_only' Ot hon (by omega))
  have Oe3 := Lib.hid (own_only' HOWN.out hon (by omega))
  obtain ⟨ea3, ec3, he3⟩ : ∃ a c, a = a' ∧ c = c' := ⟨_, _, rfl, rfl⟩
  obtain ⟨rfl, rfl⟩ := he3
  clear hN hC hB hN2 hon hSz hbs hbw Ok Ot
  obtain ⟨n0, n1, n2, n3⟩ := bx_blk73 HN3.out
  obtain ⟨x0, x1, x2, x3⟩ := Bx.upto HX.out HB3.out (by omega)
  obtain ⟨y0, y1, y2, y3⟩ := Bx.upto HY.out HB3.out (by omega)
  have hbw : Below w.heap.size w w3 := hb1.trans (HB3.out.mono (by omega))
  have hbs : (w.heap.size + 4) ≤ w3.heap.size := HS3.out
  go_wp2_with (at_builtin; go_loud (refine wpList_append_row rfl _ _ 67 rfl (w.heap.size + 4) 3 ik _ 1 8 Try.underlying67 hik ik0 ik1 ik2 rfl (by decide) _ (0) (ics ([])) rfl Ok3.out (.slice k0 kn kc) rfl ks.length (ics ks) (HKS.out.below hbw) (ics_one _) (by have hl_ := HKSN.out; unfold maxLen; omega) (by have hl_ := HKSN.out; omega) (by have hl_ := HKSN.out; first | omega | (simp; done) | (simp; omega)) ?_))
  intro v' w4a hown hg
  have hown : w4a.ownsRow (w.heap.size + 4) 3 1 v' kn (ics ks) := by
    rw [← HKSN.out]
    first | exact hown | (rw [Nat.zero_add] at hown; exact hown)
  obtain ⟨a', c', hv'⟩ := own_slice hown
  subst hv'
  have hN := grown_blk HN3.out Ok3.out hg (by omega)
  have hC := grown_blk HC3.out Ok3.out hg (by omega)
  have hB : Below (w.heap.size + 1 + 1) w1 w4a := HB3.out.grown hg (by omega) (fun g hg2 => by have := (Ok3.out.lt g hg2).1; omega)
  have hSz : (w.heap.size + 4) ≤ w4a.heap.size := Nat.le_trans hbs hg.size
  have Oe := own_apart Oe3.out Ok3.out (by decide) hg
  have Ot := own_apart Ot3.out Ok3.out (by decide) hg
  have cc : w4a.cell? ⟨w.heap.size + 3, 2, none⟩ = some (.slice none 0 0) := by rw [blk_cell hN]; rfl
  have ff := blk_free hN 2
  have HOWN := Lib.hid hown
  clear hown hg n0 n1 n2 n3 x0 x1 x2 x3 y0 y1 y2 y3
  go_upto_region 7 with (fail)
  obtain ⟨w4, hw⟩ : ∃ X, w4a.setCell ⟨w.heap.size + 3, 2, none⟩ (.slice a' (kn) c') = X := ⟨_, rfl⟩
  have hon : Only (w.heap.size + 3) w4a w4 := by rw [← hw]; exact Only.set _ _ _
  have hN2 := blk_set hN 2 (.slice a' (kn) c')
  rw [hw] at hN2 ⊢
  clear hw cc ff
  have HN4 := Lib.hid hN2
  have HC4 := Lib.hid (hon.blk hC (by omega))
  have HB4 := Lib.hid (hB.trans (hon.to_below (by omega) (by omega)))
  have HS4 := Lib.hid (Nat.le_trans hSz hon.size)
  have Oe4 := Lib.hid (own_only' Oe hon (by omega))
  have Ot4 := Lib.hid (own_only' Ot hon (by omega))
  have Ok4 := Lib.hid (own_only' HOWN.out hon (by omega))
  obtain ⟨ka4, kc4, he4⟩ : ∃ a c, a = a' ∧ c = c' := ⟨_, _, rfl, rfl⟩
  obtain ⟨rfl, rfl⟩ := he4
  clear hN hC hB hN2 hon hSz hbs hbw Oe Ot
  obtain ⟨n0, n1, n2, n3⟩ := bx_blk73 HN4.out
  obtain ⟨x0, x1, x2, x3⟩ := Bx.upto HX.out HB4.out (by omega)
  obtain ⟨y0, y1, y2, y3⟩ := Bx.upto HY.out HB4.out (by omega)
  have hbw : Below w.heap.size w w4 := hb1.trans (HB4.out.mono (by omega))
  have hbs : (w.heap.size + 4) ≤ w4.heap.size := HS4.out
  go_wp2_with (at_builtin; go_loud (refine wpList_append_row rfl _ _ 67 rfl (w.heap.size + 4) 3 ik _ 1 8 Try.underlying67 hik ik0 ik1 ik2 rfl (by decide) _ (kn) (ics (ks)) rfl Ok4.out (.slice j0 jn jc) rfl js.length (ics js) (HJ.out.below hbw) (ics_one _) (by have hl_ := HJSN.out; unfold maxLen; omega) (by have hl_ := HJSN.out; omega) (by have hl_ := HJSN.out; first | omega | (simp; done) | (simp; omega)) ?_))
  intro v' w5a hown hg
  have hown : w5a.ownsRow (w.heap.size + 4) 3 1 v' (kn + jn) (ics (ks ++ js)) := by rw [ics_append, ← HJSN.out]; exact hown
  obtain ⟨a', c', hv'⟩ := own_slice hown
  subst hv'
  have hN := grown_blk HN4.out Ok4.out hg (by omega)
  have hC := grown_blk HC4.out Ok4.out hg (by omega)
  have hB : Below (w.heap.size + 1 + 1) w1 w5a := HB4.out.grown hg (by omega) (fun g hg2 => by have := (Ok4.out.lt g hg2).1; omega)
  have hSz : (w.heap.size + 4) ≤ w5a.heap.size := Nat.le_trans hbs hg.size
  have Oe := own_apart Oe4.out Ok4.out (by decide) hg
  have Ot := own_apart Ot4.out Ok4.out (by decide) hg
  have cc : w5a.cell? ⟨w.heap.size + 3, 2, none⟩ = some (.slice ka4 (kn) kc4) := by rw [blk_cell hN]; rfl
  have ff := blk_free hN 2
  have HOWN := Lib.hid hown
  clear hown hg n0 n1 n2 n3 x0 x1 x2 x3 y0 y1 y2 y3
  go_upto_region 8 with (fail)
  obtain ⟨w5, hw⟩ : ∃ X, w5a.setCell ⟨w.heap.size + 3, 2, none⟩ (.slice a' (kn + jn) c') = X := ⟨_, rfl⟩
  have hon : Only (w.heap.size + 3) w5a w5 := by rw [← hw]; exact Only.set _ _ _
  have hN2 := blk_set hN 2 (.slice a' (kn + jn) c')
  rw [hw] at hN2 ⊢
  clear hw cc ff
  have HN5 := Lib.hid hN2
  have HC5 := Lib.hid (hon.blk hC (by omega))
  have HB5 := Lib.hid (hB.trans (hon.to_below (by omega) (by omega)))
  have HS5 := Lib.hid (Nat.le_trans hSz hon.size)
  have Oe5 := Lib.hid (own_only' Oe hon (by omega))
  have Ot5 := Lib.hid (own_only' Ot hon (by omega))
  have Ok5 := Lib.hid (own_only' HOWN.out hon (by omega))
  obtain ⟨ka5, kc5, he5⟩ : ∃ a c, a = a' ∧ c = c' := ⟨_, _, rfl, rfl⟩
  obtain ⟨rfl, rfl⟩ := he5
  clear hN hC hB hN2 hon hSz hbs hbw Oe Ot
  obtain ⟨n0, n1, n2, n3⟩ := bx_blk73 HN5.out
  obtain ⟨x0, x1, x2, x3⟩ := Bx.upto HX.out HB5.out (by omega)
  obtain ⟨y0, y1, y2, y3⟩ := Bx.upto HY.out HB5.out (by omega)
  have hbw : Below w.heap.size w w5 := hb1.trans (HB5.out.mono (by omega))
  have hbs : (w.heap.size + 4) ≤ w5.heap.size := HS5.out
  go_wp2_with (at_builtin; go_loud (refine wpList_append_row rfl _ _ 22 rfl (w.heap.size + 4) 9 it _ 1 16 Try.underlying22 hit it0 it1 it2 rfl (by decide) _ (0) (tcs ([])) rfl Ot5.out (.slice s0 sn sc) rfl ss.length (tcs ss) (HS.out.below hbw) (tcs_one _) (by have hl_ := HSSN.out; unfold maxLen; omega) (by have hl_ := HSSN.out; omega) (by have hl_ := HSSN.out; first | omega | (simp; done) | (simp; omega)) ?_))
  intro v' w6a hown hg
  have hown : w6a.ownsRow (w.heap.size + 4) 9 1 v' sn (tcs ss) := by
    rw [← HSSN.out]
    first | exact hown | (rw [Nat.zero_add] at hown; exact hown)
  obtain ⟨a', c', hv'⟩ := own_slice hown
  subst hv'
  have hN := grown_blk HN5.out Ot5.out hg (by omega)
  have hC := grown_blk HC5.out Ot5.out hg (by omega)
  have hB : Below (w.heap.size + 1 + 1) w1 w6a := HB5.out.grown hg (by omega) (fun g hg2 => by have := (Ot5.out.lt g hg2).1; omega)
  have hSz : (w.heap.size + 4) ≤ w6a.heap.size := Nat.le_trans hbs hg.size
  have Oe := own_apart Oe5.out Ot5.out (by decide) hg
  have Ok := own_apart Ok5.out Ot5.out (by decide) hg
  have cc : w6a.cell? ⟨w.heap.size + 3, 3, none⟩ = some (.slice none 0 0) := by rw [blk_cell hN]; rfl
  have ff := blk_free hN 3
  have HOWN := Lib.hid hown
  clear hown hg n0 n1 n2 n3 x0 x1 x2 x3 y0 y1 y2 y3
  go_upto_region 9 with (fail)
  obtain ⟨w6, hw⟩ : ∃ X, w6a.setCell ⟨w.heap.size + 3, 3, none⟩ (.slice a' (sn) c') = X := ⟨_, rfl⟩
  have hon : Only (w.heap.size + 3) w6a w6 := by rw [← hw]; exact Only.set _ _ _
  have hN2 := blk_set hN 3 (.slice a' (sn) c')
  rw [hw] at hN2 ⊢
  clear hw cc ff
  have HN6 := Lib.hid hN2
  have HC6 := Lib.hid (hon.blk hC (by omega))
  have HB6 := Lib.hid (hB.trans (hon.to_below (by omega) (by omega)))
  have HS6 := Lib.hid (Nat.le_trans hSz hon.size)
  have Oe6 := Lib.hid (own_only' Oe hon (by omega))
  have Ok6 := Lib.hid (own_only' Ok hon (by omega))
  have Ot6 := Lib.hid (own_only' HOWN.out hon (by omega))
  obtain ⟨ta6, tc6, he6⟩ : ∃ a c, a = a' ∧ c = c' := ⟨_, _, rfl, rfl⟩
  obtain ⟨rfl, rfl⟩ := he6
  clear hN hC hB hN2 hon hSz hbs hbw Oe Ok
  obtain ⟨x0, x1, x2, x3⟩ := Bx.upto HX.out HB6.out (by omega)
  go_upto_region 11 with (fail)
  clear x0 x1 x2 x3
  obtain ⟨n0, n1, n2, n3⟩ := bx_blk73 HN6.out
  obtain ⟨x0, x1, x2, x3⟩ := Bx.upto HX.out HB6.out (by omega)
  obtain ⟨y0, y1, y2, y3⟩ := Bx.upto HY.out HB6.out (by omega)
  have hbw : Below w.heap.size w w6 := hb1.trans (HB6.out.mono (by omega))
  have hbs : (w.heap.size + 4) ≤ w6.heap.size := HS6.out
  go_wp2_with (at_builtin; go_loud (refine wpList_append_row rfl _ _ 22 rfl (w.heap.size + 4) 9 it _ 1 16 Try.underlying22 hit it0 it1 it2 rfl (by decide) _ (sn) (tcs (ss)) rfl Ot6.out (.slice t0 tn tc) rfl ts.length (tcs ts) (HT.out.below hbw) (tcs_one _) (by have hl_ := HTSN.out; unfold maxLen; omega) (by have hl_ := HTSN.out; omega) (by have hl_ := HTSN.out; first | omega | (simp; done) | (simp; omega)) ?_))
  intro v' w7a hown hg
  have hown : w7a.ownsRow (w.heap.size + 4) 9 1 v' (sn + tn) (tcs (ss ++ ts)) := by rw [tcs_append, ← HTSN.out]; exact hown
  obtain ⟨a', c', hv'⟩ := own_slice hown
  subst hv'
  have hN := grown_blk HN6.out Ot6.out hg (by omega)
  have hC := grown_blk HC6.out Ot6.out hg (by omega)
  have hB : Below (w.heap.size + 1 + 1) w1 w7a := HB6.out.grown hg (by omega) (fun g hg2 => by have := (Ot6.out.lt g hg2).1; omega)
  have hSz : (w.heap.size + 4) ≤ w7a.heap.size := Nat.le_trans hbs hg.size
  have Oe := own_apart Oe6.out Ot6.out (by decide) hg
  have Ok := own_apart Ok6.out Ot6.out (by decide) hg
  have cc : w7a.cell? ⟨w.heap.size + 3, 3, none⟩ = some (.slice ta6 (sn) tc6) := by rw [blk_cell hN]; rfl
  have ff := blk_free hN 3
  have HOWN := Lib.hid hown
  clear hown hg n0 n1 n2 n3 x0 x1 x2 x3 y0 y1 y2 y3
  go_upto_region 12 with (fail)
  obtain ⟨w7, hw⟩ : ∃ X, w7a.setCell ⟨w.heap.size + 3, 3, none⟩ (.slice a' (sn + tn) c') = X := ⟨_, rfl⟩
  have hon : Only (w.heap.size + 3) w7a w7 := by rw [← hw]; exact Only.set _ _ _
  have hN2 := blk_set hN 3 (.slice a' (sn + tn) c')
  rw [hw] at hN2 ⊢
  clear hw cc ff
  have HN7 := Lib.hid hN2
  have HC7 := Lib.hid (hon.blk hC (by omega))
  have HB7 := Lib.hid (hB.trans (hon.to_below (by omega) (by omega)))
  have HS7 := Lib.hid (Nat.le_trans hSz hon.size)
  have Oe7 := Lib.hid (own_only' Oe hon (by omega))
  have Ok7 := Lib.hid (own_only' Ok hon (by omega))
  have Ot7 := Lib.hid (own_only' HOWN.out hon (by omega))
  obtain ⟨ta7, tc7, he7⟩ : ∃ a c, a = a' ∧ c = c' := ⟨_, _, rfl, rfl⟩
  obtain ⟨rfl, rfl⟩ := he7
  clear hN hC hB hN2 hon hSz hbs hbw Oe Ok
  obtain ⟨n0, n1, n2, n3⟩ := bx_blk73 HN7.out
  go_wp2_with (refine wpList_store73 rfl _ _ rfl (w.heap.size + 1 + 1) rfl rfl ⟨_, _, _, _, HC7.out⟩ ?_)
  intro w9 hz9 hon9
  have HZ9 := Lib.hid hz9; have HON := Lib.hid hon9
  clear n0 n1 n2 n3 hz9 hon9
  go_wp2
  have hon := HON.out
  have f1 := own_only' Oe7.out hon (by omega)
  have f2 := own_only' Ok7.out hon (by omega)
  have f3 := own_only' Ot7.out hon (by omega)
  have hb9 : Below w.heap.size w w9 := (hb1.trans (HB7.out.mono (by omega))).trans (hon.to_below (by omega) (by have := HS7.out; omega))
  refine bodyPost_ret (res_one rfl rfl (load73 (bx_blk73 HZ9.out))) rfl ?_
  refine ⟨_, rfl, ?_, hb9⟩
  have l1 : en + fn = (es ++ fs).length := by rw [List.length_append, HESN.out, HFSN.out]
  have l2 : kn + jn = (ks ++ js).length := by rw [List.length_append, HKSN.out, HJSN.out]
  have l3 : sn + tn = (ss ++ ts).length := by simp only [List.length_append, HSSN.out, HTSN.out]
  rw [l1] at f1 ⊢
  rw [l2] at f2 ⊢
  rw [l3] at f3 ⊢
  first
  | exact ⟨_, _, _, _, _, _, rfl, own_mono f1 (by omega), own_mono f2 (by omega), own_mono f3 (by omega)⟩
  | (have hfin : NdO w9 w.heap.size _ ⟨true, es ++ fs, ks ++ js, ss ++ ts⟩ := ⟨_, _, _, _, _, _, rfl, own_mono f1 (by omega), own_mono f2 (by omega), own_mono f3 (by omega)⟩
     simpa using hfin)
set_option maxRecDepth 100000 in
set_option maxHeartbeats 8000000 in
theorem rjoin_false (va vb : Value) (es fs : List Ent) (ks js : List Int) (ss ts : List ByteArray) (key : ByteArray) (w : World) (ha : NdV w va ⟨false, es, ks, ss⟩) (hb : NdV w vb ⟨false, fs, js, ts⟩) (hda : Bd ⟨false, es, ks, ss⟩) (hdb : Bd ⟨false, fs, js, ts⟩) :
    Calls Try.prog 57 #[va, .string key, vb] w fun r w' => ∃ v, r = .returned v ∧ NdO w' w.heap.size v ⟨false, es ++ fs, ks ++ js, ss ++ [key] ++ ts⟩ ∧ Below w.heap.size w w' := by
  obtain ⟨c1, c2, c3, _, _⟩ := hda
  obtain ⟨d1, d2, d3, _, _⟩ := hdb
  obtain ⟨ie, hie, ie0, ie1, ie2⟩ := info_parts E.info49
  obtain ⟨ik, hik, ik0, ik1, ik2⟩ := info_parts info3
  obtain ⟨it, hit, it0, it1, it2⟩ := info_parts info9
  obtain ⟨e0, ec, k0, kc, s0, sc, rfl, he, hk, hs⟩ := ha
  obtain ⟨f0, fc, j0, jc, t0, tc, rfl, hf, hj, ht⟩ := hb
  dsimp only at he hk hs hf hj ht c1 c2 c3 d1 d2 d3 ⊢
  obtain ⟨en, hen⟩ : ∃ x, es.length = x := ⟨_, rfl⟩
  obtain ⟨kn, hkn⟩ : ∃ x, ks.length = x := ⟨_, rfl⟩
  obtain ⟨sn, hsn⟩ : ∃ x, ss.length = x := ⟨_, rfl⟩
  obtain ⟨fn, hfn⟩ : ∃ x, fs.length = x := ⟨_, rfl⟩
  obtain ⟨jn, hjn⟩ : ∃ x, js.length = x := ⟨_, rfl⟩
  obtain ⟨tn, htn⟩ : ∃ x, ts.length = x := ⟨_, rfl⟩
  have e1 : en ≤ 10000 := by rw [← hen]; exact c1
  have e2 : kn ≤ 10000 := by rw [← hkn]; exact c2
  have e3 : sn ≤ 10000 := by rw [← hsn]; exact c3
  have e4 : fn ≤ 10000 := by rw [← hfn]; exact d1
  have e5 : jn ≤ 10000 := by rw [← hjn]; exact d2
  have e6 : tn ≤ 10000 := by rw [← htn]; exact d3
  rw [hen] at he ⊢
  rw [hkn] at hk ⊢
  rw [hsn] at hs ⊢
  rw [hfn] at hf ⊢
  rw [hjn] at hj ⊢
  rw [htn] at ht ⊢
  have HE := Lib.hid he; have HKS := Lib.hid hk; have HS := Lib.hid hs
  have HF := Lib.hid hf; have HJ := Lib.hid hj; have HT := Lib.hid ht
  have HESN := Lib.hid hen; have HKSN := Lib.hid hkn; have HSSN := Lib.hid hsn; have HFSN := Lib.hid hfn; have HJSN := Lib.hid hjn; have HTSN := Lib.hid htn
  clear he hk hs hf hj ht hen hkn hsn hfn hjn htn
  go_enter Try.func57, Try.ntmps57
  go_upto_region 1 with (fail)
  obtain ⟨wa, hwa⟩ : ∃ W, w.alloc (.cells #[.bool false, .slice e0 en ec, .slice k0 kn kc, .slice s0 sn sc] 73) = W := ⟨_, rfl⟩
  have hza : wa.heap.size = w.heap.size + 1 := by rw [← hwa]; simp
  have hx : Bx wa w.heap.size false (.slice e0 en ec) (.slice k0 kn kc) (.slice s0 sn sc) := by rw [← hwa]; exact Bx.new _ _ _ _ _ _
  have hba : Below w.heap.size w wa := by rw [← hwa]; exact (Below.refl _ w).alloc (Nat.le_refl _) _
  rw [hwa]
  clear hwa
  obtain ⟨wb, hwb⟩ : ∃ W, wa.alloc (.cells #[.bool false, .slice f0 fn fc, .slice j0 jn jc, .slice t0 tn tc] 73) = W := ⟨_, rfl⟩
  have hzb : wb.heap.size = w.heap.size + 2 := by rw [← hwb]; simp [hza]
  have hy : Bx wb (w.heap.size + 1) false (.slice f0 fn fc) (.slice j0 jn jc) (.slice t0 tn tc) := by rw [← hwb, ← hza]; exact Bx.new _ _ _ _ _ _
  have hbb : Below wa.heap.size wa wb := by rw [← hwb]; exact (Below.refl _ wa).alloc (Nat.le_refl _) _
  rw [hwb]
  clear hwb
  obtain ⟨wc, hwc⟩ : ∃ W, wb.alloc (.cells #[.bool false, .slice none 0 0, .slice none 0 0, .slice none 0 0] 73) = W := ⟨_, rfl⟩
  have hzc : wc.heap.size = w.heap.size + 3 := by rw [← hwc]; simp [hzb]
  have hC : wc.heap[w.heap.size + 1 + 1]? = some (.cells #[.bool false, .slice none 0 0, .slice none 0 0, .slice none 0 0] 73 (0, 0)) := by rw [← hwc, ← hzb]; exact blk_new _ _
  have hbc : Below wb.heap.size wb wc := by rw [← hwc]; exact (Below.refl _ wb).alloc (Nat.le_refl _) _
  rw [hwc]
  clear hwc
  have hx := (hx.below hbb).below hbc
  have hy := hy.below hbc
  have hb1 := (hba.trans (hbb.mono hba.size)).trans (hbc.mono (Nat.le_trans hba.size hbb.size))
  clear hba hbb hbc hza hzb
  obtain ⟨x0, x1, x2, x3⟩ := hx
  obtain ⟨y0, y1, y2, y3⟩ := hy
  go_upto_region 4 with (fail)
  obtain ⟨w1, hw1⟩ : ∃ W, wc.alloc (.cells #[.bool false, .slice none 0 0, .slice none 0 0, .slice none 0 0] 73) = W := ⟨_, rfl⟩
  have hz1 : w1.heap.size = w.heap.size + 4 := by rw [← hw1]; simp [hzc]
  have hN : w1.heap[w.heap.size + 3]? = some (.cells #[.bool false, .slice none 0 0, .slice none 0 0, .slice none 0 0] 73 (0, 0)) := by rw [← hw1, show w.heap.size + 3 = wc.heap.size by omega]; exact blk_new _ _
  have hbd : Below wc.heap.size wc w1 := by rw [← hw1]; exact (Below.refl _ wc).alloc (Nat.le_refl _) _
  rw [hw1]
  clear hw1
  have hx : Bx w1 w.heap.size false (.slice e0 en ec) (.slice k0 kn kc) (.slice s0 sn sc) := ⟨bcell hbd x0, bcell hbd x1, bcell hbd x2, bcell hbd x3⟩
  have hy : Bx w1 (w.heap.size + 1) false (.slice f0 fn fc) (.slice j0 jn jc) (.slice t0 tn tc) := ⟨bcell hbd y0, bcell hbd y1, bcell hbd y2, bcell hbd y3⟩
  have hC := blk_below hC hbd
  have hb1 := hb1.trans (hbd.mono hb1.size)
  have HX := Lib.hid hx; have HY := Lib.hid hy
  have HN1 := Lib.hid hN; have HC1 := Lib.hid hC; have HB1 := Lib.hid (Below.refl (w.heap.size + 1 + 1) w1); have HS1 := Lib.hid (Nat.le_of_eq hz1.symm)
  have Oe1 := Lib.hid (World.ownsRow_nil w1 (w.heap.size + 4) 49 2); have Ok1 := Lib.hid (World.ownsRow_nil w1 (w.heap.size + 4) 3 1); have Ot1 := Lib.hid (World.ownsRow_nil w1 (w.heap.size + 4) 9 1)
  clear x0 x1 x2 x3 y0 y1 y2 y3 hbd hx hy hN hC hzc hz1 c1 c2 c3 d1 d2 d3
  obtain ⟨n0, n1, n2, n3⟩ := bx_blk73 HN1.out
  obtain ⟨x0, x1, x2, x3⟩ := Bx.upto HX.out HB1.out (by omega)
  obtain ⟨y0, y1, y2, y3⟩ := Bx.upto HY.out HB1.out (by omega)
  have hbw : Below w.heap.size w w1 := hb1.trans (HB1.out.mono (by omega))
  have hbs : (w.heap.size + 4) ≤ w1.heap.size := HS1.out
  go_wp2_with (at_builtin; go_loud (refine wpList_append_row rfl _ _ 43 rfl (w.heap.size + 4) 49 ie _ 2 32 Try.underlying43 hie ie0 ie1 ie2 rfl (by decide) _ (0) (ecs ([])) rfl Oe1.out (.slice e0 en ec) rfl es.length (ecs es) (HE.out.below hbw) (ecs_one _) (by have hl_ := HESN.out; unfold maxLen; omega) (by have hl_ := HESN.out; omega) (by have hl_ := HESN.out; first | omega | (simp; done) | (simp; omega)) ?_))
  intro v' w2a hown hg
  have hown : w2a.ownsRow (w.heap.size + 4) 49 2 v' en (ecs es) := by
    rw [← HESN.out]
    first | exact hown | (rw [Nat.zero_add] at hown; exact hown)
  obtain ⟨a', c', hv'⟩ := own_slice hown
  subst hv'
  have hN := grown_blk HN1.out Oe1.out hg (by omega)
  have hC := grown_blk HC1.out Oe1.out hg (by omega)
  have hB : Below (w.heap.size + 1 + 1) w1 w2a := HB1.out.grown hg (by omega) (fun g hg2 => by have := (Oe1.out.lt g hg2).1; omega)
  have hSz : (w.heap.size + 4) ≤ w2a.heap.size := Nat.le_trans hbs hg.size
  have Ok := own_apart Ok1.out Oe1.out (by decide) hg
  have Ot := own_apart Ot1.out Oe1.out (by decide) hg
  have cc : w2a.cell? ⟨w.heap.size + 3, 1, none⟩ = some (.slice none 0 0) := by rw [blk_cell hN]; rfl
  have ff := blk_free hN 1
  have HOWN := Lib.hid hown
  clear hown hg n0 n1 n2 n3 x0 x1 x2 x3 y0 y1 y2 y3
  go_upto_region 5 with (fail)
  obtain ⟨w2, hw⟩ : ∃ X, w2a.setCell ⟨w.heap.size + 3, 1, none⟩ (.slice a' (en) c') = X := ⟨_, rfl⟩
  have hon : Only (w.heap.size + 3) w2a w2 := by rw [← hw]; exact Only.set _ _ _
  have hN2 := blk_set hN 1 (.slice a' (en) c')
  rw [hw] at hN2 ⊢
  clear hw cc ff
  have HN2 := Lib.hid hN2
  have HC2 := Lib.hid (hon.blk hC (by omega))
  have HB2 := Lib.hid (hB.trans (hon.to_below (by omega) (by omega)))
  have HS2 := Lib.hid (Nat.le_trans hSz hon.size)
  have Ok2 := Lib.hid (own_only' Ok hon (by omega))
  have Ot2 := Lib.hid (own_only' Ot hon (by omega))
  have Oe2 := Lib.hid (own_only' HOWN.out hon (by omega))
  obtain ⟨ea2, ec2, he2⟩ : ∃ a c, a = a' ∧ c = c' := ⟨_, _, rfl, rfl⟩
  obtain ⟨rfl, rfl⟩ := he2
  clear hN hC hB hN2 hon hSz hbs hbw Ok Ot
  obtain ⟨n0, n1, n2, n3⟩ := bx_blk73 HN2.out
  obtain ⟨x0, x1, x2, x3⟩ := Bx.upto HX.out HB2.out (by omega)
  obtain ⟨y0, y1, y2, y3⟩ := Bx.upto HY.out HB2.out (by omega)
  have hbw : Below w.heap.size w w2 := hb1.trans (HB2.out.mono (by omega))
  have hbs : (w.heap.size + 4) ≤ w2.heap.size := HS2.out
  go_wp2_with (at_builtin; go_loud (refine wpList_append_row rfl _ _ 43 rfl (w.heap.size + 4) 49 ie _ 2 32 Try.underlying43 hie ie0 ie1 ie2 rfl (by decide) _ (en) (ecs (es)) rfl Oe2.out (.slice f0 fn fc) rfl fs.length (ecs fs) (HF.out.below hbw) (ecs_one _) (by have hl_ := HFSN.out; unfold maxLen; omega) (by have hl_ := HFSN.out; omega) (by have hl_ := HFSN.out; first | omega | (simp; done) | (simp; omega)) ?_))
  intro v' w3a hown hg
  have hown : w3a.ownsRow (w.heap.size + 4) 49 2 v' (en + fn) (ecs (es ++ fs)) := by rw [ecs_append, ← HFSN.out]; exact hown
  obtain ⟨a', c', hv'⟩ := own_slice hown
  subst hv'
  have hN := grown_blk HN2.out Oe2.out hg (by omega)
  have hC := grown_blk HC2.out Oe2.out hg (by omega)
  have hB : Below (w.heap.size + 1 + 1) w1 w3a := HB2.out.grown hg (by omega) (fun g hg2 => by have := (Oe2.out.lt g hg2).1; omega)
  have hSz : (w.heap.size + 4) ≤ w3a.heap.size := Nat.le_trans hbs hg.size
  have Ok := own_apart Ok2.out Oe2.out (by decide) hg
  have Ot := own_apart Ot2.out Oe2.out (by decide) hg
  have cc : w3a.cell? ⟨w.heap.size + 3, 1, none⟩ = some (.slice ea2 (en) ec2) := by rw [blk_cell hN]; rfl
  have ff := blk_free hN 1
  have HOWN := Lib.hid hown
  clear hown hg n0 n1 n2 n3 x0 x1 x2 x3 y0 y1 y2 y3
  go_upto_region 6 with (fail)
  obtain ⟨w3, hw⟩ : ∃ X, w3a.setCell ⟨w.heap.size + 3, 1, none⟩ (.slice a' (en + fn) c') = X := ⟨_, rfl⟩
  have hon : Only (w.heap.size + 3) w3a w3 := by rw [← hw]; exact Only.set _ _ _
  have hN2 := blk_set hN 1 (.slice a' (en + fn) c')
  rw [hw] at hN2 ⊢
  clear hw cc ff
  have HN3 := Lib.hid hN2
  have HC3 := Lib.hid (hon.blk hC (by omega))
  have HB3 := Lib.hid (hB.trans (hon.to_below (by omega) (by omega)))
  have HS3 := Lib.hid (Nat.le_trans hSz hon.size)
  have Ok3 := Lib.hid (own_only' Ok hon (by omega))
  have Ot3 := Lib.hid (own_only' Ot hon (by omega))
  have Oe3 := Lib.hid (own_only' HOWN.out hon (by omega))
  obtain ⟨ea3, ec3, he3⟩ : ∃ a c, a = a' ∧ c = c' := ⟨_, _, rfl, rfl⟩
  obtain ⟨rfl, rfl⟩ := he3
  clear hN hC hB hN2 hon hSz hbs hbw Ok Ot
  obtain ⟨n0, n1, n2, n3⟩ := bx_blk73 HN3.out
  obtain ⟨x0, x1, x2, x3⟩ := Bx.upto HX.out HB3.out (by omega)
  obtain ⟨y0, y1, y2, y3⟩ := Bx.upto HY.out HB3.out (by omega)
  have hbw : Below w.heap.size w w3 := hb1.trans (HB3.out.mono (by omega))
  have hbs : (w.heap.size + 4) ≤ w3.heap.size := HS3.out
  go_wp2_with (at_builtin; go_loud (refine wpList_append_row rfl _ _ 67 rfl (w.heap.size + 4) 3 ik _ 1 8 Try.underlying67 hik ik0 ik1 ik2 rfl (by decide) _ (0) (ics ([])) rfl Ok3.out (.slice k0 kn kc) rfl ks.length (ics ks) (HKS.out.below hbw) (ics_one _) (by have hl_ := HKSN.out; unfold maxLen; omega) (by have hl_ := HKSN.out; omega) (by have hl_ := HKSN.out; first | omega | (simp; done) | (simp; omega)) ?_))
  intro v' w4a hown hg
  have hown : w4a.ownsRow (w.heap.size + 4) 3 1 v' kn (ics ks) := by
    rw [← HKSN.out]
    first | exact hown | (rw [Nat.zero_add] at hown; exact hown)
  obtain ⟨a', c', hv'⟩ := own_slice hown
  subst hv'
  have hN := grown_blk HN3.out Ok3.out hg (by omega)
  have hC := grown_blk HC3.out Ok3.out hg (by omega)
  have hB : Below (w.heap.size + 1 + 1) w1 w4a := HB3.out.grown hg (by omega) (fun g hg2 => by have := (Ok3.out.lt g hg2).1; omega)
  have hSz : (w.heap.size + 4) ≤ w4a.heap.size := Nat.le_trans hbs hg.size
  have Oe := own_apart Oe3.out Ok3.out (by decide) hg
  have Ot := own_apart Ot3.out Ok3.out (by decide) hg
  have cc : w4a.cell? ⟨w.heap.size + 3, 2, none⟩ = some (.slice none 0 0) := by rw [blk_cell hN]; rfl
  have ff := blk_free hN 2
  have HOWN := Lib.hid hown
  clear hown hg n0 n1 n2 n3 x0 x1 x2 x3 y0 y1 y2 y3
  go_upto_region 7 with (fail)
  obtain ⟨w4, hw⟩ : ∃ X, w4a.setCell ⟨w.heap.size + 3, 2, none⟩ (.slice a' (kn) c') = X := ⟨_, rfl⟩
  have hon : Only (w.heap.size + 3) w4a w4 := by rw [← hw]; exact Only.set _ _ _
  have hN2 := blk_set hN 2 (.slice a' (kn) c')
  rw [hw] at hN2 ⊢
  clear hw cc ff
  have HN4 := Lib.hid hN2
  have HC4 := Lib.hid (hon.blk hC (by omega))
  have HB4 := Lib.hid (hB.trans (hon.to_below (by omega) (by omega)))
  have HS4 := Lib.hid (Nat.le_trans hSz hon.size)
  have Oe4 := Lib.hid (own_only' Oe hon (by omega))
  have Ot4 := Lib.hid (own_only' Ot hon (by omega))
  have Ok4 := Lib.hid (own_only' HOWN.out hon (by omega))
  obtain ⟨ka4, kc4, he4⟩ : ∃ a c, a = a' ∧ c = c' := ⟨_, _, rfl, rfl⟩
  obtain ⟨rfl, rfl⟩ := he4
  clear hN hC hB hN2 hon hSz hbs hbw Oe Ot
  obtain ⟨n0, n1, n2, n3⟩ := bx_blk73 HN4.out
  obtain ⟨x0, x1, x2, x3⟩ := Bx.upto HX.out HB4.out (by omega)
  obtain ⟨y0, y1, y2, y3⟩ := Bx.upto HY.out HB4.out (by omega)
  have hbw : Below w.heap.size w w4 := hb1.trans (HB4.out.mono (by omega))
  have hbs : (w.heap.size + 4) ≤ w4.heap.size := HS4.out
  go_wp2_with (at_builtin; go_loud (refine wpList_append_row rfl _ _ 67 rfl (w.heap.size + 4) 3 ik _ 1 8 Try.underlying67 hik ik0 ik1 ik2 rfl (by decide) _ (kn) (ics (ks)) rfl Ok4.out (.slice j0 jn jc) rfl js.length (ics js) (HJ.out.below hbw) (ics_one _) (by have hl_ := HJSN.out; unfold maxLen; omega) (by have hl_ := HJSN.out; omega) (by have hl_ := HJSN.out; first | omega | (simp; done) | (simp; omega)) ?_))
  intro v' w5a hown hg
  have hown : w5a.ownsRow (w.heap.size + 4) 3 1 v' (kn + jn) (ics (ks ++ js)) := by rw [ics_append, ← HJSN.out]; exact hown
  obtain ⟨a', c', hv'⟩ := own_slice hown
  subst hv'
  have hN := grown_blk HN4.out Ok4.out hg (by omega)
  have hC := grown_blk HC4.out Ok4.out hg (by omega)
  have hB : Below (w.heap.size + 1 + 1) w1 w5a := HB4.out.grown hg (by omega) (fun g hg2 => by have := (Ok4.out.lt g hg2).1; omega)
  have hSz : (w.heap.size + 4) ≤ w5a.heap.size := Nat.le_trans hbs hg.size
  have Oe := own_apart Oe4.out Ok4.out (by decide) hg
  have Ot := own_apart Ot4.out Ok4.out (by decide) hg
  have cc : w5a.cell? ⟨w.heap.size + 3, 2, none⟩ = some (.slice ka4 (kn) kc4) := by rw [blk_cell hN]; rfl
  have ff := blk_free hN 2
  have HOWN := Lib.hid hown
  clear hown hg n0 n1 n2 n3 x0 x1 x2 x3 y0 y1 y2 y3
  go_upto_region 8 with (fail)
  obtain ⟨w5, hw⟩ : ∃ X, w5a.setCell ⟨w.heap.size + 3, 2, none⟩ (.slice a' (kn + jn) c') = X := ⟨_, rfl⟩
  have hon : Only (w.heap.size + 3) w5a w5 := by rw [← hw]; exact Only.set _ _ _
  have hN2 := blk_set hN 2 (.slice a' (kn + jn) c')
  rw [hw] at hN2 ⊢
  clear hw cc ff
  have HN5 := Lib.hid hN2
  have HC5 := Lib.hid (hon.blk hC (by omega))
  have HB5 := Lib.hid (hB.trans (hon.to_below (by omega) (by omega)))
  have HS5 := Lib.hid (Nat.le_trans hSz hon.size)
  have Oe5 := Lib.hid (own_only' Oe hon (by omega))
  have Ot5 := Lib.hid (own_only' Ot hon (by omega))
  have Ok5 := Lib.hid (own_only' HOWN.out hon (by omega))
  obtain ⟨ka5, kc5, he5⟩ : ∃ a c, a = a' ∧ c = c' := ⟨_, _, rfl, rfl⟩
  obtain ⟨rfl, rfl⟩ := he5
  clear hN hC hB hN2 hon hSz hbs hbw Oe Ot
  obtain ⟨n0, n1, n2, n3⟩ := bx_blk73 HN5.out
  obtain ⟨x0, x1, x2, x3⟩ := Bx.upto HX.out HB5.out (by omega)
  obtain ⟨y0, y1, y2, y3⟩ := Bx.upto HY.out HB5.out (by omega)
  have hbw : Below w.heap.size w w5 := hb1.trans (HB5.out.mono (by omega))
  have hbs : (w.heap.size + 4) ≤ w5.heap.size := HS5.out
  go_wp2_with (at_builtin; go_loud (refine wpList_append_row rfl _ _ 22 rfl (w.heap.size + 4) 9 it _ 1 16 Try.underlying22 hit it0 it1 it2 rfl (by decide) _ (0) (tcs ([])) rfl Ot5.out (.slice s0 sn sc) rfl ss.length (tcs ss) (HS.out.below hbw) (tcs_one _) (by have hl_ := HSSN.out; unfold maxLen; omega) (by have hl_ := HSSN.out; omega) (by have hl_ := HSSN.out; first | omega | (simp; done) | (simp; omega)) ?_))
  intro v' w6a hown hg
  have hown : w6a.ownsRow (w.heap.size + 4) 9 1 v' sn (tcs ss) := by
    rw [← HSSN.out]
    first | exact hown | (rw [Nat.zero_add] at hown; exact hown)
  obtain ⟨a', c', hv'⟩ := own_slice hown
  subst hv'
  have hN := grown_blk HN5.out Ot5.out hg (by omega)
  have hC := grown_blk HC5.out Ot5.out hg (by omega)
  have hB : Below (w.heap.size + 1 + 1) w1 w6a := HB5.out.grown hg (by omega) (fun g hg2 => by have := (Ot5.out.lt g hg2).1; omega)
  have hSz : (w.heap.size + 4) ≤ w6a.heap.size := Nat.le_trans hbs hg.size
  have Oe := own_apart Oe5.out Ot5.out (by decide) hg
  have Ok := own_apart Ok5.out Ot5.out (by decide) hg
  have cc : w6a.cell? ⟨w.heap.size + 3, 3, none⟩ = some (.slice none 0 0) := by rw [blk_cell hN]; rfl
  have ff := blk_free hN 3
  have HOWN := Lib.hid hown
  clear hown hg n0 n1 n2 n3 x0 x1 x2 x3 y0 y1 y2 y3
  go_upto_region 9 with (fail)
  obtain ⟨w6, hw⟩ : ∃ X, w6a.setCell ⟨w.heap.size + 3, 3, none⟩ (.slice a' (sn) c') = X := ⟨_, rfl⟩
  have hon : Only (w.heap.size + 3) w6a w6 := by rw [← hw]; exact Only.set _ _ _
  have hN2 := blk_set hN 3 (.slice a' (sn) c')
  rw [hw] at hN2 ⊢
  clear hw cc ff
  have HN6 := Lib.hid hN2
  have HC6 := Lib.hid (hon.blk hC (by omega))
  have HB6 := Lib.hid (hB.trans (hon.to_below (by omega) (by omega)))
  have HS6 := Lib.hid (Nat.le_trans hSz hon.size)
  have Oe6 := Lib.hid (own_only' Oe hon (by omega))
  have Ok6 := Lib.hid (own_only' Ok hon (by omega))
  have Ot6 := Lib.hid (own_only' HOWN.out hon (by omega))
  obtain ⟨ta6, tc6, he6⟩ : ∃ a c, a = a' ∧ c = c' := ⟨_, _, rfl, rfl⟩
  obtain ⟨rfl, rfl⟩ := he6
  clear hN hC hB hN2 hon hSz hbs hbw Oe Ok
  obtain ⟨x0, x1, x2, x3⟩ := Bx.upto HX.out HB6.out (by omega)
  go_upto_region 10 with (fail)
  clear x0 x1 x2 x3
  obtain ⟨n0, n1, n2, n3⟩ := bx_blk73 HN6.out
  obtain ⟨x0, x1, x2, x3⟩ := Bx.upto HX.out HB6.out (by omega)
  obtain ⟨y0, y1, y2, y3⟩ := Bx.upto HY.out HB6.out (by omega)
  have hbw : Below w.heap.size w w6 := hb1.trans (HB6.out.mono (by omega))
  have hbs : (w.heap.size + 4) ≤ w6.heap.size := HS6.out
  go_wp2_with (at_builtin; go_loud (refine wpList_append_row rfl _ _ 22 rfl (w.heap.size + 4) 9 it _ 1 16 Try.underlying22 hit it0 it1 it2 rfl (by decide) _ (sn) (tcs (ss)) rfl (Ot6.out.alloc _) (.slice (some ⟨w6.heap.size, 0, none⟩) 1 1) rfl 1 (tcs [key]) (new_txt w6 key 9) (tcs_one _) (by unfold maxLen; omega) (by omega) (by first | omega | (simp; done) | (simp; omega)) ?_))
  intro v' w7a hown hg
  have hown : w7a.ownsRow (w.heap.size + 4) 9 1 v' (sn + 1) (tcs (ss ++ [key])) := by rw [tcs_append]; exact hown
  obtain ⟨a', c', hv'⟩ := own_slice hown
  subst hv'
  have hal : Below w6.heap.size w6 (w6.alloc (.cells #[.string key] 9)) := (Below.refl _ _).alloc (Nat.le_refl _) _
  have hN := grown_blk (blk_below HN6.out hal) (Ot6.out.alloc (.cells #[.string key] 9)) hg (by omega)
  have hC := grown_blk (blk_below HC6.out hal) (Ot6.out.alloc (.cells #[.string key] 9)) hg (by omega)
  have hB : Below (w.heap.size + 1 + 1) w1 w7a := (HB6.out.alloc (by omega) _).grown hg (by have := hal.size; omega) (fun g hg2 => by have := ((Ot6.out.alloc (.cells #[.string key] 9)).lt g hg2).1; omega)
  have hSz : (w.heap.size + 4) ≤ w7a.heap.size := Nat.le_trans (Nat.le_trans hbs hal.size) hg.size
  have Oe := own_apart (own_below Oe6.out hal) (Ot6.out.alloc (.cells #[.string key] 9)) (by decide) hg
  have Ok := own_apart (own_below Ok6.out hal) (Ot6.out.alloc (.cells #[.string key] 9)) (by decide) hg
  have cc : w7a.cell? ⟨w.heap.size + 3, 3, none⟩ = some (.slice ta6 (sn) tc6) := by rw [blk_cell hN]; rfl
  have ff := blk_free hN 3
  have HOWN := Lib.hid hown
  clear hown hg n0 n1 n2 n3 x0 x1 x2 x3 y0 y1 y2 y3
  go_upto_region 11 with (fail)
  obtain ⟨w7, hw⟩ : ∃ X, w7a.setCell ⟨w.heap.size + 3, 3, none⟩ (.slice a' (sn + 1) c') = X := ⟨_, rfl⟩
  have hon : Only (w.heap.size + 3) w7a w7 := by rw [← hw]; exact Only.set _ _ _
  have hN2 := blk_set hN 3 (.slice a' (sn + 1) c')
  rw [hw] at hN2 ⊢
  clear hw cc ff
  have HN7 := Lib.hid hN2
  have HC7 := Lib.hid (hon.blk hC (by omega))
  have HB7 := Lib.hid (hB.trans (hon.to_below (by omega) (by omega)))
  have HS7 := Lib.hid (Nat.le_trans hSz hon.size)
  have Oe7 := Lib.hid (own_only' Oe hon (by omega))
  have Ok7 := Lib.hid (own_only' Ok hon (by omega))
  have Ot7 := Lib.hid (own_only' HOWN.out hon (by omega))
  obtain ⟨ta7, tc7, he7⟩ : ∃ a c, a = a' ∧ c = c' := ⟨_, _, rfl, rfl⟩
  obtain ⟨rfl, rfl⟩ := he7
  clear hN hC hB hN2 hon hSz hbs hbw Oe Ok
  obtain ⟨n0, n1, n2, n3⟩ := bx_blk73 HN7.out
  obtain ⟨x0, x1, x2, x3⟩ := Bx.upto HX.out HB7.out (by omega)
  obtain ⟨y0, y1, y2, y3⟩ := Bx.upto HY.out HB7.out (by omega)
  have hbw : Below w.heap.size w w7 := hb1.trans (HB7.out.mono (by omega))
  have hbs : (w.heap.size + 4) ≤ w7.heap.size := HS7.out
  go_wp2_with (at_builtin; go_loud (refine wpList_append_row rfl _ _ 22 rfl (w.heap.size + 4) 9 it _ 1 16 Try.underlying22 hit it0 it1 it2 rfl (by decide) _ (sn + 1) (tcs (ss ++ [key])) rfl Ot7.out (.slice t0 tn tc) rfl ts.length (tcs ts) (HT.out.below hbw) (tcs_one _) (by have hl_ := HTSN.out; unfold maxLen; omega) (by have hl_ := HTSN.out; omega) (by have hl_ := HTSN.out; first | omega | (simp; done) | (simp; omega)) ?_))
  intro v' w8a hown hg
  have hown : w8a.ownsRow (w.heap.size + 4) 9 1 v' (sn + 1 + tn) (tcs (ss ++ [key] ++ ts)) := by rw [tcs_append, ← HTSN.out]; exact hown
  obtain ⟨a', c', hv'⟩ := own_slice hown
  subst hv'
  have hN := grown_blk HN7.out Ot7.out hg (by omega)
  have hC := grown_blk HC7.out Ot7.out hg (by omega)
  have hB : Below (w.heap.size + 1 + 1) w1 w8a := HB7.out.grown hg (by omega) (fun g hg2 => by have := (Ot7.out.lt g hg2).1; omega)
  have hSz : (w.heap.size + 4) ≤ w8a.heap.size := Nat.le_trans hbs hg.size
  have Oe := own_apart Oe7.out Ot7.out (by decide) hg
  have Ok := own_apart Ok7.out Ot7.out (by decide) hg
  have cc : w8a.cell? ⟨w.heap.size + 3, 3, none⟩ = some (.slice ta7 (sn + 1) tc7) := by rw [blk_cell hN]; rfl
  have ff := blk_free hN 3
  have HOWN := Lib.hid hown
  clear hown hg n0 n1 n2 n3 x0 x1 x2 x3 y0 y1 y2 y3
  go_upto_region 12 with (fail)
  obtain ⟨w8, hw⟩ : ∃ X, w8a.setCell ⟨w.heap.size + 3, 3, none⟩ (.slice a' (sn + 1 + tn) c') = X := ⟨_, rfl⟩
  have hon : Only (w.heap.size + 3) w8a w8 := by rw [← hw]; exact Only.set _ _ _
  have hN2 := blk_set hN 3 (.slice a' (sn + 1 + tn) c')
  rw [hw] at hN2 ⊢
  clear hw cc ff
  have HN8 := Lib.hid hN2
  have HC8 := Lib.hid (hon.blk hC (by omega))
  have HB8 := Lib.hid (hB.trans (hon.to_below (by omega) (by omega)))
  have HS8 := Lib.hid (Nat.le_trans hSz hon.size)
  have Oe8 := Lib.hid (own_only' Oe hon (by omega))
  have Ok8 := Lib.hid (own_only' Ok hon (by omega))
  have Ot8 := Lib.hid (own_only' HOWN.out hon (by omega))
  obtain ⟨ta8, tc8, he8⟩ : ∃ a c, a = a' ∧ c = c' := ⟨_, _, rfl, rfl⟩
  obtain ⟨rfl, rfl⟩ := he8
  clear hN hC hB hN2 hon hSz hbs hbw Oe Ok
  obtain ⟨n0, n1, n2, n3⟩ := bx_blk73 HN8.out
  go_wp2_with (refine wpList_store73 rfl _ _ rfl (w.heap.size + 1 + 1) rfl rfl ⟨_, _, _, _, HC8.out⟩ ?_)
  intro w9 hz9 hon9
  have HZ9 := Lib.hid hz9; have HON := Lib.hid hon9
  clear n0 n1 n2 n3 hz9 hon9
  go_wp2
  have hon := HON.out
  have f1 := own_only' Oe8.out hon (by omega)
  have f2 := own_only' Ok8.out hon (by omega)
  have f3 := own_only' Ot8.out hon (by omega)
  have hb9 : Below w.heap.size w w9 := (hb1.trans (HB8.out.mono (by omega))).trans (hon.to_below (by omega) (by have := HS8.out; omega))
  refine bodyPost_ret (res_one rfl rfl (load73 (bx_blk73 HZ9.out))) rfl ?_
  refine ⟨_, rfl, ?_, hb9⟩
  have l1 : en + fn = (es ++ fs).length := by rw [List.length_append, HESN.out, HFSN.out]
  have l2 : kn + jn = (ks ++ js).length := by rw [List.length_append, HKSN.out, HJSN.out]
  have l3 : sn + 1 + tn = (ss ++ [key] ++ ts).length := by simp only [List.length_append, List.length_cons, List.length_nil, HSSN.out, HTSN.out]
  rw [l1] at f1 ⊢
  rw [l2] at f2 ⊢
  rw [l3] at f3 ⊢
  first
  | exact ⟨_, _, _, _, _, _, rfl, own_mono f1 (by omega), own_mono f2 (by omega), own_mono f3 (by omega)⟩
  | (have hfin : NdO w9 w.heap.size _ ⟨false, es ++ fs, ks ++ js, ss ++ [key] ++ ts⟩ := ⟨_, _, _, _, _, _, rfl, own_mono f1 (by omega), own_mono f2 (by omega), own_mono f3 (by omega)⟩
     simpa using hfin)
end Go.Proofs.Ytifdglehfhoecaa.N

/-
  The node of a body: an inner node's. Conditions: at most 1000 bytes.
-/
namespace Go.Proofs.Ytifdglehfhoecaa.N
open Go.RowKit B E
theorem lst_self {ops : Array Oper} {md : Region.Mode} {listed : Array Bool} {i : Nat} (h : i ∈ Region.ready md ops listed) : Lst (listed.setIfInBounds i true) i := by
  obtain ⟨_, h2, _⟩ := ready_spec h
  have hs : i < listed.size := by
    refine Classical.byContradiction fun hn => ?_
    rw [Array.getD_eq_getD_getElem?, Array.getElem?_eq_none (by omega)] at h2
    simp at h2
  unfold Lst
  rw [Array.getD_eq_getD_getElem?, Array.getElem?_setIfInBounds_self_of_lt hs]; rfl
theorem grown_blk2 {w w' : World} {base size n g : Nat} {e t : TypeId} {v : Value} {cs : List Value} {c : Array Value} {f : Nat × Nat} (h : w.heap[g]? = some (.cells c t f)) (ho : w.ownsRow base e size v n cs) (hg : w.grownBy w' v.ownBlock) (hne : t ≠ e) : w'.heap[g]? = some (.cells c t f) := by
  rw [hg.block g (lt_of_blk h) fun he => own_kindJ ho h hne he.symm]; exact h
theorem own_other {w w' : World} {base base2 size size2 n m : Nat} {e t : TypeId} {v u : Value} {cs ds : List Value} (h : w.ownsRow base2 t size2 u m ds) (ho : w.ownsRow base e size v n cs) (hg : w.grownBy w' v.ownBlock) (hne : t ≠ e) : w'.ownsRow base2 t size2 u m ds := by
  refine h.kept hg ?_
  rcases hu : u.ownBlock with _ | g
  · exact .inl rfl
  · right
    obtain ⟨c, fz, hb⟩ := Lib.ownsRow_kind h g hu
    exact fun he => own_kindJ ho hb hne he.symm
/-- what holds while an inner node's body is read -/
def RelD (w0 : World) (body : ByteArray) (w : World) : Prop := ∃ (s : ByteArray) (e k00 : Int) (acc : List M.KV) (ka sa : Option Addr) (kn kc sc : Nat),
  C.Rd w (w0.heap.size + 2) s e ∧ w.heap[w0.heap.size + 1]? = some (.cells #[.bool false, .slice none 0 0, .slice ka kn kc, .slice sa acc.length sc] 69 (0, 0)) ∧
  w.heap[w0.heap.size]? = some (.cells #[.bool false, .slice none 0 0, .slice none 0 0, .slice none 0 0] 69 (0, 0)) ∧ kn = acc.length + 1 ∧
  w.ownsRow (w0.heap.size + 3) 3 1 (.slice ka kn kc) kn (ics (k00 :: acc.map (·.2))) ∧ w.ownsRow (w0.heap.size + 3) 9 1 (.slice sa acc.length sc) acc.length (tcs (acc.map (·.1))) ∧
  RsN (bts body) (bts s) e k00 acc ∧ acc.length ≤ body.size ∧ Below w0.heap.size w0 w ∧ w0.heap.size + 3 ≤ w.heap.size
theorem mkI_v {w : World} {ka sa : Option Addr} {kn kc sn sc : Nat} {k0 : Int} {acc : List M.KV} (h1 : kn = acc.length + 1) (h2 : sn = acc.length) (h3 : Rw w (.slice ka kn kc) 1 (ics (k0 :: acc.map (·.2))) kn) (h4 : Rw w (.slice sa sn sc) 1 (tcs (acc.map (·.1))) sn) :
    NdV w (.agg #[.bool false, .slice none 0 0, .slice ka kn kc, .slice sa sn sc]) (M.mkI k0 acc) := by
  subst h1 h2
  have e1 : (M.mkI k0 acc).ks.length = acc.length + 1 := by simp [M.mkI]
  have e2 : (M.mkI k0 acc).ss.length = acc.length := by simp [M.mkI]
  refine ⟨none, 0, ka, kc, sa, sc, by rw [e1, e2]; rfl, Rw.nil _ 2, ?_, ?_⟩
  · show Rw w (.slice ka (M.mkI k0 acc).ks.length kc) 1 (ics (M.mkI k0 acc).ks) (M.mkI k0 acc).ks.length
    rw [e1]; exact h3
  · show Rw w (.slice sa (M.mkI k0 acc).ss.length sc) 1 (tcs (M.mkI k0 acc).ss) (M.mkI k0 acc).ss.length
    rw [e2]; exact h4
theorem dec_bd {body : ByteArray} {k0 : Int} {acc : List M.KV} (h : M.DecP (bts body) k0 acc) (hbs : body.size ≤ 1000) : Bd (M.mkI k0 acc) := by
  have e := congrArg List.length h.2.2
  rw [bts_len, List.length_append, M.p4_len, M.encP_len] at e
  have hl : acc.length ≤ M.szs (acc.map (·.1)) := by
    clear e h
    induction acc with
    | nil => simp
    | cons p l ih => simp only [List.map_cons, M.szs, List.sum_cons, List.length_cons] at ih ⊢; omega
  exact ⟨by show 0 ≤ 10000; omega, by show (k0 :: acc.map (·.2)).length ≤ 10000; rw [List.length_cons, List.length_map]; omega, by show (acc.map (·.1)).length ≤ 10000; rw [List.length_map]; omega, by simp [M.mkI, M.sz], by show M.szs (acc.map (·.1)) ≤ _; omega⟩
theorem box_not_ics {a : Bool} {u1 u2 u3 c1 c2 c3 : Nat} {p1 p2 p3 : Option Addr} (l : List Int) : ∀ x, x ∈ #[Value.bool a, .slice p1 u1 c1, .slice p2 u2 c2, .slice p3 u3 c3] → x ∉ ics l := by
  intro x hx hm
  simp only [ics, List.mem_map] at hm
  obtain ⟨e, _, rfl⟩ := hm
  simp at hx
theorem box_not_tcs {a : Bool} {u1 u2 u3 c1 c2 c3 : Nat} {p1 p2 p3 : Option Addr} (l : List ByteArray) : ∀ x, x ∈ #[Value.bool a, .slice p1 u1 c1, .slice p2 u2 c2, .slice p3 u3 c3] → x ∉ tcs l := by
  intro x hx hm
  simp only [tcs, List.mem_map] at hm
  obtain ⟨e, _, rfl⟩ := hm
  simp at hx
def msr (w : World) (g : Nat) : Nat := match w.cell? ⟨g, 3, none⟩ with
  | some v => lenV v
  | none => 0
theorem msr_eq {w : World} {g n sc : Nat} {a : Bool} {x y : Value} {sa : Option Addr} {t : TypeId} {f : Nat × Nat} (h : w.heap[g]? = some (.cells #[.bool a, x, y, .slice sa n sc] t f)) : msr w g = n := by
  unfold msr
  rw [blk_cell h]; rfl
set_option maxRecDepth 100000 in
set_option maxHeartbeats 4000000 in
theorem ndecode_inner (body : ByteArray) (w : World) (hbs : body.size ≤ 1000) : Calls Try.prog 67 #[.int .u8 2, .string body] w (NDc 2 (bts body) w) := by
  obtain ⟨i3, hi3, hz30, hz31, hz32⟩ := info_parts info3
  obtain ⟨i9, hi9, hz90, hz91, hz92⟩ := info_parts info9
  have HI3 := Lib.hid hi3; have HI9 := Lib.hid hi9
  go_enter Try.func67, Try.ntmps67
  go_upto_region 3 with (fail)
  obtain ⟨wa, hwa⟩ : ∃ W, w.alloc (.cells #[.bool false, .slice none 0 0, .slice none 0 0, .slice none 0 0] 69) = W := ⟨_, rfl⟩
  have hza : wa.heap.size = w.heap.size + 1 := by rw [← hwa]; simp
  have hA : wa.heap[w.heap.size]? = some (.cells #[.bool false, .slice none 0 0, .slice none 0 0, .slice none 0 0] 69 (0, 0)) := by rw [← hwa]; exact blk_new _ _
  have hba : Below w.heap.size w wa := by rw [← hwa]; exact (Below.refl _ w).alloc (Nat.le_refl _) _
  rw [hwa]
  clear hwa
  obtain ⟨w1, hw1⟩ : ∃ W, wa.alloc (.cells #[.bool false, .slice none 0 0, .slice none 0 0, .slice none 0 0] 69) = W := ⟨_, rfl⟩
  have hz1 : w1.heap.size = w.heap.size + 2 := by rw [← hw1]; simp [hza]
  have hB : w1.heap[w.heap.size + 1]? = some (.cells #[.bool false, .slice none 0 0, .slice none 0 0, .slice none 0 0] 69 (0, 0)) := by rw [← hw1, ← hza]; exact blk_new _ _
  have hbb : Below wa.heap.size wa w1 := by rw [← hw1]; exact (Below.refl _ wa).alloc (Nat.le_refl _) _
  rw [hw1]
  clear hw1
  have hA := blk_below hA hbb
  have hb1 := hba.trans (hbb.mono hba.size)
  clear hba hbb hza
  go_wp2_with fail
  refine (C.read_any body _).mono ?_
  rintro r w2 ⟨rfl, hr, hb2⟩
  have hz2 : w.heap.size + 3 ≤ w2.heap.size := by have := hr.lt; omega
  rw [hz1] at hr ⊢
  have hA := blk_below hA hb2; have hB := blk_below hB hb2
  have hb2 := hb1.trans (hb2.mono hb1.size)
  have HS := Lib.hid (rsn_start body)
  have hi := fun W h => C.int_any (w.heap.size + 2) body 0 4 W h
  obtain ⟨k00, hk00⟩ : ∃ x : Int, ((C.intO body 0 4 : Nat) : Int) = x := ⟨_, rfl⟩
  rw [hk00] at HS hi
  obtain ⟨s1, hs1⟩ : ∃ x, C.intS body 0 4 = x := ⟨_, rfl⟩
  obtain ⟨e1, he1⟩ : ∃ x, C.intE body 0 4 = x := ⟨_, rfl⟩
  rw [hs1, he1] at HS hi
  have HI := Lib.hid hi
  clear hi hk00 hs1 he1 hz1 hb1
  go_wp2_with fail
  refine (HI.out _ hr).mono ?_
  rintro r w3 ⟨rfl, hr, hon⟩
  have hA := hon.blk hA (by omega); have hB := hon.blk hB (by omega)
  have hz3 : w.heap.size + 3 ≤ w3.heap.size := Nat.le_trans hz2 hon.size
  have hb3 := hb2.trans (hon.to_below (by omega) hb2.size)
  clear hon hb2 hz2 HI
  have c1 : w3.cell? ⟨w.heap.size + 1, 2, none⟩ = some (.slice none 0 0) := by rw [blk_cell hB]; rfl
  have f1 := blk_free hB 2
  have hlt1 : w.heap.size + 1 < w3.heap.size := by omega
  go_upto_region 10 with (fail)
  obtain ⟨w4, hw4⟩ : ∃ X, ((w3.setCell ⟨w.heap.size + 1, 2, none⟩ (.slice (some ⟨w3.heap.size, 0, none⟩) 1 1)).alloc (.cells #[.int .i64 k00] 3)) = X := ⟨_, rfl⟩
  have hon4 : Only (w.heap.size + 1) w3 (w3.setCell ⟨w.heap.size + 1, 2, none⟩ (.slice (some ⟨w3.heap.size, 0, none⟩) 1 1)) := Only.set _ _ _
  have hs4 : (w3.setCell ⟨w.heap.size + 1, 2, none⟩ (.slice (some ⟨w3.heap.size, 0, none⟩) 1 1)).heap.size = w3.heap.size := by simp
  have hal : Below (w3.setCell ⟨w.heap.size + 1, 2, none⟩ (.slice (some ⟨w3.heap.size, 0, none⟩) 1 1)).heap.size (w3.setCell ⟨w.heap.size + 1, 2, none⟩ (.slice (some ⟨w3.heap.size, 0, none⟩) 1 1)) w4 := by rw [← hw4]; exact (Below.refl _ _).alloc (Nat.le_refl _) _
  have hB4 := blk_below (blk_set hB 2 (.slice (some ⟨w3.heap.size, 0, none⟩) 1 1)) hal
  have hA4 := blk_below (hon4.blk hA (by omega)) hal
  have hr4 := (hr.only hon4 (by omega)).below hal
  have hrow : w4.ownsRow (w.heap.size + 3) 3 1 (.slice (some ⟨w3.heap.size, 0, none⟩) 1 1) 1 (ics [k00]) := by
    rw [← hw4]
    have := World.ownsRow_lit (e := 3) (base := w.heap.size + 3) (size := 1) (w3.setCell ⟨w.heap.size + 1, 2, none⟩ (.slice (some ⟨w3.heap.size, 0, none⟩) 1 1)) #[.int .i64 k00] 1 (by rw [hs4]; exact hz3) (by unfold maxLen; omega) rfl
    rw [hs4] at this
    exact this
  have hb4 : Below w.heap.size w w4 := (hb3.trans (hon4.to_below (by omega) hb3.size)).trans (hal.mono (by rw [hs4]; exact hb3.size))
  have hz4 : w.heap.size + 3 ≤ w4.heap.size := Nat.le_trans hz3 (by rw [← hs4]; exact hal.size)
  have HREL := Lib.hid (show RelD w body w4 from ⟨s1, e1, k00, [], some ⟨w3.heap.size, 0, none⟩, none, 1, 1, 0, hr4, hB4, hA4, rfl, hrow, World.ownsRow_nil _ _ _ _, HS.out, Nat.zero_le _, hb4, hz4⟩)
  rw [hw4]
  generalize Value.slice (some ⟨w3.heap.size, 0, none⟩) 1 1 = x25
  clear hw4 hon4 hs4 hal hB4 hA4 hr4 hrow hb4 hz4 hlt1 c1 f1 hA hB hr hb3 hz3 HS
  go_loopw [] (fun wr => RelD w body wr) (fun wr => body.size - msr wr (w.heap.size + 1))
  case atStart => exact HREL.out
  case round =>
    obtain ⟨s, e, k0, acc, ka, sa, kn, kc, sc, hr, hB, hA, hkn, hk, hs, hrs, hal, hbw, hsz⟩ := hrel
    have HR := Lib.hid hr; have HB := Lib.hid hB; have HA := Lib.hid hA; have HKN := Lib.hid hkn; have HK := Lib.hid hk; have HSR := Lib.hid hs; have HRS := Lib.hid hrs
    clear hr hB hA hkn hk hs hrs
    by_cases hgo : 0 < s.size ∧ e = 0
    · obtain ⟨h0, rfl⟩ := hgo
      obtain ⟨hnx, hacc⟩ := rsn_next HRS.out h0
      have ht1 := fun W h => C.text_any (w.heap.size + 2) s 0 W h
      obtain ⟨s1, hs1⟩ : ∃ x, C.textS s 0 = x := ⟨_, rfl⟩
      obtain ⟨e1, he1⟩ : ∃ x, C.textE s 0 = x := ⟨_, rfl⟩
      obtain ⟨k, hk⟩ : ∃ x, C.textO s 0 = x := ⟨_, rfl⟩
      rw [hs1, he1, hk] at hnx ht1
      have ht2 := fun W h => C.int_any (w.heap.size + 2) s1 e1 4 W h
      obtain ⟨s2, hs2⟩ : ∃ x, C.intS s1 e1 4 = x := ⟨_, rfl⟩
      obtain ⟨e2, he2⟩ : ∃ x, C.intE s1 e1 4 = x := ⟨_, rfl⟩
      obtain ⟨v, hv⟩ : ∃ x : Int, ((C.intO s1 e1 4 : Nat) : Int) = x := ⟨_, rfl⟩
      rw [hs2, he2, hv] at hnx ht2
      have HNX := Lib.hid hnx; have HT1 := Lib.hid ht1; have HT2 := Lib.hid ht2
      have HM := Lib.hid (msr_eq HB.out)
      clear hnx ht1 ht2 hs1 he1 hk hs2 he2 hv
      obtain ⟨sn, hsn⟩ : ∃ x, acc.length = x := ⟨_, rfl⟩
      rw [hsn] at HB HSR HM hacc hal
      rw [hsn] at HKN
      have HSN := Lib.hid hsn
      clear hsn
      have hs0 : (0 : Int) < (s.size : Int) := by omega
      go_wp2_with fail
      refine (C.left_any _ s 0 _ HR.out).mono ?_
      rintro r w2 ⟨rfl, hw⟩
      subst hw
      go_wp2_with fail
      refine (C.err_any _ s 0 _ HR.out).mono ?_
      rintro r w2 ⟨rfl, hw⟩
      subst hw
      clear hs0
      have c3 : wr.cell? ⟨w.heap.size + 1, 3, none⟩ = some (.slice sa sn sc) := by rw [blk_cell HB.out]; rfl
      go_upto_region 11 with (fail)
      refine wp_region_any (by kernel_rfl) ?_
      refine wpAny_upto_f 7 (fun f L a W => ∃ v35 v36 v37 v38 v39 v40 v41 : Value, a = { tmps := #[.int .u8 2, .string body, undef, undef, .pointer (some ⟨w.heap.size, 0, none⟩), .int .i64 0, .pointer (some ⟨w.heap.size + 1, 0, none⟩), .int .i64 3, .pointer (some ⟨w.heap.size + 2, 0, none⟩), .int .u8 2, .bool false, .bool false, undef, undef, undef, undef, undef, undef, undef, .bool true, .bool true, .string body, .pointer (some ⟨w.heap.size + 2, 0, none⟩), .pointer (some ⟨w.heap.size + 2, 0, none⟩), .int .i64 k00, x25, .pointer (some ⟨w.heap.size + 1, 2, none⟩), f 27, f 28, f 29, f 30, f 31, f 32, f 33, f 34, v35, v36, v37, v38, v39, v40, v41, f 42, f 43, f 44, f 45, f 46, f 47, f 48, undef, undef, undef, undef, undef, undef, undef, undef, undef, undef, undef], defers := [] } ∧ Below w.heap.size w W ∧ w.heap.size + 3 ≤ (World.heap W).size ∧ (World.heap W)[w.heap.size + 1]? = some (.cells #[.bool false, .slice none 0 0, .slice ka kn kc, .slice sa sn sc] 69 (0, 0)) ∧ (World.heap W)[w.heap.size]? = some (.cells #[.bool false, .slice none 0 0, .slice none 0 0, .slice none 0 0] 69 (0, 0)) ∧ World.ownsRow W (w.heap.size + 3) 3 1 (.slice ka kn kc) kn (ics (k0 :: acc.map (·.2))) ∧ (¬ Lst L 3 → C.Rd W (w.heap.size + 2) s 0) ∧ (Lst L 3 → C.Rd W (w.heap.size + 2) s1 e1 ∧ v38 = .string k) ∧ (¬ Lst L 5 → World.ownsRow W (w.heap.size + 3) 9 1 (.slice sa sn sc) sn (tcs (acc.map (·.1)))) ∧ (Lst L 5 → Lst L 4 ∧ ∃ (aa : Option Addr) (cc : Nat), v40 = .slice aa (sn + 1) cc ∧ World.ownsRow W (w.heap.size + 3) 9 1 (.slice aa (sn + 1) cc) (sn + 1) (tcs (acc.map (·.1)) ++ tcs [k])) ∧ (Lst L 4 → Lst L 3 ∧ (¬ Lst L 5 → ∃ g : Nat, v39 = .slice (some ⟨g, 0, none⟩) 1 1 ∧ Txts W v39 [k])) ∧ (Lst L 0 → v35 = .pointer (some ⟨w.heap.size + 1, 3, none⟩)) ∧ (Lst L 1 → v36 = .slice sa sn sc) ∧ (Lst L 2 → v37 = .pointer (some ⟨w.heap.size + 2, 0, none⟩)) ∧ (Lst L 6 → v41 = .pointer (some ⟨w.heap.size + 1, 3, none⟩))) (by decide) (by kernel_rfl) (by kernel_rfl) ?step ?fin _ _ _ _ ?ini (by simp) (fun k _ => lst_none) (by simp)
      case ini => exact ⟨_, _, _, _, _, _, _, rfl, hbw.drew, hsz, HB.out, HA.out, HK.out, fun _ => HR.out, fun h => absurd h lst_none, fun _ => HSR.out, fun h => absurd h lst_none, fun h => absurd h lst_none, fun h => absurd h lst_none, fun h => absurd h lst_none, fun h => absurd h lst_none, fun h => absurd h lst_none⟩
      case step =>
        intro f L a W hI i him hi
        obtain ⟨v35, v36, v37, v38, v39, v40, v41, rfl, hb, hz, hB, hA, ho, hf⟩ := hI
        have F := Lib.hid hf
        have HI := Lib.hid hi
        have HBL := Lib.hid hB
        have HAL := Lib.hid hA
        have HOT := Lib.hid ho
        clear hf hB hA ho
        rcases (show i = 0 ∨ i = 1 ∨ i = 2 ∨ i = 3 ∨ i = 4 ∨ i = 5 ∨ i = 6 by omega) with rfl | rfl | rfl | rfl | rfl | rfl | rfl
        · clear him hi
          refine wpOp_step (o := _) rfl (fun K' hK => ?_)
          have HK := Lib.hid hK
          clear hK
          go_simp
          refine HK.out _ _ ⟨_, _, _, _, _, _, _, rfl, hb, hz, HBL.out, HAL.out, HOT.out, fun h => F.out.1 (fun h2 => h (lst_keep h2)), fun h => F.out.2.1 (lst_old (by decide) h), fun h => F.out.2.2.1 (fun h2 => h (lst_keep h2)), fun h => ⟨lst_keep (F.out.2.2.2.1 (lst_old (by decide) h)).1, (F.out.2.2.2.1 (lst_old (by decide) h)).2⟩, fun h => ⟨lst_keep (F.out.2.2.2.2.1 (lst_old (by decide) h)).1, fun h2 => (F.out.2.2.2.2.1 (lst_old (by decide) h)).2 (fun h3 => h2 (lst_keep h3))⟩, fun _ => rfl, fun h => F.out.2.2.2.2.2.2.1 (lst_old (by decide) h), fun h => F.out.2.2.2.2.2.2.2.1 (lst_old (by decide) h), fun h => F.out.2.2.2.2.2.2.2.2 (lst_old (by decide) h)⟩
        · clear him hi
          have p0 := F.out.2.2.2.2.2.1 (ready_needs (k := 0) HI.out (by kernel_rfl))
          subst p0
          have cc : W.cell? ⟨w.heap.size + 1, 3, none⟩ = some (.slice sa sn sc) := by rw [blk_cell HBL.out]; rfl
          refine wpOp_step (o := _) rfl (fun K' hK => ?_)
          have HK := Lib.hid hK
          clear hK
          go_simp
          refine HK.out _ _ ⟨_, _, _, _, _, _, _, rfl, hb, hz, HBL.out, HAL.out, HOT.out, fun h => F.out.1 (fun h2 => h (lst_keep h2)), fun h => F.out.2.1 (lst_old (by decide) h), fun h => F.out.2.2.1 (fun h2 => h (lst_keep h2)), fun h => ⟨lst_keep (F.out.2.2.2.1 (lst_old (by decide) h)).1, (F.out.2.2.2.1 (lst_old (by decide) h)).2⟩, fun h => ⟨lst_keep (F.out.2.2.2.2.1 (lst_old (by decide) h)).1, fun h2 => (F.out.2.2.2.2.1 (lst_old (by decide) h)).2 (fun h3 => h2 (lst_keep h3))⟩, fun h => F.out.2.2.2.2.2.1 (lst_old (by decide) h), fun _ => rfl, fun h => F.out.2.2.2.2.2.2.2.1 (lst_old (by decide) h), fun h => F.out.2.2.2.2.2.2.2.2 (lst_old (by decide) h)⟩
        · clear him hi
          refine wpOp_step (o := _) rfl (fun K' hK => ?_)
          have HK := Lib.hid hK
          clear hK
          go_simp
          refine HK.out _ _ ⟨_, _, _, _, _, _, _, rfl, hb, hz, HBL.out, HAL.out, HOT.out, fun h => F.out.1 (fun h2 => h (lst_keep h2)), fun h => F.out.2.1 (lst_old (by decide) h), fun h => F.out.2.2.1 (fun h2 => h (lst_keep h2)), fun h => ⟨lst_keep (F.out.2.2.2.1 (lst_old (by decide) h)).1, (F.out.2.2.2.1 (lst_old (by decide) h)).2⟩, fun h => ⟨lst_keep (F.out.2.2.2.2.1 (lst_old (by decide) h)).1, fun h2 => (F.out.2.2.2.2.1 (lst_old (by decide) h)).2 (fun h3 => h2 (lst_keep h3))⟩, fun h => F.out.2.2.2.2.2.1 (lst_old (by decide) h), fun h => F.out.2.2.2.2.2.2.1 (lst_old (by decide) h), fun _ => rfl, fun h => F.out.2.2.2.2.2.2.2.2 (lst_old (by decide) h)⟩
        · clear him hi
          have p2 := F.out.2.2.2.2.2.2.2.1 (ready_needs (k := 2) HI.out (by kernel_rfl))
          subst p2
          refine wpOp_step (o := _) rfl (fun K' hK => ?_)
          have HK := Lib.hid hK
          clear hK
          go_simp
          refine (HT1.out _ (F.out.1 (ready_not HI.out))).mono ?_
          rintro r W2 ⟨rfl, hr2, ho2⟩
          refine HK.out _ _ ⟨_, _, _, _, _, _, _, rfl, (hb.trans (ho2.to_below (by omega) hb.size)), (Nat.le_trans hz ho2.size), (ho2.blk HBL.out (by omega)), (ho2.blk HAL.out (by omega)), (own_only' HOT.out ho2 (by omega)), fun h => absurd (lst_self HI.out) h, fun _ => ⟨hr2, rfl⟩, fun h => own_only' (F.out.2.2.1 (fun h2 => h (lst_keep h2))) ho2 (by omega), fun h => absurd ((F.out.2.2.2.2.1 ((F.out.2.2.2.1 (lst_old (by decide) h)).1)).1) (ready_not HI.out), fun h => absurd ((F.out.2.2.2.2.1 (lst_old (by decide) h)).1) (ready_not HI.out), fun h => F.out.2.2.2.2.2.1 (lst_old (by decide) h), fun h => F.out.2.2.2.2.2.2.1 (lst_old (by decide) h), fun h => F.out.2.2.2.2.2.2.2.1 (lst_old (by decide) h), fun h => F.out.2.2.2.2.2.2.2.2 (lst_old (by decide) h)⟩
        · clear him hi
          have p3 := (F.out.2.1 (ready_needs (k := 3) HI.out (by kernel_rfl))).2
          subst p3
          refine wpOp_step (o := _) rfl (fun K' hK => ?_)
          have HK := Lib.hid hK
          clear hK
          go_simp
          refine HK.out _ _ ⟨_, _, _, _, _, _, _, rfl, (hb.alloc hb.size _), (by have := hz; simp; omega), (blk_below HBL.out ((Below.refl _ _).alloc (Nat.le_refl _) _)), (blk_below HAL.out ((Below.refl _ _).alloc (Nat.le_refl _) _)), (HOT.out.alloc _), fun h => absurd (lst_keep (ready_needs (k := 3) HI.out (by kernel_rfl))) h, fun h => ⟨(F.out.2.1 (lst_old (by decide) h)).1.below ((Below.refl _ _).alloc (Nat.le_refl _) _), (F.out.2.1 (lst_old (by decide) h)).2⟩, fun h => (F.out.2.2.1 (fun h2 => h (lst_keep h2))).alloc _, fun h => absurd ((F.out.2.2.2.1 (lst_old (by decide) h)).1) (ready_not HI.out), fun _ => ⟨lst_keep (ready_needs (k := 3) HI.out (by kernel_rfl)), fun _ => ⟨_, rfl, new_txt W k 9⟩⟩, fun h => F.out.2.2.2.2.2.1 (lst_old (by decide) h), fun h => F.out.2.2.2.2.2.2.1 (lst_old (by decide) h), fun h => F.out.2.2.2.2.2.2.2.1 (lst_old (by decide) h), fun h => F.out.2.2.2.2.2.2.2.2 (lst_old (by decide) h)⟩
        · clear him hi
          have p1 := F.out.2.2.2.2.2.2.1 (ready_needs (k := 1) HI.out (by kernel_rfl))
          subst p1
          obtain ⟨gg, p4, hone⟩ := (F.out.2.2.2.2.1 (ready_needs (k := 4) HI.out (by kernel_rfl))).2 (ready_not HI.out)
          subst p4
          have HONE := Lib.hid hone
          clear hone
          refine wpOp_step (o := _) rfl (fun K' hK => ?_)
          have HK := Lib.hid hK
          clear hK
          have HOW := Lib.hid (F.out.2.2.1 (ready_not HI.out))
          refine step_append_row rfl _ _ 22 rfl (w.heap.size + 3) 9 i9 _ 1 16 Try.underlying22 HI9.out hz90 hz91 hz92 rfl (by decide) (.slice sa sn sc) sn (tcs (acc.map (·.1))) rfl HOW.out (.slice (some ⟨gg, 0, none⟩) 1 1) rfl 1 (tcs [k]) HONE.out (tcs_one _) (by unfold maxLen; omega) (by omega) hz ?_
          intro v3 W2 hown3 hg3
          obtain ⟨sa3, sc3, rfl⟩ := own_slice hown3
          refine HK.out _ _ ⟨_, _, _, _, _, _, _, rfl, (hb.grown hg3 hb.size (fun g hg => by have := (HOW.out.lt g hg).1; omega)), (Nat.le_trans hz hg3.size), (grown_blk2 HBL.out HOW.out hg3 (by decide)), (grown_blk2 HAL.out HOW.out hg3 (by decide)), (own_other HOT.out HOW.out hg3 (by decide)), fun h => absurd (lst_keep ((F.out.2.2.2.2.1 (ready_needs (k := 4) HI.out (by kernel_rfl))).1)) h, fun h => ⟨rd_grown (F.out.2.1 (lst_old (by decide) h)).1 HOW.out hg3 (by omega), (F.out.2.1 (lst_old (by decide) h)).2⟩, fun h => absurd (lst_self HI.out) h, fun _ => ⟨lst_keep (ready_needs (k := 4) HI.out (by kernel_rfl)), _, _, rfl, hown3⟩, fun h => ⟨lst_keep (F.out.2.2.2.2.1 (lst_old (by decide) h)).1, fun h2 => absurd (lst_self HI.out) h2⟩, fun h => F.out.2.2.2.2.2.1 (lst_old (by decide) h), fun h => F.out.2.2.2.2.2.2.1 (lst_old (by decide) h), fun h => F.out.2.2.2.2.2.2.2.1 (lst_old (by decide) h), fun h => F.out.2.2.2.2.2.2.2.2 (lst_old (by decide) h)⟩
        · clear him hi
          refine wpOp_step (o := _) rfl (fun K' hK => ?_)
          have HK := Lib.hid hK
          clear hK
          go_simp
          refine HK.out _ _ ⟨_, _, _, _, _, _, _, rfl, hb, hz, HBL.out, HAL.out, HOT.out, fun h => F.out.1 (fun h2 => h (lst_keep h2)), fun h => F.out.2.1 (lst_old (by decide) h), fun h => F.out.2.2.1 (fun h2 => h (lst_keep h2)), fun h => ⟨lst_keep (F.out.2.2.2.1 (lst_old (by decide) h)).1, (F.out.2.2.2.1 (lst_old (by decide) h)).2⟩, fun h => ⟨lst_keep (F.out.2.2.2.2.1 (lst_old (by decide) h)).1, fun h2 => (F.out.2.2.2.2.1 (lst_old (by decide) h)).2 (fun h3 => h2 (lst_keep h3))⟩, fun h => F.out.2.2.2.2.2.1 (lst_old (by decide) h), fun h => F.out.2.2.2.2.2.2.1 (lst_old (by decide) h), fun h => F.out.2.2.2.2.2.2.2.1 (lst_old (by decide) h), fun _ => rfl⟩
      case fin =>
        intro f a W hI
        obtain ⟨v35, v36, v37, v38, v39, v40, v41, rfl, hb, hz, hB, hA, ho, hf⟩ := hI
        obtain ⟨hrd, pc⟩ := hf.2.1 rfl
        subst pc
        obtain ⟨_, sa3, sc3, pa, hown3⟩ := hf.2.2.2.1 rfl
        subst pa
        have p0 := hf.2.2.2.2.2.1 rfl
        subst p0
        have p1 := hf.2.2.2.2.2.2.1 rfl
        subst p1
        have p2 := hf.2.2.2.2.2.2.2.1 rfl
        subst p2
        have p6 := hf.2.2.2.2.2.2.2.2 rfl
        subst p6
        clear hf
        refine wpAny_all (rs := [7]) (by kernel_rfl) (by simp) ?_
        intro i' hi'
        obtain rfl := List.mem_singleton.1 hi'
        have cc : W.cell? ⟨w.heap.size + 1, 3, none⟩ = some (.slice sa sn sc) := by rw [blk_cell hB]; rfl
        have ff := blk_free hB 3
        have hbs := blk_set hB 3 (.slice sa3 (sn + 1) sc3)
        have hon : Only (w.heap.size + 1) W (W.setCell ⟨w.heap.size + 1, 3, none⟩ (.slice sa3 (sn + 1) sc3)) := Only.set _ _ _
        have HBS := Lib.hid hbs; have HON := Lib.hid hon; have HAL := Lib.hid hA; have HOT := Lib.hid ho; have HRD := Lib.hid hrd; have HNW := Lib.hid hown3
        clear hbs hon hA hB ho hrd hown3
        refine wpOp_step (o := _) rfl (fun K' hK => ?_)
        have HKK := Lib.hid hK
        clear hK
        go_simp
        refine HKK.out _ _ (wpAny_done (by kernel_rfl) ?_ _)
        obtain ⟨w5, hw5⟩ : ∃ X, W.setCell ⟨w.heap.size + 1, 3, none⟩ (.slice sa3 (sn + 1) sc3) = X := ⟨_, rfl⟩
        rw [hw5] at HBS HON ⊢
        clear hw5 cc ff
        have hb := hb.trans (HON.out.to_below (by omega) hb.size)
        have hz := Nat.le_trans hz HON.out.size
        have HAL := Lib.hid (HON.out.blk HAL.out (by omega)); have HOT := Lib.hid (own_only' HOT.out HON.out (by omega)); have HNW := Lib.hid (own_only' HNW.out HON.out (by omega)); have HRD := Lib.hid (HRD.out.only HON.out (by omega))
        clear HON
        clear c3
        have hknl : kn ≤ 1001 := by rw [HKN.out]; omega
        go_upto_region 12 with (fail)
        refine wp_region_any (by kernel_rfl) ?_
        refine wpAny_upto_f 7 (fun f L a W => ∃ v42 v43 v44 v45 v46 v47 v48 : Value, a = { tmps := #[.int .u8 2, .string body, undef, undef, .pointer (some ⟨w.heap.size, 0, none⟩), .int .i64 0, .pointer (some ⟨w.heap.size + 1, 0, none⟩), .int .i64 3, .pointer (some ⟨w.heap.size + 2, 0, none⟩), .int .u8 2, .bool false, .bool false, undef, undef, undef, undef, undef, undef, undef, .bool true, .bool true, .string body, .pointer (some ⟨w.heap.size + 2, 0, none⟩), .pointer (some ⟨w.heap.size + 2, 0, none⟩), .int .i64 k00, x25, .pointer (some ⟨w.heap.size + 1, 2, none⟩), f 27, f 28, f 29, f 30, f 31, f 32, f 33, f 34, f 35, f 36, f 37, f 38, f 39, f 40, f 41, v42, v43, v44, v45, v46, v47, v48, undef, undef, undef, undef, undef, undef, undef, undef, undef, undef, undef], defers := [] } ∧ Below w.heap.size w W ∧ w.heap.size + 3 ≤ (World.heap W).size ∧ (World.heap W)[w.heap.size + 1]? = some (.cells #[.bool false, .slice none 0 0, .slice ka kn kc, .slice sa3 (sn + 1) sc3] 69 (0, 0)) ∧ (World.heap W)[w.heap.size]? = some (.cells #[.bool false, .slice none 0 0, .slice none 0 0, .slice none 0 0] 69 (0, 0)) ∧ World.ownsRow W (w.heap.size + 3) 9 1 (.slice sa3 (sn + 1) sc3) (sn + 1) (tcs (acc.map (·.1)) ++ tcs [k]) ∧ (¬ Lst L 3 → C.Rd W (w.heap.size + 2) s1 e1) ∧ (Lst L 3 → C.Rd W (w.heap.size + 2) s2 e2 ∧ v45 = .int .i64 v) ∧ (¬ Lst L 5 → World.ownsRow W (w.heap.size + 3) 3 1 (.slice ka kn kc) kn (ics (k0 :: acc.map (·.2)))) ∧ (Lst L 5 → Lst L 4 ∧ ∃ (aa : Option Addr) (cc : Nat), v47 = .slice aa (kn + 1) cc ∧ World.ownsRow W (w.heap.size + 3) 3 1 (.slice aa (kn + 1) cc) (kn + 1) (ics (k0 :: acc.map (·.2)) ++ ics [v])) ∧ (Lst L 4 → Lst L 3 ∧ (¬ Lst L 5 → ∃ g : Nat, v46 = .slice (some ⟨g, 0, none⟩) 1 1 ∧ Ints W v46 [v])) ∧ (Lst L 0 → v42 = .pointer (some ⟨w.heap.size + 1, 2, none⟩)) ∧ (Lst L 1 → v43 = .slice ka kn kc) ∧ (Lst L 2 → v44 = .pointer (some ⟨w.heap.size + 2, 0, none⟩)) ∧ (Lst L 6 → v48 = .pointer (some ⟨w.heap.size + 1, 2, none⟩))) (by decide) (by kernel_rfl) (by kernel_rfl) ?step ?fin _ _ _ _ ?ini (by simp) (fun k _ => lst_none) (by simp)
        case ini => exact ⟨_, _, _, _, _, _, _, rfl, hb.drew, hz, HBS.out, HAL.out, HNW.out, fun _ => HRD.out, fun h => absurd h lst_none, fun _ => HOT.out, fun h => absurd h lst_none, fun h => absurd h lst_none, fun h => absurd h lst_none, fun h => absurd h lst_none, fun h => absurd h lst_none, fun h => absurd h lst_none⟩
        case step =>
          intro f L a W hI i him hi
          obtain ⟨v42, v43, v44, v45, v46, v47, v48, rfl, hb, hz, hB, hA, ho, hf⟩ := hI
          have F := Lib.hid hf
          have HI := Lib.hid hi
          have HBL := Lib.hid hB
          have HAL := Lib.hid hA
          have HOT := Lib.hid ho
          clear hf hB hA ho
          rcases (show i = 0 ∨ i = 1 ∨ i = 2 ∨ i = 3 ∨ i = 4 ∨ i = 5 ∨ i = 6 by omega) with rfl | rfl | rfl | rfl | rfl | rfl | rfl
          · clear him hi
            refine wpOp_step (o := _) rfl (fun K' hK => ?_)
            have HK := Lib.hid hK
            clear hK
            go_simp
            refine HK.out _ _ ⟨_, _, _, _, _, _, _, rfl, hb, hz, HBL.out, HAL.out, HOT.out, fun h => F.out.1 (fun h2 => h (lst_keep h2)), fun h => F.out.2.1 (lst_old (by decide) h), fun h => F.out.2.2.1 (fun h2 => h (lst_keep h2)), fun h => ⟨lst_keep (F.out.2.2.2.1 (lst_old (by decide) h)).1, (F.out.2.2.2.1 (lst_old (by decide) h)).2⟩, fun h => ⟨lst_keep (F.out.2.2.2.2.1 (lst_old (by decide) h)).1, fun h2 => (F.out.2.2.2.2.1 (lst_old (by decide) h)).2 (fun h3 => h2 (lst_keep h3))⟩, fun _ => rfl, fun h => F.out.2.2.2.2.2.2.1 (lst_old (by decide) h), fun h => F.out.2.2.2.2.2.2.2.1 (lst_old (by decide) h), fun h => F.out.2.2.2.2.2.2.2.2 (lst_old (by decide) h)⟩
          · clear him hi
            have p0 := F.out.2.2.2.2.2.1 (ready_needs (k := 0) HI.out (by kernel_rfl))
            subst p0
            have cc : W.cell? ⟨w.heap.size + 1, 2, none⟩ = some (.slice ka kn kc) := by rw [blk_cell HBL.out]; rfl
            refine wpOp_step (o := _) rfl (fun K' hK => ?_)
            have HK := Lib.hid hK
            clear hK
            go_simp
            refine HK.out _ _ ⟨_, _, _, _, _, _, _, rfl, hb, hz, HBL.out, HAL.out, HOT.out, fun h => F.out.1 (fun h2 => h (lst_keep h2)), fun h => F.out.2.1 (lst_old (by decide) h), fun h => F.out.2.2.1 (fun h2 => h (lst_keep h2)), fun h => ⟨lst_keep (F.out.2.2.2.1 (lst_old (by decide) h)).1, (F.out.2.2.2.1 (lst_old (by decide) h)).2⟩, fun h => ⟨lst_keep (F.out.2.2.2.2.1 (lst_old (by decide) h)).1, fun h2 => (F.out.2.2.2.2.1 (lst_old (by decide) h)).2 (fun h3 => h2 (lst_keep h3))⟩, fun h => F.out.2.2.2.2.2.1 (lst_old (by decide) h), fun _ => rfl, fun h => F.out.2.2.2.2.2.2.2.1 (lst_old (by decide) h), fun h => F.out.2.2.2.2.2.2.2.2 (lst_old (by decide) h)⟩
          · clear him hi
            refine wpOp_step (o := _) rfl (fun K' hK => ?_)
            have HK := Lib.hid hK
            clear hK
            go_simp
            refine HK.out _ _ ⟨_, _, _, _, _, _, _, rfl, hb, hz, HBL.out, HAL.out, HOT.out, fun h => F.out.1 (fun h2 => h (lst_keep h2)), fun h => F.out.2.1 (lst_old (by decide) h), fun h => F.out.2.2.1 (fun h2 => h (lst_keep h2)), fun h => ⟨lst_keep (F.out.2.2.2.1 (lst_old (by decide) h)).1, (F.out.2.2.2.1 (lst_old (by decide) h)).2⟩, fun h => ⟨lst_keep (F.out.2.2.2.2.1 (lst_old (by decide) h)).1, fun h2 => (F.out.2.2.2.2.1 (lst_old (by decide) h)).2 (fun h3 => h2 (lst_keep h3))⟩, fun h => F.out.2.2.2.2.2.1 (lst_old (by decide) h), fun h => F.out.2.2.2.2.2.2.1 (lst_old (by decide) h), fun _ => rfl, fun h => F.out.2.2.2.2.2.2.2.2 (lst_old (by decide) h)⟩
          · clear him hi
            have p2 := F.out.2.2.2.2.2.2.2.1 (ready_needs (k := 2) HI.out (by kernel_rfl))
            subst p2
            refine wpOp_step (o := _) rfl (fun K' hK => ?_)
            have HK := Lib.hid hK
            clear hK
            go_simp
            refine (HT2.out _ (F.out.1 (ready_not HI.out))).mono ?_
            rintro r W2 ⟨rfl, hr2, ho2⟩
            refine HK.out _ _ ⟨_, _, _, _, _, _, _, rfl, (hb.trans (ho2.to_below (by omega) hb.size)), (Nat.le_trans hz ho2.size), (ho2.blk HBL.out (by omega)), (ho2.blk HAL.out (by omega)), (own_only' HOT.out ho2 (by omega)), fun h => absurd (lst_self HI.out) h, fun _ => ⟨hr2, rfl⟩, fun h => own_only' (F.out.2.2.1 (fun h2 => h (lst_keep h2))) ho2 (by omega), fun h => absurd ((F.out.2.2.2.2.1 ((F.out.2.2.2.1 (lst_old (by decide) h)).1)).1) (ready_not HI.out), fun h => absurd ((F.out.2.2.2.2.1 (lst_old (by decide) h)).1) (ready_not HI.out), fun h => F.out.2.2.2.2.2.1 (lst_old (by decide) h), fun h => F.out.2.2.2.2.2.2.1 (lst_old (by decide) h), fun h => F.out.2.2.2.2.2.2.2.1 (lst_old (by decide) h), fun h => F.out.2.2.2.2.2.2.2.2 (lst_old (by decide) h)⟩
          · clear him hi
            have p3 := (F.out.2.1 (ready_needs (k := 3) HI.out (by kernel_rfl))).2
            subst p3
            refine wpOp_step (o := _) rfl (fun K' hK => ?_)
            have HK := Lib.hid hK
            clear hK
            go_simp
            refine HK.out _ _ ⟨_, _, _, _, _, _, _, rfl, (hb.alloc hb.size _), (by have := hz; simp; omega), (blk_below HBL.out ((Below.refl _ _).alloc (Nat.le_refl _) _)), (blk_below HAL.out ((Below.refl _ _).alloc (Nat.le_refl _) _)), (HOT.out.alloc _), fun h => absurd (lst_keep (ready_needs (k := 3) HI.out (by kernel_rfl))) h, fun h => ⟨(F.out.2.1 (lst_old (by decide) h)).1.below ((Below.refl _ _).alloc (Nat.le_refl _) _), (F.out.2.1 (lst_old (by decide) h)).2⟩, fun h => (F.out.2.2.1 (fun h2 => h (lst_keep h2))).alloc _, fun h => absurd ((F.out.2.2.2.1 (lst_old (by decide) h)).1) (ready_not HI.out), fun _ => ⟨lst_keep (ready_needs (k := 3) HI.out (by kernel_rfl)), fun _ => ⟨_, rfl, new_int W v 3⟩⟩, fun h => F.out.2.2.2.2.2.1 (lst_old (by decide) h), fun h => F.out.2.2.2.2.2.2.1 (lst_old (by decide) h), fun h => F.out.2.2.2.2.2.2.2.1 (lst_old (by decide) h), fun h => F.out.2.2.2.2.2.2.2.2 (lst_old (by decide) h)⟩
          · clear him hi
            have p1 := F.out.2.2.2.2.2.2.1 (ready_needs (k := 1) HI.out (by kernel_rfl))
            subst p1
            obtain ⟨gg, p4, hone⟩ := (F.out.2.2.2.2.1 (ready_needs (k := 4) HI.out (by kernel_rfl))).2 (ready_not HI.out)
            subst p4
            have HONE := Lib.hid hone
            clear hone
            refine wpOp_step (o := _) rfl (fun K' hK => ?_)
            have HK := Lib.hid hK
            clear hK
            have HOW := Lib.hid (F.out.2.2.1 (ready_not HI.out))
            refine step_append_row rfl _ _ 67 rfl (w.heap.size + 3) 3 i3 _ 1 8 Try.underlying67 HI3.out hz30 hz31 hz32 rfl (by decide) (.slice ka kn kc) kn (ics (k0 :: acc.map (·.2))) rfl HOW.out (.slice (some ⟨gg, 0, none⟩) 1 1) rfl 1 (ics [v]) HONE.out (ics_one _) (by unfold maxLen; omega) (by omega) hz ?_
            intro v3 W2 hown3 hg3
            obtain ⟨ka3, kc3, rfl⟩ := own_slice hown3
            refine HK.out _ _ ⟨_, _, _, _, _, _, _, rfl, (hb.grown hg3 hb.size (fun g hg => by have := (HOW.out.lt g hg).1; omega)), (Nat.le_trans hz hg3.size), (grown_blk2 HBL.out HOW.out hg3 (by decide)), (grown_blk2 HAL.out HOW.out hg3 (by decide)), (own_other HOT.out HOW.out hg3 (by decide)), fun h => absurd (lst_keep ((F.out.2.2.2.2.1 (ready_needs (k := 4) HI.out (by kernel_rfl))).1)) h, fun h => ⟨rd_grown (F.out.2.1 (lst_old (by decide) h)).1 HOW.out hg3 (by omega), (F.out.2.1 (lst_old (by decide) h)).2⟩, fun h => absurd (lst_self HI.out) h, fun _ => ⟨lst_keep (ready_needs (k := 4) HI.out (by kernel_rfl)), _, _, rfl, hown3⟩, fun h => ⟨lst_keep (F.out.2.2.2.2.1 (lst_old (by decide) h)).1, fun h2 => absurd (lst_self HI.out) h2⟩, fun h => F.out.2.2.2.2.2.1 (lst_old (by decide) h), fun h => F.out.2.2.2.2.2.2.1 (lst_old (by decide) h), fun h => F.out.2.2.2.2.2.2.2.1 (lst_old (by decide) h), fun h => F.out.2.2.2.2.2.2.2.2 (lst_old (by decide) h)⟩
          · clear him hi
            refine wpOp_step (o := _) rfl (fun K' hK => ?_)
            have HK := Lib.hid hK
            clear hK
            go_simp
            refine HK.out _ _ ⟨_, _, _, _, _, _, _, rfl, hb, hz, HBL.out, HAL.out, HOT.out, fun h => F.out.1 (fun h2 => h (lst_keep h2)), fun h => F.out.2.1 (lst_old (by decide) h), fun h => F.out.2.2.1 (fun h2 => h (lst_keep h2)), fun h => ⟨lst_keep (F.out.2.2.2.1 (lst_old (by decide) h)).1, (F.out.2.2.2.1 (lst_old (by decide) h)).2⟩, fun h => ⟨lst_keep (F.out.2.2.2.2.1 (lst_old (by decide) h)).1, fun h2 => (F.out.2.2.2.2.1 (lst_old (by decide) h)).2 (fun h3 => h2 (lst_keep h3))⟩, fun h => F.out.2.2.2.2.2.1 (lst_old (by decide) h), fun h => F.out.2.2.2.2.2.2.1 (lst_old (by decide) h), fun h => F.out.2.2.2.2.2.2.2.1 (lst_old (by decide) h), fun _ => rfl⟩
        case fin =>
          intro f a W hI
          obtain ⟨v42, v43, v44, v45, v46, v47, v48, rfl, hb, hz, hB, hA, ho, hf⟩ := hI
          obtain ⟨hrd, pc⟩ := hf.2.1 rfl
          subst pc
          obtain ⟨_, ka3, kc3, pa, hown3⟩ := hf.2.2.2.1 rfl
          subst pa
          have p0 := hf.2.2.2.2.2.1 rfl
          subst p0
          have p1 := hf.2.2.2.2.2.2.1 rfl
          subst p1
          have p2 := hf.2.2.2.2.2.2.2.1 rfl
          subst p2
          have p6 := hf.2.2.2.2.2.2.2.2 rfl
          subst p6
          clear hf
          refine wpAny_all (rs := [7]) (by kernel_rfl) (by simp) ?_
          intro i' hi'
          obtain rfl := List.mem_singleton.1 hi'
          have cc : W.cell? ⟨w.heap.size + 1, 2, none⟩ = some (.slice ka kn kc) := by rw [blk_cell hB]; rfl
          have ff := blk_free hB 2
          have hbs := blk_set hB 2 (.slice ka3 (kn + 1) kc3)
          have hon : Only (w.heap.size + 1) W (W.setCell ⟨w.heap.size + 1, 2, none⟩ (.slice ka3 (kn + 1) kc3)) := Only.set _ _ _
          have HBS := Lib.hid hbs; have HON := Lib.hid hon; have HAL := Lib.hid hA; have HOT := Lib.hid ho; have HRD := Lib.hid hrd; have HNW := Lib.hid hown3
          clear hbs hon hA hB ho hrd hown3
          refine wpOp_step (o := _) rfl (fun K' hK => ?_)
          have HKK := Lib.hid hK
          clear hK
          go_simp
          refine HKK.out _ _ (wpAny_done (by kernel_rfl) ?_ _)
          obtain ⟨w6, hw5⟩ : ∃ X, W.setCell ⟨w.heap.size + 1, 2, none⟩ (.slice ka3 (kn + 1) kc3) = X := ⟨_, rfl⟩
          rw [hw5] at HBS HON ⊢
          clear hw5 cc ff
          have hb := hb.trans (HON.out.to_below (by omega) hb.size)
          have hz := Nat.le_trans hz HON.out.size
          have HAL := Lib.hid (HON.out.blk HAL.out (by omega)); have HOT := Lib.hid (own_only' HOT.out HON.out (by omega)); have HNW := Lib.hid (own_only' HNW.out HON.out (by omega)); have HRD := Lib.hid (HRD.out.only HON.out (by omega))
          clear HON
          have hln : (acc ++ [((k, v) : M.KV)]).length = sn + 1 := by rw [List.length_append, HSN.out]; rfl
          have hrow1 : w6.ownsRow (w.heap.size + 3) 3 1 (.slice ka3 (kn + 1) kc3) (kn + 1) (ics (k0 :: (acc ++ [((k, v) : M.KV)]).map (·.2))) := by
            have := HNW.out
            rw [← ics_append] at this
            simpa using this
          have hrow2 : w6.ownsRow (w.heap.size + 3) 9 1 (.slice sa3 (sn + 1) sc3) (sn + 1) (tcs ((acc ++ [((k, v) : M.KV)]).map (·.1))) := by
            have := HOT.out
            rw [← tcs_append] at this
            simpa using this
          have HREL := Lib.hid (show RelD w body w6 from ⟨s2, e2, k0, acc ++ [((k, v) : M.KV)], ka3, sa3, kn + 1, kc3, sc3, HRD.out, by rw [hln]; exact HBS.out, HAL.out, by rw [hln, HKN.out], hrow1, by rw [hln]; exact hrow2, HNX.out, by rw [hln]; exact hacc, hb, hz⟩)
          have HM2 := Lib.hid (msr_eq HBS.out)
          clear hln hrow1 hrow2 hb hz hbw hsz hal
          go_wp2
          go_roundw
          case rel => exact HREL.out
          case measure => rw [HM.out, HM2.out]; omega
    · have hz : s.size = 0 ∨ e ≠ 0 := by omega
      have hen := rsn_end HRS.out hz
      have HE := Lib.hid (C.end_any (w.heap.size + 2) s e wr HR.out)
      have HEN := Lib.hid hen
      have HKR := Lib.hid (Rw.own HK.out); have HSRR := Lib.hid (Rw.own HSR.out)
      clear hen
      obtain ⟨E, hE⟩ : ∃ x, C.endE s e = x := ⟨_, rfl⟩
      rw [hE] at HE HEN
      clear hE
      rcases Nat.eq_zero_or_pos s.size with h0 | h0
      · clear hz hgo
        go_wp2_with fail
        refine (C.left_any _ s e _ HR.out).mono ?_
        rintro r w2 ⟨rfl, hw⟩
        subst hw
        go_wp2_with fail
        refine HE.out.mono ?_
        rintro r w6 ⟨rfl, hb6⟩
        have HA := Lib.hid (blk_below HA.out hb6); have HB := Lib.hid (blk_below HB.out hb6)
        have HKR := Lib.hid (HKR.out.below hb6); have HSRR := Lib.hid (HSRR.out.below hb6)
        have hb6 := hbw.trans (hb6.mono hbw.size)
        clear hbw hsz hal
        by_cases hE0 : E = 0
        case neg =>
          have HR := Lib.hid (drn_inner_none (HEN.out.resolve_left (fun h => hE0 h.1)).2)
          have q1 : (E == 0) = false := beq_eq_false_iff_ne.2 hE0
          have q2 : (E != 0) = true := by rw [bne, q1]; rfl
          clear hE0
          have HBL := Lib.hid hb6
          go_wp2_with (refine wpList_store69 rfl _ _ rfl w.heap.size rfl rfl ⟨_, _, _, _, HA.out⟩ ?_)
          intro w9 hz9 hon9
          have HZ9 := Lib.hid hz9
          have hb9 : Below w.heap.size w w9 := HBL.out.trans (hon9.to_below (Nat.le_refl _) HBL.out.size)
          clear hz9 hon9
          go_wp2
          refine bodyPost_ret (res_two rfl rfl rfl (load69 (bx_blk HZ9.out))) rfl ?_
          exact ⟨_, ⟨false, [], [], []⟩, 3, rfl, ⟨none, 0, none, 0, none, 0, rfl, Rw.nil _ 2, Rw.nil _ 1, Rw.nil _ 1⟩, HR.out, hb9⟩
        have hdec := (HEN.out.resolve_right (fun h => h.1 hE0)).2
        have HD := Lib.hid hdec
        have hbd := dec_bd hdec hbs
        obtain ⟨sn, hsn⟩ : ∃ x, acc.length = x := ⟨_, rfl⟩
        rw [hsn] at HB HSRR
        have hv := mkI_v (k0 := k0) HKN.out hsn.symm HKR.out HSRR.out
        have HFT := Lib.hid (fits_any _ _ w6 hv hbd)
        have HSN := Lib.hid hsn
        clear hdec hbd hv hsn
        obtain ⟨x0, x1, x2, x3⟩ := bx_blk HB.out
        subst hE0
        by_cases hf : fitsN (M.mkI k0 acc)
        · rw [decide_eq_true hf] at HFT
          have HR := Lib.hid (drn_inner HD.out hf)
          clear hf
          go_wp2_with fail
          refine HFT.out.mono ?_
          rintro r w7 ⟨rfl, hb7⟩
          have HB7 := Lib.hid (blk_below HB.out hb7); have HA7 := Lib.hid (blk_below HA.out hb7)
          have HKR := Lib.hid (HKR.out.below hb7); have HSRR := Lib.hid (HSRR.out.below hb7)
          have hb7 := hb6.trans (hb7.mono hb6.size)
          clear x0 x1 x2 x3
          obtain ⟨x0, x1, x2, x3⟩ := bx_blk HB7.out
          go_wp2_with (refine wpList_store69 rfl _ _ rfl w.heap.size rfl rfl ⟨_, _, _, _, HA7.out⟩ ?_)
          intro w9 hz9 hon9
          have HZ9 := Lib.hid hz9
          have HKR := Lib.hid (rw_only HKR.out hon9 HA7.out (box_not_ics _))
          have HSRR := Lib.hid (rw_only HSRR.out hon9 HA7.out (box_not_tcs _))
          have hb9 : Below w.heap.size w w9 := hb7.trans (hon9.to_below (Nat.le_refl _) hb7.size)
          clear hz9 hon9 x0 x1 x2 x3
          go_wp2
          refine bodyPost_ret (res_two rfl rfl rfl (load69 (bx_blk HZ9.out))) rfl ?_
          exact ⟨_, M.mkI k0 acc, 0, rfl, mkI_v HKN.out HSN.out.symm HKR.out HSRR.out, HR.out, hb9⟩
        · rw [decide_eq_false hf] at HFT
          have HR := Lib.hid (drn_inner_no HD.out hf)
          clear hf
          go_wp2_with fail
          refine HFT.out.mono ?_
          rintro r w7 ⟨rfl, hb7⟩
          have HA7 := Lib.hid (blk_below HA.out hb7)
          have hb7 := hb6.trans (hb7.mono hb6.size)
          clear x0 x1 x2 x3
          have HBL := Lib.hid hb7
          go_wp2_with (refine wpList_store69 rfl _ _ rfl w.heap.size rfl rfl ⟨_, _, _, _, HA7.out⟩ ?_)
          intro w9 hz9 hon9
          have HZ9 := Lib.hid hz9
          have hb9 : Below w.heap.size w w9 := HBL.out.trans (hon9.to_below (Nat.le_refl _) HBL.out.size)
          clear hz9 hon9
          go_wp2
          refine bodyPost_ret (res_two rfl rfl rfl (load69 (bx_blk HZ9.out))) rfl ?_
          exact ⟨_, ⟨false, [], [], []⟩, 3, rfl, ⟨none, 0, none, 0, none, 0, rfl, Rw.nil _ 2, Rw.nil _ 1, Rw.nil _ 1⟩, HR.out, hb9⟩
      · have hs0 : (0 : Int) < (s.size : Int) := by omega
        have he0 : (e == 0) = false := beq_eq_false_iff_ne.2 (hz.resolve_left (by omega))
        clear h0 hz hgo
        go_wp2_with fail
        refine (C.left_any _ s e _ HR.out).mono ?_
        rintro r w2 ⟨rfl, hw⟩
        subst hw
        go_wp2_with fail
        refine (C.err_any _ s e _ HR.out).mono ?_
        rintro r w2 ⟨rfl, hw⟩
        subst hw
        clear hs0
        go_wp2_with fail
        refine HE.out.mono ?_
        rintro r w6 ⟨rfl, hb6⟩
        have HA := Lib.hid (blk_below HA.out hb6); have HB := Lib.hid (blk_below HB.out hb6)
        have HKR := Lib.hid (HKR.out.below hb6); have HSRR := Lib.hid (HSRR.out.below hb6)
        have hb6 := hbw.trans (hb6.mono hbw.size)
        clear hbw hsz hal
        by_cases hE0 : E = 0
        case neg =>
          have HR := Lib.hid (drn_inner_none (HEN.out.resolve_left (fun h => hE0 h.1)).2)
          have q1 : (E == 0) = false := beq_eq_false_iff_ne.2 hE0
          have q2 : (E != 0) = true := by rw [bne, q1]; rfl
          clear hE0
          have HBL := Lib.hid hb6
          go_wp2_with (refine wpList_store69 rfl _ _ rfl w.heap.size rfl rfl ⟨_, _, _, _, HA.out⟩ ?_)
          intro w9 hz9 hon9
          have HZ9 := Lib.hid hz9
          have hb9 : Below w.heap.size w w9 := HBL.out.trans (hon9.to_below (Nat.le_refl _) HBL.out.size)
          clear hz9 hon9
          go_wp2
          refine bodyPost_ret (res_two rfl rfl rfl (load69 (bx_blk HZ9.out))) rfl ?_
          exact ⟨_, ⟨false, [], [], []⟩, 3, rfl, ⟨none, 0, none, 0, none, 0, rfl, Rw.nil _ 2, Rw.nil _ 1, Rw.nil _ 1⟩, HR.out, hb9⟩
        have hdec := (HEN.out.resolve_right (fun h => h.1 hE0)).2
        have HD := Lib.hid hdec
        have hbd := dec_bd hdec hbs
        obtain ⟨sn, hsn⟩ : ∃ x, acc.length = x := ⟨_, rfl⟩
        rw [hsn] at HB HSRR
        have hv := mkI_v (k0 := k0) HKN.out hsn.symm HKR.out HSRR.out
        have HFT := Lib.hid (fits_any _ _ w6 hv hbd)
        have HSN := Lib.hid hsn
        clear hdec hbd hv hsn
        obtain ⟨x0, x1, x2, x3⟩ := bx_blk HB.out
        subst hE0
        by_cases hf : fitsN (M.mkI k0 acc)
        · rw [decide_eq_true hf] at HFT
          have HR := Lib.hid (drn_inner HD.out hf)
          clear hf
          go_wp2_with fail
          refine HFT.out.mono ?_
          rintro r w7 ⟨rfl, hb7⟩
          have HB7 := Lib.hid (blk_below HB.out hb7); have HA7 := Lib.hid (blk_below HA.out hb7)
          have HKR := Lib.hid (HKR.out.below hb7); have HSRR := Lib.hid (HSRR.out.below hb7)
          have hb7 := hb6.trans (hb7.mono hb6.size)
          clear x0 x1 x2 x3
          obtain ⟨x0, x1, x2, x3⟩ := bx_blk HB7.out
          go_wp2_with (refine wpList_store69 rfl _ _ rfl w.heap.size rfl rfl ⟨_, _, _, _, HA7.out⟩ ?_)
          intro w9 hz9 hon9
          have HZ9 := Lib.hid hz9
          have HKR := Lib.hid (rw_only HKR.out hon9 HA7.out (box_not_ics _))
          have HSRR := Lib.hid (rw_only HSRR.out hon9 HA7.out (box_not_tcs _))
          have hb9 : Below w.heap.size w w9 := hb7.trans (hon9.to_below (Nat.le_refl _) hb7.size)
          clear hz9 hon9 x0 x1 x2 x3
          go_wp2
          refine bodyPost_ret (res_two rfl rfl rfl (load69 (bx_blk HZ9.out))) rfl ?_
          exact ⟨_, M.mkI k0 acc, 0, rfl, mkI_v HKN.out HSN.out.symm HKR.out HSRR.out, HR.out, hb9⟩
        · rw [decide_eq_false hf] at HFT
          have HR := Lib.hid (drn_inner_no HD.out hf)
          clear hf
          go_wp2_with fail
          refine HFT.out.mono ?_
          rintro r w7 ⟨rfl, hb7⟩
          have HA7 := Lib.hid (blk_below HA.out hb7)
          have hb7 := hb6.trans (hb7.mono hb6.size)
          clear x0 x1 x2 x3
          have HBL := Lib.hid hb7
          go_wp2_with (refine wpList_store69 rfl _ _ rfl w.heap.size rfl rfl ⟨_, _, _, _, HA7.out⟩ ?_)
          intro w9 hz9 hon9
          have HZ9 := Lib.hid hz9
          have hb9 : Below w.heap.size w w9 := HBL.out.trans (hon9.to_below (Nat.le_refl _) HBL.out.size)
          clear hz9 hon9
          go_wp2
          refine bodyPost_ret (res_two rfl rfl rfl (load69 (bx_blk HZ9.out))) rfl ?_
          exact ⟨_, ⟨false, [], [], []⟩, 3, rfl, ⟨none, 0, none, 0, none, 0, rfl, Rw.nil _ 2, Rw.nil _ 1, Rw.nil _ 1⟩, HR.out, hb9⟩
theorem ndecode_any (kind : Int) (body : ByteArray) (w : World) (hbs : body.size ≤ 1000) : Calls Try.prog 67 #[.int .u8 kind, .string body] w (NDc kind (bts body) w) := by
  by_cases h1 : kind = 1
  · subst h1; exact ndecode_leaf body w hbs
  · by_cases h2 : kind = 2
    · subst h2; exact ndecode_inner body w hbs
    · exact ndecode_other kind body w h1 h2
end Go.Proofs.Ytifdglehfhoecaa.N
