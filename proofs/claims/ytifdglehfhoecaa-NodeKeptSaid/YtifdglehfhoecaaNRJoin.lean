/-
  Two nodes in one: the document's answer. Conditions: bounds that every node here keeps.
-/
import Derived.Test.YtifdglehfhoecaaNJoin
namespace Go.Proofs.Ytifdglehfhoecaa.N
open Go.RowKit B E
theorem own_kindJ {w : World} {base size n g : Nat} {e t : TypeId} {v : Value} {cs : List Value} {c : Array Value} {fz : Nat × Nat} (h : w.ownsRow base e size v n cs) (hg : w.heap[g]? = some (.cells c t fz)) (hne : t ≠ e) : v.ownBlock ≠ some g := by
  obtain ⟨_, ⟨rfl, _⟩ | ⟨g2, cap, cur, rfl, _, hh, _⟩⟩ := h
  · simp [Value.ownBlock]
  · intro h1
    simp [Value.ownBlock] at h1
    subst h1
    rw [hg] at hh
    injection hh with hh
    injection hh with h1 h2 h3
    exact hne h2
theorem own_apart {w w' : World} {base b2 e1 e2 s1 s2 n1 n2 : Nat} {v1 v2 : Value} {c1 c2 : List Value} (h1 : w.ownsRow base e1 s1 v1 n1 c1) (h2 : w.ownsRow b2 e2 s2 v2 n2 c2) (hne : e2 ≠ e1) (hg : w.grownBy w' v2.ownBlock) : w'.ownsRow base e1 s1 v1 n1 c1 := by
  obtain ⟨_, ⟨rfl, _⟩ | ⟨g2, cap, cur, rfl, _, hh, _⟩⟩ := h2
  · rcases ho : v1.ownBlock with _ | g
    · exact h1.kept hg (.inl ho)
    · exact h1.kept hg (.inr (by rw [ho]; simp [Value.ownBlock]))
  · have hk := own_kindJ h1 hh hne
    exact h1.kept hg (.inr (by simpa [Value.ownBlock] using hk))
theorem grown_blk {w w' : World} {g base e s n : Nat} {v : Value} {cs : List Value} {o : Obj} (h : w.heap[g]? = some o) (hr : w.ownsRow base e s v n cs) (hg : w.grownBy w' v.ownBlock) (hlt : g < base) : w'.heap[g]? = some o := by
  rw [hg.block g (lt_of_blk h) fun he => by have := (hr.lt g he.symm).1; omega]
  exact h
/-- a box of the document's -/
def Zc (w : World) (g : Nat) : Prop := ∃ a b c d, w.heap[g]? = some (.cells #[a, b, c, d] 73 (0, 0))
theorem store73 {w : World} {g : Nat} {l : Bool} {e0 k0 s0 : Option Addr} {en ec kn kc sn sc : Nat} (h : Zc w g) :
    ∃ w', (storeVar 73 ⟨g, 0, none⟩ (.agg #[.bool l, .slice e0 en ec, .slice k0 kn kc, .slice s0 sn sc])).run Try.prog w = .ok () w' ∧ w'.heap[g]? = some (.cells #[.bool l, .slice e0 en ec, .slice k0 kn kc, .slice s0 sn sc] 73 (0, 0)) ∧ Only g w w' := by
  obtain ⟨a, b, c, d, h⟩ := h
  have h0 := blk_set h 0 (.bool l)
  have h1 := blk_set h0 1 (.slice e0 en ec)
  have h2 := blk_set h1 2 (.slice k0 kn kc)
  have h3 := blk_set h2 3 (.slice s0 sn sc)
  refine ⟨_, ?_, h3, (((Only.set _ _ _).trans (Only.set _ _ _)).trans (Only.set _ _ _)).trans (Only.set _ _ _)⟩
  have c0 : w.cell? ⟨g, 0, none⟩ = some a := by rw [blk_cell h]; rfl
  have c1 : (w.setCell ⟨g, 0, none⟩ (.bool l)).cell? ⟨g, 1, none⟩ = some b := by rw [blk_cell h0]; rfl
  have c2 : ((w.setCell ⟨g, 0, none⟩ (.bool l)).setCell ⟨g, 1, none⟩ (.slice e0 en ec)).cell? ⟨g, 2, none⟩ = some c := by rw [blk_cell h1]; rfl
  have c3 : (((w.setCell ⟨g, 0, none⟩ (.bool l)).setCell ⟨g, 1, none⟩ (.slice e0 en ec)).setCell ⟨g, 2, none⟩ (.slice k0 kn kc)).cell? ⟨g, 3, none⟩ = some d := by rw [blk_cell h2]; rfl
  have f0 := blk_free h 0
  have f1 := blk_free h0 1
  have f2 := blk_free h1 2
  have f3 := blk_free h2 3
  simp [storeVar, go_sem, *]
set_option maxRecDepth 10000 in
theorem wpList_store73 {w : World} {ops : Array Oper} {rest : List Oper} {o : Oper} {a : Act} {Q : Exit → Act → World → Prop} (hgd : o.guard = none) (p x : Operand) (ho : o.op = .store 73 p x)
    (g : Nat) {l : Bool} {e0 k0 s0 : Option Addr} {en ec kn kc sn sc : Nat} (hp : a.eval p = .pointer (some ⟨g, 0, none⟩)) (hx : a.eval x = .agg #[.bool l, .slice e0 en ec, .slice k0 kn kc, .slice s0 sn sc]) (hz : Zc w g)
    (h : ∀ w', w'.heap[g]? = some (.cells #[.bool l, .slice e0 en ec, .slice k0 kn kc, .slice s0 sn sc] 73 (0, 0)) → Only g w w' → wpList Try.prog ops Q rest (a.put o.dst undef) w') : wpList Try.prog ops Q (o :: rest) a w := by
  refine wpList_plain hgd fun _ hK => ?_
  obtain ⟨w', hr, h1, h2⟩ := store73 (l := l) (e0 := e0) (en := en) (ec := ec) (k0 := k0) (kn := kn) (kc := kc) (s0 := s0) (sn := sn) (sc := sc) hz
  unfold Oper.wp execOp
  have hr' : (Instr.storeAt 73 (.pointer (some ⟨g, 0, none⟩)) (.agg #[.bool l, .slice e0 en ec, .slice k0 kn kc, .slice s0 sn sc])).run Try.prog w = .ok () w' := by
    simp only [Instr.storeAt, Instr.sureAddr, Sem.run_bind, Sem.run_pure, Result.andThen]
    exact hr
  simp only [ho, hp, hx, Sem.run_bind, hr', Result.andThen_ok, Sem.run_pure]
  exact hK _ _ (h w' h1 h2)
theorem bx_blk73 {w : World} {g : Nat} {l : Bool} {a b c : Value} (h : w.heap[g]? = some (.cells #[.bool l, a, b, c] 73 (0, 0))) : Bx w g l a b c := ⟨by rw [blk_cell h]; rfl, by rw [blk_cell h]; rfl, by rw [blk_cell h]; rfl, by rw [blk_cell h]; rfl⟩
set_option maxRecDepth 100000 in
set_option maxHeartbeats 8000000 in
theorem rjoin_true (va vb : Value) (es fs : List Ent) (ks js : List Int) (ss ts : List ByteArray) (key : ByteArray) (w : World) (ha : NdV w va ⟨true, es, ks, ss⟩) (hb : NdV w vb ⟨true, fs, js, ts⟩) (hda : Bd ⟨true, es, ks, ss⟩) (hdb : Bd ⟨true, fs, js, ts⟩) :
    Calls Try.prog 57 #[va, .string key, vb] w fun r w' => ∃ v, r = .returned v ∧ NdO w' w.heap.size v ⟨true, es ++ fs, ks ++ js, ss ++ ts⟩ ∧ Below w.heap.size w w' := by
  obtain ⟨c1, c2, c3, _, _⟩ := hda
  obtain ⟨d1, d2, d3, _, _⟩ := hdb
  obtain ⟨ie, hie, ie0, ie1, ie2⟩ := info_parts E.info49
  obtain ⟨ik, hik, ik0, ik1, ik2⟩ := info_parts info3
  obtain ⟨it, hit, it0, it1, it2⟩ := info_parts info9
  obtain ⟨e0, ec, k0, kc, s0, sc, rfl, he, hk, hs⟩ := ha
  obtain ⟨f0, fc, j0, jc, t0, tc, rfl, hf, hj, ht⟩ := hb
  dsimp only at he hk hs hf hj ht c1 c2 c3 d1 d2 d3 ⊢
  obtain ⟨en, hen⟩ : ∃ x, es.length = x := ⟨_, rfl⟩
  obtain ⟨kn, hkn⟩ : ∃ x, ks.length = x := ⟨_, rfl⟩
  obtain ⟨sn, hsn⟩ : ∃ x, ss.length = x := ⟨_, rfl⟩
  obtain ⟨fn, hfn⟩ : ∃ x, fs.length = x := ⟨_, rfl⟩
  obtain ⟨jn, hjn⟩ : ∃ x, js.length = x := ⟨_, rfl⟩
  obtain ⟨tn, htn⟩ : ∃ x, ts.length = x := ⟨_, rfl⟩
  have e1 : en ≤ 10000 := by rw [← hen]; exact c1
  have e2 : kn ≤ 10000 := by rw [← hkn]; exact c2
  have e3 : sn ≤ 10000 := by rw [← hsn]; exact c3
  have e4 : fn ≤ 10000 := by rw [← hfn]; exact d1
  have e5 : jn ≤ 10000 := by rw [← hjn]; exact d2
  have e6 : tn ≤ 10000 := by rw [← htn]; exact d3
  rw [hen] at he ⊢
  rw [hkn] at hk ⊢
  rw [hsn] at hs ⊢
  rw [hfn] at hf ⊢
  rw [hjn] at hj ⊢
  rw [htn] at ht ⊢
  have HE := Lib.hid he; have HKS := Lib.hid hk; have HS := Lib.hid hs
  have HF := Lib.hid hf; have HJ := Lib.hid hj; have HT := Lib.hid ht
  have HESN := Lib.hid hen; have HKSN := Lib.hid hkn; have HSSN := Lib.hid hsn; have HFSN := Lib.hid hfn; have HJSN := Lib.hid hjn; have HTSN := Lib.hid htn
  clear he hk hs hf hj ht hen hkn hsn hfn hjn htn
  go_enter Try.func57, Try.ntmps57
  go_upto_region 1 with (fail)
  obtain ⟨wa, hwa⟩ : ∃ W, w.alloc (.cells #[.bool true, .slice e0 en ec, .slice k0 kn kc, .slice s0 sn sc] 73) = W := ⟨_, rfl⟩
  have hza : wa.heap.size = w.heap.size + 1 := by rw [← hwa]; simp
  have hx : Bx wa w.heap.size true (.slice e0 en ec) (.slice k0 kn kc) (.slice s0 sn sc) := by rw [← hwa]; exact Bx.new _ _ _ _ _ _
  have hba : Below w.heap.size w wa := by rw [← hwa]; exact (Below.refl _ w).alloc (Nat.le_refl _) _
  rw [hwa]
  clear hwa
  obtain ⟨wb, hwb⟩ : ∃ W, wa.alloc (.cells #[.bool true, .slice f0 fn fc, .slice j0 jn jc, .slice t0 tn tc] 73) = W := ⟨_, rfl⟩
  have hzb : wb.heap.size = w.heap.size + 2 := by rw [← hwb]; simp [hza]
  have hy : Bx wb (w.heap.size + 1) true (.slice f0 fn fc) (.slice j0 jn jc) (.slice t0 tn tc) := by rw [← hwb, ← hza]; exact Bx.new _ _ _ _ _ _
  have hbb : Below wa.heap.size wa wb := by rw [← hwb]; exact (Below.refl _ wa).alloc (Nat.le_refl _) _
  rw [hwb]
  clear hwb
  obtain ⟨wc, hwc⟩ : ∃ W, wb.alloc (.cells #[.bool false, .slice none 0 0, .slice none 0 0, .slice none 0 0] 73) = W := ⟨_, rfl⟩
  have hzc : wc.heap.size = w.heap.size + 3 := by rw [← hwc]; simp [hzb]
  have hC : wc.heap[w.heap.size + 1 + 1]? = some (.cells #[.bool false, .slice none 0 0, .slice none 0 0, .slice none 0 0] 73 (0, 0)) := by rw [← hwc, ← hzb]; exact blk_new _ _
  have hbc : Below wb.heap.size wb wc := by rw [← hwc]; exact (Below.refl _ wb).alloc (Nat.le_refl _) _
  rw [hwc]
  clear hwc
  have hx := (hx.below hbb).below hbc
  have hy := hy.below hbc
  have hb1 := (hba.trans (hbb.mono hba.size)).trans (hbc.mono (Nat.le_trans hba.size hbb.size))
  clear hba hbb hbc hza hzb
  obtain ⟨x0, x1, x2, x3⟩ := hx
  obtain ⟨y0, y1, y2, y3⟩ := hy
  go_upto_region 4 with (fail)
  obtain ⟨w1, hw1⟩ : ∃ W, wc.alloc (.cells #[.bool true, .slice none 0 0, .slice none 0 0, .slice none 0 0] 73) = W := ⟨_, rfl⟩
  have hz1 : w1.heap.size = w.heap.size + 4 := by rw [← hw1]; simp [hzc]
  have hN : w1.heap[w.heap.size + 3]? = some (.cells #[.bool true, .slice none 0 0, .slice none 0 0, .slice none 0 0] 73 (0, 0)) := by rw [← hw1, show w.heap.size + 3 = wc.heap.size by omega]; exact blk_new _ _
  have hbd : Below wc.heap.size wc w1 := by rw [← hw1]; exact (Below.refl _ wc).alloc (Nat.le_refl _) _
  rw [hw1]
  clear hw1
  have hx : Bx w1 w.heap.size true (.slice e0 en ec) (.slice k0 kn kc) (.slice s0 sn sc) := ⟨bcell hbd x0, bcell hbd x1, bcell hbd x2, bcell hbd x3⟩
  have hy : Bx w1 (w.heap.size + 1) true (.slice f0 fn fc) (.slice j0 jn jc) (.slice t0 tn tc) := ⟨bcell hbd y0, bcell hbd y1, bcell hbd y2, bcell hbd y3⟩
  have hC := blk_below hC hbd
  have hb1 := hb1.trans (hbd.mono hb1.size)
  have HX := Lib.hid hx; have HY := Lib.hid hy
  have HN1 := Lib.hid hN; have HC1 := Lib.hid hC; have HB1 := Lib.hid (Below.refl (w.heap.size + 1 + 1) w1); have HS1 := Lib.hid (Nat.le_of_eq hz1.symm)
  have Oe1 := Lib.hid (World.ownsRow_nil w1 (w.heap.size + 4) 49 2); have Ok1 := Lib.hid (World.ownsRow_nil w1 (w.heap.size + 4) 3 1); have Ot1 := Lib.hid (World.ownsRow_nil w1 (w.heap.size + 4) 9 1)
  clear x0 x1 x2 x3 y0 y1 y2 y3 hbd hx hy hN hC hzc hz1 c1 c2 c3 d1 d2 d3
  obtain ⟨n0, n1, n2, n3⟩ := bx_blk73 HN1.out
  obtain ⟨x0, x1, x2, x3⟩ := Bx.upto HX.out HB1.out (by omega)
  obtain ⟨y0, y1, y2, y3⟩ := Bx.upto HY.out HB1.out (by omega)
  have hbw : Below w.heap.size w w1 := hb1.trans (HB1.out.mono (by omega))
  have hbs : (w.heap.size + 4) ≤ w1.heap.size := HS1.out
  go_wp2_with (at_builtin; go_loud (refine wpList_append_row rfl _ _ 43 rfl (w.heap.size + 4) 49 ie _ 2 32 Try.underlying43 hie ie0 ie1 ie2 rfl (by decide) _ (0) (ecs ([])) rfl Oe1.out (.slice e0 en ec) rfl es.length (ecs es) (HE.out.below hbw) (ecs_one _) (by have hl_ := HESN.out; unfold maxLen; omega) (by have hl_ := HESN.out; omega) (by have hl_ := HESN.out; first | omega | (simp; done) | (simp; omega)) ?_))
  intro v' w2a hown hg
  have hown : w2a.ownsRow (w.heap.size + 4) 49 2 v' en (ecs es) := by
    rw [← HESN.out]
    first | exact hown | (rw [Nat.zero_add] at hown; exact hown)
  obtain ⟨a', c', hv'⟩ := own_slice hown
  subst hv'
  have hN := grown_blk HN1.out Oe1.out hg (by omega)
  have hC := grown_blk HC1.out Oe1.out hg (by omega)
  have hB : Below (w.heap.size + 1 + 1) w1 w2a := HB1.out.grown hg (by omega) (fun g hg2 => by have := (Oe1.out.lt g hg2).1; omega)
  have hSz : (w.heap.size + 4) ≤ w2a.heap.size := Nat.le_trans hbs hg.size
  have Ok := own_apart Ok1.out Oe1.out (by decide) hg
  have Ot := own_apart Ot1.out Oe1.out (by decide) hg
  have cc : w2a.cell? ⟨w.heap.size + 3, 1, none⟩ = some (.slice none 0 0) := by rw [blk_cell hN]; rfl
  have ff := blk_free hN 1
  have HOWN := Lib.hid hown
  clear hown hg n0 n1 n2 n3 x0 x1 x2 x3 y0 y1 y2 y3
  go_upto_region 5 with (fail)
  obtain ⟨w2, hw⟩ : ∃ X, w2a.setCell ⟨w.heap.size + 3, 1, none⟩ (.slice a' (en) c') = X := ⟨_, rfl⟩
  have hon : Only (w.heap.size + 3) w2a w2 := by rw [← hw]; exact Only.set _ _ _
  have hN2 := blk_set hN 1 (.slice a' (en) c')
  rw [hw] at hN2 ⊢
  clear hw cc ff
  have HN2 := Lib.hid hN2
  have HC2 := Lib.hid (hon.blk hC (by omega))
  have HB2 := Lib.hid (hB.trans (hon.to_below (by omega) (by omega)))
  have HS2 := Lib.hid (Nat.le_trans hSz hon.size)
  have Ok2 := Lib.hid (own_only' Ok hon (by omega))
  have Ot2 := Lib.hid (own_only' Ot hon (by omega))
  have Oe2 := Lib.hid (own_only' HOWN.out hon (by omega))
  obtain ⟨ea2, ec2, he2⟩ : ∃ a c, a = a' ∧ c = c' := ⟨_, _, rfl, rfl⟩
  obtain ⟨rfl, rfl⟩ := he2
  clear hN hC hB hN2 hon hSz hbs hbw Ok Ot
  obtain ⟨n0, n1, n2, n3⟩ := bx_blk73 HN2.out
  obtain ⟨x0, x1, x2, x3⟩ := Bx.upto HX.out HB2.out (by omega)
  obtain ⟨y0, y1, y2, y3⟩ := Bx.upto HY.out HB2.out (by omega)
  have hbw : Below w.heap.size w w2 := hb1.trans (HB2.out.mono (by omega))
  have hbs : (w.heap.size + 4) ≤ w2.heap.size := HS2.out
  go_wp2_with (at_builtin; go_loud (refine wpList_append_row rfl _ _ 43 rfl (w.heap.size + 4) 49 ie _ 2 32 Try.underlying43 hie ie0 ie1 ie2 rfl (by decide) _ (en) (ecs (es)) rfl Oe2.out (.slice f0 fn fc) rfl fs.length (ecs fs) (HF.out.below hbw) (ecs_one _) (by have hl_ := HFSN.out; unfold maxLen; omega) (by have hl_ := HFSN.out; omega) (by have hl_ := HFSN.out; first | omega | (simp; done) | (simp; omega)) ?_))
  intro v' w3a hown hg
  have hown : w3a.ownsRow (w.heap.size + 4) 49 2 v' (en + fn) (ecs (es ++ fs)) := by rw [ecs_append, ← HFSN.out]; exact hown
  obtain ⟨a', c', hv'⟩ := own_slice hown
  subst hv'
  have hN := grown_blk HN2.out Oe2.out hg (by omega)
  have hC := grown_blk HC2.out Oe2.out hg (by omega)
  have hB : Below (w.heap.size + 1 + 1) w1 w3a := HB2.out.grown hg (by omega) (fun g hg2 => by have := (Oe2.out.lt g hg2).1; omega)
  have hSz : (w.heap.size + 4) ≤ w3a.heap.size := Nat.le_trans hbs hg.size
  have Ok := own_apart Ok2.out Oe2.out (by decide) hg
  have Ot := own_apart Ot2.out Oe2.out (by decide) hg
  have cc : w3a.cell? ⟨w.heap.size + 3, 1, none⟩ = some (.slice ea2 (en) ec2) := by rw [blk_cell hN]; rfl
  have ff := blk_free hN 1
  have HOWN := Lib.hid hown
  clear hown hg n0 n1 n2 n3 x0 x1 x2 x3 y0 y1 y2 y3
  go_upto_region 6 with (fail)
  obtain ⟨w3, hw⟩ : ∃ X, w3a.setCell ⟨w.heap.size + 3, 1, none⟩ (.slice a' (en + fn) c') = X := ⟨_, rfl⟩
  have hon : Only (w.heap.size + 3) w3a w3 := by rw [← hw]; exact Only.set _ _ _
  have hN2 := blk_set hN 1 (.slice a' (en + fn) c')
  rw [hw] at hN2 ⊢
  clear hw cc ff
  have HN3 := Lib.hid hN2
  have HC3 := Lib.hid (hon.blk hC (by omega))
  have HB3 := Lib.hid (hB.trans (hon.to_below (by omega) (by omega)))
  have HS3 := Lib.hid (Nat.le_trans hSz hon.size)
  have Ok3 := Lib.hid (own_only' Ok hon (by omega))
  have Ot3 := Lib.hid (own_only' Ot hon (by omega))
  have Oe3 := Lib.hid (own_only' HOWN.out hon (by omega))
  obtain ⟨ea3, ec3, he3⟩ : ∃ a c, a = a' ∧ c = c' := ⟨_, _, rfl, rfl⟩
  obtain ⟨rfl, rfl⟩ := he3
  clear hN hC hB hN2 hon hSz hbs hbw Ok Ot
  obtain ⟨n0, n1, n2, n3⟩ := bx_blk73 HN3.out
  obtain ⟨x0, x1, x2, x3⟩ := Bx.upto HX.out HB3.out (by omega)
  obtain ⟨y0, y1, y2, y3⟩ := Bx.upto HY.out HB3.out (by omega)
  have hbw : Below w.heap.size w w3 := hb1.trans (HB3.out.mono (by omega))
  have hbs : (w.heap.size + 4) ≤ w3.heap.size := HS3.out
  go_wp2_with (at_builtin; go_loud (refine wpList_append_row rfl _ _ 67 rfl (w.heap.size + 4) 3 ik _ 1 8 Try.underlying67 hik ik0 ik1 ik2 rfl (by decide) _ (0) (ics ([])) rfl Ok3.out (.slice k0 kn kc) rfl ks.length (ics ks) (HKS.out.below hbw) (ics_one _) (by have hl_ := HKSN.out; unfold maxLen; omega) (by have hl_ := HKSN.out; omega) (by have hl_ := HKSN.out; first | omega | (simp; done) | (simp; omega)) ?_))
  intro v' w4a hown hg
  have hown : w4a.ownsRow (w.heap.size + 4) 3 1 v' kn (ics ks) := by
    rw [← HKSN.out]
    first | exact hown | (rw [Nat.zero_add] at hown; exact hown)
  obtain ⟨a', c', hv'⟩ := own_slice hown
  subst hv'
  have hN := grown_blk HN3.out Ok3.out hg (by omega)
  have hC := grown_blk HC3.out Ok3.out hg (by omega)
  have hB : Below (w.heap.size + 1 + 1) w1 w4a := HB3.out.grown hg (by omega) (fun g hg2 => by have := (Ok3.out.lt g hg2).1; omega)
  have hSz : (w.heap.size + 4) ≤ w4a.heap.size := Nat.le_trans hbs hg.size
  have Oe := own_apart Oe3.out Ok3.out (by decide) hg
  have Ot := own_apart Ot3.out Ok3.out (by decide) hg
  have cc : w4a.cell? ⟨w.heap.size + 3, 2, none⟩ = some (.slice none 0 0) := by rw [blk_cell hN]; rfl
  have ff := blk_free hN 2
  have HOWN := Lib.hid hown
  clear hown hg n0 n1 n2 n3 x0 x1 x2 x3 y0 y1 y2 y3
  go_upto_region 7 with (fail)
  obtain ⟨w4, hw⟩ : ∃ X, w4a.setCell ⟨w.heap.size + 3, 2, none⟩ (.slice a' (kn) c') = X := ⟨_, rfl⟩
  have hon : Only (w.heap.size + 3) w4a w4 := by rw [← hw]; exact Only.set _ _ _
  have hN2 := blk_set hN 2 (.slice a' (kn) c')
  rw [hw] at hN2 ⊢
  clear hw cc ff
  have HN4 := Lib.hid hN2
  have HC4 := Lib.hid (hon.blk hC (by omega))
  have HB4 := Lib.hid (hB.trans (hon.to_below (by omega) (by omega)))
  have HS4 := Lib.hid (Nat.le_trans hSz hon.size)
  have Oe4 := Lib.hid (own_only' Oe hon (by omega))
  have Ot4 := Lib.hid (own_only' Ot hon (by omega))
  have Ok4 := Lib.hid (own_only' HOWN.out hon (by omega))
  obtain ⟨ka4, kc4, he4⟩ : ∃ a c, a = a' ∧ c = c' := ⟨_, _, rfl, rfl⟩
  obtain ⟨rfl, rfl⟩ := he4
  clear hN hC hB hN2 hon hSz hbs hbw Oe Ot
  obtain ⟨n0, n1, n2, n3⟩ := bx_blk73 HN4.out
  obtain ⟨x0, x1, x2, x3⟩ := Bx.upto HX.out HB4.out (by omega)
  obtain ⟨y0, y1, y2, y3⟩ := Bx.upto HY.out HB4.out (by omega)
  have hbw : Below w.heap.size w w4 := hb1.trans (HB4.out.mono (by omega))
  have hbs : (w.heap.size + 4) ≤ w4.heap.size := HS4.out
  go_wp2_with (at_builtin; go_loud (refine wpList_append_row rfl _ _ 67 rfl (w.heap.size + 4) 3 ik _ 1 8 Try.underlying67 hik ik0 ik1 ik2 rfl (by decide) _ (kn) (ics (ks)) rfl Ok4.out (.slice j0 jn jc) rfl js.length (ics js) (HJ.out.below hbw) (ics_one _) (by have hl_ := HJSN.out; unfold maxLen; omega) (by have hl_ := HJSN.out; omega) (by have hl_ := HJSN.out; first | omega | (simp; done) | (simp; omega)) ?_))
  intro v' w5a hown hg
  have hown : w5a.ownsRow (w.heap.size + 4) 3 1 v' (kn + jn) (ics (ks ++ js)) := by rw [ics_append, ← HJSN.out]; exact hown
  obtain ⟨a', c', hv'⟩ := own_slice hown
  subst hv'
  have hN := grown_blk HN4.out Ok4.out hg (by omega)
  have hC := grown_blk HC4.out Ok4.out hg (by omega)
  have hB : Below (w.heap.size + 1 + 1) w1 w5a := HB4.out.grown hg (by omega) (fun g hg2 => by have := (Ok4.out.lt g hg2).1; omega)
  have hSz : (w.heap.size + 4) ≤ w5a.heap.size := Nat.le_trans hbs hg.size
  have Oe := own_apart Oe4.out Ok4.out (by decide) hg
  have Ot := own_apart Ot4.out Ok4.out (by decide) hg
  have cc : w5a.cell? ⟨w.heap.size + 3, 2, none⟩ = some (.slice ka4 (kn) kc4) := by rw [blk_cell hN]; rfl
  have ff := blk_free hN 2
  have HOWN := Lib.hid hown
  clear hown hg n0 n1 n2 n3 x0 x1 x2 x3 y0 y1 y2 y3
  go_upto_region 8 with (fail)
  obtain ⟨w5, hw⟩ : ∃ X, w5a.setCell ⟨w.heap.size + 3, 2, none⟩ (.slice a' (kn + jn) c') = X := ⟨_, rfl⟩
  have hon : Only (w.heap.size + 3) w5a w5 := by rw [← hw]; exact Only.set _ _ _
  have hN2 := blk_set hN 2 (.slice a' (kn + jn) c')
  rw [hw] at hN2 ⊢
  clear hw cc ff
  have HN5 := Lib.hid hN2
  have HC5 := Lib.hid (hon.blk hC (by omega))
  have HB5 := Lib.hid (hB.trans (hon.to_below (by omega) (by omega)))
  have HS5 := Lib.hid (Nat.le_trans hSz hon.size)
  have Oe5 := Lib.hid (own_only' Oe hon (by omega))
  have Ot5 := Lib.hid (own_only' Ot hon (by omega))
  have Ok5 := Lib.hid (own_only' HOWN.out hon (by omega))
  obtain ⟨ka5, kc5, he5⟩ : ∃ a c, a = a' ∧ c = c' := ⟨_, _, rfl, rfl⟩
  obtain ⟨rfl, rfl⟩ := he5
  clear hN hC hB hN2 hon hSz hbs hbw Oe Ot
  obtain ⟨n0, n1, n2, n3⟩ := bx_blk73 HN5.out
  obtain ⟨x0, x1, x2, x3⟩ := Bx.upto HX.out HB5.out (by omega)
  obtain ⟨y0, y1, y2, y3⟩ := Bx.upto HY.out HB5.out (by omega)
  have hbw : Below w.heap.size w w5 := hb1.trans (HB5.out.mono (by omega))
  have hbs : (w.heap.size + 4) ≤ w5.heap.size := HS5.out
  go_wp2_with (at_builtin; go_loud (refine wpList_append_row rfl _ _ 22 rfl (w.heap.size + 4) 9 it _ 1 16 Try.underlying22 hit it0 it1 it2 rfl (by decide) _ (0) (tcs ([])) rfl Ot5.out (.slice s0 sn sc) rfl ss.length (tcs ss) (HS.out.below hbw) (tcs_one _) (by have hl_ := HSSN.out; unfold maxLen; omega) (by have hl_ := HSSN.out; omega) (by have hl_ := HSSN.out; first | omega | (simp; done) | (simp; omega)) ?_))
  intro v' w6a hown hg
  have hown : w6a.ownsRow (w.heap.size + 4) 9 1 v' sn (tcs ss) := by
    rw [← HSSN.out]
    first | exact hown | (rw [Nat.zero_add] at hown; exact hown)
  obtain ⟨a', c', hv'⟩ := own_slice hown
  subst hv'
  have hN := grown_blk HN5.out Ot5.out hg (by omega)
  have hC := grown_blk HC5.out Ot5.out hg (by omega)
  have hB : Below (w.heap.size + 1 + 1) w1 w6a := HB5.out.grown hg (by omega) (fun g hg2 => by have := (Ot5.out.lt g hg2).1; omega)
  have hSz : (w.heap.size + 4) ≤ w6a.heap.size := Nat.le_trans hbs hg.size
  have Oe := own_apart Oe5.out Ot5.out (by decide) hg
  have Ok := own_apart Ok5.out Ot5.out (by decide) hg
  have cc : w6a.cell? ⟨w.heap.size + 3, 3, none⟩ = some (.slice none 0 0) := by rw [blk_cell hN]; rfl
  have ff := blk_free hN 3
  have HOWN := Lib.hid hown
  clear hown hg n0 n1 n2 n3 x0 x1 x2 x3 y0 y1 y2 y3
  go_upto_region 9 with (fail)
  obtain ⟨w6, hw⟩ : ∃ X, w6a.setCell ⟨w.heap.size + 3, 3, none⟩ (.slice a' (sn) c') = X := ⟨_, rfl⟩
  have hon : Only (w.heap.size + 3) w6a w6 := by rw [← hw]; exact Only.set _ _ _
  have hN2 := blk_set hN 3 (.slice a' (sn) c')
  rw [hw] at hN2 ⊢
  clear hw cc ff
  have HN6 := Lib.hid hN2
  have HC6 := Lib.hid (hon.blk hC (by omega))
  have HB6 := Lib.hid (hB.trans (hon.to_below (by omega) (by omega)))
  have HS6 := Lib.hid (Nat.le_trans hSz hon.size)
  have Oe6 := Lib.hid (own_only' Oe hon (by omega))
  have Ok6 := Lib.hid (own_only' Ok hon (by omega))
  have Ot6 := Lib.hid (own_only' HOWN.out hon (by omega))
  obtain ⟨ta6, tc6, he6⟩ : ∃ a c, a = a' ∧ c = c' := ⟨_, _, rfl, rfl⟩
  obtain ⟨rfl, rfl⟩ := he6
  clear hN hC hB hN2 hon hSz hbs hbw Oe Ok
  obtain ⟨x0, x1, x2, x3⟩ := Bx.upto HX.out HB6.out (by omega)
  go_upto_region 11 with (fail)
  clear x0 x1 x2 x3
  obtain ⟨n0, n1, n2, n3⟩ := bx_blk73 HN6.out
  obtain ⟨x0, x1, x2, x3⟩ := Bx.upto HX.out HB6.out (by omega)
  obtain ⟨y0, y1, y2, y3⟩ := Bx.upto HY.out HB6.out (by omega)
  have hbw : Below w.heap.size w w6 := hb1.trans (HB6.out.mono (by omega))
  have hbs : (w.heap.size + 4) ≤ w6.heap.size := HS6.out
  go_wp2_with (at_builtin; go_loud (refine wpList_append_row rfl _ _ 22 rfl (w.heap.size + 4) 9 it _ 1 16 Try.underlying22 hit it0 it1 it2 rfl (by decide) _ (sn) (tcs (ss)) rfl Ot6.out (.slice t0 tn tc) rfl ts.length (tcs ts) (HT.out.below hbw) (tcs_one _) (by have hl_ := HTSN.out; unfold maxLen; omega) (by have hl_ := HTSN.out; omega) (by have hl_ := HTSN.out; first | omega | (simp; done) | (simp; omega)) ?_))
  intro v' w7a hown hg
  have hown : w7a.ownsRow (w.heap.size + 4) 9 1 v' (sn + tn) (tcs (ss ++ ts)) := by rw [tcs_append, ← HTSN.out]; exact hown
  obtain ⟨a', c', hv'⟩ := own_slice hown
  subst hv'
  have hN := grown_blk HN6.out Ot6.out hg (by omega)
  have hC := grown_blk HC6.out Ot6.out hg (by omega)
  have hB : Below (w.heap.size + 1 + 1) w1 w7a := HB6.out.grown hg (by omega) (fun g hg2 => by have := (Ot6.out.lt g hg2).1; omega)
  have hSz : (w.heap.size + 4) ≤ w7a.heap.size := Nat.le_trans hbs hg.size
  have Oe := own_apart Oe6.out Ot6.out (by decide) hg
  have Ok := own_apart Ok6.out Ot6.out (by decide) hg
  have cc : w7a.cell? ⟨w.heap.size + 3, 3, none⟩ = some (.slice ta6 (sn) tc6) := by rw [blk_cell hN]; rfl
  have ff := blk_free hN 3
  have HOWN := Lib.hid hown
  clear hown hg n0 n1 n2 n3 x0 x1 x2 x3 y0 y1 y2 y3
  go_upto_region 12 with (fail)
  obtain ⟨w7, hw⟩ : ∃ X, w7a.setCell ⟨w.heap.size + 3, 3, none⟩ (.slice a' (sn + tn) c') = X := ⟨_, rfl⟩
  have hon : Only (w.heap.size + 3) w7a w7 := by rw [← hw]; exact Only.set _ _ _
  have hN2 := blk_set hN 3 (.slice a' (sn + tn) c')
  rw [hw] at hN2 ⊢
  clear hw cc ff
  have HN7 := Lib.hid hN2
  have HC7 := Lib.hid (hon.blk hC (by omega))
  have HB7 := Lib.hid (hB.trans (hon.to_below (by omega) (by omega)))
  have HS7 := Lib.hid (Nat.le_trans hSz hon.size)
  have Oe7 := Lib.hid (own_only' Oe hon (by omega))
  have Ok7 := Lib.hid (own_only' Ok hon (by omega))
  have Ot7 := Lib.hid (own_only' HOWN.out hon (by omega))
  obtain ⟨ta7, tc7, he7⟩ : ∃ a c, a = a' ∧ c = c' := ⟨_, _, rfl, rfl⟩
  obtain ⟨rfl, rfl⟩ := he7
  clear hN hC hB hN2 hon hSz hbs hbw Oe Ok
  obtain ⟨n0, n1, n2, n3⟩ := bx_blk73 HN7.out
  go_wp2_with (refine wpList_store73 rfl _ _ rfl (w.heap.size + 1 + 1) rfl rfl ⟨_, _, _, _, HC7.out⟩ ?_)
  intro w9 hz9 hon9
  have HZ9 := Lib.hid hz9; have HON := Lib.hid hon9
  clear n0 n1 n2 n3 hz9 hon9
  go_wp2
  have hon := HON.out
  have f1 := own_only' Oe7.out hon (by omega)
  have f2 := own_only' Ok7.out hon (by omega)
  have f3 := own_only' Ot7.out hon (by omega)
  have hb9 : Below w.heap.size w w9 := (hb1.trans (HB7.out.mono (by omega))).trans (hon.to_below (by omega) (by have := HS7.out; omega))
  refine bodyPost_ret (res_one rfl rfl (load73 (bx_blk73 HZ9.out))) rfl ?_
  refine ⟨_, rfl, ?_, hb9⟩
  have l1 : en + fn = (es ++ fs).length := by rw [List.length_append, HESN.out, HFSN.out]
  have l2 : kn + jn = (ks ++ js).length := by rw [List.length_append, HKSN.out, HJSN.out]
  have l3 : sn + tn = (ss ++ ts).length := by simp only [List.length_append, List.length_cons, List.length_nil, HSSN.out, HTSN.out]
  rw [l1] at f1 ⊢
  rw [l2] at f2 ⊢
  rw [l3] at f3 ⊢
  first
  | exact ⟨_, _, _, _, _, _, rfl, own_mono f1 (by omega), own_mono f2 (by omega), own_mono f3 (by omega)⟩
  | (have hfin : NdO w9 w.heap.size _ ⟨true, es ++ fs, ks ++ js, ss ++ ts⟩ := ⟨_, _, _, _, _, _, rfl, own_mono f1 (by omega), own_mono f2 (by omega), own_mono f3 (by omega)⟩
     simpa using hfin)
set_option maxRecDepth 100000 in
set_option maxHeartbeats 8000000 in
theorem rjoin_false (va vb : Value) (es fs : List Ent) (ks js : List Int) (ss ts : List ByteArray) (key : ByteArray) (w : World) (ha : NdV w va ⟨false, es, ks, ss⟩) (hb : NdV w vb ⟨false, fs, js, ts⟩) (hda : Bd ⟨false, es, ks, ss⟩) (hdb : Bd ⟨false, fs, js, ts⟩) :
    Calls Try.prog 57 #[va, .string key, vb] w fun r w' => ∃ v, r = .returned v ∧ NdO w' w.heap.size v ⟨false, es ++ fs, ks ++ js, ss ++ [key] ++ ts⟩ ∧ Below w.heap.size w w' := by
  obtain ⟨c1, c2, c3, _, _⟩ := hda
  obtain ⟨d1, d2, d3, _, _⟩ := hdb
  obtain ⟨ie, hie, ie0, ie1, ie2⟩ := info_parts E.info49
  obtain ⟨ik, hik, ik0, ik1, ik2⟩ := info_parts info3
  obtain ⟨it, hit, it0, it1, it2⟩ := info_parts info9
  obtain ⟨e0, ec, k0, kc, s0, sc, rfl, he, hk, hs⟩ := ha
  obtain ⟨f0, fc, j0, jc, t0, tc, rfl, hf, hj, ht⟩ := hb
  dsimp only at he hk hs hf hj ht c1 c2 c3 d1 d2 d3 ⊢
  obtain ⟨en, hen⟩ : ∃ x, es.length = x := ⟨_, rfl⟩
  obtain ⟨kn, hkn⟩ : ∃ x, ks.length = x := ⟨_, rfl⟩
  obtain ⟨sn, hsn⟩ : ∃ x, ss.length = x := ⟨_, rfl⟩
  obtain ⟨fn, hfn⟩ : ∃ x, fs.length = x := ⟨_, rfl⟩
  obtain ⟨jn, hjn⟩ : ∃ x, js.length = x := ⟨_, rfl⟩
  obtain ⟨tn, htn⟩ : ∃ x, ts.length = x := ⟨_, rfl⟩
  have e1 : en ≤ 10000 := by rw [← hen]; exact c1
  have e2 : kn ≤ 10000 := by rw [← hkn]; exact c2
  have e3 : sn ≤ 10000 := by rw [← hsn]; exact c3
  have e4 : fn ≤ 10000 := by rw [← hfn]; exact d1
  have e5 : jn ≤ 10000 := by rw [← hjn]; exact d2
  have e6 : tn ≤ 10000 := by rw [← htn]; exact d3
  rw [hen] at he ⊢
  rw [hkn] at hk ⊢
  rw [hsn] at hs ⊢
  rw [hfn] at hf ⊢
  rw [hjn] at hj ⊢
  rw [htn] at ht ⊢
  have HE := Lib.hid he; have HKS := Lib.hid hk; have HS := Lib.hid hs
  have HF := Lib.hid hf; have HJ := Lib.hid hj; have HT := Lib.hid ht
  have HESN := Lib.hid hen; have HKSN := Lib.hid hkn; have HSSN := Lib.hid hsn; have HFSN := Lib.hid hfn; have HJSN := Lib.hid hjn; have HTSN := Lib.hid htn
  clear he hk hs hf hj ht hen hkn hsn hfn hjn htn
  go_enter Try.func57, Try.ntmps57
  go_upto_region 1 with (fail)
  obtain ⟨wa, hwa⟩ : ∃ W, w.alloc (.cells #[.bool false, .slice e0 en ec, .slice k0 kn kc, .slice s0 sn sc] 73) = W := ⟨_, rfl⟩
  have hza : wa.heap.size = w.heap.size + 1 := by rw [← hwa]; simp
  have hx : Bx wa w.heap.size false (.slice e0 en ec) (.slice k0 kn kc) (.slice s0 sn sc) := by rw [← hwa]; exact Bx.new _ _ _ _ _ _
  have hba : Below w.heap.size w wa := by rw [← hwa]; exact (Below.refl _ w).alloc (Nat.le_refl _) _
  rw [hwa]
  clear hwa
  obtain ⟨wb, hwb⟩ : ∃ W, wa.alloc (.cells #[.bool false, .slice f0 fn fc, .slice j0 jn jc, .slice t0 tn tc] 73) = W := ⟨_, rfl⟩
  have hzb : wb.heap.size = w.heap.size + 2 := by rw [← hwb]; simp [hza]
  have hy : Bx wb (w.heap.size + 1) false (.slice f0 fn fc) (.slice j0 jn jc) (.slice t0 tn tc) := by rw [← hwb, ← hza]; exact Bx.new _ _ _ _ _ _
  have hbb : Below wa.heap.size wa wb := by rw [← hwb]; exact (Below.refl _ wa).alloc (Nat.le_refl _) _
  rw [hwb]
  clear hwb
  obtain ⟨wc, hwc⟩ : ∃ W, wb.alloc (.cells #[.bool false, .slice none 0 0, .slice none 0 0, .slice none 0 0] 73) = W := ⟨_, rfl⟩
  have hzc : wc.heap.size = w.heap.size + 3 := by rw [← hwc]; simp [hzb]
  have hC : wc.heap[w.heap.size + 1 + 1]? = some (.cells #[.bool false, .slice none 0 0, .slice none 0 0, .slice none 0 0] 73 (0, 0)) := by rw [← hwc, ← hzb]; exact blk_new _ _
  have hbc : Below wb.heap.size wb wc := by rw [← hwc]; exact (Below.refl _ wb).alloc (Nat.le_refl _) _
  rw [hwc]
  clear hwc
  have hx := (hx.below hbb).below hbc
  have hy := hy.below hbc
  have hb1 := (hba.trans (hbb.mono hba.size)).trans (hbc.mono (Nat.le_trans hba.size hbb.size))
  clear hba hbb hbc hza hzb
  obtain ⟨x0, x1, x2, x3⟩ := hx
  obtain ⟨y0, y1, y2, y3⟩ := hy
  go_upto_region 4 with (fail)
  obtain ⟨w1, hw1⟩ : ∃ W, wc.alloc (.cells #[.bool false, .slice none 0 0, .slice none 0 0, .slice none 0 0] 73) = W := ⟨_, rfl⟩
  have hz1 : w1.heap.size = w.heap.size + 4 := by rw [← hw1]; simp [hzc]
  have hN : w1.heap[w.heap.size + 3]? = some (.cells #[.bool false, .slice none 0 0, .slice none 0 0, .slice none 0 0] 73 (0, 0)) := by rw [← hw1, show w.heap.size + 3 = wc.heap.size by omega]; exact blk_new _ _
  have hbd : Below wc.heap.size wc w1 := by rw [← hw1]; exact (Below.refl _ wc).alloc (Nat.le_refl _) _
  rw [hw1]
  clear hw1
  have hx : Bx w1 w.heap.size false (.slice e0 en ec) (.slice k0 kn kc) (.slice s0 sn sc) := ⟨bcell hbd x0, bcell hbd x1, bcell hbd x2, bcell hbd x3⟩
  have hy : Bx w1 (w.heap.size + 1) false (.slice f0 fn fc) (.slice j0 jn jc) (.slice t0 tn tc) := ⟨bcell hbd y0, bcell hbd y1, bcell hbd y2, bcell hbd y3⟩
  have hC := blk_below hC hbd
  have hb1 := hb1.trans (hbd.mono hb1.size)
  have HX := Lib.hid hx; have HY := Lib.hid hy
  have HN1 := Lib.hid hN; have HC1 := Lib.hid hC; have HB1 := Lib.hid (Below.refl (w.heap.size + 1 + 1) w1); have HS1 := Lib.hid (Nat.le_of_eq hz1.symm)
  have Oe1 := Lib.hid (World.ownsRow_nil w1 (w.heap.size + 4) 49 2); have Ok1 := Lib.hid (World.ownsRow_nil w1 (w.heap.size + 4) 3 1); have Ot1 := Lib.hid (World.ownsRow_nil w1 (w.heap.size + 4) 9 1)
  clear x0 x1 x2 x3 y0 y1 y2 y3 hbd hx hy hN hC hzc hz1 c1 c2 c3 d1 d2 d3
  obtain ⟨n0, n1, n2, n3⟩ := bx_blk73 HN1.out
  obtain ⟨x0, x1, x2, x3⟩ := Bx.upto HX.out HB1.out (by omega)
  obtain ⟨y0, y1, y2, y3⟩ := Bx.upto HY.out HB1.out (by omega)
  have hbw : Below w.heap.size w w1 := hb1.trans (HB1.out.mono (by omega))
  have hbs : (w.heap.size + 4) ≤ w1.heap.size := HS1.out
  go_wp2_with (at_builtin; go_loud (refine wpList_append_row rfl _ _ 43 rfl (w.heap.size + 4) 49 ie _ 2 32 Try.underlying43 hie ie0 ie1 ie2 rfl (by decide) _ (0) (ecs ([])) rfl Oe1.out (.slice e0 en ec) rfl es.length (ecs es) (HE.out.below hbw) (ecs_one _) (by have hl_ := HESN.out; unfold maxLen; omega) (by have hl_ := HESN.out; omega) (by have hl_ := HESN.out; first | omega | (simp; done) | (simp; omega)) ?_))
  intro v' w2a hown hg
  have hown : w2a.ownsRow (w.heap.size + 4) 49 2 v' en (ecs es) := by
    rw [← HESN.out]
    first | exact hown | (rw [Nat.zero_add] at hown; exact hown)
  obtain ⟨a', c', hv'⟩ := own_slice hown
  subst hv'
  have hN := grown_blk HN1.out Oe1.out hg (by omega)
  have hC := grown_blk HC1.out Oe1.out hg (by omega)
  have hB : Below (w.heap.size + 1 + 1) w1 w2a := HB1.out.grown hg (by omega) (fun g hg2 => by have := (Oe1.out.lt g hg2).1; omega)
  have hSz : (w.heap.size + 4) ≤ w2a.heap.size := Nat.le_trans hbs hg.size
  have Ok := own_apart Ok1.out Oe1.out (by decide) hg
  have Ot := own_apart Ot1.out Oe1.out (by decide) hg
  have cc : w2a.cell? ⟨w.heap.size + 3, 1, none⟩ = some (.slice none 0 0) := by rw [blk_cell hN]; rfl
  have ff := blk_free hN 1
  have HOWN := Lib.hid hown
  clear hown hg n0 n1 n2 n3 x0 x1 x2 x3 y0 y1 y2 y3
  go_upto_region 5 with (fail)
  obtain ⟨w2, hw⟩ : ∃ X, w2a.setCell ⟨w.heap.size + 3, 1, none⟩ (.slice a' (en) c') = X := ⟨_, rfl⟩
  have hon : Only (w.heap.size + 3) w2a w2 := by rw [← hw]; exact Only.set _ _ _
  have hN2 := blk_set hN 1 (.slice a' (en) c')
  rw [hw] at hN2 ⊢
  clear hw cc ff
  have HN2 := Lib.hid hN2
  have HC2 := Lib.hid (hon.blk hC (by omega))
  have HB2 := Lib.hid (hB.trans (hon.to_below (by omega) (by omega)))
  have HS2 := Lib.hid (Nat.le_trans hSz hon.size)
  have Ok2 := Lib.hid (own_only' Ok hon (by omega))
  have Ot2 := Lib.hid (own_only' Ot hon (by omega))
  have Oe2 := Lib.hid (own_only' HOWN.out hon (by omega))
  obtain ⟨ea2, ec2, he2⟩ : ∃ a c, a = a' ∧ c = c' := ⟨_, _, rfl, rfl⟩
  obtain ⟨rfl, rfl⟩ := he2
  clear hN hC hB hN2 hon hSz hbs hbw Ok Ot
  obtain ⟨n0, n1, n2, n3⟩ := bx_blk73 HN2.out
  obtain ⟨x0, x1, x2, x3⟩ := Bx.upto HX.out HB2.out (by omega)
  obtain ⟨y0, y1, y2, y3⟩ := Bx.upto HY.out HB2.out (by omega)
  have hbw : Below w.heap.size w w2 := hb1.trans (HB2.out.mono (by omega))
  have hbs : (w.heap.size + 4) ≤ w2.heap.size := HS2.out
  go_wp2_with (at_builtin; go_loud (refine wpList_append_row rfl _ _ 43 rfl (w.heap.size + 4) 49 ie _ 2 32 Try.underlying43 hie ie0 ie1 ie2 rfl (by decide) _ (en) (ecs (es)) rfl Oe2.out (.slice f0 fn fc) rfl fs.length (ecs fs) (HF.out.below hbw) (ecs_one _) (by have hl_ := HFSN.out; unfold maxLen; omega) (by have hl_ := HFSN.out; omega) (by have hl_ := HFSN.out; first | omega | (simp; done) | (simp; omega)) ?_))
  intro v' w3a hown hg
  have hown : w3a.ownsRow (w.heap.size + 4) 49 2 v' (en + fn) (ecs (es ++ fs)) := by rw [ecs_append, ← HFSN.out]; exact hown
  obtain ⟨a', c', hv'⟩ := own_slice hown
  subst hv'
  have hN := grown_blk HN2.out Oe2.out hg (by omega)
  have hC := grown_blk HC2.out Oe2.out hg (by omega)
  have hB : Below (w.heap.size + 1 + 1) w1 w3a := HB2.out.grown hg (by omega) (fun g hg2 => by have := (Oe2.out.lt g hg2).1; omega)
  have hSz : (w.heap.size + 4) ≤ w3a.heap.size := Nat.le_trans hbs hg.size
  have Ok := own_apart Ok2.out Oe2.out (by decide) hg
  have Ot := own_apart Ot2.out Oe2.out (by decide) hg
  have cc : w3a.cell? ⟨w.heap.size + 3, 1, none⟩ = some (.slice ea2 (en) ec2) := by rw [blk_cell hN]; rfl
  have ff := blk_free hN 1
  have HOWN := Lib.hid hown
  clear hown hg n0 n1 n2 n3 x0 x1 x2 x3 y0 y1 y2 y3
  go_upto_region 6 with (fail)
  obtain ⟨w3, hw⟩ : ∃ X, w3a.setCell ⟨w.heap.size + 3, 1, none⟩ (.slice a' (en + fn) c') = X := ⟨_, rfl⟩
  have hon : Only (w.heap.size + 3) w3a w3 := by rw [← hw]; exact Only.set _ _ _
  have hN2 := blk_set hN 1 (.slice a' (en + fn) c')
  rw [hw] at hN2 ⊢
  clear hw cc ff
  have HN3 := Lib.hid hN2
  have HC3 := Lib.hid (hon.blk hC (by omega))
  have HB3 := Lib.hid (hB.trans (hon.to_below (by omega) (by omega)))
  have HS3 := Lib.hid (Nat.le_trans hSz hon.size)
  have Ok3 := Lib.hid (own_only' Ok hon (by omega))
  have Ot3 := Lib.hid (own_only' Ot hon (by omega))
  have Oe3 := Lib.hid (own_only' HOWN.out hon (by omega))
  obtain ⟨ea3, ec3, he3⟩ : ∃ a c, a = a' ∧ c = c' := ⟨_, _, rfl, rfl⟩
  obtain ⟨rfl, rfl⟩ := he3
  clear hN hC hB hN2 hon hSz hbs hbw Ok Ot
  obtain ⟨n0, n1, n2, n3⟩ := bx_blk73 HN3.out
  obtain ⟨x0, x1, x2, x3⟩ := Bx.upto HX.out HB3.out (by omega)
  obtain ⟨y0, y1, y2, y3⟩ := Bx.upto HY.out HB3.out (by omega)
  have hbw : Below w.heap.size w w3 := hb1.trans (HB3.out.mono (by omega))
  have hbs : (w.heap.size + 4) ≤ w3.heap.size := HS3.out
  go_wp2_with (at_builtin; go_loud (refine wpList_append_row rfl _ _ 67 rfl (w.heap.size + 4) 3 ik _ 1 8 Try.underlying67 hik ik0 ik1 ik2 rfl (by decide) _ (0) (ics ([])) rfl Ok3.out (.slice k0 kn kc) rfl ks.length (ics ks) (HKS.out.below hbw) (ics_one _) (by have hl_ := HKSN.out; unfold maxLen; omega) (by have hl_ := HKSN.out; omega) (by have hl_ := HKSN.out; first | omega | (simp; done) | (simp; omega)) ?_))
  intro v' w4a hown hg
  have hown : w4a.ownsRow (w.heap.size + 4) 3 1 v' kn (ics ks) := by
    rw [← HKSN.out]
    first | exact hown | (rw [Nat.zero_add] at hown; exact hown)
  obtain ⟨a', c', hv'⟩ := own_slice hown
  subst hv'
  have hN := grown_blk HN3.out Ok3.out hg (by omega)
  have hC := grown_blk HC3.out Ok3.out hg (by omega)
  have hB : Below (w.heap.size + 1 + 1) w1 w4a := HB3.out.grown hg (by omega) (fun g hg2 => by have := (Ok3.out.lt g hg2).1; omega)
  have hSz : (w.heap.size + 4) ≤ w4a.heap.size := Nat.le_trans hbs hg.size
  have Oe := own_apart Oe3.out Ok3.out (by decide) hg
  have Ot := own_apart Ot3.out Ok3.out (by decide) hg
  have cc : w4a.cell? ⟨w.heap.size + 3, 2, none⟩ = some (.slice none 0 0) := by rw [blk_cell hN]; rfl
  have ff := blk_free hN 2
  have HOWN := Lib.hid hown
  clear hown hg n0 n1 n2 n3 x0 x1 x2 x3 y0 y1 y2 y3
  go_upto_region 7 with (fail)
  obtain ⟨w4, hw⟩ : ∃ X, w4a.setCell ⟨w.heap.size + 3, 2, none⟩ (.slice a' (kn) c') = X := ⟨_, rfl⟩
  have hon : Only (w.heap.size + 3) w4a w4 := by rw [← hw]; exact Only.set _ _ _
  have hN2 := blk_set hN 2 (.slice a' (kn) c')
  rw [hw] at hN2 ⊢
  clear hw cc ff
  have HN4 := Lib.hid hN2
  have HC4 := Lib.hid (hon.blk hC (by omega))
  have HB4 := Lib.hid (hB.trans (hon.to_below (by omega) (by omega)))
  have HS4 := Lib.hid (Nat.le_trans hSz hon.size)
  have Oe4 := Lib.hid (own_only' Oe hon (by omega))
  have Ot4 := Lib.hid (own_only' Ot hon (by omega))
  have Ok4 := Lib.hid (own_only' HOWN.out hon (by omega))
  obtain ⟨ka4, kc4, he4⟩ : ∃ a c, a = a' ∧ c = c' := ⟨_, _, rfl, rfl⟩
  obtain ⟨rfl, rfl⟩ := he4
  clear hN hC hB hN2 hon hSz hbs hbw Oe Ot
  obtain ⟨n0, n1, n2, n3⟩ := bx_blk73 HN4.out
  obtain ⟨x0, x1, x2, x3⟩ := Bx.upto HX.out HB4.out (by omega)
  obtain ⟨y0, y1, y2, y3⟩ := Bx.upto HY.out HB4.out (by omega)
  have hbw : Below w.heap.size w w4 := hb1.trans (HB4.out.mono (by omega))
  have hbs : (w.heap.size + 4) ≤ w4.heap.size := HS4.out
  go_wp2_with (at_builtin; go_loud (refine wpList_append_row rfl _ _ 67 rfl (w.heap.size + 4) 3 ik _ 1 8 Try.underlying67 hik ik0 ik1 ik2 rfl (by decide) _ (kn) (ics (ks)) rfl Ok4.out (.slice j0 jn jc) rfl js.length (ics js) (HJ.out.below hbw) (ics_one _) (by have hl_ := HJSN.out; unfold maxLen; omega) (by have hl_ := HJSN.out; omega) (by have hl_ := HJSN.out; first | omega | (simp; done) | (simp; omega)) ?_))
  intro v' w5a hown hg
  have hown : w5a.ownsRow (w.heap.size + 4) 3 1 v' (kn + jn) (ics (ks ++ js)) := by rw [ics_append, ← HJSN.out]; exact hown
  obtain ⟨a', c', hv'⟩ := own_slice hown
  subst hv'
  have hN := grown_blk HN4.out Ok4.out hg (by omega)
  have hC := grown_blk HC4.out Ok4.out hg (by omega)
  have hB : Below (w.heap.size + 1 + 1) w1 w5a := HB4.out.grown hg (by omega) (fun g hg2 => by have := (Ok4.out.lt g hg2).1; omega)
  have hSz : (w.heap.size + 4) ≤ w5a.heap.size := Nat.le_trans hbs hg.size
  have Oe := own_apart Oe4.out Ok4.out (by decide) hg
  have Ot := own_apart Ot4.out Ok4.out (by decide) hg
  have cc : w5a.cell? ⟨w.heap.size + 3, 2, none⟩ = some (.slice ka4 (kn) kc4) := by rw [blk_cell hN]; rfl
  have ff := blk_free hN 2
  have HOWN := Lib.hid hown
  clear hown hg n0 n1 n2 n3 x0 x1 x2 x3 y0 y1 y2 y3
  go_upto_region 8 with (fail)
  obtain ⟨w5, hw⟩ : ∃ X, w5a.setCell ⟨w.heap.size + 3, 2, none⟩ (.slice a' (kn + jn) c') = X := ⟨_, rfl⟩
  have hon : Only (w.heap.size + 3) w5a w5 := by rw [← hw]; exact Only.set _ _ _
  have hN2 := blk_set hN 2 (.slice a' (kn + jn) c')
  rw [hw] at hN2 ⊢
  clear hw cc ff
  have HN5 := Lib.hid hN2
  have HC5 := Lib.hid (hon.blk hC (by omega))
  have HB5 := Lib.hid (hB.trans (hon.to_below (by omega) (by omega)))
  have HS5 := Lib.hid (Nat.le_trans hSz hon.size)
  have Oe5 := Lib.hid (own_only' Oe hon (by omega))
  have Ot5 := Lib.hid (own_only' Ot hon (by omega))
  have Ok5 := Lib.hid (own_only' HOWN.out hon (by omega))
  obtain ⟨ka5, kc5, he5⟩ : ∃ a c, a = a' ∧ c = c' := ⟨_, _, rfl, rfl⟩
  obtain ⟨rfl, rfl⟩ := he5
  clear hN hC hB hN2 hon hSz hbs hbw Oe Ot
  obtain ⟨n0, n1, n2, n3⟩ := bx_blk73 HN5.out
  obtain ⟨x0, x1, x2, x3⟩ := Bx.upto HX.out HB5.out (by omega)
  obtain ⟨y0, y1, y2, y3⟩ := Bx.upto HY.out HB5.out (by omega)
  have hbw : Below w.heap.size w w5 := hb1.trans (HB5.out.mono (by omega))
  have hbs : (w.heap.size + 4) ≤ w5.heap.size := HS5.out
  go_wp2_with (at_builtin; go_loud (refine wpList_append_row rfl _ _ 22 rfl (w.heap.size + 4) 9 it _ 1 16 Try.underlying22 hit it0 it1 it2 rfl (by decide) _ (0) (tcs ([])) rfl Ot5.out (.slice s0 sn sc) rfl ss.length (tcs ss) (HS.out.below hbw) (tcs_one _) (by have hl_ := HSSN.out; unfold maxLen; omega) (by have hl_ := HSSN.out; omega) (by have hl_ := HSSN.out; first | omega | (simp; done) | (simp; omega)) ?_))
  intro v' w6a hown hg
  have hown : w6a.ownsRow (w.heap.size + 4) 9 1 v' sn (tcs ss) := by
    rw [← HSSN.out]
    first | exact hown | (rw [Nat.zero_add] at hown; exact hown)
  obtain ⟨a', c', hv'⟩ := own_slice hown
  subst hv'
  have hN := grown_blk HN5.out Ot5.out hg (by omega)
  have hC := grown_blk HC5.out Ot5.out hg (by omega)
  have hB : Below (w.heap.size + 1 + 1) w1 w6a := HB5.out.grown hg (by omega) (fun g hg2 => by have := (Ot5.out.lt g hg2).1; omega)
  have hSz : (w.heap.size + 4) ≤ w6a.heap.size := Nat.le_trans hbs hg.size
  have Oe := own_apart Oe5.out Ot5.out (by decide) hg
  have Ok := own_apart Ok5.out Ot5.out (by decide) hg
  have cc : w6a.cell? ⟨w.heap.size + 3, 3, none⟩ = some (.slice none 0 0) := by rw [blk_cell hN]; rfl
  have ff := blk_free hN 3
  have HOWN := Lib.hid hown
  clear hown hg n0 n1 n2 n3 x0 x1 x2 x3 y0 y1 y2 y3
  go_upto_region 9 with (fail)
  obtain ⟨w6, hw⟩ : ∃ X, w6a.setCell ⟨w.heap.size + 3, 3, none⟩ (.slice a' (sn) c') = X := ⟨_, rfl⟩
  have hon : Only (w.heap.size + 3) w6a w6 := by rw [← hw]; exact Only.set _ _ _
  have hN2 := blk_set hN 3 (.slice a' (sn) c')
  rw [hw] at hN2 ⊢
  clear hw cc ff
  have HN6 := Lib.hid hN2
  have HC6 := Lib.hid (hon.blk hC (by omega))
  have HB6 := Lib.hid (hB.trans (hon.to_below (by omega) (by omega)))
  have HS6 := Lib.hid (Nat.le_trans hSz hon.size)
  have Oe6 := Lib.hid (own_only' Oe hon (by omega))
  have Ok6 := Lib.hid (own_only' Ok hon (by omega))
  have Ot6 := Lib.hid (own_only' HOWN.out hon (by omega))
  obtain ⟨ta6, tc6, he6⟩ : ∃ a c, a = a' ∧ c = c' := ⟨_, _, rfl, rfl⟩
  obtain ⟨rfl, rfl⟩ := he6
  clear hN hC hB hN2 hon hSz hbs hbw Oe Ok
  obtain ⟨x0, x1, x2, x3⟩ := Bx.upto HX.out HB6.out (by omega)
  go_upto_region 10 with (fail)
  clear x0 x1 x2 x3
  obtain ⟨n0, n1, n2, n3⟩ := bx_blk73 HN6.out
  obtain ⟨x0, x1, x2, x3⟩ := Bx.upto HX.out HB6.out (by omega)
  obtain ⟨y0, y1, y2, y3⟩ := Bx.upto HY.out HB6.out (by omega)
  have hbw : Below w.heap.size w w6 := hb1.trans (HB6.out.mono (by omega))
  have hbs : (w.heap.size + 4) ≤ w6.heap.size := HS6.out
  go_wp2_with (at_builtin; go_loud (refine wpList_append_row rfl _ _ 22 rfl (w.heap.size + 4) 9 it _ 1 16 Try.underlying22 hit it0 it1 it2 rfl (by decide) _ (sn) (tcs (ss)) rfl (Ot6.out.alloc _) (.slice (some ⟨w6.heap.size, 0, none⟩) 1 1) rfl 1 (tcs [key]) (new_txt w6 key 9) (tcs_one _) (by unfold maxLen; omega) (by omega) (by first | omega | (simp; done) | (simp; omega)) ?_))
  intro v' w7a hown hg
  have hown : w7a.ownsRow (w.heap.size + 4) 9 1 v' (sn + 1) (tcs (ss ++ [key])) := by rw [tcs_append]; exact hown
  obtain ⟨a', c', hv'⟩ := own_slice hown
  subst hv'
  have hal : Below w6.heap.size w6 (w6.alloc (.cells #[.string key] 9)) := (Below.refl _ _).alloc (Nat.le_refl _) _
  have hN := grown_blk (blk_below HN6.out hal) (Ot6.out.alloc (.cells #[.string key] 9)) hg (by omega)
  have hC := grown_blk (blk_below HC6.out hal) (Ot6.out.alloc (.cells #[.string key] 9)) hg (by omega)
  have hB : Below (w.heap.size + 1 + 1) w1 w7a := (HB6.out.alloc (by omega) _).grown hg (by have := hal.size; omega) (fun g hg2 => by have := ((Ot6.out.alloc (.cells #[.string key] 9)).lt g hg2).1; omega)
  have hSz : (w.heap.size + 4) ≤ w7a.heap.size := Nat.le_trans (Nat.le_trans hbs hal.size) hg.size
  have Oe := own_apart (own_below Oe6.out hal) (Ot6.out.alloc (.cells #[.string key] 9)) (by decide) hg
  have Ok := own_apart (own_below Ok6.out hal) (Ot6.out.alloc (.cells #[.string key] 9)) (by decide) hg
  have cc : w7a.cell? ⟨w.heap.size + 3, 3, none⟩ = some (.slice ta6 (sn) tc6) := by rw [blk_cell hN]; rfl
  have ff := blk_free hN 3
  have HOWN := Lib.hid hown
  clear hown hg n0 n1 n2 n3 x0 x1 x2 x3 y0 y1 y2 y3
  go_upto_region 11 with (fail)
  obtain ⟨w7, hw⟩ : ∃ X, w7a.setCell ⟨w.heap.size + 3, 3, none⟩ (.slice a' (sn + 1) c') = X := ⟨_, rfl⟩
  have hon : Only (w.heap.size + 3) w7a w7 := by rw [← hw]; exact Only.set _ _ _
  have hN2 := blk_set hN 3 (.slice a' (sn + 1) c')
  rw [hw] at hN2 ⊢
  clear hw cc ff
  have HN7 := Lib.hid hN2
  have HC7 := Lib.hid (hon.blk hC (by omega))
  have HB7 := Lib.hid (hB.trans (hon.to_below (by omega) (by omega)))
  have HS7 := Lib.hid (Nat.le_trans hSz hon.size)
  have Oe7 := Lib.hid (own_only' Oe hon (by omega))
  have Ok7 := Lib.hid (own_only' Ok hon (by omega))
  have Ot7 := Lib.hid (own_only' HOWN.out hon (by omega))
  obtain ⟨ta7, tc7, he7⟩ : ∃ a c, a = a' ∧ c = c' := ⟨_, _, rfl, rfl⟩
  obtain ⟨rfl, rfl⟩ := he7
  clear hN hC hB hN2 hon hSz hbs hbw Oe Ok
  obtain ⟨n0, n1, n2, n3⟩ := bx_blk73 HN7.out
  obtain ⟨x0, x1, x2, x3⟩ := Bx.upto HX.out HB7.out (by omega)
  obtain ⟨y0, y1, y2, y3⟩ := Bx.upto HY.out HB7.out (by omega)
  have hbw : Below w.heap.size w w7 := hb1.trans (HB7.out.mono (by omega))
  have hbs : (w.heap.size + 4) ≤ w7.heap.size := HS7.out
  go_wp2_with (at_builtin; go_loud (refine wpList_append_row rfl _ _ 22 rfl (w.heap.size + 4) 9 it _ 1 16 Try.underlying22 hit it0 it1 it2 rfl (by decide) _ (sn + 1) (tcs (ss ++ [key])) rfl Ot7.out (.slice t0 tn tc) rfl ts.length (tcs ts) (HT.out.below hbw) (tcs_one _) (by have hl_ := HTSN.out; unfold maxLen; omega) (by have hl_ := HTSN.out; omega) (by have hl_ := HTSN.out; first | omega | (simp; done) | (simp; omega)) ?_))
  intro v' w8a hown hg
  have hown : w8a.ownsRow (w.heap.size + 4) 9 1 v' (sn + 1 + tn) (tcs (ss ++ [key] ++ ts)) := by rw [tcs_append, ← HTSN.out]; exact hown
  obtain ⟨a', c', hv'⟩ := own_slice hown
  subst hv'
  have hN := grown_blk HN7.out Ot7.out hg (by omega)
  have hC := grown_blk HC7.out Ot7.out hg (by omega)
  have hB : Below (w.heap.size + 1 + 1) w1 w8a := HB7.out.grown hg (by omega) (fun g hg2 => by have := (Ot7.out.lt g hg2).1; omega)
  have hSz : (w.heap.size + 4) ≤ w8a.heap.size := Nat.le_trans hbs hg.size
  have Oe := own_apart Oe7.out Ot7.out (by decide) hg
  have Ok := own_apart Ok7.out Ot7.out (by decide) hg
  have cc : w8a.cell? ⟨w.heap.size + 3, 3, none⟩ = some (.slice ta7 (sn + 1) tc7) := by rw [blk_cell hN]; rfl
  have ff := blk_free hN 3
  have HOWN := Lib.hid hown
  clear hown hg n0 n1 n2 n3 x0 x1 x2 x3 y0 y1 y2 y3
  go_upto_region 12 with (fail)
  obtain ⟨w8, hw⟩ : ∃ X, w8a.setCell ⟨w.heap.size + 3, 3, none⟩ (.slice a' (sn + 1 + tn) c') = X := ⟨_, rfl⟩
  have hon : Only (w.heap.size + 3) w8a w8 := by rw [← hw]; exact Only.set _ _ _
  have hN2 := blk_set hN 3 (.slice a' (sn + 1 + tn) c')
  rw [hw] at hN2 ⊢
  clear hw cc ff
  have HN8 := Lib.hid hN2
  have HC8 := Lib.hid (hon.blk hC (by omega))
  have HB8 := Lib.hid (hB.trans (hon.to_below (by omega) (by omega)))
  have HS8 := Lib.hid (Nat.le_trans hSz hon.size)
  have Oe8 := Lib.hid (own_only' Oe hon (by omega))
  have Ok8 := Lib.hid (own_only' Ok hon (by omega))
  have Ot8 := Lib.hid (own_only' HOWN.out hon (by omega))
  obtain ⟨ta8, tc8, he8⟩ : ∃ a c, a = a' ∧ c = c' := ⟨_, _, rfl, rfl⟩
  obtain ⟨rfl, rfl⟩ := he8
  clear hN hC hB hN2 hon hSz hbs hbw Oe Ok
  obtain ⟨n0, n1, n2, n3⟩ := bx_blk73 HN8.out
  go_wp2_with (refine wpList_store73 rfl _ _ rfl (w.heap.size + 1 + 1) rfl rfl ⟨_, _, _, _, HC8.out⟩ ?_)
  intro w9 hz9 hon9
  have HZ9 := Lib.hid hz9; have HON := Lib.hid hon9
  clear n0 n1 n2 n3 hz9 hon9
  go_wp2
  have hon := HON.out
  have f1 := own_only' Oe8.out hon (by omega)
  have f2 := own_only' Ok8.out hon (by omega)
  have f3 := own_only' Ot8.out hon (by omega)
  have hb9 : Below w.heap.size w w9 := (hb1.trans (HB8.out.mono (by omega))).trans (hon.to_below (by omega) (by have := HS8.out; omega))
  refine bodyPost_ret (res_one rfl rfl (load73 (bx_blk73 HZ9.out))) rfl ?_
  refine ⟨_, rfl, ?_, hb9⟩
  have l1 : en + fn = (es ++ fs).length := by rw [List.length_append, HESN.out, HFSN.out]
  have l2 : kn + jn = (ks ++ js).length := by rw [List.length_append, HKSN.out, HJSN.out]
  have l3 : sn + 1 + tn = (ss ++ [key] ++ ts).length := by simp only [List.length_append, List.length_cons, List.length_nil, HSSN.out, HTSN.out]
  rw [l1] at f1 ⊢
  rw [l2] at f2 ⊢
  rw [l3] at f3 ⊢
  first
  | exact ⟨_, _, _, _, _, _, rfl, own_mono f1 (by omega), own_mono f2 (by omega), own_mono f3 (by omega)⟩
  | (have hfin : NdO w9 w.heap.size _ ⟨false, es ++ fs, ks ++ js, ss ++ [key] ++ ts⟩ := ⟨_, _, _, _, _, _, rfl, own_mono f1 (by omega), own_mono f2 (by omega), own_mono f3 (by omega)⟩
     simpa using hfin)
end Go.Proofs.Ytifdglehfhoecaa.N
