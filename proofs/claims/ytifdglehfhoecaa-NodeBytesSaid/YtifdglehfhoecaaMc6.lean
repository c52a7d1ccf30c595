/-
  Texts of this proof, merged: NSplitA, EWorks, ELawBack, NDec. What each says stands at its head.
-/
import Derived.Test.YtifdglehfhoecaaMc5
/-
  A node in two: what may not be cut; a leaf. Conditions: bounds that every node here keeps.
-/
namespace Go.Proofs.Ytifdglehfhoecaa.N
open Go.RowKit B E
/-- such cells, in new memory -/
def Clb (w : World) (base : Nat) (v : Value) (cs : List Value) : Prop := ∃ g, base ≤ g ∧ v = .slice (some ⟨g, 0, none⟩) cs.length cs.length ∧ ∀ j (h : j < cs.length), w.cell? ⟨g, j, none⟩ = some cs[j]
theorem Clb.cl {w : World} {base : Nat} {v : Value} {cs : List Value} (h : Clb w base v cs) : Cl w v cs := by
  obtain ⟨g, _, e, h⟩ := h
  exact ⟨g, e, h⟩
theorem Clb.below {w w' : World} {base : Nat} {v : Value} {cs : List Value} (h : Clb w base v cs) (hb : Below w.heap.size w w') : Clb w' base v cs := by
  obtain ⟨g, hg, e, h⟩ := h
  exact ⟨g, hg, e, fun j hj => bcell hb (h j hj)⟩
theorem Clb.only {w w' : World} {g0 base : Nat} {v : Value} {cs : List Value} (h : Clb w base v cs) (ho : Only g0 w w') (hg0 : g0 < base) : Clb w' base v cs := by
  obtain ⟨g, hg, e, h⟩ := h
  exact ⟨g, hg, e, fun j hj => ho.cell (h j hj) (by show g ≠ g0; omega)⟩
theorem Clb.new (w : World) (cs : List Value) (t : TypeId) (m : Nat) (h : cs.length = m) (base : Nat) (hb : base ≤ w.heap.size) : Clb (w.alloc (.cells cs.toArray t)) base (.slice (some ⟨w.heap.size, 0, none⟩) m m) cs := by
  subst h
  exact ⟨w.heap.size, hb, rfl, fun j hj => by rw [World.cell?_alloc_mark]; simp [hj]⟩
theorem Zb.only {w w' : World} {g g0 : Nat} {t : TypeId} (h : Zb w g t) (ho : Only g0 w w') (hn : g ≠ g0) : Zb w' g t := by
  obtain ⟨a, b, c, d, h⟩ := h
  exact ⟨a, b, c, d, ho.blk h hn⟩
theorem Bx.upto {w w' : World} {g G : Nat} {l : Bool} {a b c : Value} (h : Bx w g l a b c) (hb : Below G w w') (hg : g < G) : Bx w' g l a b c := by
  obtain ⟨h0, h1, h2, h3⟩ := h
  exact ⟨(hb.cell hg).trans h0, (hb.cell hg).trans h1, (hb.cell hg).trans h2, (hb.cell hg).trans h3⟩
theorem bx_blk {w : World} {g : Nat} {l : Bool} {a b c : Value} {t : TypeId} (h : w.heap[g]? = some (.cells #[.bool l, a, b, c] t (0, 0))) : Bx w g l a b c := ⟨by rw [blk_cell h]; rfl, by rw [blk_cell h]; rfl, by rw [blk_cell h]; rfl, by rw [blk_cell h]; rfl⟩
theorem cut_lo' {w : World} {ao : Option Addr} {cap : Nat} {l : List Ent} (h : Ents w (.slice ao l.length cap) l) (i : Nat) (hi : i ≤ l.length) : Ents w (.slice ao i cap) (l.take i) := by
  obtain ⟨_, h1, h2, _⟩ := h.at
  have := Rw.take h i cap hi (by omega) h2
  rw [ecs_take] at this
  unfold Ents
  rwa [List.length_take, Nat.min_eq_left hi]
theorem res_three {P : Program} {fn : Func} {a1 t1 s a2 t2 : Nat} {tmps : Array Value} {w : World} {p1 p2 : Addr} {v1 v2 v : Value} (h : fn.results = #[.cell a1 t1, .tmp s, .cell a2 t2]) (hp1 : tmps.getD a1 undef = .pointer (some p1)) (hs : tmps.getD s undef = v) (hp2 : tmps.getD a2 undef = .pointer (some p2)) (hl1 : (loadVar t1 p1).run P w = .ok v1 w) (hl2 : (loadVar t2 p2).run P w = .ok v2 w) :
    (results fn tmps).run P w = .ok (.tuple #[v1, v, v2]) w := by
  rw [Array.getD_eq_getD_getElem?] at hp1 hp2 hs
  simp [results, h, hp1, hp2, hs, hl1, hl2, asAddr]
set_option maxRecDepth 10000 in
/-- a node into its box, in a statement whose order is not drawn -/
theorem wpList_store69 {w : World} {ops : Array Oper} {rest : List Oper} {o : Oper} {a : Act} {Q : Exit → Act → World → Prop} (hgd : o.guard = none) (p x : Operand) (ho : o.op = .store 69 p x)
    (g : Nat) {l : Bool} {e0 k0 s0 : Option Addr} {en ec kn kc sn sc : Nat} (hp : a.eval p = .pointer (some ⟨g, 0, none⟩)) (hx : a.eval x = .agg #[.bool l, .slice e0 en ec, .slice k0 kn kc, .slice s0 sn sc]) (hz : Zb w g 69)
    (h : ∀ w', w'.heap[g]? = some (.cells #[.bool l, .slice e0 en ec, .slice k0 kn kc, .slice s0 sn sc] 69 (0, 0)) → Only g w w' → wpList Try.prog ops Q rest (a.put o.dst undef) w') : wpList Try.prog ops Q (o :: rest) a w := by
  refine wpList_plain hgd fun _ hK => ?_
  obtain ⟨w', hr, h1, h2⟩ := store69 (l := l) (e0 := e0) (en := en) (ec := ec) (k0 := k0) (kn := kn) (kc := kc) (s0 := s0) (sn := sn) (sc := sc) hz
  unfold Oper.wp execOp
  have hr' : (Instr.storeAt 69 (.pointer (some ⟨g, 0, none⟩)) (.agg #[.bool l, .slice e0 en ec, .slice k0 kn kc, .slice s0 sn sc])).run Try.prog w = .ok () w' := by
    simp only [Instr.storeAt, Instr.sureAddr, Sem.run_bind, Sem.run_pure, Result.andThen]
    exact hr
  simp only [ho, hp, hx, Sem.run_bind, hr', Result.andThen_ok, Sem.run_pure]
  exact hK _ _ (h w' h1 h2)
/-- a node in two -/
def NSp (a : M.Nd) (mid : ByteArray) (b : M.Nd) (w : World) (r : Ending) (w' : World) : Prop := ∃ va vb, r = .returned (.tuple #[va, .string mid, vb]) ∧ NdO w' w.heap.size va a ∧ NdO w' w.heap.size vb b ∧ Below w.heap.size w w'
set_option maxRecDepth 100000 in
set_option maxHeartbeats 4000000 in
theorem split_copy (v : Value) (l : Bool) (es : List Ent) (ks : List Int) (ss : List ByteArray) (w : World) (hv : NdV w v ⟨l, es, ks, ss⟩) (hbd : Bd ⟨l, es, ks, ss⟩) (ho : M.NOk ⟨l, es, ks, ss⟩) (hl1 : es.length < 2) (hl2 : ks.length < 2) :
    Calls Try.prog 58 #[v] w (NSp ⟨l, es, ks, ss⟩ ByteArray.empty ⟨false, [], [], []⟩ w) := by
  have HBD := Lib.hid hbd
  have HV := Lib.hid hv
  obtain ⟨d1, d2, d3, d4, d5⟩ := hbd
  obtain ⟨e0, ec, k0, kc, s0, sc, rfl, he, hk, hs⟩ := hv
  dsimp only at he hk hs d1 d2 d3 d4 d5 HV HBD ⊢
  obtain ⟨en, hen⟩ : ∃ x, es.length = x := ⟨_, rfl⟩
  obtain ⟨kn, hkn⟩ : ∃ x, ks.length = x := ⟨_, rfl⟩
  obtain ⟨sn, hsn⟩ : ∃ x, ss.length = x := ⟨_, rfl⟩
  rw [hen] at he d1 HV ⊢
  rw [hkn] at hk d2 HV ⊢
  rw [hsn] at hs d3 HV ⊢
  have HLE := Lib.hid hen; have HLK := Lib.hid hkn; have HLS := Lib.hid hsn
  rw [hen] at hl1
  rw [hkn] at hl2
  clear he hk hs hen hkn hsn
  go_enter Try.func58, Try.ntmps58
  go_upto_region 1 with (fail)
  obtain ⟨wa, hwa⟩ : ∃ W, w.alloc (.cells #[.bool l, .slice e0 en ec, .slice k0 kn kc, .slice s0 sn sc] 69) = W := ⟨_, rfl⟩
  have hza : wa.heap.size = w.heap.size + 1 := by rw [← hwa]; simp
  have hx : Bx wa w.heap.size l (.slice e0 en ec) (.slice k0 kn kc) (.slice s0 sn sc) := by rw [← hwa]; exact Bx.new _ _ _ _ _ _
  have hba : Below w.heap.size w wa := by rw [← hwa]; exact (Below.refl _ w).alloc (Nat.le_refl _) _
  rw [hwa]
  clear hwa
  obtain ⟨wb, hwb⟩ : ∃ W, wa.alloc (.cells #[.bool false, .slice none 0 0, .slice none 0 0, .slice none 0 0] 69) = W := ⟨_, rfl⟩
  have hzb : wb.heap.size = w.heap.size + 2 := by rw [← hwb]; simp [hza]
  have z0 : Zb wb (w.heap.size + 1) 69 := by rw [← hwb, ← hza]; exact Zb.new _ _ _ _ _ _
  have hbb : Below wa.heap.size wa wb := by rw [← hwb]; exact (Below.refl _ wa).alloc (Nat.le_refl _) _
  rw [hwb]
  clear hwb
  obtain ⟨wc, hwc⟩ : ∃ W, wb.alloc (.cells #[.bool false, .slice none 0 0, .slice none 0 0, .slice none 0 0] 69) = W := ⟨_, rfl⟩
  have hzc : wc.heap.size = w.heap.size + 3 := by rw [← hwc]; simp [hzb]
  have z1 : Zb wc (w.heap.size + 1 + 1) 69 := by rw [← hwc, ← hzb]; exact Zb.new _ _ _ _ _ _
  have hbc : Below wb.heap.size wb wc := by rw [← hwc]; exact (Below.refl _ wb).alloc (Nat.le_refl _) _
  rw [hwc]
  clear hwc
  have hx := (hx.below hbb).below hbc
  have z0 := z0.below hbc
  have hb1 := (hba.trans (hbb.mono hba.size)).trans (hbc.mono (Nat.le_trans hba.size hbb.size))
  clear hba hbb hbc hza hzb
  have HRT := Lib.hid (nright_any _ _ wc (HV.out.below hb1) HBD.out)
  rw [decide_eq_true ho] at HRT
  have HZC := Lib.hid hzc
  clear hzc
  obtain ⟨x0, x1, x2, x3⟩ := hx
  go_wp2_with fail
  refine HRT.out.mono ?_
  rintro r wr ⟨rfl, hbr⟩
  have x0 := bcell hbr x0; have x1 := bcell hbr x1; have x2 := bcell hbr x2; have x3 := bcell hbr x3
  have z0 := z0.below hbr; have z1 := z1.below hbr
  have hzr : w.heap.size + 3 ≤ wr.heap.size := by have := HZC.out; have := hbr.size; omega
  have hb1 := hb1.trans (hbr.mono hb1.size)
  clear hbr HRT HZC
  have HCP := Lib.hid (copied_any _ _ wr (HV.out.below hb1) HBD.out)
  go_wp2_with fail
  refine HCP.out.mono ?_
  rintro r w3 ⟨vc, rfl, ⟨a0, ac, b0, bc, c0, cc, rfl, o1, o2, o3⟩, hb3⟩
  dsimp only at o1 o2 o3 ⊢
  rw [HLE.out] at o1 ⊢
  rw [HLK.out] at o2 ⊢
  rw [HLS.out] at o3 ⊢
  have z0 := z0.below hb3; have z1 := z1.below hb3
  have hzr : w.heap.size + 3 ≤ w3.heap.size := Nat.le_trans hzr hb3.size
  have hlt1 : w.heap.size + 1 < wr.heap.size := by omega
  have hlt2 : w.heap.size + 1 + 1 < wr.heap.size := by omega
  have O1 := Lib.hid o1; have O2 := Lib.hid o2; have O3 := Lib.hid o3
  have hb3 := hb1.trans (hb3.mono hb1.size)
  clear x0 x1 x2 x3 o1 o2 o3
  go_wp2_with (refine wpList_store69 rfl _ _ rfl (w.heap.size + 1) rfl rfl z0 ?_)
  intro w4 hz0 hon1
  have Z0 := Lib.hid hz0; have HON1 := Lib.hid hon1
  have z1 := z1.only hon1 (by omega)
  clear hz0 hon1 z0
  go_wp2_with (refine wpList_store69 rfl _ _ rfl (w.heap.size + 1 + 1) rfl rfl z1 ?_)
  intro w5 hz1 hon2
  have Z1 := Lib.hid hz1; have HON2 := Lib.hid hon2
  clear hz1 hon2 z1
  go_wp2
  have hon1 := HON1.out; have hon2 := HON2.out
  have hz0 := hon2.blk Z0.out (by omega)
  refine bodyPost_ret (res_three rfl rfl rfl rfl (load69 (bx_blk hz0)) (load69 (bx_blk Z1.out))) rfl ?_
  have hs1 := hon1.size
  have hb5 := (hb3.trans (hon1.to_below (by omega) hb3.size)).trans (hon2.to_below (by omega) (Nat.le_trans hb3.size hs1))
  have f1 := own_mono (own_only' (own_only' O1.out hon1 hlt1) hon2 hlt2) hb1.size
  have f2 := own_mono (own_only' (own_only' O2.out hon1 hlt1) hon2 hlt2) hb1.size
  have f3 := own_mono (own_only' (own_only' O3.out hon1 hlt1) hon2 hlt2) hb1.size
  refine ⟨_, _, rfl, ?_, ⟨_, _, _, _, _, _, rfl, World.ownsRow_nil _ _ _ _, World.ownsRow_nil _ _ _ _, World.ownsRow_nil _ _ _ _⟩, hb5⟩
  rw [← HLE.out] at f1 ⊢
  rw [← HLK.out] at f2 ⊢
  rw [← HLS.out] at f3 ⊢
  exact ⟨_, _, _, _, _, _, rfl, f1, f2, f3⟩
set_option maxRecDepth 100000 in
set_option maxHeartbeats 8000000 in
theorem split_leaf (v : Value) (es : List Ent) (ks : List Int) (ss : List ByteArray) (w : World) (hv : NdV w v ⟨true, es, ks, ss⟩) (hbd : Bd ⟨true, es, ks, ss⟩) (ho : M.NOk ⟨true, es, ks, ss⟩) (hl1 : 2 ≤ es.length) (k : Nat) (hk0 : M.Half es k) (hkl : k < es.length) :
    Calls Try.prog 58 #[v] w (NSp (M.mkL (es.take k)) es[k].1 (M.mkL (es.drop k)) w) := by
  have HBD := Lib.hid hbd
  have HV := Lib.hid hv
  obtain ⟨d1, d2, d3, d4, d5⟩ := hbd
  obtain ⟨e0, ec, k0, kc, s0, sc, rfl, he, hk, hs⟩ := hv
  dsimp only at he hk hs d1 d2 d3 d4 d5 HV HBD ⊢
  obtain ⟨eb, eo, rfl, ck, _⟩ := he.at.2.2.2 k hkl
  have hck : ¬ ec = k := by have := he.at.2.1; omega
  have hcap : es.length ≤ ec := he.at.2.1
  have hlo := cut_lo' he k (by omega)
  have hhi := cut_hi he k (by omega)
  rw [if_neg hck, add_lit] at hhi
  obtain ⟨mid, hmid⟩ : ∃ m, es[k].1 = m := ⟨_, rfl⟩
  rw [hmid] at ck ⊢
  obtain ⟨ka, hka⟩ : ∃ x, (es.take k).length = x := ⟨_, rfl⟩
  obtain ⟨kb, hkb⟩ : ∃ x, (es.drop k).length = x := ⟨_, rfl⟩
  have hka1 : ka ≤ 10000 := by rw [← hka, List.length_take]; omega
  have hkb1 : kb ≤ 10000 := by rw [← hkb, List.length_drop]; omega
  have HKA := Lib.hid hka; have HKB := Lib.hid hkb; have HHF := Lib.hid hk0
  have HSZ := Lib.hid d4
  have HCK := Lib.hid ck
  clear hmid hka hkb hk0 ck
  obtain ⟨en, hen⟩ : ∃ x, es.length = x := ⟨_, rfl⟩
  obtain ⟨kn, hkn⟩ : ∃ x, ks.length = x := ⟨_, rfl⟩
  obtain ⟨sn, hsn⟩ : ∃ x, ss.length = x := ⟨_, rfl⟩
  rw [hen] at he d1 HV ⊢
  rw [hkn] at hk d2 HV ⊢
  rw [hsn] at hs d3 HV ⊢
  rw [hen] at hl1 hkl hcap hhi
  have HLO := Lib.hid hlo; have HHI := Lib.hid hhi; have HE := Lib.hid he
  have HEN := Lib.hid hen
  clear he hk hs hen hkn hsn hlo hhi
  go_enter Try.func58, Try.ntmps58
  go_upto_region 1 with (fail)
  obtain ⟨wa, hwa⟩ : ∃ W, w.alloc (.cells #[.bool true, .slice (some ⟨eb, eo, none⟩) en ec, .slice k0 kn kc, .slice s0 sn sc] 69) = W := ⟨_, rfl⟩
  have hza : wa.heap.size = w.heap.size + 1 := by rw [← hwa]; simp
  have hx : Bx wa w.heap.size true (.slice (some ⟨eb, eo, none⟩) en ec) (.slice k0 kn kc) (.slice s0 sn sc) := by rw [← hwa]; exact Bx.new _ _ _ _ _ _
  have hba : Below w.heap.size w wa := by rw [← hwa]; exact (Below.refl _ w).alloc (Nat.le_refl _) _
  rw [hwa]
  clear hwa
  obtain ⟨wb, hwb⟩ : ∃ W, wa.alloc (.cells #[.bool false, .slice none 0 0, .slice none 0 0, .slice none 0 0] 69) = W := ⟨_, rfl⟩
  have hzb : wb.heap.size = w.heap.size + 2 := by rw [← hwb]; simp [hza]
  have z0 : Zb wb (w.heap.size + 1) 69 := by rw [← hwb, ← hza]; exact Zb.new _ _ _ _ _ _
  have hbb : Below wa.heap.size wa wb := by rw [← hwb]; exact (Below.refl _ wa).alloc (Nat.le_refl _) _
  rw [hwb]
  clear hwb
  obtain ⟨wc, hwc⟩ : ∃ W, wb.alloc (.cells #[.bool false, .slice none 0 0, .slice none 0 0, .slice none 0 0] 69) = W := ⟨_, rfl⟩
  have hzc : wc.heap.size = w.heap.size + 3 := by rw [← hwc]; simp [hzb]
  have z1 : Zb wc (w.heap.size + 1 + 1) 69 := by rw [← hwc, ← hzb]; exact Zb.new _ _ _ _ _ _
  have hbc : Below wb.heap.size wb wc := by rw [← hwc]; exact (Below.refl _ wb).alloc (Nat.le_refl _) _
  rw [hwc]
  clear hwc
  have hx := (hx.below hbb).below hbc
  have z0 := z0.below hbc
  have hb1 := (hba.trans (hbb.mono hba.size)).trans (hbc.mono (Nat.le_trans hba.size hbb.size))
  clear hba hbb hbc hza hzb
  have HRT := Lib.hid (nright_any _ _ wc (HV.out.below hb1) HBD.out)
  rw [decide_eq_true ho] at HRT
  have HZC := Lib.hid hzc
  clear hzc
  obtain ⟨x0, x1, x2, x3⟩ := hx
  go_wp2_with fail
  refine HRT.out.mono ?_
  rintro r wr ⟨rfl, hbr⟩
  have x0 := bcell hbr x0; have x1 := bcell hbr x1; have x2 := bcell hbr x2; have x3 := bcell hbr x3
  have z0 := z0.below hbr; have z1 := z1.below hbr
  have hzr : w.heap.size + 3 ≤ wr.heap.size := by have := HZC.out; have := hbr.size; omega
  have hb1 := hb1.trans (hbr.mono hb1.size)
  clear hbr HRT HZC
  have HHA := Lib.hid (half_any _ es wr (HE.out.below hb1) (by have := HEN.out; omega) (by have := HSZ.out; omega))
  go_wp2_with fail
  refine HHA.out.mono ?_
  rintro r w1 ⟨k', rfl, hk', hb3⟩
  obtain rfl : k = k' := M.half_unique HHF.out hk'
  have hx : Bx w1 w.heap.size true (.slice (some ⟨eb, eo, none⟩) en ec) (.slice k0 kn kc) (.slice s0 sn sc) := ⟨bcell hb3 x0, bcell hb3 x1, bcell hb3 x2, bcell hb3 x3⟩
  have ZB0 := Lib.hid (z0.below hb3); have ZB1 := Lib.hid (z1.below hb3)
  have HZ1 := Lib.hid (Nat.le_trans hzr hb3.size)
  have hb1 := hb1.trans (hb3.mono hb1.size)
  clear x0 x1 x2 x3 z0 z1 hzr hb3 hk' HHA
  go_upto_region 5 with (fail)
  have p1 : (0 : Int) ≤ (k : Int) := Int.natCast_nonneg _
  have p2 : (k : Int) ≤ (ec : Int) := by omega
  have p3 : (k : Int) < (en : Int) := by omega
  have p4 : (k : Int) ≤ (en : Int) := by omega
  refine wp_region_any (by kernel_rfl) ?_
  refine wpAny_upto_f 22 (fun f L a W => ∃ v3 v32 v33 v34 v35 v36 v37 v38 v39 v40 v41 v42 v43 v44 v45 v46 v47 v48 v49 v50 v51 : Value, a = { tmps := List.toArray ((f 0) :: (.pointer (some ⟨w.heap.size, 0, none⟩)) :: (.pointer (some ⟨w.heap.size + 1, 0, none⟩)) :: v3 :: (.pointer (some ⟨w.heap.size + 1 + 1, 0, none⟩)) :: (.int .i64 (k : Int)) :: (f 6) :: (f 7) :: (f 8) :: (f 9) :: (f 10) :: (f 11) :: (f 12) :: (f 13) :: (f 14) :: (f 15) :: (f 16) :: (f 17) :: (f 18) :: (f 19) :: (f 20) :: (f 21) :: (f 22) :: (f 23) :: (f 24) :: (f 25) :: (f 26) :: (f 27) :: (f 28) :: (f 29) :: (f 30) :: (f 31) :: v32 :: v33 :: v34 :: v35 :: v36 :: v37 :: v38 :: v39 :: v40 :: v41 :: v42 :: v43 :: v44 :: v45 :: v46 :: v47 :: v48 :: v49 :: v50 :: v51 :: (f 52) :: (f 53) :: (f 54) :: (f 55) :: (f 56) :: (f 57) :: (f 58) :: (f 59) :: (f 60) :: (f 61) :: (f 62) :: (f 63) :: (f 64) :: (f 65) :: (f 66) :: (f 67) :: (f 68) :: (f 69) :: (f 70) :: (f 71) :: (f 72) :: (f 73) :: (f 74) :: (f 75) :: (f 76) :: (f 77) :: (f 78) :: (f 79) :: (f 80) :: (f 81) :: (f 82) :: (f 83) :: (f 84) :: (f 85) :: (f 86) :: (f 87) :: (f 88) :: []), defers := [] } ∧ Below (w.heap.size + 1) w1 W ∧ w1.heap.size ≤ W.heap.size ∧ Zb W (w.heap.size + 1) 69 ∧ Zb W (w.heap.size + 1 + 1) 69 ∧ (Lst L 0 → v32 = .pointer (some ⟨w.heap.size, 1, none⟩)) ∧ (Lst L 1 → v33 = .slice (some ⟨eb, eo, none⟩) en ec) ∧ (Lst L 2 → v34 = .int .i64 (k : Int)) ∧ (Lst L 3 → v35 = .slice (some ⟨eb, eo, none⟩) k ec) ∧ (Lst L 4 → Clb W w1.heap.size v36 [.slice (some ⟨eb, eo, none⟩) k ec]) ∧ (Lst L 5 → World.ownsRow W w1.heap.size 49 2 v37 ka (ecs (es.take k))) ∧ (Lst L 6 → v38 = .agg #[.bool true, v37, .slice none 0 0, .slice none 0 0] ∧ Lst L 5) ∧ (Lst L 7 → v39 = .pointer (some ⟨w.heap.size, 1, none⟩)) ∧ (Lst L 8 → v40 = .slice (some ⟨eb, eo, none⟩) en ec) ∧ (Lst L 9 → v41 = .int .i64 (k : Int)) ∧ (Lst L 10 → v42 = .pointer (some ⟨eb, eo + k * 2, none⟩)) ∧ (Lst L 11 → v43 = .pointer (some ⟨eb, eo + k * 2, none⟩)) ∧ (Lst L 12 → v44 = .string mid) ∧ (Lst L 13 → v45 = .pointer (some ⟨w.heap.size, 1, none⟩)) ∧ (Lst L 14 → v46 = .slice (some ⟨eb, eo, none⟩) en ec) ∧ (Lst L 15 → v47 = .int .i64 (k : Int)) ∧ (Lst L 16 → v48 = .slice (some ⟨eb, eo + k * 2, none⟩) (en - k) (ec - k)) ∧ (Lst L 17 → Clb W w1.heap.size v49 [.slice (some ⟨eb, eo + k * 2, none⟩) (en - k) (ec - k)]) ∧ (Lst L 18 → World.ownsRow W w1.heap.size 49 2 v50 kb (ecs (es.drop k))) ∧ (Lst L 19 → v51 = .agg #[.bool true, v50, .slice none 0 0, .slice none 0 0] ∧ Lst L 18) ∧ (Lst L 20 → (World.heap W)[(w.heap.size + 1)]? = some (.cells #[.bool true, v37, .slice none 0 0, .slice none 0 0] 69 (0, 0)) ∧ Lst L 5) ∧ (Lst L 21 → v3 = .string mid)) (by decide) (by kernel_rfl) (by kernel_rfl) ?step ?fin _ _ _ _ ?ini (by simp) (fun k _ => lst_none) (by simp)
  case ini => exact ⟨_, _, _, _, _, _, _, _, _, _, _, _, _, _, _, _, _, _, _, _, _, rfl, (Below.refl w1.heap.size w1).drew.mono (by have := HZ1.out; omega), Nat.le_refl _, ZB0.out, ZB1.out, fun h => absurd h lst_none, fun h => absurd h lst_none, fun h => absurd h lst_none, fun h => absurd h lst_none, fun h => absurd h lst_none, fun h => absurd h lst_none, fun h => absurd h lst_none, fun h => absurd h lst_none, fun h => absurd h lst_none, fun h => absurd h lst_none, fun h => absurd h lst_none, fun h => absurd h lst_none, fun h => absurd h lst_none, fun h => absurd h lst_none, fun h => absurd h lst_none, fun h => absurd h lst_none, fun h => absurd h lst_none, fun h => absurd h lst_none, fun h => absurd h lst_none, fun h => absurd h lst_none, fun h => absurd h lst_none, fun h => absurd h lst_none⟩
  case step =>
    intro f L a W hI i him hi
    obtain ⟨v3, v32, v33, v34, v35, v36, v37, v38, v39, v40, v41, v42, v43, v44, v45, v46, v47, v48, v49, v50, v51, rfl, hb, hz, hzb0, hzb1, hf⟩ := hI
    have F := Lib.hid hf
    have hgw : w.heap.size + 1 ≤ W.heap.size := by have := HZ1.out; omega
    have hbw : Below w.heap.size w W := hb1.trans (hb.mono (by omega))
    have Z0 := Lib.hid hzb0
    have Z1 := Lib.hid hzb1
    clear hf hzb0 hzb1
    rcases (show i = 0 ∨ i = 1 ∨ i = 2 ∨ i = 3 ∨ i = 4 ∨ i = 5 ∨ i = 6 ∨ i = 7 ∨ i = 8 ∨ i = 9 ∨ i = 10 ∨ i = 11 ∨ i = 12 ∨ i = 13 ∨ i = 14 ∨ i = 15 ∨ i = 16 ∨ i = 17 ∨ i = 18 ∨ i = 19 ∨ i = 20 ∨ i = 21 by omega) with rfl | rfl | rfl | rfl | rfl | rfl | rfl | rfl | rfl | rfl | rfl | rfl | rfl | rfl | rfl | rfl | rfl | rfl | rfl | rfl | rfl | rfl
    · clear him
      have HI := Lib.hid hi
      clear hi
      refine wpOp_step (o := _) rfl (fun K' hK => ?_)
      have HK := Lib.hid hK
      clear hK
      go_simp
      exact HK.out _ _ ⟨_, _, _, _, _, _, _, _, _, _, _, _, _, _, _, _, _, _, _, _, _, rfl, hb, hz, Z0.out, Z1.out, fun _ => rfl, fun h => F.out.2.1 (lst_old (by decide) h), fun h => F.out.2.2.1 (lst_old (by decide) h), fun h => F.out.2.2.2.1 (lst_old (by decide) h), fun h => F.out.2.2.2.2.1 (lst_old (by decide) h), fun h => F.out.2.2.2.2.2.1 (lst_old (by decide) h), fun h => ⟨(F.out.2.2.2.2.2.2.1 (lst_old (by decide) h)).1, lst_keep (F.out.2.2.2.2.2.2.1 (lst_old (by decide) h)).2⟩, fun h => F.out.2.2.2.2.2.2.2.1 (lst_old (by decide) h), fun h => F.out.2.2.2.2.2.2.2.2.1 (lst_old (by decide) h), fun h => F.out.2.2.2.2.2.2.2.2.2.1 (lst_old (by decide) h), fun h => F.out.2.2.2.2.2.2.2.2.2.2.1 (lst_old (by decide) h), fun h => F.out.2.2.2.2.2.2.2.2.2.2.2.1 (lst_old (by decide) h), fun h => F.out.2.2.2.2.2.2.2.2.2.2.2.2.1 (lst_old (by decide) h), fun h => F.out.2.2.2.2.2.2.2.2.2.2.2.2.2.1 (lst_old (by decide) h), fun h => F.out.2.2.2.2.2.2.2.2.2.2.2.2.2.2.1 (lst_old (by decide) h), fun h => F.out.2.2.2.2.2.2.2.2.2.2.2.2.2.2.2.1 (lst_old (by decide) h), fun h => F.out.2.2.2.2.2.2.2.2.2.2.2.2.2.2.2.2.1 (lst_old (by decide) h), fun h => F.out.2.2.2.2.2.2.2.2.2.2.2.2.2.2.2.2.2.1 (lst_old (by decide) h), fun h => F.out.2.2.2.2.2.2.2.2.2.2.2.2.2.2.2.2.2.2.1 (lst_old (by decide) h), fun h => ⟨(F.out.2.2.2.2.2.2.2.2.2.2.2.2.2.2.2.2.2.2.2.1 (lst_old (by decide) h)).1, lst_keep (F.out.2.2.2.2.2.2.2.2.2.2.2.2.2.2.2.2.2.2.2.1 (lst_old (by decide) h)).2⟩, fun h => ⟨(F.out.2.2.2.2.2.2.2.2.2.2.2.2.2.2.2.2.2.2.2.2.1 (lst_old (by decide) h)).1, lst_keep (F.out.2.2.2.2.2.2.2.2.2.2.2.2.2.2.2.2.2.2.2.2.1 (lst_old (by decide) h)).2⟩, fun h => F.out.2.2.2.2.2.2.2.2.2.2.2.2.2.2.2.2.2.2.2.2.2 (lst_old (by decide) h)⟩
    · clear him
      have p0 := F.out.1 (ready_needs hi (by kernel_rfl))
      subst p0
      have hxx := Bx.upto hx hb (by omega)
      obtain ⟨b0, b1, b2, b3⟩ := hxx
      have HI := Lib.hid hi
      clear hi
      refine wpOp_step (o := _) rfl (fun K' hK => ?_)
      have HK := Lib.hid hK
      clear hK
      go_simp
      exact HK.out _ _ ⟨_, _, _, _, _, _, _, _, _, _, _, _, _, _, _, _, _, _, _, _, _, rfl, hb, hz, Z0.out, Z1.out, fun h => F.out.1 (lst_old (by decide) h), fun _ => rfl, fun h => F.out.2.2.1 (lst_old (by decide) h), fun h => F.out.2.2.2.1 (lst_old (by decide) h), fun h => F.out.2.2.2.2.1 (lst_old (by decide) h), fun h => F.out.2.2.2.2.2.1 (lst_old (by decide) h), fun h => ⟨(F.out.2.2.2.2.2.2.1 (lst_old (by decide) h)).1, lst_keep (F.out.2.2.2.2.2.2.1 (lst_old (by decide) h)).2⟩, fun h => F.out.2.2.2.2.2.2.2.1 (lst_old (by decide) h), fun h => F.out.2.2.2.2.2.2.2.2.1 (lst_old (by decide) h), fun h => F.out.2.2.2.2.2.2.2.2.2.1 (lst_old (by decide) h), fun h => F.out.2.2.2.2.2.2.2.2.2.2.1 (lst_old (by decide) h), fun h => F.out.2.2.2.2.2.2.2.2.2.2.2.1 (lst_old (by decide) h), fun h => F.out.2.2.2.2.2.2.2.2.2.2.2.2.1 (lst_old (by decide) h), fun h => F.out.2.2.2.2.2.2.2.2.2.2.2.2.2.1 (lst_old (by decide) h), fun h => F.out.2.2.2.2.2.2.2.2.2.2.2.2.2.2.1 (lst_old (by decide) h), fun h => F.out.2.2.2.2.2.2.2.2.2.2.2.2.2.2.2.1 (lst_old (by decide) h), fun h => F.out.2.2.2.2.2.2.2.2.2.2.2.2.2.2.2.2.1 (lst_old (by decide) h), fun h => F.out.2.2.2.2.2.2.2.2.2.2.2.2.2.2.2.2.2.1 (lst_old (by decide) h), fun h => F.out.2.2.2.2.2.2.2.2.2.2.2.2.2.2.2.2.2.2.1 (lst_old (by decide) h), fun h => ⟨(F.out.2.2.2.2.2.2.2.2.2.2.2.2.2.2.2.2.2.2.2.1 (lst_old (by decide) h)).1, lst_keep (F.out.2.2.2.2.2.2.2.2.2.2.2.2.2.2.2.2.2.2.2.1 (lst_old (by decide) h)).2⟩, fun h => ⟨(F.out.2.2.2.2.2.2.2.2.2.2.2.2.2.2.2.2.2.2.2.2.1 (lst_old (by decide) h)).1, lst_keep (F.out.2.2.2.2.2.2.2.2.2.2.2.2.2.2.2.2.2.2.2.2.1 (lst_old (by decide) h)).2⟩, fun h => F.out.2.2.2.2.2.2.2.2.2.2.2.2.2.2.2.2.2.2.2.2.2 (lst_old (by decide) h)⟩
    · clear him
      have HI := Lib.hid hi
      clear hi
      refine wpOp_step (o := _) rfl (fun K' hK => ?_)
      have HK := Lib.hid hK
      clear hK
      go_simp
      exact HK.out _ _ ⟨_, _, _, _, _, _, _, _, _, _, _, _, _, _, _, _, _, _, _, _, _, rfl, hb, hz, Z0.out, Z1.out, fun h => F.out.1 (lst_old (by decide) h), fun h => F.out.2.1 (lst_old (by decide) h), fun _ => rfl, fun h => F.out.2.2.2.1 (lst_old (by decide) h), fun h => F.out.2.2.2.2.1 (lst_old (by decide) h), fun h => F.out.2.2.2.2.2.1 (lst_old (by decide) h), fun h => ⟨(F.out.2.2.2.2.2.2.1 (lst_old (by decide) h)).1, lst_keep (F.out.2.2.2.2.2.2.1 (lst_old (by decide) h)).2⟩, fun h => F.out.2.2.2.2.2.2.2.1 (lst_old (by decide) h), fun h => F.out.2.2.2.2.2.2.2.2.1 (lst_old (by decide) h), fun h => F.out.2.2.2.2.2.2.2.2.2.1 (lst_old (by decide) h), fun h => F.out.2.2.2.2.2.2.2.2.2.2.1 (lst_old (by decide) h), fun h => F.out.2.2.2.2.2.2.2.2.2.2.2.1 (lst_old (by decide) h), fun h => F.out.2.2.2.2.2.2.2.2.2.2.2.2.1 (lst_old (by decide) h), fun h => F.out.2.2.2.2.2.2.2.2.2.2.2.2.2.1 (lst_old (by decide) h), fun h => F.out.2.2.2.2.2.2.2.2.2.2.2.2.2.2.1 (lst_old (by decide) h), fun h => F.out.2.2.2.2.2.2.2.2.2.2.2.2.2.2.2.1 (lst_old (by decide) h), fun h => F.out.2.2.2.2.2.2.2.2.2.2.2.2.2.2.2.2.1 (lst_old (by decide) h), fun h => F.out.2.2.2.2.2.2.2.2.2.2.2.2.2.2.2.2.2.1 (lst_old (by decide) h), fun h => F.out.2.2.2.2.2.2.2.2.2.2.2.2.2.2.2.2.2.2.1 (lst_old (by decide) h), fun h => ⟨(F.out.2.2.2.2.2.2.2.2.2.2.2.2.2.2.2.2.2.2.2.1 (lst_old (by decide) h)).1, lst_keep (F.out.2.2.2.2.2.2.2.2.2.2.2.2.2.2.2.2.2.2.2.1 (lst_old (by decide) h)).2⟩, fun h => ⟨(F.out.2.2.2.2.2.2.2.2.2.2.2.2.2.2.2.2.2.2.2.2.1 (lst_old (by decide) h)).1, lst_keep (F.out.2.2.2.2.2.2.2.2.2.2.2.2.2.2.2.2.2.2.2.2.1 (lst_old (by decide) h)).2⟩, fun h => F.out.2.2.2.2.2.2.2.2.2.2.2.2.2.2.2.2.2.2.2.2.2 (lst_old (by decide) h)⟩
    · clear him
      have p1 := F.out.2.1 (ready_needs hi (by kernel_rfl))
      have p2 := F.out.2.2.1 (ready_needs hi (by kernel_rfl))
      subst p1
      subst p2
      have HI := Lib.hid hi
      clear hi
      refine wpOp_step (o := _) rfl (fun K' hK => ?_)
      have HK := Lib.hid hK
      clear hK
      go_simp
      exact HK.out _ _ ⟨_, _, _, _, _, _, _, _, _, _, _, _, _, _, _, _, _, _, _, _, _, rfl, hb, hz, Z0.out, Z1.out, fun h => F.out.1 (lst_old (by decide) h), fun h => F.out.2.1 (lst_old (by decide) h), fun h => F.out.2.2.1 (lst_old (by decide) h), fun _ => rfl, fun h => F.out.2.2.2.2.1 (lst_old (by decide) h), fun h => F.out.2.2.2.2.2.1 (lst_old (by decide) h), fun h => ⟨(F.out.2.2.2.2.2.2.1 (lst_old (by decide) h)).1, lst_keep (F.out.2.2.2.2.2.2.1 (lst_old (by decide) h)).2⟩, fun h => F.out.2.2.2.2.2.2.2.1 (lst_old (by decide) h), fun h => F.out.2.2.2.2.2.2.2.2.1 (lst_old (by decide) h), fun h => F.out.2.2.2.2.2.2.2.2.2.1 (lst_old (by decide) h), fun h => F.out.2.2.2.2.2.2.2.2.2.2.1 (lst_old (by decide) h), fun h => F.out.2.2.2.2.2.2.2.2.2.2.2.1 (lst_old (by decide) h), fun h => F.out.2.2.2.2.2.2.2.2.2.2.2.2.1 (lst_old (by decide) h), fun h => F.out.2.2.2.2.2.2.2.2.2.2.2.2.2.1 (lst_old (by decide) h), fun h => F.out.2.2.2.2.2.2.2.2.2.2.2.2.2.2.1 (lst_old (by decide) h), fun h => F.out.2.2.2.2.2.2.2.2.2.2.2.2.2.2.2.1 (lst_old (by decide) h), fun h => F.out.2.2.2.2.2.2.2.2.2.2.2.2.2.2.2.2.1 (lst_old (by decide) h), fun h => F.out.2.2.2.2.2.2.2.2.2.2.2.2.2.2.2.2.2.1 (lst_old (by decide) h), fun h => F.out.2.2.2.2.2.2.2.2.2.2.2.2.2.2.2.2.2.2.1 (lst_old (by decide) h), fun h => ⟨(F.out.2.2.2.2.2.2.2.2.2.2.2.2.2.2.2.2.2.2.2.1 (lst_old (by decide) h)).1, lst_keep (F.out.2.2.2.2.2.2.2.2.2.2.2.2.2.2.2.2.2.2.2.1 (lst_old (by decide) h)).2⟩, fun h => ⟨(F.out.2.2.2.2.2.2.2.2.2.2.2.2.2.2.2.2.2.2.2.2.1 (lst_old (by decide) h)).1, lst_keep (F.out.2.2.2.2.2.2.2.2.2.2.2.2.2.2.2.2.2.2.2.2.1 (lst_old (by decide) h)).2⟩, fun h => F.out.2.2.2.2.2.2.2.2.2.2.2.2.2.2.2.2.2.2.2.2.2 (lst_old (by decide) h)⟩
    · clear him
      have p3 := F.out.2.2.2.1 (ready_needs hi (by kernel_rfl))
      subst p3
      have HI := Lib.hid hi
      clear hi
      refine wpOp_step (o := _) rfl (fun K' hK => ?_)
      have HK := Lib.hid hK
      clear hK
      go_simp
      exact HK.out _ _ ⟨_, _, _, _, _, _, _, _, _, _, _, _, _, _, _, _, _, _, _, _, _, rfl, (hb.alloc hgw _), (Nat.le_trans hz ((Below.refl _ W).alloc (Nat.le_refl _) _).size), Zb.below (Z0.out) ((Below.refl _ W).alloc (Nat.le_refl _) _), Zb.below (Z1.out) ((Below.refl _ W).alloc (Nat.le_refl _) _), fun h => F.out.1 (lst_old (by decide) h), fun h => F.out.2.1 (lst_old (by decide) h), fun h => F.out.2.2.1 (lst_old (by decide) h), fun h => F.out.2.2.2.1 (lst_old (by decide) h), fun _ => Clb.new W _ 43 1 rfl _ hz, fun h => own_below (F.out.2.2.2.2.2.1 (lst_old (by decide) h)) ((Below.refl _ W).alloc (Nat.le_refl _) _), fun h => ⟨(F.out.2.2.2.2.2.2.1 (lst_old (by decide) h)).1, lst_keep (F.out.2.2.2.2.2.2.1 (lst_old (by decide) h)).2⟩, fun h => F.out.2.2.2.2.2.2.2.1 (lst_old (by decide) h), fun h => F.out.2.2.2.2.2.2.2.2.1 (lst_old (by decide) h), fun h => F.out.2.2.2.2.2.2.2.2.2.1 (lst_old (by decide) h), fun h => F.out.2.2.2.2.2.2.2.2.2.2.1 (lst_old (by decide) h), fun h => F.out.2.2.2.2.2.2.2.2.2.2.2.1 (lst_old (by decide) h), fun h => F.out.2.2.2.2.2.2.2.2.2.2.2.2.1 (lst_old (by decide) h), fun h => F.out.2.2.2.2.2.2.2.2.2.2.2.2.2.1 (lst_old (by decide) h), fun h => F.out.2.2.2.2.2.2.2.2.2.2.2.2.2.2.1 (lst_old (by decide) h), fun h => F.out.2.2.2.2.2.2.2.2.2.2.2.2.2.2.2.1 (lst_old (by decide) h), fun h => F.out.2.2.2.2.2.2.2.2.2.2.2.2.2.2.2.2.1 (lst_old (by decide) h), fun h => Clb.below (F.out.2.2.2.2.2.2.2.2.2.2.2.2.2.2.2.2.2.1 (lst_old (by decide) h)) ((Below.refl _ W).alloc (Nat.le_refl _) _), fun h => own_below (F.out.2.2.2.2.2.2.2.2.2.2.2.2.2.2.2.2.2.2.1 (lst_old (by decide) h)) ((Below.refl _ W).alloc (Nat.le_refl _) _), fun h => ⟨(F.out.2.2.2.2.2.2.2.2.2.2.2.2.2.2.2.2.2.2.2.1 (lst_old (by decide) h)).1, lst_keep (F.out.2.2.2.2.2.2.2.2.2.2.2.2.2.2.2.2.2.2.2.1 (lst_old (by decide) h)).2⟩, fun h => ⟨blk_below ((F.out.2.2.2.2.2.2.2.2.2.2.2.2.2.2.2.2.2.2.2.2.1 (lst_old (by decide) h)).1) ((Below.refl _ W).alloc (Nat.le_refl _) _), lst_keep (F.out.2.2.2.2.2.2.2.2.2.2.2.2.2.2.2.2.2.2.2.2.1 (lst_old (by decide) h)).2⟩, fun h => F.out.2.2.2.2.2.2.2.2.2.2.2.2.2.2.2.2.2.2.2.2.2 (lst_old (by decide) h)⟩
    · clear him
      have p4 := F.out.2.2.2.2.1 (ready_needs hi (by kernel_rfl))
      have P4 := Lib.hid p4.cl
      clear p4
      have HI := Lib.hid hi
      clear hi
      refine wpOp_step (o := _) rfl (fun K' hK => ?_)
      have HK := Lib.hid hK
      clear hK
      go_simp
      refine (gl1_e P4.out (HLO.out.below hbw) (by rw [HKA.out]; omega)).mono ?_
      rintro r W2 ⟨x, rfl, hown, hb2⟩
      exact HK.out _ _ ⟨_, _, _, _, _, _, _, _, _, _, _, _, _, _, _, _, _, _, _, _, _, rfl, (hb.trans (hb2.mono hgw)), (Nat.le_trans hz hb2.size), Zb.below (Z0.out) hb2, Zb.below (Z1.out) hb2, fun h => F.out.1 (lst_old (by decide) h), fun h => F.out.2.1 (lst_old (by decide) h), fun h => F.out.2.2.1 (lst_old (by decide) h), fun h => F.out.2.2.2.1 (lst_old (by decide) h), fun h => Clb.below (F.out.2.2.2.2.1 (lst_old (by decide) h)) hb2, fun _ => own_mono (HKA.out ▸ hown) hz, fun h => absurd (F.out.2.2.2.2.2.2.1 (lst_old (by decide) h)).2 (ready_not HI.out), fun h => F.out.2.2.2.2.2.2.2.1 (lst_old (by decide) h), fun h => F.out.2.2.2.2.2.2.2.2.1 (lst_old (by decide) h), fun h => F.out.2.2.2.2.2.2.2.2.2.1 (lst_old (by decide) h), fun h => F.out.2.2.2.2.2.2.2.2.2.2.1 (lst_old (by decide) h), fun h => F.out.2.2.2.2.2.2.2.2.2.2.2.1 (lst_old (by decide) h), fun h => F.out.2.2.2.2.2.2.2.2.2.2.2.2.1 (lst_old (by decide) h), fun h => F.out.2.2.2.2.2.2.2.2.2.2.2.2.2.1 (lst_old (by decide) h), fun h => F.out.2.2.2.2.2.2.2.2.2.2.2.2.2.2.1 (lst_old (by decide) h), fun h => F.out.2.2.2.2.2.2.2.2.2.2.2.2.2.2.2.1 (lst_old (by decide) h), fun h => F.out.2.2.2.2.2.2.2.2.2.2.2.2.2.2.2.2.1 (lst_old (by decide) h), fun h => Clb.below (F.out.2.2.2.2.2.2.2.2.2.2.2.2.2.2.2.2.2.1 (lst_old (by decide) h)) hb2, fun h => own_below (F.out.2.2.2.2.2.2.2.2.2.2.2.2.2.2.2.2.2.2.1 (lst_old (by decide) h)) hb2, fun h => ⟨(F.out.2.2.2.2.2.2.2.2.2.2.2.2.2.2.2.2.2.2.2.1 (lst_old (by decide) h)).1, lst_keep (F.out.2.2.2.2.2.2.2.2.2.2.2.2.2.2.2.2.2.2.2.1 (lst_old (by decide) h)).2⟩, fun h => absurd (F.out.2.2.2.2.2.2.2.2.2.2.2.2.2.2.2.2.2.2.2.2.1 (lst_old (by decide) h)).2 (ready_not HI.out), fun h => F.out.2.2.2.2.2.2.2.2.2.2.2.2.2.2.2.2.2.2.2.2.2 (lst_old (by decide) h)⟩
    · clear him
      have p5 := F.out.2.2.2.2.2.1 (ready_needs hi (by kernel_rfl))
      obtain ⟨a5, c5, h5⟩ := own_slice p5
      subst h5
      have P5 := Lib.hid p5
      clear p5
      have HI := Lib.hid hi
      clear hi
      refine wpOp_step (o := _) rfl (fun K' hK => ?_)
      have HK := Lib.hid hK
      clear hK
      go_simp
      exact HK.out _ _ ⟨_, _, _, _, _, _, _, _, _, _, _, _, _, _, _, _, _, _, _, _, _, rfl, hb, hz, Z0.out, Z1.out, fun h => F.out.1 (lst_old (by decide) h), fun h => F.out.2.1 (lst_old (by decide) h), fun h => F.out.2.2.1 (lst_old (by decide) h), fun h => F.out.2.2.2.1 (lst_old (by decide) h), fun h => F.out.2.2.2.2.1 (lst_old (by decide) h), fun h => F.out.2.2.2.2.2.1 (lst_old (by decide) h), fun _ => ⟨rfl, lst_keep (ready_needs HI.out (by kernel_rfl))⟩, fun h => F.out.2.2.2.2.2.2.2.1 (lst_old (by decide) h), fun h => F.out.2.2.2.2.2.2.2.2.1 (lst_old (by decide) h), fun h => F.out.2.2.2.2.2.2.2.2.2.1 (lst_old (by decide) h), fun h => F.out.2.2.2.2.2.2.2.2.2.2.1 (lst_old (by decide) h), fun h => F.out.2.2.2.2.2.2.2.2.2.2.2.1 (lst_old (by decide) h), fun h => F.out.2.2.2.2.2.2.2.2.2.2.2.2.1 (lst_old (by decide) h), fun h => F.out.2.2.2.2.2.2.2.2.2.2.2.2.2.1 (lst_old (by decide) h), fun h => F.out.2.2.2.2.2.2.2.2.2.2.2.2.2.2.1 (lst_old (by decide) h), fun h => F.out.2.2.2.2.2.2.2.2.2.2.2.2.2.2.2.1 (lst_old (by decide) h), fun h => F.out.2.2.2.2.2.2.2.2.2.2.2.2.2.2.2.2.1 (lst_old (by decide) h), fun h => F.out.2.2.2.2.2.2.2.2.2.2.2.2.2.2.2.2.2.1 (lst_old (by decide) h), fun h => F.out.2.2.2.2.2.2.2.2.2.2.2.2.2.2.2.2.2.2.1 (lst_old (by decide) h), fun h => ⟨(F.out.2.2.2.2.2.2.2.2.2.2.2.2.2.2.2.2.2.2.2.1 (lst_old (by decide) h)).1, lst_keep (F.out.2.2.2.2.2.2.2.2.2.2.2.2.2.2.2.2.2.2.2.1 (lst_old (by decide) h)).2⟩, fun h => ⟨(F.out.2.2.2.2.2.2.2.2.2.2.2.2.2.2.2.2.2.2.2.2.1 (lst_old (by decide) h)).1, lst_keep (F.out.2.2.2.2.2.2.2.2.2.2.2.2.2.2.2.2.2.2.2.2.1 (lst_old (by decide) h)).2⟩, fun h => F.out.2.2.2.2.2.2.2.2.2.2.2.2.2.2.2.2.2.2.2.2.2 (lst_old (by decide) h)⟩
    · clear him
      have HI := Lib.hid hi
      clear hi
      refine wpOp_step (o := _) rfl (fun K' hK => ?_)
      have HK := Lib.hid hK
      clear hK
      go_simp
      exact HK.out _ _ ⟨_, _, _, _, _, _, _, _, _, _, _, _, _, _, _, _, _, _, _, _, _, rfl, hb, hz, Z0.out, Z1.out, fun h => F.out.1 (lst_old (by decide) h), fun h => F.out.2.1 (lst_old (by decide) h), fun h => F.out.2.2.1 (lst_old (by decide) h), fun h => F.out.2.2.2.1 (lst_old (by decide) h), fun h => F.out.2.2.2.2.1 (lst_old (by decide) h), fun h => F.out.2.2.2.2.2.1 (lst_old (by decide) h), fun h => ⟨(F.out.2.2.2.2.2.2.1 (lst_old (by decide) h)).1, lst_keep (F.out.2.2.2.2.2.2.1 (lst_old (by decide) h)).2⟩, fun _ => rfl, fun h => F.out.2.2.2.2.2.2.2.2.1 (lst_old (by decide) h), fun h => F.out.2.2.2.2.2.2.2.2.2.1 (lst_old (by decide) h), fun h => F.out.2.2.2.2.2.2.2.2.2.2.1 (lst_old (by decide) h), fun h => F.out.2.2.2.2.2.2.2.2.2.2.2.1 (lst_old (by decide) h), fun h => F.out.2.2.2.2.2.2.2.2.2.2.2.2.1 (lst_old (by decide) h), fun h => F.out.2.2.2.2.2.2.2.2.2.2.2.2.2.1 (lst_old (by decide) h), fun h => F.out.2.2.2.2.2.2.2.2.2.2.2.2.2.2.1 (lst_old (by decide) h), fun h => F.out.2.2.2.2.2.2.2.2.2.2.2.2.2.2.2.1 (lst_old (by decide) h), fun h => F.out.2.2.2.2.2.2.2.2.2.2.2.2.2.2.2.2.1 (lst_old (by decide) h), fun h => F.out.2.2.2.2.2.2.2.2.2.2.2.2.2.2.2.2.2.1 (lst_old (by decide) h), fun h => F.out.2.2.2.2.2.2.2.2.2.2.2.2.2.2.2.2.2.2.1 (lst_old (by decide) h), fun h => ⟨(F.out.2.2.2.2.2.2.2.2.2.2.2.2.2.2.2.2.2.2.2.1 (lst_old (by decide) h)).1, lst_keep (F.out.2.2.2.2.2.2.2.2.2.2.2.2.2.2.2.2.2.2.2.1 (lst_old (by decide) h)).2⟩, fun h => ⟨(F.out.2.2.2.2.2.2.2.2.2.2.2.2.2.2.2.2.2.2.2.2.1 (lst_old (by decide) h)).1, lst_keep (F.out.2.2.2.2.2.2.2.2.2.2.2.2.2.2.2.2.2.2.2.2.1 (lst_old (by decide) h)).2⟩, fun h => F.out.2.2.2.2.2.2.2.2.2.2.2.2.2.2.2.2.2.2.2.2.2 (lst_old (by decide) h)⟩
    · clear him
      have p7 := F.out.2.2.2.2.2.2.2.1 (ready_needs hi (by kernel_rfl))
      subst p7
      have hxx := Bx.upto hx hb (by omega)
      obtain ⟨b0, b1, b2, b3⟩ := hxx
      have HI := Lib.hid hi
      clear hi
      refine wpOp_step (o := _) rfl (fun K' hK => ?_)
      have HK := Lib.hid hK
      clear hK
      go_simp
      exact HK.out _ _ ⟨_, _, _, _, _, _, _, _, _, _, _, _, _, _, _, _, _, _, _, _, _, rfl, hb, hz, Z0.out, Z1.out, fun h => F.out.1 (lst_old (by decide) h), fun h => F.out.2.1 (lst_old (by decide) h), fun h => F.out.2.2.1 (lst_old (by decide) h), fun h => F.out.2.2.2.1 (lst_old (by decide) h), fun h => F.out.2.2.2.2.1 (lst_old (by decide) h), fun h => F.out.2.2.2.2.2.1 (lst_old (by decide) h), fun h => ⟨(F.out.2.2.2.2.2.2.1 (lst_old (by decide) h)).1, lst_keep (F.out.2.2.2.2.2.2.1 (lst_old (by decide) h)).2⟩, fun h => F.out.2.2.2.2.2.2.2.1 (lst_old (by decide) h), fun _ => rfl, fun h => F.out.2.2.2.2.2.2.2.2.2.1 (lst_old (by decide) h), fun h => F.out.2.2.2.2.2.2.2.2.2.2.1 (lst_old (by decide) h), fun h => F.out.2.2.2.2.2.2.2.2.2.2.2.1 (lst_old (by decide) h), fun h => F.out.2.2.2.2.2.2.2.2.2.2.2.2.1 (lst_old (by decide) h), fun h => F.out.2.2.2.2.2.2.2.2.2.2.2.2.2.1 (lst_old (by decide) h), fun h => F.out.2.2.2.2.2.2.2.2.2.2.2.2.2.2.1 (lst_old (by decide) h), fun h => F.out.2.2.2.2.2.2.2.2.2.2.2.2.2.2.2.1 (lst_old (by decide) h), fun h => F.out.2.2.2.2.2.2.2.2.2.2.2.2.2.2.2.2.1 (lst_old (by decide) h), fun h => F.out.2.2.2.2.2.2.2.2.2.2.2.2.2.2.2.2.2.1 (lst_old (by decide) h), fun h => F.out.2.2.2.2.2.2.2.2.2.2.2.2.2.2.2.2.2.2.1 (lst_old (by decide) h), fun h => ⟨(F.out.2.2.2.2.2.2.2.2.2.2.2.2.2.2.2.2.2.2.2.1 (lst_old (by decide) h)).1, lst_keep (F.out.2.2.2.2.2.2.2.2.2.2.2.2.2.2.2.2.2.2.2.1 (lst_old (by decide) h)).2⟩, fun h => ⟨(F.out.2.2.2.2.2.2.2.2.2.2.2.2.2.2.2.2.2.2.2.2.1 (lst_old (by decide) h)).1, lst_keep (F.out.2.2.2.2.2.2.2.2.2.2.2.2.2.2.2.2.2.2.2.2.1 (lst_old (by decide) h)).2⟩, fun h => F.out.2.2.2.2.2.2.2.2.2.2.2.2.2.2.2.2.2.2.2.2.2 (lst_old (by decide) h)⟩
    · clear him
      have HI := Lib.hid hi
      clear hi
      refine wpOp_step (o := _) rfl (fun K' hK => ?_)
      have HK := Lib.hid hK
      clear hK
      go_simp
      exact HK.out _ _ ⟨_, _, _, _, _, _, _, _, _, _, _, _, _, _, _, _, _, _, _, _, _, rfl, hb, hz, Z0.out, Z1.out, fun h => F.out.1 (lst_old (by decide) h), fun h => F.out.2.1 (lst_old (by decide) h), fun h => F.out.2.2.1 (lst_old (by decide) h), fun h => F.out.2.2.2.1 (lst_old (by decide) h), fun h => F.out.2.2.2.2.1 (lst_old (by decide) h), fun h => F.out.2.2.2.2.2.1 (lst_old (by decide) h), fun h => ⟨(F.out.2.2.2.2.2.2.1 (lst_old (by decide) h)).1, lst_keep (F.out.2.2.2.2.2.2.1 (lst_old (by decide) h)).2⟩, fun h => F.out.2.2.2.2.2.2.2.1 (lst_old (by decide) h), fun h => F.out.2.2.2.2.2.2.2.2.1 (lst_old (by decide) h), fun _ => rfl, fun h => F.out.2.2.2.2.2.2.2.2.2.2.1 (lst_old (by decide) h), fun h => F.out.2.2.2.2.2.2.2.2.2.2.2.1 (lst_old (by decide) h), fun h => F.out.2.2.2.2.2.2.2.2.2.2.2.2.1 (lst_old (by decide) h), fun h => F.out.2.2.2.2.2.2.2.2.2.2.2.2.2.1 (lst_old (by decide) h), fun h => F.out.2.2.2.2.2.2.2.2.2.2.2.2.2.2.1 (lst_old (by decide) h), fun h => F.out.2.2.2.2.2.2.2.2.2.2.2.2.2.2.2.1 (lst_old (by decide) h), fun h => F.out.2.2.2.2.2.2.2.2.2.2.2.2.2.2.2.2.1 (lst_old (by decide) h), fun h => F.out.2.2.2.2.2.2.2.2.2.2.2.2.2.2.2.2.2.1 (lst_old (by decide) h), fun h => F.out.2.2.2.2.2.2.2.2.2.2.2.2.2.2.2.2.2.2.1 (lst_old (by decide) h), fun h => ⟨(F.out.2.2.2.2.2.2.2.2.2.2.2.2.2.2.2.2.2.2.2.1 (lst_old (by decide) h)).1, lst_keep (F.out.2.2.2.2.2.2.2.2.2.2.2.2.2.2.2.2.2.2.2.1 (lst_old (by decide) h)).2⟩, fun h => ⟨(F.out.2.2.2.2.2.2.2.2.2.2.2.2.2.2.2.2.2.2.2.2.1 (lst_old (by decide) h)).1, lst_keep (F.out.2.2.2.2.2.2.2.2.2.2.2.2.2.2.2.2.2.2.2.2.1 (lst_old (by decide) h)).2⟩, fun h => F.out.2.2.2.2.2.2.2.2.2.2.2.2.2.2.2.2.2.2.2.2.2 (lst_old (by decide) h)⟩
    · clear him
      have p8 := F.out.2.2.2.2.2.2.2.2.1 (ready_needs hi (by kernel_rfl))
      have p9 := F.out.2.2.2.2.2.2.2.2.2.1 (ready_needs hi (by kernel_rfl))
      subst p8
      subst p9
      have HI := Lib.hid hi
      clear hi
      refine wpOp_step (o := _) rfl (fun K' hK => ?_)
      have HK := Lib.hid hK
      clear hK
      go_simp
      exact HK.out _ _ ⟨_, _, _, _, _, _, _, _, _, _, _, _, _, _, _, _, _, _, _, _, _, rfl, hb, hz, Z0.out, Z1.out, fun h => F.out.1 (lst_old (by decide) h), fun h => F.out.2.1 (lst_old (by decide) h), fun h => F.out.2.2.1 (lst_old (by decide) h), fun h => F.out.2.2.2.1 (lst_old (by decide) h), fun h => F.out.2.2.2.2.1 (lst_old (by decide) h), fun h => F.out.2.2.2.2.2.1 (lst_old (by decide) h), fun h => ⟨(F.out.2.2.2.2.2.2.1 (lst_old (by decide) h)).1, lst_keep (F.out.2.2.2.2.2.2.1 (lst_old (by decide) h)).2⟩, fun h => F.out.2.2.2.2.2.2.2.1 (lst_old (by decide) h), fun h => F.out.2.2.2.2.2.2.2.2.1 (lst_old (by decide) h), fun h => F.out.2.2.2.2.2.2.2.2.2.1 (lst_old (by decide) h), fun _ => rfl, fun h => F.out.2.2.2.2.2.2.2.2.2.2.2.1 (lst_old (by decide) h), fun h => F.out.2.2.2.2.2.2.2.2.2.2.2.2.1 (lst_old (by decide) h), fun h => F.out.2.2.2.2.2.2.2.2.2.2.2.2.2.1 (lst_old (by decide) h), fun h => F.out.2.2.2.2.2.2.2.2.2.2.2.2.2.2.1 (lst_old (by decide) h), fun h => F.out.2.2.2.2.2.2.2.2.2.2.2.2.2.2.2.1 (lst_old (by decide) h), fun h => F.out.2.2.2.2.2.2.2.2.2.2.2.2.2.2.2.2.1 (lst_old (by decide) h), fun h => F.out.2.2.2.2.2.2.2.2.2.2.2.2.2.2.2.2.2.1 (lst_old (by decide) h), fun h => F.out.2.2.2.2.2.2.2.2.2.2.2.2.2.2.2.2.2.2.1 (lst_old (by decide) h), fun h => ⟨(F.out.2.2.2.2.2.2.2.2.2.2.2.2.2.2.2.2.2.2.2.1 (lst_old (by decide) h)).1, lst_keep (F.out.2.2.2.2.2.2.2.2.2.2.2.2.2.2.2.2.2.2.2.1 (lst_old (by decide) h)).2⟩, fun h => ⟨(F.out.2.2.2.2.2.2.2.2.2.2.2.2.2.2.2.2.2.2.2.2.1 (lst_old (by decide) h)).1, lst_keep (F.out.2.2.2.2.2.2.2.2.2.2.2.2.2.2.2.2.2.2.2.2.1 (lst_old (by decide) h)).2⟩, fun h => F.out.2.2.2.2.2.2.2.2.2.2.2.2.2.2.2.2.2.2.2.2.2 (lst_old (by decide) h)⟩
    · clear him
      have p10 := F.out.2.2.2.2.2.2.2.2.2.2.1 (ready_needs hi (by kernel_rfl))
      subst p10
      have HI := Lib.hid hi
      clear hi
      refine wpOp_step (o := _) rfl (fun K' hK => ?_)
      have HK := Lib.hid hK
      clear hK
      go_simp
      exact HK.out _ _ ⟨_, _, _, _, _, _, _, _, _, _, _, _, _, _, _, _, _, _, _, _, _, rfl, hb, hz, Z0.out, Z1.out, fun h => F.out.1 (lst_old (by decide) h), fun h => F.out.2.1 (lst_old (by decide) h), fun h => F.out.2.2.1 (lst_old (by decide) h), fun h => F.out.2.2.2.1 (lst_old (by decide) h), fun h => F.out.2.2.2.2.1 (lst_old (by decide) h), fun h => F.out.2.2.2.2.2.1 (lst_old (by decide) h), fun h => ⟨(F.out.2.2.2.2.2.2.1 (lst_old (by decide) h)).1, lst_keep (F.out.2.2.2.2.2.2.1 (lst_old (by decide) h)).2⟩, fun h => F.out.2.2.2.2.2.2.2.1 (lst_old (by decide) h), fun h => F.out.2.2.2.2.2.2.2.2.1 (lst_old (by decide) h), fun h => F.out.2.2.2.2.2.2.2.2.2.1 (lst_old (by decide) h), fun h => F.out.2.2.2.2.2.2.2.2.2.2.1 (lst_old (by decide) h), fun _ => rfl, fun h => F.out.2.2.2.2.2.2.2.2.2.2.2.2.1 (lst_old (by decide) h), fun h => F.out.2.2.2.2.2.2.2.2.2.2.2.2.2.1 (lst_old (by decide) h), fun h => F.out.2.2.2.2.2.2.2.2.2.2.2.2.2.2.1 (lst_old (by decide) h), fun h => F.out.2.2.2.2.2.2.2.2.2.2.2.2.2.2.2.1 (lst_old (by decide) h), fun h => F.out.2.2.2.2.2.2.2.2.2.2.2.2.2.2.2.2.1 (lst_old (by decide) h), fun h => F.out.2.2.2.2.2.2.2.2.2.2.2.2.2.2.2.2.2.1 (lst_old (by decide) h), fun h => F.out.2.2.2.2.2.2.2.2.2.2.2.2.2.2.2.2.2.2.1 (lst_old (by decide) h), fun h => ⟨(F.out.2.2.2.2.2.2.2.2.2.2.2.2.2.2.2.2.2.2.2.1 (lst_old (by decide) h)).1, lst_keep (F.out.2.2.2.2.2.2.2.2.2.2.2.2.2.2.2.2.2.2.2.1 (lst_old (by decide) h)).2⟩, fun h => ⟨(F.out.2.2.2.2.2.2.2.2.2.2.2.2.2.2.2.2.2.2.2.2.1 (lst_old (by decide) h)).1, lst_keep (F.out.2.2.2.2.2.2.2.2.2.2.2.2.2.2.2.2.2.2.2.2.1 (lst_old (by decide) h)).2⟩, fun h => F.out.2.2.2.2.2.2.2.2.2.2.2.2.2.2.2.2.2.2.2.2.2 (lst_old (by decide) h)⟩
    · clear him
      have p11 := F.out.2.2.2.2.2.2.2.2.2.2.2.1 (ready_needs hi (by kernel_rfl))
      subst p11
      have hxx := Bx.upto hx hb (by omega)
      obtain ⟨b0, b1, b2, b3⟩ := hxx
      have ck := bcell hbw HCK.out
      have HI := Lib.hid hi
      clear hi
      refine wpOp_step (o := _) rfl (fun K' hK => ?_)
      have HK := Lib.hid hK
      clear hK
      go_simp
      exact HK.out _ _ ⟨_, _, _, _, _, _, _, _, _, _, _, _, _, _, _, _, _, _, _, _, _, rfl, hb, hz, Z0.out, Z1.out, fun h => F.out.1 (lst_old (by decide) h), fun h => F.out.2.1 (lst_old (by decide) h), fun h => F.out.2.2.1 (lst_old (by decide) h), fun h => F.out.2.2.2.1 (lst_old (by decide) h), fun h => F.out.2.2.2.2.1 (lst_old (by decide) h), fun h => F.out.2.2.2.2.2.1 (lst_old (by decide) h), fun h => ⟨(F.out.2.2.2.2.2.2.1 (lst_old (by decide) h)).1, lst_keep (F.out.2.2.2.2.2.2.1 (lst_old (by decide) h)).2⟩, fun h => F.out.2.2.2.2.2.2.2.1 (lst_old (by decide) h), fun h => F.out.2.2.2.2.2.2.2.2.1 (lst_old (by decide) h), fun h => F.out.2.2.2.2.2.2.2.2.2.1 (lst_old (by decide) h), fun h => F.out.2.2.2.2.2.2.2.2.2.2.1 (lst_old (by decide) h), fun h => F.out.2.2.2.2.2.2.2.2.2.2.2.1 (lst_old (by decide) h), fun _ => rfl, fun h => F.out.2.2.2.2.2.2.2.2.2.2.2.2.2.1 (lst_old (by decide) h), fun h => F.out.2.2.2.2.2.2.2.2.2.2.2.2.2.2.1 (lst_old (by decide) h), fun h => F.out.2.2.2.2.2.2.2.2.2.2.2.2.2.2.2.1 (lst_old (by decide) h), fun h => F.out.2.2.2.2.2.2.2.2.2.2.2.2.2.2.2.2.1 (lst_old (by decide) h), fun h => F.out.2.2.2.2.2.2.2.2.2.2.2.2.2.2.2.2.2.1 (lst_old (by decide) h), fun h => F.out.2.2.2.2.2.2.2.2.2.2.2.2.2.2.2.2.2.2.1 (lst_old (by decide) h), fun h => ⟨(F.out.2.2.2.2.2.2.2.2.2.2.2.2.2.2.2.2.2.2.2.1 (lst_old (by decide) h)).1, lst_keep (F.out.2.2.2.2.2.2.2.2.2.2.2.2.2.2.2.2.2.2.2.1 (lst_old (by decide) h)).2⟩, fun h => ⟨(F.out.2.2.2.2.2.2.2.2.2.2.2.2.2.2.2.2.2.2.2.2.1 (lst_old (by decide) h)).1, lst_keep (F.out.2.2.2.2.2.2.2.2.2.2.2.2.2.2.2.2.2.2.2.2.1 (lst_old (by decide) h)).2⟩, fun h => F.out.2.2.2.2.2.2.2.2.2.2.2.2.2.2.2.2.2.2.2.2.2 (lst_old (by decide) h)⟩
    · clear him
      have HI := Lib.hid hi
      clear hi
      refine wpOp_step (o := _) rfl (fun K' hK => ?_)
      have HK := Lib.hid hK
      clear hK
      go_simp
      exact HK.out _ _ ⟨_, _, _, _, _, _, _, _, _, _, _, _, _, _, _, _, _, _, _, _, _, rfl, hb, hz, Z0.out, Z1.out, fun h => F.out.1 (lst_old (by decide) h), fun h => F.out.2.1 (lst_old (by decide) h), fun h => F.out.2.2.1 (lst_old (by decide) h), fun h => F.out.2.2.2.1 (lst_old (by decide) h), fun h => F.out.2.2.2.2.1 (lst_old (by decide) h), fun h => F.out.2.2.2.2.2.1 (lst_old (by decide) h), fun h => ⟨(F.out.2.2.2.2.2.2.1 (lst_old (by decide) h)).1, lst_keep (F.out.2.2.2.2.2.2.1 (lst_old (by decide) h)).2⟩, fun h => F.out.2.2.2.2.2.2.2.1 (lst_old (by decide) h), fun h => F.out.2.2.2.2.2.2.2.2.1 (lst_old (by decide) h), fun h => F.out.2.2.2.2.2.2.2.2.2.1 (lst_old (by decide) h), fun h => F.out.2.2.2.2.2.2.2.2.2.2.1 (lst_old (by decide) h), fun h => F.out.2.2.2.2.2.2.2.2.2.2.2.1 (lst_old (by decide) h), fun h => F.out.2.2.2.2.2.2.2.2.2.2.2.2.1 (lst_old (by decide) h), fun _ => rfl, fun h => F.out.2.2.2.2.2.2.2.2.2.2.2.2.2.2.1 (lst_old (by decide) h), fun h => F.out.2.2.2.2.2.2.2.2.2.2.2.2.2.2.2.1 (lst_old (by decide) h), fun h => F.out.2.2.2.2.2.2.2.2.2.2.2.2.2.2.2.2.1 (lst_old (by decide) h), fun h => F.out.2.2.2.2.2.2.2.2.2.2.2.2.2.2.2.2.2.1 (lst_old (by decide) h), fun h => F.out.2.2.2.2.2.2.2.2.2.2.2.2.2.2.2.2.2.2.1 (lst_old (by decide) h), fun h => ⟨(F.out.2.2.2.2.2.2.2.2.2.2.2.2.2.2.2.2.2.2.2.1 (lst_old (by decide) h)).1, lst_keep (F.out.2.2.2.2.2.2.2.2.2.2.2.2.2.2.2.2.2.2.2.1 (lst_old (by decide) h)).2⟩, fun h => ⟨(F.out.2.2.2.2.2.2.2.2.2.2.2.2.2.2.2.2.2.2.2.2.1 (lst_old (by decide) h)).1, lst_keep (F.out.2.2.2.2.2.2.2.2.2.2.2.2.2.2.2.2.2.2.2.2.1 (lst_old (by decide) h)).2⟩, fun h => F.out.2.2.2.2.2.2.2.2.2.2.2.2.2.2.2.2.2.2.2.2.2 (lst_old (by decide) h)⟩
    · clear him
      have p13 := F.out.2.2.2.2.2.2.2.2.2.2.2.2.2.1 (ready_needs hi (by kernel_rfl))
      subst p13
      have hxx := Bx.upto hx hb (by omega)
      obtain ⟨b0, b1, b2, b3⟩ := hxx
      have HI := Lib.hid hi
      clear hi
      refine wpOp_step (o := _) rfl (fun K' hK => ?_)
      have HK := Lib.hid hK
      clear hK
      go_simp
      exact HK.out _ _ ⟨_, _, _, _, _, _, _, _, _, _, _, _, _, _, _, _, _, _, _, _, _, rfl, hb, hz, Z0.out, Z1.out, fun h => F.out.1 (lst_old (by decide) h), fun h => F.out.2.1 (lst_old (by decide) h), fun h => F.out.2.2.1 (lst_old (by decide) h), fun h => F.out.2.2.2.1 (lst_old (by decide) h), fun h => F.out.2.2.2.2.1 (lst_old (by decide) h), fun h => F.out.2.2.2.2.2.1 (lst_old (by decide) h), fun h => ⟨(F.out.2.2.2.2.2.2.1 (lst_old (by decide) h)).1, lst_keep (F.out.2.2.2.2.2.2.1 (lst_old (by decide) h)).2⟩, fun h => F.out.2.2.2.2.2.2.2.1 (lst_old (by decide) h), fun h => F.out.2.2.2.2.2.2.2.2.1 (lst_old (by decide) h), fun h => F.out.2.2.2.2.2.2.2.2.2.1 (lst_old (by decide) h), fun h => F.out.2.2.2.2.2.2.2.2.2.2.1 (lst_old (by decide) h), fun h => F.out.2.2.2.2.2.2.2.2.2.2.2.1 (lst_old (by decide) h), fun h => F.out.2.2.2.2.2.2.2.2.2.2.2.2.1 (lst_old (by decide) h), fun h => F.out.2.2.2.2.2.2.2.2.2.2.2.2.2.1 (lst_old (by decide) h), fun _ => rfl, fun h => F.out.2.2.2.2.2.2.2.2.2.2.2.2.2.2.2.1 (lst_old (by decide) h), fun h => F.out.2.2.2.2.2.2.2.2.2.2.2.2.2.2.2.2.1 (lst_old (by decide) h), fun h => F.out.2.2.2.2.2.2.2.2.2.2.2.2.2.2.2.2.2.1 (lst_old (by decide) h), fun h => F.out.2.2.2.2.2.2.2.2.2.2.2.2.2.2.2.2.2.2.1 (lst_old (by decide) h), fun h => ⟨(F.out.2.2.2.2.2.2.2.2.2.2.2.2.2.2.2.2.2.2.2.1 (lst_old (by decide) h)).1, lst_keep (F.out.2.2.2.2.2.2.2.2.2.2.2.2.2.2.2.2.2.2.2.1 (lst_old (by decide) h)).2⟩, fun h => ⟨(F.out.2.2.2.2.2.2.2.2.2.2.2.2.2.2.2.2.2.2.2.2.1 (lst_old (by decide) h)).1, lst_keep (F.out.2.2.2.2.2.2.2.2.2.2.2.2.2.2.2.2.2.2.2.2.1 (lst_old (by decide) h)).2⟩, fun h => F.out.2.2.2.2.2.2.2.2.2.2.2.2.2.2.2.2.2.2.2.2.2 (lst_old (by decide) h)⟩
    · clear him
      have HI := Lib.hid hi
      clear hi
      refine wpOp_step (o := _) rfl (fun K' hK => ?_)
      have HK := Lib.hid hK
      clear hK
      go_simp
      exact HK.out _ _ ⟨_, _, _, _, _, _, _, _, _, _, _, _, _, _, _, _, _, _, _, _, _, rfl, hb, hz, Z0.out, Z1.out, fun h => F.out.1 (lst_old (by decide) h), fun h => F.out.2.1 (lst_old (by decide) h), fun h => F.out.2.2.1 (lst_old (by decide) h), fun h => F.out.2.2.2.1 (lst_old (by decide) h), fun h => F.out.2.2.2.2.1 (lst_old (by decide) h), fun h => F.out.2.2.2.2.2.1 (lst_old (by decide) h), fun h => ⟨(F.out.2.2.2.2.2.2.1 (lst_old (by decide) h)).1, lst_keep (F.out.2.2.2.2.2.2.1 (lst_old (by decide) h)).2⟩, fun h => F.out.2.2.2.2.2.2.2.1 (lst_old (by decide) h), fun h => F.out.2.2.2.2.2.2.2.2.1 (lst_old (by decide) h), fun h => F.out.2.2.2.2.2.2.2.2.2.1 (lst_old (by decide) h), fun h => F.out.2.2.2.2.2.2.2.2.2.2.1 (lst_old (by decide) h), fun h => F.out.2.2.2.2.2.2.2.2.2.2.2.1 (lst_old (by decide) h), fun h => F.out.2.2.2.2.2.2.2.2.2.2.2.2.1 (lst_old (by decide) h), fun h => F.out.2.2.2.2.2.2.2.2.2.2.2.2.2.1 (lst_old (by decide) h), fun h => F.out.2.2.2.2.2.2.2.2.2.2.2.2.2.2.1 (lst_old (by decide) h), fun _ => rfl, fun h => F.out.2.2.2.2.2.2.2.2.2.2.2.2.2.2.2.2.1 (lst_old (by decide) h), fun h => F.out.2.2.2.2.2.2.2.2.2.2.2.2.2.2.2.2.2.1 (lst_old (by decide) h), fun h => F.out.2.2.2.2.2.2.2.2.2.2.2.2.2.2.2.2.2.2.1 (lst_old (by decide) h), fun h => ⟨(F.out.2.2.2.2.2.2.2.2.2.2.2.2.2.2.2.2.2.2.2.1 (lst_old (by decide) h)).1, lst_keep (F.out.2.2.2.2.2.2.2.2.2.2.2.2.2.2.2.2.2.2.2.1 (lst_old (by decide) h)).2⟩, fun h => ⟨(F.out.2.2.2.2.2.2.2.2.2.2.2.2.2.2.2.2.2.2.2.2.1 (lst_old (by decide) h)).1, lst_keep (F.out.2.2.2.2.2.2.2.2.2.2.2.2.2.2.2.2.2.2.2.2.1 (lst_old (by decide) h)).2⟩, fun h => F.out.2.2.2.2.2.2.2.2.2.2.2.2.2.2.2.2.2.2.2.2.2 (lst_old (by decide) h)⟩
    · clear him
      have p14 := F.out.2.2.2.2.2.2.2.2.2.2.2.2.2.2.1 (ready_needs hi (by kernel_rfl))
      have p15 := F.out.2.2.2.2.2.2.2.2.2.2.2.2.2.2.2.1 (ready_needs hi (by kernel_rfl))
      subst p14
      subst p15
      have HI := Lib.hid hi
      clear hi
      refine wpOp_step (o := _) rfl (fun K' hK => ?_)
      have HK := Lib.hid hK
      clear hK
      go_simp
      exact HK.out _ _ ⟨_, _, _, _, _, _, _, _, _, _, _, _, _, _, _, _, _, _, _, _, _, rfl, hb, hz, Z0.out, Z1.out, fun h => F.out.1 (lst_old (by decide) h), fun h => F.out.2.1 (lst_old (by decide) h), fun h => F.out.2.2.1 (lst_old (by decide) h), fun h => F.out.2.2.2.1 (lst_old (by decide) h), fun h => F.out.2.2.2.2.1 (lst_old (by decide) h), fun h => F.out.2.2.2.2.2.1 (lst_old (by decide) h), fun h => ⟨(F.out.2.2.2.2.2.2.1 (lst_old (by decide) h)).1, lst_keep (F.out.2.2.2.2.2.2.1 (lst_old (by decide) h)).2⟩, fun h => F.out.2.2.2.2.2.2.2.1 (lst_old (by decide) h), fun h => F.out.2.2.2.2.2.2.2.2.1 (lst_old (by decide) h), fun h => F.out.2.2.2.2.2.2.2.2.2.1 (lst_old (by decide) h), fun h => F.out.2.2.2.2.2.2.2.2.2.2.1 (lst_old (by decide) h), fun h => F.out.2.2.2.2.2.2.2.2.2.2.2.1 (lst_old (by decide) h), fun h => F.out.2.2.2.2.2.2.2.2.2.2.2.2.1 (lst_old (by decide) h), fun h => F.out.2.2.2.2.2.2.2.2.2.2.2.2.2.1 (lst_old (by decide) h), fun h => F.out.2.2.2.2.2.2.2.2.2.2.2.2.2.2.1 (lst_old (by decide) h), fun h => F.out.2.2.2.2.2.2.2.2.2.2.2.2.2.2.2.1 (lst_old (by decide) h), fun _ => rfl, fun h => F.out.2.2.2.2.2.2.2.2.2.2.2.2.2.2.2.2.2.1 (lst_old (by decide) h), fun h => F.out.2.2.2.2.2.2.2.2.2.2.2.2.2.2.2.2.2.2.1 (lst_old (by decide) h), fun h => ⟨(F.out.2.2.2.2.2.2.2.2.2.2.2.2.2.2.2.2.2.2.2.1 (lst_old (by decide) h)).1, lst_keep (F.out.2.2.2.2.2.2.2.2.2.2.2.2.2.2.2.2.2.2.2.1 (lst_old (by decide) h)).2⟩, fun h => ⟨(F.out.2.2.2.2.2.2.2.2.2.2.2.2.2.2.2.2.2.2.2.2.1 (lst_old (by decide) h)).1, lst_keep (F.out.2.2.2.2.2.2.2.2.2.2.2.2.2.2.2.2.2.2.2.2.1 (lst_old (by decide) h)).2⟩, fun h => F.out.2.2.2.2.2.2.2.2.2.2.2.2.2.2.2.2.2.2.2.2.2 (lst_old (by decide) h)⟩
    · clear him
      have p16 := F.out.2.2.2.2.2.2.2.2.2.2.2.2.2.2.2.2.1 (ready_needs hi (by kernel_rfl))
      subst p16
      have HI := Lib.hid hi
      clear hi
      refine wpOp_step (o := _) rfl (fun K' hK => ?_)
      have HK := Lib.hid hK
      clear hK
      go_simp
      exact HK.out _ _ ⟨_, _, _, _, _, _, _, _, _, _, _, _, _, _, _, _, _, _, _, _, _, rfl, (hb.alloc hgw _), (Nat.le_trans hz ((Below.refl _ W).alloc (Nat.le_refl _) _).size), Zb.below (Z0.out) ((Below.refl _ W).alloc (Nat.le_refl _) _), Zb.below (Z1.out) ((Below.refl _ W).alloc (Nat.le_refl _) _), fun h => F.out.1 (lst_old (by decide) h), fun h => F.out.2.1 (lst_old (by decide) h), fun h => F.out.2.2.1 (lst_old (by decide) h), fun h => F.out.2.2.2.1 (lst_old (by decide) h), fun h => Clb.below (F.out.2.2.2.2.1 (lst_old (by decide) h)) ((Below.refl _ W).alloc (Nat.le_refl _) _), fun h => own_below (F.out.2.2.2.2.2.1 (lst_old (by decide) h)) ((Below.refl _ W).alloc (Nat.le_refl _) _), fun h => ⟨(F.out.2.2.2.2.2.2.1 (lst_old (by decide) h)).1, lst_keep (F.out.2.2.2.2.2.2.1 (lst_old (by decide) h)).2⟩, fun h => F.out.2.2.2.2.2.2.2.1 (lst_old (by decide) h), fun h => F.out.2.2.2.2.2.2.2.2.1 (lst_old (by decide) h), fun h => F.out.2.2.2.2.2.2.2.2.2.1 (lst_old (by decide) h), fun h => F.out.2.2.2.2.2.2.2.2.2.2.1 (lst_old (by decide) h), fun h => F.out.2.2.2.2.2.2.2.2.2.2.2.1 (lst_old (by decide) h), fun h => F.out.2.2.2.2.2.2.2.2.2.2.2.2.1 (lst_old (by decide) h), fun h => F.out.2.2.2.2.2.2.2.2.2.2.2.2.2.1 (lst_old (by decide) h), fun h => F.out.2.2.2.2.2.2.2.2.2.2.2.2.2.2.1 (lst_old (by decide) h), fun h => F.out.2.2.2.2.2.2.2.2.2.2.2.2.2.2.2.1 (lst_old (by decide) h), fun h => F.out.2.2.2.2.2.2.2.2.2.2.2.2.2.2.2.2.1 (lst_old (by decide) h), fun _ => Clb.new W _ 43 1 rfl _ hz, fun h => own_below (F.out.2.2.2.2.2.2.2.2.2.2.2.2.2.2.2.2.2.2.1 (lst_old (by decide) h)) ((Below.refl _ W).alloc (Nat.le_refl _) _), fun h => ⟨(F.out.2.2.2.2.2.2.2.2.2.2.2.2.2.2.2.2.2.2.2.1 (lst_old (by decide) h)).1, lst_keep (F.out.2.2.2.2.2.2.2.2.2.2.2.2.2.2.2.2.2.2.2.1 (lst_old (by decide) h)).2⟩, fun h => ⟨blk_below ((F.out.2.2.2.2.2.2.2.2.2.2.2.2.2.2.2.2.2.2.2.2.1 (lst_old (by decide) h)).1) ((Below.refl _ W).alloc (Nat.le_refl _) _), lst_keep (F.out.2.2.2.2.2.2.2.2.2.2.2.2.2.2.2.2.2.2.2.2.1 (lst_old (by decide) h)).2⟩, fun h => F.out.2.2.2.2.2.2.2.2.2.2.2.2.2.2.2.2.2.2.2.2.2 (lst_old (by decide) h)⟩
    · clear him
      have p17 := F.out.2.2.2.2.2.2.2.2.2.2.2.2.2.2.2.2.2.1 (ready_needs hi (by kernel_rfl))
      have P17 := Lib.hid p17.cl
      clear p17
      have HI := Lib.hid hi
      clear hi
      refine wpOp_step (o := _) rfl (fun K' hK => ?_)
      have HK := Lib.hid hK
      clear hK
      go_simp
      refine (gl1_e P17.out (HHI.out.below hbw) (by rw [HKB.out]; omega)).mono ?_
      rintro r W2 ⟨x, rfl, hown, hb2⟩
      exact HK.out _ _ ⟨_, _, _, _, _, _, _, _, _, _, _, _, _, _, _, _, _, _, _, _, _, rfl, (hb.trans (hb2.mono hgw)), (Nat.le_trans hz hb2.size), Zb.below (Z0.out) hb2, Zb.below (Z1.out) hb2, fun h => F.out.1 (lst_old (by decide) h), fun h => F.out.2.1 (lst_old (by decide) h), fun h => F.out.2.2.1 (lst_old (by decide) h), fun h => F.out.2.2.2.1 (lst_old (by decide) h), fun h => Clb.below (F.out.2.2.2.2.1 (lst_old (by decide) h)) hb2, fun h => own_below (F.out.2.2.2.2.2.1 (lst_old (by decide) h)) hb2, fun h => ⟨(F.out.2.2.2.2.2.2.1 (lst_old (by decide) h)).1, lst_keep (F.out.2.2.2.2.2.2.1 (lst_old (by decide) h)).2⟩, fun h => F.out.2.2.2.2.2.2.2.1 (lst_old (by decide) h), fun h => F.out.2.2.2.2.2.2.2.2.1 (lst_old (by decide) h), fun h => F.out.2.2.2.2.2.2.2.2.2.1 (lst_old (by decide) h), fun h => F.out.2.2.2.2.2.2.2.2.2.2.1 (lst_old (by decide) h), fun h => F.out.2.2.2.2.2.2.2.2.2.2.2.1 (lst_old (by decide) h), fun h => F.out.2.2.2.2.2.2.2.2.2.2.2.2.1 (lst_old (by decide) h), fun h => F.out.2.2.2.2.2.2.2.2.2.2.2.2.2.1 (lst_old (by decide) h), fun h => F.out.2.2.2.2.2.2.2.2.2.2.2.2.2.2.1 (lst_old (by decide) h), fun h => F.out.2.2.2.2.2.2.2.2.2.2.2.2.2.2.2.1 (lst_old (by decide) h), fun h => F.out.2.2.2.2.2.2.2.2.2.2.2.2.2.2.2.2.1 (lst_old (by decide) h), fun h => Clb.below (F.out.2.2.2.2.2.2.2.2.2.2.2.2.2.2.2.2.2.1 (lst_old (by decide) h)) hb2, fun _ => own_mono (HKB.out ▸ hown) hz, fun h => absurd (F.out.2.2.2.2.2.2.2.2.2.2.2.2.2.2.2.2.2.2.2.1 (lst_old (by decide) h)).2 (ready_not HI.out), fun h => ⟨blk_below ((F.out.2.2.2.2.2.2.2.2.2.2.2.2.2.2.2.2.2.2.2.2.1 (lst_old (by decide) h)).1) hb2, lst_keep (F.out.2.2.2.2.2.2.2.2.2.2.2.2.2.2.2.2.2.2.2.2.1 (lst_old (by decide) h)).2⟩, fun h => F.out.2.2.2.2.2.2.2.2.2.2.2.2.2.2.2.2.2.2.2.2.2 (lst_old (by decide) h)⟩
    · clear him
      have p18 := F.out.2.2.2.2.2.2.2.2.2.2.2.2.2.2.2.2.2.2.1 (ready_needs hi (by kernel_rfl))
      obtain ⟨a18, c18, h18⟩ := own_slice p18
      subst h18
      have P18 := Lib.hid p18
      clear p18
      have HI := Lib.hid hi
      clear hi
      refine wpOp_step (o := _) rfl (fun K' hK => ?_)
      have HK := Lib.hid hK
      clear hK
      go_simp
      exact HK.out _ _ ⟨_, _, _, _, _, _, _, _, _, _, _, _, _, _, _, _, _, _, _, _, _, rfl, hb, hz, Z0.out, Z1.out, fun h => F.out.1 (lst_old (by decide) h), fun h => F.out.2.1 (lst_old (by decide) h), fun h => F.out.2.2.1 (lst_old (by decide) h), fun h => F.out.2.2.2.1 (lst_old (by decide) h), fun h => F.out.2.2.2.2.1 (lst_old (by decide) h), fun h => F.out.2.2.2.2.2.1 (lst_old (by decide) h), fun h => ⟨(F.out.2.2.2.2.2.2.1 (lst_old (by decide) h)).1, lst_keep (F.out.2.2.2.2.2.2.1 (lst_old (by decide) h)).2⟩, fun h => F.out.2.2.2.2.2.2.2.1 (lst_old (by decide) h), fun h => F.out.2.2.2.2.2.2.2.2.1 (lst_old (by decide) h), fun h => F.out.2.2.2.2.2.2.2.2.2.1 (lst_old (by decide) h), fun h => F.out.2.2.2.2.2.2.2.2.2.2.1 (lst_old (by decide) h), fun h => F.out.2.2.2.2.2.2.2.2.2.2.2.1 (lst_old (by decide) h), fun h => F.out.2.2.2.2.2.2.2.2.2.2.2.2.1 (lst_old (by decide) h), fun h => F.out.2.2.2.2.2.2.2.2.2.2.2.2.2.1 (lst_old (by decide) h), fun h => F.out.2.2.2.2.2.2.2.2.2.2.2.2.2.2.1 (lst_old (by decide) h), fun h => F.out.2.2.2.2.2.2.2.2.2.2.2.2.2.2.2.1 (lst_old (by decide) h), fun h => F.out.2.2.2.2.2.2.2.2.2.2.2.2.2.2.2.2.1 (lst_old (by decide) h), fun h => F.out.2.2.2.2.2.2.2.2.2.2.2.2.2.2.2.2.2.1 (lst_old (by decide) h), fun h => F.out.2.2.2.2.2.2.2.2.2.2.2.2.2.2.2.2.2.2.1 (lst_old (by decide) h), fun _ => ⟨rfl, lst_keep (ready_needs HI.out (by kernel_rfl))⟩, fun h => ⟨(F.out.2.2.2.2.2.2.2.2.2.2.2.2.2.2.2.2.2.2.2.2.1 (lst_old (by decide) h)).1, lst_keep (F.out.2.2.2.2.2.2.2.2.2.2.2.2.2.2.2.2.2.2.2.2.1 (lst_old (by decide) h)).2⟩, fun h => F.out.2.2.2.2.2.2.2.2.2.2.2.2.2.2.2.2.2.2.2.2.2 (lst_old (by decide) h)⟩
    · clear him
      have p5 := F.out.2.2.2.2.2.1 (ready_needs hi (by kernel_rfl))
      have p6 := F.out.2.2.2.2.2.2.1 (ready_needs hi (by kernel_rfl))
      obtain ⟨a5, c5, h5⟩ := own_slice p5
      subst h5
      have P5 := Lib.hid p5
      clear p5
      replace p6 := p6.1
      subst p6
      obtain ⟨z0a, z0b, z0c, z0d, hz0⟩ := Z0.out
      have c00 : World.cell? (W) ⟨(w.heap.size + 1), 0, none⟩ = some z0a := by rw [blk_cell hz0]; rfl
      have f00 := blk_free hz0 0
      have hz00 := blk_set hz0 0 (.bool true)
      have c01 : World.cell? (World.setCell (W) ⟨(w.heap.size + 1), 0, none⟩ (.bool true)) ⟨(w.heap.size + 1), 1, none⟩ = some z0b := by rw [blk_cell hz00]; rfl
      have f01 := blk_free hz00 1
      have hz01 := blk_set hz00 1 (.slice a5 ka c5)
      have c02 : World.cell? (World.setCell (World.setCell (W) ⟨(w.heap.size + 1), 0, none⟩ (.bool true)) ⟨(w.heap.size + 1), 1, none⟩ (.slice a5 ka c5)) ⟨(w.heap.size + 1), 2, none⟩ = some z0c := by rw [blk_cell hz01]; rfl
      have f02 := blk_free hz01 2
      have hz02 := blk_set hz01 2 (.slice none 0 0)
      have c03 : World.cell? (World.setCell (World.setCell (World.setCell (W) ⟨(w.heap.size + 1), 0, none⟩ (.bool true)) ⟨(w.heap.size + 1), 1, none⟩ (.slice a5 ka c5)) ⟨(w.heap.size + 1), 2, none⟩ (.slice none 0 0)) ⟨(w.heap.size + 1), 3, none⟩ = some z0d := by rw [blk_cell hz02]; rfl
      have f03 := blk_free hz02 3
      have hz03 := blk_set hz02 3 (.slice none 0 0)
      have HZ0 := Lib.hid hz03
      clear hz0 hz00 hz01 hz02 hz03
      have HI := Lib.hid hi
      clear hi
      refine wpOp_step (o := _) rfl (fun K' hK => ?_)
      have HK := Lib.hid hK
      clear hK
      go_simp
      have hon : Only ((w.heap.size + 1)) W (World.setCell (World.setCell (World.setCell (World.setCell (W) ⟨(w.heap.size + 1), 0, none⟩ (.bool true)) ⟨(w.heap.size + 1), 1, none⟩ (.slice a5 ka c5)) ⟨(w.heap.size + 1), 2, none⟩ (.slice none 0 0)) ⟨(w.heap.size + 1), 3, none⟩ (.slice none 0 0)) := (((Only.set _ _ _).trans (Only.set _ _ _)).trans (Only.set _ _ _)).trans (Only.set _ _ _)
      have hlt : (w.heap.size + 1) < w1.heap.size := by have := HZ1.out; omega
      obtain ⟨W4, hW4⟩ : ∃ X, World.setCell (World.setCell (World.setCell (World.setCell (W) ⟨(w.heap.size + 1), 0, none⟩ (.bool true)) ⟨(w.heap.size + 1), 1, none⟩ (.slice a5 ka c5)) ⟨(w.heap.size + 1), 2, none⟩ (.slice none 0 0)) ⟨(w.heap.size + 1), 3, none⟩ (.slice none 0 0) = X := ⟨_, rfl⟩
      rw [hW4] at HZ0 hon ⊢
      clear hW4
      exact HK.out _ _ ⟨_, _, _, _, _, _, _, _, _, _, _, _, _, _, _, _, _, _, _, _, _, rfl, (hb.trans (hon.to_below (by omega) hgw)), (Nat.le_trans hz hon.size), ⟨_, _, _, _, HZ0.out⟩, Zb.only Z1.out hon (by omega), fun h => F.out.1 (lst_old (by decide) h), fun h => F.out.2.1 (lst_old (by decide) h), fun h => F.out.2.2.1 (lst_old (by decide) h), fun h => F.out.2.2.2.1 (lst_old (by decide) h), fun h => Clb.only (F.out.2.2.2.2.1 (lst_old (by decide) h)) hon hlt, fun h => own_only' (F.out.2.2.2.2.2.1 (lst_old (by decide) h)) hon hlt, fun h => ⟨(F.out.2.2.2.2.2.2.1 (lst_old (by decide) h)).1, lst_keep (F.out.2.2.2.2.2.2.1 (lst_old (by decide) h)).2⟩, fun h => F.out.2.2.2.2.2.2.2.1 (lst_old (by decide) h), fun h => F.out.2.2.2.2.2.2.2.2.1 (lst_old (by decide) h), fun h => F.out.2.2.2.2.2.2.2.2.2.1 (lst_old (by decide) h), fun h => F.out.2.2.2.2.2.2.2.2.2.2.1 (lst_old (by decide) h), fun h => F.out.2.2.2.2.2.2.2.2.2.2.2.1 (lst_old (by decide) h), fun h => F.out.2.2.2.2.2.2.2.2.2.2.2.2.1 (lst_old (by decide) h), fun h => F.out.2.2.2.2.2.2.2.2.2.2.2.2.2.1 (lst_old (by decide) h), fun h => F.out.2.2.2.2.2.2.2.2.2.2.2.2.2.2.1 (lst_old (by decide) h), fun h => F.out.2.2.2.2.2.2.2.2.2.2.2.2.2.2.2.1 (lst_old (by decide) h), fun h => F.out.2.2.2.2.2.2.2.2.2.2.2.2.2.2.2.2.1 (lst_old (by decide) h), fun h => Clb.only (F.out.2.2.2.2.2.2.2.2.2.2.2.2.2.2.2.2.2.1 (lst_old (by decide) h)) hon hlt, fun h => own_only' (F.out.2.2.2.2.2.2.2.2.2.2.2.2.2.2.2.2.2.2.1 (lst_old (by decide) h)) hon hlt, fun h => ⟨(F.out.2.2.2.2.2.2.2.2.2.2.2.2.2.2.2.2.2.2.2.1 (lst_old (by decide) h)).1, lst_keep (F.out.2.2.2.2.2.2.2.2.2.2.2.2.2.2.2.2.2.2.2.1 (lst_old (by decide) h)).2⟩, fun _ => ⟨HZ0.out, lst_keep (ready_needs HI.out (by kernel_rfl))⟩, fun h => F.out.2.2.2.2.2.2.2.2.2.2.2.2.2.2.2.2.2.2.2.2.2 (lst_old (by decide) h)⟩
    · clear him
      have p12 := F.out.2.2.2.2.2.2.2.2.2.2.2.2.1 (ready_needs hi (by kernel_rfl))
      subst p12
      have HI := Lib.hid hi
      clear hi
      refine wpOp_step (o := _) rfl (fun K' hK => ?_)
      have HK := Lib.hid hK
      clear hK
      go_simp
      exact HK.out _ _ ⟨_, _, _, _, _, _, _, _, _, _, _, _, _, _, _, _, _, _, _, _, _, rfl, hb, hz, Z0.out, Z1.out, fun h => F.out.1 (lst_old (by decide) h), fun h => F.out.2.1 (lst_old (by decide) h), fun h => F.out.2.2.1 (lst_old (by decide) h), fun h => F.out.2.2.2.1 (lst_old (by decide) h), fun h => F.out.2.2.2.2.1 (lst_old (by decide) h), fun h => F.out.2.2.2.2.2.1 (lst_old (by decide) h), fun h => ⟨(F.out.2.2.2.2.2.2.1 (lst_old (by decide) h)).1, lst_keep (F.out.2.2.2.2.2.2.1 (lst_old (by decide) h)).2⟩, fun h => F.out.2.2.2.2.2.2.2.1 (lst_old (by decide) h), fun h => F.out.2.2.2.2.2.2.2.2.1 (lst_old (by decide) h), fun h => F.out.2.2.2.2.2.2.2.2.2.1 (lst_old (by decide) h), fun h => F.out.2.2.2.2.2.2.2.2.2.2.1 (lst_old (by decide) h), fun h => F.out.2.2.2.2.2.2.2.2.2.2.2.1 (lst_old (by decide) h), fun h => F.out.2.2.2.2.2.2.2.2.2.2.2.2.1 (lst_old (by decide) h), fun h => F.out.2.2.2.2.2.2.2.2.2.2.2.2.2.1 (lst_old (by decide) h), fun h => F.out.2.2.2.2.2.2.2.2.2.2.2.2.2.2.1 (lst_old (by decide) h), fun h => F.out.2.2.2.2.2.2.2.2.2.2.2.2.2.2.2.1 (lst_old (by decide) h), fun h => F.out.2.2.2.2.2.2.2.2.2.2.2.2.2.2.2.2.1 (lst_old (by decide) h), fun h => F.out.2.2.2.2.2.2.2.2.2.2.2.2.2.2.2.2.2.1 (lst_old (by decide) h), fun h => F.out.2.2.2.2.2.2.2.2.2.2.2.2.2.2.2.2.2.2.1 (lst_old (by decide) h), fun h => ⟨(F.out.2.2.2.2.2.2.2.2.2.2.2.2.2.2.2.2.2.2.2.1 (lst_old (by decide) h)).1, lst_keep (F.out.2.2.2.2.2.2.2.2.2.2.2.2.2.2.2.2.2.2.2.1 (lst_old (by decide) h)).2⟩, fun h => ⟨(F.out.2.2.2.2.2.2.2.2.2.2.2.2.2.2.2.2.2.2.2.2.1 (lst_old (by decide) h)).1, lst_keep (F.out.2.2.2.2.2.2.2.2.2.2.2.2.2.2.2.2.2.2.2.2.1 (lst_old (by decide) h)).2⟩, fun _ => rfl⟩
  case fin =>
    intro f a W hI
    obtain ⟨v3, v32, v33, v34, v35, v36, v37, v38, v39, v40, v41, v42, v43, v44, v45, v46, v47, v48, v49, v50, v51, rfl, hb, hz, hzb0, hzb1, hf⟩ := hI
    have hgw : w.heap.size + 1 ≤ W.heap.size := by have := HZ1.out; omega
    have p0 := hf.1 rfl
    have p1 := hf.2.1 rfl
    have p2 := hf.2.2.1 rfl
    have p3 := hf.2.2.2.1 rfl
    have p4 := hf.2.2.2.2.1 rfl
    have p5 := hf.2.2.2.2.2.1 rfl
    have p6 := hf.2.2.2.2.2.2.1 rfl
    have p7 := hf.2.2.2.2.2.2.2.1 rfl
    have p8 := hf.2.2.2.2.2.2.2.2.1 rfl
    have p9 := hf.2.2.2.2.2.2.2.2.2.1 rfl
    have p10 := hf.2.2.2.2.2.2.2.2.2.2.1 rfl
    have p11 := hf.2.2.2.2.2.2.2.2.2.2.2.1 rfl
    have p12 := hf.2.2.2.2.2.2.2.2.2.2.2.2.1 rfl
    have p13 := hf.2.2.2.2.2.2.2.2.2.2.2.2.2.1 rfl
    have p14 := hf.2.2.2.2.2.2.2.2.2.2.2.2.2.2.1 rfl
    have p15 := hf.2.2.2.2.2.2.2.2.2.2.2.2.2.2.2.1 rfl
    have p16 := hf.2.2.2.2.2.2.2.2.2.2.2.2.2.2.2.2.1 rfl
    have p17 := hf.2.2.2.2.2.2.2.2.2.2.2.2.2.2.2.2.2.1 rfl
    have p18 := hf.2.2.2.2.2.2.2.2.2.2.2.2.2.2.2.2.2.2.1 rfl
    have p19 := hf.2.2.2.2.2.2.2.2.2.2.2.2.2.2.2.2.2.2.2.1 rfl
    have p20 := hf.2.2.2.2.2.2.2.2.2.2.2.2.2.2.2.2.2.2.2.2.1 rfl
    have p21 := hf.2.2.2.2.2.2.2.2.2.2.2.2.2.2.2.2.2.2.2.2.2 rfl
    clear hf
    subst p0
    subst p1
    subst p2
    subst p3
    clear p4
    obtain ⟨a5, c5, h5⟩ := own_slice p5
    subst h5
    have P5 := Lib.hid p5
    clear p5
    replace p6 := p6.1
    subst p6
    subst p7
    subst p8
    subst p9
    subst p10
    subst p11
    subst p12
    subst p13
    subst p14
    subst p15
    subst p16
    clear p17
    obtain ⟨a18, c18, h18⟩ := own_slice p18
    subst h18
    have P18 := Lib.hid p18
    clear p18
    replace p19 := p19.1
    subst p19
    replace p20 := p20.1
    have P20 := Lib.hid p20
    clear p20
    subst p21
    refine wpAny_all (rs := [22]) (by kernel_rfl) (by simp) ?_
    intro i' hi'
    obtain rfl := List.mem_singleton.1 hi'
    obtain ⟨z0a, z0b, z0c, z0d, hz0⟩ := hzb1
    have c00 : World.cell? (W) ⟨w.heap.size + 1 + 1, 0, none⟩ = some z0a := by rw [blk_cell hz0]; rfl
    have f00 := blk_free hz0 0
    have hz00 := blk_set hz0 0 (.bool true)
    have c01 : World.cell? (World.setCell (W) ⟨w.heap.size + 1 + 1, 0, none⟩ (.bool true)) ⟨w.heap.size + 1 + 1, 1, none⟩ = some z0b := by rw [blk_cell hz00]; rfl
    have f01 := blk_free hz00 1
    have hz01 := blk_set hz00 1 (.slice a18 kb c18)
    have c02 : World.cell? (World.setCell (World.setCell (W) ⟨w.heap.size + 1 + 1, 0, none⟩ (.bool true)) ⟨w.heap.size + 1 + 1, 1, none⟩ (.slice a18 kb c18)) ⟨w.heap.size + 1 + 1, 2, none⟩ = some z0c := by rw [blk_cell hz01]; rfl
    have f02 := blk_free hz01 2
    have hz02 := blk_set hz01 2 (.slice none 0 0)
    have c03 : World.cell? (World.setCell (World.setCell (World.setCell (W) ⟨w.heap.size + 1 + 1, 0, none⟩ (.bool true)) ⟨w.heap.size + 1 + 1, 1, none⟩ (.slice a18 kb c18)) ⟨w.heap.size + 1 + 1, 2, none⟩ (.slice none 0 0)) ⟨w.heap.size + 1 + 1, 3, none⟩ = some z0d := by rw [blk_cell hz02]; rfl
    have f03 := blk_free hz02 3
    have hz03 := blk_set hz02 3 (.slice none 0 0)
    have HZ0 := Lib.hid hz03
    clear hz0 hz00 hz01 hz02 hz03
    refine wpOp_step (o := _) rfl (fun K' hK => ?_)
    have HKK := Lib.hid hK
    clear hK
    go_simp
    refine HKK.out _ _ (wpAny_done (by kernel_rfl) ?_ _)
    have hon : Only (w.heap.size + 1 + 1) W (World.setCell (World.setCell (World.setCell (World.setCell (W) ⟨w.heap.size + 1 + 1, 0, none⟩ (.bool true)) ⟨w.heap.size + 1 + 1, 1, none⟩ (.slice a18 kb c18)) ⟨w.heap.size + 1 + 1, 2, none⟩ (.slice none 0 0)) ⟨w.heap.size + 1 + 1, 3, none⟩ (.slice none 0 0)) := (((Only.set _ _ _).trans (Only.set _ _ _)).trans (Only.set _ _ _)).trans (Only.set _ _ _)
    obtain ⟨W4, hW4⟩ : ∃ X, World.setCell (World.setCell (World.setCell (World.setCell (W) ⟨w.heap.size + 1 + 1, 0, none⟩ (.bool true)) ⟨w.heap.size + 1 + 1, 1, none⟩ (.slice a18 kb c18)) ⟨w.heap.size + 1 + 1, 2, none⟩ (.slice none 0 0)) ⟨w.heap.size + 1 + 1, 3, none⟩ (.slice none 0 0) = X := ⟨_, rfl⟩
    rw [hW4] at HZ0 hon ⊢
    clear hW4
    have hlt : w.heap.size + 1 + 1 < w1.heap.size := by have := HZ1.out; omega
    have hb4 : Below w.heap.size w W4 := (hb1.trans (hb.mono (by omega))).trans (hon.to_below (by omega) (by omega))
    have hz20 := hon.blk P20.out (by omega)
    have O1 := own_mono (own_only' P5.out hon hlt) hb1.size
    have O2 := own_mono (own_only' P18.out hon hlt) hb1.size
    rw [← HKA.out] at O1 hz20
    rw [← HKB.out] at O2 HZ0
    have O1 := Lib.hid O1; have O2 := Lib.hid O2; have HZ20 := Lib.hid hz20
    clear hz20
    go_wp2
    refine bodyPost_ret (res_three rfl rfl rfl rfl (load69 (bx_blk HZ20.out)) (load69 (bx_blk HZ0.out))) rfl ?_
    exact ⟨_, _, rfl, ⟨_, _, _, _, _, _, rfl, O1.out, World.ownsRow_nil _ _ _ _, World.ownsRow_nil _ _ _ _⟩, ⟨_, _, _, _, _, _, rfl, O2.out, World.ownsRow_nil _ _ _ _, World.ownsRow_nil _ _ _ _⟩, hb4⟩
end Go.Proofs.Ytifdglehfhoecaa.N

/-
  The document's examples. Conditions: none.
-/
namespace Go.Proofs.Ytifdglehfhoecaa.E
open Go.RowKit B
def kA : ByteArray := ⟨#[97]⟩
def kB : ByteArray := ⟨#[98]⟩
def kC : ByteArray := ⟨#[99]⟩
def v1 : ByteArray := ⟨#[49]⟩
def v2 : ByteArray := ⟨#[50]⟩
def vX : ByteArray := ⟨#[120, 121]⟩
def l2 : List Ent := [(kA, vX), (kB, v2)]
def l3 : List Ent := [(kA, vX), (kB, vX), (kC, vX)]
theorem p1 : putl [] kB v1 = [(kB, v1)] := by decide +kernel
theorem p2 : putl [(kB, v1)] kA vX = [(kA, vX), (kB, v1)] := by decide +kernel
theorem p3 : putl [(kA, vX), (kB, v1)] kB v2 = l2 := by decide +kernel
theorem g2 : getl l2 kB = some ⟨#[50]⟩ := by decide +kernel
theorem e2 : encl l2 = ⟨#[1, 97, 2, 120, 121, 1, 98, 1, 50]⟩ := by decide +kernel
theorem ok2 : M.Ok l2 := by decide +kernel
theorem low2 : M.Low l2 ⟨#[97, 97]⟩ 1 := by unfold M.Low; decide +kernel
theorem not2 : ¬ ∃ h : 1 < l2.length, l2[1].1 = ⟨#[97, 97]⟩ := by decide +kernel
theorem s1 : M.sz [(kA, vX)] = 5 := by decide +kernel
theorem h3 : M.Half l3 2 := .inr ⟨by decide, by decide, .inl (by decide +kernel), fun j a b => by
  obtain rfl : j = 1 := by omega
  decide +kernel⟩
theorem may1 : ¬ M.may ⟨#[]⟩ ⟨#[]⟩ := by decide +kernel
theorem may2 : M.may kA ⟨#[]⟩ := by decide +kernel
theorem find2 (v : Value) (w : World) (hv : Ents w v l2) : Calls Try.prog 46 #[v, .string ⟨#[97, 97]⟩] w fun r w' => r = .returned (.tuple #[.int .i64 1, .bool false]) ∧ Below w.heap.size w w' := by
  refine (find_any v l2 _ w hv (by decide)).mono ?_
  rintro r w' ⟨i, ok, rfl, h1, h2, h3, hb⟩
  obtain rfl : i = 1 := M.low_unique (h3 ok2.2) low2
  have : ok = false := by
    rcases ok with _ | _
    · rfl
    · exact absurd (h2.1 rfl) not2
  subst this
  exact ⟨rfl, hb⟩
theorem half3 (v : Value) (w : World) (hv : Ents w v l3) : Calls Try.prog 32 #[v] w fun r w' => r = .returned (.int .i64 2) ∧ Below w.heap.size w w' := by
  refine (half_any v l3 w hv (by decide) (by decide +kernel)).mono ?_
  rintro r w' ⟨k, rfl, h1, hb⟩
  obtain rfl : k = 2 := M.half_unique h1 h3
  exact ⟨rfl, hb⟩
theorem new3 (w : World) : Ents (w.alloc (.cells #[.string kA, .string vX, .string kB, .string vX, .string kC, .string vX] 49)) (.slice (some ⟨w.heap.size, 0, none⟩) 3 3) l3 :=
  Ents.close (l := l3) (Nat.le_refl _) (by unfold maxLen; omega) fun j hj => ⟨w.heap.size, 0, rfl, by
    match j, hj with
    | 0, _ => constructor <;> (rw [World.cell?_alloc_mark]; rfl)
    | 1, _ => constructor <;> (rw [World.cell?_alloc_mark]; rfl)
    | 2, _ => constructor <;> (rw [World.cell?_alloc_mark]; rfl)⟩
set_option maxRecDepth 100000 in
set_option maxHeartbeats 1000000 in
theorem works_any (w : World) : Calls Try.prog 30 #[] w fun r w' => r = .returned (.bool true) ∧ Below w.heap.size w w' := by
  have P1 := Lib.hid (fun W => put_any (.slice none 0 0) [] kB v1 W (Rw.nil W 2) (by decide))
  have P2 := Lib.hid (fun v W h => put_any v [(kB, v1)] kA vX W h (by decide))
  have P3 := Lib.hid (fun v W h => put_any v [(kA, vX), (kB, v1)] kB v2 W h (by decide))
  rw [p1] at P1
  rw [p2] at P2
  rw [p3] at P3
  have P4 := Lib.hid (fun v W h => get_any v l2 kB W h (by decide))
  rw [g2] at P4
  have P5 := Lib.hid (fun v W h => encode_any v l2 W h (by decide))
  rw [e2, if_pos ok2] at P5
  have P6 := Lib.hid (fun v W h => size_any v [(kA, vX)] W h (by decide) (by decide +kernel))
  rw [s1] at P6
  have P7 := Lib.hid (fun W => check_any ⟨#[]⟩ ⟨#[]⟩ W)
  rw [if_neg may1] at P7
  have P8 := Lib.hid (fun W => check_any kA ⟨#[]⟩ W)
  rw [if_pos may2] at P8
  go_enter Try.func30, Try.ntmps30
  go_wp2_with fail
  refine (P1.out _).mono ?_
  rintro r x1 ⟨u1, rfl, hE1, hb1⟩
  have HE1 := Lib.hid hE1; clear hE1
  go_wp2_with fail
  refine (P2.out _ _ HE1.out).mono ?_
  rintro r x2 ⟨u2, rfl, hE2, hb2⟩
  have hb2 := hb1.trans (hb2.mono hb1.size)
  have HE2 := Lib.hid hE2; clear hE2 hb1
  go_wp2_with fail
  refine (P3.out _ _ HE2.out).mono ?_
  rintro r x3 ⟨u3, rfl, hE3, hb3⟩
  have hb3 := hb2.trans (hb3.mono hb2.size)
  clear hb2
  obtain ⟨ao, cap, rfl, hcp, hcm, hc⟩ := hE3.open
  obtain ⟨b, o, rfl, c0, c1⟩ := hc 0 (by decide)
  obtain ⟨b', o', e', c2, c3⟩ := hc 1 (by decide)
  obtain ⟨rfl, rfl⟩ : b = b' ∧ o = o' := by injection e' with e'; injection e' with a1 a2 a3; exact ⟨a1, a2⟩
  have c0 : x3.cell? ⟨b, o, none⟩ = some (.string ⟨#[97]⟩) := c0
  have c1 : x3.cell? ⟨b, o + 1, none⟩ = some (.string ⟨#[120, 121]⟩) := c1
  have c2 : x3.cell? ⟨b, o + 2, none⟩ = some (.string ⟨#[98]⟩) := c2
  have c3 : x3.cell? ⟨b, o + 2 + 1, none⟩ = some (.string ⟨#[50]⟩) := c3
  have hl2 : l2.length = 2 := rfl
  rw [hl2] at hE3 hcp
  rw [hl2]
  have HE3 := Lib.hid hE3
  have HC := Lib.hid (And.intro c0 (And.intro c1 (And.intro c2 c3)))
  clear hE3 hc e' hl2 c0 c1 c2 c3
  go_wp2_with fail
  refine (find2 _ _ HE3.out).mono ?_
  rintro r x4 ⟨rfl, hb4⟩
  go_wp2_with fail
  refine (P4.out _ _ (HE3.out.below hb4)).mono ?_
  rintro r x5 ⟨rfl, hb5⟩
  have hb5 := hb4.trans (hb5.mono hb4.size)
  clear hb4
  go_wp2_with fail
  obtain ⟨X, hX⟩ : ∃ X, x5.alloc (.cells #[.string ⟨#[97]⟩, .string ⟨#[120, 121]⟩, .string ⟨#[98]⟩, .string ⟨#[120, 121]⟩, .string ⟨#[99]⟩, .string ⟨#[120, 121]⟩] 49) = X := ⟨_, rfl⟩
  have hthree : Ents X (.slice (some ⟨x5.heap.size, 0, none⟩) 3 3) l3 := by rw [← hX]; exact new3 x5
  have hb6 : Below x3.heap.size x3 X := by rw [← hX]; exact hb5.alloc hb5.size _
  rw [hX]
  have H3 := Lib.hid hthree
  clear hX hthree hb5
  refine (P5.out _ _ (HE3.out.below hb6)).mono ?_
  rintro r x6 ⟨rfl, hb7⟩
  have H3 := Lib.hid (H3.out.below hb7)
  have hb7 := hb6.trans (hb7.mono hb6.size)
  have c0 := bcell hb7 HC.out.1
  have c1 := bcell hb7 HC.out.2.1
  have c2 := bcell hb7 HC.out.2.2.1
  have c3 := bcell hb7 HC.out.2.2.2
  clear hb6
  have H0 := Lib.hid (new_one x6 (kA, vX) 49)
  have hs6 : (x6.alloc (.cells #[.string ⟨#[97]⟩, .string ⟨#[120, 121]⟩] 49)).heap.size = x6.heap.size + 1 := by simp
  go_wp2_with fail
  refine (P6.out (.slice (some ⟨x6.heap.size, 0, none⟩) 1 1) _ H0.out).mono ?_
  rintro r x7 ⟨rfl, hb8⟩
  have H3 := Lib.hid ((H3.out.below ((Below.refl _ x6).alloc (Nat.le_refl _) _)).below hb8)
  have hb8 := (hb7.alloc hb7.size _).trans (hb8.mono (by have := hb7.size; simp; omega))
  clear hs6 hb7 c0 c1 c2 c3 H0
  go_wp2_with fail
  refine (half3 _ _ H3.out).mono ?_
  rintro r x8 ⟨rfl, hb9⟩
  have hb9 := hb8.trans (hb9.mono hb8.size)
  clear hb8
  go_wp2_with fail
  refine (P7.out _).mono ?_
  rintro r x9 ⟨rfl, rfl⟩
  go_wp2_with fail
  refine (P8.out _).mono ?_
  rintro r x10 ⟨rfl, rfl⟩
  have hB := hb3.trans (hb9.mono hb3.size)
  clear hb9
  go_wp2
  go_ret
  exact ⟨rfl, hB⟩
end Go.Proofs.Ytifdglehfhoecaa.E

/-
  The law on bytes there and back: true for every input. Conditions: none.
-/
namespace Go.Proofs.Ytifdglehfhoecaa.E
open Go.RowKit B
theorem small_sz {l : List Ent} (h : Small l) : M.sz l ≤ 21720 := by
  have : ∀ (l : List Ent), (∀ e ∈ l, e.1.size ≤ 60 ∧ e.2.size ≤ 300) → M.sz l ≤ l.length * 362 := by
    intro l
    induction l with
    | nil => intro _; simp [M.sz]
    | cons e l ih =>
      intro h
      have h1 := h e (by simp)
      have h2 := ih fun x hx => h x (by simp [hx])
      rw [M.sz_cons, List.length_cons]; omega
  have h2 := this l h.2
  have := h.1
  omega
theorem len_sz (l : List Ent) : l.length ≤ M.sz l := by
  induction l with
  | nil => simp
  | cons e l ih => rw [M.sz_cons, List.length_cons]; omega
set_option maxRecDepth 100000 in
set_option maxHeartbeats 4000000 in
theorem back_any (v : Value) (l : List Ent) (body : ByteArray) (w : World) (hv : Ents w v l) :
    Calls Try.prog 13 #[v, .string body] w fun r w' => r = .returned (.bool true) ∧ Below w.heap.size w w' := by
  have HV := Lib.hid hv; clear hv
  go_enter Try.func13, Try.ntmps13
  go_wp2_with fail
  refine (works_any _).mono ?_
  rintro r w1 ⟨rfl, hb1⟩
  go_wp2_with fail
  refine (over_any _ l _ (HV.out.below hb1)).mono ?_
  rintro r w2 ⟨much, rfl, hsm, hw⟩
  subst hw
  rcases much with _ | _
  case true =>
    go_wp2
    go_ret
    exact ⟨rfl, hb1⟩
  have hl60 := (hsm rfl).1
  have hsz := small_sz (hsm rfl)
  clear hsm
  by_cases hbs : 1000 < body.size
  · go_wp2
    go_ret
    exact ⟨rfl, hb1⟩
  by_cases ho : M.Ok l
  · have HL := Lib.hid (show encl l = txt (M.enc l) by unfold encl; rw [if_pos ho])
    have hts : (txt (M.enc l)).size ≤ 1000000000 := by rw [txt_size, M.enc_len]; omega
    go_wp2_with fail
    refine (encode_any _ l _ (HV.out.below hb1) (by omega)).mono ?_
    rintro r w3 ⟨rfl, hb3⟩
    rw [if_pos ho, HL.out]
    have HO := Lib.hid ho
    have hb3 := hb1.trans (hb3.mono hb1.size)
    clear hb1 ho
    have HT := Lib.hid (dr_enc HO.out)
    obtain ⟨t, ht⟩ : ∃ t, txt (M.enc l) = t := ⟨_, rfl⟩
    have HTT := Lib.hid (show bts t = M.enc l by rw [← ht]; rfl)
    rw [ht] at hts ⊢
    clear ht hsz
    go_wp2_with fail
    refine (decode_any t _ hts).mono ?_
    rintro r w4 ⟨u, m, e, rfl, hE, hd, hb4⟩
    rw [HTT.out] at hd
    obtain ⟨rfl, rfl⟩ := dr_inj hd HT.out
    have HE := Lib.hid hE
    have hb4 := hb3.trans (hb4.mono hb3.size)
    clear hE hd hb3 hts
    go_wp2_with fail
    refine (same_any _ _ m m _ HE.out (HV.out.below hb4)).mono ?_
    rintro r w5 ⟨rfl, hb5⟩
    rw [decide_eq_true rfl]
    have hb5 := hb4.trans (hb5.mono hb4.size)
    clear hb4
    go_wp2_with fail
    refine (decode_any body _ (by omega)).mono ?_
    rintro r w6 ⟨ua, a, f, rfl, hEa, hda, hb6⟩
    have hb6 := hb5.trans (hb6.mono hb5.size)
    have HEA := Lib.hid hEa
    clear hb5 hEa
    rcases hda with ⟨rfl, hdec, hok⟩ | ⟨rfl, rfl, hno⟩
    · have HTB := Lib.hid (show encl a = body by unfold encl; rw [if_pos hok, hdec.2]; rfl)
      have hla : a.length ≤ 1000000000 := by
        have h1 := len_sz a
        have h2 := M.enc_len a
        rw [hdec.2, bts_len] at h2
        omega
      have HOK := Lib.hid hok
      clear hok hdec
      go_wp2_with fail
      refine (encode_any _ a _ HEA.out hla).mono ?_
      rintro r w7 ⟨rfl, hb7⟩
      rw [if_pos HOK.out, HTB.out]
      have hq : (body.toList == body.toList) = true := str_eq rfl
      have hb7 := hb6.trans (hb7.mono hb6.size)
      clear hb6
      go_wp2
      go_ret
      exact ⟨rfl, hb7⟩
    · clear hno
      go_wp2
      go_ret
      exact ⟨rfl, hb6⟩
  · go_wp2_with fail
    refine (encode_any _ l _ (HV.out.below hb1) (by omega)).mono ?_
    rintro r w3 ⟨rfl, hb3⟩
    rw [if_neg ho]
    obtain ⟨tx, htx⟩ : ∃ t, encl l = t := ⟨_, rfl⟩
    rw [htx]
    have hb3 := hb1.trans (hb3.mono hb1.size)
    clear hb1 ho hsz htx
    go_wp2_with fail
    refine (decode_any body _ (by omega)).mono ?_
    rintro r w6 ⟨ua, a, f, rfl, hEa, hda, hb6⟩
    have hb6 := hb3.trans (hb6.mono hb3.size)
    have HEA := Lib.hid hEa
    clear hb3 hEa
    rcases hda with ⟨rfl, hdec, hok⟩ | ⟨rfl, rfl, hno⟩
    · have HTB := Lib.hid (show encl a = body by unfold encl; rw [if_pos hok, hdec.2]; rfl)
      have hla : a.length ≤ 1000000000 := by
        have h1 := len_sz a
        have h2 := M.enc_len a
        rw [hdec.2, bts_len] at h2
        omega
      have HOK := Lib.hid hok
      clear hok hdec
      go_wp2_with fail
      refine (encode_any _ a _ HEA.out hla).mono ?_
      rintro r w7 ⟨rfl, hb7⟩
      rw [if_pos HOK.out, HTB.out]
      have hq : (body.toList == body.toList) = true := str_eq rfl
      have hb7 := hb6.trans (hb7.mono hb6.size)
      clear hb6
      go_wp2
      go_ret
      exact ⟨rfl, hb7⟩
    · clear hno
      go_wp2
      go_ret
      exact ⟨rfl, hb6⟩
end Go.Proofs.Ytifdglehfhoecaa.E

/-
  The node of a body: a leaf's, none's. Conditions: at most 1000 bytes.
-/
namespace Go.Proofs.Ytifdglehfhoecaa.N
open Go.RowKit B E
theorem res_two {P : Program} {fn : Func} {a1 t1 s : Nat} {tmps : Array Value} {w : World} {p1 : Addr} {v1 v : Value} (h : fn.results = #[.cell a1 t1, .tmp s]) (hp1 : tmps.getD a1 undef = .pointer (some p1)) (hs : tmps.getD s undef = v) (hl1 : (loadVar t1 p1).run P w = .ok v1 w) :
    (results fn tmps).run P w = .ok (.tuple #[v1, v]) w := by
  rw [Array.getD_eq_getD_getElem?] at hp1 hs
  simp [results, h, hp1, hs, hl1, asAddr]
def NDc (kind : Int) (b : List UInt8) (w : World) (r : Ending) (w' : World) : Prop := ∃ v n e, r = .returned (.tuple #[v, .int .i64 e]) ∧ NdV w' v n ∧ DrN kind b n e ∧ Below w.heap.size w w'
/-- a row is what it was behind a change of a block with none of its cells -/
theorem rw_only {w w' : World} {v : Value} {size n g : Nat} {cs : List Value} {c : Array Value} {t : TypeId} {fz : Nat × Nat} (h : Rw w v size cs n) (ho : Only g w w') (hb : w.heap[g]? = some (.cells c t fz)) (hn : ∀ x, x ∈ c → x ∉ cs) : Rw w' v size cs n := by
  obtain ⟨ao, cap, rfl, h1, h2, h3, h⟩ := h
  refine ⟨ao, cap, rfl, h1, h2, h3, fun j hj => ?_⟩
  obtain ⟨b, o, e, hc⟩ := h j hj
  refine ⟨b, o, e, ?_⟩
  by_cases hbg : b = g
  · subst hbg
    rw [blk_cell hb] at hc
    exact absurd (List.getElem_mem hj) (hn _ (Array.mem_of_getElem? hc))
  · exact ho.cell hc hbg
theorem not_ecs {l : List Ent} {x : Value} (h : ∀ s, x ≠ .string s) : x ∉ ecs l := by
  intro hm
  simp only [ecs, List.mem_flatMap, List.mem_cons, List.not_mem_nil, or_false] at hm
  obtain ⟨e, _, rfl | rfl⟩ := hm
  · exact h _ rfl
  · exact h _ rfl
theorem ents_only {w w' : World} {v : Value} {l : List Ent} {g : Nat} {a : Bool} {u1 u2 u3 c1 c2 c3 : Nat} {p1 p2 p3 : Option Addr} {t : TypeId} {fz : Nat × Nat} (h : Ents w v l) (ho : Only g w w') (hb : w.heap[g]? = some (.cells #[.bool a, .slice p1 u1 c1, .slice p2 u2 c2, .slice p3 u3 c3] t fz)) : Ents w' v l :=
  rw_only h ho hb fun x hx => not_ecs fun s e => by
    subst e
    simp at hx
set_option maxRecDepth 100000 in
set_option maxHeartbeats 2000000 in
theorem ndecode_other (kind : Int) (body : ByteArray) (w : World) (h1 : kind ≠ 1) (h2 : kind ≠ 2) : Calls Try.prog 67 #[.int .u8 kind, .string body] w (NDc kind (bts body) w) := by
  have HD := Lib.hid (drn_kind (b := bts body) h1 h2)
  have q1 : (kind == 1) = false := beq_eq_false_iff_ne.2 h1
  have q2 : (kind == 2) = false := beq_eq_false_iff_ne.2 h2
  clear h1 h2
  go_enter Try.func67, Try.ntmps67
  go_upto_region 3 with (fail)
  obtain ⟨wa, hwa⟩ : ∃ W, w.alloc (.cells #[.bool false, .slice none 0 0, .slice none 0 0, .slice none 0 0] 69) = W := ⟨_, rfl⟩
  have hza : wa.heap.size = w.heap.size + 1 := by rw [← hwa]; simp
  have hA : wa.heap[w.heap.size]? = some (.cells #[.bool false, .slice none 0 0, .slice none 0 0, .slice none 0 0] 69 (0, 0)) := by rw [← hwa]; exact blk_new _ _
  have hba : Below w.heap.size w wa := by rw [← hwa]; exact (Below.refl _ w).alloc (Nat.le_refl _) _
  rw [hwa]
  clear hwa
  obtain ⟨w1, hw1⟩ : ∃ W, wa.alloc (.cells #[.bool false, .slice none 0 0, .slice none 0 0, .slice none 0 0] 69) = W := ⟨_, rfl⟩
  have hz1 : w1.heap.size = w.heap.size + 2 := by rw [← hw1]; simp [hza]
  have hB : w1.heap[w.heap.size + 1]? = some (.cells #[.bool false, .slice none 0 0, .slice none 0 0, .slice none 0 0] 69 (0, 0)) := by rw [← hw1, ← hza]; exact blk_new _ _
  have hbb : Below wa.heap.size wa w1 := by rw [← hw1]; exact (Below.refl _ wa).alloc (Nat.le_refl _) _
  rw [hw1]
  clear hw1
  have hA := blk_below hA hbb
  have hb1 := hba.trans (hbb.mono hba.size)
  clear hba hbb hza
  have HB1 := Lib.hid hb1
  go_wp2_with (refine wpList_store69 rfl _ _ rfl w.heap.size rfl rfl ⟨_, _, _, _, hA⟩ ?_)
  intro w9 hz9 hon9
  have HZ9 := Lib.hid hz9
  have hb9 : Below w.heap.size w w9 := HB1.out.trans (hon9.to_below (Nat.le_refl _) HB1.out.size)
  clear hz9 hon9
  go_wp2
  refine bodyPost_ret (res_two rfl rfl rfl (load69 (bx_blk HZ9.out))) rfl ?_
  exact ⟨_, ⟨false, [], [], []⟩, 3, rfl, ⟨none, 0, none, 0, none, 0, rfl, Rw.nil _ 2, Rw.nil _ 1, Rw.nil _ 1⟩, HD.out, hb9⟩
set_option maxRecDepth 100000 in
set_option maxHeartbeats 4000000 in
theorem ndecode_leaf (body : ByteArray) (w : World) (hbs : body.size ≤ 1000) : Calls Try.prog 67 #[.int .u8 1, .string body] w (NDc 1 (bts body) w) := by
  go_enter Try.func67, Try.ntmps67
  go_upto_region 3 with (fail)
  obtain ⟨wa, hwa⟩ : ∃ W, w.alloc (.cells #[.bool false, .slice none 0 0, .slice none 0 0, .slice none 0 0] 69) = W := ⟨_, rfl⟩
  have hza : wa.heap.size = w.heap.size + 1 := by rw [← hwa]; simp
  have hA : wa.heap[w.heap.size]? = some (.cells #[.bool false, .slice none 0 0, .slice none 0 0, .slice none 0 0] 69 (0, 0)) := by rw [← hwa]; exact blk_new _ _
  have hba : Below w.heap.size w wa := by rw [← hwa]; exact (Below.refl _ w).alloc (Nat.le_refl _) _
  rw [hwa]
  clear hwa
  obtain ⟨w1, hw1⟩ : ∃ W, wa.alloc (.cells #[.bool false, .slice none 0 0, .slice none 0 0, .slice none 0 0] 69) = W := ⟨_, rfl⟩
  have hz1 : w1.heap.size = w.heap.size + 2 := by rw [← hw1]; simp [hza]
  have hB : w1.heap[w.heap.size + 1]? = some (.cells #[.bool false, .slice none 0 0, .slice none 0 0, .slice none 0 0] 69 (0, 0)) := by rw [← hw1, ← hza]; exact blk_new _ _
  have hbb : Below wa.heap.size wa w1 := by rw [← hw1]; exact (Below.refl _ wa).alloc (Nat.le_refl _) _
  rw [hw1]
  clear hw1
  have hA := blk_below hA hbb
  have hb1 := hba.trans (hbb.mono hba.size)
  clear hba hbb hza
  have c0 : w1.cell? ⟨w.heap.size + 1, 0, none⟩ = some (.bool false) := by rw [blk_cell hB]; rfl
  have f0 := blk_free hB 0
  go_upto_region 6 with (fail)
  obtain ⟨w2, hw2⟩ : ∃ W, w1.setCell ⟨w.heap.size + 1, 0, none⟩ (.bool true) = W := ⟨_, rfl⟩
  have hon2 : Only (w.heap.size + 1) w1 w2 := by rw [← hw2]; exact Only.set _ _ _
  have hB2 := blk_set hB 0 (.bool true)
  rw [hw2] at hB2 ⊢
  clear hw2 c0 f0
  have hA := hon2.blk hA (by omega)
  have hb2 := hb1.trans (hon2.to_below (by omega) hb1.size)
  clear hon2 hb1 hB
  go_wp2_with fail
  refine (decode_any body _ (by omega)).mono ?_
  rintro r w3 ⟨u, l, e, rfl, hE, hd, hb3⟩
  obtain ⟨ua, uc, rfl, _⟩ := hE.open
  have hA := blk_below hA hb3; have hB3 := blk_below hB2 hb3
  have hb3 := hb2.trans (hb3.mono hb2.size)
  have c1 : w3.cell? ⟨w.heap.size + 1, 1, none⟩ = some (.slice none 0 0) := by rw [blk_cell hB3]; rfl
  have f1 := blk_free hB3 1
  have HD := Lib.hid hd; have HE := Lib.hid hE
  obtain ⟨ln, hln⟩ : ∃ x, l.length = x := ⟨_, rfl⟩
  rw [hln] at HE ⊢
  have HLN := Lib.hid hln
  clear hE hd hB2 hb2 hln
  go_upto_region 14 with (fail)
  obtain ⟨w4, hw4⟩ : ∃ W, w3.setCell ⟨w.heap.size + 1, 1, none⟩ (.slice ua ln uc) = W := ⟨_, rfl⟩
  have hon4 : Only (w.heap.size + 1) w3 w4 := by rw [← hw4]; exact Only.set _ _ _
  have hB4 := blk_set hB3 1 (.slice ua ln uc)
  rw [hw4] at hB4 ⊢
  clear hw4 c1 f1
  have hA := hon4.blk hA (by omega)
  have HE := Lib.hid (ents_only HE.out hon4 hB3)
  have hb4 := hb3.trans (hon4.to_below (by omega) hb3.size)
  have HB4 := Lib.hid hB4; have HA := Lib.hid hA
  clear hon4 hb3 hB3 hB4 hA
  by_cases he : e = 0
  case neg =>
    have HR := Lib.hid (drn_leaf_no HD.out (.inl he))
    have q1 : (e == 0) = false := beq_eq_false_iff_ne.2 he
    have q2 : (e != 0) = true := by rw [bne, q1]; rfl
    clear he
    have HBL := Lib.hid hb4
    go_wp2_with (refine wpList_store69 rfl _ _ rfl w.heap.size rfl rfl ⟨_, _, _, _, HA.out⟩ ?_)
    intro w9 hz9 hon9
    have HZ9 := Lib.hid hz9
    have hb9 : Below w.heap.size w w9 := HBL.out.trans (hon9.to_below (Nat.le_refl _) HBL.out.size)
    clear hz9 hon9
    go_wp2
    refine bodyPost_ret (res_two rfl rfl rfl (load69 (bx_blk HZ9.out))) rfl ?_
    exact ⟨_, ⟨false, [], [], []⟩, 3, rfl, ⟨none, 0, none, 0, none, 0, rfl, Rw.nil _ 2, Rw.nil _ 1, Rw.nil _ 1⟩, HR.out, hb9⟩
  have HE0 := Lib.hid he
  have hdec : M.Dec (bts body) l ∧ M.Ok l := by
    rcases HD.out with ⟨_, h2, h3⟩ | ⟨h1, _⟩
    · exact ⟨h2, h3⟩
    · omega
  have hszl : M.sz l = body.size := by rw [← M.enc_len, hdec.1.2, bts_len]
  have hbd : Bd (M.mkL l) := ⟨by have := len_sz l; show l.length ≤ 10000; omega, by show 0 ≤ 10000; omega, by show 0 ≤ 10000; omega, by show M.sz l ≤ _; omega, by simp [M.mkL, M.szs]⟩
  have HBD := Lib.hid hbd
  have hv : NdV w4 (.agg #[.bool true, .slice ua ln uc, .slice none 0 0, .slice none 0 0]) (M.mkL l) := ⟨ua, uc, none, 0, none, 0, by rw [← HLN.out]; rfl, by have := HE.out; rw [← HLN.out] at this; exact this, Rw.nil _ 1, Rw.nil _ 1⟩
  have HV := Lib.hid hv
  have HFT := Lib.hid (fits_any _ _ w4 hv hbd)
  obtain ⟨x0, x1, x2, x3⟩ := bx_blk HB4.out
  clear hdec hszl hbd hv
  subst he
  by_cases hf : fitsN (M.mkL l)
  · rw [decide_eq_true hf] at HFT
    have HR := Lib.hid (drn_leaf HD.out hf rfl)
    clear hf
    go_wp2_with fail
    refine HFT.out.mono ?_
    rintro r w5 ⟨rfl, hb5⟩
    have HB5 := Lib.hid (blk_below HB4.out hb5); have HA5 := Lib.hid (blk_below HA.out hb5)
    have HE5 := Lib.hid (HE.out.below hb5)
    have hb5 := hb4.trans (hb5.mono hb4.size)
    clear x0 x1 x2 x3
    obtain ⟨x0, x1, x2, x3⟩ := bx_blk HB5.out
    go_wp2_with (refine wpList_store69 rfl _ _ rfl w.heap.size rfl rfl ⟨_, _, _, _, HA5.out⟩ ?_)
    intro w9 hz9 hon9
    have HZ9 := Lib.hid hz9
    have HE9 := Lib.hid (ents_only HE5.out hon9 HA5.out)
    have hb9 : Below w.heap.size w w9 := hb5.trans (hon9.to_below (Nat.le_refl _) hb5.size)
    clear hz9 hon9 x0 x1 x2 x3
    go_wp2
    refine bodyPost_ret (res_two rfl rfl rfl (load69 (bx_blk HZ9.out))) rfl ?_
    exact ⟨_, M.mkL l, 0, rfl, ⟨ua, uc, none, 0, none, 0, by rw [← HLN.out]; rfl, by have := HE9.out; rw [← HLN.out] at this; exact this, Rw.nil _ 1, Rw.nil _ 1⟩, HR.out, hb9⟩
  · rw [decide_eq_false hf] at HFT
    have HR := Lib.hid (drn_leaf_no HD.out (.inr hf))
    clear hf
    go_wp2_with fail
    refine HFT.out.mono ?_
    rintro r w5 ⟨rfl, hb5⟩
    have HA5 := Lib.hid (blk_below HA.out hb5)
    have hb5 := hb4.trans (hb5.mono hb4.size)
    clear x0 x1 x2 x3
    have HBL := Lib.hid hb5
    go_wp2_with (refine wpList_store69 rfl _ _ rfl w.heap.size rfl rfl ⟨_, _, _, _, HA5.out⟩ ?_)
    intro w9 hz9 hon9
    have HZ9 := Lib.hid hz9
    have hb9 : Below w.heap.size w w9 := HBL.out.trans (hon9.to_below (Nat.le_refl _) HBL.out.size)
    clear hz9 hon9
    go_wp2
    refine bodyPost_ret (res_two rfl rfl rfl (load69 (bx_blk HZ9.out))) rfl ?_
    exact ⟨_, ⟨false, [], [], []⟩, 3, rfl, ⟨none, 0, none, 0, none, 0, rfl, Rw.nil _ 2, Rw.nil _ 1, Rw.nil _ 1⟩, HR.out, hb9⟩
end Go.Proofs.Ytifdglehfhoecaa.N
