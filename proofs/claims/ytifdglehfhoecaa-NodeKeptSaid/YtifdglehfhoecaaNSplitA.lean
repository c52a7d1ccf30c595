/-
  A node in two: what may not be cut; a leaf. Conditions: bounds that every node here keeps.
-/
import Derived.Test.YtifdglehfhoecaaNSwap
import Derived.Test.YtifdglehfhoecaaEHalf
import Derived.Test.YtifdglehfhoecaaNRight
namespace Go.Proofs.Ytifdglehfhoecaa.N
open Go.RowKit B E
/-- such cells, in new memory -/
def Clb (w : World) (base : Nat) (v : Value) (cs : List Value) : Prop := ∃ g, base ≤ g ∧ v = .slice (some ⟨g, 0, none⟩) cs.length cs.length ∧ ∀ j (h : j < cs.length), w.cell? ⟨g, j, none⟩ = some cs[j]
theorem Clb.cl {w : World} {base : Nat} {v : Value} {cs : List Value} (h : Clb w base v cs) : Cl w v cs := by
  obtain ⟨g, _, e, h⟩ := h
  exact ⟨g, e, h⟩
theorem Clb.below {w w' : World} {base : Nat} {v : Value} {cs : List Value} (h : Clb w base v cs) (hb : Below w.heap.size w w') : Clb w' base v cs := by
  obtain ⟨g, hg, e, h⟩ := h
  exact ⟨g, hg, e, fun j hj => bcell hb (h j hj)⟩
theorem Clb.only {w w' : World} {g0 base : Nat} {v : Value} {cs : List Value} (h : Clb w base v cs) (ho : Only g0 w w') (hg0 : g0 < base) : Clb w' base v cs := by
  obtain ⟨g, hg, e, h⟩ := h
  exact ⟨g, hg, e, fun j hj => ho.cell (h j hj) (by show g ≠ g0; omega)⟩
theorem Clb.new (w : World) (cs : List Value) (t : TypeId) (m : Nat) (h : cs.length = m) (base : Nat) (hb : base ≤ w.heap.size) : Clb (w.alloc (.cells cs.toArray t)) base (.slice (some ⟨w.heap.size, 0, none⟩) m m) cs := by
  subst h
  exact ⟨w.heap.size, hb, rfl, fun j hj => by rw [World.cell?_alloc_mark]; simp [hj]⟩
theorem Zb.only {w w' : World} {g g0 : Nat} {t : TypeId} (h : Zb w g t) (ho : Only g0 w w') (hn : g ≠ g0) : Zb w' g t := by
  obtain ⟨a, b, c, d, h⟩ := h
  exact ⟨a, b, c, d, ho.blk h hn⟩
theorem Bx.upto {w w' : World} {g G : Nat} {l : Bool} {a b c : Value} (h : Bx w g l a b c) (hb : Below G w w') (hg : g < G) : Bx w' g l a b c := by
  obtain ⟨h0, h1, h2, h3⟩ := h
  exact ⟨(hb.cell hg).trans h0, (hb.cell hg).trans h1, (hb.cell hg).trans h2, (hb.cell hg).trans h3⟩
theorem bx_blk {w : World} {g : Nat} {l : Bool} {a b c : Value} {t : TypeId} (h : w.heap[g]? = some (.cells #[.bool l, a, b, c] t (0, 0))) : Bx w g l a b c := ⟨by rw [blk_cell h]; rfl, by rw [blk_cell h]; rfl, by rw [blk_cell h]; rfl, by rw [blk_cell h]; rfl⟩
theorem cut_lo' {w : World} {ao : Option Addr} {cap : Nat} {l : List Ent} (h : Ents w (.slice ao l.length cap) l) (i : Nat) (hi : i ≤ l.length) : Ents w (.slice ao i cap) (l.take i) := by
  obtain ⟨_, h1, h2, _⟩ := h.at
  have := Rw.take h i cap hi (by omega) h2
  rw [ecs_take] at this
  unfold Ents
  rwa [List.length_take, Nat.min_eq_left hi]
theorem res_three {P : Program} {fn : Func} {a1 t1 s a2 t2 : Nat} {tmps : Array Value} {w : World} {p1 p2 : Addr} {v1 v2 v : Value} (h : fn.results = #[.cell a1 t1, .tmp s, .cell a2 t2]) (hp1 : tmps.getD a1 undef = .pointer (some p1)) (hs : tmps.getD s undef = v) (hp2 : tmps.getD a2 undef = .pointer (some p2)) (hl1 : (loadVar t1 p1).run P w = .ok v1 w) (hl2 : (loadVar t2 p2).run P w = .ok v2 w) :
    (results fn tmps).run P w = .ok (.tuple #[v1, v, v2]) w := by
  rw [Array.getD_eq_getD_getElem?] at hp1 hp2 hs
  simp [results, h, hp1, hp2, hs, hl1, hl2, asAddr]
set_option maxRecDepth 10000 in
/-- a node into its box, in a statement whose order is not drawn -/
theorem wpList_store69 {w : World} {ops : Array Oper} {rest : List Oper} {o : Oper} {a : Act} {Q : Exit → Act → World → Prop} (hgd : o.guard = none) (p x : Operand) (ho : o.op = .store 69 p x)
    (g : Nat) {l : Bool} {e0 k0 s0 : Option Addr} {en ec kn kc sn sc : Nat} (hp : a.eval p = .pointer (some ⟨g, 0, none⟩)) (hx : a.eval x = .agg #[.bool l, .slice e0 en ec, .slice k0 kn kc, .slice s0 sn sc]) (hz : Zb w g 69)
    (h : ∀ w', w'.heap[g]? = some (.cells #[.bool l, .slice e0 en ec, .slice k0 kn kc, .slice s0 sn sc] 69 (0, 0)) → Only g w w' → wpList Try.prog ops Q rest (a.put o.dst undef) w') : wpList Try.prog ops Q (o :: rest) a w := by
  refine wpList_plain hgd fun _ hK => ?_
  obtain ⟨w', hr, h1, h2⟩ := store69 (l := l) (e0 := e0) (en := en) (ec := ec) (k0 := k0) (kn := kn) (kc := kc) (s0 := s0) (sn := sn) (sc := sc) hz
  unfold Oper.wp execOp
  have hr' : (Instr.storeAt 69 (.pointer (some ⟨g, 0, none⟩)) (.agg #[.bool l, .slice e0 en ec, .slice k0 kn kc, .slice s0 sn sc])).run Try.prog w = .ok () w' := by
    simp only [Instr.storeAt, Instr.sureAddr, Sem.run_bind, Sem.run_pure, Result.andThen]
    exact hr
  simp only [ho, hp, hx, Sem.run_bind, hr', Result.andThen_ok, Sem.run_pure]
  exact hK _ _ (h w' h1 h2)
/-- a node in two -/
def NSp (a : M.Nd) (mid : ByteArray) (b : M.Nd) (w : World) (r : Ending) (w' : World) : Prop := ∃ va vb, r = .returned (.tuple #[va, .string mid, vb]) ∧ NdO w' w.heap.size va a ∧ NdO w' w.heap.size vb b ∧ Below w.heap.size w w'
set_option maxRecDepth 100000 in
set_option maxHeartbeats 4000000 in
theorem split_copy (v : Value) (l : Bool) (es : List Ent) (ks : List Int) (ss : List ByteArray) (w : World) (hv : NdV w v ⟨l, es, ks, ss⟩) (hbd : Bd ⟨l, es, ks, ss⟩) (ho : M.NOk ⟨l, es, ks, ss⟩) (hl1 : es.length < 2) (hl2 : ks.length < 2) :
    Calls Try.prog 58 #[v] w (NSp ⟨l, es, ks, ss⟩ ByteArray.empty ⟨false, [], [], []⟩ w) := by
  have HBD := Lib.hid hbd
  have HV := Lib.hid hv
  obtain ⟨d1, d2, d3, d4, d5⟩ := hbd
  obtain ⟨e0, ec, k0, kc, s0, sc, rfl, he, hk, hs⟩ := hv
  dsimp only at he hk hs d1 d2 d3 d4 d5 HV HBD ⊢
  obtain ⟨en, hen⟩ : ∃ x, es.length = x := ⟨_, rfl⟩
  obtain ⟨kn, hkn⟩ : ∃ x, ks.length = x := ⟨_, rfl⟩
  obtain ⟨sn, hsn⟩ : ∃ x, ss.length = x := ⟨_, rfl⟩
  rw [hen] at he d1 HV ⊢
  rw [hkn] at hk d2 HV ⊢
  rw [hsn] at hs d3 HV ⊢
  have HLE := Lib.hid hen; have HLK := Lib.hid hkn; have HLS := Lib.hid hsn
  rw [hen] at hl1
  rw [hkn] at hl2
  clear he hk hs hen hkn hsn
  go_enter Try.func58, Try.ntmps58
  go_upto_region 1 with (fail)
  obtain ⟨wa, hwa⟩ : ∃ W, w.alloc (.cells #[.bool l, .slice e0 en ec, .slice k0 kn kc, .slice s0 sn sc] 69) = W := ⟨_, rfl⟩
  have hza : wa.heap.size = w.heap.size + 1 := by rw [← hwa]; simp
  have hx : Bx wa w.heap.size l (.slice e0 en ec) (.slice k0 kn kc) (.slice s0 sn sc) := by rw [← hwa]; exact Bx.new _ _ _ _ _ _
  have hba : Below w.heap.size w wa := by rw [← hwa]; exact (Below.refl _ w).alloc (Nat.le_refl _) _
  rw [hwa]
  clear hwa
  obtain ⟨wb, hwb⟩ : ∃ W, wa.alloc (.cells #[.bool false, .slice none 0 0, .slice none 0 0, .slice none 0 0] 69) = W := ⟨_, rfl⟩
  have hzb : wb.heap.size = w.heap.size + 2 := by rw [← hwb]; simp [hza]
  have z0 : Zb wb (w.heap.size + 1) 69 := by rw [← hwb, ← hza]; exact Zb.new _ _ _ _ _ _
  have hbb : Below wa.heap.size wa wb := by rw [← hwb]; exact (Below.refl _ wa).alloc (Nat.le_refl _) _
  rw [hwb]
  clear hwb
  obtain ⟨wc, hwc⟩ : ∃ W, wb.alloc (.cells #[.bool false, .slice none 0 0, .slice none 0 0, .slice none 0 0] 69) = W := ⟨_, rfl⟩
  have hzc : wc.heap.size = w.heap.size + 3 := by rw [← hwc]; simp [hzb]
  have z1 : Zb wc (w.heap.size + 1 + 1) 69 := by rw [← hwc, ← hzb]; exact Zb.new _ _ _ _ _ _
  have hbc : Below wb.heap.size wb wc := by rw [← hwc]; exact (Below.refl _ wb).alloc (Nat.le_refl _) _
  rw [hwc]
  clear hwc
  have hx := (hx.below hbb).below hbc
  have z0 := z0.below hbc
  have hb1 := (hba.trans (hbb.mono hba.size)).trans (hbc.mono (Nat.le_trans hba.size hbb.size))
  clear hba hbb hbc hza hzb
  have HRT := Lib.hid (nright_any _ _ wc (HV.out.below hb1) HBD.out)
  rw [decide_eq_true ho] at HRT
  have HZC := Lib.hid hzc
  clear hzc
  obtain ⟨x0, x1, x2, x3⟩ := hx
  go_wp2_with fail
  refine HRT.out.mono ?_
  rintro r wr ⟨rfl, hbr⟩
  have x0 := bcell hbr x0; have x1 := bcell hbr x1; have x2 := bcell hbr x2; have x3 := bcell hbr x3
  have z0 := z0.below hbr; have z1 := z1.below hbr
  have hzr : w.heap.size + 3 ≤ wr.heap.size := by have := HZC.out; have := hbr.size; omega
  have hb1 := hb1.trans (hbr.mono hb1.size)
  clear hbr HRT HZC
  have HCP := Lib.hid (copied_any _ _ wr (HV.out.below hb1) HBD.out)
  go_wp2_with fail
  refine HCP.out.mono ?_
  rintro r w3 ⟨vc, rfl, ⟨a0, ac, b0, bc, c0, cc, rfl, o1, o2, o3⟩, hb3⟩
  dsimp only at o1 o2 o3 ⊢
  rw [HLE.out] at o1 ⊢
  rw [HLK.out] at o2 ⊢
  rw [HLS.out] at o3 ⊢
  have z0 := z0.below hb3; have z1 := z1.below hb3
  have hzr : w.heap.size + 3 ≤ w3.heap.size := Nat.le_trans hzr hb3.size
  have hlt1 : w.heap.size + 1 < wr.heap.size := by omega
  have hlt2 : w.heap.size + 1 + 1 < wr.heap.size := by omega
  have O1 := Lib.hid o1; have O2 := Lib.hid o2; have O3 := Lib.hid o3
  have hb3 := hb1.trans (hb3.mono hb1.size)
  clear x0 x1 x2 x3 o1 o2 o3
  go_wp2_with (refine wpList_store69 rfl _ _ rfl (w.heap.size + 1) rfl rfl z0 ?_)
  intro w4 hz0 hon1
  have Z0 := Lib.hid hz0; have HON1 := Lib.hid hon1
  have z1 := z1.only hon1 (by omega)
  clear hz0 hon1 z0
  go_wp2_with (refine wpList_store69 rfl _ _ rfl (w.heap.size + 1 + 1) rfl rfl z1 ?_)
  intro w5 hz1 hon2
  have Z1 := Lib.hid hz1; have HON2 := Lib.hid hon2
  clear hz1 hon2 z1
  go_wp2
  have hon1 := HON1.out; have hon2 := HON2.out
  have hz0 := hon2.blk Z0.out (by omega)
  refine bodyPost_ret (res_three rfl rfl rfl rfl (load69 (bx_blk hz0)) (load69 (bx_blk Z1.out))) rfl ?_
  have hs1 := hon1.size
  have hb5 := (hb3.trans (hon1.to_below (by omega) hb3.size)).trans (hon2.to_below (by omega) (Nat.le_trans hb3.size hs1))
  have f1 := own_mono (own_only' (own_only' O1.out hon1 hlt1) hon2 hlt2) hb1.size
  have f2 := own_mono (own_only' (own_only' O2.out hon1 hlt1) hon2 hlt2) hb1.size
  have f3 := own_mono (own_only' (own_only' O3.out hon1 hlt1) hon2 hlt2) hb1.size
  refine ⟨_, _, rfl, ?_, ⟨_, _, _, _, _, _, rfl, World.ownsRow_nil _ _ _ _, World.ownsRow_nil _ _ _ _, World.ownsRow_nil _ _ _ _⟩, hb5⟩
  rw [← HLE.out] at f1 ⊢
  rw [← HLK.out] at f2 ⊢
  rw [← HLS.out] at f3 ⊢
  exact ⟨_, _, _, _, _, _, rfl, f1, f2, f3⟩
set_option maxRecDepth 100000 in
set_option maxHeartbeats 8000000 in
theorem split_leaf (v : Value) (es : List Ent) (ks : List Int) (ss : List ByteArray) (w : World) (hv : NdV w v ⟨true, es, ks, ss⟩) (hbd : Bd ⟨true, es, ks, ss⟩) (ho : M.NOk ⟨true, es, ks, ss⟩) (hl1 : 2 ≤ es.length) (k : Nat) (hk0 : M.Half es k) (hkl : k < es.length) :
    Calls Try.prog 58 #[v] w (NSp (M.mkL (es.take k)) es[k].1 (M.mkL (es.drop k)) w) := by
  have HBD := Lib.hid hbd
  have HV := Lib.hid hv
  obtain ⟨d1, d2, d3, d4, d5⟩ := hbd
  obtain ⟨e0, ec, k0, kc, s0, sc, rfl, he, hk, hs⟩ := hv
  dsimp only at he hk hs d1 d2 d3 d4 d5 HV HBD ⊢
  obtain ⟨eb, eo, rfl, ck, _⟩ := he.at.2.2.2 k hkl
  have hck : ¬ ec = k := by have := he.at.2.1; omega
  have hcap : es.length ≤ ec := he.at.2.1
  have hlo := cut_lo' he k (by omega)
  have hhi := cut_hi he k (by omega)
  rw [if_neg hck, add_lit] at hhi
  obtain ⟨mid, hmid⟩ : ∃ m, es[k].1 = m := ⟨_, rfl⟩
  rw [hmid] at ck ⊢
  obtain ⟨ka, hka⟩ : ∃ x, (es.take k).length = x := ⟨_, rfl⟩
  obtain ⟨kb, hkb⟩ : ∃ x, (es.drop k).length = x := ⟨_, rfl⟩
  have hka1 : ka ≤ 10000 := by rw [← hka, List.length_take]; omega
  have hkb1 : kb ≤ 10000 := by rw [← hkb, List.length_drop]; omega
  have HKA := Lib.hid hka; have HKB := Lib.hid hkb; have HHF := Lib.hid hk0
  have HSZ := Lib.hid d4
  have HCK := Lib.hid ck
  clear hmid hka hkb hk0 ck
  obtain ⟨en, hen⟩ : ∃ x, es.length = x := ⟨_, rfl⟩
  obtain ⟨kn, hkn⟩ : ∃ x, ks.length = x := ⟨_, rfl⟩
  obtain ⟨sn, hsn⟩ : ∃ x, ss.length = x := ⟨_, rfl⟩
  rw [hen] at he d1 HV ⊢
  rw [hkn] at hk d2 HV ⊢
  rw [hsn] at hs d3 HV ⊢
  rw [hen] at hl1 hkl hcap hhi
  have HLO := Lib.hid hlo; have HHI := Lib.hid hhi; have HE := Lib.hid he
  have HEN := Lib.hid hen
  clear he hk hs hen hkn hsn hlo hhi
  go_enter Try.func58, Try.ntmps58
  go_upto_region 1 with (fail)
  obtain ⟨wa, hwa⟩ : ∃ W, w.alloc (.cells #[.bool true, .slice (some ⟨eb, eo, none⟩) en ec, .slice k0 kn kc, .slice s0 sn sc] 69) = W := ⟨_, rfl⟩
  have hza : wa.heap.size = w.heap.size + 1 := by rw [← hwa]; simp
  have hx : Bx wa w.heap.size true (.slice (some ⟨eb, eo, none⟩) en ec) (.slice k0 kn kc) (.slice s0 sn sc) := by rw [← hwa]; exact Bx.new _ _ _ _ _ _
  have hba : Below w.heap.size w wa := by rw [← hwa]; exact (Below.refl _ w).alloc (Nat.le_refl _) _
  rw [hwa]
  clear hwa
  obtain ⟨wb, hwb⟩ : ∃ W, wa.alloc (.cells #[.bool false, .slice none 0 0, .slice none 0 0, .slice none 0 0] 69) = W := ⟨_, rfl⟩
  have hzb : wb.heap.size = w.heap.size + 2 := by rw [← hwb]; simp [hza]
  have z0 : Zb wb (w.heap.size + 1) 69 := by rw [← hwb, ← hza]; exact Zb.new _ _ _ _ _ _
  have hbb : Below wa.heap.size wa wb := by rw [← hwb]; exact (Below.refl _ wa).alloc (Nat.le_refl _) _
  rw [hwb]
  clear hwb
  obtain ⟨wc, hwc⟩ : ∃ W, wb.alloc (.cells #[.bool false, .slice none 0 0, .slice none 0 0, .slice none 0 0] 69) = W := ⟨_, rfl⟩
  have hzc : wc.heap.size = w.heap.size + 3 := by rw [← hwc]; simp [hzb]
  have z1 : Zb wc (w.heap.size + 1 + 1) 69 := by rw [← hwc, ← hzb]; exact Zb.new _ _ _ _ _ _
  have hbc : Below wb.heap.size wb wc := by rw [← hwc]; exact (Below.refl _ wb).alloc (Nat.le_refl _) _
  rw [hwc]
  clear hwc
  have hx := (hx.below hbb).below hbc
  have z0 := z0.below hbc
  have hb1 := (hba.trans (hbb.mono hba.size)).trans (hbc.mono (Nat.le_trans hba.size hbb.size))
  clear hba hbb hbc hza hzb
  have HRT := Lib.hid (nright_any _ _ wc (HV.out.below hb1) HBD.out)
  rw [decide_eq_true ho] at HRT
  have HZC := Lib.hid hzc
  clear hzc
  obtain ⟨x0, x1, x2, x3⟩ := hx
  go_wp2_with fail
  refine HRT.out.mono ?_
  rintro r wr ⟨rfl, hbr⟩
  have x0 := bcell hbr x0; have x1 := bcell hbr x1; have x2 := bcell hbr x2; have x3 := bcell hbr x3
  have z0 := z0.below hbr; have z1 := z1.below hbr
  have hzr : w.heap.size + 3 ≤ wr.heap.size := by have := HZC.out; have := hbr.size; omega
  have hb1 := hb1.trans (hbr.mono hb1.size)
  clear hbr HRT HZC
  have HHA := Lib.hid (half_any _ es wr (HE.out.below hb1) (by have := HEN.out; omega) (by have := HSZ.out; omega))
  go_wp2_with fail
  refine HHA.out.mono ?_
  rintro r w1 ⟨k', rfl, hk', hb3⟩
  obtain rfl : k = k' := M.half_unique HHF.out hk'
  have hx : Bx w1 w.heap.size true (.slice (some ⟨eb, eo, none⟩) en ec) (.slice k0 kn kc) (.slice s0 sn sc) := ⟨bcell hb3 x0, bcell hb3 x1, bcell hb3 x2, bcell hb3 x3⟩
  have ZB0 := Lib.hid (z0.below hb3); have ZB1 := Lib.hid (z1.below hb3)
  have HZ1 := Lib.hid (Nat.le_trans hzr hb3.size)
  have hb1 := hb1.trans (hb3.mono hb1.size)
  clear x0 x1 x2 x3 z0 z1 hzr hb3 hk' HHA
  go_upto_region 5 with (fail)
  have p1 : (0 : Int) ≤ (k : Int) := Int.natCast_nonneg _
  have p2 : (k : Int) ≤ (ec : Int) := by omega
  have p3 : (k : Int) < (en : Int) := by omega
  have p4 : (k : Int) ≤ (en : Int) := by omega
  refine wp_region_any (by kernel_rfl) ?_
  refine wpAny_upto_f 22 (fun f L a W => ∃ v3 v32 v33 v34 v35 v36 v37 v38 v39 v40 v41 v42 v43 v44 v45 v46 v47 v48 v49 v50 v51 : Value, a = { tmps := List.toArray ((f 0) :: (.pointer (some ⟨w.heap.size, 0, none⟩)) :: (.pointer (some ⟨w.heap.size + 1, 0, none⟩)) :: v3 :: (.pointer (some ⟨w.heap.size + 1 + 1, 0, none⟩)) :: (.int .i64 (k : Int)) :: (f 6) :: (f 7) :: (f 8) :: (f 9) :: (f 10) :: (f 11) :: (f 12) :: (f 13) :: (f 14) :: (f 15) :: (f 16) :: (f 17) :: (f 18) :: (f 19) :: (f 20) :: (f 21) :: (f 22) :: (f 23) :: (f 24) :: (f 25) :: (f 26) :: (f 27) :: (f 28) :: (f 29) :: (f 30) :: (f 31) :: v32 :: v33 :: v34 :: v35 :: v36 :: v37 :: v38 :: v39 :: v40 :: v41 :: v42 :: v43 :: v44 :: v45 :: v46 :: v47 :: v48 :: v49 :: v50 :: v51 :: (f 52) :: (f 53) :: (f 54) :: (f 55) :: (f 56) :: (f 57) :: (f 58) :: (f 59) :: (f 60) :: (f 61) :: (f 62) :: (f 63) :: (f 64) :: (f 65) :: (f 66) :: (f 67) :: (f 68) :: (f 69) :: (f 70) :: (f 71) :: (f 72) :: (f 73) :: (f 74) :: (f 75) :: (f 76) :: (f 77) :: (f 78) :: (f 79) :: (f 80) :: (f 81) :: (f 82) :: (f 83) :: (f 84) :: (f 85) :: (f 86) :: (f 87) :: (f 88) :: []), defers := [] } ∧ Below (w.heap.size + 1) w1 W ∧ w1.heap.size ≤ W.heap.size ∧ Zb W (w.heap.size + 1) 69 ∧ Zb W (w.heap.size + 1 + 1) 69 ∧ (Lst L 0 → v32 = .pointer (some ⟨w.heap.size, 1, none⟩)) ∧ (Lst L 1 → v33 = .slice (some ⟨eb, eo, none⟩) en ec) ∧ (Lst L 2 → v34 = .int .i64 (k : Int)) ∧ (Lst L 3 → v35 = .slice (some ⟨eb, eo, none⟩) k ec) ∧ (Lst L 4 → Clb W w1.heap.size v36 [.slice (some ⟨eb, eo, none⟩) k ec]) ∧ (Lst L 5 → World.ownsRow W w1.heap.size 49 2 v37 ka (ecs (es.take k))) ∧ (Lst L 6 → v38 = .agg #[.bool true, v37, .slice none 0 0, .slice none 0 0] ∧ Lst L 5) ∧ (Lst L 7 → v39 = .pointer (some ⟨w.heap.size, 1, none⟩)) ∧ (Lst L 8 → v40 = .slice (some ⟨eb, eo, none⟩) en ec) ∧ (Lst L 9 → v41 = .int .i64 (k : Int)) ∧ (Lst L 10 → v42 = .pointer (some ⟨eb, eo + k * 2, none⟩)) ∧ (Lst L 11 → v43 = .pointer (some ⟨eb, eo + k * 2, none⟩)) ∧ (Lst L 12 → v44 = .string mid) ∧ (Lst L 13 → v45 = .pointer (some ⟨w.heap.size, 1, none⟩)) ∧ (Lst L 14 → v46 = .slice (some ⟨eb, eo, none⟩) en ec) ∧ (Lst L 15 → v47 = .int .i64 (k : Int)) ∧ (Lst L 16 → v48 = .slice (some ⟨eb, eo + k * 2, none⟩) (en - k) (ec - k)) ∧ (Lst L 17 → Clb W w1.heap.size v49 [.slice (some ⟨eb, eo + k * 2, none⟩) (en - k) (ec - k)]) ∧ (Lst L 18 → World.ownsRow W w1.heap.size 49 2 v50 kb (ecs (es.drop k))) ∧ (Lst L 19 → v51 = .agg #[.bool true, v50, .slice none 0 0, .slice none 0 0] ∧ Lst L 18) ∧ (Lst L 20 → (World.heap W)[(w.heap.size + 1)]? = some (.cells #[.bool true, v37, .slice none 0 0, .slice none 0 0] 69 (0, 0)) ∧ Lst L 5) ∧ (Lst L 21 → v3 = .string mid)) (by decide) (by kernel_rfl) (by kernel_rfl) ?step ?fin _ _ _ _ ?ini (by simp) (fun k _ => lst_none) (by simp)
  case ini => exact ⟨_, _, _, _, _, _, _, _, _, _, _, _, _, _, _, _, _, _, _, _, _, rfl, (Below.refl w1.heap.size w1).drew.mono (by have := HZ1.out; omega), Nat.le_refl _, ZB0.out, ZB1.out, fun h => absurd h lst_none, fun h => absurd h lst_none, fun h => absurd h lst_none, fun h => absurd h lst_none, fun h => absurd h lst_none, fun h => absurd h lst_none, fun h => absurd h lst_none, fun h => absurd h lst_none, fun h => absurd h lst_none, fun h => absurd h lst_none, fun h => absurd h lst_none, fun h => absurd h lst_none, fun h => absurd h lst_none, fun h => absurd h lst_none, fun h => absurd h lst_none, fun h => absurd h lst_none, fun h => absurd h lst_none, fun h => absurd h lst_none, fun h => absurd h lst_none, fun h => absurd h lst_none, fun h => absurd h lst_none, fun h => absurd h lst_none⟩
  case step =>
    intro f L a W hI i him hi
    obtain ⟨v3, v32, v33, v34, v35, v36, v37, v38, v39, v40, v41, v42, v43, v44, v45, v46, v47, v48, v49, v50, v51, rfl, hb, hz, hzb0, hzb1, hf⟩ := hI
    have F := Lib.hid hf
    have hgw : w.heap.size + 1 ≤ W.heap.size := by have := HZ1.out; omega
    have hbw : Below w.heap.size w W := hb1.trans (hb.mono (by omega))
    have Z0 := Lib.hid hzb0
    have Z1 := Lib.hid hzb1
    clear hf hzb0 hzb1
    rcases (show i = 0 ∨ i = 1 ∨ i = 2 ∨ i = 3 ∨ i = 4 ∨ i = 5 ∨ i = 6 ∨ i = 7 ∨ i = 8 ∨ i = 9 ∨ i = 10 ∨ i = 11 ∨ i = 12 ∨ i = 13 ∨ i = 14 ∨ i = 15 ∨ i = 16 ∨ i = 17 ∨ i = 18 ∨ i = 19 ∨ i = 20 ∨ i = 21 by omega) with rfl | rfl | rfl | rfl | rfl | rfl | rfl | rfl | rfl | rfl | rfl | rfl | rfl | rfl | rfl | rfl | rfl | rfl | rfl | rfl | rfl | rfl
    · clear him
      have HI := Lib.hid hi
      clear hi
      refine wpOp_step (o := _) rfl (fun K' hK => ?_)
      have HK := Lib.hid hK
      clear hK
      go_simp
      exact HK.out _ _ ⟨_, _, _, _, _, _, _, _, _, _, _, _, _, _, _, _, _, _, _, _, _, rfl, hb, hz, Z0.out, Z1.out, fun _ => rfl, fun h => F.out.2.1 (lst_old (by decide) h), fun h => F.out.2.2.1 (lst_old (by decide) h), fun h => F.out.2.2.2.1 (lst_old (by decide) h), fun h => F.out.2.2.2.2.1 (lst_old (by decide) h), fun h => F.out.2.2.2.2.2.1 (lst_old (by decide) h), fun h => ⟨(F.out.2.2.2.2.2.2.1 (lst_old (by decide) h)).1, lst_keep (F.out.2.2.2.2.2.2.1 (lst_old (by decide) h)).2⟩, fun h => F.out.2.2.2.2.2.2.2.1 (lst_old (by decide) h), fun h => F.out.2.2.2.2.2.2.2.2.1 (lst_old (by decide) h), fun h => F.out.2.2.2.2.2.2.2.2.2.1 (lst_old (by decide) h), fun h => F.out.2.2.2.2.2.2.2.2.2.2.1 (lst_old (by decide) h), fun h => F.out.2.2.2.2.2.2.2.2.2.2.2.1 (lst_old (by decide) h), fun h => F.out.2.2.2.2.2.2.2.2.2.2.2.2.1 (lst_old (by decide) h), fun h => F.out.2.2.2.2.2.2.2.2.2.2.2.2.2.1 (lst_old (by decide) h), fun h => F.out.2.2.2.2.2.2.2.2.2.2.2.2.2.2.1 (lst_old (by decide) h), fun h => F.out.2.2.2.2.2.2.2.2.2.2.2.2.2.2.2.1 (lst_old (by decide) h), fun h => F.out.2.2.2.2.2.2.2.2.2.2.2.2.2.2.2.2.1 (lst_old (by decide) h), fun h => F.out.2.2.2.2.2.2.2.2.2.2.2.2.2.2.2.2.2.1 (lst_old (by decide) h), fun h => F.out.2.2.2.2.2.2.2.2.2.2.2.2.2.2.2.2.2.2.1 (lst_old (by decide) h), fun h => ⟨(F.out.2.2.2.2.2.2.2.2.2.2.2.2.2.2.2.2.2.2.2.1 (lst_old (by decide) h)).1, lst_keep (F.out.2.2.2.2.2.2.2.2.2.2.2.2.2.2.2.2.2.2.2.1 (lst_old (by decide) h)).2⟩, fun h => ⟨(F.out.2.2.2.2.2.2.2.2.2.2.2.2.2.2.2.2.2.2.2.2.1 (lst_old (by decide) h)).1, lst_keep (F.out.2.2.2.2.2.2.2.2.2.2.2.2.2.2.2.2.2.2.2.2.1 (lst_old (by decide) h)).2⟩, fun h => F.out.2.2.2.2.2.2.2.2.2.2.2.2.2.2.2.2.2.2.2.2.2 (lst_old (by decide) h)⟩
    · clear him
      have p0 := F.out.1 (ready_needs hi (by kernel_rfl))
      subst p0
      have hxx := Bx.upto hx hb (by omega)
      obtain ⟨b0, b1, b2, b3⟩ := hxx
      have HI := Lib.hid hi
      clear hi
      refine wpOp_step (o := _) rfl (fun K' hK => ?_)
      have HK := Lib.hid hK
      clear hK
      go_simp
      exact HK.out _ _ ⟨_, _, _, _, _, _, _, _, _, _, _, _, _, _, _, _, _, _, _, _, _, rfl, hb, hz, Z0.out, Z1.out, fun h => F.out.1 (lst_old (by decide) h), fun _ => rfl, fun h => F.out.2.2.1 (lst_old (by decide) h), fun h => F.out.2.2.2.1 (lst_old (by decide) h), fun h => F.out.2.2.2.2.1 (lst_old (by decide) h), fun h => F.out.2.2.2.2.2.1 (lst_old (by decide) h), fun h => ⟨(F.out.2.2.2.2.2.2.1 (lst_old (by decide) h)).1, lst_keep (F.out.2.2.2.2.2.2.1 (lst_old (by decide) h)).2⟩, fun h => F.out.2.2.2.2.2.2.2.1 (lst_old (by decide) h), fun h => F.out.2.2.2.2.2.2.2.2.1 (lst_old (by decide) h), fun h => F.out.2.2.2.2.2.2.2.2.2.1 (lst_old (by decide) h), fun h => F.out.2.2.2.2.2.2.2.2.2.2.1 (lst_old (by decide) h), fun h => F.out.2.2.2.2.2.2.2.2.2.2.2.1 (lst_old (by decide) h), fun h => F.out.2.2.2.2.2.2.2.2.2.2.2.2.1 (lst_old (by decide) h), fun h => F.out.2.2.2.2.2.2.2.2.2.2.2.2.2.1 (lst_old (by decide) h), fun h => F.out.2.2.2.2.2.2.2.2.2.2.2.2.2.2.1 (lst_old (by decide) h), fun h => F.out.2.2.2.2.2.2.2.2.2.2.2.2.2.2.2.1 (lst_old (by decide) h), fun h => F.out.2.2.2.2.2.2.2.2.2.2.2.2.2.2.2.2.1 (lst_old (by decide) h), fun h => F.out.2.2.2.2.2.2.2.2.2.2.2.2.2.2.2.2.2.1 (lst_old (by decide) h), fun h => F.out.2.2.2.2.2.2.2.2.2.2.2.2.2.2.2.2.2.2.1 (lst_old (by decide) h), fun h => ⟨(F.out.2.2.2.2.2.2.2.2.2.2.2.2.2.2.2.2.2.2.2.1 (lst_old (by decide) h)).1, lst_keep (F.out.2.2.2.2.2.2.2.2.2.2.2.2.2.2.2.2.2.2.2.1 (lst_old (by decide) h)).2⟩, fun h => ⟨(F.out.2.2.2.2.2.2.2.2.2.2.2.2.2.2.2.2.2.2.2.2.1 (lst_old (by decide) h)).1, lst_keep (F.out.2.2.2.2.2.2.2.2.2.2.2.2.2.2.2.2.2.2.2.2.1 (lst_old (by decide) h)).2⟩, fun h => F.out.2.2.2.2.2.2.2.2.2.2.2.2.2.2.2.2.2.2.2.2.2 (lst_old (by decide) h)⟩
    · clear him
      have HI := Lib.hid hi
      clear hi
      refine wpOp_step (o := _) rfl (fun K' hK => ?_)
      have HK := Lib.hid hK
      clear hK
      go_simp
      exact HK.out _ _ ⟨_, _, _, _, _, _, _, _, _, _, _, _, _, _, _, _, _, _, _, _, _, rfl, hb, hz, Z0.out, Z1.out, fun h => F.out.1 (lst_old (by decide) h), fun h => F.out.2.1 (lst_old (by decide) h), fun _ => rfl, fun h => F.out.2.2.2.1 (lst_old (by decide) h), fun h => F.out.2.2.2.2.1 (lst_old (by decide) h), fun h => F.out.2.2.2.2.2.1 (lst_old (by decide) h), fun h => ⟨(F.out.2.2.2.2.2.2.1 (lst_old (by decide) h)).1, lst_keep (F.out.2.2.2.2.2.2.1 (lst_old (by decide) h)).2⟩, fun h => F.out.2.2.2.2.2.2.2.1 (lst_old (by decide) h), fun h => F.out.2.2.2.2.2.2.2.2.1 (lst_old (by decide) h), fun h => F.out.2.2.2.2.2.2.2.2.2.1 (lst_old (by decide) h), fun h => F.out.2.2.2.2.2.2.2.2.2.2.1 (lst_old (by decide) h), fun h => F.out.2.2.2.2.2.2.2.2.2.2.2.1 (lst_old (by decide) h), fun h => F.out.2.2.2.2.2.2.2.2.2.2.2.2.1 (lst_old (by decide) h), fun h => F.out.2.2.2.2.2.2.2.2.2.2.2.2.2.1 (lst_old (by decide) h), fun h => F.out.2.2.2.2.2.2.2.2.2.2.2.2.2.2.1 (lst_old (by decide) h), fun h => F.out.2.2.2.2.2.2.2.2.2.2.2.2.2.2.2.1 (lst_old (by decide) h), fun h => F.out.2.2.2.2.2.2.2.2.2.2.2.2.2.2.2.2.1 (lst_old (by decide) h), fun h => F.out.2.2.2.2.2.2.2.2.2.2.2.2.2.2.2.2.2.1 (lst_old (by decide) h), fun h => F.out.2.2.2.2.2.2.2.2.2.2.2.2.2.2.2.2.2.2.1 (lst_old (by decide) h), fun h => ⟨(F.out.2.2.2.2.2.2.2.2.2.2.2.2.2.2.2.2.2.2.2.1 (lst_old (by decide) h)).1, lst_keep (F.out.2.2.2.2.2.2.2.2.2.2.2.2.2.2.2.2.2.2.2.1 (lst_old (by decide) h)).2⟩, fun h => ⟨(F.out.2.2.2.2.2.2.2.2.2.2.2.2.2.2.2.2.2.2.2.2.1 (lst_old (by decide) h)).1, lst_keep (F.out.2.2.2.2.2.2.2.2.2.2.2.2.2.2.2.2.2.2.2.2.1 (lst_old (by decide) h)).2⟩, fun h => F.out.2.2.2.2.2.2.2.2.2.2.2.2.2.2.2.2.2.2.2.2.2 (lst_old (by decide) h)⟩
    · clear him
      have p1 := F.out.2.1 (ready_needs hi (by kernel_rfl))
      have p2 := F.out.2.2.1 (ready_needs hi (by kernel_rfl))
      subst p1
      subst p2
      have HI := Lib.hid hi
      clear hi
      refine wpOp_step (o := _) rfl (fun K' hK => ?_)
      have HK := Lib.hid hK
      clear hK
      go_simp
      exact HK.out _ _ ⟨_, _, _, _, _, _, _, _, _, _, _, _, _, _, _, _, _, _, _, _, _, rfl, hb, hz, Z0.out, Z1.out, fun h => F.out.1 (lst_old (by decide) h), fun h => F.out.2.1 (lst_old (by decide) h), fun h => F.out.2.2.1 (lst_old (by decide) h), fun _ => rfl, fun h => F.out.2.2.2.2.1 (lst_old (by decide) h), fun h => F.out.2.2.2.2.2.1 (lst_old (by decide) h), fun h => ⟨(F.out.2.2.2.2.2.2.1 (lst_old (by decide) h)).1, lst_keep (F.out.2.2.2.2.2.2.1 (lst_old (by decide) h)).2⟩, fun h => F.out.2.2.2.2.2.2.2.1 (lst_old (by decide) h), fun h => F.out.2.2.2.2.2.2.2.2.1 (lst_old (by decide) h), fun h => F.out.2.2.2.2.2.2.2.2.2.1 (lst_old (by decide) h), fun h => F.out.2.2.2.2.2.2.2.2.2.2.1 (lst_old (by decide) h), fun h => F.out.2.2.2.2.2.2.2.2.2.2.2.1 (lst_old (by decide) h), fun h => F.out.2.2.2.2.2.2.2.2.2.2.2.2.1 (lst_old (by decide) h), fun h => F.out.2.2.2.2.2.2.2.2.2.2.2.2.2.1 (lst_old (by decide) h), fun h => F.out.2.2.2.2.2.2.2.2.2.2.2.2.2.2.1 (lst_old (by decide) h), fun h => F.out.2.2.2.2.2.2.2.2.2.2.2.2.2.2.2.1 (lst_old (by decide) h), fun h => F.out.2.2.2.2.2.2.2.2.2.2.2.2.2.2.2.2.1 (lst_old (by decide) h), fun h => F.out.2.2.2.2.2.2.2.2.2.2.2.2.2.2.2.2.2.1 (lst_old (by decide) h), fun h => F.out.2.2.2.2.2.2.2.2.2.2.2.2.2.2.2.2.2.2.1 (lst_old (by decide) h), fun h => ⟨(F.out.2.2.2.2.2.2.2.2.2.2.2.2.2.2.2.2.2.2.2.1 (lst_old (by decide) h)).1, lst_keep (F.out.2.2.2.2.2.2.2.2.2.2.2.2.2.2.2.2.2.2.2.1 (lst_old (by decide) h)).2⟩, fun h => ⟨(F.out.2.2.2.2.2.2.2.2.2.2.2.2.2.2.2.2.2.2.2.2.1 (lst_old (by decide) h)).1, lst_keep (F.out.2.2.2.2.2.2.2.2.2.2.2.2.2.2.2.2.2.2.2.2.1 (lst_old (by decide) h)).2⟩, fun h => F.out.2.2.2.2.2.2.2.2.2.2.2.2.2.2.2.2.2.2.2.2.2 (lst_old (by decide) h)⟩
    · clear him
      have p3 := F.out.2.2.2.1 (ready_needs hi (by kernel_rfl))
      subst p3
      have HI := Lib.hid hi
      clear hi
      refine wpOp_step (o := _) rfl (fun K' hK => ?_)
      have HK := Lib.hid hK
      clear hK
      go_simp
      exact HK.out _ _ ⟨_, _, _, _, _, _, _, _, _, _, _, _, _, _, _, _, _, _, _, _, _, rfl, (hb.alloc hgw _), (Nat.le_trans hz ((Below.refl _ W).alloc (Nat.le_refl _) _).size), Zb.below (Z0.out) ((Below.refl _ W).alloc (Nat.le_refl _) _), Zb.below (Z1.out) ((Below.refl _ W).alloc (Nat.le_refl _) _), fun h => F.out.1 (lst_old (by decide) h), fun h => F.out.2.1 (lst_old (by decide) h), fun h => F.out.2.2.1 (lst_old (by decide) h), fun h => F.out.2.2.2.1 (lst_old (by decide) h), fun _ => Clb.new W _ 43 1 rfl _ hz, fun h => own_below (F.out.2.2.2.2.2.1 (lst_old (by decide) h)) ((Below.refl _ W).alloc (Nat.le_refl _) _), fun h => ⟨(F.out.2.2.2.2.2.2.1 (lst_old (by decide) h)).1, lst_keep (F.out.2.2.2.2.2.2.1 (lst_old (by decide) h)).2⟩, fun h => F.out.2.2.2.2.2.2.2.1 (lst_old (by decide) h), fun h => F.out.2.2.2.2.2.2.2.2.1 (lst_old (by decide) h), fun h => F.out.2.2.2.2.2.2.2.2.2.1 (lst_old (by decide) h), fun h => F.out.2.2.2.2.2.2.2.2.2.2.1 (lst_old (by decide) h), fun h => F.out.2.2.2.2.2.2.2.2.2.2.2.1 (lst_old (by decide) h), fun h => F.out.2.2.2.2.2.2.2.2.2.2.2.2.1 (lst_old (by decide) h), fun h => F.out.2.2.2.2.2.2.2.2.2.2.2.2.2.1 (lst_old (by decide) h), fun h => F.out.2.2.2.2.2.2.2.2.2.2.2.2.2.2.1 (lst_old (by decide) h), fun h => F.out.2.2.2.2.2.2.2.2.2.2.2.2.2.2.2.1 (lst_old (by decide) h), fun h => F.out.2.2.2.2.2.2.2.2.2.2.2.2.2.2.2.2.1 (lst_old (by decide) h), fun h => Clb.below (F.out.2.2.2.2.2.2.2.2.2.2.2.2.2.2.2.2.2.1 (lst_old (by decide) h)) ((Below.refl _ W).alloc (Nat.le_refl _) _), fun h => own_below (F.out.2.2.2.2.2.2.2.2.2.2.2.2.2.2.2.2.2.2.1 (lst_old (by decide) h)) ((Below.refl _ W).alloc (Nat.le_refl _) _), fun h => ⟨(F.out.2.2.2.2.2.2.2.2.2.2.2.2.2.2.2.2.2.2.2.1 (lst_old (by decide) h)).1, lst_keep (F.out.2.2.2.2.2.2.2.2.2.2.2.2.2.2.2.2.2.2.2.1 (lst_old (by decide) h)).2⟩, fun h => ⟨blk_below ((F.out.2.2.2.2.2.2.2.2.2.2.2.2.2.2.2.2.2.2.2.2.1 (lst_old (by decide) h)).1) ((Below.refl _ W).alloc (Nat.le_refl _) _), lst_keep (F.out.2.2.2.2.2.2.2.2.2.2.2.2.2.2.2.2.2.2.2.2.1 (lst_old (by decide) h)).2⟩, fun h => F.out.2.2.2.2.2.2.2.2.2.2.2.2.2.2.2.2.2.2.2.2.2 (lst_old (by decide) h)⟩
    · clear him
      have p4 := F.out.2.2.2.2.1 (ready_needs hi (by kernel_rfl))
      have P4 := Lib.hid p4.cl
      clear p4
      have HI := Lib.hid hi
      clear hi
      refine wpOp_step (o := _) rfl (fun K' hK => ?_)
      have HK := Lib.hid hK
      clear hK
      go_simp
      refine (gl1_e P4.out (HLO.out.below hbw) (by rw [HKA.out]; omega)).mono ?_
      rintro r W2 ⟨x, rfl, hown, hb2⟩
      exact HK.out _ _ ⟨_, _, _, _, _, _, _, _, _, _, _, _, _, _, _, _, _, _, _, _, _, rfl, (hb.trans (hb2.mono hgw)), (Nat.le_trans hz hb2.size), Zb.below (Z0.out) hb2, Zb.below (Z1.out) hb2, fun h => F.out.1 (lst_old (by decide) h), fun h => F.out.2.1 (lst_old (by decide) h), fun h => F.out.2.2.1 (lst_old (by decide) h), fun h => F.out.2.2.2.1 (lst_old (by decide) h), fun h => Clb.below (F.out.2.2.2.2.1 (lst_old (by decide) h)) hb2, fun _ => own_mono (HKA.out ▸ hown) hz, fun h => absurd (F.out.2.2.2.2.2.2.1 (lst_old (by decide) h)).2 (ready_not HI.out), fun h => F.out.2.2.2.2.2.2.2.1 (lst_old (by decide) h), fun h => F.out.2.2.2.2.2.2.2.2.1 (lst_old (by decide) h), fun h => F.out.2.2.2.2.2.2.2.2.2.1 (lst_old (by decide) h), fun h => F.out.2.2.2.2.2.2.2.2.2.2.1 (lst_old (by decide) h), fun h => F.out.2.2.2.2.2.2.2.2.2.2.2.1 (lst_old (by decide) h), fun h => F.out.2.2.2.2.2.2.2.2.2.2.2.2.1 (lst_old (by decide) h), fun h => F.out.2.2.2.2.2.2.2.2.2.2.2.2.2.1 (lst_old (by decide) h), fun h => F.out.2.2.2.2.2.2.2.2.2.2.2.2.2.2.1 (lst_old (by decide) h), fun h => F.out.2.2.2.2.2.2.2.2.2.2.2.2.2.2.2.1 (lst_old (by decide) h), fun h => F.out.2.2.2.2.2.2.2.2.2.2.2.2.2.2.2.2.1 (lst_old (by decide) h), fun h => Clb.below (F.out.2.2.2.2.2.2.2.2.2.2.2.2.2.2.2.2.2.1 (lst_old (by decide) h)) hb2, fun h => own_below (F.out.2.2.2.2.2.2.2.2.2.2.2.2.2.2.2.2.2.2.1 (lst_old (by decide) h)) hb2, fun h => ⟨(F.out.2.2.2.2.2.2.2.2.2.2.2.2.2.2.2.2.2.2.2.1 (lst_old (by decide) h)).1, lst_keep (F.out.2.2.2.2.2.2.2.2.2.2.2.2.2.2.2.2.2.2.2.1 (lst_old (by decide) h)).2⟩, fun h => absurd (F.out.2.2.2.2.2.2.2.2.2.2.2.2.2.2.2.2.2.2.2.2.1 (lst_old (by decide) h)).2 (ready_not HI.out), fun h => F.out.2.2.2.2.2.2.2.2.2.2.2.2.2.2.2.2.2.2.2.2.2 (lst_old (by decide) h)⟩
    · clear him
      have p5 := F.out.2.2.2.2.2.1 (ready_needs hi (by kernel_rfl))
      obtain ⟨a5, c5, h5⟩ := own_slice p5
      subst h5
      have P5 := Lib.hid p5
      clear p5
      have HI := Lib.hid hi
      clear hi
      refine wpOp_step (o := _) rfl (fun K' hK => ?_)
      have HK := Lib.hid hK
      clear hK
      go_simp
      exact HK.out _ _ ⟨_, _, _, _, _, _, _, _, _, _, _, _, _, _, _, _, _, _, _, _, _, rfl, hb, hz, Z0.out, Z1.out, fun h => F.out.1 (lst_old (by decide) h), fun h => F.out.2.1 (lst_old (by decide) h), fun h => F.out.2.2.1 (lst_old (by decide) h), fun h => F.out.2.2.2.1 (lst_old (by decide) h), fun h => F.out.2.2.2.2.1 (lst_old (by decide) h), fun h => F.out.2.2.2.2.2.1 (lst_old (by decide) h), fun _ => ⟨rfl, lst_keep (ready_needs HI.out (by kernel_rfl))⟩, fun h => F.out.2.2.2.2.2.2.2.1 (lst_old (by decide) h), fun h => F.out.2.2.2.2.2.2.2.2.1 (lst_old (by decide) h), fun h => F.out.2.2.2.2.2.2.2.2.2.1 (lst_old (by decide) h), fun h => F.out.2.2.2.2.2.2.2.2.2.2.1 (lst_old (by decide) h), fun h => F.out.2.2.2.2.2.2.2.2.2.2.2.1 (lst_old (by decide) h), fun h => F.out.2.2.2.2.2.2.2.2.2.2.2.2.1 (lst_old (by decide) h), fun h => F.out.2.2.2.2.2.2.2.2.2.2.2.2.2.1 (lst_old (by decide) h), fun h => F.out.2.2.2.2.2.2.2.2.2.2.2.2.2.2.1 (lst_old (by decide) h), fun h => F.out.2.2.2.2.2.2.2.2.2.2.2.2.2.2.2.1 (lst_old (by decide) h), fun h => F.out.2.2.2.2.2.2.2.2.2.2.2.2.2.2.2.2.1 (lst_old (by decide) h), fun h => F.out.2.2.2.2.2.2.2.2.2.2.2.2.2.2.2.2.2.1 (lst_old (by decide) h), fun h => F.out.2.2.2.2.2.2.2.2.2.2.2.2.2.2.2.2.2.2.1 (lst_old (by decide) h), fun h => ⟨(F.out.2.2.2.2.2.2.2.2.2.2.2.2.2.2.2.2.2.2.2.1 (lst_old (by decide) h)).1, lst_keep (F.out.2.2.2.2.2.2.2.2.2.2.2.2.2.2.2.2.2.2.2.1 (lst_old (by decide) h)).2⟩, fun h => ⟨(F.out.2.2.2.2.2.2.2.2.2.2.2.2.2.2.2.2.2.2.2.2.1 (lst_old (by decide) h)).1, lst_keep (F.out.2.2.2.2.2.2.2.2.2.2.2.2.2.2.2.2.2.2.2.2.1 (lst_old (by decide) h)).2⟩, fun h => F.out.2.2.2.2.2.2.2.2.2.2.2.2.2.2.2.2.2.2.2.2.2 (lst_old (by decide) h)⟩
    · clear him
      have HI := Lib.hid hi
      clear hi
      refine wpOp_step (o := _) rfl (fun K' hK => ?_)
      have HK := Lib.hid hK
      clear hK
      go_simp
      exact HK.out _ _ ⟨_, _, _, _, _, _, _, _, _, _, _, _, _, _, _, _, _, _, _, _, _, rfl, hb, hz, Z0.out, Z1.out, fun h => F.out.1 (lst_old (by decide) h), fun h => F.out.2.1 (lst_old (by decide) h), fun h => F.out.2.2.1 (lst_old (by decide) h), fun h => F.out.2.2.2.1 (lst_old (by decide) h), fun h => F.out.2.2.2.2.1 (lst_old (by decide) h), fun h => F.out.2.2.2.2.2.1 (lst_old (by decide) h), fun h => ⟨(F.out.2.2.2.2.2.2.1 (lst_old (by decide) h)).1, lst_keep (F.out.2.2.2.2.2.2.1 (lst_old (by decide) h)).2⟩, fun _ => rfl, fun h => F.out.2.2.2.2.2.2.2.2.1 (lst_old (by decide) h), fun h => F.out.2.2.2.2.2.2.2.2.2.1 (lst_old (by decide) h), fun h => F.out.2.2.2.2.2.2.2.2.2.2.1 (lst_old (by decide) h), fun h => F.out.2.2.2.2.2.2.2.2.2.2.2.1 (lst_old (by decide) h), fun h => F.out.2.2.2.2.2.2.2.2.2.2.2.2.1 (lst_old (by decide) h), fun h => F.out.2.2.2.2.2.2.2.2.2.2.2.2.2.1 (lst_old (by decide) h), fun h => F.out.2.2.2.2.2.2.2.2.2.2.2.2.2.2.1 (lst_old (by decide) h), fun h => F.out.2.2.2.2.2.2.2.2.2.2.2.2.2.2.2.1 (lst_old (by decide) h), fun h => F.out.2.2.2.2.2.2.2.2.2.2.2.2.2.2.2.2.1 (lst_old (by decide) h), fun h => F.out.2.2.2.2.2.2.2.2.2.2.2.2.2.2.2.2.2.1 (lst_old (by decide) h), fun h => F.out.2.2.2.2.2.2.2.2.2.2.2.2.2.2.2.2.2.2.1 (lst_old (by decide) h), fun h => ⟨(F.out.2.2.2.2.2.2.2.2.2.2.2.2.2.2.2.2.2.2.2.1 (lst_old (by decide) h)).1, lst_keep (F.out.2.2.2.2.2.2.2.2.2.2.2.2.2.2.2.2.2.2.2.1 (lst_old (by decide) h)).2⟩, fun h => ⟨(F.out.2.2.2.2.2.2.2.2.2.2.2.2.2.2.2.2.2.2.2.2.1 (lst_old (by decide) h)).1, lst_keep (F.out.2.2.2.2.2.2.2.2.2.2.2.2.2.2.2.2.2.2.2.2.1 (lst_old (by decide) h)).2⟩, fun h => F.out.2.2.2.2.2.2.2.2.2.2.2.2.2.2.2.2.2.2.2.2.2 (lst_old (by decide) h)⟩
    · clear him
      have p7 := F.out.2.2.2.2.2.2.2.1 (ready_needs hi (by kernel_rfl))
      subst p7
      have hxx := Bx.upto hx hb (by omega)
      obtain ⟨b0, b1, b2, b3⟩ := hxx
      have HI := Lib.hid hi
      clear hi
      refine wpOp_step (o := _) rfl (fun K' hK => ?_)
      have HK := Lib.hid hK
      clear hK
      go_simp
      exact HK.out _ _ ⟨_, _, _, _, _, _, _, _, _, _, _, _, _, _, _, _, _, _, _, _, _, rfl, hb, hz, Z0.out, Z1.out, fun h => F.out.1 (lst_old (by decide) h), fun h => F.out.2.1 (lst_old (by decide) h), fun h => F.out.2.2.1 (lst_old (by decide) h), fun h => F.out.2.2.2.1 (lst_old (by decide) h), fun h => F.out.2.2.2.2.1 (lst_old (by decide) h), fun h => F.out.2.2.2.2.2.1 (lst_old (by decide) h), fun h => ⟨(F.out.2.2.2.2.2.2.1 (lst_old (by decide) h)).1, lst_keep (F.out.2.2.2.2.2.2.1 (lst_old (by decide) h)).2⟩, fun h => F.out.2.2.2.2.2.2.2.1 (lst_old (by decide) h), fun _ => rfl, fun h => F.out.2.2.2.2.2.2.2.2.2.1 (lst_old (by decide) h), fun h => F.out.2.2.2.2.2.2.2.2.2.2.1 (lst_old (by decide) h), fun h => F.out.2.2.2.2.2.2.2.2.2.2.2.1 (lst_old (by decide) h), fun h => F.out.2.2.2.2.2.2.2.2.2.2.2.2.1 (lst_old (by decide) h), fun h => F.out.2.2.2.2.2.2.2.2.2.2.2.2.2.1 (lst_old (by decide) h), fun h => F.out.2.2.2.2.2.2.2.2.2.2.2.2.2.2.1 (lst_old (by decide) h), fun h => F.out.2.2.2.2.2.2.2.2.2.2.2.2.2.2.2.1 (lst_old (by decide) h), fun h => F.out.2.2.2.2.2.2.2.2.2.2.2.2.2.2.2.2.1 (lst_old (by decide) h), fun h => F.out.2.2.2.2.2.2.2.2.2.2.2.2.2.2.2.2.2.1 (lst_old (by decide) h), fun h => F.out.2.2.2.2.2.2.2.2.2.2.2.2.2.2.2.2.2.2.1 (lst_old (by decide) h), fun h => ⟨(F.out.2.2.2.2.2.2.2.2.2.2.2.2.2.2.2.2.2.2.2.1 (lst_old (by decide) h)).1, lst_keep (F.out.2.2.2.2.2.2.2.2.2.2.2.2.2.2.2.2.2.2.2.1 (lst_old (by decide) h)).2⟩, fun h => ⟨(F.out.2.2.2.2.2.2.2.2.2.2.2.2.2.2.2.2.2.2.2.2.1 (lst_old (by decide) h)).1, lst_keep (F.out.2.2.2.2.2.2.2.2.2.2.2.2.2.2.2.2.2.2.2.2.1 (lst_old (by decide) h)).2⟩, fun h => F.out.2.2.2.2.2.2.2.2.2.2.2.2.2.2.2.2.2.2.2.2.2 (lst_old (by decide) h)⟩
    · clear him
      have HI := Lib.hid hi
      clear hi
      refine wpOp_step (o := _) rfl (fun K' hK => ?_)
      have HK := Lib.hid hK
      clear hK
      go_simp
      exact HK.out _ _ ⟨_, _, _, _, _, _, _, _, _, _, _, _, _, _, _, _, _, _, _, _, _, rfl, hb, hz, Z0.out, Z1.out, fun h => F.out.1 (lst_old (by decide) h), fun h => F.out.2.1 (lst_old (by decide) h), fun h => F.out.2.2.1 (lst_old (by decide) h), fun h => F.out.2.2.2.1 (lst_old (by decide) h), fun h => F.out.2.2.2.2.1 (lst_old (by decide) h), fun h => F.out.2.2.2.2.2.1 (lst_old (by decide) h), fun h => ⟨(F.out.2.2.2.2.2.2.1 (lst_old (by decide) h)).1, lst_keep (F.out.2.2.2.2.2.2.1 (lst_old (by decide) h)).2⟩, fun h => F.out.2.2.2.2.2.2.2.1 (lst_old (by decide) h), fun h => F.out.2.2.2.2.2.2.2.2.1 (lst_old (by decide) h), fun _ => rfl, fun h => F.out.2.2.2.2.2.2.2.2.2.2.1 (lst_old (by decide) h), fun h => F.out.2.2.2.2.2.2.2.2.2.2.2.1 (lst_old (by decide) h), fun h => F.out.2.2.2.2.2.2.2.2.2.2.2.2.1 (lst_old (by decide) h), fun h => F.out.2.2.2.2.2.2.2.2.2.2.2.2.2.1 (lst_old (by decide) h), fun h => F.out.2.2.2.2.2.2.2.2.2.2.2.2.2.2.1 (lst_old (by decide) h), fun h => F.out.2.2.2.2.2.2.2.2.2.2.2.2.2.2.2.1 (lst_old (by decide) h), fun h => F.out.2.2.2.2.2.2.2.2.2.2.2.2.2.2.2.2.1 (lst_old (by decide) h), fun h => F.out.2.2.2.2.2.2.2.2.2.2.2.2.2.2.2.2.2.1 (lst_old (by decide) h), fun h => F.out.2.2.2.2.2.2.2.2.2.2.2.2.2.2.2.2.2.2.1 (lst_old (by decide) h), fun h => ⟨(F.out.2.2.2.2.2.2.2.2.2.2.2.2.2.2.2.2.2.2.2.1 (lst_old (by decide) h)).1, lst_keep (F.out.2.2.2.2.2.2.2.2.2.2.2.2.2.2.2.2.2.2.2.1 (lst_old (by decide) h)).2⟩, fun h => ⟨(F.out.2.2.2.2.2.2.2.2.2.2.2.2.2.2.2.2.2.2.2.2.1 (lst_old (by decide) h)).1, lst_keep (F.out.2.2.2.2.2.2.2.2.2.2.2.2.2.2.2.2.2.2.2.2.1 (lst_old (by decide) h)).2⟩, fun h => F.out.2.2.2.2.2.2.2.2.2.2.2.2.2.2.2.2.2.2.2.2.2 (lst_old (by decide) h)⟩
    · clear him
      have p8 := F.out.2.2.2.2.2.2.2.2.1 (ready_needs hi (by kernel_rfl))
      have p9 := F.out.2.2.2.2.2.2.2.2.2.1 (ready_needs hi (by kernel_rfl))
      subst p8
      subst p9
      have HI := Lib.hid hi
      clear hi
      refine wpOp_step (o := _) rfl (fun K' hK => ?_)
      have HK := Lib.hid hK
      clear hK
      go_simp
      exact HK.out _ _ ⟨_, _, _, _, _, _, _, _, _, _, _, _, _, _, _, _, _, _, _, _, _, rfl, hb, hz, Z0.out, Z1.out, fun h => F.out.1 (lst_old (by decide) h), fun h => F.out.2.1 (lst_old (by decide) h), fun h => F.out.2.2.1 (lst_old (by decide) h), fun h => F.out.2.2.2.1 (lst_old (by decide) h), fun h => F.out.2.2.2.2.1 (lst_old (by decide) h), fun h => F.out.2.2.2.2.2.1 (lst_old (by decide) h), fun h => ⟨(F.out.2.2.2.2.2.2.1 (lst_old (by decide) h)).1, lst_keep (F.out.2.2.2.2.2.2.1 (lst_old (by decide) h)).2⟩, fun h => F.out.2.2.2.2.2.2.2.1 (lst_old (by decide) h), fun h => F.out.2.2.2.2.2.2.2.2.1 (lst_old (by decide) h), fun h => F.out.2.2.2.2.2.2.2.2.2.1 (lst_old (by decide) h), fun _ => rfl, fun h => F.out.2.2.2.2.2.2.2.2.2.2.2.1 (lst_old (by decide) h), fun h => F.out.2.2.2.2.2.2.2.2.2.2.2.2.1 (lst_old (by decide) h), fun h => F.out.2.2.2.2.2.2.2.2.2.2.2.2.2.1 (lst_old (by decide) h), fun h => F.out.2.2.2.2.2.2.2.2.2.2.2.2.2.2.1 (lst_old (by decide) h), fun h => F.out.2.2.2.2.2.2.2.2.2.2.2.2.2.2.2.1 (lst_old (by decide) h), fun h => F.out.2.2.2.2.2.2.2.2.2.2.2.2.2.2.2.2.1 (lst_old (by decide) h), fun h => F.out.2.2.2.2.2.2.2.2.2.2.2.2.2.2.2.2.2.1 (lst_old (by decide) h), fun h => F.out.2.2.2.2.2.2.2.2.2.2.2.2.2.2.2.2.2.2.1 (lst_old (by decide) h), fun h => ⟨(F.out.2.2.2.2.2.2.2.2.2.2.2.2.2.2.2.2.2.2.2.1 (lst_old (by decide) h)).1, lst_keep (F.out.2.2.2.2.2.2.2.2.2.2.2.2.2.2.2.2.2.2.2.1 (lst_old (by decide) h)).2⟩, fun h => ⟨(F.out.2.2.2.2.2.2.2.2.2.2.2.2.2.2.2.2.2.2.2.2.1 (lst_old (by decide) h)).1, lst_keep (F.out.2.2.2.2.2.2.2.2.2.2.2.2.2.2.2.2.2.2.2.2.1 (lst_old (by decide) h)).2⟩, fun h => F.out.2.2.2.2.2.2.2.2.2.2.2.2.2.2.2.2.2.2.2.2.2 (lst_old (by decide) h)⟩
    · clear him
      have p10 := F.out.2.2.2.2.2.2.2.2.2.2.1 (ready_needs hi (by kernel_rfl))
      subst p10
      have HI := Lib.hid hi
      clear hi
      refine wpOp_step (o := _) rfl (fun K' hK => ?_)
      have HK := Lib.hid hK
      clear hK
      go_simp
      exact HK.out _ _ ⟨_, _, _, _, _, _, _, _, _, _, _, _, _, _, _, _, _, _, _, _, _, rfl, hb, hz, Z0.out, Z1.out, fun h => F.out.1 (lst_old (by decide) h), fun h => F.out.2.1 (lst_old (by decide) h), fun h => F.out.2.2.1 (lst_old (by decide) h), fun h => F.out.2.2.2.1 (lst_old (by decide) h), fun h => F.out.2.2.2.2.1 (lst_old (by decide) h), fun h => F.out.2.2.2.2.2.1 (lst_old (by decide) h), fun h => ⟨(F.out.2.2.2.2.2.2.1 (lst_old (by decide) h)).1, lst_keep (F.out.2.2.2.2.2.2.1 (lst_old (by decide) h)).2⟩, fun h => F.out.2.2.2.2.2.2.2.1 (lst_old (by decide) h), fun h => F.out.2.2.2.2.2.2.2.2.1 (lst_old (by decide) h), fun h => F.out.2.2.2.2.2.2.2.2.2.1 (lst_old (by decide) h), fun h => F.out.2.2.2.2.2.2.2.2.2.2.1 (lst_old (by decide) h), fun _ => rfl, fun h => F.out.2.2.2.2.2.2.2.2.2.2.2.2.1 (lst_old (by decide) h), fun h => F.out.2.2.2.2.2.2.2.2.2.2.2.2.2.1 (lst_old (by decide) h), fun h => F.out.2.2.2.2.2.2.2.2.2.2.2.2.2.2.1 (lst_old (by decide) h), fun h => F.out.2.2.2.2.2.2.2.2.2.2.2.2.2.2.2.1 (lst_old (by decide) h), fun h => F.out.2.2.2.2.2.2.2.2.2.2.2.2.2.2.2.2.1 (lst_old (by decide) h), fun h => F.out.2.2.2.2.2.2.2.2.2.2.2.2.2.2.2.2.2.1 (lst_old (by decide) h), fun h => F.out.2.2.2.2.2.2.2.2.2.2.2.2.2.2.2.2.2.2.1 (lst_old (by decide) h), fun h => ⟨(F.out.2.2.2.2.2.2.2.2.2.2.2.2.2.2.2.2.2.2.2.1 (lst_old (by decide) h)).1, lst_keep (F.out.2.2.2.2.2.2.2.2.2.2.2.2.2.2.2.2.2.2.2.1 (lst_old (by decide) h)).2⟩, fun h => ⟨(F.out.2.2.2.2.2.2.2.2.2.2.2.2.2.2.2.2.2.2.2.2.1 (lst_old (by decide) h)).1, lst_keep (F.out.2.2.2.2.2.2.2.2.2.2.2.2.2.2.2.2.2.2.2.2.1 (lst_old (by decide) h)).2⟩, fun h => F.out.2.2.2.2.2.2.2.2.2.2.2.2.2.2.2.2.2.2.2.2.2 (lst_old (by decide) h)⟩
    · clear him
      have p11 := F.out.2.2.2.2.2.2.2.2.2.2.2.1 (ready_needs hi (by kernel_rfl))
      subst p11
      have hxx := Bx.upto hx hb (by omega)
      obtain ⟨b0, b1, b2, b3⟩ := hxx
      have ck := bcell hbw HCK.out
      have HI := Lib.hid hi
      clear hi
      refine wpOp_step (o := _) rfl (fun K' hK => ?_)
      have HK := Lib.hid hK
      clear hK
      go_simp
      exact HK.out _ _ ⟨_, _, _, _, _, _, _, _, _, _, _, _, _, _, _, _, _, _, _, _, _, rfl, hb, hz, Z0.out, Z1.out, fun h => F.out.1 (lst_old (by decide) h), fun h => F.out.2.1 (lst_old (by decide) h), fun h => F.out.2.2.1 (lst_old (by decide) h), fun h => F.out.2.2.2.1 (lst_old (by decide) h), fun h => F.out.2.2.2.2.1 (lst_old (by decide) h), fun h => F.out.2.2.2.2.2.1 (lst_old (by decide) h), fun h => ⟨(F.out.2.2.2.2.2.2.1 (lst_old (by decide) h)).1, lst_keep (F.out.2.2.2.2.2.2.1 (lst_old (by decide) h)).2⟩, fun h => F.out.2.2.2.2.2.2.2.1 (lst_old (by decide) h), fun h => F.out.2.2.2.2.2.2.2.2.1 (lst_old (by decide) h), fun h => F.out.2.2.2.2.2.2.2.2.2.1 (lst_old (by decide) h), fun h => F.out.2.2.2.2.2.2.2.2.2.2.1 (lst_old (by decide) h), fun h => F.out.2.2.2.2.2.2.2.2.2.2.2.1 (lst_old (by decide) h), fun _ => rfl, fun h => F.out.2.2.2.2.2.2.2.2.2.2.2.2.2.1 (lst_old (by decide) h), fun h => F.out.2.2.2.2.2.2.2.2.2.2.2.2.2.2.1 (lst_old (by decide) h), fun h => F.out.2.2.2.2.2.2.2.2.2.2.2.2.2.2.2.1 (lst_old (by decide) h), fun h => F.out.2.2.2.2.2.2.2.2.2.2.2.2.2.2.2.2.1 (lst_old (by decide) h), fun h => F.out.2.2.2.2.2.2.2.2.2.2.2.2.2.2.2.2.2.1 (lst_old (by decide) h), fun h => F.out.2.2.2.2.2.2.2.2.2.2.2.2.2.2.2.2.2.2.1 (lst_old (by decide) h), fun h => ⟨(F.out.2.2.2.2.2.2.2.2.2.2.2.2.2.2.2.2.2.2.2.1 (lst_old (by decide) h)).1, lst_keep (F.out.2.2.2.2.2.2.2.2.2.2.2.2.2.2.2.2.2.2.2.1 (lst_old (by decide) h)).2⟩, fun h => ⟨(F.out.2.2.2.2.2.2.2.2.2.2.2.2.2.2.2.2.2.2.2.2.1 (lst_old (by decide) h)).1, lst_keep (F.out.2.2.2.2.2.2.2.2.2.2.2.2.2.2.2.2.2.2.2.2.1 (lst_old (by decide) h)).2⟩, fun h => F.out.2.2.2.2.2.2.2.2.2.2.2.2.2.2.2.2.2.2.2.2.2 (lst_old (by decide) h)⟩
    · clear him
      have HI := Lib.hid hi
      clear hi
      refine wpOp_step (o := _) rfl (fun K' hK => ?_)
      have HK := Lib.hid hK
      clear hK
      go_simp
      exact HK.out _ _ ⟨_, _, _, _, _, _, _, _, _, _, _, _, _, _, _, _, _, _, _, _, _, rfl, hb, hz, Z0.out, Z1.out, fun h => F.out.1 (lst_old (by decide) h), fun h => F.out.2.1 (lst_old (by decide) h), fun h => F.out.2.2.1 (lst_old (by decide) h), fun h => F.out.2.2.2.1 (lst_old (by decide) h), fun h => F.out.2.2.2.2.1 (lst_old (by decide) h), fun h => F.out.2.2.2.2.2.1 (lst_old (by decide) h), fun h => ⟨(F.out.2.2.2.2.2.2.1 (lst_old (by decide) h)).1, lst_keep (F.out.2.2.2.2.2.2.1 (lst_old (by decide) h)).2⟩, fun h => F.out.2.2.2.2.2.2.2.1 (lst_old (by decide) h), fun h => F.out.2.2.2.2.2.2.2.2.1 (lst_old (by decide) h), fun h => F.out.2.2.2.2.2.2.2.2.2.1 (lst_old (by decide) h), fun h => F.out.2.2.2.2.2.2.2.2.2.2.1 (lst_old (by decide) h), fun h => F.out.2.2.2.2.2.2.2.2.2.2.2.1 (lst_old (by decide) h), fun h => F.out.2.2.2.2.2.2.2.2.2.2.2.2.1 (lst_old (by decide) h), fun _ => rfl, fun h => F.out.2.2.2.2.2.2.2.2.2.2.2.2.2.2.1 (lst_old (by decide) h), fun h => F.out.2.2.2.2.2.2.2.2.2.2.2.2.2.2.2.1 (lst_old (by decide) h), fun h => F.out.2.2.2.2.2.2.2.2.2.2.2.2.2.2.2.2.1 (lst_old (by decide) h), fun h => F.out.2.2.2.2.2.2.2.2.2.2.2.2.2.2.2.2.2.1 (lst_old (by decide) h), fun h => F.out.2.2.2.2.2.2.2.2.2.2.2.2.2.2.2.2.2.2.1 (lst_old (by decide) h), fun h => ⟨(F.out.2.2.2.2.2.2.2.2.2.2.2.2.2.2.2.2.2.2.2.1 (lst_old (by decide) h)).1, lst_keep (F.out.2.2.2.2.2.2.2.2.2.2.2.2.2.2.2.2.2.2.2.1 (lst_old (by decide) h)).2⟩, fun h => ⟨(F.out.2.2.2.2.2.2.2.2.2.2.2.2.2.2.2.2.2.2.2.2.1 (lst_old (by decide) h)).1, lst_keep (F.out.2.2.2.2.2.2.2.2.2.2.2.2.2.2.2.2.2.2.2.2.1 (lst_old (by decide) h)).2⟩, fun h => F.out.2.2.2.2.2.2.2.2.2.2.2.2.2.2.2.2.2.2.2.2.2 (lst_old (by decide) h)⟩
    · clear him
      have p13 := F.out.2.2.2.2.2.2.2.2.2.2.2.2.2.1 (ready_needs hi (by kernel_rfl))
      subst p13
      have hxx := Bx.upto hx hb (by omega)
      obtain ⟨b0, b1, b2, b3⟩ := hxx
      have HI := Lib.hid hi
      clear hi
      refine wpOp_step (o := _) rfl (fun K' hK => ?_)
      have HK := Lib.hid hK
      clear hK
      go_simp
      exact HK.out _ _ ⟨_, _, _, _, _, _, _, _, _, _, _, _, _, _, _, _, _, _, _, _, _, rfl, hb, hz, Z0.out, Z1.out, fun h => F.out.1 (lst_old (by decide) h), fun h => F.out.2.1 (lst_old (by decide) h), fun h => F.out.2.2.1 (lst_old (by decide) h), fun h => F.out.2.2.2.1 (lst_old (by decide) h), fun h => F.out.2.2.2.2.1 (lst_old (by decide) h), fun h => F.out.2.2.2.2.2.1 (lst_old (by decide) h), fun h => ⟨(F.out.2.2.2.2.2.2.1 (lst_old (by decide) h)).1, lst_keep (F.out.2.2.2.2.2.2.1 (lst_old (by decide) h)).2⟩, fun h => F.out.2.2.2.2.2.2.2.1 (lst_old (by decide) h), fun h => F.out.2.2.2.2.2.2.2.2.1 (lst_old (by decide) h), fun h => F.out.2.2.2.2.2.2.2.2.2.1 (lst_old (by decide) h), fun h => F.out.2.2.2.2.2.2.2.2.2.2.1 (lst_old (by decide) h), fun h => F.out.2.2.2.2.2.2.2.2.2.2.2.1 (lst_old (by decide) h), fun h => F.out.2.2.2.2.2.2.2.2.2.2.2.2.1 (lst_old (by decide) h), fun h => F.out.2.2.2.2.2.2.2.2.2.2.2.2.2.1 (lst_old (by decide) h), fun _ => rfl, fun h => F.out.2.2.2.2.2.2.2.2.2.2.2.2.2.2.2.1 (lst_old (by decide) h), fun h => F.out.2.2.2.2.2.2.2.2.2.2.2.2.2.2.2.2.1 (lst_old (by decide) h), fun h => F.out.2.2.2.2.2.2.2.2.2.2.2.2.2.2.2.2.2.1 (lst_old (by decide) h), fun h => F.out.2.2.2.2.2.2.2.2.2.2.2.2.2.2.2.2.2.2.1 (lst_old (by decide) h), fun h => ⟨(F.out.2.2.2.2.2.2.2.2.2.2.2.2.2.2.2.2.2.2.2.1 (lst_old (by decide) h)).1, lst_keep (F.out.2.2.2.2.2.2.2.2.2.2.2.2.2.2.2.2.2.2.2.1 (lst_old (by decide) h)).2⟩, fun h => ⟨(F.out.2.2.2.2.2.2.2.2.2.2.2.2.2.2.2.2.2.2.2.2.1 (lst_old (by decide) h)).1, lst_keep (F.out.2.2.2.2.2.2.2.2.2.2.2.2.2.2.2.2.2.2.2.2.1 (lst_old (by decide) h)).2⟩, fun h => F.out.2.2.2.2.2.2.2.2.2.2.2.2.2.2.2.2.2.2.2.2.2 (lst_old (by decide) h)⟩
    · clear him
      have HI := Lib.hid hi
      clear hi
      refine wpOp_step (o := _) rfl (fun K' hK => ?_)
      have HK := Lib.hid hK
      clear hK
      go_simp
      exact HK.out _ _ ⟨_, _, _, _, _, _, _, _, _, _, _, _, _, _, _, _, _, _, _, _, _, rfl, hb, hz, Z0.out, Z1.out, fun h => F.out.1 (lst_old (by decide) h), fun h => F.out.2.1 (lst_old (by decide) h), fun h => F.out.2.2.1 (lst_old (by decide) h), fun h => F.out.2.2.2.1 (lst_old (by decide) h), fun h => F.out.2.2.2.2.1 (lst_old (by decide) h), fun h => F.out.2.2.2.2.2.1 (lst_old (by decide) h), fun h => ⟨(F.out.2.2.2.2.2.2.1 (lst_old (by decide) h)).1, lst_keep (F.out.2.2.2.2.2.2.1 (lst_old (by decide) h)).2⟩, fun h => F.out.2.2.2.2.2.2.2.1 (lst_old (by decide) h), fun h => F.out.2.2.2.2.2.2.2.2.1 (lst_old (by decide) h), fun h => F.out.2.2.2.2.2.2.2.2.2.1 (lst_old (by decide) h), fun h => F.out.2.2.2.2.2.2.2.2.2.2.1 (lst_old (by decide) h), fun h => F.out.2.2.2.2.2.2.2.2.2.2.2.1 (lst_old (by decide) h), fun h => F.out.2.2.2.2.2.2.2.2.2.2.2.2.1 (lst_old (by decide) h), fun h => F.out.2.2.2.2.2.2.2.2.2.2.2.2.2.1 (lst_old (by decide) h), fun h => F.out.2.2.2.2.2.2.2.2.2.2.2.2.2.2.1 (lst_old (by decide) h), fun _ => rfl, fun h => F.out.2.2.2.2.2.2.2.2.2.2.2.2.2.2.2.2.1 (lst_old (by decide) h), fun h => F.out.2.2.2.2.2.2.2.2.2.2.2.2.2.2.2.2.2.1 (lst_old (by decide) h), fun h => F.out.2.2.2.2.2.2.2.2.2.2.2.2.2.2.2.2.2.2.1 (lst_old (by decide) h), fun h => ⟨(F.out.2.2.2.2.2.2.2.2.2.2.2.2.2.2.2.2.2.2.2.1 (lst_old (by decide) h)).1, lst_keep (F.out.2.2.2.2.2.2.2.2.2.2.2.2.2.2.2.2.2.2.2.1 (lst_old (by decide) h)).2⟩, fun h => ⟨(F.out.2.2.2.2.2.2.2.2.2.2.2.2.2.2.2.2.2.2.2.2.1 (lst_old (by decide) h)).1, lst_keep (F.out.2.2.2.2.2.2.2.2.2.2.2.2.2.2.2.2.2.2.2.2.1 (lst_old (by decide) h)).2⟩, fun h => F.out.2.2.2.2.2.2.2.2.2.2.2.2.2.2.2.2.2.2.2.2.2 (lst_old (by decide) h)⟩
    · clear him
      have p14 := F.out.2.2.2.2.2.2.2.2.2.2.2.2.2.2.1 (ready_needs hi (by kernel_rfl))
      have p15 := F.out.2.2.2.2.2.2.2.2.2.2.2.2.2.2.2.1 (ready_needs hi (by kernel_rfl))
      subst p14
      subst p15
      have HI := Lib.hid hi
      clear hi
      refine wpOp_step (o := _) rfl (fun K' hK => ?_)
      have HK := Lib.hid hK
      clear hK
      go_simp
      exact HK.out _ _ ⟨_, _, _, _, _, _, _, _, _, _, _, _, _, _, _, _, _, _, _, _, _, rfl, hb, hz, Z0.out, Z1.out, fun h => F.out.1 (lst_old (by decide) h), fun h => F.out.2.1 (lst_old (by decide) h), fun h => F.out.2.2.1 (lst_old (by decide) h), fun h => F.out.2.2.2.1 (lst_old (by decide) h), fun h => F.out.2.2.2.2.1 (lst_old (by decide) h), fun h => F.out.2.2.2.2.2.1 (lst_old (by decide) h), fun h => ⟨(F.out.2.2.2.2.2.2.1 (lst_old (by decide) h)).1, lst_keep (F.out.2.2.2.2.2.2.1 (lst_old (by decide) h)).2⟩, fun h => F.out.2.2.2.2.2.2.2.1 (lst_old (by decide) h), fun h => F.out.2.2.2.2.2.2.2.2.1 (lst_old (by decide) h), fun h => F.out.2.2.2.2.2.2.2.2.2.1 (lst_old (by decide) h), fun h => F.out.2.2.2.2.2.2.2.2.2.2.1 (lst_old (by decide) h), fun h => F.out.2.2.2.2.2.2.2.2.2.2.2.1 (lst_old (by decide) h), fun h => F.out.2.2.2.2.2.2.2.2.2.2.2.2.1 (lst_old (by decide) h), fun h => F.out.2.2.2.2.2.2.2.2.2.2.2.2.2.1 (lst_old (by decide) h), fun h => F.out.2.2.2.2.2.2.2.2.2.2.2.2.2.2.1 (lst_old (by decide) h), fun h => F.out.2.2.2.2.2.2.2.2.2.2.2.2.2.2.2.1 (lst_old (by decide) h), fun _ => rfl, fun h => F.out.2.2.2.2.2.2.2.2.2.2.2.2.2.2.2.2.2.1 (lst_old (by decide) h), fun h => F.out.2.2.2.2.2.2.2.2.2.2.2.2.2.2.2.2.2.2.1 (lst_old (by decide) h), fun h => ⟨(F.out.2.2.2.2.2.2.2.2.2.2.2.2.2.2.2.2.2.2.2.1 (lst_old (by decide) h)).1, lst_keep (F.out.2.2.2.2.2.2.2.2.2.2.2.2.2.2.2.2.2.2.2.1 (lst_old (by decide) h)).2⟩, fun h => ⟨(F.out.2.2.2.2.2.2.2.2.2.2.2.2.2.2.2.2.2.2.2.2.1 (lst_old (by decide) h)).1, lst_keep (F.out.2.2.2.2.2.2.2.2.2.2.2.2.2.2.2.2.2.2.2.2.1 (lst_old (by decide) h)).2⟩, fun h => F.out.2.2.2.2.2.2.2.2.2.2.2.2.2.2.2.2.2.2.2.2.2 (lst_old (by decide) h)⟩
    · clear him
      have p16 := F.out.2.2.2.2.2.2.2.2.2.2.2.2.2.2.2.2.1 (ready_needs hi (by kernel_rfl))
      subst p16
      have HI := Lib.hid hi
      clear hi
      refine wpOp_step (o := _) rfl (fun K' hK => ?_)
      have HK := Lib.hid hK
      clear hK
      go_simp
      exact HK.out _ _ ⟨_, _, _, _, _, _, _, _, _, _, _, _, _, _, _, _, _, _, _, _, _, rfl, (hb.alloc hgw _), (Nat.le_trans hz ((Below.refl _ W).alloc (Nat.le_refl _) _).size), Zb.below (Z0.out) ((Below.refl _ W).alloc (Nat.le_refl _) _), Zb.below (Z1.out) ((Below.refl _ W).alloc (Nat.le_refl _) _), fun h => F.out.1 (lst_old (by decide) h), fun h => F.out.2.1 (lst_old (by decide) h), fun h => F.out.2.2.1 (lst_old (by decide) h), fun h => F.out.2.2.2.1 (lst_old (by decide) h), fun h => Clb.below (F.out.2.2.2.2.1 (lst_old (by decide) h)) ((Below.refl _ W).alloc (Nat.le_refl _) _), fun h => own_below (F.out.2.2.2.2.2.1 (lst_old (by decide) h)) ((Below.refl _ W).alloc (Nat.le_refl _) _), fun h => ⟨(F.out.2.2.2.2.2.2.1 (lst_old (by decide) h)).1, lst_keep (F.out.2.2.2.2.2.2.1 (lst_old (by decide) h)).2⟩, fun h => F.out.2.2.2.2.2.2.2.1 (lst_old (by decide) h), fun h => F.out.2.2.2.2.2.2.2.2.1 (lst_old (by decide) h), fun h => F.out.2.2.2.2.2.2.2.2.2.1 (lst_old (by decide) h), fun h => F.out.2.2.2.2.2.2.2.2.2.2.1 (lst_old (by decide) h), fun h => F.out.2.2.2.2.2.2.2.2.2.2.2.1 (lst_old (by decide) h), fun h => F.out.2.2.2.2.2.2.2.2.2.2.2.2.1 (lst_old (by decide) h), fun h => F.out.2.2.2.2.2.2.2.2.2.2.2.2.2.1 (lst_old (by decide) h), fun h => F.out.2.2.2.2.2.2.2.2.2.2.2.2.2.2.1 (lst_old (by decide) h), fun h => F.out.2.2.2.2.2.2.2.2.2.2.2.2.2.2.2.1 (lst_old (by decide) h), fun h => F.out.2.2.2.2.2.2.2.2.2.2.2.2.2.2.2.2.1 (lst_old (by decide) h), fun _ => Clb.new W _ 43 1 rfl _ hz, fun h => own_below (F.out.2.2.2.2.2.2.2.2.2.2.2.2.2.2.2.2.2.2.1 (lst_old (by decide) h)) ((Below.refl _ W).alloc (Nat.le_refl _) _), fun h => ⟨(F.out.2.2.2.2.2.2.2.2.2.2.2.2.2.2.2.2.2.2.2.1 (lst_old (by decide) h)).1, lst_keep (F.out.2.2.2.2.2.2.2.2.2.2.2.2.2.2.2.2.2.2.2.1 (lst_old (by decide) h)).2⟩, fun h => ⟨blk_below ((F.out.2.2.2.2.2.2.2.2.2.2.2.2.2.2.2.2.2.2.2.2.1 (lst_old (by decide) h)).1) ((Below.refl _ W).alloc (Nat.le_refl _) _), lst_keep (F.out.2.2.2.2.2.2.2.2.2.2.2.2.2.2.2.2.2.2.2.2.1 (lst_old (by decide) h)).2⟩, fun h => F.out.2.2.2.2.2.2.2.2.2.2.2.2.2.2.2.2.2.2.2.2.2 (lst_old (by decide) h)⟩
    · clear him
      have p17 := F.out.2.2.2.2.2.2.2.2.2.2.2.2.2.2.2.2.2.1 (ready_needs hi (by kernel_rfl))
      have P17 := Lib.hid p17.cl
      clear p17
      have HI := Lib.hid hi
      clear hi
      refine wpOp_step (o := _) rfl (fun K' hK => ?_)
      have HK := Lib.hid hK
      clear hK
      go_simp
      refine (gl1_e P17.out (HHI.out.below hbw) (by rw [HKB.out]; omega)).mono ?_
      rintro r W2 ⟨x, rfl, hown, hb2⟩
      exact HK.out _ _ ⟨_, _, _, _, _, _, _, _, _, _, _, _, _, _, _, _, _, _, _, _, _, rfl, (hb.trans (hb2.mono hgw)), (Nat.le_trans hz hb2.size), Zb.below (Z0.out) hb2, Zb.below (Z1.out) hb2, fun h => F.out.1 (lst_old (by decide) h), fun h => F.out.2.1 (lst_old (by decide) h), fun h => F.out.2.2.1 (lst_old (by decide) h), fun h => F.out.2.2.2.1 (lst_old (by decide) h), fun h => Clb.below (F.out.2.2.2.2.1 (lst_old (by decide) h)) hb2, fun h => own_below (F.out.2.2.2.2.2.1 (lst_old (by decide) h)) hb2, fun h => ⟨(F.out.2.2.2.2.2.2.1 (lst_old (by decide) h)).1, lst_keep (F.out.2.2.2.2.2.2.1 (lst_old (by decide) h)).2⟩, fun h => F.out.2.2.2.2.2.2.2.1 (lst_old (by decide) h), fun h => F.out.2.2.2.2.2.2.2.2.1 (lst_old (by decide) h), fun h => F.out.2.2.2.2.2.2.2.2.2.1 (lst_old (by decide) h), fun h => F.out.2.2.2.2.2.2.2.2.2.2.1 (lst_old (by decide) h), fun h => F.out.2.2.2.2.2.2.2.2.2.2.2.1 (lst_old (by decide) h), fun h => F.out.2.2.2.2.2.2.2.2.2.2.2.2.1 (lst_old (by decide) h), fun h => F.out.2.2.2.2.2.2.2.2.2.2.2.2.2.1 (lst_old (by decide) h), fun h => F.out.2.2.2.2.2.2.2.2.2.2.2.2.2.2.1 (lst_old (by decide) h), fun h => F.out.2.2.2.2.2.2.2.2.2.2.2.2.2.2.2.1 (lst_old (by decide) h), fun h => F.out.2.2.2.2.2.2.2.2.2.2.2.2.2.2.2.2.1 (lst_old (by decide) h), fun h => Clb.below (F.out.2.2.2.2.2.2.2.2.2.2.2.2.2.2.2.2.2.1 (lst_old (by decide) h)) hb2, fun _ => own_mono (HKB.out ▸ hown) hz, fun h => absurd (F.out.2.2.2.2.2.2.2.2.2.2.2.2.2.2.2.2.2.2.2.1 (lst_old (by decide) h)).2 (ready_not HI.out), fun h => ⟨blk_below ((F.out.2.2.2.2.2.2.2.2.2.2.2.2.2.2.2.2.2.2.2.2.1 (lst_old (by decide) h)).1) hb2, lst_keep (F.out.2.2.2.2.2.2.2.2.2.2.2.2.2.2.2.2.2.2.2.2.1 (lst_old (by decide) h)).2⟩, fun h => F.out.2.2.2.2.2.2.2.2.2.2.2.2.2.2.2.2.2.2.2.2.2 (lst_old (by decide) h)⟩
    · clear him
      have p18 := F.out.2.2.2.2.2.2.2.2.2.2.2.2.2.2.2.2.2.2.1 (ready_needs hi (by kernel_rfl))
      obtain ⟨a18, c18, h18⟩ := own_slice p18
      subst h18
      have P18 := Lib.hid p18
      clear p18
      have HI := Lib.hid hi
      clear hi
      refine wpOp_step (o := _) rfl (fun K' hK => ?_)
      have HK := Lib.hid hK
      clear hK
      go_simp
      exact HK.out _ _ ⟨_, _, _, _, _, _, _, _, _, _, _, _, _, _, _, _, _, _, _, _, _, rfl, hb, hz, Z0.out, Z1.out, fun h => F.out.1 (lst_old (by decide) h), fun h => F.out.2.1 (lst_old (by decide) h), fun h => F.out.2.2.1 (lst_old (by decide) h), fun h => F.out.2.2.2.1 (lst_old (by decide) h), fun h => F.out.2.2.2.2.1 (lst_old (by decide) h), fun h => F.out.2.2.2.2.2.1 (lst_old (by decide) h), fun h => ⟨(F.out.2.2.2.2.2.2.1 (lst_old (by decide) h)).1, lst_keep (F.out.2.2.2.2.2.2.1 (lst_old (by decide) h)).2⟩, fun h => F.out.2.2.2.2.2.2.2.1 (lst_old (by decide) h), fun h => F.out.2.2.2.2.2.2.2.2.1 (lst_old (by decide) h), fun h => F.out.2.2.2.2.2.2.2.2.2.1 (lst_old (by decide) h), fun h => F.out.2.2.2.2.2.2.2.2.2.2.1 (lst_old (by decide) h), fun h => F.out.2.2.2.2.2.2.2.2.2.2.2.1 (lst_old (by decide) h), fun h => F.out.2.2.2.2.2.2.2.2.2.2.2.2.1 (lst_old (by decide) h), fun h => F.out.2.2.2.2.2.2.2.2.2.2.2.2.2.1 (lst_old (by decide) h), fun h => F.out.2.2.2.2.2.2.2.2.2.2.2.2.2.2.1 (lst_old (by decide) h), fun h => F.out.2.2.2.2.2.2.2.2.2.2.2.2.2.2.2.1 (lst_old (by decide) h), fun h => F.out.2.2.2.2.2.2.2.2.2.2.2.2.2.2.2.2.1 (lst_old (by decide) h), fun h => F.out.2.2.2.2.2.2.2.2.2.2.2.2.2.2.2.2.2.1 (lst_old (by decide) h), fun h => F.out.2.2.2.2.2.2.2.2.2.2.2.2.2.2.2.2.2.2.1 (lst_old (by decide) h), fun _ => ⟨rfl, lst_keep (ready_needs HI.out (by kernel_rfl))⟩, fun h => ⟨(F.out.2.2.2.2.2.2.2.2.2.2.2.2.2.2.2.2.2.2.2.2.1 (lst_old (by decide) h)).1, lst_keep (F.out.2.2.2.2.2.2.2.2.2.2.2.2.2.2.2.2.2.2.2.2.1 (lst_old (by decide) h)).2⟩, fun h => F.out.2.2.2.2.2.2.2.2.2.2.2.2.2.2.2.2.2.2.2.2.2 (lst_old (by decide) h)⟩
    · clear him
      have p5 := F.out.2.2.2.2.2.1 (ready_needs hi (by kernel_rfl))
      have p6 := F.out.2.2.2.2.2.2.1 (ready_needs hi (by kernel_rfl))
      obtain ⟨a5, c5, h5⟩ := own_slice p5
      subst h5
      have P5 := Lib.hid p5
      clear p5
      replace p6 := p6.1
      subst p6
      obtain ⟨z0a, z0b, z0c, z0d, hz0⟩ := Z0.out
      have c00 : World.cell? (W) ⟨(w.heap.size + 1), 0, none⟩ = some z0a := by rw [blk_cell hz0]; rfl
      have f00 := blk_free hz0 0
      have hz00 := blk_set hz0 0 (.bool true)
      have c01 : World.cell? (World.setCell (W) ⟨(w.heap.size + 1), 0, none⟩ (.bool true)) ⟨(w.heap.size + 1), 1, none⟩ = some z0b := by rw [blk_cell hz00]; rfl
      have f01 := blk_free hz00 1
      have hz01 := blk_set hz00 1 (.slice a5 ka c5)
      have c02 : World.cell? (World.setCell (World.setCell (W) ⟨(w.heap.size + 1), 0, none⟩ (.bool true)) ⟨(w.heap.size + 1), 1, none⟩ (.slice a5 ka c5)) ⟨(w.heap.size + 1), 2, none⟩ = some z0c := by rw [blk_cell hz01]; rfl
      have f02 := blk_free hz01 2
      have hz02 := blk_set hz01 2 (.slice none 0 0)
      have c03 : World.cell? (World.setCell (World.setCell (World.setCell (W) ⟨(w.heap.size + 1), 0, none⟩ (.bool true)) ⟨(w.heap.size + 1), 1, none⟩ (.slice a5 ka c5)) ⟨(w.heap.size + 1), 2, none⟩ (.slice none 0 0)) ⟨(w.heap.size + 1), 3, none⟩ = some z0d := by rw [blk_cell hz02]; rfl
      have f03 := blk_free hz02 3
      have hz03 := blk_set hz02 3 (.slice none 0 0)
      have HZ0 := Lib.hid hz03
      clear hz0 hz00 hz01 hz02 hz03
      have HI := Lib.hid hi
      clear hi
      refine wpOp_step (o := _) rfl (fun K' hK => ?_)
      have HK := Lib.hid hK
      clear hK
      go_simp
      have hon : Only ((w.heap.size + 1)) W (World.setCell (World.setCell (World.setCell (World.setCell (W) ⟨(w.heap.size + 1), 0, none⟩ (.bool true)) ⟨(w.heap.size + 1), 1, none⟩ (.slice a5 ka c5)) ⟨(w.heap.size + 1), 2, none⟩ (.slice none 0 0)) ⟨(w.heap.size + 1), 3, none⟩ (.slice none 0 0)) := (((Only.set _ _ _).trans (Only.set _ _ _)).trans (Only.set _ _ _)).trans (Only.set _ _ _)
      have hlt : (w.heap.size + 1) < w1.heap.size := by have := HZ1.out; omega
      obtain ⟨W4, hW4⟩ : ∃ X, World.setCell (World.setCell (World.setCell (World.setCell (W) ⟨(w.heap.size + 1), 0, none⟩ (.bool true)) ⟨(w.heap.size + 1), 1, none⟩ (.slice a5 ka c5)) ⟨(w.heap.size + 1), 2, none⟩ (.slice none 0 0)) ⟨(w.heap.size + 1), 3, none⟩ (.slice none 0 0) = X := ⟨_, rfl⟩
      rw [hW4] at HZ0 hon ⊢
      clear hW4
      exact HK.out _ _ ⟨_, _, _, _, _, _, _, _, _, _, _, _, _, _, _, _, _, _, _, _, _, rfl, (hb.trans (hon.to_below (by omega) hgw)), (Nat.le_trans hz hon.size), ⟨_, _, _, _, HZ0.out⟩, Zb.only Z1.out hon (by omega), fun h => F.out.1 (lst_old (by decide) h), fun h => F.out.2.1 (lst_old (by decide) h), fun h => F.out.2.2.1 (lst_old (by decide) h), fun h => F.out.2.2.2.1 (lst_old (by decide) h), fun h => Clb.only (F.out.2.2.2.2.1 (lst_old (by decide) h)) hon hlt, fun h => own_only' (F.out.2.2.2.2.2.1 (lst_old (by decide) h)) hon hlt, fun h => ⟨(F.out.2.2.2.2.2.2.1 (lst_old (by decide) h)).1, lst_keep (F.out.2.2.2.2.2.2.1 (lst_old (by decide) h)).2⟩, fun h => F.out.2.2.2.2.2.2.2.1 (lst_old (by decide) h), fun h => F.out.2.2.2.2.2.2.2.2.1 (lst_old (by decide) h), fun h => F.out.2.2.2.2.2.2.2.2.2.1 (lst_old (by decide) h), fun h => F.out.2.2.2.2.2.2.2.2.2.2.1 (lst_old (by decide) h), fun h => F.out.2.2.2.2.2.2.2.2.2.2.2.1 (lst_old (by decide) h), fun h => F.out.2.2.2.2.2.2.2.2.2.2.2.2.1 (lst_old (by decide) h), fun h => F.out.2.2.2.2.2.2.2.2.2.2.2.2.2.1 (lst_old (by decide) h), fun h => F.out.2.2.2.2.2.2.2.2.2.2.2.2.2.2.1 (lst_old (by decide) h), fun h => F.out.2.2.2.2.2.2.2.2.2.2.2.2.2.2.2.1 (lst_old (by decide) h), fun h => F.out.2.2.2.2.2.2.2.2.2.2.2.2.2.2.2.2.1 (lst_old (by decide) h), fun h => Clb.only (F.out.2.2.2.2.2.2.2.2.2.2.2.2.2.2.2.2.2.1 (lst_old (by decide) h)) hon hlt, fun h => own_only' (F.out.2.2.2.2.2.2.2.2.2.2.2.2.2.2.2.2.2.2.1 (lst_old (by decide) h)) hon hlt, fun h => ⟨(F.out.2.2.2.2.2.2.2.2.2.2.2.2.2.2.2.2.2.2.2.1 (lst_old (by decide) h)).1, lst_keep (F.out.2.2.2.2.2.2.2.2.2.2.2.2.2.2.2.2.2.2.2.1 (lst_old (by decide) h)).2⟩, fun _ => ⟨HZ0.out, lst_keep (ready_needs HI.out (by kernel_rfl))⟩, fun h => F.out.2.2.2.2.2.2.2.2.2.2.2.2.2.2.2.2.2.2.2.2.2 (lst_old (by decide) h)⟩
    · clear him
      have p12 := F.out.2.2.2.2.2.2.2.2.2.2.2.2.1 (ready_needs hi (by kernel_rfl))
      subst p12
      have HI := Lib.hid hi
      clear hi
      refine wpOp_step (o := _) rfl (fun K' hK => ?_)
      have HK := Lib.hid hK
      clear hK
      go_simp
      exact HK.out _ _ ⟨_, _, _, _, _, _, _, _, _, _, _, _, _, _, _, _, _, _, _, _, _, rfl, hb, hz, Z0.out, Z1.out, fun h => F.out.1 (lst_old (by decide) h), fun h => F.out.2.1 (lst_old (by decide) h), fun h => F.out.2.2.1 (lst_old (by decide) h), fun h => F.out.2.2.2.1 (lst_old (by decide) h), fun h => F.out.2.2.2.2.1 (lst_old (by decide) h), fun h => F.out.2.2.2.2.2.1 (lst_old (by decide) h), fun h => ⟨(F.out.2.2.2.2.2.2.1 (lst_old (by decide) h)).1, lst_keep (F.out.2.2.2.2.2.2.1 (lst_old (by decide) h)).2⟩, fun h => F.out.2.2.2.2.2.2.2.1 (lst_old (by decide) h), fun h => F.out.2.2.2.2.2.2.2.2.1 (lst_old (by decide) h), fun h => F.out.2.2.2.2.2.2.2.2.2.1 (lst_old (by decide) h), fun h => F.out.2.2.2.2.2.2.2.2.2.2.1 (lst_old (by decide) h), fun h => F.out.2.2.2.2.2.2.2.2.2.2.2.1 (lst_old (by decide) h), fun h => F.out.2.2.2.2.2.2.2.2.2.2.2.2.1 (lst_old (by decide) h), fun h => F.out.2.2.2.2.2.2.2.2.2.2.2.2.2.1 (lst_old (by decide) h), fun h => F.out.2.2.2.2.2.2.2.2.2.2.2.2.2.2.1 (lst_old (by decide) h), fun h => F.out.2.2.2.2.2.2.2.2.2.2.2.2.2.2.2.1 (lst_old (by decide) h), fun h => F.out.2.2.2.2.2.2.2.2.2.2.2.2.2.2.2.2.1 (lst_old (by decide) h), fun h => F.out.2.2.2.2.2.2.2.2.2.2.2.2.2.2.2.2.2.1 (lst_old (by decide) h), fun h => F.out.2.2.2.2.2.2.2.2.2.2.2.2.2.2.2.2.2.2.1 (lst_old (by decide) h), fun h => ⟨(F.out.2.2.2.2.2.2.2.2.2.2.2.2.2.2.2.2.2.2.2.1 (lst_old (by decide) h)).1, lst_keep (F.out.2.2.2.2.2.2.2.2.2.2.2.2.2.2.2.2.2.2.2.1 (lst_old (by decide) h)).2⟩, fun h => ⟨(F.out.2.2.2.2.2.2.2.2.2.2.2.2.2.2.2.2.2.2.2.2.1 (lst_old (by decide) h)).1, lst_keep (F.out.2.2.2.2.2.2.2.2.2.2.2.2.2.2.2.2.2.2.2.2.1 (lst_old (by decide) h)).2⟩, fun _ => rfl⟩
  case fin =>
    intro f a W hI
    obtain ⟨v3, v32, v33, v34, v35, v36, v37, v38, v39, v40, v41, v42, v43, v44, v45, v46, v47, v48, v49, v50, v51, rfl, hb, hz, hzb0, hzb1, hf⟩ := hI
    have hgw : w.heap.size + 1 ≤ W.heap.size := by have := HZ1.out; omega
    have p0 := hf.1 rfl
    have p1 := hf.2.1 rfl
    have p2 := hf.2.2.1 rfl
    have p3 := hf.2.2.2.1 rfl
    have p4 := hf.2.2.2.2.1 rfl
    have p5 := hf.2.2.2.2.2.1 rfl
    have p6 := hf.2.2.2.2.2.2.1 rfl
    have p7 := hf.2.2.2.2.2.2.2.1 rfl
    have p8 := hf.2.2.2.2.2.2.2.2.1 rfl
    have p9 := hf.2.2.2.2.2.2.2.2.2.1 rfl
    have p10 := hf.2.2.2.2.2.2.2.2.2.2.1 rfl
    have p11 := hf.2.2.2.2.2.2.2.2.2.2.2.1 rfl
    have p12 := hf.2.2.2.2.2.2.2.2.2.2.2.2.1 rfl
    have p13 := hf.2.2.2.2.2.2.2.2.2.2.2.2.2.1 rfl
    have p14 := hf.2.2.2.2.2.2.2.2.2.2.2.2.2.2.1 rfl
    have p15 := hf.2.2.2.2.2.2.2.2.2.2.2.2.2.2.2.1 rfl
    have p16 := hf.2.2.2.2.2.2.2.2.2.2.2.2.2.2.2.2.1 rfl
    have p17 := hf.2.2.2.2.2.2.2.2.2.2.2.2.2.2.2.2.2.1 rfl
    have p18 := hf.2.2.2.2.2.2.2.2.2.2.2.2.2.2.2.2.2.2.1 rfl
    have p19 := hf.2.2.2.2.2.2.2.2.2.2.2.2.2.2.2.2.2.2.2.1 rfl
    have p20 := hf.2.2.2.2.2.2.2.2.2.2.2.2.2.2.2.2.2.2.2.2.1 rfl
    have p21 := hf.2.2.2.2.2.2.2.2.2.2.2.2.2.2.2.2.2.2.2.2.2 rfl
    clear hf
    subst p0
    subst p1
    subst p2
    subst p3
    clear p4
    obtain ⟨a5, c5, h5⟩ := own_slice p5
    subst h5
    have P5 := Lib.hid p5
    clear p5
    replace p6 := p6.1
    subst p6
    subst p7
    subst p8
    subst p9
    subst p10
    subst p11
    subst p12
    subst p13
    subst p14
    subst p15
    subst p16
    clear p17
    obtain ⟨a18, c18, h18⟩ := own_slice p18
    subst h18
    have P18 := Lib.hid p18
    clear p18
    replace p19 := p19.1
    subst p19
    replace p20 := p20.1
    have P20 := Lib.hid p20
    clear p20
    subst p21
    refine wpAny_all (rs := [22]) (by kernel_rfl) (by simp) ?_
    intro i' hi'
    obtain rfl := List.mem_singleton.1 hi'
    obtain ⟨z0a, z0b, z0c, z0d, hz0⟩ := hzb1
    have c00 : World.cell? (W) ⟨w.heap.size + 1 + 1, 0, none⟩ = some z0a := by rw [blk_cell hz0]; rfl
    have f00 := blk_free hz0 0
    have hz00 := blk_set hz0 0 (.bool true)
    have c01 : World.cell? (World.setCell (W) ⟨w.heap.size + 1 + 1, 0, none⟩ (.bool true)) ⟨w.heap.size + 1 + 1, 1, none⟩ = some z0b := by rw [blk_cell hz00]; rfl
    have f01 := blk_free hz00 1
    have hz01 := blk_set hz00 1 (.slice a18 kb c18)
    have c02 : World.cell? (World.setCell (World.setCell (W) ⟨w.heap.size + 1 + 1, 0, none⟩ (.bool true)) ⟨w.heap.size + 1 + 1, 1, none⟩ (.slice a18 kb c18)) ⟨w.heap.size + 1 + 1, 2, none⟩ = some z0c := by rw [blk_cell hz01]; rfl
    have f02 := blk_free hz01 2
    have hz02 := blk_set hz01 2 (.slice none 0 0)
    have c03 : World.cell? (World.setCell (World.setCell (World.setCell (W) ⟨w.heap.size + 1 + 1, 0, none⟩ (.bool true)) ⟨w.heap.size + 1 + 1, 1, none⟩ (.slice a18 kb c18)) ⟨w.heap.size + 1 + 1, 2, none⟩ (.slice none 0 0)) ⟨w.heap.size + 1 + 1, 3, none⟩ = some z0d := by rw [blk_cell hz02]; rfl
    have f03 := blk_free hz02 3
    have hz03 := blk_set hz02 3 (.slice none 0 0)
    have HZ0 := Lib.hid hz03
    clear hz0 hz00 hz01 hz02 hz03
    refine wpOp_step (o := _) rfl (fun K' hK => ?_)
    have HKK := Lib.hid hK
    clear hK
    go_simp
    refine HKK.out _ _ (wpAny_done (by kernel_rfl) ?_ _)
    have hon : Only (w.heap.size + 1 + 1) W (World.setCell (World.setCell (World.setCell (World.setCell (W) ⟨w.heap.size + 1 + 1, 0, none⟩ (.bool true)) ⟨w.heap.size + 1 + 1, 1, none⟩ (.slice a18 kb c18)) ⟨w.heap.size + 1 + 1, 2, none⟩ (.slice none 0 0)) ⟨w.heap.size + 1 + 1, 3, none⟩ (.slice none 0 0)) := (((Only.set _ _ _).trans (Only.set _ _ _)).trans (Only.set _ _ _)).trans (Only.set _ _ _)
    obtain ⟨W4, hW4⟩ : ∃ X, World.setCell (World.setCell (World.setCell (World.setCell (W) ⟨w.heap.size + 1 + 1, 0, none⟩ (.bool true)) ⟨w.heap.size + 1 + 1, 1, none⟩ (.slice a18 kb c18)) ⟨w.heap.size + 1 + 1, 2, none⟩ (.slice none 0 0)) ⟨w.heap.size + 1 + 1, 3, none⟩ (.slice none 0 0) = X := ⟨_, rfl⟩
    rw [hW4] at HZ0 hon ⊢
    clear hW4
    have hlt : w.heap.size + 1 + 1 < w1.heap.size := by have := HZ1.out; omega
    have hb4 : Below w.heap.size w W4 := (hb1.trans (hb.mono (by omega))).trans (hon.to_below (by omega) (by omega))
    have hz20 := hon.blk P20.out (by omega)
    have O1 := own_mono (own_only' P5.out hon hlt) hb1.size
    have O2 := own_mono (own_only' P18.out hon hlt) hb1.size
    rw [← HKA.out] at O1 hz20
    rw [← HKB.out] at O2 HZ0
    have O1 := Lib.hid O1; have O2 := Lib.hid O2; have HZ20 := Lib.hid hz20
    clear hz20
    go_wp2
    refine bodyPost_ret (res_three rfl rfl rfl rfl (load69 (bx_blk HZ20.out)) (load69 (bx_blk HZ0.out))) rfl ?_
    exact ⟨_, _, rfl, ⟨_, _, _, _, _, _, rfl, O1.out, World.ownsRow_nil _ _ _ _, World.ownsRow_nil _ _ _ _⟩, ⟨_, _, _, _, _, _, rfl, O2.out, World.ownsRow_nil _ _ _ _, World.ownsRow_nil _ _ _ _⟩, hb4⟩
end Go.Proofs.Ytifdglehfhoecaa.N
