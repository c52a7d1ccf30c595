/-
  For the law on what is kept: splitting, joining and swapping told at once; writing into a row; and what lies in which part. Conditions: bounds that every node here keeps.
-/
import Derived.Test.YtifdglehfhoecaaNRJoin
import Derived.Test.YtifdglehfhoecaaNSplitB
import Derived.Test.YtifdglehfhoecaaNChild
import Derived.Test.YtifdglehfhoecaaNSwap
import Derived.Test.YtifdglehfhoecaaEKeep
namespace Go.Proofs.Ytifdglehfhoecaa.N
open Go.RowKit B E
/-- a cut is there -/
theorem half_go (l : List Ent) : ∀ d k, l.length = k + 1 + d → 1 ≤ k → (∀ j, 1 ≤ j → j < k → 2 * M.sz (l.take j) < M.sz l) → ∃ k, M.Half l k
  | 0, k, h, h1, h2 => ⟨k, .inr ⟨h1, by omega, .inr (by omega), h2⟩⟩
  | d + 1, k, h, h1, h2 => by
    by_cases hc : M.sz l ≤ 2 * M.sz (l.take k)
    · exact ⟨k, .inr ⟨h1, by omega, .inl hc, h2⟩⟩
    · exact half_go l d (k + 1) (by omega) (by omega) fun j hj hjk => by
        rcases Nat.lt_or_ge j k with h3 | h3
        · exact h2 j hj h3
        · obtain rfl : j = k := by omega
          omega
theorem half_ex (l : List Ent) (h : 2 ≤ l.length) : ∃ k, M.Half l k ∧ k < l.length := by
  obtain ⟨k, hk⟩ := half_go l (l.length - 2) 1 (by omega) (Nat.le_refl _) fun j h1 h2 => by omega
  exact ⟨k, hk, by rcases hk with ⟨h1, _⟩ | ⟨_, h1, _⟩ <;> omega⟩
/-- what splitting a node may tell -/
def SPl (es : List Ent) (a : M.Nd) (mid : ByteArray) (b : M.Nd) : Prop := mid = ByteArray.empty ∨ ∃ k, ∃ h : k < es.length, a = ⟨true, es.take k, [], []⟩ ∧ mid = es[k].1 ∧ b = ⟨true, es.drop k, [], []⟩
def SPi (ks : List Int) (ss : List ByteArray) (a : M.Nd) (mid : ByteArray) (b : M.Nd) : Prop := mid = ByteArray.empty ∨ ∃ k, ∃ h : k < ss.length, k + 1 ≤ ks.length ∧ a = ⟨false, [], ks.take (k + 1), ss.take k⟩ ∧ mid = ss[k] ∧ b = ⟨false, [], ks.drop (k + 1), ss.drop (k + 1)⟩
theorem splitl_any (v : Value) (es : List Ent) (ks : List Int) (ss : List ByteArray) (w : World) (hv : NdV w v ⟨true, es, ks, ss⟩) (hbd : Bd ⟨true, es, ks, ss⟩) (ho : M.NOk ⟨true, es, ks, ss⟩) :
    ∃ a mid b, SPl es a mid b ∧ Calls Try.prog 58 #[v] w (NSp a mid b w) := by
  obtain ⟨h1, h2, h3⟩ := nok_leaf.1 ho
  by_cases hl : es.length < 2
  · exact ⟨_, _, _, .inl rfl, split_copy v true es ks ss w hv hbd ho hl (by rw [h2]; simp)⟩
  · obtain ⟨k, hk, hkl⟩ := half_ex es (by omega)
    exact ⟨_, _, _, .inr ⟨k, hkl, rfl, rfl, rfl⟩, split_leaf v es ks ss w hv hbd ho (by omega) k hk hkl⟩
theorem spliti_any (v : Value) (es : List Ent) (ks : List Int) (ss : List ByteArray) (w : World) (hv : NdV w v ⟨false, es, ks, ss⟩) (hbd : Bd ⟨false, es, ks, ss⟩) (ho : M.NOk ⟨false, es, ks, ss⟩) :
    ∃ a mid b, SPi ks ss a mid b ∧ Calls Try.prog 58 #[v] w (NSp a mid b w) := by
  obtain ⟨h1, h2, h3, h4⟩ := nok_inner.1 ho
  by_cases hl : ks.length < 2
  · exact ⟨_, _, _, .inl rfl, split_copy v false es ks ss w hv hbd ho (by rw [h1]; simp) hl⟩
  · exact ⟨_, _, _, .inr ⟨ks.length / 2 - 1, by omega, by omega, rfl, rfl, rfl⟩, split_inner v es ks ss w hv hbd ho (by omega) (ks.length / 2 - 1 + 1) (ks.length / 2 - 1) (by omega) rfl (by omega)⟩
theorem join_any (va vb : Value) (a b : M.Nd) (key : ByteArray) (w : World) (ha : NdV w va a) (hb : NdV w vb b) (hda : Bd a) (hdb : Bd b) : Calls Try.prog 59 #[va, .string key, vb] w (NMk (joinN a key b) w) := by
  obtain ⟨la, es, ks, ss⟩ := a
  obtain ⟨lb, fs, js, ts⟩ := b
  by_cases h : la = lb
  · subst h
    rcases la with _ | _
    · exact join_inner va vb es fs ks js ss ts key w ha hb hda hdb
    · exact join_leaf va vb es fs ks js ss ts key w ha hb hda hdb
  · have e : joinN ⟨la, es, ks, ss⟩ key ⟨lb, fs, js, ts⟩ = ⟨la, es, ks, ss⟩ := by unfold joinN; exact if_neg h
    rw [e]
    exact join_other va vb _ _ key w ha hb hda h
theorem joinN_len {a b : M.Nd} {key : ByteArray} (ha : a.es.length ≤ 60 ∧ a.ks.length ≤ 60) (hb : b.es.length ≤ 60 ∧ b.ks.length ≤ 60) : (joinN a key b).es.length ≤ 120 ∧ (joinN a key b).ks.length ≤ 120 := by
  unfold joinN
  split
  · split
    · simp only [List.length_append]; omega
    · simp only [List.length_append]; omega
  · omega
/-- the x between a node and nothing -/
def xs (l : Bool) : List ByteArray := if l = true then [] else [⟨#[120]⟩]
theorem rjoin_x (va : Value) (l : Bool) (es : List Ent) (ks : List Int) (ss : List ByteArray) (w : World) (ha : NdV w va ⟨l, es, ks, ss⟩) (hda : Bd ⟨l, es, ks, ss⟩) :
    Calls Try.prog 57 #[va, .string ⟨#[120]⟩, .agg #[.bool l, .slice none 0 0, .slice none 0 0, .slice none 0 0]] w (NMk ⟨l, es, ks, ss ++ xs l⟩ w) := by
  have hb : NdV w (.agg #[.bool l, .slice none 0 0, .slice none 0 0, .slice none 0 0]) ⟨l, [], [], []⟩ := ⟨none, 0, none, 0, none, 0, rfl, rw_empty w none 0 2 (by decide), iempty w none 0 (by decide), tempty w none 0 (by decide)⟩
  have hd : Bd ⟨l, [], [], []⟩ := ⟨by simp, by simp, by simp, by simp [M.sz], by simp [M.szs]⟩
  rcases l with _ | _
  · refine (rjoin_false va _ es [] ks [] ss [] ⟨#[120]⟩ w ha hb hda hd).mono ?_
    rintro r w' ⟨v, rfl, h1, h2⟩
    refine ⟨v, rfl, ?_, h2⟩
    simpa [xs] using h1
  · refine (rjoin_true va _ es [] ks [] ss [] ⟨#[120]⟩ w ha hb hda hd).mono ?_
    rintro r w' ⟨v, rfl, h1, h2⟩
    refine ⟨v, rfl, ?_, h2⟩
    simpa [xs] using h1
theorem NdO.other {w w' : World} {base g : Nat} {v : Value} {n : M.Nd} {t : TypeId} {c : Array Value} {f : Nat × Nat} (h : NdO w base v n) (hg : w.heap[g]? = some (.cells c t f)) (ho : Only g w w') (h1 : t ≠ 49) (h2 : t ≠ 3) (h3 : t ≠ 9) : NdO w' base v n := by
  obtain ⟨e0, ec, k0, kc, s0, sc, rfl, o1, o2, o3⟩ := h
  exact ⟨e0, ec, k0, kc, s0, sc, rfl, o1.kept ho (.inr (own_kindJ o1 hg h1)), o2.kept ho (.inr (own_kindJ o2 hg h2)), o3.kept ho (.inr (own_kindJ o3 hg h3))⟩
set_option maxRecDepth 100000 in
set_option maxHeartbeats 4000000 in
theorem swap_leaf (v xv yv : Value) (i j : Int) (es : List Ent) (ks : List Int) (ss : List ByteArray) (w : World) (hv : NdV w v ⟨true, es, ks, ss⟩) (hbd : Bd ⟨true, es, ks, ss⟩) :
    Calls Try.prog 54 #[v, .int .i64 i, .int .i64 j, xv, yv] w (NMk ⟨true, es, ks, ss⟩ w) := by
  have HV := Lib.hid hv; have HBD := Lib.hid hbd
  obtain ⟨e0, ec, k0, kc, s0, sc, rfl, he, hk, hs⟩ := hv
  dsimp only at HV HBD ⊢
  clear he hk hs hbd
  obtain ⟨en, hen⟩ : ∃ x, es.length = x := ⟨_, rfl⟩
  obtain ⟨kn, hkn⟩ : ∃ x, ks.length = x := ⟨_, rfl⟩
  obtain ⟨sn, hsn⟩ : ∃ x, ss.length = x := ⟨_, rfl⟩
  rw [hen, hkn, hsn] at HV ⊢
  have HEN := Lib.hid hen; have HKN := Lib.hid hkn; have HSN := Lib.hid hsn
  clear hen hkn hsn
  go_enter Try.func54, Try.ntmps54
  go_upto_region 1 with (fail)
  obtain ⟨wa, hwa⟩ : ∃ W, w.alloc (.cells #[.bool true, .slice e0 en ec, .slice k0 kn kc, .slice s0 sn sc] 69) = W := ⟨_, rfl⟩
  have hza : wa.heap.size = w.heap.size + 1 := by rw [← hwa]; simp
  have hx : Bx wa w.heap.size true (.slice e0 en ec) (.slice k0 kn kc) (.slice s0 sn sc) := by rw [← hwa]; exact Bx.new _ _ _ _ _ _
  have hba : Below w.heap.size w wa := by rw [← hwa]; exact (Below.refl _ w).alloc (Nat.le_refl _) _
  rw [hwa]
  clear hwa
  obtain ⟨w1, hwc⟩ : ∃ W, wa.alloc (.cells #[.bool false, .slice none 0 0, .slice none 0 0, .slice none 0 0] 69) = W := ⟨_, rfl⟩
  have hzc : w1.heap.size = w.heap.size + 2 := by rw [← hwc]; simp [hza]
  have z1 : Zb w1 (w.heap.size + 1) 69 := by rw [← hwc, ← hza]; exact Zb.new _ _ _ _ _ _
  have hbc : Below wa.heap.size wa w1 := by rw [← hwc]; exact (Below.refl _ wa).alloc (Nat.le_refl _) _
  rw [hwc]
  clear hwc
  have hx := hx.below hbc
  have hb1 := hba.trans (hbc.mono hba.size)
  clear hba hbc hza
  have HCP := Lib.hid (copied_any _ _ w1 (HV.out.below hb1) HBD.out)
  have HZC := Lib.hid hzc
  obtain ⟨x0, x1, x2, x3⟩ := hx
  clear hzc
  go_wp2_with fail
  refine HCP.out.mono ?_
  rintro r w3 ⟨vc, rfl, ⟨a0, ac, b0, bc, c0, cc, rfl, o1, o2, o3⟩, hb3⟩
  dsimp only at o1 o2 o3 ⊢
  rw [HEN.out] at o1 ⊢
  rw [HKN.out] at o2 ⊢
  rw [HSN.out] at o3 ⊢
  have z1 := z1.below hb3
  have O1 := Lib.hid o1; have O2 := Lib.hid o2; have O3 := Lib.hid o3
  have hb4 := hb1.trans (hb3.mono hb1.size)
  clear x0 x1 x2 x3 o1 o2 o3 hb3
  go_wp2_with (refine wpList_store69 rfl _ _ rfl (w.heap.size + 1) rfl rfl z1 ?_)
  intro w5 hz5 hon
  have HZ5 := Lib.hid hz5; have HON := Lib.hid hon
  clear hz5 hon z1
  go_wp2
  have hon := HON.out
  have hlt : w.heap.size + 1 < w1.heap.size := by rw [HZC.out]; omega
  have f1 := own_mono (own_only' O1.out hon hlt) hb1.size
  have f2 := own_mono (own_only' O2.out hon hlt) hb1.size
  have f3 := own_mono (own_only' O3.out hon hlt) hb1.size
  have hb5 := hb4.trans (hon.to_below (by omega) hb4.size)
  refine bodyPost_ret (res_one rfl rfl (load69 (bx_blk HZ5.out))) rfl ?_
  refine ⟨_, rfl, ?_, hb5⟩
  rw [← HEN.out] at f1 ⊢
  rw [← HKN.out] at f2 ⊢
  rw [← HSN.out] at f3 ⊢
  exact ⟨_, _, _, _, _, _, rfl, f1, f2, f3⟩
theorem swapk_any (v xv yv : Value) (l : Bool) (es : List Ent) (ks : List Int) (ss : List ByteArray) (w : World) (hv : NdV w v ⟨l, es, ks, ss⟩) (hx : Ints w xv [7, 8]) (hy : Txts w yv [⟨#[113]⟩]) (hbd : Bd ⟨l, es, ks, ss⟩) (ho : M.NOk ⟨l, es, ks, ss⟩) (hs : ks.length ≤ 60) :
    ∃ sn : M.Nd, sn.ks.length ≤ 200 ∧ Calls Try.prog 54 #[v, .int .i64 0, .int .i64 1, xv, yv] w (NMk sn w) := by
  rcases l with _ | _
  · obtain ⟨h1, h2, h3, h4⟩ := nok_inner.1 ho
    exact ⟨_, by simp; omega, swap_good v xv yv es ks [7, 8] ss [⟨#[113]⟩] 0 1 0 w hv hx hy ⟨hbd.1, hbd.2.1, hbd.2.2.1⟩ (by decide) (by decide) (by omega) rfl rfl (by omega)⟩
  · exact ⟨_, by show ks.length ≤ 200; omega, swap_leaf v xv yv 0 1 es ks ss w hv hbd⟩
/-- where a key is: leaves -/
theorem getr_iff {l : List Ent} (ho : M.Ok l) (k v : ByteArray) : getr l k = some v ↔ (k, v) ∈ l := by rw [← getr_eq ho]; exact getl_iff ho k v
theorem getr_none {l : List Ent} (ho : M.Ok l) (k : ByteArray) (h : ∀ v, (k, v) ∉ l) : getr l k = none := by
  rcases hg : getr l k with _ | v
  · rfl
  · exact absurd ((getr_iff ho k v).1 hg) (h v)
inductive Prt (es : List Ent) (k : Nat) (key mid : ByteArray) : Prop where
  | one (a b : ByteArray) (h1 : getr es key = some a) (h2 : getr (es.take k) key = some b) (h3 : getr (es.drop k) key = none) (h4 : M.klt key mid) : Prt es k key mid
  | two (a b : ByteArray) (h1 : getr es key = some a) (h2 : getr (es.take k) key = none) (h3 : getr (es.drop k) key = some b) (h4 : ¬ M.klt key mid) : Prt es k key mid
  | no (h1 : getr es key = none) (h2 : getr (es.take k) key = none) (h3 : getr (es.drop k) key = none) : Prt es k key mid
theorem prt {es : List Ent} {k : Nat} (key : ByteArray) (ho : M.Ok es) (hk : k < es.length) : Prt es k key es[k].1 := by
  have oa := M.ok_take ho k
  have ob := M.ok_drop ho k
  have hlo : ∀ v, (key, v) ∈ es.take k → M.klt key es[k].1 := fun v h => by
    obtain ⟨i, hi, e⟩ := List.getElem_of_mem h
    rw [List.getElem_take] at e
    have hik : i < k := by rw [List.length_take] at hi; omega
    have := M.asc_lt ho.2 hik hk
    rw [e] at this
    exact this
  have hhi : ∀ v, (key, v) ∈ es.drop k → ¬ M.klt key es[k].1 := fun v h => by
    obtain ⟨i, hi, e⟩ := List.getElem_of_mem h
    rw [List.getElem_drop] at e
    rw [List.length_drop] at hi
    rcases Nat.eq_zero_or_pos i with h0 | h0
    · subst h0
      have e' : es[k] = (key, v) := e
      rw [e']; exact M.klt_irrefl _
    · have := M.asc_lt ho.2 (show k < k + i by omega) (by omega)
      rw [e] at this
      exact M.klt_asymm this
  by_cases h1 : ∃ v, (key, v) ∈ es.take k
  · obtain ⟨v, h1⟩ := h1
    exact .one v v ((getr_iff ho key v).2 (List.mem_of_mem_take h1)) ((getr_iff oa key v).2 h1) (getr_none ob key fun u hu => hhi u hu (hlo v h1)) (hlo v h1)
  · by_cases h2 : ∃ v, (key, v) ∈ es.drop k
    · obtain ⟨v, h2⟩ := h2
      exact .two v v ((getr_iff ho key v).2 (List.mem_of_mem_drop h2)) (getr_none oa key fun u hu => h1 ⟨u, hu⟩) ((getr_iff ob key v).2 h2) (hhi v h2)
    · refine .no (getr_none ho key fun u hu => ?_) (getr_none oa key fun u hu => h1 ⟨u, hu⟩) (getr_none ob key fun u hu => h2 ⟨u, hu⟩)
      rw [← List.take_append_drop k es, List.mem_append] at hu
      rcases hu with hu | hu
      · exact h1 ⟨u, hu⟩
      · exact h2 ⟨u, hu⟩
/-- where a key is: inner nodes -/
theorem up_lo {ss : List ByteArray} {key : ByteArray} {i j k : Nat} (hk : k < ss.length) (h : Up ss key i) (hl : M.klt key ss[k]) (hj : Up (ss.take k) key j) : j = i := by
  obtain ⟨h1, h2, h3⟩ := h
  have hik : i ≤ k := by
    rcases Nat.lt_or_ge k i with h | h
    · exact absurd hl (h2 k hk h)
    · exact h
  refine up_unique hj ⟨by rw [List.length_take]; omega, fun t ht h => ?_, fun t ht h => ?_⟩
  · rw [List.getElem_take]; exact h2 t (by rw [List.length_take] at ht; omega) h
  · rw [List.getElem_take]; exact h3 t (by rw [List.length_take] at ht; omega) h
theorem up_hi {ss : List ByteArray} {key : ByteArray} {i j k : Nat} (ho : M.Oks ss) (hk : k < ss.length) (h : Up ss key i) (hl : ¬ M.klt key ss[k]) (hj : Up (ss.drop (k + 1)) key j) : i = j + (k + 1) := by
  obtain ⟨h1, h2, h3⟩ := hj
  rw [List.length_drop] at h1
  refine up_unique h ⟨by omega, fun t ht hh hkt => ?_, fun t ht hh => ?_⟩
  · rcases Nat.lt_or_ge k t with h4 | h4
    · have := h2 (t - (k + 1)) (by rw [List.length_drop]; omega) (by omega)
      rw [List.getElem_drop] at this
      have e : k + 1 + (t - (k + 1)) = t := by omega
      simp only [e] at this
      exact this hkt
    · rcases Nat.lt_or_ge t k with h5 | h5
      · exact hl (M.klt_trans hkt (M.oks_lt ho h5 hk))
      · obtain rfl : t = k := by omega
        exact hl hkt
  · have := h3 (t - (k + 1)) (by rw [List.length_drop]; omega) (by omega)
    rw [List.getElem_drop] at this
    have e : k + 1 + (t - (k + 1)) = t := by omega
    simp only [e] at this
    exact this
/-- a row of memory that may be written -/
def RowN (G : Nat) (ao : Option Addr) (e : TypeId) (m : Nat) (w : World) : Prop := m = 0 ∨ ∃ g c, ao = some ⟨g, 0, none⟩ ∧ G ≤ g ∧ w.heap[g]? = some (.cells c e (0, 0)) ∧ m ≤ c.size
theorem RowN.of {w : World} {base size n cap : Nat} {e : TypeId} {ao : Option Addr} {cs : List Value} (h : w.ownsRow base e size (.slice ao n cap) n cs) : RowN base ao e (n * size) w := by
  obtain ⟨_, ⟨h1, h2⟩ | ⟨g, cap', cur, h1, h2, h3, h4, h5, h6, h7⟩⟩ := h
  · exact .inl (by rw [h2]; simp)
  · injection h1 with h1 h8 h9
    exact .inr ⟨g, cur, h1, h2, h3, by rw [h6]; exact Nat.mul_le_mul_right _ h4⟩
theorem RowN.base {w : World} {G G' m : Nat} {e : TypeId} {ao : Option Addr} (h : RowN G' ao e m w) (hg : G ≤ G') : RowN G ao e m w := by
  rcases h with h | ⟨g, c, h1, h2, h3, h4⟩
  · exact .inl h
  · exact .inr ⟨g, c, h1, Nat.le_trans hg h2, h3, h4⟩
theorem RowN.below {w w' : World} {G m : Nat} {e : TypeId} {ao : Option Addr} (h : RowN G ao e m w) (hb : Below w.heap.size w w') : RowN G ao e m w' := by
  rcases h with h | ⟨g, c, h1, h2, h3, h4⟩
  · exact .inl h
  · exact .inr ⟨g, c, h1, h2, blk_below h3 hb, h4⟩
/-- one cell, or more, of a block have been written -/
def Wrote (g : Nat) (t : TypeId) (w w' : World) : Prop := ∃ c c', w.heap[g]? = some (.cells c t (0, 0)) ∧ w'.heap[g]? = some (.cells c' t (0, 0)) ∧ c'.size = c.size ∧ Only g w w'
theorem RowN.wrote {w w' : World} {G m g : Nat} {e t : TypeId} {ao : Option Addr} (h : RowN G ao e m w) (hw : Wrote g t w w') : RowN G ao e m w' := by
  obtain ⟨c, c', h1, h2, h3, ho⟩ := hw
  rcases h with h | ⟨g', d, k1, k2, k3, k4⟩
  · exact .inl h
  · by_cases hg : g' = g
    · subst hg
      rw [h1] at k3
      injection k3 with k3
      injection k3 with k5 k6 k7
      subst k5 k6
      exact .inr ⟨g', c', k1, k2, h2, by omega⟩
    · exact .inr ⟨g', d, k1, k2, by rw [ho.block g' (lt_of_blk k3) fun he => hg (Option.some.inj he)]; exact k3, k4⟩
theorem blk_wrote {w w' : World} {b g : Nat} {t s : TypeId} {c : Array Value} {f : Nat × Nat} (h : w.heap[b]? = some (.cells c s f)) (hw : Wrote g t w w') (hne : s ≠ t) : w'.heap[b]? = some (.cells c s f) := by
  obtain ⟨c1, c2, h1, h2, h3, ho⟩ := hw
  have hg : b ≠ g := fun e => by
    subst e
    rw [h1] at h
    injection h with h
    injection h with _ h _
    exact hne h.symm
  rw [ho.block b (lt_of_blk h) fun he => hg (Option.some.inj he)]; exact h
set_option maxRecDepth 10000 in
/-- an entry into a row -/
theorem wpList_store49 {w : World} {ops : Array Oper} {rest : List Oper} {o : Oper} {a : Act} {Q : Exit → Act → World → Prop} (hgd : o.guard = none) (p x : Operand) (ho : o.op = .store 49 p x)
    (g i : Nat) (c : Array Value) (k v : ByteArray) (hp : a.eval p = .pointer (some ⟨g, i, none⟩)) (hx : a.eval x = .agg #[.string k, .string v]) (hz : w.heap[g]? = some (.cells c 49 (0, 0))) (hi : i + 1 < c.size)
    (h : ∀ w', Wrote g 49 w w' → wpList Try.prog ops Q rest (a.put o.dst undef) w') : wpList Try.prog ops Q (o :: rest) a w := by
  refine wpList_plain hgd fun _ hK => ?_
  have h0 := blk_set hz i (.string k)
  have h1 := blk_set h0 (i + 1) (.string v)
  have c0 : w.cell? ⟨g, i, none⟩ = some c[i] := by rw [blk_cell hz]; exact Array.getElem?_eq_getElem _
  have c1 : (w.setCell ⟨g, i, none⟩ (.string k)).cell? ⟨g, i + 1, none⟩ = some c[i + 1] := by
    rw [blk_cell h0, Array.getElem?_setIfInBounds_ne (by omega)]; exact Array.getElem?_eq_getElem _
  have f0 := blk_free hz i
  have f1 := blk_free h0 (i + 1)
  have hr : (storeVar 49 ⟨g, i, none⟩ (.agg #[.string k, .string v])).run Try.prog w = .ok () ((w.setCell ⟨g, i, none⟩ (.string k)).setCell ⟨g, i + 1, none⟩ (.string v)) := by simp [storeVar, go_sem, *]
  have hr' : (Instr.storeAt 49 (.pointer (some ⟨g, i, none⟩)) (.agg #[.string k, .string v])).run Try.prog w = .ok () ((w.setCell ⟨g, i, none⟩ (.string k)).setCell ⟨g, i + 1, none⟩ (.string v)) := by
    simp only [Instr.storeAt, Instr.sureAddr, Sem.run_bind, Sem.run_pure, Result.andThen]
    exact hr
  unfold Oper.wp execOp
  simp only [ho, hp, hx, Sem.run_bind, hr', Result.andThen_ok, Sem.run_pure]
  exact hK _ _ (h _ ⟨c, _, hz, h1, by simp, (Only.set _ _ _).trans (Only.set _ _ _)⟩)
set_option maxRecDepth 10000 in
/-- a number into a row -/
theorem wpList_store3 {w : World} {ops : Array Oper} {rest : List Oper} {o : Oper} {a : Act} {Q : Exit → Act → World → Prop} (hgd : o.guard = none) (p x : Operand) (ho : o.op = .store 3 p x)
    (g i : Nat) (c : Array Value) (k : Int) (hp : a.eval p = .pointer (some ⟨g, i, none⟩)) (hx : a.eval x = .int .i64 k) (hz : w.heap[g]? = some (.cells c 3 (0, 0))) (hi : i < c.size)
    (h : ∀ w', Wrote g 3 w w' → wpList Try.prog ops Q rest (a.put o.dst undef) w') : wpList Try.prog ops Q (o :: rest) a w := by
  refine wpList_plain hgd fun _ hK => ?_
  have h0 := blk_set hz i (.int .i64 k)
  have c0 : w.cell? ⟨g, i, none⟩ = some c[i] := by rw [blk_cell hz]; exact Array.getElem?_eq_getElem _
  have f0 := blk_free hz i
  have hr : (storeVar 3 ⟨g, i, none⟩ (.int .i64 k)).run Try.prog w = .ok () (w.setCell ⟨g, i, none⟩ (.int .i64 k)) := by simp [storeVar, go_sem, *]
  have hr' : (Instr.storeAt 3 (.pointer (some ⟨g, i, none⟩)) (.int .i64 k)).run Try.prog w = .ok () (w.setCell ⟨g, i, none⟩ (.int .i64 k)) := by
    simp only [Instr.storeAt, Instr.sureAddr, Sem.run_bind, Sem.run_pure, Result.andThen]
    exact hr
  unfold Oper.wp execOp
  simp only [ho, hp, hx, Sem.run_bind, hr', Result.andThen_ok, Sem.run_pure]
  exact hK _ _ (h _ ⟨c, _, hz, h0, by simp, Only.set _ _ _⟩)
/-- what holds while what came out is written -/
def KW (w0 : World) (gj gs : Nat) (jc sc : Array Value) (je jk sk : Option Addr) (jen jkn skn : Nat) (w : World) : Prop :=
  Below w0.heap.size w0 w ∧ w.heap[gj]? = some (.cells jc 69 (0, 0)) ∧ w.heap[gs]? = some (.cells sc 69 (0, 0)) ∧ RowN w0.heap.size je 49 (jen * 2) w ∧ RowN w0.heap.size jk 3 (jkn * 1) w ∧ RowN w0.heap.size sk 3 (skn * 1) w
theorem KW.wrote {w0 w w' : World} {gj gs g : Nat} {jc sc : Array Value} {je jk sk : Option Addr} {jen jkn skn : Nat} {t : TypeId} (h : KW w0 gj gs jc sc je jk sk jen jkn skn w) (hw : Wrote g t w w') (hne : (69 : TypeId) ≠ t) (hg : w0.heap.size ≤ g) : KW w0 gj gs jc sc je jk sk jen jkn skn w' := by
  obtain ⟨h1, h2, h3, h4, h5, h6⟩ := h
  have ho := hw
  obtain ⟨_, _, _, _, _, ho⟩ := ho
  exact ⟨h1.trans (ho.to_below hg h1.size), blk_wrote h2 hw hne, blk_wrote h3 hw hne, h4.wrote hw, h5.wrote hw, h6.wrote hw⟩
end Go.Proofs.Ytifdglehfhoecaa.N
