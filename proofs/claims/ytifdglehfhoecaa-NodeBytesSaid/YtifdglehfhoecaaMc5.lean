/-
  Texts of this proof, merged: NSwap. What each says stands at its head.
-/
import Derived.Test.YtifdglehfhoecaaMc4
/-
  A node with other kids: where they are put in the place of some. Conditions: bounds that every node here keeps.
-/
namespace Go.Proofs.Ytifdglehfhoecaa.N
open Go.RowKit B E
theorem all3 {α : Type} {P : α → Prop} {a b c : α} (h1 : P a) (h2 : P b) (h3 : P c) : ∀ p ∈ [a, b, c], P p := by simp [h1, h2, h3]
theorem ics_take (l : List Int) (k : Nat) : (ics l).take k = ics (l.take k) := by simp [ics, List.map_take]
theorem ics_drop (l : List Int) (k : Nat) : (ics l).drop k = ics (l.drop k) := by simp [ics, List.map_drop]
theorem tcs_take (l : List ByteArray) (k : Nat) : (tcs l).take k = tcs (l.take k) := by simp [tcs, List.map_take]
theorem tcs_drop (l : List ByteArray) (k : Nat) : (tcs l).drop k = tcs (l.drop k) := by simp [tcs, List.map_drop]
theorem itake {w : World} {ao : Option Addr} {n cap : Nat} {l : List Int} (h : Ints w (.slice ao n cap) l) (i : Nat) (hi : i ≤ n) : Ints w (.slice ao i cap) (l.take i) := by
  obtain ⟨hn, h1, h2, _⟩ := h.at
  unfold Ints at h
  rw [← hn] at h
  have := Rw.take h i cap hi (by omega) h2
  rw [Nat.mul_one, ics_take] at this
  unfold Ints
  rwa [List.length_take, ← hn, Nat.min_eq_left hi]
theorem ttake {w : World} {ao : Option Addr} {n cap : Nat} {l : List ByteArray} (h : Txts w (.slice ao n cap) l) (i : Nat) (hi : i ≤ n) : Txts w (.slice ao i cap) (l.take i) := by
  obtain ⟨hn, h1, h2, _⟩ := h.at
  unfold Txts at h
  rw [← hn] at h
  have := Rw.take h i cap hi (by omega) h2
  rw [Nat.mul_one, tcs_take] at this
  unfold Txts
  rwa [List.length_take, ← hn, Nat.min_eq_left hi]
theorem idrop {w : World} {b o : Nat} {n cap : Nat} {l : List Int} (h : Ints w (.slice (some ⟨b, o, none⟩) n cap) l) (i : Nat) (hi : i ≤ n) : Ints w (.slice (some ⟨b, o + i, none⟩) (n - i) (cap - i)) (l.drop i) := by
  obtain ⟨hn, h1, h2, _⟩ := h.at
  unfold Ints at h
  rw [← hn] at h
  have := Rw.drop h i (cap - i) hi (by omega) (by omega)
  rw [Nat.mul_one, ics_drop] at this
  unfold Ints
  rwa [List.length_drop, ← hn]
theorem tdrop {w : World} {b o : Nat} {n cap : Nat} {l : List ByteArray} (h : Txts w (.slice (some ⟨b, o, none⟩) n cap) l) (i : Nat) (hi : i ≤ n) : Txts w (.slice (some ⟨b, o + i, none⟩) (n - i) (cap - i)) (l.drop i) := by
  obtain ⟨hn, h1, h2, _⟩ := h.at
  unfold Txts at h
  rw [← hn] at h
  have := Rw.drop h i (cap - i) hi (by omega) (by omega)
  rw [Nat.mul_one, tcs_drop] at this
  unfold Txts
  rwa [List.length_drop, ← hn]
theorem iempty (w : World) (ao : Option Addr) (cap : Nat) (h : cap ≤ maxLen) : Ints w (.slice ao 0 cap) [] := rw_empty w ao cap 1 h
theorem tempty (w : World) (ao : Option Addr) (cap : Nat) (h : cap ≤ maxLen) : Txts w (.slice ao 0 cap) [] := rw_empty w ao cap 1 h
/-- the upper part of such a slice, as it is cut -/
theorem icut {w : World} {ao : Option Addr} {n cap : Nat} {l : List Int} (h : Ints w (.slice ao n cap) l) (i : Nat) (hi : i ≤ n) (h0 : 0 < n) :
    ∃ U, ((cap = i ∧ U = .slice ao 0 0) ∨ (∃ b o, ao = some ⟨b, o, none⟩ ∧ cap ≠ i ∧ U = .slice (some ⟨b, o + i, none⟩) (n - i) (cap - i))) ∧ Ints w U (l.drop i) := by
  obtain ⟨hn, h1, h2, hc⟩ := h.at
  by_cases hci : cap = i
  · exact ⟨_, .inl ⟨hci, rfl⟩, by rw [List.drop_eq_nil_of_le (by omega)]; exact iempty w _ _ (Nat.zero_le _)⟩
  · obtain ⟨b, o, rfl, _⟩ := hc 0 (by omega)
    exact ⟨_, .inr ⟨b, o, rfl, hci, rfl⟩, idrop h i hi⟩
theorem tcut {w : World} {ao : Option Addr} {n cap : Nat} {l : List ByteArray} (h : Txts w (.slice ao n cap) l) (i : Nat) (hi : i ≤ n) :
    ∃ U, ((cap = i ∧ U = .slice ao 0 0) ∨ (∃ b o, ao = some ⟨b, o, none⟩ ∧ cap ≠ i ∧ U = .slice (some ⟨b, o + i, none⟩) (n - i) (cap - i)) ∨ (ao = none ∧ n = 0 ∧ i = 0 ∧ cap ≠ 0 ∧ U = .slice none 0 cap) ∨ (∃ a, ao = some a ∧ n = 0 ∧ i = 0 ∧ cap ≠ 0 ∧ U = .slice (some (a.add 0)) 0 cap)) ∧ Txts w U (l.drop i) := by
  obtain ⟨hn, h1, h2, hc⟩ := h.at
  by_cases hci : cap = i
  · exact ⟨_, .inl ⟨hci, rfl⟩, by rw [List.drop_eq_nil_of_le (by omega)]; exact tempty w _ _ (Nat.zero_le _)⟩
  · rcases Nat.eq_zero_or_pos n with h0 | h0
    · have hl : l.drop i = [] := by rw [List.drop_eq_nil_of_le (by omega)]
      rw [hl]
      rcases ao with _ | a
      · exact ⟨_, .inr (.inr (.inl ⟨rfl, h0, by omega, by omega, rfl⟩)), tempty w _ _ h2⟩
      · exact ⟨_, .inr (.inr (.inr ⟨a, rfl, h0, by omega, by omega, rfl⟩)), tempty w _ _ h2⟩
    · obtain ⟨b, o, rfl, _⟩ := hc 0 (by omega)
      exact ⟨_, .inr (.inl ⟨b, o, rfl, hci, rfl⟩), tdrop h i hi⟩
set_option maxRecDepth 100000 in
set_option maxHeartbeats 8000000 in
theorem swap_good (v xv yv : Value) (es : List Ent) (ks xs : List Int) (ss ys : List ByteArray) (i j hh : Nat) (w : World) (hv : NdV w v ⟨false, es, ks, ss⟩) (hx : Ints w xv xs) (hy : Txts w yv ys) (hbd : es.length ≤ 10000 ∧ ks.length ≤ 10000 ∧ ss.length ≤ 10000) (hxl : xs.length ≤ 100)
    (h1 : i < j) (h2 : j ≤ ks.length) (h3 : ys.length + 1 = xs.length) (h4 : hh + 1 = j) (h5 : hh ≤ ss.length) :
    Calls Try.prog 54 #[v, .int .i64 (i : Int), .int .i64 (j : Int), xv, yv] w (NMk ⟨false, [], ks.take i ++ xs ++ ks.drop j, ss.take i ++ ys ++ ss.drop hh⟩ w) := by
  obtain ⟨d1, d2, d3⟩ := hbd
  obtain ⟨e0, ec, k0, kc, s0, sc, rfl, he, hk, hs⟩ := hv
  dsimp only at he hk hs ⊢
  obtain ⟨x0, xc, rfl, hx1, hx2, _⟩ := hx.open
  obtain ⟨y0, yc, rfl, hy1, hy2, _⟩ := hy.open
  have hlk : (ks.take i ++ xs ++ ks.drop j).length ≤ 20000 := by simp only [List.length_append, List.length_take, List.length_drop]; omega
  have hls : (ss.take i ++ ys ++ ss.drop hh).length ≤ 20000 := by simp only [List.length_append, List.length_take, List.length_drop]; omega
  obtain ⟨en, hen⟩ : ∃ x, es.length = x := ⟨_, rfl⟩
  obtain ⟨kn, hkn⟩ : ∃ x, ks.length = x := ⟨_, rfl⟩
  obtain ⟨sn, hsn⟩ : ∃ x, ss.length = x := ⟨_, rfl⟩
  obtain ⟨xn, hxn⟩ : ∃ x, xs.length = x := ⟨_, rfl⟩
  obtain ⟨yn, hyn⟩ : ∃ x, ys.length = x := ⟨_, rfl⟩
  rw [hen] at he d1 ⊢
  rw [hkn] at hk h2 d2 ⊢
  rw [hsn] at hs h5 d3 ⊢
  rw [hxn] at hx h3 hx1 hxl ⊢
  rw [hyn] at hy h3 hy1 ⊢
  clear hen hkn hsn hxn hyn
  have q0 : ((xn : Int) == 0) = false := by rw [beq_eq_false_iff_ne]; omega
  have q1 : (j : Int) - 1 = (hh : Int) := by omega
  have q2 : max ((xn : Int) - 1) 0 = (yn : Int) := by omega
  have q3 : ((yn : Int) != (yn : Int)) = false := by simp
  have q4 : ¬ (i : Int) < 0 := by omega
  have q5 : ¬ (kn : Int) < (j : Int) := by omega
  have q6 : ¬ (j : Int) ≤ (i : Int) := by omega
  have HJ := Lib.hid h4
  have his : i ≤ sn := by omega
  have hik : i ≤ kn := by omega
  have hkcap : kn ≤ kc := hk.at.2.1
  have hscap : sn ≤ sc := hs.at.2.1
  have hkm : kc ≤ maxLen := hk.at.2.2.1
  have hsm : sc ≤ maxLen := hs.at.2.2.1
  clear h3 h4
  go_enter Try.func54, Try.ntmps54
  go_upto_region 8 with (fail)
  obtain ⟨w0, hw0⟩ : ∃ W, w.alloc (.cells #[.bool false, .slice e0 en ec, .slice k0 kn kc, .slice s0 sn sc] 69) = W := ⟨_, rfl⟩
  have hz0 : w0.heap.size = w.heap.size + 1 := by rw [← hw0]; simp
  have hbx : Bx w0 w.heap.size false (.slice e0 en ec) (.slice k0 kn kc) (.slice s0 sn sc) := by rw [← hw0]; exact Bx.new _ _ _ _ _ _
  have hb0 : Below w.heap.size w w0 := by rw [← hw0]; exact (Below.refl _ w).alloc (Nat.le_refl _) _
  rw [hw0]
  clear hw0
  obtain ⟨w1, hw1⟩ : ∃ W, w0.alloc (.cells #[.bool false, .slice none 0 0, .slice none 0 0, .slice none 0 0] 69) = W := ⟨_, rfl⟩
  have hz1 : w1.heap.size = w.heap.size + 2 := by rw [← hw1]; simp [hz0]
  have hzb : Zb w1 (w.heap.size + 1) 69 := by rw [← hw1, ← hz0]; exact Zb.new _ _ _ _ _ _
  have hb01 : Below w0.heap.size w0 w1 := by rw [← hw1]; exact (Below.refl _ w0).alloc (Nat.le_refl _) _
  rw [hw1]
  clear hw1
  have hbx := hbx.below hb01
  have hb1 := hb0.trans (hb01.mono hb0.size)
  clear hb0 hb01 hz0
  obtain ⟨U, hU, hUI⟩ := icut (hk.below hb1) j h2 (by omega)
  obtain ⟨V, hV, hVI⟩ := tcut (hs.below hb1) hh h5
  obtain ⟨ua, un, uc, rfl⟩ : ∃ a b c, U = .slice a b c := by obtain ⟨a, c, e, _⟩ := hUI.open; exact ⟨_, _, _, e⟩
  obtain ⟨va, vn, vc, rfl⟩ : ∃ a b c, V = .slice a b c := by obtain ⟨a, c, e, _⟩ := hVI.open; exact ⟨_, _, _, e⟩
  have HKA := Lib.hid (itake (hk.below hb1) i hik); have HSA := Lib.hid (ttake (hs.below hb1) i his)
  have HX := Lib.hid (hx.below hb1); have HY := Lib.hid (hy.below hb1)
  have HU := Lib.hid hU; have HUI := Lib.hid hUI; have HVV := Lib.hid hV; have HVI := Lib.hid hVI
  obtain ⟨KK, hKK⟩ : ∃ x, ks.take i ++ xs ++ ks.drop j = x := ⟨_, rfl⟩
  obtain ⟨SSS, hSS⟩ : ∃ x, ss.take i ++ ys ++ ss.drop hh = x := ⟨_, rfl⟩
  obtain ⟨KKn, hKn⟩ : ∃ x, KK.length = x := ⟨_, rfl⟩
  obtain ⟨SSSn, hSn⟩ : ∃ x, SSS.length = x := ⟨_, rfl⟩
  have HKF := Lib.hid (show flatA [((.slice k0 i kc : Value), ks.take i), (.slice x0 xn xc, xs), (.slice ua un uc, ks.drop j)] 3 = KK by rw [← hKK]; simp [flatA])
  have HSF := Lib.hid (show flatA [((.slice s0 i sc : Value), ss.take i), (.slice y0 yn yc, ys), (.slice va vn vc, ss.drop hh)] 3 = SSS by rw [← hSS]; simp [flatA])
  have HKN := Lib.hid hKn; have HSN := Lib.hid hSn
  have HKE := Lib.hid hKK; have HSE := Lib.hid hSS
  clear hKK hSS hKn hSn
  have HZB := Lib.hid hzb
  have HZ1 := Lib.hid hz1
  have HLK := Lib.hid (show (flatA [((.slice k0 i kc : Value), ks.take i), (.slice x0 xn xc, xs), (.slice ua un uc, ks.drop j)] 3).length ≤ 1099511627776 by simp only [flatA, List.take_succ_cons, List.take_zero, List.flatMap_cons, List.flatMap_nil, List.append_nil, List.length_append] at hlk ⊢; omega)
  have HLS := Lib.hid (show (flatA [((.slice s0 i sc : Value), ss.take i), (.slice y0 yn yc, ys), (.slice va vn vc, ss.drop hh)] 3).length ≤ 1099511627776 by simp only [flatA, List.take_succ_cons, List.take_zero, List.flatMap_cons, List.flatMap_nil, List.append_nil, List.length_append] at hls ⊢; omega)
  have p1 : (0 : Int) ≤ (i : Int) := Int.natCast_nonneg _
  have p2 : (i : Int) ≤ (kc : Int) := by omega
  have p3 : (i : Int) ≤ (sc : Int) := by omega
  have p4 : (j : Int) ≤ (kn : Int) := by omega
  have p5 : (hh : Int) ≤ (sn : Int) := by omega
  have p6 : (0 : Int) ≤ (j : Int) := Int.natCast_nonneg _
  have p7 : (0 : Int) ≤ (hh : Int) := Int.natCast_nonneg _
  clear he hk hs hx hy hzb hz1 hU hUI hV hVI hlk hls q0 q1 q2 q3 q4 q5 q6
  refine wp_region_any (by kernel_rfl) ?_
  refine wpAny_upto_f 23 (fun f L a W => ∃ v62 v63 v64 v65 v66 v67 v68 v69 v70 v71 v72 v73 v74 v75 v76 v77 v78 v79 v80 v81 v82 v83 v84 : Value, a = { tmps := List.toArray ((f 0) :: (.int .i64 (i : Int)) :: (.int .i64 (j : Int)) :: (.slice x0 xn xc) :: (.slice y0 yn yc) :: (.pointer (some ⟨w.heap.size, 0, none⟩)) :: (f 6) :: (f 7) :: (f 8) :: (f 9) :: (.pointer (some ⟨w.heap.size + 1, 0, none⟩)) :: (.int .i64 (i : Int)) :: (.int .i64 (hh : Int)) :: (f 13) :: (f 14) :: (f 15) :: (f 16) :: (f 17) :: (f 18) :: (f 19) :: (f 20) :: (f 21) :: (f 22) :: (f 23) :: (f 24) :: (f 25) :: (f 26) :: (f 27) :: (f 28) :: (f 29) :: (f 30) :: (f 31) :: (f 32) :: (f 33) :: (f 34) :: (f 35) :: (f 36) :: (f 37) :: (f 38) :: (f 39) :: (f 40) :: (f 41) :: (f 42) :: (f 43) :: (f 44) :: (f 45) :: (f 46) :: (f 47) :: (f 48) :: (f 49) :: (f 50) :: (f 51) :: (f 52) :: (f 53) :: (f 54) :: (f 55) :: (f 56) :: (f 57) :: (f 58) :: (f 59) :: (f 60) :: (f 61) :: v62 :: v63 :: v64 :: v65 :: v66 :: v67 :: v68 :: v69 :: v70 :: v71 :: v72 :: v73 :: v74 :: v75 :: v76 :: v77 :: v78 :: v79 :: v80 :: v81 :: v82 :: v83 :: v84 :: []), defers := [] } ∧ Below w1.heap.size w1 W ∧ (Lst L 0 → v62 = .pointer (some ⟨w.heap.size, 2, none⟩)) ∧ (Lst L 1 → v63 = .slice k0 kn kc) ∧ (Lst L 2 → v64 = .int .i64 (i : Int)) ∧ (Lst L 3 → v65 = .slice k0 i kc) ∧ (Lst L 4 → v66 = .slice x0 xn xc) ∧ (Lst L 5 → v67 = .pointer (some ⟨w.heap.size, 2, none⟩)) ∧ (Lst L 6 → v68 = .slice k0 kn kc) ∧ (Lst L 7 → v69 = .int .i64 (j : Int)) ∧ (Lst L 8 → v70 = .slice ua un uc) ∧ (Lst L 9 → Cl W v71 [.slice k0 i kc, .slice x0 xn xc, .slice ua un uc]) ∧ (Lst L 10 → World.ownsRow W w1.heap.size 3 1 v72 KKn (ics KK)) ∧ (Lst L 11 → v73 = .pointer (some ⟨w.heap.size, 3, none⟩)) ∧ (Lst L 12 → v74 = .slice s0 sn sc) ∧ (Lst L 13 → v75 = .int .i64 (i : Int)) ∧ (Lst L 14 → v76 = .slice s0 i sc) ∧ (Lst L 15 → v77 = .slice y0 yn yc) ∧ (Lst L 16 → v78 = .pointer (some ⟨w.heap.size, 3, none⟩)) ∧ (Lst L 17 → v79 = .slice s0 sn sc) ∧ (Lst L 18 → v80 = .int .i64 (hh : Int)) ∧ (Lst L 19 → v81 = .slice va vn vc) ∧ (Lst L 20 → Cl W v82 [.slice s0 i sc, .slice y0 yn yc, .slice va vn vc]) ∧ (Lst L 21 → World.ownsRow W w1.heap.size 9 1 v83 SSSn (tcs SSS)) ∧ (Lst L 22 → v84 = .agg #[.bool false, .slice none 0 0, v72, v83] ∧ Lst L 10 ∧ Lst L 21)) (by decide) (by kernel_rfl) (by kernel_rfl) ?step ?fin _ _ _ _ ?ini (by simp) (fun k _ => lst_none) (by simp)
  case ini => exact ⟨_, _, _, _, _, _, _, _, _, _, _, _, _, _, _, _, _, _, _, _, _, _, _, rfl, (Below.refl _ w1).drew, fun h => absurd h lst_none, fun h => absurd h lst_none, fun h => absurd h lst_none, fun h => absurd h lst_none, fun h => absurd h lst_none, fun h => absurd h lst_none, fun h => absurd h lst_none, fun h => absurd h lst_none, fun h => absurd h lst_none, fun h => absurd h lst_none, fun h => absurd h lst_none, fun h => absurd h lst_none, fun h => absurd h lst_none, fun h => absurd h lst_none, fun h => absurd h lst_none, fun h => absurd h lst_none, fun h => absurd h lst_none, fun h => absurd h lst_none, fun h => absurd h lst_none, fun h => absurd h lst_none, fun h => absurd h lst_none, fun h => absurd h lst_none, fun h => absurd h lst_none⟩
  case step =>
    intro f L a W hI i him hi
    obtain ⟨v62, v63, v64, v65, v66, v67, v68, v69, v70, v71, v72, v73, v74, v75, v76, v77, v78, v79, v80, v81, v82, v83, v84, rfl, hb, hf⟩ := hI
    have F := Lib.hid hf
    clear hf
    rcases (show i = 0 ∨ i = 1 ∨ i = 2 ∨ i = 3 ∨ i = 4 ∨ i = 5 ∨ i = 6 ∨ i = 7 ∨ i = 8 ∨ i = 9 ∨ i = 10 ∨ i = 11 ∨ i = 12 ∨ i = 13 ∨ i = 14 ∨ i = 15 ∨ i = 16 ∨ i = 17 ∨ i = 18 ∨ i = 19 ∨ i = 20 ∨ i = 21 ∨ i = 22 by omega) with rfl | rfl | rfl | rfl | rfl | rfl | rfl | rfl | rfl | rfl | rfl | rfl | rfl | rfl | rfl | rfl | rfl | rfl | rfl | rfl | rfl | rfl | rfl
    · clear him
      have HI := Lib.hid hi
      clear hi
      refine wpOp_step (o := _) rfl (fun K' hK => ?_)
      have HK := Lib.hid hK
      clear hK
      go_simp
      refine HK.out _ _ ⟨_, _, _, _, _, _, _, _, _, _, _, _, _, _, _, _, _, _, _, _, _, _, _, rfl, hb, fun _ => rfl, fun h => F.out.2.1 (lst_old (by decide) h), fun h => F.out.2.2.1 (lst_old (by decide) h), fun h => F.out.2.2.2.1 (lst_old (by decide) h), fun h => F.out.2.2.2.2.1 (lst_old (by decide) h), fun h => F.out.2.2.2.2.2.1 (lst_old (by decide) h), fun h => F.out.2.2.2.2.2.2.1 (lst_old (by decide) h), fun h => F.out.2.2.2.2.2.2.2.1 (lst_old (by decide) h), fun h => F.out.2.2.2.2.2.2.2.2.1 (lst_old (by decide) h), fun h => F.out.2.2.2.2.2.2.2.2.2.1 (lst_old (by decide) h), fun h => F.out.2.2.2.2.2.2.2.2.2.2.1 (lst_old (by decide) h), fun h => F.out.2.2.2.2.2.2.2.2.2.2.2.1 (lst_old (by decide) h), fun h => F.out.2.2.2.2.2.2.2.2.2.2.2.2.1 (lst_old (by decide) h), fun h => F.out.2.2.2.2.2.2.2.2.2.2.2.2.2.1 (lst_old (by decide) h), fun h => F.out.2.2.2.2.2.2.2.2.2.2.2.2.2.2.1 (lst_old (by decide) h), fun h => F.out.2.2.2.2.2.2.2.2.2.2.2.2.2.2.2.1 (lst_old (by decide) h), fun h => F.out.2.2.2.2.2.2.2.2.2.2.2.2.2.2.2.2.1 (lst_old (by decide) h), fun h => F.out.2.2.2.2.2.2.2.2.2.2.2.2.2.2.2.2.2.1 (lst_old (by decide) h), fun h => F.out.2.2.2.2.2.2.2.2.2.2.2.2.2.2.2.2.2.2.1 (lst_old (by decide) h), fun h => F.out.2.2.2.2.2.2.2.2.2.2.2.2.2.2.2.2.2.2.2.1 (lst_old (by decide) h), fun h => F.out.2.2.2.2.2.2.2.2.2.2.2.2.2.2.2.2.2.2.2.2.1 (lst_old (by decide) h), fun h => F.out.2.2.2.2.2.2.2.2.2.2.2.2.2.2.2.2.2.2.2.2.2.1 (lst_old (by decide) h), fun h => ⟨(F.out.2.2.2.2.2.2.2.2.2.2.2.2.2.2.2.2.2.2.2.2.2.2 (lst_old (by decide) h)).1, lst_keep (F.out.2.2.2.2.2.2.2.2.2.2.2.2.2.2.2.2.2.2.2.2.2.2 (lst_old (by decide) h)).2.1, lst_keep (F.out.2.2.2.2.2.2.2.2.2.2.2.2.2.2.2.2.2.2.2.2.2.2 (lst_old (by decide) h)).2.2⟩⟩
    · clear him
      have p0 := F.out.1 (ready_needs hi (by kernel_rfl))
      subst p0
      have hxx := hbx.below hb
      obtain ⟨b0, b1, b2, b3⟩ := hxx
      have HI := Lib.hid hi
      clear hi
      refine wpOp_step (o := _) rfl (fun K' hK => ?_)
      have HK := Lib.hid hK
      clear hK
      go_simp
      refine HK.out _ _ ⟨_, _, _, _, _, _, _, _, _, _, _, _, _, _, _, _, _, _, _, _, _, _, _, rfl, hb, fun h => F.out.1 (lst_old (by decide) h), fun _ => rfl, fun h => F.out.2.2.1 (lst_old (by decide) h), fun h => F.out.2.2.2.1 (lst_old (by decide) h), fun h => F.out.2.2.2.2.1 (lst_old (by decide) h), fun h => F.out.2.2.2.2.2.1 (lst_old (by decide) h), fun h => F.out.2.2.2.2.2.2.1 (lst_old (by decide) h), fun h => F.out.2.2.2.2.2.2.2.1 (lst_old (by decide) h), fun h => F.out.2.2.2.2.2.2.2.2.1 (lst_old (by decide) h), fun h => F.out.2.2.2.2.2.2.2.2.2.1 (lst_old (by decide) h), fun h => F.out.2.2.2.2.2.2.2.2.2.2.1 (lst_old (by decide) h), fun h => F.out.2.2.2.2.2.2.2.2.2.2.2.1 (lst_old (by decide) h), fun h => F.out.2.2.2.2.2.2.2.2.2.2.2.2.1 (lst_old (by decide) h), fun h => F.out.2.2.2.2.2.2.2.2.2.2.2.2.2.1 (lst_old (by decide) h), fun h => F.out.2.2.2.2.2.2.2.2.2.2.2.2.2.2.1 (lst_old (by decide) h), fun h => F.out.2.2.2.2.2.2.2.2.2.2.2.2.2.2.2.1 (lst_old (by decide) h), fun h => F.out.2.2.2.2.2.2.2.2.2.2.2.2.2.2.2.2.1 (lst_old (by decide) h), fun h => F.out.2.2.2.2.2.2.2.2.2.2.2.2.2.2.2.2.2.1 (lst_old (by decide) h), fun h => F.out.2.2.2.2.2.2.2.2.2.2.2.2.2.2.2.2.2.2.1 (lst_old (by decide) h), fun h => F.out.2.2.2.2.2.2.2.2.2.2.2.2.2.2.2.2.2.2.2.1 (lst_old (by decide) h), fun h => F.out.2.2.2.2.2.2.2.2.2.2.2.2.2.2.2.2.2.2.2.2.1 (lst_old (by decide) h), fun h => F.out.2.2.2.2.2.2.2.2.2.2.2.2.2.2.2.2.2.2.2.2.2.1 (lst_old (by decide) h), fun h => ⟨(F.out.2.2.2.2.2.2.2.2.2.2.2.2.2.2.2.2.2.2.2.2.2.2 (lst_old (by decide) h)).1, lst_keep (F.out.2.2.2.2.2.2.2.2.2.2.2.2.2.2.2.2.2.2.2.2.2.2 (lst_old (by decide) h)).2.1, lst_keep (F.out.2.2.2.2.2.2.2.2.2.2.2.2.2.2.2.2.2.2.2.2.2.2 (lst_old (by decide) h)).2.2⟩⟩
    · clear him
      have HI := Lib.hid hi
      clear hi
      refine wpOp_step (o := _) rfl (fun K' hK => ?_)
      have HK := Lib.hid hK
      clear hK
      go_simp
      refine HK.out _ _ ⟨_, _, _, _, _, _, _, _, _, _, _, _, _, _, _, _, _, _, _, _, _, _, _, rfl, hb, fun h => F.out.1 (lst_old (by decide) h), fun h => F.out.2.1 (lst_old (by decide) h), fun _ => rfl, fun h => F.out.2.2.2.1 (lst_old (by decide) h), fun h => F.out.2.2.2.2.1 (lst_old (by decide) h), fun h => F.out.2.2.2.2.2.1 (lst_old (by decide) h), fun h => F.out.2.2.2.2.2.2.1 (lst_old (by decide) h), fun h => F.out.2.2.2.2.2.2.2.1 (lst_old (by decide) h), fun h => F.out.2.2.2.2.2.2.2.2.1 (lst_old (by decide) h), fun h => F.out.2.2.2.2.2.2.2.2.2.1 (lst_old (by decide) h), fun h => F.out.2.2.2.2.2.2.2.2.2.2.1 (lst_old (by decide) h), fun h => F.out.2.2.2.2.2.2.2.2.2.2.2.1 (lst_old (by decide) h), fun h => F.out.2.2.2.2.2.2.2.2.2.2.2.2.1 (lst_old (by decide) h), fun h => F.out.2.2.2.2.2.2.2.2.2.2.2.2.2.1 (lst_old (by decide) h), fun h => F.out.2.2.2.2.2.2.2.2.2.2.2.2.2.2.1 (lst_old (by decide) h), fun h => F.out.2.2.2.2.2.2.2.2.2.2.2.2.2.2.2.1 (lst_old (by decide) h), fun h => F.out.2.2.2.2.2.2.2.2.2.2.2.2.2.2.2.2.1 (lst_old (by decide) h), fun h => F.out.2.2.2.2.2.2.2.2.2.2.2.2.2.2.2.2.2.1 (lst_old (by decide) h), fun h => F.out.2.2.2.2.2.2.2.2.2.2.2.2.2.2.2.2.2.2.1 (lst_old (by decide) h), fun h => F.out.2.2.2.2.2.2.2.2.2.2.2.2.2.2.2.2.2.2.2.1 (lst_old (by decide) h), fun h => F.out.2.2.2.2.2.2.2.2.2.2.2.2.2.2.2.2.2.2.2.2.1 (lst_old (by decide) h), fun h => F.out.2.2.2.2.2.2.2.2.2.2.2.2.2.2.2.2.2.2.2.2.2.1 (lst_old (by decide) h), fun h => ⟨(F.out.2.2.2.2.2.2.2.2.2.2.2.2.2.2.2.2.2.2.2.2.2.2 (lst_old (by decide) h)).1, lst_keep (F.out.2.2.2.2.2.2.2.2.2.2.2.2.2.2.2.2.2.2.2.2.2.2 (lst_old (by decide) h)).2.1, lst_keep (F.out.2.2.2.2.2.2.2.2.2.2.2.2.2.2.2.2.2.2.2.2.2.2 (lst_old (by decide) h)).2.2⟩⟩
    · clear him
      have p1 := F.out.2.1 (ready_needs hi (by kernel_rfl))
      have p2 := F.out.2.2.1 (ready_needs hi (by kernel_rfl))
      subst p1
      subst p2
      have HI := Lib.hid hi
      clear hi
      refine wpOp_step (o := _) rfl (fun K' hK => ?_)
      have HK := Lib.hid hK
      clear hK
      go_simp
      refine HK.out _ _ ⟨_, _, _, _, _, _, _, _, _, _, _, _, _, _, _, _, _, _, _, _, _, _, _, rfl, hb, fun h => F.out.1 (lst_old (by decide) h), fun h => F.out.2.1 (lst_old (by decide) h), fun h => F.out.2.2.1 (lst_old (by decide) h), fun _ => rfl, fun h => F.out.2.2.2.2.1 (lst_old (by decide) h), fun h => F.out.2.2.2.2.2.1 (lst_old (by decide) h), fun h => F.out.2.2.2.2.2.2.1 (lst_old (by decide) h), fun h => F.out.2.2.2.2.2.2.2.1 (lst_old (by decide) h), fun h => F.out.2.2.2.2.2.2.2.2.1 (lst_old (by decide) h), fun h => F.out.2.2.2.2.2.2.2.2.2.1 (lst_old (by decide) h), fun h => F.out.2.2.2.2.2.2.2.2.2.2.1 (lst_old (by decide) h), fun h => F.out.2.2.2.2.2.2.2.2.2.2.2.1 (lst_old (by decide) h), fun h => F.out.2.2.2.2.2.2.2.2.2.2.2.2.1 (lst_old (by decide) h), fun h => F.out.2.2.2.2.2.2.2.2.2.2.2.2.2.1 (lst_old (by decide) h), fun h => F.out.2.2.2.2.2.2.2.2.2.2.2.2.2.2.1 (lst_old (by decide) h), fun h => F.out.2.2.2.2.2.2.2.2.2.2.2.2.2.2.2.1 (lst_old (by decide) h), fun h => F.out.2.2.2.2.2.2.2.2.2.2.2.2.2.2.2.2.1 (lst_old (by decide) h), fun h => F.out.2.2.2.2.2.2.2.2.2.2.2.2.2.2.2.2.2.1 (lst_old (by decide) h), fun h => F.out.2.2.2.2.2.2.2.2.2.2.2.2.2.2.2.2.2.2.1 (lst_old (by decide) h), fun h => F.out.2.2.2.2.2.2.2.2.2.2.2.2.2.2.2.2.2.2.2.1 (lst_old (by decide) h), fun h => F.out.2.2.2.2.2.2.2.2.2.2.2.2.2.2.2.2.2.2.2.2.1 (lst_old (by decide) h), fun h => F.out.2.2.2.2.2.2.2.2.2.2.2.2.2.2.2.2.2.2.2.2.2.1 (lst_old (by decide) h), fun h => ⟨(F.out.2.2.2.2.2.2.2.2.2.2.2.2.2.2.2.2.2.2.2.2.2.2 (lst_old (by decide) h)).1, lst_keep (F.out.2.2.2.2.2.2.2.2.2.2.2.2.2.2.2.2.2.2.2.2.2.2 (lst_old (by decide) h)).2.1, lst_keep (F.out.2.2.2.2.2.2.2.2.2.2.2.2.2.2.2.2.2.2.2.2.2.2 (lst_old (by decide) h)).2.2⟩⟩
    · clear him
      have HI := Lib.hid hi
      clear hi
      refine wpOp_step (o := _) rfl (fun K' hK => ?_)
      have HK := Lib.hid hK
      clear hK
      go_simp
      refine HK.out _ _ ⟨_, _, _, _, _, _, _, _, _, _, _, _, _, _, _, _, _, _, _, _, _, _, _, rfl, hb, fun h => F.out.1 (lst_old (by decide) h), fun h => F.out.2.1 (lst_old (by decide) h), fun h => F.out.2.2.1 (lst_old (by decide) h), fun h => F.out.2.2.2.1 (lst_old (by decide) h), fun _ => rfl, fun h => F.out.2.2.2.2.2.1 (lst_old (by decide) h), fun h => F.out.2.2.2.2.2.2.1 (lst_old (by decide) h), fun h => F.out.2.2.2.2.2.2.2.1 (lst_old (by decide) h), fun h => F.out.2.2.2.2.2.2.2.2.1 (lst_old (by decide) h), fun h => F.out.2.2.2.2.2.2.2.2.2.1 (lst_old (by decide) h), fun h => F.out.2.2.2.2.2.2.2.2.2.2.1 (lst_old (by decide) h), fun h => F.out.2.2.2.2.2.2.2.2.2.2.2.1 (lst_old (by decide) h), fun h => F.out.2.2.2.2.2.2.2.2.2.2.2.2.1 (lst_old (by decide) h), fun h => F.out.2.2.2.2.2.2.2.2.2.2.2.2.2.1 (lst_old (by decide) h), fun h => F.out.2.2.2.2.2.2.2.2.2.2.2.2.2.2.1 (lst_old (by decide) h), fun h => F.out.2.2.2.2.2.2.2.2.2.2.2.2.2.2.2.1 (lst_old (by decide) h), fun h => F.out.2.2.2.2.2.2.2.2.2.2.2.2.2.2.2.2.1 (lst_old (by decide) h), fun h => F.out.2.2.2.2.2.2.2.2.2.2.2.2.2.2.2.2.2.1 (lst_old (by decide) h), fun h => F.out.2.2.2.2.2.2.2.2.2.2.2.2.2.2.2.2.2.2.1 (lst_old (by decide) h), fun h => F.out.2.2.2.2.2.2.2.2.2.2.2.2.2.2.2.2.2.2.2.1 (lst_old (by decide) h), fun h => F.out.2.2.2.2.2.2.2.2.2.2.2.2.2.2.2.2.2.2.2.2.1 (lst_old (by decide) h), fun h => F.out.2.2.2.2.2.2.2.2.2.2.2.2.2.2.2.2.2.2.2.2.2.1 (lst_old (by decide) h), fun h => ⟨(F.out.2.2.2.2.2.2.2.2.2.2.2.2.2.2.2.2.2.2.2.2.2.2 (lst_old (by decide) h)).1, lst_keep (F.out.2.2.2.2.2.2.2.2.2.2.2.2.2.2.2.2.2.2.2.2.2.2 (lst_old (by decide) h)).2.1, lst_keep (F.out.2.2.2.2.2.2.2.2.2.2.2.2.2.2.2.2.2.2.2.2.2.2 (lst_old (by decide) h)).2.2⟩⟩
    · clear him
      have HI := Lib.hid hi
      clear hi
      refine wpOp_step (o := _) rfl (fun K' hK => ?_)
      have HK := Lib.hid hK
      clear hK
      go_simp
      refine HK.out _ _ ⟨_, _, _, _, _, _, _, _, _, _, _, _, _, _, _, _, _, _, _, _, _, _, _, rfl, hb, fun h => F.out.1 (lst_old (by decide) h), fun h => F.out.2.1 (lst_old (by decide) h), fun h => F.out.2.2.1 (lst_old (by decide) h), fun h => F.out.2.2.2.1 (lst_old (by decide) h), fun h => F.out.2.2.2.2.1 (lst_old (by decide) h), fun _ => rfl, fun h => F.out.2.2.2.2.2.2.1 (lst_old (by decide) h), fun h => F.out.2.2.2.2.2.2.2.1 (lst_old (by decide) h), fun h => F.out.2.2.2.2.2.2.2.2.1 (lst_old (by decide) h), fun h => F.out.2.2.2.2.2.2.2.2.2.1 (lst_old (by decide) h), fun h => F.out.2.2.2.2.2.2.2.2.2.2.1 (lst_old (by decide) h), fun h => F.out.2.2.2.2.2.2.2.2.2.2.2.1 (lst_old (by decide) h), fun h => F.out.2.2.2.2.2.2.2.2.2.2.2.2.1 (lst_old (by decide) h), fun h => F.out.2.2.2.2.2.2.2.2.2.2.2.2.2.1 (lst_old (by decide) h), fun h => F.out.2.2.2.2.2.2.2.2.2.2.2.2.2.2.1 (lst_old (by decide) h), fun h => F.out.2.2.2.2.2.2.2.2.2.2.2.2.2.2.2.1 (lst_old (by decide) h), fun h => F.out.2.2.2.2.2.2.2.2.2.2.2.2.2.2.2.2.1 (lst_old (by decide) h), fun h => F.out.2.2.2.2.2.2.2.2.2.2.2.2.2.2.2.2.2.1 (lst_old (by decide) h), fun h => F.out.2.2.2.2.2.2.2.2.2.2.2.2.2.2.2.2.2.2.1 (lst_old (by decide) h), fun h => F.out.2.2.2.2.2.2.2.2.2.2.2.2.2.2.2.2.2.2.2.1 (lst_old (by decide) h), fun h => F.out.2.2.2.2.2.2.2.2.2.2.2.2.2.2.2.2.2.2.2.2.1 (lst_old (by decide) h), fun h => F.out.2.2.2.2.2.2.2.2.2.2.2.2.2.2.2.2.2.2.2.2.2.1 (lst_old (by decide) h), fun h => ⟨(F.out.2.2.2.2.2.2.2.2.2.2.2.2.2.2.2.2.2.2.2.2.2.2 (lst_old (by decide) h)).1, lst_keep (F.out.2.2.2.2.2.2.2.2.2.2.2.2.2.2.2.2.2.2.2.2.2.2 (lst_old (by decide) h)).2.1, lst_keep (F.out.2.2.2.2.2.2.2.2.2.2.2.2.2.2.2.2.2.2.2.2.2.2 (lst_old (by decide) h)).2.2⟩⟩
    · clear him
      have p5 := F.out.2.2.2.2.2.1 (ready_needs hi (by kernel_rfl))
      subst p5
      have hxx := hbx.below hb
      obtain ⟨b0, b1, b2, b3⟩ := hxx
      have HI := Lib.hid hi
      clear hi
      refine wpOp_step (o := _) rfl (fun K' hK => ?_)
      have HK := Lib.hid hK
      clear hK
      go_simp
      refine HK.out _ _ ⟨_, _, _, _, _, _, _, _, _, _, _, _, _, _, _, _, _, _, _, _, _, _, _, rfl, hb, fun h => F.out.1 (lst_old (by decide) h), fun h => F.out.2.1 (lst_old (by decide) h), fun h => F.out.2.2.1 (lst_old (by decide) h), fun h => F.out.2.2.2.1 (lst_old (by decide) h), fun h => F.out.2.2.2.2.1 (lst_old (by decide) h), fun h => F.out.2.2.2.2.2.1 (lst_old (by decide) h), fun _ => rfl, fun h => F.out.2.2.2.2.2.2.2.1 (lst_old (by decide) h), fun h => F.out.2.2.2.2.2.2.2.2.1 (lst_old (by decide) h), fun h => F.out.2.2.2.2.2.2.2.2.2.1 (lst_old (by decide) h), fun h => F.out.2.2.2.2.2.2.2.2.2.2.1 (lst_old (by decide) h), fun h => F.out.2.2.2.2.2.2.2.2.2.2.2.1 (lst_old (by decide) h), fun h => F.out.2.2.2.2.2.2.2.2.2.2.2.2.1 (lst_old (by decide) h), fun h => F.out.2.2.2.2.2.2.2.2.2.2.2.2.2.1 (lst_old (by decide) h), fun h => F.out.2.2.2.2.2.2.2.2.2.2.2.2.2.2.1 (lst_old (by decide) h), fun h => F.out.2.2.2.2.2.2.2.2.2.2.2.2.2.2.2.1 (lst_old (by decide) h), fun h => F.out.2.2.2.2.2.2.2.2.2.2.2.2.2.2.2.2.1 (lst_old (by decide) h), fun h => F.out.2.2.2.2.2.2.2.2.2.2.2.2.2.2.2.2.2.1 (lst_old (by decide) h), fun h => F.out.2.2.2.2.2.2.2.2.2.2.2.2.2.2.2.2.2.2.1 (lst_old (by decide) h), fun h => F.out.2.2.2.2.2.2.2.2.2.2.2.2.2.2.2.2.2.2.2.1 (lst_old (by decide) h), fun h => F.out.2.2.2.2.2.2.2.2.2.2.2.2.2.2.2.2.2.2.2.2.1 (lst_old (by decide) h), fun h => F.out.2.2.2.2.2.2.2.2.2.2.2.2.2.2.2.2.2.2.2.2.2.1 (lst_old (by decide) h), fun h => ⟨(F.out.2.2.2.2.2.2.2.2.2.2.2.2.2.2.2.2.2.2.2.2.2.2 (lst_old (by decide) h)).1, lst_keep (F.out.2.2.2.2.2.2.2.2.2.2.2.2.2.2.2.2.2.2.2.2.2.2 (lst_old (by decide) h)).2.1, lst_keep (F.out.2.2.2.2.2.2.2.2.2.2.2.2.2.2.2.2.2.2.2.2.2.2 (lst_old (by decide) h)).2.2⟩⟩
    · clear him
      have HI := Lib.hid hi
      clear hi
      refine wpOp_step (o := _) rfl (fun K' hK => ?_)
      have HK := Lib.hid hK
      clear hK
      go_simp
      refine HK.out _ _ ⟨_, _, _, _, _, _, _, _, _, _, _, _, _, _, _, _, _, _, _, _, _, _, _, rfl, hb, fun h => F.out.1 (lst_old (by decide) h), fun h => F.out.2.1 (lst_old (by decide) h), fun h => F.out.2.2.1 (lst_old (by decide) h), fun h => F.out.2.2.2.1 (lst_old (by decide) h), fun h => F.out.2.2.2.2.1 (lst_old (by decide) h), fun h => F.out.2.2.2.2.2.1 (lst_old (by decide) h), fun h => F.out.2.2.2.2.2.2.1 (lst_old (by decide) h), fun _ => rfl, fun h => F.out.2.2.2.2.2.2.2.2.1 (lst_old (by decide) h), fun h => F.out.2.2.2.2.2.2.2.2.2.1 (lst_old (by decide) h), fun h => F.out.2.2.2.2.2.2.2.2.2.2.1 (lst_old (by decide) h), fun h => F.out.2.2.2.2.2.2.2.2.2.2.2.1 (lst_old (by decide) h), fun h => F.out.2.2.2.2.2.2.2.2.2.2.2.2.1 (lst_old (by decide) h), fun h => F.out.2.2.2.2.2.2.2.2.2.2.2.2.2.1 (lst_old (by decide) h), fun h => F.out.2.2.2.2.2.2.2.2.2.2.2.2.2.2.1 (lst_old (by decide) h), fun h => F.out.2.2.2.2.2.2.2.2.2.2.2.2.2.2.2.1 (lst_old (by decide) h), fun h => F.out.2.2.2.2.2.2.2.2.2.2.2.2.2.2.2.2.1 (lst_old (by decide) h), fun h => F.out.2.2.2.2.2.2.2.2.2.2.2.2.2.2.2.2.2.1 (lst_old (by decide) h), fun h => F.out.2.2.2.2.2.2.2.2.2.2.2.2.2.2.2.2.2.2.1 (lst_old (by decide) h), fun h => F.out.2.2.2.2.2.2.2.2.2.2.2.2.2.2.2.2.2.2.2.1 (lst_old (by decide) h), fun h => F.out.2.2.2.2.2.2.2.2.2.2.2.2.2.2.2.2.2.2.2.2.1 (lst_old (by decide) h), fun h => F.out.2.2.2.2.2.2.2.2.2.2.2.2.2.2.2.2.2.2.2.2.2.1 (lst_old (by decide) h), fun h => ⟨(F.out.2.2.2.2.2.2.2.2.2.2.2.2.2.2.2.2.2.2.2.2.2.2 (lst_old (by decide) h)).1, lst_keep (F.out.2.2.2.2.2.2.2.2.2.2.2.2.2.2.2.2.2.2.2.2.2.2 (lst_old (by decide) h)).2.1, lst_keep (F.out.2.2.2.2.2.2.2.2.2.2.2.2.2.2.2.2.2.2.2.2.2.2 (lst_old (by decide) h)).2.2⟩⟩
    · clear him
      have p6 := F.out.2.2.2.2.2.2.1 (ready_needs hi (by kernel_rfl))
      have p7 := F.out.2.2.2.2.2.2.2.1 (ready_needs hi (by kernel_rfl))
      subst p6
      subst p7
      rcases HU.out with ⟨r1, r2⟩ | ⟨b, o, r1, r2, r3⟩
      · injection r2 with u1 u2 u3; subst r1 u1 u2 u3
        have HI := Lib.hid hi
        clear hi
        refine wpOp_step (o := _) rfl (fun K' hK => ?_)
        have HK := Lib.hid hK
        clear hK
        go_simp
        refine HK.out _ _ ⟨_, _, _, _, _, _, _, _, _, _, _, _, _, _, _, _, _, _, _, _, _, _, _, rfl, hb, fun h => F.out.1 (lst_old (by decide) h), fun h => F.out.2.1 (lst_old (by decide) h), fun h => F.out.2.2.1 (lst_old (by decide) h), fun h => F.out.2.2.2.1 (lst_old (by decide) h), fun h => F.out.2.2.2.2.1 (lst_old (by decide) h), fun h => F.out.2.2.2.2.2.1 (lst_old (by decide) h), fun h => F.out.2.2.2.2.2.2.1 (lst_old (by decide) h), fun h => F.out.2.2.2.2.2.2.2.1 (lst_old (by decide) h), fun _ => rfl, fun h => F.out.2.2.2.2.2.2.2.2.2.1 (lst_old (by decide) h), fun h => F.out.2.2.2.2.2.2.2.2.2.2.1 (lst_old (by decide) h), fun h => F.out.2.2.2.2.2.2.2.2.2.2.2.1 (lst_old (by decide) h), fun h => F.out.2.2.2.2.2.2.2.2.2.2.2.2.1 (lst_old (by decide) h), fun h => F.out.2.2.2.2.2.2.2.2.2.2.2.2.2.1 (lst_old (by decide) h), fun h => F.out.2.2.2.2.2.2.2.2.2.2.2.2.2.2.1 (lst_old (by decide) h), fun h => F.out.2.2.2.2.2.2.2.2.2.2.2.2.2.2.2.1 (lst_old (by decide) h), fun h => F.out.2.2.2.2.2.2.2.2.2.2.2.2.2.2.2.2.1 (lst_old (by decide) h), fun h => F.out.2.2.2.2.2.2.2.2.2.2.2.2.2.2.2.2.2.1 (lst_old (by decide) h), fun h => F.out.2.2.2.2.2.2.2.2.2.2.2.2.2.2.2.2.2.2.1 (lst_old (by decide) h), fun h => F.out.2.2.2.2.2.2.2.2.2.2.2.2.2.2.2.2.2.2.2.1 (lst_old (by decide) h), fun h => F.out.2.2.2.2.2.2.2.2.2.2.2.2.2.2.2.2.2.2.2.2.1 (lst_old (by decide) h), fun h => F.out.2.2.2.2.2.2.2.2.2.2.2.2.2.2.2.2.2.2.2.2.2.1 (lst_old (by decide) h), fun h => ⟨(F.out.2.2.2.2.2.2.2.2.2.2.2.2.2.2.2.2.2.2.2.2.2.2 (lst_old (by decide) h)).1, lst_keep (F.out.2.2.2.2.2.2.2.2.2.2.2.2.2.2.2.2.2.2.2.2.2.2 (lst_old (by decide) h)).2.1, lst_keep (F.out.2.2.2.2.2.2.2.2.2.2.2.2.2.2.2.2.2.2.2.2.2.2 (lst_old (by decide) h)).2.2⟩⟩
      · injection r3 with u1 u2 u3; subst r1 u1 u2 u3
        have HI := Lib.hid hi
        clear hi
        refine wpOp_step (o := _) rfl (fun K' hK => ?_)
        have HK := Lib.hid hK
        clear hK
        go_simp
        refine HK.out _ _ ⟨_, _, _, _, _, _, _, _, _, _, _, _, _, _, _, _, _, _, _, _, _, _, _, rfl, hb, fun h => F.out.1 (lst_old (by decide) h), fun h => F.out.2.1 (lst_old (by decide) h), fun h => F.out.2.2.1 (lst_old (by decide) h), fun h => F.out.2.2.2.1 (lst_old (by decide) h), fun h => F.out.2.2.2.2.1 (lst_old (by decide) h), fun h => F.out.2.2.2.2.2.1 (lst_old (by decide) h), fun h => F.out.2.2.2.2.2.2.1 (lst_old (by decide) h), fun h => F.out.2.2.2.2.2.2.2.1 (lst_old (by decide) h), fun _ => rfl, fun h => F.out.2.2.2.2.2.2.2.2.2.1 (lst_old (by decide) h), fun h => F.out.2.2.2.2.2.2.2.2.2.2.1 (lst_old (by decide) h), fun h => F.out.2.2.2.2.2.2.2.2.2.2.2.1 (lst_old (by decide) h), fun h => F.out.2.2.2.2.2.2.2.2.2.2.2.2.1 (lst_old (by decide) h), fun h => F.out.2.2.2.2.2.2.2.2.2.2.2.2.2.1 (lst_old (by decide) h), fun h => F.out.2.2.2.2.2.2.2.2.2.2.2.2.2.2.1 (lst_old (by decide) h), fun h => F.out.2.2.2.2.2.2.2.2.2.2.2.2.2.2.2.1 (lst_old (by decide) h), fun h => F.out.2.2.2.2.2.2.2.2.2.2.2.2.2.2.2.2.1 (lst_old (by decide) h), fun h => F.out.2.2.2.2.2.2.2.2.2.2.2.2.2.2.2.2.2.1 (lst_old (by decide) h), fun h => F.out.2.2.2.2.2.2.2.2.2.2.2.2.2.2.2.2.2.2.1 (lst_old (by decide) h), fun h => F.out.2.2.2.2.2.2.2.2.2.2.2.2.2.2.2.2.2.2.2.1 (lst_old (by decide) h), fun h => F.out.2.2.2.2.2.2.2.2.2.2.2.2.2.2.2.2.2.2.2.2.1 (lst_old (by decide) h), fun h => F.out.2.2.2.2.2.2.2.2.2.2.2.2.2.2.2.2.2.2.2.2.2.1 (lst_old (by decide) h), fun h => ⟨(F.out.2.2.2.2.2.2.2.2.2.2.2.2.2.2.2.2.2.2.2.2.2.2 (lst_old (by decide) h)).1, lst_keep (F.out.2.2.2.2.2.2.2.2.2.2.2.2.2.2.2.2.2.2.2.2.2.2 (lst_old (by decide) h)).2.1, lst_keep (F.out.2.2.2.2.2.2.2.2.2.2.2.2.2.2.2.2.2.2.2.2.2.2 (lst_old (by decide) h)).2.2⟩⟩
    · clear him
      have p3 := F.out.2.2.2.1 (ready_needs hi (by kernel_rfl))
      have p4 := F.out.2.2.2.2.1 (ready_needs hi (by kernel_rfl))
      have p8 := F.out.2.2.2.2.2.2.2.2.1 (ready_needs hi (by kernel_rfl))
      subst p3
      subst p4
      subst p8
      have HI := Lib.hid hi
      clear hi
      refine wpOp_step (o := _) rfl (fun K' hK => ?_)
      have HK := Lib.hid hK
      clear hK
      go_simp
      refine HK.out _ _ ⟨_, _, _, _, _, _, _, _, _, _, _, _, _, _, _, _, _, _, _, _, _, _, _, rfl, (hb.alloc hb.size _), fun h => F.out.1 (lst_old (by decide) h), fun h => F.out.2.1 (lst_old (by decide) h), fun h => F.out.2.2.1 (lst_old (by decide) h), fun h => F.out.2.2.2.1 (lst_old (by decide) h), fun h => F.out.2.2.2.2.1 (lst_old (by decide) h), fun h => F.out.2.2.2.2.2.1 (lst_old (by decide) h), fun h => F.out.2.2.2.2.2.2.1 (lst_old (by decide) h), fun h => F.out.2.2.2.2.2.2.2.1 (lst_old (by decide) h), fun h => F.out.2.2.2.2.2.2.2.2.1 (lst_old (by decide) h), fun _ => Cl.new W _ 67 3 rfl, fun h => own_below (F.out.2.2.2.2.2.2.2.2.2.2.1 (lst_old (by decide) h)) ((Below.refl _ W).alloc (Nat.le_refl _) _), fun h => F.out.2.2.2.2.2.2.2.2.2.2.2.1 (lst_old (by decide) h), fun h => F.out.2.2.2.2.2.2.2.2.2.2.2.2.1 (lst_old (by decide) h), fun h => F.out.2.2.2.2.2.2.2.2.2.2.2.2.2.1 (lst_old (by decide) h), fun h => F.out.2.2.2.2.2.2.2.2.2.2.2.2.2.2.1 (lst_old (by decide) h), fun h => F.out.2.2.2.2.2.2.2.2.2.2.2.2.2.2.2.1 (lst_old (by decide) h), fun h => F.out.2.2.2.2.2.2.2.2.2.2.2.2.2.2.2.2.1 (lst_old (by decide) h), fun h => F.out.2.2.2.2.2.2.2.2.2.2.2.2.2.2.2.2.2.1 (lst_old (by decide) h), fun h => F.out.2.2.2.2.2.2.2.2.2.2.2.2.2.2.2.2.2.2.1 (lst_old (by decide) h), fun h => F.out.2.2.2.2.2.2.2.2.2.2.2.2.2.2.2.2.2.2.2.1 (lst_old (by decide) h), fun h => Cl.below (F.out.2.2.2.2.2.2.2.2.2.2.2.2.2.2.2.2.2.2.2.2.1 (lst_old (by decide) h)) ((Below.refl _ W).alloc (Nat.le_refl _) _), fun h => own_below (F.out.2.2.2.2.2.2.2.2.2.2.2.2.2.2.2.2.2.2.2.2.2.1 (lst_old (by decide) h)) ((Below.refl _ W).alloc (Nat.le_refl _) _), fun h => ⟨(F.out.2.2.2.2.2.2.2.2.2.2.2.2.2.2.2.2.2.2.2.2.2.2 (lst_old (by decide) h)).1, lst_keep (F.out.2.2.2.2.2.2.2.2.2.2.2.2.2.2.2.2.2.2.2.2.2.2 (lst_old (by decide) h)).2.1, lst_keep (F.out.2.2.2.2.2.2.2.2.2.2.2.2.2.2.2.2.2.2.2.2.2.2 (lst_old (by decide) h)).2.2⟩⟩
    · clear him
      have p9 := F.out.2.2.2.2.2.2.2.2.2.1 (ready_needs hi (by kernel_rfl))
      have P9 := Lib.hid p9
      clear p9
      have HI := Lib.hid hi
      clear hi
      refine wpOp_step (o := _) rfl (fun K' hK => ?_)
      have HK := Lib.hid hK
      clear hK
      go_simp
      refine (gl_i [(.slice k0 i kc, ks.take i), (.slice x0 xn xc, xs), (.slice ua un uc, ks.drop j)] P9.out (all3 (HKA.out.below hb) (HX.out.below hb) (HUI.out.below hb)) (by simp) HLK.out KK HKF.out).mono ?_
      rintro r W2 ⟨x, rfl, hown, hb2⟩
      refine HK.out _ _ ⟨_, _, _, _, _, _, _, _, _, _, _, _, _, _, _, _, _, _, _, _, _, _, _, rfl, (hb.trans (hb2.mono hb.size)), fun h => F.out.1 (lst_old (by decide) h), fun h => F.out.2.1 (lst_old (by decide) h), fun h => F.out.2.2.1 (lst_old (by decide) h), fun h => F.out.2.2.2.1 (lst_old (by decide) h), fun h => F.out.2.2.2.2.1 (lst_old (by decide) h), fun h => F.out.2.2.2.2.2.1 (lst_old (by decide) h), fun h => F.out.2.2.2.2.2.2.1 (lst_old (by decide) h), fun h => F.out.2.2.2.2.2.2.2.1 (lst_old (by decide) h), fun h => F.out.2.2.2.2.2.2.2.2.1 (lst_old (by decide) h), fun h => Cl.below (F.out.2.2.2.2.2.2.2.2.2.1 (lst_old (by decide) h)) hb2, fun _ => own_mono (HKN.out ▸ hown) hb.size, fun h => F.out.2.2.2.2.2.2.2.2.2.2.2.1 (lst_old (by decide) h), fun h => F.out.2.2.2.2.2.2.2.2.2.2.2.2.1 (lst_old (by decide) h), fun h => F.out.2.2.2.2.2.2.2.2.2.2.2.2.2.1 (lst_old (by decide) h), fun h => F.out.2.2.2.2.2.2.2.2.2.2.2.2.2.2.1 (lst_old (by decide) h), fun h => F.out.2.2.2.2.2.2.2.2.2.2.2.2.2.2.2.1 (lst_old (by decide) h), fun h => F.out.2.2.2.2.2.2.2.2.2.2.2.2.2.2.2.2.1 (lst_old (by decide) h), fun h => F.out.2.2.2.2.2.2.2.2.2.2.2.2.2.2.2.2.2.1 (lst_old (by decide) h), fun h => F.out.2.2.2.2.2.2.2.2.2.2.2.2.2.2.2.2.2.2.1 (lst_old (by decide) h), fun h => F.out.2.2.2.2.2.2.2.2.2.2.2.2.2.2.2.2.2.2.2.1 (lst_old (by decide) h), fun h => Cl.below (F.out.2.2.2.2.2.2.2.2.2.2.2.2.2.2.2.2.2.2.2.2.1 (lst_old (by decide) h)) hb2, fun h => own_below (F.out.2.2.2.2.2.2.2.2.2.2.2.2.2.2.2.2.2.2.2.2.2.1 (lst_old (by decide) h)) hb2, fun h => absurd (F.out.2.2.2.2.2.2.2.2.2.2.2.2.2.2.2.2.2.2.2.2.2.2 (lst_old (by decide) h)).2.1 (ready_not HI.out)⟩
    · clear him
      have HI := Lib.hid hi
      clear hi
      refine wpOp_step (o := _) rfl (fun K' hK => ?_)
      have HK := Lib.hid hK
      clear hK
      go_simp
      refine HK.out _ _ ⟨_, _, _, _, _, _, _, _, _, _, _, _, _, _, _, _, _, _, _, _, _, _, _, rfl, hb, fun h => F.out.1 (lst_old (by decide) h), fun h => F.out.2.1 (lst_old (by decide) h), fun h => F.out.2.2.1 (lst_old (by decide) h), fun h => F.out.2.2.2.1 (lst_old (by decide) h), fun h => F.out.2.2.2.2.1 (lst_old (by decide) h), fun h => F.out.2.2.2.2.2.1 (lst_old (by decide) h), fun h => F.out.2.2.2.2.2.2.1 (lst_old (by decide) h), fun h => F.out.2.2.2.2.2.2.2.1 (lst_old (by decide) h), fun h => F.out.2.2.2.2.2.2.2.2.1 (lst_old (by decide) h), fun h => F.out.2.2.2.2.2.2.2.2.2.1 (lst_old (by decide) h), fun h => F.out.2.2.2.2.2.2.2.2.2.2.1 (lst_old (by decide) h), fun _ => rfl, fun h => F.out.2.2.2.2.2.2.2.2.2.2.2.2.1 (lst_old (by decide) h), fun h => F.out.2.2.2.2.2.2.2.2.2.2.2.2.2.1 (lst_old (by decide) h), fun h => F.out.2.2.2.2.2.2.2.2.2.2.2.2.2.2.1 (lst_old (by decide) h), fun h => F.out.2.2.2.2.2.2.2.2.2.2.2.2.2.2.2.1 (lst_old (by decide) h), fun h => F.out.2.2.2.2.2.2.2.2.2.2.2.2.2.2.2.2.1 (lst_old (by decide) h), fun h => F.out.2.2.2.2.2.2.2.2.2.2.2.2.2.2.2.2.2.1 (lst_old (by decide) h), fun h => F.out.2.2.2.2.2.2.2.2.2.2.2.2.2.2.2.2.2.2.1 (lst_old (by decide) h), fun h => F.out.2.2.2.2.2.2.2.2.2.2.2.2.2.2.2.2.2.2.2.1 (lst_old (by decide) h), fun h => F.out.2.2.2.2.2.2.2.2.2.2.2.2.2.2.2.2.2.2.2.2.1 (lst_old (by decide) h), fun h => F.out.2.2.2.2.2.2.2.2.2.2.2.2.2.2.2.2.2.2.2.2.2.1 (lst_old (by decide) h), fun h => ⟨(F.out.2.2.2.2.2.2.2.2.2.2.2.2.2.2.2.2.2.2.2.2.2.2 (lst_old (by decide) h)).1, lst_keep (F.out.2.2.2.2.2.2.2.2.2.2.2.2.2.2.2.2.2.2.2.2.2.2 (lst_old (by decide) h)).2.1, lst_keep (F.out.2.2.2.2.2.2.2.2.2.2.2.2.2.2.2.2.2.2.2.2.2.2 (lst_old (by decide) h)).2.2⟩⟩
    · clear him
      have p11 := F.out.2.2.2.2.2.2.2.2.2.2.2.1 (ready_needs hi (by kernel_rfl))
      subst p11
      have hxx := hbx.below hb
      obtain ⟨b0, b1, b2, b3⟩ := hxx
      have HI := Lib.hid hi
      clear hi
      refine wpOp_step (o := _) rfl (fun K' hK => ?_)
      have HK := Lib.hid hK
      clear hK
      go_simp
      refine HK.out _ _ ⟨_, _, _, _, _, _, _, _, _, _, _, _, _, _, _, _, _, _, _, _, _, _, _, rfl, hb, fun h => F.out.1 (lst_old (by decide) h), fun h => F.out.2.1 (lst_old (by decide) h), fun h => F.out.2.2.1 (lst_old (by decide) h), fun h => F.out.2.2.2.1 (lst_old (by decide) h), fun h => F.out.2.2.2.2.1 (lst_old (by decide) h), fun h => F.out.2.2.2.2.2.1 (lst_old (by decide) h), fun h => F.out.2.2.2.2.2.2.1 (lst_old (by decide) h), fun h => F.out.2.2.2.2.2.2.2.1 (lst_old (by decide) h), fun h => F.out.2.2.2.2.2.2.2.2.1 (lst_old (by decide) h), fun h => F.out.2.2.2.2.2.2.2.2.2.1 (lst_old (by decide) h), fun h => F.out.2.2.2.2.2.2.2.2.2.2.1 (lst_old (by decide) h), fun h => F.out.2.2.2.2.2.2.2.2.2.2.2.1 (lst_old (by decide) h), fun _ => rfl, fun h => F.out.2.2.2.2.2.2.2.2.2.2.2.2.2.1 (lst_old (by decide) h), fun h => F.out.2.2.2.2.2.2.2.2.2.2.2.2.2.2.1 (lst_old (by decide) h), fun h => F.out.2.2.2.2.2.2.2.2.2.2.2.2.2.2.2.1 (lst_old (by decide) h), fun h => F.out.2.2.2.2.2.2.2.2.2.2.2.2.2.2.2.2.1 (lst_old (by decide) h), fun h => F.out.2.2.2.2.2.2.2.2.2.2.2.2.2.2.2.2.2.1 (lst_old (by decide) h), fun h => F.out.2.2.2.2.2.2.2.2.2.2.2.2.2.2.2.2.2.2.1 (lst_old (by decide) h), fun h => F.out.2.2.2.2.2.2.2.2.2.2.2.2.2.2.2.2.2.2.2.1 (lst_old (by decide) h), fun h => F.out.2.2.2.2.2.2.2.2.2.2.2.2.2.2.2.2.2.2.2.2.1 (lst_old (by decide) h), fun h => F.out.2.2.2.2.2.2.2.2.2.2.2.2.2.2.2.2.2.2.2.2.2.1 (lst_old (by decide) h), fun h => ⟨(F.out.2.2.2.2.2.2.2.2.2.2.2.2.2.2.2.2.2.2.2.2.2.2 (lst_old (by decide) h)).1, lst_keep (F.out.2.2.2.2.2.2.2.2.2.2.2.2.2.2.2.2.2.2.2.2.2.2 (lst_old (by decide) h)).2.1, lst_keep (F.out.2.2.2.2.2.2.2.2.2.2.2.2.2.2.2.2.2.2.2.2.2.2 (lst_old (by decide) h)).2.2⟩⟩
    · clear him
      have HI := Lib.hid hi
      clear hi
      refine wpOp_step (o := _) rfl (fun K' hK => ?_)
      have HK := Lib.hid hK
      clear hK
      go_simp
      refine HK.out _ _ ⟨_, _, _, _, _, _, _, _, _, _, _, _, _, _, _, _, _, _, _, _, _, _, _, rfl, hb, fun h => F.out.1 (lst_old (by decide) h), fun h => F.out.2.1 (lst_old (by decide) h), fun h => F.out.2.2.1 (lst_old (by decide) h), fun h => F.out.2.2.2.1 (lst_old (by decide) h), fun h => F.out.2.2.2.2.1 (lst_old (by decide) h), fun h => F.out.2.2.2.2.2.1 (lst_old (by decide) h), fun h => F.out.2.2.2.2.2.2.1 (lst_old (by decide) h), fun h => F.out.2.2.2.2.2.2.2.1 (lst_old (by decide) h), fun h => F.out.2.2.2.2.2.2.2.2.1 (lst_old (by decide) h), fun h => F.out.2.2.2.2.2.2.2.2.2.1 (lst_old (by decide) h), fun h => F.out.2.2.2.2.2.2.2.2.2.2.1 (lst_old (by decide) h), fun h => F.out.2.2.2.2.2.2.2.2.2.2.2.1 (lst_old (by decide) h), fun h => F.out.2.2.2.2.2.2.2.2.2.2.2.2.1 (lst_old (by decide) h), fun _ => rfl, fun h => F.out.2.2.2.2.2.2.2.2.2.2.2.2.2.2.1 (lst_old (by decide) h), fun h => F.out.2.2.2.2.2.2.2.2.2.2.2.2.2.2.2.1 (lst_old (by decide) h), fun h => F.out.2.2.2.2.2.2.2.2.2.2.2.2.2.2.2.2.1 (lst_old (by decide) h), fun h => F.out.2.2.2.2.2.2.2.2.2.2.2.2.2.2.2.2.2.1 (lst_old (by decide) h), fun h => F.out.2.2.2.2.2.2.2.2.2.2.2.2.2.2.2.2.2.2.1 (lst_old (by decide) h), fun h => F.out.2.2.2.2.2.2.2.2.2.2.2.2.2.2.2.2.2.2.2.1 (lst_old (by decide) h), fun h => F.out.2.2.2.2.2.2.2.2.2.2.2.2.2.2.2.2.2.2.2.2.1 (lst_old (by decide) h), fun h => F.out.2.2.2.2.2.2.2.2.2.2.2.2.2.2.2.2.2.2.2.2.2.1 (lst_old (by decide) h), fun h => ⟨(F.out.2.2.2.2.2.2.2.2.2.2.2.2.2.2.2.2.2.2.2.2.2.2 (lst_old (by decide) h)).1, lst_keep (F.out.2.2.2.2.2.2.2.2.2.2.2.2.2.2.2.2.2.2.2.2.2.2 (lst_old (by decide) h)).2.1, lst_keep (F.out.2.2.2.2.2.2.2.2.2.2.2.2.2.2.2.2.2.2.2.2.2.2 (lst_old (by decide) h)).2.2⟩⟩
    · clear him
      have p12 := F.out.2.2.2.2.2.2.2.2.2.2.2.2.1 (ready_needs hi (by kernel_rfl))
      have p13 := F.out.2.2.2.2.2.2.2.2.2.2.2.2.2.1 (ready_needs hi (by kernel_rfl))
      subst p12
      subst p13
      have HI := Lib.hid hi
      clear hi
      refine wpOp_step (o := _) rfl (fun K' hK => ?_)
      have HK := Lib.hid hK
      clear hK
      go_simp
      refine HK.out _ _ ⟨_, _, _, _, _, _, _, _, _, _, _, _, _, _, _, _, _, _, _, _, _, _, _, rfl, hb, fun h => F.out.1 (lst_old (by decide) h), fun h => F.out.2.1 (lst_old (by decide) h), fun h => F.out.2.2.1 (lst_old (by decide) h), fun h => F.out.2.2.2.1 (lst_old (by decide) h), fun h => F.out.2.2.2.2.1 (lst_old (by decide) h), fun h => F.out.2.2.2.2.2.1 (lst_old (by decide) h), fun h => F.out.2.2.2.2.2.2.1 (lst_old (by decide) h), fun h => F.out.2.2.2.2.2.2.2.1 (lst_old (by decide) h), fun h => F.out.2.2.2.2.2.2.2.2.1 (lst_old (by decide) h), fun h => F.out.2.2.2.2.2.2.2.2.2.1 (lst_old (by decide) h), fun h => F.out.2.2.2.2.2.2.2.2.2.2.1 (lst_old (by decide) h), fun h => F.out.2.2.2.2.2.2.2.2.2.2.2.1 (lst_old (by decide) h), fun h => F.out.2.2.2.2.2.2.2.2.2.2.2.2.1 (lst_old (by decide) h), fun h => F.out.2.2.2.2.2.2.2.2.2.2.2.2.2.1 (lst_old (by decide) h), fun _ => rfl, fun h => F.out.2.2.2.2.2.2.2.2.2.2.2.2.2.2.2.1 (lst_old (by decide) h), fun h => F.out.2.2.2.2.2.2.2.2.2.2.2.2.2.2.2.2.1 (lst_old (by decide) h), fun h => F.out.2.2.2.2.2.2.2.2.2.2.2.2.2.2.2.2.2.1 (lst_old (by decide) h), fun h => F.out.2.2.2.2.2.2.2.2.2.2.2.2.2.2.2.2.2.2.1 (lst_old (by decide) h), fun h => F.out.2.2.2.2.2.2.2.2.2.2.2.2.2.2.2.2.2.2.2.1 (lst_old (by decide) h), fun h => F.out.2.2.2.2.2.2.2.2.2.2.2.2.2.2.2.2.2.2.2.2.1 (lst_old (by decide) h), fun h => F.out.2.2.2.2.2.2.2.2.2.2.2.2.2.2.2.2.2.2.2.2.2.1 (lst_old (by decide) h), fun h => ⟨(F.out.2.2.2.2.2.2.2.2.2.2.2.2.2.2.2.2.2.2.2.2.2.2 (lst_old (by decide) h)).1, lst_keep (F.out.2.2.2.2.2.2.2.2.2.2.2.2.2.2.2.2.2.2.2.2.2.2 (lst_old (by decide) h)).2.1, lst_keep (F.out.2.2.2.2.2.2.2.2.2.2.2.2.2.2.2.2.2.2.2.2.2.2 (lst_old (by decide) h)).2.2⟩⟩
    · clear him
      have HI := Lib.hid hi
      clear hi
      refine wpOp_step (o := _) rfl (fun K' hK => ?_)
      have HK := Lib.hid hK
      clear hK
      go_simp
      refine HK.out _ _ ⟨_, _, _, _, _, _, _, _, _, _, _, _, _, _, _, _, _, _, _, _, _, _, _, rfl, hb, fun h => F.out.1 (lst_old (by decide) h), fun h => F.out.2.1 (lst_old (by decide) h), fun h => F.out.2.2.1 (lst_old (by decide) h), fun h => F.out.2.2.2.1 (lst_old (by decide) h), fun h => F.out.2.2.2.2.1 (lst_old (by decide) h), fun h => F.out.2.2.2.2.2.1 (lst_old (by decide) h), fun h => F.out.2.2.2.2.2.2.1 (lst_old (by decide) h), fun h => F.out.2.2.2.2.2.2.2.1 (lst_old (by decide) h), fun h => F.out.2.2.2.2.2.2.2.2.1 (lst_old (by decide) h), fun h => F.out.2.2.2.2.2.2.2.2.2.1 (lst_old (by decide) h), fun h => F.out.2.2.2.2.2.2.2.2.2.2.1 (lst_old (by decide) h), fun h => F.out.2.2.2.2.2.2.2.2.2.2.2.1 (lst_old (by decide) h), fun h => F.out.2.2.2.2.2.2.2.2.2.2.2.2.1 (lst_old (by decide) h), fun h => F.out.2.2.2.2.2.2.2.2.2.2.2.2.2.1 (lst_old (by decide) h), fun h => F.out.2.2.2.2.2.2.2.2.2.2.2.2.2.2.1 (lst_old (by decide) h), fun _ => rfl, fun h => F.out.2.2.2.2.2.2.2.2.2.2.2.2.2.2.2.2.1 (lst_old (by decide) h), fun h => F.out.2.2.2.2.2.2.2.2.2.2.2.2.2.2.2.2.2.1 (lst_old (by decide) h), fun h => F.out.2.2.2.2.2.2.2.2.2.2.2.2.2.2.2.2.2.2.1 (lst_old (by decide) h), fun h => F.out.2.2.2.2.2.2.2.2.2.2.2.2.2.2.2.2.2.2.2.1 (lst_old (by decide) h), fun h => F.out.2.2.2.2.2.2.2.2.2.2.2.2.2.2.2.2.2.2.2.2.1 (lst_old (by decide) h), fun h => F.out.2.2.2.2.2.2.2.2.2.2.2.2.2.2.2.2.2.2.2.2.2.1 (lst_old (by decide) h), fun h => ⟨(F.out.2.2.2.2.2.2.2.2.2.2.2.2.2.2.2.2.2.2.2.2.2.2 (lst_old (by decide) h)).1, lst_keep (F.out.2.2.2.2.2.2.2.2.2.2.2.2.2.2.2.2.2.2.2.2.2.2 (lst_old (by decide) h)).2.1, lst_keep (F.out.2.2.2.2.2.2.2.2.2.2.2.2.2.2.2.2.2.2.2.2.2.2 (lst_old (by decide) h)).2.2⟩⟩
    · clear him
      have HI := Lib.hid hi
      clear hi
      refine wpOp_step (o := _) rfl (fun K' hK => ?_)
      have HK := Lib.hid hK
      clear hK
      go_simp
      refine HK.out _ _ ⟨_, _, _, _, _, _, _, _, _, _, _, _, _, _, _, _, _, _, _, _, _, _, _, rfl, hb, fun h => F.out.1 (lst_old (by decide) h), fun h => F.out.2.1 (lst_old (by decide) h), fun h => F.out.2.2.1 (lst_old (by decide) h), fun h => F.out.2.2.2.1 (lst_old (by decide) h), fun h => F.out.2.2.2.2.1 (lst_old (by decide) h), fun h => F.out.2.2.2.2.2.1 (lst_old (by decide) h), fun h => F.out.2.2.2.2.2.2.1 (lst_old (by decide) h), fun h => F.out.2.2.2.2.2.2.2.1 (lst_old (by decide) h), fun h => F.out.2.2.2.2.2.2.2.2.1 (lst_old (by decide) h), fun h => F.out.2.2.2.2.2.2.2.2.2.1 (lst_old (by decide) h), fun h => F.out.2.2.2.2.2.2.2.2.2.2.1 (lst_old (by decide) h), fun h => F.out.2.2.2.2.2.2.2.2.2.2.2.1 (lst_old (by decide) h), fun h => F.out.2.2.2.2.2.2.2.2.2.2.2.2.1 (lst_old (by decide) h), fun h => F.out.2.2.2.2.2.2.2.2.2.2.2.2.2.1 (lst_old (by decide) h), fun h => F.out.2.2.2.2.2.2.2.2.2.2.2.2.2.2.1 (lst_old (by decide) h), fun h => F.out.2.2.2.2.2.2.2.2.2.2.2.2.2.2.2.1 (lst_old (by decide) h), fun _ => rfl, fun h => F.out.2.2.2.2.2.2.2.2.2.2.2.2.2.2.2.2.2.1 (lst_old (by decide) h), fun h => F.out.2.2.2.2.2.2.2.2.2.2.2.2.2.2.2.2.2.2.1 (lst_old (by decide) h), fun h => F.out.2.2.2.2.2.2.2.2.2.2.2.2.2.2.2.2.2.2.2.1 (lst_old (by decide) h), fun h => F.out.2.2.2.2.2.2.2.2.2.2.2.2.2.2.2.2.2.2.2.2.1 (lst_old (by decide) h), fun h => F.out.2.2.2.2.2.2.2.2.2.2.2.2.2.2.2.2.2.2.2.2.2.1 (lst_old (by decide) h), fun h => ⟨(F.out.2.2.2.2.2.2.2.2.2.2.2.2.2.2.2.2.2.2.2.2.2.2 (lst_old (by decide) h)).1, lst_keep (F.out.2.2.2.2.2.2.2.2.2.2.2.2.2.2.2.2.2.2.2.2.2.2 (lst_old (by decide) h)).2.1, lst_keep (F.out.2.2.2.2.2.2.2.2.2.2.2.2.2.2.2.2.2.2.2.2.2.2 (lst_old (by decide) h)).2.2⟩⟩
    · clear him
      have p16 := F.out.2.2.2.2.2.2.2.2.2.2.2.2.2.2.2.2.1 (ready_needs hi (by kernel_rfl))
      subst p16
      have hxx := hbx.below hb
      obtain ⟨b0, b1, b2, b3⟩ := hxx
      have HI := Lib.hid hi
      clear hi
      refine wpOp_step (o := _) rfl (fun K' hK => ?_)
      have HK := Lib.hid hK
      clear hK
      go_simp
      refine HK.out _ _ ⟨_, _, _, _, _, _, _, _, _, _, _, _, _, _, _, _, _, _, _, _, _, _, _, rfl, hb, fun h => F.out.1 (lst_old (by decide) h), fun h => F.out.2.1 (lst_old (by decide) h), fun h => F.out.2.2.1 (lst_old (by decide) h), fun h => F.out.2.2.2.1 (lst_old (by decide) h), fun h => F.out.2.2.2.2.1 (lst_old (by decide) h), fun h => F.out.2.2.2.2.2.1 (lst_old (by decide) h), fun h => F.out.2.2.2.2.2.2.1 (lst_old (by decide) h), fun h => F.out.2.2.2.2.2.2.2.1 (lst_old (by decide) h), fun h => F.out.2.2.2.2.2.2.2.2.1 (lst_old (by decide) h), fun h => F.out.2.2.2.2.2.2.2.2.2.1 (lst_old (by decide) h), fun h => F.out.2.2.2.2.2.2.2.2.2.2.1 (lst_old (by decide) h), fun h => F.out.2.2.2.2.2.2.2.2.2.2.2.1 (lst_old (by decide) h), fun h => F.out.2.2.2.2.2.2.2.2.2.2.2.2.1 (lst_old (by decide) h), fun h => F.out.2.2.2.2.2.2.2.2.2.2.2.2.2.1 (lst_old (by decide) h), fun h => F.out.2.2.2.2.2.2.2.2.2.2.2.2.2.2.1 (lst_old (by decide) h), fun h => F.out.2.2.2.2.2.2.2.2.2.2.2.2.2.2.2.1 (lst_old (by decide) h), fun h => F.out.2.2.2.2.2.2.2.2.2.2.2.2.2.2.2.2.1 (lst_old (by decide) h), fun _ => rfl, fun h => F.out.2.2.2.2.2.2.2.2.2.2.2.2.2.2.2.2.2.2.1 (lst_old (by decide) h), fun h => F.out.2.2.2.2.2.2.2.2.2.2.2.2.2.2.2.2.2.2.2.1 (lst_old (by decide) h), fun h => F.out.2.2.2.2.2.2.2.2.2.2.2.2.2.2.2.2.2.2.2.2.1 (lst_old (by decide) h), fun h => F.out.2.2.2.2.2.2.2.2.2.2.2.2.2.2.2.2.2.2.2.2.2.1 (lst_old (by decide) h), fun h => ⟨(F.out.2.2.2.2.2.2.2.2.2.2.2.2.2.2.2.2.2.2.2.2.2.2 (lst_old (by decide) h)).1, lst_keep (F.out.2.2.2.2.2.2.2.2.2.2.2.2.2.2.2.2.2.2.2.2.2.2 (lst_old (by decide) h)).2.1, lst_keep (F.out.2.2.2.2.2.2.2.2.2.2.2.2.2.2.2.2.2.2.2.2.2.2 (lst_old (by decide) h)).2.2⟩⟩
    · clear him
      have HI := Lib.hid hi
      clear hi
      refine wpOp_step (o := _) rfl (fun K' hK => ?_)
      have HK := Lib.hid hK
      clear hK
      go_simp
      refine HK.out _ _ ⟨_, _, _, _, _, _, _, _, _, _, _, _, _, _, _, _, _, _, _, _, _, _, _, rfl, hb, fun h => F.out.1 (lst_old (by decide) h), fun h => F.out.2.1 (lst_old (by decide) h), fun h => F.out.2.2.1 (lst_old (by decide) h), fun h => F.out.2.2.2.1 (lst_old (by decide) h), fun h => F.out.2.2.2.2.1 (lst_old (by decide) h), fun h => F.out.2.2.2.2.2.1 (lst_old (by decide) h), fun h => F.out.2.2.2.2.2.2.1 (lst_old (by decide) h), fun h => F.out.2.2.2.2.2.2.2.1 (lst_old (by decide) h), fun h => F.out.2.2.2.2.2.2.2.2.1 (lst_old (by decide) h), fun h => F.out.2.2.2.2.2.2.2.2.2.1 (lst_old (by decide) h), fun h => F.out.2.2.2.2.2.2.2.2.2.2.1 (lst_old (by decide) h), fun h => F.out.2.2.2.2.2.2.2.2.2.2.2.1 (lst_old (by decide) h), fun h => F.out.2.2.2.2.2.2.2.2.2.2.2.2.1 (lst_old (by decide) h), fun h => F.out.2.2.2.2.2.2.2.2.2.2.2.2.2.1 (lst_old (by decide) h), fun h => F.out.2.2.2.2.2.2.2.2.2.2.2.2.2.2.1 (lst_old (by decide) h), fun h => F.out.2.2.2.2.2.2.2.2.2.2.2.2.2.2.2.1 (lst_old (by decide) h), fun h => F.out.2.2.2.2.2.2.2.2.2.2.2.2.2.2.2.2.1 (lst_old (by decide) h), fun h => F.out.2.2.2.2.2.2.2.2.2.2.2.2.2.2.2.2.2.1 (lst_old (by decide) h), fun _ => rfl, fun h => F.out.2.2.2.2.2.2.2.2.2.2.2.2.2.2.2.2.2.2.2.1 (lst_old (by decide) h), fun h => F.out.2.2.2.2.2.2.2.2.2.2.2.2.2.2.2.2.2.2.2.2.1 (lst_old (by decide) h), fun h => F.out.2.2.2.2.2.2.2.2.2.2.2.2.2.2.2.2.2.2.2.2.2.1 (lst_old (by decide) h), fun h => ⟨(F.out.2.2.2.2.2.2.2.2.2.2.2.2.2.2.2.2.2.2.2.2.2.2 (lst_old (by decide) h)).1, lst_keep (F.out.2.2.2.2.2.2.2.2.2.2.2.2.2.2.2.2.2.2.2.2.2.2 (lst_old (by decide) h)).2.1, lst_keep (F.out.2.2.2.2.2.2.2.2.2.2.2.2.2.2.2.2.2.2.2.2.2.2 (lst_old (by decide) h)).2.2⟩⟩
    · clear him
      have p17 := F.out.2.2.2.2.2.2.2.2.2.2.2.2.2.2.2.2.2.1 (ready_needs hi (by kernel_rfl))
      have p18 := F.out.2.2.2.2.2.2.2.2.2.2.2.2.2.2.2.2.2.2.1 (ready_needs hi (by kernel_rfl))
      subst p17
      subst p18
      rcases HVV.out with ⟨r1, r2⟩ | ⟨b, o, r1, r2, r3⟩ | ⟨r1, r2, r3, r4, r5⟩ | ⟨a, r1, r2, r3, r4, r5⟩
      · injection r2 with u1 u2 u3; subst r1 u1 u2 u3
        have HI := Lib.hid hi
        clear hi
        refine wpOp_step (o := _) rfl (fun K' hK => ?_)
        have HK := Lib.hid hK
        clear hK
        go_simp
        refine HK.out _ _ ⟨_, _, _, _, _, _, _, _, _, _, _, _, _, _, _, _, _, _, _, _, _, _, _, rfl, hb, fun h => F.out.1 (lst_old (by decide) h), fun h => F.out.2.1 (lst_old (by decide) h), fun h => F.out.2.2.1 (lst_old (by decide) h), fun h => F.out.2.2.2.1 (lst_old (by decide) h), fun h => F.out.2.2.2.2.1 (lst_old (by decide) h), fun h => F.out.2.2.2.2.2.1 (lst_old (by decide) h), fun h => F.out.2.2.2.2.2.2.1 (lst_old (by decide) h), fun h => F.out.2.2.2.2.2.2.2.1 (lst_old (by decide) h), fun h => F.out.2.2.2.2.2.2.2.2.1 (lst_old (by decide) h), fun h => F.out.2.2.2.2.2.2.2.2.2.1 (lst_old (by decide) h), fun h => F.out.2.2.2.2.2.2.2.2.2.2.1 (lst_old (by decide) h), fun h => F.out.2.2.2.2.2.2.2.2.2.2.2.1 (lst_old (by decide) h), fun h => F.out.2.2.2.2.2.2.2.2.2.2.2.2.1 (lst_old (by decide) h), fun h => F.out.2.2.2.2.2.2.2.2.2.2.2.2.2.1 (lst_old (by decide) h), fun h => F.out.2.2.2.2.2.2.2.2.2.2.2.2.2.2.1 (lst_old (by decide) h), fun h => F.out.2.2.2.2.2.2.2.2.2.2.2.2.2.2.2.1 (lst_old (by decide) h), fun h => F.out.2.2.2.2.2.2.2.2.2.2.2.2.2.2.2.2.1 (lst_old (by decide) h), fun h => F.out.2.2.2.2.2.2.2.2.2.2.2.2.2.2.2.2.2.1 (lst_old (by decide) h), fun h => F.out.2.2.2.2.2.2.2.2.2.2.2.2.2.2.2.2.2.2.1 (lst_old (by decide) h), fun _ => rfl, fun h => F.out.2.2.2.2.2.2.2.2.2.2.2.2.2.2.2.2.2.2.2.2.1 (lst_old (by decide) h), fun h => F.out.2.2.2.2.2.2.2.2.2.2.2.2.2.2.2.2.2.2.2.2.2.1 (lst_old (by decide) h), fun h => ⟨(F.out.2.2.2.2.2.2.2.2.2.2.2.2.2.2.2.2.2.2.2.2.2.2 (lst_old (by decide) h)).1, lst_keep (F.out.2.2.2.2.2.2.2.2.2.2.2.2.2.2.2.2.2.2.2.2.2.2 (lst_old (by decide) h)).2.1, lst_keep (F.out.2.2.2.2.2.2.2.2.2.2.2.2.2.2.2.2.2.2.2.2.2.2 (lst_old (by decide) h)).2.2⟩⟩
      · injection r3 with u1 u2 u3; subst r1 u1 u2 u3
        have HI := Lib.hid hi
        clear hi
        refine wpOp_step (o := _) rfl (fun K' hK => ?_)
        have HK := Lib.hid hK
        clear hK
        go_simp
        refine HK.out _ _ ⟨_, _, _, _, _, _, _, _, _, _, _, _, _, _, _, _, _, _, _, _, _, _, _, rfl, hb, fun h => F.out.1 (lst_old (by decide) h), fun h => F.out.2.1 (lst_old (by decide) h), fun h => F.out.2.2.1 (lst_old (by decide) h), fun h => F.out.2.2.2.1 (lst_old (by decide) h), fun h => F.out.2.2.2.2.1 (lst_old (by decide) h), fun h => F.out.2.2.2.2.2.1 (lst_old (by decide) h), fun h => F.out.2.2.2.2.2.2.1 (lst_old (by decide) h), fun h => F.out.2.2.2.2.2.2.2.1 (lst_old (by decide) h), fun h => F.out.2.2.2.2.2.2.2.2.1 (lst_old (by decide) h), fun h => F.out.2.2.2.2.2.2.2.2.2.1 (lst_old (by decide) h), fun h => F.out.2.2.2.2.2.2.2.2.2.2.1 (lst_old (by decide) h), fun h => F.out.2.2.2.2.2.2.2.2.2.2.2.1 (lst_old (by decide) h), fun h => F.out.2.2.2.2.2.2.2.2.2.2.2.2.1 (lst_old (by decide) h), fun h => F.out.2.2.2.2.2.2.2.2.2.2.2.2.2.1 (lst_old (by decide) h), fun h => F.out.2.2.2.2.2.2.2.2.2.2.2.2.2.2.1 (lst_old (by decide) h), fun h => F.out.2.2.2.2.2.2.2.2.2.2.2.2.2.2.2.1 (lst_old (by decide) h), fun h => F.out.2.2.2.2.2.2.2.2.2.2.2.2.2.2.2.2.1 (lst_old (by decide) h), fun h => F.out.2.2.2.2.2.2.2.2.2.2.2.2.2.2.2.2.2.1 (lst_old (by decide) h), fun h => F.out.2.2.2.2.2.2.2.2.2.2.2.2.2.2.2.2.2.2.1 (lst_old (by decide) h), fun _ => rfl, fun h => F.out.2.2.2.2.2.2.2.2.2.2.2.2.2.2.2.2.2.2.2.2.1 (lst_old (by decide) h), fun h => F.out.2.2.2.2.2.2.2.2.2.2.2.2.2.2.2.2.2.2.2.2.2.1 (lst_old (by decide) h), fun h => ⟨(F.out.2.2.2.2.2.2.2.2.2.2.2.2.2.2.2.2.2.2.2.2.2.2 (lst_old (by decide) h)).1, lst_keep (F.out.2.2.2.2.2.2.2.2.2.2.2.2.2.2.2.2.2.2.2.2.2.2 (lst_old (by decide) h)).2.1, lst_keep (F.out.2.2.2.2.2.2.2.2.2.2.2.2.2.2.2.2.2.2.2.2.2.2 (lst_old (by decide) h)).2.2⟩⟩
      · injection r5 with u1 u2 u3; subst r1 r2 r3 u1 u2 u3
        have HI := Lib.hid hi
        clear hi
        refine wpOp_step (o := _) rfl (fun K' hK => ?_)
        have HK := Lib.hid hK
        clear hK
        go_simp
        refine HK.out _ _ ⟨_, _, _, _, _, _, _, _, _, _, _, _, _, _, _, _, _, _, _, _, _, _, _, rfl, hb, fun h => F.out.1 (lst_old (by decide) h), fun h => F.out.2.1 (lst_old (by decide) h), fun h => F.out.2.2.1 (lst_old (by decide) h), fun h => F.out.2.2.2.1 (lst_old (by decide) h), fun h => F.out.2.2.2.2.1 (lst_old (by decide) h), fun h => F.out.2.2.2.2.2.1 (lst_old (by decide) h), fun h => F.out.2.2.2.2.2.2.1 (lst_old (by decide) h), fun h => F.out.2.2.2.2.2.2.2.1 (lst_old (by decide) h), fun h => F.out.2.2.2.2.2.2.2.2.1 (lst_old (by decide) h), fun h => F.out.2.2.2.2.2.2.2.2.2.1 (lst_old (by decide) h), fun h => F.out.2.2.2.2.2.2.2.2.2.2.1 (lst_old (by decide) h), fun h => F.out.2.2.2.2.2.2.2.2.2.2.2.1 (lst_old (by decide) h), fun h => F.out.2.2.2.2.2.2.2.2.2.2.2.2.1 (lst_old (by decide) h), fun h => F.out.2.2.2.2.2.2.2.2.2.2.2.2.2.1 (lst_old (by decide) h), fun h => F.out.2.2.2.2.2.2.2.2.2.2.2.2.2.2.1 (lst_old (by decide) h), fun h => F.out.2.2.2.2.2.2.2.2.2.2.2.2.2.2.2.1 (lst_old (by decide) h), fun h => F.out.2.2.2.2.2.2.2.2.2.2.2.2.2.2.2.2.1 (lst_old (by decide) h), fun h => F.out.2.2.2.2.2.2.2.2.2.2.2.2.2.2.2.2.2.1 (lst_old (by decide) h), fun h => F.out.2.2.2.2.2.2.2.2.2.2.2.2.2.2.2.2.2.2.1 (lst_old (by decide) h), fun _ => rfl, fun h => F.out.2.2.2.2.2.2.2.2.2.2.2.2.2.2.2.2.2.2.2.2.1 (lst_old (by decide) h), fun h => F.out.2.2.2.2.2.2.2.2.2.2.2.2.2.2.2.2.2.2.2.2.2.1 (lst_old (by decide) h), fun h => ⟨(F.out.2.2.2.2.2.2.2.2.2.2.2.2.2.2.2.2.2.2.2.2.2.2 (lst_old (by decide) h)).1, lst_keep (F.out.2.2.2.2.2.2.2.2.2.2.2.2.2.2.2.2.2.2.2.2.2.2 (lst_old (by decide) h)).2.1, lst_keep (F.out.2.2.2.2.2.2.2.2.2.2.2.2.2.2.2.2.2.2.2.2.2.2 (lst_old (by decide) h)).2.2⟩⟩
      · injection r5 with u1 u2 u3; subst r1 r2 r3 u1 u2 u3
        have HI := Lib.hid hi
        clear hi
        refine wpOp_step (o := _) rfl (fun K' hK => ?_)
        have HK := Lib.hid hK
        clear hK
        go_simp
        refine HK.out _ _ ⟨_, _, _, _, _, _, _, _, _, _, _, _, _, _, _, _, _, _, _, _, _, _, _, rfl, hb, fun h => F.out.1 (lst_old (by decide) h), fun h => F.out.2.1 (lst_old (by decide) h), fun h => F.out.2.2.1 (lst_old (by decide) h), fun h => F.out.2.2.2.1 (lst_old (by decide) h), fun h => F.out.2.2.2.2.1 (lst_old (by decide) h), fun h => F.out.2.2.2.2.2.1 (lst_old (by decide) h), fun h => F.out.2.2.2.2.2.2.1 (lst_old (by decide) h), fun h => F.out.2.2.2.2.2.2.2.1 (lst_old (by decide) h), fun h => F.out.2.2.2.2.2.2.2.2.1 (lst_old (by decide) h), fun h => F.out.2.2.2.2.2.2.2.2.2.1 (lst_old (by decide) h), fun h => F.out.2.2.2.2.2.2.2.2.2.2.1 (lst_old (by decide) h), fun h => F.out.2.2.2.2.2.2.2.2.2.2.2.1 (lst_old (by decide) h), fun h => F.out.2.2.2.2.2.2.2.2.2.2.2.2.1 (lst_old (by decide) h), fun h => F.out.2.2.2.2.2.2.2.2.2.2.2.2.2.1 (lst_old (by decide) h), fun h => F.out.2.2.2.2.2.2.2.2.2.2.2.2.2.2.1 (lst_old (by decide) h), fun h => F.out.2.2.2.2.2.2.2.2.2.2.2.2.2.2.2.1 (lst_old (by decide) h), fun h => F.out.2.2.2.2.2.2.2.2.2.2.2.2.2.2.2.2.1 (lst_old (by decide) h), fun h => F.out.2.2.2.2.2.2.2.2.2.2.2.2.2.2.2.2.2.1 (lst_old (by decide) h), fun h => F.out.2.2.2.2.2.2.2.2.2.2.2.2.2.2.2.2.2.2.1 (lst_old (by decide) h), fun _ => rfl, fun h => F.out.2.2.2.2.2.2.2.2.2.2.2.2.2.2.2.2.2.2.2.2.1 (lst_old (by decide) h), fun h => F.out.2.2.2.2.2.2.2.2.2.2.2.2.2.2.2.2.2.2.2.2.2.1 (lst_old (by decide) h), fun h => ⟨(F.out.2.2.2.2.2.2.2.2.2.2.2.2.2.2.2.2.2.2.2.2.2.2 (lst_old (by decide) h)).1, lst_keep (F.out.2.2.2.2.2.2.2.2.2.2.2.2.2.2.2.2.2.2.2.2.2.2 (lst_old (by decide) h)).2.1, lst_keep (F.out.2.2.2.2.2.2.2.2.2.2.2.2.2.2.2.2.2.2.2.2.2.2 (lst_old (by decide) h)).2.2⟩⟩
    · clear him
      have p14 := F.out.2.2.2.2.2.2.2.2.2.2.2.2.2.2.1 (ready_needs hi (by kernel_rfl))
      have p15 := F.out.2.2.2.2.2.2.2.2.2.2.2.2.2.2.2.1 (ready_needs hi (by kernel_rfl))
      have p19 := F.out.2.2.2.2.2.2.2.2.2.2.2.2.2.2.2.2.2.2.2.1 (ready_needs hi (by kernel_rfl))
      subst p14
      subst p15
      subst p19
      have HI := Lib.hid hi
      clear hi
      refine wpOp_step (o := _) rfl (fun K' hK => ?_)
      have HK := Lib.hid hK
      clear hK
      go_simp
      refine HK.out _ _ ⟨_, _, _, _, _, _, _, _, _, _, _, _, _, _, _, _, _, _, _, _, _, _, _, rfl, (hb.alloc hb.size _), fun h => F.out.1 (lst_old (by decide) h), fun h => F.out.2.1 (lst_old (by decide) h), fun h => F.out.2.2.1 (lst_old (by decide) h), fun h => F.out.2.2.2.1 (lst_old (by decide) h), fun h => F.out.2.2.2.2.1 (lst_old (by decide) h), fun h => F.out.2.2.2.2.2.1 (lst_old (by decide) h), fun h => F.out.2.2.2.2.2.2.1 (lst_old (by decide) h), fun h => F.out.2.2.2.2.2.2.2.1 (lst_old (by decide) h), fun h => F.out.2.2.2.2.2.2.2.2.1 (lst_old (by decide) h), fun h => Cl.below (F.out.2.2.2.2.2.2.2.2.2.1 (lst_old (by decide) h)) ((Below.refl _ W).alloc (Nat.le_refl _) _), fun h => own_below (F.out.2.2.2.2.2.2.2.2.2.2.1 (lst_old (by decide) h)) ((Below.refl _ W).alloc (Nat.le_refl _) _), fun h => F.out.2.2.2.2.2.2.2.2.2.2.2.1 (lst_old (by decide) h), fun h => F.out.2.2.2.2.2.2.2.2.2.2.2.2.1 (lst_old (by decide) h), fun h => F.out.2.2.2.2.2.2.2.2.2.2.2.2.2.1 (lst_old (by decide) h), fun h => F.out.2.2.2.2.2.2.2.2.2.2.2.2.2.2.1 (lst_old (by decide) h), fun h => F.out.2.2.2.2.2.2.2.2.2.2.2.2.2.2.2.1 (lst_old (by decide) h), fun h => F.out.2.2.2.2.2.2.2.2.2.2.2.2.2.2.2.2.1 (lst_old (by decide) h), fun h => F.out.2.2.2.2.2.2.2.2.2.2.2.2.2.2.2.2.2.1 (lst_old (by decide) h), fun h => F.out.2.2.2.2.2.2.2.2.2.2.2.2.2.2.2.2.2.2.1 (lst_old (by decide) h), fun h => F.out.2.2.2.2.2.2.2.2.2.2.2.2.2.2.2.2.2.2.2.1 (lst_old (by decide) h), fun _ => Cl.new W _ 22 3 rfl, fun h => own_below (F.out.2.2.2.2.2.2.2.2.2.2.2.2.2.2.2.2.2.2.2.2.2.1 (lst_old (by decide) h)) ((Below.refl _ W).alloc (Nat.le_refl _) _), fun h => ⟨(F.out.2.2.2.2.2.2.2.2.2.2.2.2.2.2.2.2.2.2.2.2.2.2 (lst_old (by decide) h)).1, lst_keep (F.out.2.2.2.2.2.2.2.2.2.2.2.2.2.2.2.2.2.2.2.2.2.2 (lst_old (by decide) h)).2.1, lst_keep (F.out.2.2.2.2.2.2.2.2.2.2.2.2.2.2.2.2.2.2.2.2.2.2 (lst_old (by decide) h)).2.2⟩⟩
    · clear him
      have p20 := F.out.2.2.2.2.2.2.2.2.2.2.2.2.2.2.2.2.2.2.2.2.1 (ready_needs hi (by kernel_rfl))
      have P20 := Lib.hid p20
      clear p20
      have HI := Lib.hid hi
      clear hi
      refine wpOp_step (o := _) rfl (fun K' hK => ?_)
      have HK := Lib.hid hK
      clear hK
      go_simp
      refine (gl_t [(.slice s0 i sc, ss.take i), (.slice y0 yn yc, ys), (.slice va vn vc, ss.drop hh)] P20.out (all3 (HSA.out.below hb) (HY.out.below hb) (HVI.out.below hb)) (by simp) HLS.out SSS HSF.out).mono ?_
      rintro r W2 ⟨x, rfl, hown, hb2⟩
      refine HK.out _ _ ⟨_, _, _, _, _, _, _, _, _, _, _, _, _, _, _, _, _, _, _, _, _, _, _, rfl, (hb.trans (hb2.mono hb.size)), fun h => F.out.1 (lst_old (by decide) h), fun h => F.out.2.1 (lst_old (by decide) h), fun h => F.out.2.2.1 (lst_old (by decide) h), fun h => F.out.2.2.2.1 (lst_old (by decide) h), fun h => F.out.2.2.2.2.1 (lst_old (by decide) h), fun h => F.out.2.2.2.2.2.1 (lst_old (by decide) h), fun h => F.out.2.2.2.2.2.2.1 (lst_old (by decide) h), fun h => F.out.2.2.2.2.2.2.2.1 (lst_old (by decide) h), fun h => F.out.2.2.2.2.2.2.2.2.1 (lst_old (by decide) h), fun h => Cl.below (F.out.2.2.2.2.2.2.2.2.2.1 (lst_old (by decide) h)) hb2, fun h => own_below (F.out.2.2.2.2.2.2.2.2.2.2.1 (lst_old (by decide) h)) hb2, fun h => F.out.2.2.2.2.2.2.2.2.2.2.2.1 (lst_old (by decide) h), fun h => F.out.2.2.2.2.2.2.2.2.2.2.2.2.1 (lst_old (by decide) h), fun h => F.out.2.2.2.2.2.2.2.2.2.2.2.2.2.1 (lst_old (by decide) h), fun h => F.out.2.2.2.2.2.2.2.2.2.2.2.2.2.2.1 (lst_old (by decide) h), fun h => F.out.2.2.2.2.2.2.2.2.2.2.2.2.2.2.2.1 (lst_old (by decide) h), fun h => F.out.2.2.2.2.2.2.2.2.2.2.2.2.2.2.2.2.1 (lst_old (by decide) h), fun h => F.out.2.2.2.2.2.2.2.2.2.2.2.2.2.2.2.2.2.1 (lst_old (by decide) h), fun h => F.out.2.2.2.2.2.2.2.2.2.2.2.2.2.2.2.2.2.2.1 (lst_old (by decide) h), fun h => F.out.2.2.2.2.2.2.2.2.2.2.2.2.2.2.2.2.2.2.2.1 (lst_old (by decide) h), fun h => Cl.below (F.out.2.2.2.2.2.2.2.2.2.2.2.2.2.2.2.2.2.2.2.2.1 (lst_old (by decide) h)) hb2, fun _ => own_mono (HSN.out ▸ hown) hb.size, fun h => absurd (F.out.2.2.2.2.2.2.2.2.2.2.2.2.2.2.2.2.2.2.2.2.2.2 (lst_old (by decide) h)).2.2 (ready_not HI.out)⟩
    · clear him
      have p10 := F.out.2.2.2.2.2.2.2.2.2.2.1 (ready_needs hi (by kernel_rfl))
      have p21 := F.out.2.2.2.2.2.2.2.2.2.2.2.2.2.2.2.2.2.2.2.2.2.1 (ready_needs hi (by kernel_rfl))
      obtain ⟨a10, c10, h10⟩ := own_slice p10
      subst h10
      have P10 := Lib.hid p10
      clear p10
      obtain ⟨a21, c21, h21⟩ := own_slice p21
      subst h21
      have P21 := Lib.hid p21
      clear p21
      have HI := Lib.hid hi
      clear hi
      refine wpOp_step (o := _) rfl (fun K' hK => ?_)
      have HK := Lib.hid hK
      clear hK
      go_simp
      refine HK.out _ _ ⟨_, _, _, _, _, _, _, _, _, _, _, _, _, _, _, _, _, _, _, _, _, _, _, rfl, hb, fun h => F.out.1 (lst_old (by decide) h), fun h => F.out.2.1 (lst_old (by decide) h), fun h => F.out.2.2.1 (lst_old (by decide) h), fun h => F.out.2.2.2.1 (lst_old (by decide) h), fun h => F.out.2.2.2.2.1 (lst_old (by decide) h), fun h => F.out.2.2.2.2.2.1 (lst_old (by decide) h), fun h => F.out.2.2.2.2.2.2.1 (lst_old (by decide) h), fun h => F.out.2.2.2.2.2.2.2.1 (lst_old (by decide) h), fun h => F.out.2.2.2.2.2.2.2.2.1 (lst_old (by decide) h), fun h => F.out.2.2.2.2.2.2.2.2.2.1 (lst_old (by decide) h), fun h => F.out.2.2.2.2.2.2.2.2.2.2.1 (lst_old (by decide) h), fun h => F.out.2.2.2.2.2.2.2.2.2.2.2.1 (lst_old (by decide) h), fun h => F.out.2.2.2.2.2.2.2.2.2.2.2.2.1 (lst_old (by decide) h), fun h => F.out.2.2.2.2.2.2.2.2.2.2.2.2.2.1 (lst_old (by decide) h), fun h => F.out.2.2.2.2.2.2.2.2.2.2.2.2.2.2.1 (lst_old (by decide) h), fun h => F.out.2.2.2.2.2.2.2.2.2.2.2.2.2.2.2.1 (lst_old (by decide) h), fun h => F.out.2.2.2.2.2.2.2.2.2.2.2.2.2.2.2.2.1 (lst_old (by decide) h), fun h => F.out.2.2.2.2.2.2.2.2.2.2.2.2.2.2.2.2.2.1 (lst_old (by decide) h), fun h => F.out.2.2.2.2.2.2.2.2.2.2.2.2.2.2.2.2.2.2.1 (lst_old (by decide) h), fun h => F.out.2.2.2.2.2.2.2.2.2.2.2.2.2.2.2.2.2.2.2.1 (lst_old (by decide) h), fun h => F.out.2.2.2.2.2.2.2.2.2.2.2.2.2.2.2.2.2.2.2.2.1 (lst_old (by decide) h), fun h => F.out.2.2.2.2.2.2.2.2.2.2.2.2.2.2.2.2.2.2.2.2.2.1 (lst_old (by decide) h), fun _ => ⟨rfl, lst_keep (ready_needs HI.out (by kernel_rfl)), lst_keep (ready_needs HI.out (by kernel_rfl))⟩⟩
  case fin =>
    intro f a W hI
    obtain ⟨v62, v63, v64, v65, v66, v67, v68, v69, v70, v71, v72, v73, v74, v75, v76, v77, v78, v79, v80, v81, v82, v83, v84, rfl, hb, hf⟩ := hI
    have p0 := hf.1 rfl
    have p1 := hf.2.1 rfl
    have p2 := hf.2.2.1 rfl
    have p3 := hf.2.2.2.1 rfl
    have p4 := hf.2.2.2.2.1 rfl
    have p5 := hf.2.2.2.2.2.1 rfl
    have p6 := hf.2.2.2.2.2.2.1 rfl
    have p7 := hf.2.2.2.2.2.2.2.1 rfl
    have p8 := hf.2.2.2.2.2.2.2.2.1 rfl
    have p9 := hf.2.2.2.2.2.2.2.2.2.1 rfl
    have p10 := hf.2.2.2.2.2.2.2.2.2.2.1 rfl
    have p11 := hf.2.2.2.2.2.2.2.2.2.2.2.1 rfl
    have p12 := hf.2.2.2.2.2.2.2.2.2.2.2.2.1 rfl
    have p13 := hf.2.2.2.2.2.2.2.2.2.2.2.2.2.1 rfl
    have p14 := hf.2.2.2.2.2.2.2.2.2.2.2.2.2.2.1 rfl
    have p15 := hf.2.2.2.2.2.2.2.2.2.2.2.2.2.2.2.1 rfl
    have p16 := hf.2.2.2.2.2.2.2.2.2.2.2.2.2.2.2.2.1 rfl
    have p17 := hf.2.2.2.2.2.2.2.2.2.2.2.2.2.2.2.2.2.1 rfl
    have p18 := hf.2.2.2.2.2.2.2.2.2.2.2.2.2.2.2.2.2.2.1 rfl
    have p19 := hf.2.2.2.2.2.2.2.2.2.2.2.2.2.2.2.2.2.2.2.1 rfl
    have p20 := hf.2.2.2.2.2.2.2.2.2.2.2.2.2.2.2.2.2.2.2.2.1 rfl
    have p21 := hf.2.2.2.2.2.2.2.2.2.2.2.2.2.2.2.2.2.2.2.2.2.1 rfl
    have p22 := hf.2.2.2.2.2.2.2.2.2.2.2.2.2.2.2.2.2.2.2.2.2.2 rfl
    clear hf
    subst p0
    subst p1
    subst p2
    subst p3
    subst p4
    subst p5
    subst p6
    subst p7
    subst p8
    clear p9
    obtain ⟨a10, c10, h10⟩ := own_slice p10
    subst h10
    have P10 := Lib.hid p10
    clear p10
    subst p11
    subst p12
    subst p13
    subst p14
    subst p15
    subst p16
    subst p17
    subst p18
    subst p19
    clear p20
    obtain ⟨a21, c21, h21⟩ := own_slice p21
    subst h21
    have P21 := Lib.hid p21
    clear p21
    replace p22 := p22.1
    subst p22
    refine wpAny_all (rs := [23]) (by kernel_rfl) (by simp) ?_
    intro i' hi'
    obtain rfl := List.mem_singleton.1 hi'
    obtain ⟨z0a, z0b, z0c, z0d, hz0⟩ := HZB.out.below hb
    have c00 : World.cell? (W) ⟨w.heap.size + 1, 0, none⟩ = some z0a := by rw [blk_cell hz0]; rfl
    have f00 := blk_free hz0 0
    have hz00 := blk_set hz0 0 (.bool false)
    have c01 : World.cell? (World.setCell (W) ⟨w.heap.size + 1, 0, none⟩ (.bool false)) ⟨w.heap.size + 1, 1, none⟩ = some z0b := by rw [blk_cell hz00]; rfl
    have f01 := blk_free hz00 1
    have hz01 := blk_set hz00 1 (.slice none 0 0)
    have c02 : World.cell? (World.setCell (World.setCell (W) ⟨w.heap.size + 1, 0, none⟩ (.bool false)) ⟨w.heap.size + 1, 1, none⟩ (.slice none 0 0)) ⟨w.heap.size + 1, 2, none⟩ = some z0c := by rw [blk_cell hz01]; rfl
    have f02 := blk_free hz01 2
    have hz02 := blk_set hz01 2 (.slice a10 KKn c10)
    have c03 : World.cell? (World.setCell (World.setCell (World.setCell (W) ⟨w.heap.size + 1, 0, none⟩ (.bool false)) ⟨w.heap.size + 1, 1, none⟩ (.slice none 0 0)) ⟨w.heap.size + 1, 2, none⟩ (.slice a10 KKn c10)) ⟨w.heap.size + 1, 3, none⟩ = some z0d := by rw [blk_cell hz02]; rfl
    have f03 := blk_free hz02 3
    have hz03 := blk_set hz02 3 (.slice a21 SSSn c21)
    have HZ0 := Lib.hid hz03
    clear hz0 hz00 hz01 hz02 hz03
    refine wpOp_step (o := _) rfl (fun K' hK => ?_)
    have HKK := Lib.hid hK
    clear hK
    go_simp
    refine HKK.out _ _ (wpAny_done (by kernel_rfl) ?_ _)
    have hon : Only (w.heap.size + 1) W (World.setCell (World.setCell (World.setCell (World.setCell (W) ⟨w.heap.size + 1, 0, none⟩ (.bool false)) ⟨w.heap.size + 1, 1, none⟩ (.slice none 0 0)) ⟨w.heap.size + 1, 2, none⟩ (.slice a10 KKn c10)) ⟨w.heap.size + 1, 3, none⟩ (.slice a21 SSSn c21)) := (((Only.set _ _ _).trans (Only.set _ _ _)).trans (Only.set _ _ _)).trans (Only.set _ _ _)
    obtain ⟨W4, hW4⟩ : ∃ X, World.setCell (World.setCell (World.setCell (World.setCell (W) ⟨w.heap.size + 1, 0, none⟩ (.bool false)) ⟨w.heap.size + 1, 1, none⟩ (.slice none 0 0)) ⟨w.heap.size + 1, 2, none⟩ (.slice a10 KKn c10)) ⟨w.heap.size + 1, 3, none⟩ (.slice a21 SSSn c21) = X := ⟨_, rfl⟩
    rw [hW4] at HZ0 hon ⊢
    clear hW4
    have hb4 : Below w.heap.size w W4 := (hb1.trans (hb.mono hb1.size)).trans (hon.to_below (by omega) (Nat.le_trans hb1.size hb.size))
    have hbx4 : Bx W4 (w.heap.size + 1) false (.slice none 0 0) (.slice a10 KKn c10) (.slice a21 SSSn c21) := ⟨by rw [blk_cell HZ0.out]; rfl, by rw [blk_cell HZ0.out]; rfl, by rw [blk_cell HZ0.out]; rfl, by rw [blk_cell HZ0.out]; rfl⟩
    have hlt : w.heap.size + 1 < w1.heap.size := by rw [HZ1.out]; omega
    have O2 := Lib.hid (own_mono (own_only' P10.out hon hlt) hb1.size)
    have O3 := Lib.hid (own_mono (own_only' P21.out hon hlt) hb1.size)
    have HRES := Lib.hid (show NdO W4 w.heap.size (.agg #[.bool false, .slice none 0 0, .slice a10 KKn c10, .slice a21 SSSn c21]) ⟨false, [], ks.take i ++ xs ++ ks.drop j, ss.take i ++ ys ++ ss.drop hh⟩ by
      rw [HKE.out, HSE.out]
      have o2 := O2.out
      have o3 := O3.out
      rw [← HKN.out] at o2 ⊢
      rw [← HSN.out] at o3 ⊢
      exact ⟨_, _, _, _, _, _, rfl, World.ownsRow_nil _ _ _ _, o2, o3⟩)
    go_wp2
    refine bodyPost_ret (res_one rfl rfl (load69 hbx4)) rfl ?_
    exact ⟨_, rfl, HRES.out, hb4⟩
end Go.Proofs.Ytifdglehfhoecaa.N
