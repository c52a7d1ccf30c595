/-
  Texts of this proof, merged: NRDec. What each says stands at its head.
-/
import Derived.Test.YtifdglehfhoecaaMc8
/-
  The document's node of a body. Conditions: at most 1000 bytes.
-/
namespace Go.Proofs.Ytifdglehfhoecaa.N
open Go.RowKit B E
/-- the document's reader -/
theorem rsn_more {body s r : ByteArray} {k0 : Int} {acc : List M.KV} {k : ByteArray} {v : Int} (h : RsN (bts body) (bts s) 0 k0 acc) (hk : k.size ≤ 255) (hv : M.f4 v) (he : bts s = M.tbl k ++ (M.p4 v ++ bts r)) : RsN (bts body) (bts r) 0 k0 (acc ++ [(k, v)]) ∧ acc.length + 1 ≤ body.size := by
  rcases h with ⟨_, h4, hf, hb, hl⟩ | ⟨h, _⟩
  case inr => exact absurd rfl h
  have e1 := congrArg List.length he
  rw [List.length_append, List.length_append, M.tbl_len, M.p4_len] at e1
  have hbl : (bts body).length = body.size := bts_len body
  refine ⟨.inl ⟨rfl, h4, M.fitP_snoc hf hk hv, by rw [M.encP_snoc2, hb, he]; simp, ?_⟩, by omega⟩
  rw [List.length_append]
  simp only [List.length_cons, List.length_nil]
  omega
theorem rsn_none {body s : ByteArray} {k0 : Int} {acc : List M.KV} (h : RsN (bts body) (bts s) 0 k0 acc) (h0 : 0 < s.size) (hn : ∀ (x : ByteArray) (q r : List UInt8), x.size ≤ 255 → q.length = 4 → bts s ≠ M.tbl x ++ (q ++ r)) : ∀ k l, ¬ M.DecP (bts body) k l := by
  rcases h with ⟨_, h4, hf, hb, hl⟩ | ⟨h, _⟩
  case inr => exact absurd rfl h
  exact M.no_decP h4 hf hb (fun e => by have := bts_len s; rw [e] at this; simp at this; omega) hn
theorem rsn_done {body s : ByteArray} {k0 : Int} {acc : List M.KV} (h : RsN (bts body) (bts s) 0 k0 acc) (h0 : s.size = 0) : M.DecP (bts body) k0 acc := by
  rcases h with ⟨_, h4, hf, hb, hl⟩ | ⟨h, _⟩
  case inr => exact absurd rfl h
  have hn : bts s = [] := List.eq_nil_of_length_eq_zero ((bts_len s).trans h0)
  exact ⟨h4, hf, by rw [hb, hn, List.append_nil]⟩
theorem one_no {s : ByteArray} {n : Nat} (h0 : 0 < s.size) (hn : (s[0]'h0).toNat = n) (h : s.size < n + 5) : ∀ (x : ByteArray) (q r : List UInt8), x.size ≤ 255 → q.length = 4 → bts s ≠ M.tbl x ++ (q ++ r) := by
  intro x q r hx hq he
  obtain ⟨_, e1, e2⟩ := tbl_at hx he
  rw [List.length_append, hq] at e2
  omega
theorem one_yes {s : ByteArray} {n : Nat} (h : n + 5 ≤ s.size) (hn : (s[0]'(by omega)).toNat = n) :
    bts s = M.tbl (s.extract 1 (n + 1)) ++ (M.p4 ((C.be (bts (s.extract (n + 1) (n + 5))) : Nat) : Int) ++ bts (s.extract (n + 5) s.size)) ∧ (s.extract 1 (n + 1)).size = n ∧ M.f4 ((C.be (bts (s.extract (n + 1) (n + 5))) : Nat) : Int) := by
  have z1 : (s.extract 1 (n + 1)).size = n := by simp; omega
  have z4 : (bts (s.extract (n + 1) (n + 5))).length = 4 := by rw [bts_len]; simp; omega
  refine ⟨?_, z1, M.be_f4 _ z4⟩
  have hl : (bts s).length = s.size := bts_len s
  have u0 : s[0]'(by omega) = UInt8.ofNat n := by have := congrArg UInt8.ofNat hn; rwa [UInt8.ofNat_toNat] at this
  rw [M.p4_be _ z4, M.tbl, z1, ← u0, bts_extract, bts_extract, show M.bt (s.extract 1 (n + 1)) = bts (s.extract 1 (n + 1)) from rfl, bts_extract]
  rw [show (bts s).take s.size = bts s from by rw [← hl, List.take_length]]
  have e0 : bts s = s[0]'(by omega) :: (bts s).drop 1 := by
    have := List.drop_eq_getElem_cons (l := bts s) (i := 0) (by omega)
    rw [List.drop_zero] at this
    exact this
  have e1 : (bts s).drop 1 = ((bts s).take (n + 1)).drop 1 ++ (((bts s).take (n + 5)).drop (n + 1) ++ (bts s).drop (n + 5)) := by
    rw [List.drop_take, List.drop_take, show n + 5 - (n + 1) = 4 by omega, show (bts s).drop (n + 5) = ((bts s).drop (n + 1)).drop 4 by rw [List.drop_drop], List.take_append_drop, show (bts s).drop (n + 1) = ((bts s).drop 1).drop n by rw [List.drop_drop, Nat.add_comm], show n + 1 - 1 = n by omega, List.take_append_drop]
  rw [List.cons_append, ← e1]
  exact e0
theorem rsn_begin {body : ByteArray} (h : 4 ≤ body.size) : RsN (bts body) (bts (body.extract 4 body.size)) 0 ((C.be (bts (body.extract 0 4)) : Nat) : Int) [] := by
  have hb : (bts body).length = body.size := bts_len body
  have z4 : (bts (body.extract 0 4)).length = 4 := by rw [bts_len]; simp; omega
  refine .inl ⟨rfl, M.be_f4 _ z4, fun p hp => by simp at hp, ?_, ?_⟩
  · rw [M.p4_be _ z4, bts_extract, bts_extract, ← hb, List.take_length]
    simp [M.encP]
  · rw [bts_len]; simp
def NDr (kind : Int) (b : List UInt8) (w : World) (r : Ending) (w' : World) : Prop := ∃ v n ok, r = .returned (.tuple #[v, .bool ok]) ∧ NdV w' v n ∧ DrN kind b n (if ok = true then 0 else 3) ∧ Below w.heap.size w w'
theorem drn_long {kind : Int} {b : List UInt8} (h : 240 < b.length) : DrN kind b ⟨false, [], [], []⟩ 3 := by
  refine .inr ⟨rfl, rfl, fun m hm => ?_⟩
  have := M.body_len hm.1
  rw [hm.2.2.1] at this
  have := hm.2.1
  omega
set_option maxRecDepth 100000 in
set_option maxHeartbeats 2000000 in
theorem nrdecode_long (kind : Int) (body : ByteArray) (w : World) (h : 240 < body.size) : Calls Try.prog 68 #[.int .u8 kind, .string body] w (NDr kind (bts body) w) := by
  have HD := Lib.hid (drn_long (kind := kind) (b := bts body) (by rw [bts_len]; exact h))
  go_enter Try.func68, Try.ntmps68
  go_upto_region 1 with (fail)
  obtain ⟨wa, hwa⟩ : ∃ W, w.alloc (.cells #[.bool false, .slice none 0 0, .slice none 0 0, .slice none 0 0] 73) = W := ⟨_, rfl⟩
  have hza : wa.heap.size = w.heap.size + 1 := by rw [← hwa]; simp
  have hA : wa.heap[w.heap.size]? = some (.cells #[.bool false, .slice none 0 0, .slice none 0 0, .slice none 0 0] 73 (0, 0)) := by rw [← hwa]; exact blk_new _ _
  have hba : Below w.heap.size w wa := by rw [← hwa]; exact (Below.refl _ w).alloc (Nat.le_refl _) _
  rw [hwa]
  clear hwa
  have HA := Lib.hid hA
  clear hA
  go_wp2_with (refine wpList_store73 rfl _ _ rfl w.heap.size rfl rfl ⟨_, _, _, _, HA.out⟩ ?_)
  intro w9 hz9 hon9
  have HZ9 := Lib.hid hz9
  have hb9 : Below w.heap.size w w9 := hba.trans (hon9.to_below (Nat.le_refl _) hba.size)
  clear hz9 hon9
  go_wp2
  refine bodyPost_ret (res_two rfl rfl rfl (load73 (bx_blk73 HZ9.out))) rfl ?_
  exact ⟨_, ⟨false, [], [], []⟩, false, rfl, ⟨none, 0, none, 0, none, 0, rfl, Rw.nil _ 2, Rw.nil _ 1, Rw.nil _ 1⟩, HD.out, hb9⟩
set_option maxRecDepth 100000 in
set_option maxHeartbeats 2000000 in
theorem nrdecode_other (kind : Int) (body : ByteArray) (w : World) (h : body.size ≤ 240) (h1 : kind ≠ 1) (h2 : kind ≠ 2) : Calls Try.prog 68 #[.int .u8 kind, .string body] w (NDr kind (bts body) w) := by
  have HD := Lib.hid (drn_kind (b := bts body) h1 h2)
  have q1 : (kind == 1) = false := beq_eq_false_iff_ne.2 h1
  have q2 : (kind == 2) = false := beq_eq_false_iff_ne.2 h2
  have q3 : (kind != 1) = true := by rw [bne, q1]; rfl
  have q4 : (kind != 2) = true := by rw [bne, q2]; rfl
  clear h1 h2
  go_enter Try.func68, Try.ntmps68
  go_upto_region 1 with (fail)
  obtain ⟨wa, hwa⟩ : ∃ W, w.alloc (.cells #[.bool false, .slice none 0 0, .slice none 0 0, .slice none 0 0] 73) = W := ⟨_, rfl⟩
  have hza : wa.heap.size = w.heap.size + 1 := by rw [← hwa]; simp
  have hA : wa.heap[w.heap.size]? = some (.cells #[.bool false, .slice none 0 0, .slice none 0 0, .slice none 0 0] 73 (0, 0)) := by rw [← hwa]; exact blk_new _ _
  have hba : Below w.heap.size w wa := by rw [← hwa]; exact (Below.refl _ w).alloc (Nat.le_refl _) _
  rw [hwa]
  clear hwa
  have HA := Lib.hid hA
  clear hA
  go_wp2_with (refine wpList_store73 rfl _ _ rfl w.heap.size rfl rfl ⟨_, _, _, _, HA.out⟩ ?_)
  intro w9 hz9 hon9
  have HZ9 := Lib.hid hz9
  have hb9 : Below w.heap.size w w9 := hba.trans (hon9.to_below (Nat.le_refl _) hba.size)
  clear hz9 hon9
  go_wp2
  refine bodyPost_ret (res_two rfl rfl rfl (load73 (bx_blk73 HZ9.out))) rfl ?_
  exact ⟨_, ⟨false, [], [], []⟩, false, rfl, ⟨none, 0, none, 0, none, 0, rfl, Rw.nil _ 2, Rw.nil _ 1, Rw.nil _ 1⟩, HD.out, hb9⟩
set_option maxRecDepth 100000 in
set_option maxHeartbeats 4000000 in
theorem nrdecode_leaf (body : ByteArray) (w : World) (hbs : body.size ≤ 240) : Calls Try.prog 68 #[.int .u8 1, .string body] w (NDr 1 (bts body) w) := by
  go_enter Try.func68, Try.ntmps68
  go_upto_region 1 with (fail)
  obtain ⟨wa, hwa⟩ : ∃ W, w.alloc (.cells #[.bool false, .slice none 0 0, .slice none 0 0, .slice none 0 0] 73) = W := ⟨_, rfl⟩
  have hza : wa.heap.size = w.heap.size + 1 := by rw [← hwa]; simp
  have hA : wa.heap[w.heap.size]? = some (.cells #[.bool false, .slice none 0 0, .slice none 0 0, .slice none 0 0] 73 (0, 0)) := by rw [← hwa]; exact blk_new _ _
  have hba : Below w.heap.size w wa := by rw [← hwa]; exact (Below.refl _ w).alloc (Nat.le_refl _) _
  rw [hwa]
  clear hwa
  have HA := Lib.hid hA
  clear hA
  go_wp2_with fail
  refine (rdecode_any body _ (by omega)).mono ?_
  rintro r w3 ⟨u, l, ok, rfl, hE, hd, hb3⟩
  obtain ⟨ua, uc, rfl, _⟩ := hE.open
  have HA := Lib.hid (blk_below HA.out hb3)
  have hb3 := hba.trans (hb3.mono hba.size)
  have HD := Lib.hid hd; have HE := Lib.hid hE
  obtain ⟨ln, hln⟩ : ∃ x, l.length = x := ⟨_, rfl⟩
  rw [hln] at HE ⊢
  have HLN := Lib.hid hln
  clear hE hd hba hln
  go_wp2_with (refine wpList_store73 rfl _ _ rfl w.heap.size rfl rfl ⟨_, _, _, _, HA.out⟩ ?_)
  intro w9 hz9 hon9
  have HZ9 := Lib.hid hz9
  have HE9 := Lib.hid (ents_only HE.out hon9 HA.out)
  have hb9 : Below w.heap.size w w9 := hb3.trans (hon9.to_below (Nat.le_refl _) hb3.size)
  clear hz9 hon9
  go_wp2
  refine bodyPost_ret (res_two rfl rfl rfl (load73 (bx_blk73 HZ9.out))) rfl ?_
  refine ⟨_, ⟨ok, l, [], []⟩, ok, rfl, ⟨ua, uc, none, 0, none, 0, by rw [← HLN.out]; rfl, by have := HE9.out; rw [← HLN.out] at this; exact this, Rw.nil _ 1, Rw.nil _ 1⟩, ?_, hb9⟩
  have hd := HD.out
  rcases ok with _ | _
  · rcases hd with ⟨h1, _⟩ | ⟨h1, h2, h3⟩
    · simp at h1
    · subst h2
      exact drn_leaf_no (l := []) (e := 3) (.inr ⟨rfl, rfl, h3⟩) (.inl (by omega))
  · rcases hd with ⟨h1, h2, h3⟩ | ⟨h1, _⟩
    · refine drn_leaf (e := 0) (.inl ⟨rfl, h2, h3⟩) ⟨nok_leaf.2 ⟨h3, rfl, rfl⟩, ?_⟩ rfl
      show M.sz l ≤ 240
      rw [← M.enc_len, h2.2, bts_len]; exact hbs
    · simp at h1
theorem nsz_dec {body : ByteArray} {k0 : Int} {acc : List M.KV} (h : M.DecP (bts body) k0 acc) (hf : M.NOk (M.mkI k0 acc)) (hbs : body.size ≤ 240) : M.nsz (M.mkI k0 acc) ≤ 240 := by
  rw [← M.body_len hf, M.bodyI, ← h.2.2, bts_len]; exact hbs
/-- what holds while an inner node's body is read by the document -/
def RelR (w0 : World) (body : ByteArray) (x : Value) (w : World) : Prop := ∃ (s : ByteArray) (k0 : Int) (acc : List M.KV) (ka sa : Option Addr) (kn kc sc : Nat), x = .string s ∧
  w.heap[w0.heap.size + 1 + 1]? = some (.cells #[.bool false, .slice none 0 0, .slice ka kn kc, .slice sa acc.length sc] 73 (0, 0)) ∧
  w.heap[w0.heap.size]? = some (.cells #[.bool false, .slice none 0 0, .slice none 0 0, .slice none 0 0] 73 (0, 0)) ∧ kn = acc.length + 1 ∧
  w.ownsRow (w0.heap.size + 1) 3 1 (.slice ka kn kc) kn (ics (k0 :: acc.map (·.2))) ∧ w.ownsRow (w0.heap.size + 1) 9 1 (.slice sa acc.length sc) acc.length (tcs (acc.map (·.1))) ∧
  RsN (bts body) (bts s) 0 k0 acc ∧ acc.length ≤ body.size ∧ s.size ≤ 1000 ∧ Below w0.heap.size w0 w ∧ w0.heap.size + 3 ≤ w.heap.size
set_option maxRecDepth 100000 in
set_option maxHeartbeats 4000000 in
theorem nrdecode_inner (body : ByteArray) (w : World) (hbs : body.size ≤ 240) : Calls Try.prog 68 #[.int .u8 2, .string body] w (NDr 2 (bts body) w) := by
  obtain ⟨i3, hi3, hz30, hz31, hz32⟩ := info_parts info3
  obtain ⟨i9, hi9, hz90, hz91, hz92⟩ := info_parts info9
  have HI3 := Lib.hid hi3; have HI9 := Lib.hid hi9
  clear hi3 hi9
  go_enter Try.func68, Try.ntmps68
  go_upto_region 1 with (fail)
  obtain ⟨wa, hwa⟩ : ∃ W, w.alloc (.cells #[.bool false, .slice none 0 0, .slice none 0 0, .slice none 0 0] 73) = W := ⟨_, rfl⟩
  have hza : wa.heap.size = w.heap.size + 1 := by rw [← hwa]; simp
  have hA : wa.heap[w.heap.size]? = some (.cells #[.bool false, .slice none 0 0, .slice none 0 0, .slice none 0 0] 73 (0, 0)) := by rw [← hwa]; exact blk_new _ _
  have hba : Below w.heap.size w wa := by rw [← hwa]; exact (Below.refl _ w).alloc (Nat.le_refl _) _
  rw [hwa]
  clear hwa
  have HA := Lib.hid hA
  clear hA
  rcases Nat.lt_or_ge body.size 4 with h4 | h4
  · have HD := Lib.hid (drn_inner_none (b := bts body) fun k l hd => by have := decP_len hd; rw [bts_len] at this; omega)
    go_wp2_with (refine wpList_store73 rfl _ _ rfl w.heap.size rfl rfl ⟨_, _, _, _, HA.out⟩ ?_)
    intro w9 hz9 hon9
    have HZ9 := Lib.hid hz9
    have hb9 : Below w.heap.size w w9 := hba.trans (hon9.to_below (Nat.le_refl _) hba.size)
    clear hz9 hon9
    go_wp2
    refine bodyPost_ret (res_two rfl rfl rfl (load73 (bx_blk73 HZ9.out))) rfl ?_
    exact ⟨_, ⟨false, [], [], []⟩, false, rfl, ⟨none, 0, none, 0, none, 0, rfl, Rw.nil _ 2, Rw.nil _ 1, Rw.nil _ 1⟩, HD.out, hb9⟩
  have h4' : (4 : Int) ≤ (body.size : Int) := by omega
  have q0 : decide ((240 : Int) < (body.size : Int)) = false := decide_eq_false (by omega)
  have q1 : decide ((body.size : Int) < 4) = false := decide_eq_false (by omega)
  have hri := fun W => rint_any (body.extract 0 4) W (by simp; omega)
  have hst := rsn_begin h4
  obtain ⟨k00, hk00⟩ : ∃ x : Int, ((C.be (bts (body.extract 0 4)) : Nat) : Int) = x := ⟨_, rfl⟩
  rw [hk00] at hri hst
  have HRI := Lib.hid hri; have HST := Lib.hid hst
  clear hri hst hk00
  go_wp2_with fail
  refine (HRI.out _).mono ?_
  rintro r w3 ⟨rfl, hw⟩
  subst hw
  go_upto_region 9 with (fail)
  obtain ⟨w4, hw4⟩ : ∃ X, (wa.alloc (.cells #[.int .i64 k00] 3)).alloc (.cells #[.bool false, .slice none 0 0, .slice (some ⟨w.heap.size + 1, 0, none⟩) 1 1, .slice none 0 0] 73) = X := ⟨_, rfl⟩
  have hB : w4.heap[w.heap.size + 1 + 1]? = some (.cells #[.bool false, .slice none 0 0, .slice (some ⟨w.heap.size + 1, 0, none⟩) 1 1, .slice none 0 0] 73 (0, 0)) := by
    rw [← hw4]
    have := blk_new (wa.alloc (.cells #[.int .i64 k00] 3)) (.cells #[.bool false, .slice none 0 0, .slice (some ⟨w.heap.size + 1, 0, none⟩) 1 1, .slice none 0 0] 73)
    rw [show (wa.alloc (.cells #[.int .i64 k00] 3)).heap.size = w.heap.size + 1 + 1 by simp [hza]] at this
    exact this
  have hrow : w4.ownsRow (w.heap.size + 1) 3 1 (.slice (some ⟨w.heap.size + 1, 0, none⟩) 1 1) 1 (ics [k00]) := by
    rw [← hw4]
    have := World.ownsRow_lit (e := 3) (base := w.heap.size + 1) (size := 1) wa #[.int .i64 k00] 1 (by omega) (by unfold maxLen; omega) rfl
    rw [hza] at this
    exact this.alloc _
  have hal : Below wa.heap.size wa w4 := by rw [← hw4]; exact ((Below.refl _ wa).alloc (Nat.le_refl _) _).alloc (by simp) _
  have hb4 := hba.trans (hal.mono hba.size)
  have hz4 : w.heap.size + 3 ≤ w4.heap.size := by rw [← hw4]; simp [hza]
  have HREL := Lib.hid (show RelR w body (.string (body.extract 4 body.size)) w4 from ⟨_, k00, [], some ⟨w.heap.size + 1, 0, none⟩, none, 1, 1, 0, rfl, hB, blk_below HA.out hal, rfl, hrow, World.ownsRow_nil _ _ _ _, HST.out, Nat.zero_le _, by simp; omega, hb4, hz4⟩)
  rw [hw4]
  clear hw4 hB hrow hal hb4 hz4 hba hza HST HRI HA
  go_wp2
  go_loopw [9, 10] (fun x _ wr => RelR w body x wr) (fun _ _ wr => body.size - msr wr (w.heap.size + 1 + 1))
  case atStart => exact HREL.out
  case round =>
    obtain ⟨s, k0, acc, ka, sa, kn, kc, sc, rfl, hB, hA, hkn, hk, hs, hrs, hal, hss, hbw, hsz⟩ := hrel
    have HB := Lib.hid hB; have HA := Lib.hid hA; have HKN := Lib.hid hkn; have HK := Lib.hid hk; have HSR := Lib.hid hs; have HRS := Lib.hid hrs
    clear hB hA hkn hk hs hrs
    rcases Nat.eq_zero_or_pos s.size with h0 | h0
    · skip
      have hdec := rsn_done HRS.out h0
      have HD := Lib.hid hdec
      have hbd := dec_bd hdec (by omega)
      have HKR := Lib.hid (Rw.own HK.out); have HSRR := Lib.hid (Rw.own HSR.out)
      obtain ⟨sn, hsn⟩ : ∃ x, acc.length = x := ⟨_, rfl⟩
      rw [hsn] at HB HSRR
      have hv := mkI_v (k0 := k0) HKN.out hsn.symm HKR.out HSRR.out
      have HSN := Lib.hid hsn
      have HRT := Lib.hid (rnright_any _ _ wr hv hbd)
      clear hdec hbd hv hsn hsz hal hss
      obtain ⟨x0, x1, x2, x3⟩ := bx_blk73 HB.out
      by_cases hf : M.NOk (M.mkI k0 acc)
      · rw [decide_eq_true hf] at HRT
        have HR := Lib.hid (drn_inner HD.out ⟨hf, nsz_dec HD.out hf hbs⟩)
        clear hf
        go_wp2_with fail
        refine HRT.out.mono ?_
        rintro r w7 ⟨rfl, hb7⟩
        have HB7 := Lib.hid (blk_below HB.out hb7); have HA7 := Lib.hid (blk_below HA.out hb7)
        have HKR := Lib.hid (HKR.out.below hb7); have HSRR := Lib.hid (HSRR.out.below hb7)
        have hb7 := hbw.trans (hb7.mono hbw.size)
        clear x0 x1 x2 x3 hbw
        obtain ⟨x0, x1, x2, x3⟩ := bx_blk73 HB7.out
        go_wp2_with (refine wpList_store73 rfl _ _ rfl w.heap.size rfl rfl ⟨_, _, _, _, HA7.out⟩ ?_)
        intro w9 hz9 hon9
        have HZ9 := Lib.hid hz9
        have HKR := Lib.hid (rw_only HKR.out hon9 HA7.out (box_not_ics _))
        have HSRR := Lib.hid (rw_only HSRR.out hon9 HA7.out (box_not_tcs _))
        have hb9 : Below w.heap.size w w9 := hb7.trans (hon9.to_below (Nat.le_refl _) hb7.size)
        clear hz9 hon9 x0 x1 x2 x3
        go_wp2
        refine bodyPost_ret (res_two rfl rfl rfl (load73 (bx_blk73 HZ9.out))) rfl ?_
        exact ⟨_, M.mkI k0 acc, true, rfl, mkI_v HKN.out HSN.out.symm HKR.out HSRR.out, HR.out, hb9⟩
      · rw [decide_eq_false hf] at HRT
        have HRR := Lib.hid (drn_inner_no HD.out (fun h => hf h.1))
        clear hf
        go_wp2_with fail
        refine HRT.out.mono ?_
        rintro r w7 ⟨rfl, hb7⟩
        have HA7 := Lib.hid (blk_below HA.out hb7)
        have hb7 := hbw.trans (hb7.mono hbw.size)
        clear x0 x1 x2 x3 hbw
        have HBL := Lib.hid hb7
        go_wp2_with (refine wpList_store73 rfl _ _ rfl w.heap.size rfl rfl ⟨_, _, _, _, HA7.out⟩ ?_)
        intro w9 hz9 hon9
        have HZ9 := Lib.hid hz9
        have hb9 : Below w.heap.size w w9 := HBL.out.trans (hon9.to_below (Nat.le_refl _) HBL.out.size)
        clear hz9 hon9
        go_wp2
        refine bodyPost_ret (res_two rfl rfl rfl (load73 (bx_blk73 HZ9.out))) rfl ?_
        exact ⟨_, ⟨false, [], [], []⟩, false, rfl, ⟨none, 0, none, 0, none, 0, rfl, Rw.nil _ 2, Rw.nil _ 1, Rw.nil _ 1⟩, HRR.out, hb9⟩
    have hs0 : (0 : Int) < (s.size : Int) := by omega
    obtain ⟨n, hn⟩ : ∃ n, (s[0]'h0).toNat = n := ⟨_, rfl⟩
    have hn1 : n < 256 := by rw [← hn]; exact UInt8.toNat_lt _
    have HN := Lib.hid hn
    have g5 : IntKind.i64.wrap ((n : Int) + 5) = (n : Int) + 5 := IntWalk.i64_in _ (by omega)
    by_cases h5 : s.size < n + 5
    · have HD := Lib.hid (drn_inner_none (rsn_none HRS.out h0 (one_no h0 HN.out h5)))
      have hd : (s.size : Int) < (n : Int) + 5 := by omega
      go_wp2_with (refine wpList_store73 rfl _ _ rfl w.heap.size rfl rfl ⟨_, _, _, _, HA.out⟩ ?_)
      intro w9 hz9 hon9
      have HZ9 := Lib.hid hz9
      have hb9 : Below w.heap.size w w9 := hbw.trans (hon9.to_below (Nat.le_refl _) hbw.size)
      clear hz9 hon9
      go_wp2
      refine bodyPost_ret (res_two rfl rfl rfl (load73 (bx_blk73 HZ9.out))) rfl ?_
      exact ⟨_, ⟨false, [], [], []⟩, false, rfl, ⟨none, 0, none, 0, none, 0, rfl, Rw.nil _ 2, Rw.nil _ 1, Rw.nil _ 1⟩, HD.out, hb9⟩
    obtain ⟨he, hkz, hf4⟩ := one_yes (by omega) HN.out
    obtain ⟨hnx, hacc⟩ := rsn_more HRS.out (by omega) hf4 he
    have hri := fun W => rint_any (s.extract (n + 1) (n + 5)) W (by simp; omega)
    obtain ⟨v, hv⟩ : ∃ x : Int, ((C.be (bts (s.extract (n + 1) (n + 5))) : Nat) : Int) = x := ⟨_, rfl⟩
    rw [hv] at hnx hri
    have HNX := Lib.hid hnx; have HRI := Lib.hid hri
    have hrz : (s.extract (n + 5) s.size).size ≤ 1000 := by simp; omega
    have HRZ := Lib.hid hrz
    have HM := Lib.hid (msr_eq HB.out)
    clear hnx hri he hkz hf4 hv hrz
    obtain ⟨sn, hsn⟩ : ∃ x, acc.length = x := ⟨_, rfl⟩
    rw [hsn] at HB HSR HM hacc hal
    rw [hsn] at HKN
    have HSN := Lib.hid hsn
    have hknl : kn ≤ 1001 := by rw [HKN.out]; omega
    clear hsn
    have g1 : IntKind.i64.wrap ((n : Int) + 1) = (n : Int) + 1 := IntWalk.i64_in _ (by omega)
    have p1 : (1 : Int) ≤ (n : Int) + 1 := by omega
    have p2 : (n : Int) + 1 ≤ (s.size : Int) := by omega
    have p3 : (n : Int) + 1 ≤ (n : Int) + 5 := by omega
    have p4 : (n : Int) + 5 ≤ (s.size : Int) := by omega
    have p5 : (0 : Int) ≤ (n : Int) + 1 := by omega
    have p6 : (0 : Int) ≤ (n : Int) + 5 := by omega
    go_upto_region 14 with (fail)
    refine wp_region_any (by kernel_rfl) ?_
    refine wpAny_upto_f 9 (fun f L a W => ∃ v58 v59 v60 v61 v62 v63 v64 v65 v66 : Value, a = { tmps := List.toArray ((.int .u8 2) :: (.string body) :: undef :: undef :: (.pointer (some ⟨w.heap.size, 0, none⟩)) :: (f 5) :: undef :: undef :: (.pointer (some ⟨w.heap.size + 1 + 1, 0, none⟩)) :: (.string s) :: (.int .i64 (n : Int)) :: undef :: (.string body) :: (.int .i64 (body.size : Int)) :: (.bool false) :: (.bool false) :: (.int .u8 2) :: (.bool true) :: (.bool true) :: (.int .u8 2) :: (.bool false) :: (.bool false) :: (.bool false) :: undef :: (.int .u8 2) :: (.bool false) :: undef :: undef :: undef :: undef :: undef :: undef :: undef :: undef :: undef :: (.string body) :: (.int .i64 (body.size : Int)) :: (.bool false) :: undef :: (.string body) :: (.string (body.extract 0 4)) :: (.int .i64 k00) :: (.slice (some ⟨w.heap.size + 1, 0, none⟩) 1 1) :: (.agg #[.bool false, .slice none 0 0, .slice (some ⟨w.heap.size + 1, 0, none⟩) 1 1, .slice none 0 0]) :: (.string body) :: (.string (body.extract 4 body.size)) :: (f 46) :: (f 47) :: (f 48) :: (f 49) :: (f 50) :: (f 51) :: (f 52) :: (f 53) :: (f 54) :: (f 55) :: (f 56) :: (f 57) :: v58 :: v59 :: v60 :: v61 :: v62 :: v63 :: v64 :: v65 :: v66 :: (f 67) :: (f 68) :: (f 69) :: (f 70) :: (f 71) :: (f 72) :: (f 73) :: (f 74) :: (f 75) :: (f 76) :: (f 77) :: (f 78) :: (f 79) :: (f 80) :: (f 81) :: (f 82) :: undef :: undef :: undef :: undef :: undef :: undef :: []), defers := [] } ∧ Below w.heap.size w W ∧ w.heap.size + 3 ≤ (World.heap W).size ∧ (World.heap W)[w.heap.size + 1 + 1]? = some (.cells #[.bool false, .slice none 0 0, .slice ka kn kc, .slice sa sn sc] 73 (0, 0)) ∧ (World.heap W)[w.heap.size]? = some (.cells #[.bool false, .slice none 0 0, .slice none 0 0, .slice none 0 0] 73 (0, 0)) ∧ World.ownsRow W (w.heap.size + 1) 3 1 (.slice ka kn kc) kn (ics (k0 :: acc.map (·.2))) ∧ (¬ Lst L 7 → World.ownsRow W (w.heap.size + 1) 9 1 (.slice sa sn sc) sn (tcs (acc.map (·.1)))) ∧ (Lst L 7 → Lst L 6 ∧ ∃ (aa : Option Addr) (cc : Nat), v65 = .slice aa (sn + 1) cc ∧ World.ownsRow W (w.heap.size + 1) 9 1 (.slice aa (sn + 1) cc) (sn + 1) (tcs (acc.map (·.1)) ++ tcs [s.extract 1 (n + 1)])) ∧ (Lst L 6 → (¬ Lst L 7 → ∃ g : Nat, v64 = .slice (some ⟨g, 0, none⟩) 1 1 ∧ Txts W v64 [s.extract 1 (n + 1)])) ∧ (Lst L 0 → v58 = .pointer (some ⟨w.heap.size + 1 + 1, 3, none⟩)) ∧ (Lst L 1 → v59 = .slice sa sn sc) ∧ (Lst L 2 → v60 = .string s) ∧ (Lst L 3 → v61 = .int .i64 (n : Int)) ∧ (Lst L 4 → v62 = .int .i64 ((n : Int) + 1)) ∧ (Lst L 5 → v63 = .string (s.extract 1 (n + 1))) ∧ (Lst L 8 → v66 = .pointer (some ⟨w.heap.size + 1 + 1, 3, none⟩))) (by decide) (by kernel_rfl) (by kernel_rfl) ?step ?fin _ _ _ _ ?ini (by simp) (fun k _ => lst_none) (by simp)
    case ini => exact ⟨_, _, _, _, _, _, _, _, _, rfl, hbw.drew, hsz, HB.out, HA.out, HK.out, fun _ => HSR.out, fun h => absurd h lst_none, fun h => absurd h lst_none, fun h => absurd h lst_none, fun h => absurd h lst_none, fun h => absurd h lst_none, fun h => absurd h lst_none, fun h => absurd h lst_none, fun h => absurd h lst_none, fun h => absurd h lst_none⟩
    case step =>
      intro f L a W hI i him hi
      obtain ⟨v58, v59, v60, v61, v62, v63, v64, v65, v66, rfl, hb, hz, hB, hA, ho, hf⟩ := hI
      have F := Lib.hid hf
      have HI := Lib.hid hi
      have HBL := Lib.hid hB
      have HAL := Lib.hid hA
      have HOT := Lib.hid ho
      clear hf hB hA ho
      rcases (show i = 0 ∨ i = 1 ∨ i = 2 ∨ i = 3 ∨ i = 4 ∨ i = 5 ∨ i = 6 ∨ i = 7 ∨ i = 8 by omega) with rfl | rfl | rfl | rfl | rfl | rfl | rfl | rfl | rfl
      · clear him hi
        refine wpOp_step (o := _) rfl (fun K' hK => ?_)
        have HK := Lib.hid hK
        clear hK
        go_simp
        refine HK.out _ _ ⟨_, _, _, _, _, _, _, _, _, rfl, hb, hz, HBL.out, HAL.out, HOT.out, fun h => F.out.1 (fun h2 => h (lst_keep h2)), fun h => ⟨lst_keep (F.out.2.1 (lst_old (by decide) h)).1, (F.out.2.1 (lst_old (by decide) h)).2⟩, fun h => fun h2 => F.out.2.2.1 (lst_old (by decide) h) (fun h3 => h2 (lst_keep h3)), fun _ => rfl, fun h => F.out.2.2.2.2.1 (lst_old (by decide) h), fun h => F.out.2.2.2.2.2.1 (lst_old (by decide) h), fun h => F.out.2.2.2.2.2.2.1 (lst_old (by decide) h), fun h => F.out.2.2.2.2.2.2.2.1 (lst_old (by decide) h), fun h => F.out.2.2.2.2.2.2.2.2.1 (lst_old (by decide) h), fun h => F.out.2.2.2.2.2.2.2.2.2 (lst_old (by decide) h)⟩
      · clear him hi
        have p0 := F.out.2.2.2.1 (ready_needs (k := 0) HI.out (by kernel_rfl))
        subst p0
        have cc : W.cell? ⟨w.heap.size + 1 + 1, 3, none⟩ = some (.slice sa sn sc) := by rw [blk_cell HBL.out]; rfl
        refine wpOp_step (o := _) rfl (fun K' hK => ?_)
        have HK := Lib.hid hK
        clear hK
        go_simp
        refine HK.out _ _ ⟨_, _, _, _, _, _, _, _, _, rfl, hb, hz, HBL.out, HAL.out, HOT.out, fun h => F.out.1 (fun h2 => h (lst_keep h2)), fun h => ⟨lst_keep (F.out.2.1 (lst_old (by decide) h)).1, (F.out.2.1 (lst_old (by decide) h)).2⟩, fun h => fun h2 => F.out.2.2.1 (lst_old (by decide) h) (fun h3 => h2 (lst_keep h3)), fun h => F.out.2.2.2.1 (lst_old (by decide) h), fun _ => rfl, fun h => F.out.2.2.2.2.2.1 (lst_old (by decide) h), fun h => F.out.2.2.2.2.2.2.1 (lst_old (by decide) h), fun h => F.out.2.2.2.2.2.2.2.1 (lst_old (by decide) h), fun h => F.out.2.2.2.2.2.2.2.2.1 (lst_old (by decide) h), fun h => F.out.2.2.2.2.2.2.2.2.2 (lst_old (by decide) h)⟩
      · clear him hi
        refine wpOp_step (o := _) rfl (fun K' hK => ?_)
        have HK := Lib.hid hK
        clear hK
        go_simp
        refine HK.out _ _ ⟨_, _, _, _, _, _, _, _, _, rfl, hb, hz, HBL.out, HAL.out, HOT.out, fun h => F.out.1 (fun h2 => h (lst_keep h2)), fun h => ⟨lst_keep (F.out.2.1 (lst_old (by decide) h)).1, (F.out.2.1 (lst_old (by decide) h)).2⟩, fun h => fun h2 => F.out.2.2.1 (lst_old (by decide) h) (fun h3 => h2 (lst_keep h3)), fun h => F.out.2.2.2.1 (lst_old (by decide) h), fun h => F.out.2.2.2.2.1 (lst_old (by decide) h), fun _ => rfl, fun h => F.out.2.2.2.2.2.2.1 (lst_old (by decide) h), fun h => F.out.2.2.2.2.2.2.2.1 (lst_old (by decide) h), fun h => F.out.2.2.2.2.2.2.2.2.1 (lst_old (by decide) h), fun h => F.out.2.2.2.2.2.2.2.2.2 (lst_old (by decide) h)⟩
      · clear him hi
        refine wpOp_step (o := _) rfl (fun K' hK => ?_)
        have HK := Lib.hid hK
        clear hK
        go_simp
        refine HK.out _ _ ⟨_, _, _, _, _, _, _, _, _, rfl, hb, hz, HBL.out, HAL.out, HOT.out, fun h => F.out.1 (fun h2 => h (lst_keep h2)), fun h => ⟨lst_keep (F.out.2.1 (lst_old (by decide) h)).1, (F.out.2.1 (lst_old (by decide) h)).2⟩, fun h => fun h2 => F.out.2.2.1 (lst_old (by decide) h) (fun h3 => h2 (lst_keep h3)), fun h => F.out.2.2.2.1 (lst_old (by decide) h), fun h => F.out.2.2.2.2.1 (lst_old (by decide) h), fun h => F.out.2.2.2.2.2.1 (lst_old (by decide) h), fun _ => rfl, fun h => F.out.2.2.2.2.2.2.2.1 (lst_old (by decide) h), fun h => F.out.2.2.2.2.2.2.2.2.1 (lst_old (by decide) h), fun h => F.out.2.2.2.2.2.2.2.2.2 (lst_old (by decide) h)⟩
      · clear him hi
        have p3 := F.out.2.2.2.2.2.2.1 (ready_needs (k := 3) HI.out (by kernel_rfl))
        subst p3
        refine wpOp_step (o := _) rfl (fun K' hK => ?_)
        have HK := Lib.hid hK
        clear hK
        go_simp
        refine HK.out _ _ ⟨_, _, _, _, _, _, _, _, _, rfl, hb, hz, HBL.out, HAL.out, HOT.out, fun h => F.out.1 (fun h2 => h (lst_keep h2)), fun h => ⟨lst_keep (F.out.2.1 (lst_old (by decide) h)).1, (F.out.2.1 (lst_old (by decide) h)).2⟩, fun h => fun h2 => F.out.2.2.1 (lst_old (by decide) h) (fun h3 => h2 (lst_keep h3)), fun h => F.out.2.2.2.1 (lst_old (by decide) h), fun h => F.out.2.2.2.2.1 (lst_old (by decide) h), fun h => F.out.2.2.2.2.2.1 (lst_old (by decide) h), fun h => F.out.2.2.2.2.2.2.1 (lst_old (by decide) h), fun _ => rfl, fun h => F.out.2.2.2.2.2.2.2.2.1 (lst_old (by decide) h), fun h => F.out.2.2.2.2.2.2.2.2.2 (lst_old (by decide) h)⟩
      · clear him hi
        have p2 := F.out.2.2.2.2.2.1 (ready_needs (k := 2) HI.out (by kernel_rfl))
        subst p2
        have p4 := F.out.2.2.2.2.2.2.2.1 (ready_needs (k := 4) HI.out (by kernel_rfl))
        subst p4
        refine wpOp_step (o := _) rfl (fun K' hK => ?_)
        have HK := Lib.hid hK
        clear hK
        go_simp
        refine HK.out _ _ ⟨_, _, _, _, _, _, _, _, _, rfl, hb, hz, HBL.out, HAL.out, HOT.out, fun h => F.out.1 (fun h2 => h (lst_keep h2)), fun h => ⟨lst_keep (F.out.2.1 (lst_old (by decide) h)).1, (F.out.2.1 (lst_old (by decide) h)).2⟩, fun h => fun h2 => F.out.2.2.1 (lst_old (by decide) h) (fun h3 => h2 (lst_keep h3)), fun h => F.out.2.2.2.1 (lst_old (by decide) h), fun h => F.out.2.2.2.2.1 (lst_old (by decide) h), fun h => F.out.2.2.2.2.2.1 (lst_old (by decide) h), fun h => F.out.2.2.2.2.2.2.1 (lst_old (by decide) h), fun h => F.out.2.2.2.2.2.2.2.1 (lst_old (by decide) h), fun _ => rfl, fun h => F.out.2.2.2.2.2.2.2.2.2 (lst_old (by decide) h)⟩
      · clear him hi
        have p5 := F.out.2.2.2.2.2.2.2.2.1 (ready_needs (k := 5) HI.out (by kernel_rfl))
        subst p5
        refine wpOp_step (o := _) rfl (fun K' hK => ?_)
        have HK := Lib.hid hK
        clear hK
        go_simp
        refine HK.out _ _ ⟨_, _, _, _, _, _, _, _, _, rfl, (hb.alloc hb.size _), (by have := hz; simp; omega), (blk_below HBL.out ((Below.refl _ _).alloc (Nat.le_refl _) _)), (blk_below HAL.out ((Below.refl _ _).alloc (Nat.le_refl _) _)), (HOT.out.alloc _), fun h => (F.out.1 (fun h2 => h (lst_keep h2))).alloc _, fun h => absurd ((F.out.2.1 (lst_old (by decide) h)).1) (ready_not HI.out), fun _ => fun _ => ⟨_, rfl, new_txt W (s.extract 1 (n + 1)) 9⟩, fun h => F.out.2.2.2.1 (lst_old (by decide) h), fun h => F.out.2.2.2.2.1 (lst_old (by decide) h), fun h => F.out.2.2.2.2.2.1 (lst_old (by decide) h), fun h => F.out.2.2.2.2.2.2.1 (lst_old (by decide) h), fun h => F.out.2.2.2.2.2.2.2.1 (lst_old (by decide) h), fun h => F.out.2.2.2.2.2.2.2.2.1 (lst_old (by decide) h), fun h => F.out.2.2.2.2.2.2.2.2.2 (lst_old (by decide) h)⟩
      · clear him hi
        have p1 := F.out.2.2.2.2.1 (ready_needs (k := 1) HI.out (by kernel_rfl))
        subst p1
        obtain ⟨gg, p6, hone⟩ := (F.out.2.2.1 (ready_needs (k := 6) HI.out (by kernel_rfl))) (ready_not HI.out)
        subst p6
        have HONE := Lib.hid hone
        clear hone
        refine wpOp_step (o := _) rfl (fun K' hK => ?_)
        have HK := Lib.hid hK
        clear hK
        have HOW := Lib.hid (F.out.1 (ready_not HI.out))
        refine step_append_row rfl _ _ 22 rfl (w.heap.size + 1) 9 i9 _ 1 16 Try.underlying22 HI9.out hz90 hz91 hz92 rfl (by decide) (.slice sa sn sc) sn (tcs (acc.map (·.1))) rfl HOW.out (.slice (some ⟨gg, 0, none⟩) 1 1) rfl 1 (tcs [s.extract 1 (n + 1)]) HONE.out (tcs_one _) (by unfold maxLen; omega) (by omega) (by omega) ?_
        intro v3 W2 hown3 hg3
        obtain ⟨sa3, sc3, rfl⟩ := own_slice hown3
        refine HK.out _ _ ⟨_, _, _, _, _, _, _, _, _, rfl, (hb.grown hg3 hb.size (fun g hg => by have := (HOW.out.lt g hg).1; omega)), (Nat.le_trans hz hg3.size), (grown_blk2 HBL.out HOW.out hg3 (by decide)), (grown_blk2 HAL.out HOW.out hg3 (by decide)), (own_other HOT.out HOW.out hg3 (by decide)), fun h => absurd (lst_self HI.out) h, fun _ => ⟨lst_keep (ready_needs (k := 6) HI.out (by kernel_rfl)), _, _, rfl, hown3⟩, fun h => fun h2 => absurd (lst_self HI.out) h2, fun h => F.out.2.2.2.1 (lst_old (by decide) h), fun h => F.out.2.2.2.2.1 (lst_old (by decide) h), fun h => F.out.2.2.2.2.2.1 (lst_old (by decide) h), fun h => F.out.2.2.2.2.2.2.1 (lst_old (by decide) h), fun h => F.out.2.2.2.2.2.2.2.1 (lst_old (by decide) h), fun h => F.out.2.2.2.2.2.2.2.2.1 (lst_old (by decide) h), fun h => F.out.2.2.2.2.2.2.2.2.2 (lst_old (by decide) h)⟩
      · clear him hi
        refine wpOp_step (o := _) rfl (fun K' hK => ?_)
        have HK := Lib.hid hK
        clear hK
        go_simp
        refine HK.out _ _ ⟨_, _, _, _, _, _, _, _, _, rfl, hb, hz, HBL.out, HAL.out, HOT.out, fun h => F.out.1 (fun h2 => h (lst_keep h2)), fun h => ⟨lst_keep (F.out.2.1 (lst_old (by decide) h)).1, (F.out.2.1 (lst_old (by decide) h)).2⟩, fun h => fun h2 => F.out.2.2.1 (lst_old (by decide) h) (fun h3 => h2 (lst_keep h3)), fun h => F.out.2.2.2.1 (lst_old (by decide) h), fun h => F.out.2.2.2.2.1 (lst_old (by decide) h), fun h => F.out.2.2.2.2.2.1 (lst_old (by decide) h), fun h => F.out.2.2.2.2.2.2.1 (lst_old (by decide) h), fun h => F.out.2.2.2.2.2.2.2.1 (lst_old (by decide) h), fun h => F.out.2.2.2.2.2.2.2.2.1 (lst_old (by decide) h), fun _ => rfl⟩
    case fin =>
      intro f a W hI
      obtain ⟨v58, v59, v60, v61, v62, v63, v64, v65, v66, rfl, hb, hz, hB, hA, ho, hf⟩ := hI
      obtain ⟨_, sa3, sc3, pa, hown3⟩ := hf.2.1 rfl
      subst pa
      have p0 := hf.2.2.2.1 rfl
      subst p0
      have p1 := hf.2.2.2.2.1 rfl
      subst p1
      have p2 := hf.2.2.2.2.2.1 rfl
      subst p2
      have p3 := hf.2.2.2.2.2.2.1 rfl
      subst p3
      have p4 := hf.2.2.2.2.2.2.2.1 rfl
      subst p4
      have p5 := hf.2.2.2.2.2.2.2.2.1 rfl
      subst p5
      have p8 := hf.2.2.2.2.2.2.2.2.2 rfl
      subst p8
      clear hf
      refine wpAny_all (rs := [9]) (by kernel_rfl) (by simp) ?_
      intro i' hi'
      obtain rfl := List.mem_singleton.1 hi'
      have cc : W.cell? ⟨w.heap.size + 1 + 1, 3, none⟩ = some (.slice sa sn sc) := by rw [blk_cell hB]; rfl
      have ff := blk_free hB 3
      have hbs := blk_set hB 3 (.slice sa3 (sn + 1) sc3)
      have hon : Only (w.heap.size + 1 + 1) W (W.setCell ⟨w.heap.size + 1 + 1, 3, none⟩ (.slice sa3 (sn + 1) sc3)) := Only.set _ _ _
      have HBS := Lib.hid hbs; have HON := Lib.hid hon; have HAL := Lib.hid hA; have HOT := Lib.hid ho; have HNW := Lib.hid hown3; have HBL := Lib.hid hB
      clear hbs hon hA hB ho hown3
      refine wpOp_step (o := _) rfl (fun K' hK => ?_)
      have HKK := Lib.hid hK
      clear hK
      go_simp
      refine HKK.out _ _ (wpAny_done (by kernel_rfl) ?_ _)
      obtain ⟨w5, hw5⟩ : ∃ X, W.setCell ⟨w.heap.size + 1 + 1, 3, none⟩ (.slice sa3 (sn + 1) sc3) = X := ⟨_, rfl⟩
      rw [hw5] at HBS HON ⊢
      clear hw5 cc ff
      have hb := hb.trans (HON.out.to_below (by omega) hb.size)
      have hz := Nat.le_trans hz HON.out.size
      have HAL := Lib.hid (HON.out.blk HAL.out (by omega)); have HOT := Lib.hid (HOT.out.kept HON.out (.inr (own_kindJ HOT.out HBL.out (by decide)))); have HNW := Lib.hid (HNW.out.kept HON.out (.inr (own_kindJ HNW.out HBL.out (by decide))))
      clear HON HBL
      go_upto_region 15 with (fail)
      refine wp_region_any (by kernel_rfl) ?_
      refine wpAny_upto_f 12 (fun f L a W => ∃ v67 v68 v69 v70 v71 v72 v73 v74 v75 v76 v77 v78 : Value, a = { tmps := List.toArray ((.int .u8 2) :: (.string body) :: undef :: undef :: (.pointer (some ⟨w.heap.size, 0, none⟩)) :: (f 5) :: undef :: undef :: (.pointer (some ⟨w.heap.size + 1 + 1, 0, none⟩)) :: (.string s) :: (.int .i64 (n : Int)) :: undef :: (.string body) :: (.int .i64 (body.size : Int)) :: (.bool false) :: (.bool false) :: (.int .u8 2) :: (.bool true) :: (.bool true) :: (.int .u8 2) :: (.bool false) :: (.bool false) :: (.bool false) :: undef :: (.int .u8 2) :: (.bool false) :: undef :: undef :: undef :: undef :: undef :: undef :: undef :: undef :: undef :: (.string body) :: (.int .i64 (body.size : Int)) :: (.bool false) :: undef :: (.string body) :: (.string (body.extract 0 4)) :: (.int .i64 k00) :: (.slice (some ⟨w.heap.size + 1, 0, none⟩) 1 1) :: (.agg #[.bool false, .slice none 0 0, .slice (some ⟨w.heap.size + 1, 0, none⟩) 1 1, .slice none 0 0]) :: (.string body) :: (.string (body.extract 4 body.size)) :: (f 46) :: (f 47) :: (f 48) :: (f 49) :: (f 50) :: (f 51) :: (f 52) :: (f 53) :: (f 54) :: (f 55) :: (f 56) :: (f 57) :: (f 58) :: (f 59) :: (f 60) :: (f 61) :: (f 62) :: (f 63) :: (f 64) :: (f 65) :: (f 66) :: v67 :: v68 :: v69 :: v70 :: v71 :: v72 :: v73 :: v74 :: v75 :: v76 :: v77 :: v78 :: (f 79) :: (f 80) :: (f 81) :: (f 82) :: undef :: undef :: undef :: undef :: undef :: undef :: []), defers := [] } ∧ Below w.heap.size w W ∧ w.heap.size + 3 ≤ (World.heap W).size ∧ (World.heap W)[w.heap.size + 1 + 1]? = some (.cells #[.bool false, .slice none 0 0, .slice ka kn kc, .slice sa3 (sn + 1) sc3] 73 (0, 0)) ∧ (World.heap W)[w.heap.size]? = some (.cells #[.bool false, .slice none 0 0, .slice none 0 0, .slice none 0 0] 73 (0, 0)) ∧ World.ownsRow W (w.heap.size + 1) 9 1 (.slice sa3 (sn + 1) sc3) (sn + 1) (tcs (acc.map (·.1)) ++ tcs [s.extract 1 (n + 1)]) ∧ (¬ Lst L 10 → World.ownsRow W (w.heap.size + 1) 3 1 (.slice ka kn kc) kn (ics (k0 :: acc.map (·.2)))) ∧ (Lst L 10 → Lst L 9 ∧ ∃ (aa : Option Addr) (cc : Nat), v77 = .slice aa (kn + 1) cc ∧ World.ownsRow W (w.heap.size + 1) 3 1 (.slice aa (kn + 1) cc) (kn + 1) (ics (k0 :: acc.map (·.2)) ++ ics [v])) ∧ (Lst L 9 → (¬ Lst L 10 → ∃ g : Nat, v76 = .slice (some ⟨g, 0, none⟩) 1 1 ∧ Ints W v76 [v])) ∧ (Lst L 0 → v67 = .pointer (some ⟨w.heap.size + 1 + 1, 2, none⟩)) ∧ (Lst L 1 → v68 = .slice ka kn kc) ∧ (Lst L 2 → v69 = .string s) ∧ (Lst L 3 → v70 = .int .i64 (n : Int)) ∧ (Lst L 4 → v71 = .int .i64 ((n : Int) + 1)) ∧ (Lst L 5 → v72 = .int .i64 (n : Int)) ∧ (Lst L 6 → v73 = .int .i64 ((n : Int) + 5)) ∧ (Lst L 7 → v74 = .string (s.extract (n + 1) (n + 5))) ∧ (Lst L 8 → v75 = .int .i64 v) ∧ (Lst L 11 → v78 = .pointer (some ⟨w.heap.size + 1 + 1, 2, none⟩))) (by decide) (by kernel_rfl) (by kernel_rfl) ?step ?fin _ _ _ _ ?ini (by simp) (fun k _ => lst_none) (by simp)
      case ini => exact ⟨_, _, _, _, _, _, _, _, _, _, _, _, rfl, hb.drew, hz, HBS.out, HAL.out, HNW.out, fun _ => HOT.out, fun h => absurd h lst_none, fun h => absurd h lst_none, fun h => absurd h lst_none, fun h => absurd h lst_none, fun h => absurd h lst_none, fun h => absurd h lst_none, fun h => absurd h lst_none, fun h => absurd h lst_none, fun h => absurd h lst_none, fun h => absurd h lst_none, fun h => absurd h lst_none, fun h => absurd h lst_none⟩
      case step =>
        intro f L a W hI i him hi
        obtain ⟨v67, v68, v69, v70, v71, v72, v73, v74, v75, v76, v77, v78, rfl, hb, hz, hB, hA, ho, hf⟩ := hI
        have F := Lib.hid hf
        have HI := Lib.hid hi
        have HBL := Lib.hid hB
        have HAL := Lib.hid hA
        have HOT := Lib.hid ho
        clear hf hB hA ho
        rcases (show i = 0 ∨ i = 1 ∨ i = 2 ∨ i = 3 ∨ i = 4 ∨ i = 5 ∨ i = 6 ∨ i = 7 ∨ i = 8 ∨ i = 9 ∨ i = 10 ∨ i = 11 by omega) with rfl | rfl | rfl | rfl | rfl | rfl | rfl | rfl | rfl | rfl | rfl | rfl
        · clear him hi
          refine wpOp_step (o := _) rfl (fun K' hK => ?_)
          have HK := Lib.hid hK
          clear hK
          go_simp
          refine HK.out _ _ ⟨_, _, _, _, _, _, _, _, _, _, _, _, rfl, hb, hz, HBL.out, HAL.out, HOT.out, fun h => F.out.1 (fun h2 => h (lst_keep h2)), fun h => ⟨lst_keep (F.out.2.1 (lst_old (by decide) h)).1, (F.out.2.1 (lst_old (by decide) h)).2⟩, fun h => fun h2 => F.out.2.2.1 (lst_old (by decide) h) (fun h3 => h2 (lst_keep h3)), fun _ => rfl, fun h => F.out.2.2.2.2.1 (lst_old (by decide) h), fun h => F.out.2.2.2.2.2.1 (lst_old (by decide) h), fun h => F.out.2.2.2.2.2.2.1 (lst_old (by decide) h), fun h => F.out.2.2.2.2.2.2.2.1 (lst_old (by decide) h), fun h => F.out.2.2.2.2.2.2.2.2.1 (lst_old (by decide) h), fun h => F.out.2.2.2.2.2.2.2.2.2.1 (lst_old (by decide) h), fun h => F.out.2.2.2.2.2.2.2.2.2.2.1 (lst_old (by decide) h), fun h => F.out.2.2.2.2.2.2.2.2.2.2.2.1 (lst_old (by decide) h), fun h => F.out.2.2.2.2.2.2.2.2.2.2.2.2 (lst_old (by decide) h)⟩
        · clear him hi
          have p0 := F.out.2.2.2.1 (ready_needs (k := 0) HI.out (by kernel_rfl))
          subst p0
          have cc : W.cell? ⟨w.heap.size + 1 + 1, 2, none⟩ = some (.slice ka kn kc) := by rw [blk_cell HBL.out]; rfl
          refine wpOp_step (o := _) rfl (fun K' hK => ?_)
          have HK := Lib.hid hK
          clear hK
          go_simp
          refine HK.out _ _ ⟨_, _, _, _, _, _, _, _, _, _, _, _, rfl, hb, hz, HBL.out, HAL.out, HOT.out, fun h => F.out.1 (fun h2 => h (lst_keep h2)), fun h => ⟨lst_keep (F.out.2.1 (lst_old (by decide) h)).1, (F.out.2.1 (lst_old (by decide) h)).2⟩, fun h => fun h2 => F.out.2.2.1 (lst_old (by decide) h) (fun h3 => h2 (lst_keep h3)), fun h => F.out.2.2.2.1 (lst_old (by decide) h), fun _ => rfl, fun h => F.out.2.2.2.2.2.1 (lst_old (by decide) h), fun h => F.out.2.2.2.2.2.2.1 (lst_old (by decide) h), fun h => F.out.2.2.2.2.2.2.2.1 (lst_old (by decide) h), fun h => F.out.2.2.2.2.2.2.2.2.1 (lst_old (by decide) h), fun h => F.out.2.2.2.2.2.2.2.2.2.1 (lst_old (by decide) h), fun h => F.out.2.2.2.2.2.2.2.2.2.2.1 (lst_old (by decide) h), fun h => F.out.2.2.2.2.2.2.2.2.2.2.2.1 (lst_old (by decide) h), fun h => F.out.2.2.2.2.2.2.2.2.2.2.2.2 (lst_old (by decide) h)⟩
        · clear him hi
          refine wpOp_step (o := _) rfl (fun K' hK => ?_)
          have HK := Lib.hid hK
          clear hK
          go_simp
          refine HK.out _ _ ⟨_, _, _, _, _, _, _, _, _, _, _, _, rfl, hb, hz, HBL.out, HAL.out, HOT.out, fun h => F.out.1 (fun h2 => h (lst_keep h2)), fun h => ⟨lst_keep (F.out.2.1 (lst_old (by decide) h)).1, (F.out.2.1 (lst_old (by decide) h)).2⟩, fun h => fun h2 => F.out.2.2.1 (lst_old (by decide) h) (fun h3 => h2 (lst_keep h3)), fun h => F.out.2.2.2.1 (lst_old (by decide) h), fun h => F.out.2.2.2.2.1 (lst_old (by decide) h), fun _ => rfl, fun h => F.out.2.2.2.2.2.2.1 (lst_old (by decide) h), fun h => F.out.2.2.2.2.2.2.2.1 (lst_old (by decide) h), fun h => F.out.2.2.2.2.2.2.2.2.1 (lst_old (by decide) h), fun h => F.out.2.2.2.2.2.2.2.2.2.1 (lst_old (by decide) h), fun h => F.out.2.2.2.2.2.2.2.2.2.2.1 (lst_old (by decide) h), fun h => F.out.2.2.2.2.2.2.2.2.2.2.2.1 (lst_old (by decide) h), fun h => F.out.2.2.2.2.2.2.2.2.2.2.2.2 (lst_old (by decide) h)⟩
        · clear him hi
          refine wpOp_step (o := _) rfl (fun K' hK => ?_)
          have HK := Lib.hid hK
          clear hK
          go_simp
          refine HK.out _ _ ⟨_, _, _, _, _, _, _, _, _, _, _, _, rfl, hb, hz, HBL.out, HAL.out, HOT.out, fun h => F.out.1 (fun h2 => h (lst_keep h2)), fun h => ⟨lst_keep (F.out.2.1 (lst_old (by decide) h)).1, (F.out.2.1 (lst_old (by decide) h)).2⟩, fun h => fun h2 => F.out.2.2.1 (lst_old (by decide) h) (fun h3 => h2 (lst_keep h3)), fun h => F.out.2.2.2.1 (lst_old (by decide) h), fun h => F.out.2.2.2.2.1 (lst_old (by decide) h), fun h => F.out.2.2.2.2.2.1 (lst_old (by decide) h), fun _ => rfl, fun h => F.out.2.2.2.2.2.2.2.1 (lst_old (by decide) h), fun h => F.out.2.2.2.2.2.2.2.2.1 (lst_old (by decide) h), fun h => F.out.2.2.2.2.2.2.2.2.2.1 (lst_old (by decide) h), fun h => F.out.2.2.2.2.2.2.2.2.2.2.1 (lst_old (by decide) h), fun h => F.out.2.2.2.2.2.2.2.2.2.2.2.1 (lst_old (by decide) h), fun h => F.out.2.2.2.2.2.2.2.2.2.2.2.2 (lst_old (by decide) h)⟩
        · clear him hi
          have p3 := F.out.2.2.2.2.2.2.1 (ready_needs (k := 3) HI.out (by kernel_rfl))
          subst p3
          refine wpOp_step (o := _) rfl (fun K' hK => ?_)
          have HK := Lib.hid hK
          clear hK
          go_simp
          refine HK.out _ _ ⟨_, _, _, _, _, _, _, _, _, _, _, _, rfl, hb, hz, HBL.out, HAL.out, HOT.out, fun h => F.out.1 (fun h2 => h (lst_keep h2)), fun h => ⟨lst_keep (F.out.2.1 (lst_old (by decide) h)).1, (F.out.2.1 (lst_old (by decide) h)).2⟩, fun h => fun h2 => F.out.2.2.1 (lst_old (by decide) h) (fun h3 => h2 (lst_keep h3)), fun h => F.out.2.2.2.1 (lst_old (by decide) h), fun h => F.out.2.2.2.2.1 (lst_old (by decide) h), fun h => F.out.2.2.2.2.2.1 (lst_old (by decide) h), fun h => F.out.2.2.2.2.2.2.1 (lst_old (by decide) h), fun _ => rfl, fun h => F.out.2.2.2.2.2.2.2.2.1 (lst_old (by decide) h), fun h => F.out.2.2.2.2.2.2.2.2.2.1 (lst_old (by decide) h), fun h => F.out.2.2.2.2.2.2.2.2.2.2.1 (lst_old (by decide) h), fun h => F.out.2.2.2.2.2.2.2.2.2.2.2.1 (lst_old (by decide) h), fun h => F.out.2.2.2.2.2.2.2.2.2.2.2.2 (lst_old (by decide) h)⟩
        · clear him hi
          refine wpOp_step (o := _) rfl (fun K' hK => ?_)
          have HK := Lib.hid hK
          clear hK
          go_simp
          refine HK.out _ _ ⟨_, _, _, _, _, _, _, _, _, _, _, _, rfl, hb, hz, HBL.out, HAL.out, HOT.out, fun h => F.out.1 (fun h2 => h (lst_keep h2)), fun h => ⟨lst_keep (F.out.2.1 (lst_old (by decide) h)).1, (F.out.2.1 (lst_old (by decide) h)).2⟩, fun h => fun h2 => F.out.2.2.1 (lst_old (by decide) h) (fun h3 => h2 (lst_keep h3)), fun h => F.out.2.2.2.1 (lst_old (by decide) h), fun h => F.out.2.2.2.2.1 (lst_old (by decide) h), fun h => F.out.2.2.2.2.2.1 (lst_old (by decide) h), fun h => F.out.2.2.2.2.2.2.1 (lst_old (by decide) h), fun h => F.out.2.2.2.2.2.2.2.1 (lst_old (by decide) h), fun _ => rfl, fun h => F.out.2.2.2.2.2.2.2.2.2.1 (lst_old (by decide) h), fun h => F.out.2.2.2.2.2.2.2.2.2.2.1 (lst_old (by decide) h), fun h => F.out.2.2.2.2.2.2.2.2.2.2.2.1 (lst_old (by decide) h), fun h => F.out.2.2.2.2.2.2.2.2.2.2.2.2 (lst_old (by decide) h)⟩
        · clear him hi
          have p5 := F.out.2.2.2.2.2.2.2.2.1 (ready_needs (k := 5) HI.out (by kernel_rfl))
          subst p5
          refine wpOp_step (o := _) rfl (fun K' hK => ?_)
          have HK := Lib.hid hK
          clear hK
          go_simp
          refine HK.out _ _ ⟨_, _, _, _, _, _, _, _, _, _, _, _, rfl, hb, hz, HBL.out, HAL.out, HOT.out, fun h => F.out.1 (fun h2 => h (lst_keep h2)), fun h => ⟨lst_keep (F.out.2.1 (lst_old (by decide) h)).1, (F.out.2.1 (lst_old (by decide) h)).2⟩, fun h => fun h2 => F.out.2.2.1 (lst_old (by decide) h) (fun h3 => h2 (lst_keep h3)), fun h => F.out.2.2.2.1 (lst_old (by decide) h), fun h => F.out.2.2.2.2.1 (lst_old (by decide) h), fun h => F.out.2.2.2.2.2.1 (lst_old (by decide) h), fun h => F.out.2.2.2.2.2.2.1 (lst_old (by decide) h), fun h => F.out.2.2.2.2.2.2.2.1 (lst_old (by decide) h), fun h => F.out.2.2.2.2.2.2.2.2.1 (lst_old (by decide) h), fun _ => rfl, fun h => F.out.2.2.2.2.2.2.2.2.2.2.1 (lst_old (by decide) h), fun h => F.out.2.2.2.2.2.2.2.2.2.2.2.1 (lst_old (by decide) h), fun h => F.out.2.2.2.2.2.2.2.2.2.2.2.2 (lst_old (by decide) h)⟩
        · clear him hi
          have p2 := F.out.2.2.2.2.2.1 (ready_needs (k := 2) HI.out (by kernel_rfl))
          subst p2
          have p4 := F.out.2.2.2.2.2.2.2.1 (ready_needs (k := 4) HI.out (by kernel_rfl))
          subst p4
          have p6 := F.out.2.2.2.2.2.2.2.2.2.1 (ready_needs (k := 6) HI.out (by kernel_rfl))
          subst p6
          refine wpOp_step (o := _) rfl (fun K' hK => ?_)
          have HK := Lib.hid hK
          clear hK
          go_simp
          refine HK.out _ _ ⟨_, _, _, _, _, _, _, _, _, _, _, _, rfl, hb, hz, HBL.out, HAL.out, HOT.out, fun h => F.out.1 (fun h2 => h (lst_keep h2)), fun h => ⟨lst_keep (F.out.2.1 (lst_old (by decide) h)).1, (F.out.2.1 (lst_old (by decide) h)).2⟩, fun h => fun h2 => F.out.2.2.1 (lst_old (by decide) h) (fun h3 => h2 (lst_keep h3)), fun h => F.out.2.2.2.1 (lst_old (by decide) h), fun h => F.out.2.2.2.2.1 (lst_old (by decide) h), fun h => F.out.2.2.2.2.2.1 (lst_old (by decide) h), fun h => F.out.2.2.2.2.2.2.1 (lst_old (by decide) h), fun h => F.out.2.2.2.2.2.2.2.1 (lst_old (by decide) h), fun h => F.out.2.2.2.2.2.2.2.2.1 (lst_old (by decide) h), fun h => F.out.2.2.2.2.2.2.2.2.2.1 (lst_old (by decide) h), fun _ => rfl, fun h => F.out.2.2.2.2.2.2.2.2.2.2.2.1 (lst_old (by decide) h), fun h => F.out.2.2.2.2.2.2.2.2.2.2.2.2 (lst_old (by decide) h)⟩
        · clear him hi
          have p7 := F.out.2.2.2.2.2.2.2.2.2.2.1 (ready_needs (k := 7) HI.out (by kernel_rfl))
          subst p7
          refine wpOp_step (o := _) rfl (fun K' hK => ?_)
          have HK := Lib.hid hK
          clear hK
          go_simp
          refine (HRI.out W).mono ?_
          rintro r W2 ⟨rfl, hw2⟩
          subst hw2
          refine HK.out _ _ ⟨_, _, _, _, _, _, _, _, _, _, _, _, rfl, hb, hz, HBL.out, HAL.out, HOT.out, fun h => F.out.1 (fun h2 => h (lst_keep h2)), fun h => ⟨lst_keep (F.out.2.1 (lst_old (by decide) h)).1, (F.out.2.1 (lst_old (by decide) h)).2⟩, fun h => fun h2 => F.out.2.2.1 (lst_old (by decide) h) (fun h3 => h2 (lst_keep h3)), fun h => F.out.2.2.2.1 (lst_old (by decide) h), fun h => F.out.2.2.2.2.1 (lst_old (by decide) h), fun h => F.out.2.2.2.2.2.1 (lst_old (by decide) h), fun h => F.out.2.2.2.2.2.2.1 (lst_old (by decide) h), fun h => F.out.2.2.2.2.2.2.2.1 (lst_old (by decide) h), fun h => F.out.2.2.2.2.2.2.2.2.1 (lst_old (by decide) h), fun h => F.out.2.2.2.2.2.2.2.2.2.1 (lst_old (by decide) h), fun h => F.out.2.2.2.2.2.2.2.2.2.2.1 (lst_old (by decide) h), fun _ => rfl, fun h => F.out.2.2.2.2.2.2.2.2.2.2.2.2 (lst_old (by decide) h)⟩
        · clear him hi
          have p8 := F.out.2.2.2.2.2.2.2.2.2.2.2.1 (ready_needs (k := 8) HI.out (by kernel_rfl))
          subst p8
          refine wpOp_step (o := _) rfl (fun K' hK => ?_)
          have HK := Lib.hid hK
          clear hK
          go_simp
          refine HK.out _ _ ⟨_, _, _, _, _, _, _, _, _, _, _, _, rfl, (hb.alloc hb.size _), (by have := hz; simp; omega), (blk_below HBL.out ((Below.refl _ _).alloc (Nat.le_refl _) _)), (blk_below HAL.out ((Below.refl _ _).alloc (Nat.le_refl _) _)), (HOT.out.alloc _), fun h => (F.out.1 (fun h2 => h (lst_keep h2))).alloc _, fun h => absurd ((F.out.2.1 (lst_old (by decide) h)).1) (ready_not HI.out), fun _ => fun _ => ⟨_, rfl, new_int W v 3⟩, fun h => F.out.2.2.2.1 (lst_old (by decide) h), fun h => F.out.2.2.2.2.1 (lst_old (by decide) h), fun h => F.out.2.2.2.2.2.1 (lst_old (by decide) h), fun h => F.out.2.2.2.2.2.2.1 (lst_old (by decide) h), fun h => F.out.2.2.2.2.2.2.2.1 (lst_old (by decide) h), fun h => F.out.2.2.2.2.2.2.2.2.1 (lst_old (by decide) h), fun h => F.out.2.2.2.2.2.2.2.2.2.1 (lst_old (by decide) h), fun h => F.out.2.2.2.2.2.2.2.2.2.2.1 (lst_old (by decide) h), fun h => F.out.2.2.2.2.2.2.2.2.2.2.2.1 (lst_old (by decide) h), fun h => F.out.2.2.2.2.2.2.2.2.2.2.2.2 (lst_old (by decide) h)⟩
        · clear him hi
          have p1 := F.out.2.2.2.2.1 (ready_needs (k := 1) HI.out (by kernel_rfl))
          subst p1
          obtain ⟨gg, p9, hone⟩ := (F.out.2.2.1 (ready_needs (k := 9) HI.out (by kernel_rfl))) (ready_not HI.out)
          subst p9
          have HONE := Lib.hid hone
          clear hone
          refine wpOp_step (o := _) rfl (fun K' hK => ?_)
          have HK := Lib.hid hK
          clear hK
          have HOW := Lib.hid (F.out.1 (ready_not HI.out))
          refine step_append_row rfl _ _ 67 rfl (w.heap.size + 1) 3 i3 _ 1 8 Try.underlying67 HI3.out hz30 hz31 hz32 rfl (by decide) (.slice ka kn kc) kn (ics (k0 :: acc.map (·.2))) rfl HOW.out (.slice (some ⟨gg, 0, none⟩) 1 1) rfl 1 (ics [v]) HONE.out (ics_one _) (by unfold maxLen; omega) (by omega) (by omega) ?_
          intro v3 W2 hown3 hg3
          obtain ⟨ka3, kc3, rfl⟩ := own_slice hown3
          refine HK.out _ _ ⟨_, _, _, _, _, _, _, _, _, _, _, _, rfl, (hb.grown hg3 hb.size (fun g hg => by have := (HOW.out.lt g hg).1; omega)), (Nat.le_trans hz hg3.size), (grown_blk2 HBL.out HOW.out hg3 (by decide)), (grown_blk2 HAL.out HOW.out hg3 (by decide)), (own_other HOT.out HOW.out hg3 (by decide)), fun h => absurd (lst_self HI.out) h, fun _ => ⟨lst_keep (ready_needs (k := 9) HI.out (by kernel_rfl)), _, _, rfl, hown3⟩, fun h => fun h2 => absurd (lst_self HI.out) h2, fun h => F.out.2.2.2.1 (lst_old (by decide) h), fun h => F.out.2.2.2.2.1 (lst_old (by decide) h), fun h => F.out.2.2.2.2.2.1 (lst_old (by decide) h), fun h => F.out.2.2.2.2.2.2.1 (lst_old (by decide) h), fun h => F.out.2.2.2.2.2.2.2.1 (lst_old (by decide) h), fun h => F.out.2.2.2.2.2.2.2.2.1 (lst_old (by decide) h), fun h => F.out.2.2.2.2.2.2.2.2.2.1 (lst_old (by decide) h), fun h => F.out.2.2.2.2.2.2.2.2.2.2.1 (lst_old (by decide) h), fun h => F.out.2.2.2.2.2.2.2.2.2.2.2.1 (lst_old (by decide) h), fun h => F.out.2.2.2.2.2.2.2.2.2.2.2.2 (lst_old (by decide) h)⟩
        · clear him hi
          refine wpOp_step (o := _) rfl (fun K' hK => ?_)
          have HK := Lib.hid hK
          clear hK
          go_simp
          refine HK.out _ _ ⟨_, _, _, _, _, _, _, _, _, _, _, _, rfl, hb, hz, HBL.out, HAL.out, HOT.out, fun h => F.out.1 (fun h2 => h (lst_keep h2)), fun h => ⟨lst_keep (F.out.2.1 (lst_old (by decide) h)).1, (F.out.2.1 (lst_old (by decide) h)).2⟩, fun h => fun h2 => F.out.2.2.1 (lst_old (by decide) h) (fun h3 => h2 (lst_keep h3)), fun h => F.out.2.2.2.1 (lst_old (by decide) h), fun h => F.out.2.2.2.2.1 (lst_old (by decide) h), fun h => F.out.2.2.2.2.2.1 (lst_old (by decide) h), fun h => F.out.2.2.2.2.2.2.1 (lst_old (by decide) h), fun h => F.out.2.2.2.2.2.2.2.1 (lst_old (by decide) h), fun h => F.out.2.2.2.2.2.2.2.2.1 (lst_old (by decide) h), fun h => F.out.2.2.2.2.2.2.2.2.2.1 (lst_old (by decide) h), fun h => F.out.2.2.2.2.2.2.2.2.2.2.1 (lst_old (by decide) h), fun h => F.out.2.2.2.2.2.2.2.2.2.2.2.1 (lst_old (by decide) h), fun _ => rfl⟩
      case fin =>
        intro f a W hI
        obtain ⟨v67, v68, v69, v70, v71, v72, v73, v74, v75, v76, v77, v78, rfl, hb, hz, hB, hA, ho, hf⟩ := hI
        obtain ⟨_, ka3, kc3, pa, hown3⟩ := hf.2.1 rfl
        subst pa
        have p0 := hf.2.2.2.1 rfl
        subst p0
        have p1 := hf.2.2.2.2.1 rfl
        subst p1
        have p2 := hf.2.2.2.2.2.1 rfl
        subst p2
        have p3 := hf.2.2.2.2.2.2.1 rfl
        subst p3
        have p4 := hf.2.2.2.2.2.2.2.1 rfl
        subst p4
        have p5 := hf.2.2.2.2.2.2.2.2.1 rfl
        subst p5
        have p6 := hf.2.2.2.2.2.2.2.2.2.1 rfl
        subst p6
        have p7 := hf.2.2.2.2.2.2.2.2.2.2.1 rfl
        subst p7
        have p8 := hf.2.2.2.2.2.2.2.2.2.2.2.1 rfl
        subst p8
        have p11 := hf.2.2.2.2.2.2.2.2.2.2.2.2 rfl
        subst p11
        clear hf
        refine wpAny_all (rs := [12]) (by kernel_rfl) (by simp) ?_
        intro i' hi'
        obtain rfl := List.mem_singleton.1 hi'
        have cc : W.cell? ⟨w.heap.size + 1 + 1, 2, none⟩ = some (.slice ka kn kc) := by rw [blk_cell hB]; rfl
        have ff := blk_free hB 2
        have hbs := blk_set hB 2 (.slice ka3 (kn + 1) kc3)
        have hon : Only (w.heap.size + 1 + 1) W (W.setCell ⟨w.heap.size + 1 + 1, 2, none⟩ (.slice ka3 (kn + 1) kc3)) := Only.set _ _ _
        have HBS := Lib.hid hbs; have HON := Lib.hid hon; have HAL := Lib.hid hA; have HOT := Lib.hid ho; have HNW := Lib.hid hown3; have HBL := Lib.hid hB
        clear hbs hon hA hB ho hown3
        refine wpOp_step (o := _) rfl (fun K' hK => ?_)
        have HKK := Lib.hid hK
        clear hK
        go_simp
        refine HKK.out _ _ (wpAny_done (by kernel_rfl) ?_ _)
        obtain ⟨w6, hw5⟩ : ∃ X, W.setCell ⟨w.heap.size + 1 + 1, 2, none⟩ (.slice ka3 (kn + 1) kc3) = X := ⟨_, rfl⟩
        rw [hw5] at HBS HON ⊢
        clear hw5 cc ff
        have hb := hb.trans (HON.out.to_below (by omega) hb.size)
        have hz := Nat.le_trans hz HON.out.size
        have HAL := Lib.hid (HON.out.blk HAL.out (by omega)); have HOT := Lib.hid (HOT.out.kept HON.out (.inr (own_kindJ HOT.out HBL.out (by decide)))); have HNW := Lib.hid (HNW.out.kept HON.out (.inr (own_kindJ HNW.out HBL.out (by decide))))
        clear HON HBL
        have hln : (acc ++ [((s.extract 1 (n + 1), v) : M.KV)]).length = sn + 1 := by rw [List.length_append, HSN.out]; rfl
        have hrow1 : w6.ownsRow (w.heap.size + 1) 3 1 (.slice ka3 (kn + 1) kc3) (kn + 1) (ics (k0 :: (acc ++ [((s.extract 1 (n + 1), v) : M.KV)]).map (·.2))) := by
          have := HNW.out
          rw [← ics_append] at this
          simpa using this
        have hrow2 : w6.ownsRow (w.heap.size + 1) 9 1 (.slice sa3 (sn + 1) sc3) (sn + 1) (tcs ((acc ++ [((s.extract 1 (n + 1), v) : M.KV)]).map (·.1))) := by
          have := HOT.out
          rw [← tcs_append] at this
          simpa using this
        have HREL := Lib.hid (show RelR w body (.string (s.extract (n + 5) s.size)) w6 from ⟨_, k0, acc ++ [((s.extract 1 (n + 1), v) : M.KV)], ka3, sa3, kn + 1, kc3, sc3, rfl, by rw [hln]; exact HBS.out, HAL.out, by rw [hln, HKN.out], hrow1, by rw [hln]; exact hrow2, HNX.out, by rw [hln]; exact hacc, HRZ.out, hb, hz⟩)
        have HM2 := Lib.hid (msr_eq HBS.out)
        clear hln hrow1 hrow2 hb hz hbw hsz hal
        go_wp2
        go_roundw
        case rel => exact HREL.out
        case measure => rw [HM.out, HM2.out]; omega
theorem nrdecode_any (kind : Int) (body : ByteArray) (w : World) : Calls Try.prog 68 #[.int .u8 kind, .string body] w (NDr kind (bts body) w) := by
  rcases Nat.lt_or_ge 240 body.size with h | h
  · exact nrdecode_long kind body w h
  · by_cases h1 : kind = 1
    · subst h1; exact nrdecode_leaf body w h
    · by_cases h2 : kind = 2
      · subst h2; exact nrdecode_inner body w h
      · exact nrdecode_other kind body w h h1 h2
end Go.Proofs.Ytifdglehfhoecaa.N
