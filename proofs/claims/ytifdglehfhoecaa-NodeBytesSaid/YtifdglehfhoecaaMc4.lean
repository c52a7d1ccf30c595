/-
  Texts of this proof, merged: EDec, EStep, ERefDec, NDecMath, NRegion, NCopy0, NCopied. What each says stands at its head.
-/
import Derived.Deep.RegionHeld3
import Derived.BigQuiet
import Derived.Test.YtifdglehfhoecaaMc3
/-
  The list of bytes, as it is read. Conditions: below 2^30 bytes.
-/
namespace Go.Proofs.Ytifdglehfhoecaa.E
open Go.RowKit B
/-- the list of which bytes are just that, if it is right -/
def Dr (b : List UInt8) (l : List Ent) (e : Int) : Prop := (e = 0 ∧ M.Dec b l ∧ M.Ok l) ∨ (e = 3 ∧ l = [] ∧ ∀ m, ¬ (M.Dec b m ∧ M.Ok m))
theorem dr_inj {b : List UInt8} {l m : List Ent} {e f : Int} (h : Dr b l e) (k : Dr b m f) : l = m ∧ e = f := by
  rcases h with ⟨h1, h2, h3⟩ | ⟨h1, h2, h3⟩ <;> rcases k with ⟨k1, k2, k3⟩ | ⟨k1, k2, k3⟩
  · exact ⟨M.dec_inj h2 k2, h1.trans k1.symm⟩
  · exact absurd ⟨h2, h3⟩ (k3 _)
  · exact absurd ⟨k2, k3⟩ (h3 _)
  · exact ⟨h2.trans k2.symm, h1.trans k1.symm⟩
theorem dr_enc {l : List Ent} (h : M.Ok l) : Dr (M.enc l) l 0 := .inl ⟨rfl, ⟨M.ok_fits h, rfl⟩, h⟩
/-- how far the reader is: what is read, or that nothing is there -/
def Rs (body s : List UInt8) (e : Int) (acc : List Ent) : Prop := (e = 0 ∧ M.Fits acc ∧ body = M.enc acc ++ s ∧ acc.length + s.length ≤ body.length) ∨ (e ≠ 0 ∧ ∀ m, ¬ M.Dec body m)
def lenV : Value → Nat
  | .slice _ n _ => n
  | _ => 0
theorem lenV_own {w : World} {base : Nat} {e : TypeId} {size n : Nat} {v : Value} {cs : List Value} (h : w.ownsRow base e size v n cs) : lenV v = n := by
  obtain ⟨_, ⟨rfl, rfl⟩ | ⟨g, cap, cur, rfl, _⟩⟩ := h <;> rfl
theorem rs_next {body : ByteArray} {s : ByteArray} {acc : List Ent} (h : Rs (bts body) (bts s) 0 acc) (h0 : 0 < s.size) :
    Rs (bts body) (bts (C.textS (C.textS s 0) (C.textE s 0))) (C.textE (C.textS s 0) (C.textE s 0)) (acc ++ [(C.textO s 0, C.textO (C.textS s 0) (C.textE s 0))]) ∧ acc.length + 1 ≤ body.size := by
  rcases h with ⟨_, hf, hb, hl⟩ | ⟨h, _⟩
  case inr => exact absurd rfl h
  have hsl : (bts s).length = s.size := bts_len s
  have hbl : (bts body).length = body.size := bts_len body
  have hne : bts s ≠ [] := fun e => by rw [e] at hsl; simp at hsl; omega
  refine ⟨?_, by omega⟩
  rcases C.text_or s with ⟨h1, h2, h3⟩ | ⟨h1, h2⟩
  · rw [h1]
    rcases C.text_or (C.textS s 0) with ⟨k1, k2, k3⟩ | ⟨k1, k2⟩
    · left
      refine ⟨k1, M.fits_snoc hf h2 k2, ?_, ?_⟩
      · rw [M.enc_snoc2, hb, h3, k3]; simp
      · have e1 := congrArg List.length h3
        have e2 := congrArg List.length k3
        rw [List.length_append, M.tbl_len] at e1 e2
        rw [List.length_append]
        simp only [List.length_cons, List.length_nil]
        omega
    · right
      refine ⟨k1, M.no_dec hf hb hne fun k v r hk hv he => ?_⟩
      rw [h3] at he
      obtain ⟨_, e2⟩ := M.tbl_inj h2 hk he
      exact k2 v r hv e2
  · right
    refine ⟨by rw [C.textE_ne h1]; exact h1, M.no_dec hf hb hne fun k v r hk hv he => h2 k _ hk he⟩
theorem rs_end {body s : ByteArray} {e : Int} {acc : List Ent} (h : Rs (bts body) (bts s) e acc) (hz : s.size = 0 ∨ e ≠ 0) : (C.endE s e = 0 ∧ M.Dec (bts body) acc) ∨ (C.endE s e ≠ 0 ∧ ∀ m, ¬ M.Dec (bts body) m) := by
  rcases h with ⟨h1, h2, h3, h4⟩ | ⟨h1, h2⟩
  · have hs : s.size = 0 := hz.resolve_right (fun h => h h1)
    left
    have hn : bts s = [] := List.eq_nil_of_length_eq_zero ((bts_len s).trans hs)
    refine ⟨by unfold C.endE; rw [if_pos hs, h1], h2, ?_⟩
    rw [h3, hn, List.append_nil]
  · right
    refine ⟨?_, h2⟩
    unfold C.endE C.failE
    split <;> first | exact h1 | (rw [if_neg h1]; exact h1)
def Dcd (b : List UInt8) (w : World) (r : Ending) (w' : World) : Prop := ∃ u l e, r = .returned (.tuple #[u, .int .i64 e]) ∧ Ents w' u l ∧ Dr b l e ∧ Below w.heap.size w w'
theorem own_only {w w' : World} {g base size n : Nat} {e : TypeId} {v : Value} {cs : List Value} (h : w.ownsRow base e size v n cs) (ho : Only g w w') (hg : g < base) : w'.ownsRow base e size v n cs :=
  h.kept ho (.inr fun he => by have := (h.lt g he).1; omega)
theorem rd_grown {w w' : World} {a base size n : Nat} {t : TypeId} {v : Value} {cs : List Value} {s : ByteArray} {e : Int} (h : C.Rd w a s e) (ho : w.ownsRow base t size v n cs) (hg : w.grownBy w' v.ownBlock) (ha : a < base) : C.Rd w' a s e := by
  unfold C.Rd
  rw [hg.block a h.lt fun he => by have := (ho.lt a he.symm).1; omega]
  exact h
set_option maxRecDepth 100000 in
set_option maxHeartbeats 2000000 in
theorem decode_any (body : ByteArray) (w : World) (hb : body.size ≤ 1000000000) : Calls Try.prog 49 #[.string body] w (Dcd (bts body) w) := by
  obtain ⟨i0, hi, hz0, hz1, hz2⟩ := info_parts info49
  go_enter Try.func49, Try.ntmps49
  go_wp2_with fail
  refine (C.read_any body _).mono ?_
  rintro r w1 ⟨rfl, hr1, hb1⟩
  have HR1 := Lib.hid hr1
  have hlt1 := hr1.lt
  clear hr1
  go_wp2
  go_loopw [5] (fun u wr => ∃ (s : ByteArray) (e : Int) (acc : List Ent), C.Rd wr w.heap.size s e ∧ wr.ownsRow w1.heap.size 49 2 u acc.length (ecs acc) ∧ Rs (bts body) (bts s) e acc ∧ acc.length ≤ body.size ∧ Below w.heap.size w wr ∧ w1.heap.size ≤ wr.heap.size) (fun u _ => body.size - lenV u)
  case atStart => exact ⟨body, 0, [], HR1.out, World.ownsRow_nil _ _ _ _, .inl ⟨rfl, fun e h => by simp at h, rfl, by simp⟩, Nat.zero_le _, hb1, Nat.le_refl _⟩
  case round =>
    obtain ⟨s, e, acc, hr, hown, hrs, hal, hbw, hsz⟩ := hrel
    have HR := Lib.hid hr; have HO := Lib.hid hown; have HRS := Lib.hid hrs
    clear hr hown hrs
    by_cases hgo : 0 < s.size ∧ e = 0
    · obtain ⟨h0, rfl⟩ := hgo
      obtain ⟨hnx, hacc⟩ := rs_next HRS.out h0
      have ht1 := fun W h => C.text_any w.heap.size s 0 W h
      obtain ⟨s1, hs1⟩ : ∃ x, C.textS s 0 = x := ⟨_, rfl⟩
      obtain ⟨e1, he1⟩ : ∃ x, C.textE s 0 = x := ⟨_, rfl⟩
      obtain ⟨k, hk⟩ : ∃ x, C.textO s 0 = x := ⟨_, rfl⟩
      rw [hs1, he1, hk] at hnx ht1
      have ht2 := fun W h => C.text_any w.heap.size s1 e1 W h
      obtain ⟨s2, hs2⟩ : ∃ x, C.textS s1 e1 = x := ⟨_, rfl⟩
      obtain ⟨e2, he2⟩ : ∃ x, C.textE s1 e1 = x := ⟨_, rfl⟩
      obtain ⟨v, hv⟩ : ∃ x, C.textO s1 e1 = x := ⟨_, rfl⟩
      rw [hs2, he2, hv] at hnx ht2
      have HNX := Lib.hid hnx; have HT1 := Lib.hid ht1; have HT2 := Lib.hid ht2
      have HLV := Lib.hid (lenV_own HO.out)
      clear hnx ht1 ht2 hs1 he1 hk hs2 he2 hv
      have hs0 : (0 : Int) < (s.size : Int) := by omega
      go_wp2_with fail
      refine (C.left_any _ s 0 _ HR.out).mono ?_
      rintro r w2 ⟨rfl, hw⟩
      subst hw
      go_wp2_with fail
      refine (C.err_any _ s 0 _ HR.out).mono ?_
      rintro r w2 ⟨rfl, hw⟩
      subst hw
      go_wp2_with fail
      refine (HT1.out _ HR.out).mono ?_
      rintro r w2 ⟨rfl, hr2, ho2⟩
      have HR2 := Lib.hid hr2
      have HO2 := Lib.hid (own_only HO.out ho2 hlt1)
      have hb2 := hbw.trans (ho2.to_below (Nat.le_refl _) hbw.size)
      have hz2' := Nat.le_trans hsz ho2.size
      clear hr2 ho2 hbw hsz
      go_wp2_with fail
      refine (HT2.out _ HR2.out).mono ?_
      rintro r w3 ⟨rfl, hr3, ho3⟩
      have HR3 := Lib.hid hr3
      have HO3 := Lib.hid (own_only HO2.out ho3 hlt1)
      have hb3 := hb2.trans (ho3.to_below (Nat.le_refl _) hb2.size)
      have hz3' := Nat.le_trans hz2' ho3.size
      clear hr3 ho3 hb2 hz2' hs0
      go_wp2_with (at_builtin; go_loud (refine wpList_append_row rfl _ _ 43 rfl w1.heap.size 49 i0 _ 2 32 Try.underlying43 hi hz0 hz1 hz2 rfl (by decide) _ acc.length (ecs acc) rfl (HO3.out.alloc _) (.slice (some ⟨w3.heap.size, 0, none⟩) 1 1) rfl 1 (ecs [((k, v) : Ent)]) (new_one w3 (k, v) 49) (ecs_one _) (by unfold maxLen; omega) (by omega) (by (try simp); omega) ?_))
      intro v' w4 hown4 hg
      have HR4 := Lib.hid (rd_grown (HR3.out.below ((Below.refl _ w3).alloc (Nat.le_refl _) _)) (HO3.out.alloc _) hg hlt1)
      have hb4 : Below w.heap.size w w4 := (hb3.alloc hb3.size _).grown hg (by have := hb3.size; simp; omega) (fun g hg => by have := (HO3.out.lt g hg).1; omega)
      have hz4 : w1.heap.size ≤ w4.heap.size := by have := hg.size; simp at this; omega
      rw [← ecs_append] at hown4
      have HO4 := Lib.hid (show w4.ownsRow w1.heap.size 49 2 v' (acc ++ [((k, v) : Ent)]).length (ecs (acc ++ [((k, v) : Ent)])) by rw [List.length_append]; exact hown4)
      have HLV4 := Lib.hid (lenV_own HO4.out)
      clear hown4 hg hb3 hz3'
      go_wp2
      go_roundw
      case rel => exact ⟨s2, e2, _, HR4.out, HO4.out, HNX.out, by rw [List.length_append]; exact hacc, hb4, hz4⟩
      case measure => rw [HLV.out, HLV4.out, List.length_append]; simp only [List.length_cons, List.length_nil]; omega
    · have hz : s.size = 0 ∨ e ≠ 0 := by omega
      have hen := rs_end HRS.out hz
      have HE := Lib.hid (C.end_any w.heap.size s e wr HR.out)
      have HEN := Lib.hid hen
      have HENTS := Lib.hid (show Ents wr _ acc from Rw.own HO.out)
      clear hen
      obtain ⟨E, hE⟩ : ∃ x, C.endE s e = x := ⟨_, rfl⟩
      rw [hE] at HE HEN
      clear hE
      rcases Nat.eq_zero_or_pos s.size with h0 | h0
      · clear hz hgo
        go_wp2_with fail
        refine (C.left_any _ s e _ HR.out).mono ?_
        rintro r w2 ⟨rfl, hw⟩
        subst hw
        go_wp2_with fail
        refine (HE.out).mono ?_
        rintro r w5 ⟨rfl, hb5⟩
        have HENTS := Lib.hid (HENTS.out.below hb5)
        have hb5 := hbw.trans (hb5.mono hbw.size)
        clear hbw
        by_cases hE0 : E = 0
        · have hdec := HEN.out.resolve_right (fun h => h.1 hE0)
          subst hE0
          have HDEC := Lib.hid hdec.2
          clear hdec
          by_cases hok : M.Ok acc
          · go_wp2_with fail
            refine (right_any _ acc _ HENTS.out (by omega)).mono ?_
            rintro r w6 ⟨rfl, hb6⟩
            rw [decide_eq_true hok]
            have HR := Lib.hid (show Dr (bts body) acc 0 from .inl ⟨rfl, HDEC.out, hok⟩)
            have HENTS := Lib.hid (HENTS.out.below hb6)
            have hb6 := hb5.trans (hb6.mono hb5.size)
            clear hok hb5
            go_wp2
            go_ret2
            exact ⟨_, acc, 0, rfl, HENTS.out, HR.out, hb6⟩
          · go_wp2_with fail
            refine (right_any _ acc _ HENTS.out (by omega)).mono ?_
            rintro r w6 ⟨rfl, hb6⟩
            rw [decide_eq_false hok]
            have HR := Lib.hid (show Dr (bts body) [] 3 from .inr ⟨rfl, rfl, fun m hm => hok (M.dec_inj hm.1 HDEC.out ▸ hm.2)⟩)
            have hb6 := hb5.trans (hb6.mono hb5.size)
            clear hok hb5
            go_wp2
            go_ret2
            exact ⟨_, [], 3, rfl, Rw.nil _ 2, HR.out, hb6⟩
        · have hno := (HEN.out.resolve_left (fun h => hE0 h.1)).2
          have HR := Lib.hid (show Dr (bts body) [] 3 from .inr ⟨rfl, rfl, fun m hm => hno m hm.1⟩)
          have hEb : (E == 0) = false := beq_eq_false_iff_ne.2 hE0
          have hEc : (E != 0) = true := by rw [bne, hEb]; rfl
          clear hE0 hno
          go_wp2
          go_ret2
          exact ⟨_, [], 3, rfl, Rw.nil _ 2, HR.out, hb5⟩
      · have hs0 : (0 : Int) < (s.size : Int) := by omega
        have he0 : (e == 0) = false := beq_eq_false_iff_ne.2 (hz.resolve_left (by omega))
        clear h0 hz hgo
        go_wp2_with fail
        refine (C.left_any _ s e _ HR.out).mono ?_
        rintro r w2 ⟨rfl, hw⟩
        subst hw
        go_wp2_with fail
        refine (C.err_any _ s e _ HR.out).mono ?_
        rintro r w2 ⟨rfl, hw⟩
        subst hw
        go_wp2_with fail
        refine (HE.out).mono ?_
        rintro r w5 ⟨rfl, hb5⟩
        have HENTS := Lib.hid (HENTS.out.below hb5)
        have hb5 := hbw.trans (hb5.mono hbw.size)
        clear hbw
        by_cases hE0 : E = 0
        · have hdec := HEN.out.resolve_right (fun h => h.1 hE0)
          subst hE0
          have HDEC := Lib.hid hdec.2
          clear hdec
          by_cases hok : M.Ok acc
          · go_wp2_with fail
            refine (right_any _ acc _ HENTS.out (by omega)).mono ?_
            rintro r w6 ⟨rfl, hb6⟩
            rw [decide_eq_true hok]
            have HR := Lib.hid (show Dr (bts body) acc 0 from .inl ⟨rfl, HDEC.out, hok⟩)
            have HENTS := Lib.hid (HENTS.out.below hb6)
            have hb6 := hb5.trans (hb6.mono hb5.size)
            clear hok hb5
            go_wp2
            go_ret2
            exact ⟨_, acc, 0, rfl, HENTS.out, HR.out, hb6⟩
          · go_wp2_with fail
            refine (right_any _ acc _ HENTS.out (by omega)).mono ?_
            rintro r w6 ⟨rfl, hb6⟩
            rw [decide_eq_false hok]
            have HR := Lib.hid (show Dr (bts body) [] 3 from .inr ⟨rfl, rfl, fun m hm => hok (M.dec_inj hm.1 HDEC.out ▸ hm.2)⟩)
            have hb6 := hb5.trans (hb6.mono hb5.size)
            clear hok hb5
            go_wp2
            go_ret2
            exact ⟨_, [], 3, rfl, Rw.nil _ 2, HR.out, hb6⟩
        · have hno := (HEN.out.resolve_left (fun h => hE0 h.1)).2
          have HR := Lib.hid (show Dr (bts body) [] 3 from .inr ⟨rfl, rfl, fun m hm => hno m hm.1⟩)
          have hEb : (E == 0) = false := beq_eq_false_iff_ne.2 hE0
          have hEc : (E != 0) = true := by rw [bne, hEb]; rfl
          clear hE0 hno
          go_wp2
          go_ret2
          exact ⟨_, [], 3, rfl, Rw.nil _ 2, HR.out, hb5⟩
end Go.Proofs.Ytifdglehfhoecaa.E

/-
  append of any row, inside a statement whose order is drawn. Conditions: sizes that memory bears. No function of the program is named.
-/
namespace Go
open Go.RowKit
theorem step_append_row {P : Program} {w : World} {ops : Array Oper} {o : Oper} {a : Act} {K : Act → World → Prop} {Q : Exit → Act → World → Prop} {E : Prop} (hgd : o.guard = none) (s x : Operand) (t : TypeId)
    (ho : o.op = .call { callee := .builtin .append, args := #[s, x], argTypes := #[t, t] })
    (base : Nat) (e : TypeId) (i : TypeInfo) (z : Value) (size bytes : Nat) (ht : P.underlying t = some (.slice e)) (hi : P.info? e = some i) (hz : i.zero = some z)
    (hsize : i.size = size) (hby : i.bytes = bytes) (hzs : z.cells.size = size) (hsz : 0 < size)
    (v : Value) (n : Nat) (xs : List Value) (hs : a.eval s = v) (hown : w.ownsRow base e size v n xs)
    (y : Value) (hx : a.eval x = y) (m : Nat) (news : List Value) (hrow : Proofs.Ytifdglehfhoecaa.B.Rw w y size news m) (h1 : ∀ u ∈ news, u.oneCell' = true)
    (h63 : n + m ≤ maxLen) (hbytes : (n + m) * bytes ≤ 140737488355328) (hbase : base ≤ w.heap.size)
    (h : ∀ v' w', w'.ownsRow base e size v' (n + m) (xs ++ news) → w.grownBy w' v.ownBlock → K (a.put o.dst v') w') :
    if Region.wanted o (yielded ops a.tmps) = true then Oper.wp P o a w K Q else E := by
  have hw : Region.wanted o (yielded ops a.tmps) = true := by simp [Region.wanted, hgd]
  rw [if_pos hw]
  obtain ⟨v', w', hr, h2, h3⟩ := run_append_row (P := P) base t o.type e i z size bytes ht hi hz hsize hby hzs hsz v n xs hown y m news hrow h1 h63 hbytes hbase
  unfold Oper.wp execOp
  simp only [ho, resolve, invoke, builtin, Sem.run_bind, Sem.run_pure, Result.andThen_ok, List.map_toArray, List.map_cons, List.map_nil, hs, hx, hr]
  exact h v' w' h2 h3
end Go

/-
  The document's list of bytes. Conditions: below 2^30 bytes.
-/
namespace Go.Proofs.Ytifdglehfhoecaa.E
open Go.RowKit B
theorem split5 (L : List UInt8) (n m : Nat) (h : n + m + 2 ≤ L.length) : L = L[0]'(by omega) :: (L.take (n + 1)).drop 1 ++ (L[n + 1]'(by omega) :: (L.take (n + m + 2)).drop (n + 2) ++ L.drop (n + m + 2)) := by
  have a1 : L = L[0]'(by omega) :: L.drop 1 := by rw [← List.drop_eq_getElem_cons (by omega)]; rfl
  have a2 : L.drop 1 = (L.take (n + 1)).drop 1 ++ L.drop (n + 1) := by
    rw [← List.drop_append_of_le_length (by rw [List.length_take]; omega), List.take_append_drop]
  have a3 : L.drop (n + 1) = L[n + 1]'(by omega) :: L.drop (n + 2) := List.drop_eq_getElem_cons (by omega)
  have a4 : L.drop (n + 2) = (L.take (n + m + 2)).drop (n + 2) ++ L.drop (n + m + 2) := by
    rw [← List.drop_append_of_le_length (by rw [List.length_take]; omega), List.take_append_drop]
  have : L.drop 1 = (L.take (n + 1)).drop 1 ++ (L[n + 1]'(by omega) :: (L.take (n + m + 2)).drop (n + 2) ++ L.drop (n + m + 2)) := by
    rw [a2, a3, a4]; simp
  rw [List.cons_append, ← this]
  exact a1
theorem two_yes {s : ByteArray} {n m : Nat} (h : n + m + 2 ≤ s.size) (hn : (s[0]'(by omega)).toNat = n) (hm : (s[n + 1]'(by omega)).toNat = m) :
    bts s = M.tbl (s.extract 1 (n + 1)) ++ (M.tbl (s.extract (n + 2) (n + m + 2)) ++ bts (s.extract (n + m + 2) s.size)) ∧ (s.extract 1 (n + 1)).size = n ∧ (s.extract (n + 2) (n + m + 2)).size = m := by
  have z1 : (s.extract 1 (n + 1)).size = n := by simp; omega
  have z2 : (s.extract (n + 2) (n + m + 2)).size = m := by simp; omega
  refine ⟨?_, z1, z2⟩
  have hl : (bts s).length = s.size := bts_len s
  have u0 : s[0]'(by omega) = UInt8.ofNat n := by have := congrArg UInt8.ofNat hn; rwa [UInt8.ofNat_toNat] at this
  have u1 : s[n + 1]'(by omega) = UInt8.ofNat m := by have := congrArg UInt8.ofNat hm; rwa [UInt8.ofNat_toNat] at this
  have e0 : (bts s)[0]'(by omega) = UInt8.ofNat n := u0
  have e1 : (bts s)[n + 1]'(by omega) = UInt8.ofNat m := u1
  have h5 := split5 (bts s) n m (by omega)
  rw [e0, e1] at h5
  unfold M.tbl
  rw [z1, z2]
  show bts s = UInt8.ofNat n :: bts (s.extract 1 (n + 1)) ++ (UInt8.ofNat m :: bts (s.extract (n + 2) (n + m + 2)) ++ bts (s.extract (n + m + 2) s.size))
  rw [bts_extract, bts_extract, bts_extract, List.take_of_length_le (Nat.le_of_eq hl)]
  exact h5
theorem tbl_at {k : ByteArray} {r : List UInt8} {s : ByteArray} (hk : k.size ≤ 255) (h : bts s = M.tbl k ++ r) : ∃ h0 : 0 < s.size, (s[0]'h0).toNat = k.size ∧ s.size = k.size + 1 + r.length := by
  have hl : s.size = k.size + 1 + r.length := by rw [← bts_len, h, List.length_append, M.tbl_len]
  refine ⟨by omega, ?_, hl⟩
  have e : (bts s)[0]'(by rw [bts_len]; omega) = UInt8.ofNat k.size := by simp only [h, M.tbl]; rfl
  have e2 : s[0]'(by omega) = UInt8.ofNat k.size := e
  rw [e2, UInt8.toNat_ofNat']; omega
theorem two_no1 {s : ByteArray} {n : Nat} (h0 : 0 < s.size) (hn : (s[0]'h0).toNat = n) (h : s.size < n + 2) : ∀ k v r, k.size ≤ 255 → v.size ≤ 255 → bts s ≠ M.tbl k ++ (M.tbl v ++ r) := by
  intro k v r hk hv he
  obtain ⟨_, e1, e2⟩ := tbl_at hk he
  rw [List.length_append, M.tbl_len] at e2
  omega
theorem two_no2 {s : ByteArray} {n m : Nat} (h2 : n + 2 ≤ s.size) (hn : (s[0]'(by omega)).toNat = n) (hm : (s[n + 1]'(by omega)).toNat = m) (h : s.size < n + m + 2) : ∀ k v r, k.size ≤ 255 → v.size ≤ 255 → bts s ≠ M.tbl k ++ (M.tbl v ++ r) := by
  intro k v r hk hv he
  obtain ⟨_, e1, e2⟩ := tbl_at hk he
  have hkn : k.size = n := by omega
  have e : (bts s)[n + 1]'(by rw [bts_len]; omega) = UInt8.ofNat v.size := by
    simp only [he]
    rw [List.getElem_append_right (by rw [M.tbl_len]; omega)]
    simp [hkn, M.tbl]
  have e3 : s[n + 1]'(by omega) = UInt8.ofNat v.size := e
  rw [e3, UInt8.toNat_ofNat'] at hm
  rw [List.length_append, M.tbl_len] at e2
  omega
theorem rs_more {body s r : ByteArray} {acc : List Ent} {k v : ByteArray} (h : Rs (bts body) (bts s) 0 acc) (hk : k.size ≤ 255) (hv : v.size ≤ 255) (he : bts s = M.tbl k ++ (M.tbl v ++ bts r)) : Rs (bts body) (bts r) 0 (acc ++ [(k, v)]) ∧ acc.length + 1 ≤ body.size := by
  rcases h with ⟨_, hf, hb, hl⟩ | ⟨h, _⟩
  case inr => exact absurd rfl h
  have e1 := congrArg List.length he
  rw [List.length_append, List.length_append, M.tbl_len, M.tbl_len] at e1
  have hbl : (bts body).length = body.size := bts_len body
  refine ⟨.inl ⟨rfl, M.fits_snoc hf hk hv, by rw [M.enc_snoc2, hb, he]; simp, ?_⟩, by omega⟩
  rw [List.length_append]
  simp only [List.length_cons, List.length_nil]
  omega
theorem rs_none {body s : ByteArray} {acc : List Ent} (h : Rs (bts body) (bts s) 0 acc) (h0 : 0 < s.size) (hn : ∀ k v r, k.size ≤ 255 → v.size ≤ 255 → bts s ≠ M.tbl k ++ (M.tbl v ++ r)) : Dr (bts body) [] 3 := by
  rcases h with ⟨_, hf, hb, hl⟩ | ⟨h, _⟩
  case inr => exact absurd rfl h
  have := M.no_dec hf hb (fun e => by have := bts_len s; rw [e] at this; simp at this; omega) hn
  exact .inr ⟨rfl, rfl, fun m hm => this m hm.1⟩
theorem rs_done {body s : ByteArray} {acc : List Ent} (h : Rs (bts body) (bts s) 0 acc) (h0 : s.size = 0) : M.Dec (bts body) acc := by
  rcases h with ⟨_, hf, hb, hl⟩ | ⟨h, _⟩
  case inr => exact absurd rfl h
  have hn : bts s = [] := List.eq_nil_of_length_eq_zero ((bts_len s).trans h0)
  exact ⟨hf, by rw [hb, hn, List.append_nil]⟩
def Rdcd (b : List UInt8) (w : World) (r : Ending) (w' : World) : Prop := ∃ u l ok, r = .returned (.tuple #[u, .bool ok]) ∧ Ents w' u l ∧ Dr b l (if ok then 0 else 3) ∧ Below w.heap.size w w'
set_option maxRecDepth 100000 in
set_option maxHeartbeats 2000000 in
theorem rdecode_any (body : ByteArray) (w : World) (hb : body.size ≤ 1000000000) : Calls Try.prog 50 #[.string body] w (Rdcd (bts body) w) := by
  obtain ⟨i0, hi, hz0, hz1, hz2⟩ := info_parts info49
  go_enter Try.func50, Try.ntmps50
  go_wp2
  go_loopw [0, 4] (fun x u wr => ∃ (s : ByteArray) (acc : List Ent), x = .string s ∧ wr.ownsRow w.heap.size 49 2 u acc.length (ecs acc) ∧ Rs (bts body) (bts s) 0 acc ∧ acc.length ≤ body.size ∧ s.size ≤ 1000000000 ∧ Below w.heap.size w wr) (fun _ u _ => body.size - lenV u)
  case atStart => exact ⟨body, [], rfl, World.ownsRow_nil _ _ _ _, .inl ⟨rfl, fun e h => by simp at h, rfl, by simp⟩, Nat.zero_le _, hb, Below.refl _ _⟩
  case round =>
    obtain ⟨s, acc, rfl, hown, hrs, hal, hsb, hbw⟩ := hrel
    have HO := Lib.hid hown; have HRS := Lib.hid hrs
    clear hown hrs
    rcases Nat.eq_zero_or_pos s.size with h0 | h0
    · have HD := Lib.hid (rs_done HRS.out h0)
      have HENTS := Lib.hid (show Ents wr _ acc from Rw.own HO.out)
      by_cases hok : M.Ok acc
      · go_wp2_with fail
        refine (rright_any _ acc _ HENTS.out).mono ?_
        rintro r w6 ⟨rfl, hb6⟩
        rw [decide_eq_true hok]
        have HR := Lib.hid (show Dr (bts body) acc 0 from .inl ⟨rfl, HD.out, hok⟩)
        have HENTS := Lib.hid (HENTS.out.below hb6)
        have hb6 := hbw.trans (hb6.mono hbw.size)
        clear hok hbw
        go_wp2
        go_ret2
        exact ⟨_, acc, true, rfl, HENTS.out, HR.out, hb6⟩
      · go_wp2_with fail
        refine (rright_any _ acc _ HENTS.out).mono ?_
        rintro r w6 ⟨rfl, hb6⟩
        rw [decide_eq_false hok]
        have HR := Lib.hid (show Dr (bts body) [] 3 from .inr ⟨rfl, rfl, fun m hm => hok (M.dec_inj hm.1 HD.out ▸ hm.2)⟩)
        have hb6 := hbw.trans (hb6.mono hbw.size)
        clear hok hbw
        go_wp2
        go_ret2
        exact ⟨_, [], false, rfl, Rw.nil _ 2, HR.out, hb6⟩
    · have hz : (0 : Int) < (s.size : Int) := by omega
      obtain ⟨n, hn⟩ : ∃ n, (s[0]'h0).toNat = n := ⟨_, rfl⟩
      have hn1 : n < 256 := by rw [← hn]; exact UInt8.toNat_lt _
      have HN := Lib.hid hn
      by_cases h2 : s.size < n + 2
      · have HR := Lib.hid (rs_none HRS.out h0 (two_no1 h0 HN.out h2))
        have hd : (s.size : Int) < (n : Int) + 2 := by omega
        go_wp2
        go_ret2
        exact ⟨_, [], false, rfl, Rw.nil _ 2, HR.out, hbw⟩
      have hn2 : n + 1 < s.size := by omega
      obtain ⟨m, hm⟩ : ∃ m, (s[n + 1]'hn2).toNat = m := ⟨_, rfl⟩
      have hm1 : m < 256 := by rw [← hm]; exact UInt8.toNat_lt _
      have HM := Lib.hid hm
      by_cases h3 : s.size < n + m + 2
      · have HR := Lib.hid (rs_none HRS.out h0 (two_no2 (by omega) HN.out HM.out h3))
        go_wp2
        go_ret2
        exact ⟨_, [], false, rfl, Rw.nil _ 2, HR.out, hbw⟩
      obtain ⟨he, hz1', hz2'⟩ := two_yes (by omega) HN.out HM.out
      obtain ⟨hnx, hacc⟩ := rs_more HRS.out (by omega) (by omega) he
      have hrz : (s.extract (n + m + 2) s.size).size ≤ 1000000000 := by simp; omega
      have HNX := Lib.hid hnx; have HRZ := Lib.hid hrz
      have HLV := Lib.hid (lenV_own HO.out)
      clear hnx he hz1' hz2' hrz
      have g1 : IntKind.i64.wrap ((n : Int) + 1) = (n : Int) + 1 := IntWalk.i64_in _ (by omega)
      have g2 : IntKind.i64.wrap ((n : Int) + 2) = (n : Int) + 2 := IntWalk.i64_in _ (by omega)
      have g3 : IntKind.i64.wrap ((n : Int) + (m : Int)) = (n : Int) + (m : Int) := IntWalk.i64_in _ (by omega)
      have g4 : IntKind.i64.wrap ((n : Int) + (m : Int) + 2) = (n : Int) + (m : Int) + 2 := IntWalk.i64_in _ (by omega)
      have p1 : (1 : Int) ≤ (n : Int) + 1 := by omega
      have p2 : (n : Int) + 1 ≤ (s.size : Int) := by omega
      have p3 : (n : Int) + 2 ≤ (n : Int) + (m : Int) + 2 := by omega
      have p4 : (n : Int) + (m : Int) + 2 ≤ (s.size : Int) := by omega
      have p5 : (0 : Int) ≤ (n : Int) + 2 := by omega
      have p6 : (0 : Int) ≤ (n : Int) + (m : Int) + 2 := by omega
      have p7 : (0 : Int) ≤ (n : Int) + 1 := by omega
      go_upto_region 9 with (fail)
      go_region_held3 (fun W' => W'.heap.size = wr.heap.size ∨ True) (first | exact Or.inr trivial) (first | (go_loud (refine step_append_row rfl _ _ 43 rfl w.heap.size 49 i0 _ 2 32 Try.underlying43 hi hz0 hz1 hz2 rfl (by decide) _ acc.length (ecs acc) rfl (HO.out.alloc _).drew (.slice (some ⟨wr.heap.size, 0, none⟩) 1 1) rfl 1 (ecs [((s.extract 1 (n + 1), s.extract (n + 2) (n + m + 2)) : Ent)]) (new_one wr (s.extract 1 (n + 1), s.extract (n + 2) (n + m + 2)) 49) (ecs_one _) (by unfold maxLen; omega) (by omega) (by have := hbw.size; (try simp); omega) ?_); intro v' w2 hown2 hg))
      have hb2 : Below w.heap.size w w2 := (hbw.alloc hbw.size _).drew.grown hg (by have := hbw.size; (try simp); omega) (fun g hg => (HO.out.lt g hg).1)
      rw [← ecs_append] at hown2
      have HO2 := Lib.hid (show w2.ownsRow w.heap.size 49 2 v' (acc ++ [((s.extract 1 (n + 1), s.extract (n + 2) (n + m + 2)) : Ent)]).length (ecs (acc ++ [((s.extract 1 (n + 1), s.extract (n + 2) (n + m + 2)) : Ent)])) by rw [List.length_append]; exact hown2)
      have HLV2 := Lib.hid (lenV_own HO2.out)
      clear hown2 hg
      go_wp2
      go_roundw
      case rel => exact ⟨_, _, rfl, HO2.out, HNX.out, by rw [List.length_append]; exact hacc, HRZ.out, hb2⟩
      case measure => rw [HLV.out, HLV2.out, List.length_append]; simp only [List.length_cons, List.length_nil]; omega
end Go.Proofs.Ytifdglehfhoecaa.E

/-
  Reading a node's bytes: how far the reader is; the document's number of bytes. Conditions: none.
-/
namespace Go.Proofs.Ytifdglehfhoecaa.N
open Go.RowKit B E
/-- how far the reader is -/
def RsN (b s : List UInt8) (e : Int) (k0 : Int) (acc : List M.KV) : Prop := (e = 0 ∧ M.f4 k0 ∧ M.FitP acc ∧ b = M.p4 k0 ++ (M.encP acc ++ s) ∧ acc.length + s.length ≤ b.length) ∨ (e ≠ 0 ∧ ∀ k l, ¬ M.DecP b k l)
theorem int4_yes {s : ByteArray} (h : 4 ≤ s.size) : C.intE s 0 4 = 0 ∧ M.f4 (C.intO s 0 4 : Nat) ∧ bts s = M.p4 (C.intO s 0 4 : Nat) ++ bts (C.intS s 0 4) := by
  obtain ⟨h1, h2, h3⟩ := C.int_ok (s := s) (Z := 4) szd4 h
  have hl : ((bts s).take 4).length = 4 := by rw [List.length_take, bts_len]; omega
  refine ⟨h1, ?_, ?_⟩
  · rw [show C.intO s 0 4 = _ from h2]; exact M.be_f4 _ hl
  · rw [show C.intO s 0 4 = _ from h2, M.p4_be _ hl, show bts (C.intS s 0 4) = _ from h3, List.take_append_drop]
theorem int4_no {s : ByteArray} (h : s.size < 4) : C.intE s 0 4 ≠ 0 := by
  have hz : C.szd 4 := szd4
  rw [C.intE, if_pos hz]
  unfold C.bytesE C.failE
  rw [if_pos rfl, if_neg (by omega), if_pos (by omega)]
  omega
theorem int4_ne {s : ByteArray} {e : Int} (h : e ≠ 0) : C.intE s e 4 = e := by
  have hz : C.szd 4 := szd4
  rw [C.intE, if_pos hz, C.bytesE_ne h]
theorem decP_len {b : List UInt8} {k : Int} {l : List M.KV} (h : M.DecP b k l) : 4 ≤ b.length := by
  rw [h.2.2, List.length_append, M.p4_len]; omega
theorem rsn_start (body : ByteArray) : RsN (bts body) (bts (C.intS body 0 4)) (C.intE body 0 4) (C.intO body 0 4 : Nat) [] := by
  have hb : (bts body).length = body.size := bts_len body
  rcases Nat.lt_or_ge body.size 4 with h | h
  · exact .inr ⟨int4_no h, fun k l hd => by have := decP_len hd; omega⟩
  · obtain ⟨h1, h2, h3⟩ := int4_yes h
    refine .inl ⟨h1, h2, fun p hp => by simp at hp, by simpa [M.encP] using h3, ?_⟩
    have e1 := congrArg List.length h3
    rw [List.length_append, M.p4_len] at e1
    show 0 + (bts (C.intS body 0 4)).length ≤ (bts body).length
    omega
theorem rsn_next {body s : ByteArray} {k0 : Int} {acc : List M.KV} (h : RsN (bts body) (bts s) 0 k0 acc) (h0 : 0 < s.size) :
    RsN (bts body) (bts (C.intS (C.textS s 0) (C.textE s 0) 4)) (C.intE (C.textS s 0) (C.textE s 0) 4) k0 (acc ++ [(C.textO s 0, ((C.intO (C.textS s 0) (C.textE s 0) 4 : Nat) : Int))]) ∧ acc.length + 1 ≤ body.size := by
  rcases h with ⟨_, hk, hf, hb, hl⟩ | ⟨h, _⟩
  case inr => exact absurd rfl h
  have hsl : (bts s).length = s.size := bts_len s
  have hbl : (bts body).length = body.size := bts_len body
  have hne : bts s ≠ [] := fun e => by rw [e] at hsl; simp at hsl; omega
  refine ⟨?_, by omega⟩
  rcases C.text_or s with ⟨h1, h2, h3⟩ | ⟨h1, h2⟩
  · rw [h1]
    rcases Nat.lt_or_ge (C.textS s 0).size 4 with h4 | h4
    · right
      refine ⟨int4_no h4, M.no_decP hk hf hb hne fun x q r hx hq he => ?_⟩
      rw [h3] at he
      obtain ⟨_, e2⟩ := M.tbl_inj h2 hx he
      have e3 := congrArg List.length e2
      rw [bts_len, List.length_append, hq] at e3
      omega
    · left
      obtain ⟨k1, k2, k3⟩ := int4_yes h4
      refine ⟨k1, hk, M.fitP_snoc hf h2 k2, ?_, ?_⟩
      · rw [M.encP_snoc2, hb, h3, k3]; simp
      · have e1 := congrArg List.length h3
        have e2 := congrArg List.length k3
        rw [List.length_append, M.tbl_len] at e1
        rw [List.length_append, M.p4_len] at e2
        rw [List.length_append]
        simp only [List.length_cons, List.length_nil]
        omega
  · right
    refine ⟨by rw [int4_ne h1]; exact h1, M.no_decP hk hf hb hne fun x q r hx hq he => h2 x _ hx he⟩
theorem rsn_end {body s : ByteArray} {e k0 : Int} {acc : List M.KV} (h : RsN (bts body) (bts s) e k0 acc) (hz : s.size = 0 ∨ e ≠ 0) : (C.endE s e = 0 ∧ M.DecP (bts body) k0 acc) ∨ (C.endE s e ≠ 0 ∧ ∀ k l, ¬ M.DecP (bts body) k l) := by
  rcases h with ⟨h1, h2, h3, h4, h5⟩ | ⟨h1, h2⟩
  · have hs : s.size = 0 := hz.resolve_right (fun h => h h1)
    left
    have hn : bts s = [] := List.eq_nil_of_length_eq_zero ((bts_len s).trans hs)
    refine ⟨by unfold C.endE; rw [if_pos hs, h1], h2, h3, ?_⟩
    rw [h4, hn, List.append_nil]
  · right
    refine ⟨?_, h2⟩
    unfold C.endE C.failE
    split <;> first | exact h1 | (rw [if_neg h1]; exact h1)
/-- the node of a body -/
def DrN (kind : Int) (b : List UInt8) (n : M.Nd) (e : Int) : Prop := (e = 0 ∧ M.DecN kind b n) ∨ (e = 3 ∧ n = ⟨false, [], [], []⟩ ∧ ∀ m, ¬ M.DecN kind b m)
theorem drn_inj {kind : Int} {b : List UInt8} {l m : M.Nd} {e f : Int} (h : DrN kind b l e) (k : DrN kind b m f) : l = m ∧ e = f := by
  rcases h with ⟨h1, h2⟩ | ⟨h1, h2, h3⟩ <;> rcases k with ⟨k1, k2⟩ | ⟨k1, k2, k3⟩
  · exact ⟨M.decN_inj h2 k2, h1.trans k1.symm⟩
  · exact absurd h2 (k3 _)
  · exact absurd k2 (h3 _)
  · exact ⟨h2.trans k2.symm, h1.trans k1.symm⟩
/-- a leaf's bytes -/
theorem decN_leaf {b : List UInt8} {m : M.Nd} (h : M.DecN 1 b m) : m = M.mkL m.es ∧ M.Dec b m.es ∧ M.Ok m.es := by
  obtain ⟨h1, h2, h3, h4⟩ := h
  have hl : m.leaf = true := by
    unfold M.kindN at h4
    rcases hm : m.leaf with _ | _
    · rw [hm] at h4; simp at h4
    · rfl
  obtain ⟨o, e⟩ := M.ok_leaf h1 hl
  refine ⟨e, ⟨M.ok_fits o, ?_⟩, o⟩
  rw [e, M.bodyL] at h3
  exact h3
theorem decN_inner {b : List UInt8} {m : M.Nd} (h : M.DecN 2 b m) : ∃ k l, m = M.mkI k l ∧ M.DecP b k l := by
  obtain ⟨h1, h2, h3, h4⟩ := h
  have hl : m.leaf = false := by
    unfold M.kindN at h4
    rcases hm : m.leaf with _ | _
    · rfl
    · rw [hm] at h4; simp at h4
  obtain ⟨k, l, e, _, _⟩ := M.ok_inner h1 hl
  rw [e] at h1 h3
  obtain ⟨f1, f2⟩ := M.okI_fit h1
  rw [M.bodyI] at h3
  exact ⟨k, l, e, f1, f2, h3.symm⟩
theorem drn_leaf {b : List UInt8} {l : List Ent} {e : Int} (h : Dr b l e) (hf : fitsN (M.mkL l)) (he : e = 0) : DrN 1 b (M.mkL l) 0 := by
  rcases h with ⟨_, h2, h3⟩ | ⟨h1, _⟩
  · exact .inl ⟨rfl, hf.1, hf.2, by rw [M.bodyL]; exact h2.2, rfl⟩
  · omega
theorem drn_leaf_no {b : List UInt8} {l : List Ent} {e : Int} (h : Dr b l e) (hf : e ≠ 0 ∨ ¬ fitsN (M.mkL l)) : DrN 1 b ⟨false, [], [], []⟩ 3 := by
  refine .inr ⟨rfl, rfl, fun m hm => ?_⟩
  obtain ⟨e1, e2, e3⟩ := decN_leaf hm
  rcases h with ⟨h1, h2, h3⟩ | ⟨h1, h2, h3⟩
  · rcases hf with hf | hf
    · exact hf h1
    · apply hf
      have := M.dec_inj e2 h2
      rw [← this, ← e1]
      exact ⟨hm.1, hm.2.1⟩
  · exact h3 _ ⟨e2, e3⟩
theorem drn_inner {b : List UInt8} {k : Int} {l : List M.KV} (h : M.DecP b k l) (hf : fitsN (M.mkI k l)) : DrN 2 b (M.mkI k l) 0 :=
  .inl ⟨rfl, hf.1, hf.2, by rw [M.bodyI]; exact h.2.2.symm, rfl⟩
theorem drn_inner_no {b : List UInt8} {k : Int} {l : List M.KV} (h : M.DecP b k l) (hf : ¬ fitsN (M.mkI k l)) : DrN 2 b ⟨false, [], [], []⟩ 3 := by
  refine .inr ⟨rfl, rfl, fun m hm => ?_⟩
  obtain ⟨k', l', e1, e2⟩ := decN_inner hm
  obtain ⟨rfl, rfl⟩ := M.decP_inj e2 h
  rw [e1] at hm
  exact hf ⟨hm.1, hm.2.1⟩
theorem drn_inner_none {b : List UInt8} (h : ∀ k l, ¬ M.DecP b k l) : DrN 2 b ⟨false, [], [], []⟩ 3 := by
  refine .inr ⟨rfl, rfl, fun m hm => ?_⟩
  obtain ⟨k', l', _, e2⟩ := decN_inner hm
  exact h _ _ e2
theorem drn_kind {kind : Int} {b : List UInt8} (h1 : kind ≠ 1) (h2 : kind ≠ 2) : DrN kind b ⟨false, [], [], []⟩ 3 := by
  refine .inr ⟨rfl, rfl, fun m hm => ?_⟩
  have := hm.2.2.2
  unfold M.kindN at this
  split at this <;> omega
set_option maxHeartbeats 400000 in
theorem rint_any (s : ByteArray) (w : World) (hs : s.size ≤ 4) : Calls Try.prog 86 #[.string s] w fun r w' => r = .returned (.int .i64 ((C.be (bts s) : Nat) : Int)) ∧ w = w' := by
  go_enter Try.func86, Try.ntmps86
  go_wp2
  go_loopw [3, 4] (fun n i wr => ∃ j N : Nat, j ≤ s.size ∧ i = .int .i64 j ∧ n = .int .i64 N ∧ N = C.be ((bts s).take j) ∧ w = wr) (fun _ i _ => s.size - (intOf i).toNat)
  case atStart => exact ⟨0, 0, by omega, rfl, rfl, by simp [C.be], rfl⟩
  case round =>
    obtain ⟨j, N, hj, rfl, rfl, hN, hw⟩ := hrel
    subst hw
    by_cases hlt : j < s.size
    · have hl := C.be_lt ((bts s).take j)
      have hl2 : ((bts s).take j).length ≤ 3 := by rw [List.length_take]; omega
      have hl3 : 256 ^ ((bts s).take j).length ≤ 256 ^ 3 := Nat.pow_le_pow_right (by omega) hl2
      have hNlt : N < 16777216 := by rw [hN]; omega
      obtain ⟨c, hc⟩ : ∃ c, (s[j]'hlt).toNat = c := ⟨_, rfl⟩
      have ec : c < 256 := by rw [← hc]; exact UInt8.toNat_lt _
      have HN := Lib.hid (show N * 256 + c = C.be ((bts s).take (j + 1)) by rw [take_snoc s j hlt, C.be_snoc, hc, hN])
      clear hN hl hl2 hl3
      go_wp2
      go_roundw
      case rel => exact ⟨j + 1, N * 256 + c, by omega, by go_num, by go_num, HN.out, by first | rfl | trivial⟩
      case measure => simp [intOf]; omega
    · have hjo : j = s.size := by omega
      have HN := Lib.hid (show N = C.be (bts s) by rw [hN, hjo, List.take_of_length_le (by simp)])
      clear hjo hN
      go_wp2
      go_ret
      exact ⟨ret_int (by rw [HN.out]), by first | rfl | trivial⟩
end Go.Proofs.Ytifdglehfhoecaa.N

/-
  A statement whose order is drawn, by what holds between its operations: whatever has been done, its values are what they are; so it holds ahead of those that come last. Conditions: none. No function of the program is named.
-/
namespace Go
section
variable {P : Program} {ops : Array Oper} {Q : Exit → Act → World → Prop} {md : Region.Mode}
/-- is operation k done? -/
def Lst (listed : Array Bool) (k : Nat) : Prop := listed.getD k false = true
def Region.needs (md : Region.Mode) (ops : Array Oper) (i k : Nat) : Bool := ((ops[i]?).map fun o => o.after.any fun e => Region.binds md e && e.on == k).getD false
/-- each operation waits for earlier ones alone -/
def Region.forward (md : Region.Mode) (ops : Array Oper) : Bool := (List.range ops.size).all fun i => ((ops[i]?).map fun o => o.after.all fun e => !Region.binds md e || decide (e.on < i)).getD true
/-- those from m on wait for all ahead of m -/
def Region.last (md : Region.Mode) (ops : Array Oper) (m : Nat) : Bool := (List.range ops.size).all fun i => decide (i < m) || (List.range m).all fun k => Region.needs md ops i k
theorem ready_spec {listed : Array Bool} {i : Nat} (h : i ∈ Region.ready md ops listed) : i < ops.size ∧ listed.getD i true = false ∧ ((ops[i]?).map (·.after.all fun e => !Region.binds md e || listed.getD e.on false)).getD false = true := by
  unfold Region.ready at h
  obtain ⟨h1, h2⟩ := List.mem_filter.1 h
  rw [Bool.and_eq_true] at h2
  refine ⟨List.mem_range.1 h1, ?_, h2.2⟩
  have := h2.1
  simpa using this
theorem ready_needs {listed : Array Bool} {i k : Nat} (h : i ∈ Region.ready md ops listed) (hk : Region.needs md ops i k = true) : Lst listed k := by
  obtain ⟨_, _, h3⟩ := ready_spec h
  unfold Region.needs at hk
  rcases ho : ops[i]? with _ | o
  · rw [ho] at hk; simp at hk
  · rw [ho] at hk h3
    simp only [Option.map_some, Option.getD_some] at hk h3
    obtain ⟨e, he, hb⟩ := Array.any_eq_true'.1 hk
    have h4 := Array.all_eq_true'.1 h3 e he
    rw [Bool.and_eq_true, beq_iff_eq] at hb
    rw [hb.1, hb.2] at h4
    simpa [Lst] using h4
theorem lst_old {listed : Array Bool} {i k : Nat} (h : i ≠ k) (h2 : Lst (listed.setIfInBounds i true) k) : Lst listed k := by
  unfold Lst at *
  rwa [Array.getD_eq_getD_getElem?, Array.getElem?_setIfInBounds_ne h, ← Array.getD_eq_getD_getElem?] at h2
theorem lst_keep {listed : Array Bool} {i k : Nat} (h : Lst listed k) : Lst (listed.setIfInBounds i true) k := by
  by_cases hik : i = k
  · subst hik
    have hs : i < listed.size := by
      refine Classical.byContradiction fun hn => ?_
      unfold Lst at h
      rw [Array.getD_eq_getD_getElem?, Array.getElem?_eq_none (by omega)] at h
      simp at h
    unfold Lst
    rw [Array.getD_eq_getD_getElem?, Array.getElem?_setIfInBounds_self_of_lt hs]; rfl
  · unfold Lst at *
    rwa [Array.getD_eq_getD_getElem?, Array.getElem?_setIfInBounds_ne hik, ← Array.getD_eq_getD_getElem?]
theorem ready_not {listed : Array Bool} {i : Nat} (h : i ∈ Region.ready md ops listed) : ¬ Lst listed i := by
  obtain ⟨_, h2, _⟩ := ready_spec h
  unfold Lst
  intro h3
  rw [Array.getD_eq_getD_getElem?] at h2 h3
  rcases ho : listed[i]? with _ | b
  · rw [ho] at h3; simp at h3
  · rw [ho] at h2 h3; simp at h2 h3; rw [h2] at h3; simp at h3
theorem lst_none {n k : Nat} : ¬ Lst (Array.replicate n false) k := by
  unfold Lst
  rw [Array.getD_eq_getD_getElem?, Array.getElem?_replicate]
  split <;> simp
/-- the first m are done, and no other -/
def doneTo (n m : Nat) : Array Bool := ((List.range n).map fun i => decide (i < m)).toArray
theorem doneTo_eq {listed : Array Bool} {m : Nat} (h1 : ∀ k, k < m → k < listed.size → Lst listed k) (h2 : ∀ k, m ≤ k → ¬ Lst listed k) : listed = doneTo listed.size m := by
  apply Array.ext
  · simp [doneTo]
  · intro i hi hj
    have e : listed.getD i false = listed[i] := by rw [Array.getD_eq_getD_getElem?, Array.getElem?_eq_getElem hi]; rfl
    have e2 : (doneTo listed.size m)[i] = decide (i < m) := by simp [doneTo]
    rw [e2]
    rcases Nat.lt_or_ge i m with h | h
    · have := h1 i h hi
      unfold Lst at this
      rw [← e, this]; simp [h]
    · have := h2 i h
      unfold Lst at this
      rw [← e]
      have h3 : ¬ i < m := by omega
      simp [h3]
      simpa using this
theorem count_done (n m : Nat) (h : m ≤ n) : (doneTo n m).toList.count false = n - m := by
  have : ∀ n, m ≤ n → ((List.range n).map fun i => decide (i < m)).count false = n - m := by
    intro n
    induction n with
    | zero => intro _; simp
    | succ n ih =>
      intro hmn
      rw [List.range_succ, List.map_append, List.count_append]
      rcases Nat.lt_or_ge n m with h1 | h1
      · obtain rfl : m = n + 1 := by omega
        have e0 : ((List.range n).map fun i => decide (i < n + 1)).count false = 0 := by
          rw [List.count_eq_zero]
          intro hmem
          obtain ⟨x, hx, he⟩ := List.mem_map.1 hmem
          have := List.mem_range.1 hx
          simp at he; omega
        rw [e0]; simp
      · rw [ih h1]
        have : decide (n < m) = false := by simp; omega
        simp [this]; omega
  simpa [doneTo] using this n h
theorem wpAny_upto (m : Nat) (I : Array Bool → Act → World → Prop) (hm : m < ops.size) (hfw : Region.forward md ops = true) (hls : Region.last md ops m = true)
    (hstep : ∀ listed a w, I listed a w → ∀ i, i < m → i ∈ Region.ready md ops listed → wpOp P ops Q i (I (listed.setIfInBounds i true)) a w)
    (hend : ∀ a w, I (doneTo ops.size m) a w → wpAny P md ops Q (ops.size - m) (doneTo ops.size m) a w) :
    ∀ (fuel : Nat) (listed : Array Bool) (a : Act) (w : World), I listed a w → listed.size = ops.size → (∀ k, m ≤ k → ¬ Lst listed k) → listed.toList.count false = fuel → wpAny P md ops Q fuel listed a w := by
  intro fuel
  induction fuel with
  | zero =>
    intro listed a w hI hsz hno hc
    exfalso
    have h1 : false ∈ listed.toList := by
      have h2 := hno m (Nat.le_refl _)
      have h3 : listed[m]'(by omega) = false := by
        unfold Lst at h2
        rw [Array.getD_eq_getD_getElem?, Array.getElem?_eq_getElem (by omega)] at h2
        simpa using h2
      rw [← h3]; exact Array.getElem_mem_toList (by omega)
    have := List.count_pos_iff.2 h1
    omega
  | succ fuel ih =>
    intro listed a w hI hsz hno hc
    by_cases hall : ∀ k, k < m → k < listed.size → Lst listed k
    · have he := doneTo_eq hall hno
      rw [hsz] at he
      have hcd := count_done ops.size m (by omega)
      rw [← he] at hcd
      have hf : fuel + 1 = ops.size - m := by omega
      rw [hf]
      rw [he] at hI ⊢
      exact hend a w hI
    · have hex : ∃ k, k < m ∧ ¬ Lst listed k := by
        refine Classical.byContradiction fun hn => hall fun k hk _ => Classical.byContradiction fun h => hn ⟨k, hk, h⟩
      refine ⟨fun hr => ?_, fun i hi => ?_⟩
      · exfalso
        have hl : ∀ k, k < m → Lst listed k := by
          intro k
          induction k using Nat.strongRecOn with
          | _ k ihk =>
            intro hk
            refine Classical.byContradiction fun hn => ?_
            have hk1 : k < ops.size := by omega
            have hmem : k ∈ Region.ready md ops listed := by
              unfold Region.ready
              refine List.mem_filter.2 ⟨List.mem_range.2 hk1, ?_⟩
              rw [Bool.and_eq_true]
              have hk2 : k < listed.size := by omega
              constructor
              · unfold Lst at hn
                rw [Array.getD_eq_getD_getElem?, Array.getElem?_eq_getElem hk2] at hn ⊢
                simpa using hn
              · rw [Array.getElem?_eq_getElem hk1]
                simp only [Option.map_some, Option.getD_some]
                refine Array.all_eq_true'.2 fun e he => ?_
                rcases hb : Region.binds md e with _ | _
                · rfl
                · have h1 := List.all_eq_true.1 hfw k (List.mem_range.2 hk1)
                  rw [Array.getElem?_eq_getElem hk1] at h1
                  simp only [Option.map_some, Option.getD_some] at h1
                  have h2 := Array.all_eq_true'.1 h1 e he
                  rw [hb] at h2
                  have h3 : e.on < k := by simpa using h2
                  have := ihk e.on h3 (by omega)
                  unfold Lst at this
                  rw [this]; rfl
            rw [hr] at hmem
            exact absurd hmem (by simp)
        obtain ⟨k, hk, hn⟩ := hex
        exact hn (hl k hk)
      · obtain ⟨h1, h2, _⟩ := ready_spec hi
        rcases Nat.lt_or_ge i m with him | him
        · refine wpOp_mono (fun a' w' h => ih _ _ _ h (by simpa using hsz) (fun k hk hl => hno k hk (lst_old (by omega) hl)) ?_) (hstep _ _ _ hI i him hi)
          have h4 : listed[i]'(by omega) = false := by
            rw [Array.getD_eq_getD_getElem?, Array.getElem?_eq_getElem (by omega)] at h2
            exact h2
          have h5 : listed.toList[i]'(by simp; omega) = false := by simpa using h4
          rw [Array.toList_setIfInBounds, List.count_set (by simp; omega), h5]
          have h6 : false ∈ listed.toList := by rw [← h4]; exact Array.getElem_mem_toList (by omega)
          have := List.count_pos_iff.2 h6
          have e1 : (if (false == false) = true then 1 else 0 : Nat) = 1 := rfl
          have e2 : (if (true == false) = true then 1 else 0 : Nat) = 0 := rfl
          rw [e1, e2]
          omega
        · exfalso
          obtain ⟨k, hk, hn⟩ := hex
          have h3 := List.all_eq_true.1 hls i (List.mem_range.2 h1)
          have h4 : decide (i < m) = false := by simp; omega
          rw [h4, Bool.false_or] at h3
          exact hn (ready_needs hi (List.all_eq_true.1 h3 k (List.mem_range.2 hk)))
/-- so, with what lies in the slots that are not looked at -/
theorem wpAny_upto_f (m : Nat) (I : (Nat → Value) → Array Bool → Act → World → Prop) (hm : m < ops.size) (hfw : Region.forward md ops = true) (hls : Region.last md ops m = true)
    (hstep : ∀ f listed a w, I f listed a w → ∀ i, i < m → i ∈ Region.ready md ops listed → wpOp P ops Q i (I f (listed.setIfInBounds i true)) a w)
    (hend : ∀ f a w, I f (doneTo ops.size m) a w → wpAny P md ops Q (ops.size - m) (doneTo ops.size m) a w)
    (fuel : Nat) (listed : Array Bool) (a : Act) (w : World) (h : I (fun n => a.tmps.getD n undef) listed a w) (hsz : listed.size = ops.size) (hno : ∀ k, m ≤ k → ¬ Lst listed k) (hc : listed.toList.count false = fuel) : wpAny P md ops Q fuel listed a w :=
  wpAny_upto m (fun L a w => ∃ f, I f L a w) hm hfw hls (fun L a w ⟨f, hI⟩ i him hi => wpOp_mono (fun _ _ h => ⟨f, h⟩) (hstep f L a w hI i him hi)) (fun a w ⟨f, hI⟩ => hend f a w hI) fuel listed a w ⟨_, h⟩ hsz hno hc
end
end Go

/-
  What is owned stays owned; glue by the cells of its argument; a struct into its box. Conditions: none.
-/
namespace Go.Proofs.Ytifdglehfhoecaa.N
open Go.RowKit B E
theorem own_below {w w' : World} {base : Nat} {e : TypeId} {size n : Nat} {v : Value} {cs : List Value} (h : w.ownsRow base e size v n cs) (hb : Below w.heap.size w w') : w'.ownsRow base e size v n cs := by
  have hg : w.grownBy w' none := ⟨hb.os, hb.tape, hb.output, hb.size, fun i hi _ => hb.block i hi⟩
  rcases ho : v.ownBlock with _ | g
  · exact h.kept hg (.inl ho)
  · exact h.kept hg (.inr (by rw [ho]; simp))
theorem own_mono {w : World} {base base' : Nat} {e : TypeId} {size n : Nat} {v : Value} {cs : List Value} (h : w.ownsRow base e size v n cs) (hb : base' ≤ base) : w.ownsRow base' e size v n cs := by
  refine ⟨h.1, ?_⟩
  rcases h.2 with h | ⟨g, cap, cur, h1, h2, h3⟩
  · exact .inl h
  · exact .inr ⟨g, cap, cur, h1, Nat.le_trans hb h2, h3⟩
/-- glue, its argument told by its cells -/
theorem gl_e {w : World} {v : Value} (us : List (Value × List Ent)) (hcl : Cl w v (us.map (·.1))) (hr : ∀ p ∈ us, Ents w p.1 p.2) (hn : us.length ≤ 100) (hl : (flatA us us.length).length ≤ 1099511627776) (m : List Ent) (hm : flatA us us.length = m) :
    Calls Try.prog 83 #[v] w fun r w' => ∃ x, r = .returned x ∧ w'.ownsRow w.heap.size 49 2 x m.length (ecs m) ∧ Below w.heap.size w w' := by
  subst hm
  obtain ⟨g, rfl, hc⟩ := hcl
  rw [List.length_map]
  exact glue_e g us w hn hl fun j hj => ⟨by have := hc j (by simpa using hj); rwa [List.getElem_map] at this, hr _ (List.getElem_mem hj)⟩
theorem gl_i {w : World} {v : Value} (us : List (Value × List Int)) (hcl : Cl w v (us.map (·.1))) (hr : ∀ p ∈ us, Ints w p.1 p.2) (hn : us.length ≤ 100) (hl : (flatA us us.length).length ≤ 1099511627776) (m : List Int) (hm : flatA us us.length = m) :
    Calls Try.prog 81 #[v] w fun r w' => ∃ x, r = .returned x ∧ w'.ownsRow w.heap.size 3 1 x m.length (ics m) ∧ Below w.heap.size w w' := by
  subst hm
  obtain ⟨g, rfl, hc⟩ := hcl
  rw [List.length_map]
  exact glue_i g us w hn hl fun j hj => ⟨by have := hc j (by simpa using hj); rwa [List.getElem_map] at this, hr _ (List.getElem_mem hj)⟩
theorem gl_t {w : World} {v : Value} (us : List (Value × List ByteArray)) (hcl : Cl w v (us.map (·.1))) (hr : ∀ p ∈ us, Txts w p.1 p.2) (hn : us.length ≤ 100) (hl : (flatA us us.length).length ≤ 1099511627776) (m : List ByteArray) (hm : flatA us us.length = m) :
    Calls Try.prog 82 #[v] w fun r w' => ∃ x, r = .returned x ∧ w'.ownsRow w.heap.size 9 1 x m.length (tcs m) ∧ Below w.heap.size w w' := by
  subst hm
  obtain ⟨g, rfl, hc⟩ := hcl
  rw [List.length_map]
  exact glue_t g us w hn hl fun j hj => ⟨by have := hc j (by simpa using hj); rwa [List.getElem_map] at this, hr _ (List.getElem_mem hj)⟩
theorem gl1_e {w : World} {v u : Value} {l : List Ent} (hcl : Cl w v [u]) (hr : Ents w u l) (hl : l.length ≤ 1099511627776) :
    Calls Try.prog 83 #[v] w fun r w' => ∃ x, r = .returned x ∧ w'.ownsRow w.heap.size 49 2 x l.length (ecs l) ∧ Below w.heap.size w w' :=
  gl_e [(u, l)] hcl (fun p hp => by rw [List.mem_singleton.1 hp]; exact hr) (by simp) (by simpa [flatA] using hl) l (by simp [flatA])
theorem gl1_i {w : World} {v u : Value} {l : List Int} (hcl : Cl w v [u]) (hr : Ints w u l) (hl : l.length ≤ 1099511627776) :
    Calls Try.prog 81 #[v] w fun r w' => ∃ x, r = .returned x ∧ w'.ownsRow w.heap.size 3 1 x l.length (ics l) ∧ Below w.heap.size w w' :=
  gl_i [(u, l)] hcl (fun p hp => by rw [List.mem_singleton.1 hp]; exact hr) (by simp) (by simpa [flatA] using hl) l (by simp [flatA])
theorem gl1_t {w : World} {v u : Value} {l : List ByteArray} (hcl : Cl w v [u]) (hr : Txts w u l) (hl : l.length ≤ 1099511627776) :
    Calls Try.prog 82 #[v] w fun r w' => ∃ x, r = .returned x ∧ w'.ownsRow w.heap.size 9 1 x l.length (tcs l) ∧ Below w.heap.size w w' :=
  gl_t [(u, l)] hcl (fun p hp => by rw [List.mem_singleton.1 hp]; exact hr) (by simp) (by simpa [flatA] using hl) l (by simp [flatA])
/-- an empty box, and what is stored there -/
def Zb (w : World) (g : Nat) (t : TypeId) : Prop := ∃ a b c d, w.heap[g]? = some (.cells #[a, b, c, d] t (0, 0))
theorem Zb.below {w w' : World} {g : Nat} {t : TypeId} (h : Zb w g t) (hb : Below w.heap.size w w') : Zb w' g t := by
  obtain ⟨a, b, c, d, h⟩ := h
  exact ⟨a, b, c, d, blk_below h hb⟩
theorem Zb.new (w : World) (a b c d : Value) (t : TypeId) : Zb (w.alloc (.cells #[a, b, c, d] t)) w.heap.size t := ⟨a, b, c, d, blk_new _ _⟩
theorem store69 {w : World} {g : Nat} {l : Bool} {e0 k0 s0 : Option Addr} {en ec kn kc sn sc : Nat} (h : Zb w g 69) :
    ∃ w', (storeVar 69 ⟨g, 0, none⟩ (.agg #[.bool l, .slice e0 en ec, .slice k0 kn kc, .slice s0 sn sc])).run Try.prog w = .ok () w' ∧ w'.heap[g]? = some (.cells #[.bool l, .slice e0 en ec, .slice k0 kn kc, .slice s0 sn sc] 69 (0, 0)) ∧ Only g w w' := by
  obtain ⟨a, b, c, d, h⟩ := h
  have h0 := blk_set h 0 (.bool l)
  have h1 := blk_set h0 1 (.slice e0 en ec)
  have h2 := blk_set h1 2 (.slice k0 kn kc)
  have h3 := blk_set h2 3 (.slice s0 sn sc)
  refine ⟨_, ?_, h3, (((Only.set _ _ _).trans (Only.set _ _ _)).trans (Only.set _ _ _)).trans (Only.set _ _ _)⟩
  have c0 : w.cell? ⟨g, 0, none⟩ = some a := by rw [blk_cell h]; rfl
  have c1 : (w.setCell ⟨g, 0, none⟩ (.bool l)).cell? ⟨g, 1, none⟩ = some b := by rw [blk_cell h0]; rfl
  have c2 : ((w.setCell ⟨g, 0, none⟩ (.bool l)).setCell ⟨g, 1, none⟩ (.slice e0 en ec)).cell? ⟨g, 2, none⟩ = some c := by rw [blk_cell h1]; rfl
  have c3 : (((w.setCell ⟨g, 0, none⟩ (.bool l)).setCell ⟨g, 1, none⟩ (.slice e0 en ec)).setCell ⟨g, 2, none⟩ (.slice k0 kn kc)).cell? ⟨g, 3, none⟩ = some d := by rw [blk_cell h2]; rfl
  have f0 := blk_free h 0
  have f1 := blk_free h0 1
  have f2 := blk_free h1 2
  have f3 := blk_free h2 3
  simp [storeVar, go_sem, *]
end Go.Proofs.Ytifdglehfhoecaa.N

/-
  A node with memory of its own. Conditions: bounds that every node here keeps.
-/
namespace Go.Proofs.Ytifdglehfhoecaa.N
open Go.RowKit B E
/-- a node whose lists are the call's own -/
def NdO (w : World) (base : Nat) (v : Value) (n : M.Nd) : Prop := ∃ e0 ec k0 kc s0 sc, v = .agg #[.bool n.leaf, .slice e0 n.es.length ec, .slice k0 n.ks.length kc, .slice s0 n.ss.length sc] ∧
  w.ownsRow base 49 2 (.slice e0 n.es.length ec) n.es.length (ecs n.es) ∧ w.ownsRow base 3 1 (.slice k0 n.ks.length kc) n.ks.length (ics n.ks) ∧ w.ownsRow base 9 1 (.slice s0 n.ss.length sc) n.ss.length (tcs n.ss)
theorem NdO.val {w : World} {base : Nat} {v : Value} {n : M.Nd} (h : NdO w base v n) : NdV w v n := by
  obtain ⟨e0, ec, k0, kc, s0, sc, rfl, h1, h2, h3⟩ := h
  exact ⟨e0, ec, k0, kc, s0, sc, rfl, Rw.own h1, Rw.own h2, Rw.own h3⟩
theorem NdO.below {w w' : World} {base : Nat} {v : Value} {n : M.Nd} (h : NdO w base v n) (hb : Below w.heap.size w w') : NdO w' base v n := by
  obtain ⟨e0, ec, k0, kc, s0, sc, rfl, h1, h2, h3⟩ := h
  exact ⟨e0, ec, k0, kc, s0, sc, rfl, own_below h1 hb, own_below h2 hb, own_below h3 hb⟩
theorem NdO.mono {w : World} {base base' : Nat} {v : Value} {n : M.Nd} (h : NdO w base v n) (hb : base' ≤ base) : NdO w base' v n := by
  obtain ⟨e0, ec, k0, kc, s0, sc, rfl, h1, h2, h3⟩ := h
  exact ⟨e0, ec, k0, kc, s0, sc, rfl, own_mono h1 hb, own_mono h2 hb, own_mono h3 hb⟩
def NMk (n : M.Nd) (w : World) (r : Ending) (w' : World) : Prop := ∃ v, r = .returned v ∧ NdO w' w.heap.size v n ∧ Below w.heap.size w w'
theorem own_only' {w w' : World} {g base size n : Nat} {e : TypeId} {v : Value} {cs : List Value} (h : w.ownsRow base e size v n cs) (ho : Only g w w') (hg : g < base) : w'.ownsRow base e size v n cs :=
  h.kept ho (.inr fun he => by have := (h.lt g he).1; omega)
set_option maxRecDepth 100000 in
set_option maxHeartbeats 4000000 in
theorem copied_any (v : Value) (n : M.Nd) (w : World) (hv : NdV w v n) (hbd : Bd n) : Calls Try.prog 80 #[v] w (NMk n w) := by
  obtain ⟨d1, d2, d3, d4, d5⟩ := hbd
  obtain ⟨l, es, ks, ss⟩ := n
  obtain ⟨e0, ec, k0, kc, s0, sc, rfl, he, hk, hs⟩ := hv
  dsimp only at he hk hs d1 d2 d3 d4 d5 ⊢
  obtain ⟨en, hen⟩ : ∃ x, es.length = x := ⟨_, rfl⟩
  obtain ⟨kn, hkn⟩ : ∃ x, ks.length = x := ⟨_, rfl⟩
  obtain ⟨sn, hsn⟩ : ∃ x, ss.length = x := ⟨_, rfl⟩
  rw [hen] at he ⊢
  rw [hkn] at hk ⊢
  rw [hsn] at hs ⊢
  clear hen hkn hsn
  go_enter Try.func80, Try.ntmps80
  go_upto_region 1 with (fail)
  obtain ⟨w0, hw0⟩ : ∃ W, w.alloc (.cells #[.bool l, .slice e0 en ec, .slice k0 kn kc, .slice s0 sn sc] 69) = W := ⟨_, rfl⟩
  have hz0 : w0.heap.size = w.heap.size + 1 := by rw [← hw0]; simp
  have hx : Bx w0 w.heap.size l (.slice e0 en ec) (.slice k0 kn kc) (.slice s0 sn sc) := by rw [← hw0]; exact Bx.new _ _ _ _ _ _
  have hb0 : Below w.heap.size w w0 := by rw [← hw0]; exact (Below.refl _ w).alloc (Nat.le_refl _) _
  rw [hw0]
  clear hw0
  obtain ⟨w1, hw1⟩ : ∃ W, w0.alloc (.cells #[.bool false, .slice none 0 0, .slice none 0 0, .slice none 0 0] 69) = W := ⟨_, rfl⟩
  have hz1 : w1.heap.size = w.heap.size + 2 := by rw [← hw1]; simp [hz0]
  have hzb : Zb w1 (w.heap.size + 1) 69 := by rw [← hw1, ← hz0]; exact Zb.new _ _ _ _ _ _
  have hb01 : Below w0.heap.size w0 w1 := by rw [← hw1]; exact (Below.refl _ w0).alloc (Nat.le_refl _) _
  rw [hw1]
  clear hw1
  have hx := hx.below hb01
  have hb1 := hb0.trans (hb01.mono hb0.size)
  clear hb0 hb01 hz0
  have HE := Lib.hid (he.below hb1); have HK0 := Lib.hid (hk.below hb1); have HS := Lib.hid (hs.below hb1)
  have HZB := Lib.hid hzb
  have HZ1 := Lib.hid hz1
  clear he hk hs hzb hz1
  refine wp_region_any (by kernel_rfl) ?_
  refine wpAny_upto_f 15 (fun f L a W => ∃ v3 v4 v5 v6 v7 v8 v9 v10 v11 v12 v13 v14 v15 v16 v17 : Value, a = { tmps := #[.agg #[.bool l, .slice e0 en ec, .slice k0 kn kc, .slice s0 sn sc], .pointer (some ⟨w.heap.size, 0, none⟩), .pointer (some ⟨w.heap.size + 1, 0, none⟩), v3, v4, v5, v6, v7, v8, v9, v10, v11, v12, v13, v14, v15, v16, v17], defers := [] } ∧ Below w1.heap.size w1 W ∧ (Lst L 0 → v3 = .pointer (some ⟨w.heap.size, 0, none⟩)) ∧ (Lst L 1 → v4 = .bool l) ∧ (Lst L 2 → v5 = .pointer (some ⟨w.heap.size, 1, none⟩)) ∧ (Lst L 3 → v6 = .slice e0 en ec) ∧ (Lst L 4 → Cl W v7 [.slice e0 en ec]) ∧ (Lst L 5 → World.ownsRow W w1.heap.size 49 2 v8 es.length (ecs es)) ∧ (Lst L 6 → v9 = .pointer (some ⟨w.heap.size, 2, none⟩)) ∧ (Lst L 7 → v10 = .slice k0 kn kc) ∧ (Lst L 8 → Cl W v11 [.slice k0 kn kc]) ∧ (Lst L 9 → World.ownsRow W w1.heap.size 3 1 v12 ks.length (ics ks)) ∧ (Lst L 10 → v13 = .pointer (some ⟨w.heap.size, 3, none⟩)) ∧ (Lst L 11 → v14 = .slice s0 sn sc) ∧ (Lst L 12 → Cl W v15 [.slice s0 sn sc]) ∧ (Lst L 13 → World.ownsRow W w1.heap.size 9 1 v16 ss.length (tcs ss)) ∧ (Lst L 14 → v17 = .agg #[.bool l, v8, v12, v16] ∧ Lst L 5 ∧ Lst L 9 ∧ Lst L 13)) (by decide) (by kernel_rfl) (by kernel_rfl) ?step ?fin _ _ _ _ ?ini (by simp) (fun k _ => lst_none) (by simp)
  case ini => exact ⟨_, _, _, _, _, _, _, _, _, _, _, _, _, _, _, rfl, (Below.refl _ w1).drew, fun h => absurd h lst_none, fun h => absurd h lst_none, fun h => absurd h lst_none, fun h => absurd h lst_none, fun h => absurd h lst_none, fun h => absurd h lst_none, fun h => absurd h lst_none, fun h => absurd h lst_none, fun h => absurd h lst_none, fun h => absurd h lst_none, fun h => absurd h lst_none, fun h => absurd h lst_none, fun h => absurd h lst_none, fun h => absurd h lst_none, fun h => absurd h lst_none⟩
  case step =>
    intro f L a W hI i him hi
    obtain ⟨v3, v4, v5, v6, v7, v8, v9, v10, v11, v12, v13, v14, v15, v16, v17, rfl, hb, hf⟩ := hI
    have F := Lib.hid hf
    clear hf
    rcases (show i = 0 ∨ i = 1 ∨ i = 2 ∨ i = 3 ∨ i = 4 ∨ i = 5 ∨ i = 6 ∨ i = 7 ∨ i = 8 ∨ i = 9 ∨ i = 10 ∨ i = 11 ∨ i = 12 ∨ i = 13 ∨ i = 14 by omega) with rfl | rfl | rfl | rfl | rfl | rfl | rfl | rfl | rfl | rfl | rfl | rfl | rfl | rfl | rfl
    · clear him
      have HI := Lib.hid hi
      clear hi
      refine wpOp_step (o := _) rfl (fun K' hK => ?_)
      have HK := Lib.hid hK
      clear hK
      go_simp
      try simp only [Act.put, List.setIfInBounds_toArray, List.set_cons_zero, List.set_cons_succ]
      refine HK.out _ _ ⟨_, _, _, _, _, _, _, _, _, _, _, _, _, _, _, rfl, hb, fun _ => rfl, fun h => F.out.2.1 (lst_old (by decide) h), fun h => F.out.2.2.1 (lst_old (by decide) h), fun h => F.out.2.2.2.1 (lst_old (by decide) h), fun h => F.out.2.2.2.2.1 (lst_old (by decide) h), fun h => F.out.2.2.2.2.2.1 (lst_old (by decide) h), fun h => F.out.2.2.2.2.2.2.1 (lst_old (by decide) h), fun h => F.out.2.2.2.2.2.2.2.1 (lst_old (by decide) h), fun h => F.out.2.2.2.2.2.2.2.2.1 (lst_old (by decide) h), fun h => F.out.2.2.2.2.2.2.2.2.2.1 (lst_old (by decide) h), fun h => F.out.2.2.2.2.2.2.2.2.2.2.1 (lst_old (by decide) h), fun h => F.out.2.2.2.2.2.2.2.2.2.2.2.1 (lst_old (by decide) h), fun h => F.out.2.2.2.2.2.2.2.2.2.2.2.2.1 (lst_old (by decide) h), fun h => F.out.2.2.2.2.2.2.2.2.2.2.2.2.2.1 (lst_old (by decide) h), fun h => ⟨(F.out.2.2.2.2.2.2.2.2.2.2.2.2.2.2 (lst_old (by decide) h)).1, lst_keep (F.out.2.2.2.2.2.2.2.2.2.2.2.2.2.2 (lst_old (by decide) h)).2.1, lst_keep (F.out.2.2.2.2.2.2.2.2.2.2.2.2.2.2 (lst_old (by decide) h)).2.2.1, lst_keep (F.out.2.2.2.2.2.2.2.2.2.2.2.2.2.2 (lst_old (by decide) h)).2.2.2⟩⟩
    · clear him
      have p0 := F.out.1 (ready_needs hi (by kernel_rfl))
      subst p0
      have hxx := hx.below hb
      obtain ⟨y0, y1, y2, y3⟩ := hxx
      have HI := Lib.hid hi
      clear hi
      refine wpOp_step (o := _) rfl (fun K' hK => ?_)
      have HK := Lib.hid hK
      clear hK
      go_simp
      try simp only [Act.put, List.setIfInBounds_toArray, List.set_cons_zero, List.set_cons_succ]
      refine HK.out _ _ ⟨_, _, _, _, _, _, _, _, _, _, _, _, _, _, _, rfl, hb, fun h => F.out.1 (lst_old (by decide) h), fun _ => rfl, fun h => F.out.2.2.1 (lst_old (by decide) h), fun h => F.out.2.2.2.1 (lst_old (by decide) h), fun h => F.out.2.2.2.2.1 (lst_old (by decide) h), fun h => F.out.2.2.2.2.2.1 (lst_old (by decide) h), fun h => F.out.2.2.2.2.2.2.1 (lst_old (by decide) h), fun h => F.out.2.2.2.2.2.2.2.1 (lst_old (by decide) h), fun h => F.out.2.2.2.2.2.2.2.2.1 (lst_old (by decide) h), fun h => F.out.2.2.2.2.2.2.2.2.2.1 (lst_old (by decide) h), fun h => F.out.2.2.2.2.2.2.2.2.2.2.1 (lst_old (by decide) h), fun h => F.out.2.2.2.2.2.2.2.2.2.2.2.1 (lst_old (by decide) h), fun h => F.out.2.2.2.2.2.2.2.2.2.2.2.2.1 (lst_old (by decide) h), fun h => F.out.2.2.2.2.2.2.2.2.2.2.2.2.2.1 (lst_old (by decide) h), fun h => ⟨(F.out.2.2.2.2.2.2.2.2.2.2.2.2.2.2 (lst_old (by decide) h)).1, lst_keep (F.out.2.2.2.2.2.2.2.2.2.2.2.2.2.2 (lst_old (by decide) h)).2.1, lst_keep (F.out.2.2.2.2.2.2.2.2.2.2.2.2.2.2 (lst_old (by decide) h)).2.2.1, lst_keep (F.out.2.2.2.2.2.2.2.2.2.2.2.2.2.2 (lst_old (by decide) h)).2.2.2⟩⟩
    · clear him
      have HI := Lib.hid hi
      clear hi
      refine wpOp_step (o := _) rfl (fun K' hK => ?_)
      have HK := Lib.hid hK
      clear hK
      go_simp
      try simp only [Act.put, List.setIfInBounds_toArray, List.set_cons_zero, List.set_cons_succ]
      refine HK.out _ _ ⟨_, _, _, _, _, _, _, _, _, _, _, _, _, _, _, rfl, hb, fun h => F.out.1 (lst_old (by decide) h), fun h => F.out.2.1 (lst_old (by decide) h), fun _ => rfl, fun h => F.out.2.2.2.1 (lst_old (by decide) h), fun h => F.out.2.2.2.2.1 (lst_old (by decide) h), fun h => F.out.2.2.2.2.2.1 (lst_old (by decide) h), fun h => F.out.2.2.2.2.2.2.1 (lst_old (by decide) h), fun h => F.out.2.2.2.2.2.2.2.1 (lst_old (by decide) h), fun h => F.out.2.2.2.2.2.2.2.2.1 (lst_old (by decide) h), fun h => F.out.2.2.2.2.2.2.2.2.2.1 (lst_old (by decide) h), fun h => F.out.2.2.2.2.2.2.2.2.2.2.1 (lst_old (by decide) h), fun h => F.out.2.2.2.2.2.2.2.2.2.2.2.1 (lst_old (by decide) h), fun h => F.out.2.2.2.2.2.2.2.2.2.2.2.2.1 (lst_old (by decide) h), fun h => F.out.2.2.2.2.2.2.2.2.2.2.2.2.2.1 (lst_old (by decide) h), fun h => ⟨(F.out.2.2.2.2.2.2.2.2.2.2.2.2.2.2 (lst_old (by decide) h)).1, lst_keep (F.out.2.2.2.2.2.2.2.2.2.2.2.2.2.2 (lst_old (by decide) h)).2.1, lst_keep (F.out.2.2.2.2.2.2.2.2.2.2.2.2.2.2 (lst_old (by decide) h)).2.2.1, lst_keep (F.out.2.2.2.2.2.2.2.2.2.2.2.2.2.2 (lst_old (by decide) h)).2.2.2⟩⟩
    · clear him
      have p2 := F.out.2.2.1 (ready_needs hi (by kernel_rfl))
      subst p2
      have hxx := hx.below hb
      obtain ⟨y0, y1, y2, y3⟩ := hxx
      have HI := Lib.hid hi
      clear hi
      refine wpOp_step (o := _) rfl (fun K' hK => ?_)
      have HK := Lib.hid hK
      clear hK
      go_simp
      try simp only [Act.put, List.setIfInBounds_toArray, List.set_cons_zero, List.set_cons_succ]
      refine HK.out _ _ ⟨_, _, _, _, _, _, _, _, _, _, _, _, _, _, _, rfl, hb, fun h => F.out.1 (lst_old (by decide) h), fun h => F.out.2.1 (lst_old (by decide) h), fun h => F.out.2.2.1 (lst_old (by decide) h), fun _ => rfl, fun h => F.out.2.2.2.2.1 (lst_old (by decide) h), fun h => F.out.2.2.2.2.2.1 (lst_old (by decide) h), fun h => F.out.2.2.2.2.2.2.1 (lst_old (by decide) h), fun h => F.out.2.2.2.2.2.2.2.1 (lst_old (by decide) h), fun h => F.out.2.2.2.2.2.2.2.2.1 (lst_old (by decide) h), fun h => F.out.2.2.2.2.2.2.2.2.2.1 (lst_old (by decide) h), fun h => F.out.2.2.2.2.2.2.2.2.2.2.1 (lst_old (by decide) h), fun h => F.out.2.2.2.2.2.2.2.2.2.2.2.1 (lst_old (by decide) h), fun h => F.out.2.2.2.2.2.2.2.2.2.2.2.2.1 (lst_old (by decide) h), fun h => F.out.2.2.2.2.2.2.2.2.2.2.2.2.2.1 (lst_old (by decide) h), fun h => ⟨(F.out.2.2.2.2.2.2.2.2.2.2.2.2.2.2 (lst_old (by decide) h)).1, lst_keep (F.out.2.2.2.2.2.2.2.2.2.2.2.2.2.2 (lst_old (by decide) h)).2.1, lst_keep (F.out.2.2.2.2.2.2.2.2.2.2.2.2.2.2 (lst_old (by decide) h)).2.2.1, lst_keep (F.out.2.2.2.2.2.2.2.2.2.2.2.2.2.2 (lst_old (by decide) h)).2.2.2⟩⟩
    · clear him
      have p3 := F.out.2.2.2.1 (ready_needs hi (by kernel_rfl))
      subst p3
      have HI := Lib.hid hi
      clear hi
      refine wpOp_step (o := _) rfl (fun K' hK => ?_)
      have HK := Lib.hid hK
      clear hK
      go_simp
      try simp only [Act.put, List.setIfInBounds_toArray, List.set_cons_zero, List.set_cons_succ]
      refine HK.out _ _ ⟨_, _, _, _, _, _, _, _, _, _, _, _, _, _, _, rfl, (hb.alloc hb.size _), fun h => F.out.1 (lst_old (by decide) h), fun h => F.out.2.1 (lst_old (by decide) h), fun h => F.out.2.2.1 (lst_old (by decide) h), fun h => F.out.2.2.2.1 (lst_old (by decide) h), fun _ => Cl.new W [.slice e0 en ec] 43 1 rfl, fun h => own_below (F.out.2.2.2.2.2.1 (lst_old (by decide) h)) ((Below.refl _ W).alloc (Nat.le_refl _) _), fun h => F.out.2.2.2.2.2.2.1 (lst_old (by decide) h), fun h => F.out.2.2.2.2.2.2.2.1 (lst_old (by decide) h), fun h => Cl.below (F.out.2.2.2.2.2.2.2.2.1 (lst_old (by decide) h)) ((Below.refl _ W).alloc (Nat.le_refl _) _), fun h => own_below (F.out.2.2.2.2.2.2.2.2.2.1 (lst_old (by decide) h)) ((Below.refl _ W).alloc (Nat.le_refl _) _), fun h => F.out.2.2.2.2.2.2.2.2.2.2.1 (lst_old (by decide) h), fun h => F.out.2.2.2.2.2.2.2.2.2.2.2.1 (lst_old (by decide) h), fun h => Cl.below (F.out.2.2.2.2.2.2.2.2.2.2.2.2.1 (lst_old (by decide) h)) ((Below.refl _ W).alloc (Nat.le_refl _) _), fun h => own_below (F.out.2.2.2.2.2.2.2.2.2.2.2.2.2.1 (lst_old (by decide) h)) ((Below.refl _ W).alloc (Nat.le_refl _) _), fun h => ⟨(F.out.2.2.2.2.2.2.2.2.2.2.2.2.2.2 (lst_old (by decide) h)).1, lst_keep (F.out.2.2.2.2.2.2.2.2.2.2.2.2.2.2 (lst_old (by decide) h)).2.1, lst_keep (F.out.2.2.2.2.2.2.2.2.2.2.2.2.2.2 (lst_old (by decide) h)).2.2.1, lst_keep (F.out.2.2.2.2.2.2.2.2.2.2.2.2.2.2 (lst_old (by decide) h)).2.2.2⟩⟩
    · clear him
      have p4 := F.out.2.2.2.2.1 (ready_needs hi (by kernel_rfl))
      have P4 := Lib.hid p4
      clear p4
      have HI := Lib.hid hi
      clear hi
      refine wpOp_step (o := _) rfl (fun K' hK => ?_)
      have HK := Lib.hid hK
      clear hK
      go_simp
      refine (gl1_e P4.out (HE.out.below hb) (by omega)).mono ?_
      rintro r W2 ⟨x, rfl, hown, hb2⟩
      try simp only []
      refine HK.out _ _ ⟨_, _, _, _, _, _, _, _, _, _, _, _, _, _, _, rfl, (hb.trans (hb2.mono hb.size)), fun h => F.out.1 (lst_old (by decide) h), fun h => F.out.2.1 (lst_old (by decide) h), fun h => F.out.2.2.1 (lst_old (by decide) h), fun h => F.out.2.2.2.1 (lst_old (by decide) h), fun h => Cl.below (F.out.2.2.2.2.1 (lst_old (by decide) h)) hb2, fun _ => own_mono hown hb.size, fun h => F.out.2.2.2.2.2.2.1 (lst_old (by decide) h), fun h => F.out.2.2.2.2.2.2.2.1 (lst_old (by decide) h), fun h => Cl.below (F.out.2.2.2.2.2.2.2.2.1 (lst_old (by decide) h)) hb2, fun h => own_below (F.out.2.2.2.2.2.2.2.2.2.1 (lst_old (by decide) h)) hb2, fun h => F.out.2.2.2.2.2.2.2.2.2.2.1 (lst_old (by decide) h), fun h => F.out.2.2.2.2.2.2.2.2.2.2.2.1 (lst_old (by decide) h), fun h => Cl.below (F.out.2.2.2.2.2.2.2.2.2.2.2.2.1 (lst_old (by decide) h)) hb2, fun h => own_below (F.out.2.2.2.2.2.2.2.2.2.2.2.2.2.1 (lst_old (by decide) h)) hb2, fun h => absurd (F.out.2.2.2.2.2.2.2.2.2.2.2.2.2.2 (lst_old (by decide) h)).2.1 (ready_not HI.out)⟩
    · clear him
      have HI := Lib.hid hi
      clear hi
      refine wpOp_step (o := _) rfl (fun K' hK => ?_)
      have HK := Lib.hid hK
      clear hK
      go_simp
      try simp only [Act.put, List.setIfInBounds_toArray, List.set_cons_zero, List.set_cons_succ]
      refine HK.out _ _ ⟨_, _, _, _, _, _, _, _, _, _, _, _, _, _, _, rfl, hb, fun h => F.out.1 (lst_old (by decide) h), fun h => F.out.2.1 (lst_old (by decide) h), fun h => F.out.2.2.1 (lst_old (by decide) h), fun h => F.out.2.2.2.1 (lst_old (by decide) h), fun h => F.out.2.2.2.2.1 (lst_old (by decide) h), fun h => F.out.2.2.2.2.2.1 (lst_old (by decide) h), fun _ => rfl, fun h => F.out.2.2.2.2.2.2.2.1 (lst_old (by decide) h), fun h => F.out.2.2.2.2.2.2.2.2.1 (lst_old (by decide) h), fun h => F.out.2.2.2.2.2.2.2.2.2.1 (lst_old (by decide) h), fun h => F.out.2.2.2.2.2.2.2.2.2.2.1 (lst_old (by decide) h), fun h => F.out.2.2.2.2.2.2.2.2.2.2.2.1 (lst_old (by decide) h), fun h => F.out.2.2.2.2.2.2.2.2.2.2.2.2.1 (lst_old (by decide) h), fun h => F.out.2.2.2.2.2.2.2.2.2.2.2.2.2.1 (lst_old (by decide) h), fun h => ⟨(F.out.2.2.2.2.2.2.2.2.2.2.2.2.2.2 (lst_old (by decide) h)).1, lst_keep (F.out.2.2.2.2.2.2.2.2.2.2.2.2.2.2 (lst_old (by decide) h)).2.1, lst_keep (F.out.2.2.2.2.2.2.2.2.2.2.2.2.2.2 (lst_old (by decide) h)).2.2.1, lst_keep (F.out.2.2.2.2.2.2.2.2.2.2.2.2.2.2 (lst_old (by decide) h)).2.2.2⟩⟩
    · clear him
      have p6 := F.out.2.2.2.2.2.2.1 (ready_needs hi (by kernel_rfl))
      subst p6
      have hxx := hx.below hb
      obtain ⟨y0, y1, y2, y3⟩ := hxx
      have HI := Lib.hid hi
      clear hi
      refine wpOp_step (o := _) rfl (fun K' hK => ?_)
      have HK := Lib.hid hK
      clear hK
      go_simp
      try simp only [Act.put, List.setIfInBounds_toArray, List.set_cons_zero, List.set_cons_succ]
      refine HK.out _ _ ⟨_, _, _, _, _, _, _, _, _, _, _, _, _, _, _, rfl, hb, fun h => F.out.1 (lst_old (by decide) h), fun h => F.out.2.1 (lst_old (by decide) h), fun h => F.out.2.2.1 (lst_old (by decide) h), fun h => F.out.2.2.2.1 (lst_old (by decide) h), fun h => F.out.2.2.2.2.1 (lst_old (by decide) h), fun h => F.out.2.2.2.2.2.1 (lst_old (by decide) h), fun h => F.out.2.2.2.2.2.2.1 (lst_old (by decide) h), fun _ => rfl, fun h => F.out.2.2.2.2.2.2.2.2.1 (lst_old (by decide) h), fun h => F.out.2.2.2.2.2.2.2.2.2.1 (lst_old (by decide) h), fun h => F.out.2.2.2.2.2.2.2.2.2.2.1 (lst_old (by decide) h), fun h => F.out.2.2.2.2.2.2.2.2.2.2.2.1 (lst_old (by decide) h), fun h => F.out.2.2.2.2.2.2.2.2.2.2.2.2.1 (lst_old (by decide) h), fun h => F.out.2.2.2.2.2.2.2.2.2.2.2.2.2.1 (lst_old (by decide) h), fun h => ⟨(F.out.2.2.2.2.2.2.2.2.2.2.2.2.2.2 (lst_old (by decide) h)).1, lst_keep (F.out.2.2.2.2.2.2.2.2.2.2.2.2.2.2 (lst_old (by decide) h)).2.1, lst_keep (F.out.2.2.2.2.2.2.2.2.2.2.2.2.2.2 (lst_old (by decide) h)).2.2.1, lst_keep (F.out.2.2.2.2.2.2.2.2.2.2.2.2.2.2 (lst_old (by decide) h)).2.2.2⟩⟩
    · clear him
      have p7 := F.out.2.2.2.2.2.2.2.1 (ready_needs hi (by kernel_rfl))
      subst p7
      have HI := Lib.hid hi
      clear hi
      refine wpOp_step (o := _) rfl (fun K' hK => ?_)
      have HK := Lib.hid hK
      clear hK
      go_simp
      try simp only [Act.put, List.setIfInBounds_toArray, List.set_cons_zero, List.set_cons_succ]
      refine HK.out _ _ ⟨_, _, _, _, _, _, _, _, _, _, _, _, _, _, _, rfl, (hb.alloc hb.size _), fun h => F.out.1 (lst_old (by decide) h), fun h => F.out.2.1 (lst_old (by decide) h), fun h => F.out.2.2.1 (lst_old (by decide) h), fun h => F.out.2.2.2.1 (lst_old (by decide) h), fun h => Cl.below (F.out.2.2.2.2.1 (lst_old (by decide) h)) ((Below.refl _ W).alloc (Nat.le_refl _) _), fun h => own_below (F.out.2.2.2.2.2.1 (lst_old (by decide) h)) ((Below.refl _ W).alloc (Nat.le_refl _) _), fun h => F.out.2.2.2.2.2.2.1 (lst_old (by decide) h), fun h => F.out.2.2.2.2.2.2.2.1 (lst_old (by decide) h), fun _ => Cl.new W [.slice k0 kn kc] 67 1 rfl, fun h => own_below (F.out.2.2.2.2.2.2.2.2.2.1 (lst_old (by decide) h)) ((Below.refl _ W).alloc (Nat.le_refl _) _), fun h => F.out.2.2.2.2.2.2.2.2.2.2.1 (lst_old (by decide) h), fun h => F.out.2.2.2.2.2.2.2.2.2.2.2.1 (lst_old (by decide) h), fun h => Cl.below (F.out.2.2.2.2.2.2.2.2.2.2.2.2.1 (lst_old (by decide) h)) ((Below.refl _ W).alloc (Nat.le_refl _) _), fun h => own_below (F.out.2.2.2.2.2.2.2.2.2.2.2.2.2.1 (lst_old (by decide) h)) ((Below.refl _ W).alloc (Nat.le_refl _) _), fun h => ⟨(F.out.2.2.2.2.2.2.2.2.2.2.2.2.2.2 (lst_old (by decide) h)).1, lst_keep (F.out.2.2.2.2.2.2.2.2.2.2.2.2.2.2 (lst_old (by decide) h)).2.1, lst_keep (F.out.2.2.2.2.2.2.2.2.2.2.2.2.2.2 (lst_old (by decide) h)).2.2.1, lst_keep (F.out.2.2.2.2.2.2.2.2.2.2.2.2.2.2 (lst_old (by decide) h)).2.2.2⟩⟩
    · clear him
      have p8 := F.out.2.2.2.2.2.2.2.2.1 (ready_needs hi (by kernel_rfl))
      have P8 := Lib.hid p8
      clear p8
      have HI := Lib.hid hi
      clear hi
      refine wpOp_step (o := _) rfl (fun K' hK => ?_)
      have HK := Lib.hid hK
      clear hK
      go_simp
      refine (gl1_i P8.out (HK0.out.below hb) (by omega)).mono ?_
      rintro r W2 ⟨x, rfl, hown, hb2⟩
      try simp only []
      refine HK.out _ _ ⟨_, _, _, _, _, _, _, _, _, _, _, _, _, _, _, rfl, (hb.trans (hb2.mono hb.size)), fun h => F.out.1 (lst_old (by decide) h), fun h => F.out.2.1 (lst_old (by decide) h), fun h => F.out.2.2.1 (lst_old (by decide) h), fun h => F.out.2.2.2.1 (lst_old (by decide) h), fun h => Cl.below (F.out.2.2.2.2.1 (lst_old (by decide) h)) hb2, fun h => own_below (F.out.2.2.2.2.2.1 (lst_old (by decide) h)) hb2, fun h => F.out.2.2.2.2.2.2.1 (lst_old (by decide) h), fun h => F.out.2.2.2.2.2.2.2.1 (lst_old (by decide) h), fun h => Cl.below (F.out.2.2.2.2.2.2.2.2.1 (lst_old (by decide) h)) hb2, fun _ => own_mono hown hb.size, fun h => F.out.2.2.2.2.2.2.2.2.2.2.1 (lst_old (by decide) h), fun h => F.out.2.2.2.2.2.2.2.2.2.2.2.1 (lst_old (by decide) h), fun h => Cl.below (F.out.2.2.2.2.2.2.2.2.2.2.2.2.1 (lst_old (by decide) h)) hb2, fun h => own_below (F.out.2.2.2.2.2.2.2.2.2.2.2.2.2.1 (lst_old (by decide) h)) hb2, fun h => absurd (F.out.2.2.2.2.2.2.2.2.2.2.2.2.2.2 (lst_old (by decide) h)).2.2.1 (ready_not HI.out)⟩
    · clear him
      have HI := Lib.hid hi
      clear hi
      refine wpOp_step (o := _) rfl (fun K' hK => ?_)
      have HK := Lib.hid hK
      clear hK
      go_simp
      try simp only [Act.put, List.setIfInBounds_toArray, List.set_cons_zero, List.set_cons_succ]
      refine HK.out _ _ ⟨_, _, _, _, _, _, _, _, _, _, _, _, _, _, _, rfl, hb, fun h => F.out.1 (lst_old (by decide) h), fun h => F.out.2.1 (lst_old (by decide) h), fun h => F.out.2.2.1 (lst_old (by decide) h), fun h => F.out.2.2.2.1 (lst_old (by decide) h), fun h => F.out.2.2.2.2.1 (lst_old (by decide) h), fun h => F.out.2.2.2.2.2.1 (lst_old (by decide) h), fun h => F.out.2.2.2.2.2.2.1 (lst_old (by decide) h), fun h => F.out.2.2.2.2.2.2.2.1 (lst_old (by decide) h), fun h => F.out.2.2.2.2.2.2.2.2.1 (lst_old (by decide) h), fun h => F.out.2.2.2.2.2.2.2.2.2.1 (lst_old (by decide) h), fun _ => rfl, fun h => F.out.2.2.2.2.2.2.2.2.2.2.2.1 (lst_old (by decide) h), fun h => F.out.2.2.2.2.2.2.2.2.2.2.2.2.1 (lst_old (by decide) h), fun h => F.out.2.2.2.2.2.2.2.2.2.2.2.2.2.1 (lst_old (by decide) h), fun h => ⟨(F.out.2.2.2.2.2.2.2.2.2.2.2.2.2.2 (lst_old (by decide) h)).1, lst_keep (F.out.2.2.2.2.2.2.2.2.2.2.2.2.2.2 (lst_old (by decide) h)).2.1, lst_keep (F.out.2.2.2.2.2.2.2.2.2.2.2.2.2.2 (lst_old (by decide) h)).2.2.1, lst_keep (F.out.2.2.2.2.2.2.2.2.2.2.2.2.2.2 (lst_old (by decide) h)).2.2.2⟩⟩
    · clear him
      have p10 := F.out.2.2.2.2.2.2.2.2.2.2.1 (ready_needs hi (by kernel_rfl))
      subst p10
      have hxx := hx.below hb
      obtain ⟨y0, y1, y2, y3⟩ := hxx
      have HI := Lib.hid hi
      clear hi
      refine wpOp_step (o := _) rfl (fun K' hK => ?_)
      have HK := Lib.hid hK
      clear hK
      go_simp
      try simp only [Act.put, List.setIfInBounds_toArray, List.set_cons_zero, List.set_cons_succ]
      refine HK.out _ _ ⟨_, _, _, _, _, _, _, _, _, _, _, _, _, _, _, rfl, hb, fun h => F.out.1 (lst_old (by decide) h), fun h => F.out.2.1 (lst_old (by decide) h), fun h => F.out.2.2.1 (lst_old (by decide) h), fun h => F.out.2.2.2.1 (lst_old (by decide) h), fun h => F.out.2.2.2.2.1 (lst_old (by decide) h), fun h => F.out.2.2.2.2.2.1 (lst_old (by decide) h), fun h => F.out.2.2.2.2.2.2.1 (lst_old (by decide) h), fun h => F.out.2.2.2.2.2.2.2.1 (lst_old (by decide) h), fun h => F.out.2.2.2.2.2.2.2.2.1 (lst_old (by decide) h), fun h => F.out.2.2.2.2.2.2.2.2.2.1 (lst_old (by decide) h), fun h => F.out.2.2.2.2.2.2.2.2.2.2.1 (lst_old (by decide) h), fun _ => rfl, fun h => F.out.2.2.2.2.2.2.2.2.2.2.2.2.1 (lst_old (by decide) h), fun h => F.out.2.2.2.2.2.2.2.2.2.2.2.2.2.1 (lst_old (by decide) h), fun h => ⟨(F.out.2.2.2.2.2.2.2.2.2.2.2.2.2.2 (lst_old (by decide) h)).1, lst_keep (F.out.2.2.2.2.2.2.2.2.2.2.2.2.2.2 (lst_old (by decide) h)).2.1, lst_keep (F.out.2.2.2.2.2.2.2.2.2.2.2.2.2.2 (lst_old (by decide) h)).2.2.1, lst_keep (F.out.2.2.2.2.2.2.2.2.2.2.2.2.2.2 (lst_old (by decide) h)).2.2.2⟩⟩
    · clear him
      have p11 := F.out.2.2.2.2.2.2.2.2.2.2.2.1 (ready_needs hi (by kernel_rfl))
      subst p11
      have HI := Lib.hid hi
      clear hi
      refine wpOp_step (o := _) rfl (fun K' hK => ?_)
      have HK := Lib.hid hK
      clear hK
      go_simp
      try simp only [Act.put, List.setIfInBounds_toArray, List.set_cons_zero, List.set_cons_succ]
      refine HK.out _ _ ⟨_, _, _, _, _, _, _, _, _, _, _, _, _, _, _, rfl, (hb.alloc hb.size _), fun h => F.out.1 (lst_old (by decide) h), fun h => F.out.2.1 (lst_old (by decide) h), fun h => F.out.2.2.1 (lst_old (by decide) h), fun h => F.out.2.2.2.1 (lst_old (by decide) h), fun h => Cl.below (F.out.2.2.2.2.1 (lst_old (by decide) h)) ((Below.refl _ W).alloc (Nat.le_refl _) _), fun h => own_below (F.out.2.2.2.2.2.1 (lst_old (by decide) h)) ((Below.refl _ W).alloc (Nat.le_refl _) _), fun h => F.out.2.2.2.2.2.2.1 (lst_old (by decide) h), fun h => F.out.2.2.2.2.2.2.2.1 (lst_old (by decide) h), fun h => Cl.below (F.out.2.2.2.2.2.2.2.2.1 (lst_old (by decide) h)) ((Below.refl _ W).alloc (Nat.le_refl _) _), fun h => own_below (F.out.2.2.2.2.2.2.2.2.2.1 (lst_old (by decide) h)) ((Below.refl _ W).alloc (Nat.le_refl _) _), fun h => F.out.2.2.2.2.2.2.2.2.2.2.1 (lst_old (by decide) h), fun h => F.out.2.2.2.2.2.2.2.2.2.2.2.1 (lst_old (by decide) h), fun _ => Cl.new W [.slice s0 sn sc] 22 1 rfl, fun h => own_below (F.out.2.2.2.2.2.2.2.2.2.2.2.2.2.1 (lst_old (by decide) h)) ((Below.refl _ W).alloc (Nat.le_refl _) _), fun h => ⟨(F.out.2.2.2.2.2.2.2.2.2.2.2.2.2.2 (lst_old (by decide) h)).1, lst_keep (F.out.2.2.2.2.2.2.2.2.2.2.2.2.2.2 (lst_old (by decide) h)).2.1, lst_keep (F.out.2.2.2.2.2.2.2.2.2.2.2.2.2.2 (lst_old (by decide) h)).2.2.1, lst_keep (F.out.2.2.2.2.2.2.2.2.2.2.2.2.2.2 (lst_old (by decide) h)).2.2.2⟩⟩
    · clear him
      have p12 := F.out.2.2.2.2.2.2.2.2.2.2.2.2.1 (ready_needs hi (by kernel_rfl))
      have P12 := Lib.hid p12
      clear p12
      have HI := Lib.hid hi
      clear hi
      refine wpOp_step (o := _) rfl (fun K' hK => ?_)
      have HK := Lib.hid hK
      clear hK
      go_simp
      refine (gl1_t P12.out (HS.out.below hb) (by omega)).mono ?_
      rintro r W2 ⟨x, rfl, hown, hb2⟩
      try simp only []
      refine HK.out _ _ ⟨_, _, _, _, _, _, _, _, _, _, _, _, _, _, _, rfl, (hb.trans (hb2.mono hb.size)), fun h => F.out.1 (lst_old (by decide) h), fun h => F.out.2.1 (lst_old (by decide) h), fun h => F.out.2.2.1 (lst_old (by decide) h), fun h => F.out.2.2.2.1 (lst_old (by decide) h), fun h => Cl.below (F.out.2.2.2.2.1 (lst_old (by decide) h)) hb2, fun h => own_below (F.out.2.2.2.2.2.1 (lst_old (by decide) h)) hb2, fun h => F.out.2.2.2.2.2.2.1 (lst_old (by decide) h), fun h => F.out.2.2.2.2.2.2.2.1 (lst_old (by decide) h), fun h => Cl.below (F.out.2.2.2.2.2.2.2.2.1 (lst_old (by decide) h)) hb2, fun h => own_below (F.out.2.2.2.2.2.2.2.2.2.1 (lst_old (by decide) h)) hb2, fun h => F.out.2.2.2.2.2.2.2.2.2.2.1 (lst_old (by decide) h), fun h => F.out.2.2.2.2.2.2.2.2.2.2.2.1 (lst_old (by decide) h), fun h => Cl.below (F.out.2.2.2.2.2.2.2.2.2.2.2.2.1 (lst_old (by decide) h)) hb2, fun _ => own_mono hown hb.size, fun h => absurd (F.out.2.2.2.2.2.2.2.2.2.2.2.2.2.2 (lst_old (by decide) h)).2.2.2 (ready_not HI.out)⟩
    · clear him
      have p1 := F.out.2.1 (ready_needs hi (by kernel_rfl))
      have p5 := F.out.2.2.2.2.2.1 (ready_needs hi (by kernel_rfl))
      have p9 := F.out.2.2.2.2.2.2.2.2.2.1 (ready_needs hi (by kernel_rfl))
      have p13 := F.out.2.2.2.2.2.2.2.2.2.2.2.2.2.1 (ready_needs hi (by kernel_rfl))
      subst p1
      obtain ⟨a5, c5, h5⟩ := own_slice p5
      subst h5
      have P5 := Lib.hid p5
      clear p5
      obtain ⟨a9, c9, h9⟩ := own_slice p9
      subst h9
      have P9 := Lib.hid p9
      clear p9
      obtain ⟨a13, c13, h13⟩ := own_slice p13
      subst h13
      have P13 := Lib.hid p13
      clear p13
      have HI := Lib.hid hi
      clear hi
      refine wpOp_step (o := _) rfl (fun K' hK => ?_)
      have HK := Lib.hid hK
      clear hK
      go_simp
      try simp only [Act.put, List.setIfInBounds_toArray, List.set_cons_zero, List.set_cons_succ]
      refine HK.out _ _ ⟨_, _, _, _, _, _, _, _, _, _, _, _, _, _, _, rfl, hb, fun h => F.out.1 (lst_old (by decide) h), fun h => F.out.2.1 (lst_old (by decide) h), fun h => F.out.2.2.1 (lst_old (by decide) h), fun h => F.out.2.2.2.1 (lst_old (by decide) h), fun h => F.out.2.2.2.2.1 (lst_old (by decide) h), fun h => F.out.2.2.2.2.2.1 (lst_old (by decide) h), fun h => F.out.2.2.2.2.2.2.1 (lst_old (by decide) h), fun h => F.out.2.2.2.2.2.2.2.1 (lst_old (by decide) h), fun h => F.out.2.2.2.2.2.2.2.2.1 (lst_old (by decide) h), fun h => F.out.2.2.2.2.2.2.2.2.2.1 (lst_old (by decide) h), fun h => F.out.2.2.2.2.2.2.2.2.2.2.1 (lst_old (by decide) h), fun h => F.out.2.2.2.2.2.2.2.2.2.2.2.1 (lst_old (by decide) h), fun h => F.out.2.2.2.2.2.2.2.2.2.2.2.2.1 (lst_old (by decide) h), fun h => F.out.2.2.2.2.2.2.2.2.2.2.2.2.2.1 (lst_old (by decide) h), fun _ => ⟨rfl, lst_keep (ready_needs HI.out (by kernel_rfl)), lst_keep (ready_needs HI.out (by kernel_rfl)), lst_keep (ready_needs HI.out (by kernel_rfl))⟩⟩
  case fin =>
    intro f a W hI
    obtain ⟨v3, v4, v5, v6, v7, v8, v9, v10, v11, v12, v13, v14, v15, v16, v17, rfl, hb, hf⟩ := hI
    have p0 := hf.1 rfl
    have p1 := hf.2.1 rfl
    have p2 := hf.2.2.1 rfl
    have p3 := hf.2.2.2.1 rfl
    have p4 := hf.2.2.2.2.1 rfl
    have p5 := hf.2.2.2.2.2.1 rfl
    have p6 := hf.2.2.2.2.2.2.1 rfl
    have p7 := hf.2.2.2.2.2.2.2.1 rfl
    have p8 := hf.2.2.2.2.2.2.2.2.1 rfl
    have p9 := hf.2.2.2.2.2.2.2.2.2.1 rfl
    have p10 := hf.2.2.2.2.2.2.2.2.2.2.1 rfl
    have p11 := hf.2.2.2.2.2.2.2.2.2.2.2.1 rfl
    have p12 := hf.2.2.2.2.2.2.2.2.2.2.2.2.1 rfl
    have p13 := hf.2.2.2.2.2.2.2.2.2.2.2.2.2.1 rfl
    have p14 := hf.2.2.2.2.2.2.2.2.2.2.2.2.2.2 rfl
    clear hf
    subst p0
    subst p1
    subst p2
    subst p3
    clear p4
    obtain ⟨a5, c5, h5⟩ := own_slice p5
    subst h5
    have P5 := Lib.hid p5
    clear p5
    subst p6
    subst p7
    clear p8
    obtain ⟨a9, c9, h9⟩ := own_slice p9
    subst h9
    have P9 := Lib.hid p9
    clear p9
    subst p10
    subst p11
    clear p12
    obtain ⟨a13, c13, h13⟩ := own_slice p13
    subst h13
    have P13 := Lib.hid p13
    clear p13
    replace p14 := p14.1
    subst p14
    refine wpAny_all (rs := [15]) (by kernel_rfl) (by simp) ?_
    intro i hi
    obtain rfl := List.mem_singleton.1 hi
    obtain ⟨z0a, z0b, z0c, z0d, hz0⟩ := HZB.out.below hb
    have c00 : World.cell? (W) ⟨w.heap.size + 1, 0, none⟩ = some z0a := by rw [blk_cell hz0]; rfl
    have f00 := blk_free hz0 0
    have hz00 := blk_set hz0 0 (.bool l)
    have c01 : World.cell? (World.setCell (W) ⟨w.heap.size + 1, 0, none⟩ (.bool l)) ⟨w.heap.size + 1, 1, none⟩ = some z0b := by rw [blk_cell hz00]; rfl
    have f01 := blk_free hz00 1
    have hz01 := blk_set hz00 1 (.slice a5 es.length c5)
    have c02 : World.cell? (World.setCell (World.setCell (W) ⟨w.heap.size + 1, 0, none⟩ (.bool l)) ⟨w.heap.size + 1, 1, none⟩ (.slice a5 es.length c5)) ⟨w.heap.size + 1, 2, none⟩ = some z0c := by rw [blk_cell hz01]; rfl
    have f02 := blk_free hz01 2
    have hz02 := blk_set hz01 2 (.slice a9 ks.length c9)
    have c03 : World.cell? (World.setCell (World.setCell (World.setCell (W) ⟨w.heap.size + 1, 0, none⟩ (.bool l)) ⟨w.heap.size + 1, 1, none⟩ (.slice a5 es.length c5)) ⟨w.heap.size + 1, 2, none⟩ (.slice a9 ks.length c9)) ⟨w.heap.size + 1, 3, none⟩ = some z0d := by rw [blk_cell hz02]; rfl
    have f03 := blk_free hz02 3
    have hz03 := blk_set hz02 3 (.slice a13 ss.length c13)
    have HZ0 := Lib.hid hz03
    clear hz0 hz00 hz01 hz02 hz03
    refine wpOp_step (o := _) rfl (fun K' hK => ?_)
    have HKK := Lib.hid hK
    clear hK
    go_simp
    refine HKK.out _ _ (wpAny_done (by kernel_rfl) ?_ _)
    have hon : Only (w.heap.size + 1) W (World.setCell (World.setCell (World.setCell (World.setCell (W) ⟨w.heap.size + 1, 0, none⟩ (.bool l)) ⟨w.heap.size + 1, 1, none⟩ (.slice a5 es.length c5)) ⟨w.heap.size + 1, 2, none⟩ (.slice a9 ks.length c9)) ⟨w.heap.size + 1, 3, none⟩ (.slice a13 ss.length c13)) := (((Only.set _ _ _).trans (Only.set _ _ _)).trans (Only.set _ _ _)).trans (Only.set _ _ _)
    obtain ⟨W4, hW4⟩ : ∃ X, World.setCell (World.setCell (World.setCell (World.setCell (W) ⟨w.heap.size + 1, 0, none⟩ (.bool l)) ⟨w.heap.size + 1, 1, none⟩ (.slice a5 es.length c5)) ⟨w.heap.size + 1, 2, none⟩ (.slice a9 ks.length c9)) ⟨w.heap.size + 1, 3, none⟩ (.slice a13 ss.length c13) = X := ⟨_, rfl⟩
    rw [hW4] at HZ0 hon ⊢
    clear hW4
    have hb4 : Below w.heap.size w W4 := (hb1.trans (hb.mono hb1.size)).trans (hon.to_below (by omega) (Nat.le_trans hb1.size hb.size))
    have hbx : Bx W4 (w.heap.size + 1) l (.slice a5 es.length c5) (.slice a9 ks.length c9) (.slice a13 ss.length c13) := ⟨by rw [blk_cell HZ0.out]; rfl, by rw [blk_cell HZ0.out]; rfl, by rw [blk_cell HZ0.out]; rfl, by rw [blk_cell HZ0.out]; rfl⟩
    have hlt : w.heap.size + 1 < w1.heap.size := by rw [HZ1.out]; omega
    have O1 := Lib.hid (own_mono (own_only' P5.out hon hlt) hb1.size)
    have O2 := Lib.hid (own_mono (own_only' P9.out hon hlt) hb1.size)
    have O3 := Lib.hid (own_mono (own_only' P13.out hon hlt) hb1.size)
    go_wp2
    refine bodyPost_ret (res_one rfl rfl (load69 hbx)) rfl ?_
    exact ⟨_, rfl, ⟨_, _, _, _, _, _, rfl, O1.out, O2.out, O3.out⟩, hb4⟩
end Go.Proofs.Ytifdglehfhoecaa.N
