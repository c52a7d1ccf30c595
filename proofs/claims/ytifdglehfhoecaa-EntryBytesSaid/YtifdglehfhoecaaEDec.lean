/-
  The list of bytes, as it is read. Conditions: below 2^30 bytes.
-/
import Derived.Test.YtifdglehfhoecaaEEnc
import Derived.Test.YtifdglehfhoecaaEDecMath
import Derived.Test.YtifdglehfhoecaaEPut
namespace Go.Proofs.Ytifdglehfhoecaa.E
open Go.RowKit B
/-- the list of which bytes are just that, if it is right -/
def Dr (b : List UInt8) (l : List Ent) (e : Int) : Prop := (e = 0 ∧ M.Dec b l ∧ M.Ok l) ∨ (e = 3 ∧ l = [] ∧ ∀ m, ¬ (M.Dec b m ∧ M.Ok m))
theorem dr_inj {b : List UInt8} {l m : List Ent} {e f : Int} (h : Dr b l e) (k : Dr b m f) : l = m ∧ e = f := by
  rcases h with ⟨h1, h2, h3⟩ | ⟨h1, h2, h3⟩ <;> rcases k with ⟨k1, k2, k3⟩ | ⟨k1, k2, k3⟩
  · exact ⟨M.dec_inj h2 k2, h1.trans k1.symm⟩
  · exact absurd ⟨h2, h3⟩ (k3 _)
  · exact absurd ⟨k2, k3⟩ (h3 _)
  · exact ⟨h2.trans k2.symm, h1.trans k1.symm⟩
theorem dr_enc {l : List Ent} (h : M.Ok l) : Dr (M.enc l) l 0 := .inl ⟨rfl, ⟨M.ok_fits h, rfl⟩, h⟩
/-- how far the reader is: what is read, or that nothing is there -/
def Rs (body s : List UInt8) (e : Int) (acc : List Ent) : Prop := (e = 0 ∧ M.Fits acc ∧ body = M.enc acc ++ s ∧ acc.length + s.length ≤ body.length) ∨ (e ≠ 0 ∧ ∀ m, ¬ M.Dec body m)
def lenV : Value → Nat
  | .slice _ n _ => n
  | _ => 0
theorem lenV_own {w : World} {base : Nat} {e : TypeId} {size n : Nat} {v : Value} {cs : List Value} (h : w.ownsRow base e size v n cs) : lenV v = n := by
  obtain ⟨_, ⟨rfl, rfl⟩ | ⟨g, cap, cur, rfl, _⟩⟩ := h <;> rfl
theorem rs_next {body : ByteArray} {s : ByteArray} {acc : List Ent} (h : Rs (bts body) (bts s) 0 acc) (h0 : 0 < s.size) :
    Rs (bts body) (bts (C.textS (C.textS s 0) (C.textE s 0))) (C.textE (C.textS s 0) (C.textE s 0)) (acc ++ [(C.textO s 0, C.textO (C.textS s 0) (C.textE s 0))]) ∧ acc.length + 1 ≤ body.size := by
  rcases h with ⟨_, hf, hb, hl⟩ | ⟨h, _⟩
  case inr => exact absurd rfl h
  have hsl : (bts s).length = s.size := bts_len s
  have hbl : (bts body).length = body.size := bts_len body
  have hne : bts s ≠ [] := fun e => by rw [e] at hsl; simp at hsl; omega
  refine ⟨?_, by omega⟩
  rcases C.text_or s with ⟨h1, h2, h3⟩ | ⟨h1, h2⟩
  · rw [h1]
    rcases C.text_or (C.textS s 0) with ⟨k1, k2, k3⟩ | ⟨k1, k2⟩
    · left
      refine ⟨k1, M.fits_snoc hf h2 k2, ?_, ?_⟩
      · rw [M.enc_snoc2, hb, h3, k3]; simp
      · have e1 := congrArg List.length h3
        have e2 := congrArg List.length k3
        rw [List.length_append, M.tbl_len] at e1 e2
        rw [List.length_append]
        simp only [List.length_cons, List.length_nil]
        omega
    · right
      refine ⟨k1, M.no_dec hf hb hne fun k v r hk hv he => ?_⟩
      rw [h3] at he
      obtain ⟨_, e2⟩ := M.tbl_inj h2 hk he
      exact k2 v r hv e2
  · right
    refine ⟨by rw [C.textE_ne h1]; exact h1, M.no_dec hf hb hne fun k v r hk hv he => h2 k _ hk he⟩
theorem rs_end {body s : ByteArray} {e : Int} {acc : List Ent} (h : Rs (bts body) (bts s) e acc) (hz : s.size = 0 ∨ e ≠ 0) : (C.endE s e = 0 ∧ M.Dec (bts body) acc) ∨ (C.endE s e ≠ 0 ∧ ∀ m, ¬ M.Dec (bts body) m) := by
  rcases h with ⟨h1, h2, h3, h4⟩ | ⟨h1, h2⟩
  · have hs : s.size = 0 := hz.resolve_right (fun h => h h1)
    left
    have hn : bts s = [] := List.eq_nil_of_length_eq_zero ((bts_len s).trans hs)
    refine ⟨by unfold C.endE; rw [if_pos hs, h1], h2, ?_⟩
    rw [h3, hn, List.append_nil]
  · right
    refine ⟨?_, h2⟩
    unfold C.endE C.failE
    split <;> first | exact h1 | (rw [if_neg h1]; exact h1)
def Dcd (b : List UInt8) (w : World) (r : Ending) (w' : World) : Prop := ∃ u l e, r = .returned (.tuple #[u, .int .i64 e]) ∧ Ents w' u l ∧ Dr b l e ∧ Below w.heap.size w w'
theorem own_only {w w' : World} {g base size n : Nat} {e : TypeId} {v : Value} {cs : List Value} (h : w.ownsRow base e size v n cs) (ho : Only g w w') (hg : g < base) : w'.ownsRow base e size v n cs :=
  h.kept ho (.inr fun he => by have := (h.lt g he).1; omega)
theorem rd_grown {w w' : World} {a base size n : Nat} {t : TypeId} {v : Value} {cs : List Value} {s : ByteArray} {e : Int} (h : C.Rd w a s e) (ho : w.ownsRow base t size v n cs) (hg : w.grownBy w' v.ownBlock) (ha : a < base) : C.Rd w' a s e := by
  unfold C.Rd
  rw [hg.block a h.lt fun he => by have := (ho.lt a he.symm).1; omega]
  exact h
set_option maxRecDepth 100000 in
set_option maxHeartbeats 2000000 in
theorem decode_any (body : ByteArray) (w : World) (hb : body.size ≤ 1000000000) : Calls Try.prog 49 #[.string body] w (Dcd (bts body) w) := by
  obtain ⟨i0, hi, hz0, hz1, hz2⟩ := info_parts info49
  go_enter Try.func49, Try.ntmps49
  go_wp2_with fail
  refine (C.read_any body _).mono ?_
  rintro r w1 ⟨rfl, hr1, hb1⟩
  have HR1 := Lib.hid hr1
  have hlt1 := hr1.lt
  clear hr1
  go_wp2
  go_loopw [5] (fun u wr => ∃ (s : ByteArray) (e : Int) (acc : List Ent), C.Rd wr w.heap.size s e ∧ wr.ownsRow w1.heap.size 49 2 u acc.length (ecs acc) ∧ Rs (bts body) (bts s) e acc ∧ acc.length ≤ body.size ∧ Below w.heap.size w wr ∧ w1.heap.size ≤ wr.heap.size) (fun u _ => body.size - lenV u)
  case atStart => exact ⟨body, 0, [], HR1.out, World.ownsRow_nil _ _ _ _, .inl ⟨rfl, fun e h => by simp at h, rfl, by simp⟩, Nat.zero_le _, hb1, Nat.le_refl _⟩
  case round =>
    obtain ⟨s, e, acc, hr, hown, hrs, hal, hbw, hsz⟩ := hrel
    have HR := Lib.hid hr; have HO := Lib.hid hown; have HRS := Lib.hid hrs
    clear hr hown hrs
    by_cases hgo : 0 < s.size ∧ e = 0
    · obtain ⟨h0, rfl⟩ := hgo
      obtain ⟨hnx, hacc⟩ := rs_next HRS.out h0
      have ht1 := fun W h => C.text_any w.heap.size s 0 W h
      obtain ⟨s1, hs1⟩ : ∃ x, C.textS s 0 = x := ⟨_, rfl⟩
      obtain ⟨e1, he1⟩ : ∃ x, C.textE s 0 = x := ⟨_, rfl⟩
      obtain ⟨k, hk⟩ : ∃ x, C.textO s 0 = x := ⟨_, rfl⟩
      rw [hs1, he1, hk] at hnx ht1
      have ht2 := fun W h => C.text_any w.heap.size s1 e1 W h
      obtain ⟨s2, hs2⟩ : ∃ x, C.textS s1 e1 = x := ⟨_, rfl⟩
      obtain ⟨e2, he2⟩ : ∃ x, C.textE s1 e1 = x := ⟨_, rfl⟩
      obtain ⟨v, hv⟩ : ∃ x, C.textO s1 e1 = x := ⟨_, rfl⟩
      rw [hs2, he2, hv] at hnx ht2
      have HNX := Lib.hid hnx; have HT1 := Lib.hid ht1; have HT2 := Lib.hid ht2
      have HLV := Lib.hid (lenV_own HO.out)
      clear hnx ht1 ht2 hs1 he1 hk hs2 he2 hv
      have hs0 : (0 : Int) < (s.size : Int) := by omega
      go_wp2_with fail
      refine (C.left_any _ s 0 _ HR.out).mono ?_
      rintro r w2 ⟨rfl, hw⟩
      subst hw
      go_wp2_with fail
      refine (C.err_any _ s 0 _ HR.out).mono ?_
      rintro r w2 ⟨rfl, hw⟩
      subst hw
      go_wp2_with fail
      refine (HT1.out _ HR.out).mono ?_
      rintro r w2 ⟨rfl, hr2, ho2⟩
      have HR2 := Lib.hid hr2
      have HO2 := Lib.hid (own_only HO.out ho2 hlt1)
      have hb2 := hbw.trans (ho2.to_below (Nat.le_refl _) hbw.size)
      have hz2' := Nat.le_trans hsz ho2.size
      clear hr2 ho2 hbw hsz
      go_wp2_with fail
      refine (HT2.out _ HR2.out).mono ?_
      rintro r w3 ⟨rfl, hr3, ho3⟩
      have HR3 := Lib.hid hr3
      have HO3 := Lib.hid (own_only HO2.out ho3 hlt1)
      have hb3 := hb2.trans (ho3.to_below (Nat.le_refl _) hb2.size)
      have hz3' := Nat.le_trans hz2' ho3.size
      clear hr3 ho3 hb2 hz2' hs0
      go_wp2_with (at_builtin; go_loud (refine wpList_append_row rfl _ _ 43 rfl w1.heap.size 49 i0 _ 2 32 Try.underlying43 hi hz0 hz1 hz2 rfl (by decide) _ acc.length (ecs acc) rfl (HO3.out.alloc _) (.slice (some ⟨w3.heap.size, 0, none⟩) 1 1) rfl 1 (ecs [((k, v) : Ent)]) (new_one w3 (k, v) 49) (ecs_one _) (by unfold maxLen; omega) (by omega) (by (try simp); omega) ?_))
      intro v' w4 hown4 hg
      have HR4 := Lib.hid (rd_grown (HR3.out.below ((Below.refl _ w3).alloc (Nat.le_refl _) _)) (HO3.out.alloc _) hg hlt1)
      have hb4 : Below w.heap.size w w4 := (hb3.alloc hb3.size _).grown hg (by have := hb3.size; simp; omega) (fun g hg => by have := (HO3.out.lt g hg).1; omega)
      have hz4 : w1.heap.size ≤ w4.heap.size := by have := hg.size; simp at this; omega
      rw [← ecs_append] at hown4
      have HO4 := Lib.hid (show w4.ownsRow w1.heap.size 49 2 v' (acc ++ [((k, v) : Ent)]).length (ecs (acc ++ [((k, v) : Ent)])) by rw [List.length_append]; exact hown4)
      have HLV4 := Lib.hid (lenV_own HO4.out)
      clear hown4 hg hb3 hz3'
      go_wp2
      go_roundw
      case rel => exact ⟨s2, e2, _, HR4.out, HO4.out, HNX.out, by rw [List.length_append]; exact hacc, hb4, hz4⟩
      case measure => rw [HLV.out, HLV4.out, List.length_append]; simp only [List.length_cons, List.length_nil]; omega
    · have hz : s.size = 0 ∨ e ≠ 0 := by omega
      have hen := rs_end HRS.out hz
      have HE := Lib.hid (C.end_any w.heap.size s e wr HR.out)
      have HEN := Lib.hid hen
      have HENTS := Lib.hid (show Ents wr _ acc from Rw.own HO.out)
      clear hen
      obtain ⟨E, hE⟩ : ∃ x, C.endE s e = x := ⟨_, rfl⟩
      rw [hE] at HE HEN
      clear hE
      rcases Nat.eq_zero_or_pos s.size with h0 | h0
      · clear hz hgo
        go_wp2_with fail
        refine (C.left_any _ s e _ HR.out).mono ?_
        rintro r w2 ⟨rfl, hw⟩
        subst hw
        go_wp2_with fail
        refine (HE.out).mono ?_
        rintro r w5 ⟨rfl, hb5⟩
        have HENTS := Lib.hid (HENTS.out.below hb5)
        have hb5 := hbw.trans (hb5.mono hbw.size)
        clear hbw
        by_cases hE0 : E = 0
        · have hdec := HEN.out.resolve_right (fun h => h.1 hE0)
          subst hE0
          have HDEC := Lib.hid hdec.2
          clear hdec
          by_cases hok : M.Ok acc
          · go_wp2_with fail
            refine (right_any _ acc _ HENTS.out (by omega)).mono ?_
            rintro r w6 ⟨rfl, hb6⟩
            rw [decide_eq_true hok]
            have HR := Lib.hid (show Dr (bts body) acc 0 from .inl ⟨rfl, HDEC.out, hok⟩)
            have HENTS := Lib.hid (HENTS.out.below hb6)
            have hb6 := hb5.trans (hb6.mono hb5.size)
            clear hok hb5
            go_wp2
            go_ret2
            exact ⟨_, acc, 0, rfl, HENTS.out, HR.out, hb6⟩
          · go_wp2_with fail
            refine (right_any _ acc _ HENTS.out (by omega)).mono ?_
            rintro r w6 ⟨rfl, hb6⟩
            rw [decide_eq_false hok]
            have HR := Lib.hid (show Dr (bts body) [] 3 from .inr ⟨rfl, rfl, fun m hm => hok (M.dec_inj hm.1 HDEC.out ▸ hm.2)⟩)
            have hb6 := hb5.trans (hb6.mono hb5.size)
            clear hok hb5
            go_wp2
            go_ret2
            exact ⟨_, [], 3, rfl, Rw.nil _ 2, HR.out, hb6⟩
        · have hno := (HEN.out.resolve_left (fun h => hE0 h.1)).2
          have HR := Lib.hid (show Dr (bts body) [] 3 from .inr ⟨rfl, rfl, fun m hm => hno m hm.1⟩)
          have hEb : (E == 0) = false := beq_eq_false_iff_ne.2 hE0
          have hEc : (E != 0) = true := by rw [bne, hEb]; rfl
          clear hE0 hno
          go_wp2
          go_ret2
          exact ⟨_, [], 3, rfl, Rw.nil _ 2, HR.out, hb5⟩
      · have hs0 : (0 : Int) < (s.size : Int) := by omega
        have he0 : (e == 0) = false := beq_eq_false_iff_ne.2 (hz.resolve_left (by omega))
        clear h0 hz hgo
        go_wp2_with fail
        refine (C.left_any _ s e _ HR.out).mono ?_
        rintro r w2 ⟨rfl, hw⟩
        subst hw
        go_wp2_with fail
        refine (C.err_any _ s e _ HR.out).mono ?_
        rintro r w2 ⟨rfl, hw⟩
        subst hw
        go_wp2_with fail
        refine (HE.out).mono ?_
        rintro r w5 ⟨rfl, hb5⟩
        have HENTS := Lib.hid (HENTS.out.below hb5)
        have hb5 := hbw.trans (hb5.mono hbw.size)
        clear hbw
        by_cases hE0 : E = 0
        · have hdec := HEN.out.resolve_right (fun h => h.1 hE0)
          subst hE0
          have HDEC := Lib.hid hdec.2
          clear hdec
          by_cases hok : M.Ok acc
          · go_wp2_with fail
            refine (right_any _ acc _ HENTS.out (by omega)).mono ?_
            rintro r w6 ⟨rfl, hb6⟩
            rw [decide_eq_true hok]
            have HR := Lib.hid (show Dr (bts body) acc 0 from .inl ⟨rfl, HDEC.out, hok⟩)
            have HENTS := Lib.hid (HENTS.out.below hb6)
            have hb6 := hb5.trans (hb6.mono hb5.size)
            clear hok hb5
            go_wp2
            go_ret2
            exact ⟨_, acc, 0, rfl, HENTS.out, HR.out, hb6⟩
          · go_wp2_with fail
            refine (right_any _ acc _ HENTS.out (by omega)).mono ?_
            rintro r w6 ⟨rfl, hb6⟩
            rw [decide_eq_false hok]
            have HR := Lib.hid (show Dr (bts body) [] 3 from .inr ⟨rfl, rfl, fun m hm => hok (M.dec_inj hm.1 HDEC.out ▸ hm.2)⟩)
            have hb6 := hb5.trans (hb6.mono hb5.size)
            clear hok hb5
            go_wp2
            go_ret2
            exact ⟨_, [], 3, rfl, Rw.nil _ 2, HR.out, hb6⟩
        · have hno := (HEN.out.resolve_left (fun h => hE0 h.1)).2
          have HR := Lib.hid (show Dr (bts body) [] 3 from .inr ⟨rfl, rfl, fun m hm => hno m hm.1⟩)
          have hEb : (E == 0) = false := beq_eq_false_iff_ne.2 hE0
          have hEc : (E != 0) = true := by rw [bne, hEb]; rfl
          clear hE0 hno
          go_wp2
          go_ret2
          exact ⟨_, [], 3, rfl, Rw.nil _ 2, HR.out, hb5⟩
end Go.Proofs.Ytifdglehfhoecaa.E
