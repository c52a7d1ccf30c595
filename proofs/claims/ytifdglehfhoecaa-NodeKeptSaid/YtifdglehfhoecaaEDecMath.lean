/-
  Reading texts with their lengths ahead, as plain lists, and what the reader's next text is. Conditions: none. No walk is here.
-/
import Derived.Test.YtifdglehfhoecaaEMath
import Derived.Test.YtifdglehfhoecaaInt
namespace Go.Proofs.Ytifdglehfhoecaa.M
theorem enc_prefix : ∀ {a l : List Ent} {r : List UInt8}, Fits a → Fits l → enc l = enc a ++ r → ∃ l', l = a ++ l' ∧ enc l' = r ∧ Fits l'
  | [], l, r, _, hl, h => ⟨l, rfl, by simpa [enc] using h, hl⟩
  | e :: a, [], r, _, _, h => by rw [enc_cons] at h; simp [enc, tbl] at h
  | e :: a, f :: l, r, ha, hl, h => by
    rw [enc_cons, enc_cons, List.append_assoc, List.append_assoc] at h
    obtain ⟨h1, h2⟩ := tbl_inj (hl f (by simp)).1 (ha e (by simp)).1 h
    obtain ⟨h3, h4⟩ := tbl_inj (hl f (by simp)).2 (ha e (by simp)).2 h2
    obtain ⟨l', h5, h6, h7⟩ := enc_prefix (a := a) (l := l) (r := r) (fun x hx => ha x (by simp [hx])) (fun x hx => hl x (by simp [hx])) h4
    exact ⟨l', by rw [h5, List.cons_append]; congr 1; exact Prod.ext h1 h3, h6, h7⟩
/-- what is left is no entry -/
theorem no_dec {body s : List UInt8} {acc : List Ent} (ha : Fits acc) (hb : body = enc acc ++ s) (hs : s ≠ []) (hn : ∀ k v r, k.size ≤ 255 → v.size ≤ 255 → s ≠ tbl k ++ (tbl v ++ r)) : ∀ l, ¬ Dec body l := by
  rintro l ⟨h1, h2⟩
  obtain ⟨l', h3, h4, h5⟩ := enc_prefix ha h1 (h2.trans hb)
  rcases l' with _ | ⟨e, l'⟩
  · exact hs (by rw [← h4]; rfl)
  · rw [enc_cons] at h4
    exact hn e.1 e.2 _ (h5 e (by simp)).1 (h5 e (by simp)).2 h4.symm
theorem fits_snoc {a : List Ent} {k v : ByteArray} (h : Fits a) (hk : k.size ≤ 255) (hv : v.size ≤ 255) : Fits (a ++ [(k, v)]) := fun e he => by
  rcases List.mem_append.1 he with he | he
  · exact h e he
  · rw [List.mem_singleton.1 he]; exact ⟨hk, hv⟩
theorem enc_snoc2 (a : List Ent) (k v : ByteArray) : enc (a ++ [(k, v)]) = enc a ++ (tbl k ++ tbl v) := by rw [enc_append]; simp [enc]
end Go.Proofs.Ytifdglehfhoecaa.M
namespace Go.Proofs.Ytifdglehfhoecaa.C
open Go.RowKit B
theorem be_one (c : UInt8) : be [c] = c.toNat := by simp [be]
theorem len_pos_of {s : ByteArray} {c : UInt8} {t : List UInt8} (h : bts s = c :: t) : s.size = t.length + 1 := by rw [← bts_len, h]; rfl
theorem b1_yes {s : ByteArray} {c : UInt8} {t : List UInt8} (h : bts s = c :: t) : bytesE s 0 1 = 0 ∧ bts (bytesO s 0 1) = [c] ∧ bts (bytesS s 0 1) = t := by
  have hl := len_pos_of h
  have h0 : bytesE s 0 1 = 0 := by
    unfold bytesE failE
    rw [if_pos rfl, if_neg (by omega), if_neg (by omega)]
  refine ⟨h0, ?_, ?_⟩
  · rw [bytesO, if_pos h0, bts_extract, h]; rfl
  · rw [bytesS, if_pos h0, bts_extract, h]
    show List.drop 1 (List.take s.size (c :: t)) = t
    rw [hl, List.take_succ_cons, List.take_length]; rfl
theorem i1_yes {s : ByteArray} {c : UInt8} {t : List UInt8} (h : bts s = c :: t) : intE s 0 1 = 0 ∧ intO s 0 1 = c.toNat ∧ bts (intS s 0 1) = t := by
  have hz : szd 1 := .inl rfl
  obtain ⟨h1, h2, h3⟩ := b1_yes h
  exact ⟨by rw [intE, if_pos hz, h1], by rw [intO, if_pos hz, h2, be_one], by rw [intS, if_pos hz, h3]⟩
theorem i1_no {s : ByteArray} (h : s.size = 0) : intE s 0 1 ≠ 0 := by
  have hz : szd 1 := .inl rfl
  rw [intE, if_pos hz]
  unfold bytesE failE
  rw [if_pos rfl, if_neg (by omega), if_pos (by omega)]
  omega
theorem bytesE_ne {s : ByteArray} {e n : Int} (h : e ≠ 0) : bytesE s e n = e := by unfold bytesE failE; rw [if_neg h]
theorem intE_ne {s : ByteArray} {e : Int} (h : e ≠ 0) : intE s e 1 = e := by rw [intE, if_pos (.inl rfl), bytesE_ne h]
theorem textE_ne {s : ByteArray} {e : Int} (h : e ≠ 0) : textE s e = e := by unfold textE; rw [intE_ne h, bytesE_ne h]
/-- the next text is there -/
theorem text_yes {s : ByteArray} {c : UInt8} {t : List UInt8} (h : bts s = c :: t) (hn : c.toNat ≤ t.length) : textE s 0 = 0 ∧ (textO s 0).size = c.toNat ∧ bts s = M.tbl (textO s 0) ++ bts (textS s 0) := by
  obtain ⟨h1, h2, h3⟩ := i1_yes h
  have hl : (intS s 0 1).size = t.length := by rw [← bts_len, h3]
  have h0 : bytesE (intS s 0 1) 0 (c.toNat : Nat) = 0 := by
    unfold bytesE failE
    rw [if_pos rfl, if_neg (by omega), if_neg (by omega)]
  have hO : bts (textO s 0) = t.take c.toNat := by
    unfold textO textN
    rw [h1, h2, bytesO, if_pos h0, bts_extract, h3]; rfl
  have hS : bts (textS s 0) = t.drop c.toNat := by
    unfold textS textN
    rw [h1, h2, bytesS, if_pos h0, bts_extract, h3, hl, List.take_length]; rfl
  have hz : (textO s 0).size = c.toNat := by rw [← bts_len, hO, List.length_take]; omega
  refine ⟨by unfold textE textN; rw [h1, h2, h0], hz, ?_⟩
  have e1 : M.bt (textO s 0) = t.take c.toNat := hO
  rw [M.tbl, hz, e1, hS, h, List.cons_append, List.take_append_drop, UInt8.ofNat_toNat]
/-- no text is there -/
theorem text_no {s : ByteArray} (h : ∀ k r, k.size ≤ 255 → bts s ≠ M.tbl k ++ r) : textE s 0 ≠ 0 := by
  rcases hs : bts s with _ | ⟨c, t⟩
  · have : s.size = 0 := by rw [← bts_len, hs]; rfl
    have h1 := i1_no this
    unfold textE
    rw [bytesE_ne h1]; exact h1
  · obtain ⟨h1, h2, h3⟩ := i1_yes hs
    have hl : (intS s 0 1).size = t.length := by rw [← bts_len, h3]
    by_cases hn : c.toNat ≤ t.length
    · obtain ⟨_, h5, h6⟩ := text_yes hs hn
      have := c.toNat_lt
      exact absurd h6 (h _ _ (by omega))
    · unfold textE textN
      rw [h1, h2]
      unfold bytesE failE
      rw [if_pos rfl, if_neg (by omega), if_pos (by omega)]
      omega
/-- the next text is there, or is not -/
theorem text_or (s : ByteArray) : (textE s 0 = 0 ∧ (textO s 0).size ≤ 255 ∧ bts s = M.tbl (textO s 0) ++ bts (textS s 0)) ∨ (textE s 0 ≠ 0 ∧ ∀ k r, k.size ≤ 255 → bts s ≠ M.tbl k ++ r) := by
  by_cases h : ∀ k r, k.size ≤ 255 → bts s ≠ M.tbl k ++ r
  · exact .inr ⟨text_no h, h⟩
  · left
    rcases hs : bts s with _ | ⟨c, t⟩
    · exact absurd (fun k r _ => by rw [hs]; simp [M.tbl]) h
    · by_cases hn : c.toNat ≤ t.length
      · obtain ⟨h1, h2, h3⟩ := text_yes hs hn
        have := c.toNat_lt
        exact ⟨h1, by omega, by rw [← hs]; exact h3⟩
      · refine absurd (fun k r hk => ?_) h
        rw [hs, M.tbl, List.cons_append]
        intro he
        rw [List.cons.injEq] at he
        obtain ⟨e1, e2⟩ := he
        apply hn
        have h1 : c.toNat = k.size := by rw [e1, UInt8.toNat_ofNat']; omega
        rw [h1, e2, List.length_append]
        have := M.bt_len k
        omega
end Go.Proofs.Ytifdglehfhoecaa.C
