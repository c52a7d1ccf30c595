/-
  What is written is read again; what is read, written again, is just those bytes: the plain law of the numbers and texts. Conditions: none. No walk.
-/
import Derived.Test.YtifdglehfhoecaaLawOrder
namespace Go.Proofs.Ytifdglehfhoecaa.C
open Go.RowKit B
theorem be_fold (l : List UInt8) : ∀ n : Nat, l.foldl (fun n c => n * 256 + c.toNat) n = n * 256 ^ l.length + be l := by
  induction l with
  | nil => intro n; simp [be]
  | cons c l ih =>
    intro n
    have h0 : be (c :: l) = c.toNat * 256 ^ l.length + be l := by
      have := ih (0 * 256 + c.toNat)
      rw [Nat.zero_mul, Nat.zero_add] at this
      rw [be, List.foldl_cons, Nat.zero_mul, Nat.zero_add]; exact this
    rw [List.foldl_cons, ih, h0, List.length_cons, Nat.pow_succ, Nat.add_mul, Nat.add_assoc, Nat.mul_assoc, Nat.mul_comm 256]
theorem be_cons (c : UInt8) (l : List UInt8) : be (c :: l) = c.toNat * 256 ^ l.length + be l := by
  rw [be, List.foldl_cons, be_fold]; simp
theorem be_pb (Z : Nat) : ∀ N : Nat, be (pb Z N) = N % 256 ^ Z := by
  induction Z with
  | zero => intro N; simp [pb, pbF, be, Nat.mod_one]
  | succ Z ih =>
    intro N
    have h1 := Nat.mod_mul (x := N) (a := 256 ^ Z) (b := 256)
    have h2 : 256 ^ (Z + 1) = 256 ^ Z * 256 := Nat.pow_succ _ _
    rw [pb_cons, be_cons, pb_len, ih, UInt8.toNat_ofNat', h2, h1, Nat.mul_comm, Nat.add_comm]
theorem pb_be (l : List UInt8) : pb l.length (be l) = l := by
  induction l with
  | nil => rfl
  | cons c l ih =>
    have hP : 0 < 256 ^ l.length := Nat.pow_pos (by omega)
    have hl := be_lt l
    rw [List.length_cons, pb_cons, be_cons, ← pb_mod l.length]
    have e1 : (c.toNat * 256 ^ l.length + be l) / 256 ^ l.length = c.toNat := by
      rw [Nat.add_comm, Nat.add_mul_div_right _ _ hP, Nat.div_eq_of_lt hl, Nat.zero_add]
    have e2 : (c.toNat * 256 ^ l.length + be l) % 256 ^ l.length = be l := by
      rw [Nat.add_comm, Nat.add_mul_mod_self_right, Nat.mod_eq_of_lt hl]
    rw [e1, e2, ih]
    congr 1
    apply UInt8.toNat_inj.1
    rw [UInt8.toNat_ofNat']
    have := c.toNat_lt
    omega
theorem bytesE_zero {s : ByteArray} {e n : Int} : bytesE s e n = 0 ↔ e = 0 ∧ 0 ≤ n ∧ n ≤ s.size := by
  unfold bytesE failE
  by_cases he : e = 0
  · rw [if_pos he]
    by_cases h1 : n < 0
    · rw [if_pos h1]; omega
    · rw [if_neg h1]
      by_cases h2 : (s.size : Int) < n
      · rw [if_pos h2]; omega
      · rw [if_neg h2]; omega
  · rw [if_neg he]; omega
theorem bytesO_ok {s : ByteArray} {n : Nat} (h : n ≤ s.size) : bytesE s 0 n = 0 ∧ bts (bytesO s 0 n) = (bts s).take n ∧ bts (bytesS s 0 n) = (bts s).drop n := by
  have hE : bytesE s 0 n = 0 := bytesE_zero.2 ⟨rfl, by omega, by omega⟩
  refine ⟨hE, ?_, ?_⟩
  · rw [bytesO, if_pos hE, bts_extract, List.drop_zero]; rfl
  · rw [bytesS, if_pos hE, bts_extract, List.take_of_length_le (by rw [bts_len]; omega)]; rfl
theorem failE_zero {e k : Int} (hk : k ≠ 0) : failE e k ≠ 0 := by unfold failE; split <;> omega
theorem intE_zero {s : ByteArray} {e z : Int} : intE s e z = 0 ↔ szd z ∧ e = 0 ∧ z ≤ s.size := by
  unfold intE
  by_cases h : szd z
  · rw [if_pos h, bytesE_zero]; unfold szd at *; omega
  · rw [if_neg h]; exact ⟨fun h' => absurd h' (failE_zero (by omega)), fun h' => absurd h'.1 h⟩
theorem int_ok {s : ByteArray} {Z : Nat} (hz : szd (Z : Int)) (h : Z ≤ s.size) : intE s 0 Z = 0 ∧ intO s 0 Z = be ((bts s).take Z) ∧ bts (intS s 0 Z) = (bts s).drop Z := by
  obtain ⟨h1, h2, h3⟩ := bytesO_ok h
  refine ⟨?_, ?_, ?_⟩
  · rw [intE, if_pos hz, h1]
  · rw [intO, if_pos hz, h2]
  · rw [intS, if_pos hz, h3]
theorem szd1 : szd ((1 : Nat) : Int) := .inl rfl
/-- a text that is read: one byte tells its length -/
theorem text_zero {s : ByteArray} {e : Int} (h : textE s e = 0) : e = 0 ∧ ∃ (c : UInt8) (r : List UInt8), bts s = c :: r ∧ c.toNat ≤ r.length ∧ bts (textO s e) = r.take c.toNat ∧ bts (textS s e) = r.drop c.toNat := by
  unfold textE at h
  obtain ⟨h1, h2, h3⟩ := bytesE_zero.1 h
  obtain ⟨_, h4, h5⟩ := intE_zero.1 h1
  subst h4
  refine ⟨rfl, ?_⟩
  obtain ⟨i1, i2, i3⟩ := int_ok (s := s) szd1 (by omega)
  match hb : bts s with
  | [] => have := bts_len s; rw [hb] at this; simp at this; omega
  | c :: r =>
    have j1 : intE s 0 1 = 0 := i1
    have j2 : intO s 0 1 = c.toNat := by
      have : intO s 0 1 = be ((bts s).take 1) := i2
      rw [this, hb]; simp [be]
    have j3 : bts (intS s 0 1) = r := by
      have : bts (intS s 0 1) = (bts s).drop 1 := i3
      rw [this, hb]; rfl
    have k1 : (intS s 0 1).size = r.length := by rw [← bts_len, j3]
    have k2 : textN s 0 = (c.toNat : Int) := by rw [textN, j2]
    rw [k2, k1] at h3
    have hle : c.toNat ≤ (intS s 0 1).size := by omega
    obtain ⟨_, o2, o3⟩ := bytesO_ok hle
    refine ⟨c, r, rfl, by omega, ?_, ?_⟩
    · rw [textO, k2, j1, o2, j3]
    · rw [textS, k2, j1, o3, j3]
theorem text_ok' {s : ByteArray} {c : UInt8} {r : List UInt8} (hb : bts s = c :: r) (hc : c.toNat ≤ r.length) : textE s 0 = 0 ∧ bts (textO s 0) = r.take c.toNat ∧ bts (textS s 0) = r.drop c.toNat := by
  have hs : 1 ≤ s.size := by rw [← bts_len, hb]; simp
  obtain ⟨i1, i2, i3⟩ := int_ok (s := s) szd1 hs
  have j1 : intE s 0 1 = 0 := i1
  have j2 : intO s 0 1 = c.toNat := by
    have : intO s 0 1 = be ((bts s).take 1) := i2
    rw [this, hb]; simp [be]
  have j3 : bts (intS s 0 1) = r := by
    have : bts (intS s 0 1) = (bts s).drop 1 := i3
    rw [this, hb]; rfl
  have k1 : (intS s 0 1).size = r.length := by rw [← bts_len, j3]
  have k2 : textN s 0 = (c.toNat : Int) := by rw [textN, j2]
  obtain ⟨o1, o2, o3⟩ := bytesO_ok (s := intS s 0 1) (n := c.toNat) (by omega)
  refine ⟨?_, ?_, ?_⟩
  · rw [textE, k2, j1, o1]
  · rw [textO, k2, j1, o2, j3]
  · rw [textS, k2, j1, o3, j3]
theorem bts_tb (s : ByteArray) : bts (tb s) = UInt8.ofNat s.size :: bts s := rfl
theorem text_tb (s : ByteArray) (h : s.size ≤ 255) (x : ByteArray) (r : List UInt8) (hx : bts x = bts (tb s) ++ r) : textE x 0 = 0 ∧ textO x 0 = s ∧ bts (textS x 0) = r := by
  have e : (UInt8.ofNat s.size).toNat = s.size := by rw [UInt8.toNat_ofNat']; omega
  have hx' : bts x = UInt8.ofNat s.size :: (bts s ++ r) := by rw [hx, bts_tb]; rfl
  obtain ⟨h1, h2, h3⟩ := text_ok' hx' (by rw [e, List.length_append, bts_len]; omega)
  refine ⟨h1, bts_inj ?_, ?_⟩
  · rw [h2, e, List.take_append_of_le_length (by rw [bts_len]; omega), List.take_of_length_le (by rw [bts_len]; omega)]
  · rw [h3, e, List.drop_append_of_le_length (by rw [bts_len]; omega), List.drop_eq_nil_of_le (by rw [bts_len]; omega), List.nil_append]
/-- what is written is read again -/
theorem back_there (Z N : Nat) (s : ByteArray) (hz : szd (Z : Int)) (hN : N < 256 ^ Z) (hs : s.size ≤ 255) (x : ByteArray) (hx : x = cat [txt (pb Z N), tb s]) :
    intO x 0 Z = N ∧ intE x 0 Z = 0 ∧ textO (intS x 0 Z) 0 = s ∧ textE (intS x 0 Z) 0 = 0 ∧ textS (intS x 0 Z) 0 = ByteArray.empty := by
  have hb : bts x = pb Z N ++ bts (tb s) := by rw [hx, cat, bts_txt]; simp
  have hl : Z ≤ x.size := by rw [← bts_len, hb, List.length_append, pb_len]; omega
  obtain ⟨i1, i2, i3⟩ := int_ok hz hl
  rw [hb, List.take_append_of_le_length (by rw [pb_len]; omega), List.take_of_length_le (by rw [pb_len]; omega), be_pb, Nat.mod_eq_of_lt hN] at i2
  rw [hb, List.drop_append_of_le_length (by rw [pb_len]; omega), List.drop_eq_nil_of_le (by rw [pb_len]; omega), List.nil_append] at i3
  obtain ⟨t1, t2, t3⟩ := text_tb s hs (intS x 0 Z) [] (by rw [i3, List.append_nil])
  exact ⟨i2, i1, t2, t1, bts_inj t3⟩
/-- what is read, written again, is just those bytes -/
theorem back_again (z : Int) (b : ByteArray) (h : textE (intS b 0 z) (intE b 0 z) = 0) :
    ∃ Z M : Nat, z = (Z : Int) ∧ szd z ∧ M < 256 ^ Z ∧ intO b 0 z = M ∧ (textO (intS b 0 z) (intE b 0 z)).size ≤ 255 ∧ bts b = bts (cat [txt (pb Z M), tb (textO (intS b 0 z) (intE b 0 z))]) ++ bts (textS (intS b 0 z) (intE b 0 z)) := by
  obtain ⟨h1, c, r, h2, h3, h4, h5⟩ := text_zero h
  obtain ⟨hz, _, hl⟩ := intE_zero.1 h1
  obtain ⟨Z, rfl⟩ := Int.eq_ofNat_of_zero_le (show 0 ≤ z by unfold szd at hz; omega)
  obtain ⟨i1, i2, i3⟩ := int_ok (s := b) hz (by omega)
  have hlen : ((bts b).take Z).length = Z := by rw [List.length_take, bts_len]; omega
  have hM := be_lt ((bts b).take Z)
  rw [hlen] at hM
  have hc := c.toNat_lt
  have hsz : (textO (intS b 0 Z) (intE b 0 Z)).size = c.toNat := by rw [← bts_len, h4, List.length_take]; omega
  refine ⟨Z, be ((bts b).take Z), rfl, hz, hM, i2, by omega, ?_⟩
  have e1 : pb Z (be ((bts b).take Z)) = (bts b).take Z := by
    have := pb_be ((bts b).take Z)
    rwa [hlen] at this
  have e2 : UInt8.ofNat c.toNat = c := by simp
  rw [cat, bts_txt]
  simp only [List.flatMap_cons, List.flatMap_nil, List.append_nil, bts_txt]
  rw [e1, bts_tb, hsz, e2, h4, h5, List.append_assoc, List.cons_append, List.take_append_drop, ← h2, i3, List.take_append_drop]
end Go.Proofs.Ytifdglehfhoecaa.C
