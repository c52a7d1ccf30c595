/-
  Texts of this proof, merged: CodecLaw, NMath, NBase, NGlue, NOf, ECheck, EFind, ESize, EPut, EHalf, ERef. What each says stands at its head.
-/
import Derived.Deep.QuietTactic
import Derived.BigQuiet
import Derived.Deep.RegionHeld3
import Derived.Deep.DeepCutAuto
import Derived.Outline
import Derived.IntWalk
import Derived.Test.YtifdglehfhoecaaMc1
/-
  What is written is read again; what is read, written again, is just those bytes: the plain law of the numbers and texts. Conditions: none. No walk.
-/
namespace Go.Proofs.Ytifdglehfhoecaa.C
open Go.RowKit B
theorem be_fold (l : List UInt8) : ∀ n : Nat, l.foldl (fun n c => n * 256 + c.toNat) n = n * 256 ^ l.length + be l := by
  induction l with
  | nil => intro n; simp [be]
  | cons c l ih =>
    intro n
    have h0 : be (c :: l) = c.toNat * 256 ^ l.length + be l := by
      have := ih (0 * 256 + c.toNat)
      rw [Nat.zero_mul, Nat.zero_add] at this
      rw [be, List.foldl_cons, Nat.zero_mul, Nat.zero_add]; exact this
    rw [List.foldl_cons, ih, h0, List.length_cons, Nat.pow_succ, Nat.add_mul, Nat.add_assoc, Nat.mul_assoc, Nat.mul_comm 256]
theorem be_cons (c : UInt8) (l : List UInt8) : be (c :: l) = c.toNat * 256 ^ l.length + be l := by
  rw [be, List.foldl_cons, be_fold]; simp
theorem be_pb (Z : Nat) : ∀ N : Nat, be (pb Z N) = N % 256 ^ Z := by
  induction Z with
  | zero => intro N; simp [pb, pbF, be, Nat.mod_one]
  | succ Z ih =>
    intro N
    have h1 := Nat.mod_mul (x := N) (a := 256 ^ Z) (b := 256)
    have h2 : 256 ^ (Z + 1) = 256 ^ Z * 256 := Nat.pow_succ _ _
    rw [pb_cons, be_cons, pb_len, ih, UInt8.toNat_ofNat', h2, h1, Nat.mul_comm, Nat.add_comm]
theorem pb_be (l : List UInt8) : pb l.length (be l) = l := by
  induction l with
  | nil => rfl
  | cons c l ih =>
    have hP : 0 < 256 ^ l.length := Nat.pow_pos (by omega)
    have hl := be_lt l
    rw [List.length_cons, pb_cons, be_cons, ← pb_mod l.length]
    have e1 : (c.toNat * 256 ^ l.length + be l) / 256 ^ l.length = c.toNat := by
      rw [Nat.add_comm, Nat.add_mul_div_right _ _ hP, Nat.div_eq_of_lt hl, Nat.zero_add]
    have e2 : (c.toNat * 256 ^ l.length + be l) % 256 ^ l.length = be l := by
      rw [Nat.add_comm, Nat.add_mul_mod_self_right, Nat.mod_eq_of_lt hl]
    rw [e1, e2, ih]
    congr 1
    apply UInt8.toNat_inj.1
    rw [UInt8.toNat_ofNat']
    have := c.toNat_lt
    omega
theorem bytesE_zero {s : ByteArray} {e n : Int} : bytesE s e n = 0 ↔ e = 0 ∧ 0 ≤ n ∧ n ≤ s.size := by
  unfold bytesE failE
  by_cases he : e = 0
  · rw [if_pos he]
    by_cases h1 : n < 0
    · rw [if_pos h1]; omega
    · rw [if_neg h1]
      by_cases h2 : (s.size : Int) < n
      · rw [if_pos h2]; omega
      · rw [if_neg h2]; omega
  · rw [if_neg he]; omega
theorem bytesO_ok {s : ByteArray} {n : Nat} (h : n ≤ s.size) : bytesE s 0 n = 0 ∧ bts (bytesO s 0 n) = (bts s).take n ∧ bts (bytesS s 0 n) = (bts s).drop n := by
  have hE : bytesE s 0 n = 0 := bytesE_zero.2 ⟨rfl, by omega, by omega⟩
  refine ⟨hE, ?_, ?_⟩
  · rw [bytesO, if_pos hE, bts_extract, List.drop_zero]; rfl
  · rw [bytesS, if_pos hE, bts_extract, List.take_of_length_le (by rw [bts_len]; omega)]; rfl
theorem failE_zero {e k : Int} (hk : k ≠ 0) : failE e k ≠ 0 := by unfold failE; split <;> omega
theorem intE_zero {s : ByteArray} {e z : Int} : intE s e z = 0 ↔ szd z ∧ e = 0 ∧ z ≤ s.size := by
  unfold intE
  by_cases h : szd z
  · rw [if_pos h, bytesE_zero]; unfold szd at *; omega
  · rw [if_neg h]; exact ⟨fun h' => absurd h' (failE_zero (by omega)), fun h' => absurd h'.1 h⟩
theorem int_ok {s : ByteArray} {Z : Nat} (hz : szd (Z : Int)) (h : Z ≤ s.size) : intE s 0 Z = 0 ∧ intO s 0 Z = be ((bts s).take Z) ∧ bts (intS s 0 Z) = (bts s).drop Z := by
  obtain ⟨h1, h2, h3⟩ := bytesO_ok h
  refine ⟨?_, ?_, ?_⟩
  · rw [intE, if_pos hz, h1]
  · rw [intO, if_pos hz, h2]
  · rw [intS, if_pos hz, h3]
theorem szd1 : szd ((1 : Nat) : Int) := .inl rfl
/-- a text that is read: one byte tells its length -/
theorem text_zero {s : ByteArray} {e : Int} (h : textE s e = 0) : e = 0 ∧ ∃ (c : UInt8) (r : List UInt8), bts s = c :: r ∧ c.toNat ≤ r.length ∧ bts (textO s e) = r.take c.toNat ∧ bts (textS s e) = r.drop c.toNat := by
  unfold textE at h
  obtain ⟨h1, h2, h3⟩ := bytesE_zero.1 h
  obtain ⟨_, h4, h5⟩ := intE_zero.1 h1
  subst h4
  refine ⟨rfl, ?_⟩
  obtain ⟨i1, i2, i3⟩ := int_ok (s := s) szd1 (by omega)
  match hb : bts s with
  | [] => have := bts_len s; rw [hb] at this; simp at this; omega
  | c :: r =>
    have j1 : intE s 0 1 = 0 := i1
    have j2 : intO s 0 1 = c.toNat := by
      have : intO s 0 1 = be ((bts s).take 1) := i2
      rw [this, hb]; simp [be]
    have j3 : bts (intS s 0 1) = r := by
      have : bts (intS s 0 1) = (bts s).drop 1 := i3
      rw [this, hb]; rfl
    have k1 : (intS s 0 1).size = r.length := by rw [← bts_len, j3]
    have k2 : textN s 0 = (c.toNat : Int) := by rw [textN, j2]
    rw [k2, k1] at h3
    have hle : c.toNat ≤ (intS s 0 1).size := by omega
    obtain ⟨_, o2, o3⟩ := bytesO_ok hle
    refine ⟨c, r, rfl, by omega, ?_, ?_⟩
    · rw [textO, k2, j1, o2, j3]
    · rw [textS, k2, j1, o3, j3]
theorem text_ok' {s : ByteArray} {c : UInt8} {r : List UInt8} (hb : bts s = c :: r) (hc : c.toNat ≤ r.length) : textE s 0 = 0 ∧ bts (textO s 0) = r.take c.toNat ∧ bts (textS s 0) = r.drop c.toNat := by
  have hs : 1 ≤ s.size := by rw [← bts_len, hb]; simp
  obtain ⟨i1, i2, i3⟩ := int_ok (s := s) szd1 hs
  have j1 : intE s 0 1 = 0 := i1
  have j2 : intO s 0 1 = c.toNat := by
    have : intO s 0 1 = be ((bts s).take 1) := i2
    rw [this, hb]; simp [be]
  have j3 : bts (intS s 0 1) = r := by
    have : bts (intS s 0 1) = (bts s).drop 1 := i3
    rw [this, hb]; rfl
  have k1 : (intS s 0 1).size = r.length := by rw [← bts_len, j3]
  have k2 : textN s 0 = (c.toNat : Int) := by rw [textN, j2]
  obtain ⟨o1, o2, o3⟩ := bytesO_ok (s := intS s 0 1) (n := c.toNat) (by omega)
  refine ⟨?_, ?_, ?_⟩
  · rw [textE, k2, j1, o1]
  · rw [textO, k2, j1, o2, j3]
  · rw [textS, k2, j1, o3, j3]
theorem bts_tb (s : ByteArray) : bts (tb s) = UInt8.ofNat s.size :: bts s := rfl
theorem text_tb (s : ByteArray) (h : s.size ≤ 255) (x : ByteArray) (r : List UInt8) (hx : bts x = bts (tb s) ++ r) : textE x 0 = 0 ∧ textO x 0 = s ∧ bts (textS x 0) = r := by
  have e : (UInt8.ofNat s.size).toNat = s.size := by rw [UInt8.toNat_ofNat']; omega
  have hx' : bts x = UInt8.ofNat s.size :: (bts s ++ r) := by rw [hx, bts_tb]; rfl
  obtain ⟨h1, h2, h3⟩ := text_ok' hx' (by rw [e, List.length_append, bts_len]; omega)
  refine ⟨h1, bts_inj ?_, ?_⟩
  · rw [h2, e, List.take_append_of_le_length (by rw [bts_len]; omega), List.take_of_length_le (by rw [bts_len]; omega)]
  · rw [h3, e, List.drop_append_of_le_length (by rw [bts_len]; omega), List.drop_eq_nil_of_le (by rw [bts_len]; omega), List.nil_append]
/-- what is written is read again -/
theorem back_there (Z N : Nat) (s : ByteArray) (hz : szd (Z : Int)) (hN : N < 256 ^ Z) (hs : s.size ≤ 255) (x : ByteArray) (hx : x = cat [txt (pb Z N), tb s]) :
    intO x 0 Z = N ∧ intE x 0 Z = 0 ∧ textO (intS x 0 Z) 0 = s ∧ textE (intS x 0 Z) 0 = 0 ∧ textS (intS x 0 Z) 0 = ByteArray.empty := by
  have hb : bts x = pb Z N ++ bts (tb s) := by rw [hx, cat, bts_txt]; simp
  have hl : Z ≤ x.size := by rw [← bts_len, hb, List.length_append, pb_len]; omega
  obtain ⟨i1, i2, i3⟩ := int_ok hz hl
  rw [hb, List.take_append_of_le_length (by rw [pb_len]; omega), List.take_of_length_le (by rw [pb_len]; omega), be_pb, Nat.mod_eq_of_lt hN] at i2
  rw [hb, List.drop_append_of_le_length (by rw [pb_len]; omega), List.drop_eq_nil_of_le (by rw [pb_len]; omega), List.nil_append] at i3
  obtain ⟨t1, t2, t3⟩ := text_tb s hs (intS x 0 Z) [] (by rw [i3, List.append_nil])
  exact ⟨i2, i1, t2, t1, bts_inj t3⟩
/-- what is read, written again, is just those bytes -/
theorem back_again (z : Int) (b : ByteArray) (h : textE (intS b 0 z) (intE b 0 z) = 0) :
    ∃ Z M : Nat, z = (Z : Int) ∧ szd z ∧ M < 256 ^ Z ∧ intO b 0 z = M ∧ (textO (intS b 0 z) (intE b 0 z)).size ≤ 255 ∧ bts b = bts (cat [txt (pb Z M), tb (textO (intS b 0 z) (intE b 0 z))]) ++ bts (textS (intS b 0 z) (intE b 0 z)) := by
  obtain ⟨h1, c, r, h2, h3, h4, h5⟩ := text_zero h
  obtain ⟨hz, _, hl⟩ := intE_zero.1 h1
  obtain ⟨Z, rfl⟩ := Int.eq_ofNat_of_zero_le (show 0 ≤ z by unfold szd at hz; omega)
  obtain ⟨i1, i2, i3⟩ := int_ok (s := b) hz (by omega)
  have hlen : ((bts b).take Z).length = Z := by rw [List.length_take, bts_len]; omega
  have hM := be_lt ((bts b).take Z)
  rw [hlen] at hM
  have hc := c.toNat_lt
  have hsz : (textO (intS b 0 Z) (intE b 0 Z)).size = c.toNat := by rw [← bts_len, h4, List.length_take]; omega
  refine ⟨Z, be ((bts b).take Z), rfl, hz, hM, i2, by omega, ?_⟩
  have e1 : pb Z (be ((bts b).take Z)) = (bts b).take Z := by
    have := pb_be ((bts b).take Z)
    rwa [hlen] at this
  have e2 : UInt8.ofNat c.toNat = c := by simp
  rw [cat, bts_txt]
  simp only [List.flatMap_cons, List.flatMap_nil, List.append_nil, bts_txt]
  rw [e1, bts_tb, hsz, e2, h4, h5, List.append_assoc, List.cons_append, List.take_append_drop, ← h2, i3, List.take_append_drop]
end Go.Proofs.Ytifdglehfhoecaa.C

/-
  Nodes as plain lists: what may be, how many bytes, the bytes, reading them back. Conditions: none. No walk is here.
-/
namespace Go.Proofs.Ytifdglehfhoecaa.M
structure Nd where
  leaf : Bool
  es : List Ent
  ks : List Int
  ss : List ByteArray
theorem nd_ext {a b : Nd} (h1 : a.leaf = b.leaf) (h2 : a.es = b.es) (h3 : a.ks = b.ks) (h4 : a.ss = b.ss) : a = b := by
  cases a; cases b; simp_all
instance : DecidableEq Nd := fun a b =>
  if h1 : a.leaf = b.leaf then if h2 : a.es = b.es then if h3 : a.ks = b.ks then if h4 : a.ss = b.ss then isTrue (nd_ext h1 h2 h3 h4)
    else isFalse (fun e => h4 (by rw [e])) else isFalse (fun e => h3 (by rw [e])) else isFalse (fun e => h2 (by rw [e])) else isFalse (fun e => h1 (by rw [e]))
/-- keys alone, as entries without a value -/
def asE (ss : List ByteArray) : List Ent := ss.map fun s => (s, ByteArray.empty)
def Oks (ss : List ByteArray) : Prop := Ok (asE ss)
def okk (k : Int) : Prop := 2 ≤ k ∧ k ≤ 4294967295
instance (k : Int) : Decidable (okk k) := by unfold okk; exact inferInstance
def Okk (ks : List Int) : Prop := ∀ k ∈ ks, okk k
instance (l : List ByteArray) : Decidable (Oks l) := by unfold Oks; exact inferInstance
instance (l : List Int) : Decidable (Okk l) := by unfold Okk; exact inferInstance
def NOk (n : Nd) : Prop := (n.leaf = true → Ok n.es ∧ n.ks = [] ∧ n.ss = []) ∧ (n.leaf = false → n.es = [] ∧ n.ss.length + 1 = n.ks.length ∧ Okk n.ks ∧ Oks n.ss)
instance (n : Nd) : Decidable (NOk n) := by unfold NOk; exact inferInstance
theorem asE_len (ss : List ByteArray) : (asE ss).length = ss.length := by simp [asE]
theorem asE_take (ss : List ByteArray) (k : Nat) : asE (ss.take k) = (asE ss).take k := by simp [asE, List.map_take]
theorem asE_get (ss : List ByteArray) (k : Nat) (h : k < ss.length) : (asE ss)[k]'(by rw [asE_len]; exact h) = (ss[k], ByteArray.empty) := by simp [asE]
theorem oks_nil : Oks [] := ⟨fun e h => by simp [asE] at h, List.Pairwise.nil⟩
theorem oks_take_succ {ss : List ByteArray} {k : Nat} (h : k < ss.length) : Oks (ss.take (k + 1)) ↔ Oks (ss.take k) ∧ may ss[k] ByteArray.empty ∧ (0 < k → klt (ss[k - 1]'(by omega)) ss[k]) := by
  unfold Oks
  rw [asE_take, asE_take, ok_take_succ (by rw [asE_len]; exact h)]
  rw [asE_get ss k h]
  constructor
  · rintro ⟨h1, h2, h3⟩
    refine ⟨h1, h2, fun h0 => ?_⟩
    have := h3 h0
    rwa [asE_get ss (k - 1) (by omega)] at this
  · rintro ⟨h1, h2, h3⟩
    refine ⟨h1, h2, fun h0 => ?_⟩
    rw [asE_get ss (k - 1) (by omega)]
    exact h3 h0
theorem oks_take {ss : List ByteArray} (h : Oks ss) (k : Nat) : Oks (ss.take k) := by
  unfold Oks; rw [asE_take]; exact ok_take h k
theorem oks_drop {ss : List ByteArray} (h : Oks ss) (k : Nat) : Oks (ss.drop k) := by
  unfold Oks
  have : asE (ss.drop k) = (asE ss).drop k := by simp [asE, List.map_drop]
  rw [this]
  exact ⟨fun e he => h.1 e (List.mem_of_mem_drop he), List.Pairwise.drop h.2⟩
theorem ok_drop {l : List Ent} (h : Ok l) (k : Nat) : Ok (l.drop k) := ⟨fun e he => h.1 e (List.mem_of_mem_drop he), List.Pairwise.drop h.2⟩
theorem oks_mem {ss : List ByteArray} (h : Oks ss) : ∀ s ∈ ss, 1 ≤ s.size ∧ s.size ≤ 16 := fun s hs => by
  have := h.1 (s, ByteArray.empty) (by simp [asE]; exact hs)
  unfold may at this
  simp only at this
  omega
theorem oks_lt {ss : List ByteArray} (h : Oks ss) {i j : Nat} (hi : i < j) (hj : j < ss.length) : klt (ss[i]'(by omega)) ss[j] := by
  have := asc_lt h.2 hi (by rw [asE_len]; exact hj)
  rwa [asE_get ss i (by omega), asE_get ss j hj] at this
/-- how many bytes keys and numbers take -/
def szs (ss : List ByteArray) : Nat := (ss.map fun s => 5 + s.size).sum
theorem szs_append (a b : List ByteArray) : szs (a ++ b) = szs a + szs b := by simp [szs]
theorem szs_snoc (ss : List ByteArray) (k : Nat) (h : k < ss.length) : szs (ss.take (k + 1)) = szs (ss.take k) + (5 + ss[k].size) := by
  rw [List.take_succ_eq_append_getElem h, szs_append]; simp only [szs, List.map_cons, List.map_nil, List.sum_cons, List.sum_nil]; omega
theorem szs_take_le (ss : List ByteArray) (k : Nat) : szs (ss.take k) ≤ szs ss := by
  have h := List.take_append_drop k ss
  have : szs ss = szs (ss.take k) + szs (ss.drop k) := by
    conv => lhs; rw [← h]
    exact szs_append _ _
  omega
def nsz (n : Nd) : Nat := if n.leaf = true then sz n.es else 4 + szs n.ss
/-- a number's four bytes -/
def p4 (k : Int) : List UInt8 := C.pb 4 k.toNat
def f4 (k : Int) : Prop := 0 ≤ k ∧ k < 4294967296
theorem p4_len (k : Int) : (p4 k).length = 4 := C.pb_len 4 _
theorem p4_inj {k l : Int} (hk : f4 k) (hl : f4 l) (h : p4 k = p4 l) : k = l := by
  unfold f4 at hk hl
  have := C.pb_inj 4 k.toNat l.toNat (by omega) (by omega) h
  omega
theorem p4_be (l : List UInt8) (h : l.length = 4) : p4 (C.be l : Nat) = l := by
  have := C.pb_be l
  rw [h] at this
  unfold p4
  rw [Int.toNat_natCast]
  exact this
theorem be_f4 (l : List UInt8) (h : l.length = 4) : f4 (C.be l : Nat) := by
  have := C.be_lt l
  rw [h] at this
  unfold f4
  omega
abbrev KV := ByteArray × Int
def encP (l : List KV) : List UInt8 := l.flatMap fun p => tbl p.1 ++ p4 p.2
def FitP (l : List KV) : Prop := ∀ p ∈ l, p.1.size ≤ 255 ∧ f4 p.2
theorem encP_cons (p : KV) (l : List KV) : encP (p :: l) = tbl p.1 ++ (p4 p.2 ++ encP l) := by simp [encP]
theorem encP_append (a b : List KV) : encP (a ++ b) = encP a ++ encP b := by simp [encP]
theorem encP_snoc2 (a : List KV) (k : ByteArray) (v : Int) : encP (a ++ [(k, v)]) = encP a ++ (tbl k ++ p4 v) := by rw [encP_append]; simp [encP]
theorem fitP_snoc {a : List KV} {k : ByteArray} {v : Int} (h : FitP a) (hk : k.size ≤ 255) (hv : f4 v) : FitP (a ++ [(k, v)]) := fun e he => by
  rcases List.mem_append.1 he with he | he
  · exact h e he
  · rw [List.mem_singleton.1 he]; exact ⟨hk, hv⟩
theorem encP_prefix : ∀ {a l : List KV} {r : List UInt8}, FitP a → FitP l → encP l = encP a ++ r → ∃ l', l = a ++ l' ∧ encP l' = r ∧ FitP l'
  | [], l, r, _, hl, h => ⟨l, rfl, by simpa [encP] using h, hl⟩
  | e :: a, [], r, _, _, h => by rw [encP_cons] at h; simp [encP, tbl] at h
  | e :: a, f :: l, r, ha, hl, h => by
    rw [encP_cons, encP_cons, List.append_assoc, List.append_assoc] at h
    obtain ⟨h1, h2⟩ := tbl_inj (hl f (by simp)).1 (ha e (by simp)).1 h
    obtain ⟨h3, h4⟩ := List.append_inj h2 (by rw [p4_len, p4_len])
    have h3' := p4_inj (hl f (by simp)).2 (ha e (by simp)).2 h3
    obtain ⟨l', h5, h6, h7⟩ := encP_prefix (a := a) (l := l) (r := r) (fun x hx => ha x (by simp [hx])) (fun x hx => hl x (by simp [hx])) h4
    exact ⟨l', by rw [h5, List.cons_append]; congr 1; exact Prod.ext h1 h3', h6, h7⟩
theorem encP_len (l : List KV) : (encP l).length = szs (l.map (·.1)) := by
  induction l with
  | nil => rfl
  | cons e l ih => rw [encP_cons, List.length_append, List.length_append, tbl_len, p4_len, ih]; simp [szs]; omega
/-- of which the bytes are just that: the first number, then keys with numbers -/
def DecP (b : List UInt8) (k : Int) (l : List KV) : Prop := f4 k ∧ FitP l ∧ b = p4 k ++ encP l
theorem decP_inj {b : List UInt8} {k k' : Int} {l l' : List KV} (h : DecP b k l) (h' : DecP b k' l') : k = k' ∧ l = l' := by
  obtain ⟨h1, h2, h3⟩ := h
  obtain ⟨k1, k2, k3⟩ := h'
  obtain ⟨e1, e2⟩ := List.append_inj (h3.symm.trans k3) (by rw [p4_len, p4_len])
  refine ⟨p4_inj h1 k1 e1, ?_⟩
  obtain ⟨r, r1, r2, _⟩ := encP_prefix (a := l') (l := l) (r := []) k2 h2 (by rw [List.append_nil]; exact e2)
  rcases r with _ | ⟨p, r⟩
  · rw [r1, List.append_nil]
  · rw [encP_cons] at r2; simp [tbl] at r2
theorem no_decP {b s : List UInt8} {k : Int} {acc : List KV} (_hk : f4 k) (ha : FitP acc) (hb : b = p4 k ++ (encP acc ++ s)) (hs : s ≠ []) (hn : ∀ (x : ByteArray) (q r : List UInt8), x.size ≤ 255 → q.length = 4 → s ≠ tbl x ++ (q ++ r)) : ∀ k' l, ¬ DecP b k' l := by
  rintro k' l ⟨h1, h2, h3⟩
  obtain ⟨_, e2⟩ := List.append_inj (h3.symm.trans hb) (by rw [p4_len, p4_len])
  obtain ⟨l', h4, h5, h6⟩ := encP_prefix ha h2 e2
  rcases l' with _ | ⟨p, l'⟩
  · exact hs (by rw [← h5]; rfl)
  · rw [encP_cons] at h5
    exact hn p.1 (p4 p.2) _ (h6 p (by simp)).1 (p4_len _) h5.symm
/-- a node of these -/
def mkI (k : Int) (l : List KV) : Nd := ⟨false, [], k :: l.map (·.2), l.map (·.1)⟩
def mkL (l : List Ent) : Nd := ⟨true, l, [], []⟩
theorem ok_leaf {n : Nd} (h : NOk n) (hl : n.leaf = true) : Ok n.es ∧ n = mkL n.es := by
  obtain ⟨h1, h2, h3⟩ := h.1 hl
  exact ⟨h1, nd_ext hl rfl h2 h3⟩
theorem ok_inner {n : Nd} (h : NOk n) (hl : n.leaf = false) : ∃ k l, n = mkI k l ∧ n.ks = k :: n.ks.tail ∧ l = n.ss.zip n.ks.tail := by
  obtain ⟨h1, h2, h3, h4⟩ := h.2 hl
  rcases hk : n.ks with _ | ⟨k, kr⟩
  · rw [hk] at h2; simp at h2
  · rw [hk] at h2
    have hlen : n.ss.length = kr.length := by simpa using h2
    refine ⟨k, n.ss.zip kr, nd_ext hl h1 ?_ ?_, rfl, rfl⟩
    · show n.ks = k :: (n.ss.zip kr).map (·.2)
      rw [hk]
      congr 1
      exact (List.map_snd_zip (by omega)).symm
    · show n.ss = (n.ss.zip kr).map (·.1)
      exact (List.map_fst_zip (by omega)).symm
theorem okI_fit {k : Int} {l : List KV} (h : NOk (mkI k l)) : f4 k ∧ FitP l := by
  obtain ⟨_, _, h3, h4⟩ := h.2 rfl
  refine ⟨?_, fun p hp => ⟨?_, ?_⟩⟩
  · have := h3 k (by simp [mkI]); unfold okk at this; unfold f4; omega
  · have := oks_mem h4 p.1 (List.mem_map.2 ⟨p, hp, rfl⟩); omega
  · have := h3 p.2 (by simp [mkI]; exact .inr ⟨p.1, hp⟩); unfold okk at this; unfold f4; omega
/-- a body -/
def bodyN (n : Nd) : List UInt8 := if n.leaf = true then enc n.es else p4 (n.ks.headD 0) ++ encP (n.ss.zip n.ks.tail)
theorem bodyL (l : List Ent) : bodyN (mkL l) = enc l := rfl
theorem zip_maps (l : List KV) : (l.map (·.1)).zip (l.map (·.2)) = l := by
  induction l with
  | nil => rfl
  | cons p l ih => simp [ih]
theorem bodyI (k : Int) (l : List KV) : bodyN (mkI k l) = p4 k ++ encP l := by
  show p4 k ++ encP ((l.map (·.1)).zip (l.map (·.2))) = _
  rw [zip_maps]
theorem body_len {n : Nd} (h : NOk n) : (bodyN n).length = nsz n := by
  rcases hl : n.leaf with _ | _
  · obtain ⟨k, l, e, _, _⟩ := ok_inner h hl
    rw [e, bodyI, List.length_append, p4_len, encP_len]; rfl
  · obtain ⟨_, e⟩ := ok_leaf h hl
    rw [e, bodyL, enc_len]; rfl
def kindN (n : Nd) : Int := if n.leaf = true then 1 else 2
/-- the node of a body -/
def DecN (kind : Int) (b : List UInt8) (n : Nd) : Prop := NOk n ∧ nsz n ≤ 240 ∧ bodyN n = b ∧ kindN n = kind
theorem decN_inj {kind : Int} {b : List UInt8} {n m : Nd} (h : DecN kind b n) (k : DecN kind b m) : n = m := by
  obtain ⟨h1, h2, h3, h4⟩ := h
  obtain ⟨k1, k2, k3, k4⟩ := k
  have hkk : n.leaf = m.leaf := by
    unfold kindN at h4 k4
    rcases hn : n.leaf with _ | _ <;> rcases hm : m.leaf with _ | _ <;> simp [hn] at h4 <;> simp [hm] at k4 <;> first | rfl | omega
  rcases hl : n.leaf with _ | _
  · obtain ⟨a, l, e, _, _⟩ := ok_inner h1 hl
    obtain ⟨a', l', e', _, _⟩ := ok_inner k1 (hkk.symm.trans hl)
    rw [e] at h1 h3
    rw [e'] at k1 k3
    obtain ⟨f1, f2⟩ := okI_fit h1
    obtain ⟨f3, f4⟩ := okI_fit k1
    rw [bodyI] at h3 k3
    obtain ⟨rfl, rfl⟩ := decP_inj ⟨f1, f2, h3.symm⟩ ⟨f3, f4, k3.symm⟩
    rw [e, e']
  · obtain ⟨o1, e⟩ := ok_leaf h1 hl
    obtain ⟨o2, e'⟩ := ok_leaf k1 (hkk.symm.trans hl)
    rw [e] at h3
    rw [e'] at k3
    rw [bodyL] at h3 k3
    rw [e, e', enc_inj (ok_fits o1) (ok_fits o2) (h3.trans k3.symm)]
end Go.Proofs.Ytifdglehfhoecaa.M

/-
  Slices of numbers and of texts, nodes as values. Conditions: none. No function of the program is named.
-/
namespace Go.Proofs.Ytifdglehfhoecaa.B
open Go.RowKit
def ics (l : List Int) : List Value := l.map (Value.int .i64 ·)
def tcs (l : List ByteArray) : List Value := l.map (Value.string ·)
theorem ics_len (l : List Int) : (ics l).length = l.length := by simp [ics]
theorem tcs_len (l : List ByteArray) : (tcs l).length = l.length := by simp [tcs]
theorem ics_append (a b : List Int) : ics (a ++ b) = ics a ++ ics b := by simp [ics]
theorem tcs_append (a b : List ByteArray) : tcs (a ++ b) = tcs a ++ tcs b := by simp [tcs]
theorem ics_one (l : List Int) : ∀ u ∈ ics l, u.oneCell' = true := by
  intro u hu
  simp only [ics, List.mem_map] at hu
  obtain ⟨e, _, rfl⟩ := hu; rfl
theorem tcs_one (l : List ByteArray) : ∀ u ∈ tcs l, u.oneCell' = true := by
  intro u hu
  simp only [tcs, List.mem_map] at hu
  obtain ⟨e, _, rfl⟩ := hu; rfl
/-- a slice of numbers, of texts -/
def Ints (w : World) (v : Value) (l : List Int) : Prop := Rw w v 1 (ics l) l.length
def Txts (w : World) (v : Value) (l : List ByteArray) : Prop := Rw w v 1 (tcs l) l.length
theorem Ints.below {w w' : World} {v : Value} {l : List Int} (h : Ints w v l) (hb : Below w.heap.size w w') : Ints w' v l := Rw.below h hb
theorem Txts.below {w w' : World} {v : Value} {l : List ByteArray} (h : Txts w v l) (hb : Below w.heap.size w w') : Txts w' v l := Rw.below h hb
theorem Ints.open {w : World} {v : Value} {l : List Int} (h : Ints w v l) : ∃ ao cap, v = .slice ao l.length cap ∧ l.length ≤ cap ∧ cap ≤ maxLen ∧
    ∀ j (_h : j < l.length), ∃ b o, ao = some ⟨b, o, none⟩ ∧ w.cell? ⟨b, o + j, none⟩ = some (.int .i64 l[j]) := by
  obtain ⟨ao, cap, rfl, h1, h2, h3, h⟩ := h
  refine ⟨ao, cap, rfl, h2, h3, fun j hj => ?_⟩
  obtain ⟨b, o, e, hc⟩ := h j (by rw [ics_len]; exact hj)
  exact ⟨b, o, e, by rw [hc]; simp [ics]⟩
theorem Txts.open {w : World} {v : Value} {l : List ByteArray} (h : Txts w v l) : ∃ ao cap, v = .slice ao l.length cap ∧ l.length ≤ cap ∧ cap ≤ maxLen ∧
    ∀ j (_h : j < l.length), ∃ b o, ao = some ⟨b, o, none⟩ ∧ w.cell? ⟨b, o + j, none⟩ = some (.string l[j]) := by
  obtain ⟨ao, cap, rfl, h1, h2, h3, h⟩ := h
  refine ⟨ao, cap, rfl, h2, h3, fun j hj => ?_⟩
  obtain ⟨b, o, e, hc⟩ := h j (by rw [tcs_len]; exact hj)
  exact ⟨b, o, e, by rw [hc]; simp [tcs]⟩
theorem Ints.close {w : World} {ao : Option Addr} {cap : Nat} {l : List Int} (h2 : l.length ≤ cap) (h3 : cap ≤ maxLen)
    (h : ∀ j (_h : j < l.length), ∃ b o, ao = some ⟨b, o, none⟩ ∧ w.cell? ⟨b, o + j, none⟩ = some (.int .i64 l[j])) : Ints w (.slice ao l.length cap) l := by
  refine ⟨ao, cap, rfl, by rw [ics_len]; omega, h2, h3, fun j hj => ?_⟩
  rw [ics_len] at hj
  obtain ⟨b, o, e, hc⟩ := h j hj
  exact ⟨b, o, e, by rw [hc]; simp [ics]⟩
theorem Txts.close {w : World} {ao : Option Addr} {cap : Nat} {l : List ByteArray} (h2 : l.length ≤ cap) (h3 : cap ≤ maxLen)
    (h : ∀ j (_h : j < l.length), ∃ b o, ao = some ⟨b, o, none⟩ ∧ w.cell? ⟨b, o + j, none⟩ = some (.string l[j])) : Txts w (.slice ao l.length cap) l := by
  refine ⟨ao, cap, rfl, by rw [tcs_len]; omega, h2, h3, fun j hj => ?_⟩
  rw [tcs_len] at hj
  obtain ⟨b, o, e, hc⟩ := h j hj
  exact ⟨b, o, e, by rw [hc]; simp [tcs]⟩
theorem ints_len {w : World} {v : Value} {l : List Int} (h : Ints w v l) : l.length ≤ 9223372036854775807 := by
  obtain ⟨_, cap, _, h1, h2, _⟩ := h.open
  have e : maxLen = 9223372036854775807 := by decide
  omega
theorem txts_len {w : World} {v : Value} {l : List ByteArray} (h : Txts w v l) : l.length ≤ 9223372036854775807 := by
  obtain ⟨_, cap, _, h1, h2, _⟩ := h.open
  have e : maxLen = 9223372036854775807 := by decide
  omega
theorem Ents.at {w : World} {ao : Option Addr} {n cap : Nat} {l : List Ent} (h : Ents w (.slice ao n cap) l) : n = l.length ∧ n ≤ cap ∧ cap ≤ maxLen ∧
    ∀ j (_h : j < l.length), ∃ b o, ao = some ⟨b, o, none⟩ ∧ w.cell? ⟨b, o + j * 2, none⟩ = some (.string l[j].1) ∧ w.cell? ⟨b, o + j * 2 + 1, none⟩ = some (.string l[j].2) := by
  obtain ⟨a, c, e, h1, h2, h3⟩ := h.open
  injection e with e1 e2 e3
  subst e1 e2 e3
  exact ⟨rfl, h1, h2, h3⟩
theorem Ints.at {w : World} {ao : Option Addr} {n cap : Nat} {l : List Int} (h : Ints w (.slice ao n cap) l) : n = l.length ∧ n ≤ cap ∧ cap ≤ maxLen ∧
    ∀ j (_h : j < l.length), ∃ b o, ao = some ⟨b, o, none⟩ ∧ w.cell? ⟨b, o + j, none⟩ = some (.int .i64 l[j]) := by
  obtain ⟨a, c, e, h1, h2, h3⟩ := h.open
  injection e with e1 e2 e3
  subst e1 e2 e3
  exact ⟨rfl, h1, h2, h3⟩
theorem Txts.at {w : World} {ao : Option Addr} {n cap : Nat} {l : List ByteArray} (h : Txts w (.slice ao n cap) l) : n = l.length ∧ n ≤ cap ∧ cap ≤ maxLen ∧
    ∀ j (_h : j < l.length), ∃ b o, ao = some ⟨b, o, none⟩ ∧ w.cell? ⟨b, o + j, none⟩ = some (.string l[j]) := by
  obtain ⟨a, c, e, h1, h2, h3⟩ := h.open
  injection e with e1 e2 e3
  subst e1 e2 e3
  exact ⟨rfl, h1, h2, h3⟩
/-- bounds that every node here keeps -/
def Bd (n : M.Nd) : Prop := n.es.length ≤ 10000 ∧ n.ks.length ≤ 10000 ∧ n.ss.length ≤ 10000 ∧ M.sz n.es ≤ 1000000000 ∧ M.szs n.ss ≤ 1000000000
/-- a node as a value -/
def NdV (w : World) (v : Value) (n : M.Nd) : Prop := ∃ e0 ec k0 kc s0 sc, v = .agg #[.bool n.leaf, .slice e0 n.es.length ec, .slice k0 n.ks.length kc, .slice s0 n.ss.length sc] ∧ Ents w (.slice e0 n.es.length ec) n.es ∧ Ints w (.slice k0 n.ks.length kc) n.ks ∧ Txts w (.slice s0 n.ss.length sc) n.ss
theorem NdV.below {w w' : World} {v : Value} {n : M.Nd} (h : NdV w v n) (hb : Below w.heap.size w w') : NdV w' v n := by
  obtain ⟨a0, a1, b0, b1, c0, c1, e, h1, h2, h3⟩ := h
  exact ⟨a0, a1, b0, b1, c0, c1, e, h1.below hb, h2.below hb, h3.below hb⟩
theorem own_slice {w : World} {base : Nat} {e : TypeId} {size n : Nat} {v : Value} {cs : List Value} (h : w.ownsRow base e size v n cs) : ∃ ao cap, v = .slice ao n cap := by
  obtain ⟨_, ⟨rfl, rfl⟩ | ⟨g, cap, cur, rfl, _⟩⟩ := h
  · exact ⟨none, 0, rfl⟩
  · exact ⟨_, _, rfl⟩
/-- a slice whose cells are these -/
def Cl (w : World) (v : Value) (cs : List Value) : Prop := ∃ g, v = .slice (some ⟨g, 0, none⟩) cs.length cs.length ∧ ∀ j (h : j < cs.length), w.cell? ⟨g, j, none⟩ = some cs[j]
theorem Cl.below {w w' : World} {v : Value} {cs : List Value} (h : Cl w v cs) (hb : Below w.heap.size w w') : Cl w' v cs := by
  obtain ⟨g, e, h⟩ := h
  exact ⟨g, e, fun j hj => bcell hb (h j hj)⟩
theorem Cl.new (w : World) (cs : List Value) (t : TypeId) (m : Nat) (h : cs.length = m) : Cl (w.alloc (.cells cs.toArray t)) (.slice (some ⟨w.heap.size, 0, none⟩) m m) cs := by
  subst h
  exact ⟨w.heap.size, rfl, fun j hj => by rw [World.cell?_alloc_mark]; simp [hj]⟩
/-- a box with a node's fields -/
def Bx (w : World) (g : Nat) (l : Bool) (a b c : Value) : Prop := w.cell? ⟨g, 0, none⟩ = some (.bool l) ∧ w.cell? ⟨g, 1, none⟩ = some a ∧ w.cell? ⟨g, 2, none⟩ = some b ∧ w.cell? ⟨g, 3, none⟩ = some c
theorem Bx.below {w w' : World} {g : Nat} {l : Bool} {a b c : Value} (h : Bx w g l a b c) (hb : Below w.heap.size w w') : Bx w' g l a b c := ⟨bcell hb h.1, bcell hb h.2.1, bcell hb h.2.2.1, bcell hb h.2.2.2⟩
theorem Bx.new (w : World) (l : Bool) (a b c : Value) (t : TypeId) : Bx (w.alloc (.cells #[.bool l, a, b, c] t)) w.heap.size l a b c := by
  refine ⟨?_, ?_, ?_, ?_⟩ <;> (rw [World.cell?_alloc_mark]; rfl)
theorem new_int (w : World) (x : Int) (t : TypeId) : Ints (w.alloc (.cells #[.int .i64 x] t)) (.slice (some ⟨w.heap.size, 0, none⟩) 1 1) [x] :=
  Ints.close (l := [x]) (Nat.le_refl _) (by unfold maxLen; omega) fun j hj => ⟨w.heap.size, 0, rfl, by
    obtain rfl : j = 0 := by simp at hj; omega
    rw [World.cell?_alloc_mark]; rfl⟩
theorem new_int2 (w : World) (x y : Int) (t : TypeId) : Ints (w.alloc (.cells #[.int .i64 x, .int .i64 y] t)) (.slice (some ⟨w.heap.size, 0, none⟩) 2 2) [x, y] :=
  Ints.close (l := [x, y]) (Nat.le_refl _) (by unfold maxLen; omega) fun j hj => ⟨w.heap.size, 0, rfl, by
    match j, hj with
    | 0, _ => rw [World.cell?_alloc_mark]; rfl
    | 1, _ => rw [World.cell?_alloc_mark]; rfl⟩
theorem new_txt (w : World) (x : ByteArray) (t : TypeId) : Txts (w.alloc (.cells #[.string x] t)) (.slice (some ⟨w.heap.size, 0, none⟩) 1 1) [x] :=
  Txts.close (l := [x]) (Nat.le_refl _) (by unfold maxLen; omega) fun j hj => ⟨w.heap.size, 0, rfl, by
    obtain rfl : j = 0 := by simp at hj; omega
    rw [World.cell?_alloc_mark]; rfl⟩
end Go.Proofs.Ytifdglehfhoecaa.B

/-
  Lists of numbers and of texts in one, in new memory. Conditions: 2^40 elements at most.
-/
namespace Go.Proofs.Ytifdglehfhoecaa.N
open Go.RowKit B E
/-- the first k of so many lists, as one -/
def flatA {α : Type} (vs : List (Value × List α)) (k : Nat) : List α := (vs.take k).flatMap (·.2)
theorem flatA_succ {α : Type} (vs : List (Value × List α)) (k : Nat) (h : k < vs.length) : flatA vs (k + 1) = flatA vs k ++ vs[k].2 := by
  unfold flatA; rw [List.take_succ_eq_append_getElem h, List.flatMap_append, List.flatMap_singleton]
theorem flatA_len {α : Type} (vs : List (Value × List α)) (k : Nat) : (flatA vs k).length ≤ (flatA vs vs.length).length := by
  unfold flatA
  rw [List.take_length]
  conv => rhs; rw [← List.take_append_drop k vs]
  rw [List.flatMap_append, List.length_append]
  exact Nat.le_add_right _ _

theorem info3 : (Try.prog.info? 3).map (fun i => (i.zero, i.size, i.bytes)) = some (some (.int .i64 0), 1, 8) := by kernel_rfl
set_option maxRecDepth 100000 in
theorem grow_i (n : Nat) (w : World) (hn : n ≤ 1099511627776) :
    Calls Try.prog 98 #[.slice none 0 0, .int .i64 (n : Int)] w fun r w' => ∃ v, r = .returned v ∧ w'.ownsRow w.heap.size 3 1 v 0 [] ∧ Below w.heap.size w w' := by
  rcases Nat.eq_zero_or_pos n with h0 | h0
  · subst h0
    go_enter Try.func98, Try.ntmps98
    go_wp2
    go_ret
    exact ⟨_, rfl, World.ownsRow_nil _ _ _ _, Below.refl _ _⟩
  · obtain ⟨i, hi, hz0, hz1, hz2⟩ := info_parts info3
    go_enter Try.func98, Try.ntmps98
    go_wp2_with (at_builtin; refine wpList_append_zeros rfl _ _ 67 3 rfl 3 i _ 1 8 Try.underlying67 Try.underlying3 hi hz0 hz1 hz2 rfl (by decide) w.heap.size n rfl rfl h0 (by unfold maxLen; omega) (by omega) (Nat.le_refl _) ?_)
    intro cap w1 hcap hown hb
    have HOWN := Lib.hid hown; clear hown
    go_wp2
    go_ret
    exact ⟨_, rfl, HOWN.out, hb⟩
set_option maxRecDepth 100000 in
set_option maxHeartbeats 1000000 in
theorem concat_i (g : Nat) (vs : List (Value × List Int)) (w : World) (hn : vs.length ≤ 100) (hlen : (flatA vs vs.length).length ≤ 1099511627776)
    (hc : ∀ j (_h : j < vs.length), w.cell? ⟨g, j, none⟩ = some vs[j].1 ∧ Ints w vs[j].1 vs[j].2) :
    Calls Try.prog 93 #[.slice (some ⟨g, 0, none⟩) vs.length vs.length] w fun r w' => ∃ v, r = .returned v ∧ w'.ownsRow w.heap.size 3 1 v (flatA vs vs.length).length (ics (flatA vs vs.length)) ∧ Below w.heap.size w w' := by
  obtain ⟨i, hi, hz0, hz1, hz2⟩ := info_parts info3
  have HC := Lib.hid hc; clear hc
  obtain ⟨tot, htot⟩ : ∃ t, (flatA vs vs.length).length = t := ⟨_, rfl⟩
  have HTOT := Lib.hid htot
  rw [htot] at hlen
  go_enter Try.func93, Try.ntmps93
  go_wp2
  go_loopw [3, 11] (fun n i wr => ∃ k : Nat, k ≤ vs.length ∧ i = .int .i64 k ∧ n = .int .i64 ((flatA vs k).length : Int) ∧ w = wr) (fun _ i _ => vs.length - (intOf i).toNat)
  case atStart => exact ⟨0, Nat.zero_le _, rfl, rfl, rfl⟩
  case round =>
    obtain ⟨k, hk, rfl, rfl, rfl⟩ := hrel
    by_cases hlt : k < vs.length
    · obtain ⟨h0, hE⟩ := HC.out k hlt
      obtain ⟨ao, cap, e, _, _, _⟩ := hE.open
      rw [e] at h0
      clear e hE
      have hs := congrArg List.length (flatA_succ vs k hlt)
      rw [List.length_append] at hs
      have hle := flatA_len vs (k + 1)
      rw [HTOT.out, hs] at hle
      obtain ⟨p, hp⟩ : ∃ p, (flatA vs k).length = p := ⟨_, rfl⟩
      obtain ⟨q, hq⟩ : ∃ q, vs[k].2.length = q := ⟨_, rfl⟩
      rw [hp, hq] at hs hle
      rw [hq] at h0
      rw [hp]
      have HS := Lib.hid hs
      clear hs hp hq
      go_wp2
      go_roundw
      case rel => exact ⟨k + 1, by omega, by go_num, by rw [HS.out]; go_num, by first | rfl | trivial⟩
      case measure => simp [intOf]; omega
    · have hkk : k = vs.length := by omega
      subst hkk
      rw [HTOT.out]
      go_wp2_with fail
      refine (grow_i tot _ (by omega)).mono ?_
      rintro r w1 ⟨v, rfl, hown, hb⟩
      have HOWN := Lib.hid hown; clear hown
      go_wp2
      go_loopw [6, 27] (fun v i wr => ∃ k : Nat, k ≤ vs.length ∧ i = .int .i64 k ∧ wr.ownsRow w.heap.size 3 1 v (flatA vs k).length (ics (flatA vs k)) ∧ Below w.heap.size w wr) (fun _ i _ => vs.length - (intOf i).toNat)
      case atStart => exact ⟨0, Nat.zero_le _, rfl, HOWN.out, hb⟩
      case round =>
        obtain ⟨k, hk, rfl, hown, hbr⟩ := hrel
        have HO := Lib.hid hown; clear hown
        by_cases hlt : k < vs.length
        · obtain ⟨h0, hE⟩ := HC.out k hlt
          have hE := hE.below hbr
          obtain ⟨ao, cap, e, _, _, _⟩ := hE.open
          have c0 := (hbr.cell (lt_of_cell h0)).trans h0
          rw [e] at c0 hE
          clear e h0
          have hle := flatA_len vs (k + 1)
          rw [HTOT.out, flatA_succ vs k hlt, List.length_append] at hle
          have HE := Lib.hid hE; clear hE
          go_wp2_with (at_builtin; go_loud (refine wpList_append_row rfl _ _ 67 rfl w.heap.size 3 i _ 1 8 Try.underlying67 hi hz0 hz1 hz2 rfl (by decide) _ (flatA vs k).length (ics (flatA vs k)) rfl HO.out (.slice ao vs[k].2.length cap) rfl vs[k].2.length (ics vs[k].2) HE.out (ics_one _) (by unfold maxLen; omega) (by omega) hbr.size ?_))
          intro v' w2 hown2 hg
          have hb2 : Below w.heap.size w w2 := hbr.grown hg hbr.size (fun g hg => (HO.out.lt g hg).1)
          rw [← ics_append, ← List.length_append, ← flatA_succ vs k hlt] at hown2
          have HO2 := Lib.hid hown2; clear hown2 hg
          go_wp2
          go_roundw
          case rel => exact ⟨k + 1, by omega, by go_num, HO2.out, hb2⟩
          case measure => simp [intOf]; omega
        · have hkk : k = vs.length := by omega
          have HK := Lib.hid hkk; clear hkk
          go_wp2
          go_ret
          exact ⟨_, rfl, by have := HO.out; rw [HK.out] at this; exact this, hbr⟩

/-- glue -/
theorem glue_i (g : Nat) (vs : List (Value × List Int)) (w : World) (hn : vs.length ≤ 100) (hlen : (flatA vs vs.length).length ≤ 1099511627776)
    (hc : ∀ j (_h : j < vs.length), w.cell? ⟨g, j, none⟩ = some vs[j].1 ∧ Ints w vs[j].1 vs[j].2) :
    Calls Try.prog 81 #[.slice (some ⟨g, 0, none⟩) vs.length vs.length] w fun r w' => ∃ v, r = .returned v ∧ w'.ownsRow w.heap.size 3 1 v (flatA vs vs.length).length (ics (flatA vs vs.length)) ∧ Below w.heap.size w w' := by
  have HC := Lib.hid (concat_i g vs w hn hlen hc); clear hc
  go_enter Try.func81, Try.ntmps81
  go_wp2_with fail
  refine HC.out.mono ?_
  rintro r w1 ⟨v, rfl, hown, hb⟩
  have HO := Lib.hid hown; clear hown
  go_wp2
  go_ret
  exact ⟨_, rfl, HO.out, hb⟩

theorem info9 : (Try.prog.info? 9).map (fun i => (i.zero, i.size, i.bytes)) = some (some (.string ByteArray.empty), 1, 16) := by kernel_rfl
set_option maxRecDepth 100000 in
theorem grow_t (n : Nat) (w : World) (hn : n ≤ 1099511627776) :
    Calls Try.prog 99 #[.slice none 0 0, .int .i64 (n : Int)] w fun r w' => ∃ v, r = .returned v ∧ w'.ownsRow w.heap.size 9 1 v 0 [] ∧ Below w.heap.size w w' := by
  rcases Nat.eq_zero_or_pos n with h0 | h0
  · subst h0
    go_enter Try.func99, Try.ntmps99
    go_wp2
    go_ret
    exact ⟨_, rfl, World.ownsRow_nil _ _ _ _, Below.refl _ _⟩
  · obtain ⟨i, hi, hz0, hz1, hz2⟩ := info_parts info9
    go_enter Try.func99, Try.ntmps99
    go_wp2_with (at_builtin; refine wpList_append_zeros rfl _ _ 22 3 rfl 9 i _ 1 16 Try.underlying22 Try.underlying3 hi hz0 hz1 hz2 rfl (by decide) w.heap.size n rfl rfl h0 (by unfold maxLen; omega) (by omega) (Nat.le_refl _) ?_)
    intro cap w1 hcap hown hb
    have HOWN := Lib.hid hown; clear hown
    go_wp2
    go_ret
    exact ⟨_, rfl, HOWN.out, hb⟩
set_option maxRecDepth 100000 in
set_option maxHeartbeats 1000000 in
theorem concat_t (g : Nat) (vs : List (Value × List ByteArray)) (w : World) (hn : vs.length ≤ 100) (hlen : (flatA vs vs.length).length ≤ 1099511627776)
    (hc : ∀ j (_h : j < vs.length), w.cell? ⟨g, j, none⟩ = some vs[j].1 ∧ Txts w vs[j].1 vs[j].2) :
    Calls Try.prog 94 #[.slice (some ⟨g, 0, none⟩) vs.length vs.length] w fun r w' => ∃ v, r = .returned v ∧ w'.ownsRow w.heap.size 9 1 v (flatA vs vs.length).length (tcs (flatA vs vs.length)) ∧ Below w.heap.size w w' := by
  obtain ⟨i, hi, hz0, hz1, hz2⟩ := info_parts info9
  have HC := Lib.hid hc; clear hc
  obtain ⟨tot, htot⟩ : ∃ t, (flatA vs vs.length).length = t := ⟨_, rfl⟩
  have HTOT := Lib.hid htot
  rw [htot] at hlen
  go_enter Try.func94, Try.ntmps94
  go_wp2
  go_loopw [3, 11] (fun n i wr => ∃ k : Nat, k ≤ vs.length ∧ i = .int .i64 k ∧ n = .int .i64 ((flatA vs k).length : Int) ∧ w = wr) (fun _ i _ => vs.length - (intOf i).toNat)
  case atStart => exact ⟨0, Nat.zero_le _, rfl, rfl, rfl⟩
  case round =>
    obtain ⟨k, hk, rfl, rfl, rfl⟩ := hrel
    by_cases hlt : k < vs.length
    · obtain ⟨h0, hE⟩ := HC.out k hlt
      obtain ⟨ao, cap, e, _, _, _⟩ := hE.open
      rw [e] at h0
      clear e hE
      have hs := congrArg List.length (flatA_succ vs k hlt)
      rw [List.length_append] at hs
      have hle := flatA_len vs (k + 1)
      rw [HTOT.out, hs] at hle
      obtain ⟨p, hp⟩ : ∃ p, (flatA vs k).length = p := ⟨_, rfl⟩
      obtain ⟨q, hq⟩ : ∃ q, vs[k].2.length = q := ⟨_, rfl⟩
      rw [hp, hq] at hs hle
      rw [hq] at h0
      rw [hp]
      have HS := Lib.hid hs
      clear hs hp hq
      go_wp2
      go_roundw
      case rel => exact ⟨k + 1, by omega, by go_num, by rw [HS.out]; go_num, by first | rfl | trivial⟩
      case measure => simp [intOf]; omega
    · have hkk : k = vs.length := by omega
      subst hkk
      rw [HTOT.out]
      go_wp2_with fail
      refine (grow_t tot _ (by omega)).mono ?_
      rintro r w1 ⟨v, rfl, hown, hb⟩
      have HOWN := Lib.hid hown; clear hown
      go_wp2
      go_loopw [6, 27] (fun v i wr => ∃ k : Nat, k ≤ vs.length ∧ i = .int .i64 k ∧ wr.ownsRow w.heap.size 9 1 v (flatA vs k).length (tcs (flatA vs k)) ∧ Below w.heap.size w wr) (fun _ i _ => vs.length - (intOf i).toNat)
      case atStart => exact ⟨0, Nat.zero_le _, rfl, HOWN.out, hb⟩
      case round =>
        obtain ⟨k, hk, rfl, hown, hbr⟩ := hrel
        have HO := Lib.hid hown; clear hown
        by_cases hlt : k < vs.length
        · obtain ⟨h0, hE⟩ := HC.out k hlt
          have hE := hE.below hbr
          obtain ⟨ao, cap, e, _, _, _⟩ := hE.open
          have c0 := (hbr.cell (lt_of_cell h0)).trans h0
          rw [e] at c0 hE
          clear e h0
          have hle := flatA_len vs (k + 1)
          rw [HTOT.out, flatA_succ vs k hlt, List.length_append] at hle
          have HE := Lib.hid hE; clear hE
          go_wp2_with (at_builtin; go_loud (refine wpList_append_row rfl _ _ 22 rfl w.heap.size 9 i _ 1 16 Try.underlying22 hi hz0 hz1 hz2 rfl (by decide) _ (flatA vs k).length (tcs (flatA vs k)) rfl HO.out (.slice ao vs[k].2.length cap) rfl vs[k].2.length (tcs vs[k].2) HE.out (tcs_one _) (by unfold maxLen; omega) (by omega) hbr.size ?_))
          intro v' w2 hown2 hg
          have hb2 : Below w.heap.size w w2 := hbr.grown hg hbr.size (fun g hg => (HO.out.lt g hg).1)
          rw [← tcs_append, ← List.length_append, ← flatA_succ vs k hlt] at hown2
          have HO2 := Lib.hid hown2; clear hown2 hg
          go_wp2
          go_roundw
          case rel => exact ⟨k + 1, by omega, by go_num, HO2.out, hb2⟩
          case measure => simp [intOf]; omega
        · have hkk : k = vs.length := by omega
          have HK := Lib.hid hkk; clear hkk
          go_wp2
          go_ret
          exact ⟨_, rfl, by have := HO.out; rw [HK.out] at this; exact this, hbr⟩

/-- glue -/
theorem glue_t (g : Nat) (vs : List (Value × List ByteArray)) (w : World) (hn : vs.length ≤ 100) (hlen : (flatA vs vs.length).length ≤ 1099511627776)
    (hc : ∀ j (_h : j < vs.length), w.cell? ⟨g, j, none⟩ = some vs[j].1 ∧ Txts w vs[j].1 vs[j].2) :
    Calls Try.prog 82 #[.slice (some ⟨g, 0, none⟩) vs.length vs.length] w fun r w' => ∃ v, r = .returned v ∧ w'.ownsRow w.heap.size 9 1 v (flatA vs vs.length).length (tcs (flatA vs vs.length)) ∧ Below w.heap.size w w' := by
  have HC := Lib.hid (concat_t g vs w hn hlen hc); clear hc
  go_enter Try.func82, Try.ntmps82
  go_wp2_with fail
  refine HC.out.mono ?_
  rintro r w1 ⟨v, rfl, hown, hb⟩
  have HO := Lib.hid hown; clear hown
  go_wp2
  go_ret
  exact ⟨_, rfl, HO.out, hb⟩

/-- glue -/
theorem glue_e (g : Nat) (vs : List (Value × List Ent)) (w : World) (hn : vs.length ≤ 100) (hlen : (flatA vs vs.length).length ≤ 1099511627776)
    (hc : ∀ j (_h : j < vs.length), w.cell? ⟨g, j, none⟩ = some vs[j].1 ∧ Ents w vs[j].1 vs[j].2) :
    Calls Try.prog 83 #[.slice (some ⟨g, 0, none⟩) vs.length vs.length] w fun r w' => ∃ v, r = .returned v ∧ w'.ownsRow w.heap.size 49 2 v (flatA vs vs.length).length (ecs (flatA vs vs.length)) ∧ Below w.heap.size w w' := by
  have HC := Lib.hid (concat_any g vs w hn hlen hc); clear hc
  go_enter Try.func83, Try.ntmps83
  go_wp2_with fail
  refine HC.out.mono ?_
  rintro r w1 ⟨v, rfl, hown, hb⟩
  have HO := Lib.hid hown; clear hown
  go_wp2
  go_ret
  exact ⟨_, rfl, HO.out, hb⟩
end Go.Proofs.Ytifdglehfhoecaa.N

/-
  A node as the document has it; a node's box, read whole. Conditions: none.
-/
namespace Go.Proofs.Ytifdglehfhoecaa.N
open Go.RowKit B E
theorem load69 {w : World} {g : Nat} {l : Bool} {e0 k0 s0 : Option Addr} {en ec kn kc sn sc : Nat} (h : Bx w g l (.slice e0 en ec) (.slice k0 kn kc) (.slice s0 sn sc)) :
    (loadVar 69 ⟨g, 0, none⟩).run Try.prog w = .ok (.agg #[.bool l, .slice e0 en ec, .slice k0 kn kc, .slice s0 sn sc]) w := by
  obtain ⟨c0, c1, c2, c3⟩ := h
  simp [loadVar, go_sem, *]
theorem load73 {w : World} {g : Nat} {l : Bool} {e0 k0 s0 : Option Addr} {en ec kn kc sn sc : Nat} (h : Bx w g l (.slice e0 en ec) (.slice k0 kn kc) (.slice s0 sn sc)) :
    (loadVar 73 ⟨g, 0, none⟩).run Try.prog w = .ok (.agg #[.bool l, .slice e0 en ec, .slice k0 kn kc, .slice s0 sn sc]) w := by
  obtain ⟨c0, c1, c2, c3⟩ := h
  simp [loadVar, go_sem, *]
theorem res_one {P : Program} {fn : Func} {a t : Nat} {tmps : Array Value} {w : World} {p : Addr} {v : Value} (h : fn.results = #[.cell a t]) (hp : tmps.getD a undef = .pointer (some p)) (hl : (loadVar t p).run P w = .ok v w) : (results fn tmps).run P w = .ok v w := by
  rw [Array.getD_eq_getD_getElem?] at hp
  simp [results, h, hp, hl, asAddr]
theorem of_any (v : Value) (n : M.Nd) (w : World) (hv : NdV w v n) : Calls Try.prog 56 #[v] w fun r w' => ∃ u, r = .returned u ∧ NdV w' u n ∧ Below w.heap.size w w' := by
  obtain ⟨e0, ec, k0, kc, s0, sc, rfl, he, hi, hs⟩ := hv
  have HE := Lib.hid he; have HI := Lib.hid hi; have HS := Lib.hid hs
  clear he hi hs
  go_enter Try.func56, Try.ntmps56
  go_wp2
  have hb : Below w.heap.size w ((w.alloc (.cells #[.bool n.leaf, .slice e0 n.es.length ec, .slice k0 n.ks.length kc, .slice s0 n.ss.length sc] 69)).alloc (.cells #[.bool n.leaf, .slice e0 n.es.length ec, .slice k0 n.ks.length kc, .slice s0 n.ss.length sc] 73)) := ((Below.refl _ w).alloc (Nat.le_refl _) _).alloc (by simp) _
  have hx := Bx.new (w.alloc (.cells #[.bool n.leaf, .slice e0 n.es.length ec, .slice k0 n.ks.length kc, .slice s0 n.ss.length sc] 69)) n.leaf (.slice e0 n.es.length ec) (.slice k0 n.ks.length kc) (.slice s0 n.ss.length sc) 73
  rw [show (w.alloc (.cells #[.bool n.leaf, .slice e0 n.es.length ec, .slice k0 n.ks.length kc, .slice s0 n.ss.length sc] 69)).heap.size = w.heap.size + 1 by simp] at hx
  refine bodyPost_ret (res_one rfl rfl (load73 hx)) rfl ?_
  exact ⟨_, rfl, ⟨e0, ec, k0, kc, s0, sc, rfl, HE.out.below hb, HI.out.below hb, HS.out.below hb⟩, hb⟩
end Go.Proofs.Ytifdglehfhoecaa.N

/-
  What may be a key with a value; whether a list is right. Conditions: none.
-/
namespace Go.Proofs.Ytifdglehfhoecaa.E
open Go.RowKit B
theorem check_any (k v : ByteArray) (w : World) : Calls Try.prog 41 #[.string k, .string v] w fun r w' => r = .returned (.int .i64 (if M.may k v then 0 else 110)) ∧ w = w' := by
  by_cases h0 : k.size = 0
  · have h1 := size_zero h0
    subst h1
    have hm : ¬ M.may ByteArray.empty v := by unfold M.may; simp
    rw [if_neg hm]
    clear hm h0
    go_enter Try.func41, Try.ntmps41
    go_wp2
    go_ret
    exact ⟨rfl, rfl⟩
  · have hb := str_ne_nil h0
    have hk1 : 1 ≤ k.size := by omega
    clear h0
    by_cases h1 : 16 < k.size
    · have hm : ¬ M.may k v := by unfold M.may; omega
      rw [if_neg hm]
      clear hm
      go_enter Try.func41, Try.ntmps41
      go_wp2
      go_ret
      exact ⟨rfl, rfl⟩
    · by_cases h2 : 40 < v.size
      · have hm : ¬ M.may k v := by unfold M.may; omega
        rw [if_neg hm]
        clear hm
        go_enter Try.func41, Try.ntmps41
        go_wp2
        go_ret
        exact ⟨rfl, rfl⟩
      · have hm : M.may k v := by unfold M.may; omega
        rw [if_pos hm]
        clear hm
        go_enter Try.func41, Try.ntmps41
        go_wp2
        go_ret
        exact ⟨rfl, rfl⟩
/-- the first k entries are right -/
theorem ok_nil : M.Ok [] := ⟨by simp, List.Pairwise.nil⟩
set_option maxHeartbeats 1000000 in
theorem right_walk (ao : Option Addr) (cap : Nat) (l : List Ent) (w : World) (hlen : l.length ≤ 4611686018427387904)
    (hc : ∀ j (_h : j < l.length), ∃ b o, ao = some ⟨b, o, none⟩ ∧ w.cell? ⟨b, o + j * 2, none⟩ = some (.string l[j].1) ∧ w.cell? ⟨b, o + j * 2 + 1, none⟩ = some (.string l[j].2)) :
    Calls Try.prog 72 #[.slice ao l.length cap] w fun r w' => r = .returned (.bool (decide (M.Ok l))) ∧ Below w.heap.size w w' := by
  have HC := Lib.hid hc; clear hc
  go_enter Try.func72, Try.ntmps72
  go_wp2
  go_loopw [7] (fun i wr => ∃ k : Nat, k ≤ l.length ∧ i = .int .i64 k ∧ M.Ok (l.take k) ∧ Below w.heap.size w wr) (fun i _ => l.length - (intOf i).toNat)
  case atStart => exact ⟨0, Nat.zero_le _, rfl, by simpa using ok_nil, Below.refl _ _⟩
  case round =>
    obtain ⟨k, hk, rfl, hok, hb⟩ := hrel
    have HOK := Lib.hid hok; clear hok
    by_cases hlt : k < l.length
    · obtain ⟨b, o, rfl, hk0, hv0⟩ := HC.out k hlt
      have c0 := (hb.cell (lt_of_cell hk0)).trans hk0
      have c1 := (hb.cell (lt_of_cell hv0)).trans hv0
      clear hk0 hv0
      go_upto_region 4 with (fail)
      obtain ⟨W, hW⟩ : ∃ W, wr.alloc (.cells #[.string l[k].1, .string l[k].2] 49) = W := ⟨_, rfl⟩
      have hbW : Below w.heap.size w W := by rw [← hW]; exact hb.alloc hb.size _
      have d0 : W.cell? ⟨wr.heap.size, 0, none⟩ = some (.string l[k].1) := by rw [← hW, World.cell?_alloc_mark]; rfl
      have d1 : W.cell? ⟨wr.heap.size, 1, none⟩ = some (.string l[k].2) := by rw [← hW, World.cell?_alloc_mark]; rfl
      rw [hW]
      clear hW c0 c1 hb
      have hck := check_any l[k].1 l[k].2
      by_cases hmay : M.may l[k].1 l[k].2
      · rw [if_pos hmay] at hck
        have HMAY := Lib.hid hmay
        have HCK := Lib.hid hck
        clear hmay hck
        rcases Nat.eq_zero_or_pos k with h0 | h0
        · have hd : decide ((0 : Int) < (k : Int)) = false := by rw [h0]; rfl
          have hd2 : decide (0 < k) = false := by rw [h0]; rfl
          have H0 := Lib.hid h0; clear h0
          go_quiet ((go_at_call 41; exact Calls.quiet_of_same ((HCK.out _).mono fun _ _ h => ⟨h.1, h.2.symm⟩)))
          go_wp2
          go_roundw
          case rel => exact ⟨k + 1, by omega, by go_num, (M.ok_take_succ hlt).2 ⟨HOK.out, HMAY.out, fun h => absurd H0.out (by omega)⟩, ⟨hbW.os, hbW.tape, hbW.output, hbW.size, hbW.block⟩⟩
          case measure => simp [intOf]; omega
        · obtain ⟨b', o', e', hp0, _⟩ := HC.out (k - 1) (by omega)
          obtain ⟨rfl, rfl⟩ : b = b' ∧ o = o' := by injection e' with e'; injection e' with a1 a2 a3; exact ⟨a1, a2⟩
          have c2 := (hbW.cell (lt_of_cell hp0)).trans hp0
          clear hp0
          have hd : decide ((0 : Int) < (k : Int)) = true := by rw [decide_eq_true_eq]; omega
          have hd2 : decide (0 < k) = true := by rw [decide_eq_true_eq]; omega
          by_cases hl : Op.bytesLess (l[k - 1]'(by omega)).1.toList l[k].1.toList = true
          · have hl2 : (!Op.bytesLess (l[k - 1]'(by omega)).1.toList l[k].1.toList) = false := by rw [hl]; rfl
            have HL := Lib.hid hl
            go_quiet ((go_at_call 41; exact Calls.quiet_of_same ((HCK.out _).mono fun _ _ h => ⟨h.1, h.2.symm⟩)))
            go_wp2
            go_roundw
            case rel => exact ⟨k + 1, by omega, by go_num, (M.ok_take_succ hlt).2 ⟨HOK.out, HMAY.out, fun _ => by have := HL.out; rwa [toL, toL] at this⟩, ⟨hbW.os, hbW.tape, hbW.output, hbW.size, hbW.block⟩⟩
            case measure => simp [intOf]; omega
          · have hl1 : Op.bytesLess (l[k - 1]'(by omega)).1.toList l[k].1.toList = false := by simpa using hl
            have hl2 : (!Op.bytesLess (l[k - 1]'(by omega)).1.toList l[k].1.toList) = true := by rw [hl1]; rfl
            have hno : decide (M.Ok l) = false := by
              rw [decide_eq_false_iff_not]
              intro h
              have := ((M.ok_take_succ hlt).1 (M.ok_take h (k + 1))).2.2 h0
              unfold M.klt at this
              rw [toL, toL] at hl1
              rw [hl1] at this
              exact Bool.noConfusion this
            have HNO := Lib.hid hno
            clear hno hl
            go_quiet ((go_at_call 41; exact Calls.quiet_of_same ((HCK.out _).mono fun _ _ h => ⟨h.1, h.2.symm⟩)))
            go_wp2
            go_ret
            exact ⟨by rw [HNO.out]; rfl, ⟨hbW.os, hbW.tape, hbW.output, hbW.size, hbW.block⟩⟩
      · rw [if_neg hmay] at hck
        have hno : decide (M.Ok l) = false := by
          rw [decide_eq_false_iff_not]
          intro h
          exact hmay ((M.ok_take_succ hlt).1 (M.ok_take h (k + 1))).2.1
        have HNO := Lib.hid hno
        have HCK := Lib.hid hck
        clear hmay hck hno
        go_quiet ((go_at_call 41; exact Calls.quiet_of_same ((HCK.out _).mono fun _ _ h => ⟨h.1, h.2.symm⟩)))
        go_wp2
        go_ret
        exact ⟨by rw [HNO.out]; rfl, ⟨hbW.os, hbW.tape, hbW.output, hbW.size, hbW.block⟩⟩
    · have hkl : k = l.length := by omega
      have hyes : decide (M.Ok l) = true := by
        rw [decide_eq_true_eq]
        have := HOK.out
        rwa [hkl, List.take_length] at this
      have HK := Lib.hid hkl; have HY := Lib.hid hyes
      clear hkl hyes
      go_wp2
      go_ret
      exact ⟨by rw [HY.out]; rfl, hb⟩
theorem right_any (v : Value) (l : List Ent) (w : World) (hv : Ents w v l) (hlen : l.length ≤ 4611686018427387904) :
    Calls Try.prog 72 #[v] w fun r w' => r = .returned (.bool (decide (M.Ok l))) ∧ Below w.heap.size w w' := by
  obtain ⟨ao, cap, rfl, _, _, hc⟩ := hv.open
  exact right_walk ao cap l w hlen hc
end Go.Proofs.Ytifdglehfhoecaa.E

/-
  Where a key stands in a list, or would. Conditions: lists of at most 2^62 entries.
-/
namespace Go.Proofs.Ytifdglehfhoecaa.E
open Go.RowKit B
theorem cmp_any (k v key : ByteArray) (w : World) :
    Calls Try.prog 76 #[.agg #[.string k, .string v], .string key] w fun r w' => r = .returned (.int .i64 (Lib.compareBytes (bts k) (bts key))) ∧ Below w.heap.size w w' := by
  go_enter Try.func76, Try.ntmps76
  go_wp2_with fail
  refine (Try.strings_Compare k key _).mono ?_
  rintro r w1 ⟨rfl, rfl⟩
  go_wp2
  go_ret
  exact ⟨rfl, (Below.refl _ _).alloc (Nat.le_refl _) _⟩
theorem cmp_less : ∀ a b : List UInt8, Lib.compareBytes a b < 0 ↔ Op.bytesLess a b = true
  | [], [] => by simp [Lib.compareBytes, Op.bytesLess]
  | [], _ :: _ => by simp [Lib.compareBytes, Op.bytesLess]
  | _ :: _, [] => by simp [Lib.compareBytes, Op.bytesLess]
  | a :: x, b :: y => by
    have ih := cmp_less x y
    simp only [Lib.compareBytes, Op.bytesLess, Bool.or_eq_true, Bool.and_eq_true, decide_eq_true_eq, beq_iff_eq]
    by_cases h1 : a < b
    · rw [if_pos h1]; simp [h1]
    · rw [if_neg h1]
      by_cases h2 : b < a
      · rw [if_pos h2]
        have : a ≠ b := by rintro rfl; exact h1 h2
        simp [h1, this]
      · rw [if_neg h2]
        have : a = b := by
          rw [UInt8.lt_iff_toNat_lt] at h1 h2
          exact UInt8.toNat_inj.1 (by omega)
        simp [this, ih]
theorem cmp_zero : ∀ a b : List UInt8, Lib.compareBytes a b = 0 ↔ a = b
  | [], [] => by simp [Lib.compareBytes]
  | [], _ :: _ => by simp [Lib.compareBytes]
  | _ :: _, [] => by simp [Lib.compareBytes]
  | a :: x, b :: y => by
    have ih := cmp_zero x y
    simp only [Lib.compareBytes, List.cons.injEq]
    by_cases h1 : a < b
    · rw [if_pos h1]
      have : a ≠ b := by rintro rfl; rw [UInt8.lt_iff_toNat_lt] at h1; omega
      simp [this]
    · rw [if_neg h1]
      by_cases h2 : b < a
      · rw [if_pos h2]
        have : a ≠ b := by rintro rfl; exact h1 h2
        simp [this]
      · rw [if_neg h2]
        have : a = b := by
          rw [UInt8.lt_iff_toNat_lt] at h1 h2
          exact UInt8.toNat_inj.1 (by omega)
        simp [this, ih]
/-- what a search knows: of a rising list, what lies below and above -/
def Bs (l : List Ent) (key : ByteArray) (i j : Nat) : Prop := i ≤ j ∧ j ≤ l.length ∧ (M.Asc l → (∀ t (h : t < l.length), t < i → M.klt l[t].1 key) ∧ (∀ t (h : t < l.length), j ≤ t → ¬ M.klt l[t].1 key))
theorem bs_low {l : List Ent} {key : ByteArray} {i j h : Nat} (hb : Bs l key i j) (h1 : i ≤ h) (h2 : h < j) (hl : h < l.length) (hk : M.klt l[h].1 key) : Bs l key (h + 1) j := by
  obtain ⟨a, b, c⟩ := hb
  refine ⟨by omega, b, fun ha => ⟨fun t ht hth => ?_, (c ha).2⟩⟩
  rcases Nat.lt_or_ge t h with h3 | h3
  · exact M.klt_trans (M.asc_lt ha h3 hl) hk
  · obtain rfl : t = h := by omega
    exact hk
theorem bs_high {l : List Ent} {key : ByteArray} {i j h : Nat} (hb : Bs l key i j) (h1 : i ≤ h) (h2 : h < j) (hl : h < l.length) (hk : ¬ M.klt l[h].1 key) : Bs l key i h := by
  obtain ⟨a, b, c⟩ := hb
  refine ⟨h1, by omega, fun ha => ⟨(c ha).1, fun t ht hth => ?_⟩⟩
  rcases Nat.lt_or_ge h t with h3 | h3
  · intro hk2
    exact hk (M.klt_trans (M.asc_lt ha h3 ht) hk2)
  · obtain rfl : t = h := by omega
    exact hk
/-- what a search finds -/
def Fnd (l : List Ent) (key : ByteArray) (w : World) (r : Ending) (w' : World) : Prop :=
  ∃ (i : Nat) (ok : Bool), r = .returned (.tuple #[.int .i64 (i : Int), .bool ok]) ∧ i ≤ l.length ∧ (ok = true ↔ ∃ h : i < l.length, l[i].1 = key) ∧ (M.Asc l → M.Low l key i) ∧ Below w.heap.size w w'
set_option maxRecDepth 100000 in
set_option maxHeartbeats 1000000 in
theorem search_walk (ao : Option Addr) (cap : Nat) (l : List Ent) (key : ByteArray) (w : World) (hlen : l.length ≤ 4611686018427387904)
    (hc : ∀ j (_h : j < l.length), ∃ b o, ao = some ⟨b, o, none⟩ ∧ w.cell? ⟨b, o + j * 2, none⟩ = some (.string l[j].1) ∧ w.cell? ⟨b, o + j * 2 + 1, none⟩ = some (.string l[j].2)) :
    Calls Try.prog 75 #[.slice ao l.length cap, .string key, .func (.func 76) #[] #[]] w (Fnd l key w) := by
  have HC := Lib.hid hc; clear hc
  go_enter Try.func75, Try.ntmps75
  go_wp2
  go_loopw [9, 10, 11] (fun i j _ wr => ∃ a b : Nat, i = .int .i64 a ∧ j = .int .i64 b ∧ a ≤ b ∧ b ≤ l.length ∧ Bs l key a b ∧ Below w.heap.size w wr) (fun i j _ _ => (intOf j - intOf i).toNat)
  case atStart => exact ⟨0, l.length, rfl, rfl, Nat.zero_le _, Nat.le_refl _, ⟨Nat.zero_le _, Nat.le_refl _, fun _ => ⟨fun t _ h => by omega, fun t h h' => by omega⟩⟩, Below.refl _ _⟩
  case round =>
    obtain ⟨a, b, rfl, rfl, hab, hbl, hbs, hb⟩ := hrel
    have HBS := Lib.hid hbs; clear hbs
    by_cases hlt : a < b
    · obtain ⟨h, hh⟩ : ∃ h, (a + b) / 2 = h := ⟨_, rfl⟩
      have hh1 : a ≤ h ∧ h < b := by omega
      obtain ⟨hh1, hh2⟩ := hh1
      have hhl : h < l.length := by omega
      obtain ⟨bk, o, rfl, hk0, hv0⟩ := HC.out h hhl
      have c0 := (hb.cell (lt_of_cell hk0)).trans hk0
      have c1 := (hb.cell (lt_of_cell hv0)).trans hv0
      clear hk0 hv0
      have hdiv : ((a : Int) + (b : Int)) / 2 = (h : Int) := by omega
      have HH := Lib.hid hh; clear hh
      have hcmp := fun W => cmp_any l[h].1 l[h].2 key W
      have hless := cmp_less (bts l[h].1) (bts key)
      obtain ⟨c, hc⟩ : ∃ c, Lib.compareBytes (bts l[h].1) (bts key) = c := ⟨_, rfl⟩
      rw [hc] at hcmp hless
      have HCMP := Lib.hid hcmp; have HLESS := Lib.hid hless
      clear hcmp hless hc
      go_wp2_with fail
      refine (HCMP.out _).mono ?_
      rintro r w1 ⟨rfl, hb1⟩
      have hB := hb.trans (hb1.mono hb.size)
      clear hb hb1 c0 c1
      by_cases hneg : c < 0
      · go_wp2
        go_roundw
        case rel => exact ⟨h + 1, b, by go_num, rfl, by omega, by omega, bs_low HBS.out hh1 hh2 hhl (HLESS.out.1 hneg), hB⟩
        case measure => simp [intOf]; omega
      · go_wp2
        go_roundw
        case rel => exact ⟨a, h, rfl, rfl, by omega, by omega, bs_high HBS.out hh1 hh2 hhl (fun hk => by have := HLESS.out.2 hk; omega), hB⟩
        case measure => simp [intOf]; omega
    · have hab2 : a = b := by omega
      have HAB := Lib.hid hab2; clear hab2
      have hlow : M.Asc l → M.Low l key a := fun ha => by
        obtain ⟨h1, h2, h3⟩ := HBS.out
        exact ⟨by omega, (h3 ha).1, fun t ht hat => (h3 ha).2 t ht (by have := HAB.out; omega)⟩
      have HLOW := Lib.hid hlow; clear hlow
      by_cases hal : a < l.length
      · obtain ⟨bk, o, rfl, hk0, hv0⟩ := HC.out a hal
        have c0 := (hb.cell (lt_of_cell hk0)).trans hk0
        have c1 := (hb.cell (lt_of_cell hv0)).trans hv0
        clear hk0 hv0
        have hcmp := fun W => cmp_any l[a].1 l[a].2 key W
        have hzero := cmp_zero (bts l[a].1) (bts key)
        obtain ⟨c, hc⟩ : ∃ c, Lib.compareBytes (bts l[a].1) (bts key) = c := ⟨_, rfl⟩
        rw [hc] at hcmp hzero
        have HCMP := Lib.hid hcmp; have HZERO := Lib.hid hzero
        clear hcmp hzero hc
        go_wp2_with fail
        refine (HCMP.out _).mono ?_
        rintro r w1 ⟨rfl, hb1⟩
        have hB := hb.trans (hb1.mono hb.size)
        clear hb hb1 c0 c1
        obtain ⟨z, hz⟩ : ∃ z : Bool, (c == 0) = z := ⟨_, rfl⟩
        have HZ := Lib.hid hz
        go_wp2
        go_ret2
        refine ⟨a, z, rfl, by omega, ?_, HLOW.out, hB⟩
        rw [← HZ.out, beq_iff_eq, HZERO.out]
        exact ⟨fun h => ⟨hal, bts_inj h⟩, fun ⟨_, h⟩ => by rw [h]⟩
      · go_wp2
        go_ret2
        exact ⟨a, false, rfl, by omega, ⟨(fun h => nomatch h), fun ⟨h, _⟩ => absurd h hal⟩, HLOW.out, hb⟩
theorem find_any (v : Value) (l : List Ent) (key : ByteArray) (w : World) (hv : Ents w v l) (hlen : l.length ≤ 4611686018427387904) :
    Calls Try.prog 46 #[v, .string key] w (Fnd l key w) := by
  obtain ⟨ao, cap, rfl, _, _, hc⟩ := hv.open
  have hw := search_walk ao cap l key w hlen hc
  have HW := Lib.hid hw; clear hw hc hv
  go_enter Try.func46, Try.ntmps46
  go_wp2_with fail
  refine HW.out.mono ?_
  rintro r w1 ⟨i, ok, rfl, h1, h2, h3, hb⟩
  have H2 := Lib.hid h2; have H3 := Lib.hid h3
  clear h2 h3
  go_wp2
  go_ret2
  exact ⟨i, ok, rfl, h1, H2.out, H3.out, hb⟩
end Go.Proofs.Ytifdglehfhoecaa.E

/-
  A key's value; how many bytes entries take; where a list is cut; a list's bytes. Conditions: below 2^30 entries, below 2^60 bytes.
-/
namespace Go.Proofs.Ytifdglehfhoecaa.E
open Go.RowKit B
/-- a key's value, as it is told -/
def getl (l : List Ent) (k : ByteArray) : Option ByteArray := if M.Ok l then (l.find? fun e => decide (e.1 = k)).map (·.2) else none
theorem getl_yes {l : List Ent} {i : Nat} (ho : M.Ok l) (hi : i < l.length) : getl l l[i].1 = some l[i].2 := by
  unfold getl
  rw [if_pos ho]
  have h : l.find? (fun e => decide (e.1 = l[i].1)) = some l[i] := by
    rw [List.find?_eq_some_iff_getElem]
    refine ⟨by simp, i, hi, rfl, fun j hj => ?_⟩
    have := M.klt_ne (M.asc_lt ho.2 hj hi)
    simpa using this
  rw [h]; rfl
theorem getl_no {l : List Ent} {k : ByteArray} (h : M.Ok l → ¬ M.has l k) : getl l k = none := by
  unfold getl
  split
  · rename_i ho
    have h : l.find? (fun e => decide (e.1 = k)) = none := by
      rw [List.find?_eq_none]
      intro e he hk
      exact h ho ⟨e.2, by have : e.1 = k := by simpa using hk
                          rw [← this]; exact he⟩
    rw [h]; rfl
  · rfl
def Got (x : Option ByteArray) (w : World) (r : Ending) (w' : World) : Prop := r = .returned (.tuple #[.string (x.getD ByteArray.empty), .bool x.isSome]) ∧ Below w.heap.size w w'
theorem get_any (v : Value) (l : List Ent) (key : ByteArray) (w : World) (hv : Ents w v l) (hlen : l.length ≤ 1000000000) :
    Calls Try.prog 42 #[v, .string key] w (Got (getl l key) w) := by
  have hop := hv.open
  have HV := Lib.hid hv; clear hv
  obtain ⟨ao, cap, rfl, _, _, hc⟩ := hop
  have HC := Lib.hid hc; clear hc
  go_enter Try.func42, Try.ntmps42
  go_wp2_with fail
  refine (find_any _ l key _ HV.out (by omega)).mono ?_
  rintro r w1 ⟨i, ok, rfl, h1, h2, h3, hb⟩
  have H2 := Lib.hid h2; have H3 := Lib.hid h3
  clear h2 h3
  rcases ok with _ | _
  · have hno : getl l key = none := getl_no fun ho hh => by
      have := H2.out.2 ((M.low_has (H3.out ho.2) ho.2).1 hh)
      exact Bool.noConfusion this
    have HNO := Lib.hid hno; clear hno
    go_wp2
    go_ret2
    exact ⟨by rw [HNO.out]; rfl, hb⟩
  · obtain ⟨hi, hki⟩ := H2.out.1 rfl
    obtain ⟨b, o, rfl, _, hv0⟩ := HC.out i hi
    by_cases ho : M.Ok l
    · have hy := getl_yes ho hi
      rw [hki] at hy
      have HD := Lib.hid (show decide (M.Ok l) = true by simp [ho])
      have HY := Lib.hid hy
      clear hy hki ho
      go_wp2_with fail
      refine (right_any _ l _ (HV.out.below hb) (by omega)).mono ?_
      rintro r w2 ⟨rfl, hb2⟩
      rw [HD.out]
      have hB := hb.trans (hb2.mono hb.size)
      have c1 := (hB.cell (lt_of_cell hv0)).trans hv0
      clear hb hb2 hv0
      go_wp2
      go_ret2
      exact ⟨by rw [HY.out]; rfl, hB⟩
    · have HD := Lib.hid (show decide (M.Ok l) = false by simp [ho])
      have HY := Lib.hid (getl_no (k := key) (fun h => absurd h ho))
      clear hki ho
      go_wp2_with fail
      refine (right_any _ l _ (HV.out.below hb) (by omega)).mono ?_
      rintro r w2 ⟨rfl, hb2⟩
      rw [HD.out]
      have hB := hb.trans (hb2.mono hb.size)
      clear hb hb2 hv0
      go_wp2
      go_ret2
      exact ⟨by rw [HY.out]; rfl, hB⟩
theorem size_walk (ao : Option Addr) (cap : Nat) (l : List Ent) (w : World) (hlen : l.length ≤ 1000000000) (hsz : M.sz l ≤ 1152921504606846976)
    (hc : ∀ j (_h : j < l.length), ∃ b o, ao = some ⟨b, o, none⟩ ∧ w.cell? ⟨b, o + j * 2, none⟩ = some (.string l[j].1) ∧ w.cell? ⟨b, o + j * 2 + 1, none⟩ = some (.string l[j].2)) :
    Calls Try.prog 34 #[.slice ao l.length cap] w fun r w' => r = .returned (.int .i64 (M.sz l : Int)) ∧ Below w.heap.size w w' := by
  have HC := Lib.hid hc; clear hc
  go_enter Try.func34, Try.ntmps34
  go_wp2
  go_loopw [3, 8] (fun n i wr => ∃ k : Nat, k ≤ l.length ∧ i = .int .i64 k ∧ n = .int .i64 (M.sz (l.take k) : Int) ∧ Below w.heap.size w wr) (fun _ i _ => l.length - (intOf i).toNat)
  case atStart => exact ⟨0, Nat.zero_le _, rfl, rfl, Below.refl _ _⟩
  case round =>
    obtain ⟨k, hk, rfl, rfl, hb⟩ := hrel
    by_cases hlt : k < l.length
    · obtain ⟨b, o, rfl, hk0, hv0⟩ := HC.out k hlt
      have c0 := (hb.cell (lt_of_cell hk0)).trans hk0
      have c1 := (hb.cell (lt_of_cell hv0)).trans hv0
      have hs := M.sz_snoc l k hlt
      have hle := M.sz_take_le l (k + 1)
      obtain ⟨p, hp⟩ : ∃ p, M.sz (l.take k) = p := ⟨_, rfl⟩
      obtain ⟨q, hq⟩ : ∃ q, M.sz (l.take (k + 1)) = q := ⟨_, rfl⟩
      rw [hp, hq] at hs
      rw [hq] at hle
      rw [hp]
      have hlk : l[k].1.size ≤ q := by omega
      have hlv : l[k].2.size ≤ q := by omega
      have hsum : p + (2 + l[k].1.size + l[k].2.size) ≤ 1152921504606846976 := by omega
      have HS := Lib.hid hs; have HQ := Lib.hid hq
      clear hs hp hq hk0 hv0 hle
      go_wp2
      go_roundw
      case rel => exact ⟨k + 1, by omega, by go_num, by rw [HQ.out, HS.out]; go_num, ⟨hb.os, hb.tape, hb.output, by have := hb.size; simp; omega, (hb.alloc hb.size _).block⟩⟩
      case measure => simp [intOf]; omega
    · have hkk : k = l.length := by omega
      have HK := Lib.hid hkk; clear hkk
      go_wp2
      go_ret
      exact ⟨by rw [HK.out, List.take_length]; rfl, hb⟩
theorem size_any (v : Value) (l : List Ent) (w : World) (hv : Ents w v l) (hlen : l.length ≤ 1000000000) (hsz : M.sz l ≤ 1152921504606846976) :
    Calls Try.prog 34 #[v] w fun r w' => r = .returned (.int .i64 (M.sz l : Int)) ∧ Below w.heap.size w w' := by
  obtain ⟨ao, cap, rfl, _, _, hc⟩ := hv.open
  exact size_walk ao cap l w hlen hsz hc
end Go.Proofs.Ytifdglehfhoecaa.E

/-
  A list with a key. Conditions: below 2^40 entries.
-/
namespace Go.Proofs.Ytifdglehfhoecaa.E
open Go.RowKit B
/-- a list with a key, as it is told -/
def putl (l : List Ent) (k v : ByteArray) : List Ent := if M.Ok l ∧ M.may k v then M.insert k v (M.del l k) else l
theorem putl_eq {l : List Ent} {k v : ByteArray} {i : Nat} (h : M.Low l k i) (ho : M.Ok l) (hm : M.may k v) : putl l k v = M.put l i k v := by
  unfold putl; rw [if_pos ⟨ho, hm⟩, M.put_ref h ho.2]
theorem putl_no {l : List Ent} {k v : ByteArray} (h : ¬ (M.Ok l ∧ M.may k v)) : putl l k v = l := by unfold putl; rw [if_neg h]
/-- what a call that makes a list answers -/
def Mk (l : List Ent) (w : World) (r : Ending) (w' : World) : Prop := ∃ v, r = .returned v ∧ Ents w' v l ∧ Below w.heap.size w w'
theorem cell_set_same {w : World} {g j : Nat} {u v : Value} (h : w.cell? ⟨g, j, none⟩ = some u) : (w.setCell ⟨g, j, none⟩ v).cell? ⟨g, j, none⟩ = some v := by
  exact World.cell?_setCell_same' _ _ _ (by rw [h]; rfl)
theorem cell_set_ne (w : World) (g j t : Nat) {v : Value} (h : t ≠ j) : (w.setCell ⟨g, t, none⟩ v).cell? ⟨g, j, none⟩ = w.cell? ⟨g, j, none⟩ := by
  exact World.cell?_setCell_other _ _ _ _ (by intro e; injection e with e1 e2 e3; exact h e2)
/-- the lower and the upper part of a slice of entries -/
theorem rw_empty (w : World) (ao : Option Addr) (cap size : Nat) (h : cap ≤ maxLen) : Rw w (.slice ao 0 cap) size [] 0 := ⟨ao, cap, rfl, by simp, Nat.zero_le _, h, fun j hj => by simp at hj⟩
theorem cut_lo {w : World} {ao : Option Addr} {cap : Nat} {l : List Ent} (h : Ents w (.slice ao l.length cap) l) (i : Nat) (hi : i ≤ l.length) : Ents w (.slice ao i i) (l.take i) := by
  have hm : i ≤ maxLen := by
    obtain ⟨_, _, e, _, h1, h2, _⟩ := h
    injection e with e1 e2 e3
    omega
  have := Rw.take h i i hi (Nat.le_refl _) hm
  rw [ecs_take] at this
  unfold Ents
  rwa [List.length_take, Nat.min_eq_left hi]
theorem cut_hi {w : World} {a : Addr} {cap : Nat} {l : List Ent} (h : Ents w (.slice (some a) l.length cap) l) (i : Nat) (hi : i ≤ l.length) : Ents w (.slice (if cap = i then some a else some (a.add (i * 2))) (l.length - i) (cap - i)) (l.drop i) := by
  obtain ⟨ao', cap', e, h0, h1, h2, hc⟩ := id h
  obtain ⟨rfl, rfl⟩ : some a = ao' ∧ cap = cap' := by injection e with e1 e2 e3; exact ⟨e1, e3⟩
  by_cases hl : i < l.length
  · rw [if_neg (by omega)]
    obtain ⟨b, o, e, _⟩ := hc 0 (by rw [h0]; omega)
    obtain rfl := Option.some.inj e
    have := Rw.drop h i (cap - i) hi (by omega) (by omega)
    rw [ecs_drop] at this
    unfold Ents
    rw [List.length_drop, add_lit]
    exact this
  · have hi2 : i = l.length := by omega
    have hd : l.drop i = [] := by rw [hi2]; simp
    rw [hd, hi2, Nat.sub_self]
    exact rw_empty w _ _ 2 (by omega)
theorem new_one (w : World) (e : Ent) (t : TypeId) : Ents (w.alloc (.cells #[.string e.1, .string e.2] t)) (.slice (some ⟨w.heap.size, 0, none⟩) 1 1) [e] :=
  Ents.close (l := [e]) (Nat.le_refl _) (by unfold maxLen; omega) fun j hj => ⟨w.heap.size, 0, rfl, by
    obtain rfl : j = 0 := by simp at hj; omega
    constructor <;> (rw [World.cell?_alloc_mark]; rfl)⟩
theorem put_three (W : World) (l : List Ent) (k val : ByteArray) (i : Nat) (v0 : Value) (h0 : Ents W v0 (l.take i)) (v2 : Value) (h2 : Ents W v2 (l.drop i)) :
    let vs : List (Value × List Ent) := [(v0, l.take i), (.slice (some ⟨W.heap.size, 0, none⟩) 1 1, [(k, val)]), (v2, l.drop i)]
    ∀ j (_h : j < vs.length), ((W.alloc (.cells #[.string k, .string val] 49)).alloc (.cells #[v0, .slice (some ⟨W.heap.size, 0, none⟩) 1 1, v2] 43)).drew.cell? ⟨W.heap.size + 1, j, none⟩ = some vs[j].1 ∧
      Ents ((W.alloc (.cells #[.string k, .string val] 49)).alloc (.cells #[v0, .slice (some ⟨W.heap.size, 0, none⟩) 1 1, v2] 43)).drew vs[j].1 vs[j].2 := by
  intro vs j hj
  have hs : (W.alloc (.cells #[.string k, .string val] 49)).heap.size = W.heap.size + 1 := by simp
  have hb1 : Below W.heap.size W (W.alloc (.cells #[.string k, .string val] 49)) := (Below.refl _ W).alloc (Nat.le_refl _) _
  obtain ⟨X, hX⟩ : ∃ X, W.alloc (.cells #[.string k, .string val] 49) = X := ⟨_, rfl⟩
  have hone : Ents X (.slice (some ⟨W.heap.size, 0, none⟩) 1 1) [(k, val)] := by rw [← hX]; exact new_one W (k, val) 49
  rw [hX] at hs hb1 ⊢
  rw [← hs]
  have hb2 : Below X.heap.size X (X.alloc (.cells #[v0, .slice (some ⟨W.heap.size, 0, none⟩) 1 1, v2] 43)).drew := ((Below.refl _ X).alloc (Nat.le_refl _) _).drew
  refine ⟨?_, ?_⟩
  · show (X.alloc _).cell? _ = _
    rw [World.cell?_alloc_mark]
    match j, hj with
    | 0, _ => rfl
    | 1, _ => rfl
    | 2, _ => rfl
  · match j, hj with
    | 0, _ => exact (h0.below hb1).below hb2
    | 1, _ => exact hone.below hb2
    | 2, _ => exact (h2.below hb1).below hb2
theorem flat3 (a b c : Value × List Ent) : flat [a, b, c] [a, b, c].length = a.2 ++ (b.2 ++ c.2) := by simp [flat]
theorem put_new {l : List Ent} {i : Nat} {k v : ByteArray} (h : ¬ ∃ hi : i < l.length, l[i].1 = k) : M.put l i k v = l.take i ++ ([(k, v)] ++ l.drop i) := by
  unfold M.put
  have : M.put.has' l i k = false := by
    rw [Bool.eq_false_iff]; intro e; exact h (M.has'_iff.1 e)
  rw [this]; rfl
theorem put_old {l : List Ent} {i : Nat} {k v : ByteArray} (hi : i < l.length) (hk : l[i].1 = k) : M.put l i k v = l.set i (k, v) := by
  unfold M.put
  rw [M.has'_iff.2 ⟨hi, hk⟩, List.set_eq_take_append_cons_drop, if_pos hi]; rfl
set_option maxRecDepth 100000 in
set_option maxHeartbeats 1000000 in
theorem put_walk (ao : Option Addr) (cap : Nat) (l : List Ent) (k val : ByteArray) (w : World) (hv : Ents w (.slice ao l.length cap) l) (hlen : l.length ≤ 1000000000) :
    Calls Try.prog 38 #[.slice ao l.length cap, .string k, .string val] w (Mk (putl l k val) w) := by
  have HV := Lib.hid hv; clear hv
  by_cases ho : M.Ok l
  case neg =>
    have hd : decide (M.Ok l) = false := by simp [ho]
    have HP := Lib.hid (putl_no (k := k) (v := val) fun h => ho h.1)
    have HD := Lib.hid hd; clear hd ho
    go_enter Try.func38, Try.ntmps38
    go_wp2_with fail
    refine (right_any _ l _ HV.out (by omega)).mono ?_
    rintro r w1 ⟨rfl, hb1⟩
    rw [HD.out]
    go_wp2
    go_ret
    exact ⟨_, rfl, by rw [HP.out]; exact HV.out.below hb1, hb1⟩
  have hd : decide (M.Ok l) = true := by simp [ho]
  have HD := Lib.hid hd; have HO := Lib.hid ho
  clear hd ho
  go_enter Try.func38, Try.ntmps38
  go_wp2_with fail
  refine (right_any _ l _ HV.out (by omega)).mono ?_
  rintro r w1 ⟨rfl, hb1⟩
  rw [HD.out]
  go_wp2_with fail
  refine (check_any k val _).mono ?_
  rintro r w1' ⟨rfl, rfl⟩
  by_cases hm : M.may k val
  case neg =>
    rw [if_neg hm]
    have HP := Lib.hid (putl_no (l := l) fun h => hm h.2)
    clear hm
    go_wp2
    go_ret
    exact ⟨_, rfl, by rw [HP.out]; exact HV.out.below hb1, hb1⟩
  rw [if_pos hm]
  have HM := Lib.hid hm; clear hm
  go_wp2_with fail
  refine (find_any _ l k _ (HV.out.below hb1) (by omega)).mono ?_
  rintro r w2 ⟨i, ok, rfl, h1, h2, h3, hb2⟩
  have hb := hb1.trans (hb2.mono hb1.size)
  have HP := Lib.hid (putl_eq (h3 HO.out.2) HO.out HM.out)
  have HV2 := Lib.hid (HV.out.below hb)
  have H2 := Lib.hid h2
  clear hb1 hb2 h2 h3
  rcases ok with _ | _
  · go_wp2_with fail
    obtain ⟨W, hW⟩ : ∃ W, w2.alloc (.cells #[.string k, .string val] 49) = W := ⟨_, rfl⟩
    have c0 : W.cell? ⟨w2.heap.size, 0, none⟩ = some (.string k) := by rw [← hW, World.cell?_alloc_mark]; rfl
    have c1 : W.cell? ⟨w2.heap.size, 1, none⟩ = some (.string val) := by rw [← hW, World.cell?_alloc_mark]; rfl
    have hbW : Below w.heap.size w W := by rw [← hW]; exact hb.alloc hb.size _
    rw [hW]
    have HEW := Lib.hid (HV.out.below hbW)
    clear hW hb HV2
    have hcap : l.length ≤ cap := by obtain ⟨_, _, e, _, h, _⟩ := HV.out; injection e with e1 e2 e3; omega
    have hi0 : (0 : Int) ≤ (i : Int) := Int.natCast_nonneg _
    have hi1 : (i : Int) ≤ (cap : Int) := by omega
    have hi2 : (i : Int) ≤ (l.length : Int) := by omega
    have hi3 : (l.length : Int) ≤ (cap : Int) := by omega
    rcases ao with _ | ⟨b, o, pp⟩
    · have hl0 : l = [] := by
        rcases l with _ | ⟨x, l⟩
        · rfl
        · obtain ⟨ao', _, e, _, _, hc⟩ := HV.out.open
          obtain ⟨b, o, e', _⟩ := hc 0 (by simp)
          rw [e'] at e
          exact absurd (Value.slice.inj e).1 (by simp)
      subst hl0
      obtain rfl : i = 0 := by simpa using h1
      have HLO := Lib.hid (rw_empty W none 0 2 (by unfold maxLen; omega))
      have HHI := Lib.hid (rw_empty W none cap 2 (by obtain ⟨_, _, e, _, _, h, _⟩ := HV.out; injection e with e1 e2 e3; omega))
      have HLEN : ∀ x y z : Value, (flat [(x, List.take 0 []), (y, [(k, val)]), (z, List.drop 0 [])] [(x, List.take 0 []), (y, [(k, val)]), (z, List.drop 0 [])].length).length ≤ 1099511627776 := fun x y z => by rw [flat3]; simp
      have HLEN := Lib.hid (HLEN (.slice none 0 0) (.slice (some ⟨W.heap.size, 0, none⟩) 1 1) (.slice none 0 cap))
      go_region_held3 (fun W' => W'.cell? ⟨w2.heap.size, 0, none⟩ = some (.string k) ∧ W'.cell? ⟨w2.heap.size, 1, none⟩ = some (.string val)) (first | assumption | go_keep | (refine ⟨?_, ?_⟩ <;> (refine bcell (by assumption) ?_; first | assumption | go_keep))) (first | (go_at_call 74; refine (concat_any (W.heap.size + 1) [((.slice none 0 0), List.take 0 []), (.slice (some ⟨W.heap.size, 0, none⟩) 1 1, [(k, val)]), ((.slice none 0 cap), List.drop 0 [])] _ (by simp) HLEN.out (put_three W [] k val 0 _ HLO.out _ HHI.out)).mono ?_; rintro r w3 ⟨v, rfl, hown, hb3⟩))
      have hEn : Ents w3 v _ := Rw.own hown
      rw [flat3] at hEn
      have hEn2 : Ents w3 v (putl [] k val) := by rw [HP.out, put_new (fun h => by have := H2.out.2 h; exact Bool.noConfusion this)]; exact hEn
      have hbZ : Below w.heap.size w w3 := (((hbW.alloc hbW.size _).alloc (by have := hbW.size; simp; omega) _).drew).trans (hb3.mono (by have := hbW.size; show _ ≤ ((W.alloc _).alloc _).heap.size; simp; omega))
      have HEN := Lib.hid hEn2
      clear hEn hEn2 hown hb3
      go_wp2
      go_ret
      exact ⟨_, rfl, HEN.out, hbZ⟩
    have HLO := Lib.hid (cut_lo HEW.out i h1)
    have hhi := cut_hi HEW.out i h1
    have HLEN : ∀ x y z : Value, (flat [(x, l.take i), (y, [(k, val)]), (z, l.drop i)] [(x, l.take i), (y, [(k, val)]), (z, l.drop i)].length).length ≤ 1099511627776 := fun x y z => by rw [flat3]; simp; omega
    by_cases hci : cap = i
    · subst hci
      rw [if_pos rfl, Nat.sub_self] at hhi
      have hli : l.length - cap = 0 := by omega
      rw [hli] at hhi
      have HHI := Lib.hid hhi; clear hhi
      have HLEN := Lib.hid (HLEN (.slice (some ⟨b, o, pp⟩) cap cap) (.slice (some ⟨W.heap.size, 0, none⟩) 1 1) (.slice (some ⟨b, o, pp⟩) 0 0))
      go_region_held3 (fun W' => W'.cell? ⟨w2.heap.size, 0, none⟩ = some (.string k) ∧ W'.cell? ⟨w2.heap.size, 1, none⟩ = some (.string val)) (first | assumption | go_keep | (refine ⟨?_, ?_⟩ <;> (refine bcell (by assumption) ?_; first | assumption | go_keep))) (first | (go_at_call 74; refine (concat_any (W.heap.size + 1) [(.slice (some ⟨b, o, pp⟩) cap cap, l.take cap), (.slice (some ⟨W.heap.size, 0, none⟩) 1 1, [(k, val)]), ((.slice (some ⟨b, o, pp⟩) 0 0), l.drop cap)] _ (by simp) HLEN.out (put_three W l k val cap _ HLO.out _ HHI.out)).mono ?_; rintro r w3 ⟨v, rfl, hown, hb3⟩))
      have hEn : Ents w3 v _ := Rw.own hown
      rw [flat3] at hEn
      have hEn2 : Ents w3 v (putl l k val) := by rw [HP.out, put_new (fun h => by have := H2.out.2 h; exact Bool.noConfusion this)]; exact hEn
      have hbZ : Below w.heap.size w w3 := (((hbW.alloc hbW.size _).alloc (by have := hbW.size; simp; omega) _).drew).trans (hb3.mono (by have := hbW.size; show _ ≤ ((W.alloc _).alloc _).heap.size; simp; omega))
      have HEN := Lib.hid hEn2
      clear hEn hEn2 hown hb3
      go_wp2
      go_ret
      exact ⟨_, rfl, HEN.out, hbZ⟩
    · rw [if_neg hci] at hhi
      have HHI := Lib.hid hhi; clear hhi
      have HLEN := Lib.hid (HLEN (.slice (some ⟨b, o, pp⟩) i i) (.slice (some ⟨W.heap.size, 0, none⟩) 1 1) (.slice (some ((⟨b, o, pp⟩ : Addr).add (i * 2))) (l.length - i) (cap - i)))
      go_region_held3 (fun W' => W'.cell? ⟨w2.heap.size, 0, none⟩ = some (.string k) ∧ W'.cell? ⟨w2.heap.size, 1, none⟩ = some (.string val)) (first | assumption | go_keep | (refine ⟨?_, ?_⟩ <;> (refine bcell (by assumption) ?_; first | assumption | go_keep))) (first | (go_at_call 74; refine (concat_any (W.heap.size + 1) [(.slice (some ⟨b, o, pp⟩) i i, l.take i), (.slice (some ⟨W.heap.size, 0, none⟩) 1 1, [(k, val)]), ((.slice (some ((⟨b, o, pp⟩ : Addr).add (i * 2))) (l.length - i) (cap - i)), l.drop i)] _ (by simp) HLEN.out (put_three W l k val i _ HLO.out _ HHI.out)).mono ?_; rintro r w3 ⟨v, rfl, hown, hb3⟩))
      have hEn : Ents w3 v _ := Rw.own hown
      rw [flat3] at hEn
      have hEn2 : Ents w3 v (putl l k val) := by rw [HP.out, put_new (fun h => by have := H2.out.2 h; exact Bool.noConfusion this)]; exact hEn
      have hbZ : Below w.heap.size w w3 := (((hbW.alloc hbW.size _).alloc (by have := hbW.size; simp; omega) _).drew).trans (hb3.mono (by have := hbW.size; show _ ≤ ((W.alloc _).alloc _).heap.size; simp; omega))
      have HEN := Lib.hid hEn2
      clear hEn hEn2 hown hb3
      go_wp2
      go_ret
      exact ⟨_, rfl, HEN.out, hbZ⟩
  · obtain ⟨hi, hki⟩ := H2.out.1 rfl
    have HKI := Lib.hid hki; clear hki
    go_wp2_with fail
    refine (clone_any _ l _ ((HV2.out.below ((Below.refl _ w2).alloc (Nat.le_refl _) _))) (by intro e; rw [e] at hi; simp at hi) (by omega)).mono ?_
    rintro r w3 ⟨v', rfl, hown, hb3⟩
    have hb4 : Below w.heap.size w w3 := (hb.alloc hb.size _).trans (hb3.mono (by have := hb.size; simp; omega))
    have d0 := hb3.cell (p := ⟨w2.heap.size, 0, none⟩) (by simp)
    have d1 := hb3.cell (p := ⟨w2.heap.size, 1, none⟩) (by simp)
    rw [World.cell?_alloc_mark] at d0 d1
    obtain ⟨hxl, ⟨rfl, hz⟩ | ⟨g, cap', cur, rfl, hg, hh, hn, hcap, hcur, hx⟩⟩ := hown
    · omega
    have hg2 : w2.heap.size < g := by simp at hg; omega
    have hE3 : Ents w3 (.slice (some ⟨g, 0, none⟩) l.length cap') l := Rw.own (base := w.heap.size) ⟨hxl, .inr ⟨g, cap', cur, rfl, by have := hb.size; omega, hh, hn, hcap, hcur, hx⟩⟩
    obtain ⟨ao', cap'', e', _, _, hcl⟩ := hE3.open
    obtain ⟨rfl, rfl⟩ : some (⟨g, 0, none⟩ : Addr) = ao' ∧ cap' = cap'' := by injection e' with a1 a2 a3; exact ⟨a1, a3⟩
    have hcl' : ∀ j (_h : j < l.length), w3.cell? ⟨g, j * 2, none⟩ = some (.string l[j].1) ∧ w3.cell? ⟨g, j * 2 + 1, none⟩ = some (.string l[j].2) := fun j hj => by
      obtain ⟨b, o, e, c0, c1⟩ := hcl j hj
      obtain ⟨rfl, rfl⟩ : g = b ∧ 0 = o := by injection e with e; injection e with a1 a2 a3; exact ⟨a1, a2⟩
      rw [Nat.zero_add] at c0 c1
      exact ⟨c0, c1⟩
    have HCL := Lib.hid hcl'
    obtain ⟨e0, e1⟩ := hcl' i hi
    have f0 := blk_free hh (i * 2)
    have f1 := blk_free hh (i * 2 + 1)
    have HH := Lib.hid hh
    clear hcl hcl' hE3 e' hh hx hcur hxl
    have hW : ∀ j (_h : j < (l.set i (k, val)).length), ∃ b o, (some ⟨g, 0, none⟩ : Option Addr) = some ⟨b, o, none⟩ ∧ ((w3.setCell ⟨g, i * 2, none⟩ (.string k)).setCell ⟨g, i * 2 + 1, none⟩ (.string val)).cell? ⟨b, o + j * 2, none⟩ = some (.string (l.set i (k, val))[j].1) ∧
        ((w3.setCell ⟨g, i * 2, none⟩ (.string k)).setCell ⟨g, i * 2 + 1, none⟩ (.string val)).cell? ⟨b, o + j * 2 + 1, none⟩ = some (.string (l.set i (k, val))[j].2) := fun j hj => by
      refine ⟨g, 0, rfl, ?_⟩
      rw [Nat.zero_add, List.getElem_set]
      have hj' : j < l.length := by simpa using hj
      by_cases hij : i = j
      · subst hij
        rw [if_pos rfl]
        exact ⟨by rw [cell_set_ne _ _ _ _ (by omega), cell_set_same e0], by rw [cell_set_same (by rw [cell_set_ne _ _ _ _ (by omega)]; exact e1)]⟩
      · rw [if_neg hij]
        obtain ⟨z0, z1⟩ := HCL.out j hj'
        exact ⟨by rw [cell_set_ne _ _ _ _ (by omega), cell_set_ne _ _ _ _ (by omega)]; exact z0, by rw [cell_set_ne _ _ _ _ (by omega), cell_set_ne _ _ _ _ (by omega)]; exact z1⟩
    have hEn : Ents ((w3.setCell ⟨g, i * 2, none⟩ (.string k)).setCell ⟨g, i * 2 + 1, none⟩ (.string val)) (.slice (some ⟨g, 0, none⟩) (l.set i (k, val)).length cap') (l.set i (k, val)) := Ents.close (by rw [List.length_set]; exact hn) hcap hW
    have hbZ : Below w.heap.size w ((w3.setCell ⟨g, i * 2, none⟩ (.string k)).setCell ⟨g, i * 2 + 1, none⟩ (.string val)) := (hb4.setCell (p := ⟨g, i * 2, none⟩) (by have := hb.size; simp; omega) _).setCell (p := ⟨g, i * 2 + 1, none⟩) (by have := hb.size; simp; omega) _
    rw [List.length_set, ← put_old hi HKI.out, ← HP.out] at hEn
    have HEN := Lib.hid hEn
    clear hW hEn
    go_wp2
    go_ret
    exact ⟨_, rfl, HEN.out, hbZ⟩
theorem put_any (v : Value) (l : List Ent) (k val : ByteArray) (w : World) (hv : Ents w v l) (hlen : l.length ≤ 1000000000) :
    Calls Try.prog 38 #[v, .string k, .string val] w (Mk (putl l k val) w) := by
  obtain ⟨ao, cap, rfl, _⟩ := hv.open
  exact put_walk ao cap l k val w hv hlen
end Go.Proofs.Ytifdglehfhoecaa.E

/-
  Where a list is cut; a list's bytes. Conditions: below 2^30 entries, below 2^60 bytes.
-/
namespace Go.Proofs.Ytifdglehfhoecaa.E
open Go.RowKit B
theorem new_two (W : World) (o : Obj) (e : Ent) (t : TypeId) : Ents ((W.alloc o).alloc (.cells #[.string e.1, .string e.2] t)) (.slice (some ⟨W.heap.size + 1, 0, none⟩) 1 1) [e] := by
  have := new_one (W.alloc o) e t
  have hs : (W.alloc o).heap.size = W.heap.size + 1 := by simp
  rwa [hs] at this
/-- where a list is cut -/
def Hlf (l : List Ent) (w : World) (r : Ending) (w' : World) : Prop := ∃ k : Nat, r = .returned (.int .i64 (k : Int)) ∧ M.Half l k ∧ Below w.heap.size w w'
/-- no cut before k -/
def Pre (l : List Ent) (k : Nat) : Prop := ∀ j, 1 ≤ j → j < k → 2 * M.sz (l.take j) < M.sz l ∧ j + 1 ≠ l.length
set_option maxRecDepth 100000 in
set_option maxHeartbeats 1000000 in
theorem half_any (v : Value) (l : List Ent) (w : World) (hv : Ents w v l) (hlen : l.length ≤ 1000000000) (hsz : M.sz l ≤ 1152921504606846976) :
    Calls Try.prog 32 #[v] w (Hlf l w) := by
  have hop := hv.open
  have HV := Lib.hid hv; clear hv
  obtain ⟨ao, cap, rfl, _, _, hc⟩ := hop
  have HC := Lib.hid hc; clear hc
  obtain ⟨all, hall⟩ : ∃ t, M.sz l = t := ⟨_, rfl⟩
  have HALL := Lib.hid hall
  rw [hall] at hsz
  go_enter Try.func32, Try.ntmps32
  go_wp2_with fail
  refine (size_any _ l _ HV.out hlen (by omega)).mono ?_
  rintro r w1 ⟨rfl, hb1⟩
  rw [hall]
  clear hall
  go_wp2
  go_loopw [4, 11] (fun n i wr => ∃ k : Nat, k ≤ l.length ∧ i = .int .i64 k ∧ n = .int .i64 (M.sz (l.take k) : Int) ∧ Pre l k ∧ Below w.heap.size w wr) (fun _ i _ => l.length - (intOf i).toNat)
  case atStart => exact ⟨0, Nat.zero_le _, rfl, rfl, fun j _ h => absurd h (by omega), hb1⟩
  case round =>
    obtain ⟨k, hk, rfl, rfl, hpre, hb⟩ := hrel
    have HPRE := Lib.hid hpre; clear hpre
    by_cases hlt : k < l.length
    · obtain ⟨b, o, rfl, hk0, hv0⟩ := HC.out k hlt
      have c0 := (hb.cell (lt_of_cell hk0)).trans hk0
      have c1 := (hb.cell (lt_of_cell hv0)).trans hv0
      have hs := M.sz_snoc l k hlt
      have hle := M.sz_take_le l (k + 1)
      rw [HALL.out] at hle
      obtain ⟨p, hp⟩ : ∃ p, M.sz (l.take k) = p := ⟨_, rfl⟩
      have HP := Lib.hid hp
      have hone : M.sz [l[k]] = 2 + l[k].1.size + l[k].2.size := by rw [M.sz_cons]; rfl
      obtain ⟨z, hz⟩ : ∃ z, M.sz [l[k]] = z := ⟨_, rfl⟩
      rw [← hone, hp, hz] at hs
      rw [hs] at hle
      rw [hp]
      have HS := Lib.hid hs; have HZ := Lib.hid hz
      clear hs hp hz hone hk0 hv0
      have hk0' : (0 : Int) ≤ (k : Int) := Int.natCast_nonneg _
      by_cases h0 : k = 0
      · have H0 := Lib.hid h0
        have hd : ((k : Int) = 0) := by omega
        subst h0
        rw [Nat.zero_mul, Nat.add_zero] at c0 c1
        go_wp2_with fail
        refine (size_any (.slice (some ⟨wr.heap.size + 1, 0, none⟩) 1 1) [l[0]] _ (new_two wr (.cells #[.string l[0].1, .string l[0].2] 49) l[0] 49) (by simp) (by rw [HZ.out]; omega)).mono ?_
        rintro r w2 ⟨rfl, hb2⟩
        rw [HZ.out]
        have hB : Below w.heap.size w w2 := ((hb.alloc hb.size _).alloc (by have := hb.size; simp; omega) _).trans (hb2.mono (by have := hb.size; simp; omega))
        clear hb hb2 c0 c1
        go_wp2
        go_roundw
        case rel => exact ⟨1, by omega, rfl, by rw [HS.out]; go_num, fun j h1 h2 => absurd h2 (by omega), hB⟩
        case measure => simp [intOf]; omega
      · by_cases hA : all ≤ 2 * p
        · have hret : M.Half l k := .inr ⟨by omega, hlt, .inl (by rw [HALL.out, HP.out]; exact hA), fun j a b => (HPRE.out j a b).1⟩
          have HR := Lib.hid hret; clear hret
          go_wp2
          go_ret
          exact ⟨k, rfl, HR.out, hb.alloc hb.size _⟩
        · by_cases hB : k + 1 = l.length
          · have hret : M.Half l k := .inr ⟨by omega, hlt, .inr hB, fun j a b => (HPRE.out j a b).1⟩
            have HR := Lib.hid hret; clear hret
            have hde : decide ((all : Int) ≤ 2 * (p : Int)) = false := by rw [decide_eq_false_iff_not]; omega
            have hbe : ((k : Int) == (l.length : Int) - 1) = true := by rw [beq_iff_eq]; omega
            go_wp2
            go_ret
            exact ⟨k, rfl, HR.out, hb.alloc hb.size _⟩
          · have hnx : Pre l (k + 1) := fun j h1 h2 => by
              rcases Nat.lt_or_ge j k with h | h
              · exact HPRE.out j h1 h
              · obtain rfl : j = k := by omega
                exact ⟨by rw [HALL.out, HP.out]; omega, hB⟩
            have HN := Lib.hid hnx; clear hnx
            have hde : decide ((all : Int) ≤ 2 * (p : Int)) = false := by rw [decide_eq_false_iff_not]; omega
            have hbe : ((k : Int) == (l.length : Int) - 1) = false := by rw [beq_eq_false_iff_ne]; omega
            go_wp2_with fail
            refine (size_any (.slice (some ⟨wr.heap.size + 1, 0, none⟩) 1 1) [l[k]] _ (new_two wr (.cells #[.string l[k].1, .string l[k].2] 49) l[k] 49) (by simp) (by rw [HZ.out]; omega)).mono ?_
            rintro r w2 ⟨rfl, hb2⟩
            rw [HZ.out]
            have hB : Below w.heap.size w w2 := ((hb.alloc hb.size _).alloc (by have := hb.size; simp; omega) _).trans (hb2.mono (by have := hb.size; simp; omega))
            clear hb hb2 c0 c1
            go_wp2
            go_roundw
            case rel => exact ⟨k + 1, by omega, by go_num, by rw [HS.out]; go_num, HN.out, hB⟩
            case measure => simp [intOf]; omega
    · have hret : M.Half l 0 := .inl ⟨by
        have h := HPRE.out (l.length - 1)
        rcases Nat.lt_or_ge l.length 2 with h2 | h2
        · exact h2
        · exact absurd (by omega) (h (by omega) (by omega)).2, rfl⟩
      have HR := Lib.hid hret; clear hret
      go_wp2
      go_ret
      exact ⟨0, rfl, HR.out, hb⟩
end Go.Proofs.Ytifdglehfhoecaa.E

/-
  What is looked at; the document's answers on sizes. Conditions: below 2^30 entries, below 2^60 bytes.
-/
namespace Go.Proofs.Ytifdglehfhoecaa.E
open Go.RowKit B
/-- no more than is looked at -/
def Small (l : List Ent) : Prop := l.length ≤ 60 ∧ ∀ e ∈ l, e.1.size ≤ 60 ∧ e.2.size ≤ 300
def Ovr (l : List Ent) (w : World) (r : Ending) (w' : World) : Prop := ∃ b, r = .returned (.bool b) ∧ (b = false → Small l) ∧ w = w'
theorem over_any (v : Value) (l : List Ent) (w : World) (hv : Ents w v l) : Calls Try.prog 31 #[v] w (Ovr l w) := by
  obtain ⟨ao, cap, rfl, _, _, hc⟩ := hv.open
  have HC := Lib.hid hc; clear hc hv
  by_cases h60 : 60 < l.length
  · go_enter Try.func31, Try.ntmps31
    go_wp2
    go_ret
    exact ⟨true, rfl, fun h => Bool.noConfusion h, rfl⟩
  go_enter Try.func31, Try.ntmps31
  go_wp2
  go_loopw [3] (fun i wr => ∃ k : Nat, k ≤ l.length ∧ i = .int .i64 k ∧ (∀ j (_h : j < l.length), j < k → l[j].1.size ≤ 60 ∧ l[j].2.size ≤ 300) ∧ w = wr) (fun i _ => l.length - (intOf i).toNat)
  case atStart => exact ⟨0, Nat.zero_le _, rfl, fun j _ h => absurd h (by omega), rfl⟩
  case round =>
    obtain ⟨k, hk, rfl, hpre, hw⟩ := hrel
    subst hw
    have HPRE := Lib.hid hpre; clear hpre
    by_cases hlt : k < l.length
    · obtain ⟨b, o, rfl, c0, c1⟩ := HC.out k hlt
      by_cases h1 : 60 < l[k].1.size
      · go_wp2
        go_ret
        exact ⟨true, rfl, fun h => Bool.noConfusion h, rfl⟩
      · by_cases h2 : 300 < l[k].2.size
        · go_wp2
          go_ret
          exact ⟨true, rfl, fun h => Bool.noConfusion h, rfl⟩
        · have hn : ∀ j (_h : j < l.length), j < k + 1 → l[j].1.size ≤ 60 ∧ l[j].2.size ≤ 300 := fun j hj hjk => by
            rcases Nat.lt_or_ge j k with h | h
            · exact HPRE.out j hj h
            · obtain rfl : j = k := by omega
              exact ⟨by omega, by omega⟩
          have HN := Lib.hid hn; clear hn
          go_wp2
          go_roundw
          case rel => exact ⟨k + 1, by omega, by go_num, HN.out, by first | rfl | trivial⟩
          case measure => simp [intOf]; omega
    · have hs : Small l := ⟨by omega, fun e he => by
        obtain ⟨j, hj, rfl⟩ := List.getElem_of_mem he
        exact HPRE.out j hj (by omega)⟩
      have HS := Lib.hid hs; clear hs
      go_wp2
      go_ret
      exact ⟨false, rfl, fun _ => HS.out, rfl⟩
theorem rsize_any (v : Value) (l : List Ent) (w : World) (hv : Ents w v l) (hlen : l.length ≤ 1000000000) (hsz : M.sz l ≤ 1152921504606846976) :
    Calls Try.prog 35 #[v] w fun r w' => r = .returned (.int .i64 (M.sz l : Int)) ∧ Below w.heap.size w w' := by
  obtain ⟨ao, cap, rfl, _, _, hc⟩ := hv.open
  have HC := Lib.hid hc; clear hc hv
  go_enter Try.func35, Try.ntmps35
  go_wp2
  go_loopw [3, 4] (fun n i wr => ∃ k : Nat, k ≤ l.length ∧ i = .int .i64 k ∧ n = .int .i64 (M.sz (l.take k) : Int) ∧ Below w.heap.size w wr) (fun _ i _ => l.length - (intOf i).toNat)
  case atStart => exact ⟨0, Nat.zero_le _, rfl, rfl, Below.refl _ _⟩
  case round =>
    obtain ⟨k, hk, rfl, rfl, hb⟩ := hrel
    by_cases hlt : k < l.length
    · obtain ⟨b, o, rfl, hk0, hv0⟩ := HC.out k hlt
      have c0 := (hb.cell (lt_of_cell hk0)).trans hk0
      have c1 := (hb.cell (lt_of_cell hv0)).trans hv0
      clear hk0 hv0
      have hs := M.sz_snoc l k hlt
      have hle := M.sz_take_le l (k + 1)
      obtain ⟨p, hp⟩ : ∃ p, M.sz (l.take k) = p := ⟨_, rfl⟩
      obtain ⟨q, hq⟩ : ∃ q, M.sz (l.take (k + 1)) = q := ⟨_, rfl⟩
      rw [hp, hq] at hs
      rw [hq] at hle
      rw [hp]
      have hk0 : (0 : Int) ≤ (k : Int) := Int.natCast_nonneg _
      have hk1 : (k : Int) < (l.length : Int) := by omega
      have s1 : IntKind.i64.wrap ((p : Int) + 2) = (p : Int) + 2 := IntWalk.i64_in _ (by omega)
      have s2 : IntKind.i64.wrap ((p : Int) + 2 + (l[k].1.size : Int)) = (p : Int) + 2 + (l[k].1.size : Int) := IntWalk.i64_in _ (by omega)
      have s3 : IntKind.i64.wrap ((p : Int) + 2 + (l[k].1.size : Int) + (l[k].2.size : Int)) = (q : Int) := by rw [IntWalk.i64_in _ (by omega)]; omega
      have HS := Lib.hid hs; have HQ := Lib.hid hq
      have HLE := Lib.hid (show q ≤ 1152921504606846976 by omega)
      clear hs hp hq hle
      go_upto_region 5 with (fail)
      go_quiet (fail)
      clear s1 s2 s3
      go_wp2
      go_roundw
      case rel => exact ⟨k + 1, by omega, by go_num, by rw [HQ.out], ⟨hb.os, hb.tape, hb.output, hb.size, hb.block⟩⟩
      case measure => simp [intOf]; omega
    · have hkk : k = l.length := by omega
      have HK := Lib.hid hkk; clear hkk
      go_wp2
      go_ret
      exact ⟨by rw [HK.out, List.take_length]; rfl, hb⟩
theorem rhalf_any (v : Value) (l : List Ent) (w : World) (hv : Ents w v l) (hlen : l.length ≤ 1000000000) (hsz : M.sz l ≤ 1152921504606846976) :
    Calls Try.prog 36 #[v] w (Hlf l w) := by
  have hop := hv.open
  have HV := Lib.hid hv; clear hv
  obtain ⟨ao, cap, rfl, hcp, hcm, _⟩ := hop
  by_cases h2 : l.length < 2
  · have HR := Lib.hid (show M.Half l 0 from .inl ⟨h2, rfl⟩)
    go_enter Try.func36, Try.ntmps36
    go_wp2
    go_ret
    exact ⟨0, rfl, HR.out, Below.refl _ _⟩
  obtain ⟨all, hall⟩ : ∃ t, M.sz l = t := ⟨_, rfl⟩
  have HALL := Lib.hid hall
  rw [hall] at hsz
  clear hall
  go_enter Try.func36, Try.ntmps36
  go_wp2
  go_loopw [3] (fun i wr => ∃ k : Nat, 1 ≤ k ∧ k ≤ l.length ∧ i = .int .i64 k ∧ (∀ j, 1 ≤ j → j < k → 2 * M.sz (l.take j) < M.sz l) ∧ Below w.heap.size w wr) (fun i _ => l.length - (intOf i).toNat)
  case atStart => exact ⟨1, Nat.le_refl _, by omega, rfl, fun j _ h => absurd h (by omega), Below.refl _ _⟩
  case round =>
    obtain ⟨k, hk1, hk, rfl, hpre, hb⟩ := hrel
    have HPRE := Lib.hid hpre; clear hpre
    by_cases hlt : k < l.length
    · have hle := M.sz_take_le l k
      obtain ⟨p, hp⟩ : ∃ p, M.sz (l.take k) = p := ⟨_, rfl⟩
      have HP := Lib.hid hp
      rw [HALL.out, hp] at hle
      clear hp
      have hcut : Ents wr (.slice ao k cap) (l.take k) := by
        have := Rw.take (HV.out.below hb) k cap (by omega) (by omega) hcm
        rw [ecs_take] at this
        unfold Ents
        rwa [List.length_take, Nat.min_eq_left hk]
      have HCUT := Lib.hid hcut; clear hcut
      have hkz : (0 : Int) ≤ (k : Int) := Int.natCast_nonneg _
      have hkc : (k : Int) ≤ (cap : Int) := by omega
      go_wp2_with fail
      refine (rsize_any _ (l.take k) _ HCUT.out (by simp; omega) (by rw [HP.out]; omega)).mono ?_
      rintro r w1 ⟨rfl, hb1⟩
      rw [HP.out]
      have hb1 := hb.trans (hb1.mono hb.size)
      clear hb
      go_wp2_with fail
      refine (rsize_any _ l _ (HV.out.below hb1) hlen (by rw [HALL.out]; exact hsz)).mono ?_
      rintro r w2 ⟨rfl, hb2⟩
      rw [HALL.out]
      have hb2 := hb1.trans (hb2.mono hb1.size)
      clear hb1
      by_cases hA : all ≤ 2 * p
      · have HR := Lib.hid (show M.Half l k from .inr ⟨hk1, hlt, .inl (by rw [HALL.out, HP.out]; exact hA), HPRE.out⟩)
        go_wp2
        go_ret
        exact ⟨k, rfl, HR.out, hb2⟩
      · have hn : ∀ j, 1 ≤ j → j < k + 1 → 2 * M.sz (l.take j) < M.sz l := fun j h1 h2 => by
          rcases Nat.lt_or_ge j k with h | h
          · exact HPRE.out j h1 h
          · obtain rfl : j = k := by omega
            rw [HALL.out, HP.out]; omega
        have HN := Lib.hid hn; clear hn
        go_wp2
        go_roundw
        case rel => exact ⟨k + 1, by omega, by omega, by go_num, HN.out, hb2⟩
        case measure => simp [intOf]; omega
    · have HR := Lib.hid (show M.Half l (l.length - 1) from .inr ⟨by omega, by omega, .inr (by omega), fun j h1 h2 => HPRE.out j h1 (by omega)⟩)
      have hl1 : ((l.length : Int) - 1) = ((l.length - 1 : Nat) : Int) := by omega
      have HL := Lib.hid hl1; clear hl1
      go_wp2
      go_ret
      exact ⟨l.length - 1, ret_int HL.out, HR.out, hb⟩
end Go.Proofs.Ytifdglehfhoecaa.E
