/-
  Nodes as plain lists: what may be, how many bytes, the bytes, reading them back. Conditions: none. No walk is here.
-/
import Derived.Test.YtifdglehfhoecaaEDecMath
import Derived.Test.YtifdglehfhoecaaCodecLaw
import Derived.Test.YtifdglehfhoecaaLawOrder
namespace Go.Proofs.Ytifdglehfhoecaa.M
structure Nd where
  leaf : Bool
  es : List Ent
  ks : List Int
  ss : List ByteArray
theorem nd_ext {a b : Nd} (h1 : a.leaf = b.leaf) (h2 : a.es = b.es) (h3 : a.ks = b.ks) (h4 : a.ss = b.ss) : a = b := by
  cases a; cases b; simp_all
instance : DecidableEq Nd := fun a b =>
  if h1 : a.leaf = b.leaf then if h2 : a.es = b.es then if h3 : a.ks = b.ks then if h4 : a.ss = b.ss then isTrue (nd_ext h1 h2 h3 h4)
    else isFalse (fun e => h4 (by rw [e])) else isFalse (fun e => h3 (by rw [e])) else isFalse (fun e => h2 (by rw [e])) else isFalse (fun e => h1 (by rw [e]))
/-- keys alone, as entries without a value -/
def asE (ss : List ByteArray) : List Ent := ss.map fun s => (s, ByteArray.empty)
def Oks (ss : List ByteArray) : Prop := Ok (asE ss)
def okk (k : Int) : Prop := 2 ≤ k ∧ k ≤ 4294967295
instance (k : Int) : Decidable (okk k) := by unfold okk; exact inferInstance
def Okk (ks : List Int) : Prop := ∀ k ∈ ks, okk k
instance (l : List ByteArray) : Decidable (Oks l) := by unfold Oks; exact inferInstance
instance (l : List Int) : Decidable (Okk l) := by unfold Okk; exact inferInstance
def NOk (n : Nd) : Prop := (n.leaf = true → Ok n.es ∧ n.ks = [] ∧ n.ss = []) ∧ (n.leaf = false → n.es = [] ∧ n.ss.length + 1 = n.ks.length ∧ Okk n.ks ∧ Oks n.ss)
instance (n : Nd) : Decidable (NOk n) := by unfold NOk; exact inferInstance
theorem asE_len (ss : List ByteArray) : (asE ss).length = ss.length := by simp [asE]
theorem asE_take (ss : List ByteArray) (k : Nat) : asE (ss.take k) = (asE ss).take k := by simp [asE, List.map_take]
theorem asE_get (ss : List ByteArray) (k : Nat) (h : k < ss.length) : (asE ss)[k]'(by rw [asE_len]; exact h) = (ss[k], ByteArray.empty) := by simp [asE]
theorem oks_nil : Oks [] := ⟨fun e h => by simp [asE] at h, List.Pairwise.nil⟩
theorem oks_take_succ {ss : List ByteArray} {k : Nat} (h : k < ss.length) : Oks (ss.take (k + 1)) ↔ Oks (ss.take k) ∧ may ss[k] ByteArray.empty ∧ (0 < k → klt (ss[k - 1]'(by omega)) ss[k]) := by
  unfold Oks
  rw [asE_take, asE_take, ok_take_succ (by rw [asE_len]; exact h)]
  rw [asE_get ss k h]
  constructor
  · rintro ⟨h1, h2, h3⟩
    refine ⟨h1, h2, fun h0 => ?_⟩
    have := h3 h0
    rwa [asE_get ss (k - 1) (by omega)] at this
  · rintro ⟨h1, h2, h3⟩
    refine ⟨h1, h2, fun h0 => ?_⟩
    rw [asE_get ss (k - 1) (by omega)]
    exact h3 h0
theorem oks_take {ss : List ByteArray} (h : Oks ss) (k : Nat) : Oks (ss.take k) := by
  unfold Oks; rw [asE_take]; exact ok_take h k
theorem oks_drop {ss : List ByteArray} (h : Oks ss) (k : Nat) : Oks (ss.drop k) := by
  unfold Oks
  have : asE (ss.drop k) = (asE ss).drop k := by simp [asE, List.map_drop]
  rw [this]
  exact ⟨fun e he => h.1 e (List.mem_of_mem_drop he), List.Pairwise.drop h.2⟩
theorem ok_drop {l : List Ent} (h : Ok l) (k : Nat) : Ok (l.drop k) := ⟨fun e he => h.1 e (List.mem_of_mem_drop he), List.Pairwise.drop h.2⟩
theorem oks_mem {ss : List ByteArray} (h : Oks ss) : ∀ s ∈ ss, 1 ≤ s.size ∧ s.size ≤ 16 := fun s hs => by
  have := h.1 (s, ByteArray.empty) (by simp [asE]; exact hs)
  unfold may at this
  simp only at this
  omega
theorem oks_lt {ss : List ByteArray} (h : Oks ss) {i j : Nat} (hi : i < j) (hj : j < ss.length) : klt (ss[i]'(by omega)) ss[j] := by
  have := asc_lt h.2 hi (by rw [asE_len]; exact hj)
  rwa [asE_get ss i (by omega), asE_get ss j hj] at this
/-- how many bytes keys and numbers take -/
def szs (ss : List ByteArray) : Nat := (ss.map fun s => 5 + s.size).sum
theorem szs_append (a b : List ByteArray) : szs (a ++ b) = szs a + szs b := by simp [szs]
theorem szs_snoc (ss : List ByteArray) (k : Nat) (h : k < ss.length) : szs (ss.take (k + 1)) = szs (ss.take k) + (5 + ss[k].size) := by
  rw [List.take_succ_eq_append_getElem h, szs_append]; simp only [szs, List.map_cons, List.map_nil, List.sum_cons, List.sum_nil]; omega
theorem szs_take_le (ss : List ByteArray) (k : Nat) : szs (ss.take k) ≤ szs ss := by
  have h := List.take_append_drop k ss
  have : szs ss = szs (ss.take k) + szs (ss.drop k) := by
    conv => lhs; rw [← h]
    exact szs_append _ _
  omega
def nsz (n : Nd) : Nat := if n.leaf = true then sz n.es else 4 + szs n.ss
/-- a number's four bytes -/
def p4 (k : Int) : List UInt8 := C.pb 4 k.toNat
def f4 (k : Int) : Prop := 0 ≤ k ∧ k < 4294967296
theorem p4_len (k : Int) : (p4 k).length = 4 := C.pb_len 4 _
theorem p4_inj {k l : Int} (hk : f4 k) (hl : f4 l) (h : p4 k = p4 l) : k = l := by
  unfold f4 at hk hl
  have := C.pb_inj 4 k.toNat l.toNat (by omega) (by omega) h
  omega
theorem p4_be (l : List UInt8) (h : l.length = 4) : p4 (C.be l : Nat) = l := by
  have := C.pb_be l
  rw [h] at this
  unfold p4
  rw [Int.toNat_natCast]
  exact this
theorem be_f4 (l : List UInt8) (h : l.length = 4) : f4 (C.be l : Nat) := by
  have := C.be_lt l
  rw [h] at this
  unfold f4
  omega
abbrev KV := ByteArray × Int
def encP (l : List KV) : List UInt8 := l.flatMap fun p => tbl p.1 ++ p4 p.2
def FitP (l : List KV) : Prop := ∀ p ∈ l, p.1.size ≤ 255 ∧ f4 p.2
theorem encP_cons (p : KV) (l : List KV) : encP (p :: l) = tbl p.1 ++ (p4 p.2 ++ encP l) := by simp [encP]
theorem encP_append (a b : List KV) : encP (a ++ b) = encP a ++ encP b := by simp [encP]
theorem encP_snoc2 (a : List KV) (k : ByteArray) (v : Int) : encP (a ++ [(k, v)]) = encP a ++ (tbl k ++ p4 v) := by rw [encP_append]; simp [encP]
theorem fitP_snoc {a : List KV} {k : ByteArray} {v : Int} (h : FitP a) (hk : k.size ≤ 255) (hv : f4 v) : FitP (a ++ [(k, v)]) := fun e he => by
  rcases List.mem_append.1 he with he | he
  · exact h e he
  · rw [List.mem_singleton.1 he]; exact ⟨hk, hv⟩
theorem encP_prefix : ∀ {a l : List KV} {r : List UInt8}, FitP a → FitP l → encP l = encP a ++ r → ∃ l', l = a ++ l' ∧ encP l' = r ∧ FitP l'
  | [], l, r, _, hl, h => ⟨l, rfl, by simpa [encP] using h, hl⟩
  | e :: a, [], r, _, _, h => by rw [encP_cons] at h; simp [encP, tbl] at h
  | e :: a, f :: l, r, ha, hl, h => by
    rw [encP_cons, encP_cons, List.append_assoc, List.append_assoc] at h
    obtain ⟨h1, h2⟩ := tbl_inj (hl f (by simp)).1 (ha e (by simp)).1 h
    obtain ⟨h3, h4⟩ := List.append_inj h2 (by rw [p4_len, p4_len])
    have h3' := p4_inj (hl f (by simp)).2 (ha e (by simp)).2 h3
    obtain ⟨l', h5, h6, h7⟩ := encP_prefix (a := a) (l := l) (r := r) (fun x hx => ha x (by simp [hx])) (fun x hx => hl x (by simp [hx])) h4
    exact ⟨l', by rw [h5, List.cons_append]; congr 1; exact Prod.ext h1 h3', h6, h7⟩
theorem encP_len (l : List KV) : (encP l).length = szs (l.map (·.1)) := by
  induction l with
  | nil => rfl
  | cons e l ih => rw [encP_cons, List.length_append, List.length_append, tbl_len, p4_len, ih]; simp [szs]; omega
/-- of which the bytes are just that: the first number, then keys with numbers -/
def DecP (b : List UInt8) (k : Int) (l : List KV) : Prop := f4 k ∧ FitP l ∧ b = p4 k ++ encP l
theorem decP_inj {b : List UInt8} {k k' : Int} {l l' : List KV} (h : DecP b k l) (h' : DecP b k' l') : k = k' ∧ l = l' := by
  obtain ⟨h1, h2, h3⟩ := h
  obtain ⟨k1, k2, k3⟩ := h'
  obtain ⟨e1, e2⟩ := List.append_inj (h3.symm.trans k3) (by rw [p4_len, p4_len])
  refine ⟨p4_inj h1 k1 e1, ?_⟩
  obtain ⟨r, r1, r2, _⟩ := encP_prefix (a := l') (l := l) (r := []) k2 h2 (by rw [List.append_nil]; exact e2)
  rcases r with _ | ⟨p, r⟩
  · rw [r1, List.append_nil]
  · rw [encP_cons] at r2; simp [tbl] at r2
theorem no_decP {b s : List UInt8} {k : Int} {acc : List KV} (_hk : f4 k) (ha : FitP acc) (hb : b = p4 k ++ (encP acc ++ s)) (hs : s ≠ []) (hn : ∀ (x : ByteArray) (q r : List UInt8), x.size ≤ 255 → q.length = 4 → s ≠ tbl x ++ (q ++ r)) : ∀ k' l, ¬ DecP b k' l := by
  rintro k' l ⟨h1, h2, h3⟩
  obtain ⟨_, e2⟩ := List.append_inj (h3.symm.trans hb) (by rw [p4_len, p4_len])
  obtain ⟨l', h4, h5, h6⟩ := encP_prefix ha h2 e2
  rcases l' with _ | ⟨p, l'⟩
  · exact hs (by rw [← h5]; rfl)
  · rw [encP_cons] at h5
    exact hn p.1 (p4 p.2) _ (h6 p (by simp)).1 (p4_len _) h5.symm
/-- a node of these -/
def mkI (k : Int) (l : List KV) : Nd := ⟨false, [], k :: l.map (·.2), l.map (·.1)⟩
def mkL (l : List Ent) : Nd := ⟨true, l, [], []⟩
theorem ok_leaf {n : Nd} (h : NOk n) (hl : n.leaf = true) : Ok n.es ∧ n = mkL n.es := by
  obtain ⟨h1, h2, h3⟩ := h.1 hl
  exact ⟨h1, nd_ext hl rfl h2 h3⟩
theorem ok_inner {n : Nd} (h : NOk n) (hl : n.leaf = false) : ∃ k l, n = mkI k l ∧ n.ks = k :: n.ks.tail ∧ l = n.ss.zip n.ks.tail := by
  obtain ⟨h1, h2, h3, h4⟩ := h.2 hl
  rcases hk : n.ks with _ | ⟨k, kr⟩
  · rw [hk] at h2; simp at h2
  · rw [hk] at h2
    have hlen : n.ss.length = kr.length := by simpa using h2
    refine ⟨k, n.ss.zip kr, nd_ext hl h1 ?_ ?_, rfl, rfl⟩
    · show n.ks = k :: (n.ss.zip kr).map (·.2)
      rw [hk]
      congr 1
      exact (List.map_snd_zip (by omega)).symm
    · show n.ss = (n.ss.zip kr).map (·.1)
      exact (List.map_fst_zip (by omega)).symm
theorem okI_fit {k : Int} {l : List KV} (h : NOk (mkI k l)) : f4 k ∧ FitP l := by
  obtain ⟨_, _, h3, h4⟩ := h.2 rfl
  refine ⟨?_, fun p hp => ⟨?_, ?_⟩⟩
  · have := h3 k (by simp [mkI]); unfold okk at this; unfold f4; omega
  · have := oks_mem h4 p.1 (List.mem_map.2 ⟨p, hp, rfl⟩); omega
  · have := h3 p.2 (by simp [mkI]; exact .inr ⟨p.1, hp⟩); unfold okk at this; unfold f4; omega
/-- a body -/
def bodyN (n : Nd) : List UInt8 := if n.leaf = true then enc n.es else p4 (n.ks.headD 0) ++ encP (n.ss.zip n.ks.tail)
theorem bodyL (l : List Ent) : bodyN (mkL l) = enc l := rfl
theorem zip_maps (l : List KV) : (l.map (·.1)).zip (l.map (·.2)) = l := by
  induction l with
  | nil => rfl
  | cons p l ih => simp [ih]
theorem bodyI (k : Int) (l : List KV) : bodyN (mkI k l) = p4 k ++ encP l := by
  show p4 k ++ encP ((l.map (·.1)).zip (l.map (·.2))) = _
  rw [zip_maps]
theorem body_len {n : Nd} (h : NOk n) : (bodyN n).length = nsz n := by
  rcases hl : n.leaf with _ | _
  · obtain ⟨k, l, e, _, _⟩ := ok_inner h hl
    rw [e, bodyI, List.length_append, p4_len, encP_len]; rfl
  · obtain ⟨_, e⟩ := ok_leaf h hl
    rw [e, bodyL, enc_len]; rfl
def kindN (n : Nd) : Int := if n.leaf = true then 1 else 2
/-- the node of a body -/
def DecN (kind : Int) (b : List UInt8) (n : Nd) : Prop := NOk n ∧ nsz n ≤ 240 ∧ bodyN n = b ∧ kindN n = kind
theorem decN_inj {kind : Int} {b : List UInt8} {n m : Nd} (h : DecN kind b n) (k : DecN kind b m) : n = m := by
  obtain ⟨h1, h2, h3, h4⟩ := h
  obtain ⟨k1, k2, k3, k4⟩ := k
  have hkk : n.leaf = m.leaf := by
    unfold kindN at h4 k4
    rcases hn : n.leaf with _ | _ <;> rcases hm : m.leaf with _ | _ <;> simp [hn] at h4 <;> simp [hm] at k4 <;> first | rfl | omega
  rcases hl : n.leaf with _ | _
  · obtain ⟨a, l, e, _, _⟩ := ok_inner h1 hl
    obtain ⟨a', l', e', _, _⟩ := ok_inner k1 (hkk.symm.trans hl)
    rw [e] at h1 h3
    rw [e'] at k1 k3
    obtain ⟨f1, f2⟩ := okI_fit h1
    obtain ⟨f3, f4⟩ := okI_fit k1
    rw [bodyI] at h3 k3
    obtain ⟨rfl, rfl⟩ := decP_inj ⟨f1, f2, h3.symm⟩ ⟨f3, f4, k3.symm⟩
    rw [e, e']
  · obtain ⟨o1, e⟩ := ok_leaf h1 hl
    obtain ⟨o2, e'⟩ := ok_leaf k1 (hkk.symm.trans hl)
    rw [e] at h3
    rw [e'] at k3
    rw [bodyL] at h3 k3
    rw [e, e', enc_inj (ok_fits o1) (ok_fits o2) (h3.trans k3.symm)]
end Go.Proofs.Ytifdglehfhoecaa.M
