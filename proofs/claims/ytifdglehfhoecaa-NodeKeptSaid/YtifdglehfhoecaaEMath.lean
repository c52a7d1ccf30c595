/-
  Keys with values in order, as plain lists: where a key stands, what is put, deleted, where a list is cut. Conditions: none. No program in sight.
-/
import GoSem.Op.String
namespace Go.Proofs.Ytifdglehfhoecaa.M
/-- a key and a value -/
abbrev Ent := ByteArray × ByteArray
abbrev bt (s : ByteArray) : List UInt8 := s.data.toList
theorem bt_inj {a b : ByteArray} (h : bt a = bt b) : a = b := by apply ByteArray.ext; exact Array.ext' h
theorem less_irrefl (l : List UInt8) : Op.bytesLess l l = false := by
  induction l with
  | nil => rfl
  | cons a l ih => rw [Op.bytesLess, ih]; simp
theorem less_trans : ∀ a b c : List UInt8, Op.bytesLess a b = true → Op.bytesLess b c = true → Op.bytesLess a c = true
  | _, [], _, h, _ => by cases ‹List UInt8› <;> simp [Op.bytesLess] at h
  | _, _ :: _, [], _, h => by simp [Op.bytesLess] at h
  | [], _ :: _, _ :: _, _, _ => rfl
  | a :: x, b :: y, c :: z, h1, h2 => by
    simp only [Op.bytesLess, Bool.or_eq_true, Bool.and_eq_true, decide_eq_true_eq, beq_iff_eq] at h1 h2 ⊢
    rcases h1 with h1 | ⟨rfl, h1⟩
    · rcases h2 with h2 | ⟨rfl, h2⟩
      · exact .inl (UInt8.lt_trans h1 h2)
      · exact .inl h1
    · rcases h2 with h2 | ⟨rfl, h2⟩
      · exact .inl h2
      · exact .inr ⟨rfl, less_trans x y z h1 h2⟩
theorem less_total : ∀ a b : List UInt8, Op.bytesLess a b = true ∨ a = b ∨ Op.bytesLess b a = true
  | [], [] => .inr (.inl rfl)
  | [], _ :: _ => .inl rfl
  | _ :: _, [] => .inr (.inr rfl)
  | a :: x, b :: y => by
    simp only [Op.bytesLess, Bool.or_eq_true, Bool.and_eq_true, decide_eq_true_eq, beq_iff_eq, List.cons.injEq]
    have h3 : a < b ∨ b < a ∨ a = b := by
      rw [UInt8.lt_iff_toNat_lt, UInt8.lt_iff_toNat_lt, ← UInt8.toNat_inj]; omega
    rcases h3 with h | h | rfl
    · exact .inl (.inl h)
    · exact .inr (.inr (.inl h))
    · rcases less_total x y with h | h | h
      · exact .inl (.inr ⟨rfl, h⟩)
      · exact .inr (.inl ⟨rfl, h⟩)
      · exact .inr (.inr (.inr ⟨rfl, h⟩))
/-- a key is less -/
def klt (a b : ByteArray) : Prop := Op.bytesLess (bt a) (bt b) = true
instance (a b : ByteArray) : Decidable (klt a b) := by unfold klt; exact inferInstance
theorem klt_irrefl (a : ByteArray) : ¬ klt a a := by unfold klt; rw [less_irrefl]; simp
theorem klt_trans {a b c : ByteArray} (h : klt a b) (k : klt b c) : klt a c := less_trans _ _ _ h k
theorem klt_total (a b : ByteArray) : klt a b ∨ a = b ∨ klt b a := by
  rcases less_total (bt a) (bt b) with h | h | h
  · exact .inl h
  · exact .inr (.inl (bt_inj h))
  · exact .inr (.inr h)
theorem klt_asymm {a b : ByteArray} (h : klt a b) : ¬ klt b a := fun k => klt_irrefl a (klt_trans h k)
theorem klt_ne {a b : ByteArray} (h : klt a b) : a ≠ b := fun e => klt_irrefl b (e ▸ h)
theorem klt_of_not {a b : ByteArray} (h : ¬ klt a b) (hn : a ≠ b) : klt b a := ((klt_total a b).resolve_left h).resolve_left hn
/-- keys that rise -/
def Asc (l : List Ent) : Prop := l.Pairwise fun a b => klt a.1 b.1
/-- may there be a key with a value? -/
def may (k v : ByteArray) : Prop := 1 ≤ k.size ∧ k.size ≤ 16 ∧ v.size ≤ 40
instance (k v : ByteArray) : Decidable (may k v) := by unfold may; exact inferInstance
/-- a right list -/
def Ok (l : List Ent) : Prop := (∀ e ∈ l, may e.1 e.2) ∧ Asc l
instance (l : List Ent) : Decidable (Asc l) := by unfold Asc; exact inferInstance
instance (l : List Ent) : Decidable (Ok l) := by unfold Ok; exact inferInstance
/-- by neighbours -/
theorem asc_iff (l : List Ent) : Asc l ↔ ∀ i (h : i + 1 < l.length), klt l[i].1 l[i + 1].1 := by
  induction l with
  | nil => simp [Asc]
  | cons a l ih =>
    constructor
    · intro h i hi
      obtain ⟨h1, h2⟩ := List.pairwise_cons.1 h
      rcases i with _ | i
      · exact h1 _ (List.getElem_mem _)
      · exact (ih.1 h2) i (by simpa using hi)
    · intro h
      have h2 : Asc l := ih.2 fun i hi => h (i + 1) (by simpa using hi)
      refine List.pairwise_cons.2 ⟨fun b hb => ?_, h2⟩
      rcases l with _ | ⟨c, l⟩
      · simp at hb
      · have hc : klt a.1 c.1 := h 0 (by simp)
        rcases List.mem_cons.1 hb with rfl | hb
        · exact hc
        · exact klt_trans hc ((List.pairwise_cons.1 h2).1 b hb)
theorem asc_lt {l : List Ent} (h : Asc l) {i j : Nat} (hi : i < j) (hj : j < l.length) : klt (l[i]'(by omega)).1 l[j].1 :=
  List.pairwise_iff_getElem.1 h i j (by omega) hj hi
/-- rising lists with the same members are the same -/
theorem asc_ext : ∀ (a b : List Ent), Asc a → Asc b → (∀ e, e ∈ a ↔ e ∈ b) → a = b
  | [], [], _, _, _ => rfl
  | [], y :: b, _, _, h => by have := (h y).2 (by simp); simp at this
  | x :: a, [], _, _, h => by have := (h x).1 (by simp); simp at this
  | x :: a, y :: b, ha, hb, h => by
    obtain ⟨ha1, ha2⟩ := List.pairwise_cons.1 ha
    obtain ⟨hb1, hb2⟩ := List.pairwise_cons.1 hb
    have hxy : x = y := by
      rcases List.mem_cons.1 ((h x).1 (by simp)) with e | hx
      · exact e
      · rcases List.mem_cons.1 ((h y).2 (by simp)) with e | hy
        · exact e.symm
        · exact absurd (ha1 y hy) (klt_asymm (hb1 x hx))
    subst hxy
    congr 1
    refine asc_ext a b ha2 hb2 fun e => ⟨fun he => ?_, fun he => ?_⟩
    · rcases List.mem_cons.1 ((h e).1 (by simp [he])) with rfl | h'
      · exact absurd (ha1 e he) (klt_irrefl _)
      · exact h'
    · rcases List.mem_cons.1 ((h e).2 (by simp [he])) with rfl | h'
      · exact absurd (hb1 e he) (klt_irrefl _)
      · exact h'
/-- where a key stands, or would -/
def Low (l : List Ent) (k : ByteArray) (i : Nat) : Prop := i ≤ l.length ∧ (∀ t (h : t < l.length), t < i → klt l[t].1 k) ∧ (∀ t (h : t < l.length), i ≤ t → ¬ klt l[t].1 k)
theorem low_unique {l : List Ent} {k : ByteArray} {i j : Nat} (h : Low l k i) (h' : Low l k j) : i = j := by
  obtain ⟨a1, a2, a3⟩ := h
  obtain ⟨b1, b2, b3⟩ := h'
  rcases Nat.lt_trichotomy i j with h | h | h
  · exact absurd (b2 i (by omega) h) (a3 i (by omega) (Nat.le_refl _))
  · exact h
  · exact absurd (a2 j (by omega) h) (b3 j (by omega) (Nat.le_refl _))
theorem low_ex (l : List Ent) (k : ByteArray) (h : Asc l) : ∃ i, Low l k i := by
  induction l with
  | nil => exact ⟨0, by simp, fun t h => by simp at h, fun t h => by simp at h⟩
  | cons a l ih =>
    obtain ⟨h1, h2⟩ := List.pairwise_cons.1 h
    by_cases ha : klt a.1 k
    · obtain ⟨i, i1, i2, i3⟩ := ih h2
      refine ⟨i + 1, by simpa using i1, fun t ht hti => ?_, fun t ht hti => ?_⟩
      · rcases t with _ | t
        · exact ha
        · exact i2 t (by simpa using ht) (by omega)
      · rcases t with _ | t
        · omega
        · exact i3 t (by simpa using ht) (by omega)
    · refine ⟨0, by simp, fun t ht hti => by omega, fun t ht _ => ?_⟩
      rcases t with _ | t
      · exact ha
      · intro hk
        exact ha (klt_trans (h1 _ (List.getElem_mem _)) hk)
/-- is the key there? -/
def has (l : List Ent) (k : ByteArray) : Prop := ∃ v, (k, v) ∈ l
theorem low_has {l : List Ent} {k : ByteArray} {i : Nat} (h : Low l k i) (ha : Asc l) : has l k ↔ ∃ hi : i < l.length, l[i].1 = k := by
  obtain ⟨a1, a2, a3⟩ := h
  constructor
  · rintro ⟨v, hv⟩
    obtain ⟨t, ht, e⟩ := List.getElem_of_mem hv
    have h1 : ¬ t < i := fun hti => by have := a2 t ht hti; rw [e] at this; exact klt_irrefl _ this
    have h2 : ¬ i < t := fun hit => by
      have h3 := asc_lt ha hit ht
      rw [e] at h3
      exact a3 i (by omega) (Nat.le_refl _) h3
    obtain rfl : t = i := by omega
    exact ⟨ht, by rw [e]⟩
  · rintro ⟨hi, e⟩
    exact ⟨l[i].2, by rw [← e]; exact List.getElem_mem _⟩
/-- a list around a key -/
theorem around {l : List Ent} {k : ByteArray} {i : Nat} (h : Low l k i) (ha : Asc l) : (∀ e ∈ l.take i, klt e.1 k) ∧ (∀ e ∈ l.drop i, e.1 = k ∨ klt k e.1) ∧ (∀ e ∈ l.drop (i + 1), klt k e.1) := by
  obtain ⟨a1, a2, a3⟩ := h
  refine ⟨fun e he => ?_, fun e he => ?_, fun e he => ?_⟩
  · obtain ⟨t, ht, rfl⟩ := List.getElem_of_mem he
    rw [List.length_take] at ht
    rw [List.getElem_take]
    exact a2 t (by omega) (by omega)
  · obtain ⟨t, ht, rfl⟩ := List.getElem_of_mem he
    rw [List.length_drop] at ht
    rw [List.getElem_drop]
    have := a3 (i + t) (by omega) (by omega)
    rcases klt_total (l[i + t]).1 k with h | h | h
    · exact absurd h this
    · exact .inl h
    · exact .inr h
  · obtain ⟨t, ht, rfl⟩ := List.getElem_of_mem he
    rw [List.length_drop] at ht
    rw [List.getElem_drop]
    have h1 := a3 i (by omega) (Nat.le_refl _)
    have h2 := asc_lt ha (show i < i + 1 + t by omega) (by omega)
    rcases klt_total (l[i]'(by omega)).1 k with h | h | h
    · exact absurd h h1
    · rw [h] at h2; exact h2
    · exact klt_trans h h2
/-- a list with a key -/
def put (l : List Ent) (i : Nat) (k v : ByteArray) : List Ent := l.take i ++ ((k, v) :: l.drop (if has' l i k then i + 1 else i))
where has' (l : List Ent) (i : Nat) (k : ByteArray) : Bool := (l[i]?).any fun e => decide (e.1 = k)
/-- a list without a key -/
def del (l : List Ent) (k : ByteArray) : List Ent := l.filter fun e => decide (e.1 ≠ k)
theorem has'_iff {l : List Ent} {i : Nat} {k : ByteArray} : put.has' l i k = true ↔ ∃ hi : i < l.length, l[i].1 = k := by
  unfold put.has'
  by_cases hi : i < l.length
  · rw [List.getElem?_eq_getElem hi]; simp [hi]
  · rw [List.getElem?_eq_none (by omega)]; simp [hi]
theorem mem_put {l : List Ent} {i : Nat} {k v : ByteArray} (h : Low l k i) (ha : Asc l) (e : Ent) : e ∈ put l i k v ↔ e = (k, v) ∨ (e ∈ l ∧ e.1 ≠ k) := by
  obtain ⟨r1, r2, r3⟩ := around h ha
  have hl := List.take_append_drop i l
  unfold put
  rw [List.mem_append, List.mem_cons]
  constructor
  · rintro (he | he | he)
    · exact .inr ⟨List.mem_of_mem_take he, klt_ne (r1 e he)⟩
    · exact .inl he
    · refine .inr ⟨List.mem_of_mem_drop he, ?_⟩
      by_cases hh : put.has' l i k = true
      · rw [if_pos hh] at he
        exact (klt_ne (r3 e he)).symm
      · rw [if_neg hh] at he
        intro hk
        rcases h with ⟨h1, h2, h3⟩
        obtain ⟨t, ht, rfl⟩ := List.getElem_of_mem he
        rw [List.length_drop] at ht
        rw [List.getElem_drop] at hk
        rcases t with _ | t
        · exact hh (has'_iff.2 ⟨by omega, hk⟩)
        · have hm : (l[i + (t + 1)]'(by omega)) ∈ l.drop (i + 1) := by
            rw [List.mem_drop_iff_getElem]
            exact ⟨t, by omega, by congr 1; omega⟩
          have := r3 _ hm
          rw [hk] at this
          exact klt_irrefl _ this
  · rintro (he | ⟨he, hk⟩)
    · exact .inr (.inl he)
    · rw [← hl, List.mem_append] at he
      rcases he with he | he
      · exact .inl he
      · refine .inr (.inr ?_)
        by_cases hh : put.has' l i k = true
        · rw [if_pos hh]
          obtain ⟨hi, hki⟩ := has'_iff.1 hh
          rw [List.drop_eq_getElem_cons hi, List.mem_cons] at he
          rcases he with rfl | he
          · exact absurd hki hk
          · exact he
        · rw [if_neg hh]; exact he
theorem asc_append {a b : List Ent} (ha : Asc a) (hb : Asc b) (h : ∀ x ∈ a, ∀ y ∈ b, klt x.1 y.1) : Asc (a ++ b) := List.pairwise_append.2 ⟨ha, hb, h⟩
theorem asc_put {l : List Ent} {i : Nat} {k v : ByteArray} (h : Low l k i) (ha : Asc l) : Asc (put l i k v) := by
  obtain ⟨r1, r2, r3⟩ := around h ha
  have hmem := fun e => mem_put (v := v) h ha e
  unfold put at hmem ⊢
  have hd : Asc (l.drop (if put.has' l i k then i + 1 else i)) := List.Pairwise.drop ha
  refine asc_append (List.Pairwise.take ha) (List.pairwise_cons.2 ⟨fun e he => ?_, hd⟩) fun x hx y hy => ?_
  · have h1 := (hmem e).1 (by simp [he])
    have h2 : e ∈ l.drop i := by
      by_cases hh : put.has' l i k = true
      · rw [if_pos hh, ← List.drop_drop] at he
        exact List.mem_of_mem_drop he
      · rw [if_neg hh] at he; exact he
    have hne : e.1 ≠ k := by
      by_cases hh : put.has' l i k = true
      · rw [if_pos hh] at he; exact (klt_ne (r3 e he)).symm
      · rw [if_neg hh] at he
        intro hk
        obtain ⟨t, ht, rfl⟩ := List.getElem_of_mem he
        rw [List.length_drop] at ht
        rw [List.getElem_drop] at hk
        rcases t with _ | t
        · exact hh (has'_iff.2 ⟨by omega, hk⟩)
        · have hm : (l[i + (t + 1)]'(by omega)) ∈ l.drop (i + 1) := by
            rw [List.mem_drop_iff_getElem]
            exact ⟨t, by omega, by congr 1; omega⟩
          have := r3 _ hm
          rw [hk] at this
          exact klt_irrefl _ this
    exact (r2 e h2).resolve_left hne
  · rcases List.mem_cons.1 hy with rfl | hy
    · exact r1 x hx
    · have h2 : y ∈ l.drop i := by
        by_cases hh : put.has' l i k = true
        · rw [if_pos hh, ← List.drop_drop] at hy
          exact List.mem_of_mem_drop hy
        · rw [if_neg hh] at hy; exact hy
      rcases r2 y h2 with e | e
      · rw [e]; exact r1 x hx
      · exact klt_trans (r1 x hx) e
theorem ok_put {l : List Ent} {i : Nat} {k v : ByteArray} (h : Low l k i) (ho : Ok l) (hm : may k v) : Ok (put l i k v) := by
  refine ⟨fun e he => ?_, asc_put h ho.2⟩
  rcases (mem_put h ho.2 e).1 he with rfl | ⟨he, _⟩
  · exact hm
  · exact ho.1 e he
theorem mem_del {l : List Ent} {k : ByteArray} (e : Ent) : e ∈ del l k ↔ e ∈ l ∧ e.1 ≠ k := by simp [del]
theorem asc_del {l : List Ent} {k : ByteArray} (h : Asc l) : Asc (del l k) := List.Pairwise.filter _ h
theorem ok_del {l : List Ent} {k : ByteArray} (h : Ok l) : Ok (del l k) := ⟨fun e he => h.1 e ((mem_del e).1 he).1, asc_del h.2⟩
/-- what is cut out -/
theorem del_eq {l : List Ent} {k : ByteArray} {i : Nat} (h : Low l k i) (ha : Asc l) (hi : i < l.length) (hk : l[i].1 = k) : l.take i ++ l.drop (i + 1) = del l k := by
  obtain ⟨r1, r2, r3⟩ := around h ha
  refine asc_ext _ _ ?_ (asc_del ha) fun e => ?_
  · exact asc_append (List.Pairwise.take ha) (List.Pairwise.drop ha) fun x hx y hy => klt_trans (r1 x hx) (r3 y hy)
  · rw [mem_del, List.mem_append]
    constructor
    · rintro (he | he)
      · exact ⟨List.mem_of_mem_take he, klt_ne (r1 e he)⟩
      · exact ⟨List.mem_of_mem_drop he, (klt_ne (r3 e he)).symm⟩
    · rintro ⟨he, hne⟩
      rw [← List.take_append_drop i l, List.mem_append, List.drop_eq_getElem_cons hi, List.mem_cons] at he
      rcases he with he | rfl | he
      · exact .inl he
      · exact absurd hk hne
      · exact .inr he
theorem del_none {l : List Ent} {k : ByteArray} (h : ¬ has l k) : del l k = l := by
  unfold del
  refine List.filter_eq_self.2 fun e he => ?_
  rw [decide_eq_true_eq]
  intro hk
  exact h ⟨e.2, by rw [← hk]; exact he⟩
/-- the document's put -/
def insert (k v : ByteArray) : List Ent → List Ent
  | [] => [(k, v)]
  | e :: l => if klt k e.1 then (k, v) :: e :: l else e :: insert k v l
theorem mem_insert (k v : ByteArray) (l : List Ent) (e : Ent) : e ∈ insert k v l ↔ e = (k, v) ∨ e ∈ l := by
  induction l with
  | nil => simp [insert]
  | cons x l ih =>
    unfold insert
    split
    · simp
    · rw [List.mem_cons, ih, List.mem_cons]
      constructor
      · rintro (h | h | h)
        · exact .inr (.inl h)
        · exact .inl h
        · exact .inr (.inr h)
      · rintro (h | h | h)
        · exact .inr (.inl h)
        · exact .inl h
        · exact .inr (.inr h)
theorem asc_insert {k v : ByteArray} {l : List Ent} (h : Asc l) (hk : ∀ e ∈ l, e.1 ≠ k) : Asc (insert k v l) := by
  induction l with
  | nil => exact List.pairwise_singleton _ _
  | cons x l ih =>
    obtain ⟨h1, h2⟩ := List.pairwise_cons.1 h
    unfold insert
    split
    · rename_i hx
      exact List.pairwise_cons.2 ⟨fun e he => by
        rcases List.mem_cons.1 he with rfl | he
        · exact hx
        · exact klt_trans hx (h1 e he), h⟩
    · rename_i hx
      refine List.pairwise_cons.2 ⟨fun e he => ?_, ih h2 fun e he => hk e (by simp [he])⟩
      rcases (mem_insert k v l e).1 he with rfl | he
      · exact klt_of_not hx (hk x (by simp)).symm
      · exact h1 e he
theorem put_ref {l : List Ent} {i : Nat} {k v : ByteArray} (h : Low l k i) (ha : Asc l) : put l i k v = insert k v (del l k) := by
  refine asc_ext _ _ (asc_put h ha) (asc_insert (asc_del ha) fun e he => ((mem_del e).1 he).2) fun e => ?_
  rw [mem_put h ha, mem_insert, mem_del]
/-- a text with its length ahead; a list's bytes -/
def tbl (s : ByteArray) : List UInt8 := UInt8.ofNat s.size :: bt s
def enc (l : List Ent) : List UInt8 := l.flatMap fun e => tbl e.1 ++ tbl e.2
def Fits (l : List Ent) : Prop := ∀ e ∈ l, e.1.size ≤ 255 ∧ e.2.size ≤ 255
theorem bt_len (s : ByteArray) : (bt s).length = s.size := by simp [bt]
theorem tbl_len (s : ByteArray) : (tbl s).length = s.size + 1 := by rw [tbl, List.length_cons, bt_len]
theorem tbl_inj {s t : ByteArray} {a b : List UInt8} (hs : s.size ≤ 255) (ht : t.size ≤ 255) (h : tbl s ++ a = tbl t ++ b) : s = t ∧ a = b := by
  unfold tbl at h
  rw [List.cons_append, List.cons_append, List.cons.injEq] at h
  obtain ⟨h1, h2⟩ := h
  have h3 : s.size = t.size := by
    have := congrArg UInt8.toNat h1
    rw [UInt8.toNat_ofNat', UInt8.toNat_ofNat'] at this
    omega
  obtain ⟨h4, h5⟩ := List.append_inj h2 (by rw [bt_len, bt_len, h3])
  exact ⟨bt_inj h4, h5⟩
theorem enc_cons (e : Ent) (l : List Ent) : enc (e :: l) = tbl e.1 ++ (tbl e.2 ++ enc l) := by simp [enc]
theorem enc_append (a b : List Ent) : enc (a ++ b) = enc a ++ enc b := by simp [enc]
theorem enc_inj : ∀ {a b : List Ent}, Fits a → Fits b → enc a = enc b → a = b
  | [], [], _, _, _ => rfl
  | [], e :: b, _, _, h => by rw [enc_cons] at h; simp [enc, tbl] at h
  | e :: a, [], _, _, h => by rw [enc_cons] at h; simp [enc, tbl] at h
  | e :: a, f :: b, ha, hb, h => by
    rw [enc_cons, enc_cons] at h
    obtain ⟨h1, h2⟩ := tbl_inj (ha e (by simp)).1 (hb f (by simp)).1 h
    obtain ⟨h3, h4⟩ := tbl_inj (ha e (by simp)).2 (hb f (by simp)).2 h2
    have := enc_inj (fun x hx => ha x (by simp [hx])) (fun x hx => hb x (by simp [hx])) h4
    rw [this]
    congr 1
    exact Prod.ext h1 h3
/-- a list of which bytes are just that -/
def Dec (b : List UInt8) (l : List Ent) : Prop := Fits l ∧ enc l = b
theorem dec_inj {b : List UInt8} {l m : List Ent} (h : Dec b l) (k : Dec b m) : l = m := enc_inj h.1 k.1 (h.2.trans k.2.symm)
theorem ok_fits {l : List Ent} (h : Ok l) : Fits l := fun e he => by
  have := h.1 e he
  unfold may at this
  omega
/-- how many bytes entries take -/
def sz (l : List Ent) : Nat := (l.map fun e => 2 + e.1.size + e.2.size).sum
theorem sz_append (a b : List Ent) : sz (a ++ b) = sz a + sz b := by simp [sz]
theorem sz_cons (e : Ent) (l : List Ent) : sz (e :: l) = 2 + e.1.size + e.2.size + sz l := by simp [sz]
theorem enc_len (l : List Ent) : (enc l).length = sz l := by
  induction l with
  | nil => rfl
  | cons e l ih => rw [enc_cons, List.length_append, List.length_append, tbl_len, tbl_len, ih, sz_cons]; omega
theorem sz_take_le (l : List Ent) (k : Nat) : sz (l.take k) ≤ sz l := by
  have := sz_append (l.take k) (l.drop k)
  rw [List.take_append_drop] at this
  omega
theorem sz_snoc (l : List Ent) (k : Nat) (h : k < l.length) : sz (l.take (k + 1)) = sz (l.take k) + (2 + l[k].1.size + l[k].2.size) := by
  rw [List.take_succ_eq_append_getElem h, sz_append, sz_cons]; rfl
/-- where to cut a list in two -/
def Half (l : List Ent) (k : Nat) : Prop := (l.length < 2 ∧ k = 0) ∨ (1 ≤ k ∧ k < l.length ∧ (sz l ≤ 2 * sz (l.take k) ∨ k + 1 = l.length) ∧ ∀ j, 1 ≤ j → j < k → 2 * sz (l.take j) < sz l)
theorem half_unique {l : List Ent} {i j : Nat} (h : Half l i) (k : Half l j) : i = j := by
  rcases h with ⟨h1, h2⟩ | ⟨h1, h2, h3, h4⟩ <;> rcases k with ⟨k1, k2⟩ | ⟨k1, k2, k3, k4⟩
  · omega
  · omega
  · omega
  · rcases Nat.lt_trichotomy i j with h | h | h
    · have := k4 i h1 h; omega
    · exact h
    · have := h4 j k1 h; omega
/-- what a key's value is -/
theorem get_unique {l : List Ent} (h : Asc l) {k v v' : ByteArray} (hv : (k, v) ∈ l) (hv' : (k, v') ∈ l) : v = v' := by
  obtain ⟨i, hi, e⟩ := List.getElem_of_mem hv
  obtain ⟨j, hj, e'⟩ := List.getElem_of_mem hv'
  rcases Nat.lt_trichotomy i j with h1 | h1 | h1
  · have := asc_lt h h1 hj; rw [e, e'] at this; exact absurd this (klt_irrefl _)
  · subst h1
    have := e.symm.trans e'
    exact (Prod.mk.inj this).2
  · have := asc_lt h h1 hi; rw [e, e'] at this; exact absurd this (klt_irrefl _)
theorem ok_take_succ {l : List Ent} {k : Nat} (h : k < l.length) : Ok (l.take (k + 1)) ↔ Ok (l.take k) ∧ may l[k].1 l[k].2 ∧ (0 < k → klt (l[k - 1]'(by omega)).1 l[k].1) := by
  unfold Ok
  rw [asc_iff, asc_iff, List.take_succ_eq_append_getElem h]
  have hl : (l.take k ++ [l[k]]).length = k + 1 := by rw [List.length_append, List.length_take, List.length_singleton]; omega
  have hl2 : (l.take k).length = k := by rw [List.length_take]; omega
  have hg : ∀ i (hi : i < (l.take k ++ [l[k]]).length), (l.take k ++ [l[k]])[i] = l[i]'(by omega) := fun i hi => by
    rcases Nat.lt_or_ge i k with h1 | h1
    · rw [List.getElem_append_left (by omega), List.getElem_take]
    · obtain rfl : i = k := by omega
      rw [List.getElem_append_right (by omega)]; simp
  constructor
  · rintro ⟨h1, h2⟩
    refine ⟨⟨fun e he => h1 e (List.mem_append.2 (.inl he)), fun i hi => ?_⟩, h1 _ (List.mem_append.2 (.inr (List.mem_singleton.2 rfl))), fun hk => ?_⟩
    · have := h2 i (by omega)
      rw [hg, hg] at this
      rw [List.getElem_take, List.getElem_take]; exact this
    · have := h2 (k - 1) (by omega)
      rw [hg, hg] at this
      simpa [Nat.sub_add_cancel hk] using this
  · rintro ⟨⟨h1, h2⟩, h3, h4⟩
    refine ⟨fun e he => ?_, fun i hi => ?_⟩
    · rcases List.mem_append.1 he with he | he
      · exact h1 e he
      · rw [List.mem_singleton.1 he]; exact h3
    · rw [hg, hg]
      rcases Nat.lt_or_ge (i + 1) k with h5 | h5
      · have := h2 i (by omega)
        rw [List.getElem_take, List.getElem_take] at this; exact this
      · obtain rfl : k = i + 1 := by omega
        exact h4 (by omega)
theorem ok_take {l : List Ent} (h : Ok l) (k : Nat) : Ok (l.take k) := ⟨fun e he => h.1 e (List.mem_of_mem_take he), List.Pairwise.take h.2⟩
end Go.Proofs.Ytifdglehfhoecaa.M
