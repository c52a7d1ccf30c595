/-
  Where a key stands in a list, or would. Conditions: lists of at most 2^62 entries.
-/
import Derived.Test.YtifdglehfhoecaaECheck
import Derived.Test.YtifdglehfhoecaaShelf
namespace Go.Proofs.Ytifdglehfhoecaa.E
open Go.RowKit B
theorem cmp_any (k v key : ByteArray) (w : World) :
    Calls Try.prog 76 #[.agg #[.string k, .string v], .string key] w fun r w' => r = .returned (.int .i64 (Lib.compareBytes (bts k) (bts key))) ∧ Below w.heap.size w w' := by
  go_enter Try.func76, Try.ntmps76
  go_wp2_with fail
  refine (Try.strings_Compare k key _).mono ?_
  rintro r w1 ⟨rfl, rfl⟩
  go_wp2
  go_ret
  exact ⟨rfl, (Below.refl _ _).alloc (Nat.le_refl _) _⟩
theorem cmp_less : ∀ a b : List UInt8, Lib.compareBytes a b < 0 ↔ Op.bytesLess a b = true
  | [], [] => by simp [Lib.compareBytes, Op.bytesLess]
  | [], _ :: _ => by simp [Lib.compareBytes, Op.bytesLess]
  | _ :: _, [] => by simp [Lib.compareBytes, Op.bytesLess]
  | a :: x, b :: y => by
    have ih := cmp_less x y
    simp only [Lib.compareBytes, Op.bytesLess, Bool.or_eq_true, Bool.and_eq_true, decide_eq_true_eq, beq_iff_eq]
    by_cases h1 : a < b
    · rw [if_pos h1]; simp [h1]
    · rw [if_neg h1]
      by_cases h2 : b < a
      · rw [if_pos h2]
        have : a ≠ b := by rintro rfl; exact h1 h2
        simp [h1, this]
      · rw [if_neg h2]
        have : a = b := by
          rw [UInt8.lt_iff_toNat_lt] at h1 h2
          exact UInt8.toNat_inj.1 (by omega)
        simp [this, ih]
theorem cmp_zero : ∀ a b : List UInt8, Lib.compareBytes a b = 0 ↔ a = b
  | [], [] => by simp [Lib.compareBytes]
  | [], _ :: _ => by simp [Lib.compareBytes]
  | _ :: _, [] => by simp [Lib.compareBytes]
  | a :: x, b :: y => by
    have ih := cmp_zero x y
    simp only [Lib.compareBytes, List.cons.injEq]
    by_cases h1 : a < b
    · rw [if_pos h1]
      have : a ≠ b := by rintro rfl; rw [UInt8.lt_iff_toNat_lt] at h1; omega
      simp [this]
    · rw [if_neg h1]
      by_cases h2 : b < a
      · rw [if_pos h2]
        have : a ≠ b := by rintro rfl; exact h1 h2
        simp [this]
      · rw [if_neg h2]
        have : a = b := by
          rw [UInt8.lt_iff_toNat_lt] at h1 h2
          exact UInt8.toNat_inj.1 (by omega)
        simp [this, ih]
/-- what a search knows: of a rising list, what lies below and above -/
def Bs (l : List Ent) (key : ByteArray) (i j : Nat) : Prop := i ≤ j ∧ j ≤ l.length ∧ (M.Asc l → (∀ t (h : t < l.length), t < i → M.klt l[t].1 key) ∧ (∀ t (h : t < l.length), j ≤ t → ¬ M.klt l[t].1 key))
theorem bs_low {l : List Ent} {key : ByteArray} {i j h : Nat} (hb : Bs l key i j) (h1 : i ≤ h) (h2 : h < j) (hl : h < l.length) (hk : M.klt l[h].1 key) : Bs l key (h + 1) j := by
  obtain ⟨a, b, c⟩ := hb
  refine ⟨by omega, b, fun ha => ⟨fun t ht hth => ?_, (c ha).2⟩⟩
  rcases Nat.lt_or_ge t h with h3 | h3
  · exact M.klt_trans (M.asc_lt ha h3 hl) hk
  · obtain rfl : t = h := by omega
    exact hk
theorem bs_high {l : List Ent} {key : ByteArray} {i j h : Nat} (hb : Bs l key i j) (h1 : i ≤ h) (h2 : h < j) (hl : h < l.length) (hk : ¬ M.klt l[h].1 key) : Bs l key i h := by
  obtain ⟨a, b, c⟩ := hb
  refine ⟨h1, by omega, fun ha => ⟨(c ha).1, fun t ht hth => ?_⟩⟩
  rcases Nat.lt_or_ge h t with h3 | h3
  · intro hk2
    exact hk (M.klt_trans (M.asc_lt ha h3 ht) hk2)
  · obtain rfl : t = h := by omega
    exact hk
/-- what a search finds -/
def Fnd (l : List Ent) (key : ByteArray) (w : World) (r : Ending) (w' : World) : Prop :=
  ∃ (i : Nat) (ok : Bool), r = .returned (.tuple #[.int .i64 (i : Int), .bool ok]) ∧ i ≤ l.length ∧ (ok = true ↔ ∃ h : i < l.length, l[i].1 = key) ∧ (M.Asc l → M.Low l key i) ∧ Below w.heap.size w w'
set_option maxRecDepth 100000 in
set_option maxHeartbeats 1000000 in
theorem search_walk (ao : Option Addr) (cap : Nat) (l : List Ent) (key : ByteArray) (w : World) (hlen : l.length ≤ 4611686018427387904)
    (hc : ∀ j (_h : j < l.length), ∃ b o, ao = some ⟨b, o, none⟩ ∧ w.cell? ⟨b, o + j * 2, none⟩ = some (.string l[j].1) ∧ w.cell? ⟨b, o + j * 2 + 1, none⟩ = some (.string l[j].2)) :
    Calls Try.prog 75 #[.slice ao l.length cap, .string key, .func (.func 76) #[] #[]] w (Fnd l key w) := by
  have HC := Lib.hid hc; clear hc
  go_enter Try.func75, Try.ntmps75
  go_wp2
  go_loopw [9, 10, 11] (fun i j _ wr => ∃ a b : Nat, i = .int .i64 a ∧ j = .int .i64 b ∧ a ≤ b ∧ b ≤ l.length ∧ Bs l key a b ∧ Below w.heap.size w wr) (fun i j _ _ => (intOf j - intOf i).toNat)
  case atStart => exact ⟨0, l.length, rfl, rfl, Nat.zero_le _, Nat.le_refl _, ⟨Nat.zero_le _, Nat.le_refl _, fun _ => ⟨fun t _ h => by omega, fun t h h' => by omega⟩⟩, Below.refl _ _⟩
  case round =>
    obtain ⟨a, b, rfl, rfl, hab, hbl, hbs, hb⟩ := hrel
    have HBS := Lib.hid hbs; clear hbs
    by_cases hlt : a < b
    · obtain ⟨h, hh⟩ : ∃ h, (a + b) / 2 = h := ⟨_, rfl⟩
      have hh1 : a ≤ h ∧ h < b := by omega
      obtain ⟨hh1, hh2⟩ := hh1
      have hhl : h < l.length := by omega
      obtain ⟨bk, o, rfl, hk0, hv0⟩ := HC.out h hhl
      have c0 := (hb.cell (lt_of_cell hk0)).trans hk0
      have c1 := (hb.cell (lt_of_cell hv0)).trans hv0
      clear hk0 hv0
      have hdiv : ((a : Int) + (b : Int)) / 2 = (h : Int) := by omega
      have HH := Lib.hid hh; clear hh
      have hcmp := fun W => cmp_any l[h].1 l[h].2 key W
      have hless := cmp_less (bts l[h].1) (bts key)
      obtain ⟨c, hc⟩ : ∃ c, Lib.compareBytes (bts l[h].1) (bts key) = c := ⟨_, rfl⟩
      rw [hc] at hcmp hless
      have HCMP := Lib.hid hcmp; have HLESS := Lib.hid hless
      clear hcmp hless hc
      go_wp2_with fail
      refine (HCMP.out _).mono ?_
      rintro r w1 ⟨rfl, hb1⟩
      have hB := hb.trans (hb1.mono hb.size)
      clear hb hb1 c0 c1
      by_cases hneg : c < 0
      · go_wp2
        go_roundw
        case rel => exact ⟨h + 1, b, by go_num, rfl, by omega, by omega, bs_low HBS.out hh1 hh2 hhl (HLESS.out.1 hneg), hB⟩
        case measure => simp [intOf]; omega
      · go_wp2
        go_roundw
        case rel => exact ⟨a, h, rfl, rfl, by omega, by omega, bs_high HBS.out hh1 hh2 hhl (fun hk => by have := HLESS.out.2 hk; omega), hB⟩
        case measure => simp [intOf]; omega
    · have hab2 : a = b := by omega
      have HAB := Lib.hid hab2; clear hab2
      have hlow : M.Asc l → M.Low l key a := fun ha => by
        obtain ⟨h1, h2, h3⟩ := HBS.out
        exact ⟨by omega, (h3 ha).1, fun t ht hat => (h3 ha).2 t ht (by have := HAB.out; omega)⟩
      have HLOW := Lib.hid hlow; clear hlow
      by_cases hal : a < l.length
      · obtain ⟨bk, o, rfl, hk0, hv0⟩ := HC.out a hal
        have c0 := (hb.cell (lt_of_cell hk0)).trans hk0
        have c1 := (hb.cell (lt_of_cell hv0)).trans hv0
        clear hk0 hv0
        have hcmp := fun W => cmp_any l[a].1 l[a].2 key W
        have hzero := cmp_zero (bts l[a].1) (bts key)
        obtain ⟨c, hc⟩ : ∃ c, Lib.compareBytes (bts l[a].1) (bts key) = c := ⟨_, rfl⟩
        rw [hc] at hcmp hzero
        have HCMP := Lib.hid hcmp; have HZERO := Lib.hid hzero
        clear hcmp hzero hc
        go_wp2_with fail
        refine (HCMP.out _).mono ?_
        rintro r w1 ⟨rfl, hb1⟩
        have hB := hb.trans (hb1.mono hb.size)
        clear hb hb1 c0 c1
        obtain ⟨z, hz⟩ : ∃ z : Bool, (c == 0) = z := ⟨_, rfl⟩
        have HZ := Lib.hid hz
        go_wp2
        go_ret2
        refine ⟨a, z, rfl, by omega, ?_, HLOW.out, hB⟩
        rw [← HZ.out, beq_iff_eq, HZERO.out]
        exact ⟨fun h => ⟨hal, bts_inj h⟩, fun ⟨_, h⟩ => by rw [h]⟩
      · go_wp2
        go_ret2
        exact ⟨a, false, rfl, by omega, ⟨(fun h => nomatch h), fun ⟨h, _⟩ => absurd h hal⟩, HLOW.out, hb⟩
theorem find_any (v : Value) (l : List Ent) (key : ByteArray) (w : World) (hv : Ents w v l) (hlen : l.length ≤ 4611686018427387904) :
    Calls Try.prog 46 #[v, .string key] w (Fnd l key w) := by
  obtain ⟨ao, cap, rfl, _, _, hc⟩ := hv.open
  have hw := search_walk ao cap l key w hlen hc
  have HW := Lib.hid hw; clear hw hc hv
  go_enter Try.func46, Try.ntmps46
  go_wp2_with fail
  refine HW.out.mono ?_
  rintro r w1 ⟨i, ok, rfl, h1, h2, h3, hb⟩
  have H2 := Lib.hid h2; have H3 := Lib.hid h3
  clear h2 h3
  go_wp2
  go_ret2
  exact ⟨i, ok, rfl, h1, H2.out, H3.out, hb⟩
end Go.Proofs.Ytifdglehfhoecaa.E
