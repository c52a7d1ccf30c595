/-
  The reader's numbers and texts, and what is wrong at its end. Conditions: none.
-/
import Derived.Test.YtifdglehfhoecaaRead
namespace Go.Proofs.Ytifdglehfhoecaa.C
open Go.RowKit B
/-- may numbers have so many bytes? -/
def szd (z : Int) : Prop := z = 1 ∨ z = 2 ∨ z = 4
instance (z : Int) : Decidable (szd z) := by unfold szd; exact inferInstance
theorem sized_any (z : Int) (w : World) : Calls Try.prog 69 #[.int .i64 z] w fun r w' => r = .returned (.bool (decide (szd z))) ∧ w = w' := by
  by_cases h1 : z = 1
  · subst h1
    go_enter Try.func69, Try.ntmps69
    go_wp2
    go_ret
    exact ⟨rfl, rfl⟩
  · have b1 : (z == 1) = false := beq_eq_false_iff_ne.2 h1
    by_cases h2 : z = 2
    · subst h2
      go_enter Try.func69, Try.ntmps69
      go_wp2
      go_ret
      exact ⟨rfl, rfl⟩
    · have b2 : (z == 2) = false := beq_eq_false_iff_ne.2 h2
      by_cases h4 : z = 4
      · subst h4
        go_enter Try.func69, Try.ntmps69
        go_wp2
        go_ret
        exact ⟨rfl, rfl⟩
      · have b4 : (z == 4) = false := beq_eq_false_iff_ne.2 h4
        have H : decide (szd z) = false := by simp [szd, h1, h2, h4]
        have H' := Lib.hid H; clear H h1 h2 h4
        go_enter Try.func69, Try.ntmps69
        go_wp2
        go_ret
        exact ⟨by rw [H'.out]; rfl, rfl⟩
theorem sized_yes (z : Int) (w : World) (h : szd z) : Calls Try.prog 69 #[.int .i64 z] w fun r w' => r = .returned (.bool true) ∧ w = w' := by
  have := sized_any z w; rwa [decide_eq_true h] at this
theorem sized_no (z : Int) (w : World) (h : ¬ szd z) : Calls Try.prog 69 #[.int .i64 z] w fun r w' => r = .returned (.bool false) ∧ w = w' := by
  have := sized_any z w; rwa [decide_eq_false h] at this
/-- the number of bytes, the greatest first -/
def be (l : List UInt8) : Nat := l.foldl (fun n c => n * 256 + c.toNat) 0
theorem be_snoc (l : List UInt8) (c : UInt8) : be (l ++ [c]) = be l * 256 + c.toNat := by simp [be]
theorem be_fold_lt (l : List UInt8) : ∀ n : Nat, l.foldl (fun n c => n * 256 + c.toNat) n < (n + 1) * 256 ^ l.length := by
  induction l with
  | nil => intro n; simp
  | cons c l ih =>
    intro n
    have h1 := ih (n * 256 + c.toNat)
    have h2 := c.toNat_lt
    have h3 : (n * 256 + c.toNat + 1) * 256 ^ l.length ≤ ((n + 1) * 256) * 256 ^ l.length := Nat.mul_le_mul_right _ (by omega)
    rw [List.foldl_cons, List.length_cons, Nat.pow_succ, Nat.mul_comm (256 ^ l.length) 256, ← Nat.mul_assoc]
    omega
theorem be_lt (l : List UInt8) : be l < 256 ^ l.length := by
  have := be_fold_lt l 0
  simpa [be] using this
def intE (s : ByteArray) (e z : Int) : Int := if szd z then bytesE s e z else failE e 1
def intO (s : ByteArray) (e z : Int) : Nat := if szd z then be (bts (bytesO s e z)) else 0
def intS (s : ByteArray) (e z : Int) : ByteArray := if szd z then bytesS s e z else s
theorem ofInt_i64 (a : Nat) (ha : a < 9223372036854775808) : (BitVec.ofInt 64 (a : Int)).toNat = a := by
  rw [BitVec.ofInt_natCast, BitVec.toNat_ofNat]; exact Nat.mod_eq_of_lt (by omega)
theorem or_bytes (n c : Nat) (hc : c < 256) : n * 256 ||| c = n * 256 + c := by
  have := Nat.two_pow_add_eq_or_of_lt (i := 8) (b := c) (by omega) n
  rw [Nat.mul_comm]; exact this.symm
theorem i64_or_byte (n c : Nat) (hn : n * 256 < 9223372036854775808) (hc : c < 256) : bits .or .i64 ((n : Int) * 256) (c : Int) = ((n * 256 + c : Nat) : Int) := by
  rw [show ((n : Int) * 256) = ((n * 256 : Nat) : Int) by omega]
  have hx : n * 256 ||| c < 2 ^ 63 := Nat.or_lt_two_pow (by omega) (by omega)
  show IntKind.i64.wrap ((BitVec.ofInt 64 ((n * 256 : Nat) : Int) ||| BitVec.ofInt 64 (c : Int)).toNat : Int) = _
  rw [BitVec.toNat_or, ofInt_i64 _ hn, ofInt_i64 c (by omega), or_bytes n c hc, IntKind.wrap_i64]
  rw [or_bytes n c hc] at hx
  omega
theorem bytesO_size (s : ByteArray) (e z : Int) (hz : szd z) : (bytesO s e z).size ≤ 4 := by
  unfold bytesO
  split
  · have : (s.extract 0 z.toNat).size = min z.toNat s.size := by simp
    rcases hz with rfl | rfl | rfl <;> omega
  · simp
set_option maxHeartbeats 400000 in
theorem int_yes (a : Nat) (s : ByteArray) (e z : Int) (w : World) (h : Rd w a s e) (hz : szd z) :
    Calls Try.prog 27 #[.pointer (some ⟨a, 0, none⟩), .int .i64 z] w fun r w' => r = .returned (.int .i64 (be (bts (bytesO s e z)) : Nat)) ∧ Rd w' a (bytesS s e z) (bytesE s e z) ∧ Only a w w' := by
  have hcv := fun w s => run_bytes_of_string (P := Try.prog) w 9 30 5 s Try.underlying9 Try.underlying30 Try.underlying5
  have HZ := Lib.hid hz; clear hz
  have hsz := bytesO_size s e z HZ.out
  have h0 := bytes_any a s e z w h
  obtain ⟨o, ho⟩ : ∃ o, bytesO s e z = o := ⟨_, rfl⟩
  rw [ho] at h0 hsz ⊢
  clear ho
  have H0 := Lib.hid h0; clear h0
  go_enter Try.func27, Try.ntmps27
  go_wp2_with fail
  refine (sized_yes z _ HZ.out).mono ?_
  rintro r w1 ⟨rfl, rfl⟩
  go_wp2_with fail
  refine H0.out.mono ?_
  rintro r w1 ⟨rfl, hr, ho⟩
  go_wp2
  obtain ⟨wo, hwo, hb2, hby⟩ := bytes_world w1 o (grownCap w1 o.size 0 5) 5 ((bytesRow o (grownCap w1 o.size 0 5)).size, (bytesRow o (grownCap w1 o.size 0 5)).size + 1)
  rw [hwo]; clear hwo
  have hr2 := hr.below hb2
  have ho2 := ho.trans (Only.below hb2)
  clear hr ho hb2
  go_loop [5, 7, 18] (fun n c i => ∃ j N : Nat, j ≤ o.size ∧ i = .int .i64 j ∧ n = .int .i64 N ∧ N = be ((bts o).take j)) (fun _ _ i => o.size - (intOf i).toNat)
  case atStart => exact ⟨0, 0, by omega, rfl, rfl, by simp [be]⟩
  case round =>
    obtain ⟨j, N, hj, rfl, rfl, hN⟩ := hrel
    by_cases hlt : j < o.size
    · have hbj := hby j hlt
      have hl := be_lt ((bts o).take j)
      have hl2 : ((bts o).take j).length ≤ 3 := by rw [List.length_take]; omega
      have hl3 : 256 ^ ((bts o).take j).length ≤ 256 ^ 3 := Nat.pow_le_pow_right (by omega) hl2
      have hNlt : N < 16777216 := by rw [hN]; omega
      have ec := (o[j]).toNat_lt
      have e1 := i64_or_byte N (o[j]).toNat (by omega) ec
      have HN := Lib.hid hN; clear hN hl hl2 hl3
      go_wp2
      go_round
      case rel => exact ⟨j + 1, N * 256 + (o[j]).toNat, by omega, by go_num, rfl, by rw [take_snoc o j hlt, be_snoc, ← HN.out]⟩
      case measure => simp [intOf]; omega
    · have hjo : j = o.size := by omega
      have HJ := Lib.hid hjo; clear hjo
      have HN := Lib.hid hN; clear hN
      go_wp2
      go_ret
      exact ⟨ret_int (by rw [HN.out, HJ.out, List.take_of_length_le (by simp)]), hr2, ho2⟩
theorem int_any (a : Nat) (s : ByteArray) (e z : Int) (w : World) (h : Rd w a s e) :
    Calls Try.prog 27 #[.pointer (some ⟨a, 0, none⟩), .int .i64 z] w fun r w' => r = .returned (.int .i64 (intO s e z : Nat)) ∧ Rd w' a (intS s e z) (intE s e z) ∧ Only a w w' := by
  by_cases hz : szd z
  · rw [intO, intS, intE, if_pos hz, if_pos hz, if_pos hz]
    exact int_yes a s e z w h hz
  · rw [intO, intS, intE, if_neg hz, if_neg hz, if_neg hz]
    have HZ := Lib.hid hz; clear hz
    go_enter Try.func27, Try.ntmps27
    go_wp2_with fail
    refine (sized_no z _ HZ.out).mono ?_
    rintro r w1 ⟨rfl, rfl⟩
    go_wp2_with fail
    refine (fail_any a s e 1 _ h).mono ?_
    rintro r w1 ⟨rfl, hr, ho⟩
    go_wp2
    go_ret
    exact ⟨rfl, hr, ho⟩
/-- the next text: its length, its bytes -/
def textN (s : ByteArray) (e : Int) : Int := (intO s e 1 : Nat)
def textE (s : ByteArray) (e : Int) : Int := bytesE (intS s e 1) (intE s e 1) (textN s e)
def textO (s : ByteArray) (e : Int) : ByteArray := bytesO (intS s e 1) (intE s e 1) (textN s e)
def textS (s : ByteArray) (e : Int) : ByteArray := bytesS (intS s e 1) (intE s e 1) (textN s e)
theorem text_any (a : Nat) (s : ByteArray) (e : Int) (w : World) (h : Rd w a s e) :
    Calls Try.prog 28 #[.pointer (some ⟨a, 0, none⟩)] w fun r w' => r = .returned (.string (textO s e)) ∧ Rd w' a (textS s e) (textE s e) ∧ Only a w w' := by
  go_enter Try.func28, Try.ntmps28
  go_wp2_with fail
  refine (int_any a s e 1 _ h).mono ?_
  rintro r w1 ⟨rfl, hr, ho⟩
  go_wp2_with fail
  refine (bytes_any a _ _ (intO s e 1 : Nat) _ hr).mono ?_
  rintro r w2 ⟨rfl, hr2, ho2⟩
  go_wp2
  go_ret
  exact ⟨rfl, hr2, ho.trans ho2⟩
def endE (s : ByteArray) (e : Int) : Int := if s.size = 0 then e else failE e 11
theorem end_any (a : Nat) (s : ByteArray) (e : Int) (w : World) (h : Rd w a s e) :
    Calls Try.prog 29 #[.pointer (some ⟨a, 0, none⟩)] w fun r w' => r = .returned (.int .i64 (endE s e)) ∧ Below w.heap.size w w' := by
  have c0 := h.c0
  have c1 := h.c1
  by_cases hs : s.size = 0
  · have h0 := size_zero hs
    subst h0
    go_enter Try.func29, Try.ntmps29
    go_wp2
    go_ret
    exact ⟨rfl, Below.refl _ _⟩
  · have hb := str_ne_nil hs
    have HS := Lib.hid hs; clear hs
    go_enter Try.func29, Try.ntmps29
    go_wp2_with fail
    refine (fail_any w.heap.size ByteArray.empty e 11 _ (blk_new _ _)).mono ?_
    rintro r w1 ⟨rfl, hr, ho⟩
    have hb1 : Below w.heap.size w w1 := ((Below.refl _ w).alloc (Nat.le_refl _) _).trans (ho.to_below (Nat.le_refl _) (by simp))
    have c2 := hr.c1
    go_wp2
    go_ret
    exact ⟨ret_int (by rw [endE, if_neg HS.out]), hb1⟩
end Go.Proofs.Ytifdglehfhoecaa.C
