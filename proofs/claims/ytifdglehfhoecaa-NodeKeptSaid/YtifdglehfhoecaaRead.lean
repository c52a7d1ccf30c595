/-
  The reader of bytes: what each of its methods does, of every state. Conditions: none.
-/
import Derived.Test.YtifdglehfhoecaaBase
namespace Go.Proofs.Ytifdglehfhoecaa.C
open Go.RowKit B
/-- the reader's block: what is left, the first error -/
def Rd (w : World) (a : Nat) (s : ByteArray) (e : Int) : Prop := w.heap[a]? = some (.cells #[.string s, .int .i64 e] 97 (0, 0))
theorem Rd.c0 {w : World} {a : Nat} {s : ByteArray} {e : Int} (h : Rd w a s e) : w.cell? ⟨a, 0, none⟩ = some (.string s) := by rw [blk_cell h]; rfl
theorem Rd.c1 {w : World} {a : Nat} {s : ByteArray} {e : Int} (h : Rd w a s e) : w.cell? ⟨a, 1, none⟩ = some (.int .i64 e) := by rw [blk_cell h]; rfl
theorem Rd.f {w : World} {a : Nat} {s : ByteArray} {e : Int} (h : Rd w a s e) (j : Nat) : w.frozen? ⟨a, j, none⟩ = false := blk_free h j
theorem Rd.lt {w : World} {a : Nat} {s : ByteArray} {e : Int} (h : Rd w a s e) : a < w.heap.size := lt_of_blk h
theorem Rd.below {w w' : World} {a : Nat} {s : ByteArray} {e : Int} (h : Rd w a s e) (hb : Below w.heap.size w w') : Rd w' a s e := blk_below h hb
theorem Rd.only {w w' : World} {a g : Nat} {s : ByteArray} {e : Int} (h : Rd w a s e) (hb : Only g w w') (hn : a ≠ g) : Rd w' a s e := hb.blk h hn
theorem Rd.set0 {w : World} {a : Nat} {s : ByteArray} {e : Int} (h : Rd w a s e) (s' : ByteArray) : Rd (w.setCell ⟨a, 0, none⟩ (.string s')) a s' e := blk_set h 0 _
theorem Rd.set1 {w : World} {a : Nat} {s : ByteArray} {e : Int} (h : Rd w a s e) (e' : Int) : Rd (w.setCell ⟨a, 1, none⟩ (.int .i64 e')) a s e' := blk_set h 1 _

theorem read_any (s : ByteArray) (w : World) :
    Calls Try.prog 23 #[.string s] w fun e w' => (e = .returned (.pointer (some ⟨w.heap.size, 0, none⟩))) ∧ Rd w' w.heap.size s 0 ∧ Below w.heap.size w w' := by
  go_enter Try.func23, Try.ntmps23
  go_wp2
  go_ret
  refine ⟨rfl, blk_new _ _, (Below.refl _ _).alloc (Nat.le_refl _) _⟩

def failE (e k : Int) : Int := if e = 0 then k else e
theorem fail_any (a : Nat) (s : ByteArray) (e k : Int) (w : World) (h : Rd w a s e) :
    Calls Try.prog 71 #[.pointer (some ⟨a, 0, none⟩), .int .i64 k] w fun r w' => r = .returned (.tuple #[]) ∧ Rd w' a s (failE e k) ∧ Only a w w' := by
  have c1 := h.c1
  have f1 := h.f 1
  by_cases he : e = 0
  · subst he
    go_enter Try.func71, Try.ntmps71
    go_wp2
    go_end0
    exact ⟨rfl, h.set1 k, Only.set _ _ _⟩
  · have hb : (e == 0) = false := beq_eq_false_iff_ne.2 he
    have H := Lib.hid he; clear he
    go_enter Try.func71, Try.ntmps71
    go_wp2
    go_end0
    exact ⟨rfl, by rw [failE, if_neg H.out]; exact h, Only.refl _ _⟩
theorem left_any (a : Nat) (s : ByteArray) (e : Int) (w : World) (h : Rd w a s e) :
    Calls Try.prog 25 #[.pointer (some ⟨a, 0, none⟩)] w fun r w' => r = .returned (.int .i64 (s.size : Int)) ∧ w = w' := by
  have c0 := h.c0
  go_enter Try.func25, Try.ntmps25
  go_wp2
  go_ret
  exact ⟨rfl, rfl⟩
theorem err_any (a : Nat) (s : ByteArray) (e : Int) (w : World) (h : Rd w a s e) :
    Calls Try.prog 26 #[.pointer (some ⟨a, 0, none⟩)] w fun r w' => r = .returned (.int .i64 e) ∧ w = w' := by
  have c1 := h.c1
  go_enter Try.func26, Try.ntmps26
  go_wp2
  go_ret
  exact ⟨rfl, rfl⟩
def bytesE (s : ByteArray) (e n : Int) : Int := failE e (if n < 0 then 1 else if (s.size : Int) < n then 10 else 0)
def bytesO (s : ByteArray) (e n : Int) : ByteArray := if bytesE s e n = 0 then s.extract 0 n.toNat else ByteArray.empty
def bytesS (s : ByteArray) (e n : Int) : ByteArray := if bytesE s e n = 0 then s.extract n.toNat s.size else s
set_option maxHeartbeats 400000 in
theorem bytes_err (a : Nat) (s : ByteArray) (e n : Int) (w : World) (h : Rd w a s e) (hE : bytesE s e n ≠ 0) :
    Calls Try.prog 24 #[.pointer (some ⟨a, 0, none⟩), .int .i64 n] w fun r w' => r = .returned (.string ByteArray.empty) ∧ Rd w' a s (bytesE s e n) ∧ Only a w w' := by
  have c0 := h.c0
  have hne : ((bytesE s e n) == 0) = false := beq_eq_false_iff_ne.2 hE
  by_cases h1 : n < 0
  · have e1 : bytesE s e n = failE e 1 := by rw [bytesE, if_pos h1]
    rw [e1] at hne hE ⊢
    have HE := Lib.hid hE; clear hE e1
    go_enter Try.func24, Try.ntmps24
    go_wp2_with fail
    refine (fail_any a s e 1 _ h).mono ?_
    rintro r w1 ⟨rfl, hr, ho⟩
    have c1 := hr.c1
    go_wp2
    go_ret
    exact ⟨rfl, hr, ho⟩
  · by_cases h2 : (s.size : Int) < n
    · have e1 : bytesE s e n = failE e 10 := by rw [bytesE, if_neg h1, if_pos h2]
      rw [e1] at hne hE ⊢
      have HE := Lib.hid hE; clear hE e1
      go_enter Try.func24, Try.ntmps24
      go_wp2_with fail
      refine (fail_any a s e 10 _ h).mono ?_
      rintro r w1 ⟨rfl, hr, ho⟩
      have c1 := hr.c1
      go_wp2
      go_ret
      exact ⟨rfl, hr, ho⟩
    · have e1 : bytesE s e n = failE e 0 := by rw [bytesE, if_neg h1, if_neg h2]
      have e2 : failE e 0 = e := by unfold failE; split <;> omega
      rw [e1, e2] at hne hE ⊢
      have HE := Lib.hid hE; clear hE e1 e2
      have c1 := h.c1
      go_enter Try.func24, Try.ntmps24
      go_wp2
      go_ret
      exact ⟨rfl, h, Only.refl _ _⟩
set_option maxHeartbeats 400000 in
theorem bytes_ok (a : Nat) (s : ByteArray) (n : Nat) (w : World) (h : Rd w a s 0) (hn : n ≤ s.size) :
    Calls Try.prog 24 #[.pointer (some ⟨a, 0, none⟩), .int .i64 (n : Int)] w fun r w' => r = .returned (.string (s.extract 0 n)) ∧ Rd w' a (s.extract n s.size) 0 ∧ Only a w w' := by
  have c0 := h.c0
  have c1 := h.c1
  have f0 := h.f 0
  go_enter Try.func24, Try.ntmps24
  go_wp2
  go_ret
  exact ⟨rfl, h.set0 _, Only.set _ _ _⟩
theorem bytes_any (a : Nat) (s : ByteArray) (e n : Int) (w : World) (h : Rd w a s e) :
    Calls Try.prog 24 #[.pointer (some ⟨a, 0, none⟩), .int .i64 n] w fun r w' => r = .returned (.string (bytesO s e n)) ∧ Rd w' a (bytesS s e n) (bytesE s e n) ∧ Only a w w' := by
  by_cases hE : bytesE s e n = 0
  · have h0 : e = 0 ∧ 0 ≤ n ∧ n ≤ s.size := by
      unfold bytesE failE at hE
      by_cases he : e = 0
      · rw [if_pos he] at hE
        by_cases h1 : n < 0
        · rw [if_pos h1] at hE; omega
        · rw [if_neg h1] at hE
          by_cases h2 : (s.size : Int) < n
          · rw [if_pos h2] at hE; omega
          · omega
      · rw [if_neg he] at hE; omega
    obtain ⟨rfl, h1, h2⟩ := h0
    obtain ⟨m, rfl⟩ := Int.eq_ofNat_of_zero_le h1
    rw [bytesO, bytesS, if_pos hE, if_pos hE, hE]
    exact bytes_ok a s m w h (by omega)
  · rw [bytesO, bytesS, if_neg hE, if_neg hE]
    exact bytes_err a s e n w h hE
end Go.Proofs.Ytifdglehfhoecaa.C
