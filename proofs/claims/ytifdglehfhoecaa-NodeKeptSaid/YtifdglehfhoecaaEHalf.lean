/-
  Where a list is cut; a list's bytes. Conditions: below 2^30 entries, below 2^60 bytes.
-/
import Derived.Test.YtifdglehfhoecaaESize
import Derived.Test.YtifdglehfhoecaaEPut
namespace Go.Proofs.Ytifdglehfhoecaa.E
open Go.RowKit B
theorem new_two (W : World) (o : Obj) (e : Ent) (t : TypeId) : Ents ((W.alloc o).alloc (.cells #[.string e.1, .string e.2] t)) (.slice (some ⟨W.heap.size + 1, 0, none⟩) 1 1) [e] := by
  have := new_one (W.alloc o) e t
  have hs : (W.alloc o).heap.size = W.heap.size + 1 := by simp
  rwa [hs] at this
/-- where a list is cut -/
def Hlf (l : List Ent) (w : World) (r : Ending) (w' : World) : Prop := ∃ k : Nat, r = .returned (.int .i64 (k : Int)) ∧ M.Half l k ∧ Below w.heap.size w w'
/-- no cut before k -/
def Pre (l : List Ent) (k : Nat) : Prop := ∀ j, 1 ≤ j → j < k → 2 * M.sz (l.take j) < M.sz l ∧ j + 1 ≠ l.length
set_option maxRecDepth 100000 in
set_option maxHeartbeats 1000000 in
theorem half_any (v : Value) (l : List Ent) (w : World) (hv : Ents w v l) (hlen : l.length ≤ 1000000000) (hsz : M.sz l ≤ 1152921504606846976) :
    Calls Try.prog 32 #[v] w (Hlf l w) := by
  have hop := hv.open
  have HV := Lib.hid hv; clear hv
  obtain ⟨ao, cap, rfl, _, _, hc⟩ := hop
  have HC := Lib.hid hc; clear hc
  obtain ⟨all, hall⟩ : ∃ t, M.sz l = t := ⟨_, rfl⟩
  have HALL := Lib.hid hall
  rw [hall] at hsz
  go_enter Try.func32, Try.ntmps32
  go_wp2_with fail
  refine (size_any _ l _ HV.out hlen (by omega)).mono ?_
  rintro r w1 ⟨rfl, hb1⟩
  rw [hall]
  clear hall
  go_wp2
  go_loopw [4, 11] (fun n i wr => ∃ k : Nat, k ≤ l.length ∧ i = .int .i64 k ∧ n = .int .i64 (M.sz (l.take k) : Int) ∧ Pre l k ∧ Below w.heap.size w wr) (fun _ i _ => l.length - (intOf i).toNat)
  case atStart => exact ⟨0, Nat.zero_le _, rfl, rfl, fun j _ h => absurd h (by omega), hb1⟩
  case round =>
    obtain ⟨k, hk, rfl, rfl, hpre, hb⟩ := hrel
    have HPRE := Lib.hid hpre; clear hpre
    by_cases hlt : k < l.length
    · obtain ⟨b, o, rfl, hk0, hv0⟩ := HC.out k hlt
      have c0 := (hb.cell (lt_of_cell hk0)).trans hk0
      have c1 := (hb.cell (lt_of_cell hv0)).trans hv0
      have hs := M.sz_snoc l k hlt
      have hle := M.sz_take_le l (k + 1)
      rw [HALL.out] at hle
      obtain ⟨p, hp⟩ : ∃ p, M.sz (l.take k) = p := ⟨_, rfl⟩
      have HP := Lib.hid hp
      have hone : M.sz [l[k]] = 2 + l[k].1.size + l[k].2.size := by rw [M.sz_cons]; rfl
      obtain ⟨z, hz⟩ : ∃ z, M.sz [l[k]] = z := ⟨_, rfl⟩
      rw [← hone, hp, hz] at hs
      rw [hs] at hle
      rw [hp]
      have HS := Lib.hid hs; have HZ := Lib.hid hz
      clear hs hp hz hone hk0 hv0
      have hk0' : (0 : Int) ≤ (k : Int) := Int.natCast_nonneg _
      by_cases h0 : k = 0
      · have H0 := Lib.hid h0
        have hd : ((k : Int) = 0) := by omega
        subst h0
        rw [Nat.zero_mul, Nat.add_zero] at c0 c1
        go_wp2_with fail
        refine (size_any (.slice (some ⟨wr.heap.size + 1, 0, none⟩) 1 1) [l[0]] _ (new_two wr (.cells #[.string l[0].1, .string l[0].2] 49) l[0] 49) (by simp) (by rw [HZ.out]; omega)).mono ?_
        rintro r w2 ⟨rfl, hb2⟩
        rw [HZ.out]
        have hB : Below w.heap.size w w2 := ((hb.alloc hb.size _).alloc (by have := hb.size; simp; omega) _).trans (hb2.mono (by have := hb.size; simp; omega))
        clear hb hb2 c0 c1
        go_wp2
        go_roundw
        case rel => exact ⟨1, by omega, rfl, by rw [HS.out]; go_num, fun j h1 h2 => absurd h2 (by omega), hB⟩
        case measure => simp [intOf]; omega
      · by_cases hA : all ≤ 2 * p
        · have hret : M.Half l k := .inr ⟨by omega, hlt, .inl (by rw [HALL.out, HP.out]; exact hA), fun j a b => (HPRE.out j a b).1⟩
          have HR := Lib.hid hret; clear hret
          go_wp2
          go_ret
          exact ⟨k, rfl, HR.out, hb.alloc hb.size _⟩
        · by_cases hB : k + 1 = l.length
          · have hret : M.Half l k := .inr ⟨by omega, hlt, .inr hB, fun j a b => (HPRE.out j a b).1⟩
            have HR := Lib.hid hret; clear hret
            have hde : decide ((all : Int) ≤ 2 * (p : Int)) = false := by rw [decide_eq_false_iff_not]; omega
            have hbe : ((k : Int) == (l.length : Int) - 1) = true := by rw [beq_iff_eq]; omega
            go_wp2
            go_ret
            exact ⟨k, rfl, HR.out, hb.alloc hb.size _⟩
          · have hnx : Pre l (k + 1) := fun j h1 h2 => by
              rcases Nat.lt_or_ge j k with h | h
              · exact HPRE.out j h1 h
              · obtain rfl : j = k := by omega
                exact ⟨by rw [HALL.out, HP.out]; omega, hB⟩
            have HN := Lib.hid hnx; clear hnx
            have hde : decide ((all : Int) ≤ 2 * (p : Int)) = false := by rw [decide_eq_false_iff_not]; omega
            have hbe : ((k : Int) == (l.length : Int) - 1) = false := by rw [beq_eq_false_iff_ne]; omega
            go_wp2_with fail
            refine (size_any (.slice (some ⟨wr.heap.size + 1, 0, none⟩) 1 1) [l[k]] _ (new_two wr (.cells #[.string l[k].1, .string l[k].2] 49) l[k] 49) (by simp) (by rw [HZ.out]; omega)).mono ?_
            rintro r w2 ⟨rfl, hb2⟩
            rw [HZ.out]
            have hB : Below w.heap.size w w2 := ((hb.alloc hb.size _).alloc (by have := hb.size; simp; omega) _).trans (hb2.mono (by have := hb.size; simp; omega))
            clear hb hb2 c0 c1
            go_wp2
            go_roundw
            case rel => exact ⟨k + 1, by omega, by go_num, by rw [HS.out]; go_num, HN.out, hB⟩
            case measure => simp [intOf]; omega
    · have hret : M.Half l 0 := .inl ⟨by
        have h := HPRE.out (l.length - 1)
        rcases Nat.lt_or_ge l.length 2 with h2 | h2
        · exact h2
        · exact absurd (by omega) (h (by omega) (by omega)).2, rfl⟩
      have HR := Lib.hid hret; clear hret
      go_wp2
      go_ret
      exact ⟨0, rfl, HR.out, hb⟩
end Go.Proofs.Ytifdglehfhoecaa.E
