/-
  The law on halves: true for every list. Conditions: none.
-/
import Derived.Test.YtifdglehfhoecaaELawSizes
namespace Go.Proofs.Ytifdglehfhoecaa.E
open Go.RowKit B
theorem cut_same {w : World} {ao : Option Addr} {cap : Nat} {l : List Ent} (h : Ents w (.slice ao l.length cap) l) (k : Nat) (hk : k ≤ l.length) (h1 : l.length ≤ cap) (h2 : cap ≤ maxLen) : Ents w (.slice ao k cap) (l.take k) := by
  have := Rw.take h k cap hk (by omega) h2
  rw [ecs_take] at this
  unfold Ents
  rwa [List.length_take, Nat.min_eq_left hk]
set_option maxRecDepth 100000 in
set_option maxHeartbeats 1000000 in
theorem halves_any (v : Value) (l : List Ent) (w : World) (hv : Ents w v l) : Calls Try.prog 9 #[v] w fun r w' => r = .returned (.bool true) ∧ Below w.heap.size w w' := by
  obtain ⟨ao, cap, rfl, hcp, hcm, hcc⟩ := hv.open
  have HV := Lib.hid hv; clear hv hcc
  go_enter Try.func9, Try.ntmps9
  go_wp2_with fail
  refine (works_any _).mono ?_
  rintro r w1 ⟨rfl, hb1⟩
  go_wp2_with fail
  refine (over_any _ l _ (HV.out.below hb1)).mono ?_
  rintro r w2 ⟨much, rfl, hsm, hw⟩
  subst hw
  rcases much with _ | _
  case true =>
    go_wp2
    go_ret
    exact ⟨rfl, hb1⟩
  have hS := hsm rfl
  have hsz := sz_small hS
  have hl := hS.1
  clear hsm hS
  go_wp2_with fail
  refine (half_any _ l _ (HV.out.below hb1) (by omega) (by omega)).mono ?_
  rintro r w3 ⟨k, rfl, hk, hb3⟩
  have hb3 := hb1.trans (hb3.mono hb1.size)
  clear hb1
  rcases hk with ⟨h2, rfl⟩ | ⟨hk1, hk2, hk3, hk4⟩
  · go_wp2
    go_ret
    exact ⟨rfl, hb3⟩
  obtain ⟨all, hall⟩ : ∃ t, M.sz l = t := ⟨_, rfl⟩
  have HALL := Lib.hid hall
  have hle := M.sz_take_le l k
  rw [hall] at hsz hk3 hk4 hle
  obtain ⟨p, hp⟩ : ∃ t, M.sz (l.take k) = t := ⟨_, rfl⟩
  have HP := Lib.hid hp
  rw [hp] at hk3 hle
  obtain ⟨m, hkm⟩ : ∃ m, k = m + 1 := ⟨k - 1, by omega⟩
  have hle2 := M.sz_take_le l m
  obtain ⟨q, hq⟩ : ∃ t, M.sz (l.take m) = t := ⟨_, rfl⟩
  have HQ := Lib.hid hq
  rw [hall, hq] at hle2
  have hk4' : k ≠ 1 → 2 * q < all := fun h => by have := hk4 m (by omega) (by omega); rw [hq] at this; exact this
  have HK4 := Lib.hid hk4'
  have HK3 := Lib.hid hk3
  clear hall hp hq hk4 hk4' hk3
  have hkz : (0 : Int) ≤ (k : Int) := Int.natCast_nonneg _
  have hkc : (k : Int) ≤ (cap : Int) := by omega
  have hmz : (0 : Int) ≤ (m : Int) := Int.natCast_nonneg _
  have hmc : (m : Int) ≤ (cap : Int) := by omega
  have HKM := Lib.hid hkm; clear hkm
  go_wp2_with fail
  refine (size_any _ l _ (HV.out.below hb3) (by omega) (by rw [HALL.out]; omega)).mono ?_
  rintro r w4 ⟨rfl, hb4⟩
  rw [HALL.out]
  have hb4 := hb3.trans (hb4.mono hb3.size)
  clear hb3
  go_wp2_with fail
  refine (size_any _ (l.take k) _ (cut_same (HV.out.below hb4) k (by omega) hcp hcm) (by simp; omega) (by rw [HP.out]; omega)).mono ?_
  rintro r w5 ⟨rfl, hb5⟩
  rw [HP.out]
  have hb5 := hb4.trans (hb5.mono hb4.size)
  clear hb4
  have hm1 : ((k : Int) - 1) = (m : Int) := by have := HKM.out; omega
  have HM1 := Lib.hid hm1
  clear hm1
  by_cases hA : all ≤ 2 * p
  · by_cases h1 : k = 1
    · have H1 := Lib.hid h1
      have h1' : ((k : Int) == 1) = true := by rw [h1]; rfl
      clear h1
      go_wp2
      go_ret
      exact ⟨rfl, hb5⟩
    · have hq := HK4.out h1
      have HQD := Lib.hid (show decide (2 * (q : Int) < (all : Int)) = true by rw [decide_eq_true_eq]; omega)
      have h1' : ((k : Int) == 1) = false := by rw [beq_eq_false_iff_ne]; omega
      have hm1 := HM1.out
      go_wp2_with fail
      refine (size_any _ (l.take m) _ (cut_same (HV.out.below hb5) m (by omega) hcp hcm) (by simp; omega) (by rw [HQ.out]; omega)).mono ?_
      rintro r w6 ⟨rfl, hb6⟩
      rw [HQ.out]
      have hb6 := hb5.trans (hb6.mono hb5.size)
      clear hb5
      go_wp2
      go_ret
      exact ⟨congrArg (fun b => Ending.returned (.bool b)) HQD.out, hb6⟩
  · have hkl : k + 1 = l.length := by have := HK3.out; omega
    have hd : decide ((all : Int) ≤ 2 * (p : Int)) = false := by rw [decide_eq_false_iff_not]; omega
    have hbe : ((k : Int) == (l.length : Int) - 1) = true := by rw [beq_iff_eq]; omega
    by_cases h1 : k = 1
    · have h1' : ((k : Int) == 1) = true := by rw [h1]; rfl
      clear h1
      go_wp2
      go_ret
      exact ⟨rfl, hb5⟩
    · have hq := HK4.out h1
      have HQD := Lib.hid (show decide (2 * (q : Int) < (all : Int)) = true by rw [decide_eq_true_eq]; omega)
      have h1' : ((k : Int) == 1) = false := by rw [beq_eq_false_iff_ne]; omega
      have hm1 := HM1.out
      go_wp2_with fail
      refine (size_any _ (l.take m) _ (cut_same (HV.out.below hb5) m (by omega) hcp hcm) (by simp; omega) (by rw [HQ.out]; omega)).mono ?_
      rintro r w6 ⟨rfl, hb6⟩
      rw [HQ.out]
      have hb6 := hb5.trans (hb6.mono hb5.size)
      clear hb5
      go_wp2
      go_ret
      exact ⟨congrArg (fun b => Ending.returned (.bool b)) HQD.out, hb6⟩
end Go.Proofs.Ytifdglehfhoecaa.E
