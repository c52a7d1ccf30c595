/-
  What is looked at; the document's answers on sizes. Conditions: below 2^30 entries, below 2^60 bytes.
-/
import Derived.Test.YtifdglehfhoecaaEHalf
import Derived.IntWalk
namespace Go.Proofs.Ytifdglehfhoecaa.E
open Go.RowKit B
/-- no more than is looked at -/
def Small (l : List Ent) : Prop := l.length ≤ 60 ∧ ∀ e ∈ l, e.1.size ≤ 60 ∧ e.2.size ≤ 300
def Ovr (l : List Ent) (w : World) (r : Ending) (w' : World) : Prop := ∃ b, r = .returned (.bool b) ∧ (b = false → Small l) ∧ w = w'
theorem over_any (v : Value) (l : List Ent) (w : World) (hv : Ents w v l) : Calls Try.prog 31 #[v] w (Ovr l w) := by
  obtain ⟨ao, cap, rfl, _, _, hc⟩ := hv.open
  have HC := Lib.hid hc; clear hc hv
  by_cases h60 : 60 < l.length
  · go_enter Try.func31, Try.ntmps31
    go_wp2
    go_ret
    exact ⟨true, rfl, fun h => Bool.noConfusion h, rfl⟩
  go_enter Try.func31, Try.ntmps31
  go_wp2
  go_loopw [3] (fun i wr => ∃ k : Nat, k ≤ l.length ∧ i = .int .i64 k ∧ (∀ j (_h : j < l.length), j < k → l[j].1.size ≤ 60 ∧ l[j].2.size ≤ 300) ∧ w = wr) (fun i _ => l.length - (intOf i).toNat)
  case atStart => exact ⟨0, Nat.zero_le _, rfl, fun j _ h => absurd h (by omega), rfl⟩
  case round =>
    obtain ⟨k, hk, rfl, hpre, hw⟩ := hrel
    subst hw
    have HPRE := Lib.hid hpre; clear hpre
    by_cases hlt : k < l.length
    · obtain ⟨b, o, rfl, c0, c1⟩ := HC.out k hlt
      by_cases h1 : 60 < l[k].1.size
      · go_wp2
        go_ret
        exact ⟨true, rfl, fun h => Bool.noConfusion h, rfl⟩
      · by_cases h2 : 300 < l[k].2.size
        · go_wp2
          go_ret
          exact ⟨true, rfl, fun h => Bool.noConfusion h, rfl⟩
        · have hn : ∀ j (_h : j < l.length), j < k + 1 → l[j].1.size ≤ 60 ∧ l[j].2.size ≤ 300 := fun j hj hjk => by
            rcases Nat.lt_or_ge j k with h | h
            · exact HPRE.out j hj h
            · obtain rfl : j = k := by omega
              exact ⟨by omega, by omega⟩
          have HN := Lib.hid hn; clear hn
          go_wp2
          go_roundw
          case rel => exact ⟨k + 1, by omega, by go_num, HN.out, by first | rfl | trivial⟩
          case measure => simp [intOf]; omega
    · have hs : Small l := ⟨by omega, fun e he => by
        obtain ⟨j, hj, rfl⟩ := List.getElem_of_mem he
        exact HPRE.out j hj (by omega)⟩
      have HS := Lib.hid hs; clear hs
      go_wp2
      go_ret
      exact ⟨false, rfl, fun _ => HS.out, rfl⟩
theorem rsize_any (v : Value) (l : List Ent) (w : World) (hv : Ents w v l) (hlen : l.length ≤ 1000000000) (hsz : M.sz l ≤ 1152921504606846976) :
    Calls Try.prog 35 #[v] w fun r w' => r = .returned (.int .i64 (M.sz l : Int)) ∧ Below w.heap.size w w' := by
  obtain ⟨ao, cap, rfl, _, _, hc⟩ := hv.open
  have HC := Lib.hid hc; clear hc hv
  go_enter Try.func35, Try.ntmps35
  go_wp2
  go_loopw [3, 4] (fun n i wr => ∃ k : Nat, k ≤ l.length ∧ i = .int .i64 k ∧ n = .int .i64 (M.sz (l.take k) : Int) ∧ Below w.heap.size w wr) (fun _ i _ => l.length - (intOf i).toNat)
  case atStart => exact ⟨0, Nat.zero_le _, rfl, rfl, Below.refl _ _⟩
  case round =>
    obtain ⟨k, hk, rfl, rfl, hb⟩ := hrel
    by_cases hlt : k < l.length
    · obtain ⟨b, o, rfl, hk0, hv0⟩ := HC.out k hlt
      have c0 := (hb.cell (lt_of_cell hk0)).trans hk0
      have c1 := (hb.cell (lt_of_cell hv0)).trans hv0
      clear hk0 hv0
      have hs := M.sz_snoc l k hlt
      have hle := M.sz_take_le l (k + 1)
      obtain ⟨p, hp⟩ : ∃ p, M.sz (l.take k) = p := ⟨_, rfl⟩
      obtain ⟨q, hq⟩ : ∃ q, M.sz (l.take (k + 1)) = q := ⟨_, rfl⟩
      rw [hp, hq] at hs
      rw [hq] at hle
      rw [hp]
      have hk0 : (0 : Int) ≤ (k : Int) := Int.natCast_nonneg _
      have hk1 : (k : Int) < (l.length : Int) := by omega
      have s1 : IntKind.i64.wrap ((p : Int) + 2) = (p : Int) + 2 := IntWalk.i64_in _ (by omega)
      have s2 : IntKind.i64.wrap ((p : Int) + 2 + (l[k].1.size : Int)) = (p : Int) + 2 + (l[k].1.size : Int) := IntWalk.i64_in _ (by omega)
      have s3 : IntKind.i64.wrap ((p : Int) + 2 + (l[k].1.size : Int) + (l[k].2.size : Int)) = (q : Int) := by rw [IntWalk.i64_in _ (by omega)]; omega
      have HS := Lib.hid hs; have HQ := Lib.hid hq
      have HLE := Lib.hid (show q ≤ 1152921504606846976 by omega)
      clear hs hp hq hle
      go_upto_region 5 with (fail)
      go_quiet (fail)
      clear s1 s2 s3
      go_wp2
      go_roundw
      case rel => exact ⟨k + 1, by omega, by go_num, by rw [HQ.out], ⟨hb.os, hb.tape, hb.output, hb.size, hb.block⟩⟩
      case measure => simp [intOf]; omega
    · have hkk : k = l.length := by omega
      have HK := Lib.hid hkk; clear hkk
      go_wp2
      go_ret
      exact ⟨by rw [HK.out, List.take_length]; rfl, hb⟩
theorem rhalf_any (v : Value) (l : List Ent) (w : World) (hv : Ents w v l) (hlen : l.length ≤ 1000000000) (hsz : M.sz l ≤ 1152921504606846976) :
    Calls Try.prog 36 #[v] w (Hlf l w) := by
  have hop := hv.open
  have HV := Lib.hid hv; clear hv
  obtain ⟨ao, cap, rfl, hcp, hcm, _⟩ := hop
  by_cases h2 : l.length < 2
  · have HR := Lib.hid (show M.Half l 0 from .inl ⟨h2, rfl⟩)
    go_enter Try.func36, Try.ntmps36
    go_wp2
    go_ret
    exact ⟨0, rfl, HR.out, Below.refl _ _⟩
  obtain ⟨all, hall⟩ : ∃ t, M.sz l = t := ⟨_, rfl⟩
  have HALL := Lib.hid hall
  rw [hall] at hsz
  clear hall
  go_enter Try.func36, Try.ntmps36
  go_wp2
  go_loopw [3] (fun i wr => ∃ k : Nat, 1 ≤ k ∧ k ≤ l.length ∧ i = .int .i64 k ∧ (∀ j, 1 ≤ j → j < k → 2 * M.sz (l.take j) < M.sz l) ∧ Below w.heap.size w wr) (fun i _ => l.length - (intOf i).toNat)
  case atStart => exact ⟨1, Nat.le_refl _, by omega, rfl, fun j _ h => absurd h (by omega), Below.refl _ _⟩
  case round =>
    obtain ⟨k, hk1, hk, rfl, hpre, hb⟩ := hrel
    have HPRE := Lib.hid hpre; clear hpre
    by_cases hlt : k < l.length
    · have hle := M.sz_take_le l k
      obtain ⟨p, hp⟩ : ∃ p, M.sz (l.take k) = p := ⟨_, rfl⟩
      have HP := Lib.hid hp
      rw [HALL.out, hp] at hle
      clear hp
      have hcut : Ents wr (.slice ao k cap) (l.take k) := by
        have := Rw.take (HV.out.below hb) k cap (by omega) (by omega) hcm
        rw [ecs_take] at this
        unfold Ents
        rwa [List.length_take, Nat.min_eq_left hk]
      have HCUT := Lib.hid hcut; clear hcut
      have hkz : (0 : Int) ≤ (k : Int) := Int.natCast_nonneg _
      have hkc : (k : Int) ≤ (cap : Int) := by omega
      go_wp2_with fail
      refine (rsize_any _ (l.take k) _ HCUT.out (by simp; omega) (by rw [HP.out]; omega)).mono ?_
      rintro r w1 ⟨rfl, hb1⟩
      rw [HP.out]
      have hb1 := hb.trans (hb1.mono hb.size)
      clear hb
      go_wp2_with fail
      refine (rsize_any _ l _ (HV.out.below hb1) hlen (by rw [HALL.out]; exact hsz)).mono ?_
      rintro r w2 ⟨rfl, hb2⟩
      rw [HALL.out]
      have hb2 := hb1.trans (hb2.mono hb1.size)
      clear hb1
      by_cases hA : all ≤ 2 * p
      · have HR := Lib.hid (show M.Half l k from .inr ⟨hk1, hlt, .inl (by rw [HALL.out, HP.out]; exact hA), HPRE.out⟩)
        go_wp2
        go_ret
        exact ⟨k, rfl, HR.out, hb2⟩
      · have hn : ∀ j, 1 ≤ j → j < k + 1 → 2 * M.sz (l.take j) < M.sz l := fun j h1 h2 => by
          rcases Nat.lt_or_ge j k with h | h
          · exact HPRE.out j h1 h
          · obtain rfl : j = k := by omega
            rw [HALL.out, HP.out]; omega
        have HN := Lib.hid hn; clear hn
        go_wp2
        go_roundw
        case rel => exact ⟨k + 1, by omega, by omega, by go_num, HN.out, hb2⟩
        case measure => simp [intOf]; omega
    · have HR := Lib.hid (show M.Half l (l.length - 1) from .inr ⟨by omega, by omega, .inr (by omega), fun j h1 h2 => HPRE.out j h1 (by omega)⟩)
      have hl1 : ((l.length : Int) - 1) = ((l.length - 1 : Nat) : Int) := by omega
      have HL := Lib.hid hl1; clear hl1
      go_wp2
      go_ret
      exact ⟨l.length - 1, ret_int HL.out, HR.out, hb⟩
end Go.Proofs.Ytifdglehfhoecaa.E
