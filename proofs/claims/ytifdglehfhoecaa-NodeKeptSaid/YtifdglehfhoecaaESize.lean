/-
  A key's value; how many bytes entries take; where a list is cut; a list's bytes. Conditions: below 2^30 entries, below 2^60 bytes.
-/
import Derived.Test.YtifdglehfhoecaaEFind
import Derived.Test.YtifdglehfhoecaaEGrow
import Derived.Test.YtifdglehfhoecaaPut
namespace Go.Proofs.Ytifdglehfhoecaa.E
open Go.RowKit B
/-- a key's value, as it is told -/
def getl (l : List Ent) (k : ByteArray) : Option ByteArray := if M.Ok l then (l.find? fun e => decide (e.1 = k)).map (·.2) else none
theorem getl_yes {l : List Ent} {i : Nat} (ho : M.Ok l) (hi : i < l.length) : getl l l[i].1 = some l[i].2 := by
  unfold getl
  rw [if_pos ho]
  have h : l.find? (fun e => decide (e.1 = l[i].1)) = some l[i] := by
    rw [List.find?_eq_some_iff_getElem]
    refine ⟨by simp, i, hi, rfl, fun j hj => ?_⟩
    have := M.klt_ne (M.asc_lt ho.2 hj hi)
    simpa using this
  rw [h]; rfl
theorem getl_no {l : List Ent} {k : ByteArray} (h : M.Ok l → ¬ M.has l k) : getl l k = none := by
  unfold getl
  split
  · rename_i ho
    have h : l.find? (fun e => decide (e.1 = k)) = none := by
      rw [List.find?_eq_none]
      intro e he hk
      exact h ho ⟨e.2, by have : e.1 = k := by simpa using hk
                          rw [← this]; exact he⟩
    rw [h]; rfl
  · rfl
def Got (x : Option ByteArray) (w : World) (r : Ending) (w' : World) : Prop := r = .returned (.tuple #[.string (x.getD ByteArray.empty), .bool x.isSome]) ∧ Below w.heap.size w w'
theorem get_any (v : Value) (l : List Ent) (key : ByteArray) (w : World) (hv : Ents w v l) (hlen : l.length ≤ 1000000000) :
    Calls Try.prog 42 #[v, .string key] w (Got (getl l key) w) := by
  have hop := hv.open
  have HV := Lib.hid hv; clear hv
  obtain ⟨ao, cap, rfl, _, _, hc⟩ := hop
  have HC := Lib.hid hc; clear hc
  go_enter Try.func42, Try.ntmps42
  go_wp2_with fail
  refine (find_any _ l key _ HV.out (by omega)).mono ?_
  rintro r w1 ⟨i, ok, rfl, h1, h2, h3, hb⟩
  have H2 := Lib.hid h2; have H3 := Lib.hid h3
  clear h2 h3
  rcases ok with _ | _
  · have hno : getl l key = none := getl_no fun ho hh => by
      have := H2.out.2 ((M.low_has (H3.out ho.2) ho.2).1 hh)
      exact Bool.noConfusion this
    have HNO := Lib.hid hno; clear hno
    go_wp2
    go_ret2
    exact ⟨by rw [HNO.out]; rfl, hb⟩
  · obtain ⟨hi, hki⟩ := H2.out.1 rfl
    obtain ⟨b, o, rfl, _, hv0⟩ := HC.out i hi
    by_cases ho : M.Ok l
    · have hy := getl_yes ho hi
      rw [hki] at hy
      have HD := Lib.hid (show decide (M.Ok l) = true by simp [ho])
      have HY := Lib.hid hy
      clear hy hki ho
      go_wp2_with fail
      refine (right_any _ l _ (HV.out.below hb) (by omega)).mono ?_
      rintro r w2 ⟨rfl, hb2⟩
      rw [HD.out]
      have hB := hb.trans (hb2.mono hb.size)
      have c1 := (hB.cell (lt_of_cell hv0)).trans hv0
      clear hb hb2 hv0
      go_wp2
      go_ret2
      exact ⟨by rw [HY.out]; rfl, hB⟩
    · have HD := Lib.hid (show decide (M.Ok l) = false by simp [ho])
      have HY := Lib.hid (getl_no (k := key) (fun h => absurd h ho))
      clear hki ho
      go_wp2_with fail
      refine (right_any _ l _ (HV.out.below hb) (by omega)).mono ?_
      rintro r w2 ⟨rfl, hb2⟩
      rw [HD.out]
      have hB := hb.trans (hb2.mono hb.size)
      clear hb hb2 hv0
      go_wp2
      go_ret2
      exact ⟨by rw [HY.out]; rfl, hB⟩
theorem size_walk (ao : Option Addr) (cap : Nat) (l : List Ent) (w : World) (hlen : l.length ≤ 1000000000) (hsz : M.sz l ≤ 1152921504606846976)
    (hc : ∀ j (_h : j < l.length), ∃ b o, ao = some ⟨b, o, none⟩ ∧ w.cell? ⟨b, o + j * 2, none⟩ = some (.string l[j].1) ∧ w.cell? ⟨b, o + j * 2 + 1, none⟩ = some (.string l[j].2)) :
    Calls Try.prog 34 #[.slice ao l.length cap] w fun r w' => r = .returned (.int .i64 (M.sz l : Int)) ∧ Below w.heap.size w w' := by
  have HC := Lib.hid hc; clear hc
  go_enter Try.func34, Try.ntmps34
  go_wp2
  go_loopw [3, 8] (fun n i wr => ∃ k : Nat, k ≤ l.length ∧ i = .int .i64 k ∧ n = .int .i64 (M.sz (l.take k) : Int) ∧ Below w.heap.size w wr) (fun _ i _ => l.length - (intOf i).toNat)
  case atStart => exact ⟨0, Nat.zero_le _, rfl, rfl, Below.refl _ _⟩
  case round =>
    obtain ⟨k, hk, rfl, rfl, hb⟩ := hrel
    by_cases hlt : k < l.length
    · obtain ⟨b, o, rfl, hk0, hv0⟩ := HC.out k hlt
      have c0 := (hb.cell (lt_of_cell hk0)).trans hk0
      have c1 := (hb.cell (lt_of_cell hv0)).trans hv0
      have hs := M.sz_snoc l k hlt
      have hle := M.sz_take_le l (k + 1)
      obtain ⟨p, hp⟩ : ∃ p, M.sz (l.take k) = p := ⟨_, rfl⟩
      obtain ⟨q, hq⟩ : ∃ q, M.sz (l.take (k + 1)) = q := ⟨_, rfl⟩
      rw [hp, hq] at hs
      rw [hq] at hle
      rw [hp]
      have hlk : l[k].1.size ≤ q := by omega
      have hlv : l[k].2.size ≤ q := by omega
      have hsum : p + (2 + l[k].1.size + l[k].2.size) ≤ 1152921504606846976 := by omega
      have HS := Lib.hid hs; have HQ := Lib.hid hq
      clear hs hp hq hk0 hv0 hle
      go_wp2
      go_roundw
      case rel => exact ⟨k + 1, by omega, by go_num, by rw [HQ.out, HS.out]; go_num, ⟨hb.os, hb.tape, hb.output, by have := hb.size; simp; omega, (hb.alloc hb.size _).block⟩⟩
      case measure => simp [intOf]; omega
    · have hkk : k = l.length := by omega
      have HK := Lib.hid hkk; clear hkk
      go_wp2
      go_ret
      exact ⟨by rw [HK.out, List.take_length]; rfl, hb⟩
theorem size_any (v : Value) (l : List Ent) (w : World) (hv : Ents w v l) (hlen : l.length ≤ 1000000000) (hsz : M.sz l ≤ 1152921504606846976) :
    Calls Try.prog 34 #[v] w fun r w' => r = .returned (.int .i64 (M.sz l : Int)) ∧ Below w.heap.size w w' := by
  obtain ⟨ao, cap, rfl, _, _, hc⟩ := hv.open
  exact size_walk ao cap l w hlen hsz hc
end Go.Proofs.Ytifdglehfhoecaa.E
