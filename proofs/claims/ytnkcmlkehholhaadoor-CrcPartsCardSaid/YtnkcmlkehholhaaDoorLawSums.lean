/-
  The walk of CrcSums: it answers true. Conditions: the table lies in its cells; the slice's cells are texts.
-/
import Derived.Test.YtnkcmlkehholhaaDoorRef
namespace Go.Proofs.YtnkcmlkehholhaaDoor.Crcw
open Go.RowKit
theorem bts_append (a b : ByteArray) : bts (a ++ b) = bts a ++ bts b := by simp [bts]
theorem bts_size (a : ByteArray) : (bts a).length = a.size := by simp [bts]
theorem beq_self_nat (x : Nat) : ((x : Int) == (x : Int)) = true := by simp
set_option maxHeartbeats 1000000 in
theorem sums_walk (ao : Option Addr) (cap : Nat) (L : List ByteArray) (c : Int) (b : UInt8) (w : World) (hc : ∀ j (h : j < L.length), ∃ a, ao = some a ∧ w.cell? (a.add j) = some (.string L[j])) (hlen : L.length ≤ 9223372036854775807) (hT : Table w) :
    Calls Tryd.prog 3 #[.slice ao L.length cap, .int .i64 c, .int .u8 (b.toNat : Int)] w fun e w' => e = .returned (.bool true) ∧ Below w.heap.size w w' := by
  have HC := Lib.hid hc; clear hc
  go_enter Tryd.func3, Tryd.ntmps3
  go_wp2_with fail
  refine (works_any _ hT).mono ?_
  rintro e w1 ⟨rfl, hb⟩
  have hT1 := hT.below hb
  by_cases h40 : 40 < L.length
  · go_wp2
    go_ret
    exact ⟨rfl, hb⟩
  · go_wp2
    go_loop [8, 9] (fun s i => ∃ (j : Nat) (A : ByteArray), j ≤ L.length ∧ i = .int .i64 j ∧ s = .string A ∧ bts A = (L.take j).flatMap bts ∧ A.size ≤ 2048 * j ∧ ∀ x ∈ L.take j, x.size ≤ 2048) (fun _ i => L.length - (intOf i).toNat)
    case atStart => exact ⟨0, ByteArray.empty, by omega, rfl, rfl, by simp, by simp, by simp⟩
    case round =>
      obtain ⟨j, A, hj, rfl, rfl, hA, hA2, hA3⟩ := hrel
      have HA := Lib.hid hA; clear hA
      have HA3 := Lib.hid hA3; clear hA3
      by_cases hlt : j < L.length
      · obtain ⟨a, rfl, hcell⟩ := HC.out j hlt
        have hcell1 : w1.cell? (a.add j) = some (.string L[j]) := (hb.cell (lt_of_cell hcell)).trans hcell
        clear hcell
        obtain ⟨s, hs1⟩ : ∃ s, s = L[j] := ⟨_, rfl⟩
        rw [← hs1] at hcell1
        have HS := Lib.hid hs1; clear hs1
        by_cases hbig : 2048 < s.size
        · go_wp2
          go_ret
          exact ⟨rfl, hb⟩
        · go_wp2
          go_round
          case rel =>
            refine ⟨j + 1, A ++ s, by omega, by go_num, rfl, ?_, ?_, ?_⟩
            · rw [bts_append, List.take_succ_eq_append_getElem hlt, List.flatMap_append, HA.out, HS.out]; simp
            · have h3 : (A ++ s).size = A.size + s.size := ByteArray.size_append
              omega
            · intro x hx
              rw [List.take_succ_eq_append_getElem hlt, List.mem_append] at hx
              rcases hx with hx | hx
              · exact HA3.out x hx
              · simp at hx; rw [hx, ← HS.out]; omega
          case measure => simp [intOf]; omega
      · have hjl : j = L.length := by omega
        have h3 : ∀ x ∈ L, x.size ≤ 9223372036854775807 := fun x hx => by
          have := HA3.out x (by rw [hjl, List.take_length]; exact hx)
          omega
        have h4 : bts A = L.flatMap bts := by rw [HA.out, hjl, List.take_length]
        have H3 := Lib.hid h3; clear h3
        have H4 := Lib.hid h4; clear h4
        have HJ := Lib.hid hjl; clear hjl
        go_wp2_with fail
        refine (sum_any _ L _ ⟨ao, cap, rfl, fun j h => ?_⟩ hlen H3.out hT1).mono ?_
        · obtain ⟨a, e, hcell⟩ := HC.out j h
          exact ⟨a, e, (hb.cell (lt_of_cell hcell)).trans hcell⟩
        rintro e w2 ⟨rfl, hb2⟩
        have hB2 : Below w.heap.size w w2 := hb.trans (hb2.mono hb.size)
        have hT2 := hT.below hB2
        clear hb2
        rw [← H4.out]
        have e1 := beq_self_nat (Crcm.sum (bts A))
        go_wp2_with fail
        refine (refsum_any A _ (by omega)).mono ?_
        rintro e w3 ⟨rfl, rfl⟩
        go_wp2_with fail
        refine (step_int c b _ hT2).mono ?_
        rintro e w3 ⟨rfl, rfl⟩
        have e2 := beq_self_nat (Crcm.step (c % 4294967296).toNat b.toNat)
        go_wp2_with fail
        refine (refstep_int c b _).mono ?_
        rintro e w3 ⟨rfl, rfl⟩
        go_wp2
        go_ret
        exact ⟨rfl, hB2⟩
theorem sums_any (L : List ByteArray) (v : Value) (c : Int) (b : UInt8) (w : World) (hv : ∃ (ao : Option Addr) (cap : Nat), v = .slice ao L.length cap ∧ L.length ≤ maxLen ∧ (∀ s ∈ L, s.size ≤ maxLen) ∧ ∀ j (hj : j < L.length), ∃ a, ao = some a ∧ w.cell? (a.add j) = some (.string L[j])) (hT : Table w) :
    Calls Tryd.prog 3 #[v, .int .i64 c, .int .u8 (b.toNat : Int)] w fun e w' => e = .returned (.bool true) ∧ Below w.heap.size w w' := by
  obtain ⟨ao, cap, rfl, hlen, _, hc⟩ := hv
  exact sums_walk ao cap L c b w hc hlen hT
end Go.Proofs.YtnkcmlkehholhaaDoor.Crcw
