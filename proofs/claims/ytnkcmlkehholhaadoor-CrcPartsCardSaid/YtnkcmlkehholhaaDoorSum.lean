import Derived.Test.YtnkcmlkehholhaaDoorStep
namespace Go.Proofs.YtnkcmlkehholhaaDoor.Crcw
open Go.RowKit
/-- the bytes of a string -/
abbrev bts (s : ByteArray) : List UInt8 := s.data.toList
/-- cells that lie one behind the other -/
def Seg (w : World) (a : Addr) (cs : List Value) : Prop := ∀ j (h : j < cs.length), w.cell? (a.add j) = some cs[j]
theorem addBlock (a : Addr) (n : Nat) : (a.add n).block = a.block := by unfold Addr.add; split <;> rfl
theorem lt_of_cell {w : World} {a : Addr} {v : Value} (h : w.cell? a = some v) : a.block < w.heap.size := by
  rcases Nat.lt_or_ge a.block w.heap.size with h1 | h1
  · exact h1
  · have : w.heap[a.block]? = none := by simp [h1]
    simp [World.cell?, this] at h
theorem Seg.below {w w' : World} {a : Addr} {cs : List Value} (h : Seg w a cs) (hb : Below w.heap.size w w') : Seg w' a cs := fun j hj => (hb.cell (lt_of_cell (h j hj))).trans (h j hj)
/-- the bytes that a text was turned into -/
theorem bytes_world (w : World) (s : ByteArray) (cap : Nat) (t : TypeId) (fr : Nat × Nat) : ∃ w', (w.alloc (.cells (bytesRow s cap) t fr)).drew = w' ∧ Below w.heap.size w w' ∧ ∀ j (h : j < s.size), w'.cell? ⟨w.heap.size, j, none⟩ = some (.int .u8 ((s[j]).toNat : Int)) := by
  refine ⟨_, rfl, ((Below.refl _ w).alloc (Nat.le_refl _) _).drew, fun j h => ?_⟩
  show (w.alloc _).cell? _ = _
  rw [World.cell?_alloc_mark, bytesRow_at s cap j h]; rfl
theorem take_snoc (s : ByteArray) (k : Nat) (h : k < s.size) : (bts s).take (k + 1) = (bts s).take k ++ [s[k]] := by
  rw [List.take_succ_eq_append_getElem (by simpa using h)]; rfl

theorem ofInt_i64 (a : Nat) (ha : a < 9223372036854775808) : (BitVec.ofInt 64 (a : Int)).toNat = a := by
  rw [BitVec.ofInt_natCast, BitVec.toNat_ofNat]; exact Nat.mod_eq_of_lt (by omega)
theorem i64_xor_nat (a b : Nat) (ha : a < 9223372036854775808) (hb : b < 9223372036854775808) : bits .xor .i64 (a : Int) (b : Int) = ((a ^^^ b : Nat) : Int) := by
  have hx : a ^^^ b < 2 ^ 63 := Nat.xor_lt_two_pow (by omega) (by omega)
  show IntKind.i64.wrap ((BitVec.ofInt 64 (a : Int) ^^^ BitVec.ofInt 64 (b : Int)).toNat : Int) = _
  rw [BitVec.toNat_xor, ofInt_i64 a ha, ofInt_i64 b hb, IntKind.wrap_i64]
  omega
theorem ret_int {k : IntKind} {a b : Int} (h : a = b) : Ending.returned (.int k a) = .returned (.int k b) := by rw [h]

set_option maxHeartbeats 400000 in
/-- the check of any parts -/
theorem sum_some (a : Addr) (l : List ByteArray) (cap : Nat) (w : World) (hlen : l.length ≤ 9223372036854775807) (hs : ∀ s ∈ l, s.size ≤ 9223372036854775807) (hT : Table w) (hc : ∀ j (h : j < l.length), w.cell? (a.add j) = some (.string l[j])) :
    Calls Tryd.prog 9 #[.slice (some a) l.length cap] w fun e w' => e = .returned (.int .i64 ((Crcm.sum (l.flatMap bts) : Nat) : Int)) ∧ Below w.heap.size w w' := by
  have hcv := fun w s => run_bytes_of_string (P := Tryd.prog) w 9 29 5 s Tryd.underlying9 Tryd.underlying29 Tryd.underlying5
  go_enter Tryd.func9, Tryd.ntmps9
  go_wp2
  go_loopw [3, 10] (fun c i wr => ∃ k C : Nat, k ≤ l.length ∧ i = .int .i64 k ∧ c = .int .i64 C ∧ C = Crcm.run 4294967295 ((l.take k).flatMap bts) ∧ C < 4294967296 ∧ Below w.heap.size w wr) (fun _ i _ => l.length - (intOf i).toNat)
  case atStart => exact ⟨0, 4294967295, by omega, rfl, rfl, by simp [Crcm.run], by omega, Below.refl _ _⟩
  case round =>
    obtain ⟨k, C, hk, rfl, rfl, hC, hC2, hb⟩ := hrel
    have HC := Lib.hid hC; clear hC
    by_cases hlt : k < l.length
    · have h1 : wr.cell? (a.add k) = some (.string l[k]) := (hb.cell (lt_of_cell (hc k hlt))).trans (hc k hlt)
      obtain ⟨s, hs1⟩ : ∃ s, s = l[k] := ⟨_, rfl⟩
      rw [← hs1] at h1
      have hs2 : s.size ≤ 9223372036854775807 := hs s (by rw [hs1]; exact List.getElem_mem hlt)
      have HS := Lib.hid hs1; clear hs1
      go_wp2
      obtain ⟨wo, hwo, hb2, hby⟩ := bytes_world wr s (grownCap wr s.size 0 5) 5 ((bytesRow s (grownCap wr s.size 0 5)).size, (bytesRow s (grownCap wr s.size 0 5)).size + 1)
      rw [hwo]; clear hwo
      have hb3 : Below w.heap.size w wo := hb.trans (hb2.mono hb.size)
      have hT2 := hT.below hb3
      go_loop [3, 17] (fun c i => ∃ j D : Nat, j ≤ s.size ∧ i = .int .i64 j ∧ c = .int .i64 D ∧ D = Crcm.run C ((bts s).take j) ∧ D < 4294967296) (fun _ i => s.size - (intOf i).toNat)
      case atStart => exact ⟨0, C, by omega, rfl, rfl, by simp [Crcm.run], hC2⟩
      case round =>
        obtain ⟨j, D, hj, rfl, rfl, hD, hD2⟩ := hrel
        have HD := Lib.hid hD; clear hD
        by_cases hlt2 : j < s.size
        · have hbj := hby j hlt2
          go_wp2_with (go_at_call 11; refine (step_any D hD2 s[j] _ hT2).mono ?_; rintro e w' ⟨rfl, rfl⟩)
          go_round
          case rel => exact ⟨j + 1, _, by omega, by go_num, rfl, by rw [take_snoc s j hlt2, Crcm.run_append, ← HD.out]; rfl, Crcm.step_lt hD2 s[j].toNat_lt⟩
          case measure => simp [intOf]; omega
        · have hjs : j = s.size := by omega
          have HJ := Lib.hid hjs; clear hjs
          go_wp2
          go_roundw
          case rel =>
            refine ⟨k + 1, D, by omega, by go_num, rfl, ?_, hD2, hb3⟩
            rw [List.take_succ_eq_append_getElem hlt, List.flatMap_append, Crcm.run_append, ← HC.out, HD.out, HJ.out, List.take_of_length_le (by simp), HS.out]; simp
          case measure => simp [intOf]; omega
    · have hkl : k = l.length := by omega
      have HK := Lib.hid hkl; clear hkl
      have e0 : bits .xor .i64 (C : Int) 4294967295 = ((C ^^^ 4294967295 : Nat) : Int) := i64_xor_nat C 4294967295 (by omega) (by omega)
      go_wp2
      go_ret
      refine ⟨ret_int ?_, hb⟩
      rw [Crcm.sum, HC.out, HK.out, List.take_length]
set_option maxHeartbeats 400000 in
theorem sum_none (ao : Option Addr) (cap : Nat) (w : World) : Calls Tryd.prog 9 #[.slice ao 0 cap] w fun e w' => e = .returned (.int .i64 ((Crcm.sum [] : Nat) : Int)) ∧ Below w.heap.size w w' := by
  have e0 : bits .xor .i64 4294967295 4294967295 = ((4294967295 ^^^ 4294967295 : Nat) : Int) := i64_xor_nat 4294967295 4294967295 (by omega) (by omega)
  go_enter Tryd.func9, Tryd.ntmps9
  go_wp2
  refine wp_loop_rounds 1 ?_
  rw [rounds_succ]
  go_wp2
  go_ret
  exact ⟨ret_int rfl, Below.refl _ _⟩
/-- a slice whose cells are so many texts -/
def Strs (w : World) (v : Value) (l : List ByteArray) : Prop := ∃ ao cap, v = .slice ao l.length cap ∧ ∀ j (h : j < l.length), ∃ a, ao = some a ∧ w.cell? (a.add j) = some (.string l[j])
theorem sum_any (v : Value) (l : List ByteArray) (w : World) (hv : Strs w v l) (hlen : l.length ≤ 9223372036854775807) (hs : ∀ s ∈ l, s.size ≤ 9223372036854775807) (hT : Table w) :
    Calls Tryd.prog 9 #[v] w fun e w' => e = .returned (.int .i64 ((Crcm.sum (l.flatMap bts) : Nat) : Int)) ∧ Below w.heap.size w w' := by
  obtain ⟨ao, cap, rfl, hc⟩ := hv
  rcases Nat.eq_zero_or_pos l.length with h0 | h0
  · rw [h0]
    obtain rfl := List.length_eq_zero_iff.1 h0
    exact sum_none ao cap w
  · obtain ⟨a, rfl, _⟩ := hc 0 h0
    exact sum_some a l cap w hlen hs hT fun j h => by
      obtain ⟨a', e, h'⟩ := hc j h
      obtain rfl := Option.some.inj e
      exact h'
end Go.Proofs.YtnkcmlkehholhaaDoor.Crcw
