/-
  The document's answer for the check: one byte more, and the check of a text. Conditions: texts of at most 2^62 bytes.
-/
import Derived.Test.YtnkcmlkehholhaaDoorWorks
namespace Go.Proofs.YtnkcmlkehholhaaDoor.Crcw
open Go.RowKit
theorem bits_snoc (k n : Nat) : Crcm.bits (k + 1) n = Crcm.bit (Crcm.bits k n) := by
  rw [Crcm.bits_add]; rfl
set_option maxHeartbeats 400000 in
theorem refstep_core (c b : Int) (n0 : Nat) (w : World) (e1 : bits .xor .u32 (c % 4294967296) b = (n0 : Int)) (hn0 : n0 < 4294967296) (hb : 0 ≤ b) (hb2 : b < 256) :
    Calls Tryd.prog 12 #[.int .i64 c, .int .u8 b] w fun e w' => e = .returned (.int .i64 ((Crcm.bits 8 n0 : Nat) : Int)) ∧ w = w' := by
  go_enter Tryd.func12, Tryd.ntmps12
  go_wp2
  go_loop [5, 6, 7] (fun x i o => ∃ k n : Nat, k ≤ 8 ∧ i = .int .i64 k ∧ x = .int .u32 n ∧ n = Crcm.bits k n0 ∧ n < 4294967296) (fun _ i _ => 8 - (intOf i).toNat)
  case atStart => exact ⟨0, n0, by omega, rfl, rfl, rfl, hn0⟩
  case round =>
    obtain ⟨k, n, hk, rfl, rfl, hn, hn2⟩ := hrel
    have HN := Lib.hid hn; clear hn
    by_cases hlt : k < 8
    · by_cases hp : n % 2 = 1
      · have hp1 : ((n : Int) % 2 == 1) = true := by simp; omega
        have he : bits .xor .u32 ((n : Int) / 2) 3988292384 = ((Crcm.bit n : Nat) : Int) := by
          unfold Crcm.bit; rw [if_pos hp]; exact u32_xor_nat (n / 2) 3988292384 (by omega) (by omega)
        have hl := Crcm.bit_lt hn2
        have HP := Lib.hid hp; clear hp
        go_wp2
        go_round
        case rel => exact ⟨k + 1, _, by omega, by go_num, rfl, by rw [bits_snoc, ← HN.out], hl⟩
        case measure => simp [intOf]; omega
      · have hp1 : ((n : Int) % 2 == 1) = false := by simp; omega
        have he : n / 2 = Crcm.bit n := by unfold Crcm.bit; rw [if_neg hp]; simp
        have HE := Lib.hid he; clear he
        have HP := Lib.hid hp; clear hp
        go_wp2
        go_round
        case rel => exact ⟨k + 1, n / 2, by omega, by go_num, rfl, by rw [bits_snoc, ← HN.out, HE.out], by omega⟩
        case measure => simp [intOf]; omega
    · have hk8 : k = 8 := by omega
      have HK := Lib.hid hk8; clear hk8
      go_wp2
      go_ret
      exact ⟨ret_int (by rw [HN.out, HK.out]), rfl⟩
theorem refstep_int (c : Int) (b : UInt8) (w : World) :
    Calls Tryd.prog 12 #[.int .i64 c, .int .u8 (b.toNat : Int)] w fun e w' => e = .returned (.int .i64 ((Crcm.step (c % 4294967296).toNat b.toNat : Nat) : Int)) ∧ w = w' := by
  obtain ⟨C, hC⟩ : ∃ C : Nat, c % 4294967296 = (C : Int) := ⟨(c % 4294967296).toNat, by omega⟩
  have hb := b.toNat_lt
  have hC2 : C < 4294967296 := by omega
  rw [show (c % 4294967296).toNat = C by omega]
  exact refstep_core c b.toNat (C ^^^ b.toNat) w (by rw [hC]; exact u32_xor_nat C b.toNat hC2 (by omega)) (Crcm.xor_lt hC2 (by omega)) (by omega) (by omega)
theorem refstep_any (C : Nat) (hC : C < 4294967296) (b : UInt8) (w : World) :
    Calls Tryd.prog 12 #[.int .i64 (C : Int), .int .u8 (b.toNat : Int)] w fun e w' => e = .returned (.int .i64 ((Crcm.step C b.toNat : Nat) : Int)) ∧ w = w' := by
  have h := refstep_int (C : Int) b w
  rwa [show ((C : Int) % 4294967296).toNat = C by omega] at h
set_option maxHeartbeats 400000 in
theorem refsum_any (s : ByteArray) (w : World) (hs : s.size ≤ 4611686018427387904) :
    Calls Tryd.prog 10 #[.string s] w fun e w' => e = .returned (.int .i64 ((Crcm.sum (bts s) : Nat) : Int)) ∧ w = w' := by
  go_enter Tryd.func10, Tryd.ntmps10
  go_wp2
  go_loop [3, 4] (fun c i => ∃ j D : Nat, j ≤ s.size ∧ i = .int .i64 j ∧ c = .int .i64 D ∧ D = Crcm.run 4294967295 ((bts s).take j) ∧ D < 4294967296) (fun _ i => s.size - (intOf i).toNat)
  case atStart => exact ⟨0, 4294967295, by omega, rfl, rfl, by simp [Crcm.run], by omega⟩
  case round =>
    obtain ⟨j, D, hj, rfl, rfl, hD, hD2⟩ := hrel
    have HD := Lib.hid hD; clear hD
    by_cases hlt2 : j < s.size
    · go_wp2_with (go_at_call 12; refine (refstep_any D hD2 s[j] _).mono ?_; rintro e w' ⟨rfl, rfl⟩)
      go_round
      case rel => exact ⟨j + 1, _, by omega, by go_num, rfl, by rw [take_snoc s j hlt2, Crcm.run_append, ← HD.out]; rfl, Crcm.step_lt hD2 s[j].toNat_lt⟩
      case measure => simp [intOf]; omega
    · have hjs : j = s.size := by omega
      have HJ := Lib.hid hjs; clear hjs
      have e0 : bits .xor .i64 (D : Int) 4294967295 = ((D ^^^ 4294967295 : Nat) : Int) := i64_xor_nat D 4294967295 (by omega) (by omega)
      go_wp2
      go_ret
      exact ⟨ret_int (by rw [Crcm.sum, HD.out, HJ.out, List.take_of_length_le (by simp)]), rfl⟩
end Go.Proofs.YtnkcmlkehholhaaDoor.Crcw
