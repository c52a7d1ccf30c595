/-
  Numbers and texts as bytes. Conditions: texts below 2^62 bytes.
-/
import Derived.Test.YtifdglehfhoecaaInt
import Derived.OwnWalk
import Derived.Outline
namespace Go.Proofs.Ytifdglehfhoecaa.C
open Go.RowKit B
/-- a byte's cell -/
def u8v (b : UInt8) : Value := .int .u8 (b.toNat : Int)
/-- the first bytes of a number of Z bytes: those but the last j -/
def pbF (Z j n : Nat) : List UInt8 := (List.range (Z - j)).map fun t => UInt8.ofNat (n / 256 ^ (Z - 1 - t))
def pb (Z n : Nat) : List UInt8 := pbF Z 0 n
theorem info5 : (Try.prog.info? 5).map (fun i => (i.zero, i.size, i.bytes)) = some (some (.int .u8 0), 1, 1) := by kernel_rfl
theorem pow8 (k : Nat) : 2 ^ (8 * k) = 256 ^ k := by rw [Nat.pow_mul]
theorem div8 (n k : Nat) : (n : Int) / 2 ^ (8 * k) = ((n / 256 ^ k : Nat) : Int) := by
  rw [← pow8]; push_cast; rfl
theorem pbF_len (Z j n : Nat) : (pbF Z j n).length = Z - j := by simp [pbF]
theorem pbF_snoc (Z k n : Nat) (h : k < Z) : pbF Z k n = pbF Z (k + 1) n ++ [UInt8.ofNat (n / 256 ^ k)] := by
  unfold pbF
  rw [show Z - k = (Z - (k + 1)) + 1 by omega, List.range_succ, List.map_append, List.map_singleton, show Z - 1 - (Z - (k + 1)) = k by omega]
theorem byte_of (n k : Nat) : ((n : Int) / 2 ^ (8 * k)) % 256 = ((UInt8.ofNat (n / 256 ^ k)).toNat : Int) := by
  rw [div8, UInt8.toNat_ofNat']; omega
/-- bytes in their cells, as a text -/
theorem conv_text {w : World} (a : Addr) (cap : Nat) (l : List UInt8) (hc : ∀ j (hj : j < l.length), w.cell? (a.add j) = some (u8v l[j])) :
    (convert 30 9 (.slice (some a) l.length cap)).run Try.prog w = .ok (.string (txt l)) w :=
  run_convert_bytes_back (P := Try.prog) w 30 9 5 a cap l Try.underlying30 Try.underlying5 Try.underlying9 hc
/-- an owned row of bytes, as the bytes of a text -/
theorem own_text {w : World} {base : Nat} {v : Value} {l : List UInt8} {n : Nat} (hown : w.ownsRow base 5 1 v n (l.map u8v)) (hl : l ≠ []) :
    (convert 30 9 v).run Try.prog w = .ok (.string (txt l)) w := by
  have hown' := hown
  obtain ⟨hlen, h | ⟨g, cap, cur, rfl, hg, hh, hn, hcap, hcur, hx⟩⟩ := hown
  · obtain ⟨_, rfl⟩ := h
    exact absurd (List.length_eq_zero_iff.1 (by simpa using hlen)) hl
  · have hn' : n = l.length := by simpa using hlen.symm
    subst hn'
    refine conv_text _ _ _ fun j hj => ?_
    have := hown'.cells (g := g) rfl j (u8v l[j]) (by simp [hj])
    exact this
theorem one_text (W : World) (b : UInt8) : (convert 30 9 (.slice (some ⟨W.heap.size, 0, none⟩) 1 1)).run Try.prog (W.alloc (.cells #[.int .u8 (b.toNat : Int)] 5)) = .ok (.string (txt [b])) (W.alloc (.cells #[.int .u8 (b.toNat : Int)] 5)) :=
  conv_text (w := W.alloc (.cells #[u8v b] 5)) ⟨W.heap.size, 0, none⟩ 1 [b] (fun j hj => by
    obtain rfl : j = 0 := by simp at hj; omega
    rw [add_lit, World.cell?_alloc_mark]; rfl)
theorem pb_ne (Z n : Nat) (h : 1 ≤ Z) : pb Z n ≠ [] := by
  intro e
  have := congrArg List.length e
  rw [pb, pbF_len] at this
  simp at this; omega
set_option maxRecDepth 100000 in
set_option maxHeartbeats 400000 in
theorem put_ok (Z n : Nat) (w : World) (hz : szd Z) (hn : n < 256 ^ Z) :
    Calls Try.prog 19 #[.int .i64 (Z : Int), .int .i64 (n : Int)] w fun r w' => r = .returned (.tuple #[.string (txt (pb Z n)), .int .i64 0]) ∧ Below w.heap.size w w' := by
  have hz1 : Z ≤ 4 ∧ 1 ≤ Z := by unfold szd at hz; omega
  obtain ⟨hz4, hz1⟩ := hz1
  have hn4 : n < 4294967296 := Nat.lt_of_lt_of_le hn (Nat.pow_le_pow_right (by omega) hz4)
  have hc : ((n : Int) / 2 ^ (8 * Z) != 0) = false := by rw [div8, Nat.div_eq_of_lt hn]; rfl
  have HZ := Lib.hid hz; clear hz
  have HN := Lib.hid hn; clear hn
  obtain ⟨i0, hi, hzz0, hzz1, hzz2⟩ := info_parts info5
  go_enter Try.func19, Try.ntmps19
  go_wp2_with fail
  refine (sized_yes Z _ HZ.out).mono ?_
  rintro r w1 ⟨rfl, rfl⟩
  go_wp2_with fail
  go_loopw [6, 7] (fun v i wr => ∃ j : Nat, j ≤ Z ∧ i = .int .i64 ((j : Int) - 1) ∧ wr.ownsRow w.heap.size 5 1 v (Z - j) ((pbF Z j n).map u8v) ∧ Below w.heap.size w wr) (fun _ i _ => (intOf i + 1).toNat)
  case atStart =>
    refine ⟨Z, Nat.le_refl _, rfl, ?_, Below.refl _ _⟩
    rw [Nat.sub_self, show pbF Z Z n = [] by simp [pbF]]
    exact World.ownsRow_nil _ _ _ _
  case round =>
    obtain ⟨j, hj, rfl, hown, hb⟩ := hrel
    rcases j with _ | k
    · have h0 : (((0 : Nat) : Int) - 1) = -1 := by omega
      rw [h0]
      have hconv := own_text hown (pb_ne Z n hz1)
      clear hown h0
      have e0 : pbF Z 0 n = pb Z n := rfl
      rw [e0] at hconv
      clear e0
      go_wp2
      go_ret2
      exact ⟨rfl, hb⟩
    · have h0 : (((k + 1 : Nat) : Int) - 1) = (k : Int) := by omega
      rw [h0]
      have HO := Lib.hid hown; clear hown h0
      have hby := byte_of n k
      obtain ⟨c, hcb⟩ : ∃ c, UInt8.ofNat (n / 256 ^ k) = c := ⟨_, rfl⟩
      rw [hcb] at hby
      have HCB := Lib.hid hcb; clear hcb
      go_wp2_with (at_builtin; refine wpList_append_own _ rfl _ _ 30 rfl w.heap.size 5 i0 (.int .u8 0) 1 1 Try.underlying30 hi hzz0 hzz1 hzz2 rfl (by decide) _ _ _ rfl (HO.out.alloc _) ⟨wr.heap.size, 0, none⟩ 1 1 [u8v c] rfl rfl ?c1 ?c2 ?c3 ?c4 ?c5 ?_)
      case c1 =>
        intro j u hj
        obtain ⟨rfl, rfl⟩ : j = 0 ∧ u = u8v c := by
          rcases j with _ | j
          · simpa using hj.symm
          · simp at hj
        rw [add_lit, World.cell?_alloc_mark]; rfl
      case c2 => intro u hu; simp at hu; subst hu; rfl
      case c3 => unfold maxLen; omega
      case c4 => omega
      case c5 => have := hb.size; simp; omega
      · intro v' w1 hown' hgrow _
        have hb1 : Below w.heap.size w w1 := (hb.alloc hb.size _).grown hgrow (by have := hb.size; simp; omega) (fun g hg => (HO.out.lt g hg).1)
        have e1 : Z - (k + 1) + 1 = Z - k := by omega
        have e2 : (pbF Z (k + 1) n).map u8v ++ [u8v c] = (pbF Z k n).map u8v := by
          rw [pbF_snoc Z k n (by omega), List.map_append, HCB.out]; rfl
        rw [e1, e2] at hown'
        clear hgrow e1 e2 HO
        have HO := Lib.hid hown'; clear hown'
        go_wp2
        go_roundw
        case rel => exact ⟨k, by omega, rfl, HO.out, hb1⟩
        case measure => simp [intOf]
theorem put_bad (z n : Int) (w : World) (h : ¬ (szd z ∧ 0 ≤ n ∧ n / 2 ^ (8 * z.toNat) = 0)) (hlo : -9223372036854775808 ≤ n) (hhi : n ≤ 9223372036854775807) :
    Calls Try.prog 19 #[.int .i64 z, .int .i64 n] w fun r w' => r = .returned (.tuple #[.string ByteArray.empty, .int .i64 1]) ∧ Below w.heap.size w w' := by
  by_cases hz : szd z
  · have HZ := Lib.hid hz
    have hz' : z.toNat ≤ 4 ∧ 1 ≤ z ∧ z ≤ 4 := by unfold szd at hz; omega
    obtain ⟨hz1, hz2, hz3⟩ := hz'
    by_cases hn : n < 0
    · clear h hz
      go_enter Try.func19, Try.ntmps19
      go_wp2_with fail
      refine (sized_yes z _ HZ.out).mono ?_
      rintro r w1 ⟨rfl, rfl⟩
      go_wp2_with fail
      go_ret2
      exact ⟨rfl, Below.refl _ _⟩
    · obtain ⟨Z, rfl⟩ := Int.eq_ofNat_of_zero_le (show 0 ≤ z by omega)
      have hq : (n / 2 ^ (8 * Z) != 0) = true := by
        rw [bne_iff_ne]; intro e; exact h ⟨hz, by omega, by simpa using e⟩
      clear h hz
      go_enter Try.func19, Try.ntmps19
      go_wp2_with fail
      refine (sized_yes Z _ HZ.out).mono ?_
      rintro r w1 ⟨rfl, rfl⟩
      go_wp2_with fail
      go_ret2
      exact ⟨rfl, Below.refl _ _⟩
  · have HZ := Lib.hid hz; clear hz h
    go_enter Try.func19, Try.ntmps19
    go_wp2_with fail
    refine (sized_no z _ HZ.out).mono ?_
    rintro r w1 ⟨rfl, rfl⟩
    go_wp2_with fail
    go_ret2
    exact ⟨rfl, Below.refl _ _⟩
/-- a text as bytes: its length ahead -/
def tb (s : ByteArray) : ByteArray := txt (UInt8.ofNat s.size :: bts s)
theorem tb_size (s : ByteArray) : (tb s).size = s.size + 1 := by rw [tb, txt_size, List.length_cons, bts_len]
theorem text_ok (s : ByteArray) (w : World) (h : s.size ≤ 255) :
    Calls Try.prog 21 #[.string s] w fun r w' => r = .returned (.tuple #[.string (tb s), .int .i64 0]) ∧ Below w.heap.size w w' := by
  obtain ⟨c, hc⟩ : ∃ c, UInt8.ofNat s.size = c := ⟨_, rfl⟩
  have hb2 : (s.size : Int) = (c.toNat : Int) := by rw [← hc, UInt8.toNat_ofNat']; omega
  have ht : txt [c] ++ s = tb s := by rw [tb, hc]; apply bts_inj; rw [bts_append]; rfl
  have h1 : ∀ W : World, (convert 30 9 (.slice (some ⟨W.heap.size, 0, none⟩) 1 1)).run Try.prog (W.alloc (.cells #[.int .u8 (s.size : Int)] 5)) = .ok (.string (txt [c])) (W.alloc (.cells #[.int .u8 (s.size : Int)] 5)) := fun W => by
    rw [hb2]; exact one_text W c
  have hs1 : (txt [c]).size ≤ 1 := by rw [txt_size]; simp
  generalize txt [c] = t at *
  have HT := Lib.hid ht; clear ht hc hb2
  go_enter Try.func21, Try.ntmps21
  go_wp2
  go_ret2
  exact ⟨by rw [← HT.out]; rfl, (Below.refl _ _).alloc (Nat.le_refl _) _⟩
theorem text_bad (s : ByteArray) (w : World) (h : 255 < s.size) :
    Calls Try.prog 21 #[.string s] w fun r w' => r = .returned (.tuple #[.string ByteArray.empty, .int .i64 1]) ∧ Below w.heap.size w w' := by
  go_enter Try.func21, Try.ntmps21
  go_wp2
  go_ret2
  exact ⟨rfl, Below.refl _ _⟩
end Go.Proofs.Ytifdglehfhoecaa.C
