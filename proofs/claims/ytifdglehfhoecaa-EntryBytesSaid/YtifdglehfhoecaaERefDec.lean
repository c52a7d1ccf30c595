/-
  The document's list of bytes. Conditions: below 2^30 bytes.
-/
import Derived.Test.YtifdglehfhoecaaEDec
import Derived.Test.YtifdglehfhoecaaERight
import Derived.Test.YtifdglehfhoecaaEStep
namespace Go.Proofs.Ytifdglehfhoecaa.E
open Go.RowKit B
theorem split5 (L : List UInt8) (n m : Nat) (h : n + m + 2 ≤ L.length) : L = L[0]'(by omega) :: (L.take (n + 1)).drop 1 ++ (L[n + 1]'(by omega) :: (L.take (n + m + 2)).drop (n + 2) ++ L.drop (n + m + 2)) := by
  have a1 : L = L[0]'(by omega) :: L.drop 1 := by rw [← List.drop_eq_getElem_cons (by omega)]; rfl
  have a2 : L.drop 1 = (L.take (n + 1)).drop 1 ++ L.drop (n + 1) := by
    rw [← List.drop_append_of_le_length (by rw [List.length_take]; omega), List.take_append_drop]
  have a3 : L.drop (n + 1) = L[n + 1]'(by omega) :: L.drop (n + 2) := List.drop_eq_getElem_cons (by omega)
  have a4 : L.drop (n + 2) = (L.take (n + m + 2)).drop (n + 2) ++ L.drop (n + m + 2) := by
    rw [← List.drop_append_of_le_length (by rw [List.length_take]; omega), List.take_append_drop]
  have : L.drop 1 = (L.take (n + 1)).drop 1 ++ (L[n + 1]'(by omega) :: (L.take (n + m + 2)).drop (n + 2) ++ L.drop (n + m + 2)) := by
    rw [a2, a3, a4]; simp
  rw [List.cons_append, ← this]
  exact a1
theorem two_yes {s : ByteArray} {n m : Nat} (h : n + m + 2 ≤ s.size) (hn : (s[0]'(by omega)).toNat = n) (hm : (s[n + 1]'(by omega)).toNat = m) :
    bts s = M.tbl (s.extract 1 (n + 1)) ++ (M.tbl (s.extract (n + 2) (n + m + 2)) ++ bts (s.extract (n + m + 2) s.size)) ∧ (s.extract 1 (n + 1)).size = n ∧ (s.extract (n + 2) (n + m + 2)).size = m := by
  have z1 : (s.extract 1 (n + 1)).size = n := by simp; omega
  have z2 : (s.extract (n + 2) (n + m + 2)).size = m := by simp; omega
  refine ⟨?_, z1, z2⟩
  have hl : (bts s).length = s.size := bts_len s
  have u0 : s[0]'(by omega) = UInt8.ofNat n := by have := congrArg UInt8.ofNat hn; rwa [UInt8.ofNat_toNat] at this
  have u1 : s[n + 1]'(by omega) = UInt8.ofNat m := by have := congrArg UInt8.ofNat hm; rwa [UInt8.ofNat_toNat] at this
  have e0 : (bts s)[0]'(by omega) = UInt8.ofNat n := u0
  have e1 : (bts s)[n + 1]'(by omega) = UInt8.ofNat m := u1
  have h5 := split5 (bts s) n m (by omega)
  rw [e0, e1] at h5
  unfold M.tbl
  rw [z1, z2]
  show bts s = UInt8.ofNat n :: bts (s.extract 1 (n + 1)) ++ (UInt8.ofNat m :: bts (s.extract (n + 2) (n + m + 2)) ++ bts (s.extract (n + m + 2) s.size))
  rw [bts_extract, bts_extract, bts_extract, List.take_of_length_le (Nat.le_of_eq hl)]
  exact h5
theorem tbl_at {k : ByteArray} {r : List UInt8} {s : ByteArray} (hk : k.size ≤ 255) (h : bts s = M.tbl k ++ r) : ∃ h0 : 0 < s.size, (s[0]'h0).toNat = k.size ∧ s.size = k.size + 1 + r.length := by
  have hl : s.size = k.size + 1 + r.length := by rw [← bts_len, h, List.length_append, M.tbl_len]
  refine ⟨by omega, ?_, hl⟩
  have e : (bts s)[0]'(by rw [bts_len]; omega) = UInt8.ofNat k.size := by simp only [h, M.tbl]; rfl
  have e2 : s[0]'(by omega) = UInt8.ofNat k.size := e
  rw [e2, UInt8.toNat_ofNat']; omega
theorem two_no1 {s : ByteArray} {n : Nat} (h0 : 0 < s.size) (hn : (s[0]'h0).toNat = n) (h : s.size < n + 2) : ∀ k v r, k.size ≤ 255 → v.size ≤ 255 → bts s ≠ M.tbl k ++ (M.tbl v ++ r) := by
  intro k v r hk hv he
  obtain ⟨_, e1, e2⟩ := tbl_at hk he
  rw [List.length_append, M.tbl_len] at e2
  omega
theorem two_no2 {s : ByteArray} {n m : Nat} (h2 : n + 2 ≤ s.size) (hn : (s[0]'(by omega)).toNat = n) (hm : (s[n + 1]'(by omega)).toNat = m) (h : s.size < n + m + 2) : ∀ k v r, k.size ≤ 255 → v.size ≤ 255 → bts s ≠ M.tbl k ++ (M.tbl v ++ r) := by
  intro k v r hk hv he
  obtain ⟨_, e1, e2⟩ := tbl_at hk he
  have hkn : k.size = n := by omega
  have e : (bts s)[n + 1]'(by rw [bts_len]; omega) = UInt8.ofNat v.size := by
    simp only [he]
    rw [List.getElem_append_right (by rw [M.tbl_len]; omega)]
    simp [hkn, M.tbl]
  have e3 : s[n + 1]'(by omega) = UInt8.ofNat v.size := e
  rw [e3, UInt8.toNat_ofNat'] at hm
  rw [List.length_append, M.tbl_len] at e2
  omega
theorem rs_more {body s r : ByteArray} {acc : List Ent} {k v : ByteArray} (h : Rs (bts body) (bts s) 0 acc) (hk : k.size ≤ 255) (hv : v.size ≤ 255) (he : bts s = M.tbl k ++ (M.tbl v ++ bts r)) : Rs (bts body) (bts r) 0 (acc ++ [(k, v)]) ∧ acc.length + 1 ≤ body.size := by
  rcases h with ⟨_, hf, hb, hl⟩ | ⟨h, _⟩
  case inr => exact absurd rfl h
  have e1 := congrArg List.length he
  rw [List.length_append, List.length_append, M.tbl_len, M.tbl_len] at e1
  have hbl : (bts body).length = body.size := bts_len body
  refine ⟨.inl ⟨rfl, M.fits_snoc hf hk hv, by rw [M.enc_snoc2, hb, he]; simp, ?_⟩, by omega⟩
  rw [List.length_append]
  simp only [List.length_cons, List.length_nil]
  omega
theorem rs_none {body s : ByteArray} {acc : List Ent} (h : Rs (bts body) (bts s) 0 acc) (h0 : 0 < s.size) (hn : ∀ k v r, k.size ≤ 255 → v.size ≤ 255 → bts s ≠ M.tbl k ++ (M.tbl v ++ r)) : Dr (bts body) [] 3 := by
  rcases h with ⟨_, hf, hb, hl⟩ | ⟨h, _⟩
  case inr => exact absurd rfl h
  have := M.no_dec hf hb (fun e => by have := bts_len s; rw [e] at this; simp at this; omega) hn
  exact .inr ⟨rfl, rfl, fun m hm => this m hm.1⟩
theorem rs_done {body s : ByteArray} {acc : List Ent} (h : Rs (bts body) (bts s) 0 acc) (h0 : s.size = 0) : M.Dec (bts body) acc := by
  rcases h with ⟨_, hf, hb, hl⟩ | ⟨h, _⟩
  case inr => exact absurd rfl h
  have hn : bts s = [] := List.eq_nil_of_length_eq_zero ((bts_len s).trans h0)
  exact ⟨hf, by rw [hb, hn, List.append_nil]⟩
def Rdcd (b : List UInt8) (w : World) (r : Ending) (w' : World) : Prop := ∃ u l ok, r = .returned (.tuple #[u, .bool ok]) ∧ Ents w' u l ∧ Dr b l (if ok then 0 else 3) ∧ Below w.heap.size w w'
set_option maxRecDepth 100000 in
set_option maxHeartbeats 2000000 in
theorem rdecode_any (body : ByteArray) (w : World) (hb : body.size ≤ 1000000000) : Calls Try.prog 50 #[.string body] w (Rdcd (bts body) w) := by
  obtain ⟨i0, hi, hz0, hz1, hz2⟩ := info_parts info49
  go_enter Try.func50, Try.ntmps50
  go_wp2
  go_loopw [0, 4] (fun x u wr => ∃ (s : ByteArray) (acc : List Ent), x = .string s ∧ wr.ownsRow w.heap.size 49 2 u acc.length (ecs acc) ∧ Rs (bts body) (bts s) 0 acc ∧ acc.length ≤ body.size ∧ s.size ≤ 1000000000 ∧ Below w.heap.size w wr) (fun _ u _ => body.size - lenV u)
  case atStart => exact ⟨body, [], rfl, World.ownsRow_nil _ _ _ _, .inl ⟨rfl, fun e h => by simp at h, rfl, by simp⟩, Nat.zero_le _, hb, Below.refl _ _⟩
  case round =>
    obtain ⟨s, acc, rfl, hown, hrs, hal, hsb, hbw⟩ := hrel
    have HO := Lib.hid hown; have HRS := Lib.hid hrs
    clear hown hrs
    rcases Nat.eq_zero_or_pos s.size with h0 | h0
    · have HD := Lib.hid (rs_done HRS.out h0)
      have HENTS := Lib.hid (show Ents wr _ acc from Rw.own HO.out)
      by_cases hok : M.Ok acc
      · go_wp2_with fail
        refine (rright_any _ acc _ HENTS.out).mono ?_
        rintro r w6 ⟨rfl, hb6⟩
        rw [decide_eq_true hok]
        have HR := Lib.hid (show Dr (bts body) acc 0 from .inl ⟨rfl, HD.out, hok⟩)
        have HENTS := Lib.hid (HENTS.out.below hb6)
        have hb6 := hbw.trans (hb6.mono hbw.size)
        clear hok hbw
        go_wp2
        go_ret2
        exact ⟨_, acc, true, rfl, HENTS.out, HR.out, hb6⟩
      · go_wp2_with fail
        refine (rright_any _ acc _ HENTS.out).mono ?_
        rintro r w6 ⟨rfl, hb6⟩
        rw [decide_eq_false hok]
        have HR := Lib.hid (show Dr (bts body) [] 3 from .inr ⟨rfl, rfl, fun m hm => hok (M.dec_inj hm.1 HD.out ▸ hm.2)⟩)
        have hb6 := hbw.trans (hb6.mono hbw.size)
        clear hok hbw
        go_wp2
        go_ret2
        exact ⟨_, [], false, rfl, Rw.nil _ 2, HR.out, hb6⟩
    · have hz : (0 : Int) < (s.size : Int) := by omega
      obtain ⟨n, hn⟩ : ∃ n, (s[0]'h0).toNat = n := ⟨_, rfl⟩
      have hn1 : n < 256 := by rw [← hn]; exact UInt8.toNat_lt _
      have HN := Lib.hid hn
      by_cases h2 : s.size < n + 2
      · have HR := Lib.hid (rs_none HRS.out h0 (two_no1 h0 HN.out h2))
        have hd : (s.size : Int) < (n : Int) + 2 := by omega
        go_wp2
        go_ret2
        exact ⟨_, [], false, rfl, Rw.nil _ 2, HR.out, hbw⟩
      have hn2 : n + 1 < s.size := by omega
      obtain ⟨m, hm⟩ : ∃ m, (s[n + 1]'hn2).toNat = m := ⟨_, rfl⟩
      have hm1 : m < 256 := by rw [← hm]; exact UInt8.toNat_lt _
      have HM := Lib.hid hm
      by_cases h3 : s.size < n + m + 2
      · have HR := Lib.hid (rs_none HRS.out h0 (two_no2 (by omega) HN.out HM.out h3))
        go_wp2
        go_ret2
        exact ⟨_, [], false, rfl, Rw.nil _ 2, HR.out, hbw⟩
      obtain ⟨he, hz1', hz2'⟩ := two_yes (by omega) HN.out HM.out
      obtain ⟨hnx, hacc⟩ := rs_more HRS.out (by omega) (by omega) he
      have hrz : (s.extract (n + m + 2) s.size).size ≤ 1000000000 := by simp; omega
      have HNX := Lib.hid hnx; have HRZ := Lib.hid hrz
      have HLV := Lib.hid (lenV_own HO.out)
      clear hnx he hz1' hz2' hrz
      have g1 : IntKind.i64.wrap ((n : Int) + 1) = (n : Int) + 1 := IntWalk.i64_in _ (by omega)
      have g2 : IntKind.i64.wrap ((n : Int) + 2) = (n : Int) + 2 := IntWalk.i64_in _ (by omega)
      have g3 : IntKind.i64.wrap ((n : Int) + (m : Int)) = (n : Int) + (m : Int) := IntWalk.i64_in _ (by omega)
      have g4 : IntKind.i64.wrap ((n : Int) + (m : Int) + 2) = (n : Int) + (m : Int) + 2 := IntWalk.i64_in _ (by omega)
      have p1 : (1 : Int) ≤ (n : Int) + 1 := by omega
      have p2 : (n : Int) + 1 ≤ (s.size : Int) := by omega
      have p3 : (n : Int) + 2 ≤ (n : Int) + (m : Int) + 2 := by omega
      have p4 : (n : Int) + (m : Int) + 2 ≤ (s.size : Int) := by omega
      have p5 : (0 : Int) ≤ (n : Int) + 2 := by omega
      have p6 : (0 : Int) ≤ (n : Int) + (m : Int) + 2 := by omega
      have p7 : (0 : Int) ≤ (n : Int) + 1 := by omega
      go_upto_region 9 with (fail)
      go_region_held3 (fun W' => W'.heap.size = wr.heap.size ∨ True) (first | exact Or.inr trivial) (first | (go_loud (refine step_append_row rfl _ _ 43 rfl w.heap.size 49 i0 _ 2 32 Try.underlying43 hi hz0 hz1 hz2 rfl (by decide) _ acc.length (ecs acc) rfl (HO.out.alloc _).drew (.slice (some ⟨wr.heap.size, 0, none⟩) 1 1) rfl 1 (ecs [((s.extract 1 (n + 1), s.extract (n + 2) (n + m + 2)) : Ent)]) (new_one wr (s.extract 1 (n + 1), s.extract (n + 2) (n + m + 2)) 49) (ecs_one _) (by unfold maxLen; omega) (by omega) (by have := hbw.size; (try simp); omega) ?_); intro v' w2 hown2 hg))
      have hb2 : Below w.heap.size w w2 := (hbw.alloc hbw.size _).drew.grown hg (by have := hbw.size; (try simp); omega) (fun g hg => (HO.out.lt g hg).1)
      rw [← ecs_append] at hown2
      have HO2 := Lib.hid (show w2.ownsRow w.heap.size 49 2 v' (acc ++ [((s.extract 1 (n + 1), s.extract (n + 2) (n + m + 2)) : Ent)]).length (ecs (acc ++ [((s.extract 1 (n + 1), s.extract (n + 2) (n + m + 2)) : Ent)])) by rw [List.length_append]; exact hown2)
      have HLV2 := Lib.hid (lenV_own HO2.out)
      clear hown2 hg
      go_wp2
      go_roundw
      case rel => exact ⟨_, _, rfl, HO2.out, HNX.out, by rw [List.length_append]; exact hacc, HRZ.out, hb2⟩
      case measure => rw [HLV.out, HLV2.out, List.length_append]; simp only [List.length_cons, List.length_nil]; omega
end Go.Proofs.Ytifdglehfhoecaa.E
