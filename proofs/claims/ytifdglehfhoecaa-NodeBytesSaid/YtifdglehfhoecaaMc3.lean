/-
  Texts of this proof, merged: NSize, EEnc, ERef2, ERight, NRight, NRef, LawWrites, ERefEnc, NEnc. What each says stands at its head.
-/
import Derived.IntWalk
import Derived.Deep.DeepCutAuto
import Derived.BigRegion
import Derived.Test.YtifdglehfhoecaaMc2
/-
  What is looked at; how many bytes a node has. Conditions: bounds that every node here keeps.
-/
namespace Go.Proofs.Ytifdglehfhoecaa.N
open Go.RowKit B E
/-- no more than is looked at -/
def SmallN (n : M.Nd) : Prop := Small n.es ∧ n.ks.length ≤ 60 ∧ n.ss.length ≤ 60 ∧ ∀ s ∈ n.ss, s.size ≤ 60
theorem szs_le (ss : List ByteArray) (m : Nat) (h : ∀ s ∈ ss, s.size ≤ m) : M.szs ss ≤ ss.length * (5 + m) := by
  induction ss with
  | nil => simp [M.szs]
  | cons s ss ih =>
    have h1 := h s (by simp)
    have h2 := ih fun x hx => h x (by simp [hx])
    simp only [M.szs, List.map_cons, List.sum_cons, List.length_cons] at h2 ⊢
    rw [Nat.succ_mul]
    omega
theorem sz_le (l : List Ent) (a b : Nat) (h : ∀ e ∈ l, e.1.size ≤ a ∧ e.2.size ≤ b) : M.sz l ≤ l.length * (2 + a + b) := by
  induction l with
  | nil => simp [M.sz]
  | cons e l ih =>
    have h1 := h e (by simp)
    have h2 := ih fun x hx => h x (by simp [hx])
    rw [M.sz_cons, List.length_cons, Nat.succ_mul]
    omega
theorem small_bd {n : M.Nd} (h : SmallN n) : Bd n := by
  obtain ⟨⟨h1, h2⟩, h3, h4, h5⟩ := h
  have a := sz_le n.es 60 300 h2
  have b := szs_le n.ss 60 h5
  exact ⟨by omega, by omega, by omega, by omega, by omega⟩
def Nov (n : M.Nd) (w : World) (r : Ending) (w' : World) : Prop := ∃ b, r = .returned (.bool b) ∧ (b = false → SmallN n) ∧ Below w.heap.size w w'
set_option maxRecDepth 100000 in
set_option maxHeartbeats 2000000 in
theorem nover_any (v : Value) (n : M.Nd) (w : World) (hv : NdV w v n) : Calls Try.prog 52 #[v] w (Nov n w) := by
  obtain ⟨l, es, ks, ss⟩ := n
  obtain ⟨e0, ec, k0, kc, s0, sc, rfl, he, hk, hs⟩ := hv
  dsimp only at he hk hs ⊢
  have HE := Lib.hid he; have HK := Lib.hid hk; have HS := Lib.hid hs
  clear he hk hs
  go_enter Try.func52, Try.ntmps52
  go_upto_region 1 with (fail)
  obtain ⟨w1, hw1⟩ : ∃ W, w.alloc (.cells #[.bool l, .slice e0 es.length ec, .slice k0 ks.length kc, .slice s0 ss.length sc] 69) = W := ⟨_, rfl⟩
  have hx : Bx w1 w.heap.size l (.slice e0 es.length ec) (.slice k0 ks.length kc) (.slice s0 ss.length sc) := by rw [← hw1]; exact Bx.new _ _ _ _ _ _
  have hb1 : Below w.heap.size w w1 := by rw [← hw1]; exact (Below.refl _ w).alloc (Nat.le_refl _) _
  rw [hw1]
  clear hw1
  obtain ⟨x0, x1, x2, x3⟩ := hx
  have HCE := Lib.hid (HE.out.below hb1).at.2.2.2; have HCS := Lib.hid (HS.out.below hb1).at.2.2.2
  by_cases h1 : 60 < es.length
  · go_wp2
    go_ret
    exact ⟨true, rfl, fun h => Bool.noConfusion h, hb1⟩
  by_cases h2 : 60 < ks.length
  · go_wp2
    go_ret
    exact ⟨true, rfl, fun h => Bool.noConfusion h, hb1⟩
  by_cases h3 : 60 < ss.length
  · go_wp2
    go_ret
    exact ⟨true, rfl, fun h => Bool.noConfusion h, hb1⟩
  go_wp2
  go_loopw [3] (fun i wr => ∃ k : Nat, k ≤ es.length ∧ i = .int .i64 k ∧ (∀ j (_h : j < es.length), j < k → es[j].1.size ≤ 60 ∧ es[j].2.size ≤ 300) ∧ w1 = wr) (fun i _ => es.length - (intOf i).toNat)
  case atStart => exact ⟨0, Nat.zero_le _, rfl, fun j _ h => absurd h (by omega), rfl⟩
  case round =>
    obtain ⟨k, hkl, rfl, hpre, hw⟩ := hrel
    subst hw
    have HPRE := Lib.hid hpre; clear hpre
    by_cases hlt : k < es.length
    · obtain ⟨b, o, rfl, c0, c1⟩ := HCE.out k hlt
      by_cases q1 : 60 < es[k].1.size
      · go_wp2
        go_ret
        exact ⟨true, rfl, fun h => Bool.noConfusion h, hb1⟩
      · by_cases q2 : 300 < es[k].2.size
        · go_wp2
          go_ret
          exact ⟨true, rfl, fun h => Bool.noConfusion h, hb1⟩
        · have hn : ∀ j (_h : j < es.length), j < k + 1 → es[j].1.size ≤ 60 ∧ es[j].2.size ≤ 300 := fun j hj hjk => by
            rcases Nat.lt_or_ge j k with h | h
            · exact HPRE.out j hj h
            · obtain rfl : j = k := by omega
              exact ⟨by omega, by omega⟩
          have HN := Lib.hid hn; clear hn
          go_wp2
          go_roundw
          case rel => exact ⟨k + 1, by omega, by go_num, HN.out, by first | rfl | trivial⟩
          case measure => simp [intOf]; omega
    · have HSM := Lib.hid (show Small es from ⟨by omega, fun e he => by
        obtain ⟨j, hj, rfl⟩ := List.getElem_of_mem he
        exact HPRE.out j hj (by omega)⟩)
      go_wp2
      go_loopw [4] (fun i wr => ∃ k : Nat, k ≤ ss.length ∧ i = .int .i64 k ∧ (∀ j (_h : j < ss.length), j < k → ss[j].size ≤ 60) ∧ w1 = wr) (fun i _ => ss.length - (intOf i).toNat)
      case atStart => exact ⟨0, Nat.zero_le _, rfl, fun j _ h => absurd h (by omega), rfl⟩
      case round =>
        obtain ⟨m, hml, rfl, hpre2, hw⟩ := hrel
        subst hw
        have HPRE2 := Lib.hid hpre2; clear hpre2
        by_cases hlm : m < ss.length
        · obtain ⟨b, o, rfl, c0⟩ := HCS.out m hlm
          by_cases q1 : 60 < ss[m].size
          · go_wp2
            go_ret
            exact ⟨true, rfl, fun h => Bool.noConfusion h, hb1⟩
          · have hn : ∀ j (_h : j < ss.length), j < m + 1 → ss[j].size ≤ 60 := fun j hj hjk => by
              rcases Nat.lt_or_ge j m with h | h
              · exact HPRE2.out j hj h
              · obtain rfl : j = m := by omega
                omega
            have HN := Lib.hid hn; clear hn
            go_wp2
            go_roundw
            case rel => exact ⟨m + 1, by omega, by go_num, HN.out, by first | rfl | trivial⟩
            case measure => simp [intOf]; omega
        · have HR := Lib.hid (show SmallN ⟨l, es, ks, ss⟩ from ⟨HSM.out, by show ks.length ≤ 60; omega, by show ss.length ≤ 60; omega, fun e (he : e ∈ ss) => by
            obtain ⟨j, hj, rfl⟩ := List.getElem_of_mem he
            exact HPRE2.out j hj (by omega)⟩)
          go_wp2
          go_ret
          exact ⟨false, rfl, fun _ => HR.out, hb1⟩
set_option maxRecDepth 100000 in
set_option maxHeartbeats 2000000 in
theorem nsize_any (v : Value) (n : M.Nd) (w : World) (hv : NdV w v n) (hbd : Bd n) : Calls Try.prog 63 #[v] w fun r w' => r = .returned (.int .i64 (M.nsz n : Int)) ∧ Below w.heap.size w w' := by
  obtain ⟨d1, d2, d3, d4, d5⟩ := hbd
  obtain ⟨l, es, ks, ss⟩ := n
  obtain ⟨e0, ec, k0, kc, s0, sc, rfl, he, hk, hs⟩ := hv
  dsimp only at he hk hs d1 d2 d3 d4 d5 ⊢
  have HE := Lib.hid he; have HK := Lib.hid hk; have HS := Lib.hid hs
  clear he hk hs
  rcases l with _ | _
  case true =>
    have HZ := Lib.hid (show M.nsz ⟨true, es, ks, ss⟩ = M.sz es from rfl)
    go_enter Try.func63, Try.ntmps63
    go_upto_region 1 with (fail)
    obtain ⟨w1, hw1⟩ : ∃ W, w.alloc (.cells #[.bool true, .slice e0 es.length ec, .slice k0 ks.length kc, .slice s0 ss.length sc] 69) = W := ⟨_, rfl⟩
    have hx : Bx w1 w.heap.size true (.slice e0 es.length ec) (.slice k0 ks.length kc) (.slice s0 ss.length sc) := by rw [← hw1]; exact Bx.new _ _ _ _ _ _
    have hb1 : Below w.heap.size w w1 := by rw [← hw1]; exact (Below.refl _ w).alloc (Nat.le_refl _) _
    rw [hw1]
    clear hw1
    obtain ⟨x0, x1, x2, x3⟩ := hx
    go_wp2_with fail
    refine (size_any _ es _ (HE.out.below hb1) (by omega) (by omega)).mono ?_
    rintro r w2 ⟨rfl, hb2⟩
    have hb2 := hb1.trans (hb2.mono hb1.size)
    go_wp2
    go_ret
    exact ⟨by rw [HZ.out]; rfl, hb2⟩
  have HZ := Lib.hid (show M.nsz ⟨false, es, ks, ss⟩ = 4 + M.szs ss from rfl)
  go_enter Try.func63, Try.ntmps63
  go_upto_region 1 with (fail)
  obtain ⟨w1, hw1⟩ : ∃ W, w.alloc (.cells #[.bool false, .slice e0 es.length ec, .slice k0 ks.length kc, .slice s0 ss.length sc] 69) = W := ⟨_, rfl⟩
  have hx : Bx w1 w.heap.size false (.slice e0 es.length ec) (.slice k0 ks.length kc) (.slice s0 ss.length sc) := by rw [← hw1]; exact Bx.new _ _ _ _ _ _
  have hb1 : Below w.heap.size w w1 := by rw [← hw1]; exact (Below.refl _ w).alloc (Nat.le_refl _) _
  rw [hw1]
  clear hw1
  obtain ⟨x0, x1, x2, x3⟩ := hx
  have HCS := Lib.hid (HS.out.below hb1).at.2.2.2
  go_wp2
  go_loopw [3, 14] (fun n i wr => ∃ k : Nat, k ≤ ss.length ∧ i = .int .i64 k ∧ n = .int .i64 ((4 + M.szs (ss.take k) : Nat) : Int) ∧ w1 = wr) (fun _ i _ => ss.length - (intOf i).toNat)
  case atStart => exact ⟨0, Nat.zero_le _, rfl, rfl, rfl⟩
  case round =>
    obtain ⟨k, hkl, rfl, rfl, hw⟩ := hrel
    subst hw
    by_cases hlt : k < ss.length
    · obtain ⟨b, o, rfl, c0⟩ := HCS.out k hlt
      have hsn := M.szs_snoc ss k hlt
      have hle := M.szs_take_le ss (k + 1)
      obtain ⟨p, hp⟩ : ∃ p, M.szs (ss.take k) = p := ⟨_, rfl⟩
      obtain ⟨q, hq⟩ : ∃ q, M.szs (ss.take (k + 1)) = q := ⟨_, rfl⟩
      rw [hp, hq] at hsn
      rw [hq] at hle
      rw [hp]
      have HSN := Lib.hid hsn; have HQ := Lib.hid hq
      have hpb : p + (5 + ss[k].size) ≤ 1000000000 := by omega
      clear hsn hp hq hle
      go_wp2
      go_roundw
      case rel => exact ⟨k + 1, by omega, by go_num, by rw [HQ.out, HSN.out]; go_num, by first | rfl | trivial⟩
      case measure => simp [intOf]; omega
    · have hkk : k = ss.length := by omega
      have HKK := Lib.hid hkk; clear hkk
      go_wp2
      go_ret
      exact ⟨by rw [HZ.out, HKK.out, List.take_length]; rfl, hb1⟩
set_option maxRecDepth 100000 in
set_option maxHeartbeats 2000000 in
theorem rnsize_any (v : Value) (n : M.Nd) (w : World) (hv : NdV w v n) (hbd : Bd n) : Calls Try.prog 62 #[v] w fun r w' => r = .returned (.int .i64 (M.nsz n : Int)) ∧ Below w.heap.size w w' := by
  obtain ⟨d1, d2, d3, d4, d5⟩ := hbd
  obtain ⟨l, es, ks, ss⟩ := n
  obtain ⟨e0, ec, k0, kc, s0, sc, rfl, he, hk, hs⟩ := hv
  dsimp only at he hk hs d1 d2 d3 d4 d5 ⊢
  have HE := Lib.hid he; have HK := Lib.hid hk; have HS := Lib.hid hs
  clear he hk hs
  rcases l with _ | _
  case true =>
    have HZ := Lib.hid (show M.nsz ⟨true, es, ks, ss⟩ = M.sz es from rfl)
    go_enter Try.func62, Try.ntmps62
    go_upto_region 1 with (fail)
    obtain ⟨w1, hw1⟩ : ∃ W, w.alloc (.cells #[.bool true, .slice e0 es.length ec, .slice k0 ks.length kc, .slice s0 ss.length sc] 73) = W := ⟨_, rfl⟩
    have hx : Bx w1 w.heap.size true (.slice e0 es.length ec) (.slice k0 ks.length kc) (.slice s0 ss.length sc) := by rw [← hw1]; exact Bx.new _ _ _ _ _ _
    have hb1 : Below w.heap.size w w1 := by rw [← hw1]; exact (Below.refl _ w).alloc (Nat.le_refl _) _
    rw [hw1]
    clear hw1
    obtain ⟨x0, x1, x2, x3⟩ := hx
    go_wp2_with fail
    refine (rsize_any _ es _ (HE.out.below hb1) (by omega) (by omega)).mono ?_
    rintro r w2 ⟨rfl, hb2⟩
    have hb2 := hb1.trans (hb2.mono hb1.size)
    go_wp2
    go_ret
    exact ⟨by rw [HZ.out]; rfl, hb2⟩
  have HZ := Lib.hid (show M.nsz ⟨false, es, ks, ss⟩ = 4 + M.szs ss from rfl)
  go_enter Try.func62, Try.ntmps62
  go_upto_region 1 with (fail)
  obtain ⟨w1, hw1⟩ : ∃ W, w.alloc (.cells #[.bool false, .slice e0 es.length ec, .slice k0 ks.length kc, .slice s0 ss.length sc] 73) = W := ⟨_, rfl⟩
  have hx : Bx w1 w.heap.size false (.slice e0 es.length ec) (.slice k0 ks.length kc) (.slice s0 ss.length sc) := by rw [← hw1]; exact Bx.new _ _ _ _ _ _
  have hb1 : Below w.heap.size w w1 := by rw [← hw1]; exact (Below.refl _ w).alloc (Nat.le_refl _) _
  rw [hw1]
  clear hw1
  obtain ⟨x0, x1, x2, x3⟩ := hx
  have HCS := Lib.hid (HS.out.below hb1).at.2.2.2
  go_wp2
  go_loopw [3, 4] (fun n i wr => ∃ k : Nat, k ≤ ss.length ∧ i = .int .i64 k ∧ n = .int .i64 ((4 + M.szs (ss.take k) : Nat) : Int) ∧ w1 = wr) (fun _ i _ => ss.length - (intOf i).toNat)
  case atStart => exact ⟨0, Nat.zero_le _, rfl, rfl, rfl⟩
  case round =>
    obtain ⟨k, hkl, rfl, rfl, hw⟩ := hrel
    subst hw
    by_cases hlt : k < ss.length
    · obtain ⟨b, o, rfl, c0⟩ := HCS.out k hlt
      have hsn := M.szs_snoc ss k hlt
      have hle := M.szs_take_le ss (k + 1)
      obtain ⟨p, hp⟩ : ∃ p, M.szs (ss.take k) = p := ⟨_, rfl⟩
      obtain ⟨q, hq⟩ : ∃ q, M.szs (ss.take (k + 1)) = q := ⟨_, rfl⟩
      rw [hp, hq] at hsn
      rw [hq] at hle
      rw [hp]
      have HSN := Lib.hid hsn; have HQ := Lib.hid hq
      have hpb : p + (5 + ss[k].size) ≤ 1000000000 := by omega
      clear hsn hp hq hle
      go_wp2
      go_roundw
      case rel => exact ⟨k + 1, by omega, by go_num, by rw [HQ.out, HSN.out]; go_num, by first | rfl | trivial⟩
      case measure => simp [intOf]; omega
    · have hkk : k = ss.length := by omega
      have HKK := Lib.hid hkk; clear hkk
      go_wp2
      go_ret
      exact ⟨by rw [HZ.out, HKK.out, List.take_length]; rfl, hb1⟩
end Go.Proofs.Ytifdglehfhoecaa.N

/-
  A list's bytes. Conditions: below 2^30 entries.
-/
namespace Go.Proofs.Ytifdglehfhoecaa.E
open Go.RowKit B
/-- a list's bytes, as they are told -/
def encl (l : List Ent) : ByteArray := if M.Ok l then txt (M.enc l) else ByteArray.empty
theorem enc_snoc (l : List Ent) (k : Nat) (h : k < l.length) : txt (M.enc (l.take (k + 1))) = txt (M.enc (l.take k)) ++ (C.tb l[k].1 ++ C.tb l[k].2) := by
  rw [List.take_succ_eq_append_getElem h, M.enc_append, C.tb, C.tb, txt_append, txt_append]
  congr 2
  simp [M.enc, M.tbl]
set_option maxRecDepth 100000 in
set_option maxHeartbeats 1000000 in
theorem encode_any (v : Value) (l : List Ent) (w : World) (hv : Ents w v l) (hlen : l.length ≤ 1000000000) :
    Calls Try.prog 33 #[v] w fun r w' => r = .returned (.tuple #[.string (encl l), .int .i64 (if M.Ok l then 0 else 1)]) ∧ Below w.heap.size w w' := by
  have hop := hv.open
  have HV := Lib.hid hv; clear hv
  obtain ⟨ao, cap, rfl, _, _, hc⟩ := hop
  have HC := Lib.hid hc; clear hc
  by_cases ho : M.Ok l
  case neg =>
    have HD := Lib.hid (show decide (M.Ok l) = false by simp [ho])
    have HE := Lib.hid (show encl l = ByteArray.empty by unfold encl; rw [if_neg ho])
    rw [if_neg ho]
    clear ho
    go_enter Try.func33, Try.ntmps33
    go_wp2_with fail
    refine (right_any _ l _ HV.out (by omega)).mono ?_
    rintro r w1 ⟨rfl, hb1⟩
    rw [HD.out]
    go_wp2
    go_ret2
    exact ⟨by rw [HE.out]; rfl, hb1⟩
  have HD := Lib.hid (show decide (M.Ok l) = true by simp [ho])
  have HE := Lib.hid (show encl l = txt (M.enc l) by unfold encl; rw [if_pos ho])
  have HO := Lib.hid ho
  rw [if_pos ho]
  clear ho
  go_enter Try.func33, Try.ntmps33
  go_wp2_with fail
  refine (right_any _ l _ HV.out (by omega)).mono ?_
  rintro r w1 ⟨rfl, hb1⟩
  rw [HD.out]
  go_wp2
  go_loopw [4, 16] (fun n i wr => ∃ k : Nat, k ≤ l.length ∧ i = .int .i64 k ∧ n = .string (txt (M.enc (l.take k))) ∧ M.sz (l.take k) ≤ k * 512 ∧ Below w.heap.size w wr) (fun _ i _ => l.length - (intOf i).toNat)
  case atStart => exact ⟨0, Nat.zero_le _, rfl, rfl, Nat.le_refl _, hb1⟩
  case round =>
    obtain ⟨k, hk, rfl, rfl, hsz, hb⟩ := hrel
    by_cases hlt : k < l.length
    · obtain ⟨b, o, rfl, hk0, hv0⟩ := HC.out k hlt
      have c0 := (hb.cell (lt_of_cell hk0)).trans hk0
      have c1 := (hb.cell (lt_of_cell hv0)).trans hv0
      have hm := HO.out.1 l[k] (List.getElem_mem hlt)
      have hm1 : l[k].1.size ≤ 255 := by unfold M.may at hm; omega
      have hm2 : l[k].2.size ≤ 255 := by unfold M.may at hm; omega
      have HS := Lib.hid (enc_snoc l k hlt)
      obtain ⟨p, hp⟩ : ∃ p, txt (M.enc (l.take k)) = p := ⟨_, rfl⟩
      have HP := Lib.hid hp
      have hps : p.size = M.sz (l.take k) := by rw [← hp, txt_size, M.enc_len]
      have hsn := M.sz_snoc l k hlt
      have hnz : M.sz (l.take (k + 1)) ≤ (k + 1) * 512 := by omega
      have ht1 : (C.tb l[k].1).size ≤ 256 := by rw [C.tb_size]; omega
      have ht2 : (C.tb l[k].2).size ≤ 256 := by rw [C.tb_size]; omega
      have hps2 : p.size ≤ 1000000000 * 512 := by omega
      have HNZ := Lib.hid hnz
      rw [hp]
      clear hps hsn hnz hsz
      clear hp hk0 hv0 hm
      go_wp2_with fail
      obtain ⟨W, hW⟩ : ∃ W, wr.alloc (.cells #[.string l[k].1, .string l[k].2] 49) = W := ⟨_, rfl⟩
      have d1 : W.cell? ⟨wr.heap.size, 1, none⟩ = some (.string l[k].2) := by rw [← hW, World.cell?_alloc_mark]; rfl
      have hbW : Below w.heap.size w W := by rw [← hW]; exact hb.alloc hb.size _
      rw [hW]
      clear hW c0 c1 hb
      refine (C.text_ok l[k].1 _ hm1).mono ?_
      rintro r w2 ⟨rfl, hb2⟩
      have d1' := bcell hb2 d1
      have hB2 := hbW.trans (hb2.mono hbW.size)
      clear d1 hb2 hbW
      go_wp2_with fail
      refine (C.text_ok l[k].2 _ hm2).mono ?_
      rintro r w3 ⟨rfl, hb3⟩
      have hB3 := hB2.trans (hb3.mono hB2.size)
      clear d1' hb3 hB2
      go_wp2
      go_roundw
      case rel => exact ⟨k + 1, by omega, by go_num, by rw [HS.out, HP.out], HNZ.out, hB3⟩
      case measure => simp [intOf]; omega
    · have hkk : k = l.length := by omega
      have HK := Lib.hid hkk; clear hkk
      go_wp2
      go_ret2
      exact ⟨by rw [HE.out, HK.out, List.take_length]; rfl, hb⟩
end Go.Proofs.Ytifdglehfhoecaa.E

/-
  The document's answers on lists: what may be, same lists, right lists, a key's value. Conditions: none.
-/
namespace Go.Proofs.Ytifdglehfhoecaa.E
open Go.RowKit B
theorem rmay_any (k v : ByteArray) (w : World) : Calls Try.prog 40 #[.string k, .string v] w fun r w' => r = .returned (.bool (decide (M.may k v))) ∧ w = w' := by
  by_cases h0 : k.size < 1
  · have hm : decide (M.may k v) = false := by rw [decide_eq_false_iff_not]; unfold M.may; omega
    rw [hm]
    clear hm
    go_enter Try.func40, Try.ntmps40
    go_wp2
    go_ret
    exact ⟨rfl, rfl⟩
  · by_cases h1 : 16 < k.size
    · have hm : decide (M.may k v) = false := by rw [decide_eq_false_iff_not]; unfold M.may; omega
      rw [hm]
      clear hm
      go_enter Try.func40, Try.ntmps40
      go_wp2
      go_ret
      exact ⟨rfl, rfl⟩
    · by_cases h2 : 40 < v.size
      · have hm : decide (M.may k v) = false := by rw [decide_eq_false_iff_not]; unfold M.may; omega
        rw [hm]
        clear hm
        have hd : decide ((v.size : Int) ≤ 40) = false := by rw [decide_eq_false_iff_not]; omega
        go_enter Try.func40, Try.ntmps40
        go_wp2
        go_ret
        exact ⟨rfl, rfl⟩
      · have hm : decide (M.may k v) = true := by rw [decide_eq_true_eq]; unfold M.may; omega
        rw [hm]
        clear hm
        have hd : decide ((v.size : Int) ≤ 40) = true := by rw [decide_eq_true_eq]; omega
        go_enter Try.func40, Try.ntmps40
        go_wp2
        go_ret
        exact ⟨rfl, rfl⟩
/-- what says whether two lists are one -/
def Sm (a b : List Ent) (w : World) (r : Ending) (w' : World) : Prop := r = .returned (.bool (decide (a = b))) ∧ Below w.heap.size w w'
theorem ents_len {w : World} {v : Value} {l : List Ent} (h : Ents w v l) : l.length ≤ 9223372036854775807 := by
  obtain ⟨_, cap, _, h1, h2, _⟩ := h.open
  have e : maxLen = 9223372036854775807 := by decide
  omega
set_option maxHeartbeats 1000000 in
theorem same_any (va vb : Value) (a b : List Ent) (w : World) (ha : Ents w va a) (hb : Ents w vb b) : Calls Try.prog 39 #[va, vb] w (Sm a b w) := by
  have hla := ents_len ha
  have hlb := ents_len hb
  obtain ⟨ao, ca, rfl, _, _, hca⟩ := ha.open
  obtain ⟨bo, cb, rfl, _, _, hcb⟩ := hb.open
  have HA := Lib.hid hca; have HB := Lib.hid hcb
  clear hca hcb ha hb
  by_cases hl : a.length = b.length
  case neg =>
    have hne : decide (a = b) = false := by rw [decide_eq_false_iff_not]; intro h; exact hl (by rw [h])
    have hbe : ((a.length : Int) == (b.length : Int)) = false := by rw [beq_eq_false_iff_ne]; omega
    have HN := Lib.hid hne; clear hne hl
    go_enter Try.func39, Try.ntmps39
    go_wp2
    go_ret
    exact ⟨by rw [HN.out]; rfl, Below.refl _ _⟩
  obtain ⟨n, hn⟩ : ∃ n, b.length = n := ⟨_, rfl⟩
  rw [hn] at hl hlb ⊢
  rw [hl]
  have HLA := Lib.hid hl; have HLB := Lib.hid hn
  clear hl hn hla
  go_enter Try.func39, Try.ntmps39
  go_wp2
  go_loopw [5] (fun i wr => ∃ k : Nat, k ≤ n ∧ i = .int .i64 k ∧ (∀ j (h1 : j < a.length) (h2 : j < b.length), j < k → a[j] = b[j]) ∧ Below w.heap.size w wr) (fun i _ => n - (intOf i).toNat)
  case atStart => exact ⟨0, Nat.zero_le _, rfl, fun j _ _ h => absurd h (by omega), Below.refl _ _⟩
  case round =>
    obtain ⟨k, hk, rfl, hpre, hb⟩ := hrel
    have HPRE := Lib.hid hpre; clear hpre
    by_cases hlt : k < n
    · have hka : k < a.length := by rw [HLA.out]; exact hlt
      have hkb : k < b.length := by rw [HLB.out]; exact hlt
      obtain ⟨ab, ai, rfl, ak, av⟩ := HA.out k hka
      obtain ⟨bb, bi, rfl, bk, bv⟩ := HB.out k hkb
      have c0 := (hb.cell (lt_of_cell ak)).trans ak
      have c1 := (hb.cell (lt_of_cell av)).trans av
      have c2 := (hb.cell (lt_of_cell bk)).trans bk
      have c3 := (hb.cell (lt_of_cell bv)).trans bv
      clear ak av bk bv
      obtain ⟨ka, hka1⟩ : ∃ x, a[k].1 = x := ⟨_, rfl⟩
      obtain ⟨xa, hxa1⟩ : ∃ x, a[k].2 = x := ⟨_, rfl⟩
      obtain ⟨kb, hkb1⟩ : ∃ x, b[k].1 = x := ⟨_, rfl⟩
      obtain ⟨xb, hxb1⟩ : ∃ x, b[k].2 = x := ⟨_, rfl⟩
      rw [hka1] at c0
      rw [hxa1] at c1
      rw [hkb1] at c2
      rw [hxb1] at c3
      have E1 := Lib.hid hka1; have E2 := Lib.hid hxa1; have E3 := Lib.hid hkb1; have E4 := Lib.hid hxb1
      clear hka1 hxa1 hkb1 hxb1
      have hkz : (0 : Int) ≤ (k : Int) := Int.natCast_nonneg _
      have hkn : (k : Int) < (n : Int) := by omega
      by_cases hk1 : ka = kb
      · have hq1 := str_eq hk1
        by_cases hv1 : xa = xb
        · have hq2 := str_eq hv1
          have hnx : ∀ j (h1 : j < a.length) (h2 : j < b.length), j < k + 1 → a[j] = b[j] := fun j h1 h2 h => by
            rcases Nat.lt_or_ge j k with h' | h'
            · exact HPRE.out j h1 h2 h'
            · obtain rfl : j = k := by omega
              exact Prod.ext (by rw [E1.out, E3.out, hk1]) (by rw [E2.out, E4.out, hv1])
          have HN := Lib.hid hnx
          clear hnx hk1 hv1
          go_upto_region 6 with (fail)
          go_quiet (fail)
          go_wp2
          go_roundw
          case rel => exact ⟨k + 1, by omega, by go_num, HN.out, ⟨hb.os, hb.tape, hb.output, hb.size, hb.block⟩⟩
          case measure => simp [intOf]; omega
        · have hq2 := str_ne hv1
          have hne : decide (a = b) = false := by
            rw [decide_eq_false_iff_not]
            intro h
            apply hv1
            rw [← E2.out, ← E4.out]
            congr 2
          have HN := Lib.hid hne
          clear hne hk1 hv1
          go_upto_region 6 with (fail)
          go_quiet (fail)
          go_wp2
          go_ret
          exact ⟨by rw [HN.out]; rfl, ⟨hb.os, hb.tape, hb.output, hb.size, hb.block⟩⟩
      · have hq1 := str_ne hk1
        have hne : decide (a = b) = false := by
          rw [decide_eq_false_iff_not]
          intro h
          apply hk1
          rw [← E1.out, ← E3.out]
          congr 2
        have HN := Lib.hid hne
        clear hne hk1
        go_upto_region 6 with (fail)
        go_quiet (fail)
        go_wp2
        go_ret
        exact ⟨by rw [HN.out]; rfl, ⟨hb.os, hb.tape, hb.output, hb.size, hb.block⟩⟩
    · have hyes : decide (a = b) = true := by
        rw [decide_eq_true_eq]
        refine List.ext_getElem (by rw [HLA.out, HLB.out]) fun j h1 h2 => HPRE.out j h1 h2 (by rw [HLB.out] at h2; omega)
      have HY := Lib.hid hyes; clear hyes
      go_wp2
      go_ret
      exact ⟨by rw [HY.out]; rfl, hb⟩
end Go.Proofs.Ytifdglehfhoecaa.E

/-
  The document's answer: is a list right; a key's value. Conditions: none.
-/
namespace Go.Proofs.Ytifdglehfhoecaa.E
open Go.RowKit B
set_option maxHeartbeats 1000000 in
theorem rright_any (v : Value) (l : List Ent) (w : World) (hv : Ents w v l) : Calls Try.prog 37 #[v] w fun r w' => r = .returned (.bool (decide (M.Ok l))) ∧ Below w.heap.size w w' := by
  have hlen := ents_len hv
  obtain ⟨ao, cap, rfl, _, _, hc⟩ := hv.open
  have HC := Lib.hid hc; clear hc hv
  go_enter Try.func37, Try.ntmps37
  go_wp2
  go_loopw [3] (fun i wr => ∃ k : Nat, k ≤ l.length ∧ i = .int .i64 k ∧ M.Ok (l.take k) ∧ Below w.heap.size w wr) (fun i _ => l.length - (intOf i).toNat)
  case atStart => exact ⟨0, Nat.zero_le _, rfl, by simpa using ok_nil, Below.refl _ _⟩
  case round =>
    obtain ⟨k, hk, rfl, hok, hb⟩ := hrel
    have HOK := Lib.hid hok; clear hok
    by_cases hlt : k < l.length
    · obtain ⟨b, o, rfl, hk0, hv0⟩ := HC.out k hlt
      have c0 := (hb.cell (lt_of_cell hk0)).trans hk0
      have c1 := (hb.cell (lt_of_cell hv0)).trans hv0
      clear hk0 hv0
      have hkz : (0 : Int) ≤ (k : Int) := Int.natCast_nonneg _
      have hkl : (k : Int) < (l.length : Int) := by omega
      have hck := rmay_any l[k].1 l[k].2
      by_cases hmay : M.may l[k].1 l[k].2
      · rw [decide_eq_true hmay] at hck
        have HMAY := Lib.hid hmay
        have HCK := Lib.hid hck
        clear hmay hck
        go_upto_region 4 with (fail)
        go_quiet ((go_at_call 40; exact Calls.quiet_of_same ((HCK.out _).mono fun _ _ h => ⟨h.1, h.2.symm⟩)))
        have hbW := hb
        rcases Nat.eq_zero_or_pos k with h0 | h0
        · have hd : decide ((0 : Int) < (k : Int)) = false := by rw [h0]; rfl
          have hd2 : decide (0 < k) = false := by rw [h0]; rfl
          have H0 := Lib.hid h0; clear h0
          go_upto_region 5 with (fail)
          go_quiet (fail)
          go_wp2
          go_roundw
          case rel => exact ⟨k + 1, by omega, by go_num, (M.ok_take_succ hlt).2 ⟨HOK.out, HMAY.out, fun h => absurd H0.out (by omega)⟩, ⟨hbW.os, hbW.tape, hbW.output, hbW.size, hbW.block⟩⟩
          case measure => simp [intOf]; omega
        · obtain ⟨b', o', e', hp0, _⟩ := HC.out (k - 1) (by omega)
          obtain ⟨rfl, rfl⟩ : b = b' ∧ o = o' := by injection e' with e'; injection e' with a1 a2 a3; exact ⟨a1, a2⟩
          have c2 := (hbW.cell (lt_of_cell hp0)).trans hp0
          clear hp0
          have hd : decide ((0 : Int) < (k : Int)) = true := by rw [decide_eq_true_eq]; omega
          have hd2 : decide (0 < k) = true := by rw [decide_eq_true_eq]; omega
          by_cases hl : Op.bytesLess (l[k - 1]'(by omega)).1.toList l[k].1.toList = true
          · have hl2 : (!Op.bytesLess (l[k - 1]'(by omega)).1.toList l[k].1.toList) = false := by rw [hl]; rfl
            have HL := Lib.hid hl
            go_upto_region 5 with (fail)
            go_quiet (fail)
            go_wp2
            go_roundw
            case rel => exact ⟨k + 1, by omega, by go_num, (M.ok_take_succ hlt).2 ⟨HOK.out, HMAY.out, fun _ => by have := HL.out; rwa [toL, toL] at this⟩, ⟨hbW.os, hbW.tape, hbW.output, hbW.size, hbW.block⟩⟩
            case measure => simp [intOf]; omega
          · have hl1 : Op.bytesLess (l[k - 1]'(by omega)).1.toList l[k].1.toList = false := by simpa using hl
            have hl2 : (!Op.bytesLess (l[k - 1]'(by omega)).1.toList l[k].1.toList) = true := by rw [hl1]; rfl
            have hno : decide (M.Ok l) = false := by
              rw [decide_eq_false_iff_not]
              intro h
              have := ((M.ok_take_succ hlt).1 (M.ok_take h (k + 1))).2.2 h0
              unfold M.klt at this
              rw [toL, toL] at hl1
              rw [hl1] at this
              exact Bool.noConfusion this
            have HNO := Lib.hid hno
            clear hno hl
            go_upto_region 5 with (fail)
            go_quiet (fail)
            go_wp2
            go_ret
            exact ⟨by rw [HNO.out]; rfl, ⟨hbW.os, hbW.tape, hbW.output, hbW.size, hbW.block⟩⟩
      · rw [decide_eq_false hmay] at hck
        have hno : decide (M.Ok l) = false := by
          rw [decide_eq_false_iff_not]
          intro h
          exact hmay ((M.ok_take_succ hlt).1 (M.ok_take h (k + 1))).2.1
        have HNO := Lib.hid hno
        have HCK := Lib.hid hck
        clear hmay hck hno
        go_upto_region 4 with (fail)
        go_quiet ((go_at_call 40; exact Calls.quiet_of_same ((HCK.out _).mono fun _ _ h => ⟨h.1, h.2.symm⟩)))
        go_upto_region 5 with (fail)
        go_quiet (fail)
        go_wp2
        go_ret
        exact ⟨by rw [HNO.out]; rfl, ⟨hb.os, hb.tape, hb.output, hb.size, hb.block⟩⟩
    · have hkl : k = l.length := by omega
      have hyes : decide (M.Ok l) = true := by
        rw [decide_eq_true_eq]
        have := HOK.out
        rwa [hkl, List.take_length] at this
      have HK := Lib.hid hkl; have HY := Lib.hid hyes
      clear hkl hyes
      go_wp2
      go_ret
      exact ⟨by rw [HY.out]; rfl, hb⟩
/-- the document's value of a key -/
def getr (l : List Ent) (k : ByteArray) : Option ByteArray := (l.find? fun e => decide (e.1 = k)).map (·.2)
theorem getr_eq {l : List Ent} {k : ByteArray} (h : M.Ok l) : getl l k = getr l k := by unfold getl getr; rw [if_pos h]
theorem rget_any (v : Value) (l : List Ent) (key : ByteArray) (w : World) (hv : Ents w v l) : Calls Try.prog 43 #[v, .string key] w (Got (getr l key) w) := by
  have hlen := ents_len hv
  obtain ⟨ao, cap, rfl, _, _, hc⟩ := hv.open
  have HC := Lib.hid hc; clear hc hv
  go_enter Try.func43, Try.ntmps43
  go_wp2
  go_loopw [6] (fun i wr => ∃ k : Nat, k ≤ l.length ∧ i = .int .i64 k ∧ (∀ j (h1 : j < l.length), j < k → l[j].1 ≠ key) ∧ w = wr) (fun i _ => l.length - (intOf i).toNat)
  case atStart => exact ⟨0, Nat.zero_le _, rfl, fun j _ h => absurd h (by omega), rfl⟩
  case round =>
    obtain ⟨k, hk, rfl, hpre, hw⟩ := hrel
    subst hw
    have HPRE := Lib.hid hpre; clear hpre
    by_cases hlt : k < l.length
    · obtain ⟨b, o, rfl, c0, c1⟩ := HC.out k hlt
      by_cases hkey : l[k].1 = key
      · have hy : getr l key = some l[k].2 := by
          unfold getr
          have h : l.find? (fun e => decide (e.1 = key)) = some l[k] := by
            rw [List.find?_eq_some_iff_getElem]
            exact ⟨by simp [hkey], k, hlt, rfl, fun j hj => by have := HPRE.out j (by omega) hj; simpa using this⟩
          rw [h]; rfl
        have HY := Lib.hid hy
        have hq := str_eq hkey
        clear hy hkey
        go_wp2
        go_ret2
        exact ⟨by rw [HY.out]; rfl, Below.refl _ _⟩
      · have hn : ∀ j (h1 : j < l.length), j < k + 1 → l[j].1 ≠ key := fun j h1 h => by
          rcases Nat.lt_or_ge j k with h' | h'
          · exact HPRE.out j h1 h'
          · obtain rfl : j = k := by omega
            exact hkey
        have HN := Lib.hid hn
        have hq := str_ne hkey
        clear hn hkey
        go_wp2
        go_roundw
        case rel => exact ⟨k + 1, by omega, by go_num, HN.out, by first | rfl | trivial⟩
        case measure => simp [intOf]; omega
    · have hno : getr l key = none := by
        unfold getr
        have h : l.find? (fun e => decide (e.1 = key)) = none := by
          rw [List.find?_eq_none]
          intro e he
          obtain ⟨j, hj, rfl⟩ := List.getElem_of_mem he
          simpa using HPRE.out j hj (by omega)
        rw [h]; rfl
      have HN := Lib.hid hno; clear hno
      go_wp2
      go_ret2
      exact ⟨by rw [HN.out]; rfl, Below.refl _ _⟩
end Go.Proofs.Ytifdglehfhoecaa.E

/-
  Whether a node may be, whether it fits; the document's answer. Conditions: bounds that every node here keeps.
-/
namespace Go.Proofs.Ytifdglehfhoecaa.N
open Go.RowKit B E
theorem odd_any (k : Int) (w : World) : Calls Try.prog 78 #[.int .i64 k] w fun r w' => r = .returned (.bool (decide (¬ M.okk k))) ∧ w = w' := by
  by_cases h1 : k < 2
  · have hd : decide (¬ M.okk k) = true := by rw [decide_eq_true_eq]; unfold M.okk; omega
    rw [hd]
    go_enter Try.func78, Try.ntmps78
    go_wp2
    go_ret
    exact ⟨rfl, rfl⟩
  · by_cases h2 : 4294967295 < k
    · have hd : decide (¬ M.okk k) = true := by rw [decide_eq_true_eq]; unfold M.okk; omega
      rw [hd]
      have q2 : decide ((4294967295 : Int) < k) = true := by rw [decide_eq_true_eq]; exact h2
      go_enter Try.func78, Try.ntmps78
      go_wp2
      go_ret
      exact ⟨rfl, rfl⟩
    · have hd : decide (¬ M.okk k) = false := by rw [decide_eq_false_iff_not]; unfold M.okk; omega
      rw [hd]
      have q2 : decide ((4294967295 : Int) < k) = false := by rw [decide_eq_false_iff_not]; exact h2
      go_enter Try.func78, Try.ntmps78
      go_wp2
      go_ret
      exact ⟨rfl, rfl⟩
def Idx (ks : List Int) (w : World) (r : Ending) (w' : World) : Prop := ∃ i : Int, r = .returned (.int .i64 i) ∧ (0 ≤ i ↔ ¬ M.Okk ks) ∧ w = w'
theorem index_any (v : Value) (ks : List Int) (w : World) (hv : Ints w v ks) : Calls Try.prog 92 #[v, .func (.func 78) #[] #[]] w (Idx ks w) := by
  have hlen := ints_len hv
  obtain ⟨ao, cap, rfl, _, _, hc⟩ := hv.open
  have HC := Lib.hid hc; clear hc hv
  go_enter Try.func92, Try.ntmps92
  go_wp2
  go_loopw [8] (fun i wr => ∃ k : Nat, k ≤ ks.length ∧ i = .int .i64 k ∧ (∀ j (_h : j < ks.length), j < k → M.okk ks[j]) ∧ w = wr) (fun i _ => ks.length - (intOf i).toNat)
  case atStart => exact ⟨0, Nat.zero_le _, rfl, fun j _ h => absurd h (by omega), rfl⟩
  case round =>
    obtain ⟨k, hkl, rfl, hpre, hw⟩ := hrel
    subst hw
    have HPRE := Lib.hid hpre; clear hpre
    by_cases hlt : k < ks.length
    · obtain ⟨b, o, rfl, c0⟩ := HC.out k hlt
      have HOD := Lib.hid (fun W => odd_any ks[k] W)
      by_cases hok : M.okk ks[k]
      · rw [decide_eq_false (not_not_intro hok)] at HOD
        have HN := Lib.hid (show ∀ j (_h : j < ks.length), j < k + 1 → M.okk ks[j] from fun j hj h => by
          rcases Nat.lt_or_ge j k with h' | h'
          · exact HPRE.out j hj h'
          · obtain rfl : j = k := by omega
            exact hok)
        clear hok
        go_wp2_with fail
        refine (HOD.out _).mono ?_
        rintro r w2 ⟨rfl, hw⟩
        subst hw
        go_wp2
        go_roundw
        case rel => exact ⟨k + 1, by omega, by go_num, HN.out, by first | rfl | trivial⟩
        case measure => simp [intOf]; omega
      · rw [decide_eq_true hok] at HOD
        have HR := Lib.hid (show (0 : Int) ≤ (k : Int) ↔ ¬ M.Okk ks from ⟨fun _ h => hok (h _ (List.getElem_mem hlt)), fun _ => by omega⟩)
        clear hok
        go_wp2_with fail
        refine (HOD.out _).mono ?_
        rintro r w2 ⟨rfl, hw⟩
        subst hw
        go_wp2
        go_ret
        exact ⟨_, rfl, HR.out, by first | rfl | trivial⟩
    · have HR := Lib.hid (show (0 : Int) ≤ -1 ↔ ¬ M.Okk ks from ⟨fun h => by omega, fun h => absurd (fun x hx => by
        obtain ⟨j, hj, rfl⟩ := List.getElem_of_mem hx
        exact HPRE.out j hj (by omega)) h⟩)
      go_wp2
      go_ret
      exact ⟨_, rfl, HR.out, by first | rfl | trivial⟩
theorem contains_any (v : Value) (ks : List Int) (w : World) (hv : Ints w v ks) : Calls Try.prog 79 #[v, .func (.func 78) #[] #[]] w fun r w' => r = .returned (.bool (decide (¬ M.Okk ks))) ∧ w = w' := by
  have HI := Lib.hid (index_any v ks w hv); clear hv
  go_enter Try.func79, Try.ntmps79
  go_wp2_with fail
  refine HI.out.mono ?_
  rintro r w2 ⟨i, rfl, hi, hw⟩
  subst hw
  have HQ := Lib.hid (show decide (0 ≤ i) = decide (¬ M.Okk ks) by rw [decide_eq_decide]; exact hi)
  clear hi
  go_wp2
  go_ret
  exact ⟨congrArg (fun b => Ending.returned (.bool b)) HQ.out, rfl⟩
theorem nok_leaf {es : List Ent} {ks : List Int} {ss : List ByteArray} : M.NOk ⟨true, es, ks, ss⟩ ↔ M.Ok es ∧ ks = [] ∧ ss = [] := ⟨fun h => h.1 rfl, fun h => ⟨fun _ => h, fun e => Bool.noConfusion e⟩⟩
theorem nok_inner {es : List Ent} {ks : List Int} {ss : List ByteArray} : M.NOk ⟨false, es, ks, ss⟩ ↔ es = [] ∧ ss.length + 1 = ks.length ∧ M.Okk ks ∧ M.Oks ss := ⟨fun h => h.2 rfl, fun h => ⟨fun e => Bool.noConfusion e, fun _ => h⟩⟩
set_option maxRecDepth 100000 in
set_option maxHeartbeats 4000000 in
theorem nright_any (v : Value) (n : M.Nd) (w : World) (hv : NdV w v n) (hbd : Bd n) : Calls Try.prog 53 #[v] w fun r w' => r = .returned (.bool (decide (M.NOk n))) ∧ Below w.heap.size w w' := by
  obtain ⟨d1, d2, d3, d4, d5⟩ := hbd
  obtain ⟨l, es, ks, ss⟩ := n
  obtain ⟨e0, ec, k0, kc, s0, sc, rfl, he, hk, hs⟩ := hv
  dsimp only at he hk hs d1 d2 d3 d4 d5 ⊢
  have HE := Lib.hid he; have HK := Lib.hid hk; have HS := Lib.hid hs
  clear he hk hs
  rcases l with _ | _
  case true =>
    by_cases ho : M.Ok es
    · by_cases hz : ks.length + ss.length = 0
      · have hd : decide (M.NOk ⟨true, es, ks, ss⟩) = true := by
          rw [decide_eq_true_eq, nok_leaf]
          exact ⟨ho, List.eq_nil_of_length_eq_zero (by omega), List.eq_nil_of_length_eq_zero (by omega)⟩
        have q1 : ((ks.length : Int) + (ss.length : Int) == 0) = true := by rw [beq_iff_eq]; omega
        have HD := Lib.hid hd; have HO := Lib.hid ho
        rw [hd]
        clear hd ho hz
        go_enter Try.func53, Try.ntmps53
        go_upto_region 1 with (fail)
        obtain ⟨w1, hw1⟩ : ∃ W, w.alloc (.cells #[.bool true, .slice e0 es.length ec, .slice k0 ks.length kc, .slice s0 ss.length sc] 69) = W := ⟨_, rfl⟩
        have hx : Bx w1 w.heap.size true (.slice e0 es.length ec) (.slice k0 ks.length kc) (.slice s0 ss.length sc) := by rw [← hw1]; exact Bx.new _ _ _ _ _ _
        have hb1 : Below w.heap.size w w1 := by rw [← hw1]; exact (Below.refl _ w).alloc (Nat.le_refl _) _
        rw [hw1]
        clear hw1
        obtain ⟨x0, x1, x2, x3⟩ := hx
        go_wp2_with fail
        refine (encode_any _ es _ (HE.out.below hb1) (by omega)).mono ?_
        rintro r w2 ⟨rfl, hb2⟩
        rw [if_pos HO.out]
        obtain ⟨tx, htx⟩ : ∃ t, encl es = t := ⟨_, rfl⟩
        rw [htx]
        have x2 := bcell hb2 x2; have x3 := bcell hb2 x3
        have hb2 := hb1.trans (hb2.mono hb1.size)
        clear x0 x1 htx hb1
        go_wp2
        go_ret
        exact ⟨rfl, hb2⟩
      · have hd : decide (M.NOk ⟨true, es, ks, ss⟩) = false := by
          rw [decide_eq_false_iff_not, nok_leaf]
          rintro ⟨_, rfl, rfl⟩
          exact hz rfl
        have q1 : ((ks.length : Int) + (ss.length : Int) == 0) = false := by rw [beq_eq_false_iff_ne]; omega
        have HD := Lib.hid hd; have HO := Lib.hid ho
        rw [hd]
        clear hd ho hz
        go_enter Try.func53, Try.ntmps53
        go_upto_region 1 with (fail)
        obtain ⟨w1, hw1⟩ : ∃ W, w.alloc (.cells #[.bool true, .slice e0 es.length ec, .slice k0 ks.length kc, .slice s0 ss.length sc] 69) = W := ⟨_, rfl⟩
        have hx : Bx w1 w.heap.size true (.slice e0 es.length ec) (.slice k0 ks.length kc) (.slice s0 ss.length sc) := by rw [← hw1]; exact Bx.new _ _ _ _ _ _
        have hb1 : Below w.heap.size w w1 := by rw [← hw1]; exact (Below.refl _ w).alloc (Nat.le_refl _) _
        rw [hw1]
        clear hw1
        obtain ⟨x0, x1, x2, x3⟩ := hx
        go_wp2_with fail
        refine (encode_any _ es _ (HE.out.below hb1) (by omega)).mono ?_
        rintro r w2 ⟨rfl, hb2⟩
        rw [if_pos HO.out]
        obtain ⟨tx, htx⟩ : ∃ t, encl es = t := ⟨_, rfl⟩
        rw [htx]
        have x2 := bcell hb2 x2; have x3 := bcell hb2 x3
        have hb2 := hb1.trans (hb2.mono hb1.size)
        clear x0 x1 htx hb1
        go_wp2
        go_ret
        exact ⟨rfl, hb2⟩
    · have hd : decide (M.NOk ⟨true, es, ks, ss⟩) = false := by
        rw [decide_eq_false_iff_not, nok_leaf]
        exact fun h => ho h.1
      have HO := Lib.hid ho
      rw [hd]
      clear hd ho
      go_enter Try.func53, Try.ntmps53
      go_upto_region 1 with (fail)
      obtain ⟨w1, hw1⟩ : ∃ W, w.alloc (.cells #[.bool true, .slice e0 es.length ec, .slice k0 ks.length kc, .slice s0 ss.length sc] 69) = W := ⟨_, rfl⟩
      have hx : Bx w1 w.heap.size true (.slice e0 es.length ec) (.slice k0 ks.length kc) (.slice s0 ss.length sc) := by rw [← hw1]; exact Bx.new _ _ _ _ _ _
      have hb1 : Below w.heap.size w w1 := by rw [← hw1]; exact (Below.refl _ w).alloc (Nat.le_refl _) _
      rw [hw1]
      clear hw1
      obtain ⟨x0, x1, x2, x3⟩ := hx
      go_wp2_with fail
      refine (encode_any _ es _ (HE.out.below hb1) (by omega)).mono ?_
      rintro r w2 ⟨rfl, hb2⟩
      rw [if_neg HO.out]
      obtain ⟨tx, htx⟩ : ∃ t, encl es = t := ⟨_, rfl⟩
      rw [htx]
      have hb2 := hb1.trans (hb2.mono hb1.size)
      clear x0 x1 x2 x3 htx hb1
      go_wp2
      go_ret
      exact ⟨rfl, hb2⟩
  obtain ⟨R, hR⟩ : ∃ R, decide (M.NOk ⟨false, es, ks, ss⟩) = R := ⟨_, rfl⟩
  rw [hR]
  have HR := Lib.hid (show (R = true ↔ es = [] ∧ ss.length + 1 = ks.length ∧ M.Okk ks ∧ M.Oks ss) by rw [← hR, decide_eq_true_eq, nok_inner])
  have HF := Lib.hid (show (¬ (es = [] ∧ ss.length + 1 = ks.length ∧ M.Okk ks ∧ M.Oks ss)) → R = false by
    intro h
    rw [← HR.out] at h
    simpa using h)
  clear hR
  go_enter Try.func53, Try.ntmps53
  go_upto_region 1 with (fail)
  obtain ⟨w1, hw1⟩ : ∃ W, w.alloc (.cells #[.bool false, .slice e0 es.length ec, .slice k0 ks.length kc, .slice s0 ss.length sc] 69) = W := ⟨_, rfl⟩
  have hx : Bx w1 w.heap.size false (.slice e0 es.length ec) (.slice k0 ks.length kc) (.slice s0 ss.length sc) := by rw [← hw1]; exact Bx.new _ _ _ _ _ _
  have hb1 : Below w.heap.size w w1 := by rw [← hw1]; exact (Below.refl _ w).alloc (Nat.le_refl _) _
  rw [hw1]
  clear hw1
  obtain ⟨x0, x1, x2, x3⟩ := hx
  by_cases he0 : 0 < es.length
  · have hRf := HF.out fun h => by rw [h.1] at he0; simp at he0
    subst hRf
    go_wp2
    go_ret
    exact ⟨rfl, hb1⟩
  by_cases hl : ss.length + 1 = ks.length
  case neg =>
    have hRf := HF.out fun h => hl h.2.1
    subst hRf
    have q1 : ((ss.length : Int) != (ks.length : Int) - 1) = true := by rw [bne_iff_ne]; omega
    have q2 : ((ss.length : Int) == (ks.length : Int) - 1) = false := by rw [beq_eq_false_iff_ne]; omega
    clear hl
    go_wp2
    go_ret
    exact ⟨rfl, hb1⟩
  have q1 : ((ss.length : Int) != (ks.length : Int) - 1) = false := by rw [bne_eq_false_iff_eq]; omega
  have q2 : ((ss.length : Int) == (ks.length : Int) - 1) = true := by rw [beq_iff_eq]; omega
  have HL := Lib.hid hl
  have HES := Lib.hid (List.eq_nil_of_length_eq_zero (show es.length = 0 by omega))
  clear hl
  have HCO := Lib.hid (contains_any (.slice k0 ks.length kc) ks w1 (HK.out.below hb1))
  by_cases hok : M.Okk ks
  case neg =>
    have hRf := HF.out fun h => hok h.2.2.1
    subst hRf
    rw [decide_eq_true hok] at HCO
    clear hok
    go_wp2_with fail
    refine HCO.out.mono ?_
    rintro r w2 ⟨rfl, hw⟩
    subst hw
    go_wp2
    go_ret
    exact ⟨rfl, hb1⟩
  rw [decide_eq_false (not_not_intro hok)] at HCO
  have HOK := Lib.hid hok
  clear hok
  go_wp2_with fail
  refine HCO.out.mono ?_
  rintro r w2 ⟨rfl, hw⟩
  subst hw
  have HCS := Lib.hid (HS.out.below hb1).at.2.2.2
  clear q1 q2
  go_wp2
  go_loopw [51] (fun i wr => ∃ k : Nat, k ≤ ss.length ∧ i = .int .i64 k ∧ M.Oks (ss.take k) ∧ w1 = wr) (fun i _ => ss.length - (intOf i).toNat)
  case atStart => exact ⟨0, Nat.zero_le _, rfl, by simpa using M.oks_nil, rfl⟩
  case round =>
    obtain ⟨k, hkl, rfl, hpre, hw⟩ := hrel
    subst hw
    have HPRE := Lib.hid hpre; clear hpre
    by_cases hlt : k < ss.length
    · obtain ⟨b, o, rfl, c0⟩ := HCS.out k hlt
      have HSU := Lib.hid (M.oks_take_succ hlt)
      have HCK := Lib.hid (fun W => check_any ss[k] ByteArray.empty W)
      by_cases hmay : M.may ss[k] ByteArray.empty
      · rw [if_pos hmay] at HCK
        have HMAY := Lib.hid hmay
        clear hmay
        rcases Nat.eq_zero_or_pos k with h0 | h0
        · have HN := Lib.hid (HSU.out.2 ⟨HPRE.out, HMAY.out, fun h => by omega⟩)
          have hd : decide ((0 : Int) < (k : Int)) = false := by rw [h0]; rfl
          have hd2 : decide (0 < k) = false := by rw [h0]; rfl
          have H0 := Lib.hid h0; clear h0
          go_wp2_with fail
          refine (HCK.out _).mono ?_
          rintro r w3 ⟨rfl, hw⟩
          subst hw
          go_wp2
          go_roundw
          case rel => exact ⟨k + 1, by omega, by go_num, HN.out, by first | rfl | trivial⟩
          case measure => simp [intOf]; omega
        · obtain ⟨b', o', e', c2⟩ := HCS.out (k - 1) (by omega)
          obtain ⟨rfl, rfl⟩ : b = b' ∧ o = o' := by injection e' with e'; injection e' with a1 a2 a3; exact ⟨a1, a2⟩
          have hd : decide ((0 : Int) < (k : Int)) = true := by rw [decide_eq_true_eq]; omega
          have hd2 : decide (0 < k) = true := by rw [decide_eq_true_eq]; omega
          by_cases hll : Op.bytesLess (ss[k - 1]'(by omega)).toList ss[k].toList = true
          · have hl2 : (!Op.bytesLess (ss[k - 1]'(by omega)).toList ss[k].toList) = false := by rw [hll]; rfl
            have HN := Lib.hid (HSU.out.2 ⟨HPRE.out, HMAY.out, fun _ => by rw [toL, toL] at hll; exact hll⟩)
            go_wp2_with fail
            refine (HCK.out _).mono ?_
            rintro r w3 ⟨rfl, hw⟩
            subst hw
            go_wp2
            go_roundw
            case rel => exact ⟨k + 1, by omega, by go_num, HN.out, by first | rfl | trivial⟩
            case measure => simp [intOf]; omega
          · have hl1 : Op.bytesLess (ss[k - 1]'(by omega)).toList ss[k].toList = false := by simpa using hll
            have hl2 : (!Op.bytesLess (ss[k - 1]'(by omega)).toList ss[k].toList) = true := by rw [hl1]; rfl
            have hRf := HF.out fun h => by
              have := (HSU.out.1 (M.oks_take h.2.2.2 (k + 1))).2.2 h0
              unfold M.klt at this
              rw [toL, toL] at hl1
              rw [hl1] at this
              exact Bool.noConfusion this
            subst hRf
            clear hll
            go_wp2_with fail
            refine (HCK.out _).mono ?_
            rintro r w3 ⟨rfl, hw⟩
            subst hw
            go_wp2
            go_ret
            exact ⟨rfl, hb1⟩
      · rw [if_neg hmay] at HCK
        have hRf := HF.out fun h => hmay (HSU.out.1 (M.oks_take h.2.2.2 (k + 1))).2.1
        subst hRf
        clear hmay
        go_wp2_with fail
        refine (HCK.out _).mono ?_
        rintro r w3 ⟨rfl, hw⟩
        subst hw
        go_wp2
        go_ret
        exact ⟨rfl, hb1⟩
    · have hRt := HR.out.2 ⟨HES.out, HL.out, HOK.out, by
        have := HPRE.out
        rwa [show k = ss.length by omega, List.take_length] at this⟩
      subst hRt
      go_wp2
      go_ret
      exact ⟨rfl, hb1⟩
end Go.Proofs.Ytifdglehfhoecaa.N

/-
  Whether a node fits; the document's answer whether one may be; whether two are the same. Conditions: bounds that every node here keeps.
-/
namespace Go.Proofs.Ytifdglehfhoecaa.N
open Go.RowKit B E
def fitsN (n : M.Nd) : Prop := M.NOk n ∧ M.nsz n ≤ 240
instance (n : M.Nd) : Decidable (fitsN n) := by unfold fitsN; exact inferInstance
theorem fits_any (v : Value) (n : M.Nd) (w : World) (hv : NdV w v n) (hbd : Bd n) : Calls Try.prog 64 #[v] w fun r w' => r = .returned (.bool (decide (fitsN n))) ∧ Below w.heap.size w w' := by
  have HV := Lib.hid hv
  have hbd' := hbd
  obtain ⟨d1, d2, d3, d4, d5⟩ := hbd'
  have hz : M.nsz n ≤ 1000000004 := by unfold M.nsz; split <;> omega
  have HBD := Lib.hid hbd
  obtain ⟨e0, ec, k0, kc, s0, sc, rfl, he, hk, hs⟩ := hv
  obtain ⟨z, hzz⟩ : ∃ z, M.nsz n = z := ⟨_, rfl⟩
  have HZ := Lib.hid hzz
  rw [hzz] at hz
  clear hbd d1 d2 d3 d4 d5 he hk hs hzz
  obtain ⟨el, hel⟩ : ∃ x, n.es.length = x := ⟨_, rfl⟩
  obtain ⟨kl, hkl⟩ : ∃ x, n.ks.length = x := ⟨_, rfl⟩
  obtain ⟨sl, hsl⟩ : ∃ x, n.ss.length = x := ⟨_, rfl⟩
  obtain ⟨lf, hlf⟩ : ∃ x, n.leaf = x := ⟨_, rfl⟩
  rw [hel, hkl, hsl, hlf] at HV ⊢
  clear hel hkl hsl hlf
  have hb1 : Below w.heap.size w (w.alloc (.cells #[.bool lf, .slice e0 el ec, .slice k0 kl kc, .slice s0 sl sc] 69)) := (Below.refl _ w).alloc (Nat.le_refl _) _
  have hx := Bx.new w lf (.slice e0 el ec) (.slice k0 kl kc) (.slice s0 sl sc) 69
  go_enter Try.func64, Try.ntmps64
  go_upto_region 1 with (fail)
  obtain ⟨w1, hw1⟩ : ∃ W, w.alloc (.cells #[.bool lf, .slice e0 el ec, .slice k0 kl kc, .slice s0 sl sc] 69) = W := ⟨_, rfl⟩
  rw [hw1] at hb1 hx ⊢
  clear hw1
  obtain ⟨x0, x1, x2, x3⟩ := hx
  by_cases ho : M.NOk n
  · have HRT := Lib.hid (nright_any _ n w1 (HV.out.below hb1) HBD.out)
    rw [decide_eq_true ho] at HRT
    have HQ := Lib.hid (show decide ((z : Int) ≤ 240) = decide (fitsN n) by
      rw [decide_eq_decide]
      unfold fitsN
      rw [HZ.out]
      exact ⟨fun h => ⟨ho, by omega⟩, fun h => by omega⟩)
    clear ho
    go_wp2_with fail
    refine HRT.out.mono ?_
    rintro r w2 ⟨rfl, hb2⟩
    have x0 := bcell hb2 x0; have x1 := bcell hb2 x1; have x2 := bcell hb2 x2; have x3 := bcell hb2 x3
    have hb2 := hb1.trans (hb2.mono hb1.size)
    go_wp2_with fail
    refine (nsize_any _ n _ (HV.out.below hb2) HBD.out).mono ?_
    rintro r w3 ⟨rfl, hb3⟩
    rw [HZ.out]
    have hb3 := hb2.trans (hb3.mono hb2.size)
    clear x0 x1 x2 x3
    go_wp2
    go_ret
    exact ⟨congrArg (fun b => Ending.returned (.bool b)) HQ.out, hb3⟩
  · have HRT := Lib.hid (nright_any _ n w1 (HV.out.below hb1) HBD.out)
    rw [decide_eq_false ho] at HRT
    have HFN := Lib.hid (show false = decide (fitsN n) by symm; rw [decide_eq_false_iff_not]; exact fun h => ho h.1)
    clear ho
    go_wp2_with fail
    refine HRT.out.mono ?_
    rintro r w2 ⟨rfl, hb2⟩
    have hb2 := hb1.trans (hb2.mono hb1.size)
    clear x0 x1 x2 x3
    go_wp2
    go_ret
    exact ⟨congrArg (fun b => Ending.returned (.bool b)) HFN.out, hb2⟩
set_option maxRecDepth 100000 in
set_option maxHeartbeats 4000000 in
theorem rnright_any (v : Value) (n : M.Nd) (w : World) (hv : NdV w v n) (hbd : Bd n) : Calls Try.prog 61 #[v] w fun r w' => r = .returned (.bool (decide (M.NOk n))) ∧ Below w.heap.size w w' := by
  obtain ⟨d1, d2, d3, d4, d5⟩ := hbd
  obtain ⟨l, es, ks, ss⟩ := n
  obtain ⟨e0, ec, k0, kc, s0, sc, rfl, he, hk, hs⟩ := hv
  dsimp only at he hk hs d1 d2 d3 d4 d5 ⊢
  have HE := Lib.hid he; have HK := Lib.hid hk; have HS := Lib.hid hs
  clear he hk hs
  obtain ⟨R, hR⟩ : ∃ R, decide (M.NOk ⟨l, es, ks, ss⟩) = R := ⟨_, rfl⟩
  rw [hR]
  rcases l with _ | _
  case true =>
    have HR := Lib.hid (show (R = true ↔ M.Ok es ∧ ks = [] ∧ ss = []) by rw [← hR, decide_eq_true_eq, nok_leaf])
    have HF := Lib.hid (show (¬ (M.Ok es ∧ ks = [] ∧ ss = [])) → R = false by
      intro h
      rw [← HR.out] at h
      simpa using h)
    clear hR
    go_enter Try.func61, Try.ntmps61
    go_upto_region 1 with (fail)
    obtain ⟨w1, hw1⟩ : ∃ W, w.alloc (.cells #[.bool true, .slice e0 es.length ec, .slice k0 ks.length kc, .slice s0 ss.length sc] 73) = W := ⟨_, rfl⟩
    have hx : Bx w1 w.heap.size true (.slice e0 es.length ec) (.slice k0 ks.length kc) (.slice s0 ss.length sc) := by rw [← hw1]; exact Bx.new _ _ _ _ _ _
    have hb1 : Below w.heap.size w w1 := by rw [← hw1]; exact (Below.refl _ w).alloc (Nat.le_refl _) _
    rw [hw1]
    clear hw1
    obtain ⟨x0, x1, x2, x3⟩ := hx
    have HRR := Lib.hid (rright_any _ es w1 (HE.out.below hb1))
    by_cases ho : M.Ok es
    · rw [decide_eq_true ho] at HRR
      have HO := Lib.hid ho
      clear ho
      by_cases hk0 : ks.length = 0
      · have q1 : ((ks.length : Int) == 0) = true := by rw [beq_iff_eq]; omega
        by_cases hs0 : ss.length = 0
        · have q2 : ((ss.length : Int) == 0) = true := by rw [beq_iff_eq]; omega
          have hRt := HR.out.2 ⟨HO.out, List.eq_nil_of_length_eq_zero hk0, List.eq_nil_of_length_eq_zero hs0⟩
          subst hRt
          clear hk0 hs0
          go_wp2_with fail
          refine HRR.out.mono ?_
          rintro r w2 ⟨rfl, hb2⟩
          have x2 := bcell hb2 x2; have x3 := bcell hb2 x3
          have hb2 := hb1.trans (hb2.mono hb1.size)
          clear x0 x1 hb1
          go_wp2
          go_ret
          exact ⟨rfl, hb2⟩
        · have q2 : ((ss.length : Int) == 0) = false := by rw [beq_eq_false_iff_ne]; omega
          have hRt := HF.out fun h => by rw [h.2.2] at hs0; exact hs0 rfl
          subst hRt
          clear hk0 hs0
          go_wp2_with fail
          refine HRR.out.mono ?_
          rintro r w2 ⟨rfl, hb2⟩
          have x2 := bcell hb2 x2; have x3 := bcell hb2 x3
          have hb2 := hb1.trans (hb2.mono hb1.size)
          clear x0 x1 hb1
          go_wp2
          go_ret
          exact ⟨rfl, hb2⟩
      · have q1 : ((ks.length : Int) == 0) = false := by rw [beq_eq_false_iff_ne]; omega
        have hRt := HF.out fun h => by rw [h.2.1] at hk0; exact hk0 rfl
        subst hRt
        clear hk0
        go_wp2_with fail
        refine HRR.out.mono ?_
        rintro r w2 ⟨rfl, hb2⟩
        have x2 := bcell hb2 x2; have x3 := bcell hb2 x3
        have hb2 := hb1.trans (hb2.mono hb1.size)
        clear x0 x1 hb1
        go_wp2
        go_ret
        exact ⟨rfl, hb2⟩
    · rw [decide_eq_false ho] at HRR
      have hRt := HF.out fun h => ho h.1
      subst hRt
      clear ho
      go_wp2_with fail
      refine HRR.out.mono ?_
      rintro r w2 ⟨rfl, hb2⟩
      have hb2 := hb1.trans (hb2.mono hb1.size)
      clear x0 x1 x2 x3 hb1
      go_wp2
      go_ret
      exact ⟨rfl, hb2⟩
  have HR := Lib.hid (show (R = true ↔ es = [] ∧ ss.length + 1 = ks.length ∧ M.Okk ks ∧ M.Oks ss) by rw [← hR, decide_eq_true_eq, nok_inner])
  have HF := Lib.hid (show (¬ (es = [] ∧ ss.length + 1 = ks.length ∧ M.Okk ks ∧ M.Oks ss)) → R = false by
    intro h
    rw [← HR.out] at h
    simpa using h)
  clear hR
  go_enter Try.func61, Try.ntmps61
  go_upto_region 1 with (fail)
  obtain ⟨w1, hw1⟩ : ∃ W, w.alloc (.cells #[.bool false, .slice e0 es.length ec, .slice k0 ks.length kc, .slice s0 ss.length sc] 73) = W := ⟨_, rfl⟩
  have hx : Bx w1 w.heap.size false (.slice e0 es.length ec) (.slice k0 ks.length kc) (.slice s0 ss.length sc) := by rw [← hw1]; exact Bx.new _ _ _ _ _ _
  have hb1 : Below w.heap.size w w1 := by rw [← hw1]; exact (Below.refl _ w).alloc (Nat.le_refl _) _
  rw [hw1]
  clear hw1
  obtain ⟨x0, x1, x2, x3⟩ := hx
  by_cases he0 : 0 < es.length
  · have hRf := HF.out fun h => by rw [h.1] at he0; simp at he0
    subst hRf
    go_wp2
    go_ret
    exact ⟨rfl, hb1⟩
  by_cases hk1 : ks.length = 0
  · have q1 : ((ks.length : Int) == 0) = true := by rw [beq_iff_eq]; omega
    have hRf := HF.out fun h => by omega
    subst hRf
    clear hk1
    go_wp2
    go_ret
    exact ⟨rfl, hb1⟩
  have q3 : ((ks.length : Int) == 0) = false := by rw [beq_eq_false_iff_ne]; omega
  by_cases hl : ss.length + 1 = ks.length
  case neg =>
    have hRf := HF.out fun h => hl h.2.1
    subst hRf
    have q1 : ((ss.length : Int) != (ks.length : Int) - 1) = true := by rw [bne_iff_ne]; omega
    have q2 : ((ss.length : Int) == (ks.length : Int) - 1) = false := by rw [beq_eq_false_iff_ne]; omega
    clear hl
    go_wp2
    go_ret
    exact ⟨rfl, hb1⟩
  have q1 : ((ss.length : Int) != (ks.length : Int) - 1) = false := by rw [bne_eq_false_iff_eq]; omega
  have q2 : ((ss.length : Int) == (ks.length : Int) - 1) = true := by rw [beq_iff_eq]; omega
  have HL := Lib.hid hl
  have HES := Lib.hid (List.eq_nil_of_length_eq_zero (show es.length = 0 by omega))
  clear hl hk1
  have HCS := Lib.hid (HS.out.below hb1).at.2.2.2
  have HCK := Lib.hid (HK.out.below hb1).at.2.2.2
  go_upto_region 6 with (fail)
  clear q1 q2 q3
  go_wp2
  go_loopw [4] (fun i wr => ∃ k : Nat, k ≤ ks.length ∧ i = .int .i64 k ∧ (∀ j (_h : j < ks.length), j < k → M.okk ks[j]) ∧ w1 = wr) (fun i _ => ks.length - (intOf i).toNat)
  case atStart => exact ⟨0, Nat.zero_le _, rfl, fun j _ h => absurd h (by omega), rfl⟩
  case round =>
    obtain ⟨k, hkl, rfl, hpre, hw⟩ := hrel
    subst hw
    have HPRE := Lib.hid hpre; clear hpre
    by_cases hlt : k < ks.length
    · obtain ⟨b, o, rfl, c0⟩ := HCK.out k hlt
      by_cases hok : M.okk ks[k]
      · have HN := Lib.hid (show ∀ j (_h : j < ks.length), j < k + 1 → M.okk ks[j] from fun j hj h => by
          rcases Nat.lt_or_ge j k with h' | h'
          · exact HPRE.out j hj h'
          · obtain rfl : j = k := by omega
            exact hok)
        have p1 : ¬ ks[k] < 2 := by unfold M.okk at hok; omega
        have p2 : ¬ 4294967295 < ks[k] := by unfold M.okk at hok; omega
        clear hok
        go_wp2
        go_roundw
        case rel => exact ⟨k + 1, by omega, by go_num, HN.out, by first | rfl | trivial⟩
        case measure => simp [intOf]; omega
      · have hRf := HF.out fun h => hok (h.2.2.1 _ (List.getElem_mem hlt))
        subst hRf
        by_cases p1 : ks[k] < 2
        · clear hok
          go_wp2
          go_ret
          exact ⟨rfl, hb1⟩
        · have p2 : 4294967295 < ks[k] := by unfold M.okk at hok; omega
          clear hok
          go_wp2
          go_ret
          exact ⟨rfl, hb1⟩
    · have HOK := Lib.hid (show M.Okk ks from fun x hx => by
        obtain ⟨j, hj, rfl⟩ := List.getElem_of_mem hx
        exact HPRE.out j hj (by omega))
      go_wp2
      go_loopw [5] (fun i wr => ∃ k : Nat, k ≤ ss.length ∧ i = .int .i64 k ∧ M.Oks (ss.take k) ∧ Below w1.heap.size w1 wr) (fun i _ => ss.length - (intOf i).toNat)
      case atStart => exact ⟨0, Nat.zero_le _, rfl, by simpa using M.oks_nil, Below.refl _ _⟩
      case round =>
        obtain ⟨m, hml, rfl, hpre, hbr⟩ := hrel
        have HPRE := Lib.hid hpre; clear hpre
        have x3 := bcell hbr x3
        have hbW := hb1.trans (hbr.mono hb1.size)
        by_cases hlm : m < ss.length
        · obtain ⟨b, o, rfl, c0⟩ := HCS.out m hlm
          have c0 := bcell hbr c0
          have HSU := Lib.hid (M.oks_take_succ hlm)
          have HCK := Lib.hid (fun W => rmay_any ss[m] ByteArray.empty W)
          have hmz : (0 : Int) ≤ (m : Int) := Int.natCast_nonneg _
          have hmn : (m : Int) < (ss.length : Int) := by omega
          by_cases hmay : M.may ss[m] ByteArray.empty
          · rw [decide_eq_true hmay] at HCK
            have HMAY := Lib.hid hmay
            clear hmay
            rcases Nat.eq_zero_or_pos m with h0 | h0
            · have HN := Lib.hid (HSU.out.2 ⟨HPRE.out, HMAY.out, fun h => by omega⟩)
              have hd : decide ((0 : Int) < (m : Int)) = false := by rw [h0]; rfl
              have hd2 : decide (0 < m) = false := by rw [h0]; rfl
              have H0 := Lib.hid h0; clear h0
              go_wp2_with fail
              refine (HCK.out _).mono ?_
              rintro r w3 ⟨rfl, hw⟩
              subst hw
              go_upto_region 15 with (fail)
              go_quiet (fail)
              go_wp2
              go_roundw
              case rel => exact ⟨m + 1, by omega, by go_num, HN.out, ⟨hbr.os, hbr.tape, hbr.output, hbr.size, hbr.block⟩⟩
              case measure => simp [intOf]; omega
            · obtain ⟨b', o', e', c2⟩ := HCS.out (m - 1) (by omega)
              obtain ⟨rfl, rfl⟩ : b = b' ∧ o = o' := by injection e' with e'; injection e' with a1 a2 a3; exact ⟨a1, a2⟩
              have c2 := bcell hbr c2
              have hd : decide ((0 : Int) < (m : Int)) = true := by rw [decide_eq_true_eq]; omega
              have hd2 : decide (0 < m) = true := by rw [decide_eq_true_eq]; omega
              by_cases hll : Op.bytesLess (ss[m - 1]'(by omega)).toList ss[m].toList = true
              · have hl2 : (!Op.bytesLess (ss[m - 1]'(by omega)).toList ss[m].toList) = false := by rw [hll]; rfl
                have HN := Lib.hid (HSU.out.2 ⟨HPRE.out, HMAY.out, fun _ => by rw [toL, toL] at hll; exact hll⟩)
                go_wp2_with fail
                refine (HCK.out _).mono ?_
                rintro r w3 ⟨rfl, hw⟩
                subst hw
                go_upto_region 15 with (fail)
                go_quiet (fail)
                go_wp2
                go_roundw
                case rel => exact ⟨m + 1, by omega, by go_num, HN.out, ⟨hbr.os, hbr.tape, hbr.output, hbr.size, hbr.block⟩⟩
                case measure => simp [intOf]; omega
              · have hl1 : Op.bytesLess (ss[m - 1]'(by omega)).toList ss[m].toList = false := by simpa using hll
                have hl2 : (!Op.bytesLess (ss[m - 1]'(by omega)).toList ss[m].toList) = true := by rw [hl1]; rfl
                have hRf := HF.out fun h => by
                  have := (HSU.out.1 (M.oks_take h.2.2.2 (m + 1))).2.2 h0
                  unfold M.klt at this
                  rw [toL, toL] at hl1
                  rw [hl1] at this
                  exact Bool.noConfusion this
                subst hRf
                clear hll
                go_wp2_with fail
                refine (HCK.out _).mono ?_
                rintro r w3 ⟨rfl, hw⟩
                subst hw
                go_upto_region 15 with (fail)
                go_quiet (fail)
                go_wp2
                go_ret
                exact ⟨rfl, ⟨hbW.os, hbW.tape, hbW.output, hbW.size, hbW.block⟩⟩
          · rw [decide_eq_false hmay] at HCK
            have hRf := HF.out fun h => hmay (HSU.out.1 (M.oks_take h.2.2.2 (m + 1))).2.1
            subst hRf
            clear hmay
            go_wp2_with fail
            refine (HCK.out _).mono ?_
            rintro r w3 ⟨rfl, hw⟩
            subst hw
            go_upto_region 15 with (fail)
            go_quiet (fail)
            go_wp2
            go_ret
            exact ⟨rfl, ⟨hbW.os, hbW.tape, hbW.output, hbW.size, hbW.block⟩⟩
        · have hRt := HR.out.2 ⟨HES.out, HL.out, HOK.out, by
            have := HPRE.out
            rwa [show m = ss.length by omega, List.take_length] at this⟩
          subst hRt
          go_wp2
          go_ret
          exact ⟨rfl, hbW⟩
end Go.Proofs.Ytifdglehfhoecaa.N

/-
  The document's number as bytes, and the walk of CodecWrites: it answers true. Conditions: the numbers are ints; the slice's cells are texts.
-/
namespace Go.Proofs.Ytifdglehfhoecaa.C
open Go.RowKit B
theorem refput_no (z n : Int) (w : World) (h : ¬ szd z ∨ n < 0) :
    Calls Try.prog 20 #[.int .i64 z, .int .i64 n] w fun r w' => r = .returned (.tuple #[.string ByteArray.empty, .bool false]) ∧ Below w.heap.size w w' := by
  by_cases hz : szd z
  · have hn : n < 0 := h.resolve_left (fun h => h hz)
    clear h
    rcases hz with rfl | rfl | rfl
    all_goals
      go_enter Try.func20, Try.ntmps20
      go_wp2
      go_ret2
      exact ⟨rfl, Below.refl _ _⟩
  · have h1 : (z != 1) = true := by rw [bne_iff_ne]; intro e; exact hz (.inl e)
    have h2 : (z != 2) = true := by rw [bne_iff_ne]; intro e; exact hz (.inr (.inl e))
    have h4 : (z != 4) = true := by rw [bne_iff_ne]; intro e; exact hz (.inr (.inr e))
    clear h hz
    go_enter Try.func20, Try.ntmps20
    go_wp2
    go_ret2
    exact ⟨rfl, Below.refl _ _⟩
theorem byte_mod (n : Nat) : ((n : Int) % 256) = ((UInt8.ofNat n).toNat : Int) := by rw [UInt8.toNat_ofNat']; omega
theorem szd_tests {Z : Int} (hz : szd Z) : (Z != 1) = false ∨ ((Z != 1) = true ∧ (Z != 2) = false) ∨ ((Z != 1) = true ∧ (Z != 2) = true ∧ (Z != 4) = false) := by
  rcases hz with h | h | h <;> rw [h] <;> decide
set_option maxHeartbeats 400000 in
theorem refput_yes (Z n : Nat) (w : World) (hz : szd (Z : Int)) (hn : n ≤ 9223372036854775807) :
    Calls Try.prog 20 #[.int .i64 (Z : Int), .int .i64 (n : Int)] w fun r w' => r = .returned (.tuple #[.string (txt (pb Z n)), .bool (((n / 256 ^ Z : Nat) : Int) == 0)]) ∧ Below w.heap.size w w' := by
  have hz4 : Z ≤ 4 := by unfold szd at hz; omega
  have ht := szd_tests hz
  have HZ := Lib.hid hz; have HT := Lib.hid ht
  clear hz ht
  go_enter Try.func20, Try.ntmps20
  go_upto_region 1 with (fail)
  go_cut [21] (fun s21 wx => s21 = .bool false ∧ wx = w)
  case first =>
    rcases HT.out with h | ⟨h, h'⟩ | ⟨h, h', h''⟩
    all_goals
      go_wp2
      go_meet
      exact ⟨rfl, rfl⟩
  case rest =>
    obtain ⟨rfl, rfl⟩ := hcut
    go_wp2
    go_loopw [1, 6, 7] (fun x v i wr => ∃ (k N : Nat) (t : ByteArray), k ≤ Z ∧ i = .int .i64 (k : Int) ∧ x = .int .i64 (N : Int) ∧ v = .string t ∧ t = txt (pb k n) ∧ N = n / 256 ^ k ∧ N ≤ n ∧ t.size ≤ 4 ∧ Below wc.heap.size wc wr) (fun _ _ i _ => Z - (intOf i).toNat)
    case atStart => exact ⟨0, n, ByteArray.empty, by omega, rfl, rfl, rfl, rfl, by simp, Nat.le_refl _, by simp, Below.refl _ _⟩
    case round =>
      obtain ⟨k, N, t, hk, rfl, rfl, rfl, ht, hN, hNn, ht4, hb⟩ := hrel
      have HT2 := Lib.hid ht; have HN := Lib.hid hN
      clear ht hN
      by_cases hlt : k < Z
      · have hby := byte_mod N
        obtain ⟨c, hc⟩ : ∃ c, UInt8.ofNat N = c := ⟨_, rfl⟩
        rw [hc] at hby
        have HC := Lib.hid hc; clear hc
        have h1 := fun W => one_text W c
        have hs1 : (txt [c]).size ≤ 1 := by rw [txt_size]; simp
        obtain ⟨u, hu⟩ : ∃ u, txt [c] = u := ⟨_, rfl⟩
        rw [hu] at h1 hs1
        have HU := Lib.hid hu; clear hu
        go_wp2
        go_roundw
        case rel =>
          have e1 : u ++ t = txt (pb (k + 1) n) := by
            rw [← HU.out, HT2.out, txt_append, pb_cons, ← HN.out, HC.out]; rfl
          have e2 : (u ++ t).size ≤ 4 := by rw [e1, txt_size, pb_len]; omega
          exact ⟨k + 1, N / 256, u ++ t, by omega, by go_num, rfl, rfl, e1, by rw [HN.out, Nat.div_div_eq_div_mul, Nat.pow_succ], Nat.le_trans (Nat.div_le_self _ _) hNn, e2, hb.alloc hb.size _⟩
        case measure => simp [intOf]; omega
      · have hkz : k = Z := by omega
        have HK := Lib.hid hkz; clear hkz
        go_wp2
        go_ret2
        exact ⟨by rw [← HK.out, ← HT2.out, ← HN.out]; rfl, hb⟩
theorem cat_snoc (l : List ByteArray) (s : ByteArray) : cat (l ++ [s]) = cat l ++ s := by
  apply bts_inj; rw [bts_append]; simp [cat]
set_option maxRecDepth 100000 in
set_option maxHeartbeats 2000000 in
theorem writes_core (z n : Int) (s : ByteArray) (ao : Option Addr) (cap : Nat) (L : List ByteArray) (w : World) (A B T : ByteArray) (E F : Int) (ok : Bool) (hs : s.size ≤ 4096) (hL : L.length ≤ 50)
    (hcap : L.length ≤ cap) (hc : ∀ j (h : j < L.length), ∃ a, ao = some a ∧ w.cell? (a.add j) = some (.string L[j]))
    (pA : ∀ W, Calls Try.prog 19 #[.int .i64 z, .int .i64 n] W fun r w' => r = .returned (.tuple #[.string A, .int .i64 E]) ∧ Below W.heap.size W w')
    (pB : ∀ W, Calls Try.prog 20 #[.int .i64 z, .int .i64 n] W fun r w' => r = .returned (.tuple #[.string B, .bool ok]) ∧ Below W.heap.size W w')
    (pT : ∀ W, Calls Try.prog 21 #[.string s] W fun r w' => r = .returned (.tuple #[.string T, .int .i64 F]) ∧ Below W.heap.size W w')
    (h8 : (ok = true ∧ A = B ∧ E = 0) ∨ (ok = false ∧ A = ByteArray.empty ∧ E = 1)) (h11 : (s.size ≤ 255 ∧ T = tb s ∧ F = 0) ∨ (255 < s.size ∧ T = ByteArray.empty ∧ F = 1)) :
    Calls Try.prog 3 #[.int .i64 z, .int .i64 n, .string s, .slice ao L.length cap] w fun r w' => r = .returned (.bool true) ∧ Below w.heap.size w w' := by
  have PA := Lib.hid pA; have PB := Lib.hid pB; have PT := Lib.hid pT; have H8 := Lib.hid h8; have H11 := Lib.hid h11; have HC := Lib.hid hc
  clear pA pB pT h8 h11 hc
  go_enter Try.func3, Try.ntmps3
  go_wp2_with fail
  refine (works_any _).mono ?_
  rintro r x1 ⟨rfl, hb1⟩
  go_wp2_with fail
  refine (PA.out _).mono ?_
  rintro r x2 ⟨rfl, hb2⟩
  have hB2 := hb1.trans (hb2.mono hb1.size)
  clear hb1 hb2
  go_wp2_with fail
  refine (PB.out _).mono ?_
  rintro r x3 ⟨rfl, hb3⟩
  have hB3 := hB2.trans (hb3.mono hB2.size)
  clear hB2 hb3
  go_upto_region 8 with (fail)
  go_cut [63] (fun s63 wx => s63 = .bool false ∧ wx = x3)
  case first =>
    rcases H8.out with ⟨h1, h2, h3⟩ | ⟨h1, h2, h3⟩
    all_goals
      subst h1 h2 h3
      clear PA PB H8
      go_wp2
      go_meet
      exact ⟨rfl, rfl⟩
  case rest =>
    obtain ⟨rfl, rfl⟩ := hcut
    clear PA PB H8
    go_wp2_with fail
    refine (PT.out _).mono ?_
    rintro r x4 ⟨rfl, hb4⟩
    have hB4 := hB3.trans (hb4.mono hB3.size)
    clear hB3 hb4
    go_upto_region 11 with (fail)
    go_cut [99] (fun s99 wx => s99 = .bool false ∧ Below w.heap.size w wx)
    case first =>
      rcases H11.out with ⟨h1, h2, h3⟩ | ⟨h1, h2, h3⟩
      · obtain ⟨c, hc⟩ : ∃ c, UInt8.ofNat s.size = c := ⟨_, rfl⟩
        have hb2 : (s.size : Int) = (c.toNat : Int) := by rw [← hc, UInt8.toNat_ofNat']; omega
        have ht : txt [c] ++ s = tb s := by rw [tb, hc]; apply bts_inj; rw [bts_append]; rfl
        have h1' : ∀ W : World, (convert 30 9 (.slice (some ⟨W.heap.size, 0, none⟩) 1 1)).run Try.prog (W.alloc (.cells #[.int .u8 (s.size : Int)] 5)) = .ok (.string (txt [c])) (W.alloc (.cells #[.int .u8 (s.size : Int)] 5)) := fun W => by
          rw [hb2]; exact one_text W c
        have hs1 : (txt [c]).size ≤ 1 := by rw [txt_size]; simp
        obtain ⟨u, hu⟩ : ∃ u, txt [c] = u := ⟨_, rfl⟩
        rw [hu] at h1' hs1 ht
        rw [← ht] at h2
        subst h2 h3
        clear ht hc hb2 hu PT H11
        go_wp2
        go_meet
        exact ⟨rfl, hB4.alloc hB4.size _⟩
      · subst h2 h3
        clear PT H11
        go_wp2
        go_meet
        exact ⟨rfl, hB4⟩
    case rest =>
      obtain ⟨rfl, hB⟩ := hcut
      clear hB4 PT H11
      go_wp2
      go_loop [16, 17] (fun v i => ∃ (j : Nat) (t : ByteArray), j ≤ L.length ∧ i = .int .i64 j ∧ v = .string t ∧ t = cat (L.take j) ∧ t.size ≤ 4096 * j ∧ ∀ x ∈ L.take j, x.size ≤ 4096) (fun _ i => L.length - (intOf i).toNat)
      case atStart => exact ⟨0, ByteArray.empty, by omega, rfl, rfl, rfl, by simp, by simp⟩
      case round =>
        obtain ⟨j, t, hj, rfl, rfl, ht, ht2, hA3⟩ := hrel
        have HA := Lib.hid ht; clear ht
        have HA3 := Lib.hid hA3; clear hA3
        by_cases hlt : j < L.length
        · obtain ⟨a, rfl, hcell⟩ := HC.out j hlt
          have hcell1 := (hB.cell (lt_of_cell hcell)).trans hcell
          clear hcell
          obtain ⟨x, hx1⟩ : ∃ x, x = L[j] := ⟨_, rfl⟩
          rw [← hx1] at hcell1
          have HX := Lib.hid hx1; clear hx1
          by_cases hbig : 4096 < x.size
          · go_wp2
            go_ret
            exact ⟨rfl, hB⟩
          · go_wp2
            go_round
            case rel =>
              refine ⟨j + 1, t ++ x, by omega, by go_num, rfl, ?_, ?_, ?_⟩
              · rw [List.take_succ_eq_append_getElem hlt, cat_snoc, HA.out, HX.out]
              · have h3 : (t ++ x).size = t.size + x.size := ByteArray.size_append
                omega
              · intro y hy
                rw [List.take_succ_eq_append_getElem hlt, List.mem_append] at hy
                rcases hy with hy | hy
                · exact HA3.out y hy
                · simp at hy; rw [hy, ← HX.out]; omega
            case measure => simp [intOf]; omega
        · have hjl : j = L.length := by omega
          have h4 : cat L = t := by rw [HA.out, hjl, List.take_length]
          have h5 : (L.flatMap bts).length ≤ 140737488355328 := by
            have : (L.flatMap bts).length = (cat L).size := by rw [cat, txt_size]
            rw [this, h4]; omega
          have H4 := Lib.hid h4; clear h4
          have HJ := Lib.hid hjl; clear hjl
          go_wp2_with fail
          refine (join_any _ L _ ⟨ao, cap, rfl, hcap, fun j h => ?_⟩ h5 (by omega)).mono ?_
          · obtain ⟨a, e, hcell⟩ := HC.out j h
            exact ⟨a, e, (hB.cell (lt_of_cell hcell)).trans hcell⟩
          rintro r x5 ⟨rfl, hb5⟩
          have hB5 := hB.trans (hb5.mono hB.size)
          rw [H4.out]
          clear hb5 h5
          go_wp2
          go_ret
          exact ⟨rfl, hB5⟩
set_option maxRecDepth 100000 in
theorem writes_early (z n : Int) (s : ByteArray) (ao : Option Addr) (len cap : Nat) (w : World) (h : 4096 < s.size ∨ (s.size ≤ 4096 ∧ 50 < len)) :
    Calls Try.prog 3 #[.int .i64 z, .int .i64 n, .string s, .slice ao len cap] w fun r w' => r = .returned (.bool true) ∧ Below w.heap.size w w' := by
  rcases h with h | ⟨h, h'⟩
  all_goals
    go_enter Try.func3, Try.ntmps3
    go_wp2_with fail
    refine (works_any _).mono ?_
    rintro r x1 ⟨rfl, hb1⟩
    go_wp2
    go_ret
    exact ⟨rfl, hb1⟩
theorem writes_any (z n : Int) (s : ByteArray) (v : Value) (L : List ByteArray) (w : World) (hn : -9223372036854775808 ≤ n ∧ n ≤ 9223372036854775807) (hv : Strs w v L) :
    Calls Try.prog 3 #[.int .i64 z, .int .i64 n, .string s, v] w fun r w' => r = .returned (.bool true) ∧ Below w.heap.size w w' := by
  obtain ⟨ao, cap, rfl, hcap, hc⟩ := hv
  by_cases h1 : 4096 < s.size
  · exact writes_early z n s ao _ cap w (.inl h1)
  by_cases h2 : 50 < L.length
  · exact writes_early z n s ao _ cap w (.inr ⟨by omega, h2⟩)
  have hT : ∃ T F, (∀ W, Calls Try.prog 21 #[.string s] W fun r w' => r = .returned (.tuple #[.string T, .int .i64 F]) ∧ Below W.heap.size W w') ∧ ((s.size ≤ 255 ∧ T = tb s ∧ F = 0) ∨ (255 < s.size ∧ T = ByteArray.empty ∧ F = 1)) := by
    by_cases h3 : s.size ≤ 255
    · exact ⟨_, _, fun W => text_ok s W h3, .inl ⟨h3, rfl, rfl⟩⟩
    · exact ⟨_, _, fun W => text_bad s W (by omega), .inr ⟨by omega, rfl, rfl⟩⟩
  obtain ⟨T, F, pT, h11⟩ := hT
  by_cases hp : pok z n
  · obtain ⟨Z, N, rfl, rfl, hz, hN⟩ := pok_nat hp
    have hB := fun W => refput_yes Z N W hz (by omega)
    have hq : (((N / 256 ^ Z : Nat) : Int) == 0) = true := by rw [Nat.div_eq_of_lt hN]; rfl
    rw [hq] at hB
    exact writes_core Z N s ao cap L w _ _ T 0 F true (by omega) (by omega) hcap hc (fun W => put_ok Z N W hz hN) hB pT (.inl ⟨rfl, rfl, rfl⟩) h11
  · have hA := fun W => put_bad z n W hp hn.1 hn.2
    by_cases hz : szd z ∧ 0 ≤ n
    · obtain ⟨hz, h0⟩ := hz
      obtain ⟨N, rfl⟩ := Int.eq_ofNat_of_zero_le h0
      obtain ⟨Z, rfl⟩ := Int.eq_ofNat_of_zero_le (show 0 ≤ z by unfold szd at hz; omega)
      have hB := fun W => refput_yes Z N W hz (by omega)
      have hq : (((N / 256 ^ Z : Nat) : Int) == 0) = false := by
        rw [beq_eq_false_iff_ne]; intro e
        apply hp
        refine ⟨hz, h0, ?_⟩
        rw [Int.toNat_natCast, div8]; exact e
      rw [hq] at hB
      exact writes_core Z N s ao cap L w _ _ T 1 F false (by omega) (by omega) hcap hc hA hB pT (.inr ⟨rfl, rfl, rfl⟩) h11
    · have hB := fun W => refput_no z n W (by by_cases h : szd z; exact .inr (by have : ¬ 0 ≤ n := fun h0 => hz ⟨h, h0⟩; omega); exact .inl h)
      exact writes_core z n s ao cap L w _ _ T 1 F false (by omega) (by omega) hcap hc hA hB pT (.inr ⟨rfl, rfl, rfl⟩) h11
end Go.Proofs.Ytifdglehfhoecaa.C

/-
  The document's bytes of a right list. Conditions: below 2^30 entries.
-/
namespace Go.Proofs.Ytifdglehfhoecaa.E
open Go.RowKit B
theorem conv_cell {W : World} (g : Nat) (b : UInt8) (h : W.cell? ⟨g, 0, none⟩ = some (.int .u8 (b.toNat : Int))) : (convert 30 9 (.slice (some ⟨g, 0, none⟩) 1 1)).run Try.prog W = .ok (.string (txt [b])) W :=
  C.conv_text (w := W) ⟨g, 0, none⟩ 1 [b] (fun j hj => by
    obtain rfl : j = 0 := by simp at hj; omega
    rw [add_lit]; exact h)
set_option maxRecDepth 100000 in
set_option maxHeartbeats 4000000 in
theorem rencode_any (v : Value) (l : List Ent) (w : World) (hv : Ents w v l) (hlen : l.length ≤ 1000000000) (ho : M.Ok l) :
    Calls Try.prog 48 #[v] w fun r w' => r = .returned (.string (txt (M.enc l))) ∧ Below w.heap.size w w' := by
  have hop := hv.open
  have HV := Lib.hid hv; clear hv
  obtain ⟨ao, cap, rfl, _, _, hc⟩ := hop
  have HC := Lib.hid hc; clear hc
  have HO := Lib.hid ho
  clear ho
  go_enter Try.func48, Try.ntmps48
  go_wp2
  go_loopw [3, 4] (fun n i wr => ∃ k : Nat, k ≤ l.length ∧ i = .int .i64 k ∧ n = .string (txt (M.enc (l.take k))) ∧ M.sz (l.take k) ≤ k * 512 ∧ Below w.heap.size w wr) (fun _ i _ => l.length - (intOf i).toNat)
  case atStart => exact ⟨0, Nat.zero_le _, rfl, rfl, Nat.le_refl _, Below.refl _ _⟩
  case round =>
    obtain ⟨k, hk, rfl, rfl, hsz, hb⟩ := hrel
    by_cases hlt : k < l.length
    · obtain ⟨b, o, rfl, hk0, hv0⟩ := HC.out k hlt
      have c0 := (hb.cell (lt_of_cell hk0)).trans hk0
      have c1 := (hb.cell (lt_of_cell hv0)).trans hv0
      have hm := HO.out.1 l[k] (List.getElem_mem hlt)
      have hm1 : l[k].1.size ≤ 255 := by unfold M.may at hm; omega
      have hm2 : l[k].2.size ≤ 255 := by unfold M.may at hm; omega
      have HS := Lib.hid (enc_snoc l k hlt)
      obtain ⟨p, hp⟩ : ∃ p, txt (M.enc (l.take k)) = p := ⟨_, rfl⟩
      have HP := Lib.hid hp
      have hps : p.size = M.sz (l.take k) := by rw [← hp, txt_size, M.enc_len]
      have hsn := M.sz_snoc l k hlt
      have hnz : M.sz (l.take (k + 1)) ≤ (k + 1) * 512 := by omega
      have hps2 : p.size ≤ 1000000000 * 512 := by omega
      have HNZ := Lib.hid hnz
      rw [hp]
      clear hps hsn hnz hsz
      clear hp hk0 hv0 hm
      obtain ⟨x, hx⟩ : ∃ x, l[k].1 = x := ⟨_, rfl⟩
      obtain ⟨y, hy⟩ : ∃ y, l[k].2 = y := ⟨_, rfl⟩
      rw [hx] at c0 hm1
      rw [hy] at c1 hm2
      rw [hx, hy] at HS
      obtain ⟨c, hc⟩ : ∃ c, UInt8.ofNat x.size = c := ⟨_, rfl⟩
      obtain ⟨d, hd⟩ : ∃ d, UInt8.ofNat y.size = d := ⟨_, rfl⟩
      have hcz : (x.size : Int) = (c.toNat : Int) := by rw [← hc, UInt8.toNat_ofNat']; omega
      have hdz : (y.size : Int) = (d.toNat : Int) := by rw [← hd, UInt8.toNat_ofNat']; omega
      have HT := Lib.hid (show p ++ txt [c] ++ x ++ txt [d] ++ y = txt (M.enc (l.take (k + 1))) by
        rw [HS.out, HP.out]
        apply bts_inj
        simp only [bts_append, bts_txt, C.tb, hc, hd, List.append_assoc, List.cons_append, List.nil_append])
      have htc1 : (txt [c]).size ≤ 1 := by rw [txt_size]; simp
      have htd1 : (txt [d]).size ≤ 1 := by rw [txt_size]; simp
      obtain ⟨tc, htc⟩ : ∃ z, txt [c] = z := ⟨_, rfl⟩
      obtain ⟨td, htd⟩ : ∃ z, txt [d] = z := ⟨_, rfl⟩
      rw [htc, htd] at HT
      rw [htc] at htc1
      rw [htd] at htd1
      have mk : ∀ (W : World) (O : Obj), (W.alloc O).heap.size = W.heap.size + 1 := fun W O => by simp
      have at1 : ∀ (W : World) (q : Nat) (v : Value), W.heap.size = q → (W.alloc (.cells #[v] 5)).cell? ⟨q, 0, none⟩ = some v := fun W q v h => by subst h; rw [World.cell?_alloc_mark]; rfl
      have at2 : ∀ (W : World) (q : Nat) (v u : Value), W.heap.size = q → ((W.alloc (.cells #[v] 5)).alloc (.cells #[u] 5)).cell? ⟨q, 0, none⟩ = some v := fun W q v u h => (World.cell?_alloc_lt _ _ _ (by rw [mk]; show q < _; omega)).trans (at1 W q v h)
      have f1 : (convert 30 9 (.slice (some ⟨wr.heap.size, 0, none⟩) 1 1)).run Try.prog ((wr.alloc (.cells #[.int .u8 (x.size : Int)] 5)).drew) = .ok (.string tc) ((wr.alloc (.cells #[.int .u8 (x.size : Int)] 5)).drew) := by rw [← htc]; exact conv_cell _ c (by rw [← hcz]; exact at1 _ _ _ rfl)
      have f2 : (convert 30 9 (.slice (some ⟨wr.heap.size, 0, none⟩) 1 1)).run Try.prog (((wr.alloc (.cells #[.int .u8 (x.size : Int)] 5)).alloc (.cells #[.int .u8 (y.size : Int)] 5)).drew) = .ok (.string tc) (((wr.alloc (.cells #[.int .u8 (x.size : Int)] 5)).alloc (.cells #[.int .u8 (y.size : Int)] 5)).drew) := by rw [← htc]; exact conv_cell _ c (by rw [← hcz]; exact at2 _ _ _ _ rfl)
      have f3 : (convert 30 9 (.slice (some ⟨wr.heap.size + 1, 0, none⟩) 1 1)).run Try.prog (((wr.alloc (.cells #[.int .u8 (x.size : Int)] 5)).alloc (.cells #[.int .u8 (y.size : Int)] 5)).drew) = .ok (.string td) (((wr.alloc (.cells #[.int .u8 (x.size : Int)] 5)).alloc (.cells #[.int .u8 (y.size : Int)] 5)).drew) := by rw [← htd]; exact conv_cell _ d (by rw [← hdz]; exact at1 _ _ _ (mk _ _))
      have g1 : (convert 30 9 (.slice (some ⟨wr.heap.size, 0, none⟩) 1 1)).run Try.prog ((wr.alloc (.cells #[.int .u8 (y.size : Int)] 5)).drew) = .ok (.string td) ((wr.alloc (.cells #[.int .u8 (y.size : Int)] 5)).drew) := by rw [← htd]; exact conv_cell _ d (by rw [← hdz]; exact at1 _ _ _ rfl)
      have g2 : (convert 30 9 (.slice (some ⟨wr.heap.size, 0, none⟩) 1 1)).run Try.prog (((wr.alloc (.cells #[.int .u8 (y.size : Int)] 5)).alloc (.cells #[.int .u8 (x.size : Int)] 5)).drew) = .ok (.string td) (((wr.alloc (.cells #[.int .u8 (y.size : Int)] 5)).alloc (.cells #[.int .u8 (x.size : Int)] 5)).drew) := by rw [← htd]; exact conv_cell _ d (by rw [← hdz]; exact at2 _ _ _ _ rfl)
      have g3 : (convert 30 9 (.slice (some ⟨wr.heap.size + 1, 0, none⟩) 1 1)).run Try.prog (((wr.alloc (.cells #[.int .u8 (y.size : Int)] 5)).alloc (.cells #[.int .u8 (x.size : Int)] 5)).drew) = .ok (.string tc) (((wr.alloc (.cells #[.int .u8 (y.size : Int)] 5)).alloc (.cells #[.int .u8 (x.size : Int)] 5)).drew) := by rw [← htc]; exact conv_cell _ c (by rw [← hcz]; exact at1 _ _ _ (mk _ _))
      have q1 : IntKind.u8.wrap (x.size : Int) = (x.size : Int) := by rw [IntKind.wrap_u8]; omega
      have q2 : IntKind.u8.wrap (y.size : Int) = (y.size : Int) := by rw [IntKind.wrap_u8]; omega
      clear hx hy hc hd hcz hdz htc htd mk at1 at2
      have z1 : ¬ 9223372036854775807 < p.size + tc.size := by omega
      have z2 : ¬ 9223372036854775807 < p.size + tc.size + x.size := by omega
      have z3 : ¬ 9223372036854775807 < p.size + tc.size + x.size + td.size := by omega
      have z4 : ¬ 9223372036854775807 < p.size + tc.size + x.size + td.size + y.size := by omega
      have hkz : (0 : Int) ≤ (k : Int) := Int.natCast_nonneg _
      have hkl : (k : Int) < (l.length : Int) := by omega
      go_upto_region 5 with (fail)
      have hbA : Below wr.heap.size wr (wr.alloc (.cells #[.int .u8 (x.size : Int)] 5)) := (Below.refl _ wr).alloc (Nat.le_refl _) _
      have hbB : Below wr.heap.size wr (wr.alloc (.cells #[.int .u8 (y.size : Int)] 5)) := (Below.refl _ wr).alloc (Nat.le_refl _) _
      have hbAB : Below wr.heap.size wr ((wr.alloc (.cells #[.int .u8 (x.size : Int)] 5)).alloc (.cells #[.int .u8 (y.size : Int)] 5)) := hbA.alloc hbA.size _
      have hbBA : Below wr.heap.size wr ((wr.alloc (.cells #[.int .u8 (y.size : Int)] 5)).alloc (.cells #[.int .u8 (x.size : Int)] 5)) := hbB.alloc hbB.size _
      have cA0 := bcell hbA c0; have cA1 := bcell hbA c1
      have cB0 := bcell hbB c0; have cB1 := bcell hbB c1
      have cC0 := bcell hbAB c0; have cC1 := bcell hbAB c1
      have cD0 := bcell hbBA c0; have cD1 := bcell hbBA c1
      clear hbA hbB hbAB hbBA
      go_region
      all_goals (
        go_wp2
        go_roundw
        case rel => exact ⟨k + 1, by omega, by go_num, by rw [HT.out], HNZ.out, ((hb.alloc hb.size _).alloc (hb.alloc hb.size _).size _).drew⟩
        case measure => simp [intOf]; omega)
    · have hkk : k = l.length := by omega
      have HK := Lib.hid hkk; clear hkk
      go_wp2
      go_ret
      exact ⟨by rw [HK.out, List.take_length]; rfl, hb⟩
end Go.Proofs.Ytifdglehfhoecaa.E

/-
  A node's body, with its kind; the document's body. Conditions: bounds that every node here keeps.
-/
namespace Go.Proofs.Ytifdglehfhoecaa.N
open Go.RowKit B E
theorem szd4 : C.szd ((4 : Nat) : Int) := .inr (.inr rfl)
theorem put4 (k : Int) (hk : M.f4 k) (w : World) : Calls Try.prog 19 #[.int .i64 4, .int .i64 k] w fun r w' => r = .returned (.tuple #[.string (txt (M.p4 k)), .int .i64 0]) ∧ Below w.heap.size w w' := by
  obtain ⟨h0, h1⟩ := hk
  obtain ⟨m, rfl⟩ := Int.eq_ofNat_of_zero_le h0
  have := C.put_ok 4 m w szd4 (by omega)
  exact this
theorem refput4 (k : Int) (hk : M.f4 k) (w : World) : Calls Try.prog 20 #[.int .i64 4, .int .i64 k] w fun r w' => ∃ z, r = .returned (.tuple #[.string (txt (M.p4 k)), .bool z]) ∧ Below w.heap.size w w' := by
  obtain ⟨h0, h1⟩ := hk
  obtain ⟨m, rfl⟩ := Int.eq_ofNat_of_zero_le h0
  refine (C.refput_yes 4 m w szd4 (by omega)).mono ?_
  rintro r w' ⟨rfl, hb⟩
  exact ⟨_, rfl, hb⟩
/-- what is told of a node's bytes -/
def EncR (n : M.Nd) (K : Int) (T : ByteArray) (e : Int) : Prop := (¬ M.NOk n ∧ K = 0 ∧ T = ByteArray.empty ∧ e = 1) ∨ (M.NOk n ∧ 240 < M.nsz n ∧ K = 0 ∧ T = ByteArray.empty ∧ e = 50) ∨ (M.NOk n ∧ M.nsz n ≤ 240 ∧ K = M.kindN n ∧ T = txt (M.bodyN n) ∧ e = 0)
def NEnc (n : M.Nd) (w : World) (r : Ending) (w' : World) : Prop := ∃ K T e, r = .returned (.tuple #[.int .u8 K, .string T, .int .i64 e]) ∧ EncR n K T e ∧ Below w.heap.size w w'
/-- the first so many bytes of a body -/
def pre (kk : Int) (ss : List ByteArray) (kt : List Int) (i : Nat) : List UInt8 := M.p4 kk ++ M.encP ((ss.zip kt).take i)
theorem pre_snoc (kk : Int) (ss : List ByteArray) (kt : List Int) (i : Nat) (h1 : i < ss.length) (h2 : i < kt.length) : txt (pre kk ss kt (i + 1)) = txt (pre kk ss kt i) ++ (C.tb ss[i] ++ txt (M.p4 kt[i])) := by
  have hz : i < (ss.zip kt).length := by rw [List.length_zip]; omega
  unfold pre
  rw [List.take_succ_eq_append_getElem hz, M.encP_append, List.getElem_zip, C.tb, txt_append, txt_append]
  congr 1
  simp [M.encP, M.tbl]
theorem pre_len (kk : Int) (ss : List ByteArray) (kt : List Int) (h : ∀ s ∈ ss, s.size ≤ 16) : ∀ i, i ≤ ss.length → i ≤ kt.length → (txt (pre kk ss kt i)).size ≤ 4 + i * 300 := by
  intro i
  induction i with
  | zero => intro _ _; rw [txt_size]; simp [pre, M.encP, M.p4_len]
  | succ i ih =>
    intro h1 h2
    have := ih (by omega) (by omega)
    have h3 := h ss[i] (List.getElem_mem (by omega))
    rw [pre_snoc kk ss kt i (by omega) (by omega), ByteArray.size_append, ByteArray.size_append, C.tb_size, txt_size (M.p4 _), M.p4_len]
    omega
theorem pre_all {es : List Ent} {ks : List Int} {ss : List ByteArray} {kk : Int} {kt : List Int} (hk : ks = kk :: kt) (hl : ss.length = kt.length) : pre kk ss kt ss.length = M.bodyN ⟨false, es, ks, ss⟩ := by
  subst hk
  unfold pre M.bodyN
  rw [List.take_of_length_le (by rw [List.length_zip]; omega)]
  rfl
theorem inner_parts {es : List Ent} {ks : List Int} {ss : List ByteArray} (h : M.NOk ⟨false, es, ks, ss⟩) : ∃ kk kt, ks = kk :: kt ∧ ss.length = kt.length ∧ M.f4 kk ∧ (∀ k ∈ kt, M.f4 k) ∧ ∀ s ∈ ss, s.size ≤ 16 := by
  obtain ⟨h1, h2, h3, h4⟩ := nok_inner.1 h
  have hf : ∀ k, M.okk k → M.f4 k := fun k h => by unfold M.okk at h; unfold M.f4; omega
  rcases ks with _ | ⟨kk, kt⟩
  · simp at h2
  · exact ⟨kk, kt, rfl, by simpa using h2, hf _ (h3 kk (by simp)), fun k hk => hf _ (h3 k (by simp [hk])), fun s hs => (M.oks_mem h4 s hs).2⟩
set_option maxRecDepth 100000 in
set_option maxHeartbeats 4000000 in
theorem nencode_any (v : Value) (n : M.Nd) (w : World) (hv : NdV w v n) (hbd : Bd n) : Calls Try.prog 65 #[v] w (NEnc n w) := by
  have HBD := Lib.hid hbd
  have HV := Lib.hid hv
  obtain ⟨d1, d2, d3, d4, d5⟩ := hbd
  obtain ⟨l, es, ks, ss⟩ := n
  obtain ⟨e0, ec, k0, kc, s0, sc, rfl, he, hk, hs⟩ := hv
  dsimp only at he hk hs d1 d2 d3 d4 d5 HV HBD ⊢
  have HE := Lib.hid he; have HK := Lib.hid hk; have HS := Lib.hid hs
  clear he hk hs
  go_enter Try.func65, Try.ntmps65
  go_upto_region 1 with (fail)
  obtain ⟨w1, hw1⟩ : ∃ W, w.alloc (.cells #[.bool l, .slice e0 es.length ec, .slice k0 ks.length kc, .slice s0 ss.length sc] 69) = W := ⟨_, rfl⟩
  have hx : Bx w1 w.heap.size l (.slice e0 es.length ec) (.slice k0 ks.length kc) (.slice s0 ss.length sc) := by rw [← hw1]; exact Bx.new _ _ _ _ _ _
  have hb1 : Below w.heap.size w w1 := by rw [← hw1]; exact (Below.refl _ w).alloc (Nat.le_refl _) _
  rw [hw1]
  clear hw1
  obtain ⟨x0, x1, x2, x3⟩ := hx
  have HRT := Lib.hid (nright_any _ _ w1 (HV.out.below hb1) HBD.out)
  by_cases ho : M.NOk ⟨l, es, ks, ss⟩
  case neg =>
    rw [decide_eq_false ho] at HRT
    have HR := Lib.hid (show EncR ⟨l, es, ks, ss⟩ 0 ByteArray.empty 1 from .inl ⟨ho, rfl, rfl, rfl⟩)
    clear ho
    go_wp2_with fail
    refine HRT.out.mono ?_
    rintro r w2 ⟨rfl, hb2⟩
    have hb2 := hb1.trans (hb2.mono hb1.size)
    clear x0 x1 x2 x3
    go_wp2
    go_ret3
    exact ⟨0, ByteArray.empty, 1, rfl, HR.out, hb2⟩
  rw [decide_eq_true ho] at HRT
  have HO := Lib.hid ho
  clear ho
  go_wp2_with fail
  refine HRT.out.mono ?_
  rintro r w2 ⟨rfl, hb2⟩
  have x0 := bcell hb2 x0; have x1 := bcell hb2 x1; have x2 := bcell hb2 x2; have x3 := bcell hb2 x3
  have hb2 := hb1.trans (hb2.mono hb1.size)
  clear hb1 HRT
  have HFT := Lib.hid (fits_any _ _ w2 (HV.out.below hb2) HBD.out)
  by_cases hf : M.nsz ⟨l, es, ks, ss⟩ ≤ 240
  case neg =>
    rw [decide_eq_false (show ¬ fitsN _ from fun h => hf h.2)] at HFT
    have HR := Lib.hid (show EncR ⟨l, es, ks, ss⟩ 0 ByteArray.empty 50 from .inr (.inl ⟨HO.out, by omega, rfl, rfl, rfl⟩))
    clear hf
    go_wp2_with fail
    refine HFT.out.mono ?_
    rintro r w3 ⟨rfl, hb3⟩
    have hb3 := hb2.trans (hb3.mono hb2.size)
    clear x0 x1 x2 x3
    go_wp2
    go_ret3
    exact ⟨0, ByteArray.empty, 50, rfl, HR.out, hb3⟩
  rw [decide_eq_true (show fitsN _ from ⟨HO.out, hf⟩)] at HFT
  have HR := Lib.hid (show ∀ T, T = txt (M.bodyN ⟨l, es, ks, ss⟩) → EncR ⟨l, es, ks, ss⟩ (M.kindN ⟨l, es, ks, ss⟩) T 0 from fun T h => .inr (.inr ⟨HO.out, hf, rfl, h, rfl⟩))
  clear hf
  go_wp2_with fail
  refine HFT.out.mono ?_
  rintro r w3 ⟨rfl, hb3⟩
  have x0 := bcell hb3 x0; have x1 := bcell hb3 x1; have x2 := bcell hb3 x2; have x3 := bcell hb3 x3
  have hb3 := hb2.trans (hb3.mono hb2.size)
  clear hb2 HFT
  rcases l with _ | _
  case true =>
    have hoe := (nok_leaf.1 HO.out).1
    have HTX := Lib.hid (show encl es = txt (M.enc es) by unfold encl; rw [if_pos hoe])
    have HOE := Lib.hid hoe
    clear hoe
    go_wp2_with fail
    refine (encode_any _ es _ (HE.out.below hb3) (by omega)).mono ?_
    rintro r w4 ⟨rfl, hb4⟩
    rw [if_pos HOE.out, HTX.out]
    have hb4 := hb3.trans (hb4.mono hb3.size)
    clear x0 x1 x2 x3
    go_wp2
    go_ret3
    exact ⟨1, _, 0, rfl, HR.out _ rfl, hb4⟩
  obtain ⟨kk, kt, hks, hlen, hkk, hkt, hsz⟩ := inner_parts HO.out
  have HKS := Lib.hid hks; have HLEN := Lib.hid hlen; have HKT := Lib.hid hkt; have HSZ := Lib.hid hsz
  have hk1 : ks.length = ss.length + 1 := by rw [hks, hlen]; rfl
  have HK1 := Lib.hid hk1
  have hk2 : (0 : Int) < (ks.length : Int) := by omega
  have hk3 : 0 < ks.length := by omega
  clear hks hlen hkt hsz
  have HCK := Lib.hid (HK.out.below hb3).at.2.2.2
  have HCS := Lib.hid (HS.out.below hb3).at.2.2.2
  obtain ⟨b, o, rfl, c0⟩ := HCK.out 0 hk3
  have hk00 : ks[0] = kk := by simp only [HKS.out]; rfl
  rw [hk00, Nat.add_zero] at c0
  clear hk00 hk1
  go_wp2_with fail
  refine (put4 kk hkk _).mono ?_
  rintro r w4 ⟨rfl, hb4⟩
  have x0 := bcell hb4 x0; have x1 := bcell hb4 x1; have x2 := bcell hb4 x2; have x3 := bcell hb4 x3
  have HCK := Lib.hid (HK.out.below (hb3.trans (hb4.mono hb3.size))).at.2.2.2
  have HCS := Lib.hid (HS.out.below (hb3.trans (hb4.mono hb3.size))).at.2.2.2
  have hb4 := hb3.trans (hb4.mono hb3.size)
  clear hb3 c0 hkk
  go_wp2
  go_loopw [7, 45] (fun t i wr => ∃ k : Nat, k ≤ ss.length ∧ i = .int .i64 k ∧ t = .string (txt (pre kk ss kt k)) ∧ Below w4.heap.size w4 wr) (fun _ i _ => ss.length - (intOf i).toNat)
  case atStart => exact ⟨0, Nat.zero_le _, rfl, by simp [pre, M.encP], Below.refl _ _⟩
  case round =>
    obtain ⟨k, hkl, rfl, rfl, hbr⟩ := hrel
    have x2 := bcell hbr x2
    have hbW := hb4.trans (hbr.mono hb4.size)
    by_cases hlt : k < ss.length
    · obtain ⟨b1, o1, rfl, c1⟩ := HCS.out k hlt
      have c1 := bcell hbr c1
      have hkk1 : k + 1 < ks.length := by rw [HK1.out]; omega
      have hkt1 : k < kt.length := by rw [← HLEN.out]; exact hlt
      obtain ⟨b2, o2, e2, c2⟩ := HCK.out (k + 1) hkk1
      obtain ⟨rfl, rfl⟩ : b = b2 ∧ o = o2 := by injection e2 with e2; injection e2 with a1 a2 a3; exact ⟨a1, a2⟩
      have c2 := bcell hbr c2
      have hkx : ks[k + 1] = kt[k] := by simp only [HKS.out]; rfl
      have hf4 := HKT.out kt[k] (List.getElem_mem hkt1)
      have hs16 := HSZ.out ss[k] (List.getElem_mem hlt)
      have hp2 := pre_len kk ss kt HSZ.out k hkl (by omega)
      have HSN := Lib.hid (pre_snoc kk ss kt k hlt hkt1)
      rw [hkx] at c2
      obtain ⟨q, hq⟩ : ∃ x, kt[k] = x := ⟨_, rfl⟩
      obtain ⟨s, hs⟩ : ∃ x, ss[k] = x := ⟨_, rfl⟩
      obtain ⟨p, hp⟩ : ∃ x, txt (pre kk ss kt k) = x := ⟨_, rfl⟩
      rw [hq] at c2 hf4 HSN
      rw [hs] at c1 hs16 HSN
      rw [hp] at hp2 HSN ⊢
      have t1 : (C.tb s).size ≤ 17 := by rw [C.tb_size]; omega
      have t2 : (txt (M.p4 q)).size = 4 := by rw [txt_size, M.p4_len]
      have hp3 : p.size ≤ 4000000 := by omega
      have hkc : (k : Int) + 1 < (ks.length : Int) := by omega
      clear hp2 hkx hq hs hp e2
      go_wp2_with fail
      refine (C.text_ok s _ (by omega)).mono ?_
      rintro r w5 ⟨rfl, hb5⟩
      have x2 := bcell hb5 x2; have c2 := bcell hb5 c2
      have hb5 := hbr.trans (hb5.mono hbr.size)
      clear c1 hbr
      go_wp2_with fail
      refine (put4 q hf4 _).mono ?_
      rintro r w6 ⟨rfl, hb6⟩
      have hb6 := hb5.trans (hb6.mono hb5.size)
      clear c2 hb5 x2 hf4
      go_wp2
      go_roundw
      case rel => exact ⟨k + 1, by omega, by go_num, by rw [HSN.out], hb6⟩
      case measure => simp [intOf]; omega
    · have HKL := Lib.hid (show k = ss.length by omega)
      have HPA := Lib.hid (pre_all (es := es) HKS.out HLEN.out)
      go_wp2
      go_ret3
      exact ⟨2, _, 0, rfl, HR.out _ (by rw [← HPA.out, HKL.out]), hbW⟩
set_option maxRecDepth 100000 in
set_option maxHeartbeats 4000000 in
theorem body_any (v : Value) (n : M.Nd) (w : World) (hv : NdV w v n) (hbd : Bd n) (ho : M.NOk n) : Calls Try.prog 66 #[v] w fun r w' => r = .returned (.string (txt (M.bodyN n))) ∧ Below w.heap.size w w' := by
  obtain ⟨d1, d2, d3, d4, d5⟩ := hbd
  obtain ⟨l, es, ks, ss⟩ := n
  obtain ⟨e0, ec, k0, kc, s0, sc, rfl, he, hk, hs⟩ := hv
  dsimp only at he hk hs d1 d2 d3 d4 d5 ⊢
  have HE := Lib.hid he; have HK := Lib.hid hk; have HS := Lib.hid hs
  clear he hk hs
  have HO := Lib.hid ho
  clear ho
  rcases l with _ | _
  case true =>
    have hoe := (nok_leaf.1 HO.out).1
    go_enter Try.func66, Try.ntmps66
    go_upto_region 1 with (fail)
    obtain ⟨w1, hw1⟩ : ∃ W, w.alloc (.cells #[.bool true, .slice e0 es.length ec, .slice k0 ks.length kc, .slice s0 ss.length sc] 73) = W := ⟨_, rfl⟩
    have hx : Bx w1 w.heap.size true (.slice e0 es.length ec) (.slice k0 ks.length kc) (.slice s0 ss.length sc) := by rw [← hw1]; exact Bx.new _ _ _ _ _ _
    have hb1 : Below w.heap.size w w1 := by rw [← hw1]; exact (Below.refl _ w).alloc (Nat.le_refl _) _
    rw [hw1]
    clear hw1
    obtain ⟨x0, x1, x2, x3⟩ := hx
    have HRE := Lib.hid (rencode_any _ es w1 (HE.out.below hb1) (by omega) hoe)
    clear hoe
    go_wp2_with fail
    refine HRE.out.mono ?_
    rintro r w2 ⟨rfl, hb2⟩
    have hb2 := hb1.trans (hb2.mono hb1.size)
    clear x0 x1 x2 x3
    go_wp2
    go_ret
    exact ⟨rfl, hb2⟩
  obtain ⟨kk, kt, hks, hlen, hkk, hkt, hsz⟩ := inner_parts HO.out
  have HKS := Lib.hid hks; have HLEN := Lib.hid hlen; have HKT := Lib.hid hkt; have HSZ := Lib.hid hsz
  have hk1 : ks.length = ss.length + 1 := by rw [hks, hlen]; rfl
  have HK1 := Lib.hid hk1
  have hk2 : (0 : Int) < (ks.length : Int) := by omega
  have hk3 : 0 < ks.length := by omega
  clear hks hlen hkt hsz hk1
  go_enter Try.func66, Try.ntmps66
  go_upto_region 1 with (fail)
  obtain ⟨w1, hw1⟩ : ∃ W, w.alloc (.cells #[.bool false, .slice e0 es.length ec, .slice k0 ks.length kc, .slice s0 ss.length sc] 73) = W := ⟨_, rfl⟩
  have hx : Bx w1 w.heap.size false (.slice e0 es.length ec) (.slice k0 ks.length kc) (.slice s0 ss.length sc) := by rw [← hw1]; exact Bx.new _ _ _ _ _ _
  have hb1 : Below w.heap.size w w1 := by rw [← hw1]; exact (Below.refl _ w).alloc (Nat.le_refl _) _
  rw [hw1]
  clear hw1
  obtain ⟨x0, x1, x2, x3⟩ := hx
  have HCK := Lib.hid (HK.out.below hb1).at.2.2.2
  obtain ⟨b, o, rfl, c0⟩ := HCK.out 0 hk3
  have hk00 : ks[0] = kk := by simp only [HKS.out]; rfl
  rw [hk00, Nat.add_zero] at c0
  clear hk00
  go_wp2_with fail
  refine (refput4 kk hkk _).mono ?_
  rintro r w4 ⟨z, rfl, hb4⟩
  have x0 := bcell hb4 x0; have x1 := bcell hb4 x1; have x2 := bcell hb4 x2; have x3 := bcell hb4 x3
  have HCK := Lib.hid (HK.out.below (hb1.trans (hb4.mono hb1.size))).at.2.2.2
  have HCS := Lib.hid (HS.out.below (hb1.trans (hb4.mono hb1.size))).at.2.2.2
  have hb4 := hb1.trans (hb4.mono hb1.size)
  clear hb1 c0 hkk
  go_wp2
  go_loopw [3, 5] (fun t i wr => ∃ k : Nat, k ≤ ss.length ∧ i = .int .i64 k ∧ t = .string (txt (pre kk ss kt k)) ∧ Below w4.heap.size w4 wr) (fun _ i _ => ss.length - (intOf i).toNat)
  case atStart => exact ⟨0, Nat.zero_le _, rfl, by simp [pre, M.encP], Below.refl _ _⟩
  case round =>
    obtain ⟨k, hkl, rfl, rfl, hbr⟩ := hrel
    have x2 := bcell hbr x2; have x3 := bcell hbr x3
    have hbW := hb4.trans (hbr.mono hb4.size)
    by_cases hlt : k < ss.length
    · obtain ⟨b1, o1, rfl, c1⟩ := HCS.out k hlt
      have c1 := bcell hbr c1
      have hkk1 : k + 1 < ks.length := by rw [HK1.out]; omega
      have hkt1 : k < kt.length := by rw [← HLEN.out]; exact hlt
      obtain ⟨b2, o2, e2, c2⟩ := HCK.out (k + 1) hkk1
      obtain ⟨rfl, rfl⟩ : b = b2 ∧ o = o2 := by injection e2 with e2; injection e2 with a1 a2 a3; exact ⟨a1, a2⟩
      have c2 := bcell hbr c2
      have hkx : ks[k + 1] = kt[k] := by simp only [HKS.out]; rfl
      have hf4 := HKT.out kt[k] (List.getElem_mem hkt1)
      have hs16 := HSZ.out ss[k] (List.getElem_mem hlt)
      have hp2 := pre_len kk ss kt HSZ.out k hkl (by omega)
      have hsn := pre_snoc kk ss kt k hlt hkt1
      rw [hkx] at c2
      obtain ⟨q, hq⟩ : ∃ x, kt[k] = x := ⟨_, rfl⟩
      obtain ⟨s, hs⟩ : ∃ x, ss[k] = x := ⟨_, rfl⟩
      obtain ⟨p, hp⟩ : ∃ x, txt (pre kk ss kt k) = x := ⟨_, rfl⟩
      rw [hq] at c2 hf4 hsn
      rw [hs] at c1 hs16 hsn
      rw [hp] at hp2 hsn ⊢
      have t2 : (txt (M.p4 q)).size = 4 := by rw [txt_size, M.p4_len]
      have hp3 : p.size ≤ 4000000 := by omega
      have hkc : (k : Int) + 1 < (ks.length : Int) := by omega
      have hkz : (0 : Int) ≤ (k : Int) := Int.natCast_nonneg _
      have hks : (k : Int) < (ss.length : Int) := by omega
      clear hp2 hkx hq hs hp e2
      go_wp2_with fail
      refine (refput4 q hf4 _).mono ?_
      rintro r w5 ⟨z5, rfl, hb5⟩
      have x3 := bcell hb5 x3; have c1 := bcell hb5 c1
      have hb5 := hbr.trans (hb5.mono hbr.size)
      obtain ⟨y, hy⟩ : ∃ x, txt (M.p4 q) = x := ⟨_, rfl⟩
      rw [hy] at t2 hsn ⊢
      obtain ⟨c, hc⟩ : ∃ c, UInt8.ofNat s.size = c := ⟨_, rfl⟩
      have hcz : (s.size : Int) = (c.toNat : Int) := by rw [← hc, UInt8.toNat_ofNat']; omega
      have htc1 : (txt [c]).size ≤ 1 := by rw [txt_size]; simp
      have hT : p ++ txt [c] ++ s ++ y = txt (pre kk ss kt (k + 1)) := by
        rw [hsn]
        apply bts_inj
        simp only [bts_append, bts_txt, C.tb, hc, List.append_assoc, List.cons_append, List.nil_append]
      obtain ⟨tc, htc⟩ : ∃ z, txt [c] = z := ⟨_, rfl⟩
      rw [htc] at htc1 hT
      have HT := Lib.hid hT
      have hbA : Below w5.heap.size w5 (w5.alloc (.cells #[.int .u8 (s.size : Int)] 5)) := (Below.refl _ w5).alloc (Nat.le_refl _) _
      have f1 : (convert 30 9 (.slice (some ⟨w5.heap.size, 0, none⟩) 1 1)).run Try.prog (w5.alloc (.cells #[.int .u8 (s.size : Int)] 5)).drew = .ok (.string tc) (w5.alloc (.cells #[.int .u8 (s.size : Int)] 5)).drew := by rw [← htc]; exact conv_cell _ c (by rw [← hcz]; exact (World.cell?_alloc_mark w5 _ _ _ 0).trans rfl)
      have q1 : IntKind.u8.wrap (s.size : Int) = (s.size : Int) := by rw [IntKind.wrap_u8]; omega
      have z1 : ¬ 9223372036854775807 < p.size + tc.size := by omega
      have z2 : ¬ 9223372036854775807 < p.size + tc.size + s.size := by omega
      have z3 : ¬ 9223372036854775807 < p.size + tc.size + s.size + y.size := by omega
      have xA := bcell hbA x3; have cA := bcell hbA c1
      have hbR := hb5.alloc hb5.size (.cells #[.int .u8 (s.size : Int)] 5)
      have HBR := Lib.hid hbR.drew
      clear hbA hbR hsn hT hc hcz htc hbr c2 hf4 hy
      go_upto_region 8 with (fail)
      go_region
      all_goals (
        go_wp2
        go_roundw
        case rel => exact ⟨k + 1, by omega, by go_num, by rw [HT.out], HBR.out⟩
        case measure => simp [intOf]; omega)
    · have HKL := Lib.hid (show k = ss.length by omega)
      have HPA := Lib.hid (pre_all (es := es) HKS.out HLEN.out)
      go_wp2
      go_ret
      exact ⟨by rw [← HPA.out, HKL.out]; rfl, hbW⟩
end Go.Proofs.Ytifdglehfhoecaa.N
