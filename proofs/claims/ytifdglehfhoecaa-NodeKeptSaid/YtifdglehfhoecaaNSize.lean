/-
  What is looked at; how many bytes a node has. Conditions: bounds that every node here keeps.
-/
import Derived.Test.YtifdglehfhoecaaNOf
import Derived.Test.YtifdglehfhoecaaERef
import Derived.IntWalk
namespace Go.Proofs.Ytifdglehfhoecaa.N
open Go.RowKit B E
/-- no more than is looked at -/
def SmallN (n : M.Nd) : Prop := Small n.es ∧ n.ks.length ≤ 60 ∧ n.ss.length ≤ 60 ∧ ∀ s ∈ n.ss, s.size ≤ 60
theorem szs_le (ss : List ByteArray) (m : Nat) (h : ∀ s ∈ ss, s.size ≤ m) : M.szs ss ≤ ss.length * (5 + m) := by
  induction ss with
  | nil => simp [M.szs]
  | cons s ss ih =>
    have h1 := h s (by simp)
    have h2 := ih fun x hx => h x (by simp [hx])
    simp only [M.szs, List.map_cons, List.sum_cons, List.length_cons] at h2 ⊢
    rw [Nat.succ_mul]
    omega
theorem sz_le (l : List Ent) (a b : Nat) (h : ∀ e ∈ l, e.1.size ≤ a ∧ e.2.size ≤ b) : M.sz l ≤ l.length * (2 + a + b) := by
  induction l with
  | nil => simp [M.sz]
  | cons e l ih =>
    have h1 := h e (by simp)
    have h2 := ih fun x hx => h x (by simp [hx])
    rw [M.sz_cons, List.length_cons, Nat.succ_mul]
    omega
theorem small_bd {n : M.Nd} (h : SmallN n) : Bd n := by
  obtain ⟨⟨h1, h2⟩, h3, h4, h5⟩ := h
  have a := sz_le n.es 60 300 h2
  have b := szs_le n.ss 60 h5
  exact ⟨by omega, by omega, by omega, by omega, by omega⟩
def Nov (n : M.Nd) (w : World) (r : Ending) (w' : World) : Prop := ∃ b, r = .returned (.bool b) ∧ (b = false → SmallN n) ∧ Below w.heap.size w w'
set_option maxRecDepth 100000 in
set_option maxHeartbeats 2000000 in
theorem nover_any (v : Value) (n : M.Nd) (w : World) (hv : NdV w v n) : Calls Try.prog 52 #[v] w (Nov n w) := by
  obtain ⟨l, es, ks, ss⟩ := n
  obtain ⟨e0, ec, k0, kc, s0, sc, rfl, he, hk, hs⟩ := hv
  dsimp only at he hk hs ⊢
  have HE := Lib.hid he; have HK := Lib.hid hk; have HS := Lib.hid hs
  clear he hk hs
  go_enter Try.func52, Try.ntmps52
  go_upto_region 1 with (fail)
  obtain ⟨w1, hw1⟩ : ∃ W, w.alloc (.cells #[.bool l, .slice e0 es.length ec, .slice k0 ks.length kc, .slice s0 ss.length sc] 69) = W := ⟨_, rfl⟩
  have hx : Bx w1 w.heap.size l (.slice e0 es.length ec) (.slice k0 ks.length kc) (.slice s0 ss.length sc) := by rw [← hw1]; exact Bx.new _ _ _ _ _ _
  have hb1 : Below w.heap.size w w1 := by rw [← hw1]; exact (Below.refl _ w).alloc (Nat.le_refl _) _
  rw [hw1]
  clear hw1
  obtain ⟨x0, x1, x2, x3⟩ := hx
  have HCE := Lib.hid (HE.out.below hb1).at.2.2.2; have HCS := Lib.hid (HS.out.below hb1).at.2.2.2
  by_cases h1 : 60 < es.length
  · go_wp2
    go_ret
    exact ⟨true, rfl, fun h => Bool.noConfusion h, hb1⟩
  by_cases h2 : 60 < ks.length
  · go_wp2
    go_ret
    exact ⟨true, rfl, fun h => Bool.noConfusion h, hb1⟩
  by_cases h3 : 60 < ss.length
  · go_wp2
    go_ret
    exact ⟨true, rfl, fun h => Bool.noConfusion h, hb1⟩
  go_wp2
  go_loopw [3] (fun i wr => ∃ k : Nat, k ≤ es.length ∧ i = .int .i64 k ∧ (∀ j (_h : j < es.length), j < k → es[j].1.size ≤ 60 ∧ es[j].2.size ≤ 300) ∧ w1 = wr) (fun i _ => es.length - (intOf i).toNat)
  case atStart => exact ⟨0, Nat.zero_le _, rfl, fun j _ h => absurd h (by omega), rfl⟩
  case round =>
    obtain ⟨k, hkl, rfl, hpre, hw⟩ := hrel
    subst hw
    have HPRE := Lib.hid hpre; clear hpre
    by_cases hlt : k < es.length
    · obtain ⟨b, o, rfl, c0, c1⟩ := HCE.out k hlt
      by_cases q1 : 60 < es[k].1.size
      · go_wp2
        go_ret
        exact ⟨true, rfl, fun h => Bool.noConfusion h, hb1⟩
      · by_cases q2 : 300 < es[k].2.size
        · go_wp2
          go_ret
          exact ⟨true, rfl, fun h => Bool.noConfusion h, hb1⟩
        · have hn : ∀ j (_h : j < es.length), j < k + 1 → es[j].1.size ≤ 60 ∧ es[j].2.size ≤ 300 := fun j hj hjk => by
            rcases Nat.lt_or_ge j k with h | h
            · exact HPRE.out j hj h
            · obtain rfl : j = k := by omega
              exact ⟨by omega, by omega⟩
          have HN := Lib.hid hn; clear hn
          go_wp2
          go_roundw
          case rel => exact ⟨k + 1, by omega, by go_num, HN.out, by first | rfl | trivial⟩
          case measure => simp [intOf]; omega
    · have HSM := Lib.hid (show Small es from ⟨by omega, fun e he => by
        obtain ⟨j, hj, rfl⟩ := List.getElem_of_mem he
        exact HPRE.out j hj (by omega)⟩)
      go_wp2
      go_loopw [4] (fun i wr => ∃ k : Nat, k ≤ ss.length ∧ i = .int .i64 k ∧ (∀ j (_h : j < ss.length), j < k → ss[j].size ≤ 60) ∧ w1 = wr) (fun i _ => ss.length - (intOf i).toNat)
      case atStart => exact ⟨0, Nat.zero_le _, rfl, fun j _ h => absurd h (by omega), rfl⟩
      case round =>
        obtain ⟨m, hml, rfl, hpre2, hw⟩ := hrel
        subst hw
        have HPRE2 := Lib.hid hpre2; clear hpre2
        by_cases hlm : m < ss.length
        · obtain ⟨b, o, rfl, c0⟩ := HCS.out m hlm
          by_cases q1 : 60 < ss[m].size
          · go_wp2
            go_ret
            exact ⟨true, rfl, fun h => Bool.noConfusion h, hb1⟩
          · have hn : ∀ j (_h : j < ss.length), j < m + 1 → ss[j].size ≤ 60 := fun j hj hjk => by
              rcases Nat.lt_or_ge j m with h | h
              · exact HPRE2.out j hj h
              · obtain rfl : j = m := by omega
                omega
            have HN := Lib.hid hn; clear hn
            go_wp2
            go_roundw
            case rel => exact ⟨m + 1, by omega, by go_num, HN.out, by first | rfl | trivial⟩
            case measure => simp [intOf]; omega
        · have HR := Lib.hid (show SmallN ⟨l, es, ks, ss⟩ from ⟨HSM.out, by show ks.length ≤ 60; omega, by show ss.length ≤ 60; omega, fun e (he : e ∈ ss) => by
            obtain ⟨j, hj, rfl⟩ := List.getElem_of_mem he
            exact HPRE2.out j hj (by omega)⟩)
          go_wp2
          go_ret
          exact ⟨false, rfl, fun _ => HR.out, hb1⟩
set_option maxRecDepth 100000 in
set_option maxHeartbeats 2000000 in
theorem nsize_any (v : Value) (n : M.Nd) (w : World) (hv : NdV w v n) (hbd : Bd n) : Calls Try.prog 63 #[v] w fun r w' => r = .returned (.int .i64 (M.nsz n : Int)) ∧ Below w.heap.size w w' := by
  obtain ⟨d1, d2, d3, d4, d5⟩ := hbd
  obtain ⟨l, es, ks, ss⟩ := n
  obtain ⟨e0, ec, k0, kc, s0, sc, rfl, he, hk, hs⟩ := hv
  dsimp only at he hk hs d1 d2 d3 d4 d5 ⊢
  have HE := Lib.hid he; have HK := Lib.hid hk; have HS := Lib.hid hs
  clear he hk hs
  rcases l with _ | _
  case true =>
    have HZ := Lib.hid (show M.nsz ⟨true, es, ks, ss⟩ = M.sz es from rfl)
    go_enter Try.func63, Try.ntmps63
    go_upto_region 1 with (fail)
    obtain ⟨w1, hw1⟩ : ∃ W, w.alloc (.cells #[.bool true, .slice e0 es.length ec, .slice k0 ks.length kc, .slice s0 ss.length sc] 69) = W := ⟨_, rfl⟩
    have hx : Bx w1 w.heap.size true (.slice e0 es.length ec) (.slice k0 ks.length kc) (.slice s0 ss.length sc) := by rw [← hw1]; exact Bx.new _ _ _ _ _ _
    have hb1 : Below w.heap.size w w1 := by rw [← hw1]; exact (Below.refl _ w).alloc (Nat.le_refl _) _
    rw [hw1]
    clear hw1
    obtain ⟨x0, x1, x2, x3⟩ := hx
    go_wp2_with fail
    refine (size_any _ es _ (HE.out.below hb1) (by omega) (by omega)).mono ?_
    rintro r w2 ⟨rfl, hb2⟩
    have hb2 := hb1.trans (hb2.mono hb1.size)
    go_wp2
    go_ret
    exact ⟨by rw [HZ.out]; rfl, hb2⟩
  have HZ := Lib.hid (show M.nsz ⟨false, es, ks, ss⟩ = 4 + M.szs ss from rfl)
  go_enter Try.func63, Try.ntmps63
  go_upto_region 1 with (fail)
  obtain ⟨w1, hw1⟩ : ∃ W, w.alloc (.cells #[.bool false, .slice e0 es.length ec, .slice k0 ks.length kc, .slice s0 ss.length sc] 69) = W := ⟨_, rfl⟩
  have hx : Bx w1 w.heap.size false (.slice e0 es.length ec) (.slice k0 ks.length kc) (.slice s0 ss.length sc) := by rw [← hw1]; exact Bx.new _ _ _ _ _ _
  have hb1 : Below w.heap.size w w1 := by rw [← hw1]; exact (Below.refl _ w).alloc (Nat.le_refl _) _
  rw [hw1]
  clear hw1
  obtain ⟨x0, x1, x2, x3⟩ := hx
  have HCS := Lib.hid (HS.out.below hb1).at.2.2.2
  go_wp2
  go_loopw [3, 14] (fun n i wr => ∃ k : Nat, k ≤ ss.length ∧ i = .int .i64 k ∧ n = .int .i64 ((4 + M.szs (ss.take k) : Nat) : Int) ∧ w1 = wr) (fun _ i _ => ss.length - (intOf i).toNat)
  case atStart => exact ⟨0, Nat.zero_le _, rfl, rfl, rfl⟩
  case round =>
    obtain ⟨k, hkl, rfl, rfl, hw⟩ := hrel
    subst hw
    by_cases hlt : k < ss.length
    · obtain ⟨b, o, rfl, c0⟩ := HCS.out k hlt
      have hsn := M.szs_snoc ss k hlt
      have hle := M.szs_take_le ss (k + 1)
      obtain ⟨p, hp⟩ : ∃ p, M.szs (ss.take k) = p := ⟨_, rfl⟩
      obtain ⟨q, hq⟩ : ∃ q, M.szs (ss.take (k + 1)) = q := ⟨_, rfl⟩
      rw [hp, hq] at hsn
      rw [hq] at hle
      rw [hp]
      have HSN := Lib.hid hsn; have HQ := Lib.hid hq
      have hpb : p + (5 + ss[k].size) ≤ 1000000000 := by omega
      clear hsn hp hq hle
      go_wp2
      go_roundw
      case rel => exact ⟨k + 1, by omega, by go_num, by rw [HQ.out, HSN.out]; go_num, by first | rfl | trivial⟩
      case measure => simp [intOf]; omega
    · have hkk : k = ss.length := by omega
      have HKK := Lib.hid hkk; clear hkk
      go_wp2
      go_ret
      exact ⟨by rw [HZ.out, HKK.out, List.take_length]; rfl, hb1⟩
set_option maxRecDepth 100000 in
set_option maxHeartbeats 2000000 in
theorem rnsize_any (v : Value) (n : M.Nd) (w : World) (hv : NdV w v n) (hbd : Bd n) : Calls Try.prog 62 #[v] w fun r w' => r = .returned (.int .i64 (M.nsz n : Int)) ∧ Below w.heap.size w w' := by
  obtain ⟨d1, d2, d3, d4, d5⟩ := hbd
  obtain ⟨l, es, ks, ss⟩ := n
  obtain ⟨e0, ec, k0, kc, s0, sc, rfl, he, hk, hs⟩ := hv
  dsimp only at he hk hs d1 d2 d3 d4 d5 ⊢
  have HE := Lib.hid he; have HK := Lib.hid hk; have HS := Lib.hid hs
  clear he hk hs
  rcases l with _ | _
  case true =>
    have HZ := Lib.hid (show M.nsz ⟨true, es, ks, ss⟩ = M.sz es from rfl)
    go_enter Try.func62, Try.ntmps62
    go_upto_region 1 with (fail)
    obtain ⟨w1, hw1⟩ : ∃ W, w.alloc (.cells #[.bool true, .slice e0 es.length ec, .slice k0 ks.length kc, .slice s0 ss.length sc] 73) = W := ⟨_, rfl⟩
    have hx : Bx w1 w.heap.size true (.slice e0 es.length ec) (.slice k0 ks.length kc) (.slice s0 ss.length sc) := by rw [← hw1]; exact Bx.new _ _ _ _ _ _
    have hb1 : Below w.heap.size w w1 := by rw [← hw1]; exact (Below.refl _ w).alloc (Nat.le_refl _) _
    rw [hw1]
    clear hw1
    obtain ⟨x0, x1, x2, x3⟩ := hx
    go_wp2_with fail
    refine (rsize_any _ es _ (HE.out.below hb1) (by omega) (by omega)).mono ?_
    rintro r w2 ⟨rfl, hb2⟩
    have hb2 := hb1.trans (hb2.mono hb1.size)
    go_wp2
    go_ret
    exact ⟨by rw [HZ.out]; rfl, hb2⟩
  have HZ := Lib.hid (show M.nsz ⟨false, es, ks, ss⟩ = 4 + M.szs ss from rfl)
  go_enter Try.func62, Try.ntmps62
  go_upto_region 1 with (fail)
  obtain ⟨w1, hw1⟩ : ∃ W, w.alloc (.cells #[.bool false, .slice e0 es.length ec, .slice k0 ks.length kc, .slice s0 ss.length sc] 73) = W := ⟨_, rfl⟩
  have hx : Bx w1 w.heap.size false (.slice e0 es.length ec) (.slice k0 ks.length kc) (.slice s0 ss.length sc) := by rw [← hw1]; exact Bx.new _ _ _ _ _ _
  have hb1 : Below w.heap.size w w1 := by rw [← hw1]; exact (Below.refl _ w).alloc (Nat.le_refl _) _
  rw [hw1]
  clear hw1
  obtain ⟨x0, x1, x2, x3⟩ := hx
  have HCS := Lib.hid (HS.out.below hb1).at.2.2.2
  go_wp2
  go_loopw [3, 4] (fun n i wr => ∃ k : Nat, k ≤ ss.length ∧ i = .int .i64 k ∧ n = .int .i64 ((4 + M.szs (ss.take k) : Nat) : Int) ∧ w1 = wr) (fun _ i _ => ss.length - (intOf i).toNat)
  case atStart => exact ⟨0, Nat.zero_le _, rfl, rfl, rfl⟩
  case round =>
    obtain ⟨k, hkl, rfl, rfl, hw⟩ := hrel
    subst hw
    by_cases hlt : k < ss.length
    · obtain ⟨b, o, rfl, c0⟩ := HCS.out k hlt
      have hsn := M.szs_snoc ss k hlt
      have hle := M.szs_take_le ss (k + 1)
      obtain ⟨p, hp⟩ : ∃ p, M.szs (ss.take k) = p := ⟨_, rfl⟩
      obtain ⟨q, hq⟩ : ∃ q, M.szs (ss.take (k + 1)) = q := ⟨_, rfl⟩
      rw [hp, hq] at hsn
      rw [hq] at hle
      rw [hp]
      have HSN := Lib.hid hsn; have HQ := Lib.hid hq
      have hpb : p + (5 + ss[k].size) ≤ 1000000000 := by omega
      clear hsn hp hq hle
      go_wp2
      go_roundw
      case rel => exact ⟨k + 1, by omega, by go_num, by rw [HQ.out, HSN.out]; go_num, by first | rfl | trivial⟩
      case measure => simp [intOf]; omega
    · have hkk : k = ss.length := by omega
      have HKK := Lib.hid hkk; clear hkk
      go_wp2
      go_ret
      exact ⟨by rw [HZ.out, HKK.out, List.take_length]; rfl, hb1⟩
end Go.Proofs.Ytifdglehfhoecaa.N
