/-
  The document's lists with and without a key. Conditions: below 2^30 entries.
-/
import Derived.Test.YtifdglehfhoecaaEKeep
namespace Go.Proofs.Ytifdglehfhoecaa.E
open Go.RowKit B
theorem del_snoc (l : List Ent) (k : ByteArray) (i : Nat) (h : i < l.length) : M.del (l.take (i + 1)) k = if l[i].1 = k then M.del (l.take i) k else M.del (l.take i) k ++ [l[i]] := by
  unfold M.del
  rw [List.take_succ_eq_append_getElem h, List.filter_append]
  by_cases hk : l[i].1 = k
  · rw [if_pos hk]; simp [hk]
  · rw [if_neg hk]; simp [hk]
set_option maxRecDepth 100000 in
set_option maxHeartbeats 1000000 in
theorem rdel_any (v : Value) (l : List Ent) (key : ByteArray) (w : World) (hv : Ents w v l) (hlen : l.length ≤ 1000000000) :
    Calls Try.prog 47 #[v, .string key] w (Mk (M.del l key) w) := by
  obtain ⟨i0, hi, hz0, hz1, hz2⟩ := info_parts info49
  obtain ⟨ao, cap, rfl, _, _, hc⟩ := hv.open
  have HC := Lib.hid hc; clear hc hv
  go_enter Try.func47, Try.ntmps47
  go_wp2
  go_loopw [5, 6] (fun u i wr => ∃ k : Nat, k ≤ l.length ∧ i = .int .i64 k ∧ wr.ownsRow w.heap.size 49 2 u (M.del (l.take k) key).length (ecs (M.del (l.take k) key)) ∧ (M.del (l.take k) key).length ≤ k ∧ Below w.heap.size w wr) (fun _ i _ => l.length - (intOf i).toNat)
  case atStart => exact ⟨0, Nat.zero_le _, rfl, World.ownsRow_nil _ _ _ _, Nat.le_refl _, Below.refl _ _⟩
  case round =>
    obtain ⟨k, hk, rfl, hown, hdl, hb⟩ := hrel
    have HO := Lib.hid hown; clear hown
    by_cases hlt : k < l.length
    · obtain ⟨b, o, rfl, hk0, hv0⟩ := HC.out k hlt
      have c0 := (hb.cell (lt_of_cell hk0)).trans hk0
      have c1 := (hb.cell (lt_of_cell hv0)).trans hv0
      clear hk0 hv0
      by_cases hkey : l[k].1 = key
      · have HS := Lib.hid (show M.del (l.take (k + 1)) key = M.del (l.take k) key by rw [del_snoc l key k hlt, if_pos hkey])
        have hq := str_eq hkey
        clear hkey
        go_wp2
        go_roundw
        case rel => exact ⟨k + 1, by omega, by go_num, by rw [HS.out]; exact HO.out, by rw [HS.out]; omega, hb⟩
        case measure => simp [intOf]; omega
      · have HS := Lib.hid (show M.del (l.take (k + 1)) key = M.del (l.take k) key ++ [l[k]] by rw [del_snoc l key k hlt, if_neg hkey])
        have hq := str_ne hkey
        clear hkey
        obtain ⟨d, hd⟩ : ∃ d, M.del (l.take k) key = d := ⟨_, rfl⟩
        rw [hd] at HO HS hdl
        clear hd
        go_wp2_with (at_builtin; go_loud (refine wpList_append_row rfl _ _ 43 rfl w.heap.size 49 i0 _ 2 32 Try.underlying43 hi hz0 hz1 hz2 rfl (by decide) _ d.length (ecs d) rfl (HO.out.alloc _) (.slice (some ⟨wr.heap.size, 0, none⟩) 1 1) rfl 1 (ecs [l[k]]) (new_one wr l[k] 49) (ecs_one _) (by unfold maxLen; omega) (by omega) (by have := hb.size; simp; omega) ?_))
        intro v' w2 hown2 hg
        have hb2 : Below w.heap.size w w2 := (hb.alloc hb.size _).grown hg (by have := hb.size; simp; omega) (fun g hg => (HO.out.lt g hg).1)
        rw [← ecs_append, ← HS.out] at hown2
        have HO2 := Lib.hid hown2; clear hown2 hg
        have hlen2 : (M.del (l.take (k + 1)) key).length = d.length + 1 := by rw [HS.out]; simp
        have HL2 := Lib.hid hlen2; clear hlen2
        go_wp2
        go_roundw
        case rel => exact ⟨k + 1, by omega, by go_num, by rw [HL2.out]; exact HO2.out, by rw [HL2.out]; omega, hb2⟩
        case measure => simp [intOf]; omega
    · have hkk : k = l.length := by omega
      have HF := Lib.hid (show Ents wr _ (M.del (l.take k) key) from Rw.own HO.out)
      have HK := Lib.hid hkk; clear hkk
      go_wp2
      go_ret
      exact ⟨_, rfl, by have := HF.out; rw [HK.out, List.take_length] at this; exact this, hb⟩
end Go.Proofs.Ytifdglehfhoecaa.E
