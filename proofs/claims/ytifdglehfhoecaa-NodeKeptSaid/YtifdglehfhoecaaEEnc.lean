/-
  A list's bytes. Conditions: below 2^30 entries.
-/
import Derived.Test.YtifdglehfhoecaaESize
namespace Go.Proofs.Ytifdglehfhoecaa.E
open Go.RowKit B
/-- a list's bytes, as they are told -/
def encl (l : List Ent) : ByteArray := if M.Ok l then txt (M.enc l) else ByteArray.empty
theorem enc_snoc (l : List Ent) (k : Nat) (h : k < l.length) : txt (M.enc (l.take (k + 1))) = txt (M.enc (l.take k)) ++ (C.tb l[k].1 ++ C.tb l[k].2) := by
  rw [List.take_succ_eq_append_getElem h, M.enc_append, C.tb, C.tb, txt_append, txt_append]
  congr 2
  simp [M.enc, M.tbl]
set_option maxRecDepth 100000 in
set_option maxHeartbeats 1000000 in
theorem encode_any (v : Value) (l : List Ent) (w : World) (hv : Ents w v l) (hlen : l.length ≤ 1000000000) :
    Calls Try.prog 33 #[v] w fun r w' => r = .returned (.tuple #[.string (encl l), .int .i64 (if M.Ok l then 0 else 1)]) ∧ Below w.heap.size w w' := by
  have hop := hv.open
  have HV := Lib.hid hv; clear hv
  obtain ⟨ao, cap, rfl, _, _, hc⟩ := hop
  have HC := Lib.hid hc; clear hc
  by_cases ho : M.Ok l
  case neg =>
    have HD := Lib.hid (show decide (M.Ok l) = false by simp [ho])
    have HE := Lib.hid (show encl l = ByteArray.empty by unfold encl; rw [if_neg ho])
    rw [if_neg ho]
    clear ho
    go_enter Try.func33, Try.ntmps33
    go_wp2_with fail
    refine (right_any _ l _ HV.out (by omega)).mono ?_
    rintro r w1 ⟨rfl, hb1⟩
    rw [HD.out]
    go_wp2
    go_ret2
    exact ⟨by rw [HE.out]; rfl, hb1⟩
  have HD := Lib.hid (show decide (M.Ok l) = true by simp [ho])
  have HE := Lib.hid (show encl l = txt (M.enc l) by unfold encl; rw [if_pos ho])
  have HO := Lib.hid ho
  rw [if_pos ho]
  clear ho
  go_enter Try.func33, Try.ntmps33
  go_wp2_with fail
  refine (right_any _ l _ HV.out (by omega)).mono ?_
  rintro r w1 ⟨rfl, hb1⟩
  rw [HD.out]
  go_wp2
  go_loopw [4, 16] (fun n i wr => ∃ k : Nat, k ≤ l.length ∧ i = .int .i64 k ∧ n = .string (txt (M.enc (l.take k))) ∧ M.sz (l.take k) ≤ k * 512 ∧ Below w.heap.size w wr) (fun _ i _ => l.length - (intOf i).toNat)
  case atStart => exact ⟨0, Nat.zero_le _, rfl, rfl, Nat.le_refl _, hb1⟩
  case round =>
    obtain ⟨k, hk, rfl, rfl, hsz, hb⟩ := hrel
    by_cases hlt : k < l.length
    · obtain ⟨b, o, rfl, hk0, hv0⟩ := HC.out k hlt
      have c0 := (hb.cell (lt_of_cell hk0)).trans hk0
      have c1 := (hb.cell (lt_of_cell hv0)).trans hv0
      have hm := HO.out.1 l[k] (List.getElem_mem hlt)
      have hm1 : l[k].1.size ≤ 255 := by unfold M.may at hm; omega
      have hm2 : l[k].2.size ≤ 255 := by unfold M.may at hm; omega
      have HS := Lib.hid (enc_snoc l k hlt)
      obtain ⟨p, hp⟩ : ∃ p, txt (M.enc (l.take k)) = p := ⟨_, rfl⟩
      have HP := Lib.hid hp
      have hps : p.size = M.sz (l.take k) := by rw [← hp, txt_size, M.enc_len]
      have hsn := M.sz_snoc l k hlt
      have hnz : M.sz (l.take (k + 1)) ≤ (k + 1) * 512 := by omega
      have ht1 : (C.tb l[k].1).size ≤ 256 := by rw [C.tb_size]; omega
      have ht2 : (C.tb l[k].2).size ≤ 256 := by rw [C.tb_size]; omega
      have hps2 : p.size ≤ 1000000000 * 512 := by omega
      have HNZ := Lib.hid hnz
      rw [hp]
      clear hps hsn hnz hsz
      clear hp hk0 hv0 hm
      go_wp2_with fail
      obtain ⟨W, hW⟩ : ∃ W, wr.alloc (.cells #[.string l[k].1, .string l[k].2] 49) = W := ⟨_, rfl⟩
      have d1 : W.cell? ⟨wr.heap.size, 1, none⟩ = some (.string l[k].2) := by rw [← hW, World.cell?_alloc_mark]; rfl
      have hbW : Below w.heap.size w W := by rw [← hW]; exact hb.alloc hb.size _
      rw [hW]
      clear hW c0 c1 hb
      refine (C.text_ok l[k].1 _ hm1).mono ?_
      rintro r w2 ⟨rfl, hb2⟩
      have d1' := bcell hb2 d1
      have hB2 := hbW.trans (hb2.mono hbW.size)
      clear d1 hb2 hbW
      go_wp2_with fail
      refine (C.text_ok l[k].2 _ hm2).mono ?_
      rintro r w3 ⟨rfl, hb3⟩
      have hB3 := hB2.trans (hb3.mono hB2.size)
      clear d1' hb3 hB2
      go_wp2
      go_roundw
      case rel => exact ⟨k + 1, by omega, by go_num, by rw [HS.out, HP.out], HNZ.out, hB3⟩
      case measure => simp [intOf]; omega
    · have hkk : k = l.length := by omega
      have HK := Lib.hid hkk; clear hkk
      go_wp2
      go_ret2
      exact ⟨by rw [HE.out, HK.out, List.take_length]; rfl, hb⟩
end Go.Proofs.Ytifdglehfhoecaa.E
