/-
  Texts one behind the other. Conditions: all together at most 2^47 bytes.
-/
import Derived.Test.YtifdglehfhoecaaPut
import Derived.Test.YtifdglehfhoecaaShelf
namespace Go.Proofs.Ytifdglehfhoecaa.C
open Go.RowKit B
theorem lib_join (l : List (List UInt8)) : Lib.join l [] = l.flatten := by
  induction l with
  | nil => rfl
  | cons x r ih =>
    cases r with
    | nil => simp [Lib.join]
    | cons y r => simp [Lib.join] at ih ⊢; rw [ih]
theorem cell_spot {w : World} {a : Addr} {v : Value} (h : w.cell? a = some v) : ∃ b o, a = ⟨b, o, none⟩ := by
  obtain ⟨b, off, spot⟩ := a
  have hspot : spot = none := World.cell?_spot h
  subst hspot
  exact ⟨b, off, rfl⟩
/-- all texts, one behind the other -/
def cat (l : List ByteArray) : ByteArray := txt (l.flatMap bts)
theorem join_any (v : Value) (l : List ByteArray) (w : World) (hv : Strs w v l) (hlen : (l.flatMap bts).length ≤ 140737488355328) (hN : l.length ≤ 140737488355328) :
    Calls Try.prog 22 #[v] w fun r w' => r = .returned (.string (cat l)) ∧ Below w.heap.size w w' := by
  obtain ⟨ao, cap, rfl, hcap, hc⟩ := hv
  have hj : Calls Try.prog 70 #[.slice ao l.length cap, .string ⟨#[]⟩] w fun r w' => r = .returned (.string (cat l)) ∧ Below w.heap.size w w' := by
    rcases Nat.eq_zero_or_pos l.length with h0 | h0
    · rw [h0]
      obtain rfl := List.length_eq_zero_iff.1 h0
      exact (Try.strings_Join_none ao cap ⟨#[]⟩ w).mono fun e w' ⟨he, hw⟩ => ⟨he, hw ▸ Below.refl _ _⟩
    · obtain ⟨a, rfl, h1⟩ := hc 0 h0
      have h1' : w.cell? a = some (.string l[0]) := h1
      obtain ⟨b, o, rfl⟩ := cell_spot h1'
      have hcells : ∀ (j : Nat) x, l[j]? = some x → w.cell? ⟨b, o + j, none⟩ = some (.string x) := fun j x hx => by
        obtain ⟨hj, rfl⟩ := List.getElem?_eq_some_iff.1 hx
        obtain ⟨a', e, h'⟩ := hc j hj
        obtain rfl := Option.some.inj e
        rwa [add_lit] at h'
      have e1 : Lib.join (l.map (·.data.toList)) (⟨#[]⟩ : ByteArray).data.toList = l.flatMap bts := by
        rw [List.flatMap_def]; exact lib_join _
      have := Try.strings_Join b o cap l ⟨#[]⟩ w hcells (lt_of_cell h1') hN hcap (by rw [e1]; exact hlen)
      rwa [e1] at this
  have HJ := Lib.hid hj; clear hj hc
  go_enter Try.func22, Try.ntmps22
  go_wp2_with fail
  refine HJ.out.mono ?_
  rintro r w1 ⟨rfl, hb⟩
  go_wp2
  go_ret
  exact ⟨rfl, hb⟩
end Go.Proofs.Ytifdglehfhoecaa.C
