/-
  A statement whose order is drawn, by what holds between its operations: whatever has been done, its values are what they are; so it holds ahead of those that come last. Conditions: none. No function of the program is named.
-/
import Derived.Test.YtifdglehfhoecaaBase
import Derived.Deep.RegionHeld3
namespace Go
section
variable {P : Program} {ops : Array Oper} {Q : Exit → Act → World → Prop} {md : Region.Mode}
/-- is operation k done? -/
def Lst (listed : Array Bool) (k : Nat) : Prop := listed.getD k false = true
def Region.needs (md : Region.Mode) (ops : Array Oper) (i k : Nat) : Bool := ((ops[i]?).map fun o => o.after.any fun e => Region.binds md e && e.on == k).getD false
/-- each operation waits for earlier ones alone -/
def Region.forward (md : Region.Mode) (ops : Array Oper) : Bool := (List.range ops.size).all fun i => ((ops[i]?).map fun o => o.after.all fun e => !Region.binds md e || decide (e.on < i)).getD true
/-- those from m on wait for all ahead of m -/
def Region.last (md : Region.Mode) (ops : Array Oper) (m : Nat) : Bool := (List.range ops.size).all fun i => decide (i < m) || (List.range m).all fun k => Region.needs md ops i k
theorem ready_spec {listed : Array Bool} {i : Nat} (h : i ∈ Region.ready md ops listed) : i < ops.size ∧ listed.getD i true = false ∧ ((ops[i]?).map (·.after.all fun e => !Region.binds md e || listed.getD e.on false)).getD false = true := by
  unfold Region.ready at h
  obtain ⟨h1, h2⟩ := List.mem_filter.1 h
  rw [Bool.and_eq_true] at h2
  refine ⟨List.mem_range.1 h1, ?_, h2.2⟩
  have := h2.1
  simpa using this
theorem ready_needs {listed : Array Bool} {i k : Nat} (h : i ∈ Region.ready md ops listed) (hk : Region.needs md ops i k = true) : Lst listed k := by
  obtain ⟨_, _, h3⟩ := ready_spec h
  unfold Region.needs at hk
  rcases ho : ops[i]? with _ | o
  · rw [ho] at hk; simp at hk
  · rw [ho] at hk h3
    simp only [Option.map_some, Option.getD_some] at hk h3
    obtain ⟨e, he, hb⟩ := Array.any_eq_true'.1 hk
    have h4 := Array.all_eq_true'.1 h3 e he
    rw [Bool.and_eq_true, beq_iff_eq] at hb
    rw [hb.1, hb.2] at h4
    simpa [Lst] using h4
theorem lst_old {listed : Array Bool} {i k : Nat} (h : i ≠ k) (h2 : Lst (listed.setIfInBounds i true) k) : Lst listed k := by
  unfold Lst at *
  rwa [Array.getD_eq_getD_getElem?, Array.getElem?_setIfInBounds_ne h, ← Array.getD_eq_getD_getElem?] at h2
theorem lst_keep {listed : Array Bool} {i k : Nat} (h : Lst listed k) : Lst (listed.setIfInBounds i true) k := by
  by_cases hik : i = k
  · subst hik
    have hs : i < listed.size := by
      refine Classical.byContradiction fun hn => ?_
      unfold Lst at h
      rw [Array.getD_eq_getD_getElem?, Array.getElem?_eq_none (by omega)] at h
      simp at h
    unfold Lst
    rw [Array.getD_eq_getD_getElem?, Array.getElem?_setIfInBounds_self_of_lt hs]; rfl
  · unfold Lst at *
    rwa [Array.getD_eq_getD_getElem?, Array.getElem?_setIfInBounds_ne hik, ← Array.getD_eq_getD_getElem?]
theorem ready_not {listed : Array Bool} {i : Nat} (h : i ∈ Region.ready md ops listed) : ¬ Lst listed i := by
  obtain ⟨_, h2, _⟩ := ready_spec h
  unfold Lst
  intro h3
  rw [Array.getD_eq_getD_getElem?] at h2 h3
  rcases ho : listed[i]? with _ | b
  · rw [ho] at h3; simp at h3
  · rw [ho] at h2 h3; simp at h2 h3; rw [h2] at h3; simp at h3
theorem lst_none {n k : Nat} : ¬ Lst (Array.replicate n false) k := by
  unfold Lst
  rw [Array.getD_eq_getD_getElem?, Array.getElem?_replicate]
  split <;> simp
/-- the first m are done, and no other -/
def doneTo (n m : Nat) : Array Bool := ((List.range n).map fun i => decide (i < m)).toArray
theorem doneTo_eq {listed : Array Bool} {m : Nat} (h1 : ∀ k, k < m → k < listed.size → Lst listed k) (h2 : ∀ k, m ≤ k → ¬ Lst listed k) : listed = doneTo listed.size m := by
  apply Array.ext
  · simp [doneTo]
  · intro i hi hj
    have e : listed.getD i false = listed[i] := by rw [Array.getD_eq_getD_getElem?, Array.getElem?_eq_getElem hi]; rfl
    have e2 : (doneTo listed.size m)[i] = decide (i < m) := by simp [doneTo]
    rw [e2]
    rcases Nat.lt_or_ge i m with h | h
    · have := h1 i h hi
      unfold Lst at this
      rw [← e, this]; simp [h]
    · have := h2 i h
      unfold Lst at this
      rw [← e]
      have h3 : ¬ i < m := by omega
      simp [h3]
      simpa using this
theorem count_done (n m : Nat) (h : m ≤ n) : (doneTo n m).toList.count false = n - m := by
  have : ∀ n, m ≤ n → ((List.range n).map fun i => decide (i < m)).count false = n - m := by
    intro n
    induction n with
    | zero => intro _; simp
    | succ n ih =>
      intro hmn
      rw [List.range_succ, List.map_append, List.count_append]
      rcases Nat.lt_or_ge n m with h1 | h1
      · obtain rfl : m = n + 1 := by omega
        have e0 : ((List.range n).map fun i => decide (i < n + 1)).count false = 0 := by
          rw [List.count_eq_zero]
          intro hmem
          obtain ⟨x, hx, he⟩ := List.mem_map.1 hmem
          have := List.mem_range.1 hx
          simp at he; omega
        rw [e0]; simp
      · rw [ih h1]
        have : decide (n < m) = false := by simp; omega
        simp [this]; omega
  simpa [doneTo] using this n h
theorem wpAny_upto (m : Nat) (I : Array Bool → Act → World → Prop) (hm : m < ops.size) (hfw : Region.forward md ops = true) (hls : Region.last md ops m = true)
    (hstep : ∀ listed a w, I listed a w → ∀ i, i < m → i ∈ Region.ready md ops listed → wpOp P ops Q i (I (listed.setIfInBounds i true)) a w)
    (hend : ∀ a w, I (doneTo ops.size m) a w → wpAny P md ops Q (ops.size - m) (doneTo ops.size m) a w) :
    ∀ (fuel : Nat) (listed : Array Bool) (a : Act) (w : World), I listed a w → listed.size = ops.size → (∀ k, m ≤ k → ¬ Lst listed k) → listed.toList.count false = fuel → wpAny P md ops Q fuel listed a w := by
  intro fuel
  induction fuel with
  | zero =>
    intro listed a w hI hsz hno hc
    exfalso
    have h1 : false ∈ listed.toList := by
      have h2 := hno m (Nat.le_refl _)
      have h3 : listed[m]'(by omega) = false := by
        unfold Lst at h2
        rw [Array.getD_eq_getD_getElem?, Array.getElem?_eq_getElem (by omega)] at h2
        simpa using h2
      rw [← h3]; exact Array.getElem_mem_toList (by omega)
    have := List.count_pos_iff.2 h1
    omega
  | succ fuel ih =>
    intro listed a w hI hsz hno hc
    by_cases hall : ∀ k, k < m → k < listed.size → Lst listed k
    · have he := doneTo_eq hall hno
      rw [hsz] at he
      have hcd := count_done ops.size m (by omega)
      rw [← he] at hcd
      have hf : fuel + 1 = ops.size - m := by omega
      rw [hf]
      rw [he] at hI ⊢
      exact hend a w hI
    · have hex : ∃ k, k < m ∧ ¬ Lst listed k := by
        refine Classical.byContradiction fun hn => hall fun k hk _ => Classical.byContradiction fun h => hn ⟨k, hk, h⟩
      refine ⟨fun hr => ?_, fun i hi => ?_⟩
      · exfalso
        have hl : ∀ k, k < m → Lst listed k := by
          intro k
          induction k using Nat.strongRecOn with
          | _ k ihk =>
            intro hk
            refine Classical.byContradiction fun hn => ?_
            have hk1 : k < ops.size := by omega
            have hmem : k ∈ Region.ready md ops listed := by
              unfold Region.ready
              refine List.mem_filter.2 ⟨List.mem_range.2 hk1, ?_⟩
              rw [Bool.and_eq_true]
              have hk2 : k < listed.size := by omega
              constructor
              · unfold Lst at hn
                rw [Array.getD_eq_getD_getElem?, Array.getElem?_eq_getElem hk2] at hn ⊢
                simpa using hn
              · rw [Array.getElem?_eq_getElem hk1]
                simp only [Option.map_some, Option.getD_some]
                refine Array.all_eq_true'.2 fun e he => ?_
                rcases hb : Region.binds md e with _ | _
                · rfl
                · have h1 := List.all_eq_true.1 hfw k (List.mem_range.2 hk1)
                  rw [Array.getElem?_eq_getElem hk1] at h1
                  simp only [Option.map_some, Option.getD_some] at h1
                  have h2 := Array.all_eq_true'.1 h1 e he
                  rw [hb] at h2
                  have h3 : e.on < k := by simpa using h2
                  have := ihk e.on h3 (by omega)
                  unfold Lst at this
                  rw [this]; rfl
            rw [hr] at hmem
            exact absurd hmem (by simp)
        obtain ⟨k, hk, hn⟩ := hex
        exact hn (hl k hk)
      · obtain ⟨h1, h2, _⟩ := ready_spec hi
        rcases Nat.lt_or_ge i m with him | him
        · refine wpOp_mono (fun a' w' h => ih _ _ _ h (by simpa using hsz) (fun k hk hl => hno k hk (lst_old (by omega) hl)) ?_) (hstep _ _ _ hI i him hi)
          have h4 : listed[i]'(by omega) = false := by
            rw [Array.getD_eq_getD_getElem?, Array.getElem?_eq_getElem (by omega)] at h2
            exact h2
          have h5 : listed.toList[i]'(by simp; omega) = false := by simpa using h4
          rw [Array.toList_setIfInBounds, List.count_set (by simp; omega), h5]
          have h6 : false ∈ listed.toList := by rw [← h4]; exact Array.getElem_mem_toList (by omega)
          have := List.count_pos_iff.2 h6
          have e1 : (if (false == false) = true then 1 else 0 : Nat) = 1 := rfl
          have e2 : (if (true == false) = true then 1 else 0 : Nat) = 0 := rfl
          rw [e1, e2]
          omega
        · exfalso
          obtain ⟨k, hk, hn⟩ := hex
          have h3 := List.all_eq_true.1 hls i (List.mem_range.2 h1)
          have h4 : decide (i < m) = false := by simp; omega
          rw [h4, Bool.false_or] at h3
          exact hn (ready_needs hi (List.all_eq_true.1 h3 k (List.mem_range.2 hk)))
/-- so, with what lies in the slots that are not looked at -/
theorem wpAny_upto_f (m : Nat) (I : (Nat → Value) → Array Bool → Act → World → Prop) (hm : m < ops.size) (hfw : Region.forward md ops = true) (hls : Region.last md ops m = true)
    (hstep : ∀ f listed a w, I f listed a w → ∀ i, i < m → i ∈ Region.ready md ops listed → wpOp P ops Q i (I f (listed.setIfInBounds i true)) a w)
    (hend : ∀ f a w, I f (doneTo ops.size m) a w → wpAny P md ops Q (ops.size - m) (doneTo ops.size m) a w)
    (fuel : Nat) (listed : Array Bool) (a : Act) (w : World) (h : I (fun n => a.tmps.getD n undef) listed a w) (hsz : listed.size = ops.size) (hno : ∀ k, m ≤ k → ¬ Lst listed k) (hc : listed.toList.count false = fuel) : wpAny P md ops Q fuel listed a w :=
  wpAny_upto m (fun L a w => ∃ f, I f L a w) hm hfw hls (fun L a w ⟨f, hI⟩ i him hi => wpOp_mono (fun _ _ h => ⟨f, h⟩) (hstep f L a w hI i him hi)) (fun a w ⟨f, hI⟩ => hend f a w hI) fuel listed a w ⟨_, h⟩ hsz hno hc
end
end Go
