/- Plain mathematics for layer 21 (clock): places with marks 0 (empty), 1, 2 (marked), a hand. No program in sight. -/
import Derived.Test.YtooooidnchgkaaaMem
namespace Go.Proofs.Ytooooidnchgkaaa
open Go.RowKit
set_option linter.unusedVariables false

/-- A place's mark. -/
def mk (ms : List Int) (i : Nat) : Int := ms[i]?.getD 0
/-- A place is given a mark, if there is such a place. -/
def setL (ms : List Int) (i : Int) (v : Int) : List Int := if 0 ≤ i ∧ i < ms.length then ms.set i.toNat v else ms
def touchL (ms : List Int) (i : Int) : List Int := if 0 ≤ i ∧ i < ms.length ∧ mk ms i.toNat ≠ 0 then ms.set i.toNat 2 else ms
theorem setL_length (ms : List Int) (i v : Int) : (setL ms i v).length = ms.length := by unfold setL; split <;> simp
theorem touchL_length (ms : List Int) (i : Int) : (touchL ms i).length = ms.length := by unfold touchL; split <;> simp
def Marks (ms : List Int) : Prop := ∀ x ∈ ms, x = 0 ∨ x = 1 ∨ x = 2
theorem Marks.at {ms : List Int} (h : Marks ms) (i : Nat) : mk ms i = 0 ∨ mk ms i = 1 ∨ mk ms i = 2 := by
  unfold mk
  by_cases hi : i < ms.length
  · rw [List.getElem?_eq_getElem hi]; exact h _ (List.getElem_mem hi)
  · rw [List.getElem?_eq_none (by omega)]; exact .inl rfl
theorem Marks.set {ms : List Int} (h : Marks ms) (i : Nat) (v : Int) (hv : v = 0 ∨ v = 1 ∨ v = 2) : Marks (ms.set i v) := by
  intro x hx
  rcases List.mem_or_eq_of_mem_set hx with hx | rfl
  · exact h x hx
  · exact hv
theorem Marks.setL {ms : List Int} (h : Marks ms) (i v : Int) (hv : v = 0 ∨ v = 1 ∨ v = 2) : Marks (setL ms i v) := by
  unfold Proofs.Ytooooidnchgkaaa.setL; split
  · exact h.set _ _ hv
  · exact h
theorem Marks.touchL {ms : List Int} (h : Marks ms) (i : Int) : Marks (touchL ms i) := by
  unfold Proofs.Ytooooidnchgkaaa.touchL; split
  · exact h.set _ _ (.inr (.inr rfl))
  · exact h
theorem marks_rep (n : Nat) : Marks (List.replicate n 0) := fun x hx => .inl (List.mem_replicate.1 hx).2
theorem mk_set (ms : List Int) (i j : Nat) (v : Int) (hi : i < ms.length) : mk (ms.set i v) j = if j = i then v else mk ms j := by
  unfold mk
  by_cases h : j = i
  · subst h; rw [if_pos rfl]; simp [hi]
  · rw [if_neg h, List.getElem?_set_ne (fun e => h e.symm)]

/-- May it be let go? -/
def Elig (ms held : List Int) (i : Nat) : Prop := i < ms.length ∧ mk ms i ≠ 0 ∧ (i : Int) ∉ held
instance (ms held : List Int) (i : Nat) : Decidable (Elig ms held i) := by unfold Elig; exact inferInstance
def anyB (ms held : List Int) (n : Nat) : Bool := (List.range n).any fun i => decide (Elig ms held i)
theorem anyB_zero (ms held : List Int) : anyB ms held 0 = false := rfl
theorem anyB_succ (ms held : List Int) (n : Nat) : anyB ms held (n + 1) = (anyB ms held n || decide (Elig ms held n)) := by simp [anyB, List.range_succ]

/-- The clock's rounds: the marks, where the hand is, whom to let go. -/
def vrun (held : List Int) : Nat → List Int → Nat → Option (List Int × Nat × Nat)
  | 0, _, _ => none
  | k + 1, ms, h => if mk ms h = 0 ∨ (h : Int) ∈ held then vrun held k ms ((h + 1) % ms.length) else if mk ms h = 2 then vrun held k (ms.set h 1) ((h + 1) % ms.length) else some (ms, (h + 1) % ms.length, h)

theorem vrun_ends (held : List Int) : ∀ (M : Nat) (ms : List Int) (h : Nat), h < ms.length → Marks ms → (∃ d, d < ms.length ∧ Elig ms held ((h + d) % ms.length) ∧ ms.count 2 * (ms.length + 1) + d ≤ M) → ∃ r, vrun held (M + 1) ms h = some r := by
  intro M
  induction M with
  | zero =>
    intro ms h hh hm ⟨d, hd, he, hM⟩
    have hd0 : d = 0 := by omega
    subst hd0
    rw [Nat.add_zero, Nat.mod_eq_of_lt hh] at he
    have hc : ms.count 2 = 0 := by
      have h1 : ms.count 2 * (ms.length + 1) = 0 := by omega
      rcases Nat.mul_eq_zero.1 h1 with h2 | h2
      · exact h2
      · omega
    unfold vrun
    rw [if_neg (by intro h; rcases h with h | h; exact he.2.1 h; exact he.2.2 h)]
    have h2 : mk ms h ≠ 2 := by
      intro h2
      have : (2 : Int) ∈ ms := by
        unfold mk at h2
        rw [List.getElem?_eq_getElem hh] at h2
        simp at h2
        rw [← h2]; exact List.getElem_mem hh
      have := List.count_pos_iff.2 this
      omega
    rw [if_neg h2]
    exact ⟨_, rfl⟩
  | succ M ih =>
    intro ms h hh hm ⟨d, hd, he, hM⟩
    unfold vrun
    by_cases hE : Elig ms held h
    · rw [if_neg (by intro h'; rcases h' with h' | h'; exact hE.2.1 h'; exact hE.2.2 h')]
      by_cases h2 : mk ms h = 2
      · rw [if_pos h2]
        have hlen : (ms.set h 1).length = ms.length := by simp
        have hcount : ms.count 2 = (ms.set h 1).count 2 + 1 := by
          have h3 : ms[h] = 2 := by
            unfold mk at h2
            rw [List.getElem?_eq_getElem hh] at h2
            simpa using h2
          have h4 : (2 : Int) ∈ ms := by rw [← h3]; exact List.getElem_mem hh
          have h5 := List.count_pos_iff.2 h4
          have := List.count_set (a := (1 : Int)) (b := 2) (l := ms) (i := h) hh
          rw [h3] at this
          simp at this
          omega
        have hlt : (h + 1) % ms.length < ms.length := Nat.mod_lt _ (by omega)
        have := ih (ms.set h 1) ((h + 1) % ms.length) (by rw [hlen]; exact hlt) (hm.set h 1 (.inr (.inl rfl))) ⟨ms.length - 1, by rw [hlen]; omega, ?_, ?_⟩
        · exact this
        · rw [hlen, Nat.mod_add_mod, show h + 1 + (ms.length - 1) = h + ms.length by omega, Nat.add_mod_right, Nat.mod_eq_of_lt hh]
          refine ⟨by rw [hlen]; exact hh, ?_, hE.2.2⟩
          rw [mk_set ms h h 1 hh, if_pos rfl]; omega
        · rw [hlen]
          have h6 : ms.count 2 * (ms.length + 1) = (ms.set h 1).count 2 * (ms.length + 1) + (ms.length + 1) := by rw [hcount, Nat.add_mul, Nat.one_mul]
          omega
      · rw [if_neg h2]
        exact ⟨_, rfl⟩
    · have hskip : mk ms h = 0 ∨ (h : Int) ∈ held := by
        by_cases h0 : mk ms h = 0
        · exact .inl h0
        · by_cases h1 : (h : Int) ∈ held
          · exact .inr h1
          · exact absurd ⟨hh, h0, h1⟩ hE
      rw [if_pos hskip]
      have hd0 : d ≠ 0 := by
        intro h0
        subst h0
        rw [Nat.add_zero, Nat.mod_eq_of_lt hh] at he
        exact hE he
      refine ih ms ((h + 1) % ms.length) (Nat.mod_lt _ (by omega)) hm ⟨d - 1, by omega, ?_, by omega⟩
      rw [Nat.mod_add_mod, show h + 1 + (d - 1) = h + d by omega]
      exact he

theorem vrun_some (held ms : List Int) (h : Nat) (hh : h < ms.length) (hm : Marks ms) (ha : anyB ms held ms.length = true) : ∃ k r, vrun held k ms h = some r := by
  unfold anyB at ha
  rw [List.any_eq_true] at ha
  obtain ⟨i, hi, he⟩ := ha
  have he := of_decide_eq_true he
  have hi := List.mem_range.1 hi
  by_cases hhi : h ≤ i
  · obtain ⟨r, hr⟩ := vrun_ends held _ ms h hh hm ⟨i - h, by omega, by rw [show h + (i - h) = i by omega, Nat.mod_eq_of_lt hi]; exact he, Nat.le_refl _⟩
    exact ⟨_, r, hr⟩
  · obtain ⟨r, hr⟩ := vrun_ends held _ ms h hh hm ⟨i + ms.length - h, by omega, by rw [show h + (i + ms.length - h) = i + ms.length by omega, Nat.add_mod_right, Nat.mod_eq_of_lt hi]; exact he, Nat.le_refl _⟩
    exact ⟨_, r, hr⟩

theorem vrun_facts (held : List Int) : ∀ (k : Nat) (ms : List Int) (h : Nat) (r : List Int × Nat × Nat), vrun held k ms h = some r → h < ms.length → Marks ms → r.1.length = ms.length ∧ Marks r.1 ∧ r.2.1 < ms.length ∧ r.2.2 < ms.length := by
  intro k
  induction k with
  | zero => intro ms h r hr; simp [vrun] at hr
  | succ k ih =>
    intro ms h r hr hh hm
    unfold vrun at hr
    have hlt : (h + 1) % ms.length < ms.length := Nat.mod_lt _ (by omega)
    split at hr
    · exact ih ms _ r hr hlt hm
    · split at hr
      · have := ih (ms.set h 1) _ r hr (by simpa using hlt) (hm.set h 1 (.inr (.inl rfl)))
        simpa using this
      · cases hr
        exact ⟨rfl, hm, hlt, hh⟩

/-- More rounds give the same. -/
theorem vrun_more (held : List Int) : ∀ (k j : Nat) (ms : List Int) (h : Nat) (r : List Int × Nat × Nat), vrun held k ms h = some r → vrun held (k + j) ms h = some r := by
  intro k
  induction k with
  | zero => intro j ms h r hr; simp [vrun] at hr
  | succ k ih =>
    intro j ms h r hr
    rw [show k + 1 + j = (k + j) + 1 by omega]
    unfold vrun at hr ⊢
    split at hr
    · rename_i hc; rw [if_pos hc]; exact ih j _ _ r hr
    · rename_i hc; rw [if_neg hc]
      split at hr
      · rename_i hc2; rw [if_pos hc2]; exact ih j _ _ r hr
      · rename_i hc2; rw [if_neg hc2]; exact hr
theorem vrun_one (held : List Int) (k k' : Nat) (ms : List Int) (h : Nat) (r r' : List Int × Nat × Nat) (h1 : vrun held k ms h = some r) (h2 : vrun held k' ms h = some r') : r = r' := by
  have a := vrun_more held k k' ms h r h1
  have b := vrun_more held k' k ms h r' h2
  rw [Nat.add_comm] at b
  rw [a] at b
  exact Option.some.inj b

def placesTo (ms : List Int) (n : Nat) : List Int := ((List.range n).filter fun i => mk ms i != 0).map Int.ofNat
theorem placesTo_succ (ms : List Int) (n : Nat) : placesTo ms (n + 1) = if mk ms n = 0 then placesTo ms n else placesTo ms n ++ [(n : Int)] := by
  unfold placesTo
  rw [List.range_succ, List.filter_append, List.map_append]
  by_cases h : mk ms n = 0 <;> simp [h]
theorem placesTo_le (ms : List Int) (n : Nat) : (placesTo ms n).length ≤ n := by
  unfold placesTo
  rw [List.length_map]
  exact Nat.le_trans (List.length_filter_le _ _) (by simp)
end Go.Proofs.Ytooooidnchgkaaa
