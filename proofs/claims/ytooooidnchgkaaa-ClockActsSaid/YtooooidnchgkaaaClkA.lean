/- ClockAll: plain mathematics and the walk over the contracts. -/
import Derived.Test.YtooooidnchgkaaaClkL
namespace Go.Proofs.Ytooooidnchgkaaa
open Go.RowKit
set_option linter.unusedVariables false

theorem vrun_elig (held : List Int) : ∀ (K : Nat) (ms : List Int) (h : Nat) (r : List Int × Nat × Nat), vrun held K ms h = some r → h < ms.length → Elig ms held r.2.2 ∧ r.1.length = ms.length ∧ ∀ x, mk r.1 x = 0 ↔ mk ms x = 0 := by
  intro K
  induction K with
  | zero => intro ms h r hr; simp [vrun] at hr
  | succ K ih =>
    intro ms h r hr hl
    unfold vrun at hr
    have hlt : (h + 1) % ms.length < ms.length := Nat.mod_lt _ (by omega)
    split at hr
    · exact ih ms _ r hr hlt
    · rename_i hc
      split at hr
      · rename_i h2
        obtain ⟨e1, e2, e3⟩ := ih (ms.set h 1) _ r hr (by simpa using hlt)
        have hz : ∀ x, mk (ms.set h 1) x = 0 ↔ mk ms x = 0 := fun x => by
          rw [mk_set ms h x 1 hl]
          by_cases hx : x = h
          · subst hx; rw [if_pos rfl]; omega
          · rw [if_neg hx]
        refine ⟨⟨by simpa using e1.1, fun h0 => e1.2.1 ((hz _).2 h0), e1.2.2⟩, by simpa using e2, fun x => (e3 x).trans (hz x)⟩
      · cases hr
        exact ⟨⟨hl, fun h0 => hc (.inl h0), fun h0 => hc (.inr h0)⟩, rfl, fun x => Iff.rfl⟩

/-- A row of values by a function. -/
def fnV (k : Nat) (f : Nat → Value) : List Value := (List.range k).map f
theorem fnV_at (k : Nat) (f : Nat → Value) (i : Nat) (h : i < k) : (fnV k f)[i]? = some (f i) := by simp [fnV, h]
theorem fnV_set (k : Nat) (f : Nat → Value) (i : Nat) (v : Value) : (fnV k f).set i v = fnV k (fun j => if j = i then v else f j) := by
  apply List.ext_getElem
  · simp [fnV]
  · intro j h1 h2
    simp only [fnV, List.getElem_set, List.getElem_map, List.getElem_range]
    by_cases h : i = j
    · rw [if_pos h, if_pos h.symm]
    · rw [if_neg h, if_neg (fun e => h e.symm)]
/-- How many of the first k are false. -/
def falses (f : Nat → Bool) : Nat → Nat
  | 0 => 0
  | k + 1 => falses f k + if f k then 0 else 1
theorem falses_congr {f g : Nat → Bool} : ∀ k, (∀ i, i < k → f i = g i) → falses f k = falses g k := by
  intro k
  induction k with
  | zero => intro _; rfl
  | succ k ih => intro h; simp only [falses]; rw [ih (fun i hi => h i (by omega)), h k (by omega)]
theorem falses_set (f : Nat → Bool) (v : Nat) (hv : f v = false) : ∀ k, v < k → falses f k = falses (fun x => if x = v then true else f x) k + 1 := by
  intro k
  induction k with
  | zero => intro h; omega
  | succ k ih =>
    intro h
    simp only [falses]
    by_cases hk : v = k
    · subst hk
      have hc := falses_congr (f := f) (g := fun x => if x = v then true else f x) v (fun i hi => (if_neg (show ¬ i = v by omega)).symm)
      rw [hc]
      simp [hv]
    · have hn : (if k = v then true else f k) = f k := if_neg (fun e => hk e.symm)
      simp only [hn]
      rw [ih (by omega)]
      omega
theorem falses_pos (f : Nat → Bool) : ∀ k, 0 < falses f k → ∃ i, i < k ∧ f i = false := by
  intro k
  induction k with
  | zero => intro h; simp [falses] at h
  | succ k ih =>
    intro h
    simp only [falses] at h
    cases hf : f k
    · exact ⟨k, by omega, hf⟩
    · rw [hf] at h
      obtain ⟨i, hi, h2⟩ := ih (by simpa using h)
      exact ⟨i, by omega, h2⟩
theorem falses_zero (f : Nat → Bool) : ∀ k, falses f k = 0 → ∀ i, i < k → f i = true := by
  intro k
  induction k with
  | zero => intro _ i hi; omega
  | succ k ih =>
    intro h i hi
    simp only [falses] at h
    cases hf : f k
    · rw [hf] at h; simp at h
    · rw [hf] at h
      by_cases hik : i = k
      · rw [hik]; exact hf
      · exact ih (by simpa using h) i (by omega)
theorem falses_le (f : Nat → Bool) : ∀ k, falses f k ≤ k := by
  intro k
  induction k with
  | zero => simp [falses]
  | succ k ih => simp only [falses]; split <;> omega

theorem anyB_iff (ms held : List Int) (n : Nat) : anyB ms held n = true ↔ ∃ i, i < n ∧ Elig ms held i := by
  unfold anyB
  rw [List.any_eq_true]
  constructor
  · rintro ⟨i, hi, he⟩; exact ⟨i, List.mem_range.1 hi, of_decide_eq_true he⟩
  · rintro ⟨i, hi, he⟩; exact ⟨i, List.mem_range.2 hi, decide_eq_true he⟩
/-- gone tells just who may not be let go any more. -/
def Gone (ms held : List Int) (f : Nat → Bool) : Prop := ∀ x, x < ms.length → (f x = false ↔ Elig ms held x)
theorem vicR_all {ms ms' held : List Int} {h h' : Nat} {v : Int} {f : Nat → Bool} (hv : VicR held ms h ms' h' v) (hl : h < ms.length) (hg : Gone ms held f) (hp : 0 < falses f ms.length) :
    ∃ i : Nat, v = i ∧ i < ms.length ∧ f i = false ∧ Gone (setL ms' i 0) held (fun x => if x = i then true else f x) ∧ ms'.length = ms.length := by
  rcases hv with ⟨h0, _⟩ | ⟨k, i, h0, hr, rfl⟩
  · exfalso
    obtain ⟨i, hi, h2⟩ := falses_pos f _ hp
    have := (anyB_iff ms held ms.length).2 ⟨i, hi, (hg i hi).1 h2⟩
    rw [this] at h0; cases h0
  · obtain ⟨e1, e2, e3⟩ := vrun_elig held k ms h _ hr hl
    have e1 : Elig ms held i := e1
    have e2 : ms'.length = ms.length := e2
    have e3 : ∀ x, mk ms' x = 0 ↔ mk ms x = 0 := e3
    refine ⟨i, rfl, e1.1, (hg i e1.1).2 e1, ?_, e2⟩
    have hset : setL ms' i 0 = ms'.set i 0 := by unfold setL; rw [if_pos ⟨by omega, by rw [e2]; have := e1.1; omega⟩, Int.toNat_natCast]
    rw [hset]
    intro x hx
    have hx' : x < ms.length := by simpa [e2] using hx
    show (if x = i then true else f x) = false ↔ _
    by_cases hxi : x = i
    · subst hxi
      rw [if_pos rfl]
      refine ⟨fun h => (Bool.noConfusion h), fun h => absurd ?_ h.2.1⟩
      rw [mk_set ms' x x 0 (by rw [e2]; exact hx'), if_pos rfl]
    · rw [if_neg hxi, hg x hx']
      unfold Elig
      rw [mk_set ms' i x 0 (by rw [e2]; exact e1.1), if_neg hxi]
      simp only [List.length_set, e2, ne_eq, e3]
theorem vicR_none {ms ms' held : List Int} {h h' : Nat} {v : Int} {f : Nat → Bool} (hv : VicR held ms h ms' h' v) (hg : Gone ms held f) (hp : falses f ms.length = 0) : v = -1 := by
  rcases hv with ⟨_, _, _, rfl⟩ | ⟨k, i, h0, hr, _⟩
  · rfl
  · exfalso
    obtain ⟨x, hx, he⟩ := (anyB_iff ms held ms.length).1 h0
    have := falses_zero f _ hp x hx
    have h2 := (hg x hx).2 he
    rw [this] at h2; cases h2

/-- All places are in use. -/
def InUse (ms : List Int) : Prop := ∀ x, x < ms.length → mk ms x ≠ 0
theorem InUse.touch {ms : List Int} (h : InUse ms) (i : Int) : InUse (touchL ms i) := by
  intro x hx
  rw [touchL_length] at hx
  unfold touchL
  split
  · rename_i hc
    rw [mk_set ms i.toNat x 2 (by omega)]
    split
    · omega
    · exact h x hx
  · exact h x hx
theorem inUse_ones (k : Nat) : InUse (fnL k (fun _ => 1)) := fun x hx => by rw [fnL_length] at hx; rw [mk_fnL k _ x hx]; omega
theorem gone_start {ms held : List Int} (h : InUse ms) : Gone ms held (fun x => decide ((x : Int) ∈ held)) := fun x hx => by
  unfold Elig
  simp only [decide_eq_false_iff_not]
  exact ⟨fun h2 => ⟨hx, h x hx, h2⟩, fun h2 => h2.2.2⟩
end Go.Proofs.Ytooooidnchgkaaa
