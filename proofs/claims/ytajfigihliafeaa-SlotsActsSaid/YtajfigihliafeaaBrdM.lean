/- Plain mathematics of clusters: how many bits of each are clear. No program in sight. -/
import Derived.Test.YtajfigihliafeaaBitM
namespace Go.Proofs.Ytajfigihliafeaa
open Go.RowKit
set_option linter.unusedVariables false

def clr (n : Nat) (f : Nat → Bool) (i : Nat) : Bool := decide (i < n) && !f i
/-- How many of a cluster are free. -/
def fr (n : Nat) (f : Nat → Bool) (k : Nat) : Nat := cntF (clr n f) (64 * (k + 1)) - cntF (clr n f) (64 * k)
theorem cntF_mono {h : Nat → Bool} {A : Nat} : ∀ B, A ≤ B → cntF h A ≤ cntF h B := by
  intro B
  induction B with
  | zero => intro h; rw [Nat.le_zero.1 h]; exact Nat.le_refl _
  | succ B ih =>
    intro h
    by_cases e : A = B + 1
    · rw [e]; exact Nat.le_refl _
    · have := ih (by omega)
      simp only [cntF]; omega
theorem cntF_gap {h : Nat → Bool} {A : Nat} : ∀ B, A ≤ B → cntF h B ≤ cntF h A + (B - A) := by
  intro B
  induction B with
  | zero => intro h; rw [Nat.le_zero.1 h]; omega
  | succ B ih =>
    intro h
    by_cases e : A = B + 1
    · rw [e]; omega
    · have := ih (by omega)
      simp only [cntF]
      split <;> omega
theorem cntF_put_ge (h : Nat → Bool) (x n : Nat) (b : Bool) (hx : n ≤ x) : cntF (put h x b) n = cntF h n :=
  cntF_congr n fun i hi => by unfold put; rw [if_neg (by omega)]
theorem clr_set (n : Nat) (f : Nat → Bool) (x : Nat) (hx : x < n) : clr n (put f x true) = put (clr n f) x false := funext fun i => by
  unfold clr put
  by_cases h : i = x
  · rw [if_pos h, if_pos h]; simp
  · rw [if_neg h, if_neg h]
theorem clr_clear (n : Nat) (f : Nat → Bool) (x : Nat) (hx : x < n) : clr n (put f x false) = put (clr n f) x true := funext fun i => by
  unfold clr put
  by_cases h : i = x
  · rw [if_pos h, if_pos h, h]; simp [hx]
  · rw [if_neg h, if_neg h]
theorem clr_at {n : Nat} {f : Nat → Bool} {x : Nat} (hx : x < n) (hf : f x = false) : clr n f x = true := by unfold clr; simp [hx, hf]
theorem fr_set (n : Nat) (f : Nat → Bool) (x : Nat) (hx : x < n) (hf : f x = false) (k : Nat) : fr n (put f x true) k + (if k = x / 64 then 1 else 0) = fr n f k := by
  unfold fr
  rw [clr_set n f x hx]
  have h1 := fun m => cntF_put (clr n f) x (clr_at hx hf) m
  have h2 := fun m => cntF_put_ge (clr n f) x m false
  have hm := cntF_mono (h := clr n f) (A := 64 * k) (64 * (k + 1)) (by omega)
  have hm' := cntF_mono (h := put (clr n f) x false) (A := 64 * k) (64 * (k + 1)) (by omega)
  by_cases h : k = x / 64
  · rw [if_pos h]
    have := h1 (64 * (k + 1)) (by omega)
    have := h2 (64 * k) (by omega)
    omega
  · rw [if_neg h]
    by_cases hl : x < 64 * k
    · have := h1 (64 * (k + 1)) (by omega)
      have := h1 (64 * k) (by omega)
      omega
    · rw [h2 _ (by omega), h2 _ (by omega)]; omega
theorem put_put (f : Nat → Bool) (x : Nat) (b c : Bool) : put (put f x b) x c = put f x c := funext fun i => by
  unfold put
  by_cases h : i = x
  · rw [if_pos h, if_pos h]
  · rw [if_neg h, if_neg h, if_neg h]
theorem put_same (f : Nat → Bool) (x : Nat) (b : Bool) (h : f x = b) : put f x b = f := funext fun i => by
  unfold put
  by_cases e : i = x
  · rw [if_pos e, e, h]
  · rw [if_neg e]
theorem put_at (f : Nat → Bool) (x : Nat) (b : Bool) : put f x b x = b := if_pos rfl
theorem fr_clear (n : Nat) (f : Nat → Bool) (x : Nat) (hx : x < n) (hf : f x = true) (k : Nat) : fr n (put f x false) k = fr n f k + (if k = x / 64 then 1 else 0) := by
  have := fr_set n (put f x false) x hx (put_at _ _ _) k
  rw [put_put, put_same f x true hf] at this
  exact this.symm
theorem fr_le (n : Nat) (f : Nat → Bool) (k : Nat) : fr n f k ≤ 64 := by
  unfold fr
  have := cntF_gap (h := clr n f) (A := 64 * k) (64 * (k + 1)) (by omega)
  omega
theorem cntF_some {h : Nat → Bool} {A : Nat} : ∀ B, A ≤ B → (cntF h A < cntF h B ↔ ∃ i, A ≤ i ∧ i < B ∧ h i = true) := by
  intro B
  induction B with
  | zero => intro e; rw [Nat.le_zero.1 e]; exact ⟨fun h => absurd h (by omega), fun ⟨i, h1, h2, _⟩ => by omega⟩
  | succ B ih =>
    intro hA
    by_cases e : A = B + 1
    · rw [e]; exact ⟨fun h => absurd h (by omega), fun ⟨i, h1, h2, _⟩ => by omega⟩
    · have ih := ih (by omega)
      have hm := cntF_mono (h := h) (A := A) B (by omega)
      simp only [cntF]
      cases hb : h B
      · simp only [Bool.false_eq_true, if_false, Nat.add_zero]
        rw [ih]
        refine ⟨fun ⟨i, h1, h2, h3⟩ => ⟨i, h1, by omega, h3⟩, fun ⟨i, h1, h2, h3⟩ => ?_⟩
        rcases Nat.lt_or_ge i B with h4 | h4
        · exact ⟨i, h1, h4, h3⟩
        · rw [show i = B by omega, hb] at h3; cases h3
      · simp only [if_true]
        exact ⟨fun _ => ⟨B, by omega, by omega, hb⟩, fun _ => by omega⟩
theorem fr_pos (n : Nat) (f : Nat → Bool) (k : Nat) : 0 < fr n f k ↔ ∃ i, 64 * k ≤ i ∧ i < 64 * (k + 1) ∧ i < n ∧ f i = false := by
  unfold fr
  have := cntF_some (h := clr n f) (A := 64 * k) (64 * (k + 1)) (by omega)
  rw [show (0 < cntF (clr n f) (64 * (k + 1)) - cntF (clr n f) (64 * k)) ↔ cntF (clr n f) (64 * k) < cntF (clr n f) (64 * (k + 1)) by omega, this]
  constructor
  · rintro ⟨i, h1, h2, h3⟩
    unfold clr at h3
    simp at h3
    exact ⟨i, h1, h2, h3.1, h3.2⟩
  · rintro ⟨i, h1, h2, h3, h4⟩
    exact ⟨i, h1, h2, clr_at h3 h4⟩
theorem cntF_clr (n : Nat) (f : Nat → Bool) : ∀ m, m ≤ n → cntF f m + cntF (clr n f) m = m := by
  intro m
  induction m with
  | zero => intro _; rfl
  | succ m ih =>
    intro h
    have := ih (by omega)
    simp only [cntF]
    have hc : clr n f m = !f m := by unfold clr; simp [show m < n by omega]
    rw [hc]
    cases f m <;> simp <;> omega
theorem fr_new (n k : Nat) (h : 64 * k < n) : fr n (fun _ => false) k = min 64 (n - 64 * k) := by
  have key : ∀ m, cntF (clr n fun _ => false) m = min m n := by
    intro m
    induction m with
    | zero => simp [cntF]
    | succ m ih =>
      simp only [cntF]
      have hc : clr n (fun _ => false) m = decide (m < n) := by unfold clr; simp
      rw [hc, ih]
      by_cases h : m < n
      · simp [h]; omega
      · simp [h]; omega
  unfold fr
  rw [key, key]
  omega
theorem fr_none {n : Nat} {f : Nat → Bool} (h : ∀ k, k < wn n → fr n f k = 0) (i : Nat) (hi : i < n) : f i = true := by
  cases hf : f i
  · have := (fr_pos n f (i / 64)).2 ⟨i, by omega, by omega, hi, hf⟩
    have := h (i / 64) (by unfold wn; omega)
    omega
  · rfl
/-- The cluster with the fewest, of the first j. -/
def BestTo (n : Nat) (f : Nat → Bool) (j : Nat) (v : Int) : Prop :=
  (v = -1 ∧ ∀ k, k < j → fr n f k = 0) ∨ ∃ c : Nat, v = c ∧ c < j ∧ 0 < fr n f c ∧ ∀ k, k < j → 0 < fr n f k → fr n f c ≤ fr n f k ∧ (k < c → fr n f c < fr n f k)
theorem BestTo.start (n : Nat) (f : Nat → Bool) : BestTo n f 0 (-1) := .inl ⟨rfl, fun k h => by omega⟩
theorem BestTo.skip {n : Nat} {f : Nat → Bool} {j : Nat} {v : Int} (h : BestTo n f j v) (h0 : fr n f j = 0) : BestTo n f (j + 1) v := by
  rcases h with ⟨rfl, h⟩ | ⟨c, rfl, h1, h2, h3⟩
  · exact .inl ⟨rfl, fun k hk => by
      by_cases e : k = j
      · rw [e, h0]
      · exact h k (by omega)⟩
  · exact .inr ⟨c, rfl, by omega, h2, fun k hk hp => by
      by_cases e : k = j
      · rw [e, h0] at hp; omega
      · exact h3 k (by omega) hp⟩
theorem BestTo.first {n : Nat} {f : Nat → Bool} {j : Nat} (h : BestTo n f j (-1)) (h0 : 0 < fr n f j) : BestTo n f (j + 1) j := by
  rcases h with ⟨_, h⟩ | ⟨c, h, _⟩
  · refine .inr ⟨j, rfl, by omega, h0, fun k hk hp => ?_⟩
    by_cases e : k = j
    · rw [e]; exact ⟨Nat.le_refl _, fun h => by omega⟩
    · have := h k (by omega); omega
  · omega
theorem BestTo.less {n : Nat} {f : Nat → Bool} {j c : Nat} (h : BestTo n f j (c : Int)) (h0 : 0 < fr n f j) (hl : fr n f j < fr n f c) : BestTo n f (j + 1) j := by
  rcases h with ⟨h, _⟩ | ⟨c', h, h1, h2, h3⟩
  · omega
  · obtain rfl : c = c' := by omega
    refine .inr ⟨j, rfl, by omega, h0, fun k hk hp => ?_⟩
    by_cases e : k = j
    · rw [e]; exact ⟨Nat.le_refl _, fun h => by omega⟩
    · have := h3 k (by omega) hp; exact ⟨by omega, fun _ => by omega⟩
theorem BestTo.more {n : Nat} {f : Nat → Bool} {j c : Nat} (h : BestTo n f j (c : Int)) (hl : fr n f c ≤ fr n f j) : BestTo n f (j + 1) c := by
  rcases h with ⟨h, _⟩ | ⟨c', h, h1, h2, h3⟩
  · omega
  · obtain rfl : c = c' := by omega
    refine .inr ⟨c, rfl, by omega, h2, fun k hk hp => ?_⟩
    by_cases e : k = j
    · rw [e]; exact ⟨hl, fun h => by omega⟩
    · exact h3 k (by omega) hp
theorem BestTo.form {n : Nat} {f : Nat → Bool} {j : Nat} {v : Int} (h : BestTo n f j v) : v = -1 ∨ ∃ c : Nat, v = c ∧ c < j := by
  rcases h with ⟨rfl, _⟩ | ⟨c, rfl, h, _⟩
  · exact .inl rfl
  · exact .inr ⟨c, rfl, h⟩
/-- The slot that is taken: the first free one of the cluster with the fewest. -/
def PickS (n : Nat) (f : Nat → Bool) (s : Nat) : Prop :=
  s < n ∧ f s = false ∧ (∀ i, 64 * (s / 64) ≤ i → i < s → f i = true) ∧ ∀ k, k < wn n → 0 < fr n f k → fr n f (s / 64) ≤ fr n f k ∧ (k < s / 64 → fr n f (s / 64) < fr n f k)
theorem PickS.of_best {n : Nat} {f : Nat → Bool} {c s : Nat} (h : BestTo n f (wn n) (c : Int)) (h1 : 64 * c ≤ s) (h2 : s < 64 * (c + 1)) (hs : s < n) (hf : f s = false) (hb : ∀ i, 64 * c ≤ i → i < s → f i = true) : PickS n f s := by
  rcases h with ⟨h, _⟩ | ⟨c', h, h3, h4, h5⟩
  · omega
  · obtain rfl : c = c' := by omega
    have e : s / 64 = c := by omega
    unfold PickS
    rw [e]
    exact ⟨hs, hf, hb, h5⟩
theorem BestTo.clear {n : Nat} {f : Nat → Bool} {c : Nat} (h : BestTo n f (wn n) (c : Int)) : ∃ i, 64 * c ≤ i ∧ i < 64 * (c + 1) ∧ i < n ∧ f i = false := by
  rcases h with ⟨h, _⟩ | ⟨c', h, h3, h4, h5⟩
  · omega
  · obtain rfl : c = c' := by omega
    exact (fr_pos n f c).1 h4
theorem PickS.one {n : Nat} {f : Nat → Bool} {s t : Nat} (h : PickS n f s) (k : PickS n f t) : s = t := by
  obtain ⟨h1, h2, h3, h4⟩ := h
  obtain ⟨k1, k2, k3, k4⟩ := k
  have ps := (fr_pos n f (s / 64)).2 ⟨s, by omega, by omega, h1, h2⟩
  have pt := (fr_pos n f (t / 64)).2 ⟨t, by omega, by omega, k1, k2⟩
  have a := h4 (t / 64) (by unfold wn; omega) pt
  have b := k4 (s / 64) (by unfold wn; omega) ps
  have e : s / 64 = t / 64 := by
    rcases Nat.lt_trichotomy (s / 64) (t / 64) with h | h | h
    · have := b.2 h; omega
    · exact h
    · have := a.2 h; omega
  rcases Nat.lt_trichotomy s t with h | h | h
  · have := k3 s (by omega) h; rw [h2] at this; cases this
  · exact h
  · have := h3 t (by omega) h; rw [k2] at this; cases this
end Go.Proofs.Ytajfigihliafeaa
