/- Plain mathematics for layer 8: the lowest bit of a word; the next bit that is set; how many are. No program in sight. -/
import Derived.Test.YtadbbknllakpcaaBitA
import Derived.Test.YtadbbknllakpcaaLog
namespace Go.Proofs.Ytadbbknllakpcaa
open Go.RowKit
set_option linter.unusedVariables false

theorem least {p : Nat → Bool} : ∀ n, (∃ b, b < n ∧ p b = true) → ∃ b, b < n ∧ p b = true ∧ ∀ i, i < b → p i = false := by
  intro n
  induction n with
  | zero => rintro ⟨b, hb, _⟩; omega
  | succ n ih =>
    rintro ⟨b, hb, hp⟩
    by_cases h : ∃ b, b < n ∧ p b = true
    · obtain ⟨c, hc, h1, h2⟩ := ih h
      exact ⟨c, by omega, h1, h2⟩
    · have hall : ∀ i, i < n → p i = false := fun i hi => by
        cases hpi : p i
        · rfl
        · exact absurd ⟨i, hi, hpi⟩ h
      have : b = n := by
        rcases Nat.lt_or_ge b n with h3 | h3
        · have := hall b h3; rw [hp] at this; cases this
        · omega
      subst this
      exact ⟨b, hb, hp, hall⟩
/-- A word by its lowest bit. -/
theorem low_mod {x t : Nat} (h1 : x.testBit t = true) (h2 : ∀ i, i < t → x.testBit i = false) : x % 2 ^ (t + 1) = 2 ^ t := by
  apply Nat.eq_of_testBit_eq
  intro i
  rw [Nat.testBit_mod_two_pow, Nat.testBit_two_pow]
  by_cases hi : i < t
  · rw [h2 i hi]; simp; omega
  · by_cases he : i = t
    · subst he; simp [h1]
    · simp [show ¬ i < t + 1 by omega]; omega
theorem low_pred {x t : Nat} (h : x % 2 ^ (t + 1) = 2 ^ t) (i : Nat) : (x - 1).testBit i = if i < t then true else if i = t then false else x.testBit i := by
  have hp : 0 < 2 ^ t := Nat.pow_pos (by omega)
  have hs : 2 ^ (t + 1) = 2 * 2 ^ t := by rw [Nat.pow_succ, Nat.mul_comm]
  have hx := Nat.div_add_mod x (2 ^ (t + 1))
  rw [h] at hx
  generalize hq : x / 2 ^ (t + 1) = q at hx
  have hx1 : x - 1 = 2 ^ (t + 1) * q + (2 ^ t - 1) := by omega
  rw [hx1]
  by_cases hi : i < t
  · rw [if_pos hi, Nat.testBit_two_pow_mul_add _ (by omega)]
    rw [if_pos (by omega), Nat.testBit_two_pow_sub_one]
    simp [hi]
  · rw [if_neg hi]
    by_cases he : i = t
    · rw [if_pos he, Nat.testBit_two_pow_mul_add _ (by omega), if_pos (by omega), Nat.testBit_two_pow_sub_one]
      simp; omega
    · rw [if_neg he, Nat.testBit_two_pow_mul_add _ (by omega), if_neg (by omega), ← hx, Nat.testBit_two_pow_mul_add _ (by omega), if_neg (by omega)]
theorem low_and {x t : Nat} (hx : x < 18446744073709551616) (h1 : x.testBit t = true) (h2 : ∀ i, i < t → x.testBit i = false) : x &&& (18446744073709551616 - x) = 2 ^ t := by
  have hm := low_mod h1 h2
  have h0 : 0 < x := by
    rcases Nat.eq_zero_or_pos x with h | h
    · rw [h] at h1; simp at h1
    · exact h
  have e : 18446744073709551616 - x = 2 ^ 64 - ((x - 1) + 1) := by omega
  have hlt : x - 1 < 2 ^ 64 := by omega
  have ht : t < 64 := by
    rcases Nat.lt_or_ge t 64 with h | h
    · exact h
    · rw [Nat.testBit_lt_two_pow (Nat.lt_of_lt_of_le hx (Nat.pow_le_pow_right (n := 2) (by omega) h))] at h1; cases h1
  apply Nat.eq_of_testBit_eq
  intro i
  rw [e, Nat.testBit_and, Nat.testBit_two_pow_sub_succ hlt, low_pred hm i, Nat.testBit_two_pow]
  by_cases hi : i < t
  · rw [h2 i hi]; simp; omega
  · by_cases he : i = t
    · subst he; simp [h1, ht]
    · rw [if_neg hi, if_neg he]
      have : ¬ t = i := fun e => he e.symm
      cases x.testBit i <;> simp [this]
theorem lg_pow (t : Nat) : lg (2 ^ t) = t := by
  unfold lg
  rw [if_neg (by have := Nat.pow_pos (n := t) (show 0 < 2 by omega); omega), Nat.log2_two_pow]
/-- x & -x, as the machine reckons it. -/
theorem low_bits {x t : Nat} (hx : x < 18446744073709551616) (h1 : x.testBit t = true) (h2 : ∀ i, i < t → x.testBit i = false) : bits .and .u64 (x : Int) (IntKind.u64.wrap (-(x : Int))) = ((2 ^ t : Nat) : Int) := by
  have h0 : 0 < x := by
    rcases Nat.eq_zero_or_pos x with h | h
    · rw [h] at h1; simp at h1
    · exact h
  have e : IntKind.u64.wrap (-(x : Int)) = ((18446744073709551616 - x : Nat) : Int) := by rw [IntKind.wrap_u64]; omega
  rw [e, u64_and_nat _ _ hx (by omega), low_and hx h1 h2]
/-- x & (x - 1), as the machine reckons it. -/
theorem clear_and (f : Nat → Bool) (k t : Nat) (ht : t < 64) (h1 : f (64 * k + t) = true) (h2 : ∀ i, i < t → f (64 * k + i) = false) : wd f k &&& (wd f k - 1) = wd (put f (64 * k + t) false) k := by
  have b1 : (wd f k).testBit t = true := by rw [wd_testBit]; simp [ht, h1]
  have b2 : ∀ i, i < t → (wd f k).testBit i = false := fun i hi => by rw [wd_testBit, h2 i hi]; simp
  have hm := low_mod b1 b2
  apply Nat.eq_of_testBit_eq
  intro i
  rw [Nat.testBit_and, low_pred hm i, wd_testBit, wd_testBit]
  unfold put
  by_cases hi : i < t
  · rw [if_pos hi, if_neg (by omega), h2 i hi]; simp
  · rw [if_neg hi]
    by_cases he : i = t
    · subst he; simp
    · rw [if_neg he, if_neg (by omega)]; simp

/-- The next bit that is set, from A on. -/
def NextR (f : Nat → Bool) (A : Nat) (v : Int) : Prop :=
  (v = -1 ∧ ∀ i, A ≤ i → f i = false) ∨ ∃ x : Nat, v = x ∧ A ≤ x ∧ f x = true ∧ ∀ i, A ≤ i → i < x → f i = false
theorem NextR.one {f : Nat → Bool} {A : Nat} {v v' : Int} (h : NextR f A v) (h' : NextR f A v') : v = v' := by
  rcases h with ⟨rfl, h⟩ | ⟨x, rfl, h1, h2, h3⟩ <;> rcases h' with ⟨rfl, h'⟩ | ⟨y, rfl, g1, g2, g3⟩
  · rfl
  · rw [h y g1] at g2; cases g2
  · rw [h' x h1] at h2; cases h2
  · rcases Nat.lt_trichotomy x y with e | e | e
    · rw [g3 x h1 e] at h2; cases h2
    · rw [e]
    · rw [h3 y g1 e] at g2; cases g2
/-- How many of the first n are set. -/
def cntF (f : Nat → Bool) : Nat → Nat
  | 0 => 0
  | n + 1 => cntF f n + if f n then 1 else 0
theorem cntF_le (f : Nat → Bool) (n : Nat) : cntF f n ≤ n := by
  induction n with
  | zero => simp [cntF]
  | succ n ih => simp only [cntF]; split <;> omega
theorem cntF_congr {f g : Nat → Bool} : ∀ n, (∀ i, i < n → f i = g i) → cntF f n = cntF g n := by
  intro n
  induction n with
  | zero => intro _; rfl
  | succ n ih => intro h; simp only [cntF]; rw [ih (fun i hi => h i (by omega)), h n (by omega)]
theorem cntF_put (f : Nat → Bool) (x : Nat) (hf : f x = true) : ∀ n, x < n → cntF (put f x false) n + 1 = cntF f n := by
  intro n
  induction n with
  | zero => intro h; omega
  | succ n ih =>
    intro h
    simp only [cntF]
    by_cases e : x = n
    · subst e
      have : cntF (put f x false) x = cntF f x := cntF_congr x (fun i hi => if_neg (by omega))
      rw [this, hf]
      simp [put]
    · have e2 : put f x false n = f n := if_neg (fun e' => e e'.symm)
      rw [e2]
      have := ih (by omega)
      omega
theorem cntF_flat {f : Nat → Bool} {a : Nat} : ∀ m, a ≤ m → (∀ i, a ≤ i → i < m → f i = false) → cntF f m = cntF f a := by
  intro m
  induction m with
  | zero => intro h _; have : a = 0 := by omega
            rw [this]
  | succ m ih =>
    intro h hf
    by_cases e : a = m + 1
    · rw [e]
    · simp only [cntF]
      rw [ih (by omega) (fun i h1 h2 => hf i h1 (by omega)), hf m (by omega) (by omega)]; simp
theorem cntF_more {f : Nat → Bool} {n : Nat} (h : ∀ i, n ≤ i → f i = false) : ∀ m, n ≤ m → cntF f m = cntF f n := by
  intro m hm
  induction m with
  | zero => have : n = 0 := by omega
            rw [this]
  | succ m ih =>
    by_cases e : n = m + 1
    · rw [e]
    · simp only [cntF]; rw [ih (by omega), h m (by omega)]; simp
end Go.Proofs.Ytadbbknllakpcaa
