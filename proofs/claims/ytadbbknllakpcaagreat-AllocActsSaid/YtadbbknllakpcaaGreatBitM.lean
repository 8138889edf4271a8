/- Plain mathematics: counts of bits; what Find says. No program in sight. -/
import Derived.Test.YtadbbknllakpcaaGreatBitF
import Derived.Test.YtadbbknllakpcaaGreatBitB
namespace Go.Proofs.YtadbbknllakpcaaGreat
open Go.RowKit
set_option linter.unusedVariables false

theorem cntF_set (f : Nat → Bool) (x n : Nat) (hf : f x = false) (hx : x < n) : cntF (put f x true) n = cntF f n + 1 := by
  have e : put (put f x true) x false = f := funext fun i => by
    unfold put
    by_cases h : i = x
    · rw [if_pos h, h, hf]
    · rw [if_neg h, if_neg h]
  have := cntF_put (put f x true) x (if_pos rfl) n hx
  rw [e] at this
  omega
theorem cntF_fill (f : Nat → Bool) (p n : Nat) : ∀ k, p + k ≤ n → (∀ i, p ≤ i → i < p + k → f i = false) → cntF (fillF f p k true) n = cntF f n + k := by
  intro k
  induction k with
  | zero => intro _ _; rw [fillF_zero]; rfl
  | succ k ih =>
    intro hk hf
    rw [← fillF_succ, cntF_set _ _ _ (by unfold fillF; rw [if_neg (by omega)]; exact hf _ (by omega) (by omega)) (by omega), ih (by omega) (fun i h1 h2 => hf i h1 (by omega))]
    omega
theorem cntF_none (n : Nat) : cntF (fun _ => false) n = 0 := by
  induction n with
  | zero => rfl
  | succ n ih => simp [cntF, ih]
theorem FindR.hit {f : Nat → Bool} {n k : Nat} {p : Nat} (h : FindR f n k (p : Int)) : p + k ≤ n ∧ ∀ i, p ≤ i → i < p + k → f i = false := by
  rcases h with ⟨h, _⟩ | ⟨q, h, h1, h2, h3⟩
  · omega
  · obtain rfl : p = q := by omega
    exact ⟨h1, h2⟩
theorem FindR.form {f : Nat → Bool} {n k : Nat} {v : Int} (h : FindR f n k v) : v = -1 ∨ ∃ p : Nat, v = p := by
  rcases h with ⟨h, _⟩ | ⟨q, h, _⟩
  · exact .inl h
  · exact .inr ⟨q, h⟩
end Go.Proofs.YtadbbknllakpcaaGreat
