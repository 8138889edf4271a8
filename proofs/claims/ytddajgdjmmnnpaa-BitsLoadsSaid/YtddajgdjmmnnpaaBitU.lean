/- Plain mathematics for BitsRuns: a list of runs, none touching another's bits. No program in sight. -/
import Derived.Test.YtddajgdjmmnnpaaBitE
namespace Go.Proofs.Ytddajgdjmmnnpaa
open Go.RowKit
set_option linter.unusedVariables false

def inR (a : Nat × Nat) (i : Nat) : Bool := decide (a.1 ≤ i ∧ i < a.1 + a.2)
/-- The bits of all these runs. -/
def cov (l : List (Nat × Nat)) (i : Nat) : Bool := l.any fun a => inR a i
theorem cov_nil : cov [] = fun _ => false := rfl
theorem cov_snoc (l : List (Nat × Nat)) (p k : Nat) : cov (l ++ [(p, k)]) = fillF (cov l) p k true := funext fun i => by
  unfold cov fillF
  simp only [List.any_append, List.any_cons, List.any_nil, Bool.or_false, inR]
  by_cases h : p ≤ i ∧ i < p + k
  · rw [if_pos h, decide_eq_true h, Bool.or_true]
  · rw [if_neg h, decide_eq_false h, Bool.or_false]
def Dis (l : List (Nat × Nat)) : Prop := l.Pairwise fun a b => ∀ i, ¬ (inR a i = true ∧ inR b i = true)
theorem cov_of_mem {l : List (Nat × Nat)} {a : Nat × Nat} (h : a ∈ l) {i : Nat} (hi : inR a i = true) : cov l i = true := List.any_eq_true.2 ⟨a, h, hi⟩
theorem Dis.snoc {l : List (Nat × Nat)} (h : Dis l) (p k : Nat) (hf : ∀ i, p ≤ i → i < p + k → cov l i = false) : Dis (l ++ [(p, k)]) := by
  refine List.pairwise_append.2 ⟨h, List.pairwise_singleton _ _, fun a ha b hb i hi => ?_⟩
  obtain rfl := List.mem_singleton.1 hb
  have h2 : p ≤ i ∧ i < p + k := of_decide_eq_true hi.2
  have := hf i h2.1 h2.2
  rw [cov_of_mem ha hi.1] at this
  cases this
theorem cov_drop {p k : Nat} {l : List (Nat × Nat)} (h : Dis ((p, k) :: l)) : fillF (cov ((p, k) :: l)) p k false = cov l := funext fun i => by
  have h1 := (List.pairwise_cons.1 h).1
  unfold fillF
  by_cases hi : p ≤ i ∧ i < p + k
  · rw [if_pos hi]
    cases hc : cov l i
    · rfl
    · obtain ⟨b, hb, hbi⟩ := List.any_eq_true.1 hc
      exact absurd ⟨decide_eq_true hi, hbi⟩ (h1 b hb i)
  · rw [if_neg hi]
    show (inR (p, k) i || cov l i) = cov l i
    rw [show inR (p, k) i = false from decide_eq_false hi, Bool.false_or]
theorem cov_head (p k : Nat) (l : List (Nat × Nat)) (i : Nat) (h1 : p ≤ i) (h2 : i < p + k) : cov ((p, k) :: l) i = true := cov_of_mem List.mem_cons_self (decide_eq_true ⟨h1, h2⟩)
theorem cntF_set (f : Nat → Bool) (x n : Nat) (hf : f x = false) (hx : x < n) : cntF (put f x true) n = cntF f n + 1 := by
  have e : put (put f x true) x false = f := funext fun i => by
    unfold put
    by_cases h : i = x
    · rw [if_pos h, h, hf]
    · rw [if_neg h, if_neg h]
  have := cntF_put (put f x true) x (if_pos rfl) n hx
  rw [e] at this
  omega
theorem cntF_fill (f : Nat → Bool) (p n : Nat) : ∀ k, p + k ≤ n → (∀ i, p ≤ i → i < p + k → f i = false) → cntF (fillF f p k true) n = cntF f n + k := by
  intro k
  induction k with
  | zero => intro _ _; rw [fillF_zero]; rfl
  | succ k ih =>
    intro hk hf
    rw [← fillF_succ, cntF_set _ _ _ (by unfold fillF; rw [if_neg (by omega)]; exact hf _ (by omega) (by omega)) (by omega), ih (by omega) (fun i h1 h2 => hf i h1 (by omega))]
    omega
theorem cntF_none (n : Nat) : cntF (fun _ => false) n = 0 := by
  induction n with
  | zero => rfl
  | succ n ih => simp [cntF, ih]
/-- What stands just before a run that was found is set. -/
theorem FindR.before {f : Nat → Bool} {n k : Nat} {p : Nat} (h : FindR f n k (p : Int)) (hp : 0 < p) : f (p - 1) = true := by
  rcases h with ⟨h, _⟩ | ⟨q, h, h1, h2, h3⟩
  · omega
  · obtain rfl : p = q := by omega
    obtain ⟨x, e1, e2, e3⟩ := h3 (p - 1) (by omega)
    by_cases e : x = p - 1
    · rw [← e]; exact e3
    · rw [h2 x (by omega) (by omega)] at e3; cases e3
end Go.Proofs.Ytddajgdjmmnnpaa
