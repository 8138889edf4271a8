/- Plain mathematics for layer 8 (bits): words of 64 bits out of a function. No program in sight. -/
import Derived.Test.YtadbbknllakpcaaMem
import Derived.Test.YtadbbknllakpcaaBase
namespace Go.Proofs.Ytadbbknllakpcaa
open Go.RowKit
set_option linter.unusedVariables false

/-- A row of values by a function. -/
def fnV (k : Nat) (f : Nat → Value) : List Value := (List.range k).map f
theorem fnV_length (k : Nat) (f : Nat → Value) : (fnV k f).length = k := by simp [fnV]
theorem fnV_at (k : Nat) (f : Nat → Value) (i : Nat) (h : i < k) : (fnV k f)[i]? = some (f i) := by simp [fnV, h]
theorem fnV_set (k : Nat) (f : Nat → Value) (i : Nat) (v : Value) : (fnV k f).set i v = fnV k (fun j => if j = i then v else f j) := by
  apply List.ext_getElem
  · simp [fnV]
  · intro j h1 h2
    simp only [fnV, List.getElem_set, List.getElem_map, List.getElem_range]
    by_cases h : i = j
    · rw [if_pos h, if_pos h.symm]
    · rw [if_neg h, if_neg (fun e => h e.symm)]
theorem fnV_congr {k : Nat} {f g : Nat → Value} (h : ∀ i, i < k → f i = g i) : fnV k f = fnV k g := List.map_congr_left (fun i hi => h i (List.mem_range.1 hi))
theorem fnV_rep (k : Nat) (v : Value) : List.replicate k v = fnV k (fun _ => v) := by
  apply List.ext_getElem
  · simp [fnV]
  · intro j h1 h2; simp [fnV]

/-- The first b bits of word k of the row f. -/
def wdTo (f : Nat → Bool) (k : Nat) : Nat → Nat
  | 0 => 0
  | b + 1 => wdTo f k b + if f (64 * k + b) then 2 ^ b else 0
theorem wdTo_lt (f : Nat → Bool) (k : Nat) : ∀ b, wdTo f k b < 2 ^ b := by
  intro b
  induction b with
  | zero => simp [wdTo]
  | succ b ih => simp only [wdTo]; rw [Nat.pow_succ]; split <;> omega
theorem wdTo_testBit (f : Nat → Bool) (k : Nat) : ∀ b i, (wdTo f k b).testBit i = (decide (i < b) && f (64 * k + i)) := by
  intro b
  induction b with
  | zero => intro i; simp [wdTo]
  | succ b ih =>
    intro i
    simp only [wdTo]
    have hlt := wdTo_lt f k b
    by_cases hf : f (64 * k + b) = true
    · rw [if_pos hf, Nat.add_comm]
      by_cases h1 : i < b
      · rw [Nat.testBit_two_pow_add_gt h1, ih]; simp [h1, show i < b + 1 by omega]
      · by_cases h2 : i = b
        · subst h2
          rw [Nat.testBit_two_pow_add_eq, ih]; simp [hf]
        · have hlt2 : 2 ^ b + wdTo f k b < 2 ^ i := by
            have : 2 ^ (b + 1) ≤ 2 ^ i := Nat.pow_le_pow_right (by omega) (by omega)
            rw [Nat.pow_succ] at this; omega
          rw [Nat.testBit_lt_two_pow hlt2]; simp [show ¬ i < b + 1 by omega]
    · rw [if_neg hf, Nat.add_zero, ih]
      have hf : f (64 * k + b) = false := by simpa using hf
      by_cases h1 : i < b
      · simp [h1, show i < b + 1 by omega]
      · by_cases h2 : i = b
        · subst h2; simp [hf]
        · simp [h1, show ¬ i < b + 1 by omega]
/-- Word k of the row f. -/
def wd (f : Nat → Bool) (k : Nat) : Nat := wdTo f k 64
theorem wd_lt (f : Nat → Bool) (k : Nat) : wd f k < 18446744073709551616 := wdTo_lt f k 64
theorem wd_testBit (f : Nat → Bool) (k i : Nat) : (wd f k).testBit i = (decide (i < 64) && f (64 * k + i)) := wdTo_testBit f k 64 i
theorem wd_bit (f : Nat → Bool) (i : Nat) : (wd f (i / 64) / 2 ^ (i % 64)) % 2 = if f i then 1 else 0 := by
  have h := wd_testBit f (i / 64) (i % 64)
  rw [Nat.testBit_eq_decide_div_mod_eq, show 64 * (i / 64) + i % 64 = i by omega] at h
  have h2 : decide (i % 64 < 64) = true := decide_eq_true (by omega)
  rw [h2, Bool.true_and] at h
  by_cases hf : f i = true
  · rw [hf] at h; rw [if_pos hf]; exact of_decide_eq_true h
  · have hf : f i = false := by simpa using hf
    rw [hf] at h
    have := of_decide_eq_false h
    rw [if_neg (by simp [hf])]
    omega
theorem wd_congr {f g : Nat → Bool} {k : Nat} (h : ∀ b, b < 64 → f (64 * k + b) = g (64 * k + b)) : wd f k = wd g k := by
  apply Nat.eq_of_testBit_eq
  intro i
  rw [wd_testBit, wd_testBit]
  by_cases hi : i < 64
  · rw [h i hi]
  · simp [hi]
/-- One bit set to something. -/
def put (f : Nat → Bool) (i : Nat) (b : Bool) (j : Nat) : Bool := if j = i then b else f j
theorem wd_other (f : Nat → Bool) (i k : Nat) (b : Bool) (h : k ≠ i / 64) : wd (put f i b) k = wd f k :=
  wd_congr (fun c hc => if_neg (by omega))
theorem wd_flip (f : Nat → Bool) (i : Nat) : wd (put f i (!f i)) (i / 64) = wd f (i / 64) ^^^ 2 ^ (i % 64) := by
  apply Nat.eq_of_testBit_eq
  intro j
  rw [Nat.testBit_xor, wd_testBit, wd_testBit, Nat.testBit_two_pow]
  unfold put
  by_cases hj : j < 64
  · by_cases he : i % 64 = j
    · have e : 64 * (i / 64) + j = i := by omega
      simp [hj, he, e]
    · have e : ¬ 64 * (i / 64) + j = i := by omega
      simp [hj, he, e]
  · have : ¬ i % 64 = j := by omega
    simp [hj, this]
theorem wd_or (f : Nat → Bool) (i : Nat) : wd (put f i true) (i / 64) = wd f (i / 64) ||| 2 ^ (i % 64) := by
  apply Nat.eq_of_testBit_eq
  intro j
  rw [Nat.testBit_or, wd_testBit, wd_testBit, Nat.testBit_two_pow]
  unfold put
  by_cases hj : j < 64
  · by_cases he : i % 64 = j
    · have e : 64 * (i / 64) + j = i := by omega
      simp [hj, he, e]
    · have e : ¬ 64 * (i / 64) + j = i := by omega
      simp [hj, he, e]
  · have : ¬ i % 64 = j := by omega
    simp [hj, this]
theorem wd_andNot (f : Nat → Bool) (i : Nat) : wd (put f i false) (i / 64) = wd f (i / 64) &&& (18446744073709551615 - 2 ^ (i % 64)) := by
  have hp : 2 ^ (i % 64) < 2 ^ 64 := Nat.pow_lt_pow_right (by omega) (by omega)
  have e : 18446744073709551615 - 2 ^ (i % 64) = 2 ^ 64 - (2 ^ (i % 64) + 1) := by omega
  apply Nat.eq_of_testBit_eq
  intro j
  rw [e, Nat.testBit_and, Nat.testBit_two_pow_sub_succ hp, wd_testBit, wd_testBit, Nat.testBit_two_pow]
  unfold put
  by_cases hj : j < 64
  · by_cases he : i % 64 = j
    · have e : 64 * (i / 64) + j = i := by omega
      simp [hj, he, e]
    · have e : ¬ 64 * (i / 64) + j = i := by omega
      simp [hj, he, e]
  · simp [hj]
theorem wd_zero (k : Nat) : wd (fun _ => false) k = 0 := by
  apply Nat.eq_of_testBit_eq
  intro j
  rw [wd_testBit]; simp
theorem wd_eq_zero {f : Nat → Bool} {k : Nat} : wd f k = 0 ↔ ∀ b, b < 64 → f (64 * k + b) = false := by
  constructor
  · intro h b hb
    have := wd_testBit f k b
    rw [h] at this
    simpa [hb] using this.symm
  · intro h
    rw [← wd_zero k]
    exact wd_congr h
/-- The bits that word k of a row of n may have. -/
def msk (n k : Nat) : Nat := wd (fun i => decide (i < n)) k
theorem msk_val (n k : Nat) (h : 64 * k < n) : msk n k = if 64 ≤ n - 64 * k then 18446744073709551615 else 2 ^ (n - 64 * k) - 1 := by
  apply Nat.eq_of_testBit_eq
  intro j
  unfold msk
  rw [wd_testBit]
  split
  · rw [show (18446744073709551615 : Nat) = 2 ^ 64 - 1 from rfl, Nat.testBit_two_pow_sub_one]
    by_cases hj : j < 64
    · simp [hj, show 64 * k + j < n by omega]
    · simp [hj]
  · rw [Nat.testBit_two_pow_sub_one]
    by_cases hj : j < 64
    · by_cases h2 : 64 * k + j < n
      · simp [hj, h2, show j < n - 64 * k by omega]
      · simp [h2, show ¬ j < n - 64 * k by omega]
    · simp [hj, show ¬ j < n - 64 * k by omega]
theorem msk_pos (n k : Nat) (h : 64 * k < n) : msk n k ≠ 0 := by
  intro h0
  have := wd_eq_zero.1 h0 0 (by omega)
  simp at this
  omega
/-- Is word k full? -/
def fullB (n : Nat) (f : Nat → Bool) (k : Nat) : Bool := decide (64 * k < n) && (wd f k == msk n k)
/-- How many words so many bits need. -/
def wn (n : Nat) : Nat := (n + 63) / 64
theorem fullB_new (n k : Nat) : fullB n (fun _ => false) k = false := by
  unfold fullB
  by_cases h : 64 * k < n
  · have := msk_pos n k h
    rw [wd_zero]
    simp [h]
    exact fun e => this e.symm
  · simp [h]
theorem fullB_iff (n : Nat) (f : Nat → Bool) (k : Nat) (hf : ∀ i, n ≤ i → f i = false) : fullB n f k = true ↔ 64 * k < n ∧ ∀ b, b < 64 → 64 * k + b < n → f (64 * k + b) = true := by
  unfold fullB
  rw [Bool.and_eq_true, decide_eq_true_iff, beq_iff_eq]
  constructor
  · rintro ⟨h1, h2⟩
    refine ⟨h1, fun b hb hn => ?_⟩
    have := congrArg (fun x => Nat.testBit x b) h2
    simp only [msk, wd_testBit] at this
    simpa [hb, hn] using this
  · rintro ⟨h1, h2⟩
    refine ⟨h1, wd_congr fun b hb => ?_⟩
    by_cases hn : 64 * k + b < n
    · rw [h2 b hb hn]; simp [hn]
    · rw [hf _ (by omega)]; simp [hn]
theorem fullB_put (n : Nat) (f : Nat → Bool) (i : Nat) (b : Bool) (k : Nat) (h : k ≠ i / 64) : fullB n (put f i b) k = fullB n f k := by
  unfold fullB
  rw [wd_other f i k b h]
end Go.Proofs.Ytadbbknllakpcaa
