/- The walks of the statements of layer 14 (class), over the contracts. -/
import Derived.Test.YtadbbknllakpcaaClassR
namespace Go.Proofs.Ytadbbknllakpcaa
open Go.RowKit
set_option linter.unusedVariables false

theorem of_facts (s : Int) (h : ¬ ofL s < 0) : 1 ≤ s ∧ s ≤ 1024 ∧ ofL s ≤ 19 ∧ s ≤ sizeL (ofL s) ∧ sizeL (ofL s - 1) < s ∧ (64 < s → 4 * (sizeL (ofL s) - s) < s + 4 ∧ sizeL (ofL s + 1) ≠ sizeL (ofL s)) := by
  have hs : 1 ≤ s ∧ s ≤ 1024 := by
    unfold ofL at h
    split at h
    · omega
    · split at h <;> omega
  have := of_fin ⟨s.toNat, by omega⟩
  simp only [Int.toNat_of_nonneg (show 0 ≤ s by omega)] at this
  have h2 : ¬ s.toNat = 0 := by omega
  have h3 : (64 < s.toNat) ↔ 64 < s := by omega
  rw [h3] at this
  refine ⟨hs.1, hs.2, ?_⟩
  rcases this with h4 | h4
  · exact absurd h4 h2
  · exact ⟨h4.2.1, h4.2.2.1, h4.2.2.2.1, h4.2.2.2.2⟩
theorem ofL_bd (s : Int) : -1 ≤ ofL s ∧ ofL s ≤ 19 := by
  by_cases h : ofL s < 0
  · unfold ofL at h ⊢
    repeat (split at h <;> first | omega | skip)
    all_goals (repeat (split <;> first | omega | skip))
  · have := of_facts s h; omega

theorem rem20 (n : Int) : 0 ≤ (n.tmod 20 + 20).tmod 20 ∧ (n.tmod 20 + 20).tmod 20 ≤ 19 ∧ -19 ≤ n.tmod 20 ∧ n.tmod 20 ≤ 19 := by
  have h1 := Int.natAbs_tmod n 20
  have h2 : (Int.natAbs n) % (Int.natAbs 20) < 20 := Nat.mod_lt _ (by decide)
  have h3 : -19 ≤ n.tmod 20 ∧ n.tmod 20 ≤ 19 := by omega
  rw [Int.tmod_eq_emod_of_nonneg (show 0 ≤ n.tmod 20 + 20 by omega)]
  omega

end Go.Proofs.Ytadbbknllakpcaa
