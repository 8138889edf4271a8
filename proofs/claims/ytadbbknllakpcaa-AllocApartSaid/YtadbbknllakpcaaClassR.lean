/- The walks through the document's answer for layer 14. -/
import Derived.Test.YtadbbknllakpcaaClassW
namespace Go.Proofs.Ytadbbknllakpcaa
open Go.RowKit
set_option linter.unusedVariables false

theorem ofL_hit (s : Int) (h1 : 1 ≤ s) (j : Nat) (hj : j < 20) (h2 : s ≤ sizeL j) (h3 : j = 0 ∨ sizeL ((j : Int) - 1) < s) : ofL s = j := by
  have hf := size_fin ⟨j, hj⟩
  simp only at hf
  have := of_first ⟨s.toNat, by omega⟩ ⟨j, hj⟩
  simp only [Int.toNat_of_nonneg (show 0 ≤ s by omega)] at this
  omega
theorem size_19 : sizeL 19 = 1024 := by decide

end Go.Proofs.Ytadbbknllakpcaa
