/- Plain mathematics for layer 14 (class): sizes, classes, pages. No program in sight. -/
import Derived.Test.YtadbbknllakpcaaGreatLog
namespace Go.Proofs.YtadbbknllakpcaaGreat
open Go.RowKit
set_option linter.unusedVariables false

def sizesT : List Int := [16, 32, 48, 64, 80, 96, 112, 128, 160, 192, 224, 256, 320, 384, 448, 512, 640, 768, 896, 1024]
def pagesT : List Int := [1, 1, 1, 1, 1, 1, 1, 1, 1, 2, 1, 1, 2, 3, 1, 1, 4, 3, 2, 2]
def sizeL (n : Int) : Int := if n < 0 then 0 else sizesT[n.toNat]?.getD 0
def pagesL (n : Int) : Int := if n < 0 then 0 else pagesT[n.toNat]?.getD 0
def ofL (s : Int) : Int :=
  if s < 1 then -1 else if 1024 < s then -1 else if s ≤ 64 then (s - 1) / 16 else if s ≤ 128 then 4 + (s - 65) / 16
  else if s ≤ 256 then 8 + (s - 129) / 32 else if s ≤ 512 then 12 + (s - 257) / 64 else 16 + (s - 513) / 128
def perL (n : Int) : Int := if sizeL n = 0 then 0 else pagesL n * 512 / sizeL n
def largeL (s : Int) : Int := if s < 1 ∨ 2097152 < s then 0 else (s + 511) / 512

theorem cls_cases (n : Int) : n < 0 ∨ 20 ≤ n ∨ (n = 0 ∨ n = 1 ∨ n = 2 ∨ n = 3 ∨ n = 4 ∨ n = 5 ∨ n = 6 ∨ n = 7 ∨ n = 8 ∨ n = 9 ∨ n = 10 ∨ n = 11 ∨ n = 12 ∨ n = 13 ∨ n = 14 ∨ n = 15 ∨ n = 16 ∨ n = 17 ∨ n = 18 ∨ n = 19) := by omega
theorem sizeL_neg (n : Int) (h : n < 0) : sizeL n = 0 := by unfold sizeL; rw [if_pos h]
theorem sizeL_big (n : Int) (h : 20 ≤ n) : sizeL n = 0 := by
  unfold sizeL; rw [if_neg (by omega)]
  have : sizesT[n.toNat]? = none := List.getElem?_eq_none (by simp [sizesT]; omega)
  rw [this]; rfl
theorem pagesL_neg (n : Int) (h : n < 0) : pagesL n = 0 := by unfold pagesL; rw [if_pos h]
theorem pagesL_big (n : Int) (h : 20 ≤ n) : pagesL n = 0 := by
  unfold pagesL; rw [if_neg (by omega)]
  have : pagesT[n.toNat]? = none := List.getElem?_eq_none (by simp [pagesT]; omega)
  rw [this]; rfl
theorem size_fin : ∀ k : Fin 20, 1 ≤ sizeL k.val ∧ sizeL k.val ≤ 1024 ∧ sizeL k.val % 16 = 0 ∧ 1 ≤ pagesL k.val ∧ pagesL k.val ≤ 4 ∧ 1 ≤ perL k.val ∧ perL k.val ≤ 32 ∧ perL k.val * sizeL k.val ≤ 512 * pagesL k.val ∧ 8 * (512 * pagesL k.val - perL k.val * sizeL k.val) ≤ 512 * pagesL k.val := by decide +kernel
theorem size_rises : ∀ k : Fin 20, (k.val = 0 ∨ sizeL ((k.val : Int) - 1) < sizeL k.val) ∧ ofL (sizeL k.val) = k.val := by decide +kernel
theorem of_fin : ∀ s : Fin 1025, s.val = 0 ∨ (0 ≤ ofL s.val ∧ ofL s.val ≤ 19 ∧ (s.val : Int) ≤ sizeL (ofL s.val) ∧ sizeL (ofL s.val - 1) < s.val ∧ (64 < s.val → 4 * (sizeL (ofL s.val) - s.val) < s.val + 4 ∧ sizeL (ofL s.val + 1) ≠ sizeL (ofL s.val))) := by decide +kernel
theorem of_first : ∀ s : Fin 1025, ∀ i : Fin 20, s.val = 0 ∨ sizeL i.val < s.val ∨ (i.val ≠ 0 ∧ (s.val : Int) ≤ sizeL ((i.val : Int) - 1)) ∨ ofL s.val = i.val := by decide +kernel
theorem pages_fin : ∀ k : Fin 20, ∀ j : Fin 5, ((1 ≤ j.val ∧ (j.val : Int) < pagesL k.val) → (j.val * 512 : Int) / 8 < (j.val * 512 : Int) % sizeL k.val) ∧ ((j.val : Int) = pagesL k.val → (j.val * 512 : Int) % sizeL k.val ≤ (j.val * 512 : Int) / 8) := by decide +kernel
theorem cls_in (n : Int) (h : sizeL n ≠ 0) : ∃ k : Fin 20, n = k.val := by
  by_cases h0 : n < 0
  · exact absurd (sizeL_neg n h0) h
  · by_cases h1 : 20 ≤ n
    · exact absurd (sizeL_big n h1) h
    · exact ⟨⟨n.toNat, by omega⟩, by simp; omega⟩
theorem cls_facts (n : Int) (h : sizeL n ≠ 0) : 0 ≤ n ∧ n ≤ 19 ∧ 1 ≤ sizeL n ∧ sizeL n ≤ 1024 ∧ 1 ≤ pagesL n ∧ pagesL n ≤ 4 ∧ 1 ≤ perL n ∧ perL n ≤ 32 ∧ perL n * sizeL n ≤ 512 * pagesL n ∧ 8 * (512 * pagesL n - perL n * sizeL n) ≤ 512 * pagesL n := by
  obtain ⟨k, rfl⟩ := cls_in n h
  have := size_fin k
  omega
theorem pages_lo (n : Int) (h : sizeL n ≠ 0) (j : Nat) (h1 : 1 ≤ j) (h2 : (j : Int) < pagesL n) : (j * 512 : Int) / 8 < (j * 512 : Int) % sizeL n := by
  have f := cls_facts n h
  obtain ⟨k, rfl⟩ := cls_in n h
  exact (pages_fin k ⟨j, by omega⟩).1 ⟨h1, h2⟩
theorem pages_hi (n : Int) (h : sizeL n ≠ 0) (j : Nat) (h2 : (j : Int) = pagesL n) : (j * 512 : Int) % sizeL n ≤ (j * 512 : Int) / 8 := by
  have f := cls_facts n h
  obtain ⟨k, rfl⟩ := cls_in n h
  exact (pages_fin k ⟨j, by omega⟩).2 h2
theorem pagesL_zero (n : Int) (h : sizeL n = 0) : pagesL n = 0 := by
  by_cases h0 : n < 0
  · exact pagesL_neg n h0
  · by_cases h1 : 20 ≤ n
    · exact pagesL_big n h1
    · have := size_fin ⟨n.toNat, by omega⟩
      simp only [Int.toNat_of_nonneg (show 0 ≤ n by omega)] at this
      omega
theorem size_at (n : Nat) (h : n < 20) : (sizesT.map (Value.int .i64))[n]? = some (.int .i64 (sizeL n)) := by
  have : n < sizesT.length := h
  unfold sizeL
  rw [if_neg (by omega)]
  simp [this]
end Go.Proofs.YtadbbknllakpcaaGreat
