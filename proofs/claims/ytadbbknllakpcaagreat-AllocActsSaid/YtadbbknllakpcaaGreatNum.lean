/- Slices of numbers that are read; rows that lie apart. No program in sight. -/
import Derived.Test.YtadbbknllakpcaaGreatApp
namespace Go.Proofs.YtadbbknllakpcaaGreat
open Go.RowKit
set_option linter.unusedVariables false

/-- A slice of numbers as it is read: each at most M. -/
def NumAt (k : IntKind) (M : Nat) (w : World) (a : Option Addr) (len : Nat) : Prop :=
  len = 0 ∨ ∃ b o, a = some ⟨b, o, none⟩ ∧ b < w.heap.size ∧ ∀ i, i < len → ∃ z : Nat, z ≤ M ∧ w.cell? ⟨b, o + i, none⟩ = some (.int k z)
theorem NumAt.of_row {k : IntKind} {M : Nat} {w : World} {a : Option Addr} {len cap : Nat} {zs : List Int} (h : IsRow k w a len cap zs) (hk : ∀ n : Int, (Lit.int k n).wf = true → 0 ≤ n ∧ n ≤ M) : NumAt k M w a len := by
  rcases h with ⟨rfl, rfl, rfl, rfl⟩ | ⟨x, rfl, h1, h2, h3, h4, h5⟩
  · exact .inl rfl
  · by_cases hc : 0 < len
    · obtain ⟨b, o, rfl, hcell⟩ := ints_at h4 (by omega)
      refine .inr ⟨b, o, rfl, World.block_lt_of_cell? w _ (hcell 0 (by omega)), fun i hi => ?_⟩
      have hi2 : i < zs.length := by omega
      have hb := hk _ (h5 zs[i] (List.getElem_mem hi2))
      refine ⟨(zs[i]).toNat, by omega, ?_⟩
      rw [hcell i hi2]
      have : zs.getD i 0 = zs[i] := by simp [List.getD, hi2]
      rw [this, Int.toNat_of_nonneg hb.1]
    · exact .inl (by omega)
theorem IsRow.len_le {k : IntKind} {w : World} {a : Option Addr} {len cap : Nat} {zs : List Int} (h : IsRow k w a len cap zs) : len ≤ 9223372036854775807 := by
  rcases h with ⟨rfl, rfl, rfl, rfl⟩ | ⟨x, rfl, h1, h2, h3, h4, h5⟩
  · omega
  · unfold maxLen at h2; omega

/-- Two rows of the call's own that do not lie in one block. -/
def Apart (v u : Value) : Prop := ∀ k, v.ownBlock = some k → u.ownBlock ≠ some k
theorem Apart.nil (u : Value) : Apart (.slice none 0 0) u := fun k h => by simp [Value.ownBlock] at h
theorem Apart.symm {v u : Value} (h : Apart v u) : Apart u v := fun k h1 h2 => h k h2 h1
theorem Apart.grown {w : World} {base size n : Nat} {e : TypeId} {xs : List Value} {v u v' : Value} (h : Apart v u) (hu : w.ownsRow base e size u n xs) {B : Nat} (hn : NewRow B v v') (hB : w.heap.size ≤ B) : Apart v' u := by
  intro k h1 h2
  rcases hn with hn | ⟨k', hk, hle⟩
  · exact h k (hn ▸ h1) h2
  · rw [hk] at h1; cases h1
    have := (hu.lt k h2).2
    omega
theorem ownsRow_grown {w w' : World} {base size n : Nat} {e : TypeId} {xs : List Value} {v u : Value} (hu : w.ownsRow base e size u n xs) (hg : w.grownBy w' v.ownBlock) (h : Apart v u) : w'.ownsRow base e size u n xs := by
  refine hu.kept hg ?_
  cases hv : u.ownBlock
  · exact .inl rfl
  · exact .inr fun e => h _ e.symm hv

end Go.Proofs.YtadbbknllakpcaaGreat
