/- The words of a row that came in, as bits. No program in sight. -/
import Derived.Test.YtakcdkcikopoiaaBitS
namespace Go.Proofs.Ytakcdkcikopoiaa
open Go.RowKit
set_option linter.unusedVariables false

/-- The bits of words. -/
def fOf (zs : List Int) (i : Nat) : Bool := ((zs[i / 64]?.getD 0).toNat).testBit (i % 64)
theorem fOf_out (zs : List Int) (i : Nat) (h : 64 * zs.length ≤ i) : fOf zs i = false := by
  unfold fOf
  rw [List.getElem?_eq_none (by omega)]
  simp
theorem fOf_wd (zs : List Int) (k : Nat) (hk : k < zs.length) (h0 : 0 ≤ zs[k]) (h1 : zs[k] ≤ 18446744073709551615) : ((wd (fOf zs) k : Nat) : Int) = zs[k] := by
  have e : wd (fOf zs) k = (zs[k]).toNat := by
    apply Nat.eq_of_testBit_eq
    intro j
    rw [wd_testBit]
    by_cases hj : j < 64
    · unfold fOf
      rw [show (64 * k + j) / 64 = k by omega, show (64 * k + j) % 64 = j by omega, List.getElem?_eq_getElem hk]
      simp [hj]
    · have : (zs[k]).toNat < 2 ^ j := Nat.lt_of_lt_of_le (by omega : (zs[k]).toNat < 2 ^ 64) (Nat.pow_le_pow_right (by omega) (by omega))
      rw [Nat.testBit_lt_two_pow this]
      simp [hj]
  rw [e]; omega
theorem fOf_cells (zs : List Int) (h : ∀ n ∈ zs, 0 ≤ n ∧ n ≤ 18446744073709551615) : zs.map (Value.int .u64) = wdV zs.length (fOf zs) := by
  apply List.ext_getElem
  · simp [wdV_length]
  · intro j h1 h2
    have hj : j < zs.length := by simpa using h1
    have := wdV_at zs.length (fOf zs) j hj
    rw [List.getElem?_eq_getElem h2] at this
    injection this with this
    rw [this]
    have hb := h _ (List.getElem_mem hj)
    rw [fOf_wd zs j hj hb.1 hb.2]
    simp
/-- A slice of words that came in: what bits it has. -/
theorem words_of_row {w : World} {a : Option Addr} {len cap : Nat} {zs : List Int} (h : IsRow .u64 w a len cap zs) : ∃ f : Nat → Bool, RdAt w a len (wdV len f) ∧ ∀ i, 64 * len ≤ i → f i = false := by
  have hr := RdAt.of_ints h
  rcases h with ⟨rfl, rfl, rfl, rfl⟩ | ⟨x, rfl, h1, h2, h3, h4, h5⟩
  · exact ⟨fun _ => false, .inl rfl, fun _ _ => rfl⟩
  · have hl : (zs.take len).length = len := by simp; omega
    refine ⟨fOf (zs.take len), ?_, fun i hi => fOf_out _ i (by omega)⟩
    rw [fOf_cells _ (fun n hn => wf_u64 (h5 n (List.mem_of_mem_take hn))), hl] at hr
    exact hr
end Go.Proofs.Ytakcdkcikopoiaa
