/- Opening of arguments: an array of two integers. No program in sight. -/
import Derived.Test.YtebkikmgjmmnpaaLib
import Derived.ProofKit
import Derived.OpenShut
namespace Go.Proofs.Ytebkikmgjmmnpaa
open Go.ChangeShapes Go.WideShapes Go.ChangeAt Go.RowKit
set_option linter.unusedVariables false

theorem okWide_array {P : Program} {w : World} {r : Reach} {b0 : Nat} {t : TypeId} {v : Value} {n : Nat} {e : TypeId} (ht : P.underlying t = some (.array n e)) (h : Value.okWide P w r b0 t v) : ∃ cs, v = .agg cs ∧ cs.size = P.cellsOf t := by
  simp only [Value.okWide, ht] at h
  obtain ⟨cs, h1, h2, _⟩ := h
  exact ⟨cs, h1, h2⟩
theorem arg_array2 {H : Type} {enc : TypeId × Value → H} {P : Program} {w : World} {base : Nat} {spare : Nat → Bool} {held : Bool} {r : Reach} {b0 : Nat} {t e : TypeId} {v : Value} {d : DataW H} {p : List MemPlace}
    (ht : P.underlying t = some (.array 2 e)) (he : P.underlying e = some (.int .i64)) (hc : P.cellsOf t = 2) (hce : P.cellsOf e = 1)
    (hv : Value.okWide P w r b0 t v) (h : DataW.Trod enc P w base spare held t v d p) (_lt : ∀ x ∈ p, x.block < w.heap.size) :
    ∃ ab : Int × Int, v = .agg #[.int .i64 ab.1, .int .i64 ab.2] ∧ (Lit.int .i64 ab.1).wf = true ∧ (Lit.int .i64 ab.2).wf = true := by
  obtain ⟨cs, rfl, hsz⟩ := okWide_array ht hv
  rw [hc] at hsz
  obtain ⟨c0, c1, rfl⟩ : ∃ c0 c1, cs = #[c0, c1] := by
    obtain ⟨l⟩ := cs
    match l, hsz with
    | [c0, c1], _ => exact ⟨c0, c1, rfl⟩
  obtain ⟨fuel, hf⟩ := h
  obtain ⟨xs, m, _, _, _, hxs, hi⟩ := DataW.trod_array ht hf
  have h0 := hi 0 (by omega)
  have h1 := hi 1 (by omega)
  rw [hce] at h0 h1
  simp only [Value.cells, Nat.zero_mul, Nat.one_mul, List.drop_zero, List.take_succ_cons, List.take_zero, List.drop_succ_cons] at h0 h1
  match xs, hxs with
  | [x0, x1], _ =>
    obtain ⟨a, e0, _, wa⟩ := DataW.trod_int he h0
    obtain ⟨b, e1, _, wb⟩ := DataW.trod_int he h1
    simp at e0 e1
    exact ⟨(a, b), by rw [e0, e1], wa, wb⟩
end Go.Proofs.Ytebkikmgjmmnpaa
