/- RunsActs: the acts as they come in. -/
import Derived.Test.YtfacpamepkkhgaaRunI
import Derived.Test.YtfacpamepkkhgaaSRows
namespace Go.Proofs.Ytfacpamepkkhgaa
open Go.RowKit
set_option linter.unusedVariables false

/-- What a walk is told of the acts. -/
def ActsAt (w : World) (v : Value) (q : Option Addr × Nat × Nat) : Prop :=
  v = .slice q.1 q.2.1 q.2.2 ∧ q.2.1 ≤ 9223372036854775807 ∧ (q.2.1 = 0 ∨ ∃ b o, q.1 = some ⟨b, o, none⟩ ∧ b < w.heap.size ∧ ∀ i, i < q.2.1 → ∃ (kd at' n : Int),
    (w.cell? ⟨b, o + i * 3, none⟩ = some (.int .i64 kd) ∧ w.cell? ⟨b, o + i * 3 + 1, none⟩ = some (.int .i64 at') ∧ w.cell? ⟨b, o + i * 3 + 2, none⟩ = some (.int .i64 n)) ∧ (-9223372036854775808 ≤ kd ∧ kd ≤ 9223372036854775807) ∧ (-9223372036854775808 ≤ at' ∧ at' ≤ 9223372036854775807) ∧ (-9223372036854775808 ≤ n ∧ n ≤ 9223372036854775807))

theorem open_acts {H : Type} {enc : TypeId × Value → H} {w : World} {v : Value} {d : DataW H} {p : List MemPlace}
    (hv : Value.okWide Try.prog w .any 0 40 v) (h : DataW.Trod enc Try.prog w 0 (fun _ => true) true 40 v d p) (lt : ∀ x ∈ p, x.block < w.heap.size) :
    ∃ q, ActsAt w v q := by
  obtain ⟨q, rfl, hl, hr⟩ := open_rows Try.underlying40 Try.underlying44 (by kernel_rfl) (by kernel_rfl) (by decide) (Go.WideShapes.okWide_slice Try.underlying40 hv) h
  refine ⟨q, rfl, by unfold maxLen at hl; omega, ?_⟩
  rcases hr with h0 | ⟨b, o, ha, hb, hr⟩
  · exact .inl h0
  refine .inr ⟨b, o, ha, hb, fun i hi => ?_⟩
  obtain ⟨v0, c0, r0⟩ := hr i hi 0 (by decide)
  obtain ⟨v1, c1, r1⟩ := hr i hi 1 (by decide)
  obtain ⟨v2, c2, r2⟩ := hr i hi 2 (by decide)
  obtain ⟨y0, n0, t0⟩ := r0 _ rfl
  obtain ⟨y1, n1, t1⟩ := r1 _ rfl
  obtain ⟨y2, n2, t2⟩ := r2 _ rfl
  obtain ⟨kd, hk1, _, hk2⟩ := DataW.trod_int Try.underlying3 t0
  obtain ⟨pl, hp1, _, hp2⟩ := DataW.trod_int Try.underlying3 t1
  obtain ⟨nn, hn1, _, hn2⟩ := DataW.trod_int Try.underlying3 t2
  cases hk1
  cases hp1
  cases hn1
  exact ⟨kd, pl, nn, ⟨by simpa using c0, by simpa [Nat.add_assoc] using c1, by simpa [Nat.add_assoc] using c2⟩, wf_i64 hk2, wf_i64 hp2, wf_i64 hn2⟩
end Go.Proofs.Ytfacpamepkkhgaa
