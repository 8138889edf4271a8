/- A struct of one-cell fields as it comes in; a span as it comes in. -/
import Derived.Test.YtakcdkcikopoiaaSRows
import Derived.Test.YtakcdkcikopoiaaWordsIn
import Derived.Test.YtakcdkcikopoiaaSpn
namespace Go.Proofs.Ytakcdkcikopoiaa
open Go.RowKit Go.ChangeShapes Go.WideShapes Go.Deep
set_option linter.unusedVariables false

theorem open_struct {H : Type} {enc : TypeId × Value → H} {P : Program} {w : World} {base : Nat} {spare : Nat → Bool} {held : Bool} {e : TypeId} {fs : Array Field} {cs : Array Value} {d : DataW H} {p : List MemPlace}
    (he : P.underlying e = some (.struct fs)) (hone : oneCellFields P fs = true) (hs : cs.size = fs.size) (h : DataW.Trod enc P w base spare held e (.agg cs) d p) :
    ∀ j, j < fs.size → ∃ v, cs[j]? = some v ∧ ∀ f, fs[j]? = some f → ∃ y n, DataW.trod enc P w base spare held n f.type [v] = some y := by
  intro j hj
  obtain ⟨fuel, hf⟩ := h
  obtain ⟨xs, k, hk, hxy, hlen, hxl, hff⟩ := DataW.trod_struct he hf
  have hjl : j < cs.size := by omega
  refine ⟨cs[j], by simp [hjl], fun f hfj => ?_⟩
  have hg := hff j f hfj
  obtain ⟨ho, hc1⟩ := hone_of hone j f hfj
  have e0 : (Value.agg cs).cells.toList = cs.toList := rfl
  rw [ho, hc1, e0, take1_drop cs.toList j undef (by simpa using hjl)] at hg
  have e1 : cs.toList.getD j undef = cs[j] := by simp [List.getD, hjl]
  rw [e1] at hg
  have hx : j < xs.length := by omega
  exact ⟨xs[j], k, by rw [hg]; simp [hx]⟩
/-- A span that came in. -/
def SpanIn (w : World) (v : Value) (q : (Int × Int × Int) × (Option Addr × Nat × Nat) × List Int) : Prop :=
  v = spV q.1.1 q.1.2.1 q.1.2.2 q.2.1.1 q.2.1.2.1 q.2.1.2.2 ∧ I64 q.1.1 ∧ I64 q.1.2.1 ∧ I64 q.1.2.2 ∧ IsRow .u64 w q.2.1.1 q.2.1.2.1 q.2.1.2.2 q.2.2
theorem open_span {H : Type} {enc : TypeId × Value → H} {w : World} {v : Value} {d : DataW H} {p : List MemPlace}
    (hv : Value.okWide Try.prog w .any 0 24 v) (h : DataW.Trod enc Try.prog w 0 (fun _ => true) true 24 v d p) (lt : ∀ x ∈ p, x.block < w.heap.size) :
    ∃ q, SpanIn w v q := by
  obtain ⟨cs, rfl, hcs⟩ := okWide_struct Try.underlying24 hv
  have hcs4 : cs.size = 4 := by rw [hcs]; kernel_rfl
  have key := open_struct Try.underlying24 (by kernel_rfl) (by rw [hcs4]; rfl) h
  obtain ⟨v0, c0, r0⟩ := key 0 (by decide)
  obtain ⟨v1, c1, r1⟩ := key 1 (by decide)
  obtain ⟨v2, c2, r2⟩ := key 2 (by decide)
  obtain ⟨v3, c3, r3⟩ := key 3 (by decide)
  obtain ⟨y0, n0, t0⟩ := r0 _ rfl
  obtain ⟨y1, n1, t1⟩ := r1 _ rfl
  obtain ⟨y2, n2, t2⟩ := r2 _ rfl
  obtain ⟨y3, n3, t3⟩ := r3 _ rfl
  obtain ⟨pg, h0, _, hw0⟩ := DataW.trod_int Try.underlying3 t0
  obtain ⟨ps, h1, _, hw1⟩ := DataW.trod_int Try.underlying3 t1
  obtain ⟨cl, h2, _, hw2⟩ := DataW.trod_int Try.underlying3 t2
  cases h0
  cases h1
  cases h2
  have hagg : ∀ v3, cs[3]? = some v3 → cs = #[.int .i64 pg, .int .i64 ps, .int .i64 cl, v3] := by
    intro v3 h
    apply Array.ext_getElem?
    intro i
    match i with
    | 0 => simpa using c0
    | 1 => simpa using c1
    | 2 => simpa using c2
    | 3 => simpa using h
    | i + 4 => simp; omega
  rcases Go.ChangeShapes.open_ints Try.underlying22 Try.underlying31 (by kernel_rfl) t3 with ⟨hcs, _⟩ | ⟨x, l, c, zs, hcs, _, hl, hm, hz, _, hcell, hwz⟩
  · cases hcs
    exact ⟨((pg, ps, cl), (none, 0, 0), []), by rw [hagg _ c3]; rfl, wf_i64 hw0, wf_i64 hw1, wf_i64 hw2, .inl ⟨rfl, rfl, rfl, rfl⟩⟩
  · cases hcs
    exact ⟨((pg, ps, cl), (some x, l, c), zs), by rw [hagg _ c3]; rfl, wf_i64 hw0, wf_i64 hw1, wf_i64 hw2, .inr ⟨x, rfl, hl, hm, by simpa using hz, hcell, hwz⟩⟩
end Go.Proofs.Ytakcdkcikopoiaa
