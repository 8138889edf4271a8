/- A slice of structs of one-cell fields as it comes in: every field of every element, in its cell. No program in sight. -/
import Derived.Test.YtanfjiccilibcaaLib
import Derived.Deep.Slices
import Derived.Deep.Fields
import Derived.ChangeSame
import Derived.OpenShut
namespace Go.Proofs.Ytanfjiccilibcaa
open Go.RowKit Go.ChangeShapes Go.WideShapes Go.Deep
set_option linter.unusedVariables false

/-- What a walk is told of a slice of structs: k cells an element; R: what field j's value is known to be. -/
def RowsAt (w : World) (a : Option Addr) (len k : Nat) (R : Nat → Nat → Value → Prop) : Prop :=
  len ≤ maxLen ∧ (len = 0 ∨ ∃ b o, a = some ⟨b, o, none⟩ ∧ b < w.heap.size ∧ ∀ i, i < len → ∀ j, j < k → ∃ v, w.cell? ⟨b, o + (i * k + j), none⟩ = some v ∧ R i j v)

theorem open_rows {H : Type} {enc : TypeId × Value → H} {P : Program} {w : World} {base : Nat} {spare : Nat → Bool} {held : Bool} {t e : TypeId} {fs : Array Field} {v : Value} {d : DataW H} {p : List MemPlace}
    (ht : P.underlying t = some (.slice e)) (he : P.underlying e = some (.struct fs)) (hone : oneCellFields P fs = true) (hC : P.cellsOf e = fs.size) (hpos : 0 < fs.size)
    (hv : ∃ a len cap, v = .slice a len cap) (h : DataW.Trod enc P w base spare held t v d p) :
    ∃ q : Option Addr × Nat × Nat, v = .slice q.1 q.2.1 q.2.2 ∧ RowsAt w q.1 q.2.1 fs.size (fun i j v => ∀ f, fs[j]? = some f → ∃ y n, DataW.trod enc P w base spare held n f.type [v] = some y) := by
  obtain ⟨a, len, cap, rfl⟩ := hv
  refine ⟨(a, len, cap), rfl, ?_⟩
  obtain ⟨fuel, hf⟩ := h
  rcases open_slice ht hf with ⟨hcs, _⟩ | ⟨x, l, c, m, n, D, Pl, hcs, _, hl, hm, hmm, _, hi⟩
  · simp [Value.cells] at hcs
    obtain ⟨rfl, rfl, rfl⟩ := hcs
    exact ⟨by simp, .inl rfl⟩
  · simp [Value.cells] at hcs
    obtain ⟨rfl, rfl, rfl⟩ := hcs
    refine ⟨by show len ≤ maxLen; omega, ?_⟩
    by_cases h0 : len = 0
    · exact .inl h0
    refine .inr ?_
    have hlm : len ≤ m := by rw [hmm]; split <;> omega
    have key : ∀ i, i < len → ∀ j, j < fs.size → ∃ v, w.cell? (x.add (i * fs.size + j)) = some v ∧ ∀ f, fs[j]? = some f → ∃ y n, DataW.trod enc P w base spare held n f.type [v] = some y := by
      intro i hil j hj
      obtain ⟨cs', h1, h2⟩ := hi i (by omega)
      rw [hC] at h1
      obtain ⟨_, hlen, hcell⟩ := World.cells?_some h1
      obtain ⟨xs, k, hk, hxy, _, hxl, hff⟩ := DataW.trod_struct he h2
      have hjl : j < cs'.length := by omega
      refine ⟨cs'[j], ?_, fun f hfj => ?_⟩
      · have := hcell j (by omega)
        rw [add_add] at this
        rw [this]; simp [hjl]
      · have hg := hff j f hfj
        obtain ⟨ho, hc1⟩ := hone_of hone j f hfj
        rw [ho, hc1, take1_drop cs' j undef hjl] at hg
        have e : cs'.getD j undef = cs'[j] := by simp [List.getD, hjl]
        rw [e] at hg
        have hx : j < xs.length := by omega
        exact ⟨xs[j], k, by rw [hg]; simp [hx]⟩
    obtain ⟨b, o, spot⟩ := x
    have hspot : spot = none := by
      obtain ⟨v, hv, _⟩ := key 0 (by omega) 0 hpos
      simpa [Addr.add] using World.cell?_spot hv
    subst hspot
    refine ⟨b, o, rfl, ?_, fun i hi j hj => ?_⟩
    · obtain ⟨v, hv, _⟩ := key 0 (by omega) 0 hpos
      rw [add_plain] at hv
      exact World.block_lt_of_cell? w _ hv
    · obtain ⟨v, hv, hr⟩ := key i hi j hj
      rw [add_plain] at hv
      exact ⟨v, hv, hr⟩
end Go.Proofs.Ytanfjiccilibcaa
