/- The strings as they come in; plain facts for the laws of names. -/
import Derived.Test.YtanfjiccilibcaaNmV
import Derived.Test.YtanfjiccilibcaaNmFull1
import Derived.Deep.Strs
import Derived.ChangeSame
import Derived.OpenShut
namespace Go.Proofs.Ytanfjiccilibcaa
open Go.RowKit Go.ChangeShapes Go.WideShapes Go.Deep
set_option linter.unusedVariables false

theorem open_names {H : Type} {enc : TypeId × Value → H} {w : World} {v : Value} {d : DataW H} {p : List MemPlace}
    (hv : Value.okWide Try.prog w .any 0 32 v) (h : DataW.Trod enc Try.prog w 0 (fun _ => true) true 32 v d p) (lt : ∀ x ∈ p, x.block < w.heap.size) :
    ∃ q, StrsAt w v q := by
  obtain ⟨a, len, cap, rfl⟩ := Go.WideShapes.okWide_slice Try.underlying32 hv
  obtain ⟨fuel, hf⟩ := h
  refine ⟨(a, len, cap), rfl, ?_⟩
  rcases open_strs Try.underlying32 Try.underlying9 (by kernel_rfl) hf with ⟨hcs, _⟩ | ⟨x, l, c, m, Sx, hcs, _, hl, hm, hmm, _, hi⟩
  · simp [Value.cells] at hcs
    obtain ⟨rfl, rfl, rfl⟩ := hcs
    exact ⟨by simp, .inl rfl⟩
  · simp [Value.cells] at hcs
    obtain ⟨rfl, rfl, rfl⟩ := hcs
    refine ⟨by unfold maxLen at hm; show len ≤ _; omega, ?_⟩
    by_cases h0 : len = 0
    · exact .inl h0
    refine .inr ?_
    have hlm : len ≤ m := by rw [hmm]; split <;> omega
    obtain ⟨b, o, spot⟩ := x
    have hspot : spot = none := by
      have := (hi 0 (by omega)).1
      simpa [Addr.add] using World.cell?_spot this
    subst hspot
    refine ⟨b, o, rfl, ?_, fun i hi2 => ⟨Sx i, ?_⟩⟩
    · have := (hi 0 (by omega)).1
      rw [add_plain] at this
      exact World.block_lt_of_cell? w _ this
    · have := (hi i (by have : i < len := hi2; omega)).1
      rwa [add_plain] at this
theorem dir_unique {l : List Ent} (h : Asc l) {a b : Ent} (ha : a ∈ l) (hb : b ∈ l) (he : a.1 = b.1) : a = b := by
  obtain ⟨i, hi⟩ := List.mem_iff_getElem?.1 ha
  obtain ⟨j, hj⟩ := List.mem_iff_getElem?.1 hb
  rcases Nat.lt_trichotomy i j with e | e | e
  · exact absurd he (lt_ne (h.lt_at hi hj e))
  · subst e; cases hi.symm.trans hj; rfl
  · exact absurd he (lt_ne (h.lt_at hj hi e)).symm
theorem RFindP.one {l : List Ent} {s : ByteArray} {h k : Int} (hd : Asc l) (a : RFindP l s h) (b : RFindP l s k) : h = k := by
  rcases a with ⟨h1, rfl⟩ | ⟨x, hx, he, rfl⟩
  · rcases b with ⟨_, rfl⟩ | ⟨y, hy, hf, _⟩
    · rfl
    · exact absurd ⟨y, hy, hf⟩ h1
  · rcases b with ⟨h1, _⟩ | ⟨y, hy, hf, rfl⟩
    · exact absurd ⟨x, hx, he⟩ h1
    · rw [dir_unique hd hx hy (he.trans hf.symm)]
theorem find_flat {l : List Ent} (hd : Dir l) {s : ByteArray} {e : Ending} (h : FindP l s e) : ∃ (x : Int) (b : Bool), e = .returned (.tuple #[.int .i64 x, .bool b]) ∧ RFindP l s x ∧ (b = true ↔ 0 < x) := by
  rcases h with ⟨h1, rfl⟩ | ⟨a, ha, he, rfl⟩
  · exact ⟨0, false, rfl, .inl ⟨h1, rfl⟩, by simp⟩
  · exact ⟨a.2, true, rfl, .inr ⟨a, ha, he, rfl⟩, ⟨fun _ => (hd.2.1 a ha).2.2.1, fun _ => rfl⟩⟩
theorem name_flat {l : List Ent} (hd : Dir l) {h : Int} {s : ByteArray} {b : Bool} (hn : NameP l h s b) : b = true ↔ ¬ s.toList = [] := by
  rcases hn with ⟨_, rfl, rfl⟩ | ⟨k, a, hk, _, _, rfl, rfl⟩
  · simp [ba_nil]
  · refine ⟨fun _ he => ?_, fun _ => rfl⟩
    have h2 := (hd.2.1 a (List.mem_of_getElem? hk)).1
    have h3 : a.1 = ByteArray.empty := ba_ext (he.trans ba_nil.symm)
    rw [h3] at h2
    simp at h2
end Go.Proofs.Ytanfjiccilibcaa
