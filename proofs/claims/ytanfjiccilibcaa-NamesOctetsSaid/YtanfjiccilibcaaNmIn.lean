/- A list of names and heaps as it comes in. -/
import Derived.Test.YtanfjiccilibcaaNmO
import Derived.Test.YtanfjiccilibcaaSRows
namespace Go.Proofs.Ytanfjiccilibcaa
open Go.RowKit Go.ChangeShapes Go.WideShapes Go.Deep
set_option linter.unusedVariables false

def NamedAt (w : World) (v : Value) (q : (Option Addr × Nat × Nat) × List Ent) : Prop :=
  v = .slice q.1.1 q.1.2.1 q.1.2.2 ∧ q.2.length = q.1.2.1 ∧ RdAt w q.1.1 q.2.length (namesV q.2) ∧ HeapsIn q.2 ∧ (∀ a ∈ q.2, a.1.size ≤ 9223372036854775807) ∧ q.1.2.1 ≤ 9223372036854775807
theorem list_of {α : Type} {P : Nat → α → Prop} : ∀ n : Nat, (∀ i, i < n → ∃ a, P i a) → ∃ l : List α, l.length = n ∧ ∀ i a, l[i]? = some a → P i a
  | 0, _ => ⟨[], rfl, fun i a h => by simp at h⟩
  | n + 1, h => by
    obtain ⟨l, hl, hp⟩ := list_of n fun i hi => h i (by omega)
    obtain ⟨a, ha⟩ := h n (by omega)
    refine ⟨l ++ [a], by simp [hl], fun i x hx => ?_⟩
    rcases Nat.lt_or_ge i n with hi | hi
    · rw [List.getElem?_append_left (by omega)] at hx
      exact hp i x hx
    · rw [List.getElem?_append_right (by omega), hl] at hx
      have h0 : i - n = 0 := by
        rcases Nat.eq_zero_or_pos (i - n) with h | h
        · exact h
        · rw [List.getElem?_eq_none (by simp; omega)] at hx; cases hx
      obtain rfl : i = n := by omega
      rw [h0] at hx
      simp at hx
      subst hx
      exact ha
theorem namesV_get {l : List Ent} {i : Nat} {u : Value} (h : (namesV l)[i]? = some u) : ∃ a, l[i / 2]? = some a ∧ ((i % 2 = 0 ∧ u = .string a.1) ∨ (i % 2 = 1 ∧ u = .int .i64 a.2)) := by
  have hl := (List.getElem?_eq_some_iff.1 h).1
  rw [namesV_length] at hl
  have hi : i / 2 < l.length := by omega
  have ha : l[i / 2]? = some l[i / 2] := List.getElem?_eq_getElem hi
  obtain ⟨h1, h2⟩ := namesV_at ha
  refine ⟨_, ha, ?_⟩
  rcases Nat.mod_two_eq_zero_or_one i with hm | hm
  · rw [show i / 2 * 2 = i by omega, h] at h1
    cases h1
    exact .inl ⟨hm, rfl⟩
  · rw [show i / 2 * 2 + 1 = i by omega, h] at h2
    cases h2
    exact .inr ⟨hm, rfl⟩
theorem open_named {H : Type} {enc : TypeId × Value → H} {w : World} {v : Value} {d : DataW H} {p : List MemPlace}
    (hv : Value.okWide Try.prog w .any 0 23 v) (h : DataW.Trod enc Try.prog w 0 (fun _ => true) true 23 v d p) (lt : ∀ x ∈ p, x.block < w.heap.size) :
    ∃ q, NamedAt w v q := by
  obtain ⟨q, rfl, hl, hr⟩ := open_rows Try.underlying23 Try.underlying47 (by kernel_rfl) (by kernel_rfl) (by decide) (Go.WideShapes.okWide_slice Try.underlying23 hv) h
  have hl2 : q.2.1 ≤ 9223372036854775807 := by unfold maxLen at hl; omega
  rcases hr with h0 | ⟨b, o, ha, hb, hr⟩
  · exact ⟨(q, []), rfl, h0.symm, .inl rfl, (fun a ha => by cases ha), (fun a ha => by cases ha), hl2⟩
  · obtain ⟨l, hll, hp⟩ := list_of (P := fun i (a : Ent) => w.cell? ⟨b, o + i * 2, none⟩ = some (.string a.1) ∧ w.cell? ⟨b, o + i * 2 + 1, none⟩ = some (.int .i64 a.2) ∧ a.1.size ≤ 9223372036854775807 ∧ (-9223372036854775808 ≤ a.2 ∧ a.2 ≤ 9223372036854775807)) q.2.1 (fun i hi => by
      obtain ⟨v0, c0, r0⟩ := hr i hi 0 (by decide)
      obtain ⟨v1, c1, r1⟩ := hr i hi 1 (by decide)
      obtain ⟨y0, n0, t0⟩ := r0 _ rfl
      obtain ⟨y1, n1, t1⟩ := r1 _ rfl
      obtain ⟨s, hs1, _, hs2⟩ := DataW.trod_string Try.underlying9 t0
      obtain ⟨n, hn1, _, hn2⟩ := DataW.trod_int Try.underlying3 t1
      cases hs1
      cases hn1
      refine ⟨(s, n), by simpa using c0, by simpa [Nat.add_assoc] using c1, by unfold maxLen at hs2; exact hs2, wf_i64 hn2⟩)
    refine ⟨(q, l), rfl, hll, .inr ⟨b, o, ha, hb, fun i u hu => ?_⟩, fun a hm => ?_, fun a hm => ?_, hl2⟩
    · obtain ⟨a, h1, h2⟩ := namesV_get hu
      obtain ⟨c0, c1, _, _⟩ := hp _ a h1
      rcases h2 with ⟨h3, rfl⟩ | ⟨h3, rfl⟩
      · rw [show o + i = o + i / 2 * 2 by omega]; exact c0
      · rw [show o + i = o + i / 2 * 2 + 1 by omega]; exact c1
    · obtain ⟨k, hk⟩ := List.mem_iff_getElem?.1 hm
      exact (hp k a hk).2.2.2
    · obtain ⟨k, hk⟩ := List.mem_iff_getElem?.1 hm
      exact (hp k a hk).2.2.1
theorem getN_len {zs : List Int} (h : ∀ b ∈ zs, 0 ≤ b ∧ b ≤ 255) : (getN zs).1.length ≤ 255 := by
  match zs with
  | [] => simp [getN]
  | z :: r =>
    have := h z List.mem_cons_self
    by_cases hr : RightP (plS (some r) z.toNat).1
    · rw [getN_yes hr]
      show (plS (some r) z.toNat).1.length ≤ 255
      rw [plS_len]; omega
    · rw [getN_no hr]; simp
end Go.Proofs.Ytanfjiccilibcaa
