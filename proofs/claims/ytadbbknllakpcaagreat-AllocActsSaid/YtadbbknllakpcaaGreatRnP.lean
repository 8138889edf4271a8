/- Plain mathematics: rows of free pages, as lists. No program in sight. -/
import Derived.Test.YtadbbknllakpcaaGreatBase
namespace Go.Proofs.YtadbbknllakpcaaGreat.rn
open Go.RowKit
set_option linter.unusedVariables false

/-- The rows as cells. -/
def rowsV (l : List (Nat × Nat)) : List Value := l.flatMap fun a => [.int .i64 a.1, .int .i64 a.2]
theorem rowsV_cons (a : Nat × Nat) (l : List (Nat × Nat)) : rowsV (a :: l) = .int .i64 a.1 :: .int .i64 a.2 :: rowsV l := rfl
theorem rowsV_append (l m : List (Nat × Nat)) : rowsV (l ++ m) = rowsV l ++ rowsV m := by unfold rowsV; rw [List.flatMap_append]
theorem rowsV_length (l : List (Nat × Nat)) : (rowsV l).length = l.length * 2 := by
  induction l with
  | nil => rfl
  | cons a l ih => rw [rowsV_cons, List.length_cons, List.length_cons, ih, List.length_cons]; omega
theorem rowsV_one (l : List (Nat × Nat)) : ∀ v ∈ rowsV l, v.oneCell' = true := fun v hv => by
  obtain ⟨a, _, h⟩ := List.mem_flatMap.1 hv
  simp only [List.mem_cons, List.not_mem_nil, or_false] at h
  rcases h with rfl | rfl <;> rfl
theorem rowsV_take (A B : List (Nat × Nat)) : (rowsV (A ++ B)).take (A.length * 2) = rowsV A := by
  rw [rowsV_append, List.take_left' (rowsV_length A)]
theorem rowsV_drop (A B : List (Nat × Nat)) : (rowsV (A ++ B)).drop (A.length * 2) = rowsV B := by
  rw [rowsV_append, List.drop_left' (rowsV_length A)]
theorem rowsV_at {l : List (Nat × Nat)} {i : Nat} {a : Nat × Nat} (h : l[i]? = some a) : (rowsV l)[i * 2]? = some (.int .i64 a.1) ∧ (rowsV l)[i * 2 + 1]? = some (.int .i64 a.2) := by
  induction l generalizing i with
  | nil => simp at h
  | cons b l ih =>
    cases i with
    | zero =>
      simp only [List.getElem?_cons_zero, Option.some.injEq] at h
      subst h
      exact ⟨rfl, rfl⟩
    | succ i =>
      have := ih (i := i) (by simpa using h)
      rw [rowsV_cons]
      rw [show (i + 1) * 2 = i * 2 + 1 + 1 by omega, show i * 2 + 1 + 1 + 1 = i * 2 + 1 + 1 + 1 by rfl]
      simpa using this

/-- Rows of free pages: rising, none beside another one. -/
def Canon (l : List (Nat × Nat)) : Prop := (∀ a ∈ l, 1 ≤ a.1 ∧ 1 ≤ a.2 ∧ a.1 + a.2 ≤ 4096) ∧ l.Pairwise fun a b => a.1 + a.2 < b.1
/-- A page is free. -/
def Fr (l : List (Nat × Nat)) (i : Nat) : Prop := ∃ a ∈ l, a.1 ≤ i ∧ i < a.1 + a.2
/-- What is left of a row of which pages are taken. -/
def leftR (p : Nat × Nat) (at' n : Nat) : List (Nat × Nat) :=
  (if p.1 < at' then [(p.1, at' - p.1)] else []) ++ (if at' + n < p.1 + p.2 then [(at' + n, p.1 + p.2 - at' - n)] else [])
theorem leftR_mem {p q : Nat × Nat} {at' n : Nat} (h : q ∈ leftR p at' n) (h1 : p.1 ≤ at') (h2 : at' + n ≤ p.1 + p.2) : p.1 ≤ q.1 ∧ q.1 + q.2 ≤ p.1 + p.2 ∧ 1 ≤ q.2 := by
  unfold leftR at h
  rcases List.mem_append.1 h with h | h
  · split at h
    · obtain rfl := List.mem_singleton.1 h
      simp only; omega
    · cases h
  · split at h
    · obtain rfl := List.mem_singleton.1 h
      simp only; omega
    · cases h
theorem leftR_fr {p : Nat × Nat} {at' n : Nat} (h1 : p.1 ≤ at') (h2 : at' + n ≤ p.1 + p.2) (i : Nat) : Fr (leftR p at' n) i ↔ (p.1 ≤ i ∧ i < p.1 + p.2) ∧ ¬ (at' ≤ i ∧ i < at' + n) := by
  unfold Fr leftR
  constructor
  · rintro ⟨q, hq, hi⟩
    rcases List.mem_append.1 hq with h | h
    · split at h
      · obtain rfl := List.mem_singleton.1 h
        simp only at hi; omega
      · cases h
    · split at h
      · obtain rfl := List.mem_singleton.1 h
        simp only at hi; omega
      · cases h
  · rintro ⟨h3, h4⟩
    by_cases h5 : i < at'
    · exact ⟨(p.1, at' - p.1), List.mem_append_left _ (by rw [if_pos (by omega)]; exact List.mem_singleton_self _), by simp only; omega⟩
    · exact ⟨(at' + n, p.1 + p.2 - at' - n), List.mem_append_right _ (by rw [if_pos (by omega)]; exact List.mem_singleton_self _), by simp only; omega⟩
theorem Fr_append (A B : List (Nat × Nat)) (i : Nat) : Fr (A ++ B) i ↔ Fr A i ∨ Fr B i := by
  unfold Fr
  constructor
  · rintro ⟨q, hq, hi⟩
    rcases List.mem_append.1 hq with h | h
    · exact .inl ⟨q, h, hi⟩
    · exact .inr ⟨q, h, hi⟩
  · rintro (⟨q, hq, hi⟩ | ⟨q, hq, hi⟩)
    · exact ⟨q, List.mem_append_left _ hq, hi⟩
    · exact ⟨q, List.mem_append_right _ hq, hi⟩
theorem Fr_cons (p : Nat × Nat) (B : List (Nat × Nat)) (i : Nat) : Fr (p :: B) i ↔ (p.1 ≤ i ∧ i < p.1 + p.2) ∨ Fr B i := by
  unfold Fr
  constructor
  · rintro ⟨q, hq, hi⟩
    rcases List.mem_cons.1 hq with rfl | h
    · exact .inl hi
    · exact .inr ⟨q, h, hi⟩
  · rintro (hi | ⟨q, hq, hi⟩)
    · exact ⟨p, List.mem_cons_self, hi⟩
    · exact ⟨q, List.mem_cons_of_mem _ hq, hi⟩
/-- The pages of A and of B are none of p's. -/
theorem Canon.parts {A B : List (Nat × Nat)} {p : Nat × Nat} (h : Canon (A ++ p :: B)) : Canon A ∧ Canon B ∧ (1 ≤ p.1 ∧ 1 ≤ p.2 ∧ p.1 + p.2 ≤ 4096) ∧ (∀ a ∈ A, a.1 + a.2 < p.1) ∧ (∀ b ∈ B, p.1 + p.2 < b.1) ∧ ∀ a ∈ A, ∀ b ∈ B, a.1 + a.2 < b.1 := by
  obtain ⟨h1, h2⟩ := h
  rw [List.pairwise_append, List.pairwise_cons] at h2
  exact ⟨⟨fun a ha => h1 a (List.mem_append_left _ ha), h2.1⟩, ⟨fun a ha => h1 a (List.mem_append_right _ (List.mem_cons_of_mem _ ha)), h2.2.1.2⟩, h1 p (List.mem_append_right _ List.mem_cons_self), fun a ha => h2.2.2 a ha p List.mem_cons_self, h2.2.1.1, fun a ha b hb => h2.2.2 a ha b (List.mem_cons_of_mem _ hb)⟩
theorem Canon.join {A M B : List (Nat × Nat)} (hA : Canon A) (hB : Canon B) (hM : Canon M) (h1 : ∀ a ∈ A, ∀ m ∈ M, a.1 + a.2 < m.1) (h2 : ∀ m ∈ M, ∀ b ∈ B, m.1 + m.2 < b.1) (h3 : ∀ a ∈ A, ∀ b ∈ B, a.1 + a.2 < b.1) : Canon (A ++ M ++ B) := by
  refine ⟨fun a ha => ?_, ?_⟩
  · rcases List.mem_append.1 ha with h | h
    · rcases List.mem_append.1 h with h | h
      · exact hA.1 a h
      · exact hM.1 a h
    · exact hB.1 a h
  · rw [List.pairwise_append, List.pairwise_append]
    refine ⟨⟨hA.2, hM.2, h1⟩, hB.2, fun a ha b hb => ?_⟩
    rcases List.mem_append.1 ha with h | h
    · exact h3 a h b hb
    · exact h2 a h b hb
theorem cut_canon {A B : List (Nat × Nat)} {p : Nat × Nat} {at' n : Nat} (h : Canon (A ++ p :: B)) (h1 : p.1 ≤ at') (h2 : at' + n ≤ p.1 + p.2) (hn : 1 ≤ n) : Canon (A ++ leftR p at' n ++ B) := by
  obtain ⟨hA, hB, hp, k1, k2, k3⟩ := h.parts
  refine hA.join hB ⟨fun q hq => ?_, ?_⟩ (fun a ha m hm => ?_) (fun m hm b hb => ?_) k3
  · have := leftR_mem hq h1 h2; omega
  · unfold leftR
    split <;> split <;> simp
    omega
  · have := leftR_mem hm h1 h2; have := k1 a ha; omega
  · have := leftR_mem hm h1 h2; have := k2 b hb; omega
theorem cut_fr {A B : List (Nat × Nat)} {p : Nat × Nat} {at' n : Nat} (h : Canon (A ++ p :: B)) (h1 : p.1 ≤ at') (h2 : at' + n ≤ p.1 + p.2) (i : Nat) : Fr (A ++ leftR p at' n ++ B) i ↔ Fr (A ++ p :: B) i ∧ ¬ (at' ≤ i ∧ i < at' + n) := by
  obtain ⟨hA, hB, hp, k1, k2, k3⟩ := h.parts
  rw [Fr_append, Fr_append, leftR_fr h1 h2, Fr_append, Fr_cons]
  have hAn : Fr A i → i < p.1 := fun ⟨a, ha, hi⟩ => by have := k1 a ha; omega
  have hBn : Fr B i → p.1 + p.2 < i + 1 := fun ⟨b, hb, hi⟩ => by have := k2 b hb; omega
  constructor
  · rintro ((h | h) | h)
    · have := hAn h; exact ⟨.inl h, by omega⟩
    · exact ⟨.inr (.inl h.1), h.2⟩
    · have := hBn h; exact ⟨.inr (.inr h), by omega⟩
  · rintro ⟨h | h | h, hx⟩
    · exact .inl (.inl h)
    · exact .inl (.inr ⟨h, hx⟩)
    · exact .inr h
theorem Canon.lt {l : List (Nat × Nat)} (h : Canon l) {i j : Nat} {a b : Nat × Nat} (hi : l[i]? = some a) (hj : l[j]? = some b) (hij : i < j) : a.1 + a.2 < b.1 := by
  obtain ⟨h1, rfl⟩ := List.getElem?_eq_some_iff.1 hi
  obtain ⟨h2, rfl⟩ := List.getElem?_eq_some_iff.1 hj
  exact List.pairwise_iff_getElem.1 h.2 i j h1 h2 hij
theorem Canon.mem {l : List (Nat × Nat)} (h : Canon l) {i : Nat} {a : Nat × Nat} (hi : l[i]? = some a) : 1 ≤ a.1 ∧ 1 ≤ a.2 ∧ a.1 + a.2 ≤ 4096 := h.1 a (List.mem_of_getElem? hi)
end Go.Proofs.YtadbbknllakpcaaGreat.rn
