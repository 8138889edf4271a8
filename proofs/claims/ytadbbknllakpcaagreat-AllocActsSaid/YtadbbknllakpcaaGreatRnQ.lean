/- Plain mathematics: what Give leaves; rows of free pages are told by their pages. -/
import Derived.Test.YtadbbknllakpcaaGreatRnB
namespace Go.Proofs.YtadbbknllakpcaaGreat.rn
open Go.RowKit
set_option linter.unusedVariables false

theorem Fr_at (l : List (Nat × Nat)) (j : Nat) : Fr l j ↔ ∃ (k : Nat) (q : Nat × Nat), l[k]? = some q ∧ q.1 ≤ j ∧ j < q.1 + q.2 := by
  unfold Fr
  constructor
  · rintro ⟨q, hq, h⟩
    obtain ⟨k, hk⟩ := List.mem_iff_getElem?.1 hq
    exact ⟨k, q, hk, h⟩
  · rintro ⟨k, q, hk, h⟩
    exact ⟨q, List.mem_of_getElem? hk, h⟩
theorem mem_take_at {l : List (Nat × Nat)} {a : Nat} {q : Nat × Nat} (h : q ∈ l.take a) : ∃ k, k < a ∧ l[k]? = some q := by
  obtain ⟨k, hk⟩ := List.mem_iff_getElem?.1 h
  have hl := (List.getElem?_eq_some_iff.1 hk).1
  rw [List.length_take] at hl
  rw [List.getElem?_take_of_lt (by omega)] at hk
  exact ⟨k, by omega, hk⟩
theorem mem_drop_at {l : List (Nat × Nat)} {b : Nat} {q : Nat × Nat} (h : q ∈ l.drop b) : ∃ k, b ≤ k ∧ l[k]? = some q := by
  obtain ⟨k, hk⟩ := List.mem_iff_getElem?.1 h
  rw [List.getElem?_drop] at hk
  exact ⟨b + k, by omega, hk⟩
theorem take_mem_at {l : List (Nat × Nat)} {a k : Nat} {q : Nat × Nat} (h : l[k]? = some q) (hk : k < a) : q ∈ l.take a := by
  apply List.mem_of_getElem? (i := k)
  rw [List.getElem?_take_of_lt hk]; exact h
theorem drop_mem_at {l : List (Nat × Nat)} {b k : Nat} {q : Nat × Nat} (h : l[k]? = some q) (hk : b ≤ k) : q ∈ l.drop b := by
  apply List.mem_of_getElem? (i := k - b)
  rw [List.getElem?_drop, show b + (k - b) = k by omega]; exact h
theorem Canon.sub {l m : List (Nat × Nat)} (h : Canon l) (hs : m.Sublist l) : Canon m := ⟨fun a ha => h.1 a (hs.subset ha), h.2.sublist hs⟩
theorem give_plain {l : List (Nat × Nat)} {x n i a b : Nat} {ro ro' : Nat × Nat} (hc : Canon l) (hx : 1 ≤ x) (hn : 1 ≤ n) (hxn : x + n ≤ 4096) (hi : BehR l x i) (hlo : LO l x n i a ro) (hro : RO l i b ro ro') :
    Canon (l.take a ++ [ro'] ++ l.drop b) ∧ ∀ j, Fr (l.take a ++ [ro'] ++ l.drop b) j ↔ Fr l j ∨ (x ≤ j ∧ j < x + n) := by
  -- the two ends
  have hA : a ≤ i ∧ ro'.1 = ro.1 ∧ ro.1 + ro.2 = x + n ∧ ro.1 ≤ x ∧ 1 ≤ ro.1 ∧ (∀ k q, l[k]? = some q → k < a → q.1 + q.2 < ro.1) ∧ (∀ k q, l[k]? = some q → a ≤ k → k < i → ro.1 ≤ q.1 ∧ q.1 + q.2 ≤ x) ∧ (∀ j, ro.1 ≤ j → j < x → Fr l j) := by
    have h0 : ro'.1 = ro.1 := by rcases hro with ⟨_, rfl, _⟩ | ⟨p, _, _, _, rfl⟩ <;> rfl
    rcases hlo with ⟨rfl, rfl, h⟩ | ⟨p, hi0, hp, hpx, rfl, rfl⟩
    · refine ⟨Nat.le_refl _, h0, rfl, Nat.le_refl _, hx, fun k q hk hka => ?_, fun k q _ h1 h2 => by omega, fun j h1 h2 => by simp only at h1; omega⟩
      obtain ⟨p, hp⟩ : ∃ p, l[a - 1]? = some p := ⟨_, List.getElem?_eq_getElem (by have := hi.1; omega)⟩
      have hpx := h p (by omega) hp
      by_cases e : k = a - 1
      · subst e; cases hk.symm.trans hp; exact hpx
      · have := hc.lt hk hp (by omega)
        simp only; omega
    · have hpm := hc.mem hp
      refine ⟨by omega, h0, by simp only; omega, by simp only; omega, hpm.1, fun k q hk hka => by have := hc.lt hk hp hka; simp only; omega, fun k q hk h1 h2 => ?_, fun j h1 h2 => (Fr_at l j).2 ⟨i - 1, p, hp, h1, by omega⟩⟩
      obtain rfl : k = i - 1 := by omega
      cases hk.symm.trans hp
      simp only; omega
  obtain ⟨hai, h0, hsum, hrx, hr1, hlow, hmid, hfr⟩ := hA
  have hB : i ≤ b ∧ x + n ≤ ro'.1 + ro'.2 ∧ ro'.1 + ro'.2 ≤ 4096 ∧ (∀ k q, l[k]? = some q → b ≤ k → ro'.1 + ro'.2 < q.1) ∧ (∀ k q, l[k]? = some q → i ≤ k → k < b → x + n ≤ q.1 ∧ q.1 + q.2 ≤ ro'.1 + ro'.2) ∧ (∀ j, x + n ≤ j → j < ro'.1 + ro'.2 → Fr l j) := by
    rcases hro with ⟨rfl, rfl, h⟩ | ⟨p, hp, hpx, rfl, rfl⟩
    · refine ⟨Nat.le_refl _, by omega, by omega, fun k q hk hkb => ?_, fun k q _ h1 h2 => by omega, fun j h1 h2 => by omega⟩
      have hkl := (List.getElem?_eq_some_iff.1 hk).1
      obtain ⟨p, hp⟩ : ∃ p, l[b]? = some p := ⟨_, List.getElem?_eq_getElem (by omega)⟩
      have hpx := h p hp
      by_cases e : k = b
      · subst e; cases hk.symm.trans hp; exact hpx
      · have := hc.lt hp hk (by omega)
        omega
    · have hpm := hc.mem hp
      refine ⟨by omega, by simp only; omega, by simp only; omega, fun k q hk hkb => ?_, fun k q hk h1 h2 => ?_, fun j h1 h2 => (Fr_at l j).2 ⟨i, p, hp, by omega, by simp only at h2; omega⟩⟩
      · have := hc.lt hp hk (by omega)
        simp only; omega
      · obtain rfl : k = i := by omega
        cases hk.symm.trans hp
        simp only; omega
  obtain ⟨hib, hge, hle, hhigh, hmid2, hfr2⟩ := hB
  refine ⟨(hc.sub (List.take_sublist _ _)).join (hc.sub (List.drop_sublist _ _)) ⟨fun q hq => ?_, List.pairwise_singleton _ _⟩ (fun q hq m hm => ?_) (fun m hm q hq => ?_) (fun q hq r hr => ?_), fun j => ?_⟩
  · obtain rfl := List.mem_singleton.1 hq; omega
  · obtain rfl := List.mem_singleton.1 hm
    obtain ⟨k, hk, hkq⟩ := mem_take_at hq
    have := hlow k q hkq hk
    omega
  · obtain rfl := List.mem_singleton.1 hm
    obtain ⟨k, hk, hkq⟩ := mem_drop_at hq
    exact hhigh k q hkq hk
  · obtain ⟨k, hk, hkq⟩ := mem_take_at hq
    obtain ⟨k2, hk2, hkq2⟩ := mem_drop_at hr
    exact hc.lt hkq hkq2 (by omega)
  · rw [Fr_append, Fr_append]
    constructor
    · rintro ((⟨q, hq, h⟩ | ⟨q, hq, h⟩) | ⟨q, hq, h⟩)
      · exact .inl ⟨q, List.mem_of_mem_take hq, h⟩
      · obtain rfl := List.mem_singleton.1 hq
        by_cases h1 : j < x
        · exact .inl (hfr j (by omega) h1)
        · by_cases h2 : x + n ≤ j
          · exact .inl (hfr2 j h2 h.2)
          · exact .inr (by omega)
      · exact .inl ⟨q, List.mem_of_mem_drop hq, h⟩
    · rintro (h | h)
      · obtain ⟨k, q, hk, h⟩ := (Fr_at l j).1 h
        by_cases h1 : k < a
        · exact .inl (.inl ⟨q, take_mem_at hk h1, h⟩)
        · by_cases h2 : b ≤ k
          · exact .inr ⟨q, drop_mem_at hk h2, h⟩
          · refine .inl (.inr ⟨ro', List.mem_singleton_self _, ?_⟩)
            by_cases h3 : k < i
            · have := hmid k q hk (by omega) h3; omega
            · have := hmid2 k q hk (by omega) (by omega); omega
      · exact .inl (.inr ⟨ro', List.mem_singleton_self _, by omega⟩)
/-- Rows of free pages are told by their pages. -/
theorem Canon.tail {a : Nat × Nat} {l : List (Nat × Nat)} (h : Canon (a :: l)) : Canon l ∧ (1 ≤ a.1 ∧ 1 ≤ a.2 ∧ a.1 + a.2 ≤ 4096) ∧ ∀ q ∈ l, a.1 + a.2 < q.1 :=
  ⟨h.sub (List.sublist_cons_self _ _), h.1 a List.mem_cons_self, (List.pairwise_cons.1 h.2).1⟩
theorem Canon.ext {l m : List (Nat × Nat)} (hl : Canon l) (hm : Canon m) (h : ∀ j, Fr l j ↔ Fr m j) : l = m := by
  induction l generalizing m with
  | nil =>
    cases m with
    | nil => rfl
    | cons b m =>
      obtain ⟨_, hb, _⟩ := hm.tail
      have := (h b.1).2 ⟨b, List.mem_cons_self, Nat.le_refl _, by omega⟩
      obtain ⟨q, hq, _⟩ := this
      cases hq
  | cons a l ih =>
    obtain ⟨hl', ha, hal⟩ := hl.tail
    cases m with
    | nil =>
      have := (h a.1).1 ⟨a, List.mem_cons_self, Nat.le_refl _, by omega⟩
      obtain ⟨q, hq, _⟩ := this
      cases hq
    | cons b m =>
      obtain ⟨hm', hb, hbm⟩ := hm.tail
      have low : ∀ {c : Nat × Nat} {k : List (Nat × Nat)} {j : Nat}, 1 ≤ c.2 → (∀ q ∈ k, c.1 + c.2 < q.1) → Fr (c :: k) j → c.1 ≤ j := by
        intro c k j h1 h2 h3
        rcases (Fr_cons c k j).1 h3 with h | ⟨q, hq, h⟩
        · exact h.1
        · have := h2 q hq; omega
      have e1 : a.1 = b.1 := by
        have h1 := low hb.2.1 hbm ((h a.1).1 ⟨a, List.mem_cons_self, Nat.le_refl _, by omega⟩)
        have h2 := low ha.2.1 hal ((h b.1).2 ⟨b, List.mem_cons_self, Nat.le_refl _, by omega⟩)
        omega
      have endn : ∀ {c : Nat × Nat} {k : List (Nat × Nat)}, (∀ q ∈ k, c.1 + c.2 < q.1) → ¬ Fr (c :: k) (c.1 + c.2) := by
        intro c k h2 h3
        rcases (Fr_cons c k _).1 h3 with h | ⟨q, hq, h⟩
        · omega
        · have := h2 q hq; omega
      have e2 : a.1 + a.2 = b.1 + b.2 := by
        rcases Nat.lt_trichotomy (a.1 + a.2) (b.1 + b.2) with h1 | h1 | h1
        · exact absurd ((h (a.1 + a.2)).2 ⟨b, List.mem_cons_self, by omega, h1⟩) (endn hal)
        · exact h1
        · exact absurd ((h (b.1 + b.2)).1 ⟨a, List.mem_cons_self, by omega, h1⟩) (endn hbm)
      obtain rfl : a = b := Prod.ext e1 (by omega)
      congr 1
      refine ih hl' hm' fun j => ?_
      have hj := h j
      rw [Fr_cons, Fr_cons] at hj
      constructor
      · intro hf
        rcases hj.1 (.inr hf) with h1 | h1
        · obtain ⟨q, hq, h2⟩ := hf
          have := hal q hq; omega
        · exact h1
      · intro hf
        rcases hj.2 (.inr hf) with h1 | h1
        · obtain ⟨q, hq, h2⟩ := hf
          have := hbm q hq; omega
        · exact h1
theorem Canon.row_at {l : List (Nat × Nat)} (h : Canon l) (k : Nat) {q : Nat × Nat} (hk : l[k]? = some q) : 2 * k + 1 ≤ q.1 := by
  induction k generalizing q with
  | zero => have := h.mem hk; omega
  | succ k ih =>
    have hl := (List.getElem?_eq_some_iff.1 hk).1
    obtain ⟨p, hp⟩ : ∃ p, l[k]? = some p := ⟨_, List.getElem?_eq_getElem (by omega)⟩
    have h1 := ih hp
    have h2 := h.lt hp hk (by omega)
    have h3 := h.mem hp
    omega
theorem Canon.len {l : List (Nat × Nat)} (h : Canon l) : l.length ≤ 2048 := by
  rcases Nat.eq_zero_or_pos l.length with h0 | h0
  · omega
  · obtain ⟨p, hp⟩ : ∃ p, l[l.length - 1]? = some p := ⟨_, List.getElem?_eq_getElem (by omega)⟩
    have h1 := h.row_at _ hp
    have h2 := h.mem hp
    omega
/-- How many pages are free. -/
def frN (l : List (Nat × Nat)) : Nat := (l.map (·.2)).sum
theorem frN_cons (a : Nat × Nat) (l : List (Nat × Nat)) : frN (a :: l) = a.2 + frN l := by simp [frN]
theorem frN_append (l m : List (Nat × Nat)) : frN (l ++ m) = frN l + frN m := by simp [frN]
theorem Canon.frN_le {l : List (Nat × Nat)} (h : Canon l) (s : Nat) (hs : ∀ q ∈ l, s ≤ q.1) (h4 : s ≤ 4096) : frN l + s ≤ 4096 := by
  induction l generalizing s with
  | nil => simp [frN]; omega
  | cons a l ih =>
    obtain ⟨h1, h2, h3⟩ := h.tail
    have := ih h1 (a.1 + a.2) (fun q hq => by have := h3 q hq; omega) (by omega)
    have := hs a List.mem_cons_self
    rw [frN_cons]; omega
theorem Canon.frN_lt {l : List (Nat × Nat)} (h : Canon l) : frN l ≤ 4095 := by have := h.frN_le 1 (fun q hq => (h.1 q hq).1) (by omega); omega
/-- What is given, where nothing of it is free. -/
theorem give_ok {w w' : World} {L g : Nat} {l : List (Nat × Nat)} {x n : Nat} {e : Ending} (hc : Canon l) (h : GiveR w L g l x n e w') (ht : thereB x n = true) (hf : ∀ j, x ≤ j → j < x + n → ¬ Fr l j) :
    e = .returned (.int .i64 0) ∧ ∃ m, Canon m ∧ (∀ j, Fr m j ↔ Fr l j ∨ (x ≤ j ∧ j < x + n)) ∧ LandR w L g m w' := by
  have ht2 : 1 ≤ (n : Int) ∧ 1 ≤ (x : Int) ∧ (n : Int) < 4096 ∧ (x : Int) ≤ 4096 - n := of_decide_eq_true ht
  rcases h with ⟨h, _⟩ | ⟨x', n', i, hx, hn, _, hi, h⟩
  · rw [ht] at h; cases h
  · obtain rfl : x = x' := by omega
    obtain rfl : n = n' := by omega
    rcases h with ⟨_, _, h⟩ | ⟨a, b, ro, ro', he, hlo, hro, hl⟩
    · exfalso
      rcases h with ⟨p, h0, hp, h⟩ | ⟨p, hp, h⟩
      · have h1 := (hi.2 _ p hp).1 (by omega)
        exact hf x (by omega) (by omega) ((Fr_at l x).2 ⟨_, p, hp, by omega, h⟩)
      · have h1 : ¬ ((p.1 : Int) < x) := fun hh => by have := (hi.2 _ p hp).2 hh; omega
        have := hc.mem hp
        exact hf p.1 (by omega) h ((Fr_at l p.1).2 ⟨_, p, hp, by omega, by omega⟩)
    · obtain ⟨h1, h2⟩ := give_plain hc (by omega) (by omega) (by omega) hi hlo hro
      exact ⟨he, _, h1, h2, hl⟩
/-- What is given, where something of it is free. -/
theorem give_no {w w' : World} {L g : Nat} {l : List (Nat × Nat)} {x n j : Nat} {e : Ending} (hc : Canon l) (h : GiveR w L g l x n e w') (h1 : x ≤ j) (h2 : j < x + n) (hj : Fr l j) :
    e = .returned (.int .i64 2) ∧ Below w.heap.size w w' := by
  rcases h with ⟨_, he, rfl⟩ | ⟨x', n', i, hx, hn, ht, hi, h⟩
  · exact ⟨he, Below.refl _ _⟩
  · have ht2 : 1 ≤ (n : Int) ∧ 1 ≤ (x : Int) ∧ (n : Int) < 4096 ∧ (x : Int) ≤ 4096 - n := of_decide_eq_true ht
    obtain rfl : x = x' := by omega
    obtain rfl : n = n' := by omega
    rcases h with ⟨he, hb, h⟩ | ⟨a, b, ro, ro', he, hlo, hro, hl⟩
    · exact ⟨he, hb⟩
    · exfalso
      obtain ⟨k, q, hk, hq⟩ := (Fr_at l j).1 hj
      have hkl := (List.getElem?_eq_some_iff.1 hk).1
      by_cases hki : k < i
      · obtain ⟨p, hp⟩ : ∃ p, l[i - 1]? = some p := ⟨_, List.getElem?_eq_getElem (by have := hi.1; omega)⟩
        have hqp : q.1 + q.2 ≤ p.1 + p.2 := by
          by_cases e : k = i - 1
          · subst e; cases hk.symm.trans hp; omega
          · have := hc.lt hk hp (by omega)
            have := hc.mem hp; omega
        rcases hlo with ⟨_, _, hh⟩ | ⟨p', _, hp', hpx, _⟩
        · have := hh p (by omega) hp; omega
        · cases hp'.symm.trans hp; omega
      · obtain ⟨p, hp⟩ : ∃ p, l[i]? = some p := ⟨_, List.getElem?_eq_getElem (by omega)⟩
        have hqp : p.1 ≤ q.1 := by
          by_cases e : k = i
          · subst e; cases hk.symm.trans hp; omega
          · have := hc.lt hp hk (by omega)
            have := hc.mem hp; omega
        have hs := hlo.sum.1
        rcases hro with ⟨_, _, hh⟩ | ⟨p', hp', hpx, _⟩
        · have := hh p hp; omega
        · cases hp'.symm.trans hp; omega
end Go.Proofs.YtadbbknllakpcaaGreat.rn
