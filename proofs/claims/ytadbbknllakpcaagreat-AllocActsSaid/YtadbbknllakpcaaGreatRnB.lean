/- What Take and Give answer at lists that are known; the document's example. -/
import Derived.Test.YtadbbknllakpcaaGreatRnG
import Derived.Test.YtadbbknllakpcaaGreatNum
namespace Go.Proofs.YtadbbknllakpcaaGreat.rn
open Go.RowKit
set_option linter.unusedVariables false

theorem BestTo.one {l : List (Nat × Nat)} {n : Int} {j b b' : Nat} {p p' : Nat × Nat} (h : BestTo l n j b p) (h' : BestTo l n j b' p') : b = b' ∧ p = p' := by
  obtain ⟨h1, h2, h3, h4⟩ := h
  obtain ⟨g1, g2, g3, g4⟩ := h'
  have e : b = b' := by
    have a1 := h4 b' p' g1 g2 g3
    have a2 := g4 b p h1 h2 h3
    omega
  subst e
  have := h2.symm.trans g2
  cases this
  exact ⟨rfl, rfl⟩
theorem take_is {w w' : World} {L g : Nat} {l : List (Nat × Nat)} {n : Int} {e : Ending} {b : Nat} {p : Nat × Nat} (h : TakeR w L g l n e w') (hn : 1 ≤ n) (hb : BestTo l n l.length b p) :
    e = .returned (.tuple #[.int .i64 p.1, .int .i64 0]) ∧ LandR w L g (l.take b ++ leftR p p.1 n.toNat ++ l.drop (b + 1)) w' := by
  rcases h with ⟨h, _⟩ | ⟨_, h, _⟩ | ⟨b', p', _, hb', he, hl⟩
  · omega
  · have := h b p hb.1 hb.2.1
    have := hb.2.2.1
    omega
  · obtain ⟨rfl, rfl⟩ := hb.one hb'
    exact ⟨he, hl⟩
theorem BehR.one {l : List (Nat × Nat)} {x : Int} {i i' : Nat} (h : BehR l x i) (h' : BehR l x i') : i = i' := by
  rcases Nat.lt_trichotomy i i' with e | e | e
  · have hk := List.getElem?_eq_getElem (show i < l.length by have := h'.1; omega)
    have := (h'.2 i _ hk).1 e
    have := (h.2 i _ hk).2 this
    omega
  · exact e
  · have hk := List.getElem?_eq_getElem (show i' < l.length by have := h.1; omega)
    have := (h.2 i' _ hk).1 e
    have := (h'.2 i' _ hk).2 this
    omega
theorem LO.one {l : List (Nat × Nat)} {x n i a a' : Nat} {ro ro' : Nat × Nat} (h : LO l x n i a ro) (h' : LO l x n i a' ro') : a = a' ∧ ro = ro' := by
  rcases h with ⟨rfl, rfl, h⟩ | ⟨p, h0, h1, h2, rfl, rfl⟩ <;> rcases h' with ⟨rfl, rfl, h'⟩ | ⟨p', g0, g1, g2, rfl, rfl⟩
  · exact ⟨rfl, rfl⟩
  · have := h p' g0 g1; omega
  · have := h' p h0 h1; omega
  · have := h1.symm.trans g1
    cases this
    exact ⟨rfl, rfl⟩
theorem RO.one {l : List (Nat × Nat)} {i b b' : Nat} {ro r1 r2 : Nat × Nat} (h : RO l i b ro r1) (h' : RO l i b' ro r2) : b = b' ∧ r1 = r2 := by
  rcases h with ⟨rfl, rfl, h⟩ | ⟨p, h1, h2, rfl, rfl⟩ <;> rcases h' with ⟨rfl, rfl, h'⟩ | ⟨p', g1, g2, rfl, rfl⟩
  · exact ⟨rfl, rfl⟩
  · have := h p' g1; omega
  · have := h' p h1; omega
  · have := h1.symm.trans g1
    cases this
    exact ⟨rfl, rfl⟩
theorem give_is {w w' : World} {L g : Nat} {l : List (Nat × Nat)} {x n i a b : Nat} {ro ro' : Nat × Nat} {e : Ending} (h : GiveR w L g l x n e w') (ht : thereB x n = true) (hi : BehR l x i) (hlo : LO l x n i a ro) (hro : RO l i b ro ro') :
    e = .returned (.int .i64 0) ∧ LandR w L g (l.take a ++ [ro'] ++ l.drop b) w' := by
  rcases h with ⟨h, _⟩ | ⟨x', n', i', hx, hn, _, hi', h⟩
  · rw [ht] at h; cases h
  · obtain rfl : x = x' := by omega
    obtain rfl : n = n' := by omega
    obtain rfl := hi.one hi'
    rcases h with ⟨_, _, h⟩ | ⟨a', b', r1, r2, he, hlo', hro', hl⟩
    · have hs := hlo.sum.1
      rcases h with ⟨p, h0, hp, h⟩ | ⟨p, hp, h⟩
      · rcases hlo with ⟨_, _, hh⟩ | ⟨q, _, hq, hq2, _⟩
        · have := hh p h0 hp; omega
        · have := hq.symm.trans hp
          cases this
          omega
      · rcases hro with ⟨_, _, hh⟩ | ⟨q, hq, hq2, _⟩
        · have := hh p hp; omega
        · have := hq.symm.trans hp
          cases this
          omega
    · obtain ⟨rfl, rfl⟩ := hlo.one hlo'
      obtain ⟨rfl, rfl⟩ := hro.one hro'
      exact ⟨he, hl⟩
theorem best_first {a N : Nat} {l : List (Nat × Nat)} {n : Int} (h : n ≤ (N : Int)) (h2 : ∀ q ∈ l, n ≤ (q.2 : Int) → N ≤ q.2) : BestTo ((a, N) :: l) n ((a, N) :: l).length 0 (a, N) := by
  refine ⟨by simp, rfl, h, fun k q hk hq hn => ⟨?_, fun h => by omega⟩⟩
  cases k with
  | zero => simp at hq; subst hq; exact Nat.le_refl _
  | succ k => exact h2 q (List.mem_of_getElem? (by simpa using hq)) hn
theorem canon_one {a N : Nat} (h1 : 1 ≤ a) (h2 : 1 ≤ N) (h3 : a + N ≤ 4096) : Canon [(a, N)] := ⟨fun q hq => by obtain rfl := List.mem_singleton.1 hq; exact ⟨h1, h2, h3⟩, List.pairwise_singleton _ _⟩
theorem canon_two {a N b M : Nat} (h1 : 1 ≤ a) (h2 : 1 ≤ N) (h3 : a + N < b) (h4 : 1 ≤ M) (h5 : b + M ≤ 4096) : Canon [(a, N), (b, M)] := by
  refine ⟨fun q hq => ?_, ?_⟩
  · simp only [List.mem_cons, List.not_mem_nil, or_false] at hq
    rcases hq with rfl | rfl
    · exact ⟨h1, h2, by simp only; omega⟩
    · exact ⟨by simp only; omega, h4, h5⟩
  · simp [h3]
theorem beh_zero {a N x : Nat} {l : List (Nat × Nat)} (hc : Canon ((a, N) :: l)) (h : x ≤ a) : BehR ((a, N) :: l) x 0 := by
  refine ⟨Nat.zero_le _, fun k q hk => ⟨fun h => by omega, fun hq => ?_⟩⟩
  cases k with
  | zero => simp at hk; subst hk; simp only at hq; omega
  | succ k => have := hc.lt (i := 0) rfl hk (by omega); simp only at this; omega
theorem lo_zero {x n : Nat} {l : List (Nat × Nat)} : LO l x n 0 0 (x, n) := .inl ⟨rfl, rfl, fun p h _ => by omega⟩
theorem ro_apart {a N : Nat} {l : List (Nat × Nat)} {ro : Nat × Nat} (h : ro.1 + ro.2 < a) : RO ((a, N) :: l) 0 0 ro ro := .inl ⟨rfl, rfl, fun p hp => by simp at hp; subst hp; exact h⟩
theorem there_ok {x n : Nat} (h : 1 ≤ n) (h2 : 1 ≤ x) (h3 : n < 4096) (h4 : x + n ≤ 4096) : thereB x n = true := decide_eq_true (by omega)
theorem leftR_front {a N n : Nat} (h : n < N) : leftR (a, N) a n = [(a + n, N - n)] := by
  unfold leftR
  rw [if_neg (by simp), if_pos (by simp only; omega), List.nil_append]
  congr 2
  simp only; omega
theorem leftR_all {a N : Nat} : leftR (a, N) a N = [] := by
  unfold leftR
  rw [if_neg (by simp), if_neg (by simp), List.nil_append]
end Go.Proofs.YtadbbknllakpcaaGreat.rn
