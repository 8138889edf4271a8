/- AllocApart: a heap and two rows of numbers. -/
import Derived.Test.YtadbbknllakpcaaHeapG
import Derived.Test.YtadbbknllakpcaaAlAgain1
import Derived.Test.YtadbbknllakpcaaAlThere1
import Derived.Test.YtadbbknllakpcaaDagA
import Derived.Test.YtadbbknllakpcaaStep
namespace Go.Proofs.Ytadbbknllakpcaa
open Go.RowKit
set_option linter.unusedVariables false

/-- A heap, and beside it two rows of numbers. -/
def St2 (F : Nat → Prop) (w wr : World) (H L n : Nat) (S : List Sp) (l : List (Nat × Nat)) (xs ys : List Int) (v u : Value) : Prop :=
  StF F w wr H L n S l xs v ∧ wr.ownsRow w.heap.size 3 1 u ys.length (intsV ys) ∧ (∀ k, u.ownBlock = some k → ¬ F k) ∧ ∀ k, u.ownBlock = some k → v.ownBlock ≠ some k
theorem St2.step {F : Nat → Prop} {w wr w' : World} {H L n n' : Nat} {S S' : List Sp} {l l' : List (Nat × Nat)} {xs ys : List Int} {v u : Value} (h : St2 F w wr H L n S l xs ys v u) (hs : HStep F wr w' H L n' S' l') (hl : LandOf S' l') : ∃ F', St2 F' w w' H L n' S' l' xs ys v u := by
  obtain ⟨h1, h2, h3, h4⟩ := h
  obtain ⟨F', g1, g2⟩ := h1.step2 hs hl
  refine ⟨F', g1, own_onlyC h2 hs.only (fun k hk hF => h3 k hk hF), fun k hk hF => ?_, h4⟩
  rcases g2 k hF with h | h
  · exact h3 k hk h
  · have := (h2.lt k hk).2; omega
theorem St2.below {F : Nat → Prop} {w wr w' : World} {H L n : Nat} {S : List Sp} {l : List (Nat × Nat)} {xs ys : List Int} {v u : Value} (h : St2 F w wr H L n S l xs ys v u) (hb : Below wr.heap.size wr w') : St2 F w w' H L n S l xs ys v u :=
  ⟨h.1.below hb, ownsRow_below h.2.1 hb, h.2.2.1, h.2.2.2⟩
theorem St2.swap {F : Nat → Prop} {w wr : World} {H L n : Nat} {S : List Sp} {l : List (Nat × Nat)} {xs ys : List Int} {v u : Value} (h : St2 F w wr H L n S l xs ys v u) : St2 F w wr H L n S l ys xs u v := by
  obtain ⟨⟨a1, a2, a3, a4, a5, a6⟩, h2, h3, h4⟩ := h
  exact ⟨⟨a1, a2, a3, h2, h3, a6⟩, a4, a5, fun k hk hu => h4 k hu hk⟩
theorem St2.app {F : Nat → Prop} {w wr w' : World} {H L n : Nat} {S : List Sp} {l : List (Nat × Nat)} {xs ys : List Int} {v u v' : Value} {x : Int} (h : St2 F w wr H L n S l xs ys v u) (ho : w'.ownsRow w.heap.size 3 1 v' (xs.length + 1) (intsV xs ++ (#[Value.int .i64 x]).toList)) (hg : wr.grownBy w' v.ownBlock) (hn : NewRow (wr.heap.size + 1) v v') : St2 F w w' H L n S l (xs ++ [x]) ys v' u := by
  obtain ⟨h1, h2, h3, h4⟩ := h
  refine ⟨h1.app ho hg hn, own_onlyC h2 (Only.grown (S := fun k => v.ownBlock = some k) (Only.refl _ wr) hg (fun k hk _ => hk)) (fun k hk e => h4 k hk e), h3, fun k hk e => ?_⟩
  rcases hn with h | ⟨j, h, hj⟩
  · rw [h] at e; exact h4 k hk e
  · rw [h] at e; cases e
    have := (h2.lt k hk).2; omega
/-- A row is another one now, in a block of its own. -/
theorem St2.other {F : Nat → Prop} {w wr w' : World} {H L n : Nat} {S : List Sp} {l : List (Nat × Nat)} {xs ys zs : List Int} {v u v' : Value} (h : St2 F w wr H L n S l xs ys v u) (hb : Below wr.heap.size wr w') (ho : w'.ownsRow wr.heap.size 3 1 v' zs.length (intsV zs)) : St2 F w w' H L n S l zs ys v' u := by
  obtain ⟨⟨a1, a2, a3, a4, a5, a6⟩, h2, h3, h4⟩ := h.below hb
  refine ⟨⟨a1, a2, a3, ownsRow_base ho h.1.2.2.2.2.2.size, fun k hk hF => ?_, a6⟩, h2, h3, fun k hk e => ?_⟩
  · have := (ho.lt k hk).1
    have := h.1.1.lt k hF
    omega
  · have := (ho.lt k e).1
    have := (h.2.1.lt k hk).2
    omega
/-- What AllocApart keeps. -/
def ApF (w wr : World) (H L j : Nat) (xs ys : List Int) (v u : Value) : Prop :=
  ∃ S l F k, St2 F w wr H L k S l xs ys v u ∧ (∀ s ∈ S, s.pg + s.ps ≤ 1 + 6 * j) ∧ k ≤ 4 * j ∧ xs.length = ys.length ∧ (∀ b y, Obj S b y ↔ ∃ i : Nat, xs[i]? = some b ∧ ys[i]? = some y) ∧ cntAll S = xs.length ∧ (octAll S : Int) = ys.sum ∧ xs.length ≤ j ∧ xs.Nodup
/-- What Alloc makes of what it keeps. -/
theorem apart_new {S S1 : List Sp} {xs ys : List Int} {j : Nat} {a z : Int} (hxy : xs.length = ys.length) (hob : ∀ b y, Obj S b y ↔ ∃ i : Nat, xs[i]? = some b ∧ ys[i]? = some y) (hcn : cntAll S = xs.length) (hoc : (octAll S : Int) = ys.sum) (hxl : xs.length ≤ j) (hnd : xs.Nodup)
    (hobs : ∀ b y, Obj S1 b y ↔ Obj S b y ∨ (b = a ∧ y = z)) (hno : ∀ y, ¬ Obj S a y) (hcn1 : cntAll S1 = cntAll S + 1) (hoc1 : (octAll S1 : Int) = octAll S + z) :
    (xs ++ [a]).length = (ys ++ [z]).length ∧ (∀ b y, Obj S1 b y ↔ ∃ i : Nat, (xs ++ [a])[i]? = some b ∧ (ys ++ [z])[i]? = some y) ∧ cntAll S1 = (xs ++ [a]).length ∧ (octAll S1 : Int) = (ys ++ [z]).sum ∧ (xs ++ [a]).length ≤ j + 1 ∧ (xs ++ [a]).Nodup := by
  refine ⟨by simp [hxy], fun b y => ?_, by simp [hcn1, hcn], by simp [List.sum_append, hoc1, hoc], by simp [hxl], List.nodup_append.2 ⟨hnd, by simp, fun u hu v hv e => ?_⟩⟩
  · rw [hobs b y, hob b y]
    constructor
    · rintro (⟨i, h1, h2⟩ | ⟨rfl, rfl⟩)
      · have e1 := (List.getElem?_eq_some_iff.1 h1).1
        exact ⟨i, by rw [List.getElem?_append_left e1]; exact h1, by rw [List.getElem?_append_left (by omega)]; exact h2⟩
      · exact ⟨xs.length, by simp, by rw [hxy]; simp⟩
    · rintro ⟨i, h1, h2⟩
      rcases Nat.lt_trichotomy i xs.length with h | h | h
      · rw [List.getElem?_append_left h] at h1
        rw [List.getElem?_append_left (by omega)] at h2
        exact .inl ⟨i, h1, h2⟩
      · subst h
        rw [hxy] at h2
        simp at h1 h2
        exact .inr ⟨h1.symm, h2.symm⟩
      · have := (List.getElem?_eq_some_iff.1 h1).1
        simp at this
        omega
  · obtain rfl := List.mem_singleton.1 hv
    subst e
    obtain ⟨i, hi⟩ := List.mem_iff_getElem?.1 hu
    obtain ⟨y, hy⟩ : ∃ y, ys[i]? = some y := ⟨_, List.getElem?_eq_getElem (by have := (List.getElem?_eq_some_iff.1 hi).1; omega)⟩
    exact hno y ((hob u y).2 ⟨i, hi, hy⟩)
theorem erase_at {xs : List Int} {j i : Nat} : (xs.eraseIdx j)[i]? = xs[if i < j then i else i + 1]? := by
  rw [List.getElem?_eraseIdx]
  split <;> rfl
theorem erase_back {q j : Nat} (hq : q ≠ j) : (if (if q < j then q else q - 1) < j then (if q < j then q else q - 1) else (if q < j then q else q - 1) + 1) = q := by
  rcases Nat.lt_or_ge q j with h | h
  · simp only [if_pos h]
  · simp only [if_neg (Nat.not_lt.2 h)]
    rw [if_neg (by omega)]
    omega
/-- What Free makes of what it keeps. -/
theorem apart_free {S S1 : List Sp} {l l1 : List (Nat × Nat)} {xs ys : List Int} {X j : Nat} {a y r k er : Int} (hI : Inv S) (hT : ∀ s ∈ S, s.pg + s.ps ≤ X) (hxy : xs.length = ys.length) (hob : ∀ b y, Obj S b y ↔ ∃ i : Nat, xs[i]? = some b ∧ ys[i]? = some y) (hcn : cntAll S = xs.length) (hoc : (octAll S : Int) = ys.sum) (hnd : xs.Nodup)
    (hx : xs[j]? = some a) (hy : ys[j]? = some y) (hF : FreeL S l a r k er S1 l1) :
    er = 0 ∧ (∀ s ∈ S1, s.pg + s.ps ≤ X) ∧ (xs.eraseIdx j).length = (ys.eraseIdx j).length ∧ (∀ b y, Obj S1 b y ↔ ∃ i : Nat, (xs.eraseIdx j)[i]? = some b ∧ (ys.eraseIdx j)[i]? = some y) ∧ cntAll S1 = (xs.eraseIdx j).length ∧ (octAll S1 : Int) = (ys.eraseIdx j).sum ∧ (xs.eraseIdx j).Nodup := by
  have hO : Obj S a y := (hob a y).2 ⟨j, hx, hy⟩
  have hjx := (List.getElem?_eq_some_iff.1 hx).1
  have hjy := (List.getElem?_eq_some_iff.1 hy).1
  rcases hF with ⟨_, _, _, _, _, hno⟩ | ⟨s, hs, i, hi, hf, rfl, rfl, rfl, _⟩
  · exact absurd hO (hno y)
  · have hO2 : Obj S (s.at i) (s.siz : Nat) := ⟨s, hs, i, hi, hf, rfl, rfl⟩
    have hp := obj_pos hI hO
    have hp2 := obj_pos hI hO2
    have hyz : y = (s.siz : Nat) := (obj_one hI hO hO2 (x := s.at i) (by omega) (by omega)).2
    obtain ⟨c1, c2⟩ := count_free hI hs hi hf
    have e1 : (xs.eraseIdx j).length = xs.length - 1 := by rw [List.length_eraseIdx, if_pos hjx]
    have e2 : (ys.eraseIdx j).length = ys.length - 1 := by rw [List.length_eraseIdx, if_pos hjy]
    refine ⟨rfl, fun t ht => ?_, by omega, fun b z => ?_, by omega, ?_, hnd.sublist (List.eraseIdx_sublist _ _)⟩
    · rcases setS_mem.1 ht with ⟨h, _⟩ | ⟨rfl, _⟩
      · exact hT t h
      · exact hT s hs
    · rw [obj_free hI hs hi hf b z, hob b z]
      constructor
      · rintro ⟨⟨q, h1, h2⟩, h3⟩
        have hq : q ≠ j := fun e => by subst e; rw [hx] at h1; cases h1; exact h3 rfl
        refine ⟨if q < j then q else q - 1, ?_, ?_⟩
        · rw [erase_at, erase_back hq]; exact h1
        · rw [erase_at, erase_back hq]; exact h2
      · rintro ⟨q, h1, h2⟩
        rw [erase_at] at h1 h2
        refine ⟨⟨_, h1, h2⟩, fun e => ?_⟩
        subst e
        have := (List.getElem?_inj (List.getElem?_eq_some_iff.1 h1).1 hnd).1 (h1.trans hx.symm)
        split at this <;> omega
    · have e3 : (ys.eraseIdx j).sum + y = ys.sum := by
        have h1 : ys = ys.take j ++ y :: ys.drop (j + 1) := by
          have := (List.getElem?_eq_some_iff.1 hy).2
          rw [← this, List.getElem_cons_drop, List.take_append_drop]
        have h2 := congrArg List.sum h1
        rw [List.sum_append, List.sum_cons] at h2
        rw [List.eraseIdx_eq_take_drop_succ, List.sum_append]
        omega
      omega
end Go.Proofs.Ytadbbknllakpcaa

/- A row without one of its numbers: append(append([]int{}, x[:j]...), x[j+1:]...); its region, which draws its order. -/
namespace Go.Proofs.Ytadbbknllakpcaa
open Go.RowKit
set_option linter.unusedVariables false

theorem ints_one (xs : List Int) : ∀ u ∈ intsV xs, u.oneCell' = true := fun v hv => by obtain ⟨k, _, rfl⟩ := List.mem_map.1 hv; rfl
theorem run_cutH (b n c j : Nat) (h : j ≤ c) (w : World) : (Instr.slice 24 (.slice (some ⟨b, 0, none⟩) n c) none (some (.int .i64 (j : Int))) none).run Try.prog w = .ok (.slice (some ⟨b, 0, none⟩) j c) w := by
  go_simp
theorem run_cutL (b n c j : Nat) (h : j + 1 ≤ n) (w : World) : (Instr.slice 24 (.slice (some ⟨b, 0, none⟩) n c) (some (.int .i64 ((j + 1 : Nat) : Int))) none none).run Try.prog w = .ok (.slice (if c = j + 1 then some ⟨b, 0, none⟩ else some ⟨b, j + 1, none⟩) (n - (j + 1)) (c - (j + 1))) w := by
  go_simp
  intro h1
  have := h1 (by omega)
  omega
theorem cut_run (w : World) (B b n c j : Nat) (xs : List Int) (hx : w.ownsRow B 3 1 (.slice (some ⟨b, 0, none⟩) n c) n (intsV xs)) (hn : xs.length = n) (hj : j < n) (hn2 : n ≤ 1000) :
    ∃ v1 W2 v2 W3, (Builtin.append_ #[24, 24] 24 #[.slice (some ⟨w.heap.size, 0, none⟩) 0 0, .slice (some ⟨b, 0, none⟩) j c]).run Try.prog (w.alloc (.cells #[] 3)) = .ok v1 W2 ∧
      (Builtin.append_ #[24, 24] 24 #[v1, .slice (if c = j + 1 then some ⟨b, 0, none⟩ else some ⟨b, j + 1, none⟩) (n - (j + 1)) (c - (j + 1))]).run Try.prog W2 = .ok v2 W3 ∧
      W3.ownsRow w.heap.size 3 1 v2 (xs.eraseIdx j).length (intsV (xs.eraseIdx j)) ∧ Below w.heap.size w W3 := by
  obtain ⟨i0, hi, hz0, hz1, hz2⟩ := info_parts info_IntA
  obtain ⟨g, hg, h1, h2, hc⟩ := (ownsRow_rd hx).resolve_left (by omega)
  cases hg
  have hcap : n ≤ c := by
    rcases ownsRow_form hx with ⟨hv, h0⟩ | ⟨g, cap, hv, _, _, hnc, _⟩
    · omega
    · cases hv; exact hnc
  have hrd : RdAt w (some ⟨b, 0, none⟩) n (intsV xs) := RdAt.of_own hx
  have hb1 : Below w.heap.size w (w.alloc (.cells #[] 3)) := (Below.refl _ _).alloc (Nat.le_refl _) _
  have hs1 : (w.alloc (.cells #[] 3)).heap.size = w.heap.size + 1 := by simp
  have hlt : (intsV (xs.take j)).length = j := by unfold intsV; rw [List.length_map, List.length_take]; omega
  obtain ⟨v1, W2, hr1, ho1, hg1, hn1, _⟩ := run_append_rd (P := Try.prog) (w := w.alloc (.cells #[] 3)) w.heap.size 24 24 3 i0 _ 1 8 Try.underlying24 hi hz0 hz1 hz2 rfl (by decide) (.slice (some ⟨w.heap.size, 0, none⟩) 0 0) 0 [] (lit_own w w.heap.size 3 (Nat.le_refl _)) (some ⟨b, 0, none⟩) j c (intsV (xs.take j)) (by rw [hlt]; omega) (by
    by_cases h0 : j = 0
    · exact .inl h0
    · refine .inr ⟨b, 0, rfl, by omega, fun i u hu => ?_⟩
      have hij := (List.getElem?_eq_some_iff.1 hu).1
      rw [hlt] at hij
      rw [Nat.zero_add]
      refine (hb1.cell (p := ⟨b, i, none⟩) h2).trans (hc i u ?_)
      unfold intsV at hu ⊢
      rw [List.map_take, List.getElem?_take_of_lt hij] at hu
      exact hu) (ints_one _) (by omega) (by unfold maxLen; omega) (by omega)
  have hb2 : Below w.heap.size w W2 := lit_below hb1 (by omega) (Nat.le_refl _) hg1
  have hld : (intsV (xs.drop (j + 1))).length = n - (j + 1) := by unfold intsV; rw [List.length_map, List.length_drop]; omega
  obtain ⟨v2, W3, hr2, ho2, hg2, hn2, _⟩ := run_append_rd (P := Try.prog) (w := W2) w.heap.size 24 24 3 i0 _ 1 8 Try.underlying24 hi hz0 hz1 hz2 rfl (by decide) v1 (0 + j) _ ho1 (if c = j + 1 then some ⟨b, 0, none⟩ else some ⟨b, j + 1, none⟩) (n - (j + 1)) (c - (j + 1)) (intsV (xs.drop (j + 1))) (by rw [hld]; omega) (by
    by_cases h0 : n = j + 1
    · exact .inl (by omega)
    · rw [if_neg (by omega)]
      refine .inr ⟨b, j + 1, rfl, Nat.lt_of_lt_of_le h2 hb2.size, fun i u hu => ?_⟩
      refine (hb2.cell (p := ⟨b, j + 1 + i, none⟩) h2).trans (hc _ u ?_)
      unfold intsV at hu ⊢
      rw [List.map_drop, List.getElem?_drop] at hu
      exact hu) (ints_one _) (by omega) (by unfold maxLen; omega) hb2.size
  refine ⟨v1, W2, v2, W3, hr1, hr2, ?_, own_below hb2 ho1 hb2.size hg2⟩
  have e1 : (xs.eraseIdx j).length = 0 + j + (n - (j + 1)) := by rw [List.length_eraseIdx, if_pos (by omega)]; omega
  have e2 : intsV (xs.eraseIdx j) = [] ++ intsV (xs.take j) ++ intsV (xs.drop (j + 1)) := by
    unfold intsV
    rw [List.eraseIdx_eq_take_drop_succ, List.map_append, List.nil_append]
  rw [e1, e2]
  exact ho2
theorem own_cap {w : World} {B b n c : Nat} {e : TypeId} {xs : List Value} (h : w.ownsRow B e 1 (.slice (some ⟨b, 0, none⟩) n c) n xs) : n ≤ c := by
  rcases ownsRow_form h with ⟨hv, h0⟩ | ⟨g, cap, hv, _, _, hnc, _⟩
  · cases hv
  · cases hv; exact hnc
/-- Which of the three stores has been. -/
def CutJ (W0 W1 W2 W3 : World) (g : Nat → Bool) (w' : World) : Prop :=
  (g 4 = true → g 0 = true) ∧ (g 9 = true → g 4 = true) ∧ (g 0 = false → w' = W0) ∧ (g 0 = true → g 4 = false → w' = W1) ∧ (g 4 = true → g 9 = false → w' = W2) ∧ (g 9 = true → w' = W3)
theorem CutJ.start {W0 W1 W2 W3 : World} : CutJ W0 W1 W2 W3 (fun _ => false) W0 := ⟨(fun h => by cases h), (fun h => by cases h), (fun _ => rfl), (fun h => by cases h), (fun h => by cases h), (fun h => by cases h)⟩
theorem CutJ.same {W0 W1 W2 W3 w' : World} {g : Nat → Bool} (k : CutJ W0 W1 W2 W3 g w') {i : Nat} (hi : (i == 0 || i == 4 || i == 9) = false) : CutJ W0 W1 W2 W3 (upd g i) w' := by
  simp only [Bool.or_eq_false_iff, beq_eq_false_iff_ne] at hi
  have e : ∀ m, m ≠ i → upd g i m = g m := fun m h => by unfold upd; rw [if_neg h]
  unfold CutJ
  rw [e 0 (Ne.symm hi.1.1), e 4 (Ne.symm hi.1.2), e 9 (Ne.symm hi.2)]
  exact k
theorem CutJ.s0 {W0 W1 W2 W3 w' : World} {g : Nat → Bool} (k : CutJ W0 W1 W2 W3 g w') (h : g 0 = false) : w' = W0 ∧ CutJ W0 W1 W2 W3 (upd g 0) W1 := by
  have h4 : g 4 = false := by
    cases h4 : g 4
    · rfl
    · have := k.1 h4; rw [h] at this; cases this
  have h9 : g 9 = false := by
    cases h9 : g 9
    · rfl
    · have := k.2.1 h9; rw [h4] at this; cases this
  refine ⟨k.2.2.1 h, ?_⟩
  show (g 4 = true → _) ∧ (g 9 = true → g 4 = true) ∧ (true = false → _) ∧ (true = true → g 4 = false → _) ∧ (g 4 = true → g 9 = false → _) ∧ (g 9 = true → _)
  rw [h4, h9]
  exact ⟨(fun h => by cases h), (fun h => by cases h), (fun h => by cases h), (fun _ _ => rfl), (fun h => by cases h), (fun h => by cases h)⟩
theorem CutJ.s4 {W0 W1 W2 W3 w' : World} {g : Nat → Bool} (k : CutJ W0 W1 W2 W3 g w') (h0 : g 0 = true) (h : g 4 = false) : w' = W1 ∧ CutJ W0 W1 W2 W3 (upd g 4) W2 := by
  have h9 : g 9 = false := by
    cases h9 : g 9
    · rfl
    · have := k.2.1 h9; rw [h] at this; cases this
  refine ⟨k.2.2.2.1 h0 h, ?_⟩
  show (true = true → g 0 = true) ∧ (g 9 = true → true = true) ∧ (g 0 = false → _) ∧ (g 0 = true → true = false → _) ∧ (true = true → g 9 = false → _) ∧ (g 9 = true → _)
  rw [h0, h9]
  exact ⟨(fun _ => rfl), (fun h => by cases h), (fun h => by cases h), (fun _ h => by cases h), (fun _ _ => rfl), (fun h => by cases h)⟩
theorem CutJ.s9 {W0 W1 W2 W3 w' : World} {g : Nat → Bool} (k : CutJ W0 W1 W2 W3 g w') (h4 : g 4 = true) (h : g 9 = false) : w' = W2 ∧ CutJ W0 W1 W2 W3 (upd g 9) W3 := by
  refine ⟨k.2.2.2.2.1 h4 h, ?_⟩
  have h0 := k.1 h4
  show (g 4 = true → g 0 = true) ∧ (true = true → g 4 = true) ∧ (g 0 = false → _) ∧ (g 0 = true → g 4 = false → _) ∧ (g 4 = true → true = false → _) ∧ (true = true → _)
  rw [h0, h4]
  exact ⟨(fun _ => rfl), (fun _ => rfl), (fun h => by cases h), (fun _ h => by cases h), (fun _ h => by cases h), (fun _ => rfl)⟩
section
variable {P : Program} {md : Region.Mode} {ops : Array Oper} {F : Act} {J : (Nat → Bool) → World → Prop} {i : Nat} {o : Oper}
theorem dag_append {s x : Operand} {t ty : TypeId} {v u v2 : Value} (hw : Region.wanted o (yielded ops F.tmps) = true) (hp : F.put o.dst v2 = F) (ho : o.op = .call { callee := .builtin .append, args := #[s, x], argTypes := #[t, t] }) (hy : o.type = ty) (hs : F.eval s = v) (hx : F.eval x = u)
    (hr : ∀ (g : Nat → Bool) (w : World), g i = false → (∀ e ∈ o.after, Region.binds md e = true → g e.on = true) → J g w → ∃ w', (Builtin.append_ #[t, t] ty #[v, u]).run P w = .ok v2 w' ∧ J (upd g i) w') : DagStep P md ops F J i o := by
  refine dag_make hw hp (fun g w h1 h2 h => ?_)
  obtain ⟨w', hrun, hj⟩ := hr g w h1 h2 h
  refine ⟨w', ?_, hj⟩
  unfold execOp
  simp only [ho, hy, resolve, invoke, builtin, Sem.run_bind, Sem.run_pure, Result.andThen_ok, List.map_toArray, List.map_cons, List.map_nil, hs, hx, hrun]
theorem dag_sliceH {t : TypeId} {x h : Operand} {v1 v3 v : Value} (hw : Region.wanted o (yielded ops F.tmps) = true) (hp : F.put o.dst v = F) (ho : o.op = .slice t x none (some h) none) (hx : F.eval x = v1) (hz : F.eval h = v3) (hr : ∀ w : World, (Instr.slice t v1 none (some v3) none).run P w = .ok v w) (hat : ∀ w : World, (Instr.sliceAt t v1 none (some v3) none).run P w = (Instr.slice t v1 none (some v3) none).run P w)
    (hJ : ∀ (g : Nat → Bool) (w : World), J g w → J (upd g i) w) : DagStep P md ops F J i o := by
  refine dag_val hw hp (fun g w h => ?_) hJ
  unfold execOp
  simp only [ho, Option.map_some, Option.map_none, hx, hz, Sem.run_bind, hat, hr, Result.andThen_ok, Sem.run_pure]
theorem dag_sliceL {t : TypeId} {x h : Operand} {v1 v3 v : Value} (hw : Region.wanted o (yielded ops F.tmps) = true) (hp : F.put o.dst v = F) (ho : o.op = .slice t x (some h) none none) (hx : F.eval x = v1) (hz : F.eval h = v3) (hr : ∀ w : World, (Instr.slice t v1 (some v3) none none).run P w = .ok v w) (hat : ∀ w : World, (Instr.sliceAt t v1 (some v3) none none).run P w = (Instr.slice t v1 (some v3) none none).run P w)
    (hJ : ∀ (g : Nat → Bool) (w : World), J g w → J (upd g i) w) : DagStep P md ops F J i o := by
  refine dag_val hw hp (fun g w h => ?_) hJ
  unfold execOp
  simp only [ho, Option.map_some, Option.map_none, hx, hz, Sem.run_bind, hat, hr, Result.andThen_ok, Sem.run_pure]
end
end Go.Proofs.Ytadbbknllakpcaa
