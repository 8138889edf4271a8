/- Plain: objects of one class alone; what is freed and allocated again. -/
import Derived.Test.YtadbbknllakpcaaHeapF
namespace Go.Proofs.Ytadbbknllakpcaa
open Go.RowKit
set_option linter.unusedVariables false

theorem set_set {S : List Sp} {s s' : Sp} (h : s'.pg = s.pg) : setS (setS S s') s = setS S s := by
  unfold setS
  have e1 : (if 0 < s'.cnt then [s'] else []).filter (fun t => decide (t.pg < s.pg)) = [] := by
    split
    · simp [h]
    · rfl
  have e2 : (if 0 < s'.cnt then [s'] else []).filter (fun t => decide (s.pg < t.pg)) = [] := by
    split
    · simp [h]
    · rfl
  simp only [List.filter_append, List.filter_filter, h, e1, e2, List.nil_append]
  have a1 : (S.filter fun t => decide (t.pg < s.pg) && decide (s.pg < t.pg)) = [] := List.filter_eq_nil_iff.2 (fun t _ => by simp; omega)
  have a2 : (S.filter fun t => decide (s.pg < t.pg) && decide (t.pg < s.pg)) = [] := List.filter_eq_nil_iff.2 (fun t _ => by simp; omega)
  simp only [a1, a2, Bool.and_self, List.append_nil, List.nil_append]
theorem set_same {S : List Sp} {s : Sp} (hI : Inv S) (hs : s ∈ S) : setS S s = S := by
  obtain ⟨A, B, rfl⟩ := List.append_of_mem hs
  have hp := hI.rise
  unfold Rise pagesS at hp
  rw [List.pairwise_map, List.pairwise_append] at hp
  obtain ⟨_, h2, h3⟩ := hp
  have hB := (List.pairwise_cons.1 h2).1
  have hA : ∀ t ∈ A, t.pg < s.pg := fun t ht => h3 t ht s (by simp)
  unfold setS
  rw [if_pos (hI.1 s hs).2, List.filter_append, List.filter_append, List.filter_cons, List.filter_cons]
  simp only [Nat.lt_irrefl, decide_false, Bool.false_eq_true, if_false]
  rw [List.filter_eq_self.2 (fun t ht => decide_eq_true (hA t ht)), List.filter_eq_nil_iff.2 (fun t ht => by simp; have := hB t ht; omega), List.filter_eq_nil_iff.2 (fun t ht => by simp; have := hA t ht; omega), List.filter_eq_self.2 (fun t ht => decide_eq_true (hB t ht))]
  simp
theorem set_back {S : List Sp} {s s' : Sp} (hI : Inv S) (hs : s ∈ S) (h : s'.pg = s.pg) : setS (setS S s') s = S := (set_set h).trans (set_same hI hs)
theorem with_with {s : Sp} {i : Nat} (hf : s.f i = true) : (s.with i false).with i true = s := by
  have : put (put s.f i false) i true = s.f := by
    funext j
    unfold put
    split
    · rename_i h; rw [h, hf]
    · rfl
  unfold Sp.with
  simp only [this]
theorem with_undo {s : Sp} {i : Nat} (hf : s.f i = false) : (s.with i true).with i false = s := by
  have : put (put s.f i true) i false = s.f := by
    funext j
    unfold put
    split
    · rename_i h; rw [h, hf]
    · rfl
  unfold Sp.with
  simp only [this]
theorem cnt_low (k : Nat) : ∀ n, k ≤ n → cntF (low k) n = k
  | 0, h => by have : k = 0 := by omega
               subst this; rfl
  | n + 1, h => by
    by_cases e : k = n + 1
    · subst e
      have : ∀ m, m ≤ n + 1 → cntF (low (n + 1)) m = m := fun m hm => cnt_full m (fun i hi => low_yes (by omega))
      exact this _ (Nat.le_refl _)
    · have h1 := cnt_low k n (by omega)
      simp only [cntF, h1, low_no (show k ≤ n by omega)]
      rfl
theorem rise_head {l : List Nat} {x : Nat} (h : Rise l) (hx : x ∈ l) (hm : ∀ y ∈ l, x ≤ y) : ∃ r, l = x :: r := by
  cases l with
  | nil => cases hx
  | cons y r =>
    refine ⟨r, ?_⟩
    have h1 := hm y (by simp)
    rcases List.mem_cons.1 hx with h2 | h2
    · rw [h2]
    · have := (List.pairwise_cons.1 h).1 x h2; omega
/-- Objects of one class alone. -/
def Tid (n : Int) (S : List Sp) (x : Nat) : Prop :=
  (∀ s ∈ S, s.cl = ofL n ∧ s.ps = pagesFor n ∧ s.pg + s.ps ≤ x ∧ ∃ k, 1 ≤ k ∧ k ≤ s.per ∧ s.f = low k) ∧ ∀ s ∈ S, s.cnt < s.per → s.pg + s.ps = x
theorem Tid.nil (n : Int) (x : Nat) : Tid n [] x := ⟨(fun s h => by cases h), (fun s h => by cases h)⟩
theorem low_cnt {s : Sp} {k : Nat} (hk : k ≤ s.per) (hf : s.f = low k) : s.cnt = k := by unfold Sp.cnt; rw [hf]; exact cnt_low _ _ hk
theorem per_of {n : Int} {s : Sp} (h : s.cl = ofL n) : s.per = perN (ofL n) := by unfold Sp.per; rw [h]
theorem newSp_f {q : Nat} {n : Int} : (newSp q n).f = low 1 := low_one.symm
theorem tid_step {n : Int} {S : List Sp} {x : Nat} (hc : ¬ ofL n < 0) (hI : Inv S) (hT : Tid n S x) (h1 : 1 ≤ x) (hx : x + pagesFor n < 4096) :
    ∃ a S' x', AllocL S (rowL x) n a 0 S' (rowL x') ∧ Tid n S' x' ∧ x ≤ x' ∧ x' ≤ x + pagesFor n ∧ (∀ b z, Obj S b z → Obj S' b z) ∧ ∃ z, Obj S' a z := by
  obtain ⟨p1, p2, p3, p4, p5, p6⟩ := pages_class hc
  cases hp : partS S (ofL n) with
  | nil =>
    have hlt : ∀ t ∈ S, t.pg < x := fun t ht => by
      have := (hT.1 t ht).2.2.1
      have := (hI.1 t ht).1.ps1
      omega
    obtain ⟨ok, cnt, _⟩ := newSp_ok (q := x) (n := n) (by omega) (by omega) h1 (by omega)
    have hset : setS S (newSp x n) = S ++ [newSp x n] := set_last cnt hlt
    have hA := alloc_fresh (S := S) (x := x) (n := n) (by omega) (by omega) (.inr hp) hx
    rw [hset] at hA
    have hcl : (newSp x n).cl = ofL n := if_neg hc
    refine ⟨_, _, _, hA, ⟨fun s hs => ?_, fun s hs hlt2 => ?_⟩, by omega, by omega, fun b z ⟨s, hs, r⟩ => ⟨s, by simp [hs], r⟩, _, newSp x n, by simp, 0, ?_, ?_, ?_, rfl⟩
    · rcases List.mem_append.1 hs with h | h
      · obtain ⟨a1, a2, a3, a4⟩ := hT.1 s h
        exact ⟨a1, a2, by omega, a4⟩
      · obtain rfl := List.mem_singleton.1 h
        exact ⟨hcl, rfl, Nat.le_refl _, 1, Nat.le_refl _, ok.size.2.2.1, newSp_f⟩
    · rcases List.mem_append.1 hs with h | h
      · exfalso
        have : s.pg ∈ partS S (ofL n) := mem_part.2 ⟨s, h, by unfold Sp.part; simp [(hT.1 s h).1, hlt2], rfl⟩
        rw [hp] at this; cases this
      · obtain rfl := List.mem_singleton.1 h; rfl
    · exact ok.size.2.2.1
    · rw [newSp_f]; exact low_yes (by omega)
    · unfold Sp.at; rw [Nat.zero_mul]; show _ = 512 * (x : Int) + _; omega
  | cons pg rest =>
    obtain ⟨s, hs, hsp, rfl⟩ := mem_part.1 (show pg ∈ partS S (ofL n) by rw [hp]; simp)
    obtain ⟨q1, q2, q3, k, k1, k2, k3⟩ := hT.1 s hs
    have hcn : s.cnt < s.per := by unfold Sp.part at hsp; simp at hsp; exact hsp.2
    have hk := low_cnt k2 k3
    have hF : FirstIn s k := ⟨by omega, by rw [k3]; exact low_no (Nat.le_refl _), fun j hj => by rw [k3]; exact low_yes hj⟩
    have hA := alloc_part (l := rowL x) hp hs q1 hc hF
    have hlast := hT.2 s hs hcn
    have hf2 : (s.with k true).f = low (k + 1) := by show put s.f k true = _; rw [k3]; exact low_put k
    have hcw : 0 < (s.with k true).cnt := by
      have := low_cnt (s := s.with k true) (k := k + 1) (by show k + 1 ≤ s.per; omega) hf2; omega
    refine ⟨_, _, x, hA, ⟨fun t ht => ?_, fun t ht hlt2 => ?_⟩, by omega, by omega, fun b z hb => ?_, _, s.with k true, setS_mem.2 (.inr ⟨rfl, hcw⟩), k, hF.1, ?_, rfl, rfl⟩
    · rcases setS_mem.1 ht with ⟨h, _⟩ | ⟨rfl, _⟩
      · exact hT.1 t h
      · exact ⟨q1, q2, q3, k + 1, by omega, by show k + 1 ≤ s.per; omega, hf2⟩
    · rcases setS_mem.1 ht with ⟨h, _⟩ | ⟨rfl, _⟩
      · exact hT.2 t h hlt2
      · exact hlast
    · obtain ⟨t, ht, i, hi, hf, rfl, rfl⟩ := hb
      by_cases e : t.pg = s.pg
      · obtain rfl := rise_one hI.rise ht hs e
        refine ⟨t.with k true, setS_mem.2 (.inr ⟨rfl, hcw⟩), i, hi, ?_, rfl, rfl⟩
        show put t.f k true i = true
        unfold put; split
        · rfl
        · exact hf
      · exact ⟨t, setS_mem.2 (.inl ⟨ht, e⟩), i, hi, hf, rfl, rfl⟩
    · rw [hf2]; exact low_yes (by omega)
theorem land_two {S : List Sp} {l : List (Nat × Nat)} {s : Sp} {x m : Nat} (hl : LandOf S l) (hc : rn.Canon l) (h1 : 1 ≤ s.pg) (hm : 1 ≤ m) (hx : s.pg + m ≤ x) (hx2 : x < 4096) (hf : ∀ j, rn.Fr l j ↔ (s.pg ≤ j ∧ j < s.pg + m) ∨ (x ≤ j ∧ j < 4096)) : rn.BestTo l (m : Int) l.length 0 (s.pg, if s.pg + m = x then 4096 - s.pg else m) := by
  by_cases e : s.pg + m = x
  · rw [if_pos e]
    have : l = rowL s.pg := hc.ext (rn.canon_one h1 (by omega) (by omega)) (fun j => by
      rw [hf j, rn.Fr_at]
      constructor
      · intro h
        exact ⟨0, (s.pg, 4096 - s.pg), rfl, by show s.pg ≤ j; omega, by show j < s.pg + (4096 - s.pg); omega⟩
      · rintro ⟨k, q, hk, g1, g2⟩
        cases k with
        | zero => simp [rowL] at hk; subst hk; (try simp only at g1 g2); omega
        | succ k => simp [rowL] at hk)
    rw [this]
    exact row_best (by omega)
  · rw [if_neg e]
    have : l = [(s.pg, m), (x, 4096 - x)] := hc.ext (rn.canon_two h1 hm (by omega) (by omega) (by omega)) (fun j => by
      rw [hf j, rn.Fr_at]
      constructor
      · rintro (h | h)
        · exact ⟨0, (s.pg, m), rfl, h.1, h.2⟩
        · exact ⟨1, (x, 4096 - x), rfl, h.1, by show j < x + (4096 - x); omega⟩
      · rintro ⟨k, q, hk, g1, g2⟩
        match k, hk with
        | 0, hk => obtain rfl := Option.some.inj (show some (s.pg, m) = some q from hk); exact .inl ⟨g1, g2⟩
        | 1, hk => obtain rfl := Option.some.inj (show some (x, 4096 - x) = some q from hk); (try simp only at g1 g2); omega
        | k + 2, hk => simp at hk)
    rw [this]
    exact rn.best_first (Int.le_refl _) (fun q hq h => by omega)
/-- What is freed comes back as the next one. -/
theorem tid_again {n a r k er a2 e2 : Int} {S S1 S2 : List Sp} {x : Nat} {l1 l2 : List (Nat × Nat)} (hc : ¬ ofL n < 0) (hI : Inv S) (hT : Tid n S x) (h1 : 1 ≤ x) (hx : x < 4096) (hl : LandOf S (rowL x)) (ho : ∃ z, Obj S a z)
    (hF : FreeL S (rowL x) a r k er S1 l1) (hl1 : LandOf S1 l1) (hc1 : rn.Canon l1) (hI1 : Inv S1) : er = 0 ∧ (AllocL S1 l1 n a2 e2 S2 l2 → a2 = a ∧ e2 = 0 ∧ S2 = S) := by
  obtain ⟨p1, p2, p3, p4, p5, p6⟩ := pages_class hc
  obtain ⟨z, ho⟩ := ho
  rcases hF with ⟨_, _, _, _, _, hno⟩ | ⟨s, hs, i, hi, hf, rfl, rfl, rfl, hF⟩
  · exact absurd ho (hno z)
  refine ⟨rfl, fun hA => ?_⟩
  obtain ⟨q1, q2, q3, kk, k1, k2, k3⟩ := hT.1 s hs
  have hcs := low_cnt k2 k3
  have hik : i < kk := by
    refine Classical.byContradiction fun hn => ?_
    rw [k3, low_no (by omega)] at hf; cases hf
  have hcw : (s.with i false).cnt + 1 = s.cnt := cntF_put s.f i hf s.per hi
  have hps := (hI.1 s hs).1.ps1
  rcases hF with ⟨hcp, _, _, rfl⟩ | ⟨hcz, _, _⟩
  · -- the span stays
    have hpt : ∃ rest, partS (setS S (s.with i false)) (ofL n) = s.pg :: rest := by
      refine rise_head (part_rise (setS_rise hI.rise)) (mem_part.2 ⟨s.with i false, setS_mem.2 (.inr ⟨rfl, hcp⟩), ?_, rfl⟩) (fun y hy => ?_)
      · unfold Sp.part
        have e1 : (s.with i false).cl = ofL n := q1
        have e2 : (s.with i false).per = s.per := rfl
        simp [e1, e2]; omega
      · obtain ⟨t, ht, htp, rfl⟩ := mem_part.1 hy
        rcases setS_mem.1 ht with ⟨h2, _⟩ | ⟨rfl, _⟩
        · have h3 : t.cnt < t.per := by unfold Sp.part at htp; simp at htp; exact htp.2
          have h4 := hT.2 t h2 h3
          have h5 := (hT.1 t h2).2.1
          omega
        · exact Nat.le_refl _
    obtain ⟨rest, hpt⟩ := hpt
    have hB := alloc_part (l := rowL x) (s := s.with i false) hpt (setS_mem.2 (.inr ⟨rfl, hcp⟩)) q1 hc (i := i) ⟨hi, by show put s.f i false i = false; unfold put; rw [if_pos rfl], fun j hj => by
      show put s.f i false j = true
      unfold put
      rw [if_neg (by omega), k3]
      exact low_yes (by omega)⟩
    rw [with_with hf, set_back (s' := s.with i false) hI hs rfl] at hB
    obtain ⟨rfl, rfl, rfl, _⟩ := hA.one hI1 hB
    exact ⟨rfl, rfl, rfl⟩
  · -- its pages are free again
    have hk1 : kk = 1 := by omega
    have hi0 : i = 0 := by omega
    subst hk1 hi0
    have hpt : partS (setS S (s.with 0 false)) (ofL n) = [] := by
      refine List.eq_nil_iff_forall_not_mem.2 fun y hy => ?_
      obtain ⟨t, ht, htp, rfl⟩ := mem_part.1 hy
      rcases setS_mem.1 ht with ⟨h2, h6⟩ | ⟨rfl, h6⟩
      · have h3 : t.cnt < t.per := by unfold Sp.part at htp; simp at htp; exact htp.2
        have h4 := hT.2 t h2 h3
        have h5 := (hT.1 t h2).2.1
        have e1 := per_of q1
        have e2 := per_of (hT.1 t h2).1
        have h7 := (hI.1 t h2).2
        have h8 : s.cnt < s.per := by omega
        have h9 := hT.2 s hs h8
        exact h6 (by show t.pg = s.pg; omega)
      · omega
    have hfr : ∀ j, rn.Fr l1 j ↔ (s.pg ≤ j ∧ j < s.pg + pagesFor n) ∨ (x ≤ j ∧ j < 4096) := fun j => by
      rw [hl1 j, cov_gone (s := s.with 0 false) hI hs rfl rfl hcz]
      have h2 := hl j
      have h3 : rn.Fr (rowL x) j ↔ x ≤ j ∧ j < 4096 := by
        rw [rn.Fr_at]
        constructor
        · rintro ⟨k, q, hk, g1, g2⟩
          cases k with
          | zero => simp [rowL] at hk; subst hk; (try simp only at g1 g2); omega
          | succ k => simp [rowL] at hk
        · intro h
          exact ⟨0, (x, 4096 - x), rfl, h.1, by show j < x + (4096 - x); omega⟩
      rw [h3] at h2
      show _ ∧ _ ∧ ¬ (Cov S j ∧ ¬ (s.pg ≤ j ∧ j < s.pg + s.ps)) ↔ _
      rw [q2] at *
      constructor
      · rintro ⟨g1, g2, g3⟩
        by_cases hin : s.pg ≤ j ∧ j < s.pg + pagesFor n
        · exact .inl hin
        · exact .inr (h2.2 ⟨g1, g2, fun h => g3 ⟨h, hin⟩⟩)
      · rintro (g | g)
        · exact ⟨by omega, by omega, fun h => h.2 g⟩
        · obtain ⟨g1, g2, g3⟩ := h2.1 g
          exact ⟨g1, g2, fun h => g3 h.1⟩
    have hb := land_two (s := s) (x := x) hl1 hc1 hps.1 p2 (by omega) hx hfr
    have hns : newSp s.pg n = s := by
      unfold newSp
      rw [if_neg hc]
      rw [← q2, ← q1, ← low_one, ← k3]
    have hB : AllocL (setS S (s.with 0 false)) l1 n (512 * (s.pg : Int)) 0 (setS (setS S (s.with 0 false)) (newSp s.pg n)) (cutL l1 0 (s.pg, if s.pg + pagesFor n = x then 4096 - s.pg else pagesFor n) (pagesFor n)) :=
      .inr ⟨by omega, .inr ⟨.inr hpt, .inr ⟨0, (s.pg, if s.pg + pagesFor n = x then 4096 - s.pg else pagesFor n), hb, rfl, rfl, rfl, rfl⟩⟩⟩
    rw [hns, set_back (s' := s.with 0 false) hI hs rfl] at hB
    obtain ⟨rfl, rfl, rfl, _⟩ := hA.one hI1 hB
    refine ⟨?_, rfl, rfl⟩
    unfold Sp.at
    rw [Nat.zero_mul]
    omega
end Go.Proofs.Ytadbbknllakpcaa
