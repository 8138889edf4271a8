/- Plain: objects of one class alone; what is freed and allocated again. -/
import Derived.Test.YtadbbknllakpcaaHeapF
import Derived.Test.YtadbbknllakpcaaHpCt
namespace Go.Proofs.Ytadbbknllakpcaa
open Go.RowKit
set_option linter.unusedVariables false

theorem set_set {S : List Sp} {s s' : Sp} (h : s'.pg = s.pg) : setS (setS S s') s = setS S s := by
  unfold setS
  have e1 : (if 0 < s'.cnt then [s'] else []).filter (fun t => decide (t.pg < s.pg)) = [] := by
    split
    · simp [h]
    · rfl
  have e2 : (if 0 < s'.cnt then [s'] else []).filter (fun t => decide (s.pg < t.pg)) = [] := by
    split
    · simp [h]
    · rfl
  simp only [List.filter_append, List.filter_filter, h, e1, e2, List.nil_append]
  have a1 : (S.filter fun t => decide (t.pg < s.pg) && decide (s.pg < t.pg)) = [] := List.filter_eq_nil_iff.2 (fun t _ => by simp; omega)
  have a2 : (S.filter fun t => decide (s.pg < t.pg) && decide (t.pg < s.pg)) = [] := List.filter_eq_nil_iff.2 (fun t _ => by simp; omega)
  simp only [a1, a2, Bool.and_self, List.append_nil, List.nil_append]
theorem set_same {S : List Sp} {s : Sp} (hI : Inv S) (hs : s ∈ S) : setS S s = S := by
  obtain ⟨A, B, rfl⟩ := List.append_of_mem hs
  have hp := hI.rise
  unfold Rise pagesS at hp
  rw [List.pairwise_map, List.pairwise_append] at hp
  obtain ⟨_, h2, h3⟩ := hp
  have hB := (List.pairwise_cons.1 h2).1
  have hA : ∀ t ∈ A, t.pg < s.pg := fun t ht => h3 t ht s (by simp)
  unfold setS
  rw [if_pos (hI.1 s hs).2, List.filter_append, List.filter_append, List.filter_cons, List.filter_cons]
  simp only [Nat.lt_irrefl, decide_false, Bool.false_eq_true, if_false]
  rw [List.filter_eq_self.2 (fun t ht => decide_eq_true (hA t ht)), List.filter_eq_nil_iff.2 (fun t ht => by simp; have := hB t ht; omega), List.filter_eq_nil_iff.2 (fun t ht => by simp; have := hA t ht; omega), List.filter_eq_self.2 (fun t ht => decide_eq_true (hB t ht))]
  simp
theorem set_back {S : List Sp} {s s' : Sp} (hI : Inv S) (hs : s ∈ S) (h : s'.pg = s.pg) : setS (setS S s') s = S := (set_set h).trans (set_same hI hs)
theorem with_with {s : Sp} {i : Nat} (hf : s.f i = true) : (s.with i false).with i true = s := by
  have : put (put s.f i false) i true = s.f := by
    funext j
    unfold put
    split
    · rename_i h; rw [h, hf]
    · rfl
  unfold Sp.with
  simp only [this]
theorem with_undo {s : Sp} {i : Nat} (hf : s.f i = false) : (s.with i true).with i false = s := by
  have : put (put s.f i true) i false = s.f := by
    funext j
    unfold put
    split
    · rename_i h; rw [h, hf]
    · rfl
  unfold Sp.with
  simp only [this]
theorem cnt_low (k : Nat) : ∀ n, k ≤ n → cntF (low k) n = k
  | 0, h => by have : k = 0 := by omega
               subst this; rfl
  | n + 1, h => by
    by_cases e : k = n + 1
    · subst e
      have : ∀ m, m ≤ n + 1 → cntF (low (n + 1)) m = m := fun m hm => cnt_full m (fun i hi => low_yes (by omega))
      exact this _ (Nat.le_refl _)
    · have h1 := cnt_low k n (by omega)
      simp only [cntF, h1, low_no (show k ≤ n by omega)]
      rfl
theorem rise_head {l : List Nat} {x : Nat} (h : Rise l) (hx : x ∈ l) (hm : ∀ y ∈ l, x ≤ y) : ∃ r, l = x :: r := by
  cases l with
  | nil => cases hx
  | cons y r =>
    refine ⟨r, ?_⟩
    have h1 := hm y (by simp)
    rcases List.mem_cons.1 hx with h2 | h2
    · rw [h2]
    · have := (List.pairwise_cons.1 h).1 x h2; omega
/-- Objects of one class alone. -/
def Tid (n : Int) (S : List Sp) (x : Nat) : Prop :=
  (∀ s ∈ S, s.cl = ofL n ∧ s.ps = pagesFor n ∧ s.pg + s.ps ≤ x ∧ ∃ k, 1 ≤ k ∧ k ≤ s.per ∧ s.f = low k) ∧ ∀ s ∈ S, s.cnt < s.per → s.pg + s.ps = x
theorem Tid.nil (n : Int) (x : Nat) : Tid n [] x := ⟨(fun s h => by cases h), (fun s h => by cases h)⟩
theorem low_cnt {s : Sp} {k : Nat} (hk : k ≤ s.per) (hf : s.f = low k) : s.cnt = k := by unfold Sp.cnt; rw [hf]; exact cnt_low _ _ hk
theorem per_of {n : Int} {s : Sp} (h : s.cl = ofL n) : s.per = perN (ofL n) := by unfold Sp.per; rw [h]
theorem newSp_f {q : Nat} {n : Int} : (newSp q n).f = low 1 := low_one.symm
theorem tid_step {n : Int} {S : List Sp} {x : Nat} (hc : ¬ ofL n < 0) (hI : Inv S) (hT : Tid n S x) (h1 : 1 ≤ x) (hx : x + pagesFor n < 4096) :
    ∃ a S' x', AllocL S (rowL x) n a 0 S' (rowL x') ∧ Tid n S' x' ∧ x ≤ x' ∧ x' ≤ x + pagesFor n ∧ (∀ b z, Obj S b z → Obj S' b z) ∧ ∃ z, Obj S' a z := by
  obtain ⟨p1, p2, p3, p4, p5, p6⟩ := pages_class hc
  cases hp : partS S (ofL n) with
  | nil =>
    have hlt : ∀ t ∈ S, t.pg < x := fun t ht => by
      have := (hT.1 t ht).2.2.1
      have := (hI.1 t ht).1.ps1
      omega
    obtain ⟨ok, cnt, _⟩ := newSp_ok (q := x) (n := n) (by omega) (by omega) h1 (by omega)
    have hset : setS S (newSp x n) = S ++ [newSp x n] := set_last cnt hlt
    have hA := alloc_fresh (S := S) (x := x) (n := n) (by omega) (by omega) (.inr hp) hx
    rw [hset] at hA
    have hcl : (newSp x n).cl = ofL n := if_neg hc
    refine ⟨_, _, _, hA, ⟨fun s hs => ?_, fun s hs hlt2 => ?_⟩, by omega, by omega, fun b z ⟨s, hs, r⟩ => ⟨s, by simp [hs], r⟩, _, newSp x n, by simp, 0, ?_, ?_, ?_, rfl⟩
    · rcases List.mem_append.1 hs with h | h
      · obtain ⟨a1, a2, a3, a4⟩ := hT.1 s h
        exact ⟨a1, a2, by omega, a4⟩
      · obtain rfl := List.mem_singleton.1 h
        exact ⟨hcl, rfl, Nat.le_refl _, 1, Nat.le_refl _, ok.size.2.2.1, newSp_f⟩
    · rcases List.mem_append.1 hs with h | h
      · exfalso
        have : s.pg ∈ partS S (ofL n) := mem_part.2 ⟨s, h, by unfold Sp.part; simp [(hT.1 s h).1, hlt2], rfl⟩
        rw [hp] at this; cases this
      · obtain rfl := List.mem_singleton.1 h; rfl
    · exact ok.size.2.2.1
    · rw [newSp_f]; exact low_yes (by omega)
    · unfold Sp.at; rw [Nat.zero_mul]; show _ = 512 * (x : Int) + _; omega
  | cons pg rest =>
    obtain ⟨s, hs, hsp, rfl⟩ := mem_part.1 (show pg ∈ partS S (ofL n) by rw [hp]; simp)
    obtain ⟨q1, q2, q3, k, k1, k2, k3⟩ := hT.1 s hs
    have hcn : s.cnt < s.per := by unfold Sp.part at hsp; simp at hsp; exact hsp.2
    have hk := low_cnt k2 k3
    have hF : FirstIn s k := ⟨by omega, by rw [k3]; exact low_no (Nat.le_refl _), fun j hj => by rw [k3]; exact low_yes hj⟩
    have hA := alloc_part (l := rowL x) hp hs q1 hc hF
    have hlast := hT.2 s hs hcn
    have hf2 : (s.with k true).f = low (k + 1) := by show put s.f k true = _; rw [k3]; exact low_put k
    have hcw : 0 < (s.with k true).cnt := by
      have := low_cnt (s := s.with k true) (k := k + 1) (by show k + 1 ≤ s.per; omega) hf2; omega
    refine ⟨_, _, x, hA, ⟨fun t ht => ?_, fun t ht hlt2 => ?_⟩, by omega, by omega, fun b z hb => ?_, _, s.with k true, setS_mem.2 (.inr ⟨rfl, hcw⟩), k, hF.1, ?_, rfl, rfl⟩
    · rcases setS_mem.1 ht with ⟨h, _⟩ | ⟨rfl, _⟩
      · exact hT.1 t h
      · exact ⟨q1, q2, q3, k + 1, by omega, by show k + 1 ≤ s.per; omega, hf2⟩
    · rcases setS_mem.1 ht with ⟨h, _⟩ | ⟨rfl, _⟩
      · exact hT.2 t h hlt2
      · exact hlast
    · obtain ⟨t, ht, i, hi, hf, rfl, rfl⟩ := hb
      by_cases e : t.pg = s.pg
      · obtain rfl := rise_one hI.rise ht hs e
        refine ⟨t.with k true, setS_mem.2 (.inr ⟨rfl, hcw⟩), i, hi, ?_, rfl, rfl⟩
        show put t.f k true i = true
        unfold put; split
        · rfl
        · exact hf
      · exact ⟨t, setS_mem.2 (.inl ⟨ht, e⟩), i, hi, hf, rfl, rfl⟩
    · rw [hf2]; exact low_yes (by omega)
theorem land_two {S : List Sp} {l : List (Nat × Nat)} {s : Sp} {x m : Nat} (hl : LandOf S l) (hc : rn.Canon l) (h1 : 1 ≤ s.pg) (hm : 1 ≤ m) (hx : s.pg + m ≤ x) (hx2 : x < 4096) (hf : ∀ j, rn.Fr l j ↔ (s.pg ≤ j ∧ j < s.pg + m) ∨ (x ≤ j ∧ j < 4096)) : rn.BestTo l (m : Int) l.length 0 (s.pg, if s.pg + m = x then 4096 - s.pg else m) := by
  by_cases e : s.pg + m = x
  · rw [if_pos e]
    have : l = rowL s.pg := hc.ext (rn.canon_one h1 (by omega) (by omega)) (fun j => by
      rw [hf j, rn.Fr_at]
      constructor
      · intro h
        exact ⟨0, (s.pg, 4096 - s.pg), rfl, by show s.pg ≤ j; omega, by show j < s.pg + (4096 - s.pg); omega⟩
      · rintro ⟨k, q, hk, g1, g2⟩
        cases k with
        | zero => simp [rowL] at hk; subst hk; (try simp only at g1 g2); omega
        | succ k => simp [rowL] at hk)
    rw [this]
    exact row_best (by omega)
  · rw [if_neg e]
    have : l = [(s.pg, m), (x, 4096 - x)] := hc.ext (rn.canon_two h1 hm (by omega) (by omega) (by omega)) (fun j => by
      rw [hf j, rn.Fr_at]
      constructor
      · rintro (h | h)
        · exact ⟨0, (s.pg, m), rfl, h.1, h.2⟩
        · exact ⟨1, (x, 4096 - x), rfl, h.1, by show j < x + (4096 - x); omega⟩
      · rintro ⟨k, q, hk, g1, g2⟩
        match k, hk with
        | 0, hk => obtain rfl := Option.some.inj (show some (s.pg, m) = some q from hk); exact .inl ⟨g1, g2⟩
        | 1, hk => obtain rfl := Option.some.inj (show some (x, 4096 - x) = some q from hk); (try simp only at g1 g2); omega
        | k + 2, hk => simp at hk)
    rw [this]
    exact rn.best_first (Int.le_refl _) (fun q hq h => by omega)
/-- What is freed comes back as the next one. -/
theorem tid_again {n a r k er a2 e2 : Int} {S S1 S2 : List Sp} {x : Nat} {l1 l2 : List (Nat × Nat)} (hc : ¬ ofL n < 0) (hI : Inv S) (hT : Tid n S x) (h1 : 1 ≤ x) (hx : x < 4096) (hl : LandOf S (rowL x)) (ho : ∃ z, Obj S a z)
    (hF : FreeL S (rowL x) a r k er S1 l1) (hl1 : LandOf S1 l1) (hc1 : rn.Canon l1) (hI1 : Inv S1) : er = 0 ∧ (AllocL S1 l1 n a2 e2 S2 l2 → a2 = a ∧ e2 = 0 ∧ S2 = S) := by
  obtain ⟨p1, p2, p3, p4, p5, p6⟩ := pages_class hc
  obtain ⟨z, ho⟩ := ho
  rcases hF with ⟨_, _, _, _, _, hno⟩ | ⟨s, hs, i, hi, hf, rfl, rfl, rfl, hF⟩
  · exact absurd ho (hno z)
  refine ⟨rfl, fun hA => ?_⟩
  obtain ⟨q1, q2, q3, kk, k1, k2, k3⟩ := hT.1 s hs
  have hcs := low_cnt k2 k3
  have hik : i < kk := by
    refine Classical.byContradiction fun hn => ?_
    rw [k3, low_no (by omega)] at hf; cases hf
  have hcw : (s.with i false).cnt + 1 = s.cnt := cntF_put s.f i hf s.per hi
  have hps := (hI.1 s hs).1.ps1
  rcases hF with ⟨hcp, _, _, rfl⟩ | ⟨hcz, _, _⟩
  · -- the span stays
    have hpt : ∃ rest, partS (setS S (s.with i false)) (ofL n) = s.pg :: rest := by
      refine rise_head (part_rise (setS_rise hI.rise)) (mem_part.2 ⟨s.with i false, setS_mem.2 (.inr ⟨rfl, hcp⟩), ?_, rfl⟩) (fun y hy => ?_)
      · unfold Sp.part
        have e1 : (s.with i false).cl = ofL n := q1
        have e2 : (s.with i false).per = s.per := rfl
        simp [e1, e2]; omega
      · obtain ⟨t, ht, htp, rfl⟩ := mem_part.1 hy
        rcases setS_mem.1 ht with ⟨h2, _⟩ | ⟨rfl, _⟩
        · have h3 : t.cnt < t.per := by unfold Sp.part at htp; simp at htp; exact htp.2
          have h4 := hT.2 t h2 h3
          have h5 := (hT.1 t h2).2.1
          omega
        · exact Nat.le_refl _
    obtain ⟨rest, hpt⟩ := hpt
    have hB := alloc_part (l := rowL x) (s := s.with i false) hpt (setS_mem.2 (.inr ⟨rfl, hcp⟩)) q1 hc (i := i) ⟨hi, by show put s.f i false i = false; unfold put; rw [if_pos rfl], fun j hj => by
      show put s.f i false j = true
      unfold put
      rw [if_neg (by omega), k3]
      exact low_yes (by omega)⟩
    rw [with_with hf, set_back (s' := s.with i false) hI hs rfl] at hB
    obtain ⟨rfl, rfl, rfl, _⟩ := hA.one hI1 hB
    exact ⟨rfl, rfl, rfl⟩
  · -- its pages are free again
    have hk1 : kk = 1 := by omega
    have hi0 : i = 0 := by omega
    subst hk1 hi0
    have hpt : partS (setS S (s.with 0 false)) (ofL n) = [] := by
      refine List.eq_nil_iff_forall_not_mem.2 fun y hy => ?_
      obtain ⟨t, ht, htp, rfl⟩ := mem_part.1 hy
      rcases setS_mem.1 ht with ⟨h2, h6⟩ | ⟨rfl, h6⟩
      · have h3 : t.cnt < t.per := by unfold Sp.part at htp; simp at htp; exact htp.2
        have h4 := hT.2 t h2 h3
        have h5 := (hT.1 t h2).2.1
        have e1 := per_of q1
        have e2 := per_of (hT.1 t h2).1
        have h7 := (hI.1 t h2).2
        have h8 : s.cnt < s.per := by omega
        have h9 := hT.2 s hs h8
        exact h6 (by show t.pg = s.pg; omega)
      · omega
    have hfr : ∀ j, rn.Fr l1 j ↔ (s.pg ≤ j ∧ j < s.pg + pagesFor n) ∨ (x ≤ j ∧ j < 4096) := fun j => by
      rw [hl1 j, cov_gone (s := s.with 0 false) hI hs rfl rfl hcz]
      have h2 := hl j
      have h3 : rn.Fr (rowL x) j ↔ x ≤ j ∧ j < 4096 := by
        rw [rn.Fr_at]
        constructor
        · rintro ⟨k, q, hk, g1, g2⟩
          cases k with
          | zero => simp [rowL] at hk; subst hk; (try simp only at g1 g2); omega
          | succ k => simp [rowL] at hk
        · intro h
          exact ⟨0, (x, 4096 - x), rfl, h.1, by show j < x + (4096 - x); omega⟩
      rw [h3] at h2
      show _ ∧ _ ∧ ¬ (Cov S j ∧ ¬ (s.pg ≤ j ∧ j < s.pg + s.ps)) ↔ _
      rw [q2] at *
      constructor
      · rintro ⟨g1, g2, g3⟩
        by_cases hin : s.pg ≤ j ∧ j < s.pg + pagesFor n
        · exact .inl hin
        · exact .inr (h2.2 ⟨g1, g2, fun h => g3 ⟨h, hin⟩⟩)
      · rintro (g | g)
        · exact ⟨by omega, by omega, fun h => h.2 g⟩
        · obtain ⟨g1, g2, g3⟩ := h2.1 g
          exact ⟨g1, g2, fun h => g3 h.1⟩
    have hb := land_two (s := s) (x := x) hl1 hc1 hps.1 p2 (by omega) hx hfr
    have hns : newSp s.pg n = s := by
      unfold newSp
      rw [if_neg hc]
      rw [← q2, ← q1, ← low_one, ← k3]
    have hB : AllocL (setS S (s.with 0 false)) l1 n (512 * (s.pg : Int)) 0 (setS (setS S (s.with 0 false)) (newSp s.pg n)) (cutL l1 0 (s.pg, if s.pg + pagesFor n = x then 4096 - s.pg else pagesFor n) (pagesFor n)) :=
      .inr ⟨by omega, .inr ⟨.inr hpt, .inr ⟨0, (s.pg, if s.pg + pagesFor n = x then 4096 - s.pg else pagesFor n), hb, rfl, rfl, rfl, rfl⟩⟩⟩
    rw [hns, set_back (s' := s.with 0 false) hI hs rfl] at hB
    obtain ⟨rfl, rfl, rfl, _⟩ := hA.one hI1 hB
    refine ⟨?_, rfl, rfl⟩
    unfold Sp.at
    rw [Nat.zero_mul]
    omega
end Go.Proofs.Ytadbbknllakpcaa

/- Plain: objects of any size allocated one behind another; what is allocated and freed at once. -/
namespace Go.Proofs.Ytadbbknllakpcaa
open Go.RowKit
set_option linter.unusedVariables false

/-- The objects when one is taken in a span. -/
theorem obj_with {S : List Sp} (hI : Inv S) {s : Sp} (hs : s ∈ S) {i : Nat} (hi : i < s.per) (hf : s.f i = false) (b z : Int) : Obj (setS S (s.with i true)) b z ↔ Obj S b z ∨ (b = s.at i ∧ z = s.siz) := by
  have hcw : 0 < (s.with i true).cnt := by
    have : (s.with i true).cnt = s.cnt + 1 := cntF_set s.f i s.per hf hi
    omega
  constructor
  · rintro ⟨t, ht, j, hj, hfj, rfl, rfl⟩
    rcases setS_mem.1 ht with ⟨h1, _⟩ | ⟨rfl, _⟩
    · exact .inl ⟨t, h1, j, hj, hfj, rfl, rfl⟩
    · by_cases e : j = i
      · subst e; exact .inr ⟨rfl, rfl⟩
      · refine .inl ⟨s, hs, j, hj, ?_, rfl, rfl⟩
        have h2 : put s.f i true j = true := hfj
        unfold put at h2
        rwa [if_neg e] at h2
  · rintro (⟨t, ht, j, hj, hfj, rfl, rfl⟩ | ⟨rfl, rfl⟩)
    · by_cases e : t.pg = s.pg
      · obtain rfl := rise_one hI.rise ht hs e
        refine ⟨t.with i true, setS_mem.2 (.inr ⟨rfl, hcw⟩), j, hj, ?_, rfl, rfl⟩
        show put t.f i true j = true
        unfold put; split
        · rfl
        · exact hfj
      · exact ⟨t, setS_mem.2 (.inl ⟨ht, e⟩), j, hj, hfj, rfl, rfl⟩
    · refine ⟨s.with i true, setS_mem.2 (.inr ⟨rfl, hcw⟩), i, hi, ?_, rfl, rfl⟩
      show put s.f i true i = true
      unfold put; rw [if_pos rfl]
/-- The objects when a span is new. -/
theorem obj_new {S : List Sp} {q : Nat} {n : Int} (hne : ∀ t ∈ S, t.pg ≠ q) (ok : (newSp q n).ok) (hc : 0 < (newSp q n).cnt) (b z : Int) : Obj (setS S (newSp q n)) b z ↔ Obj S b z ∨ (b = 512 * (q : Int) ∧ z = (newSp q n).siz) := by
  constructor
  · rintro ⟨t, ht, j, hj, hfj, rfl, rfl⟩
    rcases setS_mem.1 ht with ⟨h1, _⟩ | ⟨rfl, _⟩
    · exact .inl ⟨t, h1, j, hj, hfj, rfl, rfl⟩
    · have h2 : bit0 j = true := hfj
      have h3 : j = 0 := by
        unfold bit0 at h2
        exact of_decide_eq_true h2
      subst h3
      refine .inr ⟨?_, rfl⟩
      unfold Sp.at; rw [Nat.zero_mul]; show 512 * (q : Int) + _ = _; omega
  · rintro (⟨t, ht, j, hj, hfj, rfl, rfl⟩ | ⟨rfl, rfl⟩)
    · exact ⟨t, setS_mem.2 (.inl ⟨ht, hne t ht⟩), j, hj, hfj, rfl, rfl⟩
    · refine ⟨newSp q n, setS_mem.2 (.inr ⟨rfl, hc⟩), 0, ok.size.2.2.1, rfl, ?_, rfl⟩
      unfold Sp.at; rw [Nat.zero_mul]; show _ = 512 * (q : Int) + _; omega
/-- The objects when one is freed. -/
theorem obj_free {S : List Sp} (hI : Inv S) {s : Sp} (hs : s ∈ S) {i : Nat} (hi : i < s.per) (hf : s.f i = true) (b z : Int) : Obj (setS S (s.with i false)) b z ↔ Obj S b z ∧ b ≠ s.at i := by
  have hsz := (hI.1 s hs).1.size
  constructor
  · rintro ⟨t, ht, j, hj, hfj, rfl, rfl⟩
    rcases setS_mem.1 ht with ⟨h1, h2⟩ | ⟨rfl, _⟩
    · refine ⟨⟨t, h1, j, hj, hfj, rfl, rfl⟩, fun e => ?_⟩
      have h3 := at_in (hI.1 t h1).1 hj
      have h4 := at_in (hI.1 s hs).1 hi
      have h5 := (hI.1 t h1).1.size
      obtain rfl := in_one hI h1 hs (x := t.at j) (by omega) (by omega)
      exact h2 rfl
    · have h2 : put s.f i false j = true := hfj
      unfold put at h2
      split at h2
      · cases h2
      · rename_i hne
        refine ⟨⟨s, hs, j, hj, h2, rfl, rfl⟩, fun e => hne ?_⟩
        have e : s.at j = s.at i := e
        exact at_inj (hI.1 s hs).1 (x := s.at i) (by omega) (by omega)
  · rintro ⟨⟨t, ht, j, hj, hfj, rfl, rfl⟩, hne⟩
    by_cases e : t.pg = s.pg
    · obtain rfl := rise_one hI.rise ht hs e
      have hji : j ≠ i := fun h => hne (by rw [h])
      have hfw : (t.with i false).f j = true := by
        show put t.f i false j = true
        unfold put; rw [if_neg hji]; exact hfj
      have hcw : 0 < (t.with i false).cnt := by
        refine Nat.pos_of_ne_zero fun h0 => ?_
        have := cntF_put (t.with i false).f j hfw (t.with i false).per hj
        unfold Sp.cnt at h0
        omega
      exact ⟨t.with i false, setS_mem.2 (.inr ⟨rfl, hcw⟩), j, hj, hfw, rfl, rfl⟩
    · exact ⟨t, setS_mem.2 (.inl ⟨ht, e⟩), j, hj, hfj, rfl, rfl⟩
/-- No objects: no spans. -/
theorem obj_none {S : List Sp} (hI : Inv S) (h : ∀ b z, ¬ Obj S b z) : S = [] := by
  cases S with
  | nil => rfl
  | cons s r =>
    exfalso
    have hs := hI.1 s (by simp)
    have : ∃ i, i < s.per ∧ s.f i = true := by
      refine Classical.byContradiction fun hn => ?_
      have : s.cnt = 0 := by
        unfold Sp.cnt
        rw [cntF_congr (g := fun _ => false) _ (fun i hi => ?_)]
        · exact cntF_none _
        · cases hf : s.f i
          · rfl
          · exact absurd ⟨i, hi, hf⟩ hn
      omega
    obtain ⟨i, hi, hf⟩ := this
    exact h _ _ ⟨s, by simp, i, hi, hf, rfl, rfl⟩
/-- What is allocated and freed at once leaves all as it was. -/
theorem alloc_free {S S1 S2 : List Sp} {l l1 l2 : List (Nat × Nat)} {n a r k er : Int} (hI : Inv S) (hl : LandOf S l) (hc : rn.Canon l) (hI1 : Inv S1) (hA : AllocL S l n a 0 S1 l1) (hF : FreeL S1 l1 a r k er S2 l2) : er = 0 ∧ S2 = S := by
  have fin : ∀ (s : Sp) (i : Nat), s ∈ S1 → i < s.per → s.f i = true → a = s.at i → setS S1 (s.with i false) = S → er = 0 ∧ S2 = S := by
    intro s i hs hi hf ha hset
    rcases hF with ⟨_, _, _, _, _, hno⟩ | ⟨t, ht, j, hj, hfj, hx, rfl, rfl, _⟩
    · exact absurd ⟨s, hs, i, hi, hf, ha, rfl⟩ (hno _)
    · have h1 := at_in (hI1.1 s hs).1 hi
      have h2 := at_in (hI1.1 t ht).1 hj
      have h3 := (hI1.1 s hs).1.size
      have h4 := (hI1.1 t ht).1.size
      obtain rfl := in_one hI1 hs ht (x := a) (by omega) (by omega)
      obtain rfl := at_inj (hI1.1 s hs).1 (i := i) (j := j) (x := a) (by omega) (by omega)
      exact ⟨rfl, hset⟩
  rcases hA with ⟨_, _, he, _⟩ | ⟨hn, ⟨h0, s, rest, i, hp, hs, hcl, hFi, rfl, _, rfl, _⟩ | ⟨h0, ⟨_, _, he, _⟩ | ⟨b, p, hb, rfl, _, rfl, _⟩⟩⟩
  · cases he
  · have hcw : 0 < (s.with i true).cnt := by
      have : (s.with i true).cnt = s.cnt + 1 := cntF_set s.f i s.per hFi.2.1 hFi.1
      omega
    refine fin (s.with i true) i (setS_mem.2 (.inr ⟨rfl, hcw⟩)) hFi.1 (by show put s.f i true i = true; unfold put; rw [if_pos rfl]) rfl ?_
    rw [with_undo hFi.2.1]
    exact set_back (s' := s.with i true) hI hs rfl
  · cases he
  · obtain ⟨k1, k2, k3, k4, k5, _⟩ := new_span hI hl hc hn.1 hn.2 hb
    refine fin (newSp p.1 n) 0 (setS_mem.2 (.inr ⟨rfl, k2⟩)) k1.size.2.2.1 rfl (by unfold Sp.at; rw [Nat.zero_mul]; show 512 * (p.1 : Int) = 512 * (p.1 : Int) + _; omega) ?_
    have hz : ((newSp p.1 n).with 0 false).cnt = 0 := by
      show cntF (put bit0 0 false) _ = 0
      rw [cntF_congr (g := fun _ => false) _ (fun i hi => ?_)]
      · exact cntF_none _
      · unfold put bit0
        split
        · rfl
        · exact decide_eq_false (by assumption)
    rw [set_set (s' := newSp p.1 n) (s := (newSp p.1 n).with 0 false) rfl]
    unfold setS
    rw [if_neg (by omega), List.nil_append]
    have hpg : ((newSp p.1 n).with 0 false).pg = p.1 := rfl
    rw [hpg]
    have hr := hI.rise
    have : ∀ (T : List Sp), Rise (pagesS T) → (∀ t ∈ T, t.pg ≠ p.1) → T.filter (fun t => decide (t.pg < p.1)) ++ T.filter (fun t => decide (p.1 < t.pg)) = T := by
      intro T
      induction T with
      | nil => intro _ _; rfl
      | cons t T ih =>
        intro hr hne
        have hlt : ∀ u ∈ T, t.pg < u.pg := fun u hu => (List.pairwise_cons.1 hr).1 u.pg (mem_pages.2 ⟨u, hu, rfl⟩)
        have ih := ih hr.of_cons (fun u hu => hne u (List.mem_cons_of_mem _ hu))
        rcases Nat.lt_or_ge t.pg p.1 with h | h
        · rw [List.filter_cons, List.filter_cons, if_pos (decide_eq_true h), if_neg (by simp; omega), List.cons_append, ih]
        · have h' : p.1 < t.pg := by have := hne t (by simp); omega
          rw [List.filter_cons, List.filter_cons, if_neg (by simp; omega), if_pos (decide_eq_true h'), List.filter_eq_nil_iff.2 (fun u hu => by simp; have := hlt u hu; omega), List.nil_append, List.filter_eq_self.2 (fun u hu => decide_eq_true (by have := hlt u hu; omega))]
    exact this S hr k5
theorem not_obj {S : List Sp} (hI : Inv S) {s : Sp} (hs : s ∈ S) {i : Nat} (hi : i < s.per) (hf : s.f i = false) (y : Int) : ¬ Obj S (s.at i) y := by
  rintro ⟨t, ht, j, hj, hfj, he, _⟩
  have h1 := at_in (hI.1 s hs).1 hi
  have h2 := at_in (hI.1 t ht).1 hj
  have h3 := (hI.1 s hs).1.size
  have h4 := (hI.1 t ht).1.size
  obtain rfl := in_one hI hs ht (x := s.at i) (by omega) (by omega)
  obtain rfl := at_inj (hI.1 s hs).1 (i := i) (j := j) (x := s.at i) (by omega) (by omega)
  rw [hf] at hfj; cases hfj
/-- A step of the allocations, sizes as they come. -/
theorem row_step {n : Int} {S : List Sp} {x : Nat} (h1n : 1 ≤ n) (h2n : n ≤ 3000) (hI : Inv S) (hT : ∀ s ∈ S, s.pg + s.ps ≤ x) (h1 : 1 ≤ x) (hx : x + 6 < 4096) :
    ∃ a S' x' z, AllocL S (rowL x) n a 0 S' (rowL x') ∧ (∀ s ∈ S', s.pg + s.ps ≤ x') ∧ x ≤ x' ∧ x' ≤ x + 6 ∧ (∀ b y, Obj S' b y ↔ Obj S b y ∨ (b = a ∧ y = z)) ∧ (∀ y, ¬ Obj S a y) ∧ n ≤ z := by
  have fresh : (ofL n < 0 ∨ partS S (ofL n) = []) → ∃ a S' x' z, AllocL S (rowL x) n a 0 S' (rowL x') ∧ (∀ s ∈ S', s.pg + s.ps ≤ x') ∧ x ≤ x' ∧ x' ≤ x + 6 ∧ (∀ b y, Obj S' b y ↔ Obj S b y ∨ (b = a ∧ y = z)) ∧ (∀ y, ¬ Obj S a y) ∧ n ≤ z := by
    intro hp
    have hpf : pagesFor n ≤ 6 ∧ (ofL n < 0 → n ≤ (pagesFor n : Int) * 512) := by
      by_cases h : ofL n < 0
      · have h3 := pages_large h h1n (by omega)
        unfold largeL at h3
        rw [if_neg (by omega)] at h3
        exact ⟨by omega, fun _ => by omega⟩
      · have := pages_class h
        exact ⟨by omega, fun h2 => absurd h2 h⟩
    obtain ⟨ok, cnt, _⟩ := newSp_ok (q := x) (n := n) h1n (by omega) h1 (by omega)
    have hlt : ∀ t ∈ S, t.pg < x := fun t ht => by
      have := hT t ht
      have := (hI.1 t ht).1.ps1
      omega
    have hne : ∀ t ∈ S, t.pg ≠ x := fun t ht => by have := hlt t ht; omega
    refine ⟨_, _, _, _, alloc_fresh h1n (by omega) hp (by omega), fun s hs => ?_, by omega, by omega, fun b y => obj_new hne ok cnt b y, ?_, ?_⟩
    · rcases setS_mem.1 hs with ⟨h, _⟩ | ⟨rfl, _⟩
      · have := hT s h; omega
      · exact Nat.le_refl _
    · rintro y ⟨t, ht, j, hj, _, he, _⟩
      have h2 := at_in (hI.1 t ht).1 hj
      have h3 := (hI.1 t ht).1.size
      have := hT t ht
      omega
    · have hsz := (Good.size ok).1
      by_cases h : ofL n < 0
      · have hcl : (newSp x n).cl = 255 := if_pos h
        have e : ((newSp x n).siz : Int) = (pagesFor n : Int) * 512 := by
          unfold sizeS at hsz
          rw [if_pos hcl, IntWalk.wrap64_in _ (by show _ ≤ (pagesFor n : Int) * 512 ∧ (pagesFor n : Int) * 512 ≤ _; omega)] at hsz
          exact hsz.symm
        rw [e]; exact hpf.2 h
      · have hcl : (newSp x n).cl = ofL n := if_neg h
        have h5 := of_facts n h
        have e : ((newSp x n).siz : Int) = sizeL (ofL n) := by
          unfold sizeS at hsz
          rw [if_neg (by rw [hcl]; omega), hcl] at hsz
          have e2 : (newSp x n).siz = sizN (newSp x n).cl (newSp x n).ps := rfl
          rw [e2, hcl]; exact hsz.symm
        rw [e]; exact h5.2.2.2.1
  by_cases h0 : ofL n < 0
  · exact fresh (.inl h0)
  · cases hp : partS S (ofL n) with
    | nil => exact fresh (.inr hp)
    | cons pg rest =>
      obtain ⟨s, hs, hsp, rfl⟩ := mem_part.1 (show pg ∈ partS S (ofL n) by rw [hp]; simp)
      have hsc : s.cl = ofL n ∧ s.cnt < s.per := by unfold Sp.part at hsp; simpa using hsp
      obtain ⟨i, hi⟩ := first_ex hsc.2
      refine ⟨_, _, x, _, alloc_part hp hs hsc.1 h0 hi, fun t ht => ?_, by omega, by omega, fun b y => obj_with hI hs hi.1 hi.2.1 b y, not_obj hI hs hi.1 hi.2.1, ?_⟩
      · rcases setS_mem.1 ht with ⟨h, _⟩ | ⟨rfl, _⟩
        · exact hT t h
        · exact hT s hs
      · have hsz := (Good.size (hI.1 s hs).1).1
        have h5 := of_facts n h0
        have e : (s.siz : Int) = sizeL (ofL n) := by
          unfold sizeS at hsz
          rw [if_neg (by rw [hsc.1]; omega), hsc.1] at hsz
          have e2 : s.siz = sizN s.cl s.ps := rfl
          rw [e2, hsc.1]; exact hsz.symm
        rw [e]; exact h5.2.2.2.1
end Go.Proofs.Ytadbbknllakpcaa

/- Plain: there is room for small objects however the free pages lie. -/
namespace Go.Proofs.Ytadbbknllakpcaa
open Go.RowKit
set_option linter.unusedVariables false

theorem tail_row {S : List Sp} {l : List (Nat × Nat)} {x : Nat} (hl : LandOf S l) (hc : rn.Canon l) (hT : ∀ s ∈ S, s.pg + s.ps ≤ x) (h1 : 1 ≤ x) (hx : x < 4096) : ∃ (b : Nat) (q : Nat × Nat), l[b]? = some q ∧ q.1 ≤ x ∧ 4096 ≤ q.1 + q.2 := by
  obtain ⟨b, q, hb, g1, g2⟩ := hc.wide (x := x) (n := 4096 - x) (by omega) (fun j h2 h3 => (hl j).2 ⟨by omega, by omega, fun ⟨s, hs, h4, h5⟩ => by have := hT s hs; omega⟩)
  exact ⟨b, q, hb, g1, by omega⟩
theorem best_low {S : List Sp} {l : List (Nat × Nat)} {x b : Nat} {m : Int} {p : Nat × Nat} (hl : LandOf S l) (hc : rn.Canon l) (hT : ∀ s ∈ S, s.pg + s.ps ≤ x) (h1 : 1 ≤ x) (hx : x < 4096) (hb : l[b]? = some p) : p.1 ≤ x := by
  obtain ⟨b2, q, hq, g1, g2⟩ := tail_row hl hc hT h1 hx
  have hp := hc.mem hb
  rcases Nat.lt_trichotomy b b2 with e | e | e
  · have := hc.lt hb hq e; omega
  · subst e; cases hb.symm.trans hq; exact g1
  · have := hc.lt hq hb e; omega
/-- A step of the allocations among others that were freed. -/
theorem apart_step {n a e : Int} {S S' : List Sp} {l l' : List (Nat × Nat)} {x : Nat} (h1n : 1 ≤ n) (h2n : n ≤ 3000) (hI : Inv S) (hl : LandOf S l) (hc : rn.Canon l) (hT : ∀ s ∈ S, s.pg + s.ps ≤ x) (h1 : 1 ≤ x) (hx : x + 6 < 4096) (hA : AllocL S l n a e S' l') :
    e = 0 ∧ (∀ s ∈ S', s.pg + s.ps ≤ x + 6) ∧ ∃ z, (∀ b y, Obj S' b y ↔ Obj S b y ∨ (b = a ∧ y = z)) ∧ (∀ y, ¬ Obj S a y) ∧ n ≤ z := by
  have hpf : pagesFor n ≤ 6 ∧ 1 ≤ pagesFor n ∧ (ofL n < 0 → n ≤ (pagesFor n : Int) * 512) := by
    by_cases h : ofL n < 0
    · have h3 := pages_large h h1n (by omega)
      unfold largeL at h3
      rw [if_neg (by omega)] at h3
      exact ⟨by omega, by omega, fun _ => by omega⟩
    · have := pages_class h
      exact ⟨by omega, by omega, fun h2 => absurd h2 h⟩
  rcases hA with ⟨h, _⟩ | ⟨_, ⟨h0, s, rest, i, hp, hs, hcl, hi, rfl, rfl, rfl, _⟩ | ⟨h0, ⟨hno, _⟩ | ⟨b, p, hb, rfl, rfl, rfl, _⟩⟩⟩
  · omega
  · refine ⟨rfl, fun t ht => ?_, _, fun b y => obj_with hI hs hi.1 hi.2.1 b y, not_obj hI hs hi.1 hi.2.1, ?_⟩
    · rcases setS_mem.1 ht with ⟨h, _⟩ | ⟨rfl, _⟩
      · have := hT t h; omega
      · have := hT s hs; show s.pg + s.ps ≤ _; omega
    · have hsz := (Good.size (hI.1 s hs).1).1
      have h5 := of_facts n (Int.not_lt.2 h0)
      have e : (s.siz : Int) = sizeL (ofL n) := by
        unfold sizeS at hsz
        rw [if_neg (by rw [hcl]; omega), hcl] at hsz
        have e2 : s.siz = sizN s.cl s.ps := rfl
        rw [e2, hcl]; exact hsz.symm
      rw [e]; exact h5.2.2.2.1
  · exfalso
    obtain ⟨b2, q, hq, g1, g2⟩ := tail_row hl hc hT h1 (by omega)
    have := hno b2 q (List.getElem?_eq_some_iff.1 hq).1 hq
    omega
  · obtain ⟨ok, cnt, _, _, hne, _⟩ := new_span hI hl hc h1n (by omega) hb
    have hlow := best_low (m := (pagesFor n : Int)) hl hc hT h1 (by omega) hb.2.1
    refine ⟨rfl, fun t ht => ?_, _, fun b y => obj_new hne ok cnt b y, ?_, ?_⟩
    · rcases setS_mem.1 ht with ⟨h, _⟩ | ⟨rfl, _⟩
      · have := hT t h; omega
      · show p.1 + pagesFor n ≤ _; omega
    · rintro y ⟨t, ht, j, hj, _, he, _⟩
      have h2 := at_in (hI.1 t ht).1 hj
      have h3 := (hI.1 t ht).1.size
      have h4 := (hI.1 t ht).1.ps1
      have hfr : rn.Fr l p.1 := (rn.Fr_at l p.1).2 ⟨b, p, hb.2.1, Nat.le_refl _, by have := hc.mem hb.2.1; omega⟩
      exact land_taken hl ht (j := p.1) (by omega) (by omega) hfr
    · have hsz := (Good.size ok).1
      by_cases h : ofL n < 0
      · have hcl : (newSp p.1 n).cl = 255 := if_pos h
        have e : ((newSp p.1 n).siz : Int) = (pagesFor n : Int) * 512 := by
          unfold sizeS at hsz
          rw [if_pos hcl, IntWalk.wrap64_in _ (by show _ ≤ (pagesFor n : Int) * 512 ∧ (pagesFor n : Int) * 512 ≤ _; omega)] at hsz
          exact hsz.symm
        rw [e]; exact hpf.2.2 h
      · have hcl : (newSp p.1 n).cl = ofL n := if_neg h
        have h5 := of_facts n h
        have e : ((newSp p.1 n).siz : Int) = sizeL (ofL n) := by
          unfold sizeS at hsz
          rw [if_neg (by rw [hcl]; omega), hcl] at hsz
          have e2 : (newSp p.1 n).siz = sizN (newSp p.1 n).cl (newSp p.1 n).ps := rfl
          rw [e2, hcl]; exact hsz.symm
        rw [e]; exact h5.2.2.2.1
end Go.Proofs.Ytadbbknllakpcaa

/- Plain: how what is counted turns. -/
namespace Go.Proofs.Ytadbbknllakpcaa
open Go.RowKit
set_option linter.unusedVariables false

def sumS (g : Sp → Nat) (S : List Sp) : Nat := (S.map g).sum
theorem sumS_app (g : Sp → Nat) (A B : List Sp) : sumS g (A ++ B) = sumS g A + sumS g B := by unfold sumS; simp
theorem sumS_cons (g : Sp → Nat) (s : Sp) (B : List Sp) : sumS g (s :: B) = g s + sumS g B := by unfold sumS; simp
theorem split_off {q : Nat} : ∀ (T : List Sp), Rise (pagesS T) → (∀ t ∈ T, t.pg ≠ q) → T.filter (fun t => decide (t.pg < q)) ++ T.filter (fun t => decide (q < t.pg)) = T := by
  intro T
  induction T with
  | nil => intro _ _; rfl
  | cons t T ih =>
    intro hr hne
    have hlt : ∀ u ∈ T, t.pg < u.pg := fun u hu => (List.pairwise_cons.1 hr).1 u.pg (mem_pages.2 ⟨u, hu, rfl⟩)
    have ih := ih hr.of_cons (fun u hu => hne u (List.mem_cons_of_mem _ hu))
    rcases Nat.lt_or_ge t.pg q with h | h
    · rw [List.filter_cons, List.filter_cons, if_pos (decide_eq_true h), if_neg (by simp; omega), List.cons_append, ih]
    · have h' : q < t.pg := by have := hne t (by simp); omega
      rw [List.filter_cons, List.filter_cons, if_neg (by simp; omega), if_pos (decide_eq_true h'), List.filter_eq_nil_iff.2 (fun u hu => by simp; have := hlt u hu; omega), List.nil_append, List.filter_eq_self.2 (fun u hu => decide_eq_true (by have := hlt u hu; omega))]
theorem sum_new {g : Sp → Nat} {S : List Sp} {s : Sp} (hr : Rise (pagesS S)) (hc : 0 < s.cnt) (hne : ∀ t ∈ S, t.pg ≠ s.pg) : sumS g (setS S s) = sumS g S + g s := by
  have h := congrArg (sumS g) (split_off S hr hne)
  rw [sumS_app] at h
  unfold setS
  rw [if_pos hc, sumS_app, sumS_app, ← h]
  have : sumS g [s] = g s := by unfold sumS; simp
  omega
theorem sum_set {g : Sp → Nat} {S : List Sp} {s s' : Sp} (hI : Inv S) (hs : s ∈ S) (hp : s'.pg = s.pg) (h0 : s'.cnt = 0 → g s' = 0) : sumS g (setS S s') + g s = sumS g S + g s' := by
  obtain ⟨A, B, rfl⟩ := List.append_of_mem hs
  have hr := hI.rise
  unfold Rise pagesS at hr
  rw [List.pairwise_map, List.pairwise_append] at hr
  obtain ⟨_, h2, h3⟩ := hr
  have hB := (List.pairwise_cons.1 h2).1
  have hA : ∀ t ∈ A, t.pg < s.pg := fun t ht => h3 t ht s (by simp)
  unfold setS
  rw [hp, List.filter_append, List.filter_append, List.filter_cons, List.filter_cons]
  simp only [Nat.lt_irrefl, decide_false, Bool.false_eq_true, if_false]
  rw [List.filter_eq_self.2 (fun t ht => decide_eq_true (hA t ht)), List.filter_eq_nil_iff.2 (fun t ht => by simp; have := hB t ht; omega), List.filter_eq_nil_iff.2 (fun t ht => by simp; have := hA t ht; omega), List.filter_eq_self.2 (fun t ht => decide_eq_true (hB t ht))]
  rw [List.append_nil, List.nil_append, sumS_app, sumS_app, sumS_app, sumS_cons]
  split
  · have : sumS g [s'] = g s' := by unfold sumS; simp
    omega
  · have := h0 (by omega)
    have : sumS g [] = 0 := rfl
    omega
/-- What an allocation adds. -/
theorem count_step {n a e : Int} {S S' : List Sp} {l l' : List (Nat × Nat)} {z : Int} (hI : Inv S) (hl : LandOf S l) (hc : rn.Canon l) (hA : AllocL S l n a e S' l') (he : e = 0) (hz : ∀ b y, Obj S' b y ↔ Obj S b y ∨ (b = a ∧ y = z)) (hno : ∀ y, ¬ Obj S a y) :
    cntAll S' = cntAll S + 1 ∧ (octAll S' : Int) = octAll S + z := by
  rcases hA with ⟨_, _, h, _⟩ | ⟨hn, ⟨h0, s, rest, i, hp, hs, hcl, hi, rfl, _, rfl, _⟩ | ⟨h0, ⟨_, _, h, _⟩ | ⟨b, p, hb, rfl, _, rfl, _⟩⟩⟩
  · rw [he] at h; cases h
  · have hcw : (s.with i true).cnt = s.cnt + 1 := cntF_set s.f i s.per hi.2.1 hi.1
    have h1 := sum_set (g := (·.cnt)) (s' := s.with i true) hI hs rfl (fun h => h)
    have h2 := sum_set (g := fun s => s.cnt * s.siz) (s' := s.with i true) hI hs rfl (fun h => by simp only [h, Nat.zero_mul])
    have hzz : z = s.siz := by
      have := (hz (s.at i) (s.siz : Int)).1 ((obj_with hI hs hi.1 hi.2.1 _ _).2 (.inr ⟨rfl, rfl⟩))
      rcases this with h | ⟨_, h⟩
      · exact absurd h (hno _)
      · exact h.symm
    have h3 : (s.with i true).siz = s.siz := rfl
    simp only [hcw, h3, Nat.add_mul, Nat.one_mul] at h1 h2
    rw [hzz]
    unfold cntAll octAll
    unfold sumS at h1 h2
    omega
  · rw [he] at h; cases h
  · obtain ⟨ok, cnt, _, _, hne, _⟩ := new_span hI hl hc hn.1 hn.2 hb
    have h1 := sum_new (g := (·.cnt)) hI.rise cnt hne
    have h2 := sum_new (g := fun s => s.cnt * s.siz) hI.rise cnt hne
    have hk : (newSp p.1 n).cnt = 1 := low_cnt ok.size.2.2.1 newSp_f
    have hzz : z = (newSp p.1 n).siz := by
      have := (hz (512 * (p.1 : Int)) ((newSp p.1 n).siz : Int)).1 ((obj_new hne ok cnt _ _).2 (.inr ⟨rfl, rfl⟩))
      rcases this with h | ⟨_, h⟩
      · exact absurd h (hno _)
      · exact h.symm
    simp only [hk, Nat.one_mul] at h1 h2
    rw [hzz]
    unfold cntAll octAll
    unfold sumS at h1 h2
    omega
/-- What a freed object takes away. -/
theorem count_free {S : List Sp} (hI : Inv S) {s : Sp} (hs : s ∈ S) {i : Nat} (hi : i < s.per) (hf : s.f i = true) : cntAll (setS S (s.with i false)) + 1 = cntAll S ∧ octAll (setS S (s.with i false)) + s.siz = octAll S := by
  have hcw : (s.with i false).cnt + 1 = s.cnt := cntF_put s.f i hf s.per hi
  have h1 := sum_set (g := (·.cnt)) (s' := s.with i false) hI hs rfl (fun h => h)
  have h2 := sum_set (g := fun s => s.cnt * s.siz) (s' := s.with i false) hI hs rfl (fun h => by simp only [h, Nat.zero_mul])
  have h3 : (s.with i false).siz = s.siz := rfl
  simp only [← hcw, h3, Nat.add_mul, Nat.one_mul] at h1 h2
  unfold cntAll octAll
  unfold sumS at h1 h2
  omega
end Go.Proofs.Ytadbbknllakpcaa

/- Plain: objects lie apart. -/
namespace Go.Proofs.Ytadbbknllakpcaa
open Go.RowKit
set_option linter.unusedVariables false

/-- No octet is of two objects. -/
theorem obj_one {S : List Sp} (hI : Inv S) {a b z y x : Int} (h1 : Obj S a z) (h2 : Obj S b y) (hx : a ≤ x ∧ x < a + z) (hy : b ≤ x ∧ x < b + y) : a = b ∧ z = y := by
  obtain ⟨s, hs, i, hi, _, rfl, rfl⟩ := h1
  obtain ⟨t, ht, j, hj, _, rfl, rfl⟩ := h2
  have g1 := at_in (hI.1 s hs).1 hi
  have g2 := at_in (hI.1 t ht).1 hj
  obtain rfl := in_one hI hs ht (x := x) (by omega) (by omega)
  obtain rfl := at_inj (hI.1 s hs).1 (i := i) (j := j) (x := x) hx hy
  exact ⟨rfl, rfl⟩
theorem obj_pos {S : List Sp} (hI : Inv S) {a z : Int} (h : Obj S a z) : 1 ≤ z ∧ z ≤ 2097152 ∧ 0 ≤ a ∧ a ≤ 2097152 := by
  obtain ⟨s, hs, i, hi, _, rfl, rfl⟩ := h
  have g1 := at_in (hI.1 s hs).1 hi
  have g2 := (hI.1 s hs).1.size
  have g3 := (hI.1 s hs).1.ps1
  omega
theorem obj_apart {S : List Sp} (hI : Inv S) {a b z y : Int} (h1 : Obj S a z) (h2 : Obj S b y) (hne : a ≠ b) : ¬ (a < b + y ∧ b < a + z) := by
  intro h
  have p1 := obj_pos hI h1
  have p2 := obj_pos hI h2
  rcases Int.le_total a b with e | e
  · exact hne (obj_one hI h1 h2 (x := b) (by omega) (by omega)).1
  · exact hne (obj_one hI h1 h2 (x := a) (by omega) (by omega)).1
/-- What Find answers at an object's octet. -/
theorem find_is {S : List Sp} (hI : Inv S) {a z x from' k : Int} {ok : Bool} (h : Obj S a z) (hx : a ≤ x ∧ x < a + z) (hF : FindL S x from' k ok) : from' = a ∧ k = z ∧ ok = true := by
  rcases hF with ⟨_, _, _, hno⟩ | ⟨rfl, ho, h1, h2⟩
  · exact absurd hx (hno a z h)
  · obtain ⟨e1, e2⟩ := obj_one hI ho h ⟨h1, h2⟩ hx
    exact ⟨e1, e2, rfl⟩
end Go.Proofs.Ytadbbknllakpcaa
