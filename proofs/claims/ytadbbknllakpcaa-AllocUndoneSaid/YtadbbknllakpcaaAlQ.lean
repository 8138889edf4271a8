/- Plain: objects of any size allocated one behind another; what is allocated and freed at once. -/
import Derived.Test.YtadbbknllakpcaaAlP
namespace Go.Proofs.Ytadbbknllakpcaa
open Go.RowKit
set_option linter.unusedVariables false

/-- The objects when one is taken in a span. -/
theorem obj_with {S : List Sp} (hI : Inv S) {s : Sp} (hs : s ∈ S) {i : Nat} (hi : i < s.per) (hf : s.f i = false) (b z : Int) : Obj (setS S (s.with i true)) b z ↔ Obj S b z ∨ (b = s.at i ∧ z = s.siz) := by
  have hcw : 0 < (s.with i true).cnt := by
    have : (s.with i true).cnt = s.cnt + 1 := cntF_set s.f i s.per hf hi
    omega
  constructor
  · rintro ⟨t, ht, j, hj, hfj, rfl, rfl⟩
    rcases setS_mem.1 ht with ⟨h1, _⟩ | ⟨rfl, _⟩
    · exact .inl ⟨t, h1, j, hj, hfj, rfl, rfl⟩
    · by_cases e : j = i
      · subst e; exact .inr ⟨rfl, rfl⟩
      · refine .inl ⟨s, hs, j, hj, ?_, rfl, rfl⟩
        have h2 : put s.f i true j = true := hfj
        unfold put at h2
        rwa [if_neg e] at h2
  · rintro (⟨t, ht, j, hj, hfj, rfl, rfl⟩ | ⟨rfl, rfl⟩)
    · by_cases e : t.pg = s.pg
      · obtain rfl := rise_one hI.rise ht hs e
        refine ⟨t.with i true, setS_mem.2 (.inr ⟨rfl, hcw⟩), j, hj, ?_, rfl, rfl⟩
        show put t.f i true j = true
        unfold put; split
        · rfl
        · exact hfj
      · exact ⟨t, setS_mem.2 (.inl ⟨ht, e⟩), j, hj, hfj, rfl, rfl⟩
    · refine ⟨s.with i true, setS_mem.2 (.inr ⟨rfl, hcw⟩), i, hi, ?_, rfl, rfl⟩
      show put s.f i true i = true
      unfold put; rw [if_pos rfl]
/-- The objects when a span is new. -/
theorem obj_new {S : List Sp} {q : Nat} {n : Int} (hne : ∀ t ∈ S, t.pg ≠ q) (ok : (newSp q n).ok) (hc : 0 < (newSp q n).cnt) (b z : Int) : Obj (setS S (newSp q n)) b z ↔ Obj S b z ∨ (b = 512 * (q : Int) ∧ z = (newSp q n).siz) := by
  constructor
  · rintro ⟨t, ht, j, hj, hfj, rfl, rfl⟩
    rcases setS_mem.1 ht with ⟨h1, _⟩ | ⟨rfl, _⟩
    · exact .inl ⟨t, h1, j, hj, hfj, rfl, rfl⟩
    · have h2 : bit0 j = true := hfj
      have h3 : j = 0 := by
        unfold bit0 at h2
        exact of_decide_eq_true h2
      subst h3
      refine .inr ⟨?_, rfl⟩
      unfold Sp.at; rw [Nat.zero_mul]; show 512 * (q : Int) + _ = _; omega
  · rintro (⟨t, ht, j, hj, hfj, rfl, rfl⟩ | ⟨rfl, rfl⟩)
    · exact ⟨t, setS_mem.2 (.inl ⟨ht, hne t ht⟩), j, hj, hfj, rfl, rfl⟩
    · refine ⟨newSp q n, setS_mem.2 (.inr ⟨rfl, hc⟩), 0, ok.size.2.2.1, rfl, ?_, rfl⟩
      unfold Sp.at; rw [Nat.zero_mul]; show _ = 512 * (q : Int) + _; omega
/-- The objects when one is freed. -/
theorem obj_free {S : List Sp} (hI : Inv S) {s : Sp} (hs : s ∈ S) {i : Nat} (hi : i < s.per) (hf : s.f i = true) (b z : Int) : Obj (setS S (s.with i false)) b z ↔ Obj S b z ∧ b ≠ s.at i := by
  have hsz := (hI.1 s hs).1.size
  constructor
  · rintro ⟨t, ht, j, hj, hfj, rfl, rfl⟩
    rcases setS_mem.1 ht with ⟨h1, h2⟩ | ⟨rfl, _⟩
    · refine ⟨⟨t, h1, j, hj, hfj, rfl, rfl⟩, fun e => ?_⟩
      have h3 := at_in (hI.1 t h1).1 hj
      have h4 := at_in (hI.1 s hs).1 hi
      have h5 := (hI.1 t h1).1.size
      obtain rfl := in_one hI h1 hs (x := t.at j) (by omega) (by omega)
      exact h2 rfl
    · have h2 : put s.f i false j = true := hfj
      unfold put at h2
      split at h2
      · cases h2
      · rename_i hne
        refine ⟨⟨s, hs, j, hj, h2, rfl, rfl⟩, fun e => hne ?_⟩
        have e : s.at j = s.at i := e
        exact at_inj (hI.1 s hs).1 (x := s.at i) (by omega) (by omega)
  · rintro ⟨⟨t, ht, j, hj, hfj, rfl, rfl⟩, hne⟩
    by_cases e : t.pg = s.pg
    · obtain rfl := rise_one hI.rise ht hs e
      have hji : j ≠ i := fun h => hne (by rw [h])
      have hfw : (t.with i false).f j = true := by
        show put t.f i false j = true
        unfold put; rw [if_neg hji]; exact hfj
      have hcw : 0 < (t.with i false).cnt := by
        refine Nat.pos_of_ne_zero fun h0 => ?_
        have := cntF_put (t.with i false).f j hfw (t.with i false).per hj
        unfold Sp.cnt at h0
        omega
      exact ⟨t.with i false, setS_mem.2 (.inr ⟨rfl, hcw⟩), j, hj, hfw, rfl, rfl⟩
    · exact ⟨t, setS_mem.2 (.inl ⟨ht, e⟩), j, hj, hfj, rfl, rfl⟩
/-- No objects: no spans. -/
theorem obj_none {S : List Sp} (hI : Inv S) (h : ∀ b z, ¬ Obj S b z) : S = [] := by
  cases S with
  | nil => rfl
  | cons s r =>
    exfalso
    have hs := hI.1 s (by simp)
    have : ∃ i, i < s.per ∧ s.f i = true := by
      refine Classical.byContradiction fun hn => ?_
      have : s.cnt = 0 := by
        unfold Sp.cnt
        rw [cntF_congr (g := fun _ => false) _ (fun i hi => ?_)]
        · exact cntF_none _
        · cases hf : s.f i
          · rfl
          · exact absurd ⟨i, hi, hf⟩ hn
      omega
    obtain ⟨i, hi, hf⟩ := this
    exact h _ _ ⟨s, by simp, i, hi, hf, rfl, rfl⟩
/-- What is allocated and freed at once leaves all as it was. -/
theorem alloc_free {S S1 S2 : List Sp} {l l1 l2 : List (Nat × Nat)} {n a r k er : Int} (hI : Inv S) (hl : LandOf S l) (hc : rn.Canon l) (hI1 : Inv S1) (hA : AllocL S l n a 0 S1 l1) (hF : FreeL S1 l1 a r k er S2 l2) : er = 0 ∧ S2 = S := by
  have fin : ∀ (s : Sp) (i : Nat), s ∈ S1 → i < s.per → s.f i = true → a = s.at i → setS S1 (s.with i false) = S → er = 0 ∧ S2 = S := by
    intro s i hs hi hf ha hset
    rcases hF with ⟨_, _, _, _, _, hno⟩ | ⟨t, ht, j, hj, hfj, hx, rfl, rfl, _⟩
    · exact absurd ⟨s, hs, i, hi, hf, ha, rfl⟩ (hno _)
    · have h1 := at_in (hI1.1 s hs).1 hi
      have h2 := at_in (hI1.1 t ht).1 hj
      have h3 := (hI1.1 s hs).1.size
      have h4 := (hI1.1 t ht).1.size
      obtain rfl := in_one hI1 hs ht (x := a) (by omega) (by omega)
      obtain rfl := at_inj (hI1.1 s hs).1 (i := i) (j := j) (x := a) (by omega) (by omega)
      exact ⟨rfl, hset⟩
  rcases hA with ⟨_, _, he, _⟩ | ⟨hn, ⟨h0, s, rest, i, hp, hs, hcl, hFi, rfl, _, rfl, _⟩ | ⟨h0, ⟨_, _, he, _⟩ | ⟨b, p, hb, rfl, _, rfl, _⟩⟩⟩
  · cases he
  · have hcw : 0 < (s.with i true).cnt := by
      have : (s.with i true).cnt = s.cnt + 1 := cntF_set s.f i s.per hFi.2.1 hFi.1
      omega
    refine fin (s.with i true) i (setS_mem.2 (.inr ⟨rfl, hcw⟩)) hFi.1 (by show put s.f i true i = true; unfold put; rw [if_pos rfl]) rfl ?_
    rw [with_undo hFi.2.1]
    exact set_back (s' := s.with i true) hI hs rfl
  · cases he
  · obtain ⟨k1, k2, k3, k4, k5, _⟩ := new_span hI hl hc hn.1 hn.2 hb
    refine fin (newSp p.1 n) 0 (setS_mem.2 (.inr ⟨rfl, k2⟩)) k1.size.2.2.1 rfl (by unfold Sp.at; rw [Nat.zero_mul]; show 512 * (p.1 : Int) = 512 * (p.1 : Int) + _; omega) ?_
    have hz : ((newSp p.1 n).with 0 false).cnt = 0 := by
      show cntF (put bit0 0 false) _ = 0
      rw [cntF_congr (g := fun _ => false) _ (fun i hi => ?_)]
      · exact cntF_none _
      · unfold put bit0
        split
        · rfl
        · exact decide_eq_false (by assumption)
    rw [set_set (s' := newSp p.1 n) (s := (newSp p.1 n).with 0 false) rfl]
    unfold setS
    rw [if_neg (by omega), List.nil_append]
    have hpg : ((newSp p.1 n).with 0 false).pg = p.1 := rfl
    rw [hpg]
    have hr := hI.rise
    have : ∀ (T : List Sp), Rise (pagesS T) → (∀ t ∈ T, t.pg ≠ p.1) → T.filter (fun t => decide (t.pg < p.1)) ++ T.filter (fun t => decide (p.1 < t.pg)) = T := by
      intro T
      induction T with
      | nil => intro _ _; rfl
      | cons t T ih =>
        intro hr hne
        have hlt : ∀ u ∈ T, t.pg < u.pg := fun u hu => (List.pairwise_cons.1 hr).1 u.pg (mem_pages.2 ⟨u, hu, rfl⟩)
        have ih := ih hr.of_cons (fun u hu => hne u (List.mem_cons_of_mem _ hu))
        rcases Nat.lt_or_ge t.pg p.1 with h | h
        · rw [List.filter_cons, List.filter_cons, if_pos (decide_eq_true h), if_neg (by simp; omega), List.cons_append, ih]
        · have h' : p.1 < t.pg := by have := hne t (by simp); omega
          rw [List.filter_cons, List.filter_cons, if_neg (by simp; omega), if_pos (decide_eq_true h'), List.filter_eq_nil_iff.2 (fun u hu => by simp; have := hlt u hu; omega), List.nil_append, List.filter_eq_self.2 (fun u hu => decide_eq_true (by have := hlt u hu; omega))]
    exact this S hr k5
theorem not_obj {S : List Sp} (hI : Inv S) {s : Sp} (hs : s ∈ S) {i : Nat} (hi : i < s.per) (hf : s.f i = false) (y : Int) : ¬ Obj S (s.at i) y := by
  rintro ⟨t, ht, j, hj, hfj, he, _⟩
  have h1 := at_in (hI.1 s hs).1 hi
  have h2 := at_in (hI.1 t ht).1 hj
  have h3 := (hI.1 s hs).1.size
  have h4 := (hI.1 t ht).1.size
  obtain rfl := in_one hI hs ht (x := s.at i) (by omega) (by omega)
  obtain rfl := at_inj (hI.1 s hs).1 (i := i) (j := j) (x := s.at i) (by omega) (by omega)
  rw [hf] at hfj; cases hfj
/-- A step of the allocations, sizes as they come. -/
theorem row_step {n : Int} {S : List Sp} {x : Nat} (h1n : 1 ≤ n) (h2n : n ≤ 3000) (hI : Inv S) (hT : ∀ s ∈ S, s.pg + s.ps ≤ x) (h1 : 1 ≤ x) (hx : x + 6 < 4096) :
    ∃ a S' x' z, AllocL S (rowL x) n a 0 S' (rowL x') ∧ (∀ s ∈ S', s.pg + s.ps ≤ x') ∧ x ≤ x' ∧ x' ≤ x + 6 ∧ (∀ b y, Obj S' b y ↔ Obj S b y ∨ (b = a ∧ y = z)) ∧ (∀ y, ¬ Obj S a y) ∧ n ≤ z := by
  have fresh : (ofL n < 0 ∨ partS S (ofL n) = []) → ∃ a S' x' z, AllocL S (rowL x) n a 0 S' (rowL x') ∧ (∀ s ∈ S', s.pg + s.ps ≤ x') ∧ x ≤ x' ∧ x' ≤ x + 6 ∧ (∀ b y, Obj S' b y ↔ Obj S b y ∨ (b = a ∧ y = z)) ∧ (∀ y, ¬ Obj S a y) ∧ n ≤ z := by
    intro hp
    have hpf : pagesFor n ≤ 6 ∧ (ofL n < 0 → n ≤ (pagesFor n : Int) * 512) := by
      by_cases h : ofL n < 0
      · have h3 := pages_large h h1n (by omega)
        unfold largeL at h3
        rw [if_neg (by omega)] at h3
        exact ⟨by omega, fun _ => by omega⟩
      · have := pages_class h
        exact ⟨by omega, fun h2 => absurd h2 h⟩
    obtain ⟨ok, cnt, _⟩ := newSp_ok (q := x) (n := n) h1n (by omega) h1 (by omega)
    have hlt : ∀ t ∈ S, t.pg < x := fun t ht => by
      have := hT t ht
      have := (hI.1 t ht).1.ps1
      omega
    have hne : ∀ t ∈ S, t.pg ≠ x := fun t ht => by have := hlt t ht; omega
    refine ⟨_, _, _, _, alloc_fresh h1n (by omega) hp (by omega), fun s hs => ?_, by omega, by omega, fun b y => obj_new hne ok cnt b y, ?_, ?_⟩
    · rcases setS_mem.1 hs with ⟨h, _⟩ | ⟨rfl, _⟩
      · have := hT s h; omega
      · exact Nat.le_refl _
    · rintro y ⟨t, ht, j, hj, _, he, _⟩
      have h2 := at_in (hI.1 t ht).1 hj
      have h3 := (hI.1 t ht).1.size
      have := hT t ht
      omega
    · have hsz := (Good.size ok).1
      by_cases h : ofL n < 0
      · have hcl : (newSp x n).cl = 255 := if_pos h
        have e : ((newSp x n).siz : Int) = (pagesFor n : Int) * 512 := by
          unfold sizeS at hsz
          rw [if_pos hcl, IntWalk.wrap64_in _ (by show _ ≤ (pagesFor n : Int) * 512 ∧ (pagesFor n : Int) * 512 ≤ _; omega)] at hsz
          exact hsz.symm
        rw [e]; exact hpf.2 h
      · have hcl : (newSp x n).cl = ofL n := if_neg h
        have h5 := of_facts n h
        have e : ((newSp x n).siz : Int) = sizeL (ofL n) := by
          unfold sizeS at hsz
          rw [if_neg (by rw [hcl]; omega), hcl] at hsz
          have e2 : (newSp x n).siz = sizN (newSp x n).cl (newSp x n).ps := rfl
          rw [e2, hcl]; exact hsz.symm
        rw [e]; exact h5.2.2.2.1
  by_cases h0 : ofL n < 0
  · exact fresh (.inl h0)
  · cases hp : partS S (ofL n) with
    | nil => exact fresh (.inr hp)
    | cons pg rest =>
      obtain ⟨s, hs, hsp, rfl⟩ := mem_part.1 (show pg ∈ partS S (ofL n) by rw [hp]; simp)
      have hsc : s.cl = ofL n ∧ s.cnt < s.per := by unfold Sp.part at hsp; simpa using hsp
      obtain ⟨i, hi⟩ := first_ex hsc.2
      refine ⟨_, _, x, _, alloc_part hp hs hsc.1 h0 hi, fun t ht => ?_, by omega, by omega, fun b y => obj_with hI hs hi.1 hi.2.1 b y, not_obj hI hs hi.1 hi.2.1, ?_⟩
      · rcases setS_mem.1 ht with ⟨h, _⟩ | ⟨rfl, _⟩
        · exact hT t h
        · exact hT s hs
      · have hsz := (Good.size (hI.1 s hs).1).1
        have h5 := of_facts n h0
        have e : (s.siz : Int) = sizeL (ofL n) := by
          unfold sizeS at hsz
          rw [if_neg (by rw [hsc.1]; omega), hsc.1] at hsz
          have e2 : s.siz = sizN s.cl s.ps := rfl
          rw [e2, hsc.1]; exact hsz.symm
        rw [e]; exact h5.2.2.2.1
end Go.Proofs.Ytadbbknllakpcaa
