/- A region that draws its order, as XDag: where some slots are written late, by operations that wait for all who read them as they were. No program in sight. -/
import Derived.Test.YtanfjiccilibcaaDagS
namespace Go.Proofs.Ytanfjiccilibcaa
open Go.RowKit
set_option linter.unusedVariables false

def dagOkL (md : Region.Mode) (ops : Array Oper) (late : List Tmp) : Bool :=
  (List.range ops.size).all fun i => match ops[i]? with
    | none => true
    | some o => o.after.all (fun e => !Region.binds md e || decide (e.on < i)) &&
      (List.range ops.size).all fun j => match ops[j]? with
        | none => true
        | some oj => match oj.dst with
          | none => true
          | some d => !(o.looksAt ops).contains d || (if late.contains d then oj.after.any (fun e => Region.binds md e && e.on == i) else o.after.any (fun e => Region.binds md e && e.on == j))
theorem dagOkL_spec {md : Region.Mode} {ops : Array Oper} {late : List Tmp} (h : dagOkL md ops late = true) {i : Nat} {o : Oper} (hi : ops[i]? = some o) :
    (∀ e ∈ o.after, Region.binds md e = true → e.on < i) ∧ ∀ (j : Nat) (oj : Oper) (d : Tmp), ops[j]? = some oj → oj.dst = some d → d ∈ o.looksAt ops → (late.contains d = true ∧ ∃ e ∈ oj.after, Region.binds md e = true ∧ e.on = i) ∨ (late.contains d = false ∧ ∃ e ∈ o.after, Region.binds md e = true ∧ e.on = j) := by
  have hlt := (Array.getElem?_eq_some_iff.1 hi).1
  have h1 := List.all_eq_true.1 h i (List.mem_range.2 hlt)
  rw [hi] at h1
  simp only [Bool.and_eq_true] at h1
  refine ⟨fun e he hb => ?_, fun j oj d hj hd hl => ?_⟩
  · have := Array.all_eq_true_iff_forall_mem.1 h1.1 e he
    rw [hb] at this
    simpa using this
  · have h2 := List.all_eq_true.1 h1.2 j (List.mem_range.2 (Array.getElem?_eq_some_iff.1 hj).1)
    rw [hj] at h2
    simp only [hd, Bool.or_eq_true, Bool.not_eq_true'] at h2
    rcases h2 with h2 | h2
    · rw [List.contains_iff_mem.2 hl] at h2; cases h2
    · cases hc : late.contains d
      · rw [if_neg (by rw [hc]; decide)] at h2
        obtain ⟨e, he, hb⟩ := Array.any_eq_true'.1 h2
        simp only [Bool.and_eq_true, beq_iff_eq] at hb
        exact .inr ⟨rfl, e, he, hb.1, hb.2⟩
      · rw [if_pos hc] at h2
        obtain ⟨e, he, hb⟩ := Array.any_eq_true'.1 h2
        simp only [Bool.and_eq_true, beq_iff_eq] at hb
        exact .inl ⟨rfl, e, he, hb.1, hb.2⟩
theorem putAll_filter (late : List Tmp) (vs : List (Tmp × Value)) (a b : Act) (hs : a.tmps.size = b.tmps.size) (t : Tmp) (ht : late.contains t = false) (hab : a.tmps[t]? = b.tmps[t]?) : (putAll a (vs.filter fun p => !late.contains p.1)).tmps[t]? = (putAll b vs).tmps[t]? := by
  induction vs generalizing a b with
  | nil => exact hab
  | cons p vs ih =>
    rw [List.filter_cons]
    cases hc : late.contains p.1
    · simp only [Bool.not_false, if_true]
      show (putAll (a.put (some p.1) p.2) _).tmps[t]? = (putAll (b.put (some p.1) p.2) vs).tmps[t]?
      refine ih _ _ (by simp [Act.put, hs]) ?_
      by_cases e : p.1 = t
      · simp [Act.put, Array.getElem?_setIfInBounds, hs, e]
      · simp only [Act.put]
        rw [Array.getElem?_setIfInBounds_ne e, Array.getElem?_setIfInBounds_ne e]; exact hab
    · simp only [Bool.not_true, if_neg Bool.false_ne_true]
      show (putAll a _).tmps[t]? = (putAll (b.put (some p.1) p.2) vs).tmps[t]?
      refine ih _ _ (by simp [Act.put, hs]) ?_
      have e : p.1 ≠ t := fun e => by rw [e, ht] at hc; cases hc
      simp only [Act.put]
      rw [Array.getElem?_setIfInBounds_ne e]; exact hab
def DagStepL (P : Program) (md : Region.Mode) (ops : Array Oper) (F G : Act) (late : List Tmp) (J : (Nat → Bool) → World → Prop) (i : Nat) (o : Oper) : Prop :=
  ((o.looksAt ops).any (late.contains ·) = false ∧ DagStep P md ops F J i o) ∨ ((match o.dst with | some d => late.contains d | none => false) = false ∧ DagStep P md ops G J i o)
def DagStepsL (P : Program) (md : Region.Mode) (ops : Array Oper) (F G : Act) (late : List Tmp) (J : (Nat → Bool) → World → Prop) : Nat → List Oper → Prop
  | _, [] => True
  | i, o :: r => DagStepL P md ops F G late J i o ∧ DagStepsL P md ops F G late J (i + 1) r
theorem DagStepsL.at {P : Program} {md : Region.Mode} {ops : Array Oper} {F G : Act} {late : List Tmp} {J : (Nat → Bool) → World → Prop} {l : List Oper} {k : Nat} (h : DagStepsL P md ops F G late J k l) {i : Nat} {o : Oper} (hi : l[i]? = some o) : DagStepL P md ops F G late J (k + i) o := by
  induction l generalizing k i with
  | nil => simp at hi
  | cons x l ih =>
    cases i with
    | zero => simp at hi; subst hi; exact h.1
    | succ i =>
      have := ih h.2 (i := i) (by simpa using hi)
      rw [show k + (i + 1) = k + 1 + i by omega]
      exact this
section
variable {P : Program} {md : Region.Mode} {ops : Array Oper} {F G : Act} {late : List Tmp} {J : (Nat → Bool) → World → Prop} {i : Nat} {o : Oper} {r : List Oper}
theorem dagL_cons (hn : (o.looksAt ops).any (late.contains ·) = false) (h : DagStep P md ops F J i o) (hr : DagStepsL P md ops F G late J (i + 1) r) : DagStepsL P md ops F G late J i (o :: r) := ⟨.inl ⟨hn, h⟩, hr⟩
theorem dagL_late (hn : (match o.dst with | some d => late.contains d | none => false) = false) (h : DagStep P md ops G J i o) (hr : DagStepsL P md ops F G late J (i + 1) r) : DagStepsL P md ops F G late J i (o :: r) := ⟨.inr ⟨hn, h⟩, hr⟩
theorem dagL_nil : DagStepsL P md ops F G late J i [] := trivial
end
def Closed (md : Region.Mode) (ops : Array Oper) (listed : Array Bool) : Prop :=
  ∀ (j : Nat) (oj : Oper), ops[j]? = some oj → listed.getD j false = true → ∀ e ∈ oj.after, Region.binds md e = true → listed.getD e.on false = true
theorem wpAny_dagL {P : Program} {md : Region.Mode} {ops : Array Oper} {Q : Exit → Act → World → Prop} {a0 : Act} (late : List Tmp) (vs : List (Tmp × Value)) (J : (Nat → Bool) → World → Prop)
    (hns : Region.noSelect ops = true) (hok : dagOkL md ops late = true) (hk : vs.map (·.1) = ops.toList.filterMap (·.dst))
    (hstep : DagStepsL P md ops (putAll a0 vs) (putAll a0 (vs.filter fun p => !late.contains p.1)) late J 0 ops.toList)
    (hend : ∀ w, J (fun k => decide (k < ops.size)) w → Q .normal (putAll a0 vs) w) :
    ∀ (fuel : Nat) (listed : Array Bool) (a : Act) (w : World), listed.toList.count false ≤ fuel → DagAt ops a0 (putAll a0 vs) listed a → Closed md ops listed → J (fun k => listed.getD k false) w → wpAny P md ops Q fuel listed a w := by
  obtain ⟨f1, f2, f3⟩ := putAll_spec vs a0
  obtain ⟨g1, g2, g3⟩ := putAll_spec (vs.filter fun p => !late.contains p.1) a0
  have g4 := putAll_filter late vs a0 a0 rfl
  have g5 : ∀ t, late.contains t = true → (putAll a0 (vs.filter fun p => !late.contains p.1)).tmps[t]? = a0.tmps[t]? := fun t ht => g3 t fun hm => by
    obtain ⟨p, hp, rfl⟩ := List.mem_map.1 hm
    have h1 := (List.mem_filter.1 hp).2
    simp only [ht, Bool.not_true] at h1
    cases h1
  have g6 : ∀ t, t ∉ vs.map (·.1) → (putAll a0 (vs.filter fun p => !late.contains p.1)).tmps[t]? = a0.tmps[t]? := fun t ht => g3 t fun hm => by
    obtain ⟨p, hp, rfl⟩ := List.mem_map.1 hm
    exact ht (List.mem_map.2 ⟨p, (List.mem_filter.1 hp).1, rfl⟩)
  have g7 : ∀ t, late.contains t = false → (putAll a0 (vs.filter fun p => !late.contains p.1)).tmps[t]? = (putAll a0 vs).tmps[t]? := fun t ht => g4 t ht rfl
  clear g4 g3
  generalize putAll a0 (vs.filter fun p => !late.contains p.1) = G at *
  generalize putAll a0 vs = F at *
  have keyG : ∀ t, (∀ (j : Nat) (oj : Oper), ops[j]? = some oj → oj.dst ≠ some t) → G.tmps[t]? = a0.tmps[t]? := fun t ht => g6 t fun hm => by
    rw [hk] at hm
    obtain ⟨o, ho, hd⟩ := List.mem_filterMap.1 hm
    obtain ⟨j, hj⟩ := List.mem_iff_getElem?.1 ho
    exact ht j o (by simpa using hj) hd
  have key : ∀ t, (∀ (j : Nat) (oj : Oper), ops[j]? = some oj → oj.dst ≠ some t) → F.tmps[t]? = a0.tmps[t]? := fun t ht => f3 t fun hm => by
    rw [hk] at hm
    obtain ⟨o, ho, hd⟩ := List.mem_filterMap.1 hm
    obtain ⟨j, hj⟩ := List.mem_iff_getElem?.1 ho
    exact ht j o (by simpa using hj) hd
  -- all done
  have fin : ∀ (listed : Array Bool) (a : Act) (w : World), DagAt ops a0 F listed a → (∀ j, j < ops.size → listed.getD j false = true) → J (fun k => listed.getD k false) w → Q .normal a w := by
    intro listed a w hd hall hJ
    have e : a = F := by
      have ht : a.tmps = F.tmps := by
        apply Array.ext_getElem?
        intro t
        by_cases h : ∃ (j : Nat) (oj : Oper), ops[j]? = some oj ∧ oj.dst = some t
        · obtain ⟨j, oj, h1, h2⟩ := h
          exact hd.done j oj t h1 h2 (hall j (Array.getElem?_eq_some_iff.1 h1).1)
        · rw [hd.rest t fun j oj h1 h2 => absurd ⟨j, oj, h1, h2⟩ h, key t fun j oj h1 h2 => h ⟨j, oj, h1, h2⟩]
      have hdf := hd.defers.trans f1.symm
      cases a; cases F
      simp only at ht hdf
      subst ht; subst hdf
      rfl
    rw [e]
    refine hend w ?_
    have e2 : (fun k => listed.getD k false) = fun k => decide (k < ops.size) := by
      funext k
      by_cases hk : k < ops.size
      · rw [hall k hk, decide_eq_true hk]
      · rw [decide_eq_false hk]
        have := hd.size
        simp [Array.getD, show ¬ k < listed.size by omega]
    rw [e2] at hJ
    exact hJ
  -- none may come up: all done
  have stuck : ∀ (listed : Array Bool) (a : Act), DagAt ops a0 F listed a → Region.ready md ops listed = [] → ∀ j, j < ops.size → listed.getD j false = true := by
    intro listed a hd hr j
    induction j using Nat.strongRecOn with
    | _ j ih =>
      intro hj
      refine Classical.byContradiction fun hn => ?_
      obtain ⟨o, ho⟩ : ∃ o, ops[j]? = some o := ⟨_, Array.getElem?_eq_getElem hj⟩
      have hmem : j ∈ Region.ready md ops listed := by
        rw [mem_ready]
        refine ⟨?_, o, ho, fun e he hb => ?_⟩
        · have := hd.size
          have h2 : listed.getD j false = false := by simpa using hn
          simp only [Array.getD, show j < listed.size by omega, dif_pos] at h2 ⊢
          exact h2
        · have hlt := (dagOkL_spec hok ho).1 e he hb
          exact ih e.on hlt (by omega)
      rw [hr] at hmem
      cases hmem
  intro fuel
  induction fuel with
  | zero =>
    intro listed a w hc hd hcl hJ
    have hall : ∀ j, j < ops.size → listed.getD j false = true := fun j hj => by
      have h1 : List.count false listed.toList = 0 := by omega
      have h2 := List.count_eq_zero.1 h1
      have hjl : j < listed.size := by have := hd.size; omega
      cases hv : listed[j]
      · exact absurd (by rw [← hv]; simp) h2
      · simp [Array.getD, hjl, hv]
    refine ⟨?_, fin listed a w hd hall hJ⟩
    refine List.eq_nil_iff_forall_not_mem.2 fun j hj => ?_
    obtain ⟨h1, o, ho, _⟩ := mem_ready.1 hj
    have hlt := (Array.getElem?_eq_some_iff.1 ho).1
    have h2 := hall j hlt
    have := hd.size
    simp only [Array.getD, show j < listed.size by omega, dif_pos] at h1 h2
    rw [h1] at h2; cases h2
  | succ fuel ih =>
    intro listed a w hc hd hcl hJ
    refine ⟨fun hr => fin listed a w hd (stuck listed a hd hr) hJ, fun i hi => ?_⟩
    obtain ⟨h1, o, ho, hdep⟩ := mem_ready.1 hi
    have hlt := (Array.getElem?_eq_some_iff.1 ho).1
    have hls := hd.size
    have hil : i < listed.size := by omega
    have h1' : listed.getD i false = false := by simp only [Array.getD, hil, dif_pos] at h1 ⊢; exact h1
    have hst : DagStepL P md ops F G late J i o := by have := hstep.at (i := i) (o := o) (by simpa using ho); rw [Nat.zero_add] at this; exact this
    have hcount : (listed.setIfInBounds i true).toList.count false ≤ fuel := by
      rw [Array.toList_setIfInBounds, List.count_set (by simpa using hil)]
      have hli : listed.toList[i]'(by simpa using hil) = false := by
        simp only [Array.getD, hil, dif_pos] at h1
        simpa using h1
      have hpos : 0 < listed.toList.count false := List.count_pos_iff.2 (by rw [← hli]; exact List.getElem_mem _)
      simp only [hli]
      show listed.toList.count false - 1 + 0 ≤ fuel
      omega
    have hupd : upd (fun k => listed.getD k false) i = fun k => (listed.setIfInBounds i true).getD k false := by
      funext k
      unfold upd
      by_cases hki : k = i
      · subst hki; rw [if_pos rfl]; simp [hil]
      · rw [if_neg hki, getD_set_ne false (Ne.symm hki)]
    have hcl2 : Closed md ops (listed.setIfInBounds i true) := by
      intro j oj hj hlj e he hb
      by_cases hji : j = i
      · subst hji
        cases ho.symm.trans hj
        have h5 := hdep e he hb
        by_cases hei : e.on = j
        · rw [hei]; simp [hil]
        · rw [getD_set_ne false (Ne.symm hei)]; exact h5
      · rw [getD_set_ne false (Ne.symm hji)] at hlj
        have h5 := hcl j oj hj hlj e he hb
        by_cases hei : e.on = i
        · rw [hei]; simp [hil]
        · rw [getD_set_ne false (Ne.symm hei)]; exact h5
    have step : ∀ H : Act, (∀ t, t ∈ o.looksAt ops → a.tmps[t]? = H.tmps[t]?) → (∀ v, H.put o.dst v = H → F.put o.dst v = F) → DagStep P md ops H J i o → wpOp P ops Q i (wpAny P md ops Q fuel (listed.setIfInBounds i true)) a w := by
      intro H slot hput hs0
      have hex : execOp a.eval o = execOp H.eval o := execOp_congr o (fun cs b => Region.noSelect_spec hns i o cs b ho) fun x hx => by
        cases x with
        | tmp t =>
          have := slot t (List.mem_append_left _ (List.mem_filterMap.2 ⟨.tmp t, by simpa using hx, rfl⟩))
          simp only [Act.eval, Array.getD_eq_getD_getElem?, this]
        | _ => rfl
      have hwt : Region.wanted o (yielded ops a.tmps) = Region.wanted o (yielded ops H.tmps) := by
        unfold Region.wanted
        cases hg : o.guard with
        | none => rfl
        | some gw =>
          obtain ⟨gi, want⟩ := gw
          have hy : yielded ops a.tmps gi = yielded ops H.tmps gi := by
            unfold yielded
            cases ht : (ops[gi]?).bind (·.dst) with
            | none => rfl
            | some t =>
              have := slot t (List.mem_append_right _ (by simp [hg, ht]))
              simp only [Option.bind_some, this]
          simp only [hy]
      unfold wpOp
      simp only [ho, hwt]
      rcases hs0 with ⟨hw, hs⟩ | ⟨hw, hp, hs⟩
      · rw [if_pos hw]
        refine .inl ?_
        have := hs (fun k => listed.getD k false) w h1' hdep hJ
        unfold Oper.wp at this ⊢
        rw [hex]
        refine upon_from this fun v w' hv hJ' => ih _ _ _ hcount (hd.next ho f2 (hput v hv)) hcl2 ?_
        rw [← hupd]; exact hJ'
      · rw [if_neg (by rw [hw]; exact Bool.false_ne_true)]
        refine ih _ _ _ hcount (hd.next ho f2 (hput _ hp)) hcl2 ?_
        rw [← hupd]; exact hs _ w h1' hJ
    rcases hst with ⟨hn, hs0⟩ | ⟨hn, hs0⟩
    · refine step F (fun t ht => ?_) (fun v h => h) hs0
      have hlt0 : late.contains t = false := by
        cases hc0 : late.contains t
        · rfl
        · have := List.any_eq_true.2 ⟨t, ht, hc0⟩
          rw [hn] at this; cases this
      by_cases h : ∃ (j : Nat) (oj : Oper), ops[j]? = some oj ∧ oj.dst = some t
      · obtain ⟨j, oj, hj, hjd⟩ := h
        rcases (dagOkL_spec hok ho).2 j oj t hj hjd ht with ⟨h5, _⟩ | ⟨_, e, he, hb, rfl⟩
        · rw [hlt0] at h5; cases h5
        · exact hd.done _ oj t hj hjd (hdep e he hb)
      · rw [hd.rest t fun j oj h1 h2 => absurd ⟨j, oj, h1, h2⟩ h, key t fun j oj h1 h2 => h ⟨j, oj, h1, h2⟩]
    · refine step G (fun t ht => ?_) (fun v h => ?_) hs0
      · by_cases h : ∃ (j : Nat) (oj : Oper), ops[j]? = some oj ∧ oj.dst = some t
        · cases hc0 : late.contains t
          · obtain ⟨j, oj, hj, hjd⟩ := h
            rcases (dagOkL_spec hok ho).2 j oj t hj hjd ht with ⟨h5, _⟩ | ⟨_, e, he, hb, rfl⟩
            · rw [hc0] at h5; cases h5
            · rw [g7 t hc0]; exact hd.done _ oj t hj hjd (hdep e he hb)
          · rw [g5 t hc0]
            refine hd.rest t fun j oj hj hjd => ?_
            rcases (dagOkL_spec hok ho).2 j oj t hj hjd ht with ⟨_, e, he, hb, h6⟩ | ⟨h5, _⟩
            · cases hlj : listed.getD j false
              · rfl
              · have := hcl j oj hj hlj e he hb
                rw [h6, h1'] at this; cases this
            · rw [hc0] at h5; cases h5
        · rw [hd.rest t fun j oj h1 h2 => absurd ⟨j, oj, h1, h2⟩ h, keyG t fun j oj h1 h2 => h ⟨j, oj, h1, h2⟩]
      · cases hdd : o.dst with
        | none => rfl
        | some d =>
          rw [hdd] at h hn
          have h5 := put_same h F (f2.trans g2.symm)
          rw [g7 d hn] at h5
          have ht : (F.put (some d) v).tmps = F.tmps := by
            apply Array.ext_getElem?
            intro t
            by_cases e : d = t
            · subst e; exact h5
            · simp only [Act.put]
              rw [Array.getElem?_setIfInBounds_ne e]
          have hdf : (F.put (some d) v).defers = F.defers := rfl
          generalize F.put (some d) v = F2 at *
          cases F2; cases F
          simp only at ht hdf
          subst ht; subst hdf
          rfl
/-- The whole region. -/
theorem wp_dagL {P : Program} {ops : Array Oper} {Q : Exit → Act → World → Prop} {id : Nat} {a0 : Act} {w : World} (late : List Tmp) (vs : List (Tmp × Value)) (J : (Nat → Bool) → World → Prop) (hm : P.follows .mixedOrders = true)
    (hns : Region.noSelect ops = true) (hok : dagOkL .any ops late = true) (hk : vs.map (·.1) = ops.toList.filterMap (·.dst))
    (h0 : J (fun _ => false) w.drew)
    (hstep : DagStepsL P .any ops (putAll a0 vs) (putAll a0 (vs.filter fun p => !late.contains p.1)) late J 0 ops.toList)
    (hend : ∀ w, J (fun k => decide (k < ops.size)) w → Q .normal (putAll a0 vs) w) : (Code.region id ops true).wp P Q a0 w := by
  refine wp_region_any hm ?_
  refine wpAny_dagL late vs J hns hok hk hstep hend _ _ _ _ (by simp [Array.toList_replicate]) ⟨by simp, rfl, rfl, fun j oj t h1 h2 h3 => ?_, fun t _ => rfl⟩ (fun j oj h1 h2 => ?_) ?_
  · by_cases hj : j < ops.size <;> simp [Array.getD, hj] at h3
  · by_cases hj : j < ops.size <;> simp [Array.getD, hj] at h2
  · have e : (fun k => (Array.replicate ops.size false).getD k false) = fun _ => false := by
      funext k
      by_cases hj : k < ops.size <;> simp [Array.getD, hj]
    rw [e]; exact h0
end Go.Proofs.Ytanfjiccilibcaa
