/- A region that draws its order, calls and all: when each operation yields one value whenever it is run, it is enough to look at each operation once. No program in sight. -/
import Derived.Test.YtanfjiccilibcaaLib
import Derived.RegionTactic
namespace Go.Proofs.Ytanfjiccilibcaa
open Go.RowKit
set_option linter.unusedVariables false

/-- Every operation comes behind those that it waits for, and waits for all whose slots it looks at. -/
def dagOk (md : Region.Mode) (ops : Array Oper) : Bool :=
  (List.range ops.size).all fun i => match ops[i]? with
    | none => true
    | some o => o.after.all (fun e => !Region.binds md e || decide (e.on < i)) &&
      (List.range ops.size).all fun j => match ops[j]? with
        | none => true
        | some oj => match oj.dst with
          | none => true
          | some d => !(o.looksAt ops).contains d || o.after.any (fun e => Region.binds md e && e.on == j)
theorem dagOk_spec {md : Region.Mode} {ops : Array Oper} (h : dagOk md ops = true) {i : Nat} {o : Oper} (hi : ops[i]? = some o) :
    (∀ e ∈ o.after, Region.binds md e = true → e.on < i) ∧ ∀ (j : Nat) (oj : Oper) (d : Tmp), ops[j]? = some oj → oj.dst = some d → d ∈ o.looksAt ops → ∃ e ∈ o.after, Region.binds md e = true ∧ e.on = j := by
  have hlt := (Array.getElem?_eq_some_iff.1 hi).1
  have h1 := List.all_eq_true.1 h i (List.mem_range.2 hlt)
  rw [hi] at h1
  simp only [Bool.and_eq_true] at h1
  refine ⟨fun e he hb => ?_, fun j oj d hj hd hl => ?_⟩
  · have := Array.all_eq_true_iff_forall_mem.1 h1.1 e he
    rw [hb] at this
    simpa using this
  · have h2 := List.all_eq_true.1 h1.2 j (List.mem_range.2 (Array.getElem?_eq_some_iff.1 hj).1)
    rw [hj] at h2
    simp only [hd, Bool.or_eq_true, Bool.not_eq_true'] at h2
    rcases h2 with h2 | h2
    · rw [List.contains_iff_mem.2 hl] at h2; cases h2
    · obtain ⟨e, he, hb⟩ := Array.any_eq_true'.1 h2
      simp only [Bool.and_eq_true, beq_iff_eq] at hb
      exact ⟨e, he, hb.1, hb.2⟩
/-- The frame with these values laid. -/
def putAll (a : Act) (vs : List (Tmp × Value)) : Act := vs.foldl (fun a p => a.put (some p.1) p.2) a
theorem putAll_spec (vs : List (Tmp × Value)) (a : Act) : (putAll a vs).defers = a.defers ∧ (putAll a vs).tmps.size = a.tmps.size ∧ ∀ t, t ∉ vs.map (·.1) → (putAll a vs).tmps[t]? = a.tmps[t]? := by
  induction vs generalizing a with
  | nil => exact ⟨rfl, rfl, fun t _ => rfl⟩
  | cons p vs ih =>
    obtain ⟨h1, h2, h3⟩ := ih (a.put (some p.1) p.2)
    refine ⟨h1, h2.trans (by simp [Act.put]), fun t ht => ?_⟩
    simp only [List.map_cons, List.mem_cons, not_or] at ht
    refine (h3 t ht.2).trans ?_
    simp [Act.put, Array.getElem?_setIfInBounds_ne (Ne.symm ht.1)]
def upd (g : Nat → Bool) (i : Nat) : Nat → Bool := fun k => if k = i then true else g k
/-- What is asked of one operation: it yields its value whenever it is run. -/
def DagStep (P : Program) (md : Region.Mode) (ops : Array Oper) (F : Act) (J : (Nat → Bool) → World → Prop) (i : Nat) (o : Oper) : Prop :=
  (Region.wanted o (yielded ops F.tmps) = true ∧ ∀ (g : Nat → Bool) (w : World), g i = false → (∀ e ∈ o.after, Region.binds md e = true → g e.on = true) → J g w → o.wp P F w (fun a' w' => a' = F ∧ J (upd g i) w') (fun _ _ _ => False)) ∨
  (Region.wanted o (yielded ops F.tmps) = false ∧ F.put o.dst undef = F ∧ ∀ (g : Nat → Bool) (w : World), g i = false → J g w → J (upd g i) w)
def DagSteps (P : Program) (md : Region.Mode) (ops : Array Oper) (F : Act) (J : (Nat → Bool) → World → Prop) : Nat → List Oper → Prop
  | _, [] => True
  | i, o :: r => DagStep P md ops F J i o ∧ DagSteps P md ops F J (i + 1) r
theorem DagSteps.at {P : Program} {md : Region.Mode} {ops : Array Oper} {F : Act} {J : (Nat → Bool) → World → Prop} {l : List Oper} {k : Nat} (h : DagSteps P md ops F J k l) {i : Nat} {o : Oper} (hi : l[i]? = some o) : DagStep P md ops F J (k + i) o := by
  induction l generalizing k i with
  | nil => simp at hi
  | cons x l ih =>
    cases i with
    | zero => simp at hi; subst hi; exact h.1
    | succ i =>
      have := ih h.2 (i := i) (by simpa using hi)
      rw [show k + (i + 1) = k + 1 + i by omega]
      exact this
theorem upon_from {P : Program} {o : Oper} {F a : Act} {J : World → Prop} {K : Act → World → Prop} {Q : Exit → Act → World → Prop} {r : Result Next}
    (h : o.upon P F (fun a' w' => a' = F ∧ J w') (fun _ _ _ => False) r) (hK : ∀ v w', F.put o.dst v = F → J w' → K (a.put o.dst v) w') : o.upon P a K Q r := by
  cases r with
  | ok n w' =>
    cases n <;> simp only [Oper.upon] at h ⊢
    case value u => exact hK _ _ h.1 h.2
    case skip => exact hK _ _ h.1 h.2
    case defer d =>
      exfalso
      have := congrArg (fun x : Act => x.defers.length) h.1
      cases hd : o.dst <;> simp [Act.put, hd] at this
    case enter f args =>
      refine Calls.mono h fun e w'' he => ?_
      cases e with
      | returned u => exact hK _ _ he.1 he.2
      | panicked c => exact he.elim
      | outgrown => exact (by obtain ⟨_, _, h⟩ := he; exact h.elim)
    case row row args => exact Rows.mono h fun u w'' he => hK _ _ he.1 he.2
  | halt x w' => cases x <;> simp only [Oper.upon] at h ⊢
/-- The frame's state when these operations are done. -/
structure DagAt (ops : Array Oper) (a0 F : Act) (listed : Array Bool) (a : Act) : Prop where
  size : listed.size = ops.size
  defers : a.defers = a0.defers
  tmps : a.tmps.size = a0.tmps.size
  done : ∀ (j : Nat) (oj : Oper) (t : Tmp), ops[j]? = some oj → oj.dst = some t → listed.getD j false = true → a.tmps[t]? = F.tmps[t]?
  rest : ∀ t, (∀ (j : Nat) (oj : Oper), ops[j]? = some oj → oj.dst = some t → listed.getD j false = false) → a.tmps[t]? = a0.tmps[t]?
theorem put_same {F : Act} {d : Tmp} {v : Value} (h : F.put (some d) v = F) (a : Act) (hs : a.tmps.size = F.tmps.size) : (a.put (some d) v).tmps[d]? = F.tmps[d]? := by
  have h1 := congrArg (fun x : Act => x.tmps[d]?) h
  simp only [Act.put] at h1
  rw [← h1]
  simp [Act.put, Array.getElem?_setIfInBounds, hs]
theorem DagAt.next {ops : Array Oper} {a0 F : Act} {listed : Array Bool} {a : Act} {i : Nat} {o : Oper} {v : Value} (h : DagAt ops a0 F listed a) (hi : ops[i]? = some o) (hF : F.tmps.size = a0.tmps.size) (hv : F.put o.dst v = F) : DagAt ops a0 F (listed.setIfInBounds i true) (a.put o.dst v) := by
  have hlt := (Array.getElem?_eq_some_iff.1 hi).1
  have hset : ∀ j, j ≠ i → (listed.setIfInBounds i true).getD j false = listed.getD j false := fun j hj => getD_set_ne false (Ne.symm hj)
  have hseti : (listed.setIfInBounds i true).getD i false = true := by simp [h.size, hlt]
  refine ⟨by simp [h.size], ?_, ?_, fun j oj t hj ht hl => ?_, fun t ht => ?_⟩
  · have := h.defers
    cases hd : o.dst <;> simpa [Act.put, hd] using this
  · have := h.tmps
    cases hd : o.dst <;> simpa [Act.put, hd] using this
  · by_cases hji : j = i
    · subst hji
      cases hi.symm.trans hj
      rw [ht] at hv ⊢
      exact put_same hv a (h.tmps.trans hF.symm)
    · rw [hset j hji] at hl
      have h1 := h.done j oj t hj ht hl
      cases hd : o.dst with
      | none => simpa [Act.put] using h1
      | some d =>
        by_cases e : d = t
        · subst e; rw [hd] at hv; exact put_same hv a (h.tmps.trans hF.symm)
        · simp only [Act.put]
          rw [Array.getElem?_setIfInBounds_ne e]; exact h1
  · have h1 := h.rest t fun j oj hj hjt => by
      by_cases hji : j = i
      · subst hji
        have := ht j oj hj hjt
        rw [hseti] at this; cases this
      · have := ht j oj hj hjt
        rw [hset j hji] at this; exact this
    cases hd : o.dst with
    | none => simpa [Act.put] using h1
    | some d =>
      have e : d ≠ t := fun e => by
        subst e
        have := ht i o hi hd
        rw [hseti] at this; cases this
      simp only [Act.put]
      rw [Array.getElem?_setIfInBounds_ne e]; exact h1
theorem wpAny_dag {P : Program} {md : Region.Mode} {ops : Array Oper} {Q : Exit → Act → World → Prop} {a0 : Act} (vs : List (Tmp × Value)) (J : (Nat → Bool) → World → Prop)
    (hns : Region.noSelect ops = true) (hok : dagOk md ops = true) (hk : vs.map (·.1) = ops.toList.filterMap (·.dst))
    (hstep : DagSteps P md ops (putAll a0 vs) J 0 ops.toList)
    (hend : ∀ w, J (fun k => decide (k < ops.size)) w → Q .normal (putAll a0 vs) w) :
    ∀ (fuel : Nat) (listed : Array Bool) (a : Act) (w : World), listed.toList.count false ≤ fuel → DagAt ops a0 (putAll a0 vs) listed a → J (fun k => listed.getD k false) w → wpAny P md ops Q fuel listed a w := by
  obtain ⟨f1, f2, f3⟩ := putAll_spec vs a0
  generalize putAll a0 vs = F at *
  have key : ∀ t, (∀ (j : Nat) (oj : Oper), ops[j]? = some oj → oj.dst ≠ some t) → F.tmps[t]? = a0.tmps[t]? := fun t ht => f3 t fun hm => by
    rw [hk] at hm
    obtain ⟨o, ho, hd⟩ := List.mem_filterMap.1 hm
    obtain ⟨j, hj⟩ := List.mem_iff_getElem?.1 ho
    exact ht j o (by simpa using hj) hd
  -- all done
  have fin : ∀ (listed : Array Bool) (a : Act) (w : World), DagAt ops a0 F listed a → (∀ j, j < ops.size → listed.getD j false = true) → J (fun k => listed.getD k false) w → Q .normal a w := by
    intro listed a w hd hall hJ
    have e : a = F := by
      have ht : a.tmps = F.tmps := by
        apply Array.ext_getElem?
        intro t
        by_cases h : ∃ (j : Nat) (oj : Oper), ops[j]? = some oj ∧ oj.dst = some t
        · obtain ⟨j, oj, h1, h2⟩ := h
          exact hd.done j oj t h1 h2 (hall j (Array.getElem?_eq_some_iff.1 h1).1)
        · rw [hd.rest t fun j oj h1 h2 => absurd ⟨j, oj, h1, h2⟩ h, key t fun j oj h1 h2 => h ⟨j, oj, h1, h2⟩]
      have hdf := hd.defers.trans f1.symm
      cases a; cases F
      simp only at ht hdf
      subst ht; subst hdf
      rfl
    rw [e]
    refine hend w ?_
    have e2 : (fun k => listed.getD k false) = fun k => decide (k < ops.size) := by
      funext k
      by_cases hk : k < ops.size
      · rw [hall k hk, decide_eq_true hk]
      · rw [decide_eq_false hk]
        have := hd.size
        simp [Array.getD, show ¬ k < listed.size by omega]
    rw [e2] at hJ
    exact hJ
  -- none may come up: all done
  have stuck : ∀ (listed : Array Bool) (a : Act), DagAt ops a0 F listed a → Region.ready md ops listed = [] → ∀ j, j < ops.size → listed.getD j false = true := by
    intro listed a hd hr j
    induction j using Nat.strongRecOn with
    | _ j ih =>
      intro hj
      refine Classical.byContradiction fun hn => ?_
      obtain ⟨o, ho⟩ : ∃ o, ops[j]? = some o := ⟨_, Array.getElem?_eq_getElem hj⟩
      have hmem : j ∈ Region.ready md ops listed := by
        rw [mem_ready]
        refine ⟨?_, o, ho, fun e he hb => ?_⟩
        · have := hd.size
          have h2 : listed.getD j false = false := by simpa using hn
          simp only [Array.getD, show j < listed.size by omega, dif_pos] at h2 ⊢
          exact h2
        · have hlt := (dagOk_spec hok ho).1 e he hb
          exact ih e.on hlt (by omega)
      rw [hr] at hmem
      cases hmem
  intro fuel
  induction fuel with
  | zero =>
    intro listed a w hc hd hJ
    have hall : ∀ j, j < ops.size → listed.getD j false = true := fun j hj => by
      have h1 : List.count false listed.toList = 0 := by omega
      have h2 := List.count_eq_zero.1 h1
      have hjl : j < listed.size := by have := hd.size; omega
      cases hv : listed[j]
      · exact absurd (by rw [← hv]; simp) h2
      · simp [Array.getD, hjl, hv]
    refine ⟨?_, fin listed a w hd hall hJ⟩
    refine List.eq_nil_iff_forall_not_mem.2 fun j hj => ?_
    obtain ⟨h1, o, ho, _⟩ := mem_ready.1 hj
    have hlt := (Array.getElem?_eq_some_iff.1 ho).1
    have h2 := hall j hlt
    have := hd.size
    simp only [Array.getD, show j < listed.size by omega, dif_pos] at h1 h2
    rw [h1] at h2; cases h2
  | succ fuel ih =>
    intro listed a w hc hd hJ
    refine ⟨fun hr => fin listed a w hd (stuck listed a hd hr) hJ, fun i hi => ?_⟩
    obtain ⟨h1, o, ho, hdep⟩ := mem_ready.1 hi
    have hlt := (Array.getElem?_eq_some_iff.1 ho).1
    have hls := hd.size
    have hil : i < listed.size := by omega
    have h1' : listed.getD i false = false := by simp only [Array.getD, hil, dif_pos] at h1 ⊢; exact h1
    have hst : DagStep P md ops F J i o := by have := hstep.at (i := i) (o := o) (by simpa using ho); rw [Nat.zero_add] at this; exact this
    have hcount : (listed.setIfInBounds i true).toList.count false ≤ fuel := by
      rw [Array.toList_setIfInBounds, List.count_set (by simpa using hil)]
      have hli : listed.toList[i]'(by simpa using hil) = false := by
        simp only [Array.getD, hil, dif_pos] at h1
        simpa using h1
      have hpos : 0 < listed.toList.count false := List.count_pos_iff.2 (by rw [← hli]; exact List.getElem_mem _)
      simp only [hli]
      show listed.toList.count false - 1 + 0 ≤ fuel
      omega
    -- the slots that it looks at
    have slot : ∀ t, t ∈ o.looksAt ops → a.tmps[t]? = F.tmps[t]? := fun t ht => by
      by_cases h : ∃ (j : Nat) (oj : Oper), ops[j]? = some oj ∧ oj.dst = some t
      · obtain ⟨j, oj, hj, hjd⟩ := h
        obtain ⟨e, he, hb, rfl⟩ := (dagOk_spec hok ho).2 j oj t hj hjd ht
        exact hd.done _ oj t hj hjd (hdep e he hb)
      · rw [hd.rest t fun j oj h1 h2 => absurd ⟨j, oj, h1, h2⟩ h, key t fun j oj h1 h2 => h ⟨j, oj, h1, h2⟩]
    have hex : execOp a.eval o = execOp F.eval o := execOp_congr o (fun cs b => Region.noSelect_spec hns i o cs b ho) fun x hx => by
      cases x with
      | tmp t =>
        have := slot t (List.mem_append_left _ (List.mem_filterMap.2 ⟨.tmp t, by simpa using hx, rfl⟩))
        simp only [Act.eval, Array.getD_eq_getD_getElem?, this]
      | _ => rfl
    have hwt : Region.wanted o (yielded ops a.tmps) = Region.wanted o (yielded ops F.tmps) := by
      unfold Region.wanted
      cases hg : o.guard with
      | none => rfl
      | some gw =>
        obtain ⟨gi, want⟩ := gw
        have hy : yielded ops a.tmps gi = yielded ops F.tmps gi := by
          unfold yielded
          cases ht : (ops[gi]?).bind (·.dst) with
          | none => rfl
          | some t =>
            have := slot t (List.mem_append_right _ (by simp [hg, ht]))
            simp only [Option.bind_some, this]
        simp only [hy]
    have hupd : upd (fun k => listed.getD k false) i = fun k => (listed.setIfInBounds i true).getD k false := by
      funext k
      unfold upd
      by_cases hki : k = i
      · subst hki; rw [if_pos rfl]; simp [hil]
      · rw [if_neg hki, getD_set_ne false (Ne.symm hki)]
    unfold wpOp
    simp only [ho, hwt]
    rcases hst with ⟨hw, hs⟩ | ⟨hw, hp, hs⟩
    · rw [if_pos hw]
      refine .inl ?_
      have := hs (fun k => listed.getD k false) w h1' hdep hJ
      unfold Oper.wp at this ⊢
      rw [hex]
      refine upon_from this fun v w' hv hJ' => ih _ _ _ hcount (hd.next ho f2 hv) ?_
      rw [← hupd]; exact hJ'
    · rw [if_neg (by rw [hw]; exact Bool.false_ne_true)]
      refine ih _ _ _ hcount (hd.next ho f2 hp) ?_
      rw [← hupd]; exact hs _ w h1' hJ
/-- The whole region. -/
theorem wp_dag {P : Program} {ops : Array Oper} {Q : Exit → Act → World → Prop} {id : Nat} {a0 : Act} {w : World} (vs : List (Tmp × Value)) (J : (Nat → Bool) → World → Prop) (hm : P.follows .mixedOrders = true)
    (hns : Region.noSelect ops = true) (hok : dagOk .any ops = true) (hk : vs.map (·.1) = ops.toList.filterMap (·.dst))
    (h0 : J (fun _ => false) w.drew)
    (hstep : DagSteps P .any ops (putAll a0 vs) J 0 ops.toList)
    (hend : ∀ w, J (fun k => decide (k < ops.size)) w → Q .normal (putAll a0 vs) w) : (Code.region id ops true).wp P Q a0 w := by
  refine wp_region_any hm ?_
  refine wpAny_dag vs J hns hok hk hstep hend _ _ _ _ (by simp [Array.toList_replicate]) ⟨by simp, rfl, rfl, fun j oj t h1 h2 h3 => ?_, fun t _ => rfl⟩ ?_
  · by_cases hj : j < ops.size <;> simp [Array.getD, hj] at h3
  · have e : (fun k => (Array.replicate ops.size false).getD k false) = fun _ => false := by
      funext k
      by_cases hj : k < ops.size <;> simp [Array.getD, hj]
    rw [e]; exact h0
end Go.Proofs.Ytanfjiccilibcaa
