/- The document's land (mothballref16): New, Turn, Runs. -/
import Derived.Test.YtadbbknllakpcaaGreatRnH
import Derived.Test.YtadbbknllakpcaaGreatMk
import Derived.Test.YtadbbknllakpcaaGreatBitA
import Derived.Laws.OwnMore
import Derived.BigQuiet
import Derived.BigRegion
namespace Go.Proofs.YtadbbknllakpcaaGreat.rn
open Go.RowKit
set_option linter.unusedVariables false

/-- The document's land: which pages are taken. -/
def RefAt (w : World) (R T : Nat) (f : Nat → Bool) : Prop :=
  R ≠ T ∧ Blk w R [.slice (some ⟨T, 0, none⟩) 4096 4096] 123 ∧ Blk w T (fnV 4096 fun i => .bool (f i)) 4
theorem RefAt.only {w w' : World} {R T : Nat} {f : Nat → Bool} {S : Nat → Prop} (h : RefAt w R T f) (o : Only S w w') (h1 : ¬ S R) (h2 : ¬ S T) : RefAt w' R T f := ⟨h.1, h.2.1.only o h1, h.2.2.only o h2⟩
theorem RefAt.below {w w' : World} {R T : Nat} {f : Nat → Bool} (h : RefAt w R T f) (o : Below w.heap.size w w') : RefAt w' R T f := ⟨h.1, h.2.1.below o, h.2.2.below o⟩
theorem RefAt.head {w : World} {R T : Nat} {f : Nat → Bool} (h : RefAt w R T f) : w.cell? ⟨R, 0, none⟩ = some (.slice (some ⟨T, 0, none⟩) 4096 4096) := h.2.1.cell 0
theorem RefAt.bit {w : World} {R T : Nat} {f : Nat → Bool} (h : RefAt w R T f) {i : Nat} (hi : i < 4096) : w.cell? ⟨T, i, none⟩ = some (.bool (f i)) := (h.2.2.cell i).trans (fnV_at _ _ _ hi)
theorem RefAt.lt {w : World} {R T : Nat} {f : Nat → Bool} (h : RefAt w R T f) : R < w.heap.size ∧ T < w.heap.size := ⟨h.2.1.lt, h.2.2.lt⟩
def bit0 (i : Nat) : Bool := decide (i = 0)
theorem fn_first (n : Nat) : (fnV n fun _ => Value.bool false).set 0 (.bool true) = fnV n fun i => .bool (bit0 i) := by
  rw [fnV_set]
  exact fnV_congr fun i _ => by
    unfold bit0
    by_cases h : i = 0
    · rw [if_pos h, decide_eq_true h]
    · rw [if_neg h, decide_eq_false h]
theorem rnew_calls (w : World) : Calls Tryz.prog 67 #[] w fun e w' => ∃ R T, e = .returned (.pointer (some ⟨R, 0, none⟩)) ∧ RefAt w' R T bit0 ∧ w.heap.size ≤ R ∧ w.heap.size ≤ T ∧ Below w.heap.size w w' := by
  obtain ⟨i0, hi, hz0, hz1, hz2⟩ := info_parts Tryz.info_bool
  have hm : (Instr.makeSlice 84 (.int .i64 4096) (.int .i64 4096)).run Tryz.prog w = .ok (.slice (some ⟨w.heap.size, 0, none⟩) 4096 4096) (w.alloc (.cells (zrow 4096 (.bool false)) 4)) :=
    run_make1 (P := Tryz.prog) w 84 4 i0 _ (.bool false) Tryz.underlying84 hi hz0 rfl hz1 4096 (by rw [hz2]; omega) (by omega)
  obtain ⟨w3, hw3⟩ : ∃ w3, w.alloc (.cells (zrow 4096 (.bool false)) 4) = w3 := ⟨_, rfl⟩
  have hB3 : Below w.heap.size w w3 := by rw [← hw3]; exact (Below.refl _ _).alloc (Nat.le_refl _) _
  have hT3 : Blk w3 w.heap.size (fnV 4096 fun _ => .bool false) 4 := by
    rw [← hw3, ← fnV_rep]; exact Blk.new w (zrow 4096 (.bool false)) 4
  have hs3 : w3.heap.size = w.heap.size + 1 := by rw [← hw3]; simp
  rw [hw3] at hm
  obtain ⟨w4, hw4⟩ : ∃ w4, w3.alloc (.cells #[.slice (some ⟨w.heap.size, 0, none⟩) 4096 4096] 123) = w4 := ⟨_, rfl⟩
  have hB4 : Below w.heap.size w w4 := by rw [← hw4]; exact hB3.alloc (by omega) _
  have hR4 : Blk w4 w3.heap.size [.slice (some ⟨w.heap.size, 0, none⟩) 4096 4096] 123 := by rw [← hw4]; exact Blk.new w3 #[.slice (some ⟨w.heap.size, 0, none⟩) 4096 4096] 123
  have hT4 : Blk w4 w.heap.size (fnV 4096 fun _ => .bool false) 4 := by rw [← hw4]; exact hT3.alloc _
  have c0 := hR4.cell 0
  have t0 := (hT4.cell 0).trans (fnV_at 4096 _ 0 (by omega))
  have f0 := hT4.free 0
  simp only [List.getElem?_cons_zero] at c0
  have HB4 := Lib.hid hB4
  have HR4 := Lib.hid hR4
  have HT4 := Lib.hid hT4
  rw [hs3] at c0 HR4
  clear hw3 hB3 hT3 hB4 hR4 hT4
  go_enter Tryz.func67, Tryz.ntmps67
  go_wp2_with (first | (simp only [hm]) | (simp only [hw4, hs3]))
  all_goals
    go_ret
    refine ⟨w.heap.size + 1, w.heap.size, rfl, ⟨by omega, ?_, ?_⟩, by omega, Nat.le_refl _, ?_⟩
    · exact HR4.out.set_other (by omega) _ _
    · have := HT4.out.set 0 (.bool true)
      rw [fn_first] at this
      exact this
    · exact HB4.out.setCell (p := ⟨w.heap.size, 0, none⟩) (Nat.le_refl _) _
/-- These pages are taken, or given. -/
def setF (f : Nat → Bool) (x j : Nat) (b : Bool) : Nat → Bool := fun i => if x ≤ i ∧ i < j then b else f i
/-- What the document's Turn answers. -/
def TurnR (w : World) (T : Nat) (f : Nat → Bool) (x n : Int) (b : Bool) (e : Ending) (w' : World) : Prop :=
  (thereB x n = false ∧ e = .returned (.int .i64 2) ∧ w = w') ∨
  ∃ x' n' : Nat, x = x' ∧ n = n' ∧ thereB x n = true ∧
    ((∃ i, x' ≤ i ∧ i < x' + n' ∧ f i = b) ∧ e = .returned (.int .i64 2) ∧ w = w' ∨
     (∀ i, x' ≤ i → i < x' + n' → f i ≠ b) ∧ e = .returned (.int .i64 0) ∧ Blk w' T (fnV 4096 fun i => .bool (setF f x' (x' + n') b i)) 4 ∧ Only (· = T) w w')
theorem setF_next (f : Nat → Bool) (x j : Nat) (b : Bool) (h : x ≤ j) : ((fnV 4096 fun i => Value.bool (setF f x j b i)).set j (.bool b)) = fnV 4096 fun i => .bool (setF f x (j + 1) b i) := by
  rw [fnV_set]
  refine fnV_congr fun i _ => ?_
  unfold setF
  by_cases h1 : i = j
  · rw [if_pos h1, if_pos (by omega)]
  · rw [if_neg h1]
    by_cases h2 : x ≤ i ∧ i < j
    · rw [if_pos h2, if_pos (by omega)]
    · rw [if_neg h2, if_neg (by omega)]
set_option maxRecDepth 20000 in
set_option maxHeartbeats 4000000 in
theorem turn16_calls (w : World) (R T : Nat) (f : Nat → Bool) (x n : Int) (b : Bool) (hR : RefAt w R T f) (hx : -9223372036854775808 ≤ x ∧ x ≤ 9223372036854775807) (hn : -9223372036854775808 ≤ n ∧ n ≤ 9223372036854775807) :
    Calls Tryz.prog 68 #[.pointer (some ⟨R, 0, none⟩), .int .i64 x, .int .i64 n, .bool b] w (TurnR w T f x n b) := by
  have HR := Lib.hid hR
  have hll := hR.lt
  have c0 := hR.head
  have hne := hR.1
  clear hR
  have hcase : (1 ≤ n ∧ 1 ≤ x ∧ n < 4096 ∧ x ≤ 4096 - n) ∨ n < 1 ∨ (1 ≤ n ∧ 4096 < n) ∨ (1 ≤ n ∧ n ≤ 4096 ∧ x < 1) ∨ (1 ≤ n ∧ n ≤ 4096 ∧ 1 ≤ x ∧ 4096 - n < x) := by omega
  rcases hcase with h | h | h | h | h
  · have HTh := Lib.hid (show thereB x n = true from decide_eq_true h)
    obtain ⟨x', rfl⟩ : ∃ x' : Nat, x = x' := ⟨x.toNat, by omega⟩
    obtain ⟨n', rfl⟩ : ∃ n' : Nat, n = n' := ⟨n.toNat, by omega⟩
    obtain ⟨h1, h2, h3, h4⟩ := h
    clear hx hn
    go_enter Tryz.func68, Tryz.ntmps68
    go_wp2_with fail
    go_loopg [9] n' (fun q i wr => ∃ j : Nat, q + j = x' + n' ∧ x' ≤ j ∧ i = .int .i64 j ∧ w = wr ∧ Hid (∀ k, x' ≤ k → k < j → f k ≠ b))
    case atStart => exact ⟨x', by omega, Nat.le_refl _, rfl, rfl, Lib.hid (fun k h1 h2 => by omega)⟩
    case round =>
      obtain ⟨j, hq, hxj, rfl, rfl, hall⟩ := hrel
      by_cases hlt : j < x' + n'
      · have hbit := HR.out.bit (i := j) (by omega)
        by_cases hf : f j = b
        · have hfb : (f j == b) = true := by rw [hf]; exact beq_self_eq_true b
          obtain ⟨v, hv⟩ : ∃ v, f j = v := ⟨_, rfl⟩
          have HV := Lib.hid hv
          rw [hv] at hbit hfb
          clear hf hv
          go_wp2
          go_ret
          exact .inr ⟨x', n', rfl, rfl, HTh.out, .inl ⟨⟨j, hxj, hlt, by rw [HV.out]; exact beq_iff_eq.1 hfb⟩, rfl, rfl⟩⟩
        · have hfb : (f j == b) = false := beq_eq_false_iff_ne.2 hf
          obtain ⟨v, hv⟩ : ∃ v, f j = v := ⟨_, rfl⟩
          have HV := Lib.hid hv
          have HF := Lib.hid hf
          rw [hv] at hbit hfb
          clear hf hv
          go_wp2
          go_roundg (x' + n' - (j + 1))
          case measure => omega
          case rel => exact ⟨j + 1, by omega, by omega, by go_num, rfl, Lib.hid (fun k h1 h2 => by
            by_cases e : k = j
            · subst e; exact HF.out
            · exact hall.out k h1 (by omega))⟩
      · obtain rfl : j = x' + n' := by omega
        have HAll := Lib.hid hall.out
        clear hall
        go_wp2_with fail
        go_loopg [10] n' (fun q i wr => ∃ j : Nat, q + j = x' + n' ∧ x' ≤ j ∧ i = .int .i64 j ∧ Hid (Blk wr T (fnV 4096 fun i => .bool (setF f x' j b i)) 4) ∧ Hid (Only (· = T) w wr))
        case atStart => exact ⟨x', by omega, Nat.le_refl _, rfl, Lib.hid (by
          have : (fnV 4096 fun i => Value.bool (setF f x' x' b i)) = fnV 4096 fun i => Value.bool (f i) := fnV_congr fun i _ => by unfold setF; rw [if_neg (by omega)]
          rw [this]; exact HR.out.2.2), Lib.hid (Only.refl _ _)⟩
        case round =>
          obtain ⟨j, hq, hxj, rfl, hT, hon⟩ := hrel
          have c1 := (HR.out.2.1.only hon.out hne).cell 0
          simp only [List.getElem?_cons_zero] at c1
          by_cases hlt : j < x' + n'
          · have hbit := (hT.out.cell j).trans (fnV_at _ _ j (by omega))
            have hfz := hT.out.free j
            obtain ⟨v, hv⟩ : ∃ v, Value.bool (setF f x' j b j) = v := ⟨_, rfl⟩
            rw [hv] at hbit
            clear hv
            go_wp2
            go_roundg (x' + n' - (j + 1))
            case measure => omega
            case rel => exact ⟨j + 1, by omega, by omega, by go_num, Lib.hid (by have := hT.out.set j (.bool b); rw [setF_next _ _ _ _ hxj] at this; exact this), Lib.hid (hon.out.set (p := ⟨T, j, none⟩) (fun _ => rfl) _)⟩
          · obtain rfl : j = x' + n' := by omega
            go_wp2
            go_ret
            exact .inr ⟨x', n', rfl, rfl, HTh.out, .inr ⟨HAll.out, rfl, hT.out, hon.out⟩⟩
  all_goals
    have HF := Lib.hid (show thereB x n = false from decide_eq_false (by omega))
    first | (obtain ⟨h1, h2, h3, h4⟩ := h) | (obtain ⟨h1, h2, h3⟩ := h) | (obtain ⟨h1, h2⟩ := h) | skip
    go_enter Tryz.func68, Tryz.ntmps68
    go_wp2
    go_ret
    exact .inl ⟨HF.out, rfl, rfl⟩
end Go.Proofs.YtadbbknllakpcaaGreat.rn

/- The document's Runs: the rows of free pages, page by page. -/
namespace Go.Proofs.YtadbbknllakpcaaGreat.rn
open Go.RowKit
set_option linter.unusedVariables false

/-- The rows of the free pages below i. -/
def StepInv (f : Nat → Bool) (i : Nat) (l : List (Nat × Nat)) : Prop := Canon l ∧ (∀ j, Fr l j ↔ 1 ≤ j ∧ j < i ∧ f j = false) ∧ ∀ a ∈ l, a.1 + a.2 ≤ i
theorem step_start (f : Nat → Bool) : StepInv f 1 [] := ⟨⟨fun a h => (by cases h), List.Pairwise.nil⟩, fun j => ⟨fun ⟨q, hq, _⟩ => (by cases hq), fun h => by omega⟩, fun a h => by cases h⟩
theorem step_taken {f : Nat → Bool} {i : Nat} {l : List (Nat × Nat)} (h : StepInv f i l) (hf : f i = true) : StepInv f (i + 1) l := by
  obtain ⟨h1, h2, h3⟩ := h
  refine ⟨h1, fun j => ?_, fun a ha => by have := h3 a ha; omega⟩
  rw [h2 j]
  constructor
  · rintro ⟨g1, g2, g3⟩; exact ⟨g1, by omega, g3⟩
  · rintro ⟨g1, g2, g3⟩
    refine ⟨g1, ?_, g3⟩
    by_cases e : j = i
    · subst e; rw [hf] at g3; cases g3
    · omega
theorem step_new {f : Nat → Bool} {i : Nat} {l : List (Nat × Nat)} (h : StepInv f i l) (hf : f i = false) (hp : f (i - 1) = true) (h1 : 1 ≤ i) (h4 : i < 4096) : StepInv f (i + 1) (l ++ [(i, 1)]) := by
  obtain ⟨hc, h2, h3⟩ := h
  have hlt : ∀ a ∈ l, a.1 + a.2 < i := fun a ha => by
    have g1 := h3 a ha
    have g2 := hc.1 a ha
    refine Classical.byContradiction fun hn => ?_
    have := (h2 (i - 1)).1 ⟨a, ha, by omega, by omega⟩
    rw [hp] at this
    cases this.2.2
  refine ⟨⟨fun a ha => ?_, ?_⟩, fun j => ?_, fun a ha => ?_⟩
  · rcases List.mem_append.1 ha with h | h
    · exact hc.1 a h
    · obtain rfl := List.mem_singleton.1 h; simp only; omega
  · rw [List.pairwise_append]
    refine ⟨hc.2, List.pairwise_singleton _ _, fun a ha b hb => ?_⟩
    obtain rfl := List.mem_singleton.1 hb
    exact hlt a ha
  · rw [Fr_append, h2 j, Fr_cons]
    constructor
    · rintro (⟨g1, g2, g3⟩ | g | ⟨q, hq, _⟩)
      · exact ⟨g1, by omega, g3⟩
      · simp only at g
        obtain rfl : j = i := by omega
        exact ⟨h1, by omega, hf⟩
      · cases hq
    · rintro ⟨g1, g2, g3⟩
      by_cases e : j = i
      · exact .inr (.inl (by simp only; omega))
      · exact .inl ⟨g1, by omega, g3⟩
  · rcases List.mem_append.1 ha with h | h
    · have := h3 a h; omega
    · obtain rfl := List.mem_singleton.1 h; simp only; omega
theorem step_more {f : Nat → Bool} {i : Nat} {l : List (Nat × Nat)} (h : StepInv f i l) (hf : f i = false) (hp : f (i - 1) = false) (h0 : f 0 = true) (h1 : 1 ≤ i) (h4 : i < 4096) :
    ∃ l0 p, l = l0 ++ [p] ∧ p.2 ≤ 4096 ∧ StepInv f (i + 1) (l0 ++ [(p.1, p.2 + 1)]) := by
  obtain ⟨hc, h2, h3⟩ := h
  have hi1 : i ≠ 1 := fun e => by subst e; simp at hp; rw [h0] at hp; cases hp
  obtain ⟨q, hq, hq1, hq2⟩ := (h2 (i - 1)).2 ⟨by omega, by omega, hp⟩
  have hne : l ≠ [] := fun e => by subst e; cases hq
  obtain ⟨l0, p, rfl⟩ : ∃ l0 p, l = l0 ++ [p] := ⟨l.dropLast, l.getLast hne, (List.dropLast_concat_getLast hne).symm⟩
  have hpq : q = p := by
    rcases List.mem_append.1 hq with h | h
    · have := (List.pairwise_append.1 hc.2).2.2 q h p (List.mem_singleton_self _)
      have h5 := h3 p (List.mem_append_right _ (List.mem_singleton_self _))
      have h6 := hc.1 p (List.mem_append_right _ (List.mem_singleton_self _))
      omega
    · exact List.mem_singleton.1 h
  subst hpq
  have he := h3 q hq
  have hqb := hc.1 q hq
  have hlow : ∀ a ∈ l0, a.1 + a.2 < q.1 := fun a ha => (List.pairwise_append.1 hc.2).2.2 a ha q (List.mem_singleton_self _)
  refine ⟨l0, q, rfl, by omega, ⟨fun a ha => ?_, ?_⟩, fun j => ?_, fun a ha => ?_⟩
  · rcases List.mem_append.1 ha with h | h
    · exact hc.1 a (List.mem_append_left _ h)
    · obtain rfl := List.mem_singleton.1 h; simp only; omega
  · rw [List.pairwise_append]
    refine ⟨(List.pairwise_append.1 hc.2).1, List.pairwise_singleton _ _, fun a ha b hb => ?_⟩
    obtain rfl := List.mem_singleton.1 hb
    exact hlow a ha
  · have hj := h2 j
    rw [Fr_append, Fr_cons] at hj ⊢
    constructor
    · rintro (g | g | ⟨r, hr, _⟩)
      · have := hj.1 (.inl g); exact ⟨this.1, by omega, this.2.2⟩
      · simp only at g
        by_cases e : j = i
        · subst e; exact ⟨h1, by omega, hf⟩
        · have := hj.1 (.inr (.inl (by omega))); exact ⟨this.1, by omega, this.2.2⟩
      · cases hr
    · rintro ⟨g1, g2, g3⟩
      by_cases e : j = i
      · exact .inr (.inl (by simp only; omega))
      · rcases hj.2 ⟨g1, by omega, g3⟩ with g | g | ⟨r, hr, _⟩
        · exact .inl g
        · exact .inr (.inl (by simp only; omega))
        · cases hr
  · rcases List.mem_append.1 ha with h | h
    · have := h3 a (List.mem_append_left _ h); omega
    · obtain rfl := List.mem_singleton.1 h; simp only; omega
/-- The rows of what is free. -/
def RelF (l : List (Nat × Nat)) (f : Nat → Bool) : Prop := Canon l ∧ f 0 = true ∧ ∀ j, Fr l j ↔ 1 ≤ j ∧ j < 4096 ∧ f j = false
theorem StepInv.rel {f : Nat → Bool} {l : List (Nat × Nat)} (h : StepInv f 4096 l) (h0 : f 0 = true) : RelF l f := ⟨h.1, h0, h.2.1⟩
theorem RelF.eq {l m : List (Nat × Nat)} {f : Nat → Bool} (h : RelF l f) (h' : RelF m f) : l = m := h.1.ext h'.1 fun j => by rw [h.2.2, h'.2.2]
theorem step_len {f : Nat → Bool} {i : Nat} {l : List (Nat × Nat)} (h : StepInv f i l) : l.length ≤ 2048 := h.1.len
theorem rowsV_bump (l : List (Nat × Nat)) (p : Nat × Nat) (v : Int) : (rowsV (l ++ [p])).set (l.length * 2 + 1) (.int .i64 v) = rowsV l ++ [.int .i64 (p.1 : Nat), .int .i64 v] := by
  rw [rowsV_append, List.set_append_right _ _ (by rw [rowsV_length]; omega), rowsV_length, show l.length * 2 + 1 - l.length * 2 = 1 by omega]
  rfl
theorem rowsV_new (l : List (Nat × Nat)) (a b v : Int) : (rowsV l ++ [Value.int .i64 a, Value.int .i64 b]).set (l.length * 2 + 1) (Value.int .i64 v) = rowsV l ++ [Value.int .i64 a, Value.int .i64 v] := by
  rw [List.set_append_right _ _ (by rw [rowsV_length]; omega), rowsV_length, show l.length * 2 + 1 - l.length * 2 = 1 by omega]
  rfl
set_option maxRecDepth 20000 in
set_option maxHeartbeats 8000000 in
theorem rruns_calls (w : World) (R T : Nat) (f : Nat → Bool) (l : List (Nat × Nat)) (hR : RefAt w R T f) (hl : RelF l f) :
    Calls Tryz.prog 69 #[.pointer (some ⟨R, 0, none⟩)] w fun e w' => ∃ v, e = .returned v ∧ w'.ownsRow w.heap.size 45 2 v l.length (rowsV l) ∧ Below w.heap.size w w' := by
  obtain ⟨i0, hi, hz0, hz1, hz2⟩ := info_parts Tryz.info_Row
  have HR := Lib.hid hR
  have HRl := Lib.hid hl
  have hll := hR.lt
  clear hR hl
  go_enter Tryz.func69, Tryz.ntmps69
  go_wp2_with fail
  go_loopg [3, 4] 4095 (fun q v i wr => ∃ (j : Nat) (m : List (Nat × Nat)), q + j = 4096 ∧ 1 ≤ j ∧ i = .int .i64 j ∧ Hid (StepInv f j m) ∧ Hid (wr.ownsRow w.heap.size 45 2 v m.length (rowsV m)) ∧ Hid (Below w.heap.size w wr))
  case atStart => exact ⟨1, [], by omega, by omega, rfl, Lib.hid (step_start f), Lib.hid (World.ownsRow_nil _ _ _ _), Lib.hid (Below.refl _ _)⟩
  case round =>
    obtain ⟨j, m, hq, hj1, rfl, hinv, hown, hb⟩ := hrel
    have HRr := Lib.hid (HR.out.below hb.out)
    have hbs := hb.out.size
    have c0 := HRr.out.head
    have hml := step_len hinv.out
    by_cases hlt : j < 4096
    · have hbit := HRr.out.bit hlt
      have hbit2 := HRr.out.bit (i := j - 1) (by omega)
      have hj2 : (j : Int) - 1 = ((j - 1 : Nat) : Int) := by omega
      have hj3 : j - 1 < 4096 := by omega
      cases hf : f j
      · rw [hf] at hbit
        cases hp : f (j - 1)
        · obtain ⟨l0, p, rfl, hp2, hnext⟩ := step_more hinv.out hf hp HRl.out.2.1 hj1 hlt
          rw [hp] at hbit2
          have HN := Lib.hid hnext
          have hlen : (l0 ++ [p]).length = l0.length + 1 := by simp
          obtain ⟨k, hk⟩ : ∃ k, l0.length = k := ⟨_, rfl⟩
          have HK := Lib.hid hk
          rw [hk] at hlen
          rw [hlen] at hown hml
          obtain ⟨B, cc, rfl⟩ := ownsRow_slice hown.out
          obtain ⟨b, rfl, hbh, hblt, hcell⟩ := (ownsRow_rd hown.out).resolve_left (by omega)
          have k1 := hcell (k * 2 + 1) (.int .i64 (p.2 : Nat)) (by rw [rowsV_append, ← hk, List.getElem?_append_right (by rw [rowsV_length]; omega), rowsV_length]; simp [rowsV])
          have kz := hown.out.frozenAt (k * 2 + 1)
          have hk2 : (k : Int) + 1 - 1 = ((k : Nat) : Int) := by omega
          clear hf hp hinv hcell hnext hk
          go_wp2
          go_roundg (4096 - (j + 1))
          case measure => omega
          case rel =>
            have h1 := (hown.out.stored (k * 2 + 1) (.int .i64 ((p.2 : Int) + 1))).1
            rw [← HK.out, rowsV_bump] at h1
            refine ⟨j + 1, l0 ++ [(p.1, p.2 + 1)], by omega, by omega, by go_num, HN, Lib.hid ?_, Lib.hid (hb.out.setCell (p := ⟨b, k * 2 + 1, none⟩) hbh _)⟩
            rw [rowsV_append, List.length_append, ← HK.out]
            exact h1
        · rw [hp] at hbit2
          have HN := Lib.hid (step_new hinv.out hf hp hj1 hlt)
          obtain ⟨k, hk⟩ : ∃ k, m.length = k := ⟨_, rfl⟩
          have HK := Lib.hid hk
          rw [hk] at hown hml
          have hk2 : (k : Int) + 1 - 1 = ((k : Nat) : Int) := by omega
          clear hf hp hinv hk
          go_wp2_with (at_builtin; refine wpList_append_new rfl (.tmp 24) (.tmp 27) 89 rfl w.heap.size 45 i0 _ 2 16 Tryz.underlying89 hi hz0 hz1 hz2 rfl (by decide) u3 _ 1 _ rfl hown.out rfl rfl (two_one _ _) (by omega) (by unfold maxLen; omega) (by omega) ?_; intro v2 w3 hown2 hgr2 hnew2; obtain ⟨B2, c2, rfl⟩ := ownsRow_slice hown2; obtain ⟨b2, rfl, hb2, hblt2, hcell2⟩ := (ownsRow_rd hown2).resolve_left (by omega); have k1 := hcell2 (k * 2 + 1) (.int .i64 0) (by rw [← HK.out, List.getElem?_append_right (by rw [rowsV_length]; omega), rowsV_length]; simp); have kz := hown2.frozenAt (k * 2 + 1); have HO2 := Lib.hid hown2; have HB3 := Lib.hid (app_next hb.out hown.out hgr2); clear hown2 hgr2 hnew2 hcell2)
          go_roundg (4096 - (j + 1))
          case measure => omega
          case rel =>
            have h1 := (HO2.out.stored (k * 2 + 1) (.int .i64 1)).1
            rw [← HK.out] at h1
            have h2 := rowsV_new m (j : Int) 0 1
            refine ⟨j + 1, m ++ [(j, 1)], by omega, by omega, by go_num, HN, Lib.hid ?_, Lib.hid (HB3.out.setCell (p := ⟨b2, k * 2 + 1, none⟩) hb2 _)⟩
            rw [rowsV_append, List.length_append, ← HK.out]
            rw [h2] at h1
            exact h1
      · rw [hf] at hbit
        have HN := Lib.hid (step_taken hinv.out hf)
        clear hf hinv hbit2
        go_wp2
        go_roundg (4096 - (j + 1))
        case measure => omega
        case rel => exact ⟨j + 1, m, by omega, by omega, by go_num, HN, hown, hb⟩
    · obtain rfl : j = 4096 := by omega
      obtain rfl := (hinv.out.rel HRl.out.2.1).eq HRl.out
      go_wp2
      go_ret
      exact ⟨_, rfl, hown.out, hb.out⟩
end Go.Proofs.YtadbbknllakpcaaGreat.rn

/- The document's Take, and Same. -/
namespace Go.Proofs.YtadbbknllakpcaaGreat.rn
open Go.RowKit
set_option linter.unusedVariables false

/-- What the document's Take answers. -/
def RTakeR (w : World) (T : Nat) (f : Nat → Bool) (l : List (Nat × Nat)) (n : Int) (e : Ending) (w' : World) : Prop :=
  (n < 1 ∧ e = .returned (.tuple #[.int .i64 0, .int .i64 2]) ∧ w = w') ∨
  (1 ≤ n ∧ NoneTo l n l.length ∧ e = .returned (.tuple #[.int .i64 0, .int .i64 16]) ∧ Below w.heap.size w w') ∨
  ∃ (b : Nat) (p : Nat × Nat), 1 ≤ n ∧ BestTo l n l.length b p ∧ e = .returned (.tuple #[.int .i64 p.1, .int .i64 0]) ∧ Blk w' T (fnV 4096 fun i => .bool (setF f p.1 (p.1 + n.toNat) true i)) 4 ∧ Only (· = T) w w'
theorem best_new {l : List (Nat × Nat)} {n : Int} {j : Nat} {a : Nat × Nat} (h : NoneTo l n j) (ha : l[j]? = some a) (hge : n ≤ (a.2 : Int)) : BestTo l n (j + 1) j a :=
  ⟨by omega, ha, hge, fun k a' hk hk2 hk3 => by
    by_cases e : k = j
    · subst e
      have := ha.symm.trans hk2
      cases this
      exact ⟨Nat.le_refl _, fun h => by omega⟩
    · have := h k a' (by omega) hk2
      omega⟩
theorem best_less {l : List (Nat × Nat)} {n : Int} {j b : Nat} {a p : Nat × Nat} (h : BestTo l n j b p) (ha : l[j]? = some a) (hge : n ≤ (a.2 : Int)) (hsm : a.2 < p.2) : BestTo l n (j + 1) j a :=
  ⟨by omega, ha, hge, fun k a' hk hk2 hk3 => by
    by_cases e : k = j
    · subst e
      have := ha.symm.trans hk2
      cases this
      exact ⟨Nat.le_refl _, fun h => by omega⟩
    · have := h.2.2.2 k a' (by omega) hk2 hk3
      omega⟩
theorem best_keep {l : List (Nat × Nat)} {n : Int} {j b : Nat} {a p : Nat × Nat} (h : BestTo l n j b p) (ha : l[j]? = some a) (hsm : n ≤ (a.2 : Int) → ¬ a.2 < p.2) : BestTo l n (j + 1) b p :=
  ⟨by have := h.1; omega, h.2.1, h.2.2.1, fun k a' hk hk2 hk3 => by
    by_cases e : k = j
    · subst e
      have := ha.symm.trans hk2
      cases this
      have := hsm hk3
      exact ⟨by omega, fun h' => by have := h.1; omega⟩
    · exact h.2.2.2 k a' (by omega) hk2 hk3⟩
theorem none_keep {l : List (Nat × Nat)} {n : Int} {j : Nat} {a : Nat × Nat} (h : NoneTo l n j) (ha : l[j]? = some a) (hge : ¬ n ≤ (a.2 : Int)) : NoneTo l n (j + 1) := fun k a' hk hk2 => by
  by_cases e : k = j
  · subst e
    have := ha.symm.trans hk2
    cases this
    omega
  · exact h k a' (by omega) hk2
theorem own_rows {w : World} {base n cc : Nat} {B : Option Addr} {l : List (Nat × Nat)} (h : w.ownsRow base 45 2 (.slice B n cc) l.length (rowsV l)) {j : Nat} {a : Nat × Nat} (ha : l[j]? = some a) :
    ∃ b, B = some ⟨b, 0, none⟩ ∧ w.cell? ⟨b, j * 2, none⟩ = some (.int .i64 a.1) ∧ w.cell? ⟨b, j * 2 + 1, none⟩ = some (.int .i64 a.2) := by
  have hjl := (List.getElem?_eq_some_iff.1 ha).1
  obtain ⟨b, hb, _, _, hcell⟩ := (ownsRow_rd h).resolve_left (by omega)
  obtain ⟨h1, h2⟩ := rowsV_at ha
  exact ⟨b, hb, hcell _ _ h1, hcell _ _ h2⟩
theorem RowB.set2 {w : World} {rb : Nat} {ro : Nat × Nat} (h : RowB w rb ro) (a : Nat × Nat) : RowB ((w.setCell ⟨rb, 0, none⟩ (.int .i64 a.1)).setCell ⟨rb, 1, none⟩ (.int .i64 a.2)) rb a :=
  Blk.set (Blk.set (w := w) h 0 (.int .i64 (a.1 : Nat))) 1 (.int .i64 (a.2 : Nat))
set_option maxRecDepth 20000 in
set_option maxHeartbeats 8000000 in
theorem rtake_calls (w : World) (R T : Nat) (f : Nat → Bool) (l : List (Nat × Nat)) (n : Int) (hR : RefAt w R T f) (hl : RelF l f) (hn : -9223372036854775808 ≤ n ∧ n ≤ 9223372036854775807) :
    Calls Tryz.prog 32 #[.pointer (some ⟨R, 0, none⟩), .int .i64 n] w (RTakeR w T f l n) := by
  by_cases h0 : n < 1
  · go_enter Tryz.func32, Tryz.ntmps32
    go_wp2
    go_ret2
    exact .inl ⟨h0, rfl, rfl⟩
  have h1 : 1 ≤ n := by omega
  obtain ⟨m, rfl⟩ : ∃ m : Nat, n = m := ⟨n.toNat, by omega⟩
  have HR := Lib.hid hR
  have HRl := Lib.hid hl
  have hll := hR.lt
  have hlen := hl.1.len
  have hne := hR.1
  clear hR hl h0
  go_enter Tryz.func32, Tryz.ntmps32
  go_wp2_with fail
  refine (rruns_calls w R T f l HR.out HRl.out).mono ?_
  rintro e w1 ⟨v, rfl, hown, hb⟩
  obtain ⟨B, cc, rfl⟩ := ownsRow_slice hown
  obtain ⟨bb, hbb⟩ : ∃ bb, w1.heap.size = bb := ⟨_, rfl⟩
  have hbs := hb.size
  obtain ⟨w2, hw2⟩ : ∃ w2, w1.alloc (.cells #[.int .i64 0, .int .i64 0] 45) = w2 := ⟨_, rfl⟩
  have hb12 : Below w1.heap.size w1 w2 := by rw [← hw2]; exact (Below.refl _ _).alloc (Nat.le_refl _) _
  have HB2 := Lib.hid (bel_next hb hb12 (Nat.le_refl _))
  have HBr2 : RowB w2 bb (0, 0) := by rw [← hw2, ← hbb]; exact Blk.new w1 #[.int .i64 0, .int .i64 0] 45
  have HO2 := Lib.hid (ownsRow_below hown hb12)
  have hob : ∀ k, (Value.slice B l.length cc).ownBlock = some k → k < bb := fun k hk => by have := (hown.lt k hk).2; omega
  have HOb := Lib.hid hob
  have hoff2 : (Value.slice B l.length cc).ownBlock ≠ some bb := fun h => by have := hob _ h; omega
  have HOff2 := Lib.hid hoff2
  rw [hbb] at hbs
  obtain ⟨⟨k0, k1⟩, f0, f1⟩ := HBr2.cells
  clear hb hb12 hown hob hoff2
  go_wp2_with fail
  go_loopg [8] l.length (fun q i wr => ∃ (j : Nat) (ro : Nat × Nat), q + j = l.length ∧ i = .int .i64 j ∧ RowB wr bb ro ∧ Hid ((ro = (0, 0) ∧ NoneTo l m j) ∨ ∃ b, BestTo l m j b ro) ∧ Hid (wr.ownsRow w.heap.size 45 2 (.slice B l.length cc) l.length (rowsV l)) ∧ Hid (Below w.heap.size w wr))
  case atStart => exact ⟨0, (0, 0), by omega, rfl, RowB.set2 HBr2 (0, 0), Lib.hid (.inl ⟨rfl, fun k a h => by omega⟩), Lib.hid (ownsRow_setCell_other (ownsRow_setCell_other HO2.out (a := ⟨bb, 0, none⟩) HOff2.out _) (a := ⟨bb, 1, none⟩) HOff2.out _), Lib.hid ((HB2.out.setCell (p := ⟨bb, 0, none⟩) hbs _).setCell (p := ⟨bb, 1, none⟩) hbs _)⟩
  case round =>
    obtain ⟨j, ro, hq, rfl, hrb, hinv, hown, hb⟩ := hrel
    have HRb := Lib.hid hrb
    obtain ⟨⟨k0, k1⟩, f0, f1⟩ := hrb.cells
    have hrlt := Blk.lt hrb
    clear hrb
    by_cases hlt : j < l.length
    · obtain ⟨a, ha⟩ : ∃ a, l[j]? = some a := ⟨_, List.getElem?_eq_getElem hlt⟩
      obtain ⟨b, rfl, r1, r2⟩ := own_rows hown.out ha
      have hab := HRl.out.1.mem ha
      have HA := Lib.hid ha
      have hbne : b < bb := HOb.out b rfl
      have hoff : (Value.slice (some ⟨b, 0, none⟩) l.length cc).ownBlock ≠ some bb := by simp [Value.ownBlock]; omega
      have HOff := Lib.hid hoff
      clear ha hoff
      by_cases hge : (m : Int) ≤ (a.2 : Int)
      · rcases hinv.out with ⟨rfl, hno⟩ | ⟨bi, hbest⟩
        · have HNo := Lib.hid hno
          clear hno hinv
          go_wp2_with fail
          go_quiet (fail)
          go_wp2
          go_roundg (l.length - (j + 1))
          case measure => omega
          case rel =>
            refine ⟨j + 1, a, by omega, by go_num, RowB.set2 (w := wr.drewN _) HRb.out a, Lib.hid (.inr ⟨j, best_new HNo.out HA.out hge⟩), Lib.hid ?_, Lib.hid ?_⟩
            · exact ownsRow_setCell_other (ownsRow_setCell_other (ownsRow_below hown.out (bel_dn (Below.refl _ _) _)) (a := ⟨bb, 0, none⟩) HOff.out _) (a := ⟨bb, 1, none⟩) HOff.out _
            · exact ((bel_dn hb.out _).setCell (p := ⟨bb, 0, none⟩) hbs _).setCell (p := ⟨bb, 1, none⟩) hbs _
        · have HBest := Lib.hid hbest
          have hb2 := hbest.2.2.1
          have hro : ((ro.2 : Int) == 0) = false := by rw [beq_eq_false_iff_ne]; omega
          clear hinv hbest
          by_cases hsm : a.2 < ro.2
          · go_wp2_with fail
            go_quiet (fail)
            go_wp2
            go_roundg (l.length - (j + 1))
            case measure => omega
            case rel =>
              refine ⟨j + 1, a, by omega, by go_num, RowB.set2 (w := wr.drewN _) HRb.out a, Lib.hid (.inr ⟨j, best_less HBest.out HA.out hge hsm⟩), Lib.hid ?_, Lib.hid ?_⟩
              · exact ownsRow_setCell_other (ownsRow_setCell_other (ownsRow_below hown.out (bel_dn (Below.refl _ _) _)) (a := ⟨bb, 0, none⟩) HOff.out _) (a := ⟨bb, 1, none⟩) HOff.out _
              · exact ((bel_dn hb.out _).setCell (p := ⟨bb, 0, none⟩) hbs _).setCell (p := ⟨bb, 1, none⟩) hbs _
          · go_wp2_with fail
            go_quiet (fail)
            go_wp2
            go_roundg (l.length - (j + 1))
            case measure => omega
            case rel => exact ⟨j + 1, ro, by omega, by go_num, HRb.out, Lib.hid (.inr ⟨bi, best_keep HBest.out HA.out (fun _ => hsm)⟩), Lib.hid (ownsRow_below hown.out (bel_dn (Below.refl _ _) _)), Lib.hid (bel_dn hb.out _)⟩
      · have hgb : decide ((m : Int) ≤ (a.2 : Int)) = false := decide_eq_false hge
        have hgl : (a.2 : Int) < (m : Int) := by omega
        have hgb2 : decide (m ≤ a.2) = false := decide_eq_false (by omega)
        have hgl2 : a.2 < m := by omega
        have HGe := Lib.hid hge
        clear hge
        go_wp2_with fail
        go_quiet (fail)
        go_wp2
        go_roundg (l.length - (j + 1))
        case measure => omega
        case rel => exact ⟨j + 1, ro, by omega, by go_num, HRb.out, Lib.hid (by
          rcases hinv.out with ⟨g1, g2⟩ | ⟨bi, g⟩
          · exact .inl ⟨g1, none_keep g2 HA.out (by have := HGe.out; omega)⟩
          · exact .inr ⟨bi, best_keep g HA.out (fun h => absurd h (by have := HGe.out; omega))⟩), Lib.hid (ownsRow_below hown.out (bel_dn (Below.refl _ _) _)), Lib.hid (bel_dn hb.out _)⟩
    · obtain rfl : j = l.length := by omega
      rcases hinv.out with ⟨rfl, hno⟩ | ⟨bi, hbest⟩
      · have HNo := Lib.hid hno
        clear hno hinv
        go_wp2
        go_ret2
        exact .inr (.inl ⟨h1, HNo.out, rfl, hb.out⟩)
      · have HBest := Lib.hid hbest
        have hb2 := hbest.2.2.1
        have hpm := HRl.out.1.mem hbest.2.1
        have hro : ((ro.2 : Int) == 0) = false := by rw [beq_eq_false_iff_ne]; omega
        have HTh := Lib.hid (there_ok (x := ro.1) (n := m) (by omega) (by omega) (by omega) (by omega))
        have hTb : T ≠ bb := by omega
        have hfree : ∀ i, ro.1 ≤ i → i < ro.1 + m → f i ≠ true := fun i g1 g2 => by
          have := (HRl.out.2.2 i).1 ((Fr_at l i).2 ⟨bi, ro, hbest.2.1, g1, by omega⟩)
          rw [this.2.2]; simp
        have HFree := Lib.hid hfree
        clear hinv hbest hfree
        go_wp2_with fail
        refine (turn16_calls _ R T f (ro.1 : Int) (m : Int) true (HR.out.below hb.out) (by omega) (by omega)).mono ?_
        rintro e w3 h
        rcases h with ⟨h, _⟩ | ⟨x', n', hx, hnn, _, h⟩
        · rw [HTh.out] at h; cases h
        obtain rfl : ro.1 = x' := by omega
        obtain rfl : m = n' := by omega
        rcases h with ⟨⟨i, g1, g2, g3⟩, _⟩ | ⟨_, rfl, hblk, hon⟩
        · exact absurd g3 (HFree.out i g1 g2)
        have HBk := Lib.hid hblk
        have HOn := Lib.hid ((Only.of_below (S := (· = T)) hb.out).trans hon (fun i _ h => h))
        have hrb3 : RowB w3 bb ro := Blk.only HRb.out hon (fun h => hTb h.symm)
        obtain ⟨⟨k0, k1⟩, _, _⟩ := hrb3.cells
        clear hblk hon hrb3
        go_wp2
        go_ret2
        refine .inr (.inr ⟨bi, ro, h1, HBest.out, rfl, ?_, HOn.out⟩)
        rw [Int.toNat_natCast]
        exact HBk.out
end Go.Proofs.YtadbbknllakpcaaGreat.rn
