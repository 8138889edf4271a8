/- The document's land (mothballref16): New, Turn, Runs. -/
import Derived.Test.YtfacpamepkkhgaaRunR
import Derived.Test.YtfacpamepkkhgaaMk
import Derived.Test.YtfacpamepkkhgaaBit
import Derived.Laws.OwnMore
namespace Go.Proofs.Ytfacpamepkkhgaa
open Go.RowKit
set_option linter.unusedVariables false

/-- The document's land: which pages are taken. -/
def RefAt (w : World) (R T : Nat) (f : Nat → Bool) : Prop :=
  R ≠ T ∧ Blk w R [.slice (some ⟨T, 0, none⟩) 4096 4096] 59 ∧ Blk w T (fnV 4096 fun i => .bool (f i)) 4
theorem RefAt.only {w w' : World} {R T : Nat} {f : Nat → Bool} {S : Nat → Prop} (h : RefAt w R T f) (o : Only S w w') (h1 : ¬ S R) (h2 : ¬ S T) : RefAt w' R T f := ⟨h.1, h.2.1.only o h1, h.2.2.only o h2⟩
theorem RefAt.below {w w' : World} {R T : Nat} {f : Nat → Bool} (h : RefAt w R T f) (o : Below w.heap.size w w') : RefAt w' R T f := ⟨h.1, h.2.1.below o, h.2.2.below o⟩
theorem RefAt.head {w : World} {R T : Nat} {f : Nat → Bool} (h : RefAt w R T f) : w.cell? ⟨R, 0, none⟩ = some (.slice (some ⟨T, 0, none⟩) 4096 4096) := h.2.1.cell 0
theorem RefAt.bit {w : World} {R T : Nat} {f : Nat → Bool} (h : RefAt w R T f) {i : Nat} (hi : i < 4096) : w.cell? ⟨T, i, none⟩ = some (.bool (f i)) := (h.2.2.cell i).trans (fnV_at _ _ _ hi)
theorem RefAt.lt {w : World} {R T : Nat} {f : Nat → Bool} (h : RefAt w R T f) : R < w.heap.size ∧ T < w.heap.size := ⟨h.2.1.lt, h.2.2.lt⟩
def bit0 (i : Nat) : Bool := decide (i = 0)
theorem fn_first (n : Nat) : (fnV n fun _ => Value.bool false).set 0 (.bool true) = fnV n fun i => .bool (bit0 i) := by
  rw [fnV_set]
  exact fnV_congr fun i _ => by
    unfold bit0
    by_cases h : i = 0
    · rw [if_pos h, decide_eq_true h]
    · rw [if_neg h, decide_eq_false h]
theorem rnew_calls (w : World) : Calls Try.prog 14 #[] w fun e w' => ∃ R T, e = .returned (.pointer (some ⟨R, 0, none⟩)) ∧ RefAt w' R T bit0 ∧ w.heap.size ≤ R ∧ w.heap.size ≤ T ∧ Below w.heap.size w w' := by
  obtain ⟨i0, hi, hz0, hz1, hz2⟩ := info_parts Try.info_bool
  have hm : (Instr.makeSlice 57 (.int .i64 4096) (.int .i64 4096)).run Try.prog w = .ok (.slice (some ⟨w.heap.size, 0, none⟩) 4096 4096) (w.alloc (.cells (zrow 4096 (.bool false)) 4)) :=
    run_make1 (P := Try.prog) w 57 4 i0 _ (.bool false) Try.underlying57 hi hz0 rfl hz1 4096 (by rw [hz2]; omega) (by omega)
  obtain ⟨w3, hw3⟩ : ∃ w3, w.alloc (.cells (zrow 4096 (.bool false)) 4) = w3 := ⟨_, rfl⟩
  have hB3 : Below w.heap.size w w3 := by rw [← hw3]; exact (Below.refl _ _).alloc (Nat.le_refl _) _
  have hT3 : Blk w3 w.heap.size (fnV 4096 fun _ => .bool false) 4 := by
    rw [← hw3, ← fnV_rep]; exact Blk.new w (zrow 4096 (.bool false)) 4
  have hs3 : w3.heap.size = w.heap.size + 1 := by rw [← hw3]; simp
  rw [hw3] at hm
  obtain ⟨w4, hw4⟩ : ∃ w4, w3.alloc (.cells #[.slice (some ⟨w.heap.size, 0, none⟩) 4096 4096] 59) = w4 := ⟨_, rfl⟩
  have hB4 : Below w.heap.size w w4 := by rw [← hw4]; exact hB3.alloc (by omega) _
  have hR4 : Blk w4 w3.heap.size [.slice (some ⟨w.heap.size, 0, none⟩) 4096 4096] 59 := by rw [← hw4]; exact Blk.new w3 #[.slice (some ⟨w.heap.size, 0, none⟩) 4096 4096] 59
  have hT4 : Blk w4 w.heap.size (fnV 4096 fun _ => .bool false) 4 := by rw [← hw4]; exact hT3.alloc _
  have c0 := hR4.cell 0
  have t0 := (hT4.cell 0).trans (fnV_at 4096 _ 0 (by omega))
  have f0 := hT4.free 0
  simp only [List.getElem?_cons_zero] at c0
  have HB4 := Lib.hid hB4
  have HR4 := Lib.hid hR4
  have HT4 := Lib.hid hT4
  rw [hs3] at c0 HR4
  clear hw3 hB3 hT3 hB4 hR4 hT4
  go_enter Try.func14, Try.ntmps14
  go_wp2_with (first | (simp only [hm]) | (simp only [hw4, hs3]))
  all_goals
    go_ret
    refine ⟨w.heap.size + 1, w.heap.size, rfl, ⟨by omega, ?_, ?_⟩, by omega, Nat.le_refl _, ?_⟩
    · exact HR4.out.set_other (by omega) _ _
    · have := HT4.out.set 0 (.bool true)
      rw [fn_first] at this
      exact this
    · exact HB4.out.setCell (p := ⟨w.heap.size, 0, none⟩) (Nat.le_refl _) _
/-- These pages are taken, or given. -/
def setF (f : Nat → Bool) (x j : Nat) (b : Bool) : Nat → Bool := fun i => if x ≤ i ∧ i < j then b else f i
/-- What the document's Turn answers. -/
def TurnR (w : World) (T : Nat) (f : Nat → Bool) (x n : Int) (b : Bool) (e : Ending) (w' : World) : Prop :=
  (thereB x n = false ∧ e = .returned (.int .i64 2) ∧ w = w') ∨
  ∃ x' n' : Nat, x = x' ∧ n = n' ∧ thereB x n = true ∧
    ((∃ i, x' ≤ i ∧ i < x' + n' ∧ f i = b) ∧ e = .returned (.int .i64 2) ∧ w = w' ∨
     (∀ i, x' ≤ i → i < x' + n' → f i ≠ b) ∧ e = .returned (.int .i64 0) ∧ Blk w' T (fnV 4096 fun i => .bool (setF f x' (x' + n') b i)) 4 ∧ Only (· = T) w w')
theorem setF_next (f : Nat → Bool) (x j : Nat) (b : Bool) (h : x ≤ j) : ((fnV 4096 fun i => Value.bool (setF f x j b i)).set j (.bool b)) = fnV 4096 fun i => .bool (setF f x (j + 1) b i) := by
  rw [fnV_set]
  refine fnV_congr fun i _ => ?_
  unfold setF
  by_cases h1 : i = j
  · rw [if_pos h1, if_pos (by omega)]
  · rw [if_neg h1]
    by_cases h2 : x ≤ i ∧ i < j
    · rw [if_pos h2, if_pos (by omega)]
    · rw [if_neg h2, if_neg (by omega)]
set_option maxRecDepth 20000 in
set_option maxHeartbeats 4000000 in
theorem turn16_calls (w : World) (R T : Nat) (f : Nat → Bool) (x n : Int) (b : Bool) (hR : RefAt w R T f) (hx : -9223372036854775808 ≤ x ∧ x ≤ 9223372036854775807) (hn : -9223372036854775808 ≤ n ∧ n ≤ 9223372036854775807) :
    Calls Try.prog 16 #[.pointer (some ⟨R, 0, none⟩), .int .i64 x, .int .i64 n, .bool b] w (TurnR w T f x n b) := by
  have HR := Lib.hid hR
  have hll := hR.lt
  have c0 := hR.head
  have hne := hR.1
  clear hR
  have hcase : (1 ≤ n ∧ 1 ≤ x ∧ n < 4096 ∧ x ≤ 4096 - n) ∨ n < 1 ∨ (1 ≤ n ∧ 4096 < n) ∨ (1 ≤ n ∧ n ≤ 4096 ∧ x < 1) ∨ (1 ≤ n ∧ n ≤ 4096 ∧ 1 ≤ x ∧ 4096 - n < x) := by omega
  rcases hcase with h | h | h | h | h
  · have HTh := Lib.hid (show thereB x n = true from decide_eq_true h)
    obtain ⟨x', rfl⟩ : ∃ x' : Nat, x = x' := ⟨x.toNat, by omega⟩
    obtain ⟨n', rfl⟩ : ∃ n' : Nat, n = n' := ⟨n.toNat, by omega⟩
    obtain ⟨h1, h2, h3, h4⟩ := h
    clear hx hn
    go_enter Try.func16, Try.ntmps16
    go_wp2_with fail
    go_loopg [9] n' (fun q i wr => ∃ j : Nat, q + j = x' + n' ∧ x' ≤ j ∧ i = .int .i64 j ∧ w = wr ∧ Hid (∀ k, x' ≤ k → k < j → f k ≠ b))
    case atStart => exact ⟨x', by omega, Nat.le_refl _, rfl, rfl, Lib.hid (fun k h1 h2 => by omega)⟩
    case round =>
      obtain ⟨j, hq, hxj, rfl, rfl, hall⟩ := hrel
      by_cases hlt : j < x' + n'
      · have hbit := HR.out.bit (i := j) (by omega)
        by_cases hf : f j = b
        · have hfb : (f j == b) = true := by rw [hf]; exact beq_self_eq_true b
          obtain ⟨v, hv⟩ : ∃ v, f j = v := ⟨_, rfl⟩
          have HV := Lib.hid hv
          rw [hv] at hbit hfb
          clear hf hv
          go_wp2
          go_ret
          exact .inr ⟨x', n', rfl, rfl, HTh.out, .inl ⟨⟨j, hxj, hlt, by rw [HV.out]; exact beq_iff_eq.1 hfb⟩, rfl, rfl⟩⟩
        · have hfb : (f j == b) = false := beq_eq_false_iff_ne.2 hf
          obtain ⟨v, hv⟩ : ∃ v, f j = v := ⟨_, rfl⟩
          have HV := Lib.hid hv
          have HF := Lib.hid hf
          rw [hv] at hbit hfb
          clear hf hv
          go_wp2
          go_roundg (x' + n' - (j + 1))
          case measure => omega
          case rel => exact ⟨j + 1, by omega, by omega, by go_num, rfl, Lib.hid (fun k h1 h2 => by
            by_cases e : k = j
            · subst e; exact HF.out
            · exact hall.out k h1 (by omega))⟩
      · obtain rfl : j = x' + n' := by omega
        have HAll := Lib.hid hall.out
        clear hall
        go_wp2_with fail
        go_loopg [10] n' (fun q i wr => ∃ j : Nat, q + j = x' + n' ∧ x' ≤ j ∧ i = .int .i64 j ∧ Hid (Blk wr T (fnV 4096 fun i => .bool (setF f x' j b i)) 4) ∧ Hid (Only (· = T) w wr))
        case atStart => exact ⟨x', by omega, Nat.le_refl _, rfl, Lib.hid (by
          have : (fnV 4096 fun i => Value.bool (setF f x' x' b i)) = fnV 4096 fun i => Value.bool (f i) := fnV_congr fun i _ => by unfold setF; rw [if_neg (by omega)]
          rw [this]; exact HR.out.2.2), Lib.hid (Only.refl _ _)⟩
        case round =>
          obtain ⟨j, hq, hxj, rfl, hT, hon⟩ := hrel
          have c1 := (HR.out.2.1.only hon.out hne).cell 0
          simp only [List.getElem?_cons_zero] at c1
          by_cases hlt : j < x' + n'
          · have hbit := (hT.out.cell j).trans (fnV_at _ _ j (by omega))
            have hfz := hT.out.free j
            obtain ⟨v, hv⟩ : ∃ v, Value.bool (setF f x' j b j) = v := ⟨_, rfl⟩
            rw [hv] at hbit
            clear hv
            go_wp2
            go_roundg (x' + n' - (j + 1))
            case measure => omega
            case rel => exact ⟨j + 1, by omega, by omega, by go_num, Lib.hid (by have := hT.out.set j (.bool b); rw [setF_next _ _ _ _ hxj] at this; exact this), Lib.hid (hon.out.set (p := ⟨T, j, none⟩) (fun _ => rfl) _)⟩
          · obtain rfl : j = x' + n' := by omega
            go_wp2
            go_ret
            exact .inr ⟨x', n', rfl, rfl, HTh.out, .inr ⟨HAll.out, rfl, hT.out, hon.out⟩⟩
  all_goals
    have HF := Lib.hid (show thereB x n = false from decide_eq_false (by omega))
    first | (obtain ⟨h1, h2, h3, h4⟩ := h) | (obtain ⟨h1, h2, h3⟩ := h) | (obtain ⟨h1, h2⟩ := h) | skip
    go_enter Try.func16, Try.ntmps16
    go_wp2
    go_ret
    exact .inl ⟨HF.out, rfl, rfl⟩
end Go.Proofs.Ytfacpamepkkhgaa
