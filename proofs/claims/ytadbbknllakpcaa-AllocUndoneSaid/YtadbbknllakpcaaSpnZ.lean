/- The document's example for spans; spans laid in blocks. -/
import Derived.Test.YtadbbknllakpcaaSpnT
namespace Go.Proofs.Ytadbbknllakpcaa
open Go.RowKit
set_option linter.unusedVariables false

theorem set4_span {w : World} {b : Nat} {x0 x1 x2 x3 : Value} (h : Blk w b [x0, x1, x2, x3] 57) (pg ps cl : Int) (A : Option Addr) (len cap : Nat) :
    SpB ((((w.setCell ⟨b, 0, none⟩ (.int .i64 pg)).setCell ⟨b, 1, none⟩ (.int .i64 ps)).setCell ⟨b, 2, none⟩ (.int .i64 cl)).setCell ⟨b, 3, none⟩ (.slice A len cap)) b pg ps cl A len cap :=
  (((Blk.set h 0 (.int .i64 pg)).set 1 (.int .i64 ps)).set 2 (.int .i64 cl)).set 3 (.slice A len cap)
/-- A span has just been laid in a block of its own. -/
theorem laid_span (w : World) (pg ps cl : Int) (A : Option Addr) (len cap : Nat) : ∃ w1, ((((w.alloc (.cells #[.int .i64 0, .int .i64 0, .int .i64 0, .slice none 0 0] 57)).setCell ⟨w.heap.size, 0, none⟩ (.int .i64 pg)).setCell ⟨w.heap.size, 1, none⟩ (.int .i64 ps)).setCell ⟨w.heap.size, 2, none⟩ (.int .i64 cl)).setCell ⟨w.heap.size, 3, none⟩ (.slice A len cap) = w1 ∧
    SpB w1 w.heap.size pg ps cl A len cap ∧ Below w.heap.size w w1 :=
  ⟨_, rfl, set4_span (Blk.new w #[.int .i64 0, .int .i64 0, .int .i64 0, .slice none 0 0] 57) pg ps cl A len cap, below4 ((Below.refl _ _).alloc (Nat.le_refl _) _) (Nat.le_refl _) _ _ _ _⟩
theorem WordsAt.apart {w : World} {b : Nat} {pg ps cl : Int} {A A' : Option Addr} {len len' cap : Nat} {f : Nat → Bool} (h : WordsAt w A' len' f) (hS : SpB w b pg ps cl A len cap) (hl : 0 < len') : ∀ x o, A' = some ⟨x, o, none⟩ → x ≠ b := by
  rintro x o rfl rfl
  obtain ⟨b1, o1, he, hlt, hc⟩ := h.1.resolve_left (by omega)
  cases he
  have h0 := hc 0 _ (wdV_at len' f 0 hl)
  rw [Nat.add_zero, Blk.cell hS o] at h0
  match o, h0 with
  | 0, h => simp at h
  | 1, h => simp at h
  | 2, h => simp at h
  | 3, h => simp at h
  | o + 4, h => simp at h
theorem WordsAt.store {w : World} {b : Nat} {pg ps cl : Int} {A A' : Option Addr} {len len' cap : Nat} {f : Nat → Bool} (h : WordsAt w A' len' f) (hS : SpB w b pg ps cl A len cap) (x0 x1 x2 x3 : Value) :
    WordsAt ((((w.setCell ⟨b, 0, none⟩ x0).setCell ⟨b, 1, none⟩ x1).setCell ⟨b, 2, none⟩ x2).setCell ⟨b, 3, none⟩ x3) A' len' f := by
  by_cases hl : 0 < len'
  · exact h.set4 (h.apart hS hl) _ _ _ _
  · exact ⟨.inl (by omega), h.2⟩
/-- A span is stored in a block that held one. -/
theorem stored_span {w : World} {b : Nat} {pg ps cl : Int} {A : Option Addr} {len cap : Nat} (h : SpB w b pg ps cl A len cap) (B : Nat) (w0 : World) (hB : Below B w0 w) (hb : B ≤ b) (pg' ps' cl' : Int) (A' : Option Addr) (len' cap' : Nat) (f : Nat → Bool) (hW : WordsAt w A' len' f) :
    ∃ w1, (((w.setCell ⟨b, 0, none⟩ (.int .i64 pg')).setCell ⟨b, 1, none⟩ (.int .i64 ps')).setCell ⟨b, 2, none⟩ (.int .i64 cl')).setCell ⟨b, 3, none⟩ (.slice A' len' cap') = w1 ∧ SpB w1 b pg' ps' cl' A' len' cap' ∧ Below B w0 w1 ∧ WordsAt w1 A' len' f :=
  ⟨_, rfl, set4_span h _ _ _ _ _ _, below4 hB hb _ _ _ _, hW.store h _ _ _ _⟩

/-- The lowest bits, so many. -/
def low (k j : Nat) : Bool := decide (j < k)
theorem low_yes {k j : Nat} (h : j < k) : low k j = true := decide_eq_true h
theorem low_no {k j : Nat} (h : k ≤ j) : low k j = false := decide_eq_false (by omega)
theorem low_one : low 1 = bit0 := funext fun j => by unfold low bit0; congr 1; apply propext; omega
theorem low_put (k : Nat) : put (low k) k true = low (k + 1) := funext fun j => by
  unfold put low
  by_cases h : j = k
  · rw [if_pos h, decide_eq_true (by omega)]
  · rw [if_neg h]; congr 1; apply propext; omega
theorem low_drop (k : Nat) : put (low (k + 1)) k false = low k := funext fun j => by
  unfold put low
  by_cases h : j = k
  · rw [if_pos h, decide_eq_false (by omega)]
  · rw [if_neg h]; congr 1; apply propext; omega
theorem low_none : low 0 = fun _ => false := funext fun j => decide_eq_false (by omega)
/-- A new span is good. -/
theorem good_new {pg c : Int} (h : newB pg c = true) (h2 : pg + pagesL c ≤ 4096) (hc : c ≠ 255) : Good pg (pagesL c) c 1 bit0 := by
  have h1 := (new_iff pg c).2 (.inl ⟨hc, h⟩)
  exact (Good.of_right h1 (fun i hi => bit0_out i (by omega))).1

theorem new_0 : newB 1 0 = true := by decide
theorem pages_0 : pagesL 0 = 1 := by decide
theorem per_0 : perN 0 = 32 := by decide
theorem siz_0 : sizN 0 1 = 16 := by decide
end Go.Proofs.Ytadbbknllakpcaa
