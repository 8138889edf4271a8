/- The document's example for spans; spans laid in blocks. -/
import Derived.Test.YtakcdkcikopoiaaSpnT
namespace Go.Proofs.Ytakcdkcikopoiaa
open Go.RowKit
set_option linter.unusedVariables false

theorem set4_span {w : World} {b : Nat} {x0 x1 x2 x3 : Value} (h : Blk w b [x0, x1, x2, x3] 24) (pg ps cl : Int) (A : Option Addr) (len cap : Nat) :
    SpB ((((w.setCell ⟨b, 0, none⟩ (.int .i64 pg)).setCell ⟨b, 1, none⟩ (.int .i64 ps)).setCell ⟨b, 2, none⟩ (.int .i64 cl)).setCell ⟨b, 3, none⟩ (.slice A len cap)) b pg ps cl A len cap :=
  (((Blk.set h 0 (.int .i64 pg)).set 1 (.int .i64 ps)).set 2 (.int .i64 cl)).set 3 (.slice A len cap)
/-- A span has just been laid in a block of its own. -/
theorem laid_span (w : World) (pg ps cl : Int) (A : Option Addr) (len cap : Nat) : ∃ w1, ((((w.alloc (.cells #[.int .i64 0, .int .i64 0, .int .i64 0, .slice none 0 0] 24)).setCell ⟨w.heap.size, 0, none⟩ (.int .i64 pg)).setCell ⟨w.heap.size, 1, none⟩ (.int .i64 ps)).setCell ⟨w.heap.size, 2, none⟩ (.int .i64 cl)).setCell ⟨w.heap.size, 3, none⟩ (.slice A len cap) = w1 ∧
    SpB w1 w.heap.size pg ps cl A len cap ∧ Below w.heap.size w w1 :=
  ⟨_, rfl, set4_span (Blk.new w #[.int .i64 0, .int .i64 0, .int .i64 0, .slice none 0 0] 24) pg ps cl A len cap, below4 ((Below.refl _ _).alloc (Nat.le_refl _) _) (Nat.le_refl _) _ _ _ _⟩
theorem WordsAt.apart {w : World} {b : Nat} {pg ps cl : Int} {A A' : Option Addr} {len len' cap : Nat} {f : Nat → Bool} (h : WordsAt w A' len' f) (hS : SpB w b pg ps cl A len cap) (hl : 0 < len') : ∀ x o, A' = some ⟨x, o, none⟩ → x ≠ b := by
  rintro x o rfl rfl
  obtain ⟨b1, o1, he, hlt, hc⟩ := h.1.resolve_left (by omega)
  cases he
  have h0 := hc 0 _ (wdV_at len' f 0 hl)
  rw [Nat.add_zero, Blk.cell hS o] at h0
  match o, h0 with
  | 0, h => simp at h
  | 1, h => simp at h
  | 2, h => simp at h
  | 3, h => simp at h
  | o + 4, h => simp at h
theorem WordsAt.store {w : World} {b : Nat} {pg ps cl : Int} {A A' : Option Addr} {len len' cap : Nat} {f : Nat → Bool} (h : WordsAt w A' len' f) (hS : SpB w b pg ps cl A len cap) (x0 x1 x2 x3 : Value) :
    WordsAt ((((w.setCell ⟨b, 0, none⟩ x0).setCell ⟨b, 1, none⟩ x1).setCell ⟨b, 2, none⟩ x2).setCell ⟨b, 3, none⟩ x3) A' len' f := by
  by_cases hl : 0 < len'
  · exact h.set4 (h.apart hS hl) _ _ _ _
  · exact ⟨.inl (by omega), h.2⟩
/-- A span is stored in a block that held one. -/
theorem stored_span {w : World} {b : Nat} {pg ps cl : Int} {A : Option Addr} {len cap : Nat} (h : SpB w b pg ps cl A len cap) (B : Nat) (w0 : World) (hB : Below B w0 w) (hb : B ≤ b) (pg' ps' cl' : Int) (A' : Option Addr) (len' cap' : Nat) (f : Nat → Bool) (hW : WordsAt w A' len' f) :
    ∃ w1, (((w.setCell ⟨b, 0, none⟩ (.int .i64 pg')).setCell ⟨b, 1, none⟩ (.int .i64 ps')).setCell ⟨b, 2, none⟩ (.int .i64 cl')).setCell ⟨b, 3, none⟩ (.slice A' len' cap') = w1 ∧ SpB w1 b pg' ps' cl' A' len' cap' ∧ Below B w0 w1 ∧ WordsAt w1 A' len' f :=
  ⟨_, rfl, set4_span h _ _ _ _ _ _, below4 hB hb _ _ _ _, hW.store h _ _ _ _⟩

/-- The lowest bits, so many. -/
def low (k j : Nat) : Bool := decide (j < k)
theorem low_yes {k j : Nat} (h : j < k) : low k j = true := decide_eq_true h
theorem low_no {k j : Nat} (h : k ≤ j) : low k j = false := decide_eq_false (by omega)
theorem low_one : low 1 = bit0 := funext fun j => by unfold low bit0; congr 1; apply propext; omega
theorem low_put (k : Nat) : put (low k) k true = low (k + 1) := funext fun j => by
  unfold put low
  by_cases h : j = k
  · rw [if_pos h, decide_eq_true (by omega)]
  · rw [if_neg h]; congr 1; apply propext; omega
theorem low_drop (k : Nat) : put (low (k + 1)) k false = low k := funext fun j => by
  unfold put low
  by_cases h : j = k
  · rw [if_pos h, decide_eq_false (by omega)]
  · rw [if_neg h]; congr 1; apply propext; omega
theorem low_none : low 0 = fun _ => false := funext fun j => decide_eq_false (by omega)
/-- A new span is good. -/
theorem good_new {pg c : Int} (h : newB pg c = true) (h2 : pg + pagesL c ≤ 4096) (hc : c ≠ 255) : Good pg (pagesL c) c 1 bit0 := by
  have h1 := (new_iff pg c).2 (.inl ⟨hc, h⟩)
  exact (Good.of_right h1 (fun i hi => bit0_out i (by omega))).1

theorem new_0 : newB 1 0 = true := by decide
theorem pages_0 : pagesL 0 = 1 := by decide
theorem per_0 : perN 0 = 32 := by decide
theorem siz_0 : sizN 0 1 = 16 := by decide
set_option maxHeartbeats 1000000 in
theorem awake_calls15 (w : World) : Calls Try.prog 7 #[] w fun e w' => e = .returned (.bool true) ∧ Below w.heap.size w w' := by
  have G := good_new new_0 (by rw [pages_0]; omega) (by omega)
  rw [pages_0] at G
  have HG := Lib.hid G
  have HG2 := Lib.hid (G.put 1 true (by rw [per_0]; omega))
  clear G
  go_enter Try.func7, Try.ntmps7
  go_wp2_with fail
  refine (new_calls 1 0 _ (by unfold I64; omega) (by unfold I64; omega)).mono ?_
  rintro e w1 ⟨hb, ⟨h1, _⟩ | ⟨A, cap, _, rfl, hW, _, rfl⟩⟩
  · rw [new_0] at h1; cases h1
  rw [pages_0]
  obtain ⟨w2, hw2, hS, hB⟩ := one_span w1 1 1 0 A 1 1
  have HW := Lib.hid (hW.below hB)
  have HB2 := Lib.hid (bel_next hb hB (Nat.le_refl _))
  have HS := Lib.hid hS
  obtain ⟨s0, s1, s2, s3⟩ := hS.cells
  clear hb hW hS hB
  unfold spV
  go_wp2_with fail
  refine (take15_calls 1 1 0 A 1 1 bit0 _ HG.out HW.out).mono ?_
  rintro e w3 ⟨hb, ⟨_, h1⟩ | ⟨i, A', cap', rfl, hi, hfi, hpre, hW⟩⟩
  · have := h1 1 (by rw [per_0]; omega); cases this
  obtain rfl : i = 1 := by
    rcases Nat.lt_trichotomy i 1 with h | h | h
    · obtain rfl : i = 0 := by omega
      cases hfi
    · exact h
    · have := hpre 1 h; cases this
  rw [siz_0]
  clear hw2
  obtain ⟨w4, hw4, hS, hB⟩ := one_span w3 1 1 0 A' 1 cap'
  have HW := Lib.hid (hW.below hB)
  have HB4 := Lib.hid (bel_next (bel_next HB2.out hb (Nat.le_refl _)) hB (Nat.le_refl _))
  have HS := Lib.hid hS
  obtain ⟨s0, s1, s2, s3⟩ := hS.cells
  clear hb hW hS hB
  unfold spV
  go_wp2_with fail
  refine (find15_calls 1 1 0 A' 1 cap' _ 530 _ HG2.out (by unfold I64; omega) HW.out).mono ?_
  rintro e w5 ⟨hb, ⟨_, h1⟩ | ⟨i, u, rfl, h1⟩⟩
  · rcases h1 with ⟨_, _, h1⟩ | ⟨i, _, _, h, _⟩
    · have := h1 1 (by rw [per_0]; omega) rfl (by rw [siz_0]; omega)
      rw [siz_0] at this; omega
    · omega
  have hu : u = 2 := by
    rcases h1 with ⟨h, _⟩ | ⟨j, hj, _, _, h2, h3, h4⟩
    · omega
    · rw [siz_0] at h2 h4
      have : j = 1 := by omega
      subst this; omega
  have HB5 := Lib.hid (bel_next HB4.out hb (Nat.le_refl _))
  rw [hu, siz_0]
  clear hw4 hb h1 hu
  go_wp2
  go_ret
  exact ⟨rfl, HB5.out⟩
end Go.Proofs.Ytakcdkcikopoiaa
