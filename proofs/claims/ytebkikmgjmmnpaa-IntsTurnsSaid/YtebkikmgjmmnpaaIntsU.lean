/- The walk of IntsTurns over the contracts. -/
import Derived.Test.YtebkikmgjmmnpaaIntsG
import Derived.BigQuiet
namespace Go.Proofs.Ytebkikmgjmmnpaa
open Go.RowKit
set_option linter.unusedVariables false

set_option maxHeartbeats 1000000 in
theorem turns_walk (u : Int) (v1 : Value) (ab : Int × Int) (v : Int) (w : World) (wu : (Lit.int .u32 u).wf = true) (wab : v1 = .agg #[.int .i64 ab.1, .int .i64 ab.2] ∧ (Lit.int .i64 ab.1).wf = true ∧ (Lit.int .i64 ab.2).wf = true) (wv : (Lit.int .u64 v).wf = true) :
    Calls Try.prog 8 #[.int .u32 u, v1, .int .u64 v] w fun e w' => e = .returned (.bool true) ∧ Below w.heap.size w w' := by
  obtain ⟨rfl, wa, wb⟩ := wab
  obtain ⟨hu0, hu1⟩ := wf_u32 wu
  obtain ⟨hv0, hv1⟩ := wf_u64 wv
  obtain ⟨a, b⟩ := ab
  dsimp only at wa wb ⊢
  obtain ⟨ha0, ha1⟩ := wf_i64 wa
  obtain ⟨hb0, hb1⟩ := wf_i64 wb
  clear wu wv wa wb
  have ta : -31 ≤ a.tmod 32 ∧ a.tmod 32 ≤ 31 := by
    have h1 := Int.natAbs_tmod a 32
    have h2 : (Int.natAbs a) % (Int.natAbs 32) < 32 := Nat.mod_lt _ (by decide)
    omega
  have tb : -31 ≤ b.tmod 32 ∧ b.tmod 32 ≤ 31 := by
    have h1 := Int.natAbs_tmod b 32
    have h2 : (Int.natAbs b) % (Int.natAbs 32) < 32 := Nat.mod_lt _ (by decide)
    omega
  obtain ⟨x1, x2⟩ := turnL_bd u a hu0 hu1
  obtain ⟨y1, y2⟩ := turnL_bd u (a.tmod 32) hu0 hu1
  have h1 : (turnL u a != turnL u a) = false := by simp
  have h2 : (lg v.toNat != lg v.toNat) = false := by simp
  have h3 : (turnL (turnL u (a.tmod 32)) (b.tmod 32) == turnL u (a.tmod 32 + b.tmod 32)) = true := by rw [turn_turn _ _ _ hu0 hu1]; simp
  have h4 : (turnL (turnL u (a.tmod 32)) (-(a.tmod 32)) == u) = true := by rw [turn_turn _ _ _ hu0 hu1, turn_zero _ _ hu0 (by omega)]; simp
  go_enter Try.func8, Try.ntmps8
  go_wp2_with fail
  refine (awake_calls _).mono ?_
  rintro e w1 ⟨rfl, hb⟩
  have hz : w.heap.size + 1 ≤ w1.heap.size := by have := hb.size; simpa using this
  have hc0 : w1.cell? ⟨w.heap.size, 0, none⟩ = some (.int .i64 a) := by
    rw [hb.cell (p := ⟨w.heap.size, 0, none⟩) (by simp), World.cell?_alloc_at _ _ _ _ rfl]; rfl
  have hc1 : w1.cell? ⟨w.heap.size, 1, none⟩ = some (.int .i64 b) := by
    rw [hb.cell (p := ⟨w.heap.size, 1, none⟩) (by simp), World.cell?_alloc_at _ _ _ _ rfl]; rfl
  have hB : Below w.heap.size w w1 := ((Below.refl _ _).alloc (Nat.le_refl _) _).trans (hb.mono (by simp))
  clear hb
  go_wp2_with (first | (go_at_call 24; refine (turn_calls _ _ _ (by omega) (by omega)).mono ?_; rintro e w' ⟨rfl, rfl⟩) | (go_at_call 25; refine (rturn_calls _ _ _ (by omega) (by omega)).mono ?_; rintro e w' ⟨rfl, rfl⟩) | (go_at_call 26; refine (log_calls _ _ (by omega) (by omega)).mono ?_; rintro e w' ⟨rfl, rfl⟩) | (go_at_call 27; refine (rlog_calls _ _ (by omega) (by omega)).mono ?_; rintro e w' ⟨rfl, rfl⟩))
  go_quiet (fail)
  go_wp2_with (first | (go_at_call 24; refine (turn_calls _ _ _ (by omega) (by omega)).mono ?_; rintro e w' ⟨rfl, rfl⟩))
  all_goals go_ret
  exact ⟨rfl, hB.trans ⟨rfl, rfl, rfl, Nat.le_refl _, fun _ _ => rfl⟩⟩
end Go.Proofs.Ytebkikmgjmmnpaa
