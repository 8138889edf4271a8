/- The walks of IntsZigs and IntsSigns over the contracts. -/
import Derived.Test.YtebkikmgjmmnpaaIntsX
import Derived.Test.YtebkikmgjmmnpaaIntsL
namespace Go.Proofs.Ytebkikmgjmmnpaa
open Go.RowKit
set_option linter.unusedVariables false

set_option maxHeartbeats 400000 in
theorem zigs_walk (n m u : Int) (w : World) (wn : (Lit.int .i64 n).wf = true) (wm : (Lit.int .i64 m).wf = true) (wu : (Lit.int .u64 u).wf = true) :
    Calls Try.prog 4 #[.int .i64 n, .int .i64 m, .int .u64 u] w fun e w' => e = .returned (.bool true) ∧ Below w.heap.size w w' := by
  obtain ⟨hn', hn⟩ := wf_i64 wn
  obtain ⟨hm', hm⟩ := wf_i64 wm
  obtain ⟨hu', hu⟩ := wf_u64 wu
  clear wn wm wu
  obtain ⟨b1, b2⟩ := zigL_bd n hn hn'
  obtain ⟨b3, b4⟩ := zagL_bd u hu hu'
  have h1 : (zigL n != zigL n) = false := by simp
  have h2 : (zagL (zigL n) != n) = false := by rw [zag_zig]; simp
  have h3 : (zigL (zagL u) != u) = false := by rw [zig_zag u hu']; simp
  have hz : 0 ≤ n → 0 ≤ m → (decide (n < m) == decide (zigL n < zigL m)) = true := fun a b => by
    rw [beq_iff_eq, decide_eq_decide]; exact zig_lt n m a b
  by_cases c1 : n < 0
  · clear hz
    go_enter Try.func4, Try.ntmps4
    go_wp2_with (first | (go_at_call 9; refine (awake_calls _).mono ?_; rintro e w1 ⟨rfl, hb⟩) | (go_at_call 12; refine (zig_calls _ _ (by omega) (by omega)).mono ?_; rintro e w' ⟨rfl, rfl⟩) | (go_at_call 13; refine (rzig_calls _ _ hn hn').mono ?_; rintro e w' ⟨rfl, rfl⟩) | (go_at_call 14; refine (zag_calls _ _ (by omega) (by omega)).mono ?_; rintro e w' ⟨rfl, rfl⟩))
    all_goals go_ret
    all_goals exact ⟨rfl, hb⟩
  · by_cases c2 : m < 0
    · clear hz
      go_enter Try.func4, Try.ntmps4
      go_wp2_with (first | (go_at_call 9; refine (awake_calls _).mono ?_; rintro e w1 ⟨rfl, hb⟩) | (go_at_call 12; refine (zig_calls _ _ (by omega) (by omega)).mono ?_; rintro e w' ⟨rfl, rfl⟩) | (go_at_call 13; refine (rzig_calls _ _ hn hn').mono ?_; rintro e w' ⟨rfl, rfl⟩) | (go_at_call 14; refine (zag_calls _ _ (by omega) (by omega)).mono ?_; rintro e w' ⟨rfl, rfl⟩))
      all_goals go_ret
      all_goals exact ⟨rfl, hb⟩
    · have h4 := hz (by omega) (by omega)
      clear hz
      go_enter Try.func4, Try.ntmps4
      go_wp2_with (first | (go_at_call 9; refine (awake_calls _).mono ?_; rintro e w1 ⟨rfl, hb⟩) | (go_at_call 12; refine (zig_calls _ _ (by omega) (by omega)).mono ?_; rintro e w' ⟨rfl, rfl⟩) | (go_at_call 13; refine (rzig_calls _ _ hn hn').mono ?_; rintro e w' ⟨rfl, rfl⟩) | (go_at_call 14; refine (zag_calls _ _ (by omega) (by omega)).mono ?_; rintro e w' ⟨rfl, rfl⟩))
      all_goals go_ret
      all_goals exact ⟨rfl, hb⟩

set_option maxHeartbeats 400000 in
theorem signs_walk (n k : Int) (w : World) (wn : (Lit.int .i64 n).wf = true) (wk : (Lit.int .i64 k).wf = true) :
    Calls Try.prog 6 #[.int .i64 n, .int .i64 k] w fun e w' => e = .returned (.bool true) ∧ Below w.heap.size w w' := by
  obtain ⟨hn', hn⟩ := wf_i64 wn
  clear wn wk
  obtain ⟨b1, b2⟩ := sgL_bd n k
  have h1 : (lowL n k == lowL n k) = true := by simp
  have h2 : (sgL n k == sgL n k) = true := by simp
  have h3 : ((sgL n k == n) == (sgL n k == n)) = true := by simp
  have h4 : (sgL (sgL n k) k == sgL n k) = true := by rw [sgL_sgL]; simp
  have h5 : (lowL (sgL n k) k == lowL n k) = true := by rw [low_sgL]; simp
  go_enter Try.func6, Try.ntmps6
  go_wp2_with (first | (go_at_call 9; refine (awake_calls _).mono ?_; rintro e w1 ⟨rfl, hb⟩) | (go_at_call 17; refine (signed_calls _ _ _ (by omega) (by omega)).mono ?_; rintro e w' ⟨rfl, rfl⟩) | (go_at_call 18; refine (low_calls _ _ _).mono ?_; rintro e w' ⟨rfl, rfl⟩) | (go_at_call 19; refine (rlow_calls _ _ _).mono ?_; rintro e w2 ⟨rfl, hb2⟩) | (go_at_call 20; refine (rsigned_calls _ _ _).mono ?_; rintro e w3 ⟨rfl, hb3⟩) | (go_at_call 15; refine (short_calls _ _ _ (by omega) (by omega)).mono ?_; rintro e w' ⟨rfl, rfl⟩))
  all_goals go_ret
  all_goals exact ⟨rfl, hb.trans ((hb2.mono hb.size).trans (hb3.mono (Nat.le_trans hb.size hb2.size)))⟩
end Go.Proofs.Ytebkikmgjmmnpaa
