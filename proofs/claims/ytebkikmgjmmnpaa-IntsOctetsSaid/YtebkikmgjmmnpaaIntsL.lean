/- The statements IntsUps, IntsZigs, IntsSigns: their walks over the contracts. -/
import Derived.Test.YtebkikmgjmmnpaaIntsV
namespace Go.Proofs.Ytebkikmgjmmnpaa
open Go.RowKit
set_option linter.unusedVariables false

theorem awake_calls (w : World) : Calls Try.prog 9 #[] w fun e w' => e = .returned (.bool true) ∧ Below w.heap.size w w' := by
  have e1 : sgL 255 8 = -1 := by unfold sgL cnt wrap64; decide
  have e2 : zigL (-3) = 5 := by decide
  have e3 : upL 17 8 = 24 := by decide
  have e4 : cnt 4 8 = 4 := by decide
  have e5 : strOfNums (layL 258 4) = { data := #[2, 1, 0, 0] } := by decide +kernel
  have E := Lib.hid e5
  have E4 := Lib.hid e4
  clear e5 e4
  go_enter Try.func9, Try.ntmps9
  go_wp2_with fail
  refine (lay_calls 258 4 _ (by omega) (by omega)).mono ?_
  rintro e w1 ⟨v, rfl, hown, hbel⟩
  rw [E4.out] at hown
  have hcv := run_string_own (P := Try.prog) hown 29 9 Try.underlying29 Try.underlying5 Try.underlying9
  rw [show (4 : Int).toNat = 4 from rfl, E.out] at hcv
  clear hown
  go_wp2_with (first | (go_at_call 17; refine (signed_calls 255 8 _ (by omega) (by omega)).mono ?_; rintro e w' ⟨rfl, rfl⟩) | (go_at_call 12; refine (zig_calls (-3) _ (by omega) (by omega)).mono ?_; rintro e w' ⟨rfl, rfl⟩) | (go_at_call 10; refine (up_calls 17 8 _ (by omega) (by omega) (by omega) (by omega)).mono ?_; rintro e w' ⟨rfl, rfl⟩))
  go_ret
  exact ⟨rfl, hbel⟩

theorem ups_walk (n to : Int) (w : World) (wn : (Lit.int .i64 n).wf = true) (wt : (Lit.int .i64 to).wf = true) :
    Calls Try.prog 3 #[.int .i64 n, .int .i64 to] w fun e w' => e = .returned (.bool true) ∧ Below w.heap.size w w' := by
  obtain ⟨hn', hn⟩ := wf_i64 wn
  obtain ⟨ht', ht⟩ := wf_i64 wt
  clear wn wt
  have he := up_eq n to
  have hx : (upL n to == rupL n to) = true := by rw [he]; simp
  have hg := up_good n to
  clear he
  by_cases h0 : upL n to = 0
  · have h1 : (upL n to == 0) = true := by simpa using h0
    clear h0 hg
    go_enter Try.func3, Try.ntmps3
    go_wp2_with (first | (go_at_call 9; refine (awake_calls _).mono ?_; rintro e w1 ⟨rfl, hb⟩) | (go_at_call 10; refine (up_calls _ _ _ hn ht hn' ht').mono ?_; rintro e w' ⟨rfl, rfl⟩) | (go_at_call 11; refine (rup_calls _ _ _ hn ht hn' ht').mono ?_; rintro e w' ⟨rfl, rfl⟩))
    all_goals go_ret
    all_goals exact ⟨rfl, hb⟩
  · have h1 : (upL n to == 0) = false := by simpa using h0
    obtain ⟨g1, g2, g3, g4, g5, g6, g7⟩ := hg h0
    have g5' : (upL n to % to == 0) = true := by simpa using g5
    clear h0 hg g5
    go_enter Try.func3, Try.ntmps3
    go_wp2_with (first | (go_at_call 9; refine (awake_calls _).mono ?_; rintro e w1 ⟨rfl, hb⟩) | (go_at_call 10; refine (up_calls _ _ _ hn ht hn' ht').mono ?_; rintro e w' ⟨rfl, rfl⟩) | (go_at_call 11; refine (rup_calls _ _ _ hn ht hn' ht').mono ?_; rintro e w' ⟨rfl, rfl⟩))
    all_goals go_ret
    all_goals exact ⟨rfl, hb⟩
end Go.Proofs.Ytebkikmgjmmnpaa
