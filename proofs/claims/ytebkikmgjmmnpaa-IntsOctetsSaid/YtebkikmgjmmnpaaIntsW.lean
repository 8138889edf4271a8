/- The walks through package ints and the document's answer for layer 1: each function computes its plain counterpart, for every input, and leaves the world as it was (those that make a slice: but for new memory). -/
import Derived.Test.YtebkikmgjmmnpaaProg
import Derived.Test.YtebkikmgjmmnpaaIntsB
import Derived.WalkLawsBesides
import Derived.WalkSpells
import Derived.Lib.Hide
namespace Go.Proofs.Ytebkikmgjmmnpaa
open Go.RowKit
set_option linter.unusedVariables false

theorem ret_eq {k : IntKind} {a b : Int} (h : a = b) : Ending.returned (.int k a) = .returned (.int k b) := by rw [h]
theorem ret_bool {a b : Bool} (h : a = b) : Ending.returned (.bool a) = .returned (.bool b) := by rw [h]

theorem count_calls (n l : Int) (w : World) :
    Calls Try.prog 28 #[.int .i64 n, .int .i64 l] w fun e w' => e = .returned (.int .i64 (cnt n l)) ∧ w = w' := by
  go_enter Try.func28, Try.ntmps28
  go_wp2
  all_goals go_ret
  all_goals refine ⟨ret_eq ?_, rfl⟩
  all_goals (unfold cnt; omega)
theorem within_calls (n l : Int) (w : World) (h : 0 ≤ l) :
    Calls Try.prog 30 #[.int .i64 n, .int .i64 l] w fun e w' => e = .returned (.int .i64 (cnt n l)) ∧ w = w' := by
  go_enter Try.func30, Try.ntmps30
  go_wp2
  all_goals go_ret
  all_goals refine ⟨ret_eq ?_, rfl⟩
  all_goals (unfold cnt; omega)
theorem up_calls (n to : Int) (w : World) (hn : n ≤ 9223372036854775807) (ht : to ≤ 9223372036854775807) (hn' : -9223372036854775808 ≤ n) (ht' : -9223372036854775808 ≤ to) :
    Calls Try.prog 10 #[.int .i64 n, .int .i64 to] w fun e w' => e = .returned (.int .i64 (upL n to)) ∧ w = w' := by
  by_cases h : n < 1 ∨ to < 1 ∨ 4611686018427387904 < n
  · have e : upL n to = 0 := by unfold upL; rw [if_pos h]
    have E := Lib.hid e
    clear e
    go_enter Try.func10, Try.ntmps10
    go_wp2
    all_goals go_ret
    all_goals exact ⟨ret_eq E.out.symm, rfl⟩
  · have f := up_facts n to (by omega) (by omega)
    have g := up_gt n to (by omega) (by omega)
    obtain ⟨f1, f2, f3, f4, f5⟩ := f
    clear f5
    have hq : (1 : Int) ≤ (n - 1) / to + 1 := by omega
    have hd := IntWalk.tdiv_le 4611686018427387904 ((n - 1) / to + 1) (by omega) hq
    by_cases k : 4611686018427387904 / ((n - 1) / to + 1) < to
    · have e : upL n to = 0 := by unfold upL; rw [if_neg h, if_pos k]
      have E := Lib.hid e
      clear e g
      go_enter Try.func10, Try.ntmps10
      go_wp2
      all_goals go_ret
      all_goals exact ⟨ret_eq E.out.symm, rfl⟩
    · have e : upL n to = ((n - 1) / to + 1) * to := by unfold upL; rw [if_neg h, if_neg k]
      rw [g] at k
      have k2 : ¬ 4611686018427387904 / ((n - 1) / to + 1) < to := by rw [g]; exact k
      have E := Lib.hid e
      clear e g
      go_enter Try.func10, Try.ntmps10
      go_wp2
      all_goals go_ret
      all_goals exact ⟨ret_eq E.out.symm, rfl⟩
theorem rup_calls (n to : Int) (w : World) (hn : n ≤ 9223372036854775807) (ht : to ≤ 9223372036854775807) (hn' : -9223372036854775808 ≤ n) (ht' : -9223372036854775808 ≤ to) :
    Calls Try.prog 11 #[.int .i64 n, .int .i64 to] w fun e w' => e = .returned (.int .i64 (rupL n to)) ∧ w = w' := by
  by_cases h : n < 1 ∨ to < 1 ∨ 4611686018427387904 < n
  · have e : rupL n to = 0 := by unfold rupL; rw [if_pos h]
    have E := Lib.hid e
    clear e
    go_enter Try.func11, Try.ntmps11
    go_wp2
    all_goals go_ret
    all_goals exact ⟨ret_eq E.out.symm, rfl⟩
  · have r0 := Int.emod_nonneg n (show to ≠ 0 by omega)
    have r1 := Int.emod_lt_of_pos n (show 0 < to by omega)
    by_cases k : n % to = 0
    · have e : rupL n to = n := by unfold rupL; rw [if_neg h, if_pos k]
      have E := Lib.hid e
      have k' : (n % to == 0) = true := by simpa using k
      clear e k
      go_enter Try.func11, Try.ntmps11
      go_wp2
      all_goals go_ret
      all_goals exact ⟨ret_eq E.out.symm, rfl⟩
    · have k' : (n % to == 0) = false := by simpa using k
      by_cases k2 : 4611686018427387904 - n < to - n % to
      · have e : rupL n to = 0 := by unfold rupL; rw [if_neg h, if_neg k, if_pos k2]
        have E := Lib.hid e
        clear e k
        go_enter Try.func11, Try.ntmps11
        go_wp2
        all_goals go_ret
        all_goals exact ⟨ret_eq E.out.symm, rfl⟩
      · have e : rupL n to = n - n % to + to := by unfold rupL; rw [if_neg h, if_neg k, if_neg k2]
        have E := Lib.hid e
        clear e k
        go_enter Try.func11, Try.ntmps11
        go_wp2
        all_goals go_ret
        all_goals exact ⟨ret_eq E.out.symm, rfl⟩
theorem zig_calls (n : Int) (w : World) (hn : n ≤ 9223372036854775807) (hn' : -9223372036854775808 ≤ n) :
    Calls Try.prog 12 #[.int .i64 n] w fun e w' => e = .returned (.int .u64 (zigL n)) ∧ w = w' := by
  have E := Lib.hid (zig_bits n hn hn')
  go_enter Try.func12, Try.ntmps12
  go_wp2
  all_goals go_ret
  exact ⟨ret_eq E.out, rfl⟩
theorem rzig_calls (n : Int) (w : World) (hn : n ≤ 9223372036854775807) (hn' : -9223372036854775808 ≤ n) :
    Calls Try.prog 13 #[.int .i64 n] w fun e w' => e = .returned (.int .u64 (zigL n)) ∧ w = w' := by
  by_cases h : 0 ≤ n
  · go_enter Try.func13, Try.ntmps13
    go_wp2
    all_goals go_ret
    exact ⟨ret_eq (by unfold zigL; rw [if_pos h]), rfl⟩
  · have E := Lib.hid (rzig_neg n (by omega) hn')
    go_enter Try.func13, Try.ntmps13
    go_wp2
    all_goals go_ret
    exact ⟨ret_eq E.out, rfl⟩
theorem zag_calls (n : Int) (w : World) (hn : n ≤ 18446744073709551615) (hn' : 0 ≤ n) :
    Calls Try.prog 14 #[.int .u64 n] w fun e w' => e = .returned (.int .i64 (zagL n)) ∧ w = w' := by
  have E := Lib.hid (zag_bits n hn hn')
  go_enter Try.func14, Try.ntmps14
  go_wp2
  all_goals go_ret
  exact ⟨ret_eq E.out, rfl⟩
theorem signed_calls (n k : Int) (w : World) (hn : n ≤ 9223372036854775807) (hn' : -9223372036854775808 ≤ n) :
    Calls Try.prog 17 #[.int .i64 n, .int .i64 k] w fun e w' => e = .returned (.int .i64 (sgL n k)) ∧ w = w' := by
  have hb := cnt_bd k 64 (by omega)
  go_enter Try.func17, Try.ntmps17
  go_wp2_with (go_at_call 28; refine (count_calls _ _ _).mono ?_; rintro e w' ⟨rfl, rfl⟩)
  all_goals go_ret
  exact ⟨ret_eq rfl, rfl⟩
theorem mask_calls (k : Int) (w : World) :
    Calls Try.prog 29 #[.int .i64 k] w fun e w' => e = .returned (.int .u64 ((2 ^ (cnt k 64).toNat - 1 : Nat) : Int)) ∧ w = w' := by
  have hb := cnt_bd k 64 (by omega)
  have E := Lib.hid (mask_bits k)
  go_enter Try.func29, Try.ntmps29
  go_wp2_with (go_at_call 28; refine (count_calls _ _ _).mono ?_; rintro e w' ⟨rfl, rfl⟩)
  all_goals first | (exfalso; rename_i h; exact h rfl) | skip
  all_goals go_ret
  all_goals exact ⟨ret_eq E.out, rfl⟩
end Go.Proofs.Ytebkikmgjmmnpaa
