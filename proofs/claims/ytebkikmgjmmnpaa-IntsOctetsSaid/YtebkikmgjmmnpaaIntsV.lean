/- The walks through package ints and the document's answer for layer 1, second part. -/
import Derived.Test.YtebkikmgjmmnpaaIntsW
import Derived.Test.YtebkikmgjmmnpaaLib
import Derived.OwnWalk
namespace Go.Proofs.Ytebkikmgjmmnpaa
open Go.RowKit
set_option linter.unusedVariables false

def layL (n : Int) (m : Nat) : List Int := (List.range m).map fun i => ((U n / 2 ^ (8 * i) % 256 : Nat) : Int)
theorem layL_length (n : Int) (m : Nat) : (layL n m).length = m := by simp [layL]
theorem layL_succ (n : Int) (m : Nat) : layL n (m + 1) = layL n m ++ [((U n / 2 ^ (8 * m) % 256 : Nat) : Int)] := by simp [layL, List.range_succ]

theorem u_div (n : Int) (k : Nat) : IntKind.u64.wrap n / 2 ^ k % 256 = ((U n / 2 ^ k % 256 : Nat) : Int) := by rw [U_wrap]; simp
theorem Try.info_u8 : (Try.prog.info? 5).map (fun i => (i.zero, i.size, i.bytes)) = some (some (.int .u8 0), 1, 1) := by kernel_rfl
theorem Try.info_int : (Try.prog.info? 3).map (fun i => (i.zero, i.size, i.bytes)) = some (some (.int .i64 0), 1, 8) := by kernel_rfl

set_option maxHeartbeats 400000 in
theorem lay_calls (n size : Int) (w : World) (hn : n ≤ 9223372036854775807) (hn' : -9223372036854775808 ≤ n) :
    Calls Try.prog 16 #[.int .i64 n, .int .i64 size] w fun e w' =>
      ∃ v, e = .returned v ∧ w'.ownsRow w.heap.size 5 1 v (cnt size 8).toNat ((layL n (cnt size 8).toNat).map (.int .u8)) ∧ Below w.heap.size w w' := by
  have hb := cnt_bd size 8 (by omega)
  obtain ⟨m, hm⟩ : ∃ m : Nat, cnt size 8 = m := ⟨(cnt size 8).toNat, by omega⟩
  obtain ⟨i0, hi, hz0, hz1, hz2⟩ := info_parts Try.info_u8
  have hm8 : m ≤ 8 := by omega
  have HM := Lib.hid hm
  clear hm
  go_enter Try.func16, Try.ntmps16
  go_wp2_with (go_at_call 28; refine (count_calls _ _ _).mono ?_; rintro e w' ⟨rfl, rfl⟩)
  rw [HM.out]
  clear hb
  go_loopw [5, 9] (fun v i wr => ∃ k : Nat, k ≤ m ∧ i = .int .i64 k ∧ wr.ownsRow w.heap.size 5 1 v k ((layL n k).map (.int .u8)) ∧ Below w.heap.size w wr) (fun _ i _ => m - (intOf i).toNat)
  case atStart => exact ⟨0, Nat.zero_le _, rfl, World.ownsRow_nil _ _ _ _, Below.refl _ _⟩
  case round =>
    obtain ⟨k, hk, rfl, hown, hbel⟩ := hrel
    by_cases hlt : k < m
    · have hbw := hbel.size
      go_wp2_with (at_builtin; refine wpList_append1 rfl (.tmp 12) (.tmp 19) 29 rfl w.heap.size 5 i0 (.int .u8 0) 1 Try.underlying29 hi hz0 hz1 hz2 rfl u5 _ _ rfl hown rfl rfl (by omega) (by unfold maxLen; omega) (by omega) ?_; intro v' w1 hown1 hgr1 hne1)
      refine ⟨⟨k + 1, by omega, by go_num, ?_, hbel.grown hgr1 hbw (fun j hj => (hown.lt j hj).1)⟩, by simp [intOf]; omega⟩
      rw [layL_succ, List.map_append, ← u_div]
      exact hown1
    · go_wp2
      go_ret
      have hkm : k = m := by omega
      subst hkm
      refine ⟨_, rfl, ?_, hbel⟩
      rw [HM.out, Int.toNat_natCast]
      exact hown

theorem low_calls (n k : Int) (w : World) :
    Calls Try.prog 18 #[.int .i64 n, .int .i64 k] w fun e w' => e = .returned (.int .i64 (lowL n k)) ∧ w = w' := by
  have hb := cnt_bd k 64 (by omega)
  have e : wrap64 (bits .and .u64 (IntKind.u64.wrap n) ((2 ^ (cnt k 64).toNat - 1 : Nat) : Int)) = lowL n k := by rw [low_bits n _ (by omega)]; rfl
  have E := Lib.hid e
  clear e hb
  go_enter Try.func18, Try.ntmps18
  go_wp2_with (go_at_call 29; refine (mask_calls _ _).mono ?_; rintro e w' ⟨rfl, rfl⟩)
  all_goals go_ret
  exact ⟨ret_eq E.out, rfl⟩
theorem short_calls (n k : Int) (w : World) (hn : n ≤ 9223372036854775807) (hn' : -9223372036854775808 ≤ n) :
    Calls Try.prog 15 #[.int .i64 n, .int .i64 k] w fun e w' => e = .returned (.bool (sgL n k == n)) ∧ w = w' := by
  go_enter Try.func15, Try.ntmps15
  go_wp2_with (go_at_call 17; refine (signed_calls _ _ _ hn hn').mono ?_; rintro e w' ⟨rfl, rfl⟩)
  all_goals go_ret
  exact ⟨ret_bool rfl, rfl⟩
theorem bit_calls (n i : Int) (w : World) (hi0 : 0 ≤ i) (hi : i ≤ 63) :
    Calls Try.prog 31 #[.int .i64 n, .int .i64 i] w fun e w' => e = .returned (.int .i64 (bitL n i)) ∧ w = w' := by
  obtain ⟨m, rfl⟩ := Int.eq_ofNat_of_zero_le hi0
  have hU := U_lt n
  have hUw := Lib.hid (U_wrap n)
  go_enter Try.func31, Try.ntmps31
  go_wp2
  rw [hUw.out]
  go_loop [1, 5] (fun i u => ∃ k x : Nat, k ≤ m ∧ x < 18446744073709551616 ∧ i = .int .i64 k ∧ u = .int .u64 x ∧ Hid (x = U n / 2 ^ (m - k))) (fun i _ => (intOf i).toNat)
  case atStart => exact ⟨m, U n, Nat.le_refl _, hU, rfl, rfl, Lib.hid (by simp)⟩
  case round =>
    obtain ⟨k, x, hk, hx, rfl, rfl, hX⟩ := hrel
    by_cases hlt : 0 < k
    · go_wp2
      refine ⟨⟨k - 1, x / 2, by omega, by omega, by go_num, by go_num, Lib.hid ?_⟩, by simp [intOf]; omega⟩
      have : m - (k - 1) = m - k + 1 := by omega
      rw [this, Nat.pow_succ, ← Nat.div_div_eq_div_mul, ← hX.out]
    · have hk0 : k = 0 := by omega
      subst hk0
      go_wp2
      all_goals go_ret
      have h2 := hX.out
      exact ⟨ret_eq (by unfold bitL; rw [Nat.sub_zero] at h2; rw [Int.toNat_natCast, ← h2]; simp), rfl⟩
end Go.Proofs.Ytebkikmgjmmnpaa
