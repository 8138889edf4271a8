/- Plain mathematics for layer 1 (ints): multiples, zigzag, low bits with and without a sign, octets, turned bits, the greatest bit. No program in sight. -/
import Derived.WalkKit
namespace Go.Proofs.Ytebkikmgjmmnpaa
open Go.RowKit

/-! ### multiples -/
def upL (n to : Int) : Int :=
  if n < 1 ∨ to < 1 ∨ 4611686018427387904 < n then 0
  else if 4611686018427387904 / ((n - 1) / to + 1) < to then 0
  else ((n - 1) / to + 1) * to
def rupL (n to : Int) : Int :=
  if n < 1 ∨ to < 1 ∨ 4611686018427387904 < n then 0
  else if n % to = 0 then n
  else if 4611686018427387904 - n < to - n % to then 0
  else n - n % to + to

theorem up_facts (n to : Int) (hn : 1 ≤ n) (ht : 1 ≤ to) :
    0 ≤ (n - 1) / to ∧ (n - 1) / to ≤ n - 1 ∧ n ≤ ((n - 1) / to + 1) * to ∧ ((n - 1) / to + 1) * to - to < n ∧
      ((n % to = 0 ∧ ((n - 1) / to + 1) * to = n) ∨ (1 ≤ n % to ∧ n % to < to ∧ ((n - 1) / to + 1) * to = n - n % to + to)) := by
  have e := Int.emod_add_mul_ediv (n - 1) to
  have h0 := Int.emod_nonneg (n - 1) (show to ≠ 0 by omega)
  have h1 := Int.emod_lt_of_pos (n - 1) (show 0 < to by omega)
  have hq := Int.ediv_nonneg (show 0 ≤ n - 1 by omega) (show 0 ≤ to by omega)
  have hq' := Int.ediv_le_self to (show 0 ≤ n - 1 by omega)
  have hc : ((n - 1) / to + 1) * to = to * ((n - 1) / to) + to := by rw [Int.add_mul, Int.mul_comm, Int.one_mul]
  refine ⟨hq, hq', by omega, by omega, ?_⟩
  by_cases hs : (n - 1) % to = to - 1
  · left
    have en : n = ((n - 1) / to + 1) * to := by omega
    refine ⟨?_, by omega⟩
    rw [en]; exact Int.mul_emod_left _ _
  · right
    have en : n % to = (n - 1) % to + 1 := by
      have : n = (n - 1) % to + 1 + to * ((n - 1) / to) := by omega
      rw [this, Int.add_mul_emod_self_left]
      rw [Int.emod_eq_of_lt (by omega) (by omega)]
      have : (n - 1) % to + 1 + to * ((n - 1) / to) - 1 = n - 1 := by omega
      rw [this]
    omega

theorem up_gt (n to : Int) (hn : 1 ≤ n) (ht : 1 ≤ to) :
    4611686018427387904 / ((n - 1) / to + 1) < to ↔ 4611686018427387904 < ((n - 1) / to + 1) * to := by
  have h := up_facts n to hn ht
  rw [Int.ediv_lt_iff_lt_mul (by omega), Int.mul_comm]

theorem up_eq (n to : Int) : upL n to = rupL n to := by
  unfold upL rupL
  by_cases h : n < 1 ∨ to < 1 ∨ 4611686018427387904 < n
  · rw [if_pos h, if_pos h]
  · rw [if_neg h, if_neg h]
    have f := up_facts n to (by omega) (by omega)
    have g := up_gt n to (by omega) (by omega)
    obtain ⟨f1, f2, f3, f4, ⟨f5, f6⟩ | ⟨f5, f6, f7⟩⟩ := f
    · rw [if_pos f5, if_neg (by rw [g]; omega)]; exact f6
    · by_cases k : 4611686018427387904 / ((n - 1) / to + 1) < to
      · rw [if_pos k, if_neg (show ¬ n % to = 0 by omega), if_pos (by rw [g] at k; omega)]
      · rw [if_neg k, if_neg (show ¬ n % to = 0 by omega), if_neg (by rw [g] at k; omega)]; exact f7

theorem up_good (n to : Int) (h : upL n to ≠ 0) : 1 ≤ to ∧ 1 ≤ n ∧ n ≤ upL n to ∧ upL n to ≤ 4611686018427387904 ∧ upL n to % to = 0 ∧ upL n to - to < n ∧ to ≤ 4611686018427387904 := by
  unfold upL at h ⊢
  by_cases h1 : n < 1 ∨ to < 1 ∨ 4611686018427387904 < n
  · rw [if_pos h1] at h; exact absurd rfl h
  · rw [if_neg h1] at h ⊢
    have f := up_facts n to (by omega) (by omega)
    have g := up_gt n to (by omega) (by omega)
    by_cases k : 4611686018427387904 / ((n - 1) / to + 1) < to
    · rw [if_pos k] at h; exact absurd rfl h
    · rw [if_neg k]
      rw [g] at k
      have hm : ((n - 1) / to + 1) * to % to = 0 := Int.mul_emod_left _ _
      have hle : to ≤ ((n - 1) / to + 1) * to := by
        have := Int.mul_le_mul_of_nonneg_right (show 1 ≤ (n - 1) / to + 1 by omega) (show 0 ≤ to by omega)
        omega
      omega

/-! ### zigzag -/
def zigL (n : Int) : Int := if 0 ≤ n then 2 * n else -2 * n - 1
def zagL (u : Int) : Int := if u % 2 = 0 then u / 2 else -(u / 2) - 1

theorem xor_all (x : Nat) (h : x < 18446744073709551616) : x ^^^ 18446744073709551615 = 18446744073709551615 - x := by
  have e : (BitVec.ofNat 64 x ^^^ BitVec.allOnes 64) = ~~~ (BitVec.ofNat 64 x) := BitVec.xor_allOnes
  have := congrArg BitVec.toNat e
  rw [BitVec.toNat_xor, BitVec.toNat_not, BitVec.toNat_allOnes, BitVec.toNat_ofNat] at this
  rw [Nat.mod_eq_of_lt (by omega)] at this
  exact this

theorem zig_bits (n : Int) (hn : n ≤ 9223372036854775807) (hn' : -9223372036854775808 ≤ n) :
    bits .xor .u64 (IntKind.u64.wrap (IntKind.u64.wrap n * 2)) (IntKind.u64.wrap (n / 9223372036854775808)) = zigL n := by
  unfold zigL
  by_cases h : 0 ≤ n
  · rw [if_pos h]
    have e1 : IntKind.u64.wrap (n / 9223372036854775808) = ((0 : Nat) : Int) := by rw [IntKind.wrap_u64]; omega
    have e2 : IntKind.u64.wrap (IntKind.u64.wrap n * 2) = ((2 * n).toNat : Int) := by rw [IntKind.wrap_u64, IntKind.wrap_u64]; omega
    rw [e1, e2, u64_xor_nat _ _ (by omega) (by omega), Nat.xor_zero]; omega
  · rw [if_neg h]
    have e1 : IntKind.u64.wrap (n / 9223372036854775808) = ((18446744073709551615 : Nat) : Int) := by rw [IntKind.wrap_u64]; omega
    have e2 : IntKind.u64.wrap (IntKind.u64.wrap n * 2) = ((2 * n + 18446744073709551616).toNat : Int) := by rw [IntKind.wrap_u64, IntKind.wrap_u64]; omega
    rw [e1, e2, u64_xor_nat _ _ (by omega) (by omega), xor_all _ (by omega)]; omega

theorem zigL_bd (n : Int) (hn : n ≤ 9223372036854775807) (hn' : -9223372036854775808 ≤ n) : 0 ≤ zigL n ∧ zigL n ≤ 18446744073709551615 := by
  unfold zigL; split <;> omega
theorem zagL_bd (n : Int) (hn : n ≤ 18446744073709551615) (hn' : 0 ≤ n) : -9223372036854775808 ≤ zagL n ∧ zagL n ≤ 9223372036854775807 := by
  unfold zagL; split <;> omega

theorem xor_i64_nat (a b : Nat) (ha : a < 18446744073709551616) (hb : b < 18446744073709551616) : bits .xor .i64 (a : Int) (b : Int) = wrap64 ((a ^^^ b : Nat) : Int) := by
  have h1 : (BitVec.ofInt 64 (a : Int)).toNat = a := by
    rw [BitVec.ofInt_natCast, BitVec.toNat_ofNat]; exact Nat.mod_eq_of_lt (by omega)
  have h2 : (BitVec.ofInt 64 (b : Int)).toNat = b := by
    rw [BitVec.ofInt_natCast, BitVec.toNat_ofNat]; exact Nat.mod_eq_of_lt (by omega)
  show IntKind.i64.wrap ((BitVec.ofInt 64 (a : Int) ^^^ BitVec.ofInt 64 (b : Int)).toNat : Int) = _
  rw [BitVec.toNat_xor, h1, h2, IntWalk.i64_left]
theorem xor_i64_neg1 (a : Nat) (ha : a < 18446744073709551616) : bits .xor .i64 (a : Int) (-1) = wrap64 ((18446744073709551615 - a : Nat) : Int) := by
  have h1 : (BitVec.ofInt 64 (a : Int)).toNat = a := by
    rw [BitVec.ofInt_natCast, BitVec.toNat_ofNat]; exact Nat.mod_eq_of_lt (by omega)
  have h2 : (BitVec.ofInt 64 (-1 : Int)).toNat = 18446744073709551615 := by decide
  show IntKind.i64.wrap ((BitVec.ofInt 64 (a : Int) ^^^ BitVec.ofInt 64 (-1 : Int)).toNat : Int) = _
  rw [BitVec.toNat_xor, h1, h2, IntWalk.i64_left, xor_all a ha]

theorem and1 (u : Int) (h0 : 0 ≤ u) (h1 : u ≤ 18446744073709551615) : bits .and .u64 u 1 = u % 2 := by
  rw [u64_and u 1 h0 (by omega) (by omega) (by omega)]
  have : u.toNat &&& (1 : Int).toNat = u.toNat % 2 := nat_mask1 _
  rw [this]; omega

theorem zag_bits (u : Int) (hn : u ≤ 18446744073709551615) (hn' : 0 ≤ u) :
    bits .xor .i64 (u / 2) (wrap64 (-wrap64 (bits .and .u64 u 1))) = zagL u := by
  rw [and1 u hn' hn]
  unfold zagL
  by_cases h : u % 2 = 0
  · rw [if_pos h, h]
    have e : wrap64 (-wrap64 0) = ((0 : Nat) : Int) := by unfold wrap64; decide
    have e2 : u / 2 = ((u / 2).toNat : Int) := by omega
    rw [e, e2, xor_i64_nat _ _ (by omega) (by omega), Nat.xor_zero, ← e2, IntWalk.wrap64_in _ (by omega)]
  · rw [if_neg h]
    have h1 : u % 2 = 1 := by omega
    rw [h1]
    have e : wrap64 (-wrap64 1) = -1 := by unfold wrap64; decide
    have e2 : u / 2 = ((u / 2).toNat : Int) := by omega
    rw [e, e2, xor_i64_neg1 _ (by omega)]
    unfold wrap64; omega

theorem rzig_neg (n : Int) (h : n < 0) (hn' : -9223372036854775808 ≤ n) :
    IntKind.u64.wrap (IntKind.u64.wrap (2 * IntKind.u64.wrap (-IntKind.u64.wrap n)) - 1) = zigL n := by
  simp only [IntKind.wrap_u64]; unfold zigL; rw [if_neg (by omega)]; omega

theorem zag_zig (n : Int) : zagL (zigL n) = n := by unfold zagL zigL; split <;> split <;> omega
theorem zig_zag (u : Int) (h : 0 ≤ u) : zigL (zagL u) = u := by unfold zigL zagL; split <;> split <;> omega
theorem zig_lt (n m : Int) (hn : 0 ≤ n) (hm : 0 ≤ m) : (n < m) ↔ (zigL n < zigL m) := by unfold zigL; rw [if_pos hn, if_pos hm]; omega
end Go.Proofs.Ytebkikmgjmmnpaa
