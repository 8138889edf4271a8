/- Plain mathematics and the walks of IntsTurns: bits turned, the greatest bit. -/
import Derived.Test.YtebkikmgjmmnpaaIntsX
import Derived.Test.YtebkikmgjmmnpaaIntsL
namespace Go.Proofs.Ytebkikmgjmmnpaa
open Go.RowKit
set_option linter.unusedVariables false

/-! ### bits turned -/
/-- One bit to the left, in 32. -/
def rot1 (x : Nat) : Nat := 2 * x % 4294967296 + 2 * x / 4294967296
def rot : Nat → Nat → Nat
  | 0, x => x
  | k + 1, x => rot1 (rot k x)
theorem rot1_lt (x : Nat) (h : x < 4294967296) : rot1 x < 4294967296 := by unfold rot1; omega
theorem rot_lt (k x : Nat) (h : x < 4294967296) : rot k x < 4294967296 := by
  induction k with
  | zero => exact h
  | succ k ih => exact rot1_lt _ ih
theorem rot_add (a b x : Nat) : rot (a + b) x = rot a (rot b x) := by
  induction a with
  | zero => simp [rot]
  | succ a ih => rw [show a + 1 + b = (a + b) + 1 by omega]; simp only [rot]; rw [ih]
theorem rot_form (k : Nat) (hk : k ≤ 32) (x : Nat) (h : x < 4294967296) : rot k x = x * 2 ^ k % 4294967296 + x / 2 ^ (32 - k) := by
  induction k with
  | zero => simp only [rot, Nat.pow_zero, Nat.sub_zero]; omega
  | succ k ih =>
    simp only [rot]
    rw [ih (by omega)]
    obtain ⟨s, hs⟩ : ∃ s, 32 - k = s + 1 := ⟨31 - k, by omega⟩
    have hs' : 32 - (k + 1) = s := by omega
    rw [hs, hs', Nat.pow_succ, Nat.pow_succ]
    have e : 2 ^ k * 2 ^ (s + 1) = 4294967296 := by rw [← Nat.pow_add, show k + (s + 1) = 32 by omega]
    rw [Nat.pow_succ] at e
    -- x = a * 2^s*2 + b
    have hd := Nat.div_add_mod x (2 ^ s * 2)
    have hm := Nat.mod_lt x (show 0 < 2 ^ s * 2 by have := pow_pos2 s; omega)
    generalize ha : x / (2 ^ s * 2) = a at *
    generalize hb : x % (2 ^ s * 2) = b at *
    have ps := pow_pos2 s
    have pk := pow_pos2 k
    have hak : a < 2 ^ k := by
      rw [← ha, Nat.div_lt_iff_lt_mul (by omega), e]
      exact h
    have hxk : x * 2 ^ k = b * 2 ^ k + 4294967296 * a := by
      rw [← hd, Nat.add_mul, ← e]
      have : 2 ^ s * 2 * a * 2 ^ k = 2 ^ k * (2 ^ s * 2) * a := by
        rw [Nat.mul_right_comm, Nat.mul_comm (2 ^ s * 2) (2 ^ k)]
      omega
    have hbk : b * 2 ^ k < 4294967296 := by
      rw [← e, Nat.mul_comm]
      exact Nat.mul_lt_mul_of_pos_left hm pk
    have hx1 : x * 2 ^ k % 4294967296 = b * 2 ^ k := by rw [hxk]; omega
    rw [hx1]
    have hk2 : x * (2 ^ k * 2) = 2 * (b * 2 ^ k) + 4294967296 * (2 * a) := by
      rw [← Nat.mul_assoc, hxk]; omega
    rw [hk2]
    -- b * 2^k is a multiple of 2^k, and so is 2^31
    have hxs : x / 2 ^ s = 2 * a + b / 2 ^ s := by
      rw [← hd]
      have : 2 ^ s * 2 * a + b = b + 2 ^ s * (2 * a) := by rw [Nat.mul_assoc]; omega
      rw [this, Nat.add_mul_div_left _ _ ps]; omega
    rw [hxs]
    have e31 : 2 ^ k * 2 ^ s = 2147483648 := by
      have : 2 ^ k * (2 ^ s * 2) = 2 * (2 ^ k * 2 ^ s) := by rw [← Nat.mul_assoc, Nat.mul_comm]
      omega
    by_cases hbs : b < 2 ^ s
    · rw [Nat.div_eq_of_lt hbs]
      have hb31 : b * 2 ^ k < 2147483648 := by
        rw [← e31, Nat.mul_comm]
        exact Nat.mul_lt_mul_of_pos_left hbs pk
      have hsum : 2 * (b * 2 ^ k + a) < 4294967296 := by
        -- b*2^k ≤ 2^31 - 2^k
        have h1 : (b + 1) * 2 ^ k ≤ 2 ^ s * 2 ^ k := Nat.mul_le_mul_right _ hbs
        rw [Nat.mul_comm (2 ^ s), e31, Nat.add_mul, Nat.one_mul] at h1
        omega
      unfold rot1
      omega
    · obtain ⟨c, hc⟩ : ∃ c, b = 2 ^ s + c := ⟨b - 2 ^ s, by omega⟩
      have hcs : c < 2 ^ s := by omega
      have hdiv : b / 2 ^ s = 1 := by
        rw [hc, Nat.add_div_left _ ps, Nat.div_eq_of_lt hcs]
      rw [hdiv]
      have hbk2 : b * 2 ^ k = 2147483648 + c * 2 ^ k := by
        rw [hc, Nat.add_mul, Nat.mul_comm (2 ^ s), e31]
      have h1 : (c + 1) * 2 ^ k ≤ 2 ^ s * 2 ^ k := Nat.mul_le_mul_right _ hcs
      rw [Nat.mul_comm (2 ^ s), e31, Nat.add_mul, Nat.one_mul] at h1
      rw [hbk2]
      unfold rot1
      omega
theorem rot_32 (x : Nat) (h : x < 4294967296) : rot 32 x = x := by
  rw [rot_form 32 (by omega) x h]; simp
theorem rot_mod (k x : Nat) (h : x < 4294967296) : rot (k % 32) x = rot k x := by
  have : ∀ q r, rot (32 * q + r) x = rot r x := by
    intro q r
    induction q with
    | zero => simp
    | succ q ih =>
      rw [show 32 * (q + 1) + r = 32 + (32 * q + r) by omega, rot_add, rot_32 _ (rot_lt _ _ h), ih]
  have e := this (k / 32) (k % 32)
  rw [Nat.div_add_mod] at e
  exact e.symm

/-- Turned by any number. -/
def turnL (u k : Int) : Int := ((rot (k % 32).toNat u.toNat : Nat) : Int)
theorem turnL_bd (u k : Int) (h0 : 0 ≤ u) (h1 : u ≤ 4294967295) : 0 ≤ turnL u k ∧ turnL u k ≤ 4294967295 := by
  unfold turnL
  have := rot_lt (k % 32).toNat u.toNat (by omega)
  omega
theorem turn_turn (u a b : Int) (h0 : 0 ≤ u) (h1 : u ≤ 4294967295) : turnL (turnL u a) b = turnL u (a + b) := by
  unfold turnL
  rw [Int.toNat_natCast, ← rot_add]
  have hu : u.toNat < 4294967296 := by omega
  rw [← rot_mod ((b % 32).toNat + (a % 32).toNat) _ hu]
  congr 2
  omega
theorem turn_zero (u k : Int) (h0 : 0 ≤ u) (hk : k % 32 = 0) : turnL u k = u := by
  unfold turnL; rw [hk]; simp [rot]; omega
theorem and31 (k : Int) : bits .and .u64 (IntKind.u64.wrap k) 31 = k % 32 := by
  have e : (31 : Int) = ((31 : Nat) : Int) := rfl
  rw [U_wrap, e, u64_and_nat _ _ (U_lt k) (by omega), nat_mask5]
  have := U_cast k
  omega
theorem or_u32 (u c : Nat) (hc : c < 32) (hu : u < 4294967296) : bits .or .u32 (IntKind.u32.wrap ((u : Int) * 2 ^ c)) ((u : Int) / 2 ^ (32 - c)) = ((rot c u : Nat) : Int) := by
  have e1 : IntKind.u32.wrap ((u : Int) * 2 ^ c) = ((u * 2 ^ c % 4294967296 : Nat) : Int) := by
    rw [IntKind.wrap_u32]; simp
  have e2 : (u : Int) / 2 ^ (32 - c) = ((u / 2 ^ (32 - c) : Nat) : Int) := by simp
  have hy : u / 2 ^ (32 - c) < 2 ^ c := by
    rw [Nat.div_lt_iff_lt_mul (pow_pos2 _), ← Nat.pow_add, show c + (32 - c) = 32 by omega]
    exact hu
  have hle : 2 ^ c ≤ 4294967296 := Nat.pow_le_pow_right (show 0 < 2 by omega) (show c ≤ 32 by omega)
  have hx : u * 2 ^ c % 4294967296 % 2 ^ c = 0 := by
    have : 4294967296 = 2 ^ c * 2 ^ (32 - c) := by rw [← Nat.pow_add, show c + (32 - c) = 32 by omega]
    rw [this, Nat.mod_mul_right_mod, Nat.mul_mod_left]
  rw [e1, e2, u32_or_nat _ _ (by omega) (by omega), nat_join c _ _ hx hy, rot_form c (by omega) u hu]

set_option maxHeartbeats 400000 in
theorem turn_calls (u k : Int) (w : World) (h0 : 0 ≤ u) (h1 : u ≤ 4294967295) :
    Calls Try.prog 24 #[.int .u32 u, .int .i64 k] w fun e w' => e = .returned (.int .u32 (turnL u k)) ∧ w = w' := by
  obtain ⟨x, rfl⟩ := Int.eq_ofNat_of_zero_le h0
  obtain ⟨c, hc⟩ : ∃ c : Nat, k % 32 = c := ⟨(k % 32).toNat, by omega⟩
  have hc32 : c < 32 := by omega
  have e := and31 k
  rw [hc] at e
  have E := Lib.hid (or_u32 x c hc32 (by omega))
  have hT : turnL (x : Int) k = ((rot c x : Nat) : Int) := by unfold turnL; rw [hc]; simp
  have HT := Lib.hid hT
  clear hc hT
  go_enter Try.func24, Try.ntmps24
  go_wp2
  all_goals go_ret
  exact ⟨ret_eq (by rw [HT.out, ← E.out, IntKind.wrap_u32]), rfl⟩

set_option maxHeartbeats 400000 in
theorem rturn_calls (u k : Int) (w : World) (h0 : 0 ≤ u) (h1 : u ≤ 4294967295) :
    Calls Try.prog 25 #[.int .u32 u, .int .i64 k] w fun e w' => e = .returned (.int .u32 (turnL u k)) ∧ w = w' := by
  obtain ⟨x, rfl⟩ := Int.eq_ofNat_of_zero_le h0
  have hx : x < 4294967296 := by omega
  have ht : k.tmod 32 = k % 32 ∨ (k.tmod 32 < 0 ∧ k.tmod 32 + 32 = k % 32) := by
    have e := @Int.tmod_eq_emod k 32
    have b := Int.emod_nonneg k (show (32 : Int) ≠ 0 by omega)
    have b' := Int.emod_lt_of_pos k (show (0 : Int) < 32 by omega)
    have e32 : ((Int.natAbs 32 : Nat) : Int) = 32 := rfl
    split at e
    · left; omega
    · right; rw [e, e32]; omega
  have hT : turnL (x : Int) k = ((rot (k % 32).toNat x : Nat) : Int) := by unfold turnL; simp
  have HT := Lib.hid hT
  clear hT
  have main : ∀ (t : Int), 0 ≤ t → t < 32 → True := fun _ _ _ => trivial
  rcases ht with ht | ⟨ht0, ht⟩
  · obtain ⟨c, hc⟩ : ∃ c : Nat, k % 32 = c := ⟨(k % 32).toNat, by omega⟩
    have hc32 : c < 32 := by omega
    rw [hc] at HT ht
    clear hc
    go_enter Try.func25, Try.ntmps25
    go_wp2
    go_loop [5, 6] (fun i v => ∃ (j y : Nat), j ≤ c ∧ y < 4294967296 ∧ i = .int .i64 j ∧ v = .int .u64 y ∧ Hid (y = rot (c - j) x)) (fun i _ => (intOf i).toNat)
    case atStart => exact ⟨c, x, Nat.le_refl _, hx, rfl, rfl, Lib.hid (by simp [rot])⟩
    case round =>
      obtain ⟨j, y, hj, hy, rfl, rfl, hY⟩ := hrel
      by_cases hlt : 0 < j
      · go_wp2
        refine ⟨⟨j - 1, rot1 y, by omega, rot1_lt _ hy, by go_num, by unfold rot1; go_num, Lib.hid ?_⟩, by simp [intOf]; omega⟩
        rw [show c - (j - 1) = c - j + 1 by omega]
        simp only [rot]
        rw [← hY.out]
      · have hj0 : j = 0 := by omega
        subst hj0
        go_wp2
        go_ret
        have h2 := hY.out
        rw [Nat.sub_zero] at h2
        exact ⟨ret_eq (by rw [HT.out, Int.toNat_natCast, ← h2]), rfl⟩
  · obtain ⟨c, hc⟩ : ∃ c : Nat, k % 32 = c := ⟨(k % 32).toNat, by omega⟩
    have hc32 : c < 32 := by omega
    rw [hc] at HT ht
    obtain ⟨t, hte⟩ : ∃ t : Int, k.tmod 32 = t := ⟨_, rfl⟩
    rw [hte] at ht ht0
    have htc : t = (c : Int) - 32 := by omega
    subst htc
    clear hc ht
    go_enter Try.func25, Try.ntmps25
    go_wp2
    go_loop [5, 6] (fun i v => ∃ (j y : Nat), j ≤ c ∧ y < 4294967296 ∧ i = .int .i64 j ∧ v = .int .u64 y ∧ Hid (y = rot (c - j) x)) (fun i _ => (intOf i).toNat)
    case atStart => exact ⟨c, x, Nat.le_refl _, hx, by go_num, rfl, Lib.hid (by simp [rot])⟩
    case round =>
      obtain ⟨j, y, hj, hy, rfl, rfl, hY⟩ := hrel
      by_cases hlt : 0 < j
      · go_wp2
        refine ⟨⟨j - 1, rot1 y, by omega, rot1_lt _ hy, by go_num, by unfold rot1; go_num, Lib.hid ?_⟩, by simp [intOf]; omega⟩
        rw [show c - (j - 1) = c - j + 1 by omega]
        simp only [rot]
        rw [← hY.out]
      · have hj0 : j = 0 := by omega
        subst hj0
        go_wp2
        go_ret
        have h2 := hY.out
        rw [Nat.sub_zero] at h2
        exact ⟨ret_eq (by rw [HT.out, Int.toNat_natCast, ← h2]), rfl⟩
end Go.Proofs.Ytebkikmgjmmnpaa
