/- Plain mathematics for layer 1 (ints), second part: low bits with and without a sign, numbers of bits. No program in sight. -/
import Derived.Test.YtebkikmgjmmnpaaInts
namespace Go.Proofs.Ytebkikmgjmmnpaa
open Go.RowKit

/-! ### low bits -/
def cnt (n l : Int) : Int := min (max n 0) l
theorem cnt_bd (n l : Int) (h : 0 ≤ l) : 0 ≤ cnt n l ∧ cnt n l ≤ l := by unfold cnt; omega
/-- A number's 64 bits as a natural number. -/
def U (n : Int) : Nat := (n % 18446744073709551616).toNat
theorem U_lt (n : Int) : U n < 18446744073709551616 := by unfold U; omega
theorem U_cast (n : Int) : ((U n : Nat) : Int) = n % 18446744073709551616 := by unfold U; omega
theorem U_wrap (n : Int) : IntKind.u64.wrap n = ((U n : Nat) : Int) := by rw [IntKind.wrap_u64, U_cast]
theorem wrap_U (n : Int) (hn : n ≤ 9223372036854775807) (hn' : -9223372036854775808 ≤ n) : wrap64 ((U n : Nat) : Int) = n := by unfold wrap64 U; omega
theorem U_of_nat (x : Nat) (h : x < 18446744073709551616) : U ((x : Nat) : Int) = x := by unfold U; omega
theorem U_wrap64 (n : Int) : U (wrap64 n) = U n := by unfold wrap64 U; omega

def lowL (n k : Int) : Int := wrap64 ((U n % 2 ^ (cnt k 64).toNat : Nat) : Int)
def sgL (n k : Int) : Int := wrap64 (n * 2 ^ (64 - cnt k 64).toNat) / 2 ^ (64 - cnt k 64).toNat

theorem mask_all : ∀ c : Fin 65, bits .xor .u64 IntKind.u64.max (IntKind.u64.wrap (18446744073709551615 * 2 ^ c.val)) = ((2 ^ c.val - 1 : Nat) : Int) := by decide +kernel
theorem mask_bits (k : Int) : bits .xor .u64 IntKind.u64.max (IntKind.u64.wrap (18446744073709551615 * 2 ^ (cnt k 64).toNat)) = ((2 ^ (cnt k 64).toNat - 1 : Nat) : Int) := by
  have := cnt_bd k 64 (by omega)
  exact mask_all ⟨(cnt k 64).toNat, by omega⟩
theorem pow_le64 (c : Nat) (h : c ≤ 64) : 2 ^ c ≤ 18446744073709551616 := by
  have := Nat.pow_le_pow_right (show 0 < 2 by omega) h
  simpa using this
theorem pow_pos2 (c : Nat) : 0 < 2 ^ c := Nat.pow_pos (by omega)
theorem low_bits (n : Int) (c : Nat) (h : c ≤ 64) : bits .and .u64 (IntKind.u64.wrap n) ((2 ^ c - 1 : Nat) : Int) = ((U n % 2 ^ c : Nat) : Int) := by
  have h1 := pow_le64 c h
  have h2 := pow_pos2 c
  rw [U_wrap, u64_and_nat _ _ (U_lt n) (by omega), Nat.and_two_pow_sub_one_eq_mod]

/-! ### the two halves of a number with a sign: with b = 2^c = 2*h -/
theorem sg_core (n a h : Int) (ha : 1 ≤ a) (hh : 1 ≤ h) (e : a * h = 9223372036854775808) :
    wrap64 (n * a) / a = (n + h) % (2 * h) - h := by
  have e2 : (2 * h) * a = 18446744073709551616 := by rw [Int.mul_assoc, Int.mul_comm h a, e]; rfl
  have d := Int.emod_add_mul_ediv (n + h) (2 * h)
  have r0 := Int.emod_nonneg (n + h) (show 2 * h ≠ 0 by omega)
  have r1 := Int.emod_lt_of_pos (n + h) (show 0 < 2 * h by omega)
  generalize (n + h) % (2 * h) = r at *
  generalize (n + h) / (2 * h) = q at *
  have hn : n = r - h + 2 * h * q := by omega
  have hna : n * a = (r - h) * a + 18446744073709551616 * q := by
    rw [hn, Int.add_mul, Int.mul_assoc, Int.mul_comm q a, ← Int.mul_assoc, e2]
  have b0 : -9223372036854775808 ≤ (r - h) * a := by
    have := Int.mul_le_mul_of_nonneg_right (show -h ≤ r - h by omega) (show 0 ≤ a by omega)
    have e3 : -h * a = -9223372036854775808 := by rw [Int.neg_mul, Int.mul_comm, e]
    omega
  have b1 : (r - h) * a < 9223372036854775808 := by
    have := Int.mul_lt_mul_of_pos_right (show r - h < h by omega) (show 0 < a by omega)
    rw [Int.mul_comm h a, e] at this
    exact this
  have hw : wrap64 (n * a) = (r - h) * a := by unfold wrap64; rw [hna]; omega
  rw [hw, Int.mul_ediv_cancel _ (by omega)]

/-- The number of c bits, least first. -/
def hor : List Int → Int
  | [] => 0
  | b :: l => b + 2 * hor l
theorem hor_bd (l : List Int) (h : ∀ b ∈ l, 0 ≤ b ∧ b ≤ 1) : 0 ≤ hor l ∧ hor l < 2 ^ l.length := by
  induction l with
  | nil => simp [hor]
  | cons b l ih =>
    have hb := h b (by simp)
    have i := ih (fun x hx => h x (by simp [hx]))
    simp only [hor, List.length_cons, Int.pow_succ]
    omega
theorem hor_append (l m : List Int) : hor (l ++ m) = hor l + 2 ^ l.length * hor m := by
  induction l with
  | nil => simp [hor]
  | cons b l ih =>
    simp only [List.cons_append, hor, ih, List.length_cons, Int.pow_succ]
    rw [Int.mul_add, ← Int.add_assoc, Int.mul_comm (2 ^ l.length) 2, Int.mul_assoc]
/-- Bit i of a number. -/
def bitL (n i : Int) : Int := ((U n / 2 ^ i.toNat % 2 : Nat) : Int)
theorem bitL_bd (n i : Int) : 0 ≤ bitL n i ∧ bitL n i ≤ 1 := by unfold bitL; omega
def bitsOf (x : Nat) (c : Nat) : List Int := (List.range c).map fun i => ((x / 2 ^ i % 2 : Nat) : Int)
theorem bitsOf_length (x c : Nat) : (bitsOf x c).length = c := by simp [bitsOf]
theorem bitsOf_succ (x c : Nat) : bitsOf x (c + 1) = bitsOf x c ++ [((x / 2 ^ c % 2 : Nat) : Int)] := by simp [bitsOf, List.range_succ]
theorem bitsOf_cons (x c : Nat) : bitsOf x (c + 1) = ((x % 2 : Nat) : Int) :: bitsOf (x / 2) c := by
  unfold bitsOf
  rw [List.range_succ_eq_map]
  simp only [List.map_cons, List.map_map, Nat.pow_zero, Nat.div_one]
  congr 1
  apply List.map_congr_left
  intro i _
  simp only [Function.comp, Nat.succ_eq_add_one]
  rw [Nat.pow_succ', Nat.div_div_eq_div_mul]
theorem bitsOf_bd (x c : Nat) : ∀ b ∈ bitsOf x c, 0 ≤ b ∧ b ≤ 1 := by
  intro b hb
  simp only [bitsOf, List.mem_map] at hb
  obtain ⟨i, _, rfl⟩ := hb
  omega
theorem hor_bitsOf (c : Nat) : ∀ x : Nat, hor (bitsOf x c) = ((x % 2 ^ c : Nat) : Int) := by
  induction c with
  | zero => intro x; simp [bitsOf, hor, Nat.mod_one]
  | succ c ih =>
    intro x
    rw [bitsOf_cons, hor, ih]
    rw [Nat.pow_succ', Nat.mod_mul]
    omega
theorem hor_rep (b : Int) (k : Nat) : hor (List.replicate k b) = b * (2 ^ k - 1) := by
  induction k with
  | zero => simp [hor]
  | succ k ih =>
    simp only [List.replicate_succ, hor, ih, Int.pow_succ]
    have e1 : b * (2 ^ k * 2 - 1) = b * 2 ^ k * 2 - b := by rw [Int.mul_sub, Int.mul_one, Int.mul_assoc]
    have e2 : b * (2 ^ k - 1) = b * 2 ^ k - b := by rw [Int.mul_sub, Int.mul_one]
    omega

theorem low_hor (n k : Int) : wrap64 (hor (bitsOf (U n) (cnt k 64).toNat)) = lowL n k := by rw [hor_bitsOf]; rfl

/-- What the document's Signed lays: c bits, then the last of them. -/
def lastL (n : Int) (c : Nat) : Int := if c = 0 then 0 else bitL n ((c : Int) - 1)
def sgBits (n : Int) (c i : Nat) : List Int := bitsOf (U n) (min i c) ++ List.replicate (i - c) (lastL n c)
theorem sgBits_length (n : Int) (c i : Nat) : (sgBits n c i).length = i := by simp [sgBits, bitsOf_length]; omega
theorem sgBits_bd (n : Int) (c i : Nat) : ∀ b ∈ sgBits n c i, 0 ≤ b ∧ b ≤ 1 := by
  intro b hb
  simp only [sgBits, List.mem_append] at hb
  rcases hb with hb | hb
  · exact bitsOf_bd _ _ b hb
  · have := (List.mem_replicate.1 hb).2
    subst this
    unfold lastL; split
    · omega
    · exact bitL_bd _ _
theorem sgBits_lo (n : Int) (c i : Nat) (h : i < c) : sgBits n c (i + 1) = sgBits n c i ++ [bitL n (i : Int)] := by
  unfold sgBits
  rw [Nat.min_eq_left (by omega), Nat.min_eq_left (by omega), bitsOf_succ, show i + 1 - c = 0 by omega, show i - c = 0 by omega]
  simp [bitL]
theorem sgBits_hi (n : Int) (c i : Nat) (h : c ≤ i) : sgBits n c (i + 1) = sgBits n c i ++ [lastL n c] := by
  unfold sgBits
  rw [Nat.min_eq_right (by omega), Nat.min_eq_right (by omega), show i + 1 - c = (i - c) + 1 by omega, List.replicate_succ', List.append_assoc]

theorem pow_cast (c : Nat) : ((2 ^ c : Nat) : Int) = 2 ^ c := by simp

theorem sg_hor (n : Int) (c : Nat) (h : c ≤ 64) : wrap64 (hor (sgBits n c 64)) = wrap64 (n * 2 ^ (64 - c)) / 2 ^ (64 - c) := by
  unfold sgBits
  rw [Nat.min_eq_right h, hor_append, hor_bitsOf, hor_rep, bitsOf_length]
  by_cases hc : c = 0
  · subst hc
    have : wrap64 (n * 18446744073709551616) = 0 := by unfold wrap64; omega
    simp only [lastL, if_true, Nat.pow_zero, Nat.mod_one, Int.zero_mul, Int.mul_zero, Int.add_zero]
    simp only [Nat.sub_zero, Int.reducePow, this]
    unfold wrap64; decide
  · obtain ⟨d, rfl⟩ : ∃ d, c = d + 1 := ⟨c - 1, by omega⟩
    have ha : (1 : Int) ≤ 2 ^ (64 - (d + 1)) := by have := pow_pos2 (64 - (d + 1)); have e := pow_cast (64 - (d + 1)); omega
    have hh : (1 : Int) ≤ 2 ^ d := by have := pow_pos2 d; have e := pow_cast d; omega
    have e : (2 : Int) ^ (64 - (d + 1)) * 2 ^ d = 9223372036854775808 := by
      rw [← Int.pow_add, show 64 - (d + 1) + d = 63 by omega]; decide
    have e64 : (2 : Int) ^ (d + 1) * 2 ^ (64 - (d + 1)) = 18446744073709551616 := by
      rw [← Int.pow_add, show d + 1 + (64 - (d + 1)) = 64 by omega]; decide
    rw [sg_core n _ _ ha hh e]
    have hp : (2 : Int) ^ (d + 1) = 2 * 2 ^ d := by rw [Int.pow_succ, Int.mul_comm]
    have hN : U n % 2 ^ (d + 1) < 2 ^ (d + 1) := Nat.mod_lt _ (pow_pos2 _)
    have hlast : lastL n (d + 1) = ((U n % 2 ^ (d + 1) / 2 ^ d : Nat) : Int) := by
      unfold lastL bitL
      rw [if_neg (by omega)]
      have : ((((d + 1 : Nat) : Int) - 1)).toNat = d := by omega
      rw [this, Nat.pow_succ, Nat.mod_mul_right_div_self]
    -- n mod 2^(d+1)
    have hmod : ((U n % 2 ^ (d + 1) : Nat) : Int) = n % 2 ^ (d + 1) := by
      rw [Int.natCast_emod, U_cast, pow_cast]
      exact Int.emod_emod_of_dvd n ⟨2 ^ (64 - (d + 1)), e64.symm⟩
    generalize U n % 2 ^ (d + 1) = x at *
    have hbig : 2 ^ (d + 1) * (lastL n (d + 1) * (2 ^ (64 - (d + 1)) - 1)) = lastL n (d + 1) * (18446744073709551616 - 2 ^ (d + 1)) := by
      rw [← Int.mul_assoc, Int.mul_comm (2 ^ (d + 1)) (lastL n (d + 1)), Int.mul_assoc, Int.mul_sub, e64, Int.mul_one]
    rw [hbig, hp]
    rw [hp] at hmod
    have hxd : (x : Int) < 2 * 2 ^ d := by have := pow_cast (d + 1); omega
    have hle : (2 : Int) * 2 ^ d ≤ 18446744073709551616 := by
      have := pow_le64 (d + 1) h
      have e2 := pow_cast (d + 1)
      omega
    have e1 := Int.emod_add_mul_ediv n (2 * 2 ^ d)
    rw [← hmod] at e1
    have ex : (n + 2 ^ d) % (2 * 2 ^ d) = ((x : Int) + 2 ^ d) % (2 * 2 ^ d) := by
      have : n + 2 ^ d = (x : Int) + 2 ^ d + 2 * 2 ^ d * (n / (2 * 2 ^ d)) := by omega
      rw [this, Int.add_mul_emod_self_left]
    rw [ex]
    by_cases hx : x < 2 ^ d
    · have hl0 : lastL n (d + 1) = 0 := by rw [hlast, Nat.div_eq_of_lt hx]; rfl
      rw [hl0]
      have hxi : (x : Int) < 2 ^ d := by have := pow_cast d; omega
      rw [Int.emod_eq_of_lt (by omega) (by omega)]
      unfold wrap64; omega
    · have hxi : (2 : Int) ^ d ≤ x := by have := pow_cast d; omega
      have hl1 : lastL n (d + 1) = 1 := by
        rw [hlast]
        have : x / 2 ^ d = 1 := by
          rw [Nat.div_eq_iff (pow_pos2 d)]
          have := pow_cast d
          omega
        rw [this]; rfl
      rw [hl1]
      have : ((x : Int) + 2 ^ d) % (2 * 2 ^ d) = x - 2 ^ d := by
        have e3 : (x : Int) + 2 ^ d = (x - 2 ^ d) + 2 * 2 ^ d * 1 := by omega
        rw [e3, Int.add_mul_emod_self_left, Int.emod_eq_of_lt (by omega) (by omega)]
      rw [this]
      unfold wrap64; omega

theorem sgL_hor (n k : Int) : wrap64 (hor (sgBits n (cnt k 64).toNat 64)) = sgL n k := by
  have h := cnt_bd k 64 (by omega)
  rw [sg_hor n _ (by omega)]
  unfold sgL
  have : (64 - cnt k 64).toNat = 64 - (cnt k 64).toNat := by omega
  rw [this]

/-- Signed by its remainder. -/
theorem sgL_pos (n k : Int) (d : Nat) (hd : (cnt k 64).toNat = d + 1) : sgL n k = (n + 2 ^ d) % (2 * 2 ^ d) - 2 ^ d := by
  have h := cnt_bd k 64 (by omega)
  have ha : (1 : Int) ≤ 2 ^ (64 - (d + 1)) := by have := pow_pos2 (64 - (d + 1)); have e := pow_cast (64 - (d + 1)); omega
  have hh : (1 : Int) ≤ 2 ^ d := by have := pow_pos2 d; have e := pow_cast d; omega
  have e : (2 : Int) ^ (64 - (d + 1)) * 2 ^ d = 9223372036854775808 := by
    rw [← Int.pow_add, show 64 - (d + 1) + d = 63 by omega]; decide
  unfold sgL
  have : (64 - cnt k 64).toNat = 64 - (d + 1) := by omega
  rw [this, sg_core n _ _ ha hh e]
theorem sgL_zero (n k : Int) (hd : (cnt k 64).toNat = 0) : sgL n k = 0 := by
  have h := cnt_bd k 64 (by omega)
  unfold sgL
  have : (64 - cnt k 64).toNat = 64 := by omega
  rw [this]
  have : wrap64 (n * 2 ^ 64) = 0 := by unfold wrap64; omega
  rw [this]; decide

theorem sgL_bd (n k : Int) : -9223372036854775808 ≤ sgL n k ∧ sgL n k ≤ 9223372036854775807 := by
  have h := cnt_bd k 64 (by omega)
  rcases hc : (cnt k 64).toNat with _ | d
  · rw [sgL_zero n k hc]; omega
  · rw [sgL_pos n k d hc]
    have hh : (1 : Int) ≤ 2 ^ d := by have := pow_pos2 d; have e := pow_cast d; omega
    have hle : (2 : Int) * 2 ^ d ≤ 18446744073709551616 := by
      have := pow_le64 (d + 1) (by omega)
      have e2 := pow_cast (d + 1)
      have hp : (2 : Int) ^ (d + 1) = 2 * 2 ^ d := by rw [Int.pow_succ, Int.mul_comm]
      omega
    have := Int.emod_nonneg (n + 2 ^ d) (show (2 * 2 ^ d : Int) ≠ 0 by omega)
    have := Int.emod_lt_of_pos (n + 2 ^ d) (show (0 : Int) < 2 * 2 ^ d by omega)
    omega
theorem sgL_sgL (n k : Int) : sgL (sgL n k) k = sgL n k := by
  rcases hc : (cnt k 64).toNat with _ | d
  · rw [sgL_zero _ k hc, sgL_zero n k hc]
  · rw [sgL_pos _ k d hc, sgL_pos n k d hc]
    rw [show (n + 2 ^ d) % (2 * 2 ^ d) - 2 ^ d + 2 ^ d = (n + 2 ^ d) % (2 * 2 ^ d : Int) by omega, Int.emod_emod]
theorem low_emod (n k : Int) : ((U n % 2 ^ (cnt k 64).toNat : Nat) : Int) = n % 2 ^ (cnt k 64).toNat := by
  have h := cnt_bd k 64 (by omega)
  have e64 : (2 : Int) ^ (cnt k 64).toNat * 2 ^ (64 - (cnt k 64).toNat) = 18446744073709551616 := by
    rw [← Int.pow_add, show (cnt k 64).toNat + (64 - (cnt k 64).toNat) = 64 by omega]; decide
  rw [Int.natCast_emod, U_cast, pow_cast]
  exact Int.emod_emod_of_dvd n ⟨2 ^ (64 - (cnt k 64).toNat), e64.symm⟩
theorem low_sgL (n k : Int) : lowL (sgL n k) k = lowL n k := by
  unfold lowL
  rw [low_emod, low_emod]
  congr 1
  rcases hc : (cnt k 64).toNat with _ | d
  · simp [Int.emod_one]
  · rw [sgL_pos n k d hc]
    have hp : (2 : Int) ^ (d + 1) = 2 * 2 ^ d := by rw [Int.pow_succ, Int.mul_comm]
    rw [hp]
    have e1 := Int.emod_add_mul_ediv (n + 2 ^ d) (2 * 2 ^ d)
    have : n = (n + 2 ^ d) % (2 * 2 ^ d) - 2 ^ d + 2 * 2 ^ d * ((n + 2 ^ d) / (2 * 2 ^ d)) := by omega
    conv => rhs; rw [this]
    rw [Int.add_mul_emod_self_left]
theorem lowL_bd (n k : Int) : -9223372036854775808 ≤ lowL n k ∧ lowL n k ≤ 9223372036854775807 := by unfold lowL wrap64; omega
end Go.Proofs.Ytebkikmgjmmnpaa
