/- Plain mathematics for layer 8 (bits): words of 64 bits out of a function. No program in sight. -/
import Derived.Test.YtadbbknllakpcaaGreatMem
import Derived.Test.YtadbbknllakpcaaGreatBase
import Derived.RegionTactic
import Derived.BigQuiet
import Derived.Deep.LoopGhost
import Derived.Laws.EntriesVeiled
namespace Go.Proofs.YtadbbknllakpcaaGreat
open Go.RowKit
set_option linter.unusedVariables false

/-- A row of values by a function. -/
def fnV (k : Nat) (f : Nat → Value) : List Value := (List.range k).map f
theorem fnV_length (k : Nat) (f : Nat → Value) : (fnV k f).length = k := by simp [fnV]
theorem fnV_at (k : Nat) (f : Nat → Value) (i : Nat) (h : i < k) : (fnV k f)[i]? = some (f i) := by simp [fnV, h]
theorem fnV_set (k : Nat) (f : Nat → Value) (i : Nat) (v : Value) : (fnV k f).set i v = fnV k (fun j => if j = i then v else f j) := by
  apply List.ext_getElem
  · simp [fnV]
  · intro j h1 h2
    simp only [fnV, List.getElem_set, List.getElem_map, List.getElem_range]
    by_cases h : i = j
    · rw [if_pos h, if_pos h.symm]
    · rw [if_neg h, if_neg (fun e => h e.symm)]
theorem fnV_congr {k : Nat} {f g : Nat → Value} (h : ∀ i, i < k → f i = g i) : fnV k f = fnV k g := List.map_congr_left (fun i hi => h i (List.mem_range.1 hi))
theorem fnV_rep (k : Nat) (v : Value) : List.replicate k v = fnV k (fun _ => v) := by
  apply List.ext_getElem
  · simp [fnV]
  · intro j h1 h2; simp [fnV]

/-- The first b bits of word k of the row f. -/
def wdTo (f : Nat → Bool) (k : Nat) : Nat → Nat
  | 0 => 0
  | b + 1 => wdTo f k b + if f (64 * k + b) then 2 ^ b else 0
theorem wdTo_lt (f : Nat → Bool) (k : Nat) : ∀ b, wdTo f k b < 2 ^ b := by
  intro b
  induction b with
  | zero => simp [wdTo]
  | succ b ih => simp only [wdTo]; rw [Nat.pow_succ]; split <;> omega
theorem wdTo_testBit (f : Nat → Bool) (k : Nat) : ∀ b i, (wdTo f k b).testBit i = (decide (i < b) && f (64 * k + i)) := by
  intro b
  induction b with
  | zero => intro i; simp [wdTo]
  | succ b ih =>
    intro i
    simp only [wdTo]
    have hlt := wdTo_lt f k b
    by_cases hf : f (64 * k + b) = true
    · rw [if_pos hf, Nat.add_comm]
      by_cases h1 : i < b
      · rw [Nat.testBit_two_pow_add_gt h1, ih]; simp [h1, show i < b + 1 by omega]
      · by_cases h2 : i = b
        · subst h2
          rw [Nat.testBit_two_pow_add_eq, ih]; simp [hf]
        · have hlt2 : 2 ^ b + wdTo f k b < 2 ^ i := by
            have : 2 ^ (b + 1) ≤ 2 ^ i := Nat.pow_le_pow_right (by omega) (by omega)
            rw [Nat.pow_succ] at this; omega
          rw [Nat.testBit_lt_two_pow hlt2]; simp [show ¬ i < b + 1 by omega]
    · rw [if_neg hf, Nat.add_zero, ih]
      have hf : f (64 * k + b) = false := by simpa using hf
      by_cases h1 : i < b
      · simp [h1, show i < b + 1 by omega]
      · by_cases h2 : i = b
        · subst h2; simp [hf]
        · simp [h1, show ¬ i < b + 1 by omega]
/-- Word k of the row f. -/
def wd (f : Nat → Bool) (k : Nat) : Nat := wdTo f k 64
theorem wd_lt (f : Nat → Bool) (k : Nat) : wd f k < 18446744073709551616 := wdTo_lt f k 64
theorem wd_testBit (f : Nat → Bool) (k i : Nat) : (wd f k).testBit i = (decide (i < 64) && f (64 * k + i)) := wdTo_testBit f k 64 i
theorem wd_bit (f : Nat → Bool) (i : Nat) : (wd f (i / 64) / 2 ^ (i % 64)) % 2 = if f i then 1 else 0 := by
  have h := wd_testBit f (i / 64) (i % 64)
  rw [Nat.testBit_eq_decide_div_mod_eq, show 64 * (i / 64) + i % 64 = i by omega] at h
  have h2 : decide (i % 64 < 64) = true := decide_eq_true (by omega)
  rw [h2, Bool.true_and] at h
  by_cases hf : f i = true
  · rw [hf] at h; rw [if_pos hf]; exact of_decide_eq_true h
  · have hf : f i = false := by simpa using hf
    rw [hf] at h
    have := of_decide_eq_false h
    rw [if_neg (by simp [hf])]
    omega
theorem wd_congr {f g : Nat → Bool} {k : Nat} (h : ∀ b, b < 64 → f (64 * k + b) = g (64 * k + b)) : wd f k = wd g k := by
  apply Nat.eq_of_testBit_eq
  intro i
  rw [wd_testBit, wd_testBit]
  by_cases hi : i < 64
  · rw [h i hi]
  · simp [hi]
/-- One bit set to something. -/
def put (f : Nat → Bool) (i : Nat) (b : Bool) (j : Nat) : Bool := if j = i then b else f j
theorem wd_other (f : Nat → Bool) (i k : Nat) (b : Bool) (h : k ≠ i / 64) : wd (put f i b) k = wd f k :=
  wd_congr (fun c hc => if_neg (by omega))
theorem wd_flip (f : Nat → Bool) (i : Nat) : wd (put f i (!f i)) (i / 64) = wd f (i / 64) ^^^ 2 ^ (i % 64) := by
  apply Nat.eq_of_testBit_eq
  intro j
  rw [Nat.testBit_xor, wd_testBit, wd_testBit, Nat.testBit_two_pow]
  unfold put
  by_cases hj : j < 64
  · by_cases he : i % 64 = j
    · have e : 64 * (i / 64) + j = i := by omega
      simp [hj, he, e]
    · have e : ¬ 64 * (i / 64) + j = i := by omega
      simp [hj, he, e]
  · have : ¬ i % 64 = j := by omega
    simp [hj, this]
theorem wd_or (f : Nat → Bool) (i : Nat) : wd (put f i true) (i / 64) = wd f (i / 64) ||| 2 ^ (i % 64) := by
  apply Nat.eq_of_testBit_eq
  intro j
  rw [Nat.testBit_or, wd_testBit, wd_testBit, Nat.testBit_two_pow]
  unfold put
  by_cases hj : j < 64
  · by_cases he : i % 64 = j
    · have e : 64 * (i / 64) + j = i := by omega
      simp [hj, he, e]
    · have e : ¬ 64 * (i / 64) + j = i := by omega
      simp [hj, he, e]
  · have : ¬ i % 64 = j := by omega
    simp [hj, this]
theorem wd_andNot (f : Nat → Bool) (i : Nat) : wd (put f i false) (i / 64) = wd f (i / 64) &&& (18446744073709551615 - 2 ^ (i % 64)) := by
  have hp : 2 ^ (i % 64) < 2 ^ 64 := Nat.pow_lt_pow_right (by omega) (by omega)
  have e : 18446744073709551615 - 2 ^ (i % 64) = 2 ^ 64 - (2 ^ (i % 64) + 1) := by omega
  apply Nat.eq_of_testBit_eq
  intro j
  rw [e, Nat.testBit_and, Nat.testBit_two_pow_sub_succ hp, wd_testBit, wd_testBit, Nat.testBit_two_pow]
  unfold put
  by_cases hj : j < 64
  · by_cases he : i % 64 = j
    · have e : 64 * (i / 64) + j = i := by omega
      simp [hj, he, e]
    · have e : ¬ 64 * (i / 64) + j = i := by omega
      simp [hj, he, e]
  · simp [hj]
theorem wd_zero (k : Nat) : wd (fun _ => false) k = 0 := by
  apply Nat.eq_of_testBit_eq
  intro j
  rw [wd_testBit]; simp
theorem wd_eq_zero {f : Nat → Bool} {k : Nat} : wd f k = 0 ↔ ∀ b, b < 64 → f (64 * k + b) = false := by
  constructor
  · intro h b hb
    have := wd_testBit f k b
    rw [h] at this
    simpa [hb] using this.symm
  · intro h
    rw [← wd_zero k]
    exact wd_congr h
/-- The bits that word k of a row of n may have. -/
def msk (n k : Nat) : Nat := wd (fun i => decide (i < n)) k
theorem msk_val (n k : Nat) (h : 64 * k < n) : msk n k = if 64 ≤ n - 64 * k then 18446744073709551615 else 2 ^ (n - 64 * k) - 1 := by
  apply Nat.eq_of_testBit_eq
  intro j
  unfold msk
  rw [wd_testBit]
  split
  · rw [show (18446744073709551615 : Nat) = 2 ^ 64 - 1 from rfl, Nat.testBit_two_pow_sub_one]
    by_cases hj : j < 64
    · simp [hj, show 64 * k + j < n by omega]
    · simp [hj]
  · rw [Nat.testBit_two_pow_sub_one]
    by_cases hj : j < 64
    · by_cases h2 : 64 * k + j < n
      · simp [hj, h2, show j < n - 64 * k by omega]
      · simp [h2, show ¬ j < n - 64 * k by omega]
    · simp [hj, show ¬ j < n - 64 * k by omega]
theorem msk_pos (n k : Nat) (h : 64 * k < n) : msk n k ≠ 0 := by
  intro h0
  have := wd_eq_zero.1 h0 0 (by omega)
  simp at this
  omega
/-- Is word k full? -/
def fullB (n : Nat) (f : Nat → Bool) (k : Nat) : Bool := decide (64 * k < n) && (wd f k == msk n k)
/-- How many words so many bits need. -/
def wn (n : Nat) : Nat := (n + 63) / 64
theorem fullB_new (n k : Nat) : fullB n (fun _ => false) k = false := by
  unfold fullB
  by_cases h : 64 * k < n
  · have := msk_pos n k h
    rw [wd_zero]
    simp [h]
    exact fun e => this e.symm
  · simp [h]
theorem fullB_iff (n : Nat) (f : Nat → Bool) (k : Nat) (hf : ∀ i, n ≤ i → f i = false) : fullB n f k = true ↔ 64 * k < n ∧ ∀ b, b < 64 → 64 * k + b < n → f (64 * k + b) = true := by
  unfold fullB
  rw [Bool.and_eq_true, decide_eq_true_iff, beq_iff_eq]
  constructor
  · rintro ⟨h1, h2⟩
    refine ⟨h1, fun b hb hn => ?_⟩
    have := congrArg (fun x => Nat.testBit x b) h2
    simp only [msk, wd_testBit] at this
    simpa [hb, hn] using this
  · rintro ⟨h1, h2⟩
    refine ⟨h1, wd_congr fun b hb => ?_⟩
    by_cases hn : 64 * k + b < n
    · rw [h2 b hb hn]; simp [hn]
    · rw [hf _ (by omega)]; simp [hn]
theorem fullB_put (n : Nat) (f : Nat → Bool) (i : Nat) (b : Bool) (k : Nat) (h : k ≠ i / 64) : fullB n (put f i b) k = fullB n f k := by
  unfold fullB
  rw [wd_other f i k b h]
end Go.Proofs.YtadbbknllakpcaaGreat

/- The walks through package bits: a row in memory; Has, mask, note. -/
namespace Go.Proofs.YtadbbknllakpcaaGreat
open Go.RowKit
set_option linter.unusedVariables false

/-- A row in memory: f its bits, g which words are noted as full. -/
def RowMid (w : World) (r a c n : Nat) (f g : Nat → Bool) : Prop :=
  (r ≠ a ∧ r ≠ c ∧ a ≠ c) ∧ n ≤ 65536 ∧ (∀ i, n ≤ i → f i = false) ∧ Blk w r [.int .i64 n, .slice (some ⟨a, 0, none⟩) (wn n) (wn n), .slice (some ⟨c, 0, none⟩) (wn (wn n)) (wn (wn n))] 118 ∧
    Blk w a (fnV (wn n) fun k => .int .u64 (wd f k)) 64 ∧ Blk w c (fnV (wn (wn n)) fun k => .int .u64 (wd g k)) 64
def RowAt (w : World) (r a c n : Nat) (f : Nat → Bool) : Prop := RowMid w r a c n f (fullB n f)
def RowS (r a c : Nat) (i : Nat) : Prop := i = r ∨ i = a ∨ i = c
theorem RowMid.only {w w' : World} {r a c n : Nat} {f g : Nat → Bool} {S : Nat → Prop} (h : RowMid w r a c n f g) (o : Only S w w') (h1 : ¬ S r) (h2 : ¬ S a) (h3 : ¬ S c) : RowMid w' r a c n f g :=
  ⟨h.1, h.2.1, h.2.2.1, h.2.2.2.1.only o h1, h.2.2.2.2.1.only o h2, h.2.2.2.2.2.only o h3⟩
theorem RowMid.below {w w' : World} {r a c n : Nat} {f g : Nat → Bool} (h : RowMid w r a c n f g) (o : Below w.heap.size w w') : RowMid w' r a c n f g :=
  ⟨h.1, h.2.1, h.2.2.1, h.2.2.2.1.below o, h.2.2.2.2.1.below o, h.2.2.2.2.2.below o⟩
theorem RowMid.drewN {w : World} {r a c n : Nat} {f g : Nat → Bool} (h : RowMid w r a c n f g) (q : Nat) : RowMid (w.drewN q) r a c n f g := h
theorem below_drewN {B : Nat} {a w : World} (h : Below B a w) (n : Nat) : Below B a (w.drewN n) := ⟨h.os, h.tape, h.output, h.size, h.block⟩
theorem only_drewN {S : Nat → Prop} {a b : World} (h : Only S a b) (n : Nat) : Only S a (b.drewN n) := ⟨h.os, h.tape, h.output, h.size, h.block⟩

theorem mn_eq (k : Int) : (if (if (0 : Int) ≤ k then k else 0) ≤ 64 then (if (0 : Int) ≤ k then k else 0) else 64) = min (max k 0) 64 := by split <;> split <;> omega
theorem count_calls (k : Int) (w : World) (h : 0 ≤ k) :
    Calls Tryz.prog 107 #[.int .i64 k, .int .i64 64] w fun e w' => e = .returned (.int .i64 (min k 64)) ∧ w = w' := by
  by_cases h2 : k ≤ 64
  · have e : min k 64 = k := by omega
    rw [e]
    clear e
    go_enter Tryz.func107, Tryz.ntmps107
    go_wp2
    all_goals go_ret
    all_goals (refine ⟨ret_eq ?_, rfl⟩; omega)
  · have e : min k 64 = 64 := by omega
    rw [e]
    clear e
    go_enter Tryz.func107, Tryz.ntmps107
    go_wp2
    all_goals go_ret
    all_goals (refine ⟨ret_eq ?_, rfl⟩; omega)
theorem i64_and63 (n : Int) : bits .and .i64 n 63 = n % 64 := by
  have h63 : (BitVec.ofInt 64 63).toNat = 2 ^ 6 - 1 := by decide
  have key : (BitVec.ofInt 64 n &&& BitVec.ofInt 64 63).toNat = (n % ((2 ^ 64 : Nat) : Int)).toNat % 2 ^ 6 := by
    rw [BitVec.toNat_and, BitVec.toNat_ofInt, h63, Nat.and_two_pow_sub_one_eq_mod]
  show IntKind.i64.wrap ((BitVec.ofInt 64 n &&& BitVec.ofInt 64 63).toNat : Nat) = n % 64
  rw [key, IntKind.wrap_i64]
  omega
theorem mask_all : ∀ c : Fin 65, bits .xor .u64 IntKind.u64.max (IntKind.u64.wrap (18446744073709551615 * 2 ^ c.val)) = ((2 ^ c.val - 1 : Nat) : Int) := by decide +kernel
theorem low_all : ∀ c : Fin 65, bits .and .u64 (IntKind.u64.wrap (-1)) ((2 ^ c.val - 1 : Nat) : Int) = ((2 ^ c.val - 1 : Nat) : Int) := by decide +kernel
theorem back_all : ∀ c : Fin 65, IntKind.u64.wrap (wrap64 ((2 ^ c.val - 1 : Nat) : Int)) = ((2 ^ c.val - 1 : Nat) : Int) := by decide +kernel
theorem mask_le (m : Nat) (h : m ≤ 64) : bits .xor .u64 IntKind.u64.max (IntKind.u64.wrap (18446744073709551615 * 2 ^ m)) = ((2 ^ m - 1 : Nat) : Int) := mask_all ⟨m, by omega⟩
theorem low_le (m : Nat) (h : m ≤ 64) : bits .and .u64 (IntKind.u64.wrap (-1)) ((2 ^ m - 1 : Nat) : Int) = ((2 ^ m - 1 : Nat) : Int) := low_all ⟨m, by omega⟩
theorem back_le (m : Nat) (h : m ≤ 64) : IntKind.u64.wrap (wrap64 ((2 ^ m - 1 : Nat) : Int)) = ((2 ^ m - 1 : Nat) : Int) := back_all ⟨m, by omega⟩
theorem mask_calls (k m : Nat) (hm : min k 64 = m) (w : World) :
    Calls Tryz.prog 106 #[.int .i64 k] w fun e w' => e = .returned (.int .u64 ((2 ^ m - 1 : Nat) : Int)) ∧ w = w' := by
  have E := Lib.hid (mask_le m (by omega))
  have hmi : min (k : Int) 64 = (m : Int) := by omega
  have HM := Lib.hid hmi
  have hm2 : m ≤ 64 := by omega
  clear hm hmi
  go_enter Tryz.func106, Tryz.ntmps106
  go_wp2_with (go_at_call 107; refine (count_calls _ _ (by omega)).mono ?_; rintro e w' ⟨rfl, rfl⟩; rw [HM.out])
  go_ret
  exact ⟨ret_eq (E.out), rfl⟩
theorem low_calls (k m : Nat) (hm : min k 64 = m) (w : World) :
    Calls Tryz.prog 103 #[.int .i64 (-1), .int .i64 k] w fun e w' => e = .returned (.int .i64 (wrap64 ((2 ^ m - 1 : Nat) : Int))) ∧ w = w' := by
  have E := Lib.hid (low_le m (by omega))
  go_enter Tryz.func103, Tryz.ntmps103
  go_wp2_with (go_at_call 106; refine (mask_calls k m hm _).mono ?_; rintro e w' ⟨rfl, rfl⟩)
  go_ret
  exact ⟨ret_eq (congrArg wrap64 E.out), rfl⟩
theorem msk_min (n k : Nat) (h : 64 * k < n) : 2 ^ (min (n - 64 * k) 64) - 1 = msk n k := by
  rw [msk_val n k h]
  split
  · rw [Nat.min_eq_right (by omega)]
  · rw [Nat.min_eq_left (by omega)]
theorem rowmask_calls (w : World) (r a c n : Nat) (f g : Nat → Bool) (k : Nat) (h : RowMid w r a c n f g) (hk : k < wn n) :
    Calls Tryz.prog 97 #[.pointer (some ⟨r, 0, none⟩), .int .i64 k] w fun e w' => e = .returned (.int .u64 (msk n k)) ∧ w = w' := by
  have c0 := h.2.2.2.1.cell 0
  have hn := h.2.1
  simp only [List.getElem?_cons_zero] at c0
  have hlt : 64 * k < n := by unfold wn at hk; omega
  have hm := Lib.hid (msk_min n k hlt)
  obtain ⟨m, hm1⟩ : ∃ m, min (n - 64 * k) 64 = m := ⟨_, rfl⟩
  rw [hm1] at hm
  have hd : ((n - 64 * k : Nat) : Int) = (n : Int) - (k : Int) * 64 := by omega
  have HD := Lib.hid hd
  have HM1 := Lib.hid hm1
  have E := Lib.hid (back_le m (by omega))
  clear h hk hd hm1
  go_enter Tryz.func97, Tryz.ntmps97
  go_wp2_with (go_at_call 103; rw [← HD.out]; refine (low_calls _ m HM1.out _).mono ?_; rintro e w' ⟨rfl, rfl⟩)
  go_ret
  exact ⟨ret_eq (E.out.trans (by show ((2 ^ m - 1 : Nat) : Int) = _; rw [hm.out])), rfl⟩
theorem and1_of (x : Nat) (b : Nat) (hx : x < 18446744073709551616) (y : Nat) (hy : x / 2 ^ b % 2 = y) : bits .and .u64 ((x : Int) / 2 ^ b) 1 = (y : Int) := by
  have e : (x : Int) / 2 ^ b = ((x / 2 ^ b : Nat) : Int) := by simp
  have hl : x / 2 ^ b ≤ x := Nat.div_le_self _ _
  rw [e, show (1 : Int) = ((1 : Nat) : Int) from rfl, u64_and_nat _ _ (by omega) (by omega), Nat.and_one_is_mod, hy]

theorem has_yes (w : World) (r a c n : Nat) (f g : Nat → Bool) (i : Nat) (h : RowMid w r a c n f g) (hi : i < n) :
    Calls Tryz.prog 84 #[.pointer (some ⟨r, 0, none⟩), .int .i64 i] w fun e w' => e = .returned (.bool (f i)) ∧ w = w' := by
  obtain ⟨h1, h2, h3, h4, h5, h6⟩ := h
  have c0 := h4.cell 0
  have c1 := h4.cell 1
  simp only [List.getElem?_cons_zero, List.getElem?_cons_succ] at c0 c1
  have hk : i / 64 < wn n := by unfold wn; omega
  have cw := h5.cell (i / 64)
  rw [fnV_at _ _ _ hk] at cw
  have hb := wd_bit f i
  have hl := wd_lt f (i / 64)
  generalize wd f (i / 64) = x at *
  generalize wn n = W at *
  clear h1 h3 h4 h5 h6
  obtain ⟨b, hb2⟩ : ∃ b, i % 64 = b := ⟨_, rfl⟩
  have hbl : b < 64 := by omega
  have ha : bits .and .i64 (i : Int) 63 = (b : Int) := by rw [i64_and63]; omega
  rw [hb2] at hb
  clear hb2
  cases hf : f i
  · have hx := and1_of x b hl 0 (by rw [hb, hf]; rfl)
    clear hb hf
    go_enter Tryz.func84, Tryz.ntmps84
    go_wp2
    go_ret
    exact ⟨rfl, rfl⟩
  · have hx := and1_of x b hl 1 (by rw [hb, hf]; rfl)
    clear hb hf
    go_enter Tryz.func84, Tryz.ntmps84
    go_wp2
    go_ret
    exact ⟨rfl, rfl⟩

/-- The value of a bit. -/
theorem one_shl (b : Nat) (h : b < 64) : IntKind.u64.wrap (2 ^ b) = ((2 ^ b : Nat) : Int) := by
  have h2 : (2 : Nat) ^ b < 18446744073709551616 := Nat.pow_lt_pow_right (a := 2) (n := 64) (by omega) h
  have e : ((2 : Int) ^ b) = ((2 ^ b : Nat) : Int) := by simp
  rw [e, IntKind.wrap_u64]
  generalize (2 : Nat) ^ b = x at *
  omega
theorem rowmask_quiet (w : World) (r a c n : Nat) (f g : Nat → Bool) (k : Nat) (h : RowMid w r a c n f g) (hk : k < wn n) (q : Nat) :
    Calls Tryz.prog 97 #[.pointer (some ⟨r, 0, none⟩), .int .i64 k] (w.drewN q) fun e w' => e = .returned (.int .u64 (msk n k)) ∧ ∃ m, w' = w.drewN m :=
  (rowmask_calls (w.drewN q) r a c n f g k (h.drewN q) hk).mono fun e w' ⟨he, hw⟩ => ⟨he, q, hw.symm⟩
theorem RowMid.setFull {w : World} {r a c n : Nat} {f g : Nat → Bool} (h : RowMid w r a c n f g) (k : Nat) (b : Bool) : RowMid (w.setCell ⟨c, k / 64, none⟩ (.int .u64 (wd (put g k b) (k / 64)))) r a c n f (put g k b) := by
  obtain ⟨h1, h2, h3, h4, h5, h6⟩ := h
  refine ⟨h1, h2, h3, h4.set_other h1.2.1 _ _, h5.set_other h1.2.2 _ _, ?_⟩
  have := h6.set (k / 64) (.int .u64 (wd (put g k b) (k / 64)))
  rw [fnV_set] at this
  have e : (fun j => if j = k / 64 then Value.int .u64 (wd (put g k b) (k / 64)) else Value.int .u64 (wd g j)) = (fun j => Value.int .u64 (wd (put g k b) j)) := funext fun j => by
    by_cases hj : j = k / 64
    · rw [if_pos hj, hj]
    · rw [if_neg hj, wd_other g k j b hj]
  rw [e] at this
  exact this
set_option maxHeartbeats 1000000 in
theorem note_calls (w : World) (r a c n : Nat) (f g : Nat → Bool) (k : Nat) (h : RowMid w r a c n f g) (hk : k < wn n) :
    Calls Tryz.prog 98 #[.pointer (some ⟨r, 0, none⟩), .int .i64 k] w fun e w' => e = .returned (.tuple #[]) ∧ RowMid w' r a c n f (put g k (fullB n f k)) ∧ Only (RowS r a c) w w' := by
  have HM := Lib.hid h
  obtain ⟨h1, h2, h3, h4, h5, h6⟩ := h
  have c1 := h4.cell 1
  have c2 := h4.cell 2
  simp only [List.getElem?_cons_zero, List.getElem?_cons_succ] at c1 c2
  have cw := h5.cell k
  rw [fnV_at _ _ _ hk] at cw
  have hk2 : k / 64 < wn (wn n) := by unfold wn at hk ⊢; omega
  have cf := h6.cell (k / 64)
  rw [fnV_at _ _ _ hk2] at cf
  have ff := h6.free (k / 64)
  have hlt : 64 * k < n := by unfold wn at hk; omega
  have hl := wd_lt f k
  have hlg := wd_lt g (k / 64)
  have hml := wd_lt (fun i => decide (i < n)) k
  obtain ⟨b, hb2⟩ : ∃ b, k % 64 = b := ⟨_, rfl⟩
  have hbl : b < 64 := by omega
  have ha : bits .and .i64 (k : Int) 63 = (b : Int) := by rw [i64_and63]; omega
  have hK := Lib.hid hk
  have hWn : wn n ≤ 65536 := by unfold wn; omega
  have hWn2 : wn (wn n) ≤ 65536 := by unfold wn at hWn ⊢; omega
  have hone := Lib.hid (one_shl b hbl)
  have hB := Lib.hid hb2
  clear h1 h3 h4 h5 h6 hb2
  by_cases hf : wd f k = msk n k
  · have hfull : fullB n f k = true := by unfold fullB; simp [hlt, hf]
    go_enter Tryz.func98, Tryz.ntmps98
    go_wp2_with fail
    go_quiet (exact rowmask_quiet _ r a c n f g k HM.out hK.out _)
    go_wp2
    go_end0
    have e : bits .or .u64 ((wd g (k / 64) : Nat) : Int) (IntKind.u64.wrap (2 ^ b)) = ((wd (put g k true) (k / 64) : Nat) : Int) := by
      rw [hone.out, u64_or_nat _ _ hlg (Nat.pow_lt_pow_right (a := 2) (n := 64) (by omega) hbl), wd_or, hB.out]
    rw [e, hfull]
    exact ⟨rfl, (HM.out.drewN nq).setFull k true, (only_drewN (Only.refl _ w) nq).set (fun _ => .inr (.inr rfl)) _⟩
  · have hfull : fullB n f k = false := by unfold fullB; simp [hf]
    have hf' : (((wd f k : Nat) : Int) == ((msk n k : Nat) : Int)) = false := by rw [beq_eq_false_iff_ne]; intro e; exact hf (by exact_mod_cast e)
    clear hf
    go_enter Tryz.func98, Tryz.ntmps98
    go_wp2_with fail
    go_quiet (exact rowmask_quiet _ r a c n f g k HM.out hK.out _)
    go_wp2
    go_end0
    have e : bits .andNot .u64 ((wd g (k / 64) : Nat) : Int) (IntKind.u64.wrap (2 ^ b)) = ((wd (put g k false) (k / 64) : Nat) : Int) := by
      rw [hone.out, u64_andNot_nat _ _ hlg (Nat.pow_lt_pow_right (a := 2) (n := 64) (by omega) hbl), wd_andNot, hB.out]
    rw [e, hfull]
    exact ⟨rfl, (HM.out.drewN nq).setFull k false, (only_drewN (Only.refl _ w) nq).set (fun _ => .inr (.inr rfl)) _⟩
end Go.Proofs.YtadbbknllakpcaaGreat
