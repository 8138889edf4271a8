/- The walks through package bits: Load, Words. -/
import Derived.Test.YtadbbknllakpcaaGreatBitF
import Derived.Test.YtadbbknllakpcaaGreatCloneU
namespace Go.Proofs.YtadbbknllakpcaaGreat
open Go.RowKit
set_option linter.unusedVariables false

/-- A row in memory of which it is not known that the bits behind its end are clear. -/
def RowRaw (w : World) (r a c n : Nat) (f g : Nat → Bool) : Prop :=
  (r ≠ a ∧ r ≠ c ∧ a ≠ c) ∧ n ≤ 65536 ∧ Blk w r [.int .i64 n, .slice (some ⟨a, 0, none⟩) (wn n) (wn n), .slice (some ⟨c, 0, none⟩) (wn (wn n)) (wn (wn n))] 118 ∧
    Blk w a (fnV (wn n) fun k => .int .u64 (wd f k)) 64 ∧ Blk w c (fnV (wn (wn n)) fun k => .int .u64 (wd g k)) 64
theorem RowRaw.mid {w : World} {r a c n : Nat} {f g : Nat → Bool} (h : RowRaw w r a c n f g) (hf : ∀ i, n ≤ i → f i = false) : RowMid w r a c n f g := ⟨h.1, h.2.1, hf, h.2.2.1, h.2.2.2.1, h.2.2.2.2⟩
theorem RowRaw.drewN {w : World} {r a c n : Nat} {f g : Nat → Bool} (h : RowRaw w r a c n f g) (q : Nat) : RowRaw (w.drewN q) r a c n f g := h
theorem rowmask_raw (w : World) (r a c n : Nat) (f g : Nat → Bool) (k : Nat) (h : RowRaw w r a c n f g) (hk : k < wn n) :
    Calls Tryz.prog 97 #[.pointer (some ⟨r, 0, none⟩), .int .i64 k] w fun e w' => e = .returned (.int .u64 (msk n k)) ∧ w = w' := by
  have c0 := h.2.2.1.cell 0
  have hn := h.2.1
  simp only [List.getElem?_cons_zero] at c0
  have hlt : 64 * k < n := by unfold wn at hk; omega
  have hm := Lib.hid (msk_min n k hlt)
  obtain ⟨m, hm1⟩ : ∃ m, min (n - 64 * k) 64 = m := ⟨_, rfl⟩
  rw [hm1] at hm
  have hd : ((n - 64 * k : Nat) : Int) = (n : Int) - (k : Int) * 64 := by omega
  have HD := Lib.hid hd
  have HM1 := Lib.hid hm1
  have E := Lib.hid (back_le m (by omega))
  clear h hk hd hm1
  go_enter Tryz.func97, Tryz.ntmps97
  go_wp2_with (go_at_call 103; rw [← HD.out]; refine (low_calls _ m HM1.out _).mono ?_; rintro e w' ⟨rfl, rfl⟩)
  go_ret
  exact ⟨ret_eq (E.out.trans (by show ((2 ^ m - 1 : Nat) : Int) = _; rw [hm.out])), rfl⟩
theorem rowmask_rawq (w : World) (r a c n : Nat) (f g : Nat → Bool) (k : Nat) (h : RowRaw w r a c n f g) (hk : k < wn n) (q : Nat) :
    Calls Tryz.prog 97 #[.pointer (some ⟨r, 0, none⟩), .int .i64 k] (w.drewN q) fun e w' => e = .returned (.int .u64 (msk n k)) ∧ ∃ m, w' = w.drewN m :=
  (rowmask_raw (w.drewN q) r a c n f g k (h.drewN q) hk).mono fun e w' ⟨he, hw⟩ => ⟨he, q, hw.symm⟩
theorem RowRaw.setFull {w : World} {r a c n : Nat} {f g : Nat → Bool} (h : RowRaw w r a c n f g) (k : Nat) (b : Bool) : RowRaw (w.setCell ⟨c, k / 64, none⟩ (.int .u64 (wd (put g k b) (k / 64)))) r a c n f (put g k b) := by
  obtain ⟨h1, h2, h4, h5, h6⟩ := h
  refine ⟨h1, h2, h4.set_other h1.2.1 _ _, h5.set_other h1.2.2 _ _, ?_⟩
  have := h6.set (k / 64) (.int .u64 (wd (put g k b) (k / 64)))
  rw [fnV_set] at this
  have e : (fun j => if j = k / 64 then Value.int .u64 (wd (put g k b) (k / 64)) else Value.int .u64 (wd g j)) = (fun j => Value.int .u64 (wd (put g k b) j)) := funext fun j => by
    by_cases hj : j = k / 64
    · rw [if_pos hj, hj]
    · rw [if_neg hj, wd_other g k j b hj]
  rw [e] at this
  exact this
set_option maxHeartbeats 1000000 in
theorem note_raw (w : World) (r a c n : Nat) (f g : Nat → Bool) (k : Nat) (h : RowRaw w r a c n f g) (hk : k < wn n) :
    Calls Tryz.prog 98 #[.pointer (some ⟨r, 0, none⟩), .int .i64 k] w fun e w' => e = .returned (.tuple #[]) ∧ RowRaw w' r a c n f (put g k (fullB n f k)) ∧ Only (RowS r a c) w w' := by
  have HM := Lib.hid h
  obtain ⟨h1, h2, h4, h5, h6⟩ := h
  have c1 := h4.cell 1
  have c2 := h4.cell 2
  simp only [List.getElem?_cons_zero, List.getElem?_cons_succ] at c1 c2
  have cw := h5.cell k
  rw [fnV_at _ _ _ hk] at cw
  have hk2 : k / 64 < wn (wn n) := by unfold wn at hk ⊢; omega
  have cf := h6.cell (k / 64)
  rw [fnV_at _ _ _ hk2] at cf
  have ff := h6.free (k / 64)
  have hlt : 64 * k < n := by unfold wn at hk; omega
  have hl := wd_lt f k
  have hlg := wd_lt g (k / 64)
  have hml := wd_lt (fun i => decide (i < n)) k
  obtain ⟨b, hb2⟩ : ∃ b, k % 64 = b := ⟨_, rfl⟩
  have hbl : b < 64 := by omega
  have ha : bits .and .i64 (k : Int) 63 = (b : Int) := by rw [i64_and63]; omega
  have hK := Lib.hid hk
  have hWn : wn n ≤ 65536 := by unfold wn; omega
  have hWn2 : wn (wn n) ≤ 65536 := by unfold wn at hWn ⊢; omega
  have hone := Lib.hid (one_shl b hbl)
  have hB := Lib.hid hb2
  clear h1 h4 h5 h6 hb2
  by_cases hf : wd f k = msk n k
  · have hfull : fullB n f k = true := by unfold fullB; simp [hlt, hf]
    go_enter Tryz.func98, Tryz.ntmps98
    go_wp2_with fail
    go_quiet (exact rowmask_rawq _ r a c n f g k HM.out hK.out _)
    go_wp2
    go_end0
    have e : bits .or .u64 ((wd g (k / 64) : Nat) : Int) (IntKind.u64.wrap (2 ^ b)) = ((wd (put g k true) (k / 64) : Nat) : Int) := by
      rw [hone.out, u64_or_nat _ _ hlg (Nat.pow_lt_pow_right (a := 2) (n := 64) (by omega) hbl), wd_or, hB.out]
    rw [e, hfull]
    exact ⟨rfl, (HM.out.drewN nq).setFull k true, (only_drewN (Only.refl _ w) nq).set (fun _ => .inr (.inr rfl)) _⟩
  · have hfull : fullB n f k = false := by unfold fullB; simp [hf]
    have hf' : (((wd f k : Nat) : Int) == ((msk n k : Nat) : Int)) = false := by rw [beq_eq_false_iff_ne]; intro e; exact hf (by exact_mod_cast e)
    clear hf
    go_enter Tryz.func98, Tryz.ntmps98
    go_wp2_with fail
    go_quiet (exact rowmask_rawq _ r a c n f g k HM.out hK.out _)
    go_wp2
    go_end0
    have e : bits .andNot .u64 ((wd g (k / 64) : Nat) : Int) (IntKind.u64.wrap (2 ^ b)) = ((wd (put g k false) (k / 64) : Nat) : Int) := by
      rw [hone.out, u64_andNot_nat _ _ hlg (Nat.pow_lt_pow_right (a := 2) (n := 64) (by omega) hbl), wd_andNot, hB.out]
    rw [e, hfull]
    exact ⟨rfl, (HM.out.drewN nq).setFull k false, (only_drewN (Only.refl _ w) nq).set (fun _ => .inr (.inr rfl)) _⟩

/-- Which words were noted as full after k of them. -/
def upF (n : Nat) (f : Nat → Bool) (j k : Nat) : Bool := decide (k < j) && fullB n f k
theorem upF_zero (n : Nat) (f : Nat → Bool) : upF n f 0 = fun _ => false := funext fun k => by simp [upF]
theorem upF_succ (n : Nat) (f : Nat → Bool) (j : Nat) : put (upF n f j) j (fullB n f j) = upF n f (j + 1) := funext fun k => by
  unfold put upF
  by_cases h : k = j
  · subst h; rw [if_pos rfl]; simp
  · rw [if_neg h]
    have : (decide (k < j + 1)) = decide (k < j) := by simp; omega
    rw [this]
theorem upF_all (n : Nat) (f : Nat → Bool) : upF n f (wn n) = fullB n f := funext fun k => by
  unfold upF fullB
  by_cases h : k < wn n
  · simp [h]
  · have : ¬ 64 * k < n := by unfold wn at h; omega
    simp [h, this]
/-- The bits of a word behind the end. -/
def exc (n : Nat) (f : Nat → Bool) (k : Nat) : Nat := wd f k &&& (18446744073709551615 - msk n k)
theorem exc_zero (n : Nat) (f : Nat → Bool) (k : Nat) : exc n f k = 0 ↔ ∀ b, b < 64 → n ≤ 64 * k + b → f (64 * k + b) = false := by
  have hp : msk n k < 2 ^ 64 := wd_lt _ k
  have e : 18446744073709551615 - msk n k = 2 ^ 64 - (msk n k + 1) := by omega
  have key : ∀ j, (exc n f k).testBit j = (decide (j < 64) && f (64 * k + j) && !decide (64 * k + j < n)) := fun j => by
    unfold exc
    rw [e, Nat.testBit_and, Nat.testBit_two_pow_sub_succ hp, wd_testBit]
    unfold msk
    rw [wd_testBit]
    by_cases hj : j < 64 <;> simp [hj]
  constructor
  · intro h b hb hn
    have := key b
    rw [h] at this
    simp [hb] at this
    cases hf : f (64 * k + b)
    · rfl
    · have := this hf; omega
  · intro h
    apply Nat.eq_of_testBit_eq
    intro j
    rw [key]
    by_cases hj : j < 64
    · by_cases hn : n ≤ 64 * k + j
      · rw [h j hj hn]; simp
      · simp; intro _ _; omega
    · simp [hj]
theorem exc_lt (n : Nat) (f : Nat → Bool) (k : Nat) : exc n f k < 18446744073709551616 := Nat.and_lt_two_pow (n := 64) _ (by omega)

theorem load_bad (w : World) (n : Int) (A : Option Addr) (len cap : Nat) (h : n < 0 ∨ 65536 < n) :
    Calls Tryz.prog 82 #[.int .i64 n, .slice A len cap] w fun e w' => e = .returned (.tuple #[.pointer none, .int .i64 2]) ∧ w = w' := by
  go_enter Tryz.func82, Tryz.ntmps82
  go_wp2_with fail
  refine (new_no _ n h).mono ?_
  rintro e w' ⟨rfl, rfl⟩
  go_wp2
  go_ret2
  exact ⟨rfl, rfl⟩
theorem load_len (w : World) (n : Nat) (A : Option Addr) (len cap : Nat) (hn : n ≤ 65536) (hl : len ≠ wn n) :
    Calls Tryz.prog 82 #[.int .i64 n, .slice A len cap] w fun e w' => e = .returned (.tuple #[.pointer none, .int .i64 2]) ∧ Below w.heap.size w w' := by
  have HL := Lib.hid hl
  clear hl
  go_enter Tryz.func82, Tryz.ntmps82
  go_wp2_with fail
  refine (new_yes _ n hn).mono ?_
  rintro e w1 ⟨r, a, c, rfl, hr, h1, h2, h3, hb⟩
  have HB := Lib.hid hb
  have c1 := hr.2.2.2.1.cell 1
  simp only [List.getElem?_cons_zero, List.getElem?_cons_succ] at c1
  obtain ⟨W, hW⟩ : ∃ W, wn n = W := ⟨_, rfl⟩
  have hne : ((len : Int) != (W : Int)) = true := by have := HL.out; rw [bne_iff_ne]; omega
  rw [hW] at c1
  clear hr hb hW
  go_wp2
  go_ret2
  exact ⟨rfl, HB.out⟩

theorem raw_copied {w1 w2 : World} {r a c n : Nat} {f : Nat → Bool} (h : RowAt w1 r a c n (fun _ => false)) (hb : Blk w2 a (fnV (wn n) fun k => .int .u64 (wd f k)) 64) (ho : Only (· = a) w1 w2) : RowRaw w2 r a c n f (upF n f 0) := by
  have e : (fullB n fun _ => false) = upF n f 0 := by rw [upF_zero]; exact funext fun k => fullB_new n k
  have h' : RowMid w1 r a c n (fun _ => false) (fullB n fun _ => false) := h
  rw [e] at h'
  exact ⟨h'.1, h'.2.1, h'.2.2.2.1.only ho h'.1.1, hb, h'.2.2.2.2.2.only ho (fun e => h'.1.2.2 e.symm)⟩
/-- What Load answers: the row of the bits f, or an error where one behind the end is set. -/
def Loaded (n : Nat) (f : Nat → Bool) (w : World) (e : Ending) (w' : World) : Prop :=
  Below w.heap.size w w' ∧ ((e = .returned (.tuple #[.pointer none, .int .i64 2]) ∧ ∃ i, n ≤ i ∧ f i = true) ∨
    ∃ r a c, e = .returned (.tuple #[.pointer (some ⟨r, 0, none⟩), .int .i64 0]) ∧ (∀ i, n ≤ i → f i = false) ∧ RowAt w' r a c n f ∧ w.heap.size ≤ r ∧ w.heap.size ≤ a ∧ w.heap.size ≤ c)
theorem RowS_ge {B r a c i : Nat} (h1 : B ≤ r) (h2 : B ≤ a) (h3 : B ≤ c) (h : RowS r a c i) : B ≤ i := by rcases h with rfl | rfl | rfl <;> assumption
theorem Tryz.size_u64 : (Tryz.prog.info? 64).map (·.size) = some 1 := by kernel_rfl
set_option maxHeartbeats 2000000 in
theorem load_gen (w : World) (n : Nat) (A : Option Addr) (cap : Nat) (f : Nat → Bool) (hn : n ≤ 65536) (hr : RdAt w A (wn n) (fnV (wn n) fun k => .int .u64 (wd f k))) (hf : ∀ i, 64 * wn n ≤ i → f i = false) :
    Calls Tryz.prog 82 #[.int .i64 n, .slice A (wn n) cap] w (Loaded n f w) := by
  have HA := Lib.hid hr
  have HF := Lib.hid hf
  clear hr hf
  have hWn : wn n ≤ 65536 := by unfold wn; omega
  go_enter Tryz.func82, Tryz.ntmps82
  go_wp2_with fail
  refine (new_yes _ n hn).mono ?_
  rintro e w1 ⟨r, a, c, rfl, hr, h1, h2, h3, hb⟩
  have HB := Lib.hid hb
  have HR := Lib.hid hr
  have c1 := hr.2.2.2.1.cell 1
  simp only [List.getElem?_cons_zero, List.getElem?_cons_succ] at c1
  have hne : ((wn n : Int) != (wn n : Int)) = false := by simp
  have HA1 := Lib.hid (HA.out.below hb)
  clear hr hb
  go_wp2_with (refine wpList_copy_all rfl (.tmp 29) (.tmp 30) 25 25 rfl 64 Tryz.underlying25 Tryz.size_u64 a (wn n) (wn n) cap A rfl rfl _ _ _ HR.out.2.2.2.2.1 (fnV_length _ _) (fnV_length _ _) HA1.out (fun v hv => by obtain ⟨k, _, rfl⟩ := List.mem_map.1 hv; rfl) ?_; intro w2 hblk2 honly2; have HK2 := Lib.hid hblk2; have HO2 := Lib.hid honly2; have HW2 := Lib.hid (raw_copied HR.out hblk2 honly2); have d1 := (raw_copied HR.out hblk2 honly2).2.2.1.cell 1; simp only [List.getElem?_cons_zero, List.getElem?_cons_succ] at d1; clear hblk2 honly2)
  go_loopg [37] (wn n) (fun q i wr => ∃ j : Nat, q + j = wn n ∧ i = .int .i64 j ∧ RowRaw wr r a c n f (upF n f j) ∧ Only (RowS r a c) w1 wr ∧ Hid (∀ i, n ≤ i → i < 64 * j → f i = false))
  case atStart => exact ⟨0, by omega, rfl, HW2.out, HO2.out.mono (fun i _ h => .inr (.inl h)), Lib.hid (fun i _ h => by omega)⟩
  case round =>
    obtain ⟨j, hj, rfl, hr, ho, hz⟩ := hrel
    have HR2 := Lib.hid hr
    have HOn := Lib.hid ho
    by_cases hlt : j < wn n
    · have d1 := hr.2.2.1.cell 1
      simp only [List.getElem?_cons_zero, List.getElem?_cons_succ] at d1
      have cw := hr.2.2.2.1.cell j
      rw [fnV_at _ _ _ hlt] at cw
      have hl := wd_lt f j
      have hml : msk n j < 18446744073709551616 := wd_lt (fun i => decide (i < n)) j
      have HLt := Lib.hid hlt
      clear hr ho
      by_cases he : exc n f j = 0
      · have hz' : ∀ i, n ≤ i → i < 64 * (j + 1) → f i = false := fun i h1 h2 => by
          by_cases h3 : i < 64 * j
          · exact hz.out i h1 h3
          · have := (exc_zero n f j).1 he (i - 64 * j) (by omega) (by omega)
            rwa [show 64 * j + (i - 64 * j) = i by omega] at this
        have HZ := Lib.hid hz'
        have hx : bits .andNot .u64 ((wd f j : Nat) : Int) ((msk n j : Nat) : Int) = 0 := by rw [u64_andNot_nat _ _ hl hml]; show ((exc n f j : Nat) : Int) = 0; rw [he]; rfl
        clear he hz hz'
        go_wp2_with fail
        go_quiet (exact rowmask_rawq _ r a c n f _ j HR2.out HLt.out _)
        have hx2 := Lib.hid hx
        go_wp2_with fail
        refine (note_raw _ r a c n f _ j (HR2.out.drewN nq) HLt.out).mono ?_
        rintro e w3 ⟨rfl, hr3, ho3⟩
        rw [upF_succ] at hr3
        have HR3 := Lib.hid hr3
        have HO3 := Lib.hid ((only_drewN HOn.out nq).trans ho3 (fun _ _ h => h))
        clear hr3 ho3
        go_wp2
        go_roundg (gk - 1)
        case measure => omega
        case rel => exact ⟨j + 1, by omega, by go_num, HR3.out, HO3.out, HZ⟩
      · have hex : ∃ i, n ≤ i ∧ f i = true := by
          by_cases h : ∃ i, n ≤ i ∧ f i = true
          · exact h
          · refine absurd ((exc_zero n f j).2 fun b hb hn => ?_) he
            cases hfb : f (64 * j + b)
            · rfl
            · exact absurd ⟨_, hn, hfb⟩ h
        have HEx := Lib.hid hex
        obtain ⟨y, hy⟩ : ∃ y, exc n f j = y := ⟨_, rfl⟩
        have hy0 : 0 < y := by omega
        have hx : bits .andNot .u64 ((wd f j : Nat) : Int) ((msk n j : Nat) : Int) = (y : Int) := by rw [u64_andNot_nat _ _ hl hml, ← hy]; rfl
        have hyb : ((y : Int) != 0) = true := by simp; omega
        clear he hz hex hy
        go_wp2_with fail
        go_quiet (exact rowmask_rawq _ r a c n f _ j HR2.out HLt.out _)
        go_wp2
        go_ret2
        exact ⟨bel_only HB.out (only_drewN HOn.out nq) (Nat.le_refl _) (fun i => RowS_ge h1 h2 h3), .inl ⟨rfl, HEx.out⟩⟩
    · obtain rfl : j = wn n := by omega
      have hfin : ∀ i, n ≤ i → f i = false := fun i hi => by
        by_cases h : i < 64 * wn n
        · exact hz.out i hi h
        · exact HF.out i (by omega)
      have HFin := Lib.hid hfin
      clear hr ho hfin
      go_wp2
      go_ret2
      refine ⟨bel_only HB.out HOn.out (Nat.le_refl _) (fun i => RowS_ge h1 h2 h3), .inr ⟨r, a, c, rfl, HFin.out, ?_, h1, h2, h3⟩⟩
      have := HR2.out.mid HFin.out
      rw [upF_all] at this
      exact this
end Go.Proofs.YtadbbknllakpcaaGreat
