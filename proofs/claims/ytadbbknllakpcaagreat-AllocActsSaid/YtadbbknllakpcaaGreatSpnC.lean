/- The walks through package span: Take, Give. -/
import Derived.Test.YtadbbknllakpcaaGreatSpnP
namespace Go.Proofs.YtadbbknllakpcaaGreat
open Go.RowKit
set_option linter.unusedVariables false

theorem find1_none {f : Nat → Bool} {n : Nat} (h : FindR f n 1 (-1)) : ∀ i, i < n → f i = true := fun i hi => by
  rcases h with ⟨_, h⟩ | ⟨p, h, _⟩
  · obtain ⟨x, h1, h2, h3⟩ := h i (by omega)
    rwa [show i = x by omega]
  · omega
theorem find1_hit {f : Nat → Bool} {n i : Nat} (h : FindR f n 1 (i : Int)) : i < n ∧ f i = false ∧ ∀ j, j < i → f j = true := by
  rcases h with ⟨h, _⟩ | ⟨p, h, h1, h2, h3⟩
  · omega
  · obtain rfl : i = p := by omega
    refine ⟨by omega, h2 i (Nat.le_refl _) (by omega), fun j hj => ?_⟩
    obtain ⟨x, g1, g2, g3⟩ := h3 j hj
    rwa [show j = x by omega]
/-- What Take answers. -/
def TakeR (pg ps cl : Int) (len : Nat) (f : Nat → Bool) (w : World) (e : Ending) (w' : World) : Prop :=
  Below w.heap.size w w' ∧ ((e = .returned (.tuple #[spV 0 0 0 none 0 0, .int .i64 0, .int .i64 12]) ∧ ∀ i, i < perN cl → f i = true) ∨
    ∃ (i : Nat) (A : Option Addr) (cap : Nat), e = .returned (.tuple #[spV pg ps cl A len cap, .int .i64 (512 * pg + ((i * sizN cl ps : Nat) : Int)), .int .i64 0]) ∧ i < perN cl ∧ f i = false ∧ (∀ j, j < i → f j = true) ∧ WordsAt w' A len (put f i true))
/-- .. with the new words' place. -/
def TakeF (pg ps cl : Int) (len : Nat) (f : Nat → Bool) (w : World) (e : Ending) (w' : World) : Prop :=
  Below w.heap.size w w' ∧ ((e = .returned (.tuple #[spV 0 0 0 none 0 0, .int .i64 0, .int .i64 12]) ∧ ∀ i, i < perN cl → f i = true) ∨
    ∃ (i : Nat) (A : Option Addr) (cap : Nat), e = .returned (.tuple #[spV pg ps cl A len cap, .int .i64 (512 * pg + ((i * sizN cl ps : Nat) : Int)), .int .i64 0]) ∧ i < perN cl ∧ f i = false ∧ (∀ j, j < i → f j = true) ∧ WordsAt w' A len (put f i true) ∧ ∀ x o, A = some ⟨x, o, none⟩ → w.heap.size ≤ x)
set_option maxHeartbeats 2000000 in
theorem take15F_calls (pg ps cl : Int) (A : Option Addr) (len cap : Nat) (f : Nat → Bool) (w : World) (hg : Good pg ps cl len f) (h : WordsAt w A len f) :
    Calls Tryz.prog 26 #[spV pg ps cl A len cap] w (TakeF pg ps cl len f w) := by
  obtain ⟨w1, hw1, hS, hR, hB⟩ := two_spans w pg ps cl A len cap
  have HG := Lib.hid hg
  have HI := Lib.hid hg.i64
  have HB := Lib.hid hB
  have HS := Lib.hid hS
  have HR := Lib.hid hR
  have HW := Lib.hid (h.below hB)
  have hl2 := hR.lt
  obtain ⟨s0, s1, s2, s3⟩ := HS.out.cells
  obtain ⟨z0, z1, z2, z3, z4, z5⟩ := hg.size
  have p1 := hg.p1
  have p2 := hg.p2
  have p3 := hg.p3
  have HZ := Lib.hid z0
  have HL := Lib.hid hg.live.1
  clear h hg hS hR hB z0
  unfold spV
  go_enter Tryz.func26, Tryz.ntmps26
  go_wp2_with fail
  refine (row_calls pg ps cl A len cap f _ HI.out.1 HI.out.2.1 HI.out.2.2 HW.out).mono ?_
  rintro e w2 ⟨hb, ⟨rfl, hno⟩ | ⟨r, a, c, rfl, hok, hr, g1, g2, g3⟩⟩
  · exact absurd HG.out.live hno
  have HB2 := Lib.hid (bel_next HB.out hb (Nat.le_refl _))
  have HS2 := Lib.hid (HS.out.below hb)
  have HR2 := Lib.hid (HR.out.below hb)
  have HRow := Lib.hid hr
  have hsz := hb.size
  have hne : w.heap.size + 1 < r ∧ w.heap.size + 1 < a ∧ w.heap.size + 1 < c := by omega
  obtain ⟨s0, s1, s2, s3⟩ := HS2.out.cells
  obtain ⟨e0, e1, e2, e3⟩ := HR2.out.free
  obtain ⟨q0, q1, q2, q3⟩ := HR2.out.cells
  clear hw1 hb hr hok
  go_wp2_with fail
  refine (find_calls _ r a c (perN cl) f 1 HRow.out (by omega) (by omega)).mono ?_
  rintro e w3 ⟨v, rfl, hfr, rfl⟩
  rcases hfr.form with rfl | ⟨i, rfl⟩
  · have HN := Lib.hid (find1_none hfr)
    clear hfr
    go_wp2
    refine bodyPost_ret (v := .tuple #[spV 0 0 0 none 0 0, .int .i64 0, .int .i64 12]) (by simp [spV, results, Tryz.results26, go_sem, q0, q1, q2, q3]) rfl ?_
    exact ⟨below4 HB2.out (by omega) _ _ _ _, .inl ⟨rfl, HN.out⟩⟩
  · obtain ⟨hi, hfi, hpre⟩ := find1_hit hfr
    have HP := Lib.hid hpre
    have HFi := Lib.hid hfi
    have h5 : (i + 1) * sizN cl ps ≤ perN cl * sizN cl ps := Nat.mul_le_mul_right _ hi
    rw [Nat.add_mul, Nat.one_mul] at h5
    have hm : ((i * sizN cl ps : Nat) : Int) = (i : Int) * (sizN cl ps : Int) := by simp
    have hb5 : 0 ≤ (i : Int) * (sizN cl ps : Int) ∧ (i : Int) * (sizN cl ps : Int) ≤ 2097152 := by omega
    have HM := Lib.hid hm
    clear hfr hfi hpre h5 hm z5
    go_wp2_with fail
    refine (set_ok _ r a c (perN cl) f i 1 HRow.out (by omega) (fun j h1 h2 => by rw [show j = i by omega]; exact HFi.out)).mono ?_
    rintro e w4 ⟨rfl, hr4, ho4⟩
    rw [fill_one] at hr4
    have HRow4 := Lib.hid hr4
    have HS4 := Lib.hid (show SpB w4 w.heap.size pg ps cl A len cap from Blk.only HS2.out ho4 (by unfold RowS; omega))
    have HR4 := Lib.hid (show SpB w4 (w.heap.size + 1) 0 0 0 none 0 0 from Blk.only HR2.out ho4 (by unfold RowS; omega))
    have HB4 := Lib.hid (bel_only HB2.out ho4 (by have := HB2.out.size; omega) (fun i hi => by unfold RowS at hi; omega))
    obtain ⟨s0, s1, s2, s3⟩ := HS4.out.cells
    clear ho4 hr4
    go_wp2_with fail
    refine (sizes_calls pg ps cl A len cap _ HI.out.1 HI.out.2.1 HI.out.2.2).mono ?_
    rintro e w5 ⟨rfl, hb⟩
    have HB5 := Lib.hid (bel_next HB4.out hb (Nat.le_refl _))
    have hS5 := HS4.out.below hb
    have hR5 := HR4.out.below hb
    have HS5 := Lib.hid (show SpB w5.drew w.heap.size pg ps cl A len cap from hS5)
    have HR5 := Lib.hid (show SpB w5.drew (w.heap.size + 1) 0 0 0 none 0 0 from hR5)
    have HRow5 := Lib.hid (show RowAt w5.drew r a c (perN cl) (put f i true) from (RowMid.below HRow4.out hb).drewN 1)
    have HBd := Lib.hid (show Below w.heap.size w w5.drew from HB5.out.drew)
    rw [HZ.out]
    obtain ⟨s0, s1, s2, s3⟩ := hS5.cells
    obtain ⟨e0, e1, e2, e3⟩ := hR5.free
    clear hb hS5 hR5
    obtain ⟨m, hm⟩ : ∃ m : Nat, i * sizN cl ps = m := ⟨_, rfl⟩
    have hmi : (i : Int) * (sizN cl ps : Int) = (m : Int) := by rw [← hm]; simp
    have hmb : m ≤ 2097152 := by omega
    have HMm := Lib.hid hm
    clear hm
    go_wp2_with fail
    go_region_with (first | (go_at_call 64; refine (with_calls pg ps cl A len cap _ r a c (perN cl) _ _ HRow5.out).mono ?_; rintro e w6 ⟨A', cap', rfl, hW6, hb6, hA6⟩; obtain ⟨s0, s1, s2, s3⟩ := (HS5.out.below hb6).cells; obtain ⟨e0, e1, e2, e3⟩ := (HR5.out.below hb6).free; obtain ⟨q0, q1, q2, q3⟩ := (HR5.out.below hb6).cells; have HW6 := Lib.hid hW6; have HA6 := Lib.hid hA6; have HB6 := Lib.hid (bel_next HBd.out hb6 (Nat.le_refl _)); clear hW6 hA6 hb6))
    all_goals
      have hval : IntKind.i64.wrap (IntKind.i64.wrap (pg * 512) + IntKind.i64.wrap (m : Int)) = 512 * pg + ((i * sizN cl ps : Nat) : Int) := by
        rw [HMm.out, IntWalk.i64_in (pg * 512) (by omega), IntWalk.i64_in (m : Int) (by omega), IntWalk.i64_in _ (by omega)]; omega
      rw [hval]
      clear hval
      go_wp2
      refine bodyPost_ret (v := .tuple #[spV pg ps cl A' (wn (perN cl)) cap', .int .i64 (512 * pg + ((i * sizN cl ps : Nat) : Int)), .int .i64 0]) (by simp [spV, results, Tryz.results26, go_sem, q0, q1, q2, q3]) rfl ?_
      refine ⟨below4 HB6.out (by omega) _ _ _ _, .inr ⟨i, A', cap', by rw [HL.out], hi, HFi.out, HP.out, ?_, fun x o he => by have h1 := HA6.out x o he; have h2 := HBd.out.size; omega⟩⟩
      rw [HL.out]
      exact WordsAt.set4 HW6.out (fun x o he => by have := HA6.out x o he; have := HR5.out.lt; omega) _ _ _ _

theorem take15_calls (pg ps cl : Int) (A : Option Addr) (len cap : Nat) (f : Nat → Bool) (w : World) (hg : Good pg ps cl len f) (h : WordsAt w A len f) :
    Calls Tryz.prog 26 #[spV pg ps cl A len cap] w (TakeR pg ps cl len f w) :=
  (take15F_calls pg ps cl A len cap f w hg h).mono fun e w' ⟨h1, h2⟩ => ⟨h1, h2.imp id fun ⟨i, A, cap, h3, h4, h5, h6, h7, _⟩ => ⟨i, A, cap, h3, h4, h5, h6, h7⟩⟩
/-- What Give answers. -/
def GiveR (pg ps cl : Int) (len : Nat) (f : Nat → Bool) (x : Int) (w : World) (e : Ending) (w' : World) : Prop :=
  Below w.heap.size w w' ∧ ((e = .returned (.tuple #[spV 0 0 0 none 0 0, .int .i64 17]) ∧ ∀ i : Nat, i < perN cl → f i = true → x ≠ 512 * pg + ((i * sizN cl ps : Nat) : Int)) ∨
    ∃ (i : Nat) (A : Option Addr) (cap : Nat), e = .returned (.tuple #[spV pg ps cl A len cap, .int .i64 0]) ∧ i < perN cl ∧ f i = true ∧ x = 512 * pg + ((i * sizN cl ps : Nat) : Int) ∧ WordsAt w' A len (put f i false))
def GiveF (pg ps cl : Int) (len : Nat) (f : Nat → Bool) (x : Int) (w : World) (e : Ending) (w' : World) : Prop :=
  Below w.heap.size w w' ∧ ((e = .returned (.tuple #[spV 0 0 0 none 0 0, .int .i64 17]) ∧ ∀ i : Nat, i < perN cl → f i = true → x ≠ 512 * pg + ((i * sizN cl ps : Nat) : Int)) ∨
    ∃ (i : Nat) (A : Option Addr) (cap : Nat), e = .returned (.tuple #[spV pg ps cl A len cap, .int .i64 0]) ∧ i < perN cl ∧ f i = true ∧ x = 512 * pg + ((i * sizN cl ps : Nat) : Int) ∧ WordsAt w' A len (put f i false) ∧ ∀ y o, A = some ⟨y, o, none⟩ → w.heap.size ≤ y)
theorem WhichR.not_at {pg : Int} {P S : Nat} {f : Nat → Bool} {x v u : Int} (h : WhichR pg P S f x v u) (hS : 1 ≤ S) (hn : v = -1 ∨ u ≠ 0) : ∀ i : Nat, i < P → f i = true → x ≠ 512 * pg + ((i * S : Nat) : Int) := by
  intro i hi hf hx
  rcases h with ⟨_, _, h⟩ | ⟨j, hj, hfj, rfl, hxj, h0, h1⟩
  · have := h i hi hf (by omega); omega
  · have hu : u ≠ 0 := by rcases hn with h | h; omega; exact h
    rcases Nat.lt_trichotomy i j with h | h | h
    · have h5 : (i + 1) * S ≤ j * S := Nat.mul_le_mul_right _ h
      rw [Nat.add_mul, Nat.one_mul] at h5
      omega
    · subst h; omega
    · have h5 : (j + 1) * S ≤ i * S := Nat.mul_le_mul_right _ h
      rw [Nat.add_mul, Nat.one_mul] at h5
      omega
set_option maxHeartbeats 2000000 in
theorem give15F_calls (pg ps cl : Int) (A : Option Addr) (len cap : Nat) (f : Nat → Bool) (x : Int) (w : World) (hg : Good pg ps cl len f) (hx : I64 x) (h : WordsAt w A len f) :
    Calls Tryz.prog 39 #[spV pg ps cl A len cap, .int .i64 x] w (GiveF pg ps cl len f x w) := by
  obtain ⟨w1, hw1, hS, hR, hB⟩ := two_spans w pg ps cl A len cap
  have HG := Lib.hid hg
  have HX := Lib.hid hx
  have HI := Lib.hid hg.i64
  have HB := Lib.hid hB
  have HS := Lib.hid hS
  have HR := Lib.hid hR
  have HW := Lib.hid (h.below hB)
  have hl2 := hR.lt
  obtain ⟨s0, s1, s2, s3⟩ := HS.out.cells
  obtain ⟨z0, z1, z2, z3, z4, z5⟩ := hg.size
  have HL := Lib.hid hg.live.1
  clear h hg hS hR hB z0 z5
  unfold spV
  go_enter Tryz.func39, Tryz.ntmps39
  go_wp2_with fail
  refine (which_calls pg ps cl A len cap f x _ HG.out HX.out HW.out).mono ?_
  rintro e w2 ⟨v, u, rfl, hwh, hb⟩
  have HB2 := Lib.hid (bel_next HB.out hb (Nat.le_refl _))
  have HS2 := Lib.hid (HS.out.below hb)
  have HR2 := Lib.hid (HR.out.below hb)
  have HW2 := Lib.hid (HW.out.below hb)
  have hsz := hb.size
  obtain ⟨s0, s1, s2, s3⟩ := HS2.out.cells
  obtain ⟨e0, e1, e2, e3⟩ := HR2.out.free
  obtain ⟨q0, q1, q2, q3⟩ := HR2.out.cells
  clear hw1 hb
  have HWh := Lib.hid hwh
  by_cases hn : v = -1 ∨ u ≠ 0
  · have HN := Lib.hid (hwh.not_at z1 hn)
    have hv : (v = -1 ∧ u = 0) ∨ (0 ≤ v ∧ (u != 0) = true ∧ ¬ v < 0) := by
      rcases hwh with ⟨h1, h2, _⟩ | ⟨i, _, _, h1, _⟩
      · exact .inl ⟨h1, h2⟩
      · refine .inr ⟨by omega, ?_, by omega⟩
        rw [bne_iff_ne]; rcases hn with h | h; omega; exact h
    clear hwh hn
    rcases hv with ⟨rfl, rfl⟩ | ⟨hv, hu, hv2⟩
    all_goals
      go_wp2
      refine bodyPost_ret (v := .tuple #[spV 0 0 0 none 0 0, .int .i64 17]) (by simp [spV, results, Tryz.results39, go_sem, q0, q1, q2, q3]) rfl ?_
      exact ⟨below4 HB2.out (by omega) _ _ _ _, .inl ⟨rfl, HN.out⟩⟩
  · rcases hwh with ⟨h1, _⟩ | ⟨i, hi, hfi, rfl, hxe, hu0, hu1⟩
    · exact absurd (.inl h1) hn
    obtain rfl : u = 0 := Classical.byContradiction fun h => hn (.inr h)
    have HXe := Lib.hid hxe
    have HFi := Lib.hid hfi
    clear hn hxe hu0 hu1
    go_wp2_with fail
    refine (row_calls pg ps cl A len cap f _ HI.out.1 HI.out.2.1 HI.out.2.2 HW2.out).mono ?_
    rintro e w3 ⟨hb, ⟨rfl, hno⟩ | ⟨r, a, c, rfl, hok, hr, g1, g2, g3⟩⟩
    · exact absurd HG.out.live hno
    have HB3 := Lib.hid (bel_next HB2.out hb (Nat.le_refl _))
    have HS3 := Lib.hid (HS2.out.below hb)
    have HR3 := Lib.hid (HR2.out.below hb)
    have HRow := Lib.hid hr
    have hne : w.heap.size + 1 < r ∧ w.heap.size + 1 < a ∧ w.heap.size + 1 < c := by omega
    clear hb hr hok
    go_wp2_with fail
    refine (clear_ok _ r a c (perN cl) f i 1 HRow.out (by omega) (fun j h1 h2 => by rw [show j = i by omega]; exact HFi.out)).mono ?_
    rintro e w4 ⟨rfl, hr4, ho4⟩
    rw [fill_one] at hr4
    have HRow4 := Lib.hid hr4
    have HS4 := Lib.hid (show SpB w4 w.heap.size pg ps cl A len cap from Blk.only HS3.out ho4 (by unfold RowS; omega))
    have HR4 := Lib.hid (show SpB w4 (w.heap.size + 1) 0 0 0 none 0 0 from Blk.only HR3.out ho4 (by unfold RowS; omega))
    have HB4 := Lib.hid (bel_only HB3.out ho4 (by have := HB3.out.size; omega) (fun i hi => by unfold RowS at hi; omega))
    obtain ⟨s0, s1, s2, s3⟩ := HS4.out.cells
    clear ho4 hr4
    go_wp2_with fail
    refine (with_calls pg ps cl A len cap _ r a c (perN cl) _ _ HRow4.out).mono ?_
    rintro e w6 ⟨A', cap', rfl, hW6, hb6, hA6⟩
    obtain ⟨e0, e1, e2, e3⟩ := (HR4.out.below hb6).free
    obtain ⟨q0, q1, q2, q3⟩ := (HR4.out.below hb6).cells
    have HW6 := Lib.hid hW6
    have HA6 := Lib.hid hA6
    have HB6 := Lib.hid (bel_next HB4.out hb6 (Nat.le_refl _))
    clear hW6 hA6 hb6
    go_wp2
    refine bodyPost_ret (v := .tuple #[spV pg ps cl A' (wn (perN cl)) cap', .int .i64 0]) (by simp [spV, results, Tryz.results39, go_sem, q0, q1, q2, q3]) rfl ?_
    refine ⟨below4 HB6.out (by omega) _ _ _ _, .inr ⟨i, A', cap', by rw [HL.out], hi, HFi.out, by have := HXe.out; omega, ?_, fun x o he => by have h1 := HA6.out x o he; have h2 := HB4.out.size; omega⟩⟩
    rw [HL.out]
    exact WordsAt.set4 HW6.out (fun x o he => by have := HA6.out x o he; have := HR4.out.lt; omega) _ _ _ _
theorem give15_calls (pg ps cl : Int) (A : Option Addr) (len cap : Nat) (f : Nat → Bool) (x : Int) (w : World) (hg : Good pg ps cl len f) (hx : I64 x) (h : WordsAt w A len f) :
    Calls Tryz.prog 39 #[spV pg ps cl A len cap, .int .i64 x] w (GiveR pg ps cl len f x w) :=
  (give15F_calls pg ps cl A len cap f x w hg hx h).mono fun e w' ⟨h1, h2⟩ => ⟨h1, h2.imp id fun ⟨i, A, cap, h3, h4, h5, h6, h7, _⟩ => ⟨i, A, cap, h3, h4, h5, h6, h7⟩⟩
end Go.Proofs.YtadbbknllakpcaaGreat

/- The document's example for spans; spans laid in blocks. -/
namespace Go.Proofs.YtadbbknllakpcaaGreat
open Go.RowKit
set_option linter.unusedVariables false

theorem set4_span {w : World} {b : Nat} {x0 x1 x2 x3 : Value} (h : Blk w b [x0, x1, x2, x3] 27) (pg ps cl : Int) (A : Option Addr) (len cap : Nat) :
    SpB ((((w.setCell ⟨b, 0, none⟩ (.int .i64 pg)).setCell ⟨b, 1, none⟩ (.int .i64 ps)).setCell ⟨b, 2, none⟩ (.int .i64 cl)).setCell ⟨b, 3, none⟩ (.slice A len cap)) b pg ps cl A len cap :=
  (((Blk.set h 0 (.int .i64 pg)).set 1 (.int .i64 ps)).set 2 (.int .i64 cl)).set 3 (.slice A len cap)
/-- A span has just been laid in a block of its own. -/
theorem laid_span (w : World) (pg ps cl : Int) (A : Option Addr) (len cap : Nat) : ∃ w1, ((((w.alloc (.cells #[.int .i64 0, .int .i64 0, .int .i64 0, .slice none 0 0] 27)).setCell ⟨w.heap.size, 0, none⟩ (.int .i64 pg)).setCell ⟨w.heap.size, 1, none⟩ (.int .i64 ps)).setCell ⟨w.heap.size, 2, none⟩ (.int .i64 cl)).setCell ⟨w.heap.size, 3, none⟩ (.slice A len cap) = w1 ∧
    SpB w1 w.heap.size pg ps cl A len cap ∧ Below w.heap.size w w1 :=
  ⟨_, rfl, set4_span (Blk.new w #[.int .i64 0, .int .i64 0, .int .i64 0, .slice none 0 0] 27) pg ps cl A len cap, below4 ((Below.refl _ _).alloc (Nat.le_refl _) _) (Nat.le_refl _) _ _ _ _⟩
theorem WordsAt.apart {w : World} {b : Nat} {pg ps cl : Int} {A A' : Option Addr} {len len' cap : Nat} {f : Nat → Bool} (h : WordsAt w A' len' f) (hS : SpB w b pg ps cl A len cap) (hl : 0 < len') : ∀ x o, A' = some ⟨x, o, none⟩ → x ≠ b := by
  rintro x o rfl rfl
  obtain ⟨b1, o1, he, hlt, hc⟩ := h.1.resolve_left (by omega)
  cases he
  have h0 := hc 0 _ (wdV_at len' f 0 hl)
  rw [Nat.add_zero, Blk.cell hS o] at h0
  match o, h0 with
  | 0, h => simp at h
  | 1, h => simp at h
  | 2, h => simp at h
  | 3, h => simp at h
  | o + 4, h => simp at h
theorem WordsAt.store {w : World} {b : Nat} {pg ps cl : Int} {A A' : Option Addr} {len len' cap : Nat} {f : Nat → Bool} (h : WordsAt w A' len' f) (hS : SpB w b pg ps cl A len cap) (x0 x1 x2 x3 : Value) :
    WordsAt ((((w.setCell ⟨b, 0, none⟩ x0).setCell ⟨b, 1, none⟩ x1).setCell ⟨b, 2, none⟩ x2).setCell ⟨b, 3, none⟩ x3) A' len' f := by
  by_cases hl : 0 < len'
  · exact h.set4 (h.apart hS hl) _ _ _ _
  · exact ⟨.inl (by omega), h.2⟩
/-- A span is stored in a block that held one. -/
theorem stored_span {w : World} {b : Nat} {pg ps cl : Int} {A : Option Addr} {len cap : Nat} (h : SpB w b pg ps cl A len cap) (B : Nat) (w0 : World) (hB : Below B w0 w) (hb : B ≤ b) (pg' ps' cl' : Int) (A' : Option Addr) (len' cap' : Nat) (f : Nat → Bool) (hW : WordsAt w A' len' f) :
    ∃ w1, (((w.setCell ⟨b, 0, none⟩ (.int .i64 pg')).setCell ⟨b, 1, none⟩ (.int .i64 ps')).setCell ⟨b, 2, none⟩ (.int .i64 cl')).setCell ⟨b, 3, none⟩ (.slice A' len' cap') = w1 ∧ SpB w1 b pg' ps' cl' A' len' cap' ∧ Below B w0 w1 ∧ WordsAt w1 A' len' f :=
  ⟨_, rfl, set4_span h _ _ _ _ _ _, below4 hB hb _ _ _ _, hW.store h _ _ _ _⟩

/-- The lowest bits, so many. -/
def low (k j : Nat) : Bool := decide (j < k)
theorem low_yes {k j : Nat} (h : j < k) : low k j = true := decide_eq_true h
theorem low_no {k j : Nat} (h : k ≤ j) : low k j = false := decide_eq_false (by omega)
theorem low_one : low 1 = bit0 := funext fun j => by unfold low bit0; congr 1; apply propext; omega
theorem low_put (k : Nat) : put (low k) k true = low (k + 1) := funext fun j => by
  unfold put low
  by_cases h : j = k
  · rw [if_pos h, decide_eq_true (by omega)]
  · rw [if_neg h]; congr 1; apply propext; omega
theorem low_drop (k : Nat) : put (low (k + 1)) k false = low k := funext fun j => by
  unfold put low
  by_cases h : j = k
  · rw [if_pos h, decide_eq_false (by omega)]
  · rw [if_neg h]; congr 1; apply propext; omega
theorem low_none : low 0 = fun _ => false := funext fun j => decide_eq_false (by omega)
/-- A new span is good. -/
theorem good_new {pg c : Int} (h : newB pg c = true) (h2 : pg + pagesL c ≤ 4096) (hc : c ≠ 255) : Good pg (pagesL c) c 1 bit0 := by
  have h1 := (new_iff pg c).2 (.inl ⟨hc, h⟩)
  exact (Good.of_right h1 (fun i hi => bit0_out i (by omega))).1

theorem new_0 : newB 1 0 = true := by decide
theorem pages_0 : pagesL 0 = 1 := by decide
theorem per_0 : perN 0 = 32 := by decide
theorem siz_0 : sizN 0 1 = 16 := by decide
end Go.Proofs.YtadbbknllakpcaaGreat
