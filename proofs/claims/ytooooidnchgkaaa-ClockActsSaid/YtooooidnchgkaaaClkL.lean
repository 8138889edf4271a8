/- ClockSpares and ClockTurns: plain mathematics and the walks over the contracts. -/
import Derived.Test.YtooooidnchgkaaaClkV
import Derived.Deep.RegionWith
namespace Go.Proofs.Ytooooidnchgkaaa
open Go.RowKit
set_option linter.unusedVariables false

/-- The list of f 0, .., f (k - 1). -/
def fnL (k : Nat) (f : Nat → Int) : List Int := (List.range k).map f
theorem fnL_length (k : Nat) (f : Nat → Int) : (fnL k f).length = k := by simp [fnL]
theorem mk_fnL (k : Nat) (f : Nat → Int) (i : Nat) (h : i < k) : mk (fnL k f) i = f i := by simp [mk, fnL, h]
theorem fnL_congr {k : Nat} {f g : Nat → Int} (h : ∀ i, i < k → f i = g i) : fnL k f = fnL k g := List.map_congr_left (fun i hi => h i (List.mem_range.1 hi))
theorem fnL_set (k : Nat) (f : Nat → Int) (i : Nat) (v : Int) : (fnL k f).set i v = fnL k (fun j => if j = i then v else f j) := by
  apply List.ext_getElem
  · simp [fnL]
  · intro j h1 h2
    have hj : j < k := by simpa [fnL] using h2
    simp only [fnL, List.getElem_set, List.getElem_map, List.getElem_range]
    by_cases h : i = j
    · rw [if_pos h, if_pos h.symm]
    · rw [if_neg h, if_neg (fun e => h e.symm)]
theorem fnL_rep (k : Nat) : List.replicate k (0 : Int) = fnL k (fun _ => 0) := by
  apply List.ext_getElem
  · simp [fnL]
  · intro j h1 h2; simp [fnL]
theorem setL_fnL (k : Nat) (f : Nat → Int) (i : Nat) (v : Int) (h : i < k) : setL (fnL k f) i v = fnL k (fun j => if j = i then v else f j) := by
  unfold setL; rw [if_pos ⟨by omega, by rw [fnL_length]; omega⟩, Int.toNat_natCast, fnL_set]
theorem touchL_fnL (k : Nat) (f : Nat → Int) (i : Nat) (h : i < k) (hf : f i ≠ 0) : touchL (fnL k f) i = fnL k (fun j => if j = i then 2 else f j) := by
  unfold touchL; rw [if_pos ⟨by omega, by rw [fnL_length]; omega, by rw [Int.toNat_natCast, mk_fnL k f i h]; exact hf⟩, Int.toNat_natCast, fnL_set]

theorem vrun_spare (s : Nat) : ∀ (K : Nat) (ms : List Int) (h : Nat) (r : List Int × Nat × Nat), vrun [] K ms h = some r → h ≤ s → s < ms.length → (∀ i, h ≤ i → i < s → mk ms i = 2) → mk ms s = 1 → r.2.2 = s ∧ r.2.1 = (s + 1) % ms.length := by
  intro K
  induction K with
  | zero => intro ms h r hr; simp [vrun] at hr
  | succ K ih =>
    intro ms h r hr hs hl h2 h1
    unfold vrun at hr
    by_cases hhs : h = s
    · subst hhs
      rw [if_neg (by simp [h1]), if_neg (by omega)] at hr
      cases hr
      exact ⟨rfl, rfl⟩
    · have hm2 := h2 h (Nat.le_refl _) (by omega)
      rw [if_neg (by simp [hm2]), if_pos hm2, Nat.mod_eq_of_lt (by omega)] at hr
      have := ih (ms.set h 1) (h + 1) r hr (by omega) (by simpa using hl) (fun i hi hi2 => by rw [mk_set ms h i 1 (by omega), if_neg (by omega)]; exact h2 i (by omega) hi2) (by rw [mk_set ms h s 1 (by omega), if_neg (by omega)]; exact h1)
      simpa using this
theorem vicR_spare {ms ms' : List Int} {h' s : Nat} {v : Int} (hv : VicR [] ms 0 ms' h' v) (hl : s < ms.length) (h2 : ∀ i, i < s → mk ms i = 2) (h1 : mk ms s = 1) : v = s ∧ h' = (s + 1) % ms.length := by
  rcases hv with ⟨h0, _⟩ | ⟨k, i, h0, hr, rfl⟩
  · exfalso
    have : anyB ms [] ms.length = true := by
      unfold anyB
      rw [List.any_eq_true]
      exact ⟨s, List.mem_range.2 hl, decide_eq_true ⟨hl, by omega, by simp⟩⟩
    rw [this] at h0; cases h0
  · have := vrun_spare s k ms 0 _ hr (by omega) hl (fun i _ hi => h2 i hi) h1
    exact ⟨by have e := this.1; dsimp only at e; rw [e], this.2⟩
theorem vicR_plain {ms ms' : List Int} {h h' : Nat} {v : Int} (hv : VicR [] ms h ms' h' v) (hl : h < ms.length) (h1 : mk ms h = 1) : v = h ∧ h' = (h + 1) % ms.length ∧ ms' = ms := by
  rcases hv with ⟨h0, _⟩ | ⟨k, i, h0, hr, rfl⟩
  · exfalso
    have : anyB ms [] ms.length = true := by
      unfold anyB
      rw [List.any_eq_true]
      exact ⟨h, List.mem_range.2 hl, decide_eq_true ⟨hl, by omega, by simp⟩⟩
    rw [this] at h0; cases h0
  · cases k with
    | zero => simp [vrun] at hr
    | succ k =>
      unfold vrun at hr
      rw [if_neg (by simp [h1]), if_neg (by omega)] at hr
      simp only [Option.some.injEq, Prod.mk.injEq] at hr
      exact ⟨by rw [hr.2.2], hr.2.1.symm, hr.1.symm⟩

theorem ClkAt.drew {w : World} {p m : Nat} {ms : List Int} {h : Nat} (hc : ClkAt w p m ms h) : ClkAt w.drew p m ms h := hc
theorem ClkS_lt {B p m i : Nat} (h1 : B ≤ p) (h2 : B ≤ m) (h : ClkS p m i) : B ≤ i := by rcases h with rfl | rfl <;> assumption
theorem sp_0 : setL (setL (List.replicate 3 0) 0 1) 1 1 = [1, 1, 0] := by decide
theorem sp_1 : touchL [1, 1, 0] 0 = [2, 1, 0] := by decide

set_option maxHeartbeats 1000000 in
theorem awake_calls21 (w : World) : Calls Try.prog 7 #[] w fun e w' => e = .returned (.bool true) ∧ Below w.heap.size w w' := by
  go_enter Try.func7, Try.ntmps7
  go_wp2_with fail
  refine (new_yes _ 3 (by omega) (by omega)).mono ?_
  rintro e w1 ⟨p, m, rfl, hc, hp, hm, hb⟩
  have HC := Lib.hid hc
  have HB := Lib.hid hb
  clear hc hb
  go_wp2_with fail
  refine (add_calls _ p m _ _ _ HC.out).mono ?_
  rintro e w2 ⟨rfl, hc, ho⟩
  have HC2 := Lib.hid hc
  have HB2 := Lib.hid (bel_only HB.out ho (Nat.le_refl _) (fun i => ClkS_lt hp hm))
  clear hc ho
  go_wp2_with fail
  refine (add_calls _ p m _ _ _ HC2.out).mono ?_
  rintro e w3 ⟨rfl, hc, ho⟩
  rw [sp_0] at hc
  have HC3 := Lib.hid hc
  have HB3 := Lib.hid (bel_only HB2.out ho (Nat.le_refl _) (fun i => ClkS_lt hp hm))
  clear hc ho
  go_wp2_with fail
  refine (touch_calls _ p m _ _ _ HC3.out).mono ?_
  rintro e w4 ⟨rfl, hc, ho⟩
  rw [sp_1] at hc
  have HC4 := Lib.hid hc
  have HB4 := Lib.hid (bel_only HB3.out ho (Nat.le_refl _) (fun i => ClkS_lt hp hm))
  clear hc ho
  go_wp2_with fail
  refine (victim_calls _ p m _ _ _ _ _ _ HC4.out (IntsAt.nil _) (by omega)).mono ?_
  rintro e w5 ⟨ms', h', v, rfl, hv, hc, ho⟩
  obtain ⟨rfl, rfl⟩ := vicR_spare (s := 1) hv (by decide) (fun i hi => by rcases (show i = 0 by omega) with rfl; rfl) rfl
  have HC5 := Lib.hid hc
  have HB5 := Lib.hid (bel_only HB4.out ho (Nat.le_refl _) (fun i => ClkS_lt hp hm))
  clear hc ho hv
  go_wp2_with fail
  refine (hand_calls _ p m _ _ HC5.out).mono ?_
  rintro e w6 ⟨rfl, rfl⟩
  go_wp2
  go_ret
  exact ⟨rfl, HB5.out⟩

theorem rem30 (n c : Int) (h : 1 ≤ c) (h2 : c ≤ 1000) : 0 ≤ n.tmod c % c ∧ n.tmod c % c ≤ c - 1 ∧ -c < n.tmod c ∧ n.tmod c < c := by
  have h1 := Int.natAbs_tmod n c
  have h3 : (Int.natAbs n) % (Int.natAbs c) < Int.natAbs c := Nat.mod_lt _ (by omega)
  have h4 := Int.emod_nonneg (n.tmod c) (show c ≠ 0 by omega)
  have h5 := Int.emod_lt_of_pos (n.tmod c) (show 0 < c by omega)
  omega

/-- What the clock is after i rounds of ClockSpares' loop. -/
def spF (s i : Nat) (j : Nat) : Int := if j < i then (if j = s then 1 else 2) else 0

set_option maxHeartbeats 1000000 in
theorem spares_walk (n a : Int) (w : World) (wn : (Lit.int .i64 n).wf = true) (wa : (Lit.int .u8 a).wf = true) :
    Calls Try.prog 3 #[.int .i64 n, .int .u8 a] w fun e w' => e = .returned (.bool true) ∧ Below w.heap.size w w' := by
  obtain ⟨ha0, ha1⟩ := wf_u8 wa
  obtain ⟨b0, b1, b2, b3⟩ := rem30 n 30 (by omega) (by omega)
  obtain ⟨k, hk⟩ : ∃ k : Nat, 2 + n.tmod 30 % 30 = k := ⟨(2 + n.tmod 30 % 30).toNat, by omega⟩
  have hk2 : 2 ≤ k ∧ k ≤ 31 := by omega
  obtain ⟨s, hs⟩ : ∃ s : Nat, a % (k : Int) = s := ⟨(a % (k : Int)).toNat, by have := Int.emod_nonneg a (show (k : Int) ≠ 0 by omega); omega⟩
  have hsk : s < k := by have := Int.emod_lt_of_pos a (show (0 : Int) < k by omega); omega
  have HK := Lib.hid hk
  have HS := Lib.hid hs
  clear wn wa hk hs
  go_enter Try.func3, Try.ntmps3
  go_wp2_with fail
  refine (awake_calls21 _).mono ?_
  rintro e w1 ⟨rfl, hb1⟩
  have HB1 := Lib.hid hb1
  clear hb1
  go_wp2_with fail
  rw [HK.out]
  refine (new_yes _ k (by omega) (by omega)).mono ?_
  rintro e w2 ⟨p, m, rfl, hc, hp, hm, hb2⟩
  rw [fnL_rep] at hc
  have HC := Lib.hid hc
  have HB := Lib.hid (bel_next HB1.out hb2 (Nat.le_refl _))
  have hwp : w.heap.size ≤ p ∧ w.heap.size ≤ m := by have := HB1.out.size; omega
  clear hc hb2 hp hm b0 b1
  go_wp2_with fail
  rw [HS.out]
  go_loopg [9] k (fun g i wr => ∃ j : Nat, g + j = k ∧ i = .int .i64 j ∧ ClkAt wr p m (fnL k (spF s j)) 0 ∧ Below w.heap.size w wr)
  case atStart => exact ⟨0, by omega, rfl, HC.out, HB.out⟩
  case round =>
    obtain ⟨j, hj, rfl, hcr, hbr⟩ := hrel
    by_cases hlt : j < k
    · have HCr := Lib.hid hcr
      have HBr := Lib.hid hbr
      clear hcr hbr
      go_wp2_with fail
      refine (add_calls _ p m _ _ _ HCr.out).mono ?_
      rintro e w3 ⟨rfl, hc, ho⟩
      rw [setL_fnL k _ j 1 hlt] at hc
      have HC3 := Lib.hid hc
      have HB3 := Lib.hid (bel_only HBr.out ho (Nat.le_refl _) (fun i => ClkS_lt hwp.1 hwp.2))
      clear hc ho
      by_cases hjs : j = s
      · have e1 : ((j : Int) != (s : Int)) = false := by rw [bne_eq_false_iff_eq]; omega
        have hf : fnL k (fun i => if i = j then 1 else spF s j i) = fnL k (spF s (j + 1)) := fnL_congr (fun i hi => by
          unfold spF; subst hjs
          by_cases h1 : i = j
          · subst h1; simp
          · by_cases h2 : i < j
            · simp [h1, h2, show i < j + 1 by omega]
            · simp [h1, h2, show ¬ i < j + 1 by omega])
        have HF := Lib.hid hf
        clear hf
        go_wp2
        go_roundg (gk - 1)
        case measure => omega
        case rel => exact ⟨j + 1, by omega, by go_num, by rw [← HF.out]; exact HC3.out, HB3.out⟩
      · have e1 : ((j : Int) != (s : Int)) = true := by simp; omega
        go_wp2_with fail
        refine (touch_calls _ p m _ _ _ HC3.out).mono ?_
        rintro e w4 ⟨rfl, hc, ho⟩
        rw [touchL_fnL k _ j hlt (by simp)] at hc
        have hf : fnL k (fun i => if i = j then 2 else if i = j then 1 else spF s j i) = fnL k (spF s (j + 1)) := fnL_congr (fun i hi => by
          unfold spF
          by_cases h1 : i = j
          · subst h1; simp [hjs]
          · by_cases h2 : i < j
            · simp [h1, h2, show i < j + 1 by omega]
            · simp [h1, h2, show ¬ i < j + 1 by omega])
        rw [hf] at hc
        have HC4 := Lib.hid hc
        have HB4 := Lib.hid (bel_only HB3.out ho (Nat.le_refl _) (fun i => ClkS_lt hwp.1 hwp.2))
        clear hc ho hf
        go_wp2
        go_roundg (gk - 1)
        case measure => omega
        case rel => exact ⟨j + 1, by omega, by go_num, HC4.out, HB4.out⟩
    · obtain rfl : j = k := by omega
      have HCr := Lib.hid hcr
      have HBr := Lib.hid hbr
      clear hcr hbr
      go_wp2_with fail
      refine (victim_calls _ p m _ _ _ _ _ _ HCr.out (IntsAt.nil _) (by omega)).mono ?_
      rintro e w5 ⟨ms', h', v, rfl, hv, hc, ho⟩
      obtain ⟨rfl, _⟩ := vicR_spare (s := s) hv (by rw [fnL_length]; exact hsk) (fun i hi => by rw [mk_fnL _ _ _ (by omega)]; unfold spF; rw [if_pos (by omega), if_neg (by omega)]) (by rw [mk_fnL _ _ _ hsk]; unfold spF; rw [if_pos hsk, if_pos rfl])
      have HB5 := Lib.hid (bel_only HBr.out ho (Nat.le_refl _) (fun i => ClkS_lt hwp.1 hwp.2))
      clear hc ho hv
      go_wp2
      go_ret
      exact ⟨ret_bool (by simp), HB5.out⟩

end Go.Proofs.Ytooooidnchgkaaa
