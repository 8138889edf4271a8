/- The walk of ClockTurns over the contracts. -/
import Derived.Test.YtooooidnchgkaaaClkL
namespace Go.Proofs.Ytooooidnchgkaaa
open Go.RowKit
set_option linter.unusedVariables false

set_option maxHeartbeats 6000000 in
theorem turns_walk21 (n r : Int) (w : World) (wn : (Lit.int .i64 n).wf = true) (wr : (Lit.int .u8 r).wf = true) :
    Calls Try.prog 4 #[.int .i64 n, .int .u8 r] w fun e w' => e = .returned (.bool true) ∧ Below w.heap.size w w' := by
  obtain ⟨hr0, hr1⟩ := wf_u8 wr
  obtain ⟨b0, b1, b2, b3⟩ := rem30 n 20 (by omega) (by omega)
  obtain ⟨k, hk⟩ : ∃ k : Nat, 1 + n.tmod 20 % 20 = k := ⟨(1 + n.tmod 20 % 20).toNat, by omega⟩
  have hk2 : 1 ≤ k ∧ k ≤ 20 := by omega
  have HK := Lib.hid hk
  clear wn wr hk
  go_enter Try.func4, Try.ntmps4
  go_wp2_with fail
  refine (awake_calls21 _).mono ?_
  rintro e w1 ⟨rfl, hb1⟩
  have HB1 := Lib.hid hb1
  clear hb1
  go_wp2_with fail
  rw [HK.out]
  refine (new_yes _ k (by omega) (by omega)).mono ?_
  rintro e w2 ⟨p, m, rfl, hc, hp, hm, hb2⟩
  rw [fnL_rep] at hc
  have HC := Lib.hid hc
  have HB := Lib.hid (bel_next HB1.out hb2 (Nat.le_refl _))
  have hwp : w.heap.size ≤ p ∧ w.heap.size ≤ m := by have := HB1.out.size; omega
  clear hc hb2 hp hm b0 b1
  go_wp2_with fail
  go_loopg [8] k (fun g i wr => ∃ j : Nat, g + j = k ∧ i = .int .i64 j ∧ ClkAt wr p m (fnL k (fun x => if x < j then 1 else 0)) 0 ∧ Below w.heap.size w wr)
  case atStart => exact ⟨0, by omega, rfl, HC.out, HB.out⟩
  case round =>
    obtain ⟨j, hj, rfl, hcr, hbr⟩ := hrel
    by_cases hlt : j < k
    · have HCr := Lib.hid hcr
      have HBr := Lib.hid hbr
      clear hcr hbr
      go_wp2_with fail
      refine (add_calls _ p m _ _ _ HCr.out).mono ?_
      rintro e w3 ⟨rfl, hc, ho⟩
      rw [setL_fnL k _ j 1 hlt] at hc
      have hf : fnL k (fun i => if i = j then 1 else if i < j then 1 else 0) = fnL k (fun i => if i < j + 1 then 1 else 0) := fnL_congr (fun i hi => by
        by_cases h1 : i = j
        · subst h1; simp
        · by_cases h2 : i < j
          · simp [h2, show i < j + 1 by omega]
          · simp [h1, h2, show ¬ i < j + 1 by omega])
      rw [hf] at hc
      have HC3 := Lib.hid hc
      have HB3 := Lib.hid (bel_only HBr.out ho (Nat.le_refl _) (fun i => ClkS_lt hwp.1 hwp.2))
      clear hc ho hf
      go_wp2
      go_roundg (gk - 1)
      case measure => omega
      case rel => exact ⟨j + 1, by omega, by go_num, HC3.out, HB3.out⟩
    · obtain rfl : j = k := by omega
      have hones : fnL j (fun x => if x < j then 1 else 0) = fnL j (fun _ => 1) := fnL_congr (fun i hi => by simp [hi])
      rw [hones] at hcr
      have HCr := Lib.hid hcr
      have HBr := Lib.hid hbr
      clear hcr hbr hones
      go_wp2_with fail
      go_loopg [9] 60 (fun g i wr => ∃ t : Nat, g + t = 60 ∧ i = .int .i64 t ∧ ClkAt wr p m (fnL j (fun _ => 1)) (t % j) ∧ Below w.heap.size w wr)
      case atStart => exact ⟨0, by omega, rfl, by simpa using HCr.out, HBr.out⟩
      case round =>
        obtain ⟨t, ht, rfl, hcr, hbr⟩ := hrel
        by_cases hlt2 : (t : Int) < r % 60
        · have HCr := Lib.hid hcr
          have HBr := Lib.hid hbr
          clear hcr hbr
          have htj : t % j < j := Nat.mod_lt _ (by omega)
          have e1 : (((t % j : Nat) : Int) != (t : Int) % (j : Int)) = false := by simp
          have e2 : ((((t + 1) % j : Nat) : Int) != ((t : Int) + 1) % (j : Int)) = false := by simp
          have HCd := Lib.hid HCr.out.drew
          have HBd := Lib.hid HBr.out.drew
          have hj0 : ¬ (j : Int) = 0 := by omega
          have hw4 : IntKind.i64.wrap ((t : Int) % (j : Int)) = (t : Int) % (j : Int) := IntWalk.i64_in _ (by have := Int.emod_nonneg (t : Int) hj0; have := Int.emod_lt_of_pos (t : Int) (show (0 : Int) < j by omega); omega)
          have hw5 : IntKind.i64.wrap (((t : Int) + 1) % (j : Int)) = ((t : Int) + 1) % (j : Int) := IntWalk.i64_in _ (by have := Int.emod_nonneg ((t : Int) + 1) hj0; have := Int.emod_lt_of_pos ((t : Int) + 1) (show (0 : Int) < j by omega); omega)
          have hw1 : IntKind.i64.wrap ((t : Int) + 1) = (t : Int) + 1 := IntWalk.i64_in _ (by omega)
          have hw2 : ((t : Int)).tmod (j : Int) = (t : Int) % (j : Int) := Int.tmod_eq_emod_of_nonneg (by omega)
          have hw3 : ((t : Int) + 1).tmod (j : Int) = ((t : Int) + 1) % (j : Int) := Int.tmod_eq_emod_of_nonneg (by omega)
          go_wp2_with fail
          go_region_with (first
            | (go_at_call 11; refine (victim_calls _ p m _ _ _ _ _ _ HCd.out (IntsAt.nil _) (by omega)).mono ?_; rintro e w5 ⟨ms', h', v, rfl, hv, hc, ho⟩; obtain ⟨rfl, rfl, rfl⟩ := vicR_plain hv (by rw [fnL_length]; exact htj) (mk_fnL _ _ _ htj); rw [fnL_length, Nat.mod_add_mod] at hc; have HC5 := Lib.hid hc; have HB5 := Lib.hid (bel_only HBd.out ho (Nat.le_refl _) (fun i => ClkS_lt hwp.1 hwp.2)); clear hc ho hv)
            | (go_at_call 12; refine (hand_calls _ p m _ _ HC5.out).mono ?_; rintro e w6 ⟨rfl, rfl⟩))
          all_goals clear hw1 hw2 hw3 hw4 hw5
          all_goals
            go_wp2
            go_roundg (gk - 1)
            case measure => omega
            case rel => exact ⟨t + 1, by omega, by go_num, HC5.out, HB5.out⟩
        · go_wp2
          go_ret
          exact ⟨rfl, hbr⟩
end Go.Proofs.Ytooooidnchgkaaa
