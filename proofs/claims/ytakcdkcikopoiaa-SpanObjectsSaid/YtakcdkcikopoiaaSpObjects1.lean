/- The walk of SpanObjects. -/
import Derived.Test.YtakcdkcikopoiaaSpnA
namespace Go.Proofs.Ytakcdkcikopoiaa
open Go.RowKit
set_option linter.unusedVariables false

theorem rem_mod (n c : Int) (h : 1 ≤ c) (h2 : c ≤ 100000) : 0 ≤ n.tmod c % c ∧ n.tmod c % c ≤ c - 1 ∧ -c < n.tmod c ∧ n.tmod c < c := by
  have h3 := Int.emod_nonneg (n.tmod c) (show c ≠ 0 by omega)
  have h4 := Int.emod_lt_of_pos (n.tmod c) (show 0 < c by omega)
  have h5 := Int.tmod_lt_of_pos n (show 0 < c by omega)
  have h6 : -c < n.tmod c := by
    have := Int.tmod_lt_of_pos (-n) (show 0 < c by omega)
    rw [Int.neg_tmod] at this
    omega
  omega
theorem good_low {pg c : Int} {P k : Nat} (h : Good pg (pagesL c) c 1 bit0) (hP : perN c = P) (hk : k ≤ P) : Good pg (pagesL c) c 1 (low k) :=
  ⟨h.p1, h.p2, h.p3, ⟨h.live.1, fun i hi => low_no (by omega)⟩, h.fit⟩
theorem take_low {P k i : Nat} (hk : k < P) (hi : low k i = false) (hpre : ∀ j, j < i → low k j = true) : i = k := by
  have h1 : ¬ i < k := fun h => by rw [low_yes h] at hi; cases hi
  have h2 : ¬ k < i := fun h => by have := hpre k h; rw [low_no (Nat.le_refl _)] at this; cases this
  omega
theorem mul_inj {i j S : Nat} (hS : 1 ≤ S) (h : i * S = j * S) : i = j := Nat.eq_of_mul_eq_mul_right (by omega) h

set_option maxRecDepth 8000 in
set_option maxHeartbeats 8000000 in
theorem objects_walk (pg0 c0 : Int) (w : World) (wf1 : (Lit.int .i64 pg0).wf = true) (wf2 : (Lit.int .i64 c0).wf = true) :
    Calls Try.prog 5 #[.int .i64 pg0, .int .i64 c0] w fun e w' => e = .returned (.bool true) ∧ Below w.heap.size w w' := by
  obtain ⟨a0, a1, a2, a3⟩ := rem_mod pg0 4000 (by omega) (by omega)
  obtain ⟨b0, b1, b2, b3⟩ := rem_mod c0 20 (by omega) (by omega)
  obtain ⟨p, hp⟩ : ∃ p : Int, 1 + pg0.tmod 4000 % 4000 = p := ⟨_, rfl⟩
  obtain ⟨c, hc⟩ : ∃ c : Int, c0.tmod 20 % 20 = c := ⟨_, rfl⟩
  have hp1 : 1 ≤ p ∧ p ≤ 4000 := by omega
  have hc1 : 0 ≤ c ∧ c ≤ 19 := by omega
  have hsz : sizeL c ≠ 0 := by
    have := size_fin ⟨c.toNat, by omega⟩
    simp only [Int.toNat_of_nonneg hc1.1] at this
    omega
  have hf := cls_facts c hsz
  have hnew : newB p c = true := decide_eq_true (by omega)
  have hg := good_new hnew (by omega) (by omega)
  obtain ⟨z0, z1, z2, z3, z4, z5⟩ := hg.size
  obtain ⟨S, hS⟩ : ∃ S, sizN c (pagesL c) = S := ⟨_, rfl⟩
  obtain ⟨P, hP⟩ : ∃ P, perN c = P := ⟨_, rfl⟩
  obtain ⟨g, hgq⟩ : ∃ g, pagesL c = g := ⟨_, rfl⟩
  have HG := Lib.hid hg
  have HN := Lib.hid hnew
  have HSz := Lib.hid hS
  have HPz := Lib.hid hP
  have HGq := Lib.hid hgq
  have HPp := Lib.hid hp
  have HCc := Lib.hid hc
  have hg1 : 1 ≤ g ∧ g ≤ 4 := by omega
  rw [hS] at z1 z2 z5
  rw [hP] at z3 z4 z5
  rw [hgq] at z5
  have HZ5 := Lib.hid z5
  clear hg hnew hS hP hgq z0 z5 hf hsz wf1 wf2 hp hc
  go_enter Try.func5, Try.ntmps5
  go_wp2_with fail
  refine (awake_calls15 _).mono ?_
  rintro e w1 ⟨rfl, hb⟩
  have HB1 := Lib.hid hb
  clear hb
  go_wp2_with fail
  rw [HPp.out, HCc.out]
  refine (new_calls p c _ (by unfold I64; omega) (by unfold I64; omega)).mono ?_
  rintro e w2 ⟨hb, ⟨h1, _⟩ | ⟨A, cap, _, rfl, hW, _, rfl⟩⟩
  · rw [HN.out] at h1; cases h1
  rw [HGq.out]
  obtain ⟨w3, hw3, hS, hB⟩ := one_span w2 p g c A 1 1
  have HB3 := Lib.hid (bel_next (bel_next HB1.out hb (Nat.le_refl _)) hB (Nat.le_refl _))
  have HW3 := Lib.hid (hW.below hB)
  have HS3 := Lib.hid hS
  have hbw : w.heap.size ≤ w2.heap.size := (bel_next HB1.out hb (Nat.le_refl _)).size
  obtain ⟨s0, s1, s2, s3⟩ := hS.cells
  obtain ⟨e0, e1, e2, e3⟩ := hS.free
  have hlt := hS.lt
  clear hb hW hS hB
  unfold spV
  go_wp2_with fail
  clear hw3
  generalize w2.heap.size = b at *
  have hGg := HG.out
  rw [HGq.out] at hGg
  have HGg := Lib.hid hGg
  clear hGg
  refine (count15_calls p g c A 1 1 bit0 _ HGg.out HW3.out).mono ?_
  rintro e w4 ⟨rfl, hb⟩
  have HB4 := Lib.hid (bel_next HB3.out hb (Nat.le_refl _))
  have HW4 := Lib.hid (HW3.out.below hb)
  have HS4 := Lib.hid (HS3.out.below hb)
  obtain ⟨s0, s1, s2, s3⟩ := HS4.out.cells
  rw [HPz.out]
  clear hb
  go_wp2_with fail
  refine (find15_calls p g c A 1 1 bit0 _ _ HGg.out (by unfold I64; omega) HW4.out).mono ?_
  rintro e w5 ⟨hb, ⟨_, h1⟩ | ⟨i0, u, rfl, h1⟩⟩
  · rcases h1 with ⟨_, _, h1⟩ | ⟨i, _, _, h, _⟩
    · have h2 := h1 0 (by rw [HPz.out]; omega) rfl (by omega)
      have hsS : sizN c g = S := by rw [← HGq.out]; exact HSz.out
      rw [hsS] at h2
      omega
    · omega
  have hu : u = 0 := by
    rcases h1 with ⟨h, _⟩ | ⟨j, hj, _, _, h2, h3, h4⟩
    · omega
    · omega
  have hsS : sizN c g = S := by rw [← HGq.out]; exact HSz.out
  have HsS := Lib.hid hsS
  have HB5 := Lib.hid (bel_next HB4.out hb (Nat.le_refl _))
  have HW5 := Lib.hid (HW4.out.below hb)
  have HS5 := Lib.hid (HS4.out.below hb)
  rw [hsS]
  subst hu
  have hx0 : (512 * p - 0 != 512 * p) = false := by simp
  clear hb h1 hsS s0 s1 s2 s3 e0 e1 e2 e3
  go_wp2_with fail
  go_loopg [14, 15, 16, 17] (P - 1) (fun q i t x f wr => ∃ (j : Nat) (A : Option Addr) (cap : Nat), q + j = P ∧ 1 ≤ j ∧ i = .int .i64 j ∧ SpB wr b p g c A 1 cap ∧ WordsAt wr A 1 (low j) ∧ Below w.heap.size w wr)
  case atStart => exact ⟨1, A, 1, by omega, by omega, rfl, HS5.out, by rw [low_one]; exact HW5.out, HB5.out⟩
  case round =>
    obtain ⟨j, A, cap, hj, hj1, rfl, hS, hW, hB⟩ := hrel
    have HS := Lib.hid hS
    have HW := Lib.hid hW
    have HB := Lib.hid hB
    obtain ⟨wo, rfl⟩ : ∃ wo : World, wo = wr := ⟨_, rfl⟩
    obtain ⟨s0, s1, s2, s3⟩ := hS.cells
    have hblt := hS.lt
    clear hS hW hB
    by_cases hlt : j < P
    · go_wp2_with fail
      have hgl := good_low HG.out HPz.out (show j ≤ P by omega)
      rw [HGq.out] at hgl
      refine (take15_calls p g c A 1 cap (low j) _ hgl HW.out).mono ?_
      rintro e w6 ⟨hb, ⟨_, h1⟩ | ⟨i, A', cap', rfl, hi, hfi, hpre, hW⟩⟩
      · have := h1 j (by rw [HPz.out]; exact hlt); rw [low_no (Nat.le_refl _)] at this; cases this
      obtain rfl : i = j := take_low hlt hfi hpre
      rw [low_put] at hW
      rw [HsS.out]
      have h5 : (i + 1) * S ≤ P * S := Nat.mul_le_mul_right _ hlt
      rw [Nat.add_mul, Nat.one_mul] at h5
      have h6 := HZ5.out
      obtain ⟨m, hm⟩ : ∃ m, i * S = m := ⟨_, rfl⟩
      have hmi : (i : Int) * (S : Int) = (m : Int) := by rw [← hm]; simp
      rw [hm] at h5 ⊢
      have hm6 : (m : Int) + S ≤ 512 * g := by omega
      have hS6 := HS.out.below hb
      have hB6 := bel_next HB.out hb (Nat.le_refl _)
      obtain ⟨w7, hw7, hT7, hB7⟩ := one_span w6 p g c A' 1 cap'
      have hS7 := hS6.below hB7
      have hW7 := hW.below hB7
      have hB67 := bel_next hB6 hB7 (Nat.le_refl _)
      obtain ⟨w8, hw8, hS8, hB8, hW8⟩ := stored_span hS7 w.heap.size w hB67 hbw p g c A' 1 cap' (low (i + 1)) hW7
      obtain ⟨t0, t1, t2, t3⟩ := hT7.cells
      obtain ⟨u0, u1, u2, u3⟩ := hS7.cells
      obtain ⟨v0, v1, v2, v3⟩ := hS7.free
      have hne0 : (512 * p + (m : Int) != 512 * p + (m : Int)) = false := by simp
      have HS8 := Lib.hid hS8
      have HW8 := Lib.hid hW8
      have HB8 := Lib.hid hB8
      clear hS6 hB6 hT7 hB7 hS7 hW7 hB67 hS8 hB8 hW8 hb hW hgl hfi hpre hm h5 h6
      unfold spV
      go_wp2
      go_roundg (P - (i + 1))
      case measure => omega
      case rel => exact ⟨i + 1, A', cap', by omega, by omega, by go_num, HS8.out, HW8.out, HB8.out⟩
    · obtain rfl : j = P := by omega
      have hgl := good_low HG.out HPz.out (Nat.le_refl j)
      rw [HGq.out] at hgl
      go_wp2_with fail
      refine (take15_calls p g c A 1 cap (low j) _ hgl HW.out).mono ?_
      rintro e w6 ⟨hb, ⟨rfl, _⟩ | ⟨i, A', cap', _, hi, hfi, _⟩⟩
      case inr =>
        rw [HPz.out] at hi
        rw [low_yes hi] at hfi; cases hfi
      obtain ⟨w7, hw7, hT7, hB7⟩ := one_span w6 0 0 0 none 0 0
      have hB67 := bel_next (bel_next HB.out hb (Nat.le_refl _)) hB7 (Nat.le_refl _)
      have HS7 := Lib.hid ((HS.out.below hb).below hB7)
      have HW7 := Lib.hid ((HW.out.below hb).below hB7)
      have HB7 := Lib.hid hB67
      have HEq := Lib.hid hw7
      clear hT7 hB7 hB67 hb hgl HS HW HB s0 s1 s2 s3 hw7
      unfold spV
      go_wp2_with fail
      rw [HEq.out]
      go_loopg [21, 22, 23] j (fun q i t e wr => ∃ (A : Option Addr) (cap : Nat), i = .int .i64 ((q : Int) - 1) ∧ q ≤ j ∧ SpB wr b p g c A 1 cap ∧ WordsAt wr A 1 (low q) ∧ Below w.heap.size w wr)
      case atStart => exact ⟨A, cap, rfl, Nat.le_refl _, HS7.out, HW7.out, HB7.out⟩
      case round =>
        obtain ⟨A, cap, rfl, hq, hS, hW, hB⟩ := hrel
        have HS := Lib.hid hS
        have HW := Lib.hid hW
        have HB := Lib.hid hB
        have hgl := good_low HG.out HPz.out hq
        rw [HGq.out] at hgl
        have HGl := Lib.hid hgl
        obtain ⟨wo, rfl⟩ : ∃ wo : World, wo = wr := ⟨_, rfl⟩
        obtain ⟨s0, s1, s2, s3⟩ := hS.cells
        have hblt := hS.lt
        clear hS hW hB hgl
        rcases Nat.eq_zero_or_pos gk with h0 | h0
        · subst h0
          rw [show ((0 : Nat) : Int) - 1 = -1 from rfl]
          go_wp2_with fail
          refine (count15_calls p g c A 1 cap (low 0) _ HGl.out HW.out).mono ?_
          rintro e w8 ⟨rfl, hb⟩
          rw [low_none, cntF_none]
          have HB8 := Lib.hid (bel_next HB.out hb (Nat.le_refl _))
          clear hb
          go_wp2
          go_ret
          exact ⟨rfl, HB8.out⟩
        · obtain ⟨k, rfl⟩ : ∃ k, gk = k + 1 := ⟨gk - 1, by omega⟩
          have hki : ((k + 1 : Nat) : Int) - 1 = (k : Int) := by omega
          rw [hki]
          have h5 : (k + 1) * S ≤ j * S := Nat.mul_le_mul_right _ hq
          rw [Nat.add_mul, Nat.one_mul] at h5
          have h6 := HZ5.out
          obtain ⟨m, hm⟩ : ∃ m, k * S = m := ⟨_, rfl⟩
          have hmi : (k : Int) * (S : Int) = (m : Int) := by rw [← hm]; simp
          have hm6 : (m : Int) + S ≤ 512 * g := by omega
          have HM := Lib.hid hm
          clear h5 h6 hm hki
          go_wp2_with fail
          refine (give15_calls p g c A 1 cap (low (k + 1)) (512 * p + m) _ HGl.out (by unfold I64; omega) HW.out).mono ?_
          rintro e w8 ⟨hb, ⟨_, h1⟩ | ⟨i, A', cap', rfl, hi, hfi, hx, hW⟩⟩
          · exact absurd (by rw [HsS.out, HM.out]) (h1 k (by rw [HPz.out]; omega) (low_yes (by omega)))
          obtain rfl : i = k := by
            rw [HsS.out] at hx
            exact mul_inj z1 (by have := HM.out; omega)
          rw [low_drop] at hW
          obtain ⟨w9, hw9, hT9, hB9⟩ := one_span w8 p g c A' 1 cap'
          have HS9 := Lib.hid ((HS.out.below hb).below hB9)
          have HT9 := Lib.hid hT9
          have HW9 := Lib.hid (hW.below hB9)
          have HB9 := Lib.hid (bel_next (bel_next HB.out hb (Nat.le_refl _)) hB9 (Nat.le_refl _))
          obtain ⟨t0, t1, t2, t3⟩ := hT9.cells
          clear hb hT9 hB9 hW hi hfi hx
          unfold spV
          go_wp2_with fail
          clear hw9
          generalize w8.heap.size = tb at *
          have hgl := good_low HG.out HPz.out (show i ≤ j by omega)
          rw [HGq.out] at hgl
          refine (give15_calls p g c A' 1 cap' (low i) (512 * p + m) _ hgl (by unfold I64; omega) HW9.out).mono ?_
          rintro e w10 ⟨hb, ⟨rfl, _⟩ | ⟨i', A2, cap2, _, hi, hfi, hx, _⟩⟩
          case inr =>
            rw [HsS.out] at hx
            have : i' = i := mul_inj z1 (by have := HM.out; omega)
            rw [this, low_no (Nat.le_refl _)] at hfi; cases hfi
          have hS10 := HS9.out.below hb
          have hT10 := HT9.out.below hb
          have hB10 := bel_next HB9.out hb (Nat.le_refl _)
          have hW10 := HW9.out.below hb
          obtain ⟨w11, hw11, hS11, hB11, hW11⟩ := stored_span hS10 w.heap.size w hB10 hbw p g c A' 1 cap' (low i) hW10
          obtain ⟨t0, t1, t2, t3⟩ := hT10.cells
          obtain ⟨u0, u1, u2, u3⟩ := hS10.cells
          obtain ⟨v0, v1, v2, v3⟩ := hS10.free
          have HS11 := Lib.hid hS11
          have HW11 := Lib.hid hW11
          have HB11 := Lib.hid hB11
          clear hS10 hT10 hB10 hW10 hS11 hB11 hW11 hb hgl
          unfold spV
          go_wp2
          go_roundg i
          case measure => omega
          case rel => exact ⟨A', cap', by go_num, by omega, HS11.out, HW11.out, HB11.out⟩
end Go.Proofs.Ytakcdkcikopoiaa
