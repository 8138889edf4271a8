/- The walk of AllocApart (under way). -/
import Derived.Test.YtadbbknllakpcaaAlApC
import Derived.BigQuiet
import Derived.Test.YtadbbknllakpcaaHeapG
namespace Go.Proofs.Ytadbbknllakpcaa
open Go.RowKit
set_option linter.unusedVariables false

set_option maxRecDepth 8000 in
set_option maxHeartbeats 16000000 in
theorem apart_walk (a0 : Option Addr) (n0 c0 : Nat) (z0 : List Int) (a1 : Option Addr) (n1 c1 : Nat) (z1 : List Int) (w : World) (h0 : IsRow .u16 w a0 n0 c0 z0) (h1 : IsRow .u8 w a1 n1 c1 z1) :
    Calls Try.prog 6 #[.slice a0 n0 c0, .slice a1 n1 c1] w fun e w' => e = .returned (.bool true) ∧ Below w.heap.size w w' := by
  obtain ⟨i0, hi0, hz0, hz1, hz2⟩ := info_parts info_IntA
  have H0 := Lib.hid h0
  have H1 := Lib.hid h1
  clear h0 h1
  go_enter Try.func6, Try.ntmps6
  go_wp2_with fail
  refine (awake17_calls w).mono ?_
  rintro e w1 ⟨rfl, hB⟩
  have HB1 := Lib.hid hB
  clear hB
  by_cases hs : n0 ≤ 30 ∧ n1 ≤ 30
  · obtain ⟨hs0, hs1⟩ := hs
    have d0 : decide (30 < n0) = false := decide_eq_false (by omega)
    have d1 : decide (30 < n1) = false := decide_eq_false (by omega)
    go_wp2_with fail
    clear d0 d1
    refine (new17_calls w1 none 0 [] (zero_at w1) inv_nil).mono ?_
    rintro e w2 ⟨H, L, l, F, rfl, hH, hl, hF, hB⟩
    have HSt := Lib.hid (show ∃ xs ys, ApF w w2 H L 0 xs ys (.slice none 0 0) (.slice none 0 0) from ⟨[], [], [], l, F, 0, ⟨StF.start hH hl (fun k hk => Nat.le_trans HB1.out.size (hF k hk)) (bel_next HB1.out hB (Nat.le_refl _)), World.ownsRow_nil _ _ _ _, (fun k h => by cases h), (fun k h => by cases h)⟩, (fun s h => by cases h), by omega, rfl, fun b y => ⟨fun ⟨s, hs, _⟩ => (by cases hs), fun ⟨i, h, _⟩ => (by simp at h)⟩, rfl, rfl, Nat.le_refl _, List.nodup_nil⟩)
    clear hH hl hF hB
    go_wp2_with fail
    go_loopg [9, 7, 8] n0 (fun q s9 s7 s8 wr => ∃ j, q = n0 - j ∧ j ≤ n0 ∧ s9 = .int .i64 (j : Int) ∧ Hid (∃ xs ys, ApF w wr H L j xs ys s7 s8))
    case atStart => exact ⟨0, by omega, by omega, rfl, HSt⟩
    case round =>
      obtain ⟨j, hq, hjl, rfl, hst⟩ := hrel
      by_cases hlt : j < n0
      · obtain ⟨xs, ys, S, l, F, k, hF, hT, hk, hxy, hob, hcn, hoc, hxl, hnd⟩ := hst.out
        obtain ⟨b, o, z, rfl, hb, hc, hwz⟩ := H0.out.read hlt
        have hcz := keep_cell hF.1.2.2.2.2.2 hb hc
        have hz := wf_u16 hwz
        have HF := Lib.hid hF
        have HX := Lib.hid (And.intro hT (And.intro hk (And.intro hxy (And.intro hob (And.intro hcn (And.intro hoc (And.intro hxl hnd)))))))
        have HLt := Lib.hid hlt
        clear hF hT hk hxy hob hcn hoc hxl hnd hst hb hc hwz
        go_wp2_with fail
        refine (alloc17_calls wr H L k S l F (1 + z % 3000) HF.out.1.1 HF.out.1.2.1 (by have := HX.out.2.1; omega) (by unfold I64; omega)).mono ?_
        rintro e w3 ⟨a, er, S1, l1, rfl, hA, hl1, hS1⟩
        obtain ⟨rfl, hT1, zz, hobs, hno, hnz⟩ := apart_step (x := 1 + 6 * j) (by omega) (by omega) HF.out.1.1.inv HF.out.1.2.1 HF.out.1.1.canon HX.out.1 (by omega) (by omega) hA
        obtain ⟨hcn1, hoc1⟩ := count_step HF.out.1.1.inv HF.out.1.2.1 HF.out.1.1.canon hA rfl hobs hno
        have hab := hA.bd HF.out.1.1.inv HF.out.1.1.canon
        obtain ⟨F1, hF1⟩ := HF.out.step hS1 hl1
        have hO1 : Obj S1 a zz := (hobs a zz).2 (.inr ⟨rfl, rfl⟩)
        have hzp := obj_pos hF1.1.1.inv hO1
        have HF1 := Lib.hid hF1
        have HX1 := Lib.hid (And.intro hT1 (And.intro hobs (And.intro hno (And.intro hnz (And.intro hcn1 (And.intro hoc1 hO1))))))
        have HAb := Lib.hid (And.intro hab hzp)
        clear hA hl1 hS1 hT1 hobs hno hcn1 hoc1 hF1 hO1 hcz
        have hadd : wrap64 (a + (1 + z % 3000)) = a + (1 + z % 3000) := IntWalk.wrap64_in _ (by omega)
        have hsub : wrap64 (a + (1 + z % 3000) - 1) = a + (1 + z % 3000) - 1 := IntWalk.wrap64_in _ (by omega)
        go_wp2_with fail
        refine (find17_calls w3 H L (k + 2) S1 l1 F1 (a + (1 + z % 3000) - 1) HF1.out.1.1 (by have := HAb.out; unfold I64; omega)).mono ?_
        rintro e w4 ⟨hB4, fr, kf, ok, rfl, hFd⟩
        obtain ⟨rfl, rfl, rfl⟩ := find_is HF1.out.1.1.inv HX1.out.2.2.2.2.2.2 (by have := HX1.out.2.2.2.1; omega) hFd
        have HF4 := Lib.hid (HF1.out.below hB4)
        have hle : decide (kf < 1 + z % 3000) = false := decide_eq_false (by have := HX1.out.2.2.2.1; omega)
        obtain ⟨A7, c7, rfl⟩ := ownsRow_slice HF4.out.1.2.2.2.1
        obtain ⟨A8, c8, rfl⟩ := ownsRow_slice HF4.out.2.1
        clear hFd hB4 hadd hsub
        go_wp2_with fail
        have HOb4 := Lib.hid (show ∀ i : Nat, ∀ x y, xs[i]? = some x → ys[i]? = some y → Obj S1 x y ∧ x ≠ fr ∧ (0 ≤ x ∧ x ≤ 2097152) ∧ (1 ≤ y ∧ y ≤ 2097152) from fun i x y hx hy => by
          have hO := (HX.out.2.2.2.1 x y).2 ⟨i, hx, hy⟩
          have hO1 := (HX1.out.2.1 x y).2 (.inl hO)
          have hp := obj_pos HF1.out.1.1.inv hO1
          exact ⟨hO1, fun e => HX1.out.2.2.1 y (e ▸ hO), ⟨hp.2.2.1, hp.2.2.2⟩, ⟨hp.1, hp.2.1⟩⟩)
        have hxl0 := HX.out.2.2.2.2.2.2.1
        go_loopg [16] xs.length (fun q s16 wq => ∃ i, q = xs.length - i ∧ i ≤ xs.length ∧ s16 = .int .i64 (i : Int) ∧ Hid (Below w4.heap.size w4 wq))
        case atStart => exact ⟨0, by omega, by omega, rfl, Lib.hid (Below.refl _ _)⟩
        case round =>
          obtain ⟨i, hq2, hil, rfl, hbq⟩ := hrel
          have HFq := Lib.hid (HF4.out.below hbq.out)
          by_cases hlt : i < xs.length
          · obtain ⟨x, hx⟩ : ∃ x, xs[i]? = some x := ⟨_, List.getElem?_eq_getElem hlt⟩
            obtain ⟨y, hy⟩ : ∃ y, ys[i]? = some y := ⟨_, List.getElem?_eq_getElem (by have := HX.out.2.2.1; omega)⟩
            obtain ⟨hO, hne, hx0, hy0⟩ := HOb4.out i x y hx hy
            have hap := obj_apart HF1.out.1.1.inv HX1.out.2.2.2.2.2.2 hO (Ne.symm hne)
            obtain ⟨b7, c9, he7, hc7⟩ := own_ints HFq.out.1.2.2.2.1 hx
            obtain ⟨b8, c10, he8, hc8⟩ := own_ints HFq.out.2.1 hy
            have hA7 : A7 = some ⟨b7, 0, none⟩ := by simp only [Value.slice.injEq] at he7; exact he7.1
            have hA8 : A8 = some ⟨b8, 0, none⟩ := by simp only [Value.slice.injEq] at he8; exact he8.1
            subst hA7
            subst hA8
            have hab := HAb.out
            have hadd1 : wrap64 (x + y) = x + y := IntWalk.wrap64_in _ (by omega)
            have hadd2 : wrap64 (fr + kf) = fr + kf := IntWalk.wrap64_in _ (by omega)
            have hil2 : i < ys.length := by have := HX.out.2.2.1; omega
            have HLt2 := Lib.hid hlt
            clear hx hy he7 he8 hO hne
            by_cases hc1 : fr < x + y
            · have d1 : decide (fr < x + y) = true := decide_eq_true hc1
              have d2 : decide (x < fr + kf) = false := decide_eq_false (fun h => hap ⟨hc1, h⟩)
              clear hap hab
              go_wp2_with fail
              go_quiet (fail)
              go_wp2
              go_roundg (xs.length - (i + 1))
              case measure => first | (rw [hq2]; exact Nat.sub_lt_sub_left HLt2.out (Nat.lt_succ_self _)) | exact Nat.sub_lt_sub_left HLt2.out (Nat.lt_succ_self _)
              case rel => exact ⟨i + 1, rfl, HLt2.out, by go_num, Lib.hid (below_drewN hbq.out _)⟩
            · have d1 : decide (fr < x + y) = false := decide_eq_false hc1
              clear hap hab
              go_wp2_with fail
              go_quiet (fail)
              go_wp2
              go_roundg (xs.length - (i + 1))
              case measure => first | (rw [hq2]; exact Nat.sub_lt_sub_left HLt2.out (Nat.lt_succ_self _)) | exact Nat.sub_lt_sub_left HLt2.out (Nat.lt_succ_self _)
              case rel => exact ⟨i + 1, rfl, HLt2.out, by go_num, Lib.hid (below_drewN hbq.out _)⟩
          · obtain rfl : i = xs.length := by omega
            have HO7 := Lib.hid (HFq.out.1.2.2.2.1)
            have hbs := HFq.out.1.2.2.2.2.2.size
            have hT1 := HX1.out.1
            have hAN := apart_new (j := j) HX.out.2.2.1 HX.out.2.2.2.1 HX.out.2.2.2.2.1 HX.out.2.2.2.2.2.1 HX.out.2.2.2.2.2.2.1 HX.out.2.2.2.2.2.2.2 HX1.out.2.1 HX1.out.2.2.1 HX1.out.2.2.2.2.1 HX1.out.2.2.2.2.2.1
            have HAN := Lib.hid (And.intro hT1 hAN)
            clear hT1 hAN
            by_cases hg : j < n1
            · obtain ⟨b1, o1, zi, rfl, hb1, hc1, hwz1⟩ := H1.out.read hg
              obtain ⟨zn, rfl⟩ : ∃ zn : Nat, zi = zn := ⟨zi.toNat, by have := wf_u8' hwz1; omega⟩
              have hzb : zn ≤ 255 := by have := wf_u8' hwz1; omega
              obtain ⟨q, hq0⟩ : ∃ q, zn % (xs.length + 1) = q := ⟨_, rfl⟩
              have hqn : q < xs.length + 1 := by rw [← hq0]; exact Nat.mod_lt _ (by omega)
              have hkk : (zn : Int) % ((xs.length : Int) + 1) = (q : Int) := by rw [← hq0]; simp
              obtain ⟨x, hx⟩ : ∃ x, (xs ++ [fr])[q]? = some x := ⟨_, List.getElem?_eq_getElem (by simpa using hqn)⟩
              obtain ⟨y, hy⟩ : ∃ y, (ys ++ [kf])[q]? = some y := ⟨_, List.getElem?_eq_getElem (by rw [← HAN.out.2.1]; simpa using hqn)⟩
              have hxb := obj_pos HF1.out.1.1.inv ((HAN.out.2.2.1 x y).2 ⟨q, hx, hy⟩)
              have HXY := Lib.hid (And.intro hx hy)
              have HQ := Lib.hid hqn
              clear hx hy hq0 hwz1
              go_wp2_with (first | (at_builtin; refine wpList_append_new rfl (.tmp 113) (.tmp 115) 24 rfl w.heap.size 3 i0 _ 1 8 Try.underlying24 hi0 hz0 hz1 hz2 rfl (by decide) (.slice A7 xs.length c7) xs.length 1 _ rfl HO7.out rfl rfl (one_int _) (by omega) (by unfold maxLen; omega) hbs ?_; intro v7 w5 hown7 hgr7 hnew7; have HF5 := Lib.hid (HFq.out.app hown7 hgr7 hnew7).swap; clear hown7 hgr7 hnew7 hbs; have HO8 := Lib.hid (HF5.out.1.2.2.2.1); have hbs := HF5.out.1.2.2.2.2.2.size) | (at_builtin; refine wpList_append_new rfl (.tmp 117) (.tmp 119) 24 rfl w.heap.size 3 i0 _ 1 8 Try.underlying24 hi0 hz0 hz1 hz2 rfl (by decide) (.slice A8 ys.length c8) ys.length 1 _ rfl HO8.out rfl rfl (one_int _) (by have := HX.out.2.2.1; omega) (by have := HX.out.2.2.1; unfold maxLen; omega) hbs ?_; intro v8 w6 hown8 hgr8 hnew8; have HF6 := Lib.hid (HF5.out.app hown8 hgr8 hnew8).swap; clear hown8 hgr8 hnew8 hbs; have hcz1 := keep_cell HF6.out.1.2.2.2.2.2 hb1 hc1; obtain ⟨b9, c9, he9, hc9⟩ := own_ints HF6.out.1.2.2.2.1 HXY.out.1; rw [List.length_append, List.length_singleton] at he9; subst he9))
              refine (free17_calls w6 H L (k + 2) S1 l1 F1 x HF6.out.1.1 HF6.out.1.2.1 (by have := HX.out.2.1; omega) (by unfold I64; omega)).mono ?_
              rintro e w7 ⟨r, kk, er, S2, l2, rfl, hFr, hl2, hS2⟩
              obtain ⟨rfl, hAF⟩ := apart_free HF1.out.1.1.inv HAN.out.1 HAN.out.2.1 HAN.out.2.2.1 HAN.out.2.2.2.1 HAN.out.2.2.2.2.1 HAN.out.2.2.2.2.2.2 HXY.out.1 HXY.out.2 hFr
              obtain ⟨F2, hF2⟩ := HF6.out.step hS2 hl2
              obtain ⟨w8, hw8, hR8, hB8⟩ := one_row w7 r kk
              have HF8 := Lib.hid (hF2.below hB8)
              have HAF := Lib.hid hAF
              clear hFr hl2 hS2 hF2 hR8 hB8 hAF hcz1 hc9
              go_wp2_with fail
              clear hw8
              have HQc := Lib.hid (show q + 1 ≤ xs.length + 1 ∧ xs.length ≤ 30 ∧ xs.length + 1 ≤ c9 from ⟨HQ.out, by omega, own_cap (by have := HF8.out.1.2.2.2.1; rw [List.length_append, List.length_singleton] at this; exact this)⟩)
              obtain ⟨W0, hW0⟩ : ∃ W0, w8.drew = W0 := ⟨_, rfl⟩
              obtain ⟨P2, hP2⟩ : ∃ P2, (if c9 = q + 1 then some (⟨b9, 0, none⟩ : Addr) else some ⟨b9, q + 1, none⟩) = P2 := ⟨_, rfl⟩
              obtain ⟨v1, W2, v2, W3, hr1, hr2, ho, hb⟩ := cut_run W0 w.heap.size b9 (xs.length + 1) c9 q (xs ++ [fr]) (by rw [← hW0]; have := HF8.out.1.2.2.2.1; rw [List.length_append, List.length_singleton] at this; exact ownsRow_below this (Below.refl _ _).drew) (by simp) HQ.out (by omega)
              obtain ⟨W1, hW1⟩ : ∃ W1, W0.alloc (.cells #[] 3) = W1 := ⟨_, rfl⟩
              rw [hW1] at hr1
              rw [hP2] at hr2
              refine wp_dagL [7] [(144, .slice (some ⟨W0.heap.size, 0, none⟩) 0 0), (145, .slice (some ⟨b9, 0, none⟩) (xs.length + 1) c9), (146, .int .i64 (q : Int)), (147, .slice (some ⟨b9, 0, none⟩) q c9), (148, v1), (149, .slice (some ⟨b9, 0, none⟩) (xs.length + 1) c9), (150, .int .i64 (q : Int)), (151, .int .i64 ((q + 1 : Nat) : Int)), (152, .slice P2 (xs.length + 1 - (q + 1)) (c9 - (q + 1))), (153, v2), (7, v2)] (CutJ W0 W1 W2 W3) (by kernel_rfl) (by kernel_rfl) (by kernel_rfl) (by kernel_rfl) (by rw [← hW0]; exact .start) ?_ ?_
              case refine_1 =>
                refine dagL_cons (by kernel_rfl) (dag_make (v := .slice (some ⟨W0.heap.size, 0, none⟩) 0 0) (by kernel_rfl) (by kernel_rfl) (fun g0 w' h1 h2 h => ?_)) ?_
                case refine_1 =>
                  obtain ⟨rfl, hs⟩ := h.s0 h1
                  exact ⟨W1, by rw [← hW1]; kernel_rfl, hs⟩
                refine dagL_late (by kernel_rfl) (dag_val (v := .slice (some ⟨b9, 0, none⟩) (xs.length + 1) c9) (by kernel_rfl) (by kernel_rfl) (fun g0 w' h => by kernel_rfl) (fun g0 w' h => h.same rfl)) ?_
                refine dagL_cons (by kernel_rfl) (dag_val (v := .int .i64 (q : Int)) (by kernel_rfl) (by kernel_rfl) (fun g0 w' h => by kernel_rfl) (fun g0 w' h => h.same rfl)) ?_
                refine dagL_cons (by kernel_rfl) (dag_sliceH (t := 24) (x := .tmp 145) (h := .tmp 146) (v1 := .slice (some ⟨b9, 0, none⟩) (xs.length + 1) c9) (v3 := .int .i64 (q : Int)) (v := .slice (some ⟨b9, 0, none⟩) q c9) (by kernel_rfl) (by kernel_rfl) (by kernel_rfl) (by kernel_rfl) (by kernel_rfl) (fun w' => run_cutH _ _ _ _ (by have := HQc.out; omega) w') (fun w' => rfl) (fun g0 w' h => h.same rfl)) ?_
                refine dagL_cons (by kernel_rfl) (dag_append (s := .tmp 144) (x := .tmp 147) (t := 24) (ty := 24) (v := .slice (some ⟨W0.heap.size, 0, none⟩) 0 0) (u := .slice (some ⟨b9, 0, none⟩) q c9) (v2 := v1) (by kernel_rfl) (by kernel_rfl) (by kernel_rfl) (by kernel_rfl) (by kernel_rfl) (by kernel_rfl) (fun g0 w' h1 h2 h => ?_)) ?_
                case refine_1 =>
                  obtain ⟨rfl, hs⟩ := h.s4 (h2 { on := 0, ground := Ground.data } (by simp) rfl) h1
                  exact ⟨W2, hr1, hs⟩
                refine dagL_late (by kernel_rfl) (dag_val (v := .slice (some ⟨b9, 0, none⟩) (xs.length + 1) c9) (by kernel_rfl) (by kernel_rfl) (fun g0 w' h => by kernel_rfl) (fun g0 w' h => h.same rfl)) ?_
                refine dagL_cons (by kernel_rfl) (dag_val (v := .int .i64 (q : Int)) (by kernel_rfl) (by kernel_rfl) (fun g0 w' h => by kernel_rfl) (fun g0 w' h => h.same rfl)) ?_
                refine dagL_cons (by kernel_rfl) (dag_bin (b := .add) (t := 3) (t' := 3) (x := .tmp 150) (y := .const (.int .i64 1)) (v1 := .int .i64 (q : Int)) (v2 := .int .i64 1) (v := .int .i64 ((q + 1 : Nat) : Int)) (by kernel_rfl) (by kernel_rfl) (by kernel_rfl) (by kernel_rfl) (by kernel_rfl) rfl (fun w' => (run_addI (q : Int) 1 (by have := HQc.out; omega) w').trans (by rw [show ((q : Int) + 1) = ((q + 1 : Nat) : Int) by omega])) (fun g0 w' h => h.same rfl)) ?_
                refine dagL_cons (by kernel_rfl) (dag_sliceL (t := 24) (x := .tmp 149) (h := .tmp 151) (v1 := .slice (some ⟨b9, 0, none⟩) (xs.length + 1) c9) (v3 := .int .i64 ((q + 1 : Nat) : Int)) (v := .slice P2 (xs.length + 1 - (q + 1)) (c9 - (q + 1))) (by kernel_rfl) (by kernel_rfl) (by kernel_rfl) (by kernel_rfl) (by kernel_rfl) (fun w' => by rw [← hP2]; exact run_cutL _ _ _ _ (by have := HQc.out; omega) w') (fun w' => rfl) (fun g0 w' h => h.same rfl)) ?_
                refine dagL_cons (by kernel_rfl) (dag_append (s := .tmp 148) (x := .tmp 152) (t := 24) (ty := 24) (v := v1) (u := .slice P2 (xs.length + 1 - (q + 1)) (c9 - (q + 1))) (v2 := v2) (by kernel_rfl) (by kernel_rfl) (by kernel_rfl) (by kernel_rfl) (by kernel_rfl) (by kernel_rfl) (fun g0 w' h1 h2 h => ?_)) ?_
                case refine_1 =>
                  obtain ⟨rfl, hs⟩ := h.s9 (h2 { on := 4, ground := Ground.data } (by simp) rfl) h1
                  exact ⟨W3, hr2, hs⟩
                refine dagL_cons (by kernel_rfl) (dag_val (v := v2) (by kernel_rfl) (by kernel_rfl) (fun g0 w' h => by kernel_rfl) (fun g0 w' h => h.same rfl)) ?_
                exact dagL_nil
              case refine_2 =>
                intro w9 hJ
                obtain rfl := hJ.2.2.2.2.2 rfl
                have HF9 := Lib.hid (HF8.out.other (of_drewS (hW0 ▸ hb)) (by rw [← hW0] at ho; exact ho)).swap
                clear hJ hr1 hr2 ho hb hW1 hP2 hW0
                simp only [putAll, List.foldl_cons, List.foldl_nil]
                go_frame
                obtain ⟨b10, c10, he10, hc10⟩ := own_ints HF9.out.1.2.2.2.1 HXY.out.2
                rw [List.length_append, List.length_singleton] at he10
                subst he10
                clear hc10
                have HQc := Lib.hid (show q + 1 ≤ ys.length + 1 ∧ ys.length ≤ 30 ∧ ys.length + 1 ≤ c10 from ⟨by have := HX.out.2.2.1; have := HQ.out; omega, by have := HX.out.2.2.1; omega, own_cap (by have := HF9.out.1.2.2.2.1; rw [List.length_append, List.length_singleton] at this; exact this)⟩)
                go_wp2_with fail
                obtain ⟨W0, hW0⟩ : ∃ W0, w9.drew = W0 := ⟨_, rfl⟩
                obtain ⟨P2, hP2⟩ : ∃ P2, (if c10 = q + 1 then some (⟨b10, 0, none⟩ : Addr) else some ⟨b10, q + 1, none⟩) = P2 := ⟨_, rfl⟩
                obtain ⟨v1, W2, v5, W5, hr1, hr2, ho, hb⟩ := cut_run W0 w.heap.size b10 (ys.length + 1) c10 q (ys ++ [kf]) (by rw [← hW0]; have := HF9.out.1.2.2.2.1; rw [List.length_append, List.length_singleton] at this; exact ownsRow_below this (Below.refl _ _).drew) (by simp) (by have := HQc.out; omega) (by have := HQc.out; omega)
                obtain ⟨W1, hW1⟩ : ∃ W1, W0.alloc (.cells #[] 3) = W1 := ⟨_, rfl⟩
                rw [hW1] at hr1
                rw [hP2] at hr2
                refine wp_dagL [8] [(154, .slice (some ⟨W0.heap.size, 0, none⟩) 0 0), (155, .slice (some ⟨b10, 0, none⟩) (ys.length + 1) c10), (156, .int .i64 (q : Int)), (157, .slice (some ⟨b10, 0, none⟩) q c10), (158, v1), (159, .slice (some ⟨b10, 0, none⟩) (ys.length + 1) c10), (160, .int .i64 (q : Int)), (161, .int .i64 ((q + 1 : Nat) : Int)), (162, .slice P2 (ys.length + 1 - (q + 1)) (c10 - (q + 1))), (163, v5), (8, v5)] (CutJ W0 W1 W2 W5) (by kernel_rfl) (by kernel_rfl) (by kernel_rfl) (by kernel_rfl) (by rw [← hW0]; exact .start) ?_ ?_
                case refine_1 =>
                  refine dagL_cons (by kernel_rfl) (dag_make (v := .slice (some ⟨W0.heap.size, 0, none⟩) 0 0) (by kernel_rfl) (by kernel_rfl) (fun g0 w' h1 h2 h => ?_)) ?_
                  case refine_1 =>
                    obtain ⟨rfl, hs⟩ := h.s0 h1
                    exact ⟨W1, by rw [← hW1]; kernel_rfl, hs⟩
                  refine dagL_late (by kernel_rfl) (dag_val (v := .slice (some ⟨b10, 0, none⟩) (ys.length + 1) c10) (by kernel_rfl) (by kernel_rfl) (fun g0 w' h => by kernel_rfl) (fun g0 w' h => h.same rfl)) ?_
                  refine dagL_cons (by kernel_rfl) (dag_val (v := .int .i64 (q : Int)) (by kernel_rfl) (by kernel_rfl) (fun g0 w' h => by kernel_rfl) (fun g0 w' h => h.same rfl)) ?_
                  refine dagL_cons (by kernel_rfl) (dag_sliceH (t := 24) (x := .tmp 155) (h := .tmp 156) (v1 := .slice (some ⟨b10, 0, none⟩) (ys.length + 1) c10) (v3 := .int .i64 (q : Int)) (v := .slice (some ⟨b10, 0, none⟩) q c10) (by kernel_rfl) (by kernel_rfl) (by kernel_rfl) (by kernel_rfl) (by kernel_rfl) (fun w' => run_cutH _ _ _ _ (by have := HQc.out; omega) w') (fun w' => rfl) (fun g0 w' h => h.same rfl)) ?_
                  refine dagL_cons (by kernel_rfl) (dag_append (s := .tmp 154) (x := .tmp 157) (t := 24) (ty := 24) (v := .slice (some ⟨W0.heap.size, 0, none⟩) 0 0) (u := .slice (some ⟨b10, 0, none⟩) q c10) (v2 := v1) (by kernel_rfl) (by kernel_rfl) (by kernel_rfl) (by kernel_rfl) (by kernel_rfl) (by kernel_rfl) (fun g0 w' h1 h2 h => ?_)) ?_
                  case refine_1 =>
                    obtain ⟨rfl, hs⟩ := h.s4 (h2 { on := 0, ground := Ground.data } (by simp) rfl) h1
                    exact ⟨W2, hr1, hs⟩
                  refine dagL_late (by kernel_rfl) (dag_val (v := .slice (some ⟨b10, 0, none⟩) (ys.length + 1) c10) (by kernel_rfl) (by kernel_rfl) (fun g0 w' h => by kernel_rfl) (fun g0 w' h => h.same rfl)) ?_
                  refine dagL_cons (by kernel_rfl) (dag_val (v := .int .i64 (q : Int)) (by kernel_rfl) (by kernel_rfl) (fun g0 w' h => by kernel_rfl) (fun g0 w' h => h.same rfl)) ?_
                  refine dagL_cons (by kernel_rfl) (dag_bin (b := .add) (t := 3) (t' := 3) (x := .tmp 160) (y := .const (.int .i64 1)) (v1 := .int .i64 (q : Int)) (v2 := .int .i64 1) (v := .int .i64 ((q + 1 : Nat) : Int)) (by kernel_rfl) (by kernel_rfl) (by kernel_rfl) (by kernel_rfl) (by kernel_rfl) rfl (fun w' => (run_addI (q : Int) 1 (by have := HQc.out; omega) w').trans (by rw [show ((q : Int) + 1) = ((q + 1 : Nat) : Int) by omega])) (fun g0 w' h => h.same rfl)) ?_
                  refine dagL_cons (by kernel_rfl) (dag_sliceL (t := 24) (x := .tmp 159) (h := .tmp 161) (v1 := .slice (some ⟨b10, 0, none⟩) (ys.length + 1) c10) (v3 := .int .i64 ((q + 1 : Nat) : Int)) (v := .slice P2 (ys.length + 1 - (q + 1)) (c10 - (q + 1))) (by kernel_rfl) (by kernel_rfl) (by kernel_rfl) (by kernel_rfl) (by kernel_rfl) (fun w' => by rw [← hP2]; exact run_cutL _ _ _ _ (by have := HQc.out; omega) w') (fun w' => rfl) (fun g0 w' h => h.same rfl)) ?_
                  refine dagL_cons (by kernel_rfl) (dag_append (s := .tmp 158) (x := .tmp 162) (t := 24) (ty := 24) (v := v1) (u := .slice P2 (ys.length + 1 - (q + 1)) (c10 - (q + 1))) (v2 := v5) (by kernel_rfl) (by kernel_rfl) (by kernel_rfl) (by kernel_rfl) (by kernel_rfl) (by kernel_rfl) (fun g0 w' h1 h2 h => ?_)) ?_
                  case refine_1 =>
                    obtain ⟨rfl, hs⟩ := h.s9 (h2 { on := 4, ground := Ground.data } (by simp) rfl) h1
                    exact ⟨W5, hr2, hs⟩
                  refine dagL_cons (by kernel_rfl) (dag_val (v := v5) (by kernel_rfl) (by kernel_rfl) (fun g0 w' h => by kernel_rfl) (fun g0 w' h => h.same rfl)) ?_
                  exact dagL_nil
                case refine_2 =>
                  intro w10 hJ
                  obtain rfl := hJ.2.2.2.2.2 rfl
                  have HF10 := Lib.hid (HF9.out.other (of_drewS (hW0 ▸ hb)) (by rw [← hW0] at ho; exact ho)).swap
                  clear hJ hr1 hr2 ho hb hW1 hP2 hW0
                  simp only [putAll, List.foldl_cons, List.foldl_nil]
                  go_frame
                  go_wp2
                  go_roundg (n0 - (j + 1))
                  case measure => first | (rw [hq]; exact Nat.sub_lt_sub_left HLt.out (Nat.lt_succ_self _)) | exact Nat.sub_lt_sub_left HLt.out (Nat.lt_succ_self _)
                  case rel => exact ⟨j + 1, rfl, HLt.out, by go_num, Lib.hid ⟨(xs ++ [fr]).eraseIdx q, (ys ++ [kf]).eraseIdx q, S2, l2, F2, k + 2 + 2, HF10.out, (by have := HAF.out.1; exact fun s hs => by have := this s hs; omega), (by have := HX.out.2.1; omega), HAF.out.2.1, HAF.out.2.2.1, HAF.out.2.2.2.1, HAF.out.2.2.2.2.1, (by rw [List.length_eraseIdx]; have := HAN.out.2.2.2.2.2.1; split <;> omega), HAF.out.2.2.2.2.2⟩⟩
            · have hdg : decide (j < n1) = false := decide_eq_false hg
              go_wp2_with (first | (at_builtin; refine wpList_append_new rfl (.tmp 113) (.tmp 115) 24 rfl w.heap.size 3 i0 _ 1 8 Try.underlying24 hi0 hz0 hz1 hz2 rfl (by decide) (.slice A7 xs.length c7) xs.length 1 _ rfl HO7.out rfl rfl (one_int _) (by omega) (by unfold maxLen; omega) hbs ?_; intro v7 w5 hown7 hgr7 hnew7; have HF5 := Lib.hid (HFq.out.app hown7 hgr7 hnew7).swap; clear hown7 hgr7 hnew7 hbs; have HO8 := Lib.hid (HF5.out.1.2.2.2.1); have hbs := HF5.out.1.2.2.2.2.2.size) | (at_builtin; refine wpList_append_new rfl (.tmp 117) (.tmp 119) 24 rfl w.heap.size 3 i0 _ 1 8 Try.underlying24 hi0 hz0 hz1 hz2 rfl (by decide) (.slice A8 ys.length c8) ys.length 1 _ rfl HO8.out rfl rfl (one_int _) (by have := HX.out.2.2.1; omega) (by have := HX.out.2.2.1; unfold maxLen; omega) hbs ?_; intro v8 w6 hown8 hgr8 hnew8; have HF6 := Lib.hid (HF5.out.app hown8 hgr8 hnew8).swap; clear hown8 hgr8 hnew8 hbs))
              go_roundg (n0 - (j + 1))
              case measure => first | (rw [hq]; exact Nat.sub_lt_sub_left HLt.out (Nat.lt_succ_self _)) | exact Nat.sub_lt_sub_left HLt.out (Nat.lt_succ_self _)
              case rel => exact ⟨j + 1, rfl, HLt.out, by go_num, Lib.hid ⟨xs ++ [fr], ys ++ [kf], S1, l1, F1, k + 2, HF6.out, (by have := HAN.out.1; exact fun s hs => by have := this s hs; omega), (by have := HX.out.2.1; omega), HAN.out.2⟩⟩
      · obtain rfl : j = n0 := by omega
        obtain ⟨xs, ys, S, l, F, k, hF, hT, hk, hxy, hob, hcn, hoc, hxl, hnd⟩ := hst.out
        have hby : ∀ y ∈ ys, 0 ≤ y ∧ y ≤ 2097152 := fun y hy => by
          obtain ⟨i, hi⟩ := List.mem_iff_getElem?.1 hy
          obtain ⟨x, hx⟩ : ∃ x, xs[i]? = some x := ⟨_, List.getElem?_eq_getElem (by have := (List.getElem?_eq_some_iff.1 hi).1; omega)⟩
          obtain ⟨s, hs, q, hq, _, _, rfl⟩ := (hob x y).2 ⟨i, hx, hi⟩
          have := (hF.1.1.inv.1 s hs).1.size
          omega
        obtain ⟨A7, c7, rfl⟩ := ownsRow_slice hF.1.2.2.2.1
        obtain ⟨A8, c8, rfl⟩ := ownsRow_slice hF.2.1
        have HF := Lib.hid hF
        have HBy := Lib.hid hby
        have HN := Lib.hid (And.intro hxy (And.intro hcn (And.intro hoc (And.intro hxl hnd))))
        clear hF hT hk hxy hob hcn hoc hxl hnd hby hst
        go_wp2_with fail
        refine (count17_calls _ H L k S l F HF.out.1.1).mono ?_
        rintro e w3 ⟨rfl, hB3⟩
        have HF3 := Lib.hid (HF.out.below hB3)
        clear hB3
        rw [HN.out.2.1, HN.out.2.2.1]
        go_wp2_with fail
        go_loopg [23, 22] xs.length (fun q s23 s22 wq => ∃ i, q = xs.length - i ∧ i ≤ xs.length ∧ s23 = .int .i64 (i : Int) ∧ s22 = .int .i64 ((ys.take i).sum) ∧ wq = w3)
        case atStart => exact ⟨0, by omega, by omega, rfl, rfl, rfl⟩
        case round =>
          obtain ⟨i, hq, hil, rfl, rfl, rfl⟩ := hrel
          have hsum : ∀ m, 0 ≤ (ys.take m).sum ∧ (ys.take m).sum ≤ m * 2097152 := fun m => by
            induction m with
            | zero => simp
            | succ m ih =>
              rw [List.take_add_one]
              cases hm : ys[m]? with
              | none => simp; omega
              | some y =>
                have := HBy.out y (List.mem_of_getElem? hm)
                simp [List.sum_append]
                omega
          by_cases hlt : i < xs.length
          · obtain ⟨y, hy⟩ : ∃ y, ys[i]? = some y := ⟨_, List.getElem?_eq_getElem (by have := HN.out.1; omega)⟩
            obtain ⟨b8, c9, he8, hc8⟩ := own_ints HF3.out.2.1 hy
            have hA8 : A8 = some ⟨b8, 0, none⟩ := by simp only [Value.slice.injEq] at he8; exact he8.1
            subst hA8
            have h9 := hsum i
            have h8 := HBy.out y (List.mem_of_getElem? hy)
            have hln := HN.out.2.2.2
            have hadd : wrap64 ((ys.take i).sum + y) = (ys.take i).sum + y := IntWalk.wrap64_in _ (by omega)
            have hil2 : i < ys.length := by have := HN.out.1; omega
            have hdl : decide (i < ys.length) = true := decide_eq_true hil2
            have HSm := Lib.hid (show (ys.take (i + 1)).sum = (ys.take i).sum + y by rw [List.take_add_one, hy]; simp [List.sum_append])
            have HLt := Lib.hid hlt
            clear hy he8 hsum
            go_wp2
            go_roundg (xs.length - (i + 1))
            case measure => first | (rw [hq]; exact Nat.sub_lt_sub_left HLt.out (Nat.lt_succ_self _)) | exact Nat.sub_lt_sub_left HLt.out (Nat.lt_succ_self _)
            case rel => exact ⟨i + 1, rfl, HLt.out, by go_num, by rw [HSm.out], rfl⟩
          · obtain rfl : i = xs.length := by omega
            have hdl : decide (xs.length < ys.length) = false := decide_eq_false (by have := HN.out.1; omega)
            have ht : ys.take xs.length = ys := List.take_of_length_le (by have := HN.out.1; omega)
            rw [ht]
            clear hsum ht
            go_wp2
            go_ret
            exact ⟨by first | rfl | simp, HF3.out.1.2.2.2.2.2⟩
  · by_cases e0 : 30 < n0
    · have d0 : decide (30 < n0) = true := decide_eq_true e0
      go_wp2_with fail
      refine (awake17_calls _).mono ?_
      rintro e w2 ⟨rfl, hB⟩
      have HB2 := Lib.hid (bel_next HB1.out hB (Nat.le_refl _))
      clear hB
      go_wp2
      go_ret
      exact ⟨rfl, HB2.out⟩
    · have d0 : decide (30 < n0) = false := decide_eq_false e0
      have d1 : decide (30 < n1) = true := decide_eq_true (by omega)
      go_wp2_with fail
      refine (awake17_calls _).mono ?_
      rintro e w2 ⟨rfl, hB⟩
      have HB2 := Lib.hid (bel_next HB1.out hB (Nat.le_refl _))
      clear hB
      go_wp2
      go_ret
      exact ⟨rfl, HB2.out⟩
end Go.Proofs.Ytadbbknllakpcaa
