/- The walk of SpanRights. -/
import Derived.Test.YtakcdkcikopoiaaSpnE
import Derived.Test.YtakcdkcikopoiaaSpIn
namespace Go.Proofs.Ytakcdkcikopoiaa
open Go.RowKit
set_option linter.unusedVariables false

def vp (b : Bool) (x : Int) : Int := if b then x else 0
def vl (b : Bool) : Nat := if b then 1 else 0
def ve (b : Bool) : Int := if b then 0 else 2
def vf (b : Bool) (i : Nat) : Bool := b && bit0 i
theorem vf_no (w : World) : WordsAt w none (vl false) (vf false) := ⟨.inl rfl, fun i hi => rfl, by unfold vl; simp⟩
theorem made_flat {pg ps cl : Int} {b : Bool} {w w' : World} {e : Ending} (h : MadeR pg ps cl b w e w') : ∃ A cap, e = .returned (.tuple #[.agg #[.int .i64 (vp b pg), .int .i64 (vp b ps), .int .i64 (vp b cl), .slice A (vl b) cap], .int .i64 (ve b)]) ∧ WordsAt w' A (vl b) (vf b) ∧ Below w.heap.size w w' := by
  rcases h with ⟨hb, ⟨rfl, rfl⟩ | ⟨A, cap, rfl, rfl, hW, _, _⟩⟩
  · exact ⟨none, 0, rfl, vf_no _, hb⟩
  · exact ⟨A, cap, rfl, hW, hb⟩
theorem new15_flat (pg cl : Int) (w : World) (h1 : I64 pg) (h2 : I64 cl) :
    Calls Try.prog 9 #[.int .i64 pg, .int .i64 cl] w fun e w' => ∃ A cap, e = .returned (.tuple #[.agg #[.int .i64 (vp (newB pg cl) pg), .int .i64 (vp (newB pg cl) (pagesL cl)), .int .i64 (vp (newB pg cl) cl), .slice A (vl (newB pg cl)) cap], .bool (newB pg cl)]) ∧ WordsAt w' A (vl (newB pg cl)) (vf (newB pg cl)) ∧ Below w.heap.size w w' := by
  refine (new15_calls pg cl w h1 h2).mono ?_
  rintro e w' ⟨hb, ⟨h, rfl⟩ | ⟨A, cap, h, rfl, hW⟩⟩
  · rw [h]; exact ⟨none, 0, rfl, vf_no _, hb⟩
  · rw [h]; exact ⟨A, cap, rfl, hW, hb⟩
theorem big_iff (pg ps : Int) : (Good pg ps 255 1 bit0 ∧ 0 < cntF bit0 (perN 255)) ↔ largeB pg ps = true := by
  rw [← large_iff]
  exact ⟨fun h => h.1.right h.2, fun h => Good.of_right h (fun i hi => bit0_out i (by omega))⟩

set_option maxHeartbeats 8000000 in
theorem rights_walk (v : Value) (q : (Int × Int × Int) × (Option Addr × Nat × Nat) × List Int) (pg n : Int) (w : World) (hq : SpanIn w v q) (wf1 : (Lit.int .i64 pg).wf = true) (wf2 : (Lit.int .i64 n).wf = true) :
    Calls Try.prog 3 #[v, .int .i64 pg, .int .i64 n] w fun e w' => e = .returned (.bool true) ∧ Below w.heap.size w w' := by
  obtain ⟨⟨p0, p1, p2⟩, ⟨A0, len0, cap0⟩, zs⟩ := q
  obtain ⟨rfl, h0, h1, h2, hrow⟩ := hq
  dsimp only at h0 h1 h2 hrow ⊢
  obtain ⟨f0, hr0, ho0⟩ := words_of_row hrow
  have hlen := hrow.len_le
  have hW0 : WordsAt w A0 len0 f0 := ⟨hr0, ho0, hlen⟩
  obtain ⟨w1, hw1, hS, hB⟩ := one_span w p0 p1 p2 A0 len0 cap0
  have hpg := wf_i64 wf1
  have hn := wf_i64 wf2
  have H0 := Lib.hid h0
  have H1 := Lib.hid h1
  have H2 := Lib.hid h2
  have HPg : Hid (I64 pg) := Lib.hid hpg
  have HNn : Hid (I64 n) := Lib.hid hn
  have HB1 := Lib.hid hB
  have HW1 := Lib.hid (hW0.below hB)
  have HS1 := Lib.hid hS
  have hl1 := hS.lt
  obtain ⟨s0, s1, s2, s3⟩ := hS.cells
  clear hrow hr0 ho0 hW0 hS hB h0 h1 h2 wf1 wf2
  unfold spV
  by_cases hl : 100 < len0
  · go_enter Try.func3, Try.ntmps3
    go_wp2_with fail
    refine (awake_calls15 _).mono ?_
    rintro e w2 ⟨rfl, hb⟩
    obtain ⟨s0, s1, s2, s3⟩ := (HS1.out.below hb).cells
    have HB2 := Lib.hid (bel_next HB1.out hb (Nat.le_refl _))
    clear hb hw1
    go_wp2_with fail
    refine (awake_calls15 _).mono ?_
    rintro e w3 ⟨rfl, hb⟩
    have HB3 := Lib.hid (bel_next HB2.out hb (Nat.le_refl _))
    clear hb
    go_wp2
    go_ret
    exact ⟨rfl, HB3.out⟩
  go_enter Try.func3, Try.ntmps3
  go_wp2_with fail
  refine (awake_calls15 _).mono ?_
  rintro e w2 ⟨rfl, hb⟩
  have HB2 := Lib.hid (bel_next HB1.out hb (Nat.le_refl _))
  have HS2 := Lib.hid (HS1.out.below hb)
  have HW2 := Lib.hid (HW1.out.below hb)
  obtain ⟨s0, s1, s2, s3⟩ := HS2.out.cells
  clear hb hw1
  go_wp2_with fail
  refine (new_calls pg n _ HPg.out HNn.out).mono ?_
  rintro e w3 hm
  obtain ⟨A, cap, rfl, hW, hb⟩ := made_flat hm
  obtain ⟨b1, hb1⟩ : ∃ b, newB pg n = b := ⟨_, rfl⟩
  rw [hb1] at hW ⊢
  obtain ⟨w4, hw4, hS, hB⟩ := one_span w3 (vp b1 pg) (vp b1 (pagesL n)) (vp b1 n) A (vl b1) cap
  have hbb := hb.trans (hB.mono hb.size)
  have HB4 := Lib.hid (bel_next HB2.out hbb (Nat.le_refl _))
  have HS4 := Lib.hid (HS2.out.below hbb)
  have HW4 := Lib.hid (HW2.out.below hbb)
  have HX4 := Lib.hid hS
  have HWx4 := Lib.hid (hW.below hB)
  have hx4 := hS.lt
  have hs3 := hb.size
  clear hm hW hb hS hB hbb s0 s1 s2 s3
  go_wp2_with fail
  clear hw4
  generalize w3.heap.size = bx at *
  refine (new15_flat pg n _ HPg.out HNn.out).mono ?_
  rintro e w5 ⟨A', cap', rfl, hW, hb⟩
  rw [hb1] at hW ⊢
  obtain ⟨w6, hw6, hS, hB⟩ := one_span w5 (vp b1 pg) (vp b1 (pagesL n)) (vp b1 n) A' (vl b1) cap'
  have hbb := hb.trans (hB.mono hb.size)
  have HB6 := Lib.hid (bel_next HB4.out hbb (Nat.le_refl _))
  have HS6 := Lib.hid (HS4.out.below hbb)
  have HW6 := Lib.hid (HW4.out.below hbb)
  have HX6 := Lib.hid (HX4.out.below hbb)
  have HWx6 := Lib.hid (HWx4.out.below hbb)
  have HY6 := Lib.hid hS
  have HWy6 := Lib.hid (hW.below hB)
  clear hW hb hS hB hbb
  go_wp2_with fail
  clear hw6
  generalize w5.heap.size = by' at *
  refine (large_calls pg n _ HPg.out HNn.out).mono ?_
  rintro e w7 hm
  obtain ⟨Az, capz, rfl, hW, hb⟩ := made_flat hm
  obtain ⟨b2, hb2⟩ : ∃ b, largeB pg n = b := ⟨_, rfl⟩
  rw [hb2] at hW ⊢
  obtain ⟨w8, hw8, hS, hB⟩ := one_span w7 (vp b2 pg) (vp b2 n) (vp b2 255) Az (vl b2) capz
  have hbb := hb.trans (hB.mono hb.size)
  have hO := words_one w8
  have hB2 : Below w8.heap.size w8 (w8.alloc (.cells #[.int .u64 1] 31)) := (Below.refl _ _).alloc (Nat.le_refl _) _
  obtain ⟨w9, hw9, hS9, hB9⟩ := one_span (w8.alloc (.cells #[.int .u64 1] 31)) pg n 255 (some ⟨w8.heap.size, 0, none⟩) 1 1
  have hb79 : Below w7.heap.size w7 w9 := hB.trans ((hB2.trans (hB9.mono hB2.size)).mono hB.size)
  have hb69 := hb.trans (hb79.mono hb.size)
  have HB9 := Lib.hid (bel_next HB6.out hb69 (Nat.le_refl _))
  have HS9 := Lib.hid (HS6.out.below hb69)
  have HW9 := Lib.hid (HW6.out.below hb69)
  have HX9 := Lib.hid (HX6.out.below hb69)
  have HWx9 := Lib.hid (HWx6.out.below hb69)
  have HY9 := Lib.hid (HY6.out.below hb69)
  have HWy9 := Lib.hid (HWy6.out.below hb69)
  have HZ9 := Lib.hid ((hS.below hB2).below hB9)
  have HWz9 := Lib.hid (((hW.below hB).below hB2).below hB9)
  have HG9 := Lib.hid hS9
  have HWg9 := Lib.hid (hO.below hB9)
  clear hm hW hb hS hB hbb hO hB2 hS9 hB9 hb79 hb69
  go_wp2_with fail
  clear hw8 hw9
  generalize w7.heap.size = bz at *
  have hbg : (w8.alloc (.cells #[.int .u64 1] 31)).heap.size = w8.heap.size + 1 := by simp
  rw [hbg] at HG9
  clear hbg
  have HSd := Lib.hid (show SpB w9.drew w.heap.size p0 p1 p2 A0 len0 cap0 from HS9.out)
  have HWd := Lib.hid (show WordsAt w9.drew A0 len0 f0 from HW9.out)
  have HBd := Lib.hid (show Below w.heap.size w w9.drew from HB9.out.drew)
  have HXd := Lib.hid (show SpB w9.drew bx (vp b1 pg) (vp b1 (pagesL n)) (vp b1 n) A (vl b1) cap from HX9.out)
  have HYd := Lib.hid (show SpB w9.drew by' (vp b1 pg) (vp b1 (pagesL n)) (vp b1 n) A' (vl b1) cap' from HY9.out)
  have HZd := Lib.hid (show SpB w9.drew bz (vp b2 pg) (vp b2 n) (vp b2 255) Az (vl b2) capz from HZ9.out)
  have HGd := Lib.hid (show SpB w9.drew (w8.heap.size + 1) pg n 255 (some ⟨w8.heap.size, 0, none⟩) 1 1 from HG9.out)
  have HWxd := Lib.hid (show WordsAt w9.drew A (vl b1) (vf b1) from HWx9.out)
  have HWyd := Lib.hid (show WordsAt w9.drew A' (vl b1) (vf b1) from HWy9.out)
  have HWzd := Lib.hid (show WordsAt w9.drew Az (vl b2) (vf b2) from HWz9.out)
  have HWgd := Lib.hid (show WordsAt w9.drew (some ⟨w8.heap.size, 0, none⟩) 1 bit0 from HWg9.out)
  generalize w8.heap.size = bo at *
  have HEq : Hid (∀ c1 c2 : Bool, (c1 = true ↔ rightP p0 p1 p2 len0 f0) → (c2 = true ↔ Good p0 p1 p2 len0 f0 ∧ 0 < cntF f0 (perN p2)) → c2 = c1) := Lib.hid fun c1 c2 e1 e2 => by
    have e3 : (rightP p0 p1 p2 len0 f0) ↔ (Good p0 p1 p2 len0 f0 ∧ 0 < cntF f0 (perN p2)) := ⟨fun h => Good.of_right h HW9.out.2.1, fun h => h.1.right h.2⟩
    rw [← e3, ← e1] at e2
    cases c1 <;> cases c2 <;> simp at e2 ⊢
  clear hb1
  have HBig := Lib.hid hb2
  clear hb2
  obtain ⟨s0, s1, s2, s3⟩ := HSd.out.cells
  obtain ⟨x0, x1, x2, x3⟩ := HXd.out.cells
  obtain ⟨y0, y1, y2, y3⟩ := HYd.out.cells
  clear HS9 HW9 HB9 HX9 HY9 HZ9 HG9 HWx9 HWy9 HWz9 HWg9 HB2 HS2 HW2 HB4 HS4 HW4 HX4 HWx4 HB6 HS6 HW6 HX6 HWx6 HY6 HWy6 HB1 HW1 HS1
  cases b1
  case' false => rw [show ve false = 2 from rfl]
  case' true => rw [show ve true = 0 from rfl]
  all_goals
    refine wp_region_any (by kernel_rfl) ?_
    change wpAny _ _ _ _ _ _ _ (World.drew _)
    refine wpAny_ready (rs := [0, 2]) (by kernel_rfl) (by simp) ?_
    refine AllReady.cons rfl (fun K hK => ?_) (AllReady.cons rfl (fun K hK => ?_) AllReady.nil)
    case' refine_2 =>
      go_simp
      refine hK _ _ ?_
      clear hK K
      refine wpAny_ready (rs := [0]) (by kernel_rfl) (by simp) ?_
      refine AllReady.cons rfl (fun K hK => ?_) AllReady.nil
      go_simp
      refine hK _ _ ?_
      clear hK K
      refine wpAny_ready (rs := [1]) (by kernel_rfl) (by simp) ?_
      refine AllReady.cons rfl (fun K hK => ?_) AllReady.nil
      go_simp
      go_wp2_with (go_at_call 11; refine (right_calls p0 p1 p2 A0 len0 cap0 f0 _ H0.out H1.out H2.out HWd.out).mono ?_; rintro e w10 ⟨c1, rfl, hc1, hb⟩; have hc1 := Lib.hid hc1)
      try clear hK K
      have HSd := Lib.hid (HSd.out.below hb)
      have HWd := Lib.hid (HWd.out.below hb)
      have HXd := Lib.hid (HXd.out.below hb)
      have HYd := Lib.hid (HYd.out.below hb)
      have HZd := Lib.hid (HZd.out.below hb)
      have HGd := Lib.hid (HGd.out.below hb)
      have HWxd := Lib.hid (HWxd.out.below hb)
      have HWyd := Lib.hid (HWyd.out.below hb)
      have HWzd := Lib.hid (HWzd.out.below hb)
      have HWgd := Lib.hid (HWgd.out.below hb)
      have HBd := Lib.hid (bel_next HBd.out hb (Nat.le_refl _))
      obtain ⟨s0, s1, s2, s3⟩ := HSd.out.cells
      obtain ⟨x0, x1, x2, x3⟩ := HXd.out.cells
      obtain ⟨y0, y1, y2, y3⟩ := HYd.out.cells
      obtain ⟨z0, z1, z2, z3⟩ := HZd.out.cells
      obtain ⟨g0, g1, g2, g3⟩ := HGd.out.cells
      clear hb
    case' refine_1 =>
      go_simp
      refine hK _ _ ?_
      clear hK K
      refine wpAny_ready (rs := [1, 2]) (by kernel_rfl) (by simp) ?_
      refine AllReady.cons rfl (fun K hK => ?_) (AllReady.cons rfl (fun K hK => ?_) AllReady.nil)
      case' refine_2 =>
        go_simp
        refine hK _ _ ?_
        clear hK K
        refine wpAny_ready (rs := [1]) (by kernel_rfl) (by simp) ?_
        refine AllReady.cons rfl (fun K hK => ?_) AllReady.nil
        go_simp
        go_wp2_with (go_at_call 11; refine (right_calls p0 p1 p2 A0 len0 cap0 f0 _ H0.out H1.out H2.out HWd.out).mono ?_; rintro e w10 ⟨c1, rfl, hc1, hb⟩; have hc1 := Lib.hid hc1)
        try clear hK K
        have HSd := Lib.hid (HSd.out.below hb)
        have HWd := Lib.hid (HWd.out.below hb)
        have HXd := Lib.hid (HXd.out.below hb)
        have HYd := Lib.hid (HYd.out.below hb)
        have HZd := Lib.hid (HZd.out.below hb)
        have HGd := Lib.hid (HGd.out.below hb)
        have HWxd := Lib.hid (HWxd.out.below hb)
        have HWyd := Lib.hid (HWyd.out.below hb)
        have HWzd := Lib.hid (HWzd.out.below hb)
        have HWgd := Lib.hid (HWgd.out.below hb)
        have HBd := Lib.hid (bel_next HBd.out hb (Nat.le_refl _))
        obtain ⟨s0, s1, s2, s3⟩ := HSd.out.cells
        obtain ⟨x0, x1, x2, x3⟩ := HXd.out.cells
        obtain ⟨y0, y1, y2, y3⟩ := HYd.out.cells
        obtain ⟨z0, z1, z2, z3⟩ := HZd.out.cells
        obtain ⟨g0, g1, g2, g3⟩ := HGd.out.cells
        clear hb
      case' refine_1 =>
        go_simp
        go_wp2_with (go_at_call 11; refine (right_calls p0 p1 p2 A0 len0 cap0 f0 _ H0.out H1.out H2.out HWd.out).mono ?_; rintro e w10 ⟨c1, rfl, hc1, hb⟩; have hc1 := Lib.hid hc1)
        try clear hK K
        have HSd := Lib.hid (HSd.out.below hb)
        have HWd := Lib.hid (HWd.out.below hb)
        have HXd := Lib.hid (HXd.out.below hb)
        have HYd := Lib.hid (HYd.out.below hb)
        have HZd := Lib.hid (HZd.out.below hb)
        have HGd := Lib.hid (HGd.out.below hb)
        have HWxd := Lib.hid (HWxd.out.below hb)
        have HWyd := Lib.hid (HWyd.out.below hb)
        have HWzd := Lib.hid (HWzd.out.below hb)
        have HWgd := Lib.hid (HWgd.out.below hb)
        have HBd := Lib.hid (bel_next HBd.out hb (Nat.le_refl _))
        obtain ⟨s0, s1, s2, s3⟩ := HSd.out.cells
        obtain ⟨x0, x1, x2, x3⟩ := HXd.out.cells
        obtain ⟨y0, y1, y2, y3⟩ := HYd.out.cells
        obtain ⟨z0, z1, z2, z3⟩ := HZd.out.cells
        obtain ⟨g0, g1, g2, g3⟩ := HGd.out.cells
        clear hb
        refine wpAny_ready (rs := [2]) (by kernel_rfl) (by simp) ?_
        refine AllReady.cons rfl (fun K hK => ?_) AllReady.nil
        go_simp
        refine hK _ _ ?_
        clear hK K
    all_goals
      refine wpAny_ready (rs := [3]) (by kernel_rfl) (by simp) ?_
      refine AllReady.cons rfl (fun K hK => ?_) AllReady.nil
      go_simp
      go_wp2_with (go_at_call 12; refine (right15_calls p0 p1 p2 A0 len0 cap0 f0 _ H0.out H1.out H2.out HWd.out).mono ?_; rintro e w11 ⟨c2, rfl, hc2, hb⟩; obtain rfl := HEq.out c1 c2 hc1.out hc2; clear hc1 hc2)
      try clear hK K
      have HSd := Lib.hid (HSd.out.below hb)
      have HWd := Lib.hid (HWd.out.below hb)
      have HXd := Lib.hid (HXd.out.below hb)
      have HYd := Lib.hid (HYd.out.below hb)
      have HZd := Lib.hid (HZd.out.below hb)
      have HGd := Lib.hid (HGd.out.below hb)
      have HWxd := Lib.hid (HWxd.out.below hb)
      have HWyd := Lib.hid (HWyd.out.below hb)
      have HWzd := Lib.hid (HWzd.out.below hb)
      have HWgd := Lib.hid (HWgd.out.below hb)
      have HBd := Lib.hid (bel_next HBd.out hb (Nat.le_refl _))
      obtain ⟨s0, s1, s2, s3⟩ := HSd.out.cells
      obtain ⟨x0, x1, x2, x3⟩ := HXd.out.cells
      obtain ⟨y0, y1, y2, y3⟩ := HYd.out.cells
      obtain ⟨z0, z1, z2, z3⟩ := HZd.out.cells
      obtain ⟨g0, g1, g2, g3⟩ := HGd.out.cells
      clear hb
      refine wpAny_ready (rs := [4]) (by kernel_rfl) (by simp) ?_
      refine AllReady.cons rfl (fun K hK => ?_) AllReady.nil
      go_simp
      refine hK _ _ ?_
      clear hK K
      refine wpAny_ready (rs := [5]) (by kernel_rfl) (by simp) ?_
      refine AllReady.cons rfl (fun K hK => ?_) AllReady.nil
      go_simp
      refine hK _ _ ?_
      clear hK K
      refine wpAny_ready (rs := [6, 7]) (by kernel_rfl) (by simp) ?_
      refine AllReady.cons rfl (fun K hK => ?_) (AllReady.cons rfl (fun K hK => ?_) AllReady.nil)
      case' refine_2 =>
        go_simp
        refine hK _ _ ?_
        clear hK K
        refine wpAny_ready (rs := [6]) (by kernel_rfl) (by simp) ?_
        refine AllReady.cons rfl (fun K hK => ?_) AllReady.nil
        go_simp
        refine hK _ _ ?_
        clear hK K
      case' refine_1 =>
        go_simp
        refine hK _ _ ?_
        clear hK K
        refine wpAny_ready (rs := [7]) (by kernel_rfl) (by simp) ?_
        refine AllReady.cons rfl (fun K hK => ?_) AllReady.nil
        go_simp
        refine hK _ _ ?_
        clear hK K
      all_goals
        refine wpAny_ready (rs := [8]) (by kernel_rfl) (by simp) ?_
        refine AllReady.cons rfl (fun K hK => ?_) AllReady.nil
        go_simp
        go_wp2_with (go_at_call 13; refine (same15_calls _ _ _ A A' _ cap cap' _ _ HWxd.out HWyd.out).mono ?_; rintro e w12 ⟨rfl, hb⟩)
        try clear hK K
        have HSd := Lib.hid (HSd.out.below hb)
        have HWd := Lib.hid (HWd.out.below hb)
        have HXd := Lib.hid (HXd.out.below hb)
        have HYd := Lib.hid (HYd.out.below hb)
        have HZd := Lib.hid (HZd.out.below hb)
        have HGd := Lib.hid (HGd.out.below hb)
        have HWxd := Lib.hid (HWxd.out.below hb)
        have HWyd := Lib.hid (HWyd.out.below hb)
        have HWzd := Lib.hid (HWzd.out.below hb)
        have HWgd := Lib.hid (HWgd.out.below hb)
        have HBd := Lib.hid (bel_next HBd.out hb (Nat.le_refl _))
        obtain ⟨s0, s1, s2, s3⟩ := HSd.out.cells
        obtain ⟨x0, x1, x2, x3⟩ := HXd.out.cells
        obtain ⟨y0, y1, y2, y3⟩ := HYd.out.cells
        obtain ⟨z0, z1, z2, z3⟩ := HZd.out.cells
        obtain ⟨g0, g1, g2, g3⟩ := HGd.out.cells
        clear hb
        refine wpAny_tail 9 (by kernel_rfl) (by rfl) (by kernel_rfl) ?_
        change wpQuiet _ _ _ _ (_ :: _) _
        repeat (go_big_quiet_step (fail))
        refine wpQuiet_nil ?_
        intro wq hw'
        obtain ⟨nq, hw''⟩ := hw'
        subst hw''
        go_wp2_with fail
        refine (right15_calls pg n 255 (some ⟨bo, 0, none⟩) 1 1 bit0 _ HPg.out HNn.out (by unfold I64; omega) (show WordsAt (w12.drewN nq) (some ⟨bo, 0, none⟩) 1 bit0 from HWgd.out)).mono ?_
        rintro e w13 ⟨c3, rfl, hc3, hb⟩
        have hc : c3 = b2 := by
          have h1 := big_iff pg n
          rw [← hc3, HBig.out] at h1
          cases c3 <;> cases b2 <;> simp at h1 ⊢
        subst hc
        have HB13 := Lib.hid (bel_next (below_drewN HBd.out nq) hb (Nat.le_refl _))
        obtain ⟨z0, z1, z2, z3⟩ := (SpB.below (show SpB (w12.drewN nq) bz (vp c3 pg) (vp c3 n) (vp c3 255) Az (vl c3) capz from HZd.out) hb).cells
        obtain ⟨g0, g1, g2, g3⟩ := (SpB.below (show SpB (w12.drewN nq) (bo + 1) pg n 255 (some ⟨bo, 0, none⟩) 1 1 from HGd.out) hb).cells
        have HWz := Lib.hid (WordsAt.below (show WordsAt (w12.drewN nq) Az (vl c3) (vf c3) from HWzd.out) hb)
        have HWg := Lib.hid (WordsAt.below (show WordsAt (w12.drewN nq) (some ⟨bo, 0, none⟩) 1 bit0 from HWgd.out) hb)
        clear hb hc3
        cases c3
        · have hv : ve false = 2 := rfl
          go_wp2_with fail
          refine (same15_calls (vp false pg) (vp false n) (vp false 255) Az none (vl false) capz 0 (vf false) _ HWz.out (vf_no _)).mono ?_
          rintro e w14 ⟨rfl, hb⟩
          have HB14 := Lib.hid (bel_next HB13.out hb (Nat.le_refl _))
          clear hb
          go_wp2
          go_ret
          exact ⟨rfl, HB14.out⟩
        · have hv : ve true = 0 := rfl
          go_wp2_with fail
          refine (same15_calls (vp true pg) (vp true n) (vp true 255) Az (some ⟨bo, 0, none⟩) (vl true) capz 1 (vf true) _ HWz.out (by rw [show vf true = bit0 from funext fun i => by simp [vf]]; exact HWg.out)).mono ?_
          rintro e w14 ⟨rfl, hb⟩
          have HB14 := Lib.hid (bel_next HB13.out hb (Nat.le_refl _))
          clear hb
          go_wp2
          go_ret
          exact ⟨rfl, HB14.out⟩
end Go.Proofs.Ytakcdkcikopoiaa
