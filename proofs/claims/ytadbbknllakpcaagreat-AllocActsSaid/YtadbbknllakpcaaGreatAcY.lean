/- The walk of AllocActs. -/
import Derived.Test.YtadbbknllakpcaaGreatAcW
import Derived.Test.YtadbbknllakpcaaGreatAcE
import Derived.Test.YtadbbknllakpcaaGreatDagA
import Derived.Deep.CutBlock
import Derived.Deep.DeepCutAuto
import Derived.Deep.LoopGhost
namespace Go.Proofs.YtadbbknllakpcaaGreat
open Go.RowKit
set_option linter.unusedVariables false

theorem lit_ownZ (w : World) : (w.alloc (.cells #[] 27)).ownsRow w.heap.size 27 4 (.slice (some ⟨w.heap.size, 0, none⟩) 0 0) 0 [] :=
  World.ownsRow_made w #[] 0 (Nat.le_refl _) (by unfold maxLen; omega) (by simp)
theorem rem_modZ (n c : Int) (h : 1 ≤ c) (h2 : c ≤ 1000) : 0 ≤ n.tmod c % c ∧ n.tmod c % c ≤ c - 1 ∧ -c < n.tmod c ∧ n.tmod c < c := by
  have h3 := Int.emod_nonneg (n.tmod c) (show c ≠ 0 by omega)
  have h4 := Int.emod_lt_of_pos (n.tmod c) (show 0 < c by omega)
  have h5 := Int.tmod_lt_of_pos n (show 0 < c by omega)
  have h6 : -c < n.tmod c := by
    have := Int.tmod_lt_of_pos (-n) (show 0 < c by omega)
    rw [Int.neg_tmod] at this
    omega
  omega
def BdZ (xs : List Int) : Prop := ∀ x ∈ xs, 0 ≤ x ∧ x ≤ 2097152
/-- What the loop keeps. -/
def DblE (w wr : World) (H L R j : Nat) (v : Value) : Prop :=
  ∃ F k l xs A cap Z, Dbl F w wr H L k (spsZ Z) l xs v R A cap Z ∧ k ≤ 20 + 2 * j ∧ BdZ xs ∧ xs.length ≤ j + 1 ∧ 1 ≤ xs.length
/-- Right spans, as they come in. -/
theorem spans_raw {w : World} {A : Option Addr} {S : List Sp} (h : SpansAt w A S) (hI : Inv S) : ∃ Q, RawAt w A S.length Q ∧ RightTo Q S.length := by
  obtain ⟨W, hr, hw⟩ := h
  have hat : ∀ i, i < S.length → ∃ s, S[i]? = some s := fun i hi => ⟨_, List.getElem?_eq_getElem hi⟩
  obtain ⟨Q, hQ⟩ : ∃ Q : Nat → Raw, ∀ i s, S[i]? = some s → Q i = ⟨s.pg, s.ps, s.cl, (W i).1, s.len, (W i).2, s.f⟩ := ⟨fun i => match S[i]? with | some s => ⟨s.pg, s.ps, s.cl, (W i).1, s.len, (W i).2, s.f⟩ | none => ⟨0, 0, 0, none, 0, 0, fun _ => false⟩, fun i s hs => by simp only [hs]⟩
  refine ⟨Q, fun i hi => ?_, fun i hi => ?_⟩
  · obtain ⟨s, hs⟩ := hat i hi
    rw [hQ i s hs]
    exact ⟨SpansAt.four hr hs, Good.i64 (hI.1 s (List.mem_of_getElem? hs)).1, hw i s hs⟩
  · obtain ⟨s, hs⟩ := hat i hi
    have h1 := hI.1 s (List.mem_of_getElem? hs)
    have h2 := h1.1.ps1
    rw [hQ i s hs]
    refine ⟨⟨h1.1, h1.2⟩, ?_⟩
    cases i with
    | zero => show (0 : Int) ≤ (s.pg : Int); omega
    | succ k =>
      obtain ⟨t, ht⟩ := hat k (by omega)
      show (Q k).pg + (Q k).ps ≤ (s.pg : Int)
      rw [hQ k t ht]
      show (t.pg : Int) + (t.ps : Int) ≤ (s.pg : Int)
      have := List.pairwise_iff_getElem.1 hI.2 k (k + 1) (by omega) hi (by omega)
      rw [(List.getElem?_eq_some_iff.1 ht).2, (List.getElem?_eq_some_iff.1 hs).2] at this
      omega
theorem run_neqI (a : Int) (w : World) : (binOp .neq 3 (.int .i64 a) (.int .i64 a)).run Tryz.prog w = .ok (.bool false) w := by
  go_simp
/-- Both lists are compared. -/
def SameJ (W0 : World) (S : List Sp) (g : Nat → Bool) (x : Option Addr × Nat) (w' : World) : Prop := Below W0.heap.size W0 w' ∧ (g 4 = true → SpansAt w' x.1 S)
theorem SameJ.same {W0 w' : World} {S : List Sp} {g : Nat → Bool} {x : Option Addr × Nat} (h : SameJ W0 S g x w') {i : Nat} (hi : (4 == i) = false) : SameJ W0 S (upd g i) x w' := by
  unfold SameJ
  rw [updO_ne hi]
  exact h
set_option maxRecDepth 8000 in
set_option maxHeartbeats 16000000 in
theorem acts_walk (v0 : Value) (q : (Option Addr × Nat × Nat) × (Nat → Raw)) (v1 : Value) (r : Option Addr × Nat × Nat) (w : World) (h0 : SpansIn w v0 q) (h1 : ActsIn w v1 r) :
    Calls Tryz.prog 3 #[v0, v1] w fun e w' => e = .returned (.bool true) ∧ Below w.heap.size w w' := by
  obtain ⟨⟨A0, n0, c0⟩, Q⟩ := q
  obtain ⟨rfl, hraw⟩ := h0
  obtain ⟨A1, n1, c1⟩ := r
  obtain ⟨rfl, hn1, hacts⟩ := h1
  have hraw : RawAt w A0 n0 Q := hraw
  have hn1 : n1 ≤ 9223372036854775807 := hn1
  have HRaw := Lib.hid hraw
  have HActs := Lib.hid hacts
  clear hraw hacts
  obtain ⟨i0, hi0, hz0, hz1, hz2⟩ := info_parts info_SpanH
  obtain ⟨j0, hj0, hy0, hy1, hy2⟩ := info_parts info_IntA
  go_enter Tryz.func3, Tryz.ntmps3
  go_wp2_with fail
  refine (awake17_calls w).mono ?_
  rintro e w1 ⟨rfl, hB⟩
  have HB1 := Lib.hid hB
  clear hB
  by_cases hg : n0 ≤ 10 ∧ n1 ≤ 25
  · obtain ⟨hg0, hg1⟩ := hg
    have d0 : decide (10 < n0) = false := decide_eq_false (by omega)
    have d1 : decide (25 < n1) = false := decide_eq_false (by omega)
    go_wp2_with fail
    clear d0 d1
    go_loopg [5] n0 (fun q s5 wr => ∃ i, q = n0 - i ∧ i ≤ n0 ∧ s5 = .int .i64 (i : Int) ∧ wr = w1)
    case atStart => exact ⟨0, by omega, by omega, rfl, rfl⟩
    case round =>
      obtain ⟨i, hq, hil, rfl, rfl⟩ := hrel
      by_cases hlt : i < n0
      · obtain ⟨⟨b, o, rfl, hb1, hf1⟩, _, _⟩ := (HRaw.out.below HB1.out) i hlt
        obtain ⟨f0, f1, f2, f3⟩ := hf1
        have HLt := Lib.hid hlt
        by_cases hlen : (Q i).len ≤ 100
        · have d0 : decide (100 < (Q i).len) = false := decide_eq_false (by omega)
          have d1 : decide ((100 : Int) < ((Q i).len : Int)) = false := decide_eq_false (by omega)
          go_wp2
          go_roundg (n0 - (i + 1))
          case measure => first | (rw [hq]; exact Nat.sub_lt_sub_left HLt.out (Nat.lt_succ_self _)) | exact Nat.sub_lt_sub_left HLt.out (Nat.lt_succ_self _)
          case rel => exact ⟨i + 1, rfl, HLt.out, by go_num, rfl⟩
        · have d0 : decide (100 < (Q i).len) = true := decide_eq_true (by omega)
          have d1 : decide ((100 : Int) < ((Q i).len : Int)) = true := decide_eq_true (by omega)
          go_wp2
          go_ret
          exact ⟨rfl, HB1.out⟩
      · obtain rfl : i = n0 := by omega
        have HRaw1 := Lib.hid (HRaw.out.below HB1.out)
        go_wp2_with fail
        by_cases hrt : RightTo Q i
        · have HRt := Lib.hid hrt
          obtain ⟨hrd, hwd⟩ := zR_rd HRaw1.out hrt
          have HRd := Lib.hid hrd
          have HWd := Lib.hid (zR_rd HRaw.out hrt).2
          have hz : (spsZ (zR Q i)).length = i := by rw [spsZ_len, zR_len]
          have hzl : (zR Q i).length = i := zR_len Q i
          have hsa : SpansAt _ A0 (spsZ (zR Q i)) := zR_spans HRaw1.out hrt
          have hnew := new17_calls _ A0 c0 (spsZ (zR Q i)) hsa (zR_inv hrt)
          rw [hz] at hnew
          clear hrd hwd hsa hrt
          refine hnew.mono ?_
          rintro e w2 ⟨H, L, l, F, rfl, hH, hl, hF, hB⟩
          clear hnew
          have HH := Lib.hid hH
          have HL := Lib.hid (And.intro hl hF)
          have HB2 := Lib.hid (bel_next HB1.out hB (Nat.le_refl _))
          have HRaw2 := Lib.hid (HRaw1.out.below hB)
          clear hH hl hF hB
          go_wp2_with fail
          refine (rright17_calls w2 A0 i c0 Q HRaw2.out (by omega)).mono ?_
          rintro e w3 ⟨bb, rfl, hbb, hB⟩
          obtain rfl : bb = true := hbb.2 HRt.out
          have HB3 := Lib.hid (bel_next HB2.out hB (Nat.le_refl _))
          have HRaw3 := Lib.hid (HRaw2.out.below hB)
          have HH3 := Lib.hid (HH.out.below hB)
          clear hbb hB
          go_wp2_with fail
          refine (aright_any w3 A0 i c0 Q HRaw3.out (by omega)).mono ?_
          rintro e w4 ⟨bb, rfl, hbb, hB⟩
          obtain rfl : bb = true := hbb.2 HRt.out
          have HB4 := Lib.hid (bel_next HB3.out hB (Nat.le_refl _))
          have HH4 := Lib.hid (HH3.out.below hB)
          have HRd4 := Lib.hid (zR_rd (HRaw3.out.below hB) HRt.out).1
          clear hbb hB
          obtain ⟨w5, hw5⟩ : ∃ w5, w4.alloc (.cells #[] 27) = w5 := ⟨_, rfl⟩
          have hb5 : Below w4.heap.size w4 w5 := by rw [← hw5]; exact (Below.refl _ _).alloc (Nat.le_refl _) _
          have HO5 := Lib.hid (show w5.ownsRow w4.heap.size 27 4 (.slice (some ⟨w4.heap.size, 0, none⟩) 0 0) 0 [] from by rw [← hw5]; exact lit_ownZ w4)
          have HRd5 := Lib.hid (HRd4.out.below hb5)
          have HB5 := Lib.hid hb5
          have hbs5 : w4.heap.size ≤ w5.heap.size := hb5.size
          clear hb5
          go_wp2_with (at_builtin; refine wpList_append_rd rfl (.tmp 84) (.tmp 85) 22 rfl w4.heap.size 27 i0 _ 4 48 Tryz.underlying22 hi0 hz0 hz1 hz2 rfl (by decide) (.slice (some ⟨w4.heap.size, 0, none⟩) 0 0) 0 [] rfl HO5.out A0 i c0 rfl (cz (zR Q i)) (by rw [cz_len, hzl]) HRd5.out (cz_one _) (by omega) (by unfold maxLen; omega) hbs5 ?_; intro v9 w9 hown9 hgr9 hnew9 _; simp only [Nat.zero_add, List.nil_append] at hown9; obtain ⟨A9, c9, rfl⟩ := ownsRow_slice hown9; have HB9 := Lib.hid (own_grown HB5.out HO5.out (Nat.le_refl _) hgr9); have HO9 := Lib.hid hown9; clear hown9 hgr9 hnew9)
          have HD := Lib.hid (Dbl.start (w := w) (Z := zR Q i) HH4.out HL.out.1 (fun k hk => Nat.le_trans HB1.out.size (HL.out.2 k hk)) HB4.out HB9.out (by rw [hzl]; exact HO9.out) HWd.out (zR_inv HRt.out))
          obtain ⟨R, hR⟩ : ∃ R, w9.heap.size = R := ⟨_, rfl⟩
          rw [hzl, hR] at HD
          rw [hR]
          have HDE := Lib.hid (show DblE w _ H L R 0 _ from ⟨_, _, _, _, _, _, _, HD.out, by omega, (fun x hx => by simp at hx; omega), (by simp), (by simp)⟩)
          clear hR hw5
          go_loopg [10, 11] n1 (fun q s10 s11 wr => ∃ j, q = n1 - j ∧ j ≤ n1 ∧ s11 = .int .i64 (j : Int) ∧ Hid (DblE w wr H L R j s10))
          case atStart => exact ⟨0, by omega, by omega, rfl, HDE⟩
          case round =>
            obtain ⟨j, hq, hjl, rfl, hst⟩ := hrel
            obtain ⟨F, k, l, xs, A, cap, Z, hD, hk, hbd, hxl, hx1⟩ := hst.out
            by_cases hlt : j < n1
            · obtain ⟨b, o, hA1, hbl, hcells⟩ := HActs.out.resolve_left (by show ¬ n1 = 0; omega)
              have hA1 : A1 = some ⟨b, o, none⟩ := hA1
              have hbl : b < w.heap.size := hbl
              obtain ⟨kd, m, ⟨a0, a1⟩, hkd, hm⟩ := hcells j hlt
              have hbw : Below w.heap.size w wr := hD.st.2.2.2.2.2
              have e0 := (hbw.cell (p := ⟨b, o + j * 2, none⟩) hbl).trans a0
              have e1 := (hbw.cell (p := ⟨b, o + j * 2 + 1, none⟩) hbl).trans a1
              subst hA1
              obtain ⟨W, hW, hDW, hAB⟩ := hD.lay kd m
              obtain ⟨A7, c7, rfl⟩ := ownsRow_slice hD.st.2.2.2.1
              obtain ⟨N, hN⟩ : ∃ N, xs.length = N := ⟨_, rfl⟩
              have hrem := rem_modZ m (N : Int) (by omega) (by omega)
              obtain ⟨qi, hqi⟩ : ∃ qi : Nat, m.tmod (N : Int) % (N : Int) = (qi : Int) := ⟨(m.tmod (N : Int) % (N : Int)).toNat, by omega⟩
              have hql : qi < N := by omega
              obtain ⟨x, hx⟩ : ∃ x, xs[qi]? = some x := ⟨_, List.getElem?_eq_getElem (by omega)⟩
              obtain ⟨b7, c8, he7, hc7⟩ := own_ints hDW.st.2.2.2.1 hx
              have hA7 : A7 = some ⟨b7, 0, none⟩ := by simp only [Value.slice.injEq] at he7; exact he7.1
              subst hA7
              have hxb := hbd x (List.mem_of_getElem? hx)
              rw [hN] at hDW hAB
              have HDW := Lib.hid hDW
              have HAB := Lib.hid hAB
              have HNm := Lib.hid (And.intro hk (And.intro hbd (And.intro hxl hx1)))
              have HM := Lib.hid hm
              have HLj := Lib.hid hlt
              have hXN := Lib.hid hN
              rw [hN]
              have q0 := hAB.blk.cell 0
              have q1 := hAB.blk.cell 1
              simp only [List.getElem?_cons_zero, List.getElem?_cons_succ] at q0 q1
              have hN30 : 1 ≤ N ∧ N ≤ 30 := by omega
              unfold I64 at hm hkd
              clear hD hDW hAB hk hbd hxl hx1 he7 hx a0 a1 hcells hbw hbl hN hst
              go_upto_block 4 with fail
              go_cut [10, 14] (fun s10 s14 wx => s14 = .bool true ∧ DblE w wx H L R (j + 1) s10)
              case first =>
                by_cases k0 : kd = 0
                · subst k0
                  go_wp2_with fail
                  refine (alloc17_calls W H L k (spsZ Z) l F m HDW.out.st.1 HDW.out.st.2.1 (by have := HNm.out.1; omega) HM.out).mono ?_
                  rintro e w3 ⟨a, er, S1, l1, rfl, hA, hl1, hS1⟩
                  have hab := hA.bd HDW.out.st.1.inv HDW.out.st.1.canon
                  obtain ⟨F1, hD1, hact⟩ := HDW.out.heap hS1 hl1
                  have q3 := (hact _ _ _ HAB.out).blk.cell 1
                  simp only [List.getElem?_cons_zero, List.getElem?_cons_succ] at q3
                  have HD1 := Lib.hid hD1
                  have HA := Lib.hid hA
                  clear hA hl1 hS1 hD1 hact q0 q1 hc7
                  go_wp2_with fail
                  refine (ralloc17_calls w3 R cap A Z _ HD1.out.rf HD1.out.kb l HDW.out.st.2.1 HDW.out.st.1.canon m HM.out).mono ?_
                  rintro e w4 ⟨a2, er2, S2, rfl, ⟨l2, hA2⟩, hst⟩
                  obtain ⟨rfl, rfl, rfl, rfl⟩ := HA.out.one HDW.out.st.1.inv hA2
                  obtain ⟨A', cap', Z', hZ', hD2, _⟩ := HD1.out.doc hst
                  subst hZ'
                  have HD2 := Lib.hid hD2
                  clear hA2 hst hD2 q3
                  by_cases her : er = 0
                  · subst her
                    have HO := Lib.hid (show w4.ownsRow w.heap.size 3 1 (.slice (some ⟨b7, 0, none⟩) N c7) N (intsV xs) from by have := HD2.out.st.2.2.2.1; rw [hXN.out] at this; exact this)
                    have hbs := HD2.out.st.2.2.2.2.2.size
                    go_wp2_with (at_builtin; refine wpList_append_new rfl (.tmp 181) (.tmp 183) 37 rfl w.heap.size 3 j0 _ 1 8 Tryz.underlying37 hj0 hy0 hy1 hy2 rfl (by decide) (.slice (some ⟨b7, 0, none⟩) N c7) N 1 _ rfl HO.out rfl rfl (one_int _) (by omega) (by unfold maxLen; omega) hbs ?_; intro v2 w5 hown2 hgr2 hnew2)
                    have HD5 := Lib.hid (HD2.out.app (by rw [hXN.out]; exact hown2) hgr2 hnew2)
                    clear hown2 hgr2 hnew2
                    go_meet
                    case rel => exact ⟨by first | rfl | simp, F1, k + 2, l1, xs ++ [a], A', cap', Z', HD5.out, by have := HNm.out.1; omega, (fun y hy => by
                      rcases List.mem_append.1 hy with h | h
                      · exact HNm.out.2.1 y h
                      · obtain rfl := List.mem_singleton.1 h; exact hab), by rw [List.length_append, List.length_singleton]; have := HNm.out.2.2.1; omega, by rw [List.length_append, List.length_singleton]; omega⟩
                  · have d1 : (er == 0) = false := by rw [beq_eq_false_iff_ne]; exact her
                    go_wp2
                    go_meet
                    case rel => exact ⟨by first | rfl | simp, F1, k + 2, l1, xs, A', cap', Z', HD2.out, by have := HNm.out.1; omega, HNm.out.2.1, by have := HNm.out.2.2.1; omega, HNm.out.2.2.2⟩
                · have k0' : (kd == 0) = false := by simpa using k0
                  by_cases k1 : kd = 1
                  · subst k1
                    go_wp2_with fail
                    refine (free17_calls W H L k (spsZ Z) l F x HDW.out.st.1 HDW.out.st.2.1 (by have := HNm.out.1; omega) (by unfold I64; omega)).mono ?_
                    rintro e w3 ⟨r, kk, er, S1, l1, rfl, hFr, hl1, hS1⟩
                    have hWs := HDW.out.rf.blk.lt
                    have hw3s := hS1.only.size
                    obtain ⟨F1, hD1, hact⟩ := HDW.out.heap hS1 hl1
                    obtain ⟨w4, hw4, hR4, hB4⟩ := one_row w3 r kk
                    have HD4 := Lib.hid (hD1.below hB4)
                    have HR4 := Lib.hid hR4
                    have HFr := Lib.hid hFr
                    clear hFr hl1 hS1 hD1 hact hR4 hB4 q0 q1 hc7
                    go_wp2_with fail
                    clear hw4
                    refine (rfree17_calls w4 R cap A Z _ HD4.out.rf HD4.out.kb x (by unfold I64; omega)).mono ?_
                    rintro e w5 ⟨r2, kk2, er2, S2, rfl, ⟨l2, l3, hF2⟩, hst⟩
                    obtain ⟨rfl, rfl, rfl, rfl⟩ := FreeL.one HDW.out.st.1.inv HFr.out hF2
                    have hR5 : RowC w5 w3.heap.size r kk := by
                      obtain ⟨_, _, _, _, _, h3⟩ := hst
                      exact Blk.only HR4.out h3 (fun e => by have e : w3.heap.size = R := e; omega)
                    obtain ⟨A', cap', Z', hZ', hD5, _⟩ := HD4.out.doc hst
                    subst hZ'
                    obtain ⟨w6, hw6, hR6, hB6⟩ := one_row w5 r kk
                    have hR5' := Blk.below hR5 hB6
                    have t0 := hR5'.cell 0
                    have t1 := hR5'.cell 1
                    have u0 := hR6.cell 0
                    have u1 := hR6.cell 1
                    simp only [List.getElem?_cons_zero, List.getElem?_cons_succ] at t0 t1 u0 u1
                    have HD6 := Lib.hid (hD5.below hB6)
                    clear hF2 hst hR5 hD5 hR6 hB6 hR5'
                    go_wp2
                    go_meet
                    case rel => exact ⟨by first | rfl | simp, F1, k + 2, l1, xs, A', cap', Z', HD6.out, by have := HNm.out.1; omega, HNm.out.2.1, by have := HNm.out.2.2.1; omega, HNm.out.2.2.2⟩
                  · have k1' : (kd == 1) = false := by simpa using k1
                    by_cases k2 : kd = 2
                    · subst k2
                      go_wp2_with fail
                      refine (free17_calls W H L k (spsZ Z) l F m HDW.out.st.1 HDW.out.st.2.1 (by have := HNm.out.1; omega) HM.out).mono ?_
                      rintro e w3 ⟨r, kk, er, S1, l1, rfl, hFr, hl1, hS1⟩
                      have hWs := HDW.out.rf.blk.lt
                      have hw3s := hS1.only.size
                      obtain ⟨F1, hD1, hact⟩ := HDW.out.heap hS1 hl1
                      obtain ⟨w4, hw4, hR4, hB4⟩ := one_row w3 r kk
                      have HD4 := Lib.hid (hD1.below hB4)
                      have HR4 := Lib.hid hR4
                      have HFr := Lib.hid hFr
                      clear hFr hl1 hS1 hD1 hact hR4 hB4 q0 q1 hc7
                      go_wp2_with fail
                      clear hw4
                      refine (rfree17_calls w4 R cap A Z _ HD4.out.rf HD4.out.kb m HM.out).mono ?_
                      rintro e w5 ⟨r2, kk2, er2, S2, rfl, ⟨l2, l3, hF2⟩, hst⟩
                      obtain ⟨rfl, rfl, rfl, rfl⟩ := FreeL.one HDW.out.st.1.inv HFr.out hF2
                      have hR5 : RowC w5 w3.heap.size r kk := by
                        obtain ⟨_, _, _, _, _, h3⟩ := hst
                        exact Blk.only HR4.out h3 (fun e => by have e : w3.heap.size = R := e; omega)
                      obtain ⟨A', cap', Z', hZ', hD5, _⟩ := HD4.out.doc hst
                      subst hZ'
                      obtain ⟨w6, hw6, hR6, hB6⟩ := one_row w5 r kk
                      have hR5' := Blk.below hR5 hB6
                      have t0 := hR5'.cell 0
                      have t1 := hR5'.cell 1
                      have u0 := hR6.cell 0
                      have u1 := hR6.cell 1
                      simp only [List.getElem?_cons_zero, List.getElem?_cons_succ] at t0 t1 u0 u1
                      have HD6 := Lib.hid (hD5.below hB6)
                      clear hF2 hst hR5 hD5 hR6 hB6 hR5'
                      go_wp2
                      go_meet
                      case rel => exact ⟨by first | rfl | simp, F1, k + 2, l1, xs, A', cap', Z', HD6.out, by have := HNm.out.1; omega, HNm.out.2.1, by have := HNm.out.2.2.1; omega, HNm.out.2.2.2⟩
                    · have k2' : (kd == 2) = false := by simpa using k2
                      by_cases k3 : kd = 3
                      · subst k3
                        go_wp2_with fail
                        refine (find17_calls W H L k (spsZ Z) l F m HDW.out.st.1 HM.out).mono ?_
                        rintro e w3 ⟨hB3, a, kk, ok, rfl, hFd⟩
                        have HD3 := Lib.hid (HDW.out.below hB3)
                        have HFd := Lib.hid hFd
                        clear hB3 hFd q0 q1 hc7
                        go_wp2_with fail
                        refine (rfind17_calls w3 R cap A Z _ HD3.out.rf m HM.out).mono ?_
                        rintro e w4 ⟨a2, kk2, ok2, rfl, hFd2, hB4⟩
                        obtain ⟨rfl, rfl, rfl⟩ := FindL.one HDW.out.st.1.inv HFd.out hFd2
                        have HD4 := Lib.hid (HD3.out.below hB4)
                        clear hFd2 hB4
                        go_wp2
                        go_meet
                        case rel => exact ⟨by first | rfl | simp, F, k, l, xs, A, cap, Z, HD4.out, by have := HNm.out.1; omega, HNm.out.2.1, by have := HNm.out.2.2.1; omega, HNm.out.2.2.2⟩
                      · have k3' : (kd == 3) = false := by simpa using k3
                        obtain ⟨h64a, h64b, h64c, h64d⟩ := rem_modZ m 64 (by omega) (by omega)
                        have hadd : wrap64 (x + m.tmod 64 % 64) = x + m.tmod 64 % 64 := IntWalk.wrap64_in _ (by omega)
                        go_wp2_with fail
                        refine (find17_calls W H L k (spsZ Z) l F (x + m.tmod 64 % 64) HDW.out.st.1 (by unfold I64; omega)).mono ?_
                        rintro e w3 ⟨hB3, a, kk, ok, rfl, hFd⟩
                        have HD3 := Lib.hid (HDW.out.below hB3)
                        have HFd := Lib.hid hFd
                        clear hB3 hFd q0 q1 hc7
                        go_wp2_with fail
                        refine (rfind17_calls w3 R cap A Z _ HD3.out.rf (x + m.tmod 64 % 64) (by unfold I64; omega)).mono ?_
                        rintro e w4 ⟨a2, kk2, ok2, rfl, hFd2, hB4⟩
                        obtain ⟨rfl, rfl, rfl⟩ := FindL.one HDW.out.st.1.inv HFd.out hFd2
                        have HD4 := Lib.hid (HD3.out.below hB4)
                        clear hFd2 hB4
                        go_wp2
                        go_meet
                        case rel => exact ⟨by first | rfl | simp, F, k, l, xs, A, cap, Z, HD4.out, by have := HNm.out.1; omega, HNm.out.2.1, by have := HNm.out.2.2.1; omega, HNm.out.2.2.2⟩
              case rest =>
                obtain ⟨rfl, hE⟩ := hcut
                obtain ⟨F2, k2, l2, xs2, A2, cap2, Z2, hD2, hn2⟩ := hE
                have HD2 := Lib.hid hD2
                have HN2 := Lib.hid hn2
                clear hD2 hn2 q0 q1 hc7 HDW HAB HNm e0 e1 hW HDE HD HO9 HB9
                go_wp2_with fail
                refine (count17_calls _ H L k2 (spsZ Z2) l2 F2 HD2.out.st.1).mono ?_
                rintro e w5 ⟨rfl, hB⟩
                have HD5 := Lib.hid (HD2.out.below hB)
                clear hB
                obtain ⟨ca, hca⟩ : ∃ ca : Int, ((cntAll (spsZ Z2) : Nat) : Int) = ca := ⟨_, rfl⟩
                obtain ⟨oa, hoa⟩ : ∃ oa : Int, ((octAll (spsZ Z2) : Nat) : Int) = oa := ⟨_, rfl⟩
                rw [hca, hoa]
                go_wp2_with fail
                refine (rcount17_calls _ R cap2 A2 Z2 _ HD5.out.rf).mono ?_
                rintro e w6 ⟨rfl, hB⟩
                rw [hca, hoa]
                have HD6 := Lib.hid (HD5.out.below hB)
                clear hB hca hoa
                go_wp2_with fail
                refine wp_dagW (U := Option Addr × Nat) (fun x => [(223, .bool true), (224, .bool false), (225, .bool false), (226, .pointer (some ⟨H, 0, none⟩)), (227, .slice x.1 Z2.length x.2), (228, .pointer (some ⟨R, 0, none⟩)), (229, .pointer (some ⟨R, 0, none⟩)), (230, .pointer (some ⟨R, 0, none⟩)), (231, .slice A2 Z2.length cap2), (232, .bool true), (233, .bool false), (234, .bool false), (235, .bool false), (236, .int .i64 ca), (237, .int .i64 ca), (238, .bool false), (239, .bool false), (240, .bool false), (241, .int .i64 oa), (242, .int .i64 oa), (243, .bool false), (244, .bool false)]) (SameJ w6.drew (spsZ Z2)) (fun k => if k = 4 then some [227] else none) (none, 0) (by kernel_rfl) (by kernel_rfl) (by kernel_rfl) (fun y => by kernel_rfl) ⟨Below.refl _ _, fun h => by cases h⟩ ?_ ?_ ?_
                case refine_1 =>
                  intro j' dep hd
                  by_cases h4 : j' = 4
                  · subst h4
                    rw [if_pos rfl] at hd
                    cases hd
                    refine ⟨_, rfl, (fun y => by kernel_rfl), by kernel_rfl, fun y g0 w' hg hdd hJ => .inr ⟨17, #[.pointer (some ⟨H, 0, none⟩)], by kernel_rfl, ?_⟩⟩
                    refine (spans_calls w' H L k2 (spsZ Z2) l2 F2 (HD6.out.st.1.below (of_drewS hJ.1))).mono ?_
                    rintro e w7 ⟨v7, rfl, hV7, hB7⟩
                    obtain ⟨A7, c7', rfl, hSp7⟩ := hV7.read
                    rw [spsZ_len]
                    exact ⟨_, rfl, (A7, c7'), by kernel_rfl, by kernel_rfl, bel_next hJ.1 hB7 (Nat.le_refl _), fun _ => hSp7⟩
                  · rw [if_neg h4] at hd; cases hd
                case refine_2 =>
                  intro x
                  refine dagV_cons (dag_val (v := .bool true) (by kernel_rfl) (by kernel_rfl) (fun g0 w' h => by kernel_rfl) (fun g0 w' h => h.same rfl)) ?_
                  refine dagV_cons (dag_val (v := .bool false) (by kernel_rfl) (by kernel_rfl) (fun g0 w' h => by kernel_rfl) (fun g0 w' h => h.same rfl)) ?_
                  refine dagV_cons (dag_val (v := .bool false) (by kernel_rfl) (by kernel_rfl) (fun g0 w' h => by kernel_rfl) (fun g0 w' h => h.same rfl)) ?_
                  refine dagV_cons (dag_val (v := .pointer (some ⟨H, 0, none⟩)) (by kernel_rfl) (by kernel_rfl) (fun g0 w' h => by kernel_rfl) (fun g0 w' h => h.same rfl)) ?_
                  refine dagV_ch rfl ?_
                  refine dagV_cons (dag_val (v := .pointer (some ⟨R, 0, none⟩)) (by kernel_rfl) (by kernel_rfl) (fun g0 w' h => by kernel_rfl) (fun g0 w' h => h.same rfl)) ?_
                  refine dagV_cons (dag_val (v := .pointer (some ⟨R, 0, none⟩)) (by kernel_rfl) (by kernel_rfl) (fun g0 w' h => by kernel_rfl) (fun g0 w' h => h.same rfl)) ?_
                  refine dagV_cons (dag_field (s := 36) (x := .tmp 229) (k := 0) (v1 := .pointer (some ⟨R, 0, none⟩)) (v := .pointer (some ⟨R, 0, none⟩)) (by kernel_rfl) (by kernel_rfl) (by kernel_rfl) (by kernel_rfl) (fun w' => by kernel_rfl) (fun g0 w' h => h.same rfl)) ?_
                  refine dagV_cons (dag_load (t := 22) (d := .slice 27) (x := .tmp 230) (p := ⟨R, 0, none⟩) (v := .slice A2 Z2.length cap2) (by kernel_rfl) (by kernel_rfl) (by kernel_rfl) (by kernel_rfl) Tryz.underlying22 rfl (fun g0 w' h => (HD6.out.rf.below (of_drewS h.1)).cell) (fun g0 w' h => h.same rfl)) ?_
                  refine dagV_cons (dag_call2 (f := 16) (args := #[.slice x.1 Z2.length x.2, .slice A2 Z2.length cap2]) (v := .bool true) (by kernel_rfl) (by kernel_rfl) (fun w' => by kernel_rfl) (fun g0 w' hg hd h => ?_)) ?_
                  case refine_1 =>
                    have hd4 : g0 4 = true := hd { on := 4, ground := Ground.data } (by simp) rfl
                    have hsm := rsame17_calls w' x.1 A2 x.2 cap2 (spsZ Z2) (h.2 hd4) (HD6.out.rf.below (of_drewS h.1)).at'.spans (by rw [spsZ_len]; have := HD6.out.rf.len; omega)
                    rw [spsZ_len] at hsm
                    refine hsm.mono ?_
                    rintro e w8 ⟨rfl, hb8⟩
                    exact ⟨rfl, bel_next h.1 hb8 (Nat.le_refl _), fun _ => (h.2 hd4).below hb8⟩
                  refine dagV_cons (dag_val (v := .bool false) (by kernel_rfl) (by kernel_rfl) (fun g0 w' h => by kernel_rfl) (fun g0 w' h => h.same rfl)) ?_
                  refine dagV_cons (dag_val (v := .bool false) (by kernel_rfl) (by kernel_rfl) (fun g0 w' h => by kernel_rfl) (fun g0 w' h => h.same rfl)) ?_
                  refine dagV_cons (dag_val (v := .bool false) (by kernel_rfl) (by kernel_rfl) (fun g0 w' h => by kernel_rfl) (fun g0 w' h => h.same rfl)) ?_
                  refine dagV_cons (dag_val (v := .int .i64 ca) (by kernel_rfl) (by kernel_rfl) (fun g0 w' h => by kernel_rfl) (fun g0 w' h => h.same rfl)) ?_
                  refine dagV_cons (dag_val (v := .int .i64 ca) (by kernel_rfl) (by kernel_rfl) (fun g0 w' h => by kernel_rfl) (fun g0 w' h => h.same rfl)) ?_
                  refine dagV_cons (dag_bin (b := .neq) (t := 3) (t' := 3) (x := .tmp 236) (y := .tmp 237) (v1 := .int .i64 ca) (v2 := .int .i64 ca) (v := .bool false) (by kernel_rfl) (by kernel_rfl) (by kernel_rfl) (by kernel_rfl) (by kernel_rfl) rfl (fun w' => run_neqI _ w') (fun g0 w' h => h.same rfl)) ?_
                  refine dagV_cons (dag_val (v := .bool false) (by kernel_rfl) (by kernel_rfl) (fun g0 w' h => by kernel_rfl) (fun g0 w' h => h.same rfl)) ?_
                  refine dagV_cons (dag_val (v := .bool false) (by kernel_rfl) (by kernel_rfl) (fun g0 w' h => by kernel_rfl) (fun g0 w' h => h.same rfl)) ?_
                  refine dagV_cons (dag_val (v := .int .i64 oa) (by kernel_rfl) (by kernel_rfl) (fun g0 w' h => by kernel_rfl) (fun g0 w' h => h.same rfl)) ?_
                  refine dagV_cons (dag_val (v := .int .i64 oa) (by kernel_rfl) (by kernel_rfl) (fun g0 w' h => by kernel_rfl) (fun g0 w' h => h.same rfl)) ?_
                  refine dagV_cons (dag_bin (b := .neq) (t := 3) (t' := 3) (x := .tmp 241) (y := .tmp 242) (v1 := .int .i64 oa) (v2 := .int .i64 oa) (v := .bool false) (by kernel_rfl) (by kernel_rfl) (by kernel_rfl) (by kernel_rfl) (by kernel_rfl) rfl (fun w' => run_neqI _ w') (fun g0 w' h => h.same rfl)) ?_
                  refine dagV_cons (dag_val (v := .bool false) (by kernel_rfl) (by kernel_rfl) (fun g0 w' h => by kernel_rfl) (fun g0 w' h => h.same rfl)) ?_
                  exact dagV_nil
                case refine_3 =>
                  intro x w9' hJ
                  have HD9 := Lib.hid (HD6.out.below (of_drewS hJ.1))
                  clear hJ
                  simp only [putAll, List.foldl_cons, List.foldl_nil]
                  go_frame
                  go_wp2
                  go_roundg (n1 - (j + 1))
                  case measure => first | (rw [hq]; exact Nat.sub_lt_sub_left HLj.out (Nat.lt_succ_self _)) | exact Nat.sub_lt_sub_left HLj.out (Nat.lt_succ_self _)
                  case rel => exact ⟨j + 1, rfl, HLj.out, by go_num, Lib.hid ⟨F2, k2, l2, xs2, A2, cap2, Z2, HD9.out, HN2.out⟩⟩
            · obtain rfl : j = n1 := by omega
              have HD := Lib.hid hD
              clear hD hst
              go_wp2_with fail
              refine (spans_calls _ H L k (spsZ Z) l F HD.out.st.1).mono ?_
              rintro e w5 ⟨v5, rfl, hV5, hB5⟩
              obtain ⟨A5, c5, rfl, hSp5⟩ := hV5.read
              obtain ⟨Q5, hQ5, hR5⟩ := spans_raw hSp5 HD.out.st.1.inv
              have HQ5 := Lib.hid hQ5
              have HR5 := Lib.hid hR5
              have HB5 := Lib.hid (bel_next HD.out.st.2.2.2.2.2 hB5 (Nat.le_refl _))
              have hln := HD.out.st.1.inv.len
              clear hV5 hSp5 hQ5 hR5 hB5
              go_wp2_with fail
              refine (rright17_calls w5 A5 (spsZ Z).length c5 Q5 HQ5.out (by omega)).mono ?_
              rintro e w6 ⟨bb, rfl, hbb, hB6⟩
              obtain rfl : bb = true := hbb.2 HR5.out
              have HB6 := Lib.hid (bel_next HB5.out hB6 (Nat.le_refl _))
              clear hbb hB6
              go_wp2
              go_ret
              exact ⟨rfl, HB6.out⟩
        · refine (anew_no _ A0 i c0 Q HRaw1.out (by omega) hrt).mono ?_
          rintro e w2 ⟨rfl, hB⟩
          have HB2 := Lib.hid (bel_next HB1.out hB (Nat.le_refl _))
          have HRaw2 := Lib.hid (HRaw1.out.below hB)
          have HNo := Lib.hid (show RightTo Q i → False from hrt)
          clear hB hrt
          go_wp2_with fail
          refine (rright17_calls w2 A0 i c0 Q HRaw2.out (by omega)).mono ?_
          rintro e w3 ⟨bb, rfl, hbb, hB⟩
          obtain rfl : bb = false := by
            cases bb
            · rfl
            · exact (HNo.out (hbb.1 rfl)).elim
          have HB3 := Lib.hid (bel_next HB2.out hB (Nat.le_refl _))
          have HRaw3 := Lib.hid (HRaw2.out.below hB)
          clear hbb hB
          go_wp2_with fail
          refine (aright_any w3 A0 i c0 Q HRaw3.out (by omega)).mono ?_
          rintro e w4 ⟨bb, rfl, hbb, hB⟩
          obtain rfl : bb = false := by
            cases bb
            · rfl
            · exact (HNo.out (hbb.1 rfl)).elim
          have HB4 := Lib.hid (bel_next HB3.out hB (Nat.le_refl _))
          clear hbb hB
          go_wp2
          go_ret
          exact ⟨by first | rfl | simp, HB4.out⟩
  · by_cases e0 : 10 < n0
    · have d0 : decide (10 < n0) = true := decide_eq_true e0
      go_wp2_with fail
      refine (awake17_calls _).mono ?_
      rintro e w2 ⟨rfl, hB⟩
      have HB2 := Lib.hid (bel_next HB1.out hB (Nat.le_refl _))
      clear hB
      go_wp2
      go_ret
      exact ⟨rfl, HB2.out⟩
    · have d0 : decide (10 < n0) = false := decide_eq_false e0
      have d1 : decide (25 < n1) = true := decide_eq_true (by omega)
      go_wp2_with fail
      refine (awake17_calls _).mono ?_
      rintro e w2 ⟨rfl, hB⟩
      have HB2 := Lib.hid (bel_next HB1.out hB (Nat.le_refl _))
      clear hB
      go_wp2
      go_ret
      exact ⟨rfl, HB2.out⟩
end Go.Proofs.YtadbbknllakpcaaGreat
