/- The walk of SpanOctets. -/
import Derived.Test.YtakcdkcikopoiaaSpOX
import Derived.Test.YtakcdkcikopoiaaSpOR
import Derived.Test.YtakcdkcikopoiaaSpOQ
namespace Go.Proofs.Ytakcdkcikopoiaa
open Go.RowKit
set_option linter.unusedVariables false

theorem run_str_arg (w : World) (A : Option Addr) (cap : Nat) (zs : List Int) (hr : RdAt w A zs.length (octV zs)) : (convert 51 9 (.slice A zs.length cap)).run Try.prog w = .ok (.string (strOfNums zs)) w := by
  by_cases h0 : zs.length = 0
  · obtain rfl : zs = [] := List.eq_nil_of_length_eq_zero h0
    rw [run_convert_bytes_string w 51 9 5 A _ cap Try.underlying51 Try.underlying5 Try.underlying9]
    cases A with
    | none => simp [Conv.bytesToString, strOfNums]; rfl
    | some x =>
      have hl : (loadCells x 0).run Try.prog w = .ok #[] w := by simpa using run_loadCells_list (P := Try.prog) w x [] (by simp)
      simp [Conv.bytesToString, strOfNums, hl]
      rfl
  · obtain ⟨b, o, rfl, _, hc⟩ := hr.resolve_left h0
    refine run_convert_bytes_arg w 51 5 Try.underlying51 Try.underlying5 b o zs.length cap zs rfl ?_ 9 Try.underlying9
    intro i hi
    refine hc i _ ?_
    unfold octV
    rw [List.getElem?_map, List.getElem?_eq_getElem hi]
    simp [List.getD, hi]
theorem IsRow.octs {w : World} {a : Option Addr} {len cap : Nat} {zs : List Int} (h : IsRow .u8 w a len cap zs) : ∃ ys : List Int, ys.length = len ∧ RdAt w a ys.length (octV ys) ∧ Bytes ys ∧ len ≤ cap ∧ cap ≤ 9223372036854775807 := by
  have ho := oc.Octs_of_row h
  have hl : (zs.take len).length = len := ho.1
  have hr := RdAt.of_ints h
  refine ⟨zs.take len, hl, by rw [hl]; exact hr, ho.2.1, ho.2.2.1, ?_⟩
  have := ho.2.2.2.1
  unfold maxLen at this; omega
theorem dag_loadS {P : Program} {md : Region.Mode} {ops : Array Oper} {F : Act} {J : (Nat → Bool) → World → Prop} {i : Nat} {o : Oper} {t ty : TypeId} {d : TypeDesc} {x : Operand} {S : Nat} {cs : Array Value}
    (hw : Region.wanted o (yielded ops F.tmps) = true) (hp : F.put o.dst (.agg cs) = F) (ho : o.op = .load t x) (hx : F.eval x = .pointer (some ⟨S, 0, none⟩)) (hu : P.underlying t = some d) (hd : (match d with | .struct _ | .array _ _ => true | _ => false) = true) (hi : (P.info? t).map (·.size) = some cs.size)
    (hc : ∀ (g : Nat → Bool) (w : World), J g w → w.heap[S]? = some (.cells cs ty (0, 0))) (hJ : ∀ (g : Nat → Bool) (w : World), J g w → J (upd g i) w) : DagStep P md ops F J i o := by
  refine dag_val hw hp (fun g w h => ?_) hJ
  unfold execOp
  simp only [ho, hx, Instr.loadAt, Instr.sureAddr, Sem.run_bind, Sem.run_pure, Result.andThen_ok, run_loadVar_row w S ty t cs (0, 0) d (hc g w h) hu hd hi]
theorem dag_conv {P : Program} {md : Region.Mode} {ops : Array Oper} {F : Act} {J : (Nat → Bool) → World → Prop} {i : Nat} {o : Oper} {s d : TypeId} {x : Operand} {v u : Value}
    (hw : Region.wanted o (yielded ops F.tmps) = true) (hp : F.put o.dst u = F) (ho : o.op = .convert s d x) (hx : F.eval x = v) (hr : ∀ (g : Nat → Bool) (w : World), J g w → (convert s d v).run P w = .ok u w) (hJ : ∀ (g : Nat → Bool) (w : World), J g w → J (upd g i) w) : DagStep P md ops F J i o :=
  dag_val hw hp (fun g w h => xo_conv ho hx (hr g w h)) hJ
theorem dag_eqS {P : Program} {md : Region.Mode} {ops : Array Oper} {F : Act} {J : (Nat → Bool) → World → Prop} {i : Nat} {o : Oper} {t t' : TypeId} {x y : Operand} {s : ByteArray}
    (hw : Region.wanted o (yielded ops F.tmps) = true) (hp : F.put o.dst (.bool true) = F) (ho : o.op = .binOp .eql t x y t') (hx : F.eval x = .string s) (hy : F.eval y = .string s) (hJ : ∀ (g : Nat → Bool) (w : World), J g w → J (upd g i) w) : DagStep P md ops F J i o := by
  refine dag_val hw hp (fun g w h => ?_) hJ
  unfold execOp
  simp only [ho, hx, hy, eqGuard_at_string, Sem.run_bind, Sem.run_pure, Result.andThen_ok, binOp_string_eql, beq_self_eq_true]
set_option maxRecDepth 8000 in
set_option maxHeartbeats 16000000 in
theorem spoctets_walk (v : Value) (q : (Int × Int × Int) × (Option Addr × Nat × Nat) × List Int) (a : Option Addr) (len cap : Nat) (zs0 : List Int) (w : World) (hq : SpanIn w v q) (hrow : IsRow .u8 w a len cap zs0) :
    Calls Try.prog 6 #[v, .slice a len cap] w fun e w' => e = .returned (.bool true) ∧ Below w.heap.size w w' := by
  obtain ⟨⟨p0, p1, p2⟩, ⟨A0, len0, cap0⟩, ws⟩ := q
  obtain ⟨rfl, h0, h1, h2, hrw⟩ := hq
  dsimp only at h0 h1 h2 hrw ⊢
  obtain ⟨f0, hr0, ho0⟩ := words_of_row hrw
  have hlen0 := hrw.len_le
  have hW0 : WordsAt w A0 len0 f0 := ⟨hr0, ho0, hlen0⟩
  obtain ⟨zs, hzl, hrz, hzb, hlc, hcm⟩ := hrow.octs
  subst hzl
  obtain ⟨w1, hw1, hS, hB⟩ := one_span w p0 p1 p2 A0 len0 cap0
  obtain ⟨i0, hi, hz0, hz1, hz2⟩ := info_parts Try.info_clone_U8
  have H0 := Lib.hid h0
  have H1 := Lib.hid h1
  have H2 := Lib.hid h2
  have HZ := Lib.hid hzb
  have HB1 := Lib.hid hB
  have HW := Lib.hid hW0
  have HR := Lib.hid hrz
  have HS1 := Lib.hid hS
  have hl1 := hS.lt
  clear hrow hrw hr0 ho0 hW0 hS hB h0 h1 h2 hzb hrz
  unfold spV
  by_cases hl : 300 < zs.length
  · go_enter Try.func6, Try.ntmps6
    go_wp2_with fail
    refine (awake_calls15 _).mono ?_
    rintro e w2 ⟨rfl, hb⟩
    have HB2 := Lib.hid (bel_next HB1.out hb (Nat.le_refl _))
    clear hb hw1
    go_wp2_with fail
    refine (awake_calls15 _).mono ?_
    rintro e w3 ⟨rfl, hb⟩
    have HB3 := Lib.hid (bel_next HB2.out hb (Nat.le_refl _))
    clear hb
    go_wp2
    go_ret
    exact ⟨rfl, HB3.out⟩
  go_enter Try.func6, Try.ntmps6
  go_wp2_with fail
  refine (awake_calls15 _).mono ?_
  rintro e w2 ⟨rfl, hb⟩
  have HB2 := Lib.hid (bel_next HB1.out hb (Nat.le_refl _))
  have HS2 := Lib.hid (HS1.out.below hb)
  clear hb hw1 HS1 HB1
  go_wp2_with fail
  refine (sget_calls _ a cap zs (HR.out.below (HB2.out.mono (Nat.le_refl _))) HZ.out (by omega) hlc hcm).mono ?_
  rintro e w3 ⟨b1, A1, c1, hb1, rfl, hW1, hb⟩
  have HIf1 := Lib.hid hb1
  have HB3 := Lib.hid (bel_next HB2.out hb (Nat.le_refl _))
  have HS3 := Lib.hid (HS2.out.below hb)
  have HW3 := Lib.hid hW1
  clear hb1 hW1 hb HS2 HB2
  have hcv : ∀ W, Below w.heap.size w W → (convert 51 9 (.slice a zs.length cap)).run Try.prog W = .ok (.string (strOfNums zs)) W := fun W hb => run_str_arg W a cap zs (HR.out.below (hb.mono (Nat.le_refl _)))
  have HCv := Lib.hid hcv
  obtain ⟨w3', hw3', hX, hbX⟩ := one_span w3 (xp b1 (pgO zs)) (xp b1 (psO zs)) (xp b1 (clO zs)) A1 (xl b1) c1
  have HX3 := Lib.hid hX
  have HB3' := Lib.hid (bel_next HB3.out hbX (Nat.le_refl _))
  have HS3' := Lib.hid (HS3.out.below hbX)
  have HW3' := Lib.hid (HW3.out.below hbX)
  have hcv3 := HCv.out w3' HB3'.out
  clear hX hbX hcv
  go_wp2_with (first | (rw [hw3']; clear hw3'; simp only [hcv3]) | (simp only [hcv3]))
  refine (rget15_calls _ zs HZ.out (by omega)).mono ?_
  rintro e w4 ⟨b2, A2, c2, hb2, rfl, hW2, hb⟩
  obtain rfl : b2 = b1 := by
    have h1 := HIf1.out
    cases b1 <;> cases b2
    · rfl
    · exact (h1.2 (hb2.1 rfl)).symm
    · exact hb2.2 (h1.1 rfl)
    · rfl
  have HB4 := Lib.hid (bel_next HB3'.out hb (Nat.le_refl _))
  have HS4 := Lib.hid (HS3'.out.below hb)
  have HX4 := Lib.hid (HX3.out.below hb)
  have HW4 := Lib.hid (HW3'.out.below hb)
  have HY4 := Lib.hid hW2
  clear hb2 hW2 hb hcv3 HS3 HB3 HW3 HX3 HS3' HB3' HW3'
  obtain ⟨w5, hw5, hY, hbY⟩ := one_span w4 (xp b2 (pgO zs)) (xp b2 (psO zs)) (xp b2 (clO zs)) A2 (xl b2) c2
  have HYs := Lib.hid hY
  have HB5 := Lib.hid (bel_next HB4.out hbY (Nat.le_refl _))
  have HS5 := Lib.hid (HS4.out.below hbY)
  have HX5 := Lib.hid (HX4.out.below hbY)
  have HW5 := Lib.hid (HW4.out.below hbY)
  have HY5 := Lib.hid (HY4.out.below hbY)
  obtain ⟨u0, u1, u2, u3⟩ := hY.cells
  obtain ⟨t0, t1, t2, t3⟩ := HX5.out.cells
  clear hY hbY HS4 HB4 HX4 HW4 HY4
  go_wp2_with fail
  clear hw5
  refine (same15_calls (xp b2 (pgO zs)) (xp b2 (psO zs)) (xp b2 (clO zs)) A1 A2 (xl b2) c1 c2 _ _ HW5.out HY5.out).mono ?_
  rintro e w6 ⟨rfl, hb⟩
  have HB6 := Lib.hid (bel_next HB5.out hb (Nat.le_refl _))
  have HS6 := Lib.hid (HS5.out.below hb)
  obtain ⟨s0, s1, s2, s3⟩ := HS6.out.cells
  clear hb u0 u1 u2 u3 t0 t1 t2 t3 HS5 HB5 HX5 HW5 HY5 HYs
  go_wp2_with fail
  refine (right15_calls p0 p1 p2 A0 len0 cap0 f0 _ H0.out H1.out H2.out (HW.out.below (HB6.out.mono (Nat.le_refl _)))).mono ?_
  rintro e w7 ⟨bb, rfl, hbb, hb⟩
  have HBb := Lib.hid hbb
  have HB7 := Lib.hid (bel_next HB6.out hb (Nat.le_refl _))
  have HS7 := Lib.hid (HS6.out.below hb)
  obtain ⟨s0', s1', s2', s3'⟩ := HS7.out.cells
  clear hb hbb s0 s1 s2 s3 HS6 HB6
  cases bb
  · go_wp2
    go_ret
    exact ⟨rfl, HB7.out⟩
  obtain ⟨hgd, hcn⟩ := HBb.out.1 rfl
  obtain rfl := good_one hgd
  have HGd := Lib.hid hgd
  have HCn := Lib.hid hcn
  clear hgd hcn
  go_wp2_with fail
  refine (sput_calls p0 p1 p2 A0 cap0 f0 _ H0.out H1.out H2.out (HW.out.below (HB7.out.mono (Nat.le_refl _)))).mono ?_
  rintro e w8 ⟨vp, rfl, hown, hb⟩
  have HB8 := Lib.hid (bel_next HB7.out hb (Nat.le_refl _))
  have HS8 := Lib.hid (HS7.out.below hb)
  obtain ⟨Ap, cp, rfl⟩ := ownsRow_slice hown
  rw [putO_len] at hown ⊢
  have HO8 := Lib.hid (ownsRow_base (base' := 0) hown (Nat.zero_le _))
  have hs8 : w.heap.size ≤ w8.heap.size := HB8.out.size
  clear hb hown s0' s1' s2' s3' HS7 HB7
  have HOl : Hid ((w8.alloc (.cells #[] 5)).ownsRow w8.heap.size 5 1 (.slice (some ⟨w8.heap.size, 0, none⟩) 0 0) 0 []) := Lib.hid (World.ownsRow_made w8 #[] 0 (Nat.le_refl _) (by simp) (by simp))
  have hRP : RdAt (w8.alloc (.cells #[] 5)) Ap 13 (octV (putO p0 p1 p2 f0)) := (RdAt.of_own HO8.out).alloc _
  have HRP := Lib.hid hRP
  have hB8a : Below w8.heap.size w8 (w8.alloc (.cells #[] 5)) := (Below.refl _ _).alloc (Nat.le_refl _) _
  have HB8a := Lib.hid hB8a
  have hpl : (octV (putO p0 p1 p2 f0)).length = 13 * 1 := by simp [octV, putO_len]
  have hzl2 : (octV zs).length = zs.length * 1 := by simp [octV]
  have HPl := Lib.hid hpl
  have HZl := Lib.hid hzl2
  clear hRP hB8a hpl hzl2
  go_wp2_with (first | (at_builtin; refine wpList_append_rd rfl (.tmp 46) (.tmp 47) 51 rfl w8.heap.size 5 i0 _ 1 1 Try.underlying51 hi hz0 hz1 hz2 rfl (by decide) (.slice (some ⟨w8.heap.size, 0, none⟩) 0 0) 0 [] rfl HOl.out Ap 13 cp rfl (octV (putO p0 p1 p2 f0)) HPl.out HRP.out (octV_one _) (by omega) (by unfold maxLen; omega) (by simp) ?_; intro v9 w9 hown9 hgr9 hnew9 hnil9; have HB9 := Lib.hid (show Below w8.heap.size w8 w9 from HB8a.out.grown hgr9 HB8a.out.size (fun k hk => by simp [Value.ownBlock] at hk; omega)); have HO9 := Lib.hid (show w9.ownsRow w8.heap.size 5 1 v9 13 (octV (putO p0 p1 p2 f0)) by simpa using hown9); clear hown9 hgr9 hnew9 hnil9) | (at_builtin; refine wpList_append_rd rfl (.tmp 48) (.tmp 49) 51 rfl w8.heap.size 5 i0 _ 1 1 Try.underlying51 hi hz0 hz1 hz2 rfl (by decide) v9 13 (octV (putO p0 p1 p2 f0)) rfl HO9.out a zs.length cap rfl (octV zs) HZl.out (HR.out.below ((bel_next HB8.out HB9.out (Nat.le_refl _)).mono (Nat.le_refl _))) (octV_one _) (by omega) (by unfold maxLen; omega) HB9.out.size ?_; intro v10 w10 hown10 hgr10 hnew10 hnil10; have HB10 := Lib.hid (show Below w8.heap.size w8 w10 from HB9.out.grown hgr10 HB9.out.size (fun k hk => (HO9.out.lt k hk).1)); have HO10 := Lib.hid (show w10.ownsRow w8.heap.size 5 1 v10 (13 + zs.length) (octV ((putO p0 p1 p2 f0) ++ zs)) by rw [octV_append]; exact hown10); clear hown10 hgr10 hnew10 hnil10))
  obtain ⟨A10, c10, hv10⟩ := ownsRow_slice HO10.out
  subst hv10
  have hform : 13 + zs.length ≤ c10 ∧ c10 ≤ 9223372036854775807 := by
    rcases ownsRow_form HO10.out with ⟨h9, h10⟩ | ⟨g, cc, h9, _, _, h10, h11⟩
    · omega
    · simp only [Value.slice.injEq] at h9
      obtain ⟨_, _, rfl⟩ := h9
      unfold maxLen at h11
      exact ⟨h10, h11⟩
  have hylen : ((putO p0 p1 p2 f0) ++ zs).length = 13 + zs.length := by rw [List.length_append, putO_len]
  have hrd : RdAt w10 A10 ((putO p0 p1 p2 f0) ++ zs).length (octV ((putO p0 p1 p2 f0) ++ zs)) := by rw [hylen]; exact RdAt.of_own HO10.out
  have hok := ok_back zs HGd.out HCn.out HW.out.2.1
  have hcall := sget_calls w10 A10 c10 ((putO p0 p1 p2 f0) ++ zs) hrd ((putO_bytes _ _ _ _).app HZ.out) (by rw [hylen]; omega) (by rw [hylen]; exact hform.1) hform.2
  rw [hylen] at hcall
  have HOk := Lib.hid hok
  have hrng : (0 ≤ p0 ∧ p0 ≤ 65535) ∧ (0 ≤ p1 ∧ p1 ≤ 65535) := by have := HGd.out.p1; have := HGd.out.p2; have := HGd.out.p3; omega
  have HE := Lib.hid (show pgO ((putO p0 p1 p2 f0) ++ zs) = p0 ∧ psO ((putO p0 p1 p2 f0) ++ zs) = p1 ∧ clO ((putO p0 p1 p2 f0) ++ zs) = p2 ∧ fO ((putO p0 p1 p2 f0) ++ zs) = f0 from ⟨pg_back zs hrng.1, ps_back zs hrng.2, cl_back zs HGd.out.cls, f_back zs HW.out.2.1⟩)
  clear hform hylen hrd hok hrng
  refine hcall.mono ?_
  rintro e w11 ⟨b3, A11, c11, hb3, rfl, hW11, hb⟩
  obtain rfl : b3 = true := hb3.2 HOk.out
  obtain ⟨e1, e2, e3, e4⟩ := HE.out
  have hW11' : WordsAt w11 A11 1 f0 := by
    have e5 : xf true (fO ((putO p0 p1 p2 f0) ++ zs)) = f0 := by rw [e4]; funext i; rfl
    rw [e5] at hW11
    exact hW11
  rw [show xp true (pgO ((putO p0 p1 p2 f0) ++ zs)) = p0 from e1, show xp true (psO ((putO p0 p1 p2 f0) ++ zs)) = p1 from e2, show xp true (clO ((putO p0 p1 p2 f0) ++ zs)) = p2 from e3, show xp true 13 = 13 from rfl, show xl true = 1 from rfl]
  have HB11w := Lib.hid (show Below w8.heap.size w8 w11 from bel_next HB10.out hb (Nat.le_refl _))
  clear hcall hb3 hW11 hb e1 e2 e3 e4
  obtain ⟨w12, hw12, hZ, hbZ⟩ := one_span w11 p0 p1 p2 A11 1 c11
  have HZs := Lib.hid hZ
  have HB12w := Lib.hid (show Below w8.heap.size w8 w12 from bel_next HB11w.out hbZ (Nat.le_refl _))
  have HB12 := Lib.hid (show Below w.heap.size w w12 from bel_next HB8.out HB12w.out (Nat.le_refl _))
  have HW12 := Lib.hid (hW11'.below hbZ)
  have HS12 := Lib.hid (HS8.out.below HB12w.out)
  have HO12 := Lib.hid (ownsRow_below HO8.out HB12w.out)
  have HV12 := Lib.hid (HW.out.below (HB12.out.mono (Nat.le_refl _)))
  clear hZ hbZ hW11'
  go_wp2_with fail
  try rw [hw12]
  clear hw12
  refine wp_dag [(54, .slice Ap 13 cp), (55, .string (strOfNums (putO p0 p1 p2 f0))), (56, .agg #[.int .i64 p0, .int .i64 p1, .int .i64 p2, .slice A0 1 cap0]), (57, .string (strOfNums (putO p0 p1 p2 f0))), (58, .bool true), (59, .bool true), (60, .agg #[.int .i64 p0, .int .i64 p1, .int .i64 p2, .slice A11 1 c11]), (61, .agg #[.int .i64 p0, .int .i64 p1, .int .i64 p2, .slice A0 1 cap0]), (62, .bool true), (63, .bool true), (64, .bool true), (65, .int .i64 13), (66, .slice Ap 13 cp), (67, .int .i64 13), (68, .bool true), (69, .bool true), (4, .bool true)] (fun g0 w' => Below w12.heap.size w12 w') (by kernel_rfl) (by kernel_rfl) (by kernel_rfl) (by kernel_rfl) ((Below.refl _ _).drew) ?_ ?_
  case refine_1 =>
    refine dag_cons (dag_val (v := .slice Ap 13 cp) (by kernel_rfl) (by kernel_rfl) (fun g0 w' h => by kernel_rfl) (fun g0 w' h => h)) ?_
    refine dag_cons (dag_conv (s := 51) (d := 9) (x := .tmp 54) (v := .slice Ap 13 cp) (u := .string (strOfNums (putO p0 p1 p2 f0))) (by kernel_rfl) (by kernel_rfl) (by kernel_rfl) (by kernel_rfl) (fun g0 w' h => run_string_own (n := 13) (ownsRow_below HO12.out h) 51 9 Try.underlying51 Try.underlying5 Try.underlying9) (fun g0 w' h => h)) ?_
    refine dag_cons (dag_loadS (t := 24) (ty := 24) (x := .tmp 2) (S := w.heap.size) (cs := #[.int .i64 p0, .int .i64 p1, .int .i64 p2, .slice A0 1 cap0]) (by kernel_rfl) (by kernel_rfl) (by kernel_rfl) (by kernel_rfl) Try.underlying24 rfl (by kernel_rfl) (fun g0 w' h => (HS12.out.below h)) (fun g0 w' h => h)) ?_
    refine dag_cons (dag_call (f := 25) (args := #[.agg #[.int .i64 p0, .int .i64 p1, .int .i64 p2, .slice A0 1 cap0]]) (v := .string (strOfNums (putO p0 p1 p2 f0))) (by kernel_rfl) (by kernel_rfl) (fun w' => by kernel_rfl) (fun g0 w' hg h => ?_)) ?_
    case refine_1 =>
      refine (rput15_calls p0 p1 p2 A0 cap0 f0 w' H0.out H1.out H2.out (HV12.out.below h)).mono ?_
      rintro e w2 ⟨rfl, hb⟩
      exact ⟨rfl, bel_next h hb (Nat.le_refl _)⟩
    refine dag_cons (dag_eqS (t := 9) (t' := 9) (x := .tmp 55) (y := .tmp 57) (s := (strOfNums (putO p0 p1 p2 f0))) (by kernel_rfl) (by kernel_rfl) (by kernel_rfl) (by kernel_rfl) (by kernel_rfl) (fun g0 w' h => h)) ?_
    refine dag_cons (dag_val (v := .bool true) (by kernel_rfl) (by kernel_rfl) (fun g0 w' h => by kernel_rfl) (fun g0 w' h => h)) ?_
    refine dag_cons (dag_loadS (t := 24) (ty := 24) (x := .tmp 10) (S := w11.heap.size) (cs := #[.int .i64 p0, .int .i64 p1, .int .i64 p2, .slice A11 1 c11]) (by kernel_rfl) (by kernel_rfl) (by kernel_rfl) (by kernel_rfl) Try.underlying24 rfl (by kernel_rfl) (fun g0 w' h => (HZs.out.below h)) (fun g0 w' h => h)) ?_
    refine dag_cons (dag_loadS (t := 24) (ty := 24) (x := .tmp 2) (S := w.heap.size) (cs := #[.int .i64 p0, .int .i64 p1, .int .i64 p2, .slice A0 1 cap0]) (by kernel_rfl) (by kernel_rfl) (by kernel_rfl) (by kernel_rfl) Try.underlying24 rfl (by kernel_rfl) (fun g0 w' h => (HS12.out.below h)) (fun g0 w' h => h)) ?_
    refine dag_cons (dag_call (f := 13) (args := #[.agg #[.int .i64 p0, .int .i64 p1, .int .i64 p2, .slice A11 1 c11], .agg #[.int .i64 p0, .int .i64 p1, .int .i64 p2, .slice A0 1 cap0]]) (v := .bool true) (by kernel_rfl) (by kernel_rfl) (fun w' => by kernel_rfl) (fun g0 w' hg h => ?_)) ?_
    case refine_1 =>
      refine (same15_calls p0 p1 p2 A11 A0 1 c11 cap0 f0 w' (HW12.out.below h) (HV12.out.below h)).mono ?_
      rintro e w2 ⟨rfl, hb⟩
      exact ⟨rfl, bel_next h hb (Nat.le_refl _)⟩
    refine dag_cons (dag_val (v := .bool true) (by kernel_rfl) (by kernel_rfl) (fun g0 w' h => by kernel_rfl) (fun g0 w' h => h)) ?_
    refine dag_cons (dag_val (v := .bool true) (by kernel_rfl) (by kernel_rfl) (fun g0 w' h => by kernel_rfl) (fun g0 w' h => h)) ?_
    refine dag_cons (dag_val (v := .int .i64 13) (by kernel_rfl) (by kernel_rfl) (fun g0 w' h => by kernel_rfl) (fun g0 w' h => h)) ?_
    refine dag_cons (dag_val (v := .slice Ap 13 cp) (by kernel_rfl) (by kernel_rfl) (fun g0 w' h => by kernel_rfl) (fun g0 w' h => h)) ?_
    refine dag_cons (dag_val (v := .int .i64 13) (by kernel_rfl) (by kernel_rfl) (fun g0 w' h => by kernel_rfl) (fun g0 w' h => h)) ?_
    refine dag_cons (dag_eq (t := 3) (t' := 3) (x := .tmp 65) (y := .tmp 67) (k := .i64) (c := 13) (by kernel_rfl) (by kernel_rfl) (by kernel_rfl) (by kernel_rfl) (by kernel_rfl) (fun g0 w' h => h)) ?_
    refine dag_cons (dag_val (v := .bool true) (by kernel_rfl) (by kernel_rfl) (fun g0 w' h => by kernel_rfl) (fun g0 w' h => h)) ?_
    refine dag_cons (dag_val (v := .bool true) (by kernel_rfl) (by kernel_rfl) (fun g0 w' h => by kernel_rfl) (fun g0 w' h => h)) ?_
    exact dag_nil
  case refine_2 =>
    intro w13 h
    have HB13 := Lib.hid (bel_next HB12.out h (Nat.le_refl _))
    clear h
    simp only [putAll, List.foldl_cons, List.foldl_nil]
    go_wp2
    go_ret
    exact ⟨by kernel_rfl, HB13.out⟩
end Go.Proofs.Ytakcdkcikopoiaa
