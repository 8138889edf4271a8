/- The walk of NamesOctets. -/
import Derived.Test.YtanfjiccilibcaaNmIn
import Derived.Test.YtanfjiccilibcaaNmY
import Derived.Test.YtanfjiccilibcaaNmC
import Derived.Test.YtanfjiccilibcaaNmD
import Derived.Test.YtanfjiccilibcaaNmTurns1
namespace Go.Proofs.Ytanfjiccilibcaa
open Go.RowKit
set_option linter.unusedVariables false

theorem run_str_rd (w : World) (A : Option Addr) (cap : Nat) (zs : List Int) (hr : RdAt w A zs.length (octV zs)) : (convert 27 9 (.slice A zs.length cap)).run Try.prog w = .ok (.string (strOfNums zs)) w := by
  by_cases h0 : zs.length = 0
  · obtain rfl : zs = [] := List.eq_nil_of_length_eq_zero h0
    rw [run_convert_bytes_string w 27 9 5 A _ cap Try.underlying27 Try.underlying5 Try.underlying9]
    cases A with
    | none => simp [Conv.bytesToString, strOfNums]; rfl
    | some x =>
      have hl : (loadCells x 0).run Try.prog w = .ok #[] w := by simpa using run_loadCells_list (P := Try.prog) w x [] (by simp)
      simp [Conv.bytesToString, strOfNums, hl]
      rfl
  · obtain ⟨b, o, rfl, _, hc⟩ := hr.resolve_left h0
    refine run_convert_bytes_arg w 27 5 Try.underlying27 Try.underlying5 b o zs.length cap zs rfl ?_ 9 Try.underlying9
    intro i hi
    refine hc i _ ?_
    unfold octV
    rw [List.getElem?_map, List.getElem?_eq_getElem hi]
    simp [List.getD, hi]
theorem IsRow.octs {w : World} {a : Option Addr} {len cap : Nat} {zs : List Int} (h : IsRow .u8 w a len cap zs) : ∃ ys : List Int, ys.length = len ∧ RdAt w a ys.length (octV ys) ∧ (∀ b ∈ ys, 0 ≤ b ∧ b ≤ 255) := by
  have ho := oc.Octs_of_row h
  have hl : (zs.take len).length = len := ho.1
  have hr := RdAt.of_ints h
  exact ⟨zs.take len, hl, by rw [hl]; exact hr, ho.2.1⟩
set_option maxRecDepth 8000 in
set_option maxHeartbeats 16000000 in
theorem noctets_walk (v0 : Value) (q0 : (Option Addr × Nat × Nat) × List Ent) (v1 : Value) (q1 : Option Addr × Nat × Nat) (a : Option Addr) (len cap : Nat) (zs0 : List Int) (w : World) (hN : NamedAt w v0 q0) (hS : StrsAt w v1 q1) (hrow : IsRow .u8 w a len cap zs0) :
    Calls Try.prog 6 #[v0, v1, .slice a len cap] w fun e w' => e = .returned (.bool true) ∧ Below w.heap.size w w' := by
  obtain ⟨⟨a0, len0, cap0⟩, l⟩ := q0
  obtain ⟨rfl, hln, hIr, hHs, hSz, hlm⟩ := hN
  obtain ⟨a1, len1, cap1⟩ := q1
  obtain ⟨rfl, hlen1, hs1⟩ := hS
  have hlen1 : len1 ≤ 9223372036854775807 := hlen1
  obtain ⟨ys, hyl, hyr, hyb⟩ := hrow.octs
  obtain ⟨i0, hi, hz0, hz1, hz2⟩ := info_parts Try.info_clone_U8
  dsimp only at hln hIr hHs hSz hlm ⊢
  subst hyl
  have HI := Lib.hid hIr
  have HHs := Lib.hid hHs
  have HSz := Lib.hid hSz
  have HSt := Lib.hid hs1
  have HY := Lib.hid hyr
  have HYb := Lib.hid hyb
  have HLn := Lib.hid hln
  clear hIr hHs hSz hs1 hyr hyb hrow hln
  by_cases hbig : 20 < len0 ∨ 500 < ys.length
  · have d1 : 20 < len0 ∨ (len0 ≤ 20 ∧ 500 < ys.length) := by omega
    clear hbig
    rcases d1 with d1 | ⟨d1, d2⟩
    all_goals
      go_enter Try.func6, Try.ntmps6
      go_wp2_with fail
      refine (awake_calls13 _).mono ?_
      rintro e w1 ⟨rfl, hb1⟩
      have HB1 := Lib.hid hb1
      clear hb1
      go_wp2_with fail
      refine (awake_calls13 _).mono ?_
      rintro e w2 ⟨rfl, hb2⟩
      have HB2 := Lib.hid (bel_next HB1.out hb2 (Nat.le_refl _))
      clear hb2
      go_wp2
      go_ret
      exact ⟨rfl, HB2.out⟩
  have hl20 : len0 ≤ 20 := by omega
  have hy500 : ys.length ≤ 500 := by omega
  clear hbig
  go_enter Try.func6, Try.ntmps6
  go_wp2_with fail
  refine (awake_calls13 _).mono ?_
  rintro e w1 ⟨rfl, hb1⟩
  have HB1 := Lib.hid hb1
  have hS1 : StrsAt w1 (.slice a1 len1 cap1) (a1, len1, cap1) := ⟨rfl, hlen1, HSt.out.imp id (fun ⟨b, o, h1, h2, h3⟩ => ⟨b, o, h1, by have := hb1.size; omega, fun i hi => by obtain ⟨s, hs⟩ := h3 i hi; exact ⟨s, (hb1.cell (p := ⟨b, o + i, none⟩) h2).trans hs⟩⟩)⟩
  have HS1 := Lib.hid hS1
  clear hb1 hS1
  go_wp2_with fail
  refine (made_calls _ a1 len1 cap1 HS1.out).mono ?_
  rintro e w2 ⟨v, d, rfl, hd, hd30, hown, hb2⟩
  have HD := Lib.hid hd
  have HB2 := Lib.hid (bel_next HB1.out hb2 (Nat.le_refl _))
  obtain ⟨A2, c2, rfl, hr⟩ := own_read hown
  have HDr2 := Lib.hid hr
  clear hd hb2 hown hr HB1 HS1
  go_wp2_with fail
  refine (nput_calls _ A2 c2 d HDr2.out HD.out hd30).mono ?_
  rintro e w3 ⟨vp, rfl, hown, hb3⟩
  obtain ⟨n, hn⟩ : ∃ n, (putN d).length = n := ⟨_, rfl⟩
  have hpn := putN_len HD.out hd30
  rw [hn] at hown hpn
  have HNn := Lib.hid hn
  obtain ⟨Ap, cp, rfl⟩ := ownsRow_slice hown
  have HPo3 := Lib.hid (ownsRow_base (base' := 0) hown (Nat.zero_le _))
  have HB3 := Lib.hid (bel_next HB2.out hb3 (Nat.le_refl _))
  have HDr3 := Lib.hid (HDr2.out.below hb3)
  have hs3 : w.heap.size ≤ w3.heap.size := HB3.out.size
  clear hb3 hown HB2 HDr2 hn
  have HOl : Hid ((w3.alloc (.cells #[] 5)).ownsRow w3.heap.size 5 1 (.slice (some ⟨w3.heap.size, 0, none⟩) 0 0) 0 []) := Lib.hid (World.ownsRow_made w3 #[] 0 (Nat.le_refl _) (by simp) (by simp))
  have hRP : RdAt (w3.alloc (.cells #[] 5)) Ap n (octV (putN d)) := (RdAt.of_own HPo3.out).alloc _
  have HRP := Lib.hid hRP
  have hB3a : Below w3.heap.size w3 (w3.alloc (.cells #[] 5)) := (Below.refl _ _).alloc (Nat.le_refl _) _
  have HB3a := Lib.hid hB3a
  have hpl : (octV (putN d)).length = n * 1 := by simp [octV, HNn.out]
  have hyl2 : (octV ys).length = ys.length * 1 := by simp [octV]
  have HPl := Lib.hid hpl
  have HYl := Lib.hid hyl2
  clear hRP hB3a hpl hyl2
  go_wp2_with (first | (at_builtin; refine wpList_append_rd rfl (.tmp 33) (.tmp 34) 27 rfl w3.heap.size 5 i0 _ 1 1 Try.underlying27 hi hz0 hz1 hz2 rfl (by decide) (.slice (some ⟨w3.heap.size, 0, none⟩) 0 0) 0 [] rfl HOl.out Ap n cp rfl (octV (putN d)) HPl.out HRP.out (octV_one _) (by omega) (by unfold maxLen; omega) (by simp) ?_; intro v4 w4 hown4 hgr4 hnew4 hnil4; have HB4 := Lib.hid (show Below w3.heap.size w3 w4 from HB3a.out.grown hgr4 HB3a.out.size (fun k hk => by simp [Value.ownBlock] at hk; omega)); have HO4 := Lib.hid (show w4.ownsRow w3.heap.size 5 1 v4 n (octV (putN d)) by simpa using hown4); clear hown4 hgr4 hnew4 hnil4) | (at_builtin; refine wpList_append_rd rfl (.tmp 35) (.tmp 36) 27 rfl w3.heap.size 5 i0 _ 1 1 Try.underlying27 hi hz0 hz1 hz2 rfl (by decide) v4 n (octV (putN d)) rfl HO4.out a ys.length cap rfl (octV ys) HYl.out (HY.out.below ((bel_next HB3.out HB4.out (Nat.le_refl _)).mono (Nat.le_refl _))) (octV_one _) (by omega) (by unfold maxLen; omega) HB4.out.size ?_; intro v5 w5 hown5 hgr5 hnew5 hnil5; have HB5 := Lib.hid (show Below w3.heap.size w3 w5 from HB4.out.grown hgr5 HB4.out.size (fun k hk => (HO4.out.lt k hk).1)); have HO5 := Lib.hid (show w5.ownsRow w3.heap.size 5 1 v5 (n + ys.length) (octV (putN d ++ ys)) by rw [octV_append]; exact hown5); clear hown5 hgr5 hnew5 hnil5))
  obtain ⟨A5, c5, hv5⟩ := ownsRow_slice HO5.out
  subst hv5
  have hylen : (putN d ++ ys).length = n + ys.length := by rw [List.length_append, HNn.out]
  have hrd : RdAt w5 A5 (putN d ++ ys).length (octV (putN d ++ ys)) := by rw [hylen]; exact RdAt.of_own HO5.out
  have hcall := nget_calls w5 A5 c5 (putN d ++ ys) hrd (fun b hb => by
    rcases List.mem_append.1 hb with hb | hb
    · exact putN_bd d b hb
    · exact HYb.out b hb) (by rw [hylen]; omega)
  rw [hylen, getN_put HD.out hd30 ys, HNn.out] at hcall
  clear hylen hrd
  refine hcall.mono ?_
  rintro e w8 ⟨v8, rfl, hown8, hb8⟩
  obtain ⟨A8, c8, rfl, hr8⟩ := own_read hown8
  have HX8 := Lib.hid hr8
  have HB38 := Lib.hid (show Below w3.heap.size w3 w8 from bel_next HB5.out hb8 (Nat.le_refl _))
  have HB8 := Lib.hid (bel_next HB3.out HB38.out (Nat.le_refl _))
  have HDr8 := Lib.hid (HDr3.out.below HB38.out)
  have HPo8 := Lib.hid (ownsRow_below HPo3.out HB38.out)
  clear hcall hown8 hr8 hb8 HB38 HB5 HB4 HO4 HO5 HB3a HOl HRP HDr3 HPo3
  go_wp2_with fail
  refine (nget_calls w8 a cap ys (HY.out.below (HB8.out.mono (Nat.le_refl _))) HYb.out (by omega)).mono ?_
  rintro e w9 ⟨v9, rfl, hown9, hb9⟩
  obtain ⟨A9, c9, rfl, hr9⟩ := own_read hown9
  have HY9 := Lib.hid hr9
  have HB9 := Lib.hid (bel_next HB8.out hb9 (Nat.le_refl _))
  have HDr9 := Lib.hid (HDr8.out.below hb9)
  have HPo9 := Lib.hid (ownsRow_below HPo8.out hb9)
  have HX9 := Lib.hid (HX8.out.below hb9)
  have hgl := getN_len HYb.out
  have hcv9 := fun cw h => run_str_rd cw a cap ys h
  have HRy := Lib.hid (HY.out.below (HB9.out.mono (Nat.le_refl _)))
  have hcv := hcv9 _ HRy.out
  clear hown9 hr9 hb9 HDr8 HPo8 HX8 hcv9
  go_wp2_with fail
  have hbo : bo (strOfNums ys) = ys := bo_strOf ys HYb.out
  have hrg := rget13_calls w9 (strOfNums ys) (by rw [strOf_size]; omega)
  rw [hbo] at hrg
  refine hrg.mono ?_
  rintro e w10 ⟨v10, rfl, hown10, hb10⟩
  obtain ⟨A10, c10, rfl, hr10⟩ := own_read hown10
  have HZ10 := Lib.hid hr10
  have HB10 := Lib.hid (bel_next HB9.out hb10 (Nat.le_refl _))
  have HDr := Lib.hid (HDr9.out.below hb10)
  have HPo := Lib.hid (ownsRow_below HPo9.out hb10)
  have HXr := Lib.hid (HX9.out.below hb10)
  have HYr := Lib.hid (HY9.out.below hb10)
  clear hown10 hr10 hb10 HDr9 HPo9 HX9 HY9 hrg hbo hcv
  have HSame : Hid (∀ W, Below w10.heap.size w10 W → Calls Try.prog 16 #[.slice A9 (getN ys).1.length c9, .slice A10 (getN ys).1.length c10] W fun e w' => e = .returned (.bool true) ∧ Below W.heap.size W w') := Lib.hid (fun W hb => same13_calls W A9 A10 c9 c10 (getN ys).1 (HYr.out.below hb) (HZ10.out.below hb) (by omega))
  have hIb : ∀ W, Below w10.heap.size w10 W → RdAt W a0 l.length (namesV l) := fun W hb => HI.out.below ((bel_next HB10.out hb (Nat.le_refl _)).mono (Nat.le_refl _))
  have hl90 : l.length ≤ 90000 := by rw [HLn.out]; omega
  have HRi : Hid (∀ W, Below w10.heap.size w10 W → Calls Try.prog 10 #[.slice a0 len0 cap0] W fun e w' => ∃ b, e = .returned (.bool b) ∧ (b = true ↔ RightP l) ∧ Below W.heap.size W w') := Lib.hid (fun W hb => by
    have h := right_calls W a0 cap0 l (hIb W hb) HHs.out hl90
    rw [HLn.out] at h
    exact h)
  have HRr : Hid (∀ W, Below w10.heap.size w10 W → Calls Try.prog 22 #[.slice a0 len0 cap0] W fun e w' => ∃ b, e = .returned (.bool b) ∧ (b = true ↔ RightP l) ∧ Below W.heap.size W w') := Lib.hid (fun W hb => by
    have h := rright13_calls W a0 cap0 l (hIb W hb) HHs.out hl90 HSz.out
    rw [HLn.out] at h
    exact h)
  obtain ⟨B, hB⟩ : ∃ B : Bool, (B = true ↔ RightP l) := by
    by_cases h : RightP l
    · exact ⟨true, fun _ => h, fun _ => rfl⟩
    · exact ⟨false, (fun h => by cases h), fun h2 => absurd h2 h⟩
  have hBu : ∀ b : Bool, (b = true ↔ RightP l) → b = B := by
    intro b hb
    have h := hb.trans hB.symm
    cases b <;> cases B <;> simp_all
  clear hIb hB
  generalize (getN ys).1.length = N at *
  generalize (getN ys).2 = k at *
  go_wp2_with fail
  refine wp_dag [(52, .slice a0 len0 cap0), (53, .bool B), (54, .slice a0 len0 cap0), (55, .bool B), (56, .bool true), (57, .bool true), (58, .slice Ap n cp), (59, .string (strOfNums (putN d))), (60, .slice A2 d.length c2), (61, .string (strOfNums (putN d))), (62, .bool true), (63, .bool true), (64, .bool true), (65, .slice A8 d.length c8), (66, .slice A2 d.length c2), (67, .bool true), (68, .bool true), (69, .bool true), (70, .int .i64 (n : Nat)), (71, .slice Ap n cp), (72, .int .i64 (n : Nat)), (73, .bool true), (74, .bool true), (75, .bool true), (76, .slice A9 N c9), (77, .slice A10 N c10), (78, .bool true), (79, .bool true), (80, .bool true), (81, .int .i64 (k : Nat)), (82, .int .i64 (k : Nat)), (83, .bool true), (84, .bool true), (6, .bool true)] (fun g0 w' => Below w10.heap.size w10 w') (by kernel_rfl) (by kernel_rfl) (by kernel_rfl) (by kernel_rfl) ((Below.refl _ _).drew) ?_ ?_
  case refine_1 =>
    refine dag_cons (dag_val (v := .slice a0 len0 cap0) (by kernel_rfl) (by kernel_rfl) (fun g0 w' h => by kernel_rfl) (fun g0 w' h => h)) ?_
    refine dag_cons (dag_call (f := 10) (args := #[.slice a0 len0 cap0]) (v := .bool B) (by kernel_rfl) (by kernel_rfl) (fun w' => by kernel_rfl) (fun g0 w' hg h => ?_)) ?_
    case refine_1 =>
      refine (HRi.out w' h).mono ?_
      rintro e w2 ⟨b, rfl, hb1, hb⟩
      obtain rfl : b = B := hBu b hb1
      exact ⟨rfl, bel_next h hb (Nat.le_refl _)⟩
    refine dag_cons (dag_val (v := .slice a0 len0 cap0) (by kernel_rfl) (by kernel_rfl) (fun g0 w' h => by kernel_rfl) (fun g0 w' h => h)) ?_
    refine dag_cons (dag_call (f := 22) (args := #[.slice a0 len0 cap0]) (v := .bool B) (by kernel_rfl) (by kernel_rfl) (fun w' => by kernel_rfl) (fun g0 w' hg h => ?_)) ?_
    case refine_1 =>
      refine (HRr.out w' h).mono ?_
      rintro e w2 ⟨b, rfl, hb1, hb⟩
      obtain rfl : b = B := hBu b hb1
      exact ⟨rfl, bel_next h hb (Nat.le_refl _)⟩
    refine dag_cons (dag_bin (b := .eql) (t := 4) (t' := 4) (x := .tmp 53) (y := .tmp 55) (v1 := .bool B) (v2 := .bool B) (v := .bool true) (by kernel_rfl) (by kernel_rfl) (by kernel_rfl) (by kernel_rfl) (by kernel_rfl) (eqGuard_at_bool _ _ _ _ _ _) (fun w' => by cases B <;> rfl) (fun g0 w' h => h)) ?_
    refine dag_cons (dag_val (v := .bool true) (by kernel_rfl) (by kernel_rfl) (fun g0 w' h => by kernel_rfl) (fun g0 w' h => h)) ?_
    refine dag_cons (dag_val (v := .slice Ap n cp) (by kernel_rfl) (by kernel_rfl) (fun g0 w' h => by kernel_rfl) (fun g0 w' h => h)) ?_
    refine dag_cons (dag_convJ (s := 27) (d := 9) (x := .tmp 58) (v := .slice Ap n cp) (u := .string (strOfNums (putN d))) (by kernel_rfl) (by kernel_rfl) (by kernel_rfl) (by kernel_rfl) (fun g0 w' _ h => run_string_own (n := n) (ownsRow_below HPo.out h) 27 9 Try.underlying27 Try.underlying5 Try.underlying9) (fun g0 w' h => h)) ?_
    refine dag_cons (dag_val (v := .slice A2 d.length c2) (by kernel_rfl) (by kernel_rfl) (fun g0 w' h => by kernel_rfl) (fun g0 w' h => h)) ?_
    refine dag_cons (dag_call (f := 23) (args := #[.slice A2 d.length c2]) (v := .string (strOfNums (putN d))) (by kernel_rfl) (by kernel_rfl) (fun w' => by kernel_rfl) (fun g0 w' hg h => ?_)) ?_
    case refine_1 =>
      refine (rput13_calls w' A2 c2 d (HDr.out.below h) HD.out hd30).mono ?_
      rintro e w2 ⟨rfl, hb⟩
      exact ⟨rfl, bel_next h hb (Nat.le_refl _)⟩
    refine dag_cons (dag_eqS (t := 9) (t' := 9) (x := .tmp 59) (y := .tmp 61) (s := (strOfNums (putN d))) (by kernel_rfl) (by kernel_rfl) (by kernel_rfl) (by kernel_rfl) (by kernel_rfl) (fun g0 w' h => h)) ?_
    refine dag_cons (dag_val (v := .bool true) (by kernel_rfl) (by kernel_rfl) (fun g0 w' h => by kernel_rfl) (fun g0 w' h => h)) ?_
    refine dag_cons (dag_val (v := .bool true) (by kernel_rfl) (by kernel_rfl) (fun g0 w' h => by kernel_rfl) (fun g0 w' h => h)) ?_
    refine dag_cons (dag_val (v := .slice A8 d.length c8) (by kernel_rfl) (by kernel_rfl) (fun g0 w' h => by kernel_rfl) (fun g0 w' h => h)) ?_
    refine dag_cons (dag_val (v := .slice A2 d.length c2) (by kernel_rfl) (by kernel_rfl) (fun g0 w' h => by kernel_rfl) (fun g0 w' h => h)) ?_
    refine dag_cons (dag_call (f := 16) (args := #[.slice A8 d.length c8, .slice A2 d.length c2]) (v := .bool true) (by kernel_rfl) (by kernel_rfl) (fun w' => by kernel_rfl) (fun g0 w' hg h => ?_)) ?_
    case refine_1 =>
      refine (same13_calls w' A8 A2 c8 c2 d (HXr.out.below h) (HDr.out.below h) (by omega)).mono ?_
      rintro e w2 ⟨rfl, hb⟩
      exact ⟨rfl, bel_next h hb (Nat.le_refl _)⟩
    refine dag_cons (dag_val (v := .bool true) (by kernel_rfl) (by kernel_rfl) (fun g0 w' h => by kernel_rfl) (fun g0 w' h => h)) ?_
    refine dag_cons (dag_val (v := .bool true) (by kernel_rfl) (by kernel_rfl) (fun g0 w' h => by kernel_rfl) (fun g0 w' h => h)) ?_
    refine dag_cons (dag_val (v := .int .i64 (n : Nat)) (by kernel_rfl) (by kernel_rfl) (fun g0 w' h => by kernel_rfl) (fun g0 w' h => h)) ?_
    refine dag_cons (dag_val (v := .slice Ap n cp) (by kernel_rfl) (by kernel_rfl) (fun g0 w' h => by kernel_rfl) (fun g0 w' h => h)) ?_
    refine dag_cons (dag_val (v := .int .i64 (n : Nat)) (by kernel_rfl) (by kernel_rfl) (fun g0 w' h => by kernel_rfl) (fun g0 w' h => h)) ?_
    refine dag_cons (dag_eq (t := 3) (t' := 3) (x := .tmp 70) (y := .tmp 72) (k := .i64) (c := ((n : Nat) : Int)) (by kernel_rfl) (by kernel_rfl) (by kernel_rfl) (by kernel_rfl) (by kernel_rfl) (fun g0 w' h => h)) ?_
    refine dag_cons (dag_val (v := .bool true) (by kernel_rfl) (by kernel_rfl) (fun g0 w' h => by kernel_rfl) (fun g0 w' h => h)) ?_
    refine dag_cons (dag_val (v := .bool true) (by kernel_rfl) (by kernel_rfl) (fun g0 w' h => by kernel_rfl) (fun g0 w' h => h)) ?_
    refine dag_cons (dag_val (v := .slice A9 N c9) (by kernel_rfl) (by kernel_rfl) (fun g0 w' h => by kernel_rfl) (fun g0 w' h => h)) ?_
    refine dag_cons (dag_val (v := .slice A10 N c10) (by kernel_rfl) (by kernel_rfl) (fun g0 w' h => by kernel_rfl) (fun g0 w' h => h)) ?_
    refine dag_cons (dag_call (f := 16) (args := #[.slice A9 N c9, .slice A10 N c10]) (v := .bool true) (by kernel_rfl) (by kernel_rfl) (fun w' => by kernel_rfl) (fun g0 w' hg h => ?_)) ?_
    case refine_1 =>
      refine (HSame.out w' h).mono ?_
      rintro e w2 ⟨rfl, hb⟩
      exact ⟨rfl, bel_next h hb (Nat.le_refl _)⟩
    refine dag_cons (dag_val (v := .bool true) (by kernel_rfl) (by kernel_rfl) (fun g0 w' h => by kernel_rfl) (fun g0 w' h => h)) ?_
    refine dag_cons (dag_val (v := .bool true) (by kernel_rfl) (by kernel_rfl) (fun g0 w' h => by kernel_rfl) (fun g0 w' h => h)) ?_
    refine dag_cons (dag_val (v := .int .i64 (k : Nat)) (by kernel_rfl) (by kernel_rfl) (fun g0 w' h => by kernel_rfl) (fun g0 w' h => h)) ?_
    refine dag_cons (dag_val (v := .int .i64 (k : Nat)) (by kernel_rfl) (by kernel_rfl) (fun g0 w' h => by kernel_rfl) (fun g0 w' h => h)) ?_
    refine dag_cons (dag_eq (t := 3) (t' := 3) (x := .tmp 81) (y := .tmp 82) (k := .i64) (c := ((k : Nat) : Int)) (by kernel_rfl) (by kernel_rfl) (by kernel_rfl) (by kernel_rfl) (by kernel_rfl) (fun g0 w' h => h)) ?_
    refine dag_cons (dag_val (v := .bool true) (by kernel_rfl) (by kernel_rfl) (fun g0 w' h => by kernel_rfl) (fun g0 w' h => h)) ?_
    refine dag_cons (dag_val (v := .bool true) (by kernel_rfl) (by kernel_rfl) (fun g0 w' h => by kernel_rfl) (fun g0 w' h => h)) ?_
    exact dag_nil
  case refine_2 =>
    intro w13 h
    have HB13 := Lib.hid (bel_next HB10.out h (Nat.le_refl _))
    clear h
    simp only [putAll, List.foldl_cons, List.foldl_nil]
    go_wp2
    go_ret
    exact ⟨by kernel_rfl, HB13.out⟩
end Go.Proofs.Ytanfjiccilibcaa
