/- The document's Same of spans, of lists of spans. -/
import Derived.Test.YtadbbknllakpcaaGreatHeapE
import Derived.Test.YtadbbknllakpcaaGreatDagA
namespace Go.Proofs.YtadbbknllakpcaaGreat
open Go.RowKit
set_option linter.unusedVariables false

set_option maxHeartbeats 1000000 in
theorem same15_calls (pg ps cl : Int) (A B : Option Addr) (len ca cb : Nat) (f : Nat → Bool) (w : World) (hA : WordsAt w A len f) (hB : WordsAt w B len f) :
    Calls Tryz.prog 48 #[spV pg ps cl A len ca, spV pg ps cl B len cb] w fun e w' => e = .returned (.bool true) ∧ Below w.heap.size w w' := by
  obtain ⟨w1, hw1, hS1, hB1⟩ := one_span w pg ps cl A len ca
  obtain ⟨w2, hw2, hS2, hB2⟩ := one_span w1 pg ps cl B len cb
  have hsz : w1.heap.size = w.heap.size + 1 := by rw [← hw1]; simp
  have HB := Lib.hid (bel_next hB1 hB2 (Nat.le_refl _))
  have HA := Lib.hid ((hA.below hB1).below hB2)
  have HBb := Lib.hid ((hB.below hB1).below hB2)
  obtain ⟨s0, s1, s2, s3⟩ := (SpB.below hS1 hB2).cells
  obtain ⟨t0, t1, t2, t3⟩ := hS2.cells
  clear hS1 hS2 hB1 hB2 hA hB hsz
  unfold spV
  go_enter Tryz.func48, Tryz.ntmps48
  go_wp2_with fail
  refine (same8_yes _ A B len ca cb f HA.out.1 HBb.out.1 HA.out.2.2).mono ?_
  rintro e w3 ⟨rfl, hb⟩
  have HB3 := Lib.hid (bel_next HB.out hb (Nat.le_refl _))
  clear hb
  go_wp2
  go_ret
  exact ⟨rfl, HB3.out⟩

theorem of_drewS {B : Nat} {w w' : World} (h : Below B w.drew w') : Below B w w' := ⟨h.os, h.tape, h.output, h.size, h.block⟩
theorem run_atS (w : World) (b o len cap j : Nat) (hj : j < len) : (Instr.indexAt 22 (.slice (some ⟨b, o, none⟩) len cap) (.int .i64 j)).run Tryz.prog w = .ok (.pointer (some ⟨b, o + j * 4, none⟩)) w := by
  go_simp
/-- Four cells that are a span. -/
def Four (w : World) (b o : Nat) (pg ps cl : Int) (A : Option Addr) (len cap : Nat) : Prop :=
  w.cell? ⟨b, o, none⟩ = some (.int .i64 pg) ∧ w.cell? ⟨b, o + 1, none⟩ = some (.int .i64 ps) ∧ w.cell? ⟨b, o + 2, none⟩ = some (.int .i64 cl) ∧ w.cell? ⟨b, o + 3, none⟩ = some (.slice A len cap)
theorem run_loadS4 {w : World} {b o : Nat} {pg ps cl : Int} {A : Option Addr} {len cap : Nat} (h : Four w b o pg ps cl A len cap) : (Instr.loadAt 27 (.pointer (some ⟨b, o, none⟩))).run Tryz.prog w = .ok (.agg #[.int .i64 pg, .int .i64 ps, .int .i64 cl, .slice A len cap]) w := by
  obtain ⟨h0, h1, h2, h3⟩ := h
  go_simp
theorem dag_loadS4 {md : Region.Mode} {ops : Array Oper} {F : Act} {J : (Nat → Bool) → World → Prop} {i : Nat} {o' : Oper} {x : Operand} {b o : Nat} {pg ps cl : Int} {A : Option Addr} {len cap : Nat} (hw : Region.wanted o' (yielded ops F.tmps) = true) (hp : F.put o'.dst (.agg #[.int .i64 pg, .int .i64 ps, .int .i64 cl, .slice A len cap]) = F) (ho : o'.op = .load 27 x) (hx : F.eval x = .pointer (some ⟨b, o, none⟩))
    (hc : ∀ (g : Nat → Bool) (w : World), g i = false → J g w → Four w b o pg ps cl A len cap) (hJ : ∀ (g : Nat → Bool) (w : World), J g w → J (upd g i) w) : DagStep Tryz.prog md ops F J i o' := by
  refine dag_make hw hp (fun g w h1 _ h => ⟨w, ?_, hJ g w h⟩)
  unfold execOp
  simp only [ho, hx, Sem.run_bind, run_loadS4 (hc g w h1 h), Result.andThen_ok, Sem.run_pure]
theorem SpansAt.four {w : World} {A : Option Addr} {S : List Sp} {W : Nat → Option Addr × Nat} {j : Nat} {s : Sp} (h : RdAt w A S.length (cellsOf W 0 S)) (hj : S[j]? = some s) : ∃ b o, A = some ⟨b, o, none⟩ ∧ b < w.heap.size ∧ Four w b (o + j * 4) s.pg s.ps s.cl (W j).1 s.len (W j).2 := by
  obtain ⟨h0, h1, h2, h3⟩ := cells_at W S 0 j s hj
  have hlt := (List.getElem?_eq_some_iff.1 hj).1
  rcases h with h | ⟨b, o, rfl, hl, hc⟩
  · omega
  · rw [Nat.zero_add] at h3
    exact ⟨b, o, rfl, hl, hc _ _ h0, hc _ _ h1, hc _ _ h2, hc _ _ h3⟩
set_option maxRecDepth 8000 in
set_option maxHeartbeats 4000000 in
theorem rsame17_calls (w : World) (A B : Option Addr) (ca cb : Nat) (S : List Sp) (hA : SpansAt w A S) (hB : SpansAt w B S) (hS : S.length ≤ 100000) :
    Calls Tryz.prog 16 #[.slice A S.length ca, .slice B S.length cb] w fun e w' => e = .returned (.bool true) ∧ Below w.heap.size w w' := by
  obtain ⟨W, hrW, hwW⟩ := hA
  obtain ⟨V, hrV, hwV⟩ := hB
  have HRW := Lib.hid hrW
  have HRV := Lib.hid hrV
  have HWW := Lib.hid hwW
  have HWV := Lib.hid hwV
  clear hrW hrV hwW hwV
  go_enter Tryz.func16, Tryz.ntmps16
  go_wp2_with fail
  go_loopg [5] S.length (fun q s5 wr => ∃ j, q = S.length - j ∧ j ≤ S.length ∧ s5 = .int .i64 (j : Int) ∧ Hid (Below w.heap.size w wr))
  case atStart => exact ⟨0, by omega, by omega, rfl, Lib.hid (Below.refl _ _)⟩
  case round =>
    obtain ⟨j, hq, hjl, rfl, hb⟩ := hrel
    by_cases hlt : j < S.length
    · obtain ⟨s, hs⟩ : ∃ s, S[j]? = some s := ⟨_, List.getElem?_eq_getElem hlt⟩
      obtain ⟨b1, o1, rfl, hb1, hf1⟩ := SpansAt.four HRW.out hs
      obtain ⟨b2, o2, rfl, hb2, hf2⟩ := SpansAt.four HRV.out hs
      have keep : ∀ {b o : Nat} {pg ps cl : Int} {A : Option Addr} {len cap : Nat}, b < w.heap.size → Four w b o pg ps cl A len cap → Four wr.drew b o pg ps cl A len cap := fun {b o pg ps cl A len cap} h1 h2 => by
        have hc : ∀ j, wr.cell? ⟨b, j, none⟩ = w.cell? ⟨b, j, none⟩ := fun j => World.cell?_of_block (hb.out.block b h1)
        exact ⟨(hc _).trans h2.1, (hc _).trans h2.2.1, (hc _).trans h2.2.2.1, (hc _).trans h2.2.2.2⟩
      have HL1 := Lib.hid (keep hb1 hf1)
      have HL2 := Lib.hid (keep hb2 hf2)
      have HW1 := Lib.hid (((HWW.out j s hs).below hb.out).below (Below.refl _ wr).drew)
      have HW2 := Lib.hid (((HWV.out j s hs).below hb.out).below (Below.refl _ wr).drew)
      have HLt := Lib.hid hlt
      clear keep hb1 hb2 hf1 hf2 hs
      go_wp2_with fail
      refine wp_dag [(17, .slice (some ⟨b1, o1, none⟩) S.length ca), (18, .int .i64 ((j : Nat) : Int)), (19, .pointer (some ⟨b1, o1 + j * 4, none⟩)), (20, .agg #[.int .i64 ((s.pg : Nat) : Int), .int .i64 ((s.ps : Nat) : Int), .int .i64 s.cl, .slice (W j).1 s.len (W j).2]), (21, .slice (some ⟨b2, o2, none⟩) S.length cb), (22, .int .i64 ((j : Nat) : Int)), (23, .pointer (some ⟨b2, o2 + j * 4, none⟩)), (24, .agg #[.int .i64 ((s.pg : Nat) : Int), .int .i64 ((s.ps : Nat) : Int), .int .i64 s.cl, .slice (V j).1 s.len (V j).2]), (25, .bool true), (26, .bool false)] (OneJ wr.drew 8 [3, 7] (fun w' => Below wr.drew.heap.size wr.drew w')) (by kernel_rfl) (by kernel_rfl) (by kernel_rfl) (by kernel_rfl) .start ?_ ?_
      case refine_1 =>
        refine dag_cons (dag_val (v := .slice (some ⟨b1, o1, none⟩) S.length ca) (by kernel_rfl) (by kernel_rfl) (fun g0 w' h => by kernel_rfl) (fun g0 w' h => h.same rfl)) ?_
        refine dag_cons (dag_val (v := .int .i64 ((j : Nat) : Int)) (by kernel_rfl) (by kernel_rfl) (fun g0 w' h => by kernel_rfl) (fun g0 w' h => h.same rfl)) ?_
        refine dag_cons (dag_index (t := 22) (x := .tmp 17) (ix := .tmp 18) (v1 := .slice (some ⟨b1, o1, none⟩) S.length ca) (v2 := .int .i64 ((j : Nat) : Int)) (v := .pointer (some ⟨b1, o1 + j * 4, none⟩)) (by kernel_rfl) (by kernel_rfl) (by kernel_rfl) (by kernel_rfl) (by kernel_rfl) (fun w' => run_atS w' b1 o1 _ ca j hlt) (fun g0 w' h => h.same rfl)) ?_
        refine dag_cons (dag_loadS4 (x := .tmp 19) (b := b1) (o := o1 + j * 4) (pg := ((s.pg : Nat) : Int)) (ps := ((s.ps : Nat) : Int)) (cl := s.cl) (A := (W j).1) (len := s.len) (cap := (W j).2) (by kernel_rfl) (by kernel_rfl) (by kernel_rfl) (by kernel_rfl) (fun g0 w' hg h => by obtain rfl := h.at rfl hg; exact HL1.out) (fun g0 w' h => h.same rfl)) ?_
        refine dag_cons (dag_val (v := .slice (some ⟨b2, o2, none⟩) S.length cb) (by kernel_rfl) (by kernel_rfl) (fun g0 w' h => by kernel_rfl) (fun g0 w' h => h.same rfl)) ?_
        refine dag_cons (dag_val (v := .int .i64 ((j : Nat) : Int)) (by kernel_rfl) (by kernel_rfl) (fun g0 w' h => by kernel_rfl) (fun g0 w' h => h.same rfl)) ?_
        refine dag_cons (dag_index (t := 22) (x := .tmp 21) (ix := .tmp 22) (v1 := .slice (some ⟨b2, o2, none⟩) S.length cb) (v2 := .int .i64 ((j : Nat) : Int)) (v := .pointer (some ⟨b2, o2 + j * 4, none⟩)) (by kernel_rfl) (by kernel_rfl) (by kernel_rfl) (by kernel_rfl) (by kernel_rfl) (fun w' => run_atS w' b2 o2 _ cb j hlt) (fun g0 w' h => h.same rfl)) ?_
        refine dag_cons (dag_loadS4 (x := .tmp 23) (b := b2) (o := o2 + j * 4) (pg := ((s.pg : Nat) : Int)) (ps := ((s.ps : Nat) : Int)) (cl := s.cl) (A := (V j).1) (len := s.len) (cap := (V j).2) (by kernel_rfl) (by kernel_rfl) (by kernel_rfl) (by kernel_rfl) (fun g0 w' hg h => by obtain rfl := h.at rfl hg; exact HL2.out) (fun g0 w' h => h.same rfl)) ?_
        refine dag_cons (dag_call2 (f := 48) (args := #[.agg #[.int .i64 ((s.pg : Nat) : Int), .int .i64 ((s.ps : Nat) : Int), .int .i64 s.cl, .slice (W j).1 s.len (W j).2], .agg #[.int .i64 ((s.pg : Nat) : Int), .int .i64 ((s.ps : Nat) : Int), .int .i64 s.cl, .slice (V j).1 s.len (V j).2]]) (v := .bool true) (by kernel_rfl) (by kernel_rfl) (fun w' => by kernel_rfl) (fun g0 w' hg hd h => ?_)) ?_
        case refine_1 =>
          have hd3 : g0 3 = true := hd { on := 3, ground := Ground.data } (by simp) rfl
          have hd7 : g0 7 = true := hd { on := 7, ground := Ground.data } (by simp) rfl
          obtain rfl := h.2.1 hg
          refine (same15_calls s.pg s.ps s.cl (W j).1 (V j).1 s.len (W j).2 (V j).2 s.f _ HW1.out HW2.out).mono ?_
          rintro e w2 ⟨he, hb⟩
          exact ⟨he, h.call (by simp [hd3, hd7]) hb⟩
        refine dag_cons (dag_val (v := .bool false) (by kernel_rfl) (by kernel_rfl) (fun g0 w' h => by kernel_rfl) (fun g0 w' h => h.same rfl)) ?_
        exact dag_nil
      case refine_2 =>
        intro w2 hJ
        have HB2 := Lib.hid (bel_next hb.out (of_drewS (hJ.fin rfl)) (Nat.le_refl _))
        clear hJ
        simp only [putAll, List.foldl_cons, List.foldl_nil]
        go_frame
        go_wp2
        go_roundg (S.length - (j + 1))
        case measure => rw [hq]; exact Nat.sub_lt_sub_left HLt.out (Nat.lt_succ_self j)
        case rel => exact ⟨j + 1, rfl, HLt.out, by go_num, HB2⟩
    · obtain rfl : j = S.length := by omega
      go_wp2
      go_ret
      exact ⟨rfl, hb.out⟩
end Go.Proofs.YtadbbknllakpcaaGreat

/- The walks of alloc's Right. -/
namespace Go.Proofs.YtadbbknllakpcaaGreat
open Go.RowKit
set_option linter.unusedVariables false

theorem good_right {pg ps cl : Int} {len : Nat} {f : Nat → Bool} (h : Good pg ps cl len f) (hc : 0 < cntF f (perN cl)) : rightP pg ps cl len f := by
  have h1 := h.p1
  have h2 := h.p2
  have h3 := h.p3
  refine ⟨decide_eq_true (by omega), ?_⟩
  rcases h.fit with ⟨rfl, h4⟩ | ⟨h4, h5, h6⟩
  · refine .inl ⟨rfl, h4, ?_⟩
    have e2 : perN 255 = 1 := rfl
    have hl := h.live
    rw [e2] at hl hc
    have hlen : len = 1 := hl.1
    have h0 : f 0 = true := by
      cases hf : f 0
      · simp [cntF, hf] at hc
      · rfl
    refine decide_eq_true ⟨hlen, ?_⟩
    have : wd f 0 = wd bit0 0 := wd_congr fun b hb => by
      rw [Nat.mul_zero, Nat.zero_add]
      by_cases h : b = 0
      · rw [h, h0]; rfl
      · rw [hl.2 b (by omega), bit0_out b (by omega)]
    rw [this, wd_bit0]
  · exact .inr ⟨h4, h5, h6, h.live, hc⟩

def endN (S : List Sp) : Nat → Nat
  | 0 => 0
  | k + 1 => match S[k]? with | some s => s.pg + s.ps | none => 0
theorem end_le {S : List Sp} (hI : Inv S) {j : Nat} {s : Sp} (h : S[j]? = some s) : endN S j ≤ s.pg := by
  cases j with
  | zero => exact Nat.zero_le _
  | succ k =>
    have hk : k < S.length := by have := (List.getElem?_eq_some_iff.1 h).1; omega
    simp only [endN, List.getElem?_eq_getElem hk]
    have := List.pairwise_iff_getElem.1 hI.2 k (k + 1) hk (List.getElem?_eq_some_iff.1 h).1 (by omega)
    rw [(List.getElem?_eq_some_iff.1 h).2] at this
    exact this
theorem end_succ {S : List Sp} {j : Nat} {s : Sp} (h : S[j]? = some s) : endN S (j + 1) = s.pg + s.ps := by
  simp only [endN, h]
theorem keep_four {w w' : World} {b o : Nat} {pg ps cl : Int} {A : Option Addr} {len cap : Nat} (hb : Below w.heap.size w w') (h1 : b < w.heap.size) (h2 : Four w b o pg ps cl A len cap) : Four w' b o pg ps cl A len cap := by
  have hc : ∀ j, w'.cell? ⟨b, j, none⟩ = w.cell? ⟨b, j, none⟩ := fun j => World.cell?_of_block (hb.block b h1)
  exact ⟨(hc _).trans h2.1, (hc _).trans h2.2.1, (hc _).trans h2.2.2.1, (hc _).trans h2.2.2.2⟩
set_option maxRecDepth 8000 in
set_option maxHeartbeats 8000000 in
theorem aright_calls (w : World) (A : Option Addr) (cap : Nat) (S : List Sp) (hA : SpansAt w A S) (hI : Inv S) :
    Calls Tryz.prog 7 #[.slice A S.length cap] w fun e w' => e = .returned (.bool true) ∧ Below w.heap.size w w' := by
  obtain ⟨W, hrW, hwW⟩ := hA
  have HRW := Lib.hid hrW
  have HWW := Lib.hid hwW
  have HI := Lib.hid hI
  have hlen := hI.len
  clear hrW hwW hI
  go_enter Tryz.func7, Tryz.ntmps7
  go_wp2_with fail
  go_loopg [8, 3] S.length (fun q s8 s3 wr => ∃ j, q = S.length - j ∧ j ≤ S.length ∧ s8 = .int .i64 (j : Int) ∧ s3 = .int .i64 (endN S j : Int) ∧ Hid (Below w.heap.size w wr))
  case atStart => exact ⟨0, by omega, by omega, rfl, rfl, Lib.hid (Below.refl _ _)⟩
  case round =>
    obtain ⟨j, hq, hjl, rfl, rfl, hb⟩ := hrel
    by_cases hlt : j < S.length
    · obtain ⟨s, hs⟩ : ∃ s, S[j]? = some s := ⟨_, List.getElem?_eq_getElem hlt⟩
      obtain ⟨b1, o1, rfl, hb1, hf1⟩ := SpansAt.four HRW.out hs
      obtain ⟨f0, f1, f2, f3⟩ := keep_four hb.out hb1 hf1
      have hmem : s ∈ S := List.mem_of_getElem? hs
      obtain ⟨hok, hcnt⟩ := HI.out.1 s hmem
      have hps := hok.ps1
      have hle := end_le HI.out hs
      have HEs := Lib.hid (end_succ hs)
      obtain ⟨w2, hw2, hX2, hB2⟩ := one_span wr s.pg s.ps s.cl (W j).1 s.len (W j).2
      have HW2 := Lib.hid (((HWW.out j s hs).below hb.out).below hB2)
      have HX2 := Lib.hid hX2
      have HB2 := Lib.hid (bel_next hb.out hB2 (Nat.le_refl _))
      have HG := Lib.hid (And.intro hok hcnt)
      obtain ⟨s0, s1, s2, s3⟩ := hX2.cells
      have hdl : decide ((s.pg : Int) < (endN S j : Int)) = false := decide_eq_false (by omega)
      have hdl2 : decide (s.pg < endN S j) = false := decide_eq_false (by omega)
      have hadd : wrap64 ((s.pg : Int) + (s.ps : Int)) = (s.pg : Int) + (s.ps : Int) := IntWalk.wrap64_in _ (by omega)
      have HLt := Lib.hid hlt
      clear hs hb1 hf1 hmem hok hcnt hX2 hB2 hle
      go_wp2_with fail
      refine (right_calls s.pg s.ps s.cl (W j).1 s.len (W j).2 s.f _ (Good.i64 HG.out.1).1 (Good.i64 HG.out.1).2.1 (Good.i64 HG.out.1).2.2 HW2.out).mono ?_
      rintro e w3 ⟨b, rfl, hbb, hB3⟩
      obtain rfl : b = true := hbb.2 (good_right HG.out.1 HG.out.2)
      obtain ⟨x0, x1, x2, x3⟩ := (SpB.below HX2.out hB3).cells
      have HB3 := Lib.hid (bel_next HB2.out hB3 (Nat.le_refl _))
      clear hbb hB3 hw2 s0 s1 s2 s3
      go_wp2
      go_roundg (S.length - (j + 1))
      case measure => rw [hq]; exact Nat.sub_lt_sub_left HLt.out (Nat.lt_succ_self j)
      case rel => exact ⟨j + 1, rfl, HLt.out, by go_num, by rw [HEs.out]; go_num, HB3⟩
    · obtain rfl : j = S.length := by omega
      go_wp2
      go_ret
      exact ⟨rfl, hb.out⟩
end Go.Proofs.YtadbbknllakpcaaGreat

/- The walk of alloc's New. -/
namespace Go.Proofs.YtadbbknllakpcaaGreat
open Go.RowKit
set_option linter.unusedVariables false

theorem land_none : LandOf [] [(1, 4095)] := fun j => by
  rw [rn.Fr_at]
  constructor
  · rintro ⟨k, q, hk, h1, h2⟩
    cases k with
    | zero =>
      simp at hk
      subst hk
      simp only at h1 h2
      exact ⟨h1, (by omega), (fun ⟨s, hs, _⟩ => (by cases hs))⟩
    | succ k => simp at hk
  · rintro ⟨h1, h2, _⟩
    exact ⟨0, (1, 4095), rfl, h1, by simp; omega⟩
theorem inv_nil : Inv [] := ⟨(fun s h => by cases h), List.Pairwise.nil⟩
theorem heap_made {w0 w1 : World} {L g cap : Nat} (hB : Below w0.heap.size w0 w1) (hL : rn.LandAt w1 L g cap [(1, 4095)]) (h1 : w0.heap.size ≤ L) (h2 : w0.heap.size ≤ g) :
    ∃ w4, ((w1.alloc (.map #[] 0)).alloc (.map #[] 0)).alloc (.cells #[.pointer (some ⟨L, 0, none⟩), .map (some w1.heap.size), .slice none 0 0, .map (some (w1.heap.size + 1))] 61) = w4 ∧
      HeapAt w4 (w1.heap.size + 1 + 1) L 0 [] [(1, 4095)] (fun k => w0.heap.size ≤ k ∧ k < w4.heap.size) ∧ Below w0.heap.size w0 w4 := by
  have b1 : Below w1.heap.size w1 (w1.alloc (.map #[] 0)) := (Below.refl _ _).alloc (Nat.le_refl _) _
  have b2 : Below w1.heap.size w1 ((w1.alloc (.map #[] 0)).alloc (.map #[] 0)) := b1.alloc (by simp) _
  have s1 : (w1.alloc (.map #[] 0)).heap.size = w1.heap.size + 1 := by simp
  have s2 : ((w1.alloc (.map #[] 0)).alloc (.map #[] 0)).heap.size = w1.heap.size + 1 + 1 := by simp
  have m1 := MapIs.made w1
  have m2 := MapIs.made (w1.alloc (.map #[] 0))
  rw [s1] at m2
  obtain ⟨w3, hw3⟩ : ∃ w3, (w1.alloc (.map #[] 0)).alloc (.map #[] 0) = w3 := ⟨_, rfl⟩
  have m1' : MapIs w3 w1.heap.size 0 (fun _ => none) := by rw [← hw3]; exact m1.below ((Below.refl _ _).alloc (Nat.le_refl _) _)
  rw [hw3] at m2 b2 s2 ⊢
  have b3 : Below w3.heap.size w3 (w3.alloc (.cells #[.pointer (some ⟨L, 0, none⟩), .map (some w1.heap.size), .slice none 0 0, .map (some (w1.heap.size + 1))] 61)) := (Below.refl _ _).alloc (Nat.le_refl _) _
  have hblk := Blk.new w3 #[.pointer (some ⟨L, 0, none⟩), .map (some w1.heap.size), .slice none 0 0, .map (some (w1.heap.size + 1))] 61
  obtain ⟨w4, hw4⟩ : ∃ w4, w3.alloc (.cells #[.pointer (some ⟨L, 0, none⟩), .map (some w1.heap.size), .slice none 0 0, .map (some (w1.heap.size + 1))] 61) = w4 := ⟨_, rfl⟩
  have s4 : w4.heap.size = w1.heap.size + 1 + 1 + 1 := by rw [← hw4]; simp [s2]
  rw [hw4] at b3 hblk ⊢
  rw [s2] at hblk
  have hlt := hL.lt
  have hz := hB.size
  have b14 : Below w1.heap.size w1 w4 := b2.trans (b3.mono (by omega))
  refine ⟨w4, rfl, ⟨⟨w1.heap.size + 1 + 1, L, w1.heap.size, w1.heap.size + 1, .slice none 0 0, fun _ => none, fun _ => none⟩, g, cap, rfl, rfl, ?_⟩, bel_next hB b14 (Nat.le_refl _)⟩
  refine { core := ⟨hblk, m1'.below b3, m2.below b3, by show w1.heap.size ≠ w1.heap.size + 1; omega, World.ownsRow_nil _ _ _ _, (fun s h => by cases h), (fun x v h => by cases h), (fun x => World.ownsRow_nil _ _ _ _), (fun x v k h => by cases h), (fun x y v u k _ h => by cases h)⟩, land := hL.below b14, canon := rn.canon_one (by omega) (by omega) (by omega), inv := inv_nil, fK := ?_, fL := ⟨h1, (by show L < w4.heap.size; omega)⟩, fg := ⟨h2, (by omega)⟩, nL := ?_, ng := ?_, wrd := (fun s h => by cases h), lt := fun k hk => hk.2 }
  · rintro k (rfl | rfl | rfl | h | ⟨x, v, h, _⟩)
    · exact ⟨by show _ ≤ w1.heap.size + 1 + 1; omega, by show w1.heap.size + 1 + 1 < _; omega⟩
    · exact ⟨by show _ ≤ w1.heap.size; omega, by show w1.heap.size < _; omega⟩
    · exact ⟨by show _ ≤ w1.heap.size + 1; omega, by show w1.heap.size + 1 < _; omega⟩
    · cases h
    · cases h
  · rintro (h | h | h | h | ⟨x, v, h, _⟩)
    · have : L = w1.heap.size + 1 + 1 := h; omega
    · have : L = w1.heap.size := h; omega
    · have : L = w1.heap.size + 1 := h; omega
    · cases h
    · cases h
  · rintro (h | h | h | h | ⟨x, v, h, _⟩)
    · have : g = w1.heap.size + 1 + 1 := h; omega
    · have : g = w1.heap.size := h; omega
    · have : g = w1.heap.size + 1 := h; omega
    · cases h
    · cases h
theorem inv_take {S : List Sp} (h : Inv S) (j : Nat) : Inv (S.take j) := ⟨fun s hs => h.1 s (List.mem_of_mem_take hs), h.2.sublist (List.take_sublist _ _)⟩
theorem takeAt {S : List Sp} {j : Nat} {t : Sp} (h : t ∈ S.take j) : ∃ k, k < j ∧ S[k]? = some t := by
  obtain ⟨k, hk⟩ := List.mem_iff_getElem?.1 h
  rw [List.getElem?_take] at hk
  split at hk
  · exact ⟨k, by assumption, hk⟩
  · cases hk
theorem take_lt {S : List Sp} (h : Inv S) {j : Nat} {s : Sp} (hs : S[j]? = some s) : ∀ t ∈ S.take j, t.pg + t.ps ≤ s.pg := by
  intro t ht
  obtain ⟨k, hk, hkt⟩ := takeAt ht
  have := List.pairwise_iff_getElem.1 h.2 k j (List.getElem?_eq_some_iff.1 hkt).1 (List.getElem?_eq_some_iff.1 hs).1 hk
  rw [(List.getElem?_eq_some_iff.1 hkt).2, (List.getElem?_eq_some_iff.1 hs).2] at this
  exact this
theorem set_take {S : List Sp} (h : Inv S) {j : Nat} {s : Sp} (hs : S[j]? = some s) : setS (S.take j) s = S.take (j + 1) := by
  have h1 := take_lt h hs
  have h2 : ∀ t ∈ S.take j, t.pg < s.pg := fun t ht => by
    have := h1 t ht
    have := (h.1 t (List.mem_of_mem_take ht)).1.ps1
    omega
  unfold setS
  rw [if_pos (h.1 s (List.mem_of_getElem? hs)).2, List.filter_eq_self.2 (fun t ht => decide_eq_true (h2 t ht)), List.filter_eq_nil_iff.2 (fun t ht => by simp only [decide_eq_true_eq]; have := h2 t ht; omega), List.append_nil, List.take_add_one, hs]
  rfl
set_option maxRecDepth 8000 in
set_option maxHeartbeats 8000000 in
theorem new17_calls (w : World) (A : Option Addr) (cap : Nat) (S : List Sp) (hA : SpansAt w A S) (hI : Inv S) :
    Calls Tryz.prog 5 #[.slice A S.length cap] w fun e w' => ∃ H L l F, e = .returned (.tuple #[.pointer (some ⟨H, 0, none⟩), .int .i64 0]) ∧ HeapAt w' H L (2 * S.length) S l F ∧ LandOf S l ∧ (∀ k, F k → w.heap.size ≤ k) ∧ Below w.heap.size w w' := by
  have HA := Lib.hid hA
  have HI := Lib.hid hI
  have hlen := hI.len
  have hmm := @run_makeMap Tryz.prog
  clear hA hI
  go_enter Tryz.func5, Tryz.ntmps5
  go_wp2_with fail
  refine (aright_calls w A cap S HA.out HI.out).mono ?_
  rintro e w0 ⟨rfl, hB0⟩
  have HB0 := Lib.hid hB0
  clear hB0
  go_wp2_with fail
  refine (rn.new16_calls w0).mono ?_
  rintro e w1 ⟨L, g, cp, rfl, hL, hL1, hL2, hB1⟩
  obtain ⟨w4, hw4, hH, hB4⟩ := heap_made hB1 hL hL1 hL2
  obtain ⟨H, hHH⟩ : ∃ H, w1.heap.size + 1 + 1 = H := ⟨_, rfl⟩
  have HHp := Lib.hid (hHH ▸ hH)
  have HB4 := Lib.hid (bel_next HB0.out hB4 (Nat.le_refl _))
  have hz0 := HB0.out.size
  clear hL hL1 hL2 hB1 hH hB4
  go_wp2_with fail
  clear hHH hw4 hmm
  obtain ⟨W, hrW, hwW⟩ := HA.out
  have HRW := Lib.hid hrW
  have HWW := Lib.hid hwW
  clear hrW hwW
  go_loopg [17] S.length (fun q s17 wr => ∃ j, q = S.length - j ∧ j ≤ S.length ∧ s17 = .int .i64 (j : Int) ∧ Hid (∃ l F, HeapAt wr H L (2 * j) (S.take j) l F ∧ LandOf (S.take j) l ∧ ∀ k, F k → w.heap.size ≤ k) ∧ Hid (Below w.heap.size w wr))
  case atStart => exact ⟨0, by omega, by omega, rfl, Lib.hid ⟨_, _, HHp.out, land_none, fun k hk => Nat.le_trans hz0 hk.1⟩, HB4⟩
  case round =>
    obtain ⟨j, hq, hjl, rfl, hh, hb⟩ := hrel
    obtain ⟨l, F, hh1, hl, hF⟩ := hh.out
    by_cases hlt : j < S.length
    · obtain ⟨s, hs⟩ : ∃ s, S[j]? = some s := ⟨_, List.getElem?_eq_getElem hlt⟩
      obtain ⟨b1, o1, rfl, hb1, hf1⟩ := SpansAt.four HRW.out hs
      obtain ⟨f0, f1, f2, f3⟩ := keep_four hb.out hb1 hf1
      obtain ⟨hok, hcnt⟩ := HI.out.1 s (List.mem_of_getElem? hs)
      have HG := Lib.hid (And.intro hok hcnt)
      have HS := Lib.hid hs
      obtain ⟨w2, hw2, hX2, hB2⟩ := one_span wr s.pg s.ps s.cl (W j).1 s.len (W j).2
      have HW2 := Lib.hid (((HWW.out j s hs).below hb.out).below hB2)
      have HX2 := Lib.hid hX2
      have HB2 := Lib.hid (bel_next hb.out hB2 (Nat.le_refl _))
      have HH2 := Lib.hid (hh1.below hB2)
      have HLd := Lib.hid hl
      have HF := Lib.hid hF
      have HFl := Lib.hid (show ∀ k, F k → k < wr.heap.size from hh1.lt)
      obtain ⟨c, g, cp, hcH, hcL, hin⟩ := HH2.out
      have HBl := Lib.hid (show Blk w2.drew H [.pointer (some ⟨L, 0, none⟩), .map (some c.r1), c.fv, .map (some c.r2)] 61 from by rw [← hcH, ← hcL]; exact hin.core.blk.drew)
      have HIN := Lib.hid hin
      have HcH := Lib.hid hcH
      have HcL := Lib.hid hcL
      have HLt := Lib.hid hlt
      have HXw := Lib.hid (show wr.heap.size < w2.heap.size from Blk.lt hX2)
      have hwx := hb.out.size
      clear hs hb1 hf1 hok hcnt hX2 hB2 hl hF hh1 hcH hcL hin
      go_wp2_with fail
      obtain ⟨X, hX⟩ : ∃ X, wr.heap.size = X := ⟨_, rfl⟩
      rw [hX] at HX2 HXw hwx HFl
      rw [hX]
      clear hw2 f0 f1 f2 f3 hX
      refine wp_dag [(21, .pointer (some ⟨H, 0, none⟩)), (22, .pointer (some ⟨H, 0, none⟩)), (23, .pointer (some ⟨H, 0, none⟩)), (24, .pointer (some ⟨L, 0, none⟩)), (25, .pointer (some ⟨X, 0, none⟩)), (26, .int .i64 ((s.pg : Nat) : Int)), (27, .pointer (some ⟨X, 1, none⟩)), (28, .int .i64 ((s.ps : Nat) : Int)), (29, .int .i64 0)] (OneJ w2.drew 8 [3, 5, 7] (fun w' => ∃ m F', (∀ j, rn.Fr m j ↔ rn.Fr l j ∧ ¬ (s.pg ≤ j ∧ j < s.pg + s.ps)) ∧ HeapAt w' H L (2 * j) (S.take j) m F' ∧ Only F w2.drew w' ∧ ∀ k, F' k → F k ∨ w2.drew.heap.size ≤ k)) (by kernel_rfl) (by kernel_rfl) (by kernel_rfl) (by kernel_rfl) .start ?_ ?_
      case refine_1 =>
        refine dag_cons (dag_val (v := .pointer (some ⟨H, 0, none⟩)) (by kernel_rfl) (by kernel_rfl) (fun g0 w' h => by kernel_rfl) (fun g0 w' h => h.same rfl)) ?_
        refine dag_cons (dag_val (v := .pointer (some ⟨H, 0, none⟩)) (by kernel_rfl) (by kernel_rfl) (fun g0 w' h => by kernel_rfl) (fun g0 w' h => h.same rfl)) ?_
        refine dag_cons (dag_field (s := 61) (x := .tmp 22) (k := 0) (v1 := .pointer (some ⟨H, 0, none⟩)) (v := .pointer (some ⟨H, 0, none⟩)) (by kernel_rfl) (by kernel_rfl) (by kernel_rfl) (by kernel_rfl) (fun w' => by kernel_rfl) (fun g0 w' h => h.same rfl)) ?_
        refine dag_cons (dag_loadO (t := 56) (d := .pointer 91) (x := .tmp 23) (p := ⟨H, 0, none⟩) (v := .pointer (some ⟨L, 0, none⟩)) (by kernel_rfl) (by kernel_rfl) (by kernel_rfl) (by kernel_rfl) Tryz.underlying56 rfl (fun g0 w' hg h => by obtain rfl := h.at rfl hg; exact HBl.out.cell 0) (fun g0 w' h => h.same rfl)) ?_
        refine dag_cons (dag_field (s := 27) (x := .tmp 6) (k := 0) (v1 := .pointer (some ⟨X, 0, none⟩)) (v := .pointer (some ⟨X, 0, none⟩)) (by kernel_rfl) (by kernel_rfl) (by kernel_rfl) (by kernel_rfl) (fun w' => by kernel_rfl) (fun g0 w' h => h.same rfl)) ?_
        refine dag_cons (dag_loadO (t := 3) (d := .int .i64) (x := .tmp 25) (p := ⟨X, 0, none⟩) (v := .int .i64 ((s.pg : Nat) : Int)) (by kernel_rfl) (by kernel_rfl) (by kernel_rfl) (by kernel_rfl) Tryz.underlying3 rfl (fun g0 w' hg h => by obtain rfl := h.at rfl hg; exact HX2.out.cells.1) (fun g0 w' h => h.same rfl)) ?_
        refine dag_cons (dag_field (s := 27) (x := .tmp 6) (k := 1) (v1 := .pointer (some ⟨X, 0, none⟩)) (v := .pointer (some ⟨X, 1, none⟩)) (by kernel_rfl) (by kernel_rfl) (by kernel_rfl) (by kernel_rfl) (fun w' => by kernel_rfl) (fun g0 w' h => h.same rfl)) ?_
        refine dag_cons (dag_loadO (t := 3) (d := .int .i64) (x := .tmp 27) (p := ⟨X, 1, none⟩) (v := .int .i64 ((s.ps : Nat) : Int)) (by kernel_rfl) (by kernel_rfl) (by kernel_rfl) (by kernel_rfl) Tryz.underlying3 rfl (fun g0 w' hg h => by obtain rfl := h.at rfl hg; exact HX2.out.cells.2.1) (fun g0 w' h => h.same rfl)) ?_
        refine dag_cons (dag_call2 (f := 19) (args := #[.pointer (some ⟨L, 0, none⟩), .int .i64 ((s.pg : Nat) : Int), .int .i64 ((s.ps : Nat) : Int)]) (v := .int .i64 0) (by kernel_rfl) (by kernel_rfl) (fun w' => by kernel_rfl) (fun g0 w' hg hd h => ?_)) ?_
        case refine_1 =>
          have hd3 : g0 3 = true := hd { on := 3, ground := Ground.data } (by simp) rfl
          have hd5 : g0 5 = true := hd { on := 5, ground := Ground.data } (by simp) rfl
          have hd7 : g0 7 = true := hd { on := 7, ground := Ground.data } (by simp) rfl
          obtain rfl := h.2.1 hg
          have hp := HG.out.1.ps1
          have hca := HIN.out.canon
          refine (rn.claim16_calls w2.drew L g cp l (s.pg : Int) (s.ps : Int) (by rw [← HcL.out]; exact HIN.out.drew.land) hca (by omega) (by omega)).mono ?_
          rintro e w7 hG
          obtain ⟨he, m, hm, hFr, _, hR⟩ := rn.claim_ok hca hG (rn.there_ok (by omega) (by omega) (by omega) (by omega)) (fun i h1 h2 => (HLd.out i).2 ⟨by omega, by omega, fun ⟨t, ht, h3, h4⟩ => by have := take_lt HI.out HS.out t ht; omega⟩)
          rw [← HcL.out] at hR
          obtain ⟨g2, cp2, hin, ho⟩ := HIN.out.drew.land_step hR hm
          exact ⟨he, h.call (by simp [hd3, hd5, hd7]) ⟨m, Ext F w2.drew w7, hFr, ⟨c, g2, cp2, HcH.out, HcL.out, hin⟩, ho, fun k hk => hk.imp id (·.1)⟩⟩
        exact dag_nil
      case refine_2 =>
        intro w3 hJ
        obtain ⟨m, F', hFr, hH3, hO3, hk3⟩ := hJ.fin rfl
        have hO3' : Only F w2 w3 := hO3.of_drew
        have hX3 : SpB w3 X s.pg s.ps s.cl (W j).1 s.len (W j).2 := Blk.only HX2.out hO3' (fun h => by have := HFl.out X h; omega)
        have HB3 := Lib.hid (bel_only HB2.out hO3' (Nat.le_refl _) HF.out)
        have HW3 := Lib.hid ((HWW.out j s HS.out).below HB3.out)
        have HX3 := Lib.hid hX3
        have HFr := Lib.hid hFr
        have HH3 := Lib.hid hH3
        have HF3 := Lib.hid (show ∀ k, F' k → F k ∨ w2.heap.size ≤ k from hk3)
        have HXz := Lib.hid (show X < w3.heap.size from Blk.lt hX3)
        obtain ⟨s0, s1, s2, s3⟩ := hX3.cells
        clear hJ hFr hH3 hO3 hk3 hO3' hX3
        simp only [putAll, List.foldl_cons, List.foldl_nil]
        go_frame
        go_wp2_with fail
        have hln := HG.out.1.size
        have hlen2 : s.len ≤ 32 := by unfold Sp.len wn; omega
        refine (clone_u64 w3 (W j).1 s.len (W j).2 (wdV s.len s.f) (by unfold wdV fnV; simp) HW3.out.1 (fun u hu => by unfold wdV fnV at hu; simp at hu; obtain ⟨_, _, rfl⟩ := hu; rfl) (by omega)).mono ?_
        rintro e w4 ⟨v, rfl, hown, _, hB4⟩
        obtain ⟨A3, c3, rfl⟩ := ownsRow_slice hown
        obtain ⟨hW4, hA4⟩ := clone_words hown HW3.out.2.1 HW3.out.2.2
        have hX4 := HX3.out.below hB4
        obtain ⟨x0, x1, x2, x3⟩ := hX4.cells
        obtain ⟨e0, e1, e2, e3⟩ := hX4.free
        obtain ⟨w5, hw5⟩ : ∃ w5, w4.setCell ⟨X, 3, none⟩ (.slice A3 s.len c3) = w5 := ⟨_, rfl⟩
        have hO5 : Only (· = X) w4 w5 := by rw [← hw5]; exact Only.set (S := (· = X)) (p := ⟨X, 3, none⟩) (Only.refl _ w4) (fun _ => rfl) _
        have hX5 : SpB w5 X s.pg s.ps s.cl A3 s.len c3 := by rw [← hw5]; exact Blk.set hX4 3 _
        have HXF := Lib.hid (show ∀ k, F' k → k ≠ X from fun k hk e => by
          have h1 := HXw.out
          rcases HF3.out k hk with h | h
          · have := HFl.out k h; omega
          · omega)
        have HH5 := Lib.hid ((HH3.out.below hB4).only hO5 HXF.out)
        have HW5 := Lib.hid (hW4.only hO5 (fun x y he hx => by have := hA4 x y he; have := HXz.out; omega))
        have HB5 := Lib.hid (bel_only (bel_next HB3.out hB4 (Nat.le_refl _)) hO5 (Nat.le_refl _) (fun i hi => by omega))
        have HF5 := Lib.hid (show ∀ k, F' k → w.heap.size ≤ k from fun k hk => (HF3.out k hk).elim (HF.out k) (fun h => by have := HXw.out; omega))
        have HA5 := Lib.hid (show ∀ x o, A3 = some ⟨x, o, none⟩ → w3.heap.size ≤ x from hA4)
        obtain ⟨t0, t1, t2, t3⟩ := hX5.cells
        clear hown hB4 hW4 hA4 hX4 hX5 hO5 s0 s1 s2 s3 hln hlen2
        go_wp2_with fail
        clear hw5 x0 x1 x2 x3 e0 e1 e2 e3 t0 t1 t2 t3
        have hset := hset_calls w5 H L (2 * j) (S.take j) m F' s A3 c3 HH5.out HG.out.1 HW5.out (fun x o he hF => by have := HA5.out x o he; have := HH3.out.lt x hF; omega) (by omega) (by rw [set_take HI.out HS.out]; exact inv_take HI.out _) (fun t ht he => by
          have := take_lt HI.out HS.out t ht
          have := (HI.out.1 t (List.mem_of_mem_take ht)).1.ps1
          omega)
        rw [set_take HI.out HS.out, decide_eq_true HG.out.2] at hset
        refine hset.mono ?_
        rintro e w6 ⟨rfl, F2, hH6, hO6, hk6⟩
        have HB6 := Lib.hid (bel_only HB5.out hO6 (Nat.le_refl _) HF5.out)
        have HH6 := Lib.hid hH6
        have HF6 := Lib.hid (show ∀ k, F2 k → w.heap.size ≤ k from fun k hk => by
          have h5 := HB5.out.size
          rcases hk6 k hk with h | h | ⟨o, h⟩
          · exact HF5.out k h
          · omega
          · have := HA5.out k o h; have := HB3.out.size; omega)
        have HLf := Lib.hid (show LandOf (S.take (j + 1)) m from fun i => by
          have hst := set_take HI.out HS.out
          rw [HFr.out i, HLd.out i, ← hst, cov_new (fun t ht e => by
            have := take_lt HI.out HS.out t ht
            have := (HI.out.1 t (List.mem_of_mem_take ht)).1.ps1
            omega) HG.out.2 i]
          constructor
          · rintro ⟨⟨a1, a2, a3⟩, a4⟩
            exact ⟨a1, a2, fun h => h.elim a3 a4⟩
          · rintro ⟨a1, a2, a3⟩
            exact ⟨⟨a1, a2, fun h => a3 (.inl h)⟩, fun h => a3 (.inr h)⟩)
        clear hset hH6 hO6 hk6
        go_wp2
        go_roundg (S.length - (j + 1))
        case measure => rw [hq]; exact Nat.sub_lt_sub_left HLt.out (Nat.lt_succ_self j)
        case rel => exact ⟨j + 1, rfl, HLt.out, by go_num, Lib.hid ⟨m, F2, HH6.out, HLf.out, HF6.out⟩, HB6⟩
    · obtain rfl : j = S.length := by omega
      rw [List.take_length] at hh1 hl
      have HH := Lib.hid hh1
      have HLd := Lib.hid hl
      have HF := Lib.hid hF
      clear hh1 hl hF
      go_wp2
      go_ret2
      exact ⟨H, L, l, F, rfl, HH.out, HLd.out, HF.out, hb.out⟩
end Go.Proofs.YtadbbknllakpcaaGreat

/- The law's example; plain facts of a heap whose free pages lie in one row. -/
namespace Go.Proofs.YtadbbknllakpcaaGreat
open Go.RowKit
set_option linter.unusedVariables false

/-- The free pages lie in one row, from x on. -/
def rowL (x : Nat) : List (Nat × Nat) := [(x, 4096 - x)]
theorem set_last {S : List Sp} {s : Sp} (hc : 0 < s.cnt) (h : ∀ t ∈ S, t.pg < s.pg) : setS S s = S ++ [s] := by
  unfold setS
  rw [if_pos hc, List.filter_eq_self.2 (fun t ht => decide_eq_true (h t ht)), List.filter_eq_nil_iff.2 (fun t ht => by simp only [decide_eq_true_eq]; have := h t ht; omega), List.append_nil]
theorem row_best {x m : Nat} (hm : x + m ≤ 4096) : rn.BestTo (rowL x) (m : Int) (rowL x).length 0 (x, 4096 - x) :=
  rn.best_first (by omega) (fun q hq _ => by simp [rowL] at hq)
theorem row_cut {x m : Nat} (hm : x + m < 4096) (h1 : 1 ≤ m) : cutL (rowL x) 0 (x, 4096 - x) m = rowL (x + m) := by
  unfold cutL rowL
  rw [rn.leftR_front (by omega)]
  simp
  omega
theorem alloc_fresh {S : List Sp} {x : Nat} {n : Int} (h1 : 1 ≤ n) (h2 : n ≤ 2096640) (hp : ofL n < 0 ∨ partS S (ofL n) = []) (hx : x + pagesFor n < 4096) :
    AllocL S (rowL x) n (512 * (x : Int)) 0 (setS S (newSp x n)) (rowL (x + pagesFor n)) :=
  .inr ⟨⟨h1, h2⟩, .inr ⟨hp, .inr ⟨0, (x, 4096 - x), row_best (by omega), rfl, rfl, rfl, (row_cut hx (pagesFor_bd h1 h2).1).symm⟩⟩⟩
theorem alloc_part {S : List Sp} {l : List (Nat × Nat)} {n : Int} {s : Sp} {rest : List Nat} {i : Nat} (h : partS S (ofL n) = s.pg :: rest) (hs : s ∈ S) (hc : s.cl = ofL n) (hn : ¬ ofL n < 0) (hi : FirstIn s i) :
    AllocL S l n (s.at i) 0 (setS S (s.with i true)) l := by
  have := pages_class hn
  exact .inr ⟨by omega, .inl ⟨by omega, s, rest, i, h, hs, hc, hi, rfl, rfl, rfl, rfl⟩⟩
theorem AllocL.bd {S : List Sp} {l : List (Nat × Nat)} {n a e : Int} {S' : List Sp} {l' : List (Nat × Nat)} (hI : Inv S) (hc : rn.Canon l) (h : AllocL S l n a e S' l') : 0 ≤ a ∧ a ≤ 2097152 := by
  rcases h with ⟨_, rfl, _⟩ | ⟨_, ⟨_, s, r, i, _, hs, _, hi, rfl, _⟩ | ⟨_, ⟨_, rfl, _⟩ | ⟨b, p, hb, rfl, _⟩⟩⟩
  · omega
  · have h1 := at_in (hI.1 s hs).1 hi.1
    have h2 := (hI.1 s hs).1.ps1
    have := (hI.1 s hs).1.size
    omega
  · omega
  · have := hc.mem hb.2.1
    omega
def exS : Sp := newSp 1 16
theorem ex_of : ofL 16 = 0 ∧ ofL 1 = 0 ∧ ofL 2000 = -1 ∧ pagesFor 16 = 1 ∧ pagesFor 2000 = 4 := by decide
theorem exS_eq : exS = ⟨1, 1, 0, bit0⟩ := by unfold exS newSp; rw [ex_of.2.2.2.1, if_neg (by rw [ex_of.1]; omega), ex_of.1]
theorem exS_per : exS.per = 32 ∧ exS.siz = 16 := by rw [exS_eq]; decide
theorem exS_cnt : exS.cnt = 1 := by
  rw [exS_eq]
  show cntF bit0 (perN 0) = 1
  decide
def exT : Sp := newSp 2 2000
theorem exT_eq : exT = ⟨2, 4, 255, bit0⟩ := by unfold exT newSp; rw [ex_of.2.2.2.2, if_pos (by rw [ex_of.2.2.1]; omega)]
theorem ex1 : AllocL [] (rowL 1) 16 512 0 [exS] (rowL 2) := by
  have h := alloc_fresh (S := []) (x := 1) (n := 16) (by omega) (by omega) (.inr rfl) (by rw [ex_of.2.2.2.1]; omega)
  rw [ex_of.2.2.2.1, set_last (by have := exS_cnt; unfold exS at this; omega) (fun t ht => by cases ht)] at h
  exact h
theorem ex2 : AllocL [exS] (rowL 2) 1 528 0 [exS.with 1 true] (rowL 2) := by
  have hp : partS [exS] (ofL 1) = exS.pg :: [] := by
    have hq : exS.part (ofL 1) = true := by
      unfold Sp.part
      rw [exS_cnt, exS_per.1, ex_of.2.1, exS_eq]; rfl
    simp [partS, hq]
  have h := alloc_part (l := rowL 2) hp (by simp) (by rw [ex_of.2.1, exS_eq]) (by rw [ex_of.2.1]; omega) (i := 1) ⟨by rw [exS_per.1]; omega, by rw [exS_eq]; rfl, fun j hj => by
    obtain rfl : j = 0 := by omega
    rw [exS_eq]; rfl⟩
  have e1 : exS.at 1 = 528 := by unfold Sp.at; rw [exS_per.2, exS_eq]; rfl
  have e2 : setS [exS] (exS.with 1 true) = [exS.with 1 true] := by
    have hc : 0 < (exS.with 1 true).cnt := by
      have : (exS.with 1 true).cnt = exS.cnt + 1 := cntF_set exS.f 1 exS.per (by rw [exS_eq]; rfl) (by rw [exS_per.1]; omega)
      omega
    unfold setS
    rw [if_pos hc]
    simp [Sp.with]
  rw [e1, e2] at h
  exact h
theorem ex3 : AllocL [exS.with 1 true] (rowL 2) 2000 1024 0 [exS.with 1 true, exT] (rowL 6) := by
  have h := alloc_fresh (S := [exS.with 1 true]) (x := 2) (n := 2000) (by omega) (by omega) (.inl (by rw [ex_of.2.2.1]; omega)) (by rw [ex_of.2.2.2.2]; omega)
  have hc : 0 < (newSp 2 2000).cnt := (newSp_ok (q := 2) (n := 2000) (by omega) (by omega) (by omega) (by rw [ex_of.2.2.2.2]; omega)).2.1
  rw [ex_of.2.2.2.2, set_last hc (fun t ht => by
    obtain rfl := List.mem_singleton.1 ht
    show exS.pg < 2
    rw [exS_eq]; decide)] at h
  exact h
theorem ex4 {r n e : Int} {S' : List Sp} {l' : List (Nat × Nat)} (hI : Inv [exS.with 1 true, exT]) (h : FreeL [exS.with 1 true, exT] (rowL 6) 1024 r n e S' l') : r = 2 ∧ n = 4 ∧ e = 0 := by
  have hT : exT ∈ [exS.with 1 true, exT] := by simp
  have hper : exT.per = 1 := by rw [exT_eq]; decide
  have h0 : exT.f 0 = true := by rw [exT_eq]; rfl
  have hat : exT.at 0 = 1024 := by
    unfold Sp.at
    rw [Nat.zero_mul, exT_eq]
    decide
  rcases h with ⟨_, _, _, _, _, hno⟩ | ⟨s, hs, i, hi, hf, hx, rfl, _, h⟩
  · exact absurd ⟨exT, hT, 0, by omega, h0, hat.symm, rfl⟩ (hno _)
  · have h1 := at_in (hI.1 s hs).1 hi
    have h2 := at_in (hI.1 exT hT).1 (i := 0) (by omega)
    have h3 := (hI.1 s hs).1.size
    have h4 := (hI.1 exT hT).1.size
    have hse : s = exT := in_one hI hs hT (x := 1024) (by omega) (by omega)
    subst hse
    obtain rfl : i = 0 := by omega
    have hz : (exT.with 0 false).cnt = 0 := by
      show cntF (put exT.f 0 false) exT.per = 0
      rw [hper]
      simp [cntF, put]
    rcases h with ⟨h5, _⟩ | ⟨_, rfl, rfl⟩
    · omega
    · rw [exT_eq]; exact ⟨rfl, rfl, rfl⟩
theorem zero_at (w : World) : SpansAt w none [] := ⟨fun _ => (none, 0), .inl rfl, fun i s h => by simp at h⟩
theorem HStep.of {F : Nat → Prop} {w w' : World} {H L n : Nat} {S : List Sp} {l : List (Nat × Nat)} (h : HStep F w w' H L n S l) {B : Nat} (hF : ∀ k, F k → B ≤ k) (hB : B ≤ w.heap.size) : ∃ F', HeapAt w' H L n S l F' ∧ (∀ k, F' k → B ≤ k) ∧ Only F w w' := by
  obtain ⟨F', h1, h2, h3⟩ := h
  exact ⟨F', h1, fun k hk => (h3 k hk).elim (hF k) (fun h => Nat.le_trans hB h), h2⟩
set_option maxRecDepth 8000 in
set_option maxHeartbeats 8000000 in
theorem awake17_calls (w : World) : Calls Tryz.prog 4 #[] w fun e w' => e = .returned (.bool true) ∧ Below w.heap.size w w' := by
  go_enter Tryz.func4, Tryz.ntmps4
  go_wp2_with fail
  refine (new17_calls w none 0 [] (zero_at w) inv_nil).mono ?_
  rintro e w1 ⟨H, L, l, F, rfl, hH, hl, hF, hB⟩
  obtain rfl : l = rowL 1 := LandOf.one hl land_none hH.canon (rn.canon_one (by omega) (by omega) (by omega))
  have HH := Lib.hid hH
  have HL := Lib.hid hl
  have HF := Lib.hid hF
  have HB := Lib.hid hB
  clear hH hl hF hB
  go_wp2_with fail
  refine (alloc17_calls w1 H L _ [] (rowL 1) F 16 HH.out HL.out (by simp) (by unfold I64; omega)).mono ?_
  rintro e w2 ⟨a, er, S1, l1, rfl, hA, hl, hS⟩
  obtain ⟨rfl, rfl, rfl, rfl⟩ := hA.one inv_nil ex1
  obtain ⟨F1, hH1, hF1, ho1⟩ := hS.of HF.out HB.out.size
  have HH1 := Lib.hid hH1
  have HL1 := Lib.hid hl
  have HF1 := Lib.hid hF1
  have HB1 := Lib.hid (bel_only HB.out ho1 (Nat.le_refl _) HF.out)
  clear hA hl hS hH1 hF1 ho1
  go_wp2_with fail
  refine (alloc17_calls w2 H L _ [exS] (rowL 2) F1 1 HH1.out HL1.out (by simp) (by unfold I64; omega)).mono ?_
  rintro e w3 ⟨a, er, S2, l2, rfl, hA, hl, hS⟩
  obtain ⟨rfl, rfl, rfl, rfl⟩ := hA.one HH1.out.inv ex2
  obtain ⟨F2, hH2, hF2, ho2⟩ := hS.of HF1.out HB1.out.size
  have HH2 := Lib.hid hH2
  have HL2 := Lib.hid hl
  have HF2 := Lib.hid hF2
  have HB2 := Lib.hid (bel_only HB1.out ho2 (Nat.le_refl _) HF1.out)
  clear hA hl hS hH2 hF2 ho2
  go_wp2_with fail
  refine (alloc17_calls w3 H L _ [exS.with 1 true] (rowL 2) F2 2000 HH2.out HL2.out (by simp) (by unfold I64; omega)).mono ?_
  rintro e w4 ⟨a, er, S3, l3, rfl, hA, hl, hS⟩
  obtain ⟨rfl, rfl, rfl, rfl⟩ := hA.one HH2.out.inv ex3
  obtain ⟨F3, hH3, hF3, ho3⟩ := hS.of HF2.out HB2.out.size
  have HH3 := Lib.hid hH3
  have HL3 := Lib.hid hl
  have HF3 := Lib.hid hF3
  have HB3 := Lib.hid (bel_only HB2.out ho3 (Nat.le_refl _) HF2.out)
  clear hA hl hS hH3 hF3 ho3
  go_wp2_with fail
  refine (free17_calls w4 H L _ [exS.with 1 true, exT] (rowL 6) F3 1024 HH3.out HL3.out (by simp) (by unfold I64; omega)).mono ?_
  rintro e w5 ⟨r, k, er, S4, l4, rfl, hA, hl, hS⟩
  obtain ⟨rfl, rfl, rfl⟩ := ex4 HH3.out.inv hA
  obtain ⟨F4, hH4, hF4, ho4⟩ := hS.of HF3.out HB3.out.size
  have HB4 := Lib.hid (bel_only HB3.out ho4 (Nat.le_refl _) HF3.out)
  clear hA hl hS hH4 hF4 ho4
  obtain ⟨w6, hw6, hR6, hB6⟩ := one_row w5 2 4
  have HB6 := Lib.hid (bel_next HB4.out hB6 (Nat.le_refl _))
  have r0 := Blk.cell hR6 0
  have r1 := Blk.cell hR6 1
  simp at r0 r1
  clear hR6 hB6
  go_wp2
  go_ret
  exact ⟨rfl, HB6.out⟩
end Go.Proofs.YtadbbknllakpcaaGreat

/- What the laws keep: a heap and a row of addresses. -/
namespace Go.Proofs.YtadbbknllakpcaaGreat
open Go.RowKit
set_option linter.unusedVariables false

def intsV (xs : List Int) : List Value := xs.map (.int .i64)
theorem intsV_snoc (xs : List Int) (x : Int) : intsV xs ++ [.int .i64 x] = intsV (xs ++ [x]) := by unfold intsV; simp
/-- A heap, and beside it a row of numbers of the call's own. -/
def StF (F : Nat → Prop) (w wr : World) (H L n : Nat) (S : List Sp) (l : List (Nat × Nat)) (xs : List Int) (v : Value) : Prop :=
  HeapAt wr H L n S l F ∧ LandOf S l ∧ (∀ k, F k → w.heap.size ≤ k) ∧ wr.ownsRow w.heap.size 3 1 v xs.length (intsV xs) ∧ (∀ k, v.ownBlock = some k → ¬ F k) ∧ Below w.heap.size w wr
theorem StF.step {F : Nat → Prop} {w wr w' : World} {H L n n' : Nat} {S S' : List Sp} {l l' : List (Nat × Nat)} {xs : List Int} {v : Value} (h : StF F w wr H L n S l xs v) (hs : HStep F wr w' H L n' S' l') (hl : LandOf S' l') : ∃ F', StF F' w w' H L n' S' l' xs v := by
  obtain ⟨h1, h2, h3, h4, h5, h6⟩ := h
  obtain ⟨F', g1, g2, g3⟩ := hs
  refine ⟨F', g1, hl, fun k hk => (g3 k hk).elim (h3 k) (fun h => Nat.le_trans h6.size h), own_onlyC h4 g2 (fun k hk hF => h5 k hk hF), fun k hk hF => ?_, bel_only h6 g2 (Nat.le_refl _) h3⟩
  rcases g3 k hF with h | h
  · exact h5 k hk h
  · have := (h4.lt k hk).2; omega
theorem StF.below {F : Nat → Prop} {w wr w' : World} {H L n : Nat} {S : List Sp} {l : List (Nat × Nat)} {xs : List Int} {v : Value} (h : StF F w wr H L n S l xs v) (hb : Below wr.heap.size wr w') : StF F w w' H L n S l xs v := by
  obtain ⟨h1, h2, h3, h4, h5, h6⟩ := h
  exact ⟨h1.below hb, h2, h3, ownsRow_below h4 hb, h5, bel_next h6 hb (Nat.le_refl _)⟩
theorem StF.app {F : Nat → Prop} {w wr w' : World} {H L n : Nat} {S : List Sp} {l : List (Nat × Nat)} {xs : List Int} {v v' : Value} {x : Int} (h : StF F w wr H L n S l xs v) (ho : w'.ownsRow w.heap.size 3 1 v' (xs.length + 1) (intsV xs ++ (#[Value.int .i64 x]).toList)) (hg : wr.grownBy w' v.ownBlock) (hn : NewRow (wr.heap.size + 1) v v') : StF F w w' H L n S l (xs ++ [x]) v' := by
  obtain ⟨h1, h2, h3, h4, h5, h6⟩ := h
  refine ⟨h1.only (G := fun k => v.ownBlock = some k) (Only.grown (Only.refl _ wr) hg (fun k hk _ => hk)) (fun k hk e => h5 k e hk), h2, h3, ?_, fun k hk hF => ?_, h6.grown hg h6.size (fun k hk => (h4.lt k hk).1)⟩
  · rw [← intsV_snoc, List.length_append]
    simpa using ho
  · rcases hn with h | ⟨j, h, hj⟩
    · rw [h] at hk; exact h5 k hk hF
    · rw [h] at hk; cases hk
      have := h1.lt k hF; omega
theorem StF.start {F : Nat → Prop} {w wr : World} {H L n : Nat} {S : List Sp} {l : List (Nat × Nat)} (h : HeapAt wr H L n S l F) (hl : LandOf S l) (hF : ∀ k, F k → w.heap.size ≤ k) (hb : Below w.heap.size w wr) : StF F w wr H L n S l [] (.slice none 0 0) :=
  ⟨h, hl, hF, World.ownsRow_nil _ _ _ _, (fun k hk => by cases hk), hb⟩
theorem own_ints {w : World} {B n : Nat} {v : Value} {xs : List Int} (h : w.ownsRow B 3 1 v n (intsV xs)) {i : Nat} {x : Int} (hi : xs[i]? = some x) : ∃ b c, v = .slice (some ⟨b, 0, none⟩) n c ∧ w.cell? ⟨b, i, none⟩ = some (.int .i64 x) := by
  obtain ⟨A, c, rfl⟩ := ownsRow_slice h
  have hlen : xs.length = n := by have := h.1; unfold intsV at this; simpa using this
  rcases own_slcI h with ⟨he, h0⟩ | ⟨g, cap, cur, he, _, hS, ht⟩
  · have := (List.getElem?_eq_some_iff.1 hi).1; omega
  · cases he
    refine ⟨g, _, rfl, ?_⟩
    rw [hS.1.cell i]
    have h1 : (cur.take n)[i]? = some (.int .i64 x) := by rw [ht]; unfold intsV; rw [List.getElem?_map, hi]; rfl
    rw [List.getElem?_take] at h1
    split at h1
    · exact h1
    · cases h1
theorem one_int (x : Int) : ∀ u ∈ (#[Value.int .i64 x]).toList, u.oneCell' = true := fun u hu => by simp at hu; subst hu; rfl
theorem info_IntA : (Tryz.prog.info? 3).map (fun i => (i.zero, i.size, i.bytes)) = some (some (.int .i64 0), 1, 8) := by kernel_rfl
end Go.Proofs.YtadbbknllakpcaaGreat
