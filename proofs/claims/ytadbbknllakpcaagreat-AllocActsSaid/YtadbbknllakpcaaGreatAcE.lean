/- Spans that came in: are they right? The program's answer. -/
import Derived.Test.YtadbbknllakpcaaGreatAcA
import Derived.Test.YtadbbknllakpcaaGreatBitZ
namespace Go.Proofs.YtadbbknllakpcaaGreat
open Go.RowKit
set_option linter.unusedVariables false

/-- A span that came in. -/
structure Raw where
  pg : Int
  ps : Int
  cl : Int
  A : Option Addr
  len : Nat
  cap : Nat
  f : Nat → Bool
def Raw.good (r : Raw) : Prop := Good r.pg r.ps r.cl r.len r.f ∧ 0 < cntF r.f (perN r.cl)
def endR (Q : Nat → Raw) : Nat → Int
  | 0 => 0
  | k + 1 => (Q k).pg + (Q k).ps
def RightTo (Q : Nat → Raw) (k : Nat) : Prop := ∀ i, i < k → (Q i).good ∧ endR Q i ≤ (Q i).pg
def RawAt (w : World) (A : Option Addr) (n : Nat) (Q : Nat → Raw) : Prop :=
  ∀ i, i < n → (∃ b o, A = some ⟨b, o, none⟩ ∧ b < w.heap.size ∧ Four w b (o + i * 4) (Q i).pg (Q i).ps (Q i).cl (Q i).A (Q i).len (Q i).cap) ∧ (I64 (Q i).pg ∧ I64 (Q i).ps ∧ I64 (Q i).cl) ∧ WordsAt w (Q i).A (Q i).len (Q i).f
theorem RawAt.below {w w' : World} {A : Option Addr} {n : Nat} {Q : Nat → Raw} (h : RawAt w A n Q) (hb : Below w.heap.size w w') : RawAt w' A n Q := fun i hi => by
  obtain ⟨⟨b, o, h1, h2, h3⟩, h4, h5⟩ := h i hi
  exact ⟨⟨b, o, h1, Nat.lt_of_lt_of_le h2 hb.size, keep_four hb h2 h3⟩, h4, h5.below hb⟩
theorem good_iff {r : Raw} {w : World} (h : WordsAt w r.A r.len r.f) : rightP r.pg r.ps r.cl r.len r.f ↔ r.good :=
  ⟨fun h1 => Good.of_right h1 h.2.1, fun h1 => good_right h1.1 h1.2⟩
theorem RightTo.end {Q : Nat → Raw} {k : Nat} (h : RightTo Q k) : 0 ≤ endR Q k ∧ endR Q k ≤ 4096 := by
  cases k with
  | zero => exact ⟨Int.le_refl _, by show (0 : Int) ≤ 4096; decide⟩
  | succ k =>
    have h1 := (h k (by omega)).1.1
    have := h1.p1
    have := h1.p2
    have := h1.p3
    simp only [endR]
    omega
theorem RightTo.next {Q : Nat → Raw} {k : Nat} (h : RightTo Q k) (h1 : (Q k).good) (h2 : endR Q k ≤ (Q k).pg) : RightTo Q (k + 1) := fun i hi => by
  by_cases e : i = k
  · subst e; exact ⟨h1, h2⟩
  · exact h i (by omega)
set_option maxRecDepth 8000 in
set_option maxHeartbeats 8000000 in
theorem aright_any (w : World) (A : Option Addr) (n cap : Nat) (Q : Nat → Raw) (hA : RawAt w A n Q) (hn : n ≤ 1000) :
    Calls Tryz.prog 7 #[.slice A n cap] w fun e w' => ∃ bb, e = .returned (.bool bb) ∧ (bb = true ↔ RightTo Q n) ∧ Below w.heap.size w w' := by
  have HA := Lib.hid hA
  clear hA
  go_enter Tryz.func7, Tryz.ntmps7
  go_wp2_with fail
  go_loopg [8, 3] n (fun q s8 s3 wr => ∃ j, q = n - j ∧ j ≤ n ∧ s8 = .int .i64 (j : Int) ∧ s3 = .int .i64 (endR Q j) ∧ Hid (RightTo Q j) ∧ Hid (Below w.heap.size w wr))
  case atStart => exact ⟨0, by omega, by omega, rfl, rfl, Lib.hid (fun i hi => by omega), Lib.hid (Below.refl _ _)⟩
  case round =>
    obtain ⟨j, hq, hjl, rfl, rfl, hrt, hb⟩ := hrel
    by_cases hlt : j < n
    · obtain ⟨⟨b1, o1, rfl, hb1, hf1⟩, hi64, hwd⟩ := (HA.out.below hb.out) j hlt
      obtain ⟨f0, f1, f2, f3⟩ := hf1
      obtain ⟨en, hen⟩ : ∃ en, endR Q j = en := ⟨_, rfl⟩
      have hend := hrt.out.end
      rw [hen] at hend ⊢
      obtain ⟨w2, hw2, hX2, hB2⟩ := one_span _ (Q j).pg (Q j).ps (Q j).cl (Q j).A (Q j).len (Q j).cap
      have HW2 := Lib.hid (hwd.below hB2)
      have HX2 := Lib.hid hX2
      have HB2 := Lib.hid (bel_next hb.out hB2 (Nat.le_refl _))
      have HI := Lib.hid hi64
      have HEn := Lib.hid hen
      obtain ⟨s0, s1, s2, s3⟩ := hX2.cells
      have HLt := Lib.hid hlt
      clear hb1 hX2 hB2 hwd hi64 hen
      go_wp2_with fail
      refine (right_calls (Q j).pg (Q j).ps (Q j).cl (Q j).A (Q j).len (Q j).cap (Q j).f _ HI.out.1 HI.out.2.1 HI.out.2.2 HW2.out).mono ?_
      rintro e w3 ⟨bb, rfl, hbb, hB3⟩
      have hbb2 := hbb.trans (good_iff HW2.out)
      obtain ⟨x0, x1, x2, x3⟩ := (SpB.below HX2.out hB3).cells
      have HB3 := Lib.hid (bel_next HB2.out hB3 (Nat.le_refl _))
      have HBb := Lib.hid hbb2
      clear hbb hbb2 hB3 hw2 s0 s1 s2 s3
      cases bb
      · go_wp2
        go_ret
        exact ⟨false, rfl, ⟨fun h => (by cases h), fun h => absurd (HBb.out.2 (h j HLt.out).1) (by decide)⟩, HB3.out⟩
      · have hgd := (HBb.out.1 rfl).1
        have p1 := hgd.p1
        have p2 := hgd.p2
        have p3 := hgd.p3
        clear hgd
        by_cases hle : (Q j).pg < en
        · have hdl : decide ((Q j).pg < en) = true := decide_eq_true hle
          have HLe := Lib.hid hle
          go_wp2
          go_ret
          exact ⟨false, rfl, ⟨fun h => (by cases h), fun h => by have := (h j HLt.out).2; rw [HEn.out] at this; have := HLe.out; omega⟩, HB3.out⟩
        · have hdl : decide ((Q j).pg < en) = false := decide_eq_false hle
          have hadd : wrap64 ((Q j).pg + (Q j).ps) = (Q j).pg + (Q j).ps := IntWalk.wrap64_in _ (by omega)
          have HNx := Lib.hid (show RightTo Q (j + 1) from hrt.out.next (HBb.out.1 rfl) (by rw [HEn.out]; omega))
          go_wp2
          go_roundg (n - (j + 1))
          case measure => first | (rw [hq]; exact Nat.sub_lt_sub_left HLt.out (Nat.lt_succ_self _)) | exact Nat.sub_lt_sub_left HLt.out (Nat.lt_succ_self _)
          case rel => exact ⟨j + 1, rfl, HLt.out, by go_num, by first | rfl | (simp only [endR]; go_num), HNx, HB3⟩
    · obtain rfl : j = n := by omega
      go_wp2
      go_ret
      exact ⟨true, rfl, ⟨fun _ => hrt.out, fun _ => rfl⟩, hb.out⟩
theorem anew_no (w : World) (A : Option Addr) (n cap : Nat) (Q : Nat → Raw) (hA : RawAt w A n Q) (hn : n ≤ 1000) (hno : ¬ RightTo Q n) :
    Calls Tryz.prog 5 #[.slice A n cap] w fun e w' => e = .returned (.tuple #[.pointer none, .int .i64 2]) ∧ Below w.heap.size w w' := by
  have HA := Lib.hid hA
  have HNo := Lib.hid (show RightTo Q n → False from hno)
  clear hA hno
  go_enter Tryz.func5, Tryz.ntmps5
  go_wp2_with fail
  refine (aright_any w A n cap Q HA.out hn).mono ?_
  rintro e w0 ⟨bb, rfl, hbb, hB0⟩
  have HB0 := Lib.hid hB0
  obtain rfl : bb = false := by
    cases bb
    · rfl
    · exact absurd (hbb.1 rfl) HNo.out
  clear hB0 hbb
  go_wp2
  go_ret2
  exact ⟨rfl, HB0.out⟩
/-- The spans that are right, as a list. -/
def spR (r : Raw) : Sp := ⟨r.pg.toNat, r.ps.toNat, r.cl, r.f⟩
def zR (Q : Nat → Raw) (n : Nat) : List Zp := (List.range n).map fun i => (spR (Q i), (Q i).A, (Q i).cap)
theorem zR_at {Q : Nat → Raw} {n i : Nat} (h : i < n) : (zR Q n)[i]? = some (spR (Q i), (Q i).A, (Q i).cap) := by unfold zR; simp [h]
theorem zR_len (Q : Nat → Raw) (n : Nat) : (zR Q n).length = n := by unfold zR; simp
theorem spR_ok {r : Raw} (h : r.good) : (spR r).ok ∧ 0 < (spR r).cnt ∧ ((spR r).pg : Int) = r.pg ∧ ((spR r).ps : Int) = r.ps ∧ (spR r).len = r.len := by
  have p1 := h.1.p1
  have p2 := h.1.p2
  have e1 : ((r.pg.toNat : Nat) : Int) = r.pg := by omega
  have e2 : ((r.ps.toNat : Nat) : Int) = r.ps := by omega
  have e3 : (spR r).len = r.len := h.1.live.1.symm
  refine ⟨?_, h.2, e1, e2, e3⟩
  unfold Sp.ok
  rw [e3]
  show Good ((r.pg.toNat : Nat) : Int) ((r.ps.toNat : Nat) : Int) r.cl r.len r.f
  rw [e1, e2]
  exact h.1
theorem RightTo.mono {Q : Nat → Raw} {i j : Nat} (h : RightTo Q j) (hij : i < j) : endR Q (i + 1) ≤ endR Q j := by
  induction j with
  | zero => omega
  | succ j ih =>
    by_cases e : i = j
    · subst e; exact Int.le_refl _
    · have h1 : (Q i).pg + (Q i).ps ≤ endR Q j := ih (fun k hk => h k (by omega)) (by omega)
      have h2 := h j (by omega)
      have := h2.1.1.p2
      have h3 := h2.2
      show (Q i).pg + (Q i).ps ≤ (Q j).pg + (Q j).ps
      omega
theorem zR_inv {Q : Nat → Raw} {n : Nat} (h : RightTo Q n) : Inv (spsZ (zR Q n)) := by
  constructor
  · intro s hs
    unfold spsZ zR at hs
    rw [List.map_map] at hs
    obtain ⟨i, hi, rfl⟩ := List.mem_map.1 hs
    have := spR_ok (h i (List.mem_range.1 hi)).1
    exact ⟨this.1, this.2.1⟩
  · rw [List.pairwise_iff_getElem]
    intro i j hi hj hij
    have hl : (spsZ (zR Q n)).length = n := by rw [spsZ_len, zR_len]
    rw [hl] at hi hj
    have e1 : (spsZ (zR Q n))[i]'(by omega) = spR (Q i) := by
      have := spsZ_at (zR_at (Q := Q) hi)
      exact (List.getElem?_eq_some_iff.1 this).2
    have e2 : (spsZ (zR Q n))[j]'(by omega) = spR (Q j) := by
      have := spsZ_at (zR_at (Q := Q) hj)
      exact (List.getElem?_eq_some_iff.1 this).2
    rw [e1, e2]
    have g1 := spR_ok (h i hi).1
    have g2 := spR_ok (h j hj).1
    have h1 : (Q i).pg + (Q i).ps ≤ endR Q j := RightTo.mono (fun k hk => h k (by omega)) hij
    have h2 := (h j hj).2
    have := g1.2.2.1
    have := g1.2.2.2.1
    have := g2.2.2.1
    omega
theorem cz_raw {w : World} {b o n : Nat} {Q : Nat → Raw} (h : RightTo Q n) (hf : ∀ i, i < n → Four w b (o + i * 4) (Q i).pg (Q i).ps (Q i).cl (Q i).A (Q i).len (Q i).cap) : ∀ i u, (cz (zR Q n))[i]? = some u → w.cell? ⟨b, o + i, none⟩ = some u := by
  intro i u hu
  have hlt := (List.getElem?_eq_some_iff.1 hu).1
  rw [cz_len, zR_len] at hlt
  obtain ⟨k, r, hk, hr⟩ : ∃ k r, i = k * 4 + r ∧ r < 4 := ⟨i / 4, i % 4, by omega, by omega⟩
  have hkn : k < n := by omega
  obtain ⟨c0, c1, c2, c3⟩ := cz_at (zR Q n) k _ (zR_at hkn)
  obtain ⟨f0, f1, f2, f3⟩ := hf k hkn
  obtain ⟨_, _, g3, g4, g5⟩ := spR_ok (h k hkn).1
  simp only at c0 c1 c2 c3
  rw [g3] at c0
  rw [g4] at c1
  rw [g5] at c3
  subst hk
  match r, hr with
  | 0, _ => rw [Nat.add_zero] at hu ⊢; rw [c0] at hu; cases hu; exact f0
  | 1, _ => rw [c1] at hu; cases hu; rw [← Nat.add_assoc]; exact f1
  | 2, _ => rw [c2] at hu; cases hu; rw [← Nat.add_assoc]; exact f2
  | 3, _ => rw [c3] at hu; cases hu; rw [← Nat.add_assoc]; exact f3
/-- The spans that came in, as the document's heap has them. -/
theorem zR_rd {w : World} {A : Option Addr} {n : Nat} {Q : Nat → Raw} (hA : RawAt w A n Q) (h : RightTo Q n) : RdAt w A n (cz (zR Q n)) ∧ ∀ z ∈ zR Q n, WordsAt w z.2.1 z.1.len z.1.f := by
  refine ⟨?_, fun z hz => ?_⟩
  · by_cases h0 : n = 0
    · exact .inl h0
    · obtain ⟨⟨b, o, rfl, hb, _⟩, _⟩ := hA 0 (by omega)
      refine .inr ⟨b, o, rfl, hb, cz_raw h (fun i hi => ?_)⟩
      obtain ⟨⟨b2, o2, he, _, hf⟩, _⟩ := hA i hi
      cases he
      exact hf
  · obtain ⟨i, hi⟩ := List.mem_iff_getElem?.1 hz
    have hin : i < n := by have := (List.getElem?_eq_some_iff.1 hi).1; rw [zR_len] at this; exact this
    rw [zR_at hin] at hi
    cases hi
    have := (hA i hin).2.2
    show WordsAt w (Q i).A (spR (Q i)).len (Q i).f
    rw [(spR_ok (h i hin).1).2.2.2.2]
    exact this
theorem zR_spans {w : World} {A : Option Addr} {n : Nat} {Q : Nat → Raw} (hA : RawAt w A n Q) (h : RightTo Q n) : SpansAt w A (spsZ (zR Q n)) := by
  obtain ⟨h1, h2⟩ := zR_rd hA h
  refine ⟨fun i => ((zR Q n)[i]?.map (·.2)).getD (none, 0), ?_, fun i s hs => ?_⟩
  · rw [spsZ_len, cells_cz (zR Q n) 0 (fun i z hi => by simp [hi]), zR_len]
    exact h1
  · unfold spsZ at hs
    rw [List.getElem?_map] at hs
    cases hz : (zR Q n)[i]? with
    | none => rw [hz] at hs; cases hs
    | some z =>
      rw [hz] at hs
      cases hs
      show WordsAt w (((zR Q n)[i]?.map (·.2)).getD (none, 0)).1 z.1.len z.1.f
      rw [show ((zR Q n)[i]?.map (·.2)).getD (none, 0) = z.2 by rw [hz]; rfl]
      exact h2 z (List.mem_of_getElem? hz)
end Go.Proofs.YtadbbknllakpcaaGreat

/- Spans that came in: are they right? The document's answer. -/
namespace Go.Proofs.YtadbbknllakpcaaGreat
open Go.RowKit
set_option linter.unusedVariables false

theorem run_gtr0 (i : Nat) (bb : Bool) (h : bb = decide (0 < i)) (w : World) : (binOp .gtr 3 (.int .i64 (i : Int)) (.int .i64 0)).run Tryz.prog w = .ok (.bool bb) w := by
  subst h
  go_simp
theorem run_sub1 (i k : Nat) (h : i = k + 1) (hk : i ≤ 1000000) (w : World) : (binOp .sub 3 (.int .i64 (i : Int)) (.int .i64 1)).run Tryz.prog w = .ok (.int .i64 (k : Int)) w := by
  subst h
  go_simp
  exact IntWalk.i64_in _ (by omega)
theorem run_lssI (a b : Int) (bb : Bool) (h : bb = decide (a < b)) (w : World) : (binOp .lss 3 (.int .i64 a) (.int .i64 b)).run Tryz.prog w = .ok (.bool bb) w := by
  subst h
  go_simp
theorem four_i {w : World} {b o : Nat} {pg ps cl : Int} {A : Option Addr} {len cap : Nat} (h : Four w b o pg ps cl A len cap) (hb : b < w.heap.size) : ∀ w', Below w.heap.size w w' → w'.cell? ⟨b, o, none⟩ = some (.int .i64 pg) ∧ w'.cell? ⟨b, o + 1, none⟩ = some (.int .i64 ps) := fun w' hw => ⟨(hw.cell (p := ⟨b, o, none⟩) hb).trans h.1, (hw.cell (p := ⟨b, o + 1, none⟩) hb).trans h.2.1⟩
set_option maxRecDepth 8000 in
set_option maxHeartbeats 16000000 in
theorem rright17_calls (w : World) (A : Option Addr) (n cap : Nat) (Q : Nat → Raw) (hA : RawAt w A n Q) (hn : n ≤ 100000) :
    Calls Tryz.prog 6 #[.slice A n cap] w fun e w' => ∃ bb, e = .returned (.bool bb) ∧ (bb = true ↔ RightTo Q n) ∧ Below w.heap.size w w' := by
  have HA := Lib.hid hA
  clear hA
  go_enter Tryz.func6, Tryz.ntmps6
  go_wp2_with fail
  go_loopg [3] n (fun q s3 wr => ∃ j, q = n - j ∧ j ≤ n ∧ s3 = .int .i64 (j : Int) ∧ Hid (RightTo Q j) ∧ Hid (Below w.heap.size w wr))
  case atStart => exact ⟨0, by omega, by omega, rfl, Lib.hid (fun i hi => by omega), Lib.hid (Below.refl _ _)⟩
  case round =>
    obtain ⟨j, hq, hjl, rfl, hrt, hb⟩ := hrel
    by_cases hlt : j < n
    · have HAr := Lib.hid ((HA.out.below hb.out).below (Below.refl _ _).drew)
      obtain ⟨⟨b, o, rfl, hb1, hf1⟩, hi64, hwd⟩ := HAr.out j hlt
      have HF1 := Lib.hid hf1
      have HB1 := Lib.hid hb1
      have HI := Lib.hid hi64
      have HW := Lib.hid hwd
      have HLt := Lib.hid hlt
      have HFi := Lib.hid (four_i hf1 hb1)
      clear hf1 hb1 hi64 hwd
      by_cases hgd : (Q j).good
      · by_cases hj0 : j = 0
        · go_wp2_with fail
          refine wp_dag [(10, .slice (some ⟨b, o, none⟩) n cap), (11, .int .i64 ((j : Nat) : Int)), (12, .pointer (some ⟨b, o + j * 4, none⟩)), (13, .agg #[.int .i64 (Q j).pg, .int .i64 (Q j).ps, .int .i64 (Q j).cl, .slice (Q j).A (Q j).len (Q j).cap]), (14, .bool true), (15, .bool false), (16, .bool false), (17, .int .i64 ((j : Nat) : Int)), (18, .bool false), (19, .bool false), (20, undef), (21, undef), (22, undef), (23, undef), (24, undef), (25, undef), (26, undef), (27, undef), (28, undef), (29, undef), (30, undef), (31, undef), (32, undef), (33, undef), (34, undef), (35, undef), (36, undef), (37, undef), (38, undef), (39, .bool false), (40, .bool false)] (OneJ wr.drew 4 [3] (fun w' => Below wr.drew.heap.size wr.drew w')) (by kernel_rfl) (by kernel_rfl) (by kernel_rfl) (by kernel_rfl) .start ?_ ?_
          case refine_1 =>
            refine dag_cons (dag_val (v := .slice (some ⟨b, o, none⟩) n cap) (by kernel_rfl) (by kernel_rfl) (fun g0 w' h => by kernel_rfl) (fun g0 w' h => h.same rfl)) ?_
            refine dag_cons (dag_val (v := .int .i64 ((j : Nat) : Int)) (by kernel_rfl) (by kernel_rfl) (fun g0 w' h => by kernel_rfl) (fun g0 w' h => h.same rfl)) ?_
            refine dag_cons (dag_index (t := 22) (x := .tmp 10) (ix := .tmp 11) (v1 := .slice (some ⟨b, o, none⟩) n cap) (v2 := .int .i64 ((j : Nat) : Int)) (v := .pointer (some ⟨b, o + j * 4, none⟩)) (by kernel_rfl) (by kernel_rfl) (by kernel_rfl) (by kernel_rfl) (by kernel_rfl) (fun w' => run_atS w' b o _ cap j HLt.out) (fun g0 w' h => h.same rfl)) ?_
            refine dag_cons (dag_loadS4 (x := .tmp 12) (b := b) (o := o + j * 4) (pg := (Q j).pg) (ps := (Q j).ps) (cl := (Q j).cl) (A := (Q j).A) (len := (Q j).len) (cap := (Q j).cap) (by kernel_rfl) (by kernel_rfl) (by kernel_rfl) (by kernel_rfl) (fun g0 w' hg h => by obtain rfl := h.at rfl hg; exact HF1.out) (fun g0 w' h => h.same rfl)) ?_
            refine dag_cons (dag_call2 (f := 22) (args := #[.agg #[.int .i64 (Q j).pg, .int .i64 (Q j).ps, .int .i64 (Q j).cl, .slice (Q j).A (Q j).len (Q j).cap]]) (v := .bool true) (by kernel_rfl) (by kernel_rfl) (fun w' => by kernel_rfl) (fun g0 w' hg hd h => ?_)) ?_
            case refine_1 =>
              have hd3 : g0 3 = true := hd { on := 3, ground := Ground.data } (by simp) rfl
              obtain rfl := h.2.1 hg
              refine (right15_calls (Q j).pg (Q j).ps (Q j).cl (Q j).A (Q j).len (Q j).cap (Q j).f wr.drew HI.out.1 HI.out.2.1 HI.out.2.2 HW.out).mono ?_
              rintro e w2 ⟨bb, rfl, hbb, hb2⟩
              obtain rfl : bb = true := hbb.2 hgd
              exact ⟨rfl, h.call (by simp [hd3]) hb2⟩
            refine dag_cons (dag_val (v := .bool false) (by kernel_rfl) (by kernel_rfl) (fun g0 w' h => by kernel_rfl) (fun g0 w' h => h.same rfl)) ?_
            refine dag_cons (dag_val (v := .bool false) (by kernel_rfl) (by kernel_rfl) (fun g0 w' h => by kernel_rfl) (fun g0 w' h => h.same rfl)) ?_
            refine dag_cons (dag_val (v := .int .i64 ((j : Nat) : Int)) (by kernel_rfl) (by kernel_rfl) (fun g0 w' h => by kernel_rfl) (fun g0 w' h => h.same rfl)) ?_
            refine dag_cons (dag_bin (b := .gtr) (t := 3) (t' := 3) (x := .tmp 17) (y := .const (.int .i64 0)) (v1 := .int .i64 ((j : Nat) : Int)) (v2 := .int .i64 0) (v := .bool false) (by kernel_rfl) (by kernel_rfl) (by kernel_rfl) (by kernel_rfl) (by kernel_rfl) rfl (fun w' => run_gtr0 j _ (by simp [hj0]) w') (fun g0 w' h => h.same rfl)) ?_
            refine dag_cons (dag_val (v := .bool false) (by kernel_rfl) (by kernel_rfl) (fun g0 w' h => by kernel_rfl) (fun g0 w' h => h.same rfl)) ?_
            refine dag_cons (.inr ⟨by kernel_rfl, by kernel_rfl, fun g0 w' _ h => h.same rfl⟩) ?_
            refine dag_cons (.inr ⟨by kernel_rfl, by kernel_rfl, fun g0 w' _ h => h.same rfl⟩) ?_
            refine dag_cons (.inr ⟨by kernel_rfl, by kernel_rfl, fun g0 w' _ h => h.same rfl⟩) ?_
            refine dag_cons (.inr ⟨by kernel_rfl, by kernel_rfl, fun g0 w' _ h => h.same rfl⟩) ?_
            refine dag_cons (.inr ⟨by kernel_rfl, by kernel_rfl, fun g0 w' _ h => h.same rfl⟩) ?_
            refine dag_cons (.inr ⟨by kernel_rfl, by kernel_rfl, fun g0 w' _ h => h.same rfl⟩) ?_
            refine dag_cons (.inr ⟨by kernel_rfl, by kernel_rfl, fun g0 w' _ h => h.same rfl⟩) ?_
            refine dag_cons (.inr ⟨by kernel_rfl, by kernel_rfl, fun g0 w' _ h => h.same rfl⟩) ?_
            refine dag_cons (.inr ⟨by kernel_rfl, by kernel_rfl, fun g0 w' _ h => h.same rfl⟩) ?_
            refine dag_cons (.inr ⟨by kernel_rfl, by kernel_rfl, fun g0 w' _ h => h.same rfl⟩) ?_
            refine dag_cons (.inr ⟨by kernel_rfl, by kernel_rfl, fun g0 w' _ h => h.same rfl⟩) ?_
            refine dag_cons (.inr ⟨by kernel_rfl, by kernel_rfl, fun g0 w' _ h => h.same rfl⟩) ?_
            refine dag_cons (.inr ⟨by kernel_rfl, by kernel_rfl, fun g0 w' _ h => h.same rfl⟩) ?_
            refine dag_cons (.inr ⟨by kernel_rfl, by kernel_rfl, fun g0 w' _ h => h.same rfl⟩) ?_
            refine dag_cons (.inr ⟨by kernel_rfl, by kernel_rfl, fun g0 w' _ h => h.same rfl⟩) ?_
            refine dag_cons (.inr ⟨by kernel_rfl, by kernel_rfl, fun g0 w' _ h => h.same rfl⟩) ?_
            refine dag_cons (.inr ⟨by kernel_rfl, by kernel_rfl, fun g0 w' _ h => h.same rfl⟩) ?_
            refine dag_cons (.inr ⟨by kernel_rfl, by kernel_rfl, fun g0 w' _ h => h.same rfl⟩) ?_
            refine dag_cons (.inr ⟨by kernel_rfl, by kernel_rfl, fun g0 w' _ h => h.same rfl⟩) ?_
            refine dag_cons (dag_val (v := .bool false) (by kernel_rfl) (by kernel_rfl) (fun g0 w' h => by kernel_rfl) (fun g0 w' h => h.same rfl)) ?_
            refine dag_cons (dag_val (v := .bool false) (by kernel_rfl) (by kernel_rfl) (fun g0 w' h => by kernel_rfl) (fun g0 w' h => h.same rfl)) ?_
            exact dag_nil
          case refine_2 =>
            intro w3 hJ
            have HB3 := Lib.hid (bel_next hb.out (of_drewS (hJ.fin rfl)) (Nat.le_refl _))
            clear hJ
            simp only [putAll, List.foldl_cons, List.foldl_nil]
            go_frame
            have HNx := Lib.hid (show RightTo Q (j + 1) from hrt.out.next hgd (by subst hj0; have := hgd.1.p1; show (0 : Int) ≤ _; omega))
            go_wp2
            go_roundg (n - (j + 1))
            case measure => first | (rw [hq]; exact Nat.sub_lt_sub_left HLt.out (Nat.lt_succ_self _)) | exact Nat.sub_lt_sub_left HLt.out (Nat.lt_succ_self _)
            case rel => exact ⟨j + 1, rfl, HLt.out, by go_num, HNx, HB3⟩
        · obtain ⟨k, hk⟩ : ∃ k, j = k + 1 := ⟨j - 1, by omega⟩
          have hgk := hrt.out k (by omega)
          have p1 := hgk.1.1.p1
          have p2 := hgk.1.1.p2
          have p3 := hgk.1.1.p3
          have HP := Lib.hid (And.intro p1 (And.intro p2 p3))
          have HKn := Lib.hid (show k < n by omega)
          have HFk := Lib.hid (show ∀ w', Below _ _ w' → _ from four_i (by
            obtain ⟨⟨b2, o2, he, hb2, hf2⟩, _, _⟩ := HAr.out k (by omega)
            cases he
            exact hf2) HB1.out)
          have hend : endR Q j = (Q k).pg + (Q k).ps := by rw [hk]; rfl
          have HK := Lib.hid hk
          have hj1 : j ≤ 100000 := by omega
          obtain ⟨d, hd⟩ : ∃ d, d = decide ((Q j).pg < (Q k).pg + (Q k).ps) := ⟨_, rfl⟩
          have HD := Lib.hid hd
          have HEnd := Lib.hid hend
          clear hgk p1 p2 p3 hk hd hend hj0
          go_wp2_with fail
          refine wp_dag [(10, .slice (some ⟨b, o, none⟩) n cap), (11, .int .i64 ((j : Nat) : Int)), (12, .pointer (some ⟨b, o + j * 4, none⟩)), (13, .agg #[.int .i64 (Q j).pg, .int .i64 (Q j).ps, .int .i64 (Q j).cl, .slice (Q j).A (Q j).len (Q j).cap]), (14, .bool true), (15, .bool false), (16, .bool false), (17, .int .i64 ((j : Nat) : Int)), (18, .bool true), (19, .bool true), (20, .slice (some ⟨b, o, none⟩) n cap), (21, .int .i64 ((j : Nat) : Int)), (22, .pointer (some ⟨b, o + j * 4, none⟩)), (23, .pointer (some ⟨b, o + j * 4, none⟩)), (24, .int .i64 (Q j).pg), (25, .slice (some ⟨b, o, none⟩) n cap), (26, .int .i64 ((j : Nat) : Int)), (27, .int .i64 ((k : Nat) : Int)), (28, .pointer (some ⟨b, o + k * 4, none⟩)), (29, .pointer (some ⟨b, o + k * 4, none⟩)), (30, .int .i64 (Q k).pg), (31, .slice (some ⟨b, o, none⟩) n cap), (32, .int .i64 ((j : Nat) : Int)), (33, .int .i64 ((k : Nat) : Int)), (34, .pointer (some ⟨b, o + k * 4, none⟩)), (35, .pointer (some ⟨b, o + k * 4 + 1, none⟩)), (36, .int .i64 (Q k).ps), (37, .int .i64 ((Q k).pg + (Q k).ps)), (38, .bool d), (39, .bool d), (40, .bool d)] (OneJ wr.drew 4 [3] (fun w' => Below wr.drew.heap.size wr.drew w')) (by kernel_rfl) (by kernel_rfl) (by kernel_rfl) (by kernel_rfl) .start ?_ ?_
          case refine_1 =>
            refine dag_cons (dag_val (v := .slice (some ⟨b, o, none⟩) n cap) (by kernel_rfl) (by kernel_rfl) (fun g0 w' h => by kernel_rfl) (fun g0 w' h => h.same rfl)) ?_
            refine dag_cons (dag_val (v := .int .i64 ((j : Nat) : Int)) (by kernel_rfl) (by kernel_rfl) (fun g0 w' h => by kernel_rfl) (fun g0 w' h => h.same rfl)) ?_
            refine dag_cons (dag_index (t := 22) (x := .tmp 10) (ix := .tmp 11) (v1 := .slice (some ⟨b, o, none⟩) n cap) (v2 := .int .i64 ((j : Nat) : Int)) (v := .pointer (some ⟨b, o + j * 4, none⟩)) (by kernel_rfl) (by kernel_rfl) (by kernel_rfl) (by kernel_rfl) (by kernel_rfl) (fun w' => run_atS w' b o _ cap j HLt.out) (fun g0 w' h => h.same rfl)) ?_
            refine dag_cons (dag_loadS4 (x := .tmp 12) (b := b) (o := o + j * 4) (pg := (Q j).pg) (ps := (Q j).ps) (cl := (Q j).cl) (A := (Q j).A) (len := (Q j).len) (cap := (Q j).cap) (by kernel_rfl) (by kernel_rfl) (by kernel_rfl) (by kernel_rfl) (fun g0 w' hg h => by obtain rfl := h.at rfl hg; exact HF1.out) (fun g0 w' h => h.same rfl)) ?_
            refine dag_cons (dag_call2 (f := 22) (args := #[.agg #[.int .i64 (Q j).pg, .int .i64 (Q j).ps, .int .i64 (Q j).cl, .slice (Q j).A (Q j).len (Q j).cap]]) (v := .bool true) (by kernel_rfl) (by kernel_rfl) (fun w' => by kernel_rfl) (fun g0 w' hg hd h => ?_)) ?_
            case refine_1 =>
              have hd3 : g0 3 = true := hd { on := 3, ground := Ground.data } (by simp) rfl
              obtain rfl := h.2.1 hg
              refine (right15_calls (Q j).pg (Q j).ps (Q j).cl (Q j).A (Q j).len (Q j).cap (Q j).f wr.drew HI.out.1 HI.out.2.1 HI.out.2.2 HW.out).mono ?_
              rintro e w2 ⟨bb, rfl, hbb, hb2⟩
              obtain rfl : bb = true := hbb.2 hgd
              exact ⟨rfl, h.call (by simp [hd3]) hb2⟩
            refine dag_cons (dag_val (v := .bool false) (by kernel_rfl) (by kernel_rfl) (fun g0 w' h => by kernel_rfl) (fun g0 w' h => h.same rfl)) ?_
            refine dag_cons (dag_val (v := .bool false) (by kernel_rfl) (by kernel_rfl) (fun g0 w' h => by kernel_rfl) (fun g0 w' h => h.same rfl)) ?_
            refine dag_cons (dag_val (v := .int .i64 ((j : Nat) : Int)) (by kernel_rfl) (by kernel_rfl) (fun g0 w' h => by kernel_rfl) (fun g0 w' h => h.same rfl)) ?_
            refine dag_cons (dag_bin (b := .gtr) (t := 3) (t' := 3) (x := .tmp 17) (y := .const (.int .i64 0)) (v1 := .int .i64 ((j : Nat) : Int)) (v2 := .int .i64 0) (v := .bool true) (by kernel_rfl) (by kernel_rfl) (by kernel_rfl) (by kernel_rfl) (by kernel_rfl) rfl (fun w' => run_gtr0 j _ (by have := HK.out; rw [decide_eq_true (show 0 < j by omega)]) w') (fun g0 w' h => h.same rfl)) ?_
            refine dag_cons (dag_val (v := .bool true) (by kernel_rfl) (by kernel_rfl) (fun g0 w' h => by kernel_rfl) (fun g0 w' h => h.same rfl)) ?_
            refine dag_cons (dag_val (v := .slice (some ⟨b, o, none⟩) n cap) (by kernel_rfl) (by kernel_rfl) (fun g0 w' h => by kernel_rfl) (fun g0 w' h => h.same rfl)) ?_
            refine dag_cons (dag_val (v := .int .i64 ((j : Nat) : Int)) (by kernel_rfl) (by kernel_rfl) (fun g0 w' h => by kernel_rfl) (fun g0 w' h => h.same rfl)) ?_
            refine dag_cons (dag_index (t := 22) (x := .tmp 20) (ix := .tmp 21) (v1 := .slice (some ⟨b, o, none⟩) n cap) (v2 := .int .i64 ((j : Nat) : Int)) (v := .pointer (some ⟨b, o + j * 4, none⟩)) (by kernel_rfl) (by kernel_rfl) (by kernel_rfl) (by kernel_rfl) (by kernel_rfl) (fun w' => run_atS w' b o _ cap j HLt.out) (fun g0 w' h => h.same rfl)) ?_
            refine dag_cons (dag_field (s := 27) (x := .tmp 22) (k := 0) (v1 := .pointer (some ⟨b, o + j * 4, none⟩)) (v := .pointer (some ⟨b, o + j * 4, none⟩)) (by kernel_rfl) (by kernel_rfl) (by kernel_rfl) (by kernel_rfl) (fun w' => by kernel_rfl) (fun g0 w' h => h.same rfl)) ?_
            refine dag_cons (dag_loadO (t := 3) (d := .int .i64) (x := .tmp 23) (p := ⟨b, o + j * 4, none⟩) (v := .int .i64 (Q j).pg) (by kernel_rfl) (by kernel_rfl) (by kernel_rfl) (by kernel_rfl) Tryz.underlying3 rfl (fun g0 w' hg h => h.either (HFi.out _ (Below.refl _ _)).1 (fun w hw => (HFi.out _ hw).1)) (fun g0 w' h => h.same rfl)) ?_
            refine dag_cons (dag_val (v := .slice (some ⟨b, o, none⟩) n cap) (by kernel_rfl) (by kernel_rfl) (fun g0 w' h => by kernel_rfl) (fun g0 w' h => h.same rfl)) ?_
            refine dag_cons (dag_val (v := .int .i64 ((j : Nat) : Int)) (by kernel_rfl) (by kernel_rfl) (fun g0 w' h => by kernel_rfl) (fun g0 w' h => h.same rfl)) ?_
            refine dag_cons (dag_bin (b := .sub) (t := 3) (t' := 3) (x := .tmp 26) (y := .const (.int .i64 1)) (v1 := .int .i64 ((j : Nat) : Int)) (v2 := .int .i64 1) (v := .int .i64 ((k : Nat) : Int)) (by kernel_rfl) (by kernel_rfl) (by kernel_rfl) (by kernel_rfl) (by kernel_rfl) rfl (fun w' => run_sub1 j k HK.out (by omega) w') (fun g0 w' h => h.same rfl)) ?_
            refine dag_cons (dag_index (t := 22) (x := .tmp 25) (ix := .tmp 27) (v1 := .slice (some ⟨b, o, none⟩) n cap) (v2 := .int .i64 ((k : Nat) : Int)) (v := .pointer (some ⟨b, o + k * 4, none⟩)) (by kernel_rfl) (by kernel_rfl) (by kernel_rfl) (by kernel_rfl) (by kernel_rfl) (fun w' => run_atS w' b o _ cap k HKn.out) (fun g0 w' h => h.same rfl)) ?_
            refine dag_cons (dag_field (s := 27) (x := .tmp 28) (k := 0) (v1 := .pointer (some ⟨b, o + k * 4, none⟩)) (v := .pointer (some ⟨b, o + k * 4, none⟩)) (by kernel_rfl) (by kernel_rfl) (by kernel_rfl) (by kernel_rfl) (fun w' => by kernel_rfl) (fun g0 w' h => h.same rfl)) ?_
            refine dag_cons (dag_loadO (t := 3) (d := .int .i64) (x := .tmp 29) (p := ⟨b, o + k * 4, none⟩) (v := .int .i64 (Q k).pg) (by kernel_rfl) (by kernel_rfl) (by kernel_rfl) (by kernel_rfl) Tryz.underlying3 rfl (fun g0 w' hg h => h.either (HFk.out _ (Below.refl _ _)).1 (fun w hw => (HFk.out _ hw).1)) (fun g0 w' h => h.same rfl)) ?_
            refine dag_cons (dag_val (v := .slice (some ⟨b, o, none⟩) n cap) (by kernel_rfl) (by kernel_rfl) (fun g0 w' h => by kernel_rfl) (fun g0 w' h => h.same rfl)) ?_
            refine dag_cons (dag_val (v := .int .i64 ((j : Nat) : Int)) (by kernel_rfl) (by kernel_rfl) (fun g0 w' h => by kernel_rfl) (fun g0 w' h => h.same rfl)) ?_
            refine dag_cons (dag_bin (b := .sub) (t := 3) (t' := 3) (x := .tmp 32) (y := .const (.int .i64 1)) (v1 := .int .i64 ((j : Nat) : Int)) (v2 := .int .i64 1) (v := .int .i64 ((k : Nat) : Int)) (by kernel_rfl) (by kernel_rfl) (by kernel_rfl) (by kernel_rfl) (by kernel_rfl) rfl (fun w' => run_sub1 j k HK.out (by omega) w') (fun g0 w' h => h.same rfl)) ?_
            refine dag_cons (dag_index (t := 22) (x := .tmp 31) (ix := .tmp 33) (v1 := .slice (some ⟨b, o, none⟩) n cap) (v2 := .int .i64 ((k : Nat) : Int)) (v := .pointer (some ⟨b, o + k * 4, none⟩)) (by kernel_rfl) (by kernel_rfl) (by kernel_rfl) (by kernel_rfl) (by kernel_rfl) (fun w' => run_atS w' b o _ cap k HKn.out) (fun g0 w' h => h.same rfl)) ?_
            refine dag_cons (dag_field (s := 27) (x := .tmp 34) (k := 1) (v1 := .pointer (some ⟨b, o + k * 4, none⟩)) (v := .pointer (some ⟨b, o + k * 4 + 1, none⟩)) (by kernel_rfl) (by kernel_rfl) (by kernel_rfl) (by kernel_rfl) (fun w' => by kernel_rfl) (fun g0 w' h => h.same rfl)) ?_
            refine dag_cons (dag_loadO (t := 3) (d := .int .i64) (x := .tmp 35) (p := ⟨b, o + k * 4 + 1, none⟩) (v := .int .i64 (Q k).ps) (by kernel_rfl) (by kernel_rfl) (by kernel_rfl) (by kernel_rfl) Tryz.underlying3 rfl (fun g0 w' hg h => h.either (HFk.out _ (Below.refl _ _)).2 (fun w hw => (HFk.out _ hw).2)) (fun g0 w' h => h.same rfl)) ?_
            refine dag_cons (dag_bin (b := .add) (t := 3) (t' := 3) (x := .tmp 30) (y := .tmp 36) (v1 := .int .i64 (Q k).pg) (v2 := .int .i64 (Q k).ps) (v := .int .i64 ((Q k).pg + (Q k).ps)) (by kernel_rfl) (by kernel_rfl) (by kernel_rfl) (by kernel_rfl) (by kernel_rfl) rfl (fun w' => run_addI (Q k).pg (Q k).ps (by have := HP.out; omega) w') (fun g0 w' h => h.same rfl)) ?_
            refine dag_cons (dag_bin (b := .lss) (t := 3) (t' := 3) (x := .tmp 24) (y := .tmp 37) (v1 := .int .i64 (Q j).pg) (v2 := .int .i64 ((Q k).pg + (Q k).ps)) (v := .bool d) (by kernel_rfl) (by kernel_rfl) (by kernel_rfl) (by kernel_rfl) (by kernel_rfl) rfl (fun w' => run_lssI _ _ _ HD.out w') (fun g0 w' h => h.same rfl)) ?_
            refine dag_cons (dag_val (v := .bool d) (by kernel_rfl) (by kernel_rfl) (fun g0 w' h => by kernel_rfl) (fun g0 w' h => h.same rfl)) ?_
            refine dag_cons (dag_val (v := .bool d) (by kernel_rfl) (by kernel_rfl) (fun g0 w' h => by kernel_rfl) (fun g0 w' h => h.same rfl)) ?_
            exact dag_nil
          case refine_2 =>
            intro w3 hJ
            have HB3 := Lib.hid (bel_next hb.out (of_drewS (hJ.fin rfl)) (Nat.le_refl _))
            clear hJ
            simp only [putAll, List.foldl_cons, List.foldl_nil]
            go_frame
            cases d
            · have HNx := Lib.hid (show RightTo Q (j + 1) from hrt.out.next hgd (by rw [HEnd.out]; have := of_decide_eq_false HD.out.symm; omega))
              go_wp2
              go_roundg (n - (j + 1))
              case measure => first | (rw [hq]; exact Nat.sub_lt_sub_left HLt.out (Nat.lt_succ_self _)) | exact Nat.sub_lt_sub_left HLt.out (Nat.lt_succ_self _)
              case rel => exact ⟨j + 1, rfl, HLt.out, by go_num, HNx, HB3⟩
            · have hlt2 := of_decide_eq_true HD.out.symm
              have HL2 := Lib.hid (show RightTo Q n → False from fun h => by have := (h j HLt.out).2; rw [HEnd.out] at this; omega)
              clear hlt2
              go_wp2
              go_ret
              exact ⟨false, rfl, ⟨fun h => (by cases h), fun h => (HL2.out h).elim⟩, HB3.out⟩
      · go_wp2_with fail
        refine wp_dag [(10, .slice (some ⟨b, o, none⟩) n cap), (11, .int .i64 ((j : Nat) : Int)), (12, .pointer (some ⟨b, o + j * 4, none⟩)), (13, .agg #[.int .i64 (Q j).pg, .int .i64 (Q j).ps, .int .i64 (Q j).cl, .slice (Q j).A (Q j).len (Q j).cap]), (14, .bool false), (15, .bool true), (16, .bool true), (17, undef), (18, undef), (19, undef), (20, undef), (21, undef), (22, undef), (23, undef), (24, undef), (25, undef), (26, undef), (27, undef), (28, undef), (29, undef), (30, undef), (31, undef), (32, undef), (33, undef), (34, undef), (35, undef), (36, undef), (37, undef), (38, undef), (39, undef), (40, .bool true)] (OneJ wr.drew 4 [3] (fun w' => Below wr.drew.heap.size wr.drew w')) (by kernel_rfl) (by kernel_rfl) (by kernel_rfl) (by kernel_rfl) .start ?_ ?_
        case refine_1 =>
          refine dag_cons (dag_val (v := .slice (some ⟨b, o, none⟩) n cap) (by kernel_rfl) (by kernel_rfl) (fun g0 w' h => by kernel_rfl) (fun g0 w' h => h.same rfl)) ?_
          refine dag_cons (dag_val (v := .int .i64 ((j : Nat) : Int)) (by kernel_rfl) (by kernel_rfl) (fun g0 w' h => by kernel_rfl) (fun g0 w' h => h.same rfl)) ?_
          refine dag_cons (dag_index (t := 22) (x := .tmp 10) (ix := .tmp 11) (v1 := .slice (some ⟨b, o, none⟩) n cap) (v2 := .int .i64 ((j : Nat) : Int)) (v := .pointer (some ⟨b, o + j * 4, none⟩)) (by kernel_rfl) (by kernel_rfl) (by kernel_rfl) (by kernel_rfl) (by kernel_rfl) (fun w' => run_atS w' b o _ cap j HLt.out) (fun g0 w' h => h.same rfl)) ?_
          refine dag_cons (dag_loadS4 (x := .tmp 12) (b := b) (o := o + j * 4) (pg := (Q j).pg) (ps := (Q j).ps) (cl := (Q j).cl) (A := (Q j).A) (len := (Q j).len) (cap := (Q j).cap) (by kernel_rfl) (by kernel_rfl) (by kernel_rfl) (by kernel_rfl) (fun g0 w' hg h => by obtain rfl := h.at rfl hg; exact HF1.out) (fun g0 w' h => h.same rfl)) ?_
          refine dag_cons (dag_call2 (f := 22) (args := #[.agg #[.int .i64 (Q j).pg, .int .i64 (Q j).ps, .int .i64 (Q j).cl, .slice (Q j).A (Q j).len (Q j).cap]]) (v := .bool false) (by kernel_rfl) (by kernel_rfl) (fun w' => by kernel_rfl) (fun g0 w' hg hd h => ?_)) ?_
          case refine_1 =>
            have hd3 : g0 3 = true := hd { on := 3, ground := Ground.data } (by simp) rfl
            obtain rfl := h.2.1 hg
            refine (right15_calls (Q j).pg (Q j).ps (Q j).cl (Q j).A (Q j).len (Q j).cap (Q j).f wr.drew HI.out.1 HI.out.2.1 HI.out.2.2 HW.out).mono ?_
            rintro e w2 ⟨bb, rfl, hbb, hb2⟩
            obtain rfl : bb = false := (by cases bb; rfl; exact absurd (hbb.1 rfl) hgd)
            exact ⟨rfl, h.call (by simp [hd3]) hb2⟩
          refine dag_cons (dag_val (v := .bool true) (by kernel_rfl) (by kernel_rfl) (fun g0 w' h => by kernel_rfl) (fun g0 w' h => h.same rfl)) ?_
          refine dag_cons (dag_val (v := .bool true) (by kernel_rfl) (by kernel_rfl) (fun g0 w' h => by kernel_rfl) (fun g0 w' h => h.same rfl)) ?_
          refine dag_cons (.inr ⟨by kernel_rfl, by kernel_rfl, fun g0 w' _ h => h.same rfl⟩) ?_
          refine dag_cons (.inr ⟨by kernel_rfl, by kernel_rfl, fun g0 w' _ h => h.same rfl⟩) ?_
          refine dag_cons (.inr ⟨by kernel_rfl, by kernel_rfl, fun g0 w' _ h => h.same rfl⟩) ?_
          refine dag_cons (.inr ⟨by kernel_rfl, by kernel_rfl, fun g0 w' _ h => h.same rfl⟩) ?_
          refine dag_cons (.inr ⟨by kernel_rfl, by kernel_rfl, fun g0 w' _ h => h.same rfl⟩) ?_
          refine dag_cons (.inr ⟨by kernel_rfl, by kernel_rfl, fun g0 w' _ h => h.same rfl⟩) ?_
          refine dag_cons (.inr ⟨by kernel_rfl, by kernel_rfl, fun g0 w' _ h => h.same rfl⟩) ?_
          refine dag_cons (.inr ⟨by kernel_rfl, by kernel_rfl, fun g0 w' _ h => h.same rfl⟩) ?_
          refine dag_cons (.inr ⟨by kernel_rfl, by kernel_rfl, fun g0 w' _ h => h.same rfl⟩) ?_
          refine dag_cons (.inr ⟨by kernel_rfl, by kernel_rfl, fun g0 w' _ h => h.same rfl⟩) ?_
          refine dag_cons (.inr ⟨by kernel_rfl, by kernel_rfl, fun g0 w' _ h => h.same rfl⟩) ?_
          refine dag_cons (.inr ⟨by kernel_rfl, by kernel_rfl, fun g0 w' _ h => h.same rfl⟩) ?_
          refine dag_cons (.inr ⟨by kernel_rfl, by kernel_rfl, fun g0 w' _ h => h.same rfl⟩) ?_
          refine dag_cons (.inr ⟨by kernel_rfl, by kernel_rfl, fun g0 w' _ h => h.same rfl⟩) ?_
          refine dag_cons (.inr ⟨by kernel_rfl, by kernel_rfl, fun g0 w' _ h => h.same rfl⟩) ?_
          refine dag_cons (.inr ⟨by kernel_rfl, by kernel_rfl, fun g0 w' _ h => h.same rfl⟩) ?_
          refine dag_cons (.inr ⟨by kernel_rfl, by kernel_rfl, fun g0 w' _ h => h.same rfl⟩) ?_
          refine dag_cons (.inr ⟨by kernel_rfl, by kernel_rfl, fun g0 w' _ h => h.same rfl⟩) ?_
          refine dag_cons (.inr ⟨by kernel_rfl, by kernel_rfl, fun g0 w' _ h => h.same rfl⟩) ?_
          refine dag_cons (.inr ⟨by kernel_rfl, by kernel_rfl, fun g0 w' _ h => h.same rfl⟩) ?_
          refine dag_cons (.inr ⟨by kernel_rfl, by kernel_rfl, fun g0 w' _ h => h.same rfl⟩) ?_
          refine dag_cons (.inr ⟨by kernel_rfl, by kernel_rfl, fun g0 w' _ h => h.same rfl⟩) ?_
          refine dag_cons (.inr ⟨by kernel_rfl, by kernel_rfl, fun g0 w' _ h => h.same rfl⟩) ?_
          refine dag_cons (dag_val (v := .bool true) (by kernel_rfl) (by kernel_rfl) (fun g0 w' h => by kernel_rfl) (fun g0 w' h => h.same rfl)) ?_
          exact dag_nil
        case refine_2 =>
          intro w3 hJ
          have HB3 := Lib.hid (bel_next hb.out (of_drewS (hJ.fin rfl)) (Nat.le_refl _))
          clear hJ
          simp only [putAll, List.foldl_cons, List.foldl_nil]
          go_frame
          have HNg := Lib.hid (show (Q j).good → False from hgd)
          go_wp2
          go_ret
          exact ⟨false, rfl, ⟨fun h => (by cases h), fun h => (HNg.out (h j HLt.out).1).elim⟩, HB3.out⟩
    · obtain rfl : j = n := by omega
      go_wp2
      go_ret
      exact ⟨true, rfl, ⟨fun _ => hrt.out, fun _ => rfl⟩, hb.out⟩
end Go.Proofs.YtadbbknllakpcaaGreat

/- AllocActs: the spans and the acts as they come in. -/
namespace Go.Proofs.YtadbbknllakpcaaGreat
open Go.RowKit Go.ChangeShapes Go.WideShapes Go.Deep
set_option linter.unusedVariables false

/-- What a walk is told of the acts. -/
def ActsIn (w : World) (v : Value) (q : Option Addr × Nat × Nat) : Prop :=
  v = .slice q.1 q.2.1 q.2.2 ∧ q.2.1 ≤ 9223372036854775807 ∧ (q.2.1 = 0 ∨ ∃ b o, q.1 = some ⟨b, o, none⟩ ∧ b < w.heap.size ∧ ∀ i, i < q.2.1 → ∃ (kd n : Int),
    (w.cell? ⟨b, o + i * 2, none⟩ = some (.int .i64 kd) ∧ w.cell? ⟨b, o + i * 2 + 1, none⟩ = some (.int .i64 n)) ∧ I64 kd ∧ I64 n)
set_option maxRecDepth 8000 in
theorem open_acts17 {H : Type} {enc : TypeId × Value → H} {w : World} {v : Value} {d : DataW H} {p : List MemPlace}
    (hv : Value.okWide Tryz.prog w .any 0 23 v) (h : DataW.Trod enc Tryz.prog w 0 (fun _ => true) true 23 v d p) (lt : ∀ x ∈ p, x.block < w.heap.size) :
    ∃ q, ActsIn w v q := by
  obtain ⟨q, rfl, hl, hr⟩ := open_rows Tryz.underlying23 Tryz.underlying39 (by kernel_rfl) (by kernel_rfl) (by decide) (Go.WideShapes.okWide_slice Tryz.underlying23 hv) h
  refine ⟨q, rfl, Nat.le_trans hl (by unfold maxLen; omega), ?_⟩
  rcases hr with hr | ⟨b, o, ha, hb, hc⟩
  · exact .inl hr
  · refine .inr ⟨b, o, ha, hb, fun i hi => ?_⟩
    obtain ⟨v0, c0, r0⟩ := hc i hi 0 (by decide)
    obtain ⟨v1, c1, r1⟩ := hc i hi 1 (by decide)
    obtain ⟨y0, n0, t0⟩ := r0 _ rfl
    obtain ⟨y1, n1, t1⟩ := r1 _ rfl
    obtain ⟨kd, h0, _, hw0⟩ := DataW.trod_int Tryz.underlying3 t0
    obtain ⟨n, h1, _, hw1⟩ := DataW.trod_int Tryz.underlying3 t1
    cases h0
    cases h1
    exact ⟨kd, n, ⟨c0, by rw [Nat.add_assoc]; exact c1⟩, wf_i64 hw0, wf_i64 hw1⟩
/-- What a walk is told of the spans. -/
def SpansIn (w : World) (v : Value) (q : (Option Addr × Nat × Nat) × (Nat → Raw)) : Prop :=
  v = .slice q.1.1 q.1.2.1 q.1.2.2 ∧ RawAt w q.1.1 q.1.2.1 q.2
set_option maxRecDepth 8000 in
theorem open_spans17 {H : Type} {enc : TypeId × Value → H} {w : World} {v : Value} {d : DataW H} {p : List MemPlace}
    (hv : Value.okWide Tryz.prog w .any 0 22 v) (h : DataW.Trod enc Tryz.prog w 0 (fun _ => true) true 22 v d p) (lt : ∀ x ∈ p, x.block < w.heap.size) :
    ∃ q, SpansIn w v q := by
  obtain ⟨q, rfl, hl, hr⟩ := open_rows Tryz.underlying22 Tryz.underlying27 (by kernel_rfl) (by kernel_rfl) (by decide) (Go.WideShapes.okWide_slice Tryz.underlying22 hv) h
  have key : ∀ i, ∃ r : Raw, i < q.2.1 → (∃ b o, q.1 = some ⟨b, o, none⟩ ∧ b < w.heap.size ∧ Four w b (o + i * 4) r.pg r.ps r.cl r.A r.len r.cap) ∧ (I64 r.pg ∧ I64 r.ps ∧ I64 r.cl) ∧ WordsAt w r.A r.len r.f := by
    intro i
    by_cases hi : i < q.2.1
    · rcases hr with hr | ⟨b, o, ha, hb, hc⟩
      · omega
      · obtain ⟨v0, c0, r0⟩ := hc i hi 0 (by decide)
        obtain ⟨v1, c1, r1⟩ := hc i hi 1 (by decide)
        obtain ⟨v2, c2, r2⟩ := hc i hi 2 (by decide)
        obtain ⟨v3, c3, r3⟩ := hc i hi 3 (by decide)
        obtain ⟨y0, n0, t0⟩ := r0 _ rfl
        obtain ⟨y1, n1, t1⟩ := r1 _ rfl
        obtain ⟨y2, n2, t2⟩ := r2 _ rfl
        obtain ⟨y3, n3, t3⟩ := r3 _ rfl
        obtain ⟨pg, h0, _, hw0⟩ := DataW.trod_int Tryz.underlying3 t0
        obtain ⟨ps, h1, _, hw1⟩ := DataW.trod_int Tryz.underlying3 t1
        obtain ⟨cl, h2, _, hw2⟩ := DataW.trod_int Tryz.underlying3 t2
        cases h0
        cases h1
        cases h2
        rcases Go.ChangeShapes.open_ints Tryz.underlying25 Tryz.underlying64 (by kernel_rfl) t3 with ⟨hcs, _⟩ | ⟨x, ln, c, zs, hcs, _, hl3, hm, hz, _, hcell, hwz⟩
        · cases hcs
          refine ⟨⟨pg, ps, cl, none, 0, 0, fun _ => false⟩, fun _ => ⟨⟨b, o, ha, hb, c0, by rw [Nat.add_assoc]; exact c1, by rw [Nat.add_assoc]; exact c2, by rw [Nat.add_assoc]; exact c3⟩, ⟨wf_i64 hw0, wf_i64 hw1, wf_i64 hw2⟩, .inl rfl, fun _ _ => rfl, by show (0 : Nat) ≤ _; omega⟩⟩
        · cases hcs
          have hrow : IsRow .u64 w (some x) ln c zs := .inr ⟨x, rfl, hl3, hm, by simpa using hz, hcell, hwz⟩
          obtain ⟨f, hf1, hf2⟩ := words_of_row hrow
          refine ⟨⟨pg, ps, cl, some x, ln, c, f⟩, fun _ => ⟨⟨b, o, ha, hb, c0, by rw [Nat.add_assoc]; exact c1, by rw [Nat.add_assoc]; exact c2, by rw [Nat.add_assoc]; exact c3⟩, ⟨wf_i64 hw0, wf_i64 hw1, wf_i64 hw2⟩, hf1, hf2, by show ln ≤ _; have := hrow.len_le; unfold maxLen at this; omega⟩⟩
    · exact ⟨⟨0, 0, 0, none, 0, 0, fun _ => false⟩, fun h => absurd h hi⟩
  exact ⟨(q, fun i => (key i).choose), rfl, fun i hi => (key i).choose_spec hi⟩
end Go.Proofs.YtadbbknllakpcaaGreat
