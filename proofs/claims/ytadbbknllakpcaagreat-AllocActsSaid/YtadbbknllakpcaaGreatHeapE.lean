/- The walk of alloc's Alloc. -/
import Derived.Test.YtadbbknllakpcaaGreatHeapD
import Derived.Test.YtadbbknllakpcaaGreatDagA
namespace Go.Proofs.YtadbbknllakpcaaGreat
open Go.RowKit
set_option linter.unusedVariables false

/-- While an object is taken in a span that has room. -/
def RoomJ (W0 : World) (s : Sp) (i : Nat) (g : Nat → Bool) (y : (Option Addr × Nat) × Nat) (w' : World) : Prop :=
  Below W0.heap.size W0 w' ∧ (g 14 = true → g 13 = true ∧ g 8 = true) ∧ (g 13 = true → W0.heap.size ≤ y.2 ∧ (g 14 = false → SpB w' y.2 0 0 0 none 0 0)) ∧
    (g 8 = true → WordsAt w' y.1.1 s.len (put s.f i true) ∧ ∀ x o, y.1.1 = some ⟨x, o, none⟩ → W0.heap.size ≤ x) ∧ (g 14 = true → SpB w' y.2 s.pg s.ps s.cl y.1.1 s.len y.1.2)
section
variable {W0 w' : World} {s : Sp} {i : Nat} {g : Nat → Bool} {y : (Option Addr × Nat) × Nat}
theorem RoomJ.start : RoomJ W0 s i (fun _ => false) y W0 := ⟨Below.refl _ _, (fun h => by cases h), (fun h => by cases h), (fun h => by cases h), fun h => by cases h⟩
theorem RoomJ.same (h : RoomJ W0 s i g y w') {j : Nat} (hj : (8 == j || (13 == j || 14 == j)) = false) : RoomJ W0 s i (upd g j) y w' := by
  simp only [Bool.or_eq_false_iff] at hj
  unfold RoomJ
  rw [upd_ne hj.1, upd_ne hj.2.1, upd_ne hj.2.2]
  exact h
theorem RoomJ.take (h : RoomJ W0 s i g y w') (hg : g 8 = false) {A : Option Addr} {cap : Nat} (hS : s.ok) (hW : WordsAt W0 A s.len s.f) (hF : FirstIn s i) :
    Calls Tryz.prog 26 #[s.v A cap] w' fun e w'' => ∃ v, e = .returned v ∧ ∃ A' cap', v = .tuple #[spV s.pg s.ps s.cl A' s.len cap', .int .i64 (s.at i), .int .i64 0] ∧ RoomJ W0 s i (upd g 8) ((A', cap'), y.2) w'' := by
  have h14 : g 14 = false := by
    cases h2 : g 14
    · rfl
    · have := (h.2.1 h2).2; rw [hg] at this; cases this
  refine (take15F_calls s.pg s.ps s.cl A s.len cap s.f w' hS (hW.below h.1)).mono ?_
  rintro e w2 ⟨hB, hr⟩
  rcases hr with ⟨_, hall⟩ | ⟨j, A', cap', rfl, hj, hf, hl, hW2, hA⟩
  · have := hall i hF.1
    rw [hF.2.1] at this; cases this
  · obtain rfl := FirstIn.one hF ⟨hj, hf, hl⟩
    refine ⟨_, rfl, A', cap', rfl, bel_next h.1 hB (Nat.le_refl _), ?_, ?_, fun _ => ⟨hW2, fun x o he => Nat.le_trans h.1.size (hA x o he)⟩, ?_⟩
    · rw [upd_ne (i := 8) (j := 14) rfl, h14]; intro h; cases h
    · rw [upd_ne (i := 8) (j := 13) rfl, upd_ne (i := 8) (j := 14) rfl]
      exact fun h2 => ⟨(h.2.2.1 h2).1, fun h3 => SpB.below ((h.2.2.1 h2).2 h3) hB⟩
    · rw [upd_ne (i := 8) (j := 14) rfl, h14]; intro h; cases h
theorem RoomJ.alloc (h : RoomJ W0 s i g y w') (hg : g 13 = false) : RoomJ W0 s i (upd g 13) (y.1, w'.heap.size) (w'.alloc (.cells #[.int .i64 0, .int .i64 0, .int .i64 0, .slice none 0 0] 27)) := by
  have h14 : g 14 = false := by
    cases h2 : g 14
    · rfl
    · have := (h.2.1 h2).1; rw [hg] at this; cases this
  refine ⟨h.1.alloc h.1.size _, ?_, fun _ => ⟨h.1.size, fun _ => SpB.new w' 0 0 0 none 0 0⟩, ?_, ?_⟩
  · rw [upd_ne (i := 13) (j := 14) rfl, h14]; intro h; cases h
  · rw [upd_ne (i := 13) (j := 8) rfl]
    exact fun h2 => ⟨(h.2.2.2.1 h2).1.below ((Below.refl _ _).alloc (Nat.le_refl _) _), (h.2.2.2.1 h2).2⟩
  · rw [upd_ne (i := 13) (j := 14) rfl, h14]; intro h; cases h
theorem RoomJ.store (h : RoomJ W0 s i g y w') (hl : 0 < s.len) (h13 : g 13 = true) (h8 : g 8 = true) : ∃ w'', (Instr.storeAt 27 (.pointer (some ⟨y.2, 0, none⟩)) (spV s.pg s.ps s.cl y.1.1 s.len y.1.2)).run Tryz.prog w' = .ok () w'' ∧ RoomJ W0 s i (upd g 14) y w'' := by
  obtain ⟨hX, hz⟩ := h.2.2.1 h13
  obtain ⟨hW, hA⟩ := h.2.2.2.1 h8
  have hS : ∃ a b c B n k, SpB w' y.2 a b c B n k := by
    cases hs : g 14
    · exact ⟨_, _, _, _, _, _, hz hs⟩
    · exact ⟨_, _, _, _, _, _, h.2.2.2.2 hs⟩
  obtain ⟨a, b, c, B, n, k, hS⟩ := hS
  refine ⟨_, run_storeS hS s.pg s.ps s.cl y.1.1 s.len y.1.2, below4 h.1 hX _ _ _ _, fun _ => ?_, ?_, ?_, fun _ => set4_span hS _ _ _ _ _ _⟩
  · rw [upd_ne (i := 14) (j := 13) rfl, upd_ne (i := 14) (j := 8) rfl]; exact ⟨h13, h8⟩
  · exact fun _ => ⟨hX, fun h2 => by simp [upd] at h2⟩
  · exact fun _ => ⟨hW.store hS _ _ _ _, hA⟩
end
theorem cnt_full {f : Nat → Bool} : ∀ n, (∀ i, i < n → f i = true) → cntF f n = n
  | 0, _ => rfl
  | n + 1, h => by
    have h1 := cnt_full n (fun i hi => h i (by omega))
    have h2 := h n (by omega)
    simp [cntF, h1, h2]
theorem run_allocOp {o : Oper} {a : Act} (ho : o.op = .alloc 27) (w : World) : (execOp a.eval o).run Tryz.prog w = .ok (.value (.pointer (some ⟨w.heap.size, 0, none⟩))) (w.alloc (.cells #[.int .i64 0, .int .i64 0, .int .i64 0, .slice none 0 0] 27)) := by
  unfold execOp
  simp only [ho, Sem.run_bind, run_allocS, Result.andThen_ok, Sem.run_pure]
theorem first_ex {s : Sp} (hc : s.cnt < s.per) : ∃ i, FirstIn s i := by
  have h1 : ∃ i, i < s.per ∧ s.f i = false := by
    refine Classical.byContradiction fun hn => ?_
    have h2 : ∀ i, i < s.per → s.f i = true := fun i hi => by
      cases h : s.f i
      · exact absurd ⟨i, hi, h⟩ hn
      · rfl
    have h3 := cnt_full s.per h2
    unfold Sp.cnt at hc
    omega
  obtain ⟨i, hi⟩ := h1
  induction i using Nat.strongRecOn with
  | _ i ih =>
    by_cases h : ∃ j, j < i ∧ s.f j = false
    · obtain ⟨j, h2, h3⟩ := h
      exact ih j h2 ⟨by omega, h3⟩
    · refine ⟨i, hi.1, hi.2, fun j hj => ?_⟩
      cases h2 : s.f j
      · exact absurd ⟨j, hj, h2⟩ h
      · rfl
set_option maxRecDepth 8000 in
set_option maxHeartbeats 8000000 in
theorem alloc17_calls (w : World) (H L n : Nat) (S : List Sp) (l : List (Nat × Nat)) (F : Nat → Prop) (x : Int) (h : HeapAt w H L n S l F) (hl : LandOf S l) (hn : n ≤ 999990) (hx : I64 x) :
    Calls Tryz.prog 8 #[.pointer (some ⟨H, 0, none⟩), .int .i64 x] w (AllocR w H L n S l F x) := by
  have HH := Lib.hid h
  obtain ⟨c, g, cp, rfl, rfl, hh⟩ := h
  have HC := Lib.hid hh
  have HX := Lib.hid hx
  have HL := Lib.hid hl
  obtain ⟨d0, d1, d2, d3⟩ : w.cell? ⟨c.H, 0, none⟩ = some (.pointer (some ⟨c.L, 0, none⟩)) ∧ w.cell? ⟨c.H, 1, none⟩ = some (.map (some c.r1)) ∧ w.cell? ⟨c.H, 2, none⟩ = some c.fv ∧ w.cell? ⟨c.H, 3, none⟩ = some (.map (some c.r2)) :=
    ⟨hh.core.blk.cell 0, hh.core.blk.cell 1, hh.core.blk.cell 2, hh.core.blk.cell 3⟩
  have hob := ofL_bd x
  obtain ⟨A1, c1, hv⟩ := ownsRow_slice (hh.core.prt (ofL x))
  have HV := Lib.hid hv
  have HRd := Lib.hid (RdAt.of_own (hv ▸ hh.core.prt (ofL x)))
  clear hh hx hl hv
  go_enter Tryz.func8, Tryz.ntmps8
  go_wp2_with fail
  refine (of_calls14 x _ HX.out.1 HX.out.2).mono ?_
  rintro e w1 ⟨rfl, rfl⟩
  by_cases hc : ofL x < 0
  · have e1 : decide (ofL x < 0) = true := decide_eq_true hc
    have HCn := Lib.hid hc
    go_wp2_with fail
    refine (large17_calls w c.H c.L n S l F x HH.out HL.out hn HX.out HCn.out).mono ?_
    rintro e w2 ⟨a, er, S', l', rfl, hA, hL, hS⟩
    have HR := Lib.hid (And.intro hA (And.intro hL hS))
    clear hA hL hS
    go_wp2
    go_ret2
    exact ⟨a, er, S', l', rfl, HR.out⟩
  · have e1 : decide (ofL x < 0) = false := decide_eq_false hc
    have HCn := Lib.hid hc
    have hcw : (Lit.int .i64 (ofL x)).wf = true := WalkArith.wf_i64 (by omega)
    by_cases hpt : partS S (ofL x) = []
    · have hpl : (partS S (ofL x)).length = 0 := by rw [hpt]; rfl
      obtain ⟨hpg, hm1, hm4, hx1, hx2, hc19⟩ := pages_class hc
      obtain ⟨m, hm⟩ : ∃ m, pagesFor x = m := ⟨_, rfl⟩
      rw [hm] at hpg hm1 hm4
      have HPg := Lib.hid hpg
      have HM := Lib.hid hm
      have HPt := Lib.hid hpt
      have HX2 := Lib.hid (show 1 ≤ x ∧ x ≤ 2096640 by omega)
      rw [hpl] at HV
      clear hpg hm hpt hpl
      go_wp2_with (at_lookup; refine wpList_look rfl (.tmp 26) (.tmp 27) 59 37 rfl Tryz.underlying59 (zero_slice _) rfl HC.out.core.mp2 (ofL x) rfl hcw ?_; rw [HV.out])
      rcases best_ex l (m : Int) l.length (Nat.le_refl _) with hno | ⟨b, q, hb⟩
      · have HNo := Lib.hid hno
        clear hno
        refine wp_dag [(53, .pointer (some ⟨c.H, 0, none⟩)), (54, .pointer (some ⟨c.H, 0, none⟩)), (55, .pointer (some ⟨c.H, 0, none⟩)), (56, .pointer (some ⟨c.L, 0, none⟩)), (57, .int .i64 (ofL x)), (58, .int .i64 ((m : Nat) : Int)), (59, .tuple #[.int .i64 0, .int .i64 16]), (52, .tuple #[.int .i64 0, .int .i64 16]), (60, .int .i64 0), (61, .int .i64 16), (11, .int .i64 0), (12, .int .i64 16)] (OneJ w.drew 6 [3, 5] (fun w' => Below w.drew.heap.size w.drew w')) (by kernel_rfl) (by kernel_rfl) (by kernel_rfl) (by kernel_rfl) .start ?_ ?_
        case refine_1 =>
          refine dag_cons (dag_val (v := .pointer (some ⟨c.H, 0, none⟩)) (by kernel_rfl) (by kernel_rfl) (fun g0 w' h => by kernel_rfl) (fun g0 w' h => h.same rfl)) ?_
          refine dag_cons (dag_val (v := .pointer (some ⟨c.H, 0, none⟩)) (by kernel_rfl) (by kernel_rfl) (fun g0 w' h => by kernel_rfl) (fun g0 w' h => h.same rfl)) ?_
          refine dag_cons (dag_field (s := 61) (x := .tmp 54) (k := 0) (v1 := .pointer (some ⟨c.H, 0, none⟩)) (v := .pointer (some ⟨c.H, 0, none⟩)) (by kernel_rfl) (by kernel_rfl) (by kernel_rfl) (by kernel_rfl) (fun w' => by kernel_rfl) (fun g0 w' h => h.same rfl)) ?_
          refine dag_cons (dag_loadO (t := 56) (d := .pointer 91) (x := .tmp 55) (p := ⟨c.H, 0, none⟩) (v := .pointer (some ⟨c.L, 0, none⟩)) (by kernel_rfl) (by kernel_rfl) (by kernel_rfl) (by kernel_rfl) Tryz.underlying56 rfl (fun g0 w' hg h => by obtain rfl := h.at rfl hg; exact HC.out.drew.core.blk.cell 0) (fun g0 w' h => h.same rfl)) ?_
          refine dag_cons (dag_val (v := .int .i64 (ofL x)) (by kernel_rfl) (by kernel_rfl) (fun g0 w' h => by kernel_rfl) (fun g0 w' h => h.same rfl)) ?_
          refine dag_cons (dag_call2 (f := 28) (args := #[.int .i64 (ofL x)]) (v := .int .i64 ((m : Nat) : Int)) (by kernel_rfl) (by kernel_rfl) (fun w' => by kernel_rfl) (fun g0 w' hg hd h => (pages_calls (ofL x) w' (by omega) (by omega)).mono (fun e w2 hh => ⟨hh.1.trans (by rw [HPg.out]), by obtain ⟨_, rfl⟩ := hh; exact h.same rfl⟩))) ?_
          refine dag_cons (dag_call2 (f := 27) (args := #[.pointer (some ⟨c.L, 0, none⟩), .int .i64 ((m : Nat) : Int)]) (v := .tuple #[.int .i64 0, .int .i64 16]) (by kernel_rfl) (by kernel_rfl) (fun w' => by kernel_rfl) (fun g0 w' hg hd h => ?_)) ?_
          case refine_1 =>
            have hd3 : g0 3 = true := hd { on := 3, ground := Ground.data } (by simp) rfl
            have hd5 : g0 5 = true := hd { on := 5, ground := Ground.data } (by simp) rfl
            obtain rfl := h.2.1 hg
            refine (rn.take16_calls w.drew c.L g cp l (m : Int) HC.out.drew.land HC.out.canon (by have := HC.out.canon.len; omega) (by omega)).mono ?_
            rintro e w2 hT
            have hE : e = .returned (.tuple #[.int .i64 0, .int .i64 16]) ∧ Below w.drew.heap.size w.drew w2 := by
              rcases hT with ⟨h1, _⟩ | ⟨_, _, h1, h2⟩ | ⟨b, q, _, h1, _⟩
              · omega
              · exact ⟨h1, h2⟩
              · have := HNo.out b q h1.1 h1.2.1; have := h1.2.2.1; omega
            exact ⟨hE.1, h.call (by simp [hd3, hd5]) hE.2⟩
          refine dag_cons (dag_val (v := .tuple #[.int .i64 0, .int .i64 16]) (by kernel_rfl) (by kernel_rfl) (fun g0 w' h => by kernel_rfl) (fun g0 w' h => h.same rfl)) ?_
          refine dag_cons (dag_val (v := .int .i64 0) (by kernel_rfl) (by kernel_rfl) (fun g0 w' h => by kernel_rfl) (fun g0 w' h => h.same rfl)) ?_
          refine dag_cons (dag_val (v := .int .i64 16) (by kernel_rfl) (by kernel_rfl) (fun g0 w' h => by kernel_rfl) (fun g0 w' h => h.same rfl)) ?_
          refine dag_cons (dag_val (v := .int .i64 0) (by kernel_rfl) (by kernel_rfl) (fun g0 w' h => by kernel_rfl) (fun g0 w' h => h.same rfl)) ?_
          refine dag_cons (dag_val (v := .int .i64 16) (by kernel_rfl) (by kernel_rfl) (fun g0 w' h => by kernel_rfl) (fun g0 w' h => h.same rfl)) ?_
          exact dag_nil
        case refine_2 =>
          intro w2 hJ
          have HB := Lib.hid (of_drewB (hJ.fin rfl))
          clear hJ
          simp only [putAll, List.foldl_cons, List.foldl_nil]
          go_wp2
          go_ret2
          exact ⟨_, _, S, l, rfl, .inr ⟨HX2.out, .inr ⟨.inr HPt.out, .inl ⟨by rw [HM.out]; exact HNo.out, rfl, rfl, rfl, rfl⟩⟩⟩, HL.out, (HH.out.step HB.out).mono (by omega)⟩
      · have HBm := Lib.hid hb
        have hb2 : rn.BestTo l (pagesFor x : Nat) l.length b q := by rw [HM.out]; exact hb
        obtain ⟨k1, k2, k3, k4, k5, k6, k7, k8, k9⟩ := new_span HC.out.inv HL.out HC.out.canon HX2.out.1 HX2.out.2 hb2
        have hcut : cutL l b q (pagesFor x) = l.take b ++ rn.leftR q q.1 m ++ l.drop (b + 1) := by unfold cutL; rw [HM.out]
        have HBest := Lib.hid hb2
        have HNew := Lib.hid (And.intro k1 (And.intro k2 (And.intro k3 (And.intro k4 (And.intro k5 k6)))))
        have HQ := Lib.hid (And.intro k8 k9)
        have HCan := Lib.hid k7
        have HCut := Lib.hid hcut
        have hqs : q.1 ≤ 4096 := by omega
        clear hb hb2 k1 k2 k3 k4 k5 k6 k7 k8 k9 hcut
        refine wp_dag [(53, .pointer (some ⟨c.H, 0, none⟩)), (54, .pointer (some ⟨c.H, 0, none⟩)), (55, .pointer (some ⟨c.H, 0, none⟩)), (56, .pointer (some ⟨c.L, 0, none⟩)), (57, .int .i64 (ofL x)), (58, .int .i64 ((m : Nat) : Int)), (59, .tuple #[.int .i64 (q.1 : Int), .int .i64 0]), (52, .tuple #[.int .i64 (q.1 : Int), .int .i64 0]), (60, .int .i64 (q.1 : Int)), (61, .int .i64 0), (11, .int .i64 (q.1 : Int)), (12, .int .i64 0)] (OneJ w.drew 6 [3, 5] (fun w' => rn.LandR w.drew c.L g (l.take b ++ rn.leftR q q.1 m ++ l.drop (b + 1)) w')) (by kernel_rfl) (by kernel_rfl) (by kernel_rfl) (by kernel_rfl) .start ?_ ?_
        case refine_1 =>
          refine dag_cons (dag_val (v := .pointer (some ⟨c.H, 0, none⟩)) (by kernel_rfl) (by kernel_rfl) (fun g0 w' h => by kernel_rfl) (fun g0 w' h => h.same rfl)) ?_
          refine dag_cons (dag_val (v := .pointer (some ⟨c.H, 0, none⟩)) (by kernel_rfl) (by kernel_rfl) (fun g0 w' h => by kernel_rfl) (fun g0 w' h => h.same rfl)) ?_
          refine dag_cons (dag_field (s := 61) (x := .tmp 54) (k := 0) (v1 := .pointer (some ⟨c.H, 0, none⟩)) (v := .pointer (some ⟨c.H, 0, none⟩)) (by kernel_rfl) (by kernel_rfl) (by kernel_rfl) (by kernel_rfl) (fun w' => by kernel_rfl) (fun g0 w' h => h.same rfl)) ?_
          refine dag_cons (dag_loadO (t := 56) (d := .pointer 91) (x := .tmp 55) (p := ⟨c.H, 0, none⟩) (v := .pointer (some ⟨c.L, 0, none⟩)) (by kernel_rfl) (by kernel_rfl) (by kernel_rfl) (by kernel_rfl) Tryz.underlying56 rfl (fun g0 w' hg h => by obtain rfl := h.at rfl hg; exact HC.out.drew.core.blk.cell 0) (fun g0 w' h => h.same rfl)) ?_
          refine dag_cons (dag_val (v := .int .i64 (ofL x)) (by kernel_rfl) (by kernel_rfl) (fun g0 w' h => by kernel_rfl) (fun g0 w' h => h.same rfl)) ?_
          refine dag_cons (dag_call2 (f := 28) (args := #[.int .i64 (ofL x)]) (v := .int .i64 ((m : Nat) : Int)) (by kernel_rfl) (by kernel_rfl) (fun w' => by kernel_rfl) (fun g0 w' hg hd h => (pages_calls (ofL x) w' (by omega) (by omega)).mono (fun e w2 hh => ⟨hh.1.trans (by rw [HPg.out]), by obtain ⟨_, rfl⟩ := hh; exact h.same rfl⟩))) ?_
          refine dag_cons (dag_call2 (f := 27) (args := #[.pointer (some ⟨c.L, 0, none⟩), .int .i64 ((m : Nat) : Int)]) (v := .tuple #[.int .i64 (q.1 : Int), .int .i64 0]) (by kernel_rfl) (by kernel_rfl) (fun w' => by kernel_rfl) (fun g0 w' hg hd h => ?_)) ?_
          case refine_1 =>
            have hd3 : g0 3 = true := hd { on := 3, ground := Ground.data } (by simp) rfl
            have hd5 : g0 5 = true := hd { on := 5, ground := Ground.data } (by simp) rfl
            obtain rfl := h.2.1 hg
            refine (rn.take16_calls w.drew c.L g cp l (m : Int) HC.out.drew.land HC.out.canon (by have := HC.out.canon.len; omega) (by omega)).mono ?_
            rintro e w2 hT
            obtain ⟨he, hR⟩ := rn.take_is hT (by omega) HBm.out
            rw [Int.toNat_natCast] at hR
            exact ⟨he, h.call (by simp [hd3, hd5]) hR⟩
          refine dag_cons (dag_val (v := .tuple #[.int .i64 (q.1 : Int), .int .i64 0]) (by kernel_rfl) (by kernel_rfl) (fun g0 w' h => by kernel_rfl) (fun g0 w' h => h.same rfl)) ?_
          refine dag_cons (dag_val (v := .int .i64 (q.1 : Int)) (by kernel_rfl) (by kernel_rfl) (fun g0 w' h => by kernel_rfl) (fun g0 w' h => h.same rfl)) ?_
          refine dag_cons (dag_val (v := .int .i64 0) (by kernel_rfl) (by kernel_rfl) (fun g0 w' h => by kernel_rfl) (fun g0 w' h => h.same rfl)) ?_
          refine dag_cons (dag_val (v := .int .i64 (q.1 : Int)) (by kernel_rfl) (by kernel_rfl) (fun g0 w' h => by kernel_rfl) (fun g0 w' h => h.same rfl)) ?_
          refine dag_cons (dag_val (v := .int .i64 0) (by kernel_rfl) (by kernel_rfl) (fun g0 w' h => by kernel_rfl) (fun g0 w' h => h.same rfl)) ?_
          exact dag_nil
        case refine_2 =>
          intro w2 hJ
          have hR := hJ.fin rfl
          rw [← HCut.out] at hR
          obtain ⟨g2, cp2, hin, ho⟩ := HC.out.drew.land_step hR HCan.out
          have HIn := Lib.hid hin
          have HO := Lib.hid (show Only F w w2 from ho.of_drew)
          clear hJ hR hin ho
          simp only [putAll, List.foldl_cons, List.foldl_nil]
          go_wp2_with fail
          refine (new_calls (q.1 : Int) (ofL x) _ (by unfold I64; omega) (by unfold I64; omega)).mono ?_
          rintro e w3 ⟨hB3, h3⟩
          rw [HPg.out] at h3
          obtain ⟨A, cap, _, rfl, hW, hA, rfl⟩ := h3.resolve_left (fun h => by
            have := (newSp_right HX2.out.1 HX2.out.2 HQ.out.1 HQ.out.2).2
            rw [if_neg (Int.not_lt.2 HCn.out)] at this
            rw [this] at h; cases h.1)
          have HB3 := Lib.hid hB3
          have HIn3 := Lib.hid (HIn.out.below hB3)
          obtain ⟨w4, hw4, hS4, hB4⟩ := one_span w3 (q.1 : Int) (m : Int) (ofL x) A 1 1
          have HIn4 := Lib.hid (HIn3.out.below hB4)
          have HO4 := Lib.hid ((HO.out.next HB3.out).next hB4)
          have HW4 := Lib.hid (hW.below hB4)
          have HA4 := Lib.hid (show ∀ y o, A = some ⟨y, o, none⟩ → w2.heap.size ≤ y from hA)
          obtain ⟨s0, s1, s2, s3⟩ := hS4.cells
          have hz := HO.out.size
          clear hB3 hW hA hB4 h3 hS4
          unfold spV
          go_wp2_with fail
          obtain ⟨k1, k2, k3, k4, k5, k6⟩ := HNew.out
          have hcl : (newSp q.1 x).cl = ofL x := if_neg (Int.not_lt.2 HCn.out)
          have hset := hset_calls w4 c.H c.L n S (cutL l b q (pagesFor x)) (Ext F w.drew w2) (newSp q.1 x) A 1 ⟨c, g2, cp2, rfl, rfl, HIn4.out⟩ k1 (by rw [k3]; exact HW4.out) (fun y o he hF => by
            have h1 := HA4.out y o he
            rcases hF with h2 | h2
            · have := HC.out.lt y h2; omega
            · omega) (by omega) k4 (fun t ht he => absurd he (k5 t ht))
          have hv : (newSp q.1 x).v A 1 = spV (q.1 : Int) (m : Int) (ofL x) A 1 1 := by rw [new_v HX2.out.1 HX2.out.2 HQ.out.1 HQ.out.2, hcl, HM.out]
          rw [hv, decide_eq_true k2] at hset
          refine hset.mono ?_
          rintro e w5 hS5
          obtain ⟨rfl, hst⟩ := set_new (w := w) (fun y o he => Nat.le_trans hz (HA4.out y o he)) HO4.out (fun k hk => hk.imp id (·.1)) hS5
          have HSt := Lib.hid hst
          have hmul : wrap64 ((q.1 : Int) * 512) = 512 * (q.1 : Int) := by rw [IntWalk.wrap64_in _ (by omega)]; omega
          clear hS5 hset hst hv k1 k2 k3 k4 k5 k6 hcl hw4 s0 s1 s2 s3 hz
          go_wp2
          go_ret2
          exact ⟨_, _, _, _, rfl, .inr ⟨HX2.out, .inr ⟨.inr HPt.out, .inr ⟨b, q, HBest.out, Int.mul_comm _ _, rfl, rfl, rfl⟩⟩⟩, HNew.out.2.2.2.2.2, HSt.out⟩
    · obtain ⟨pg, rest, hpr⟩ : ∃ pg rest, partS S (ofL x) = pg :: rest := List.exists_cons_of_ne_nil hpt
      obtain ⟨s, hs, hsp, rfl⟩ := mem_part.1 (show pg ∈ partS S (ofL x) by rw [hpr]; simp)
      have hp0 : (partS S (ofL x))[0]? = some s.pg := by rw [hpr]; rfl
      obtain ⟨gb, go, rfl, hgb, hgc⟩ := HRd.out.num hp0
      have hsc : s.cl = ofL x ∧ s.cnt < s.per := by unfold Sp.part at hsp; simpa using hsp
      obtain ⟨i, hi⟩ := first_ex hsc.2
      have hpl : 0 < (partS S (ofL x)).length := by rw [hpr]; simp
      have hpd : decide (((partS S (ofL x)).length : Int) > 0) = true := decide_eq_true (by omega)
      have HPl := Lib.hid hpl
      have HGc := Lib.hid (show ∀ w' : World, Below w.drew.heap.size w.drew w' → w'.cell? ⟨gb, go + 0 * 1, none⟩ = some (.int .i64 (s.pg : Int)) from fun w' hb => (World.cell?_of_block (hb.block gb hgb)).trans hgc)
      obtain ⟨hok, A, cap, hm1, hWd, _⟩ := HC.out.core.has s hs
      have HW := Lib.hid hWd
      have HLn := Lib.hid hok.len1
      have HLk := Lib.hid (show ∀ w' : World, Below w.drew.heap.size w.drew w' → (Instr.lookup 58 (.map (some c.r1)) (.int .i64 ((s.pg : Nat) : Int)) false).run Tryz.prog w' = .ok (.agg #[.int .i64 ((s.pg : Nat) : Int), .int .i64 ((s.ps : Nat) : Int), .int .i64 s.cl, .slice A s.len cap]) w' from fun w' hb => by
        have h1 := ((HC.out.core.drew).below hb).mp1.look Tryz.underlying58 (zero_span w') (x := (s.pg : Int)) (WalkArith.wf_i64 (by have := hok.ps1; omega))
        rw [hm1] at h1
        exact h1)
      have HS := Lib.hid (And.intro hs (And.intro hsc.1 hi))
      have HPr := Lib.hid hpr
      have HOk := Lib.hid hok
      clear hpt hpr hs hsp hp0 hgb hgc hsc hi hpl hm1 hWd hok
      go_wp2_with (at_lookup; refine wpList_look rfl (.tmp 26) (.tmp 27) 59 37 rfl Tryz.underlying59 (zero_slice _) rfl HC.out.core.mp2 (ofL x) rfl hcw ?_; rw [HV.out])
      refine wp_dagV (U := (Option Addr × Nat) × Nat) (fun y => [(33, .pointer (some ⟨c.H, 0, none⟩)), (34, .pointer (some ⟨c.H, 0, none⟩)), (35, .pointer (some ⟨c.H, 1, none⟩)), (36, .map (some c.r1)), (37, .slice (some ⟨gb, go, none⟩) (partS S (ofL x)).length c1), (38, .pointer (some ⟨gb, go + 0 * 1, none⟩)), (39, .int .i64 ((s.pg : Nat) : Int)), (40, .agg #[.int .i64 ((s.pg : Nat) : Int), .int .i64 ((s.ps : Nat) : Int), .int .i64 s.cl, .slice A s.len cap]), (41, .tuple #[.agg #[.int .i64 ((s.pg : Nat) : Int), .int .i64 ((s.ps : Nat) : Int), .int .i64 s.cl, .slice y.1.1 s.len y.1.2], .int .i64 (s.at i), .int .i64 0]), (32, .tuple #[.agg #[.int .i64 ((s.pg : Nat) : Int), .int .i64 ((s.ps : Nat) : Int), .int .i64 s.cl, .slice y.1.1 s.len y.1.2], .int .i64 (s.at i), .int .i64 0]), (42, .agg #[.int .i64 ((s.pg : Nat) : Int), .int .i64 ((s.ps : Nat) : Int), .int .i64 s.cl, .slice y.1.1 s.len y.1.2]), (43, .int .i64 (s.at i)), (44, .int .i64 0), (8, .pointer (some ⟨y.2, 0, none⟩)), (9, .int .i64 (s.at i)), (10, .int .i64 0)]) (RoomJ w.drew s i) (fun k => if k = 8 then some [41, 32, 42] else if k = 13 then some [8] else none) ((none, 0), 0) (by kernel_rfl) (by kernel_rfl) (by kernel_rfl) (fun y => by kernel_rfl) .start ?_ ?_ ?_
      case refine_1 =>
        intro j dep hd
        by_cases h8 : j = 8
        · subst h8
          rw [if_pos rfl] at hd
          cases hd
          refine ⟨_, rfl, rfl, by kernel_rfl, fun y g0 w' hg hdd hJ => .inr ⟨26, #[.agg #[.int .i64 ((s.pg : Nat) : Int), .int .i64 ((s.ps : Nat) : Int), .int .i64 s.cl, .slice A s.len cap]], by kernel_rfl, ?_⟩⟩
          refine (hJ.take hg HOk.out HW.out HS.out.2.2).mono ?_
          rintro e w2 ⟨v, he, A', cap', rfl, hJ2⟩
          exact ⟨_, he, ((A', cap'), y.2), by kernel_rfl, by kernel_rfl, hJ2⟩
        · rw [if_neg h8] at hd
          by_cases h13 : j = 13
          · subst h13
            rw [if_pos rfl] at hd
            cases hd
            refine ⟨_, rfl, rfl, by kernel_rfl, fun y g0 w' hg hdd hJ => .inl ⟨.pointer (some ⟨w'.heap.size, 0, none⟩), _, ?_, (y.1, w'.heap.size), by kernel_rfl, by kernel_rfl, hJ.alloc hg⟩⟩
            exact run_allocOp rfl w'
          · rw [if_neg h13] at hd; cases hd
      case refine_2 =>
        intro y
        refine dagV_cons (dag_val (v := .pointer (some ⟨c.H, 0, none⟩)) (by kernel_rfl) (by kernel_rfl) (fun g0 w' h => by kernel_rfl) (fun g0 w' h => h.same rfl)) ?_
        refine dagV_cons (dag_val (v := .pointer (some ⟨c.H, 0, none⟩)) (by kernel_rfl) (by kernel_rfl) (fun g0 w' h => by kernel_rfl) (fun g0 w' h => h.same rfl)) ?_
        refine dagV_cons (dag_field (s := 61) (x := .tmp 34) (k := 1) (v1 := .pointer (some ⟨c.H, 0, none⟩)) (v := .pointer (some ⟨c.H, 1, none⟩)) (by kernel_rfl) (by kernel_rfl) (by kernel_rfl) (by kernel_rfl) (fun w' => by kernel_rfl) (fun g0 w' h => h.same rfl)) ?_
        refine dagV_cons (dag_load (t := 58) (d := .map 3 27) (x := .tmp 35) (p := ⟨c.H, 1, none⟩) (v := .map (some c.r1)) (by kernel_rfl) (by kernel_rfl) (by kernel_rfl) (by kernel_rfl) Tryz.underlying58 rfl (fun g0 w' h => (HC.out.drew.core.below h.1).blk.cell 1) (fun g0 w' h => h.same rfl)) ?_
        refine dagV_cons (dag_val (v := .slice (some ⟨gb, go, none⟩) (partS S (ofL x)).length c1) (by kernel_rfl) (by kernel_rfl) (fun g0 w' h => by kernel_rfl) (fun g0 w' h => h.same rfl)) ?_
        refine dagV_cons (dag_index (t := 37) (x := .tmp 37) (ix := .const (.int .i64 0)) (v1 := .slice (some ⟨gb, go, none⟩) (partS S (ofL x)).length c1) (v2 := .int .i64 0) (v := .pointer (some ⟨gb, go + 0 * 1, none⟩)) (by kernel_rfl) (by kernel_rfl) (by kernel_rfl) (by kernel_rfl) (by kernel_rfl) (fun w' => run_atI w' gb go _ c1 0 HPl.out) (fun g0 w' h => h.same rfl)) ?_
        refine dagV_cons (dag_load (t := 3) (d := .int .i64) (x := .tmp 38) (p := ⟨gb, go + 0 * 1, none⟩) (v := .int .i64 ((s.pg : Nat) : Int)) (by kernel_rfl) (by kernel_rfl) (by kernel_rfl) (by kernel_rfl) Tryz.underlying3 rfl (fun g0 w' h => HGc.out w' h.1) (fun g0 w' h => h.same rfl)) ?_
        refine dagV_cons (dag_lookup (t := 58) (m := .tmp 36) (x := .tmp 39) (v1 := .map (some c.r1)) (v2 := .int .i64 ((s.pg : Nat) : Int)) (v := .agg #[.int .i64 ((s.pg : Nat) : Int), .int .i64 ((s.ps : Nat) : Int), .int .i64 s.cl, .slice A s.len cap]) (by kernel_rfl) (by kernel_rfl) (by kernel_rfl) (by kernel_rfl) (by kernel_rfl) (fun g0 w' hg h => HLk.out w' h.1) (fun g0 w' hg h => h.same rfl)) ?_
        refine dagV_ch rfl ?_
        refine dagV_cons (dag_val (v := .tuple #[.agg #[.int .i64 ((s.pg : Nat) : Int), .int .i64 ((s.ps : Nat) : Int), .int .i64 s.cl, .slice y.1.1 s.len y.1.2], .int .i64 (s.at i), .int .i64 0]) (by kernel_rfl) (by kernel_rfl) (fun g0 w' h => by kernel_rfl) (fun g0 w' h => h.same rfl)) ?_
        refine dagV_cons (dag_val (v := .agg #[.int .i64 ((s.pg : Nat) : Int), .int .i64 ((s.ps : Nat) : Int), .int .i64 s.cl, .slice y.1.1 s.len y.1.2]) (by kernel_rfl) (by kernel_rfl) (fun g0 w' h => by kernel_rfl) (fun g0 w' h => h.same rfl)) ?_
        refine dagV_cons (dag_val (v := .int .i64 (s.at i)) (by kernel_rfl) (by kernel_rfl) (fun g0 w' h => by kernel_rfl) (fun g0 w' h => h.same rfl)) ?_
        refine dagV_cons (dag_val (v := .int .i64 0) (by kernel_rfl) (by kernel_rfl) (fun g0 w' h => by kernel_rfl) (fun g0 w' h => h.same rfl)) ?_
        refine dagV_ch rfl ?_
        refine dagV_cons (dag_store (t := 27) (x := .tmp 8) (y := .tmp 42) (v1 := .pointer (some ⟨y.2, 0, none⟩)) (v2 := .agg #[.int .i64 ((s.pg : Nat) : Int), .int .i64 ((s.ps : Nat) : Int), .int .i64 s.cl, .slice y.1.1 s.len y.1.2]) (by kernel_rfl) (by kernel_rfl) (by kernel_rfl) (by kernel_rfl) (by kernel_rfl) (fun g0 w' hg hd h => h.store HLn.out (hd { on := 13, ground := Ground.data } (by simp) rfl) (hd { on := 8, ground := Ground.phase } (by simp) rfl))) ?_
        refine dagV_cons (dag_val (v := .int .i64 (s.at i)) (by kernel_rfl) (by kernel_rfl) (fun g0 w' h => by kernel_rfl) (fun g0 w' h => h.same rfl)) ?_
        refine dagV_cons (dag_val (v := .int .i64 0) (by kernel_rfl) (by kernel_rfl) (fun g0 w' h => by kernel_rfl) (fun g0 w' h => h.same rfl)) ?_
        exact dagV_nil
      case refine_3 =>
        intro y w3 hJ
        have hX3 := hJ.2.2.2.2 rfl
        have hW3 := hJ.2.2.2.1 rfl
        have HB3 := Lib.hid (of_drewB hJ.1)
        obtain ⟨s0, s1, s2, s3⟩ := hX3.cells
        have HW3 := Lib.hid hW3.1
        have HA3 := Lib.hid (show ∀ z o, y.1.1 = some ⟨z, o, none⟩ → w.heap.size ≤ z from hW3.2)
        have HH3 := Lib.hid (HH.out.below HB3.out)
        obtain ⟨⟨A', cap'⟩, X⟩ := y
        clear hJ hX3 hW3
        simp only [putAll, List.foldl_cons, List.foldl_nil]
        simp only at s0 s1 s2 s3
        go_wp2_with fail
        obtain ⟨g1, g2, g3⟩ := HS.out
        have hset := hset_calls w3 c.H c.L n S l F (s.with i true) A' cap' HH3.out (HOk.out.with g3.1 true) HW3.out (fun z o he hF => by have h1 := HA3.out z o he; have := HH.out.lt z hF; omega) (by omega) (inv_with HC.out.inv g1 g3.1 true) (cl_with HC.out.inv g1 i true)
        have hcn : 0 < (s.with i true).cnt := by
          have h1 : (s.with i true).cnt = s.cnt + 1 := cntF_set s.f i s.per g3.2.1 g3.1
          omega
        rw [with_v, decide_eq_true hcn] at hset
        refine hset.mono ?_
        rintro e w5 hS5
        obtain ⟨rfl, hst⟩ := set_new (w := w) HA3.out (Only.of_below HB3.out) (fun k hk => .inl hk) hS5
        have HSt := Lib.hid (And.intro hst (And.intro g1 (And.intro g2 (And.intro g3 hcn))))
        clear hS5 hset hst hcn g1 g2 g3 s0 s1 s2 s3
        go_wp2
        go_ret2
        obtain ⟨k1, k2, k3, k4, k5⟩ := HSt.out
        obtain ⟨b1, b2, _⟩ := of_facts x (Int.not_lt.2 HCn.out)
        exact ⟨_, _, _, _, rfl, .inr ⟨by omega, .inl ⟨HCn.out, s, rest, i, HPr.out, k2, k3, k4, rfl, rfl, rfl, rfl⟩⟩, land_put HC.out.inv HL.out k2 k5, k1⟩
end Go.Proofs.YtadbbknllakpcaaGreat

/- The walk of alloc's Spans. -/
namespace Go.Proofs.YtadbbknllakpcaaGreat
open Go.RowKit
set_option linter.unusedVariables false

def cellsOf (W : Nat → Option Addr × Nat) : Nat → List Sp → List Value
  | _, [] => []
  | k, s :: r => .int .i64 (s.pg : Int) :: .int .i64 (s.ps : Int) :: .int .i64 s.cl :: .slice (W k).1 s.len (W k).2 :: cellsOf W (k + 1) r
theorem cells_len (W : Nat → Option Addr × Nat) : ∀ (S : List Sp) (k : Nat), (cellsOf W k S).length = S.length * 4
  | [], _ => rfl
  | s :: r, k => by simp only [cellsOf, List.length_cons, cells_len W r (k + 1)]; omega
theorem cells_snoc (W : Nat → Option Addr × Nat) (s : Sp) : ∀ (S : List Sp) (k : Nat), cellsOf W k (S ++ [s]) = cellsOf W k S ++ [.int .i64 (s.pg : Int), .int .i64 (s.ps : Int), .int .i64 s.cl, .slice (W (k + S.length)).1 s.len (W (k + S.length)).2]
  | [], k => rfl
  | t :: r, k => by
    simp only [List.cons_append, cellsOf, cells_snoc W s r (k + 1), List.length_cons]
    rw [show k + 1 + r.length = k + (r.length + 1) by omega]
theorem cells_congr {W V : Nat → Option Addr × Nat} : ∀ (S : List Sp) (k : Nat), (∀ i, k ≤ i → i < k + S.length → W i = V i) → cellsOf W k S = cellsOf V k S
  | [], _, _ => rfl
  | t :: r, k, h => by
    simp only [cellsOf, h k (Nat.le_refl _) (by simp), cells_congr r (k + 1) (fun i h1 h2 => h i (by omega) (by simp; omega))]
theorem cells_at (W : Nat → Option Addr × Nat) : ∀ (S : List Sp) (k i : Nat) (s : Sp), S[i]? = some s → (cellsOf W k S)[i * 4]? = some (.int .i64 (s.pg : Int)) ∧ (cellsOf W k S)[i * 4 + 1]? = some (.int .i64 (s.ps : Int)) ∧ (cellsOf W k S)[i * 4 + 2]? = some (.int .i64 s.cl) ∧ (cellsOf W k S)[i * 4 + 3]? = some (.slice (W (k + i)).1 s.len (W (k + i)).2)
  | [], _, _, _, h => by simp at h
  | t :: r, k, 0, s, h => by simp at h; subst h; simp [cellsOf]
  | t :: r, k, i + 1, s, h => by
    have := cells_at W r (k + 1) i s (by simpa using h)
    rw [show k + 1 + i = k + (i + 1) by omega] at this
    simp only [cellsOf, show (i + 1) * 4 = i * 4 + 1 + 1 + 1 + 1 by omega, show i * 4 + 1 + 1 + 1 + 1 + 1 = i * 4 + 1 + 1 + 1 + 1 + 1 from rfl, List.getElem?_cons_succ]
    exact this
theorem cells_one (W : Nat → Option Addr × Nat) : ∀ (S : List Sp) (k : Nat), ∀ v ∈ cellsOf W k S, v.oneCell' = true
  | [], _, _, h => by cases h
  | t :: r, k, v, h => by
    simp only [cellsOf, List.mem_cons] at h
    rcases h with rfl | rfl | rfl | rfl | h
    · rfl
    · rfl
    · rfl
    · rfl
    · exact cells_one W r (k + 1) v h
/-- Where the words of spans are. -/
def WsAt (w : World) (B : Nat) (S : List Sp) (W : Nat → Option Addr × Nat) : Prop := ∀ i s, S[i]? = some s → WordsAt w (W i).1 s.len s.f ∧ ∀ x o, (W i).1 = some ⟨x, o, none⟩ → B ≤ x
/-- A list of spans that the call has made. -/
def SpansV (w : World) (B : Nat) (S : List Sp) (v : Value) : Prop := ∃ W, w.ownsRow B 27 4 v S.length (cellsOf W 0 S) ∧ WsAt w B S W ∧ ∀ i x o, i < S.length → (W i).1 = some ⟨x, o, none⟩ → v.ownBlock ≠ some x
/-- A list of spans to be read. -/
def SpansAt (w : World) (A : Option Addr) (S : List Sp) : Prop := ∃ W, RdAt w A S.length (cellsOf W 0 S) ∧ ∀ i s, S[i]? = some s → WordsAt w (W i).1 s.len s.f
theorem SpansV.read {w : World} {B : Nat} {S : List Sp} {v : Value} (h : SpansV w B S v) : ∃ A cap, v = .slice A S.length cap ∧ SpansAt w A S := by
  obtain ⟨W, ho, hw, _⟩ := h
  obtain ⟨A, c, rfl⟩ := ownsRow_slice ho
  exact ⟨A, c, rfl, W, RdAt.of_own ho, fun i s hs => (hw i s hs).1⟩
theorem SpansAt.below {w w' : World} {A : Option Addr} {S : List Sp} (h : SpansAt w A S) (hb : Below w.heap.size w w') : SpansAt w' A S := by
  obtain ⟨W, hr, hw⟩ := h
  exact ⟨W, hr.below hb, fun i s hs => (hw i s hs).below hb⟩
theorem SpansV.below {w w' : World} {B : Nat} {S : List Sp} {v : Value} (h : SpansV w B S v) (hb : Below w.heap.size w w') : SpansV w' B S v := by
  obtain ⟨W, hr, hw, ha⟩ := h
  exact ⟨W, ownsRow_below hr hb, fun i s hs => ⟨(hw i s hs).1.below hb, (hw i s hs).2⟩, ha⟩
theorem SpansV.nil (w : World) (B : Nat) : SpansV w B [] (.slice none 0 0) := ⟨fun _ => (none, 0), World.ownsRow_nil _ _ _ _, (fun i s h => by simp at h), fun i x o h => by simp at h⟩
theorem info_SpanH : (Tryz.prog.info? 27).map (fun i => (i.zero, i.size, i.bytes)) = some (some (.agg #[.int .i64 0, .int .i64 0, .int .i64 0, .slice none 0 0]), 4, 48) := by kernel_rfl
theorem four_one (a b c : Int) (A : Option Addr) (n k : Nat) : ∀ u ∈ (#[Value.int .i64 a, Value.int .i64 b, Value.int .i64 c, Value.slice A n k]).toList, u.oneCell' = true := fun u hu => by
  simp at hu
  rcases hu with rfl | rfl | rfl | rfl <;> rfl
theorem app_nextS {w w0 w3 : World} {v : Value} {n : Nat} {xs : List Value} (hB : Below w.heap.size w w0) (hown : w0.ownsRow w.heap.size 27 4 v n xs) (hgr : w0.grownBy w3 v.ownBlock) : Below w.heap.size w w3 :=
  hB.grown hgr hB.size (fun k hk => (hown.lt k hk).1)
theorem clone_words {w' : World} {B n : Nat} {f : Nat → Bool} {A : Option Addr} {c : Nat} (h : w'.ownsRow B 64 1 (.slice A n c) n (wdV n f)) (hf : ∀ i, 64 * n ≤ i → f i = false) (hn : n ≤ 9223372036854775807) : WordsAt w' A n f ∧ ∀ x o, A = some ⟨x, o, none⟩ → B ≤ x := by
  refine ⟨⟨RdAt.of_own h, hf, hn⟩, fun x o he => ?_⟩
  subst he
  exact (h.lt x rfl).1
/-- Words that stay as what is new is written. -/
theorem words_grown {w w' : World} {A : Option Addr} {n : Nat} {f : Nat → Bool} {v : Value} {B k size : Nat} {e : TypeId} {xs : List Value} (h : WordsAt w A n f) (hown : w.ownsRow B e size v k xs) (hA : ∀ x o, A = some ⟨x, o, none⟩ → v.ownBlock ≠ some x) (hgr : w.grownBy w' v.ownBlock) : WordsAt w' A n f :=
  h.only (S := fun j => v.ownBlock = some j) (Only.grown (Only.refl _ w) hgr (fun j hj _ => hj)) (fun x y he hx => hA x y he hx)
theorem SpansV.snoc {w w' : World} {B j : Nat} {S : List Sp} {s : Sp} {W : Nat → Option Addr × Nat} {v v' : Value} {A : Option Addr} {cap : Nat} (hj : S.length = j) (hv : w.ownsRow B 27 4 v j (cellsOf W 0 S)) (hw : WsAt w B S W) (ha : ∀ i x o, i < S.length → (W i).1 = some ⟨x, o, none⟩ → v.ownBlock ≠ some x)
    (hW : WordsAt w A s.len s.f) (hA : ∀ x o, A = some ⟨x, o, none⟩ → B ≤ x) (hA2 : ∀ x o, A = some ⟨x, o, none⟩ → v.ownBlock ≠ some x) (hs1 : 0 < s.len) (hl : ∀ t ∈ S, 0 < t.len)
    (hv' : w'.ownsRow B 27 4 v' (j + 1) (cellsOf W 0 S ++ [.int .i64 (s.pg : Int), .int .i64 (s.ps : Int), .int .i64 s.cl, .slice A s.len cap])) (hgr : w.grownBy w' v.ownBlock) (hne : NewRow w.heap.size v v') :
    SpansV w' B (S ++ [s]) v' := by
  subst hj
  have hV : ∀ i, i < S.length → (fun i => if i = S.length then (A, cap) else W i) i = W i := fun i hi => if_neg (by omega)
  have hc : cellsOf (fun i => if i = S.length then (A, cap) else W i) 0 (S ++ [s]) = cellsOf W 0 S ++ [.int .i64 (s.pg : Int), .int .i64 (s.ps : Int), .int .i64 s.cl, .slice A s.len cap] := by
    rw [cells_snoc, cells_congr (V := W) S 0 (fun i _ h => hV i (by omega))]
    simp
  have hkeep : ∀ {A' : Option Addr} {n : Nat} {f : Nat → Bool}, WordsAt w A' n f → (∀ x o, A' = some ⟨x, o, none⟩ → v.ownBlock ≠ some x) → WordsAt w' A' n f := fun h1 h2 => words_grown h1 hv h2 hgr
  have hnew : ∀ {A' : Option Addr} {n : Nat} {f : Nat → Bool}, WordsAt w A' n f → 0 < n → (∀ x o, A' = some ⟨x, o, none⟩ → v.ownBlock ≠ some x) → ∀ x o, A' = some ⟨x, o, none⟩ → v'.ownBlock ≠ some x := fun h1 h0 h2 x o he h3 => by
    have h4 := h1.lt h0 x o he
    rcases hne with h5 | ⟨k, h5, h6⟩
    · rw [h5] at h3; exact h2 x o he h3
    · rw [h5] at h3; cases h3; omega
  refine ⟨fun i => if i = S.length then (A, cap) else W i, by rw [hc, List.length_append]; exact hv', fun i t ht => ?_, fun i x o hi he => ?_⟩
  · rcases Nat.lt_or_ge i S.length with h | h
    · rw [List.getElem?_append_left h] at ht
      simp only [hV i h]
      exact ⟨hkeep (hw i t ht).1 (fun x o he => ha i x o h he), (hw i t ht).2⟩
    · have hi : i = S.length := by
        have := (List.getElem?_eq_some_iff.1 ht).1
        simp at this; omega
      subst hi
      rw [List.getElem?_append_right (Nat.le_refl _)] at ht
      simp at ht; subst ht
      simp only [if_pos]
      exact ⟨hkeep hW hA2, hA⟩
  · simp only [List.length_append, List.length_cons, List.length_nil] at hi
    rcases Nat.lt_or_ge i S.length with h | h
    · simp only [hV i h] at he
      obtain ⟨t, ht⟩ : ∃ t, S[i]? = some t := ⟨_, List.getElem?_eq_getElem h⟩
      exact hnew (hw i t ht).1 (hl t (List.mem_of_getElem? ht)) (fun x o he => ha i x o h he) x o he
    · obtain rfl : i = S.length := by omega
      simp only [if_pos] at he
      exact hnew hW hs1 hA2 x o he
set_option maxRecDepth 8000 in
set_option maxHeartbeats 8000000 in
theorem spans_calls (w : World) (H L n : Nat) (S : List Sp) (l : List (Nat × Nat)) (F : Nat → Prop) (h : HeapAt w H L n S l F) :
    Calls Tryz.prog 17 #[.pointer (some ⟨H, 0, none⟩)] w fun e w' => ∃ v, e = .returned v ∧ SpansV w' w.heap.size S v ∧ Below w.heap.size w w' := by
  obtain ⟨i0, hi0, hz0, hz1, hz2⟩ := info_parts info_SpanH
  obtain ⟨c, g, cp, rfl, rfl, hh⟩ := h
  obtain ⟨A1, c1, hfv⟩ := ownsRow_slice hh.core.fst
  have h2 := hh.core.blk.cell 2
  simp only [List.getElem?_cons_succ, List.getElem?_cons_zero] at h2
  rw [hfv] at h2
  have HRd := Lib.hid (RdAt.of_own (hfv ▸ hh.core.fst))
  have HC := Lib.hid hh
  have hSl := hh.inv.len
  have HSn := Lib.hid hSl
  have hpl : (pagesS S).length = S.length := by unfold pagesS; rw [List.length_map]
  rw [hpl] at h2
  clear hh hfv hSl
  go_enter Tryz.func17, Tryz.ntmps17
  go_wp2_with fail
  clear h2
  go_loopg [12, 3] S.length (fun q s12 s3 wr => ∃ j, q = S.length - j ∧ j ≤ S.length ∧ s12 = .int .i64 (j : Int) ∧ Hid (SpansV wr w.heap.size (S.take j) s3) ∧ Hid (Below w.heap.size w wr))
  case atStart => exact ⟨0, by omega, by omega, rfl, Lib.hid (SpansV.nil _ _), Lib.hid (Below.refl _ _)⟩
  case round =>
    obtain ⟨j, hq, hjl, rfl, hv, hb⟩ := hrel
    by_cases hlt : j < S.length
    · obtain ⟨s, hs⟩ : ∃ s, S[j]? = some s := ⟨_, List.getElem?_eq_getElem hlt⟩
      obtain ⟨gb, go, rfl, hgb, hgc⟩ := HRd.out.num (l := pagesS S) (k := j) (by unfold pagesS; rw [List.getElem?_map, hs]; rfl)
      have hgc2 : wr.cell? ⟨gb, go + j, none⟩ = some (.int .i64 (s.pg : Int)) := (World.cell?_of_block (hb.out.block gb hgb)).trans hgc
      have HCr := Lib.hid (HC.out.below hb.out)
      have hbl := HCr.out.core.blk.cell 1
      simp only [List.getElem?_cons_succ, List.getElem?_cons_zero] at hbl
      have hmem : s ∈ S := List.mem_of_getElem? hs
      obtain ⟨hok, A, cap, hm1, hWd, _⟩ := HCr.out.core.has s hmem
      have HOk := Lib.hid hok
      have HS := Lib.hid hs
      have hpw : (Lit.int .i64 (s.pg : Int)).wf = true := WalkArith.wf_i64 (by have := hok.ps1; omega)
      obtain ⟨w2, hw2, hX2, hB2⟩ := one_span wr s.pg s.ps s.cl A s.len cap
      have HM := Lib.hid hm1
      have HW2 := Lib.hid (hWd.below hB2)
      have HX2 := Lib.hid hX2
      have HBr2 := Lib.hid hB2
      obtain ⟨s0, s1, s2, s3⟩ := hX2.cells
      have hXw : wr.heap.size < w2.heap.size := Blk.lt hX2
      clear hgb hgc hs hmem hok hm1 hWd hX2 hB2
      go_wp2_with (at_lookup; refine wpList_look rfl (.tmp 19) (.tmp 20) 58 27 rfl Tryz.underlying58 (zero_span _) rfl HCr.out.core.mp1 (s.pg : Int) rfl hpw ?_; rw [HM.out]; show wpList _ _ _ _ (Act.put _ _ (Value.agg #[.int .i64 (s.pg : Int), .int .i64 (s.ps : Int), .int .i64 s.cl, .slice A s.len cap])) _)
      have hln := HOk.out.size
      have hlen2 : s.len ≤ 32 := by unfold Sp.len wn; omega
      refine (clone_u64 w2 A s.len cap (wdV s.len s.f) (by unfold wdV fnV; simp) HW2.out.1 (fun u hu => by unfold wdV fnV at hu; simp at hu; obtain ⟨_, _, rfl⟩ := hu; rfl) (by omega)).mono ?_
      rintro e w3 ⟨v, rfl, hown, _, hB3⟩
      obtain ⟨A3, c3, rfl⟩ := ownsRow_slice hown
      obtain ⟨hW3, hA3⟩ := clone_words hown HW2.out.2.1 HW2.out.2.2
      have hX3 := HX2.out.below hB3
      obtain ⟨x0, x1, x2, x3⟩ := hX3.cells
      obtain ⟨f0, f1, f2, f3⟩ := hX3.free
      obtain ⟨w4, hw4⟩ : ∃ w4, w3.setCell ⟨wr.heap.size, 3, none⟩ (.slice A3 s.len c3) = w4 := ⟨_, rfl⟩
      have hX4 : SpB w4 wr.heap.size s.pg s.ps s.cl A3 s.len c3 := by rw [← hw4]; exact Blk.set hX3 3 _
      have HBr4 := Lib.hid (show Below wr.heap.size wr w4 from by rw [← hw4]; exact (bel_next HBr2.out hB3 (Nat.le_refl _)).setCell (p := ⟨wr.heap.size, 3, none⟩) (Nat.le_refl _) _)
      have HW4 := Lib.hid (show WordsAt w4 A3 s.len s.f from hW3.only (S := (· = wr.heap.size)) (by rw [← hw4]; exact Only.set (S := (· = wr.heap.size)) (p := ⟨wr.heap.size, 3, none⟩) (Only.refl _ w3) (fun _ => rfl) _) (fun x y he hx => by have := hA3 x y he; omega))
      have HA4 := Lib.hid (show ∀ x o, A3 = some ⟨x, o, none⟩ → wr.heap.size < x from fun x o he => by have := hA3 x o he; omega)
      have HB4 := Lib.hid (bel_next hb.out HBr4.out (Nat.le_refl _))
      obtain ⟨W, hv1, hv2, hv3⟩ := hv.out
      have HVr := Lib.hid hv1
      have htl : (S.take j).length = j := by rw [List.length_take]; omega
      rw [htl] at hv1
      have HV4 := Lib.hid (ownsRow_below hv1 HBr4.out)
      have HVw := Lib.hid (show WsAt w4 w.heap.size (S.take j) W from fun i t ht => ⟨(hv2 i t ht).1.below HBr4.out, (hv2 i t ht).2⟩)
      have HVa := Lib.hid hv3
      have HTl := Lib.hid htl
      obtain ⟨t0, t1, t2, t3⟩ := hX4.cells
      clear hv1 hv2 hv3 hX3 hW3 hA3 hown hB3 hX4 htl s0 s1 s2 s3 hln hlen2
      have hj4 : j < 4096 := by have := HSn.out; omega
      go_wp2_with (at_builtin; refine wpList_append_new rfl (.tmp 26) (.tmp 28) 22 rfl w.heap.size 27 i0 _ 4 48 Tryz.underlying22 hi0 hz0 hz1 hz2 rfl (by decide) u3 j 1 _ rfl HV4.out rfl rfl (four_one _ _ _ _ _ _) (by omega) (by unfold maxLen; omega) HB4.out.size ?_; intro v2 w5 hown2 hgr2 hnew2)
      have hs := HS.out
      have hsl := HOk.out.len1
      have hI := HC.out.inv
      have hV5 := SpansV.snoc HTl.out HV4.out HVw.out HVa.out HW4.out (fun x o he => by have := HA4.out x o he; have := hb.out.size; omega) (fun x o he h => by have := HA4.out x o he; have := (HVr.out.lt x h).2; omega) hsl (fun t ht => (hI.1 t (List.mem_of_mem_take ht)).1.len1) hown2 hgr2 (hnew2.imp id (fun ⟨k, h1, h2⟩ => ⟨k, h1, by omega⟩))
      rw [show S.take j ++ [s] = S.take (j + 1) from by rw [List.take_add_one, hs]; rfl] at hV5
      have HV5 := Lib.hid hV5
      have HB5 := Lib.hid (app_nextS HB4.out HV4.out hgr2)
      clear hs hsl hI hV5 hown2 hgr2 hnew2 hw4 hw2
      go_roundg (S.length - (j + 1))
      case measure => omega
      case rel => exact ⟨j + 1, by omega, by omega, by go_num, HV5, HB5⟩
    · obtain rfl : j = S.length := by omega
      rw [List.take_length] at hv
      go_wp2
      go_ret
      exact ⟨_, rfl, hv.out, hb.out⟩
end Go.Proofs.YtadbbknllakpcaaGreat
