/- The walk of alloc's under. -/
import Derived.Test.YtadbbknllakpcaaGreatHeapB
import Derived.OwnWalk
namespace Go.Proofs.YtadbbknllakpcaaGreat
open Go.RowKit
set_option linter.unusedVariables false

/-- What under answers. -/
def UnderR (w : World) (S : List Sp) (x : Int) (e : Ending) (w' : World) : Prop := Below w.heap.size w w' ∧
  ((∃ pg ps cl A len cap, e = .returned (.tuple #[spV pg ps cl A len cap, .bool false]) ∧ ∀ s ∈ S, ¬ (512 * (s.pg : Int) ≤ x ∧ x < 512 * ((s.pg : Int) + s.ps))) ∨
   ∃ s ∈ S, ∃ A cap, e = .returned (.tuple #[s.v A cap, .bool true]) ∧ 512 * (s.pg : Int) ≤ x ∧ x < 512 * ((s.pg : Int) + s.ps) ∧ WordsAt w' A s.len s.f)
theorem under_none {S : List Sp} {k q : Nat} {s : Sp} {x : Int} (hI : Inv S) (hk : S[k]? = some s) (hp : s.pg ≤ q) (hn : ∀ t, S[k + 1]? = some t → q < t.pg) (hq : s.pg + s.ps ≤ q) (hx : 512 * (q : Int) ≤ x ∧ x < 512 * (q : Int) + 512) : ∀ t ∈ S, ¬ (512 * (t.pg : Int) ≤ x ∧ x < 512 * ((t.pg : Int) + t.ps)) := by
  intro t ht h
  obtain ⟨j, hj⟩ := List.mem_iff_getElem?.1 ht
  have hw := List.pairwise_iff_getElem.1 hI.2
  have get : ∀ {i j : Nat} {a b : Sp}, S[i]? = some a → S[j]? = some b → i < j → a.pg + a.ps ≤ b.pg := fun {i j a b} h1 h2 h3 => by
    have := hw i j (List.getElem?_eq_some_iff.1 h1).1 (List.getElem?_eq_some_iff.1 h2).1 h3
    rw [(List.getElem?_eq_some_iff.1 h1).2, (List.getElem?_eq_some_iff.1 h2).2] at this
    exact this
  rcases Nat.lt_trichotomy j k with h3 | h3 | h3
  · have := get hj hk h3; omega
  · subst h3; rw [hk] at hj; cases hj; omega
  · obtain ⟨u, hu⟩ : ∃ u, S[k + 1]? = some u := ⟨_, List.getElem?_eq_getElem (by have := (List.getElem?_eq_some_iff.1 hj).1; omega)⟩
    have h4 := hn u hu
    rcases Nat.lt_or_ge (k + 1) j with h5 | h5
    · have := get hu hj h5; omega
    · obtain rfl : j = k + 1 := by omega
      rw [hu] at hj; cases hj; omega
theorem under_first {S : List Sp} {q : Nat} {x : Int} (hI : Inv S) (hn : ∀ t, S[0]? = some t → q < t.pg) (hx : 512 * (q : Int) ≤ x ∧ x < 512 * (q : Int) + 512) : ∀ t ∈ S, ¬ (512 * (t.pg : Int) ≤ x ∧ x < 512 * ((t.pg : Int) + t.ps)) := by
  intro t ht h
  obtain ⟨j, hj⟩ := List.mem_iff_getElem?.1 ht
  obtain ⟨u, hu⟩ : ∃ u, S[0]? = some u := ⟨_, List.getElem?_eq_getElem (by have := (List.getElem?_eq_some_iff.1 hj).1; omega)⟩
  have h4 := hn u hu
  have hw := List.pairwise_iff_getElem.1 hI.2
  rcases Nat.eq_zero_or_pos j with h5 | h5
  · subst h5; rw [hu] at hj; cases hj; omega
  · have := hw 0 j (List.getElem?_eq_some_iff.1 hu).1 (List.getElem?_eq_some_iff.1 hj).1 h5
    rw [(List.getElem?_eq_some_iff.1 hu).2, (List.getElem?_eq_some_iff.1 hj).2] at this
    omega
theorem pages_at {S : List Sp} {k : Nat} {s : Sp} (h : S[k]? = some s) : (pagesS S)[k]? = some s.pg := by unfold pagesS; rw [List.getElem?_map, h]; rfl
theorem pos_yes {S : List Sp} {i q : Nat} {s : Sp} (hI : Inv S) (h : S[i]? = some s) (he : s.pg = q) : s.pg ≤ q ∧ ∀ t, S[i + 1]? = some t → q < t.pg := by
  refine ⟨by omega, fun t ht => ?_⟩
  have := hI.rise.lt_at (pages_at h) (pages_at ht) (by omega)
  omega
theorem pos_no {S : List Sp} {k q : Nat} {s : Sp} (hP : PosN (pagesS S) (q : Int) (k + 1)) (hb : ¬ ∃ a, (pagesS S)[k + 1]? = some a ∧ (a : Int) = q) (h : S[k]? = some s) : s.pg ≤ q ∧ ∀ t, S[k + 1]? = some t → q < t.pg := by
  have h1 := (hP.2 k s.pg (pages_at h)).1 (by omega)
  refine ⟨by omega, fun t ht => ?_⟩
  have h2 : ¬ (t.pg : Int) < q := fun h => by have := (hP.2 (k + 1) t.pg (pages_at ht)).2 h; omega
  have h3 : t.pg ≠ q := fun e => hb ⟨t.pg, pages_at ht, by omega⟩
  omega
theorem run_atI (w : World) (b o len cap j : Nat) (hj : j < len) : (Instr.indexAt 37 (.slice (some ⟨b, o, none⟩) len cap) (.int .i64 j)).run Tryz.prog w = .ok (.pointer (some ⟨b, o + j * 1, none⟩)) w := by
  go_simp
theorem run_addI (a b : Int) (h : -9223372036854775808 ≤ a + b ∧ a + b ≤ 9223372036854775807) (w : World) : (binOp .add 3 (.int .i64 a) (.int .i64 b)).run Tryz.prog w = .ok (.int .i64 (a + b)) w := by
  go_simp
  exact (IntWalk.i64_left _).trans (IntWalk.wrap64_in _ h)
theorem of_drewB {B : Nat} {w w' : World} (h : Below B w.drew w') : Below B w w' := ⟨h.os, h.tape, h.output, h.size, h.block⟩
/-- While a span is laid in a block of its own. -/
def LayJ (w1 : World) (X ia is : Nat) (pg ps cl : Int) (A : Option Addr) (len cap : Nat) (g : Nat → Bool) (w' : World) : Prop :=
  Below w1.heap.size w1 w' ∧ (w1.heap.size = X ∧ (g ia = false → w' = w1)) ∧ (g ia = true → g is = false → SpB w' X 0 0 0 none 0 0) ∧ (g is = true → g ia = true ∧ SpB w' X pg ps cl A len cap)
section
variable {w1 w' : World} {X ia is : Nat} {pg ps cl : Int} {A : Option Addr} {len cap : Nat} {g : Nat → Bool}
theorem LayJ.start (h : w1.heap.size = X) : LayJ w1 X ia is pg ps cl A len cap (fun _ => false) w1 := ⟨Below.refl _ _, ⟨h, fun _ => rfl⟩, (fun h => by cases h), fun h => by cases h⟩
theorem LayJ.same (h : LayJ w1 X ia is pg ps cl A len cap g w') {i : Nat} (hi : (ia == i || is == i) = false) : LayJ w1 X ia is pg ps cl A len cap (upd g i) w' := by
  simp only [Bool.or_eq_false_iff] at hi
  unfold LayJ
  rw [upd_ne hi.1, upd_ne hi.2]
  exact h
theorem LayJ.alloc (h : LayJ w1 X ia is pg ps cl A len cap g w') (hg : g ia = false) (hne : (is == ia) = false := by decide) : w'.heap.size = X ∧ LayJ w1 X ia is pg ps cl A len cap (upd g ia) (w'.alloc (.cells #[.int .i64 0, .int .i64 0, .int .i64 0, .slice none 0 0] 27)) := by
  obtain rfl := h.2.1.2 hg
  have hX := h.2.1.1
  refine ⟨hX, (Below.refl _ _).alloc (Nat.le_refl _) _, ⟨hX, fun h2 => by simp [upd] at h2⟩, fun _ _ => ?_, fun h2 => ?_⟩
  · rw [← hX]; exact SpB.new w' 0 0 0 none 0 0
  · rw [upd_ne hne] at h2
    have := (h.2.2.2 h2).1
    rw [hg] at this; cases this
theorem LayJ.store (h : LayJ w1 X ia is pg ps cl A len cap g w') (hd : g ia = true) : ∃ w'', (Instr.storeAt 27 (.pointer (some ⟨X, 0, none⟩)) (spV pg ps cl A len cap)).run Tryz.prog w' = .ok () w'' ∧ LayJ w1 X ia is pg ps cl A len cap (upd g is) w'' := by
  have hS : ∃ a b c B n k, SpB w' X a b c B n k := by
    cases hs : g is
    · exact ⟨_, _, _, _, _, _, h.2.2.1 hd hs⟩
    · exact ⟨_, _, _, _, _, _, (h.2.2.2 hs).2⟩
  obtain ⟨a, b, c, B, n, k, hS⟩ := hS
  have hia : upd g is ia = true := by unfold upd; split <;> first | rfl | exact hd
  refine ⟨_, run_storeS hS pg ps cl A len cap, below4 h.1 (Nat.le_of_eq h.2.1.1) _ _ _ _, ⟨h.2.1.1, fun h2 => by rw [hia] at h2; cases h2⟩, fun _ h2 => by simp [upd] at h2, fun _ => ⟨hia, set4_span hS pg ps cl A len cap⟩⟩
end
/-- While a span is handed out. -/
def OutJ (w w1 : World) (X R is : Nat) (pg ps cl : Int) (A : Option Addr) (len cap : Nat) (g : Nat → Bool) (w' : World) : Prop :=
  Below w.heap.size w w' ∧ SpB w' X pg ps cl A len cap ∧ X ≠ R ∧ w.heap.size ≤ R ∧ (g is = false → SpB w' R 0 0 0 none 0 0) ∧ (g is = true → SpB w' R pg ps cl A len cap)
section
variable {w w1 w' : World} {X R is : Nat} {pg ps cl : Int} {A : Option Addr} {len cap : Nat} {g : Nat → Bool}
theorem OutJ.same (h : OutJ w w1 X R is pg ps cl A len cap g w') {i : Nat} (hi : (is == i) = false) : OutJ w w1 X R is pg ps cl A len cap (upd g i) w' := by
  unfold OutJ
  rw [upd_ne hi]
  exact h
theorem OutJ.store (h : OutJ w w1 X R is pg ps cl A len cap g w') (hg : g is = false) : ∃ w'', (Instr.storeAt 27 (.pointer (some ⟨R, 0, none⟩)) (spV pg ps cl A len cap)).run Tryz.prog w' = .ok () w'' ∧ OutJ w w1 X R is pg ps cl A len cap (upd g is) w'' := by
  have hS := h.2.2.2.2.1 hg
  refine ⟨_, run_storeS hS pg ps cl A len cap, below4 h.1 h.2.2.2.1 _ _ _ _, ?_, h.2.2.1, h.2.2.2.1, fun h2 => by simp [upd] at h2, fun _ => set4_span hS pg ps cl A len cap⟩
  unfold set4
  exact (((Blk.set_other h.2.1 h.2.2.1 _ _).set_other h.2.2.1 _ _).set_other h.2.2.1 _ _).set_other h.2.2.1 _ _
end
section
variable {md : Region.Mode} {ops : Array Oper} {F : Act} {J : (Nat → Bool) → World → Prop} {i : Nat} {o : Oper}
theorem dag_allocS {X : Nat} (hw : Region.wanted o (yielded ops F.tmps) = true) (hp : F.put o.dst (.pointer (some ⟨X, 0, none⟩)) = F) (ho : o.op = .alloc 27)
    (hx : ∀ (g : Nat → Bool) (w : World), g i = false → J g w → w.heap.size = X ∧ J (upd g i) (w.alloc (.cells #[.int .i64 0, .int .i64 0, .int .i64 0, .slice none 0 0] 27))) : DagStep Tryz.prog md ops F J i o := by
  refine dag_make hw hp (fun g w h1 h2 h => ?_)
  obtain ⟨hX, hj⟩ := hx g w h1 h
  refine ⟨_, ?_, hj⟩
  subst hX
  unfold execOp
  simp only [ho, Sem.run_bind, run_allocS, Result.andThen_ok, Sem.run_pure]
end
set_option maxRecDepth 8000 in
set_option maxHeartbeats 8000000 in
theorem under_calls (w : World) (c : HC) (n : Nat) (S : List Sp) (x : Int) (hC : Core w c n (pagesS S) (partS S) S) (hI : Inv S) (hx : I64 x) :
    Calls Tryz.prog 38 #[.pointer (some ⟨c.H, 0, none⟩), .int .i64 x] w (UnderR w S x) := by
  obtain ⟨w2, hw1, hR, hB⟩ := one_span w 0 0 0 none 0 0
  have HB1 := Lib.hid hB
  have HR1 := Lib.hid hR
  have HC1 := Lib.hid (hC.below hB)
  have hC0 := Lib.hid hC
  have HI := Lib.hid hI
  have HX := Lib.hid hx
  obtain ⟨A1, c1, hfv⟩ := ownsRow_slice hC.fst
  have h2 := HC1.out.blk.cell 2
  simp only [List.getElem?_cons_succ, List.getElem?_cons_zero] at h2
  rw [hfv] at h2
  have HRd := Lib.hid (RdAt.of_own (hfv ▸ HC1.out.fst))
  have hrise := hI.rise
  have hpl := pages_len hI
  obtain ⟨z0, z1, z2, z3⟩ := hR.cells
  obtain ⟨y0, y1, y2, y3⟩ := hR.free
  obtain ⟨p, hp⟩ : ∃ p, wrap64 (x.tdiv 512) = p := ⟨_, rfl⟩
  have hxx : x < 0 ∨ ∃ q : Nat, p = q ∧ 512 * (q : Int) ≤ x ∧ x < 512 * (q : Int) + 512 := by
    unfold I64 at hx
    rcases Int.lt_or_le x 0 with h | h
    · exact .inl h
    · refine .inr ⟨(x / 512).toNat, ?_, by omega, by omega⟩
      rw [← hp, Int.tdiv_eq_ediv_of_nonneg h, IntWalk.wrap64_in _ (by omega)]
      omega
  have HXX := Lib.hid hxx
  have HRise := Lib.hid hrise
  clear hB hR hC hI hx hxx hrise
  go_enter Tryz.func38, Tryz.ntmps38
  go_wp2_with fail
  rw [hp]
  clear hp
  refine (bsearchI_calls _ A1 c1 (pagesS S) p HRd.out HRise.out (by omega)).mono ?_
  rintro e w3 ⟨i, is, rfl, hP, hb, rfl⟩
  have HP := Lib.hid hP
  have HBs := Lib.hid hb
  clear hP hb hw1
  by_cases hx0 : x < 0
  · have hno : ∀ s ∈ S, ¬ (512 * (s.pg : Int) ≤ x ∧ x < 512 * ((s.pg : Int) + s.ps)) := fun s hs h => by omega
    have HNo := Lib.hid hno
    have hd0 : decide (x < 0) = true := decide_eq_true hx0
    clear hno
    cases is
    · go_wp2
      refine bodyPost_ret (v := .tuple #[spV 0 0 0 none 0 0, .bool false]) (by simp [spV, results, Tryz.results38, go_sem, z0, z1, z2, z3, y0, y1, y2, y3]) rfl ?_
      exact ⟨below4 HB1.out (Nat.le_refl _) _ _ _ _, .inl ⟨_, _, _, _, _, _, rfl, HNo.out⟩⟩
    · go_wp2
      refine bodyPost_ret (v := .tuple #[spV 0 0 0 none 0 0, .bool false]) (by simp [spV, results, Tryz.results38, go_sem, z0, z1, z2, z3, y0, y1, y2, y3]) rfl ?_
      exact ⟨below4 HB1.out (Nat.le_refl _) _ _ _ _, .inl ⟨_, _, _, _, _, _, rfl, HNo.out⟩⟩
  · obtain ⟨q, rfl, hq⟩ := HXX.out.resolve_left hx0
    have HQ := Lib.hid hq
    have hd0 : decide (x < 0) = false := decide_eq_false hx0
    clear hq
    cases is
    · cases i with
      | zero =>
        have hm1 : wrap64 (-1 : Int) = -1 := IntWalk.wrap64_in _ (by omega)
        have HNo := Lib.hid (under_first (S := S) (q := q) HI.out (fun t ht => by
          have h2 : ¬ (t.pg : Int) < q := fun h => by have := (HP.out.2 0 t.pg (pages_at ht)).2 h; omega
          have h3 : t.pg ≠ q := fun e => by have := HBs.out.2 ⟨t.pg, pages_at ht, by omega⟩; cases this
          omega) HQ.out)
        go_wp2
        refine bodyPost_ret (v := .tuple #[spV 0 0 0 none 0 0, .bool false]) (by simp [spV, results, Tryz.results38, go_sem, z0, z1, z2, z3, y0, y1, y2, y3]) rfl ?_
        exact ⟨below4 HB1.out (Nat.le_refl _) _ _ _ _, .inl ⟨_, _, _, _, _, _, rfl, HNo.out⟩⟩
      | succ k =>
        obtain ⟨s, hk⟩ : ∃ s, S[k]? = some s := ⟨_, List.getElem?_eq_getElem (by have := HP.out.1; unfold pagesS at this; rw [List.length_map] at this; omega)⟩
        have hkk : wrap64 (k : Int) = (k : Int) := IntWalk.wrap64_in _ (by have := HP.out.1; omega)
        have hk0 : decide ((k : Int) < 0) = false := by simp
        have HSk := Lib.hid hk
        obtain ⟨hkp, hkn⟩ := pos_no HP.out (fun h => by have := HBs.out.2 h; cases this) hk
        have HKp := Lib.hid hkp
        have HKn := Lib.hid hkn
        have HKl := Lib.hid (show k < (pagesS S).length by unfold pagesS; rw [List.length_map]; exact (List.getElem?_eq_some_iff.1 hk).1)
        have hmem : s ∈ S := List.mem_of_getElem? hk
        have HMem := Lib.hid hmem
        have hpk : (pagesS S)[k]? = some s.pg := by unfold pagesS; rw [List.getElem?_map, hk]; rfl
        obtain ⟨gb, go, rfl, hgb, hgc⟩ := HRd.out.num hpk
        have HFv := Lib.hid hfv
        have HGc := Lib.hid (show ∀ w' : World, Below w2.drew.heap.size w2.drew w' → w'.cell? ⟨gb, go + k * 1, none⟩ = some (.int .i64 (s.pg : Int)) from fun w' hb => by
          rw [Nat.mul_one]
          exact (World.cell?_of_block (hb.block gb hgb)).trans hgc)
        obtain ⟨hok, A, cap, hm1, hWd, _⟩ := hC0.out.has s hmem
        have HW0 := Lib.hid hWd
        have HOk := Lib.hid hok
        have HSm := Lib.hid (show -9223372036854775808 ≤ (s.pg : Int) + (s.ps : Int) ∧ (s.pg : Int) + (s.ps : Int) ≤ 9223372036854775807 from by have := hok.ps1; omega)
        have HLk := Lib.hid (show ∀ w' : World, Below w2.drew.heap.size w2.drew w' → (Instr.lookup 58 (.map (some c.r1)) (.int .i64 ((s.pg : Nat) : Int)) false).run Tryz.prog w' = .ok (.agg #[.int .i64 ((s.pg : Nat) : Int), .int .i64 ((s.ps : Nat) : Int), .int .i64 s.cl, .slice A s.len cap]) w' from fun w' hb => by
          have h1 := ((HC1.out.drew).below hb).mp1.look Tryz.underlying58 (zero_span w') (x := (s.pg : Int)) (WalkArith.wf_i64 (by have := hok.ps1; omega))
          rw [hm1] at h1
          exact h1)
        clear hk hkp hkn hmem hpk hgb hgc hok hm1 hWd hfv
        go_wp2_with fail
        rw [hkk]
        obtain ⟨X, hX⟩ : ∃ X, w2.heap.size = X := ⟨_, rfl⟩
        have HXs := Lib.hid hX
        refine wp_dag [(32, .pointer (some ⟨c.H, 0, none⟩)), (33, .pointer (some ⟨c.H, 0, none⟩)), (34, .pointer (some ⟨c.H, 1, none⟩)), (35, .map (some c.r1)), (36, .pointer (some ⟨c.H, 0, none⟩)), (37, .pointer (some ⟨c.H, 0, none⟩)), (38, .pointer (some ⟨c.H, 2, none⟩)), (39, .slice (some ⟨gb, go, none⟩) (pagesS S).length c1), (40, .int .i64 ((k : Nat) : Int)), (41, .pointer (some ⟨gb, go + k * 1, none⟩)), (42, .int .i64 ((s.pg : Nat) : Int)), (43, .agg #[.int .i64 ((s.pg : Nat) : Int), .int .i64 ((s.ps : Nat) : Int), .int .i64 s.cl, .slice A s.len cap]), (9, .pointer (some ⟨X, 0, none⟩))] (LayJ w2.drew X 12 13 s.pg s.ps s.cl A s.len cap) (by kernel_rfl) (by kernel_rfl) (by kernel_rfl) (by kernel_rfl) (.start hX) ?_ ?_
        case refine_1 =>
          refine dag_cons (dag_val (v := .pointer (some ⟨c.H, 0, none⟩)) (by kernel_rfl) (by kernel_rfl) (fun g0 w' h => by kernel_rfl) (fun g0 w' h => h.same rfl)) ?_
          refine dag_cons (dag_val (v := .pointer (some ⟨c.H, 0, none⟩)) (by kernel_rfl) (by kernel_rfl) (fun g0 w' h => by kernel_rfl) (fun g0 w' h => h.same rfl)) ?_
          refine dag_cons (dag_field (s := 61) (x := .tmp 33) (k := 1) (v1 := .pointer (some ⟨c.H, 0, none⟩)) (v := .pointer (some ⟨c.H, 1, none⟩)) (by kernel_rfl) (by kernel_rfl) (by kernel_rfl) (by kernel_rfl) (fun w' => by kernel_rfl) (fun g0 w' h => h.same rfl)) ?_
          refine dag_cons (dag_load (t := 58) (d := .map 3 27) (x := .tmp 34) (p := ⟨c.H, 1, none⟩) (v := .map (some c.r1)) (by kernel_rfl) (by kernel_rfl) (by kernel_rfl) (by kernel_rfl) Tryz.underlying58 rfl (fun g0 w' h => (HC1.out.drew.below h.1).blk.cell 1) (fun g0 w' h => h.same rfl)) ?_
          refine dag_cons (dag_val (v := .pointer (some ⟨c.H, 0, none⟩)) (by kernel_rfl) (by kernel_rfl) (fun g0 w' h => by kernel_rfl) (fun g0 w' h => h.same rfl)) ?_
          refine dag_cons (dag_val (v := .pointer (some ⟨c.H, 0, none⟩)) (by kernel_rfl) (by kernel_rfl) (fun g0 w' h => by kernel_rfl) (fun g0 w' h => h.same rfl)) ?_
          refine dag_cons (dag_field (s := 61) (x := .tmp 37) (k := 2) (v1 := .pointer (some ⟨c.H, 0, none⟩)) (v := .pointer (some ⟨c.H, 2, none⟩)) (by kernel_rfl) (by kernel_rfl) (by kernel_rfl) (by kernel_rfl) (fun w' => by kernel_rfl) (fun g0 w' h => h.same rfl)) ?_
          refine dag_cons (dag_load (t := 37) (d := .slice 3) (x := .tmp 38) (p := ⟨c.H, 2, none⟩) (v := .slice (some ⟨gb, go, none⟩) (pagesS S).length c1) (by kernel_rfl) (by kernel_rfl) (by kernel_rfl) (by kernel_rfl) Tryz.underlying37 rfl (fun g0 w' h => ((HC1.out.drew.below h.1).blk.cell 2).trans (by rw [HFv.out]; rfl)) (fun g0 w' h => h.same rfl)) ?_
          refine dag_cons (dag_val (v := .int .i64 ((k : Nat) : Int)) (by kernel_rfl) (by kernel_rfl) (fun g0 w' h => by kernel_rfl) (fun g0 w' h => h.same rfl)) ?_
          refine dag_cons (dag_index (t := 37) (x := .tmp 39) (ix := .tmp 40) (v1 := .slice (some ⟨gb, go, none⟩) (pagesS S).length c1) (v2 := .int .i64 ((k : Nat) : Int)) (v := .pointer (some ⟨gb, go + k * 1, none⟩)) (by kernel_rfl) (by kernel_rfl) (by kernel_rfl) (by kernel_rfl) (by kernel_rfl) (fun w' => run_atI w' gb go _ c1 k HKl.out) (fun g0 w' h => h.same rfl)) ?_
          refine dag_cons (dag_load (t := 3) (d := .int .i64) (x := .tmp 41) (p := ⟨gb, go + k * 1, none⟩) (v := .int .i64 ((s.pg : Nat) : Int)) (by kernel_rfl) (by kernel_rfl) (by kernel_rfl) (by kernel_rfl) Tryz.underlying3 rfl (fun g0 w' h => (HGc.out w' h.1)) (fun g0 w' h => h.same rfl)) ?_
          refine dag_cons (dag_lookup (t := 58) (m := .tmp 35) (x := .tmp 42) (v1 := .map (some c.r1)) (v2 := .int .i64 ((s.pg : Nat) : Int)) (v := .agg #[.int .i64 ((s.pg : Nat) : Int), .int .i64 ((s.ps : Nat) : Int), .int .i64 s.cl, .slice A s.len cap]) (by kernel_rfl) (by kernel_rfl) (by kernel_rfl) (by kernel_rfl) (by kernel_rfl) (fun g0 w' hg h => HLk.out w' h.1) (fun g0 w' hg h => h.same rfl)) ?_
          refine dag_cons (dag_allocS (X := X) (by kernel_rfl) (by kernel_rfl) (by kernel_rfl) (fun g0 w' hg h => h.alloc hg)) ?_
          refine dag_cons (dag_store (t := 27) (x := .tmp 9) (y := .tmp 43) (v1 := .pointer (some ⟨X, 0, none⟩)) (v2 := .agg #[.int .i64 ((s.pg : Nat) : Int), .int .i64 ((s.ps : Nat) : Int), .int .i64 s.cl, .slice A s.len cap]) (by kernel_rfl) (by kernel_rfl) (by kernel_rfl) (by kernel_rfl) (by kernel_rfl) (fun g0 w' hg hd h => h.store (hd { on := 12, ground := Ground.data } (by simp) rfl))) ?_
          exact dag_nil
        case refine_2 =>
          intro w3 hJ
          have HB3 := Lib.hid (bel_next HB1.out (of_drewB hJ.1) (Nat.le_refl _))
          have HR3 := Lib.hid (HR1.out.below (of_drewB hJ.1))
          have hX3 := hJ.2.2.2 rfl
          have HX3 := Lib.hid hX3.2
          have HXR := Lib.hid (show X ≠ w.heap.size from fun e => by have := HR1.out.lt; omega)
          clear hJ hX3 hX
          simp only [putAll, List.foldl_cons, List.foldl_nil]
          obtain ⟨R, hR⟩ : ∃ R, w.heap.size = R := ⟨_, rfl⟩
          rw [hR] at HR3 HXR ⊢
          have HRR := Lib.hid hR
          clear hR
          go_wp2_with fail
          refine wp_dag [(44, .agg #[.int .i64 ((s.pg : Nat) : Int), .int .i64 ((s.ps : Nat) : Int), .int .i64 s.cl, .slice A s.len cap]), (45, .int .i64 ((q : Nat) : Int)), (46, .pointer (some ⟨X, 0, none⟩)), (47, .int .i64 ((s.pg : Nat) : Int)), (48, .pointer (some ⟨X, 1, none⟩)), (49, .int .i64 ((s.ps : Nat) : Int)), (50, .int .i64 ((s.pg : Int) + (s.ps : Int))), (51, .bool (decide ((q : Int) < (s.pg : Int) + (s.ps : Int)))), (5, .bool (decide ((q : Int) < (s.pg : Int) + (s.ps : Int))))] (OutJ w w3.drew X R 8 s.pg s.ps s.cl A s.len cap) (by kernel_rfl) (by kernel_rfl) (by kernel_rfl) (by kernel_rfl) ⟨HB3.out.drew, HX3.out, HXR.out, Nat.le_of_eq HRR.out, (fun _ => HR3.out), fun h => by cases h⟩ ?_ ?_
          case refine_1 =>
            refine dag_cons (dag_loadS (t := 27) (ty := 27) (x := .tmp 9) (S := X) (cs := #[.int .i64 ((s.pg : Nat) : Int), .int .i64 ((s.ps : Nat) : Int), .int .i64 s.cl, .slice A s.len cap]) (by kernel_rfl) (by kernel_rfl) (by kernel_rfl) (by kernel_rfl) Tryz.underlying27 rfl (by kernel_rfl) (fun g0 w' h => h.2.1) (fun g0 w' h => h.same rfl)) ?_
            refine dag_cons (dag_val (v := .int .i64 ((q : Nat) : Int)) (by kernel_rfl) (by kernel_rfl) (fun g0 w' h => by kernel_rfl) (fun g0 w' h => h.same rfl)) ?_
            refine dag_cons (dag_field (s := 27) (x := .tmp 9) (k := 0) (v1 := .pointer (some ⟨X, 0, none⟩)) (v := .pointer (some ⟨X, 0, none⟩)) (by kernel_rfl) (by kernel_rfl) (by kernel_rfl) (by kernel_rfl) (fun w' => by kernel_rfl) (fun g0 w' h => h.same rfl)) ?_
            refine dag_cons (dag_load (t := 3) (d := .int .i64) (x := .tmp 46) (p := ⟨X, 0, none⟩) (v := .int .i64 ((s.pg : Nat) : Int)) (by kernel_rfl) (by kernel_rfl) (by kernel_rfl) (by kernel_rfl) Tryz.underlying3 rfl (fun g0 w' h => h.2.1.cells.1) (fun g0 w' h => h.same rfl)) ?_
            refine dag_cons (dag_field (s := 27) (x := .tmp 9) (k := 1) (v1 := .pointer (some ⟨X, 0, none⟩)) (v := .pointer (some ⟨X, 1, none⟩)) (by kernel_rfl) (by kernel_rfl) (by kernel_rfl) (by kernel_rfl) (fun w' => by kernel_rfl) (fun g0 w' h => h.same rfl)) ?_
            refine dag_cons (dag_load (t := 3) (d := .int .i64) (x := .tmp 48) (p := ⟨X, 1, none⟩) (v := .int .i64 ((s.ps : Nat) : Int)) (by kernel_rfl) (by kernel_rfl) (by kernel_rfl) (by kernel_rfl) Tryz.underlying3 rfl (fun g0 w' h => h.2.1.cells.2.1) (fun g0 w' h => h.same rfl)) ?_
            refine dag_cons (dag_bin (b := .add) (t := 3) (t' := 3) (x := .tmp 47) (y := .tmp 49) (v1 := .int .i64 ((s.pg : Nat) : Int)) (v2 := .int .i64 ((s.ps : Nat) : Int)) (v := .int .i64 ((s.pg : Int) + (s.ps : Int))) (by kernel_rfl) (by kernel_rfl) (by kernel_rfl) (by kernel_rfl) (by kernel_rfl) rfl (fun w' => run_addI _ _ HSm.out w') (fun g0 w' h => h.same rfl)) ?_
            refine dag_cons (dag_bin (b := .lss) (t := 3) (t' := 3) (x := .tmp 45) (y := .tmp 50) (v1 := .int .i64 ((q : Nat) : Int)) (v2 := .int .i64 ((s.pg : Int) + (s.ps : Int))) (v := .bool (decide ((q : Int) < (s.pg : Int) + (s.ps : Int)))) (by kernel_rfl) (by kernel_rfl) (by kernel_rfl) (by kernel_rfl) (by kernel_rfl) rfl (fun w' => run_lss _ _ _ rfl w') (fun g0 w' h => h.same rfl)) ?_
            refine dag_cons (dag_store (t := 27) (x := .tmp 4) (y := .tmp 44) (v1 := .pointer (some ⟨R, 0, none⟩)) (v2 := .agg #[.int .i64 ((s.pg : Nat) : Int), .int .i64 ((s.ps : Nat) : Int), .int .i64 s.cl, .slice A s.len cap]) (by kernel_rfl) (by kernel_rfl) (by kernel_rfl) (by kernel_rfl) (by kernel_rfl) (fun g0 w' hg hd h => h.store hg)) ?_
            refine dag_cons (dag_val (v := .bool (decide ((q : Int) < (s.pg : Int) + (s.ps : Int)))) (by kernel_rfl) (by kernel_rfl) (fun g0 w' h => by kernel_rfl) (fun g0 w' h => h.same rfl)) ?_
            exact dag_nil
          case refine_2 =>
            intro w4 hJ
            have HB4 := Lib.hid hJ.1
            have HR4 := Lib.hid (hJ.2.2.2.2.2 rfl)
            obtain ⟨s0, s1, s2, s3⟩ := HR4.out.cells
            clear hJ
            simp only [putAll, List.foldl_cons, List.foldl_nil]
            go_wp2
            refine bodyPost_ret (v := .tuple #[spV s.pg s.ps s.cl A s.len cap, .bool (decide ((q : Int) < (s.pg : Int) + (s.ps : Int)))]) (by simp [spV, results, Tryz.results38, go_sem, s0, s1, s2, s3]) rfl ?_
            refine ⟨HB4.out, ?_⟩
            by_cases hin : (q : Int) < (s.pg : Int) + (s.ps : Int)
            · refine .inr ⟨s, HMem.out, A, cap, by rw [decide_eq_true hin]; rfl, ?_, ?_, HW0.out.below HB4.out⟩
              · have h1 := HKp.out; have h2 := HQ.out; omega
              · have h2 := HQ.out; omega
            · refine .inl ⟨_, _, _, _, _, _, by rw [decide_eq_false hin], fun t ht => ?_⟩
              exact under_none HI.out HSk.out HKp.out HKn.out (by omega) HQ.out t ht
    · obtain ⟨a, ha, haq⟩ := HBs.out.1 rfl
      obtain ⟨s, hk⟩ : ∃ s, S[i]? = some s := ⟨_, List.getElem?_eq_getElem (by have := (List.getElem?_eq_some_iff.1 ha).1; unfold pagesS at this; rw [List.length_map] at this; exact this)⟩
      obtain ⟨k, rfl⟩ : ∃ k, i = k := ⟨_, rfl⟩
      have hsq : s.pg = q := by rw [pages_at hk] at ha; cases ha; omega
      have hk0 : decide ((i : Int) < 0) = false := by simp
      have HSk := Lib.hid hk
      obtain ⟨hkp, hkn⟩ := pos_yes HI.out hk hsq
      have HKp := Lib.hid hkp
      have HKn := Lib.hid hkn
      have HKl := Lib.hid (show i < (pagesS S).length by unfold pagesS; rw [List.length_map]; exact (List.getElem?_eq_some_iff.1 hk).1)
      have hmem : s ∈ S := List.mem_of_getElem? hk
      have HMem := Lib.hid hmem
      have hpk : (pagesS S)[i]? = some s.pg := by unfold pagesS; rw [List.getElem?_map, hk]; rfl
      obtain ⟨gb, go, rfl, hgb, hgc⟩ := HRd.out.num hpk
      have HFv := Lib.hid hfv
      have HGc := Lib.hid (show ∀ w' : World, Below w2.drew.heap.size w2.drew w' → w'.cell? ⟨gb, go + i * 1, none⟩ = some (.int .i64 (s.pg : Int)) from fun w' hb => by
        rw [Nat.mul_one]
        exact (World.cell?_of_block (hb.block gb hgb)).trans hgc)
      obtain ⟨hok, A, cap, hm1, hWd, _⟩ := hC0.out.has s hmem
      have HW0 := Lib.hid hWd
      have HOk := Lib.hid hok
      have HSm := Lib.hid (show -9223372036854775808 ≤ (s.pg : Int) + (s.ps : Int) ∧ (s.pg : Int) + (s.ps : Int) ≤ 9223372036854775807 from by have := hok.ps1; omega)
      have HLk := Lib.hid (show ∀ w' : World, Below w2.drew.heap.size w2.drew w' → (Instr.lookup 58 (.map (some c.r1)) (.int .i64 ((s.pg : Nat) : Int)) false).run Tryz.prog w' = .ok (.agg #[.int .i64 ((s.pg : Nat) : Int), .int .i64 ((s.ps : Nat) : Int), .int .i64 s.cl, .slice A s.len cap]) w' from fun w' hb => by
        have h1 := ((HC1.out.drew).below hb).mp1.look Tryz.underlying58 (zero_span w') (x := (s.pg : Int)) (WalkArith.wf_i64 (by have := hok.ps1; omega))
        rw [hm1] at h1
        exact h1)
      clear hk hkp hkn hmem hpk hgb hgc hok hm1 hWd hfv
      go_wp2_with fail
      obtain ⟨X, hX⟩ : ∃ X, w2.heap.size = X := ⟨_, rfl⟩
      have HXs := Lib.hid hX
      refine wp_dag [(32, .pointer (some ⟨c.H, 0, none⟩)), (33, .pointer (some ⟨c.H, 0, none⟩)), (34, .pointer (some ⟨c.H, 1, none⟩)), (35, .map (some c.r1)), (36, .pointer (some ⟨c.H, 0, none⟩)), (37, .pointer (some ⟨c.H, 0, none⟩)), (38, .pointer (some ⟨c.H, 2, none⟩)), (39, .slice (some ⟨gb, go, none⟩) (pagesS S).length c1), (40, .int .i64 ((i : Nat) : Int)), (41, .pointer (some ⟨gb, go + i * 1, none⟩)), (42, .int .i64 ((s.pg : Nat) : Int)), (43, .agg #[.int .i64 ((s.pg : Nat) : Int), .int .i64 ((s.ps : Nat) : Int), .int .i64 s.cl, .slice A s.len cap]), (9, .pointer (some ⟨X, 0, none⟩))] (LayJ w2.drew X 12 13 s.pg s.ps s.cl A s.len cap) (by kernel_rfl) (by kernel_rfl) (by kernel_rfl) (by kernel_rfl) (.start hX) ?_ ?_
      case refine_1 =>
        refine dag_cons (dag_val (v := .pointer (some ⟨c.H, 0, none⟩)) (by kernel_rfl) (by kernel_rfl) (fun g0 w' h => by kernel_rfl) (fun g0 w' h => h.same rfl)) ?_
        refine dag_cons (dag_val (v := .pointer (some ⟨c.H, 0, none⟩)) (by kernel_rfl) (by kernel_rfl) (fun g0 w' h => by kernel_rfl) (fun g0 w' h => h.same rfl)) ?_
        refine dag_cons (dag_field (s := 61) (x := .tmp 33) (k := 1) (v1 := .pointer (some ⟨c.H, 0, none⟩)) (v := .pointer (some ⟨c.H, 1, none⟩)) (by kernel_rfl) (by kernel_rfl) (by kernel_rfl) (by kernel_rfl) (fun w' => by kernel_rfl) (fun g0 w' h => h.same rfl)) ?_
        refine dag_cons (dag_load (t := 58) (d := .map 3 27) (x := .tmp 34) (p := ⟨c.H, 1, none⟩) (v := .map (some c.r1)) (by kernel_rfl) (by kernel_rfl) (by kernel_rfl) (by kernel_rfl) Tryz.underlying58 rfl (fun g0 w' h => (HC1.out.drew.below h.1).blk.cell 1) (fun g0 w' h => h.same rfl)) ?_
        refine dag_cons (dag_val (v := .pointer (some ⟨c.H, 0, none⟩)) (by kernel_rfl) (by kernel_rfl) (fun g0 w' h => by kernel_rfl) (fun g0 w' h => h.same rfl)) ?_
        refine dag_cons (dag_val (v := .pointer (some ⟨c.H, 0, none⟩)) (by kernel_rfl) (by kernel_rfl) (fun g0 w' h => by kernel_rfl) (fun g0 w' h => h.same rfl)) ?_
        refine dag_cons (dag_field (s := 61) (x := .tmp 37) (k := 2) (v1 := .pointer (some ⟨c.H, 0, none⟩)) (v := .pointer (some ⟨c.H, 2, none⟩)) (by kernel_rfl) (by kernel_rfl) (by kernel_rfl) (by kernel_rfl) (fun w' => by kernel_rfl) (fun g0 w' h => h.same rfl)) ?_
        refine dag_cons (dag_load (t := 37) (d := .slice 3) (x := .tmp 38) (p := ⟨c.H, 2, none⟩) (v := .slice (some ⟨gb, go, none⟩) (pagesS S).length c1) (by kernel_rfl) (by kernel_rfl) (by kernel_rfl) (by kernel_rfl) Tryz.underlying37 rfl (fun g0 w' h => ((HC1.out.drew.below h.1).blk.cell 2).trans (by rw [HFv.out]; rfl)) (fun g0 w' h => h.same rfl)) ?_
        refine dag_cons (dag_val (v := .int .i64 ((i : Nat) : Int)) (by kernel_rfl) (by kernel_rfl) (fun g0 w' h => by kernel_rfl) (fun g0 w' h => h.same rfl)) ?_
        refine dag_cons (dag_index (t := 37) (x := .tmp 39) (ix := .tmp 40) (v1 := .slice (some ⟨gb, go, none⟩) (pagesS S).length c1) (v2 := .int .i64 ((i : Nat) : Int)) (v := .pointer (some ⟨gb, go + i * 1, none⟩)) (by kernel_rfl) (by kernel_rfl) (by kernel_rfl) (by kernel_rfl) (by kernel_rfl) (fun w' => run_atI w' gb go _ c1 i HKl.out) (fun g0 w' h => h.same rfl)) ?_
        refine dag_cons (dag_load (t := 3) (d := .int .i64) (x := .tmp 41) (p := ⟨gb, go + i * 1, none⟩) (v := .int .i64 ((s.pg : Nat) : Int)) (by kernel_rfl) (by kernel_rfl) (by kernel_rfl) (by kernel_rfl) Tryz.underlying3 rfl (fun g0 w' h => (HGc.out w' h.1)) (fun g0 w' h => h.same rfl)) ?_
        refine dag_cons (dag_lookup (t := 58) (m := .tmp 35) (x := .tmp 42) (v1 := .map (some c.r1)) (v2 := .int .i64 ((s.pg : Nat) : Int)) (v := .agg #[.int .i64 ((s.pg : Nat) : Int), .int .i64 ((s.ps : Nat) : Int), .int .i64 s.cl, .slice A s.len cap]) (by kernel_rfl) (by kernel_rfl) (by kernel_rfl) (by kernel_rfl) (by kernel_rfl) (fun g0 w' hg h => HLk.out w' h.1) (fun g0 w' hg h => h.same rfl)) ?_
        refine dag_cons (dag_allocS (X := X) (by kernel_rfl) (by kernel_rfl) (by kernel_rfl) (fun g0 w' hg h => h.alloc hg)) ?_
        refine dag_cons (dag_store (t := 27) (x := .tmp 9) (y := .tmp 43) (v1 := .pointer (some ⟨X, 0, none⟩)) (v2 := .agg #[.int .i64 ((s.pg : Nat) : Int), .int .i64 ((s.ps : Nat) : Int), .int .i64 s.cl, .slice A s.len cap]) (by kernel_rfl) (by kernel_rfl) (by kernel_rfl) (by kernel_rfl) (by kernel_rfl) (fun g0 w' hg hd h => h.store (hd { on := 12, ground := Ground.data } (by simp) rfl))) ?_
        exact dag_nil
      case refine_2 =>
        intro w3 hJ
        have HB3 := Lib.hid (bel_next HB1.out (of_drewB hJ.1) (Nat.le_refl _))
        have HR3 := Lib.hid (HR1.out.below (of_drewB hJ.1))
        have hX3 := hJ.2.2.2 rfl
        have HX3 := Lib.hid hX3.2
        have HXR := Lib.hid (show X ≠ w.heap.size from fun e => by have := HR1.out.lt; omega)
        clear hJ hX3 hX
        simp only [putAll, List.foldl_cons, List.foldl_nil]
        obtain ⟨R, hR⟩ : ∃ R, w.heap.size = R := ⟨_, rfl⟩
        rw [hR] at HR3 HXR ⊢
        have HRR := Lib.hid hR
        clear hR
        go_wp2_with fail
        refine wp_dag [(44, .agg #[.int .i64 ((s.pg : Nat) : Int), .int .i64 ((s.ps : Nat) : Int), .int .i64 s.cl, .slice A s.len cap]), (45, .int .i64 ((q : Nat) : Int)), (46, .pointer (some ⟨X, 0, none⟩)), (47, .int .i64 ((s.pg : Nat) : Int)), (48, .pointer (some ⟨X, 1, none⟩)), (49, .int .i64 ((s.ps : Nat) : Int)), (50, .int .i64 ((s.pg : Int) + (s.ps : Int))), (51, .bool (decide ((q : Int) < (s.pg : Int) + (s.ps : Int)))), (5, .bool (decide ((q : Int) < (s.pg : Int) + (s.ps : Int))))] (OutJ w w3.drew X R 8 s.pg s.ps s.cl A s.len cap) (by kernel_rfl) (by kernel_rfl) (by kernel_rfl) (by kernel_rfl) ⟨HB3.out.drew, HX3.out, HXR.out, Nat.le_of_eq HRR.out, (fun _ => HR3.out), fun h => by cases h⟩ ?_ ?_
        case refine_1 =>
          refine dag_cons (dag_loadS (t := 27) (ty := 27) (x := .tmp 9) (S := X) (cs := #[.int .i64 ((s.pg : Nat) : Int), .int .i64 ((s.ps : Nat) : Int), .int .i64 s.cl, .slice A s.len cap]) (by kernel_rfl) (by kernel_rfl) (by kernel_rfl) (by kernel_rfl) Tryz.underlying27 rfl (by kernel_rfl) (fun g0 w' h => h.2.1) (fun g0 w' h => h.same rfl)) ?_
          refine dag_cons (dag_val (v := .int .i64 ((q : Nat) : Int)) (by kernel_rfl) (by kernel_rfl) (fun g0 w' h => by kernel_rfl) (fun g0 w' h => h.same rfl)) ?_
          refine dag_cons (dag_field (s := 27) (x := .tmp 9) (k := 0) (v1 := .pointer (some ⟨X, 0, none⟩)) (v := .pointer (some ⟨X, 0, none⟩)) (by kernel_rfl) (by kernel_rfl) (by kernel_rfl) (by kernel_rfl) (fun w' => by kernel_rfl) (fun g0 w' h => h.same rfl)) ?_
          refine dag_cons (dag_load (t := 3) (d := .int .i64) (x := .tmp 46) (p := ⟨X, 0, none⟩) (v := .int .i64 ((s.pg : Nat) : Int)) (by kernel_rfl) (by kernel_rfl) (by kernel_rfl) (by kernel_rfl) Tryz.underlying3 rfl (fun g0 w' h => h.2.1.cells.1) (fun g0 w' h => h.same rfl)) ?_
          refine dag_cons (dag_field (s := 27) (x := .tmp 9) (k := 1) (v1 := .pointer (some ⟨X, 0, none⟩)) (v := .pointer (some ⟨X, 1, none⟩)) (by kernel_rfl) (by kernel_rfl) (by kernel_rfl) (by kernel_rfl) (fun w' => by kernel_rfl) (fun g0 w' h => h.same rfl)) ?_
          refine dag_cons (dag_load (t := 3) (d := .int .i64) (x := .tmp 48) (p := ⟨X, 1, none⟩) (v := .int .i64 ((s.ps : Nat) : Int)) (by kernel_rfl) (by kernel_rfl) (by kernel_rfl) (by kernel_rfl) Tryz.underlying3 rfl (fun g0 w' h => h.2.1.cells.2.1) (fun g0 w' h => h.same rfl)) ?_
          refine dag_cons (dag_bin (b := .add) (t := 3) (t' := 3) (x := .tmp 47) (y := .tmp 49) (v1 := .int .i64 ((s.pg : Nat) : Int)) (v2 := .int .i64 ((s.ps : Nat) : Int)) (v := .int .i64 ((s.pg : Int) + (s.ps : Int))) (by kernel_rfl) (by kernel_rfl) (by kernel_rfl) (by kernel_rfl) (by kernel_rfl) rfl (fun w' => run_addI _ _ HSm.out w') (fun g0 w' h => h.same rfl)) ?_
          refine dag_cons (dag_bin (b := .lss) (t := 3) (t' := 3) (x := .tmp 45) (y := .tmp 50) (v1 := .int .i64 ((q : Nat) : Int)) (v2 := .int .i64 ((s.pg : Int) + (s.ps : Int))) (v := .bool (decide ((q : Int) < (s.pg : Int) + (s.ps : Int)))) (by kernel_rfl) (by kernel_rfl) (by kernel_rfl) (by kernel_rfl) (by kernel_rfl) rfl (fun w' => run_lss _ _ _ rfl w') (fun g0 w' h => h.same rfl)) ?_
          refine dag_cons (dag_store (t := 27) (x := .tmp 4) (y := .tmp 44) (v1 := .pointer (some ⟨R, 0, none⟩)) (v2 := .agg #[.int .i64 ((s.pg : Nat) : Int), .int .i64 ((s.ps : Nat) : Int), .int .i64 s.cl, .slice A s.len cap]) (by kernel_rfl) (by kernel_rfl) (by kernel_rfl) (by kernel_rfl) (by kernel_rfl) (fun g0 w' hg hd h => h.store hg)) ?_
          refine dag_cons (dag_val (v := .bool (decide ((q : Int) < (s.pg : Int) + (s.ps : Int)))) (by kernel_rfl) (by kernel_rfl) (fun g0 w' h => by kernel_rfl) (fun g0 w' h => h.same rfl)) ?_
          exact dag_nil
        case refine_2 =>
          intro w4 hJ
          have HB4 := Lib.hid hJ.1
          have HR4 := Lib.hid (hJ.2.2.2.2.2 rfl)
          obtain ⟨s0, s1, s2, s3⟩ := HR4.out.cells
          clear hJ
          simp only [putAll, List.foldl_cons, List.foldl_nil]
          go_wp2
          refine bodyPost_ret (v := .tuple #[spV s.pg s.ps s.cl A s.len cap, .bool (decide ((q : Int) < (s.pg : Int) + (s.ps : Int)))]) (by simp [spV, results, Tryz.results38, go_sem, s0, s1, s2, s3]) rfl ?_
          refine ⟨HB4.out, ?_⟩
          by_cases hin : (q : Int) < (s.pg : Int) + (s.ps : Int)
          · refine .inr ⟨s, HMem.out, A, cap, by rw [decide_eq_true hin]; rfl, ?_, ?_, HW0.out.below HB4.out⟩
            · have h1 := HKp.out; have h2 := HQ.out; omega
            · have h2 := HQ.out; omega
          · refine .inl ⟨_, _, _, _, _, _, by rw [decide_eq_false hin], fun t ht => ?_⟩
            exact under_none HI.out HSk.out HKp.out HKn.out (by omega) HQ.out t ht
end Go.Proofs.YtadbbknllakpcaaGreat

/- Plain: a heap's objects; what Find, Free and Alloc come to. -/
namespace Go.Proofs.YtadbbknllakpcaaGreat
open Go.RowKit
set_option linter.unusedVariables false

def Sp.siz (s : Sp) : Nat := sizN s.cl s.ps
def Sp.at (s : Sp) (i : Nat) : Int := 512 * (s.pg : Int) + ((i * s.siz : Nat) : Int)
def Sp.with (s : Sp) (i : Nat) (b : Bool) : Sp := { s with f := put s.f i b }
/-- An object lives at a, with k octets. -/
def Obj (S : List Sp) (a k : Int) : Prop := ∃ s ∈ S, ∃ i, i < s.per ∧ s.f i = true ∧ a = s.at i ∧ k = (s.siz : Nat)
theorem Sp.ok.size {s : Sp} (h : s.ok) : 1 ≤ s.siz ∧ s.siz ≤ 2097152 ∧ 1 ≤ s.per ∧ s.per ≤ 32 ∧ ((s.per * s.siz : Nat) : Int) ≤ 512 * (s.ps : Int) := by
  have := Good.size h
  exact ⟨this.2.1, this.2.2.1, this.2.2.2.1, this.2.2.2.2.1, this.2.2.2.2.2⟩
theorem at_in {s : Sp} (h : s.ok) {i : Nat} (hi : i < s.per) : 512 * (s.pg : Int) ≤ s.at i ∧ s.at i + s.siz ≤ 512 * ((s.pg : Int) + s.ps) := by
  have h1 := h.size
  unfold Sp.at
  have h2 : i * s.siz + s.siz ≤ s.per * s.siz := by
    have := Nat.mul_le_mul_right s.siz (show i + 1 ≤ s.per by omega)
    rw [Nat.add_mul, Nat.one_mul] at this; exact this
  omega
theorem at_inj {s : Sp} (h : s.ok) {i j : Nat} {x : Int} (h1 : s.at i ≤ x ∧ x < s.at i + s.siz) (h2 : s.at j ≤ x ∧ x < s.at j + s.siz) : i = j := by
  have h3 := h.size
  unfold Sp.at at h1 h2
  rcases Nat.lt_trichotomy i j with h4 | h4 | h4
  · have := Nat.mul_le_mul_right s.siz (show i + 1 ≤ j by omega)
    rw [Nat.add_mul, Nat.one_mul] at this; omega
  · exact h4
  · have := Nat.mul_le_mul_right s.siz (show j + 1 ≤ i by omega)
    rw [Nat.add_mul, Nat.one_mul] at this; omega
/-- The span that has an octet is the one that covers it. -/
theorem in_one {S : List Sp} (h : Inv S) {s t : Sp} (hs : s ∈ S) (ht : t ∈ S) {x : Int} (h1 : 512 * (s.pg : Int) ≤ x ∧ x < 512 * ((s.pg : Int) + s.ps)) (h2 : 512 * (t.pg : Int) ≤ x ∧ x < 512 * ((t.pg : Int) + t.ps)) : s = t := by
  rcases h.of_mem hs ht with h3 | h3 | h3
  · exact h3
  · omega
  · omega
def FindL (S : List Sp) (x a k : Int) (b : Bool) : Prop := (b = false ∧ a = 0 ∧ k = 0 ∧ ∀ a k, Obj S a k → ¬ (a ≤ x ∧ x < a + k)) ∨ (b = true ∧ Obj S a k ∧ a ≤ x ∧ x < a + k)
theorem find_none {S : List Sp} (hI : Inv S) {x : Int} (h : ∀ s ∈ S, ¬ (512 * (s.pg : Int) ≤ x ∧ x < 512 * ((s.pg : Int) + s.ps))) : FindL S x 0 0 false := by
  refine .inl ⟨rfl, rfl, rfl, ?_⟩
  rintro a k ⟨s, hs, i, hi, _, rfl, rfl⟩ hx
  have := at_in (hI.1 s hs).1 hi
  exact h s hs (by omega)
theorem find_no {S : List Sp} (hI : Inv S) {x : Int} {s : Sp} (hs : s ∈ S) (h1 : 512 * (s.pg : Int) ≤ x ∧ x < 512 * ((s.pg : Int) + s.ps)) (h : ∀ i : Nat, i < s.per → s.f i = true → s.at i ≤ x → s.at i + s.siz ≤ x) : FindL S x 0 0 false := by
  refine .inl ⟨rfl, rfl, rfl, ?_⟩
  rintro a k ⟨t, ht, i, hi, hf, rfl, rfl⟩ hx
  have h2 := at_in (hI.1 t ht).1 hi
  obtain rfl := in_one hI hs ht h1 (by omega)
  have := h i hi hf hx.1
  omega
theorem find_yes {S : List Sp} {x u : Int} {s : Sp} (hs : s ∈ S) {i : Nat} (hi : i < s.per) (hf : s.f i = true) (hx : x = s.at i + u) (h0 : 0 ≤ u) (h1 : u < s.siz) : FindL S x (x - u) (s.siz : Nat) true :=
  .inr ⟨rfl, ⟨s, hs, i, hi, hf, by omega, rfl⟩, by omega, by omega⟩
/-- What Free comes to. -/
def FreeL (S : List Sp) (l : List (Nat × Nat)) (x : Int) (r n e : Int) (S' : List Sp) (l' : List (Nat × Nat)) : Prop :=
  (r = 0 ∧ n = 0 ∧ e = 17 ∧ S' = S ∧ l' = l ∧ ∀ k, ¬ Obj S x k) ∨
  ∃ s ∈ S, ∃ i, i < s.per ∧ s.f i = true ∧ x = s.at i ∧ e = 0 ∧ S' = setS S (s.with i false) ∧
    ((0 < (s.with i false).cnt ∧ r = 0 ∧ n = 0 ∧ l' = l) ∨ ((s.with i false).cnt = 0 ∧ r = s.pg ∧ n = s.ps))
theorem free_none {S : List Sp} {l : List (Nat × Nat)} (hI : Inv S) {x : Int} (h : ∀ s ∈ S, ¬ (512 * (s.pg : Int) ≤ x ∧ x < 512 * ((s.pg : Int) + s.ps))) : FreeL S l x 0 0 17 S l := by
  refine .inl ⟨rfl, rfl, rfl, rfl, rfl, ?_⟩
  rintro k ⟨s, hs, i, hi, _, rfl, rfl⟩
  have h1 := at_in (hI.1 s hs).1 hi
  have := (hI.1 s hs).1.size
  exact h s hs (by omega)
theorem free_no {S : List Sp} {l : List (Nat × Nat)} (hI : Inv S) {x : Int} {s : Sp} (hs : s ∈ S) (h1 : 512 * (s.pg : Int) ≤ x ∧ x < 512 * ((s.pg : Int) + s.ps)) (h : ∀ i : Nat, i < s.per → s.f i = true → x ≠ s.at i) : FreeL S l x 0 0 17 S l := by
  refine .inl ⟨rfl, rfl, rfl, rfl, rfl, ?_⟩
  rintro k ⟨t, ht, i, hi, hf, rfl, rfl⟩
  have h2 := at_in (hI.1 t ht).1 hi
  have h3 := (hI.1 t ht).1.size
  obtain rfl := in_one hI hs ht h1 (by omega)
  exact h i hi hf rfl
theorem Sp.ok.with {s : Sp} (h : s.ok) {i : Nat} (hi : i < s.per) (b : Bool) : (s.with i b).ok := Good.put h i b hi
theorem with_v (s : Sp) (i : Nat) (b : Bool) (A : Option Addr) (cap : Nat) : (s.with i b).v A cap = s.v A cap := rfl
theorem inv_with {S : List Sp} (h : Inv S) {s : Sp} (hs : s ∈ S) {i : Nat} (hi : i < s.per) (b : Bool) : Inv (setS S (s.with i b)) := inv_put h hs rfl rfl ((h.1 s hs).1.with hi b)
theorem cl_with {S : List Sp} (h : Inv S) {s : Sp} (hs : s ∈ S) (i : Nat) (b : Bool) : ∀ t ∈ S, t.pg = (s.with i b).pg → t.cl = (s.with i b).cl := fun t ht he => by
  obtain rfl := rise_one h.rise ht hs he
  rfl
/-- The land when a span's pages are free again. -/
theorem free_land {S : List Sp} {l l' : List (Nat × Nat)} (h : Inv S) (hl : LandOf S l) {s : Sp} (hs : s ∈ S) {i : Nat} (hc : (s.with i false).cnt = 0) (hF : ∀ j, rn.Fr l' j ↔ rn.Fr l j ∨ (s.pg ≤ j ∧ j < s.pg + s.ps)) : LandOf (setS S (s.with i false)) l' := by
  intro j
  have h1 := (h.1 s hs).1.ps1
  rw [hF, hl j, cov_gone (s := s.with i false) h hs rfl rfl hc]
  show _ ↔ 1 ≤ j ∧ j < 4096 ∧ ¬ (Cov S j ∧ ¬ (s.pg ≤ j ∧ j < s.pg + s.ps))
  constructor
  · rintro (⟨h2, h3, h4⟩ | h2)
    · exact ⟨h2, h3, fun h5 => h4 h5.1⟩
    · exact ⟨by omega, by omega, fun h5 => h5.2 h2⟩
  · rintro ⟨h2, h3, h4⟩
    by_cases h5 : s.pg ≤ j ∧ j < s.pg + s.ps
    · exact .inr h5
    · exact .inl ⟨h2, h3, fun h6 => h4 ⟨h6, h5⟩⟩
theorem land_put {S : List Sp} {l : List (Nat × Nat)} (h : Inv S) (hl : LandOf S l) {s : Sp} (hs : s ∈ S) {i : Nat} {b : Bool} (hc : 0 < (s.with i b).cnt) : LandOf (setS S (s.with i b)) l := by
  intro j
  rw [hl j, cov_put (s := s.with i b) h hs rfl rfl hc]
theorem land_taken {S : List Sp} {l : List (Nat × Nat)} (hl : LandOf S l) {s : Sp} (hs : s ∈ S) {j : Nat} (h1 : s.pg ≤ j) (h2 : j < s.pg + s.ps) : ¬ rn.Fr l j := fun h => ((hl j).1 h).2.2 ⟨s, hs, h1, h2⟩
end Go.Proofs.YtadbbknllakpcaaGreat

/- The walk of alloc's Find. -/
namespace Go.Proofs.YtadbbknllakpcaaGreat
open Go.RowKit
set_option linter.unusedVariables false

set_option maxRecDepth 8000 in
set_option maxHeartbeats 4000000 in
theorem find17_calls (w : World) (H L n : Nat) (S : List Sp) (l : List (Nat × Nat)) (F : Nat → Prop) (x : Int) (h : HeapAt w H L n S l F) (hx : I64 x) :
    Calls Tryz.prog 12 #[.pointer (some ⟨H, 0, none⟩), .int .i64 x] w fun e w' => Below w.heap.size w w' ∧ ∃ a k b, e = .returned (.tuple #[.int .i64 a, .int .i64 k, .bool b]) ∧ FindL S x a k b := by
  obtain ⟨c, g, cp, rfl, rfl, hh⟩ := h
  have HH := Lib.hid hh
  have HX := Lib.hid hx
  clear hh hx
  go_enter Tryz.func12, Tryz.ntmps12
  go_wp2_with fail
  refine (under_calls w c n S x HH.out.core HH.out.inv HX.out).mono ?_
  rintro e w2 ⟨hB, h⟩
  have HB2 := Lib.hid hB
  clear hB
  rcases h with ⟨pg, ps, cl, A, len, cap, rfl, hno⟩ | ⟨s, hs, A, cap, rfl, h1, h2, hW⟩
  · have HNo := Lib.hid hno
    clear hno
    obtain ⟨w3, hw3, hS3, hB3⟩ := one_span w2 pg ps cl A len cap
    have HB3 := Lib.hid (bel_next HB2.out hB3 (Nat.le_refl _))
    clear hB3
    unfold spV
    go_wp2
    go_ret3
    exact ⟨HB3.out, _, _, _, rfl, find_none HH.out.inv HNo.out⟩
  · have HS := Lib.hid (And.intro hs (And.intro h1 h2))
    obtain ⟨w3, hw3, hS3, hB3⟩ := one_span w2 s.pg s.ps s.cl A s.len cap
    have HB3 := Lib.hid (bel_next HB2.out hB3 (Nat.le_refl _))
    have HW3 := Lib.hid (hW.below hB3)
    obtain ⟨s0, s1, s2, s3⟩ := hS3.cells
    clear hs h1 h2 hW hB3
    unfold Sp.v spV
    go_wp2_with fail
    refine (find15_calls s.pg s.ps s.cl A s.len cap s.f x _ (HH.out.inv.1 s HS.out.1).1 HX.out HW3.out).mono ?_
    rintro e w4 ⟨hB4, h4⟩
    have HB4 := Lib.hid (bel_next HB3.out hB4 (Nat.le_refl _))
    clear hB4
    rcases h4 with ⟨rfl, hwh⟩ | ⟨i, u, rfl, hwh⟩
    · have HWh := Lib.hid hwh
      clear hwh
      go_wp2
      go_ret3
      refine ⟨HB4.out, _, _, _, rfl, find_no HH.out.inv HS.out.1 HS.out.2 (fun i hi hf hle => ?_)⟩
      rcases HWh.out with ⟨_, _, h⟩ | ⟨j, _, _, h, _⟩
      · exact h i hi hf hle
      · omega
    · have HWh := Lib.hid hwh
      clear hwh
      go_wp2
      go_ret3
      rcases HWh.out with ⟨h, _⟩ | ⟨j, hj, hf, h, h5, h6, h7⟩
      · omega
      · obtain rfl : i = j := by omega
        exact ⟨HB4.out, _, _, _, rfl, find_yes HS.out.1 hj hf h5 h6 h7⟩
end Go.Proofs.YtadbbknllakpcaaGreat
