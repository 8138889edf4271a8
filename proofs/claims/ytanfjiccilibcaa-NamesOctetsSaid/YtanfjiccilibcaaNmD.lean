/- The walk of the document's Get of a directory. -/
import Derived.Test.YtanfjiccilibcaaNmE
import Derived.Test.YtanfjiccilibcaaNmZ
import Derived.Test.YtanfjiccilibcaaDagL
import Derived.Test.YtanfjiccilibcaaStep
namespace Go.Proofs.Ytanfjiccilibcaa
open Go.RowKit
set_option linter.unusedVariables false

theorem dag_append {P : Program} {md : Region.Mode} {ops : Array Oper} {F : Act} {J : (Nat → Bool) → World → Prop} {i : Nat} {o : Oper} {s x : Operand} {t : TypeId} {v u v2 : Value} (hw : Region.wanted o (yielded ops F.tmps) = true) (hp : F.put o.dst v2 = F) (ho : o.op = .call { callee := .builtin .append, args := #[s, x], argTypes := #[t, t] }) (hs : F.eval s = v) (hx : F.eval x = u)
    (hr : ∀ (g : Nat → Bool) (w : World), g i = false → (∀ e ∈ o.after, Region.binds md e = true → g e.on = true) → J g w → ∃ w', (Builtin.append_ #[t, t] o.type #[v, u]).run P w = .ok v2 w' ∧ J (upd g i) w') : DagStep P md ops F J i o := by
  refine dag_make hw hp (fun g w h1 h2 h => ?_)
  obtain ⟨w', hrun, hj⟩ := hr g w h1 h2 h
  refine ⟨w', ?_, hj⟩
  unfold execOp
  simp only [ho, resolve, invoke, builtin, Sem.run_bind, Sem.run_pure, Result.andThen_ok, List.map_toArray, List.map_cons, List.map_nil, hs, hx, hrun]
theorem tk_le (st : Option (List Int)) (n : Nat) : (tkL st n).1.length ≤ (st.getD []).length := by
  unfold tkL
  split
  · simp
  · split
    · simp only [Option.getD_some, List.length_take]; omega
    · simp
theorem plS_size {st : Option (List Int)} {n : Nat} (h : (st.getD []).length ≤ n) (m : Nat) : ∀ a ∈ (plS st m).1, a.1.size ≤ n := by
  intro a ha
  obtain ⟨i, hi⟩ := List.mem_iff_getElem?.1 ha
  have hl := (List.getElem?_eq_some_iff.1 hi).1
  rw [plS_len] at hl
  rw [plS_at st hl] at hi
  cases hi
  show (strOfNums _).size ≤ n
  rw [strOf_size]
  exact Nat.le_trans (tk_le _ _) (st_len (st_len (plS_stlen h i) 1) 2)
theorem dag_indexS {P : Program} {md : Region.Mode} {ops : Array Oper} {F : Act} {J : (Nat → Bool) → World → Prop} {i : Nat} {o : Oper} {t : TypeId} {x ix : Operand} {v1 v2 v : Value} (hw : Region.wanted o (yielded ops F.tmps) = true) (hp : F.put o.dst v = F) (ho : o.op = .index t x ix) (hx : F.eval x = v1) (hy : F.eval ix = v2) (hr : ∀ w : World, (Instr.index t v1 v2).run P w = .ok v w)
    (hJ : ∀ (g : Nat → Bool) (w : World), J g w → J (upd g i) w) : DagStep P md ops F J i o := by
  refine dag_val hw hp (fun g w h => ?_) hJ
  unfold execOp
  simp only [ho, hx, hy, Sem.run_bind, hr, Result.andThen_ok, Sem.run_pure]
theorem dag_slice {P : Program} {md : Region.Mode} {ops : Array Oper} {F : Act} {J : (Nat → Bool) → World → Prop} {i : Nat} {o : Oper} {t : TypeId} {x l h : Operand} {v1 v2 v3 v : Value} (hw : Region.wanted o (yielded ops F.tmps) = true) (hp : F.put o.dst v = F) (ho : o.op = .slice t x (some l) (some h) none) (hx : F.eval x = v1) (hy : F.eval l = v2) (hz : F.eval h = v3) (hr : ∀ w : World, (Instr.slice t v1 (some v2) (some v3) none).run P w = .ok v w) (hat : ∀ w : World, (Instr.sliceAt t v1 (some v2) (some v3) none).run P w = (Instr.slice t v1 (some v2) (some v3) none).run P w)
    (hJ : ∀ (g : Nat → Bool) (w : World), J g w → J (upd g i) w) : DagStep P md ops F J i o := by
  refine dag_val hw hp (fun g w h => ?_) hJ
  unfold execOp
  simp only [ho, Option.map_some, Option.map_none, hx, hy, hz, Sem.run_bind, hat, hr, Result.andThen_ok, Sem.run_pure]
theorem run_addN (a b : Nat) (h : a + b ≤ 1000000000) (w : World) : (binOp .add 3 (.int .i64 a) (.int .i64 b)).run Try.prog w = .ok (.int .i64 ((a + b : Nat) : Int)) w := by
  go_simp
  unfold IntKind.wrap
  simp [IntKind.signed, IntKind.bits]
  omega
theorem run_mulN (a b : Nat) (h : a * b ≤ 1000000000) (w : World) : (binOp .mul 3 (.int .i64 a) (.int .i64 b)).run Try.prog w = .ok (.int .i64 ((a * b : Nat) : Int)) w := by
  go_simp
  have e : (a : Int) * (b : Int) = ((a * b : Nat) : Int) := by simp
  rw [e]
  generalize a * b = c at *
  unfold IntKind.wrap
  simp [IntKind.signed, IntKind.bits]
  omega
theorem run_idx (s : ByteArray) (k : Nat) (x : UInt8) (h : k < s.size) (hx : s[k]'h = x) (w : World) : (Instr.index 9 (.string s) (.int .i64 (k : Int))).run Try.prog w = .ok (.int .u8 (x.toNat : Int)) w := by
  subst hx
  rw [run_index_string w 9 s .i64 k Try.underlying9]
  rw [dif_pos (by omega)]
  rfl
theorem run_u8i (x : UInt8) (w : World) : (convert 5 3 (.int .u8 (x.toNat : Int))).run Try.prog w = .ok (.int .i64 (x.toNat : Int)) w := by
  have h1 := Try.underlying3
  have h2 := Try.underlying5
  have h3 := x.toNat_lt
  simp [convert, run_underlying h1, run_underlying h2, Conv.intToInt, IntKind.wrap, IntKind.signed, IntKind.bits]
  omega
theorem run_cut (s : ByteArray) (i j : Nat) (h : i ≤ j) (hj : j ≤ s.size) (w : World) : (Instr.slice 9 (.string s) (some (.int .i64 (i : Int))) (some (.int .i64 (j : Int))) none).run Try.prog w = .ok (.string (s.extract i j)) w := by
  rw [run_slice_string_if w 9 s .i64 .i64 i j Try.underlying9]
  rw [if_pos (by omega), if_pos (by omega)]
  simp
def DGetJ (W0 W1 W2 : World) (g : Nat → Bool) (w' : World) : Prop :=
  (g 15 = true → g 14 = true) ∧ (g 14 = false → w' = W0) ∧ (g 14 = true → g 15 = false → w' = W1) ∧ (g 15 = true → w' = W2)
theorem DGetJ.same {W0 W1 W2 w' : World} {g : Nat → Bool} (k : DGetJ W0 W1 W2 g w') {i : Nat} (hi : (i == 14 || i == 15) = false) : DGetJ W0 W1 W2 (upd g i) w' := by
  have e1 : upd g i 14 = g 14 := by
    unfold upd
    rw [if_neg]
    intro e; subst e; simp at hi
  have e2 : upd g i 15 = g 15 := by
    unfold upd
    rw [if_neg]
    intro e; subst e; simp at hi
  unfold DGetJ
  rw [e1, e2]
  exact k
set_option maxRecDepth 8000 in
set_option maxHeartbeats 16000000 in
theorem rget13_calls (w : World) (s : ByteArray) (hs : s.size ≤ 500) :
    Calls Try.prog 21 #[.string s] w fun e w' => ∃ v, e = .returned (.tuple #[v, .int .i64 ((getN (bo s)).2 : Nat)]) ∧ w'.ownsRow w.heap.size 47 2 v (getN (bo s)).1.length (namesV (getN (bo s)).1) ∧ Below w.heap.size w w' := by
  obtain ⟨i0, hi, hz0, hz1, hz2⟩ := info_parts Try.info_Named
  obtain ⟨n, hn⟩ : ∃ n, s.size = n := ⟨_, rfl⟩
  have hbl : (bo s).length = n := by rw [bo_len, hn]
  rw [hn] at hs
  by_cases hn0 : n = 0
  · subst hn0
    have hb0 : bo s = [] := List.eq_nil_of_length_eq_zero hbl
    rw [hb0]
    go_enter Try.func21, Try.ntmps21
    go_wp2
    go_ret2
    exact ⟨_, rfl, World.ownsRow_nil _ _ _ _, Below.refl _ _⟩
  obtain ⟨z, r, hzr⟩ : ∃ z r, bo s = z :: r := by
    cases h : bo s with
    | nil => rw [h] at hbl; exact absurd hbl.symm hn0
    | cons z r => exact ⟨z, r, rfl⟩
  have hbd := bo_bd s
  have hz255 : 0 ≤ z ∧ z ≤ 255 := hbd z (by rw [hzr]; exact List.mem_cons_self)
  have h0s : 0 < s.size := by omega
  have hs0 : ((s[0]'h0s).toNat : Int) = z := by rw [bo_at s 0 h0s, hzr]; rfl
  obtain ⟨x, hx⟩ : ∃ x, s[0]'h0s = x := ⟨_, rfl⟩
  rw [hx] at hs0
  obtain ⟨c, hc⟩ : ∃ c : Nat, z = (c : Int) := ⟨z.toNat, by omega⟩
  subst hc
  have hxc : x.toNat = c := by omega
  have hnf : ((n : Int) == 0) = false := by rw [beq_eq_false_iff_ne]; omega
  have HX := Lib.hid hx
  have HZr := Lib.hid hzr
  have HBd := Lib.hid hbd
  have HBl := Lib.hid hbl
  have HNo : Hid (¬ RightP (plS (some r) c).1 → getN (bo s) = ([], 0)) := Lib.hid (fun h => by rw [hzr]; exact getN_no (z := (c : Int)) (by rw [Int.toNat_natCast]; exact h))
  clear hzr hbd hs0 hbl hn0
  go_enter Try.func21, Try.ntmps21
  go_wp2_with fail
  go_loopg [6, 5, 4, 7] c (fun q s6 s5 s4 s7 wx => ∃ i at' : Nat, q + i = c ∧ s6 = .int .i64 i ∧ s5 = .int .i64 at' ∧ 1 ≤ at' ∧ at' ≤ n ∧ Hid ((plS (some r) i).2 = some ((bo s).drop at')) ∧ Hid (wx.ownsRow w.heap.size 47 2 s4 i (namesV (plS (some r) i).1)) ∧ Hid (Below w.heap.size w wx))
  case atStart => exact ⟨0, 1, by omega, rfl, rfl, by omega, by omega, Lib.hid (by rw [HZr.out]; rfl), Lib.hid (World.ownsRow_nil _ _ _ _), Lib.hid (Below.refl _ _)⟩
  case round =>
    obtain ⟨i, at', hq, rfl, rfl, ha1, han, hst, ho, hb⟩ := hrel
    by_cases hic : i < c
    · by_cases h3 : n < at' + 3
      · have hg := HNo.out (pl_bad hic (by rw [hst.out]; exact pEnt_short (by rw [List.length_drop, HBl.out]; omega)))
        go_wp2
        go_ret2
        rw [hg]
        exact ⟨_, rfl, World.ownsRow_nil _ _ _ _, hb.out⟩
      · have hi0 : at' < s.size := by omega
        have hi1 : at' + 1 < s.size := by omega
        have hi2 : at' + 2 < s.size := by omega
        obtain ⟨x0, hx0⟩ : ∃ x0, s[at']'hi0 = x0 := ⟨_, rfl⟩
        obtain ⟨x1, hx1⟩ : ∃ x1, s[at' + 1]'hi1 = x1 := ⟨_, rfl⟩
        obtain ⟨x2, hx2⟩ : ∃ x2, s[at' + 2]'hi2 = x2 := ⟨_, rfl⟩
        have hb1 := x1.toNat_lt
        have hb2 := x2.toNat_lt
        go_wp2_with fail
        have hm64 : x1.toNat + 256 * x2.toNat ≤ 65535 := by omega
        refine wp_dag [(23, .string s), (24, .int .i64 ((at' : Nat) : Int)), (25, .int .i64 ((at' + 1 : Nat) : Int)), (26, .int .u8 (x1.toNat : Int)), (27, .int .i64 (x1.toNat : Int)), (28, .string s), (29, .int .i64 ((at' : Nat) : Int)), (30, .int .i64 ((at' + 2 : Nat) : Int)), (31, .int .u8 (x2.toNat : Int)), (32, .int .i64 (x2.toNat : Int)), (33, .int .i64 ((256 * x2.toNat : Nat) : Int)), (34, .int .i64 ((x1.toNat + 256 * x2.toNat : Nat) : Int)), (7, .int .i64 ((x1.toNat + 256 * x2.toNat : Nat) : Int))] (fun g0 w' => Below wr.heap.size wr w') (by kernel_rfl) (by kernel_rfl) (by kernel_rfl) (by kernel_rfl) (Below.refl _ _).drew ?_ ?_
        case refine_1 =>
          refine dag_cons (dag_val (v := .string s) (by kernel_rfl) (by kernel_rfl) (fun g0 w' h => by kernel_rfl) (fun g0 w' h => h)) ?_
          refine dag_cons (dag_val (v := .int .i64 ((at' : Nat) : Int)) (by kernel_rfl) (by kernel_rfl) (fun g0 w' h => by kernel_rfl) (fun g0 w' h => h)) ?_
          refine dag_cons (dag_bin (b := .add) (t := 3) (t' := 3) (x := .tmp 24) (y := .const (.int .i64 1)) (v1 := .int .i64 ((at' : Nat) : Int)) (v2 := .int .i64 ((1 : Nat) : Int)) (v := .int .i64 ((at' + 1 : Nat) : Int)) (by kernel_rfl) (by kernel_rfl) (by kernel_rfl) (by kernel_rfl) (by kernel_rfl) rfl (fun w' => run_addN _ _ (by omega) w') (fun g0 w' h => h)) ?_
          refine dag_cons (dag_indexS (t := 9) (x := .tmp 23) (ix := .tmp 25) (v1 := .string s) (v2 := .int .i64 ((at' + 1 : Nat) : Int)) (v := .int .u8 (x1.toNat : Int)) (by kernel_rfl) (by kernel_rfl) (by kernel_rfl) (by kernel_rfl) (by kernel_rfl) (fun w' => run_idx s _ x1 hi1 hx1 w') (fun g0 w' h => h)) ?_
          refine dag_cons (dag_conv (s := 5) (d := 3) (x := .tmp 26) (v := .int .u8 (x1.toNat : Int)) (u := .int .i64 (x1.toNat : Int)) (by kernel_rfl) (by kernel_rfl) (by kernel_rfl) (by kernel_rfl) (fun w' => run_u8i x1 w') (fun g0 w' h => h)) ?_
          refine dag_cons (dag_val (v := .string s) (by kernel_rfl) (by kernel_rfl) (fun g0 w' h => by kernel_rfl) (fun g0 w' h => h)) ?_
          refine dag_cons (dag_val (v := .int .i64 ((at' : Nat) : Int)) (by kernel_rfl) (by kernel_rfl) (fun g0 w' h => by kernel_rfl) (fun g0 w' h => h)) ?_
          refine dag_cons (dag_bin (b := .add) (t := 3) (t' := 3) (x := .tmp 29) (y := .const (.int .i64 2)) (v1 := .int .i64 ((at' : Nat) : Int)) (v2 := .int .i64 ((2 : Nat) : Int)) (v := .int .i64 ((at' + 2 : Nat) : Int)) (by kernel_rfl) (by kernel_rfl) (by kernel_rfl) (by kernel_rfl) (by kernel_rfl) rfl (fun w' => run_addN _ _ (by omega) w') (fun g0 w' h => h)) ?_
          refine dag_cons (dag_indexS (t := 9) (x := .tmp 28) (ix := .tmp 30) (v1 := .string s) (v2 := .int .i64 ((at' + 2 : Nat) : Int)) (v := .int .u8 (x2.toNat : Int)) (by kernel_rfl) (by kernel_rfl) (by kernel_rfl) (by kernel_rfl) (by kernel_rfl) (fun w' => run_idx s _ x2 hi2 hx2 w') (fun g0 w' h => h)) ?_
          refine dag_cons (dag_conv (s := 5) (d := 3) (x := .tmp 31) (v := .int .u8 (x2.toNat : Int)) (u := .int .i64 (x2.toNat : Int)) (by kernel_rfl) (by kernel_rfl) (by kernel_rfl) (by kernel_rfl) (fun w' => run_u8i x2 w') (fun g0 w' h => h)) ?_
          refine dag_cons (dag_bin (b := .mul) (t := 3) (t' := 3) (x := .const (.int .i64 256)) (y := .tmp 32) (v1 := .int .i64 ((256 : Nat) : Int)) (v2 := .int .i64 ((x2.toNat : Nat) : Int)) (v := .int .i64 ((256 * x2.toNat : Nat) : Int)) (by kernel_rfl) (by kernel_rfl) (by kernel_rfl) (by kernel_rfl) (by kernel_rfl) rfl (fun w' => run_mulN _ _ (by omega) w') (fun g0 w' h => h)) ?_
          refine dag_cons (dag_bin (b := .add) (t := 3) (t' := 3) (x := .tmp 27) (y := .tmp 33) (v1 := .int .i64 ((x1.toNat : Nat) : Int)) (v2 := .int .i64 ((256 * x2.toNat : Nat) : Int)) (v := .int .i64 ((x1.toNat + 256 * x2.toNat : Nat) : Int)) (by kernel_rfl) (by kernel_rfl) (by kernel_rfl) (by kernel_rfl) (by kernel_rfl) rfl (fun w' => run_addN _ _ (by omega) w') (fun g0 w' h => h)) ?_
          refine dag_cons (dag_val (v := .int .i64 ((x1.toNat + 256 * x2.toNat : Nat) : Int)) (by kernel_rfl) (by kernel_rfl) (fun g0 w' h => by kernel_rfl) (fun g0 w' h => h)) ?_
          exact dag_nil
        case refine_2 =>
          intro w5 hb5
          simp only [putAll, List.foldl_cons, List.foldl_nil]
          have HB5 := Lib.hid (bel_next hb.out hb5 (Nat.le_refl _))
          have HO5 := Lib.hid (ownsRow_below ho.out hb5)
          have HM := Lib.hid (show (((x1.toNat + 256 * x2.toNat : Nat)) : Int) = ((bo s).drop at')[1]?.getD 0 + 256 * ((bo s).drop at')[2]?.getD 0 by
            rw [List.getElem?_drop, List.getElem?_drop, ← bo_at s (at' + 1) hi1, ← bo_at s (at' + 2) hi2, hx1, hx2]
            simp)
          generalize x1.toNat + 256 * x2.toNat = m at *
          clear hb5 hx1 hx2 hb1 hb2
          by_cases h4 : n < at' + 3 + m
          · have hg := HNo.out (pl_bad hic (by rw [hst.out]; exact pEnt_cut (by rw [List.length_drop, HBl.out]; omega) m HM.out (by rw [List.length_drop, HBl.out]; omega)))
            go_wp2
            go_ret2
            rw [hg]
            exact ⟨_, rfl, World.ownsRow_nil _ _ _ _, HB5.out⟩
          · go_wp2_with fail
            have hxs := hn
            obtain ⟨W1, hW1⟩ : ∃ W1, w5.drew.alloc (.cells #[.string (s.extract (at' + 3) (at' + 3 + m)), .int .i64 (x0.toNat : Int)] 47) = W1 := ⟨_, rfl⟩
            have hBW : Below w5.heap.size w5 W1 := by rw [← hW1]; exact (Below.refl _ _).drew.alloc (Nat.le_refl _) _
            have hBk : Blk W1 w5.heap.size [.string (s.extract (at' + 3) (at' + 3 + m)), .int .i64 (x0.toNat : Int)] 47 := by rw [← hW1]; exact Blk.new w5.drew _ _
            obtain ⟨v2, w6, hrun, hown6, hgr6, _, _⟩ := run_append_rd (P := Try.prog) (w := W1) w.heap.size 23 23 47 i0 _ 2 24 Try.underlying23 hi hz0 hz1 hz2 rfl (by decide) u4 i _ (ownsRow_below HO5.out hBW) (some ⟨w5.heap.size, 0, none⟩) 1 1 [.string (s.extract (at' + 3) (at' + 3 + m)), .int .i64 (x0.toNat : Int)] rfl (.inr ⟨_, 0, rfl, hBk.lt, fun j u hu => by rw [Nat.zero_add]; exact (hBk.cell j).trans hu⟩) (two_one13 _ _) (by omega) (by unfold maxLen; omega) (Nat.le_trans HB5.out.size hBW.size)
            have HB6 := Lib.hid (app_own (bel_next HB5.out hBW (Nat.le_refl _)) (ownsRow_below HO5.out hBW) hgr6)
            have HO6 := Lib.hid hown6
            clear hown6 hgr6 hBW hBk
            refine wp_dagL [4] [(42, u4), (43, .string s), (44, .int .i64 ((at' : Nat) : Int)), (45, .int .u8 (x0.toNat : Int)), (46, .int .i64 (x0.toNat : Int)), (47, .string s), (48, .int .i64 ((at' : Nat) : Int)), (49, .int .i64 ((at' + 3 : Nat) : Int)), (50, .int .i64 ((at' : Nat) : Int)), (51, .int .i64 ((at' + 3 : Nat) : Int)), (52, .int .i64 ((m : Nat) : Int)), (53, .int .i64 ((at' + 3 + m : Nat) : Int)), (54, .string (s.extract (at' + 3) (at' + 3 + m))), (55, .agg #[.string (s.extract (at' + 3) (at' + 3 + m)), .int .i64 (x0.toNat : Int)]), (56, .slice (some ⟨w5.heap.size, 0, none⟩) 1 1), (57, v2), (4, v2)] (DGetJ w5.drew W1 w6) (by kernel_rfl) (by kernel_rfl) (by kernel_rfl) (by kernel_rfl) ⟨(fun h => by cases h), (fun _ => rfl), (fun h => by cases h), (fun h => by cases h)⟩ ?_ ?_
            case refine_1 =>
              refine dagL_late (by kernel_rfl) (dag_val (v := u4) (by kernel_rfl) (by kernel_rfl) (fun g0 w' h => by kernel_rfl) (fun g0 w' h => h.same rfl)) ?_
              refine dagL_cons (by kernel_rfl) (dag_val (v := .string s) (by kernel_rfl) (by kernel_rfl) (fun g0 w' h => by kernel_rfl) (fun g0 w' h => h.same rfl)) ?_
              refine dagL_cons (by kernel_rfl) (dag_val (v := .int .i64 ((at' : Nat) : Int)) (by kernel_rfl) (by kernel_rfl) (fun g0 w' h => by kernel_rfl) (fun g0 w' h => h.same rfl)) ?_
              refine dagL_cons (by kernel_rfl) (dag_indexS (t := 9) (x := .tmp 43) (ix := .tmp 44) (v1 := .string s) (v2 := .int .i64 ((at' : Nat) : Int)) (v := .int .u8 (x0.toNat : Int)) (by kernel_rfl) (by kernel_rfl) (by kernel_rfl) (by kernel_rfl) (by kernel_rfl) (fun w' => run_idx s _ x0 hi0 hx0 w') (fun g0 w' h => h.same rfl)) ?_
              refine dagL_cons (by kernel_rfl) (dag_conv (s := 5) (d := 3) (x := .tmp 45) (v := .int .u8 (x0.toNat : Int)) (u := .int .i64 (x0.toNat : Int)) (by kernel_rfl) (by kernel_rfl) (by kernel_rfl) (by kernel_rfl) (fun w' => run_u8i x0 w') (fun g0 w' h => h.same rfl)) ?_
              refine dagL_cons (by kernel_rfl) (dag_val (v := .string s) (by kernel_rfl) (by kernel_rfl) (fun g0 w' h => by kernel_rfl) (fun g0 w' h => h.same rfl)) ?_
              refine dagL_cons (by kernel_rfl) (dag_val (v := .int .i64 ((at' : Nat) : Int)) (by kernel_rfl) (by kernel_rfl) (fun g0 w' h => by kernel_rfl) (fun g0 w' h => h.same rfl)) ?_
              refine dagL_cons (by kernel_rfl) (dag_bin (b := .add) (t := 3) (t' := 3) (x := .tmp 48) (y := .const (.int .i64 3)) (v1 := .int .i64 ((at' : Nat) : Int)) (v2 := .int .i64 ((3 : Nat) : Int)) (v := .int .i64 ((at' + 3 : Nat) : Int)) (by kernel_rfl) (by kernel_rfl) (by kernel_rfl) (by kernel_rfl) (by kernel_rfl) rfl (fun w' => run_addN _ _ (by omega) w') (fun g0 w' h => h.same rfl)) ?_
              refine dagL_cons (by kernel_rfl) (dag_val (v := .int .i64 ((at' : Nat) : Int)) (by kernel_rfl) (by kernel_rfl) (fun g0 w' h => by kernel_rfl) (fun g0 w' h => h.same rfl)) ?_
              refine dagL_cons (by kernel_rfl) (dag_bin (b := .add) (t := 3) (t' := 3) (x := .tmp 50) (y := .const (.int .i64 3)) (v1 := .int .i64 ((at' : Nat) : Int)) (v2 := .int .i64 ((3 : Nat) : Int)) (v := .int .i64 ((at' + 3 : Nat) : Int)) (by kernel_rfl) (by kernel_rfl) (by kernel_rfl) (by kernel_rfl) (by kernel_rfl) rfl (fun w' => run_addN _ _ (by omega) w') (fun g0 w' h => h.same rfl)) ?_
              refine dagL_cons (by kernel_rfl) (dag_val (v := .int .i64 ((m : Nat) : Int)) (by kernel_rfl) (by kernel_rfl) (fun g0 w' h => by kernel_rfl) (fun g0 w' h => h.same rfl)) ?_
              refine dagL_cons (by kernel_rfl) (dag_bin (b := .add) (t := 3) (t' := 3) (x := .tmp 51) (y := .tmp 52) (v1 := .int .i64 ((at' + 3 : Nat) : Int)) (v2 := .int .i64 ((m : Nat) : Int)) (v := .int .i64 ((at' + 3 + m : Nat) : Int)) (by kernel_rfl) (by kernel_rfl) (by kernel_rfl) (by kernel_rfl) (by kernel_rfl) rfl (fun w' => run_addN _ _ (by omega) w') (fun g0 w' h => h.same rfl)) ?_
              refine dagL_cons (by kernel_rfl) (dag_slice (t := 9) (x := .tmp 47) (l := .tmp 49) (h := .tmp 53) (v1 := .string s) (v2 := .int .i64 ((at' + 3 : Nat) : Int)) (v3 := .int .i64 ((at' + 3 + m : Nat) : Int)) (v := .string (s.extract (at' + 3) (at' + 3 + m))) (by kernel_rfl) (by kernel_rfl) (by kernel_rfl) (by kernel_rfl) (by kernel_rfl) (by kernel_rfl) (fun w' => run_cut s _ _ (by omega) (by omega) w') (fun w' => rfl) (fun g0 w' h => h.same rfl)) ?_
              refine dagL_cons (by kernel_rfl) (dag_val (v := .agg #[.string (s.extract (at' + 3) (at' + 3 + m)), .int .i64 (x0.toNat : Int)]) (by kernel_rfl) (by kernel_rfl) (fun g0 w' h => by kernel_rfl) (fun g0 w' h => h.same rfl)) ?_
              refine dagL_cons (by kernel_rfl) (dag_make (v := .slice (some ⟨w5.heap.size, 0, none⟩) 1 1) (by kernel_rfl) (by kernel_rfl) (fun g0 w' h1 h2 h => ?_)) ?_
              case refine_1 =>
                have h15 : g0 15 = false := by
                  cases h5 : g0 15
                  · rfl
                  · have := h.1 h5; rw [show g0 14 = false from h1] at this; cases this
                obtain rfl := h.2.1 h1
                refine ⟨W1, by rw [← hW1]; kernel_rfl, (fun h => rfl), (fun h => by cases h), (fun _ _ => rfl), (fun h => ?_)⟩
                have h : g0 15 = true := h
                rw [h15] at h; cases h
              refine dagL_cons (by kernel_rfl) (dag_append (s := .tmp 42) (x := .tmp 56) (t := 23) (v := u4) (u := .slice (some ⟨w5.heap.size, 0, none⟩) 1 1) (v2 := v2) (by kernel_rfl) (by kernel_rfl) (by kernel_rfl) (by kernel_rfl) (by kernel_rfl) (fun g0 w' h1 h2 h => ?_)) ?_
              case refine_1 =>
                have h14 : g0 14 = true := h2 { on := 14, ground := Ground.data } (by simp) rfl
                have h1 : g0 15 = false := h1
                obtain rfl := h.2.2.1 h14 h1
                exact ⟨w6, hrun, (fun _ => h14), (fun h => by rw [show upd g0 15 14 = g0 14 from rfl, h14] at h; cases h), (fun _ h => by cases h), (fun _ => rfl)⟩
              refine dagL_cons (by kernel_rfl) (dag_val (v := v2) (by kernel_rfl) (by kernel_rfl) (fun g0 w' h => by kernel_rfl) (fun g0 w' h => h.same rfl)) ?_
              exact dagL_nil
            case refine_2 =>
              intro w7 hJ
              obtain rfl := hJ.2.2.2 rfl
              simp only [putAll, List.foldl_cons, List.foldl_nil]
              have hpe : pEnt (some ((bo s).drop at')) = ((s.extract (at' + 3) (at' + 3 + m), (x0.toNat : Int)), some ((bo s).drop (at' + 3 + m))) := by
                rw [pEnt_there (fun b hb => HBd.out b (List.mem_of_mem_drop hb)) (by rw [List.length_drop, HBl.out]; omega) m HM.out (by rw [List.length_drop, HBl.out]; omega)]
                rw [strOf_cut, List.drop_drop, List.drop_drop, List.getElem?_drop, ← hx0, bo_at]
                rw [show at' + 3 + m - (at' + 3) = m by omega, show at' + (3 + m) = at' + 3 + m by omega]
                rfl
              have HPe := Lib.hid hpe
              clear hpe hrun hJ hW1
              go_wp2
              go_roundg (c - (i + 1))
              case measure => omega
              case rel => exact ⟨i + 1, at' + 3 + m, by omega, by go_num, by go_num, by omega, by omega, Lib.hid (by rw [plS_next, hst.out, HPe.out]), Lib.hid (by
                have h := HO6.out
                rw [plS_next, hst.out, HPe.out, ← namesV_snoc]
                exact h), HB6⟩
    · obtain rfl : i = c := by omega
      have hrb : ∀ b ∈ (some r).getD [], 0 ≤ b ∧ b ≤ 255 := fun b hb => HBd.out b (by rw [HZr.out]; exact List.mem_cons_of_mem _ hb)
      have hrl : r.length ≤ n := by have := HBl.out; rw [HZr.out, List.length_cons] at this; omega
      obtain ⟨A6, c6, he6, hr6⟩ := own_read (l := (plS (some r) i).1) (by rw [plS_len]; exact ho.out)
      subst he6
      have HR6 := Lib.hid hr6
      have HHp := Lib.hid (plS_heaps hrb i)
      have HSz := Lib.hid (plS_size (st := some r) hrl i)
      have hll : (plS (some r) i).1.length ≤ 90000 := by rw [plS_len]; omega
      have hrc := rright13_calls wr A6 c6 (plS (some r) i).1 HR6.out HHp.out hll (fun a ha => by have := HSz.out a ha; omega)
      rw [plS_len] at hrc ⊢
      clear hr6 hrb hrl
      go_wp2_with fail
      refine hrc.mono ?_
      rintro e w7 ⟨b, rfl, hbR, hb7⟩
      have HB7 := Lib.hid (bel_next hb.out hb7 (Nat.le_refl _))
      have HBR := Lib.hid hbR
      have HO7 := Lib.hid (ownsRow_below ho.out hb7)
      clear hrc hbR hb7
      cases b
      · have hg := HNo.out (fun h => absurd (HBR.out.2 h) (by decide))
        go_wp2
        go_ret2
        rw [hg]
        exact ⟨_, rfl, World.ownsRow_nil _ _ _ _, HB7.out⟩
      · have hg : getN (bo s) = ((plS (some r) i).1, at') := by
          rw [HZr.out]
          have h1 := getN_yes (z := (i : Int)) (r := r) (by rw [Int.toNat_natCast]; exact HBR.out.1 rfl)
          rw [Int.toNat_natCast] at h1
          rw [h1, hst.out, ← HZr.out]
          refine Prod.ext rfl ?_
          show (bo s).length - ((bo s).drop at').length = at'
          rw [List.length_drop, HBl.out]
          omega
        have HG := Lib.hid hg
        clear hg
        go_wp2
        go_ret2
        rw [HG.out]
        exact ⟨_, rfl, by have h := HO7.out; rw [plS_len] at h; rw [plS_len]; exact h, HB7.out⟩
end Go.Proofs.Ytanfjiccilibcaa
