/- The walk of RunsBest. -/
import Derived.Test.YtfacpamepkkhgaaRunT
namespace Go.Proofs.Ytfacpamepkkhgaa
open Go.RowKit
set_option linter.unusedVariables false

/-- Where each of these rows begins, one behind the other. -/
def froms (ys : List Nat) : List Nat := (List.range ys.length).map fun j => 1 + (ys.take j).sum
theorem froms_snoc (ys : List Nat) (k : Nat) : froms (ys ++ [k]) = froms ys ++ [1 + ys.sum] := by
  unfold froms
  rw [List.length_append, List.length_cons, List.length_nil, List.range_succ, List.map_append]
  congr 1
  · exact List.map_congr_left fun j hj => by rw [List.take_append_of_le_length (by have := List.mem_range.1 hj; omega)]
  · simp
theorem froms_length (ys : List Nat) : (froms ys).length = ys.length := by simp [froms]
theorem froms_at (ys : List Nat) (j : Nat) (h : j < ys.length) : (froms ys)[j]? = some (1 + (ys.take j).sum) := by simp [froms, h]
theorem sum_take_succ (ys : List Nat) (j : Nat) (h : j < ys.length) : (ys.take (j + 1)).sum = (ys.take j).sum + ys[j] := by
  rw [List.take_add_one, List.getElem?_eq_getElem h, List.sum_append]; simp
theorem sum_take_le (ys : List Nat) (j : Nat) : (ys.take j).sum ≤ ys.sum := by
  have := List.take_append_drop j ys
  conv => rhs; rw [← this, List.sum_append]
  omega
theorem sum_bound (ys : List Nat) (h : ∀ y ∈ ys, 1 ≤ y ∧ y ≤ 60) : ys.length ≤ ys.sum ∧ ys.sum ≤ 60 * ys.length := by
  induction ys with
  | nil => simp
  | cons a ys ih =>
    have h1 := h a List.mem_cons_self
    have h2 := ih fun y hy => h y (List.mem_cons_of_mem _ hy)
    simp only [List.sum_cons, List.length_cons]
    omega

set_option maxRecDepth 8000 in
set_option maxHeartbeats 8000000 in
theorem best_walk (a0 : Option Addr) (len cap0 : Nat) (zs : List Int) (at0 : Int) (w : World) (hrow : IsRow .u8 w a0 len cap0 zs) (wf1 : (Lit.int .u8 at0).wf = true) :
    Calls Try.prog 3 #[.slice a0 len cap0, .int .u8 at0] w fun e w' => e = .returned (.bool true) ∧ Below w.heap.size w w' := by
  obtain ⟨i0, hi, hz0, hz1, hz2⟩ := info_parts Try.info_int
  have hlen := hrow.len_le
  have hat := wf_u8 wf1
  have HAt := Lib.hid (NumAt.of_row (M := 255) hrow (fun n hn => by have := wf_u8 hn; omega))
  clear hrow wf1
  by_cases hl : len < 2 ∨ 30 < len
  · rcases hl with hl | hl
    all_goals
      go_enter Try.func3, Try.ntmps3
      go_wp2_with fail
      refine (awake_calls16 _).mono ?_
      rintro e w1 ⟨rfl, hb1⟩
      have HB1 := Lib.hid hb1
      clear hb1
      go_wp2_with fail
      refine (awake_calls16 _).mono ?_
      rintro e w2 ⟨rfl, hb2⟩
      have HB2 := Lib.hid (bel_next HB1.out hb2 (Nat.le_refl _))
      clear hb2
      go_wp2
      go_ret
      exact ⟨rfl, HB2.out⟩
  have hl1 : 2 ≤ len := by omega
  have hl2 : len ≤ 30 := by omega
  clear hl
  go_enter Try.func3, Try.ntmps3
  go_wp2_with fail
  refine (awake_calls16 _).mono ?_
  rintro e w1 ⟨rfl, hb1⟩
  have HB1 := Lib.hid hb1
  clear hb1
  go_wp2_with fail
  refine (new16_calls _).mono ?_
  rintro e w2 ⟨L, g0, c0, rfl, hla, hL, hg, hb⟩
  have hb1s := HB1.out.size
  have HT2 := Lib.hid (Two.new (w0 := w) hla (by omega) (by omega) (bel_next HB1.out hb (Nat.le_refl _)))
  clear hla hL hg hb
  go_wp2_with fail
  go_loopg [6, 7, 8, 9, 10, 11] len (fun q v1 v2 i s9 s10 s11 wr => ∃ (ys : List Nat) (g cap : Nat), q + ys.length = len ∧ i = .int .i64 ys.length ∧ Hid (∀ y ∈ ys, 1 ≤ y ∧ y ≤ 60) ∧ Hid (Two w wr L g cap [(1 + ys.sum, 4095 - ys.sum)] (froms ys) ys v1 v2))
  case atStart => exact ⟨[], g0, c0, by simp, rfl, Lib.hid (fun y hy => by cases hy), HT2⟩
  case round =>
    obtain ⟨ys, g, cap, hq, rfl, hys, ht⟩ := hrel
    have hsb := sum_bound ys hys.out
    obtain ⟨j, hj⟩ : ∃ j, ys.length = j := ⟨_, rfl⟩
    have HJ := Lib.hid hj
    rw [hj] at hq hsb ⊢
    clear hj
    by_cases hlt : j < len
    · obtain ⟨bb, oo, rfl, hbl, hcc⟩ := HAt.out.resolve_left (by omega)
      obtain ⟨z, hz, hzc⟩ := hcc j hlt
      have hx := (ht.out.bel.cell (p := ⟨bb, oo + j, none⟩) hbl).trans hzc
      obtain ⟨k, hk⟩ : ∃ k : Nat, 1 + z % 60 = k := ⟨_, rfl⟩
      have hki : 1 + (z : Int) % 60 = (k : Int) := by omega
      have hk2 : 1 ≤ k ∧ k ≤ 60 := by omega
      have HTw := ht
      have HYs := hys
      obtain ⟨S, hS⟩ : ∃ S, ys.sum = S := ⟨_, rfl⟩
      have HSs := Lib.hid hS
      rw [hS] at hsb
      clear hcc hzc hk ht hys hS
      go_wp2_with fail
      refine (take16_calls _ L g cap _ k HTw.out.land (by rw [HSs.out]; exact canon_one (by omega) (by omega) (by omega)) (by simp) (by omega)).mono ?_
      rintro e w5 h
      have hbt := take_is h (by omega) (best_first (by rw [HSs.out]; omega) (fun q hq => by cases hq))
      obtain ⟨rfl, hr⟩ := hbt
      rw [Int.toNat_natCast, leftR_front (by rw [HSs.out]; omega)] at hr
      obtain ⟨g5, cap5, ht5⟩ := HTw.out.step hr
      have HT5 := Lib.hid (show Two w w5 L g5 cap5 [(1 + ys.sum + k, 4095 - ys.sum - k)] (froms ys) ys u6 u7 from ht5)
      have h5s := ht5.bel.size
      have HFl := Lib.hid (froms_length ys)
      have hfl : (froms ys).length ≤ 30 ∧ ys.length ≤ 30 := by rw [froms_length, HJ.out]; omega
      clear h hr ht5
      rw [HSs.out]
      obtain ⟨X, hX⟩ : ∃ X : Nat, (1 + S, 4095 - S).1 = X := ⟨_, rfl⟩
      rw [hX]
      have HX := Lib.hid (show X = 1 + ys.sum by rw [HSs.out]; exact hX.symm)
      clear hX
      go_wp2_with (first | (at_builtin; refine wpList_append_one rfl (.tmp 50) (.tmp 52) 26 rfl w.heap.size 3 i0 (.int .i64 0) 8 Try.underlying26 hi hz0 hz1 hz2 rfl u6 _ _ rfl HT5.out.o1 rfl rfl (by omega) (by unfold maxLen; omega) (by omega) ?_; intro v1 w6 hown1 hgr1 hnew1; have HX1 := Lib.hid hown1; have HG1 := Lib.hid hgr1; have HW1 := Lib.hid hnew1; have hs5 := hgr1.size; clear hown1 hgr1 hnew1) | (at_builtin; refine wpList_append_one rfl (.tmp 54) (.tmp 56) 26 rfl w.heap.size 3 i0 (.int .i64 0) 8 Try.underlying26 hi hz0 hz1 hz2 rfl u7 _ _ rfl (ownsRow_grown HT5.out.o2 HG1.out HT5.out.ap) rfl rfl (by omega) (by unfold maxLen; omega) (by omega) ?_; intro v2 w7 hown2 hgr2 hnew2; have HX2 := Lib.hid hown2; have HG2 := Lib.hid hgr2; have HW2 := Lib.hid hnew2; have hs6 := hgr2.size; clear hown2 hgr2 hnew2))
      go_roundg (len - (j + 1))
      case measure => omega
      case rel =>
        refine ⟨ys ++ [k], g5, cap5, by rw [List.length_append, HJ.out]; simp; omega, by rw [List.length_append, HJ.out]; go_num, Lib.hid (fun y hy => ?_), Lib.hid ?_⟩
        · rcases List.mem_append.1 hy with h | h
          · exact HYs.out y h
          · obtain rfl := List.mem_singleton.1 h
            exact hk2
        · have := HT5.out.grow HX1.out HG1.out HW1.out HX2.out HG2.out HW2.out
          rw [froms_snoc, ← HX.out, List.sum_append]
          have e : ([(1 + (ys.sum + [k].sum), 4095 - (ys.sum + [k].sum))] : List (Nat × Nat)) = [(1 + ys.sum + k, 4095 - ys.sum - k)] := by
            simp only [List.sum_cons, List.sum_nil, Nat.add_zero]
            rw [Nat.add_assoc, Nat.sub_sub]
          rw [e]
          exact this
    · obtain rfl : j = len := by omega
      obtain ⟨d, hd⟩ : ∃ d : Nat, at0 = d := ⟨at0.toNat, by omega⟩
      subst hd
      obtain ⟨x, hx⟩ : ∃ x : Nat, d % (j - 1) = x := ⟨_, rfl⟩
      have hxi : (d : Int) % ((j : Int) - 1) = (x : Int) := by
        rw [← hx, show (j : Int) - 1 = ((j - 1 : Nat) : Int) by omega, Int.natCast_emod]
      have hxl : x < j - 1 := by rw [← hx]; exact Nat.mod_lt _ (by omega)
      obtain ⟨y, hy⟩ : ∃ y, ys[x]? = some y := ⟨_, List.getElem?_eq_getElem (by have := HJ.out; omega)⟩
      have hyb := hys.out y (List.mem_of_getElem? hy)
      have hfx := froms_at ys x (by have := HJ.out; omega)
      obtain ⟨B1, e1, hv1⟩ := ownsRow_slice ht.out.o1
      obtain ⟨B2, e2, hv2⟩ := ownsRow_slice ht.out.o2
      subst hv1 hv2
      obtain ⟨S, hS⟩ : ∃ S, ys.sum = S := ⟨_, rfl⟩
      obtain ⟨F, hF⟩ : ∃ F, 1 + (ys.take x).sum = F := ⟨_, rfl⟩
      have hyx : ys[x]'(by have := HJ.out; omega) = y := (List.getElem?_eq_some_iff.1 hy).2
      have hFS : F + y < 1 + S ∧ 1 ≤ F := by
        have a1 := sum_take_succ ys x (by have := HJ.out; omega)
        have a2 := sum_take_succ ys (x + 1) (by have := HJ.out; omega)
        have a3 := sum_take_le ys (x + 1 + 1)
        have a4 := hys.out (ys[x + 1]'(by have := HJ.out; omega)) (List.getElem_mem _)
        omega
      have hfl : (froms ys).length = j := by rw [froms_length, HJ.out]
      rw [hS] at ht hsb
      rw [hF] at hfx
      rw [hfl, HJ.out] at ht ⊢
      have HTd := Lib.hid ht.out.drew
      obtain ⟨b1, rfl, d1⟩ := ht.out.drew.at1 hfx
      obtain ⟨b2, rfl, d2⟩ := ht.out.drew.at2 hy
      have HFx := Lib.hid hfx
      have HY := Lib.hid hy
      clear hS hF hyx hfl hfx hy hx
      have hcan : Canon [(1 + S, 4095 - S)] := canon_one (by omega) (by omega) (by omega)
      have hcan2 : Canon [(F, y), (1 + S, 4095 - S)] := canon_two (by omega) (by omega) (by omega) (by omega) (by omega)
      have HCan := Lib.hid hcan
      have HCan2 := Lib.hid hcan2
      have HBe := Lib.hid (beh_zero (x := F) hcan (by omega))
      have HTh := Lib.hid (there_ok (x := F) (n := y) (by omega) (by omega) (by omega) (by omega))
      have HRo := Lib.hid (ro_apart (a := 1 + S) (N := 4095 - S) (l := []) (ro := (F, y)) (by simp only; omega))
      clear hcan hcan2
      go_wp2_with fail
      go_region_with (first | (go_at_call 10; refine (give16_calls _ L g cap _ (F : Int) (y : Int) HTd.out.land HCan.out (by simp) (by omega) (by omega)).mono ?_; rintro e w5 h; obtain ⟨rfl, hr⟩ := give_is (x := F) (n := y) h HTh.out HBe.out lo_zero HRo.out; have HR5 := Lib.hid hr; clear h hr))
      all_goals
        obtain ⟨g5, cap5, ht5⟩ := HTd.out.step HR5.out
        have HT5 := Lib.hid (show Two w w5 L g5 cap5 [(F, y), (1 + S, 4095 - S)] (froms ys) ys _ _ from ht5)
        obtain ⟨b2', hbe, d2⟩ := ht5.at2 HY.out
        cases hbe
        clear ht5
        go_wp2_with fail
        refine (take16_calls _ L g5 cap5 _ (y : Int) HT5.out.land HCan2.out (by simp) (by omega)).mono ?_
        rintro e w6 h
        obtain ⟨rfl, hr⟩ := take_is h (by omega) (best_first (by omega) (fun q hq hn => by obtain rfl := List.mem_singleton.1 hq; simp only at hn ⊢; omega))
        obtain ⟨g6, cap6, ht6⟩ := HT5.out.step hr
        obtain ⟨b1', hbe, d1⟩ := ht6.at1 HFx.out
        cases hbe
        have HB6 := Lib.hid ht6.bel
        clear h hr ht6
        obtain ⟨X, hX⟩ : ∃ X : Nat, (F, y).1 = X := ⟨_, rfl⟩
        rw [hX]
        obtain rfl : X = F := hX.symm
        go_wp2
        go_ret
        exact ⟨rfl, HB6.out⟩
end Go.Proofs.Ytfacpamepkkhgaa
