/- The walk of slices.Replace at []api.Row. -/
import Derived.Test.YtadbbknllakpcaaGreatInsRow
namespace Go.Proofs.YtadbbknllakpcaaGreat
open Go.RowKit
set_option linter.unusedVariables false

theorem bel_dn {B : Nat} {a w : World} (h : Below B a w) (n : Nat) : Below B a (w.drewN n) := ⟨h.os, h.tape, h.output, h.size, h.block⟩
theorem onl_dn {S : Nat → Prop} {a w : World} (h : Only S a w) (n : Nat) : Only S a (w.drewN n) := ⟨h.os, h.tape, h.output, h.size, h.block⟩
theorem one_zero_Row : ∀ v ∈ (Value.cells (.agg #[.int .i64 0, .int .i64 0])).toList, v.oneCell' = true := fun v hv => (List.all_eq_true.1 (show ((Value.cells (.agg #[.int .i64 0, .int .i64 0])).toList).all (·.oneCell') = true by kernel_rfl)) v hv
/-- What is put in: nothing, or rows that lie in another block. -/
def SrcRow (w : World) (g : Nat) (B : Option Addr) (m : Nat) (ys : List Value) : Prop :=
  (m = 0 ∧ ys = []) ∨ ∃ vb cs, B = some ⟨vb, 0, none⟩ ∧ Blk w vb cs 45 ∧ vb ≠ g ∧ cs.take (m * 2) = ys ∧ 0 < m
theorem SrcRow.rd {w : World} {g m : Nat} {B : Option Addr} {ys : List Value} (h : SrcRow w g B m ys) : RdAt w B m ys := by
  rcases h with ⟨h, _⟩ | ⟨vb, cs, rfl, hv, _, hys, _⟩
  · exact .inl h
  · refine .inr ⟨vb, 0, rfl, hv.lt, fun j u hu => ?_⟩
    rw [Nat.zero_add, hv.cell j]
    rw [← hys, List.getElem?_take] at hu
    split at hu
    · exact hu
    · cases hu
theorem SrcRow.only {w w' : World} {g m : Nat} {B : Option Addr} {ys : List Value} {S : Nat → Prop} (h : SrcRow w g B m ys) (o : Only S w w') (hS : ∀ i, i < w.heap.size → S i → i = g) : SrcRow w' g B m ys := by
  rcases h with h | ⟨vb, cs, rfl, hv, hne, hys, hm⟩
  · exact .inl h
  · exact .inr ⟨vb, cs, rfl, Blk.only hv o (fun h => hne (hS vb hv.lt h)), hne, hys, hm⟩
set_option maxHeartbeats 8000000 in
set_option maxRecDepth 20000 in
theorem replace_Row (w : World) (g n cap i j m c : Nat) (B : Option Addr) (cur ys : List Value) (hS : SlcRow w g n cap cur) (hij : i ≤ j) (hj : j ≤ n) (hv : SrcRow w g B m ys) (hyl : ys.length = m * 2) (him : i = j → 0 < m)
    (h1 : ∀ v ∈ ys, v.oneCell' = true) (h1c : ∀ v ∈ cur.take (n * 2), v.oneCell' = true) (hbig : n + m ≤ 1000000) :
    Calls Tryz.prog 76 #[.slice (some ⟨g, 0, none⟩) n cap, .int .i64 i, .int .i64 j, .slice B m c] w
      (GotRow w g (i + m + (n - j)) (cur.take (i * 2) ++ ys ++ (cur.take (n * 2)).drop (j * 2))) := by
  by_cases he : i = j
  · subst he
    have hS0 := hS
    obtain ⟨hg, hcl, hnc, hcm⟩ := hS
    have hcm' : cap ≤ 9223372036854775807 := by unfold maxLen at hcm; omega
    obtain ⟨vb, cs, rfl, hvb, hne, hys, hm⟩ := hv.resolve_left (fun h => by have := him rfl; omega)
    have HI := Lib.hid (insert_Row w g n cap i vb m c cur cs ys hS0 hj hm hvb hne hys hyl h1 h1c hbig)
    have ht : i + m + (n - i) = n + m := by omega
    rw [ht]
    obtain ⟨X, hX⟩ : ∃ X, cur.take (i * 2) ++ ys ++ (cur.take (n * 2)).drop (i * 2) = X := ⟨_, rfl⟩
    rw [hX] at HI ⊢
    clear hS0 hg hvb hys hyl h1 h1c hv hX ht him
    by_cases hci : cap = i
    · subst hci
      go_enter Tryz.func76, Tryz.ntmps76
      go_wp2_with fail
      refine HI.out.mono ?_
      rintro e w' ⟨g', cap', cur', rfl, h⟩
      have H := Lib.hid h
      clear h
      go_wp2
      go_ret
      exact ⟨g', cap', cur', rfl, H.out⟩
    · go_enter Tryz.func76, Tryz.ntmps76
      go_wp2_with fail
      refine HI.out.mono ?_
      rintro e w' ⟨g', cap', cur', rfl, h⟩
      have H := Lib.hid h
      clear h
      go_wp2
      go_ret
      exact ⟨g', cap', cur', rfl, H.out⟩
  have hlt : i < j := by omega
  obtain ⟨hg, hcl, hnc, hcm⟩ := hS
  obtain ⟨i0, hi0, hz0, hz1, hz2⟩ := info_parts Tryz.info_Row
  have hcm' : cap ≤ 9223372036854775807 := by unfold maxLen at hcm; omega
  have hijb : ((i : Int) == (j : Int)) = false := by rw [beq_eq_false_iff_ne]; omega
  have HG := Lib.hid hg
  have HV := Lib.hid hv
  have H1 := Lib.hid h1
  have HYl := Lib.hid hyl
  have HRd := Lib.hid hv.rd
  obtain ⟨D, hD⟩ : ∃ D, (cur.take (n * 2)).drop (j * 2) = D := ⟨_, rfl⟩
  have hDl : D.length = (n - j) * 2 := by rw [← hD, List.length_drop, List.length_take]; omega
  have hDat : ∀ t v, D[t]? = some v → cur[j * 2 + t]? = some v := fun t v h => by
    rw [← hD, List.getElem?_drop, List.getElem?_take] at h
    split at h
    · exact h
    · cases h
  have hD1 : ∀ v ∈ D, v.oneCell' = true := fun v hv => h1c v (by rw [← hD] at hv; exact List.mem_of_mem_drop hv)
  rw [hD]
  have HDl := Lib.hid hDl
  have HDat := Lib.hid hDat
  have HD1 := Lib.hid hD1
  obtain ⟨X, hX⟩ : ∃ X, cur.take (i * 2) ++ ys ++ D = X := ⟨_, rfl⟩
  rw [hX]
  have HX := Lib.hid hX
  clear hg hv h1 h1c hyl hD hDl hDat hD1 hX him he
  have hci : ¬ cap = i := by omega
  by_cases hjn : j = n
  · subst hjn
    have hDn : D = [] := List.eq_nil_of_length_eq_zero (by rw [HDl.out]; simp)
    have hXe : cur.take (i * 2) ++ ys = X := by rw [← HX.out, hDn, List.append_nil]
    have HXe := Lib.hid hXe
    have ht0 : i + m + (j - j) = i + m := by omega
    rw [ht0]
    clear hDn hXe ht0
    by_cases hroom : i + m ≤ cap
    · by_cases hsh : i + m < j
      · have hcim : ¬ cap = i + m := by omega
        have hb1 : (i : Int) + (m : Int) < (j : Int) := by omega
        go_enter Tryz.func76, Tryz.ntmps76
        go_wp2_with (first | (at_builtin; refine wpList_app_room rfl (.tmp 32) (.tmp 33) 89 rfl 45 i0 Tryz.underlying89 hi0 2 hz1 g i cap cur HG.out rfl B m c rfl ys HYl.out HRd.out H1.out hroom (by omega) ?_; intro w2 hb2 ho2) | (refine wpList_clear_k rfl (.tmp 43) 89 rfl 45 i0 _ Tryz.underlying89 hi0 hz0 2 rfl one_zero_Row (some ⟨g, (i + m) * 2, none⟩) (j - (i + m)) (cap - (i + m)) rfl g ((i + m) * 2) (splice cur (i * 2) ys) hb2.out (fun _ => rfl) (by rw [splice_length (by rw [HYl.out]; omega)]; omega) ?_; intro cur3 w3 hb3 hl3 ht3 ho3))
        go_ret
        refine ⟨g, cap, _, rfl, ⟨hb3.out, ?_, hroom, hcm⟩, ?_, .inl rfl, ho2.trans ho3 (fun _ _ h => h)⟩
        · rw [hl3, splice_length (by rw [HYl.out]; omega)]; exact hcl
        · rw [ht3.out, ← HXe.out]
          unfold splice
          rw [← List.append_assoc, List.take_left' (by rw [List.length_append, List.length_take, HYl.out]; omega)]
      · have hb1 : ¬ (i : Int) + (m : Int) < (j : Int) := by omega
        go_enter Tryz.func76, Tryz.ntmps76
        go_wp2_with (at_builtin; refine wpList_app_room rfl (.tmp 32) (.tmp 33) 89 rfl 45 i0 Tryz.underlying89 hi0 2 hz1 g i cap cur HG.out rfl B m c rfl ys HYl.out HRd.out H1.out hroom (by omega) ?_; intro w2 hb2 ho2)
        go_ret
        refine ⟨g, cap, _, rfl, ⟨hb2.out, ?_, hroom, hcm⟩, ?_, .inl rfl, ho2⟩
        · rw [splice_length (by rw [HYl.out]; omega)]; exact hcl
        · rw [← HXe.out]
          unfold splice
          rw [← List.append_assoc, List.take_left' (by rw [List.length_append, List.length_take, HYl.out]; omega)]
    · have hroom' : cap < i + m := by omega
      have hb1 : ¬ (i : Int) + (m : Int) < (j : Int) := by omega
      go_enter Tryz.func76, Tryz.ntmps76
      go_wp2_with (at_builtin; refine wpList_app_grow rfl (.tmp 32) (.tmp 33) 89 rfl 45 i0 _ Tryz.underlying89 hi0 hz0 2 16 hz1 hz2 rfl g i cap cur HG.out rfl B m c rfl ys HYl.out HRd.out hroom' (by omega) (by omega) (by omega) (by unfold maxLen; omega) ?_; intro cap' cur' w' hb hl1 hl2 hl3 ht ho)
      go_ret
      refine ⟨_, cap', cur', rfl, ⟨hb.out, hl1, hl2, hl3⟩, ?_, .inr (Nat.le_refl _), Only.of_below ho⟩
      rw [ht.out]
      exact HXe.out
  · have hjn' : j < n := by omega
    have hjnb : ((j : Int) == (n : Int)) = false := by rw [beq_eq_false_iff_ne]; omega
    obtain ⟨tot, htot⟩ : ∃ tot, i + m + (n - j) = tot := ⟨_, rfl⟩
    have hcj : ¬ cap = j := by omega
    rw [htot]
    by_cases hroom : cap < tot
    · have hgw := Blk.lt HG.out
      have hcast : (i : Int) + (m : Int) + (((n - j : Nat) : Int)) = (tot : Int) := by omega
      go_enter Tryz.func76, Tryz.ntmps76
      go_wp2_with fail
      go_quiet (fail)
      have hw1 : IntKind.i64.wrap ((i : Int) + (m : Int)) = (i : Int) + (m : Int) := IntWalk.i64_in _ (by omega)
      have hb1 : (0 : Int) ≤ (i : Int) + (m : Int) := by omega
      have hb2 : (i : Int) + (m : Int) ≤ (tot : Int) := by omega
      have hb3 : (j : Int) ≤ (n : Int) := by omega
      have hb4 : (i : Int) ≤ (tot : Int) := by omega
      have htn : ((i : Int) + (m : Int)).toNat = i + m := by omega
      have hgG : ¬ g = w.heap.size := by omega
      go_wp2_with (first | (at_builtin; refine wpList_app_zeros rfl (.tmp 63) (.tmp 66) 89 3 rfl 45 i0 _ .i64 Tryz.underlying89 Tryz.underlying3 hi0 hz0 2 16 hz1 hz2 rfl (by decide) g i cap cur (show Blk (w.drewN nq) g cur 45 from HG.out) rfl .i64 _ (tot - i) (by omega) rfl tot (by omega) hroom (by omega) (by omega) (by omega) (by unfold maxLen; omega) ?_; intro cap' cur' w2 hb2' hl1 hl2 hl3 ht ho2'; have HB2 := Lib.hid (show Blk w2 w.heap.size cur' 45 from hb2'.out); have ho2 : Below w.heap.size w w2 := ((bel_dn (Below.refl _ _) nq).trans ho2'); have hcin' : ¬ cap' = i := (by omega); have hcim' : ¬ cap' = i + m := (by omega); have HG2 := Lib.hid (Blk.below HG.out ho2); have HRd2 := Lib.hid (HRd.out.below ho2); clear ho2' hb2') | (refine wpList_copy_k rfl (.tmp 70) (.tmp 71) 89 89 rfl 45 Tryz.underlying89 2 Tryz.size_Row (some ⟨w.heap.size, i * 2, none⟩) B (tot - i) (cap' - i) m c rfl rfl w.heap.size (i * 2) cur' 45 HB2.out ys (by rw [HYl.out]; congr 1; simp only [Nat.min_def]; split <;> omega) (by decide) (fun h0 => by obtain ⟨b1, o1, he, _, hc⟩ := HRd2.out.resolve_left (fun h => by rw [HYl.out, h] at h0; simp at h0); exact ⟨rfl, b1, o1, he, hc⟩) (by rw [HYl.out]; omega) H1.out ?_; intro w3 hg3 ho3; have HG3 := Lib.hid (Blk.only HG2.out ho3 (by omega))))
      have hsl : (splice cur' (i * 2) ys).length = cur'.length := splice_length (by rw [HYl.out]; omega)
      have HSl := Lib.hid hsl
      clear hsl
      go_region_law (refine step_copy_k rfl (.tmp 78) (.tmp 81) 89 89 rfl 45 Tryz.underlying89 2 Tryz.size_Row (some ⟨w.heap.size, (i + m) * 2, none⟩) (some ⟨g, j * 2, none⟩) (tot - (i + m)) (cap' - (i + m)) (n - j) (cap - j) (by simp [Act.eval, Act.put]) (by simp [Act.eval, Act.put]) w.heap.size ((i + m) * 2) (splice cur' (i * 2) ys) 45 hg3.out D (by rw [HDl.out]; congr 1; simp only [Nat.min_def]; split <;> omega) (by decide) (fun _ => ⟨rfl, g, j * 2, rfl, fun t v hj => (HG3.out.cell _).trans (HDat.out t v hj)⟩) (by rw [HDl.out, HSl.out]; omega) HD1.out ?_; intro w4 hg4 ho4)
      go_wp2
      go_ret
      refine ⟨w.heap.size, cap', _, rfl, ⟨hg4.out, ?_, hl2, hl3⟩, ?_, .inr (Nat.le_refl _), (Only.of_below ho2).trans (Only.trans (b := w3.drew) ho3.drew ho4 (fun _ _ h => h)) (fun i hi h => by omega)⟩
      · rw [splice_length (by rw [HDl.out, HSl.out]; omega), HSl.out]; exact hl1
      · rw [← HX.out, fill_fore (by rw [HYl.out]; omega) (by rw [HDl.out]; omega) (by omega), ht.out]
    · have hroom' : tot ≤ cap := by omega
      have hcast : (i : Int) + (m : Int) + (((n - j : Nat) : Int)) = (tot : Int) := by omega
      have hgw := Blk.lt HG.out
      have hw1 : IntKind.i64.wrap ((i : Int) + (m : Int)) = (i : Int) + (m : Int) := IntWalk.i64_in _ (by omega)
      have hb1 : (0 : Int) ≤ (i : Int) + (m : Int) := by omega
      have hb2 : (i : Int) + (m : Int) ≤ (tot : Int) := by omega
      have hb3 : (j : Int) ≤ (n : Int) := by omega
      have hb4 : (i : Int) ≤ (tot : Int) := by omega
      have htn : ((i : Int) + (m : Int)).toNat = i + m := by omega
      have hgG : ¬ g = w.heap.size := by omega
      have hcim : ¬ cap = i + m := by omega
      by_cases hfit : i + m ≤ j
      · have hf2 : (i : Int) + (m : Int) ≤ (j : Int) := by omega
        go_enter Tryz.func76, Tryz.ntmps76
        go_wp2_with fail
        go_quiet (fail)
        go_wp2_with (refine wpList_copy_k rfl (.tmp 95) (.tmp 96) 89 89 rfl 45 Tryz.underlying89 2 Tryz.size_Row (some ⟨g, i * 2, none⟩) B (tot - i) (cap - i) m c rfl rfl g (i * 2) cur 45 (show Blk (w.drewN nq) g cur 45 from HG.out) ys (by rw [HYl.out]; congr 1; simp only [Nat.min_def]; split <;> omega) (by decide) (fun h0 => by obtain ⟨b1, o1, he, _, hc⟩ := HRd.out.resolve_left (fun h => by rw [HYl.out, h] at h0; simp at h0); exact ⟨rfl, b1, o1, he, hc⟩) (by rw [HYl.out]; omega) H1.out ?_; intro w3 hg3 ho3)
        have hsl : (splice cur (i * 2) ys).length = cur.length := splice_length (by rw [HYl.out]; omega)
        have HSl := Lib.hid hsl
        have hDs : ∀ t v, D[t]? = some v → w3.cell? ⟨g, j * 2 + t, none⟩ = some v := fun t v h => by
          rw [hg3.out.cell, splice_get (by rw [HYl.out]; omega), if_neg (by omega), if_neg (by rw [HYl.out]; omega)]
          exact HDat.out t v h
        have HDs := Lib.hid hDs
        clear hsl hDs
        go_region_law (refine step_copy_k rfl (.tmp 103) (.tmp 106) 89 89 rfl 45 Tryz.underlying89 2 Tryz.size_Row (some ⟨g, (i + m) * 2, none⟩) (some ⟨g, j * 2, none⟩) (tot - (i + m)) (cap - (i + m)) (n - j) (cap - j) (by simp [Act.eval, Act.put]) (by simp [Act.eval, Act.put]) g ((i + m) * 2) (splice cur (i * 2) ys) 45 hg3.out D (by rw [HDl.out]; congr 1; simp only [Nat.min_def]; split <;> omega) (by decide) (fun _ => ⟨rfl, g, j * 2, rfl, HDs.out⟩) (by rw [HDl.out, HSl.out]; omega) HD1.out ?_; intro w4 hg4 ho4)
        have hsl2 : (splice (splice cur (i * 2) ys) ((i + m) * 2) D).length = cur.length := by rw [splice_length (by rw [HDl.out, HSl.out]; omega), HSl.out]
        have HSl2 := Lib.hid hsl2
        clear hsl2
        have htn0 : tot ≤ n := by omega
        have htn1 : (tot : Int) ≤ (n : Int) := by omega
        have hcl2 : (if cap = tot then some (⟨g, 0, none⟩ : Addr) else some ⟨g, tot * 2, none⟩) = if cap = tot then some ⟨g, 0, none⟩ else some ⟨g, tot * 2, none⟩ := rfl
        by_cases hct : cap = tot
        · subst hct
          go_wp2_with (refine wpList_clear_k rfl (.tmp 110) 89 rfl 45 i0 _ Tryz.underlying89 hi0 hz0 2 rfl one_zero_Row _ _ _ rfl g (cap * 2) (splice (splice cur (i * 2) ys) ((i + m) * 2) D) hg4.out (fun h => by omega) (by rw [HSl2.out]; omega) ?_; intro cur5 w5 hb5 hl5 ht5 ho5)
          go_ret
          refine ⟨g, cap, cur5, rfl, ⟨hb5.out, by rw [hl5, HSl2.out]; exact hcl, Nat.le_refl _, hcm⟩, ?_, .inl rfl, (onl_dn (Only.refl _ _) nq).trans (ho3.trans (Only.trans (b := w3.drew) (Only.refl _ _).drew (ho4.trans ho5 (fun _ _ h => h)) (fun _ _ h => h)) (fun _ _ h => h)) (fun _ _ h => h)⟩
          rw [ht5.out, ← HX.out]
          exact fill_fore (by rw [HYl.out]; omega) (by rw [HDl.out]; omega) (by omega)
        · go_wp2_with (refine wpList_clear_k rfl (.tmp 110) 89 rfl 45 i0 _ Tryz.underlying89 hi0 hz0 2 rfl one_zero_Row (some ⟨g, tot * 2, none⟩) (n - tot) _ rfl g (tot * 2) (splice (splice cur (i * 2) ys) ((i + m) * 2) D) hg4.out (fun h => rfl) (by rw [HSl2.out]; omega) ?_; intro cur5 w5 hb5 hl5 ht5 ho5)
          go_ret
          refine ⟨g, cap, cur5, rfl, ⟨hb5.out, by rw [hl5, HSl2.out]; exact hcl, by omega, hcm⟩, ?_, .inl rfl, (onl_dn (Only.refl _ _) nq).trans (ho3.trans (Only.trans (b := w3.drew) (Only.refl _ _).drew (ho4.trans ho5 (fun _ _ h => h)) (fun _ _ h => h)) (fun _ _ h => h)) (fun _ _ h => h)⟩
          rw [ht5.out, ← HX.out]
          exact fill_fore (by rw [HYl.out]; omega) (by rw [HDl.out]; omega) (by omega)
      · have hf2 : ¬ (i : Int) + (m : Int) ≤ (j : Int) := by omega
        obtain ⟨vb, cs, rfl, hvb, hne, hys, hm⟩ := HV.out.resolve_left (fun h => by omega)
        have hcs : cs.length ≠ 0 := by intro h; have := HYl.out; rw [← hys, List.length_take] at this; omega
        have HVb := Lib.hid hvb
        have hov : ∀ q o1 la ca lb cb, (callFunc 91 #[.slice (some ⟨g, o1, none⟩) la ca, .slice (some ⟨vb, 0, none⟩) lb cb]).run Tryz.prog (w.drewN q) = .ok (.value (.bool false)) (w.drewN q) := fun q o1 la ca lb cb =>
          overlaps_Row (w.drewN q) g vb o1 0 cur cs HG.out hvb (fun h => hne h.symm) hcs la ca lb cb
        clear hvb hys
        go_enter Tryz.func76, Tryz.ntmps76
        go_wp2_with fail
        go_quiet (fail)
        go_wp2_with (simp only [hov])
        go_region_law (refine step_copy_k rfl (.tmp 126) (.tmp 129) 89 89 rfl 45 Tryz.underlying89 2 Tryz.size_Row (some ⟨g, (i + m) * 2, none⟩) (some ⟨g, j * 2, none⟩) (tot - (i + m)) (cap - (i + m)) (n - j) (cap - j) (by simp [Act.eval, Act.put]) (by simp [Act.eval, Act.put]) g ((i + m) * 2) cur 45 HG.out D (by rw [HDl.out]; congr 1; simp only [Nat.min_def]; split <;> omega) (by decide) (fun _ => ⟨rfl, g, j * 2, rfl, fun t v h => (HG.out.cell _).trans (HDat.out t v h)⟩) (by rw [HDl.out]; omega) HD1.out ?_; intro w3 hg3 ho3)
        have ho3' : Only (· = g) w w3 := (onl_dn (Only.refl _ _) nq).trans (Only.trans (b := (w.drewN nq).drew) (Only.refl _ _).drew ho3 (fun _ _ h => h)) (fun _ _ h => h)
        have HRd3 := Lib.hid (HV.out.only ho3' (fun _ _ h => h)).rd
        have hsl : (splice cur ((i + m) * 2) D).length = cur.length := splice_length (by rw [HDl.out]; omega)
        have HSl := Lib.hid hsl
        clear hsl
        go_wp2_with (refine wpList_copy_k rfl (.tmp 133) (.tmp 134) 89 89 rfl 45 Tryz.underlying89 2 Tryz.size_Row (some ⟨g, i * 2, none⟩) (some ⟨vb, 0, none⟩) (tot - i) (cap - i) m c rfl rfl g (i * 2) (splice cur ((i + m) * 2) D) 45 hg3.out ys (by rw [HYl.out]; congr 1; simp only [Nat.min_def]; split <;> omega) (by decide) (fun h0 => by obtain ⟨b1, o1, he, _, hc⟩ := HRd3.out.resolve_left (fun h => by rw [HYl.out, h] at h0; simp at h0); exact ⟨rfl, b1, o1, he, hc⟩) (by rw [HYl.out, HSl.out]; omega) H1.out ?_; intro w4 hg4 ho4)
        go_ret
        refine ⟨g, cap, _, rfl, ⟨hg4.out, ?_, hroom', hcm⟩, ?_, .inl rfl, ho3'.trans ho4 (fun _ _ h => h)⟩
        · rw [splice_length (by rw [HSl.out, HYl.out]; omega), HSl.out]; exact hcl
        · rw [← HX.out]
          exact fill_shift (by rw [HYl.out]; omega) (by rw [HDl.out]; omega) (by omega)
end Go.Proofs.YtadbbknllakpcaaGreat
