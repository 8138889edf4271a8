/- The walks of slices.Insert, Replace and Delete at []api.Row. -/
import Derived.Test.YtadbbknllakpcaaGreatBase
import Derived.Test.YtadbbknllakpcaaGreatSlk
import Derived.Lib.Overlaps
import Derived.Laws.Externs
import Derived.BigRegion
import Derived.BigQuiet
import Derived.Deep.RegionLaw
namespace Go.Proofs.YtadbbknllakpcaaGreat
open Go.RowKit
set_option linter.unusedVariables false

theorem Tryz.info_Row : (Tryz.prog.info? 45).map (fun i => (i.zero, i.size, i.bytes)) = some (some (.agg #[.int .i64 0, .int .i64 0]), 2, 16) := by kernel_rfl
theorem Tryz.size_Row : (Tryz.prog.info? 45).map (·.size) = some 2 := by kernel_rfl
/-- A slice of rows that is a block's head. -/
def SlcRow (w : World) (g n cap : Nat) (cur : List Value) : Prop := Blk w g cur 45 ∧ cur.length = cap * 2 ∧ n ≤ cap ∧ cap ≤ maxLen
/-- What Insert and its like answer: a slice of these cells, in the old block or in a new one. -/
def GotRow (w : World) (g tot : Nat) (xs : List Value) (e : Ending) (w' : World) : Prop :=
  ∃ g' cap' cur', e = .returned (.slice (some ⟨g', 0, none⟩) tot cap') ∧ SlcRow w' g' tot cap' cur' ∧ cur'.take (tot * 2) = xs ∧ (g' = g ∨ w.heap.size ≤ g') ∧ Only (· = g) w w'
theorem shape_of_blk {w : World} {g : Nat} {cur : List Value} {t : TypeId} (h : Blk w g cur t) : w.shape? g = some (t, cur.length) := by
  unfold World.shape?
  rw [h]
  simp
theorem overlaps_Row (w : World) (g vb o1 o2 : Nat) (cur cs : List Value) (hg : Blk w g cur 45) (hv : Blk w vb cs 45) (hne : g ≠ vb) (hl : cs.length ≠ 0) (la ca lb cb : Nat) :
    (callFunc 91 #[.slice (some ⟨g, o1, none⟩) la ca, .slice (some ⟨vb, o2, none⟩) lb cb]).run Tryz.prog w = .ok (.value (.bool false)) w := by
  obtain ⟨i0, hi, hz0, hz1, hz2⟩ := info_parts Tryz.info_Row
  rw [run_callFunc_extern Tryz.func91 (by kernel_rfl) (by kernel_rfl) (by kernel_rfl) (e := Extern.SlicesOverlaps.overlaps #[89, 89] #[4]) (by kernel_rfl),
    Lib.run_overlaps_apart w 89 4 45 Tryz.underlying89 2 (fun w => by simp [sizeOf, typeInfo, hi, hz1]) ⟨g, o1, none⟩ ⟨vb, o2, none⟩ la ca lb cb hne _ _ _ _ (shape_of_blk hg) (shape_of_blk hv) hl (hg.free o1) (hg.free _)]
  rfl

set_option maxHeartbeats 4000000 in
set_option maxRecDepth 8000 in
theorem insert_Row (w : World) (g n cap i vb m c : Nat) (cur cs ys : List Value) (hS : SlcRow w g n cap cur) (hi : i ≤ n) (hm : 0 < m) (hv : Blk w vb cs 45) (hne : vb ≠ g) (hys : cs.take (m * 2) = ys) (hyl : ys.length = m * 2)
    (h1 : ∀ v ∈ ys, v.oneCell' = true) (h1c : ∀ v ∈ cur.take (n * 2), v.oneCell' = true) (hbig : n + m ≤ 1000000) :
    Calls Tryz.prog 90 #[.slice (some ⟨g, 0, none⟩) n cap, .int .i64 i, .slice (some ⟨vb, 0, none⟩) m c] w
      (GotRow w g (n + m) (cur.take (i * 2) ++ ys ++ (cur.take (n * 2)).drop (i * 2))) := by
  obtain ⟨hg, hcl, hnc, hcm⟩ := hS
  obtain ⟨i0, hi0, hz0, hz1, hz2⟩ := info_parts Tryz.info_Row
  have hm0 : ((m : Int) == 0) = false := by rw [beq_eq_false_iff_ne]; omega
  have hcm' : cap ≤ 9223372036854775807 := by unfold maxLen at hcm; omega
  have hcs : cs.length ≠ 0 := by intro h; rw [← hys] at hyl; rw [List.length_take] at hyl; omega
  have hRdV : ∀ w' : World, Blk w' vb cs 45 → RdAt w' (some ⟨vb, 0, none⟩) m ys := fun w' hv => .inr ⟨vb, 0, rfl, hv.lt, fun j u hu => by
    rw [Nat.zero_add, hv.cell j]
    rw [← hys, List.getElem?_take] at hu
    split at hu
    · exact hu
    · cases hu⟩
  have hRd := hRdV w hv
  have HRd := Lib.hid hRd
  have HG := Lib.hid hg
  have HV := Lib.hid hv
  have H1 := Lib.hid h1
  have H1c := Lib.hid h1c
  have HYl := Lib.hid hyl
  obtain ⟨X, hX⟩ : ∃ X, cur.take (i * 2) ++ ys ++ (cur.take (n * 2)).drop (i * 2) = X := ⟨_, rfl⟩
  rw [hX]
  have HX2 := Lib.hid hX
  clear hRd hX
  by_cases hin : i = n
  · subst hin
    have HX := Lib.hid (show (cur.take (i * 2)).drop (i * 2) = [] from List.drop_eq_nil_of_le (by rw [List.length_take]; omega))
    by_cases hroom : i + m ≤ cap
    · clear hg hv h1 h1c hys hyl
      go_enter Tryz.func90, Tryz.ntmps90
      go_wp2_with (at_builtin; refine wpList_app_room rfl (.tmp 23) (.tmp 24) 89 rfl 45 i0 Tryz.underlying89 hi0 2 hz1 g i cap cur HG.out rfl (some ⟨vb, 0, none⟩) m c rfl ys HYl.out HRd.out H1.out hroom (by omega) ?_; intro w' hb ho)
      go_ret
      refine ⟨g, cap, _, rfl, ⟨hb.out, ?_, hroom, hcm⟩, ?_, .inl rfl, ho⟩
      · rw [splice_length (by rw [HYl.out]; omega)]; exact hcl
      · rw [← HX2.out, HX.out, List.append_nil]
        unfold splice
        rw [← List.append_assoc, List.take_left' (by rw [List.length_append, List.length_take, HYl.out]; omega)]
    · clear hg hv h1 h1c hys hyl
      have hroom' : cap < i + m := by omega
      go_enter Tryz.func90, Tryz.ntmps90
      go_wp2_with (at_builtin; refine wpList_app_grow rfl (.tmp 23) (.tmp 24) 89 rfl 45 i0 _ Tryz.underlying89 hi0 hz0 2 16 hz1 hz2 rfl g i cap cur HG.out rfl (some ⟨vb, 0, none⟩) m c rfl ys HYl.out HRd.out hroom' hnc (by omega) (by omega) (by unfold maxLen; omega) ?_; intro cap' cur' w' hb hl1 hl2 hl3 ht ho)
      all_goals
        go_ret
        refine ⟨_, cap', cur', rfl, ⟨hb.out, hl1, hl2, hl3⟩, ?_, .inr (Nat.le_refl _), Only.of_below ho⟩
        rw [← HX2.out, HX.out, List.append_nil]
        exact ht.out
  · have hlt : i < n := by omega
    have hinb : ((i : Int) == (n : Int)) = false := by rw [beq_eq_false_iff_ne]; omega
    have hDl : ((cur.take (n * 2)).drop (i * 2)).length = (n - i) * 2 := by rw [List.length_drop, List.length_take]; omega
    obtain ⟨D, hD⟩ : ∃ D, (cur.take (n * 2)).drop (i * 2) = D := ⟨_, rfl⟩
    rw [hD] at hDl
    have hDat : ∀ j v, D[j]? = some v → cur[i * 2 + j]? = some v := fun j v hj => by
      rw [← hD, List.getElem?_drop, List.getElem?_take] at hj
      split at hj
      · exact hj
      · cases hj
    have hD1 : ∀ v ∈ D, v.oneCell' = true := fun v hv => h1c v (by rw [← hD] at hv; exact List.mem_of_mem_drop hv)
    have HDl := Lib.hid hDl
    have HDat := Lib.hid hDat
    have HD1 := Lib.hid hD1
    rw [hD] at HX2
    have hcin : ¬ cap = i := by omega
    by_cases hroom : n + m ≤ cap
    · have hov := fun o2 la ca lb cb => overlaps_Row w vb g 0 o2 cs cur hv hg hne (by omega) la ca lb cb
      have hcim : ¬ cap = i + m := by omega
      have hw1 : IntKind.i64.wrap ((i : Int) + (m : Int)) = (i : Int) + (m : Int) := IntWalk.i64_in _ (by omega)
      have hb1 : (0 : Int) ≤ (i : Int) + (m : Int) := by omega
      have hb3 : (i : Int) + (m : Int) ≤ (n : Int) + (m : Int) := by omega
      have hb4 : (i : Int) ≤ (n : Int) + (m : Int) := by omega
      have htn : ((i : Int) + (m : Int)).toNat = i + m := by omega
      clear hg hv h1 h1c hys hyl hD hDl hDat hD1
      go_enter Tryz.func90, Tryz.ntmps90
      go_wp2_with (simp only [hov])
      go_region_law (refine step_copy_k rfl (.tmp 73) (.tmp 76) 89 89 rfl 45 Tryz.underlying89 2 Tryz.size_Row (some ⟨g, (i + m) * 2, none⟩) (some ⟨g, i * 2, none⟩) (n + m - (i + m)) (cap - (i + m)) (n + m - i) (cap - i) (by simp [Act.eval, Act.put]) (by simp [Act.eval, Act.put]) g ((i + m) * 2) cur 45 HG.out D (by rw [HDl.out]; congr 1; simp only [Nat.min_def]; split <;> omega) (by decide) (fun _ => ⟨rfl, g, i * 2, rfl, fun j v hj => (HG.out.cell _).trans (HDat.out j v hj)⟩) (by rw [HDl.out]; omega) HD1.out ?_; intro w3 hg3 ho3)
      have HV3 := Lib.hid (show Blk w3 vb cs 45 from Blk.only (w := w.drew) HV.out ho3 (by omega))
      have hRd3 : RdAt w3 (some ⟨vb, 0, none⟩) m ys := hRdV w3 HV3.out
      have HRd3 := Lib.hid hRd3
      have HG3 := hg3
      have hsl : (splice cur ((i + m) * 2) D).length = cur.length := splice_length (by rw [HDl.out]; omega)
      have HSl := Lib.hid hsl
      clear hg3 hRd3 hsl
      go_wp2_with (refine wpList_copy_k rfl (.tmp 80) (.tmp 81) 89 89 rfl 45 Tryz.underlying89 2 Tryz.size_Row (some ⟨g, i * 2, none⟩) (some ⟨vb, 0, none⟩) (n + m - i) (cap - i) m c rfl rfl g (i * 2) (splice cur ((i + m) * 2) D) 45 HG3.out ys (by rw [HYl.out]; congr 1; simp only [Nat.min_def]; split <;> omega) (by decide) (fun _ => ⟨rfl, vb, 0, rfl, fun j v hj => by obtain ⟨b1, o1, he, _, hc⟩ := HRd3.out.resolve_left (by omega); cases he; exact hc j v hj⟩) (by rw [HSl.out, HYl.out]; omega) H1.out ?_; intro w4 hg4 ho4)
      go_ret
      refine ⟨g, cap, _, rfl, ⟨hg4.out, ?_, hroom, hcm⟩, ?_, .inl rfl, Only.trans (a := w) (b := w.drew) (Only.refl _ _).drew (ho3.trans ho4 (fun _ _ h => h)) (fun _ _ h => h)⟩
      · rw [splice_length (by rw [HSl.out, HYl.out]; omega), HSl.out]; exact hcl
      · rw [← HX2.out]
        exact fill_shift (by rw [HYl.out]; omega) (by rw [HDl.out]; omega) (by omega)
    · have hroom' : cap < n + m := by omega
      have hcast : (n : Int) + (m : Int) - (i : Int) = ((n + m - i : Nat) : Int) := by omega
      have hgw := hg.lt
      have hvw := hv.lt
      clear hg hv h1 h1c hys hyl hD hDl hDat hD1
      go_enter Tryz.func90, Tryz.ntmps90
      have hw1 : IntKind.i64.wrap ((i : Int) + (m : Int)) = (i : Int) + (m : Int) := IntWalk.i64_in _ (by omega)
      have hb1 : (0 : Int) ≤ (i : Int) + (m : Int) := by omega
      have hb3 : (i : Int) + (m : Int) ≤ (n : Int) + (m : Int) := by omega
      have hb4 : (i : Int) ≤ (n : Int) := by omega
      have htn : ((i : Int) + (m : Int)).toNat = i + m := by omega
      have hgG : ¬ g = w.heap.size := by omega
      have hvG : ¬ vb = w.heap.size := by omega
      go_wp2_with (first | (at_builtin; refine wpList_app_zeros rfl (.tmp 34) (.tmp 39) 89 3 rfl 45 i0 _ .i64 Tryz.underlying89 Tryz.underlying3 hi0 hz0 2 16 hz1 hz2 rfl (by decide) g i cap cur HG.out rfl .i64 _ (n + m - i) rfl rfl (n + m) (by omega) hroom' (by omega) (by omega) (by omega) (by unfold maxLen; omega) ?_; intro cap' cur' w2 hb2 hl1 hl2 hl3 ht ho2; have hcin' : ¬ cap' = i := (by omega); have hcim' : ¬ cap' = i + m := (by omega); have HV2 := Lib.hid (Blk.below HV.out ho2); have HG2 := Lib.hid (Blk.below HG.out ho2); have HRd2 := Lib.hid (hRdV w2 HV2.out)) | (refine wpList_copy_k rfl (.tmp 43) (.tmp 44) 89 89 rfl 45 Tryz.underlying89 2 Tryz.size_Row (some ⟨w.heap.size, i * 2, none⟩) (some ⟨vb, 0, none⟩) (n + m - i) (cap' - i) m c rfl rfl w.heap.size (i * 2) cur' 45 hb2.out ys (by rw [HYl.out]; congr 1; simp only [Nat.min_def]; split <;> omega) (by decide) (fun _ => ⟨rfl, vb, 0, rfl, fun j v hj => by obtain ⟨b1, o1, he, _, hc⟩ := HRd2.out.resolve_left (by omega); cases he; exact hc j v hj⟩) (by rw [HYl.out]; omega) H1.out ?_; intro w3 hg3 ho3; have HG3 := Lib.hid (Blk.only HG2.out ho3 (by omega))))
      have hsl : (splice cur' (i * 2) ys).length = cur'.length := splice_length (by rw [HYl.out]; omega)
      have HSl := Lib.hid hsl
      clear hsl
      go_region_law (refine step_copy_k rfl (.tmp 50) (.tmp 53) 89 89 rfl 45 Tryz.underlying89 2 Tryz.size_Row (some ⟨w.heap.size, (i + m) * 2, none⟩) (some ⟨g, i * 2, none⟩) (n + m - (i + m)) (cap' - (i + m)) (n - i) (cap - i) (by simp [Act.eval, Act.put]) (by simp [Act.eval, Act.put]) w.heap.size ((i + m) * 2) (splice cur' (i * 2) ys) 45 hg3.out D (by rw [HDl.out]; congr 1; simp only [Nat.min_def]; split <;> omega) (by decide) (fun _ => ⟨rfl, g, i * 2, rfl, fun j v hj => (HG3.out.cell _).trans (HDat.out j v hj)⟩) (by rw [HDl.out, HSl.out]; omega) HD1.out ?_; intro w4 hg4 ho4)
      go_wp2
      go_ret
      refine ⟨w.heap.size, cap', _, rfl, ⟨hg4.out, ?_, hl2, hl3⟩, ?_, .inr (Nat.le_refl _), (Only.of_below ho2).trans (Only.trans (b := w3.drew) ho3.drew ho4 (fun _ _ h => h)) (fun i hi h => by omega)⟩
      · rw [splice_length (by rw [HDl.out, HSl.out]; omega), HSl.out]; exact hl1
      · rw [← HX2.out, fill_fore (by rw [HYl.out]; omega) (by rw [HDl.out]; omega) (by omega), ht.out]
end Go.Proofs.YtadbbknllakpcaaGreat
