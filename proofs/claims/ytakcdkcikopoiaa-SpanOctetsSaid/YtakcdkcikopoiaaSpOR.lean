/- The walk of the document's Get of a span. -/
import Derived.Test.YtakcdkcikopoiaaSpOG
import Derived.Test.YtakcdkcikopoiaaSpnD
import Derived.Lib.ConvBytes
import Derived.Test.YtakcdkcikopoiaaDag
namespace Go.Proofs.Ytakcdkcikopoiaa
open Go.RowKit
set_option linter.unusedVariables false

theorem run_bytes (w : World) (zs : List Int) (hz : Bytes zs) (hl : zs.length ≤ 100000) : ∃ (cap : Nat) (w' : World), (convert 9 51 (.string (strOfNums zs))).run Try.prog w = .ok (.slice (some ⟨w.heap.size, 0, none⟩) zs.length cap) w' ∧ Below w.heap.size w w' ∧ w.heap.size < w'.heap.size ∧ zs.length ≤ cap ∧ cap ≤ 9223372036854775807 ∧ ∀ j, j < zs.length → w'.cell? ⟨w.heap.size, j, none⟩ = some (.int .u8 (zs[j]?.getD 0)) := by
  have h := Lib.run_convert_string_bytes (P := Try.prog) w 9 51 5 (strOfNums zs) Try.underlying9 Try.underlying51 Try.underlying5
  have hs := strOfNums_size zs
  refine ⟨grownCap w (strOfNums zs).size 0 5, Lib.bytesWorld w 5 (strOfNums zs), by rw [← hs]; exact h, ⟨rfl, rfl, rfl, ?_, fun k hk => Lib.bytesWorld_at_old w _ _ k hk⟩, ?_, ?_, ?_, fun j hj => ?_⟩
  · rw [Lib.bytesWorld_size]; omega
  · rw [Lib.bytesWorld_size]; omega
  · rw [← hs]; exact grownCap_ge w _ 0 _
  · have := grownCap_le_maxLen w (strOfNums zs).size 0 5 (by rw [hs]; unfold maxLen; omega)
    unfold maxLen at this
    exact this
  · rw [Lib.bytesWorld_cell w _ _ j (by rw [hs]; exact hj), strOfNums_data]
    have hb := hz zs[j] (List.getElem_mem hj)
    simp [List.getD, hj]
    omega
/-- A region by what it leaves: the slots by a parameter. -/
theorem region_via {σ : Type} {P : Program} {ops : Array Oper} {Q : Exit → Act → World → Prop} {id : Nat} {a0 : Act} {w : World} (vs : σ → List (Tmp × Value)) (J : σ → World → Prop)
    (hrest : ∀ s w', J s w' → Q .normal (putAll a0 (vs s)) w') (hreg : (∀ s w', J s w' → Q .normal (putAll a0 (vs s)) w') → (Code.region id ops true).wp P Q a0 w) : (Code.region id ops true).wp P Q a0 w := hreg hrest
theorem frame_eq {Q : Exit → Act → World → Prop} {a b : Act} {w : World} (h : Q .normal b w) (e : a = b) : Q .normal a w := by rw [e]; exact h
set_option maxRecDepth 8000 in
set_option maxHeartbeats 16000000 in
theorem rget15_calls (w : World) (zs : List Int) (hz : Bytes zs) (hl : zs.length ≤ 100000) :
    Calls Try.prog 23 #[.string (strOfNums zs)] w (GetR zs w) := by
  obtain ⟨i0, hi, hz0, hz1, hz2⟩ := info_parts Try.info_w64
  obtain ⟨w1, hw1, hP, hb1⟩ := one_span w 0 0 0 none 0 0
  have HP1 := Lib.hid hP
  have HB1 := Lib.hid hb1
  obtain ⟨y0, y1, y2, y3⟩ := hP.cells
  obtain ⟨z0, z1, z2, z3⟩ := hP.free
  have hP1 := hP.lt
  obtain ⟨n, hn⟩ : ∃ n, zs.length = n := ⟨_, rfl⟩
  have hsz := strOfNums_size zs
  rw [hn] at hsz hl
  have HZ := Lib.hid hz
  have HNn := Lib.hid hn
  clear hP hb1 hz hn
  by_cases hn5 : n < 5
  · have HNo := Lib.hid (show ¬ okG zs from fun h => by have := h.1; have := HNn.out; omega)
    go_enter Try.func23, Try.ntmps23
    go_wp2
    refine bodyPost_ret (v := .tuple #[.agg #[.int .i64 0, .int .i64 0, .int .i64 0, .slice none 0 0], .int .i64 0]) (by simp [results, Try.results23, go_sem, y0, y1, y2, y3]) rfl ?_
    exact get_no HNo.out rfl (below4 HB1.out (Nat.le_refl _) _ _ _ _)
  · obtain ⟨cap, w2, hcv, hb2, hX, hcap, hcm, hcell⟩ := run_bytes w1 zs HZ.out (by rw [HNn.out]; omega)
    rw [HNn.out] at hcv hcap hcell
    have HCv := Lib.hid hcv
    have HB2 := Lib.hid (bel_next HB1.out hb2 (Nat.le_refl _))
    have HP2 := Lib.hid (HP1.out.below hb2)
    have HCl := Lib.hid hcell
    have HX := Lib.hid hX
    clear hb2 y0 y1 y2 y3 z0 z1 z2 z3 hcell hX
    go_enter Try.func23, Try.ntmps23
    go_wp2_with (simp only [hcv])
    clear hcv hw1
    obtain ⟨z, hz⟩ : ∃ z, zs[0]?.getD 0 = z := ⟨_, rfl⟩
    have c00 : w2.cell? ⟨w1.heap.size, 0, none⟩ = some (.int .u8 z) := by rw [← hz]; exact HCl.out 0 (by omega)
    have hzr : 0 ≤ z ∧ z ≤ 255 := by rw [← hz]; exact oc.byte_at zs HZ.out 0
    obtain ⟨hzr0, hzr1⟩ := hzr
    have HZc := Lib.hid (show z = clO zs by
      rw [← hz]
      unfold clO
      cases hzs : zs with
      | nil => have := HNn.out; rw [hzs] at this; simp at this; omega
      | cons a l => simp [oc.oct])
    have hoct : ∀ (k m : Nat) (w' : World), k + m ≤ n → Below w2.heap.size w2 w' → oc.Octs w' (some ⟨w1.heap.size, k, none⟩) m (cap - k) ((zs.drop k).take m) := fun k m w' hkm hb => by
      refine ⟨by rw [List.length_take, List.length_drop, HNn.out]; omega, (HZ.out.drop k).take m, by omega, by unfold maxLen; omega, .inr ⟨w1.heap.size, k, rfl, fun i hi => ?_⟩⟩
      refine ((hb.cell (p := ⟨w1.heap.size, k + i, none⟩) HX.out).trans (HCl.out (k + i) (by omega))).trans ?_
      simp [hi]
    have HOct := Lib.hid hoct
    have HO6 : Hid (∀ w', Below w2.heap.size w2 w' → oc.Octs w' (some ⟨w1.heap.size, 1, none⟩) 2 (cap - 1) ((zs.drop 1).take 2)) := Lib.hid fun w' hb => hoct 1 2 w' (by omega) hb
    have HO9 : Hid (∀ w', Below w2.heap.size w2 w' → oc.Octs w' (some ⟨w1.heap.size, 3, none⟩) 2 (cap - 3) ((zs.drop 3).take 2)) := Lib.hid fun w' hb => hoct 3 2 w' (by omega) hb
    have HPg : Hid (wrap64 (oc.oct (((zs.drop 1).take 2).take 8)) = pgO zs) := Lib.hid (by
      rw [List.take_take]
      have := pgO_rng HZ.out
      show wrap64 (pgO zs) = pgO zs
      unfold wrap64; omega)
    have HPs : Hid (wrap64 (oc.oct (((zs.drop 3).take 2).take 8)) = psO zs) := Lib.hid (by
      rw [List.take_take]
      have := psO_rng HZ.out
      show wrap64 (psO zs) = psO zs
      unfold wrap64; omega)
    have HBc : Hid (Below w2.heap.size w2 w2.drew) := Lib.hid (Below.refl _ _).drew
    have hc1 : ¬ cap = 1 := by omega
    have hc3 : ¬ cap = 3 := by omega
    have hcap5 : 5 ≤ cap := by omega
    have hcap3 : (3 : Int) ≤ (cap : Int) := by omega
    have hcap5i : (5 : Int) ≤ (cap : Int) := by omega
    have hn0 : ¬ n = 0 := by omega
    have hn5b : 5 ≤ n := by omega
    have hzw : IntKind.i64.wrap z = z := IntWalk.i64_in _ (by omega)
    clear hoct hz
    refine region_via (fun S => [(15, .slice (some ⟨w1.heap.size, 0, none⟩) n cap), (16, .pointer (some ⟨w1.heap.size, 0, none⟩)), (17, .int .u8 z), (18, .int .i64 z), (19, .slice (some ⟨w1.heap.size, 0, none⟩) n cap), (20, .slice (some ⟨w1.heap.size, 1, none⟩) 2 (cap - 1)), (21, .int .i64 (pgO zs)), (22, .slice (some ⟨w1.heap.size, 0, none⟩) n cap), (23, .slice (some ⟨w1.heap.size, 3, none⟩) 2 (cap - 3)), (24, .int .i64 (psO zs)), (25, .agg #[.int .i64 (pgO zs), .int .i64 (psO zs), .int .i64 z, .slice none 0 0]), (5, .pointer (some ⟨S, 0, none⟩))]) (fun S w' => SpB w' S (pgO zs) (psO zs) z none 0 0 ∧ Below w2.heap.size w2 w' ∧ w2.heap.size ≤ S) ?hrest (fun hrest => ?hreg)
    case hreg =>
      refine wp_region_any (by kernel_rfl) ?_
      try (change wpAny _ _ _ _ _ _ _ (World.drew _))
      refine wpAny_take (i := 0) (v := .slice (some ⟨w1.heap.size, 0, none⟩) n cap) rfl (by kernel_rfl) (by kernel_rfl) (by kernel_rfl) (fun _ _ _ h => h) (Or.inl ⟨by kernel_rfl, by intro w; first | (go_simp; done) | (go_simp; decide)⟩) ?_
      refine wpAny_take (i := 1) (v := .pointer (some ⟨w1.heap.size, 0, none⟩)) rfl (by kernel_rfl) (by kernel_rfl) (by kernel_rfl) (fun _ _ _ h => h) (Or.inl ⟨by kernel_rfl, by intro w; first | (go_simp; done) | (go_simp; decide)⟩) ?_
      refine wpAny_take (i := 4) (v := .slice (some ⟨w1.heap.size, 0, none⟩) n cap) rfl (by kernel_rfl) (by kernel_rfl) (by kernel_rfl) (fun _ _ _ h => h) (Or.inl ⟨by kernel_rfl, by intro w; first | (go_simp; done) | (go_simp; decide)⟩) ?_
      refine wpAny_take (i := 5) (v := .slice (some ⟨w1.heap.size, 1, none⟩) 2 (cap - 1)) rfl (by kernel_rfl) (by kernel_rfl) (by kernel_rfl) (fun _ _ _ h => h) (Or.inl ⟨by kernel_rfl, by intro w; first | (go_simp; done) | (go_simp; decide)⟩) ?_
      refine wpAny_take (i := 7) (v := .slice (some ⟨w1.heap.size, 0, none⟩) n cap) rfl (by kernel_rfl) (by kernel_rfl) (by kernel_rfl) (fun _ _ _ h => h) (Or.inl ⟨by kernel_rfl, by intro w; first | (go_simp; done) | (go_simp; decide)⟩) ?_
      refine wpAny_take (i := 8) (v := .slice (some ⟨w1.heap.size, 3, none⟩) 2 (cap - 3)) rfl (by kernel_rfl) (by kernel_rfl) (by kernel_rfl) (fun _ _ _ h => h) (Or.inl ⟨by kernel_rfl, by intro w; first | (go_simp; done) | (go_simp; decide)⟩) ?_
      refine wpAny_ready (rs := [2, 6, 11]) (by kernel_rfl) (by simp) ?_
      refine AllReady.cons rfl (fun K hK => ?_) (AllReady.cons rfl (fun K hK => ?_) (AllReady.cons rfl (fun K hK => ?_) (AllReady.nil)))
      · have c0 : World.cell? w2.drew ⟨w1.heap.size, 0, none⟩ = some (.int .u8 z) := (HBc.out.cell (p := ⟨w1.heap.size, 0, none⟩) HX.out).trans c00
        go_simp
        refine hK _ _ ?_
        clear hK K c0
        refine wpAny_take (i := 3) (v := .int .i64 z) rfl (by kernel_rfl) (by kernel_rfl) (by kernel_rfl) (fun _ _ _ h => h) (Or.inl ⟨by kernel_rfl, by intro w; first | (go_simp; done) | (go_simp; decide)⟩) ?_
        refine wpAny_ready (rs := [6, 11]) (by kernel_rfl) (by simp) ?_
        refine AllReady.cons rfl (fun K hK => ?_) (AllReady.cons rfl (fun K hK => ?_) (AllReady.nil))
        · go_simp
          go_wp2_with (go_at_call 48; refine (oc.rget_calls _ _ _ _ w2.drew (HO6.out w2.drew HBc.out)).mono ?_; rintro e w6 ⟨rfl, hb⟩; rw [HPg.out]; have HBc := Lib.hid (bel_next HBc.out hb (Nat.le_refl _)); clear hb)
          try clear hK K
          refine wpAny_ready (rs := [9, 11]) (by kernel_rfl) (by simp) ?_
          refine AllReady.cons rfl (fun K hK => ?_) (AllReady.cons rfl (fun K hK => ?_) (AllReady.nil))
          · go_simp
            go_wp2_with (go_at_call 48; refine (oc.rget_calls _ _ _ _ w6 (HO9.out w6 HBc.out)).mono ?_; rintro e w9 ⟨rfl, hb⟩; rw [HPs.out]; have HBc := Lib.hid (bel_next HBc.out hb (Nat.le_refl _)); clear hb)
            try clear hK K
            refine wpAny_take (i := 10) (v := .agg #[.int .i64 (pgO zs), .int .i64 (psO zs), .int .i64 z, .slice none 0 0]) rfl (by kernel_rfl) (by kernel_rfl) (by kernel_rfl) (fun _ _ _ h => h) (Or.inl ⟨by kernel_rfl, by intro w; first | (go_simp; done) | (go_simp; decide)⟩) ?_
            refine wpAny_ready (rs := [11]) (by kernel_rfl) (by simp) ?_
            refine AllReady.cons rfl (fun K hK => ?_) (AllReady.nil)
            · go_simp
              refine hK _ _ ?_
              clear hK K
              have HSc := Lib.hid (SpB.new (w9) 0 0 0 none 0 0)
              have hSl : w2.heap.size ≤ w9.heap.size := HBc.out.size
              have HBc := Lib.hid (HBc.out.alloc (by exact HBc.out.size) (.cells #[.int .i64 0, .int .i64 0, .int .i64 0, .slice none 0 0] 24))
              generalize World.alloc (w9) (.cells #[.int .i64 0, .int .i64 0, .int .i64 0, .slice none 0 0] 24) = wS at *
              obtain ⟨z0, z1, z2, z3⟩ := HSc.out.free
              obtain ⟨y0, y1, y2, y3⟩ := HSc.out.cells
              refine wpAny_ready (rs := [12]) (by kernel_rfl) (by simp) ?_
              refine AllReady.cons rfl (fun K hK => ?_) (AllReady.nil)
              go_simp
              refine hK _ _ ?_
              clear hK K z0 z1 z2 z3 y0 y1 y2 y3
              refine wpAny_done (by kernel_rfl) ?_ _
              refine frame_eq (hrest w9.heap.size _ ⟨set4_span HSc.out _ _ _ _ _ _, below4 HBc.out hSl _ _ _ _, hSl⟩) (by kernel_rfl)
          · go_simp
            refine hK _ _ ?_
            clear hK K
            have HSc := Lib.hid (SpB.new (w6) 0 0 0 none 0 0)
            have hSl : w2.heap.size ≤ w6.heap.size := HBc.out.size
            have HBc := Lib.hid (HBc.out.alloc (by exact HBc.out.size) (.cells #[.int .i64 0, .int .i64 0, .int .i64 0, .slice none 0 0] 24))
            generalize World.alloc (w6) (.cells #[.int .i64 0, .int .i64 0, .int .i64 0, .slice none 0 0] 24) = wS at *
            refine wpAny_ready (rs := [9]) (by kernel_rfl) (by simp) ?_
            refine AllReady.cons rfl (fun K hK => ?_) (AllReady.nil)
            · go_simp
              go_wp2_with (go_at_call 48; refine (oc.rget_calls _ _ _ _ wS (HO9.out wS HBc.out)).mono ?_; rintro e w9 ⟨rfl, hb⟩; rw [HPs.out]; have HBc := Lib.hid (bel_next HBc.out hb (Nat.le_refl _)); have HSc := Lib.hid (HSc.out.below hb); clear hb)
              try clear hK K
              refine wpAny_take (i := 10) (v := .agg #[.int .i64 (pgO zs), .int .i64 (psO zs), .int .i64 z, .slice none 0 0]) rfl (by kernel_rfl) (by kernel_rfl) (by kernel_rfl) (fun _ _ _ h => h) (Or.inl ⟨by kernel_rfl, by intro w; first | (go_simp; done) | (go_simp; decide)⟩) ?_
              obtain ⟨z0, z1, z2, z3⟩ := HSc.out.free
              obtain ⟨y0, y1, y2, y3⟩ := HSc.out.cells
              refine wpAny_ready (rs := [12]) (by kernel_rfl) (by simp) ?_
              refine AllReady.cons rfl (fun K hK => ?_) (AllReady.nil)
              go_simp
              refine hK _ _ ?_
              clear hK K z0 z1 z2 z3 y0 y1 y2 y3
              refine wpAny_done (by kernel_rfl) ?_ _
              refine frame_eq (hrest w6.heap.size _ ⟨set4_span HSc.out _ _ _ _ _ _, below4 HBc.out hSl _ _ _ _, hSl⟩) (by kernel_rfl)
        · go_simp
          refine hK _ _ ?_
          clear hK K
          have HSc := Lib.hid (show SpB (World.drew (World.alloc w2 (.cells #[.int .i64 0, .int .i64 0, .int .i64 0, .slice none 0 0] 24))) w2.heap.size 0 0 0 none 0 0 from SpB.new w2 0 0 0 none 0 0)
          have hSl : w2.heap.size ≤ w2.heap.size := Nat.le_refl _
          have HBc := Lib.hid (show Below w2.heap.size w2 (World.drew (World.alloc w2 (.cells #[.int .i64 0, .int .i64 0, .int .i64 0, .slice none 0 0] 24))) from ((Below.refl _ w2).alloc (Nat.le_refl _) (.cells #[.int .i64 0, .int .i64 0, .int .i64 0, .slice none 0 0] 24)).drew)
          generalize (World.drew (World.alloc w2 (.cells #[.int .i64 0, .int .i64 0, .int .i64 0, .slice none 0 0] 24))) = wS at *
          refine wpAny_ready (rs := [6]) (by kernel_rfl) (by simp) ?_
          refine AllReady.cons rfl (fun K hK => ?_) (AllReady.nil)
          · go_simp
            go_wp2_with (go_at_call 48; refine (oc.rget_calls _ _ _ _ wS (HO6.out wS HBc.out)).mono ?_; rintro e w6 ⟨rfl, hb⟩; rw [HPg.out]; have HBc := Lib.hid (bel_next HBc.out hb (Nat.le_refl _)); have HSc := Lib.hid (HSc.out.below hb); clear hb)
            try clear hK K
            refine wpAny_ready (rs := [9]) (by kernel_rfl) (by simp) ?_
            refine AllReady.cons rfl (fun K hK => ?_) (AllReady.nil)
            · go_simp
              go_wp2_with (go_at_call 48; refine (oc.rget_calls _ _ _ _ w6 (HO9.out w6 HBc.out)).mono ?_; rintro e w9 ⟨rfl, hb⟩; rw [HPs.out]; have HBc := Lib.hid (bel_next HBc.out hb (Nat.le_refl _)); have HSc := Lib.hid (HSc.out.below hb); clear hb)
              try clear hK K
              refine wpAny_take (i := 10) (v := .agg #[.int .i64 (pgO zs), .int .i64 (psO zs), .int .i64 z, .slice none 0 0]) rfl (by kernel_rfl) (by kernel_rfl) (by kernel_rfl) (fun _ _ _ h => h) (Or.inl ⟨by kernel_rfl, by intro w; first | (go_simp; done) | (go_simp; decide)⟩) ?_
              obtain ⟨z0, z1, z2, z3⟩ := HSc.out.free
              obtain ⟨y0, y1, y2, y3⟩ := HSc.out.cells
              refine wpAny_ready (rs := [12]) (by kernel_rfl) (by simp) ?_
              refine AllReady.cons rfl (fun K hK => ?_) (AllReady.nil)
              go_simp
              refine hK _ _ ?_
              clear hK K z0 z1 z2 z3 y0 y1 y2 y3
              refine wpAny_done (by kernel_rfl) ?_ _
              refine frame_eq (hrest w2.heap.size _ ⟨set4_span HSc.out _ _ _ _ _ _, below4 HBc.out hSl _ _ _ _, hSl⟩) (by kernel_rfl)
      · go_simp
        go_wp2_with (go_at_call 48; refine (oc.rget_calls _ _ _ _ w2.drew (HO6.out w2.drew HBc.out)).mono ?_; rintro e w6 ⟨rfl, hb⟩; rw [HPg.out]; have HBc := Lib.hid (bel_next HBc.out hb (Nat.le_refl _)); clear hb)
        try clear hK K
        refine wpAny_ready (rs := [2, 9, 11]) (by kernel_rfl) (by simp) ?_
        refine AllReady.cons rfl (fun K hK => ?_) (AllReady.cons rfl (fun K hK => ?_) (AllReady.cons rfl (fun K hK => ?_) (AllReady.nil)))
        · have c0 : World.cell? w6 ⟨w1.heap.size, 0, none⟩ = some (.int .u8 z) := (HBc.out.cell (p := ⟨w1.heap.size, 0, none⟩) HX.out).trans c00
          go_simp
          refine hK _ _ ?_
          clear hK K c0
          refine wpAny_take (i := 3) (v := .int .i64 z) rfl (by kernel_rfl) (by kernel_rfl) (by kernel_rfl) (fun _ _ _ h => h) (Or.inl ⟨by kernel_rfl, by intro w; first | (go_simp; done) | (go_simp; decide)⟩) ?_
          refine wpAny_ready (rs := [9, 11]) (by kernel_rfl) (by simp) ?_
          refine AllReady.cons rfl (fun K hK => ?_) (AllReady.cons rfl (fun K hK => ?_) (AllReady.nil))
          · go_simp
            go_wp2_with (go_at_call 48; refine (oc.rget_calls _ _ _ _ w6 (HO9.out w6 HBc.out)).mono ?_; rintro e w9 ⟨rfl, hb⟩; rw [HPs.out]; have HBc := Lib.hid (bel_next HBc.out hb (Nat.le_refl _)); clear hb)
            try clear hK K
            refine wpAny_take (i := 10) (v := .agg #[.int .i64 (pgO zs), .int .i64 (psO zs), .int .i64 z, .slice none 0 0]) rfl (by kernel_rfl) (by kernel_rfl) (by kernel_rfl) (fun _ _ _ h => h) (Or.inl ⟨by kernel_rfl, by intro w; first | (go_simp; done) | (go_simp; decide)⟩) ?_
            refine wpAny_ready (rs := [11]) (by kernel_rfl) (by simp) ?_
            refine AllReady.cons rfl (fun K hK => ?_) (AllReady.nil)
            · go_simp
              refine hK _ _ ?_
              clear hK K
              have HSc := Lib.hid (SpB.new (w9) 0 0 0 none 0 0)
              have hSl : w2.heap.size ≤ w9.heap.size := HBc.out.size
              have HBc := Lib.hid (HBc.out.alloc (by exact HBc.out.size) (.cells #[.int .i64 0, .int .i64 0, .int .i64 0, .slice none 0 0] 24))
              generalize World.alloc (w9) (.cells #[.int .i64 0, .int .i64 0, .int .i64 0, .slice none 0 0] 24) = wS at *
              obtain ⟨z0, z1, z2, z3⟩ := HSc.out.free
              obtain ⟨y0, y1, y2, y3⟩ := HSc.out.cells
              refine wpAny_ready (rs := [12]) (by kernel_rfl) (by simp) ?_
              refine AllReady.cons rfl (fun K hK => ?_) (AllReady.nil)
              go_simp
              refine hK _ _ ?_
              clear hK K z0 z1 z2 z3 y0 y1 y2 y3
              refine wpAny_done (by kernel_rfl) ?_ _
              refine frame_eq (hrest w9.heap.size _ ⟨set4_span HSc.out _ _ _ _ _ _, below4 HBc.out hSl _ _ _ _, hSl⟩) (by kernel_rfl)
          · go_simp
            refine hK _ _ ?_
            clear hK K
            have HSc := Lib.hid (SpB.new (w6) 0 0 0 none 0 0)
            have hSl : w2.heap.size ≤ w6.heap.size := HBc.out.size
            have HBc := Lib.hid (HBc.out.alloc (by exact HBc.out.size) (.cells #[.int .i64 0, .int .i64 0, .int .i64 0, .slice none 0 0] 24))
            generalize World.alloc (w6) (.cells #[.int .i64 0, .int .i64 0, .int .i64 0, .slice none 0 0] 24) = wS at *
            refine wpAny_ready (rs := [9]) (by kernel_rfl) (by simp) ?_
            refine AllReady.cons rfl (fun K hK => ?_) (AllReady.nil)
            · go_simp
              go_wp2_with (go_at_call 48; refine (oc.rget_calls _ _ _ _ wS (HO9.out wS HBc.out)).mono ?_; rintro e w9 ⟨rfl, hb⟩; rw [HPs.out]; have HBc := Lib.hid (bel_next HBc.out hb (Nat.le_refl _)); have HSc := Lib.hid (HSc.out.below hb); clear hb)
              try clear hK K
              refine wpAny_take (i := 10) (v := .agg #[.int .i64 (pgO zs), .int .i64 (psO zs), .int .i64 z, .slice none 0 0]) rfl (by kernel_rfl) (by kernel_rfl) (by kernel_rfl) (fun _ _ _ h => h) (Or.inl ⟨by kernel_rfl, by intro w; first | (go_simp; done) | (go_simp; decide)⟩) ?_
              obtain ⟨z0, z1, z2, z3⟩ := HSc.out.free
              obtain ⟨y0, y1, y2, y3⟩ := HSc.out.cells
              refine wpAny_ready (rs := [12]) (by kernel_rfl) (by simp) ?_
              refine AllReady.cons rfl (fun K hK => ?_) (AllReady.nil)
              go_simp
              refine hK _ _ ?_
              clear hK K z0 z1 z2 z3 y0 y1 y2 y3
              refine wpAny_done (by kernel_rfl) ?_ _
              refine frame_eq (hrest w6.heap.size _ ⟨set4_span HSc.out _ _ _ _ _ _, below4 HBc.out hSl _ _ _ _, hSl⟩) (by kernel_rfl)
        · go_simp
          go_wp2_with (go_at_call 48; refine (oc.rget_calls _ _ _ _ w6 (HO9.out w6 HBc.out)).mono ?_; rintro e w9 ⟨rfl, hb⟩; rw [HPs.out]; have HBc := Lib.hid (bel_next HBc.out hb (Nat.le_refl _)); clear hb)
          try clear hK K
          refine wpAny_ready (rs := [2, 11]) (by kernel_rfl) (by simp) ?_
          refine AllReady.cons rfl (fun K hK => ?_) (AllReady.cons rfl (fun K hK => ?_) (AllReady.nil))
          · have c0 : World.cell? w9 ⟨w1.heap.size, 0, none⟩ = some (.int .u8 z) := (HBc.out.cell (p := ⟨w1.heap.size, 0, none⟩) HX.out).trans c00
            go_simp
            refine hK _ _ ?_
            clear hK K c0
            refine wpAny_take (i := 3) (v := .int .i64 z) rfl (by kernel_rfl) (by kernel_rfl) (by kernel_rfl) (fun _ _ _ h => h) (Or.inl ⟨by kernel_rfl, by intro w; first | (go_simp; done) | (go_simp; decide)⟩) ?_
            refine wpAny_take (i := 10) (v := .agg #[.int .i64 (pgO zs), .int .i64 (psO zs), .int .i64 z, .slice none 0 0]) rfl (by kernel_rfl) (by kernel_rfl) (by kernel_rfl) (fun _ _ _ h => h) (Or.inl ⟨by kernel_rfl, by intro w; first | (go_simp; done) | (go_simp; decide)⟩) ?_
            refine wpAny_ready (rs := [11]) (by kernel_rfl) (by simp) ?_
            refine AllReady.cons rfl (fun K hK => ?_) (AllReady.nil)
            · go_simp
              refine hK _ _ ?_
              clear hK K
              have HSc := Lib.hid (SpB.new (w9) 0 0 0 none 0 0)
              have hSl : w2.heap.size ≤ w9.heap.size := HBc.out.size
              have HBc := Lib.hid (HBc.out.alloc (by exact HBc.out.size) (.cells #[.int .i64 0, .int .i64 0, .int .i64 0, .slice none 0 0] 24))
              generalize World.alloc (w9) (.cells #[.int .i64 0, .int .i64 0, .int .i64 0, .slice none 0 0] 24) = wS at *
              obtain ⟨z0, z1, z2, z3⟩ := HSc.out.free
              obtain ⟨y0, y1, y2, y3⟩ := HSc.out.cells
              refine wpAny_ready (rs := [12]) (by kernel_rfl) (by simp) ?_
              refine AllReady.cons rfl (fun K hK => ?_) (AllReady.nil)
              go_simp
              refine hK _ _ ?_
              clear hK K z0 z1 z2 z3 y0 y1 y2 y3
              refine wpAny_done (by kernel_rfl) ?_ _
              refine frame_eq (hrest w9.heap.size _ ⟨set4_span HSc.out _ _ _ _ _ _, below4 HBc.out hSl _ _ _ _, hSl⟩) (by kernel_rfl)
          · go_simp
            refine hK _ _ ?_
            clear hK K
            have HSc := Lib.hid (SpB.new (w9) 0 0 0 none 0 0)
            have hSl : w2.heap.size ≤ w9.heap.size := HBc.out.size
            have HBc := Lib.hid (HBc.out.alloc (by exact HBc.out.size) (.cells #[.int .i64 0, .int .i64 0, .int .i64 0, .slice none 0 0] 24))
            generalize World.alloc (w9) (.cells #[.int .i64 0, .int .i64 0, .int .i64 0, .slice none 0 0] 24) = wS at *
            refine wpAny_ready (rs := [2]) (by kernel_rfl) (by simp) ?_
            refine AllReady.cons rfl (fun K hK => ?_) (AllReady.nil)
            · have c0 : World.cell? wS ⟨w1.heap.size, 0, none⟩ = some (.int .u8 z) := (HBc.out.cell (p := ⟨w1.heap.size, 0, none⟩) HX.out).trans c00
              go_simp
              refine hK _ _ ?_
              clear hK K c0
              refine wpAny_take (i := 3) (v := .int .i64 z) rfl (by kernel_rfl) (by kernel_rfl) (by kernel_rfl) (fun _ _ _ h => h) (Or.inl ⟨by kernel_rfl, by intro w; first | (go_simp; done) | (go_simp; decide)⟩) ?_
              refine wpAny_take (i := 10) (v := .agg #[.int .i64 (pgO zs), .int .i64 (psO zs), .int .i64 z, .slice none 0 0]) rfl (by kernel_rfl) (by kernel_rfl) (by kernel_rfl) (fun _ _ _ h => h) (Or.inl ⟨by kernel_rfl, by intro w; first | (go_simp; done) | (go_simp; decide)⟩) ?_
              obtain ⟨z0, z1, z2, z3⟩ := HSc.out.free
              obtain ⟨y0, y1, y2, y3⟩ := HSc.out.cells
              refine wpAny_ready (rs := [12]) (by kernel_rfl) (by simp) ?_
              refine AllReady.cons rfl (fun K hK => ?_) (AllReady.nil)
              go_simp
              refine hK _ _ ?_
              clear hK K z0 z1 z2 z3 y0 y1 y2 y3
              refine wpAny_done (by kernel_rfl) ?_ _
              refine frame_eq (hrest w9.heap.size _ ⟨set4_span HSc.out _ _ _ _ _ _, below4 HBc.out hSl _ _ _ _, hSl⟩) (by kernel_rfl)
        · go_simp
          refine hK _ _ ?_
          clear hK K
          have HSc := Lib.hid (SpB.new (w6) 0 0 0 none 0 0)
          have hSl : w2.heap.size ≤ w6.heap.size := HBc.out.size
          have HBc := Lib.hid (HBc.out.alloc (by exact HBc.out.size) (.cells #[.int .i64 0, .int .i64 0, .int .i64 0, .slice none 0 0] 24))
          generalize World.alloc (w6) (.cells #[.int .i64 0, .int .i64 0, .int .i64 0, .slice none 0 0] 24) = wS at *
          refine wpAny_ready (rs := [2, 9]) (by kernel_rfl) (by simp) ?_
          refine AllReady.cons rfl (fun K hK => ?_) (AllReady.cons rfl (fun K hK => ?_) (AllReady.nil))
          · have c0 : World.cell? wS ⟨w1.heap.size, 0, none⟩ = some (.int .u8 z) := (HBc.out.cell (p := ⟨w1.heap.size, 0, none⟩) HX.out).trans c00
            go_simp
            refine hK _ _ ?_
            clear hK K c0
            refine wpAny_take (i := 3) (v := .int .i64 z) rfl (by kernel_rfl) (by kernel_rfl) (by kernel_rfl) (fun _ _ _ h => h) (Or.inl ⟨by kernel_rfl, by intro w; first | (go_simp; done) | (go_simp; decide)⟩) ?_
            refine wpAny_ready (rs := [9]) (by kernel_rfl) (by simp) ?_
            refine AllReady.cons rfl (fun K hK => ?_) (AllReady.nil)
            · go_simp
              go_wp2_with (go_at_call 48; refine (oc.rget_calls _ _ _ _ wS (HO9.out wS HBc.out)).mono ?_; rintro e w9 ⟨rfl, hb⟩; rw [HPs.out]; have HBc := Lib.hid (bel_next HBc.out hb (Nat.le_refl _)); have HSc := Lib.hid (HSc.out.below hb); clear hb)
              try clear hK K
              refine wpAny_take (i := 10) (v := .agg #[.int .i64 (pgO zs), .int .i64 (psO zs), .int .i64 z, .slice none 0 0]) rfl (by kernel_rfl) (by kernel_rfl) (by kernel_rfl) (fun _ _ _ h => h) (Or.inl ⟨by kernel_rfl, by intro w; first | (go_simp; done) | (go_simp; decide)⟩) ?_
              obtain ⟨z0, z1, z2, z3⟩ := HSc.out.free
              obtain ⟨y0, y1, y2, y3⟩ := HSc.out.cells
              refine wpAny_ready (rs := [12]) (by kernel_rfl) (by simp) ?_
              refine AllReady.cons rfl (fun K hK => ?_) (AllReady.nil)
              go_simp
              refine hK _ _ ?_
              clear hK K z0 z1 z2 z3 y0 y1 y2 y3
              refine wpAny_done (by kernel_rfl) ?_ _
              refine frame_eq (hrest w6.heap.size _ ⟨set4_span HSc.out _ _ _ _ _ _, below4 HBc.out hSl _ _ _ _, hSl⟩) (by kernel_rfl)
          · go_simp
            go_wp2_with (go_at_call 48; refine (oc.rget_calls _ _ _ _ wS (HO9.out wS HBc.out)).mono ?_; rintro e w9 ⟨rfl, hb⟩; rw [HPs.out]; have HBc := Lib.hid (bel_next HBc.out hb (Nat.le_refl _)); have HSc := Lib.hid (HSc.out.below hb); clear hb)
            try clear hK K
            refine wpAny_ready (rs := [2]) (by kernel_rfl) (by simp) ?_
            refine AllReady.cons rfl (fun K hK => ?_) (AllReady.nil)
            · have c0 : World.cell? w9 ⟨w1.heap.size, 0, none⟩ = some (.int .u8 z) := (HBc.out.cell (p := ⟨w1.heap.size, 0, none⟩) HX.out).trans c00
              go_simp
              refine hK _ _ ?_
              clear hK K c0
              refine wpAny_take (i := 3) (v := .int .i64 z) rfl (by kernel_rfl) (by kernel_rfl) (by kernel_rfl) (fun _ _ _ h => h) (Or.inl ⟨by kernel_rfl, by intro w; first | (go_simp; done) | (go_simp; decide)⟩) ?_
              refine wpAny_take (i := 10) (v := .agg #[.int .i64 (pgO zs), .int .i64 (psO zs), .int .i64 z, .slice none 0 0]) rfl (by kernel_rfl) (by kernel_rfl) (by kernel_rfl) (fun _ _ _ h => h) (Or.inl ⟨by kernel_rfl, by intro w; first | (go_simp; done) | (go_simp; decide)⟩) ?_
              obtain ⟨z0, z1, z2, z3⟩ := HSc.out.free
              obtain ⟨y0, y1, y2, y3⟩ := HSc.out.cells
              refine wpAny_ready (rs := [12]) (by kernel_rfl) (by simp) ?_
              refine AllReady.cons rfl (fun K hK => ?_) (AllReady.nil)
              go_simp
              refine hK _ _ ?_
              clear hK K z0 z1 z2 z3 y0 y1 y2 y3
              refine wpAny_done (by kernel_rfl) ?_ _
              refine frame_eq (hrest w6.heap.size _ ⟨set4_span HSc.out _ _ _ _ _ _, below4 HBc.out hSl _ _ _ _, hSl⟩) (by kernel_rfl)
      · go_simp
        refine hK _ _ ?_
        clear hK K
        have HSc := Lib.hid (show SpB (World.drew (World.alloc w2 (.cells #[.int .i64 0, .int .i64 0, .int .i64 0, .slice none 0 0] 24))) w2.heap.size 0 0 0 none 0 0 from SpB.new w2 0 0 0 none 0 0)
        have hSl : w2.heap.size ≤ w2.heap.size := Nat.le_refl _
        have HBc := Lib.hid (show Below w2.heap.size w2 (World.drew (World.alloc w2 (.cells #[.int .i64 0, .int .i64 0, .int .i64 0, .slice none 0 0] 24))) from ((Below.refl _ w2).alloc (Nat.le_refl _) (.cells #[.int .i64 0, .int .i64 0, .int .i64 0, .slice none 0 0] 24)).drew)
        generalize (World.drew (World.alloc w2 (.cells #[.int .i64 0, .int .i64 0, .int .i64 0, .slice none 0 0] 24))) = wS at *
        refine wpAny_ready (rs := [2, 6]) (by kernel_rfl) (by simp) ?_
        refine AllReady.cons rfl (fun K hK => ?_) (AllReady.cons rfl (fun K hK => ?_) (AllReady.nil))
        · have c0 : World.cell? wS ⟨w1.heap.size, 0, none⟩ = some (.int .u8 z) := (HBc.out.cell (p := ⟨w1.heap.size, 0, none⟩) HX.out).trans c00
          go_simp
          refine hK _ _ ?_
          clear hK K c0
          refine wpAny_take (i := 3) (v := .int .i64 z) rfl (by kernel_rfl) (by kernel_rfl) (by kernel_rfl) (fun _ _ _ h => h) (Or.inl ⟨by kernel_rfl, by intro w; first | (go_simp; done) | (go_simp; decide)⟩) ?_
          refine wpAny_ready (rs := [6]) (by kernel_rfl) (by simp) ?_
          refine AllReady.cons rfl (fun K hK => ?_) (AllReady.nil)
          · go_simp
            go_wp2_with (go_at_call 48; refine (oc.rget_calls _ _ _ _ wS (HO6.out wS HBc.out)).mono ?_; rintro e w6 ⟨rfl, hb⟩; rw [HPg.out]; have HBc := Lib.hid (bel_next HBc.out hb (Nat.le_refl _)); have HSc := Lib.hid (HSc.out.below hb); clear hb)
            try clear hK K
            refine wpAny_ready (rs := [9]) (by kernel_rfl) (by simp) ?_
            refine AllReady.cons rfl (fun K hK => ?_) (AllReady.nil)
            · go_simp
              go_wp2_with (go_at_call 48; refine (oc.rget_calls _ _ _ _ w6 (HO9.out w6 HBc.out)).mono ?_; rintro e w9 ⟨rfl, hb⟩; rw [HPs.out]; have HBc := Lib.hid (bel_next HBc.out hb (Nat.le_refl _)); have HSc := Lib.hid (HSc.out.below hb); clear hb)
              try clear hK K
              refine wpAny_take (i := 10) (v := .agg #[.int .i64 (pgO zs), .int .i64 (psO zs), .int .i64 z, .slice none 0 0]) rfl (by kernel_rfl) (by kernel_rfl) (by kernel_rfl) (fun _ _ _ h => h) (Or.inl ⟨by kernel_rfl, by intro w; first | (go_simp; done) | (go_simp; decide)⟩) ?_
              obtain ⟨z0, z1, z2, z3⟩ := HSc.out.free
              obtain ⟨y0, y1, y2, y3⟩ := HSc.out.cells
              refine wpAny_ready (rs := [12]) (by kernel_rfl) (by simp) ?_
              refine AllReady.cons rfl (fun K hK => ?_) (AllReady.nil)
              go_simp
              refine hK _ _ ?_
              clear hK K z0 z1 z2 z3 y0 y1 y2 y3
              refine wpAny_done (by kernel_rfl) ?_ _
              refine frame_eq (hrest w2.heap.size _ ⟨set4_span HSc.out _ _ _ _ _ _, below4 HBc.out hSl _ _ _ _, hSl⟩) (by kernel_rfl)
        · go_simp
          go_wp2_with (go_at_call 48; refine (oc.rget_calls _ _ _ _ wS (HO6.out wS HBc.out)).mono ?_; rintro e w6 ⟨rfl, hb⟩; rw [HPg.out]; have HBc := Lib.hid (bel_next HBc.out hb (Nat.le_refl _)); have HSc := Lib.hid (HSc.out.below hb); clear hb)
          try clear hK K
          refine wpAny_ready (rs := [2, 9]) (by kernel_rfl) (by simp) ?_
          refine AllReady.cons rfl (fun K hK => ?_) (AllReady.cons rfl (fun K hK => ?_) (AllReady.nil))
          · have c0 : World.cell? w6 ⟨w1.heap.size, 0, none⟩ = some (.int .u8 z) := (HBc.out.cell (p := ⟨w1.heap.size, 0, none⟩) HX.out).trans c00
            go_simp
            refine hK _ _ ?_
            clear hK K c0
            refine wpAny_take (i := 3) (v := .int .i64 z) rfl (by kernel_rfl) (by kernel_rfl) (by kernel_rfl) (fun _ _ _ h => h) (Or.inl ⟨by kernel_rfl, by intro w; first | (go_simp; done) | (go_simp; decide)⟩) ?_
            refine wpAny_ready (rs := [9]) (by kernel_rfl) (by simp) ?_
            refine AllReady.cons rfl (fun K hK => ?_) (AllReady.nil)
            · go_simp
              go_wp2_with (go_at_call 48; refine (oc.rget_calls _ _ _ _ w6 (HO9.out w6 HBc.out)).mono ?_; rintro e w9 ⟨rfl, hb⟩; rw [HPs.out]; have HBc := Lib.hid (bel_next HBc.out hb (Nat.le_refl _)); have HSc := Lib.hid (HSc.out.below hb); clear hb)
              try clear hK K
              refine wpAny_take (i := 10) (v := .agg #[.int .i64 (pgO zs), .int .i64 (psO zs), .int .i64 z, .slice none 0 0]) rfl (by kernel_rfl) (by kernel_rfl) (by kernel_rfl) (fun _ _ _ h => h) (Or.inl ⟨by kernel_rfl, by intro w; first | (go_simp; done) | (go_simp; decide)⟩) ?_
              obtain ⟨z0, z1, z2, z3⟩ := HSc.out.free
              obtain ⟨y0, y1, y2, y3⟩ := HSc.out.cells
              refine wpAny_ready (rs := [12]) (by kernel_rfl) (by simp) ?_
              refine AllReady.cons rfl (fun K hK => ?_) (AllReady.nil)
              go_simp
              refine hK _ _ ?_
              clear hK K z0 z1 z2 z3 y0 y1 y2 y3
              refine wpAny_done (by kernel_rfl) ?_ _
              refine frame_eq (hrest w2.heap.size _ ⟨set4_span HSc.out _ _ _ _ _ _, below4 HBc.out hSl _ _ _ _, hSl⟩) (by kernel_rfl)
          · go_simp
            go_wp2_with (go_at_call 48; refine (oc.rget_calls _ _ _ _ w6 (HO9.out w6 HBc.out)).mono ?_; rintro e w9 ⟨rfl, hb⟩; rw [HPs.out]; have HBc := Lib.hid (bel_next HBc.out hb (Nat.le_refl _)); have HSc := Lib.hid (HSc.out.below hb); clear hb)
            try clear hK K
            refine wpAny_ready (rs := [2]) (by kernel_rfl) (by simp) ?_
            refine AllReady.cons rfl (fun K hK => ?_) (AllReady.nil)
            · have c0 : World.cell? w9 ⟨w1.heap.size, 0, none⟩ = some (.int .u8 z) := (HBc.out.cell (p := ⟨w1.heap.size, 0, none⟩) HX.out).trans c00
              go_simp
              refine hK _ _ ?_
              clear hK K c0
              refine wpAny_take (i := 3) (v := .int .i64 z) rfl (by kernel_rfl) (by kernel_rfl) (by kernel_rfl) (fun _ _ _ h => h) (Or.inl ⟨by kernel_rfl, by intro w; first | (go_simp; done) | (go_simp; decide)⟩) ?_
              refine wpAny_take (i := 10) (v := .agg #[.int .i64 (pgO zs), .int .i64 (psO zs), .int .i64 z, .slice none 0 0]) rfl (by kernel_rfl) (by kernel_rfl) (by kernel_rfl) (fun _ _ _ h => h) (Or.inl ⟨by kernel_rfl, by intro w; first | (go_simp; done) | (go_simp; decide)⟩) ?_
              obtain ⟨z0, z1, z2, z3⟩ := HSc.out.free
              obtain ⟨y0, y1, y2, y3⟩ := HSc.out.cells
              refine wpAny_ready (rs := [12]) (by kernel_rfl) (by simp) ?_
              refine AllReady.cons rfl (fun K hK => ?_) (AllReady.nil)
              go_simp
              refine hK _ _ ?_
              clear hK K z0 z1 z2 z3 y0 y1 y2 y3
              refine wpAny_done (by kernel_rfl) ?_ _
              refine frame_eq (hrest w2.heap.size _ ⟨set4_span HSc.out _ _ _ _ _ _, below4 HBc.out hSl _ _ _ _, hSl⟩) (by kernel_rfl)
    case hrest =>
      rintro S w5 ⟨hS, hb, hSl⟩
      simp only [putAll, List.foldl_cons, List.foldl_nil]
      have HS5 := Lib.hid hS
      have HC5 := Lib.hid hb
      have HP5 := Lib.hid (HP2.out.below hb)
      have HB5 := Lib.hid (bel_next HB2.out hb (Nat.le_refl _))
      obtain ⟨s0, s1, s2, s3⟩ := hS.cells
      have hzI : I64 z := ⟨by omega, by omega⟩
      have hPS : w.heap.size ≠ S := by have := HP2.out.lt; omega
      have hPSl : w.heap.size ≤ S := by have := HP2.out.lt; omega
      clear hS hb
      go_wp2_with fail
      refine (rper_calls z _ hzI.1 hzI.2).mono ?_
      rintro e w6 ⟨rfl, hb⟩
      have HS6 := Lib.hid (HS5.out.below hb)
      have HP6 := Lib.hid (HP5.out.below hb)
      have HB6 := Lib.hid (bel_next HB5.out hb (Nat.le_refl _))
      have HC6 := Lib.hid (bel_next HC5.out hb (Nat.le_refl _))
      obtain ⟨s0', s1', s2', s3'⟩ := HS6.out.cells
      obtain ⟨z0, z1, z2, z3⟩ := HP6.out.free
      obtain ⟨y0, y1, y2, y3⟩ := HP6.out.cells
      clear hb s0 s1 s2 s3
      by_cases hc : z = 255
      · subst hc
        have HQ : Hid (perN 255 ≠ 0) := Lib.hid (by decide)
        by_cases h13 : n < 13
        · have HNo := Lib.hid (show ¬ okG zs from fun h => by have := h.1; have := HNn.out; omega)
          have h13i : (n : Int) < 13 := by omega
          go_wp2
          all_goals
            refine bodyPost_ret (v := .tuple #[.agg #[.int .i64 0, .int .i64 0, .int .i64 0, .slice none 0 0], .int .i64 0]) (by simp [results, Try.results23, go_sem, y0, y1, y2, y3]) rfl ?_
            exact get_no HNo.out rfl (below4 HB6.out (Nat.le_refl _) _ _ _ _)
        · have h13b : ¬ (n : Int) < 13 := by omega
          have hcap13 : (13 : Int) ≤ (cap : Int) := by omega
          have hcn5 : ¬ cap = 5 := by omega
          have HO5 : Hid (∀ w', Below w2.heap.size w2 w' → oc.Octs w' (some ⟨w1.heap.size, 5, none⟩) 8 (cap - 5) ((zs.drop 5).take 8)) := Lib.hid fun w' hb => HOct.out 5 8 w' (by omega) hb
          have HWv : Hid (wrap64 (oc.oct (((zs.drop 5).take 8).take 8)) = wrap64 (wO zs)) := Lib.hid (by rw [List.take_take]; rfl)
          clear y0 y1 y2 y3 z0 z1 z2 z3
          go_wp2_with fail
          try rw [hd]
          go_loopg [8] 1 (fun qq s8 wx => (qq = 1 ∧ s8 = .int .i64 5 ∧ Hid (Below w2.heap.size w2 wx ∧ SpB wx S (pgO zs) (psO zs) 255 none 0 0 ∧ SpB wx w.heap.size 0 0 0 none 0 0 ∧ Below w.heap.size w wx)) ∨ (qq = 0 ∧ s8 = .int .i64 13 ∧ ∃ A' c', Hid (SpB wx S (pgO zs) (psO zs) 255 A' 1 c' ∧ SpB wx w.heap.size 0 0 0 none 0 0 ∧ Below w.heap.size w wx ∧ WordsAt wx A' 1 (fO zs))))
          case atStart => exact .inl ⟨rfl, rfl, Lib.hid ⟨HC6.out, HS6.out, HP6.out, HB6.out⟩⟩
          case round =>
            rcases hrel with ⟨hq1, rfl, hI⟩ | ⟨hq0', rfl, A', c', hI⟩
            · have HId := hI
              have c3 : wr.drew.cell? ⟨S, 3, none⟩ = some (.slice none 0 0) := HId.out.2.1.cells.2.2.2
              have HSl := Lib.hid HId.out.2.1.lt
              have HCd := Lib.hid (show Below w2.heap.size w2 wr.drew from HId.out.1.drew)
              go_wp2_with fail
              refine wp_region_any (by kernel_rfl) ?_
              try (change wpAny _ _ _ _ _ _ _ (World.drew _))
              refine wpAny_take (i := 0) (v := .pointer (some ⟨S, 3, none⟩)) rfl (by kernel_rfl) (by kernel_rfl) (by kernel_rfl) (fun _ _ _ h => h) (Or.inl ⟨by kernel_rfl, by intro w; first | (go_simp; done) | (go_simp; decide)⟩) ?_
              refine wpAny_take (i := 2) (v := .slice (some ⟨w1.heap.size, 0, none⟩) n cap) rfl (by kernel_rfl) (by kernel_rfl) (by kernel_rfl) (fun _ _ _ h => h) (Or.inl ⟨by kernel_rfl, by intro w; first | (go_simp; done) | (go_simp; decide)⟩) ?_
              refine wpAny_take (i := 3) (v := .int .i64 5) rfl (by kernel_rfl) (by kernel_rfl) (by kernel_rfl) (fun _ _ _ h => h) (Or.inl ⟨by kernel_rfl, by intro w; first | (go_simp; done) | (go_simp; decide)⟩) ?_
              refine wpAny_take (i := 4) (v := .int .i64 5) rfl (by kernel_rfl) (by kernel_rfl) (by kernel_rfl) (fun _ _ _ h => h) (Or.inl ⟨by kernel_rfl, by intro w; first | (go_simp; done) | (go_simp; decide)⟩) ?_
              refine wpAny_take (i := 5) (v := .int .i64 13) rfl (by kernel_rfl) (by kernel_rfl) (by kernel_rfl) (fun _ _ _ h => h) (Or.inl ⟨by kernel_rfl, by intro w; first | (go_simp; done) | (go_simp; decide)⟩) ?_
              refine wpAny_take (i := 6) (v := .slice (some ⟨w1.heap.size, 5, none⟩) 8 (cap - 5)) rfl (by kernel_rfl) (by kernel_rfl) (by kernel_rfl) (fun _ _ _ h => h) (Or.inl ⟨by kernel_rfl, by intro w; first | (go_simp; done) | (go_simp; decide)⟩) ?_
              refine wpAny_ready (rs := [1, 7]) (by kernel_rfl) (by simp) ?_
              refine AllReady.cons rfl (fun K hK => ?_) (AllReady.cons rfl (fun K hK => ?_) (AllReady.nil))
              case' refine_1 =>
                go_simp
                refine hK _ _ ?_
                clear hK K
                refine wpAny_ready (rs := [7]) (by kernel_rfl) (by simp) ?_
                refine AllReady.cons rfl (fun K hK => ?_) (AllReady.nil)
                go_simp
                go_wp2_with (go_at_call 48; refine (oc.rget_calls _ _ _ _ wr.drew (HO5.out wr.drew HCd.out)).mono ?_; rintro e w9 ⟨rfl, hb⟩; rw [HWv.out]; have HB9' := Lib.hid (show Below wr.heap.size wr w9 from ((Below.refl _ wr).drew).trans hb); have d3 : w9.cell? ⟨S, 3, none⟩ = some (.slice none 0 0) := (hb.cell (p := ⟨S, 3, none⟩) HSl.out).trans c3; have hne9 : ¬ S = w9.heap.size := (by have h1 : wr.heap.size ≤ w9.heap.size := hb.size; have h2 := HSl.out; omega); have d4 : ∀ ob, (w9.alloc ob).cell? ⟨S, 3, none⟩ = some (.slice none 0 0) := (fun ob => (World.cell?_of_block (Below.heap_alloc w9 ob S (by have h1 : wr.heap.size ≤ w9.heap.size := hb.size; have h2 := HSl.out; omega))).trans d3); clear hb)
                try clear hK K
                refine wpAny_ready (rs := [8]) (by kernel_rfl) (by simp) ?_
                refine AllReady.cons rfl (fun K hK => ?_) (AllReady.nil)
                go_simp
                refine hK _ _ ?_
                clear hK K
                refine wpAny_ready (rs := [9]) (by kernel_rfl) (by simp) ?_
                refine AllReady.cons rfl (fun K hK => ?_) (AllReady.nil)
                go_simp
                refine hK _ _ ?_
                clear hK K
              case' refine_2 =>
                go_simp
                go_wp2_with (go_at_call 48; refine (oc.rget_calls _ _ _ _ wr.drew (HO5.out wr.drew HCd.out)).mono ?_; rintro e w9 ⟨rfl, hb⟩; rw [HWv.out]; have HB9' := Lib.hid (show Below wr.heap.size wr w9 from ((Below.refl _ wr).drew).trans hb); have d3 : w9.cell? ⟨S, 3, none⟩ = some (.slice none 0 0) := (hb.cell (p := ⟨S, 3, none⟩) HSl.out).trans c3; have hne9 : ¬ S = w9.heap.size := (by have h1 : wr.heap.size ≤ w9.heap.size := hb.size; have h2 := HSl.out; omega); have d4 : ∀ ob, (w9.alloc ob).cell? ⟨S, 3, none⟩ = some (.slice none 0 0) := (fun ob => (World.cell?_of_block (Below.heap_alloc w9 ob S (by have h1 : wr.heap.size ≤ w9.heap.size := hb.size; have h2 := HSl.out; omega))).trans d3); clear hb)
                try clear hK K
                refine wpAny_ready (rs := [1, 8]) (by kernel_rfl) (by simp) ?_
                refine AllReady.cons rfl (fun K hK => ?_) (AllReady.cons rfl (fun K hK => ?_) (AllReady.nil))
                case' refine_1 =>
                  go_simp
                  refine hK _ _ ?_
                  clear hK K
                  refine wpAny_ready (rs := [8]) (by kernel_rfl) (by simp) ?_
                  refine AllReady.cons rfl (fun K hK => ?_) (AllReady.nil)
                  go_simp
                  refine hK _ _ ?_
                  clear hK K
                  refine wpAny_ready (rs := [9]) (by kernel_rfl) (by simp) ?_
                  refine AllReady.cons rfl (fun K hK => ?_) (AllReady.nil)
                  go_simp
                  refine hK _ _ ?_
                  clear hK K
                case' refine_2 =>
                  go_simp
                  refine hK _ _ ?_
                  clear hK K
                  refine wpAny_ready (rs := [1, 9]) (by kernel_rfl) (by simp) ?_
                  refine AllReady.cons rfl (fun K hK => ?_) (AllReady.cons rfl (fun K hK => ?_) (AllReady.nil))
                  case' refine_1 =>
                    go_simp
                    refine hK _ _ ?_
                    clear hK K
                    refine wpAny_ready (rs := [9]) (by kernel_rfl) (by simp) ?_
                    refine AllReady.cons rfl (fun K hK => ?_) (AllReady.nil)
                    go_simp
                    refine hK _ _ ?_
                    clear hK K
                  case' refine_2 =>
                    go_simp
                    refine hK _ _ ?_
                    clear hK K
                    refine wpAny_ready (rs := [1]) (by kernel_rfl) (by simp) ?_
                    refine AllReady.cons rfl (fun K hK => ?_) (AllReady.nil)
                    go_simp
                    refine hK _ _ ?_
                    clear hK K
              all_goals
                have hxv : IntKind.u64.wrap (wrap64 (wO zs)) = wO zs := by
                  have := wO_rng HZ.out
                  rw [IntKind.wrap_u64]
                  unfold wrap64
                  omega
                rw [hxv]
                have hbl9 := Blk.new w9 #[.int .u64 (wO zs)] 31
                have hSb : SpB w9 S (pgO zs) (psO zs) _ none 0 0 := HId.out.2.1.below HB9'.out
                have hPb : SpB w9 w.heap.size 0 0 0 none 0 0 := HId.out.2.2.1.below HB9'.out
                have hB9 : Below w.heap.size w w9 := bel_next HId.out.2.2.2 HB9'.out (Nat.le_refl _)
                have hBa : Below w9.heap.size w9 (w9.alloc (.cells #[.int .u64 (wO zs)] 31)) := (Below.refl _ _).alloc (Nat.le_refl _) _
                refine wpAny_ready (rs := [10]) (by kernel_rfl) (by simp) ?_
                refine AllReady.cons rfl (fun K hK => ?_) AllReady.nil
                refine step_append_rd rfl (.tmp 52) (.tmp 60) 22 rfl (w9.heap.size + 1) 31 i0 _ 1 8 Try.underlying22 hi hz0 hz1 hz2 rfl (by decide) (.slice none 0 0) 0 [] rfl (World.ownsRow_nil _ _ _ _) (some ⟨w9.heap.size, 0, none⟩) 1 1 rfl [.int .u64 (wO zs)] rfl (RdAt.of_blk hbl9) (fun u hu => by obtain rfl := List.mem_singleton.1 hu; rfl) (by omega) (by unfold maxLen; omega) (by simp) ?_
                intro v2 w10 hown2 hgr2 hnew2
                refine hK _ _ ?_
                obtain ⟨A2, c2, rfl⟩ := ownsRow_slice hown2
                have hB10 : Below w9.heap.size w9 w10 := hBa.grown hgr2 hBa.size (fun k hk => by simp [Value.ownBlock] at hk)
                have hA2 : ∀ x o, A2 = some ⟨x, o, none⟩ → x ≠ S := fun x o he => by
                  have h1 := (hown2.lt x (by rw [he]; rfl)).1
                  have h2 := hSb.lt
                  omega
                have hW2 : WordsAt w10 A2 1 (fO zs) := ⟨by rw [← fO_wd HZ.out]; exact RdAt.of_own hown2, fO_out zs, by omega⟩
                have hS10 := hSb.below hB10
                have HRes := Lib.hid (show SpB (w10.setCell ⟨S, 3, none⟩ (.slice A2 1 c2)) S (pgO zs) (psO zs) _ A2 1 c2 ∧ SpB (w10.setCell ⟨S, 3, none⟩ (.slice A2 1 c2)) w.heap.size 0 0 0 none 0 0 ∧ Below w.heap.size w (w10.setCell ⟨S, 3, none⟩ (.slice A2 1 c2)) ∧ WordsAt (w10.setCell ⟨S, 3, none⟩ (.slice A2 1 c2)) A2 1 (fO zs) from
                  ⟨Blk.set hS10 3 (.slice A2 1 c2), Blk.set_other (hPb.below hB10) hPS _ _, (bel_next hB9 hB10 (Nat.le_refl _)).setCell (p := ⟨S, 3, none⟩) hPSl _, hW2.set1 hA2 _ _⟩)
                have k1 := hS10.free.2.2.2
                have k2 := hS10.cells.2.2.2
                clear hK K hown2 hgr2 hnew2 hbl9 hSb hPb hB9 hBa hB10 hA2 hW2 hS10 c3 d3 d4
                refine wpAny_ready (rs := [11]) (by kernel_rfl) (by simp) ?_
                refine AllReady.cons rfl (fun K hK => ?_) AllReady.nil
                go_simp
                refine hK _ _ ?_
                clear hK K
                refine wpAny_ready (rs := [12]) (by kernel_rfl) (by simp) ?_
                refine AllReady.cons rfl (fun K hK => ?_) AllReady.nil
                go_simp
                refine hK _ _ ?_
                clear hK K
                refine wpAny_done (by kernel_rfl) ?_ _
                go_wp2
                go_roundg 0
                case measure => omega
                case rel => exact .inr ⟨rfl, by first | rfl | go_num, A2, c2, HRes⟩
            · have HId := hI
              obtain ⟨s0, s1, s2, s3⟩ := HId.out.1.cells
              go_wp2_with fail
              refine (right15_calls (pgO zs) (psO zs) _ A' 1 c' (fO zs) _ ⟨by have := pgO_rng HZ.out; omega, by have := pgO_rng HZ.out; omega⟩ ⟨by have := psO_rng HZ.out; omega, by have := psO_rng HZ.out; omega⟩ hzI HId.out.2.2.2).mono ?_
              rintro e w9 ⟨bb, rfl, hbb, hb⟩
              have HBb := Lib.hid hbb
              have HB9 := Lib.hid (bel_next HId.out.2.2.1 hb (Nat.le_refl _))
              have HP9 := Lib.hid (HId.out.2.1.below hb)
              have HS9 := Lib.hid (HId.out.1.below hb)
              have HW9 := Lib.hid (HId.out.2.2.2.below hb)
              obtain ⟨z0, z1, z2, z3⟩ := HP9.out.free
              obtain ⟨y0, y1, y2, y3⟩ := HP9.out.cells
              obtain ⟨s0'', s1'', s2'', s3''⟩ := HS9.out.cells
              clear s0 s1 s2 s3 hbb hb
              cases bb
              · have HNo := Lib.hid (show ¬ okG zs from fun h => by
                  have h1 := h.2.2
                  rw [← HZc.out] at h1
                  have := HBb.out.2 (Good.of_right h1 (fO_out zs))
                  cases this)
                go_wp2
                refine bodyPost_ret (v := .tuple #[.agg #[.int .i64 0, .int .i64 0, .int .i64 0, .slice none 0 0], .int .i64 0]) (by simp [results, Try.results23, go_sem, y0, y1, y2, y3]) rfl ?_
                exact get_no HNo.out rfl (below4 HB9.out (Nat.le_refl _) _ _ _ _)
              · have HYes := Lib.hid (show okG zs from ⟨by have := HNn.out; omega, by rw [← HZc.out]; exact HQ.out, by rw [← HZc.out]; exact (HBb.out.1 rfl).1.right (HBb.out.1 rfl).2⟩)
                have HZc2 := HZc
                go_wp2
                refine bodyPost_ret (v := .tuple #[.agg #[.int .i64 (pgO zs), .int .i64 (psO zs), .int .i64 (clO zs), .slice A' 1 c'], .int .i64 13]) (by simp [results, Try.results23, go_sem, y0, y1, y2, y3, ← HZc2.out]) rfl ?_
                exact get_yes HYes.out rfl (WordsAt.store HW9.out HP9.out _ _ _ _) (below4 HB9.out (Nat.le_refl _) _ _ _ _)
      · have hcb : (z == 255) = false := by rw [beq_eq_false_iff_ne]; exact hc
        have hpl : perL z = ((perN z : Nat) : Int) := by rw [← perN_cast]; unfold perS; rw [if_neg hc]
        rw [hpl]
        have hq32 := perN_le z
        have HQn := Lib.hid (show perN z = perN z from rfl)
        obtain ⟨q, hq⟩ : ∃ q, perN z = q := ⟨_, rfl⟩
        rw [hq] at hq32 ⊢
        have HQe := Lib.hid hq
        clear hpl hc HQn hq
        by_cases hq0 : q = 0
        · subst hq0
          have HNo := Lib.hid (show ¬ okG zs from fun h => h.2.1 (by rw [← HZc.out]; exact HQe.out))
          go_wp2
          all_goals
            refine bodyPost_ret (v := .tuple #[.agg #[.int .i64 0, .int .i64 0, .int .i64 0, .slice none 0 0], .int .i64 0]) (by simp [results, Try.results23, go_sem, y0, y1, y2, y3]) rfl ?_
            exact get_no HNo.out rfl (below4 HB6.out (Nat.le_refl _) _ _ _ _)
        · have hqb : ((q : Int) == 0) = false := by rw [beq_eq_false_iff_ne]; omega
          have hd : ((q : Int) + 63) / 64 = 1 := by omega
          have HQ : Hid (perN z ≠ 0) := Lib.hid (by rw [HQe.out]; exact hq0)
          by_cases h13 : n < 13
          · have HNo := Lib.hid (show ¬ okG zs from fun h => by have := h.1; have := HNn.out; omega)
            have h13i : (n : Int) < 13 := by omega
            go_wp2
            all_goals
              refine bodyPost_ret (v := .tuple #[.agg #[.int .i64 0, .int .i64 0, .int .i64 0, .slice none 0 0], .int .i64 0]) (by simp [results, Try.results23, go_sem, y0, y1, y2, y3]) rfl ?_
              exact get_no HNo.out rfl (below4 HB6.out (Nat.le_refl _) _ _ _ _)
          · have h13b : ¬ (n : Int) < 13 := by omega
            have hcap13 : (13 : Int) ≤ (cap : Int) := by omega
            have hcn5 : ¬ cap = 5 := by omega
            have HO5 : Hid (∀ w', Below w2.heap.size w2 w' → oc.Octs w' (some ⟨w1.heap.size, 5, none⟩) 8 (cap - 5) ((zs.drop 5).take 8)) := Lib.hid fun w' hb => HOct.out 5 8 w' (by omega) hb
            have HWv : Hid (wrap64 (oc.oct (((zs.drop 5).take 8).take 8)) = wrap64 (wO zs)) := Lib.hid (by rw [List.take_take]; rfl)
            clear y0 y1 y2 y3 z0 z1 z2 z3
            go_wp2_with fail
            try rw [hd]
            go_loopg [8] 1 (fun qq s8 wx => (qq = 1 ∧ s8 = .int .i64 5 ∧ Hid (Below w2.heap.size w2 wx ∧ SpB wx S (pgO zs) (psO zs) z none 0 0 ∧ SpB wx w.heap.size 0 0 0 none 0 0 ∧ Below w.heap.size w wx)) ∨ (qq = 0 ∧ s8 = .int .i64 13 ∧ ∃ A' c', Hid (SpB wx S (pgO zs) (psO zs) z A' 1 c' ∧ SpB wx w.heap.size 0 0 0 none 0 0 ∧ Below w.heap.size w wx ∧ WordsAt wx A' 1 (fO zs))))
            case atStart => exact .inl ⟨rfl, rfl, Lib.hid ⟨HC6.out, HS6.out, HP6.out, HB6.out⟩⟩
            case round =>
              rcases hrel with ⟨hq1, rfl, hI⟩ | ⟨hq0', rfl, A', c', hI⟩
              · have HId := hI
                have c3 : wr.drew.cell? ⟨S, 3, none⟩ = some (.slice none 0 0) := HId.out.2.1.cells.2.2.2
                have HSl := Lib.hid HId.out.2.1.lt
                have HCd := Lib.hid (show Below w2.heap.size w2 wr.drew from HId.out.1.drew)
                go_wp2_with fail
                refine wp_region_any (by kernel_rfl) ?_
                try (change wpAny _ _ _ _ _ _ _ (World.drew _))
                refine wpAny_take (i := 0) (v := .pointer (some ⟨S, 3, none⟩)) rfl (by kernel_rfl) (by kernel_rfl) (by kernel_rfl) (fun _ _ _ h => h) (Or.inl ⟨by kernel_rfl, by intro w; first | (go_simp; done) | (go_simp; decide)⟩) ?_
                refine wpAny_take (i := 2) (v := .slice (some ⟨w1.heap.size, 0, none⟩) n cap) rfl (by kernel_rfl) (by kernel_rfl) (by kernel_rfl) (fun _ _ _ h => h) (Or.inl ⟨by kernel_rfl, by intro w; first | (go_simp; done) | (go_simp; decide)⟩) ?_
                refine wpAny_take (i := 3) (v := .int .i64 5) rfl (by kernel_rfl) (by kernel_rfl) (by kernel_rfl) (fun _ _ _ h => h) (Or.inl ⟨by kernel_rfl, by intro w; first | (go_simp; done) | (go_simp; decide)⟩) ?_
                refine wpAny_take (i := 4) (v := .int .i64 5) rfl (by kernel_rfl) (by kernel_rfl) (by kernel_rfl) (fun _ _ _ h => h) (Or.inl ⟨by kernel_rfl, by intro w; first | (go_simp; done) | (go_simp; decide)⟩) ?_
                refine wpAny_take (i := 5) (v := .int .i64 13) rfl (by kernel_rfl) (by kernel_rfl) (by kernel_rfl) (fun _ _ _ h => h) (Or.inl ⟨by kernel_rfl, by intro w; first | (go_simp; done) | (go_simp; decide)⟩) ?_
                refine wpAny_take (i := 6) (v := .slice (some ⟨w1.heap.size, 5, none⟩) 8 (cap - 5)) rfl (by kernel_rfl) (by kernel_rfl) (by kernel_rfl) (fun _ _ _ h => h) (Or.inl ⟨by kernel_rfl, by intro w; first | (go_simp; done) | (go_simp; decide)⟩) ?_
                refine wpAny_ready (rs := [1, 7]) (by kernel_rfl) (by simp) ?_
                refine AllReady.cons rfl (fun K hK => ?_) (AllReady.cons rfl (fun K hK => ?_) (AllReady.nil))
                case' refine_1 =>
                  go_simp
                  refine hK _ _ ?_
                  clear hK K
                  refine wpAny_ready (rs := [7]) (by kernel_rfl) (by simp) ?_
                  refine AllReady.cons rfl (fun K hK => ?_) (AllReady.nil)
                  go_simp
                  go_wp2_with (go_at_call 48; refine (oc.rget_calls _ _ _ _ wr.drew (HO5.out wr.drew HCd.out)).mono ?_; rintro e w9 ⟨rfl, hb⟩; rw [HWv.out]; have HB9' := Lib.hid (show Below wr.heap.size wr w9 from ((Below.refl _ wr).drew).trans hb); have d3 : w9.cell? ⟨S, 3, none⟩ = some (.slice none 0 0) := (hb.cell (p := ⟨S, 3, none⟩) HSl.out).trans c3; have hne9 : ¬ S = w9.heap.size := (by have h1 : wr.heap.size ≤ w9.heap.size := hb.size; have h2 := HSl.out; omega); have d4 : ∀ ob, (w9.alloc ob).cell? ⟨S, 3, none⟩ = some (.slice none 0 0) := (fun ob => (World.cell?_of_block (Below.heap_alloc w9 ob S (by have h1 : wr.heap.size ≤ w9.heap.size := hb.size; have h2 := HSl.out; omega))).trans d3); clear hb)
                  try clear hK K
                  refine wpAny_ready (rs := [8]) (by kernel_rfl) (by simp) ?_
                  refine AllReady.cons rfl (fun K hK => ?_) (AllReady.nil)
                  go_simp
                  refine hK _ _ ?_
                  clear hK K
                  refine wpAny_ready (rs := [9]) (by kernel_rfl) (by simp) ?_
                  refine AllReady.cons rfl (fun K hK => ?_) (AllReady.nil)
                  go_simp
                  refine hK _ _ ?_
                  clear hK K
                case' refine_2 =>
                  go_simp
                  go_wp2_with (go_at_call 48; refine (oc.rget_calls _ _ _ _ wr.drew (HO5.out wr.drew HCd.out)).mono ?_; rintro e w9 ⟨rfl, hb⟩; rw [HWv.out]; have HB9' := Lib.hid (show Below wr.heap.size wr w9 from ((Below.refl _ wr).drew).trans hb); have d3 : w9.cell? ⟨S, 3, none⟩ = some (.slice none 0 0) := (hb.cell (p := ⟨S, 3, none⟩) HSl.out).trans c3; have hne9 : ¬ S = w9.heap.size := (by have h1 : wr.heap.size ≤ w9.heap.size := hb.size; have h2 := HSl.out; omega); have d4 : ∀ ob, (w9.alloc ob).cell? ⟨S, 3, none⟩ = some (.slice none 0 0) := (fun ob => (World.cell?_of_block (Below.heap_alloc w9 ob S (by have h1 : wr.heap.size ≤ w9.heap.size := hb.size; have h2 := HSl.out; omega))).trans d3); clear hb)
                  try clear hK K
                  refine wpAny_ready (rs := [1, 8]) (by kernel_rfl) (by simp) ?_
                  refine AllReady.cons rfl (fun K hK => ?_) (AllReady.cons rfl (fun K hK => ?_) (AllReady.nil))
                  case' refine_1 =>
                    go_simp
                    refine hK _ _ ?_
                    clear hK K
                    refine wpAny_ready (rs := [8]) (by kernel_rfl) (by simp) ?_
                    refine AllReady.cons rfl (fun K hK => ?_) (AllReady.nil)
                    go_simp
                    refine hK _ _ ?_
                    clear hK K
                    refine wpAny_ready (rs := [9]) (by kernel_rfl) (by simp) ?_
                    refine AllReady.cons rfl (fun K hK => ?_) (AllReady.nil)
                    go_simp
                    refine hK _ _ ?_
                    clear hK K
                  case' refine_2 =>
                    go_simp
                    refine hK _ _ ?_
                    clear hK K
                    refine wpAny_ready (rs := [1, 9]) (by kernel_rfl) (by simp) ?_
                    refine AllReady.cons rfl (fun K hK => ?_) (AllReady.cons rfl (fun K hK => ?_) (AllReady.nil))
                    case' refine_1 =>
                      go_simp
                      refine hK _ _ ?_
                      clear hK K
                      refine wpAny_ready (rs := [9]) (by kernel_rfl) (by simp) ?_
                      refine AllReady.cons rfl (fun K hK => ?_) (AllReady.nil)
                      go_simp
                      refine hK _ _ ?_
                      clear hK K
                    case' refine_2 =>
                      go_simp
                      refine hK _ _ ?_
                      clear hK K
                      refine wpAny_ready (rs := [1]) (by kernel_rfl) (by simp) ?_
                      refine AllReady.cons rfl (fun K hK => ?_) (AllReady.nil)
                      go_simp
                      refine hK _ _ ?_
                      clear hK K
                all_goals
                  have hxv : IntKind.u64.wrap (wrap64 (wO zs)) = wO zs := by
                    have := wO_rng HZ.out
                    rw [IntKind.wrap_u64]
                    unfold wrap64
                    omega
                  rw [hxv]
                  have hbl9 := Blk.new w9 #[.int .u64 (wO zs)] 31
                  have hSb : SpB w9 S (pgO zs) (psO zs) _ none 0 0 := HId.out.2.1.below HB9'.out
                  have hPb : SpB w9 w.heap.size 0 0 0 none 0 0 := HId.out.2.2.1.below HB9'.out
                  have hB9 : Below w.heap.size w w9 := bel_next HId.out.2.2.2 HB9'.out (Nat.le_refl _)
                  have hBa : Below w9.heap.size w9 (w9.alloc (.cells #[.int .u64 (wO zs)] 31)) := (Below.refl _ _).alloc (Nat.le_refl _) _
                  refine wpAny_ready (rs := [10]) (by kernel_rfl) (by simp) ?_
                  refine AllReady.cons rfl (fun K hK => ?_) AllReady.nil
                  refine step_append_rd rfl (.tmp 52) (.tmp 60) 22 rfl (w9.heap.size + 1) 31 i0 _ 1 8 Try.underlying22 hi hz0 hz1 hz2 rfl (by decide) (.slice none 0 0) 0 [] rfl (World.ownsRow_nil _ _ _ _) (some ⟨w9.heap.size, 0, none⟩) 1 1 rfl [.int .u64 (wO zs)] rfl (RdAt.of_blk hbl9) (fun u hu => by obtain rfl := List.mem_singleton.1 hu; rfl) (by omega) (by unfold maxLen; omega) (by simp) ?_
                  intro v2 w10 hown2 hgr2 hnew2
                  refine hK _ _ ?_
                  obtain ⟨A2, c2, rfl⟩ := ownsRow_slice hown2
                  have hB10 : Below w9.heap.size w9 w10 := hBa.grown hgr2 hBa.size (fun k hk => by simp [Value.ownBlock] at hk)
                  have hA2 : ∀ x o, A2 = some ⟨x, o, none⟩ → x ≠ S := fun x o he => by
                    have h1 := (hown2.lt x (by rw [he]; rfl)).1
                    have h2 := hSb.lt
                    omega
                  have hW2 : WordsAt w10 A2 1 (fO zs) := ⟨by rw [← fO_wd HZ.out]; exact RdAt.of_own hown2, fO_out zs, by omega⟩
                  have hS10 := hSb.below hB10
                  have HRes := Lib.hid (show SpB (w10.setCell ⟨S, 3, none⟩ (.slice A2 1 c2)) S (pgO zs) (psO zs) _ A2 1 c2 ∧ SpB (w10.setCell ⟨S, 3, none⟩ (.slice A2 1 c2)) w.heap.size 0 0 0 none 0 0 ∧ Below w.heap.size w (w10.setCell ⟨S, 3, none⟩ (.slice A2 1 c2)) ∧ WordsAt (w10.setCell ⟨S, 3, none⟩ (.slice A2 1 c2)) A2 1 (fO zs) from
                    ⟨Blk.set hS10 3 (.slice A2 1 c2), Blk.set_other (hPb.below hB10) hPS _ _, (bel_next hB9 hB10 (Nat.le_refl _)).setCell (p := ⟨S, 3, none⟩) hPSl _, hW2.set1 hA2 _ _⟩)
                  have k1 := hS10.free.2.2.2
                  have k2 := hS10.cells.2.2.2
                  clear hK K hown2 hgr2 hnew2 hbl9 hSb hPb hB9 hBa hB10 hA2 hW2 hS10 c3 d3 d4
                  refine wpAny_ready (rs := [11]) (by kernel_rfl) (by simp) ?_
                  refine AllReady.cons rfl (fun K hK => ?_) AllReady.nil
                  go_simp
                  refine hK _ _ ?_
                  clear hK K
                  refine wpAny_ready (rs := [12]) (by kernel_rfl) (by simp) ?_
                  refine AllReady.cons rfl (fun K hK => ?_) AllReady.nil
                  go_simp
                  refine hK _ _ ?_
                  clear hK K
                  refine wpAny_done (by kernel_rfl) ?_ _
                  go_wp2
                  go_roundg 0
                  case measure => omega
                  case rel => exact .inr ⟨rfl, by first | rfl | go_num, A2, c2, HRes⟩
              · have HId := hI
                obtain ⟨s0, s1, s2, s3⟩ := HId.out.1.cells
                go_wp2_with fail
                refine (right15_calls (pgO zs) (psO zs) _ A' 1 c' (fO zs) _ ⟨by have := pgO_rng HZ.out; omega, by have := pgO_rng HZ.out; omega⟩ ⟨by have := psO_rng HZ.out; omega, by have := psO_rng HZ.out; omega⟩ hzI HId.out.2.2.2).mono ?_
                rintro e w9 ⟨bb, rfl, hbb, hb⟩
                have HBb := Lib.hid hbb
                have HB9 := Lib.hid (bel_next HId.out.2.2.1 hb (Nat.le_refl _))
                have HP9 := Lib.hid (HId.out.2.1.below hb)
                have HS9 := Lib.hid (HId.out.1.below hb)
                have HW9 := Lib.hid (HId.out.2.2.2.below hb)
                obtain ⟨z0, z1, z2, z3⟩ := HP9.out.free
                obtain ⟨y0, y1, y2, y3⟩ := HP9.out.cells
                obtain ⟨s0'', s1'', s2'', s3''⟩ := HS9.out.cells
                clear s0 s1 s2 s3 hbb hb
                cases bb
                · have HNo := Lib.hid (show ¬ okG zs from fun h => by
                    have h1 := h.2.2
                    rw [← HZc.out] at h1
                    have := HBb.out.2 (Good.of_right h1 (fO_out zs))
                    cases this)
                  go_wp2
                  refine bodyPost_ret (v := .tuple #[.agg #[.int .i64 0, .int .i64 0, .int .i64 0, .slice none 0 0], .int .i64 0]) (by simp [results, Try.results23, go_sem, y0, y1, y2, y3]) rfl ?_
                  exact get_no HNo.out rfl (below4 HB9.out (Nat.le_refl _) _ _ _ _)
                · have HYes := Lib.hid (show okG zs from ⟨by have := HNn.out; omega, by rw [← HZc.out]; exact HQ.out, by rw [← HZc.out]; exact (HBb.out.1 rfl).1.right (HBb.out.1 rfl).2⟩)
                  have HZc2 := HZc
                  go_wp2
                  refine bodyPost_ret (v := .tuple #[.agg #[.int .i64 (pgO zs), .int .i64 (psO zs), .int .i64 (clO zs), .slice A' 1 c'], .int .i64 13]) (by simp [results, Try.results23, go_sem, y0, y1, y2, y3, ← HZc2.out]) rfl ?_
                  exact get_yes HYes.out rfl (WordsAt.store HW9.out HP9.out _ _ _ _) (below4 HB9.out (Nat.le_refl _) _ _ _ _)
end Go.Proofs.Ytakcdkcikopoiaa
