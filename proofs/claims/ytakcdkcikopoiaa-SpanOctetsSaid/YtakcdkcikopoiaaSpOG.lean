/- The walk of span.Get. -/
import Derived.Test.YtakcdkcikopoiaaSpO
import Derived.Test.YtakcdkcikopoiaaSpnA
import Derived.Deep.LoopGhost
namespace Go.Proofs.Ytakcdkcikopoiaa
open Go.RowKit
set_option linter.unusedVariables false

theorem RdAt.front {w : World} {A : Option Addr} {zs : List Int} (h : RdAt w A zs.length (octV zs)) (n : Nat) : RdAt w A (zs.take n).length (octV (zs.take n)) := by
  by_cases h0 : (zs.take n).length = 0
  · exact .inl h0
  · obtain ⟨b, o, rfl, hb, hc⟩ := h.resolve_left (by intro h1; have : zs = [] := List.eq_nil_of_length_eq_zero h1; subst this; simp at h0)
    refine .inr ⟨b, o, rfl, hb, fun i v hi => hc i v ?_⟩
    unfold octV at hi ⊢
    rw [List.getElem?_map] at hi ⊢
    rw [List.getElem?_take] at hi
    split at hi
    · exact hi
    · simp at hi
theorem RSt.set_other {w : World} {R S : Nat} (h : RSt w R (some [])) (hne : R ≠ S) (j : Nat) (v : Value) : RSt (w.setCell ⟨S, j, none⟩ v) R (some []) := by
  obtain ⟨A, len, cap, h1, b1, b2, b3, b4, b5⟩ := h
  obtain rfl : 0 = len := b1
  refine ⟨A, 0, cap, h1.set_other hne _ _, rfl, b2, b3, b4, b5.imp id ?_⟩
  rintro ⟨g, o, rfl, hg, hl, _⟩
  exact ⟨g, o, rfl, hg, by simpa [World.setCell] using hl, fun i hi => by omega⟩
theorem WordsAt.set1 {w : World} {A : Option Addr} {len b : Nat} {f : Nat → Bool} (h : WordsAt w A len f) (hA : ∀ x o, A = some ⟨x, o, none⟩ → x ≠ b) (j : Nat) (v : Value) : WordsAt (w.setCell ⟨b, j, none⟩ v) A len f := by
  refine ⟨?_, h.2⟩
  rcases h.1 with h1 | ⟨b1, o1, rfl, hl, hc⟩
  · exact .inl h1
  · have hne := hA b1 o1 rfl
    refine .inr ⟨b1, o1, rfl, by simpa [World.setCell] using hl, fun i u hu => ?_⟩
    rw [← hc i u hu]
    simp [go_sem, hne]
theorem Try.info_w64 : (Try.prog.info? 31).map (fun i => (i.zero, i.size, i.bytes)) = some (some (.int .u64 0), 1, 8) := by kernel_rfl
set_option maxRecDepth 8000 in
set_option maxHeartbeats 16000000 in
theorem sget_calls (w : World) (A : Option Addr) (cap : Nat) (zs : List Int) (hr : RdAt w A zs.length (octV zs)) (hz : Bytes zs) (hl : zs.length ≤ 100000) (hcap : zs.length ≤ cap) (hcm : cap ≤ 9223372036854775807) :
    Calls Try.prog 22 #[.slice A zs.length cap] w (GetR zs w) := by
  obtain ⟨i0, hi, hz0, hz1, hz2⟩ := info_parts Try.info_w64
  obtain ⟨w1, hw1, hP, hb1⟩ := one_span w 0 0 0 none 0 0
  have HP1 := Lib.hid hP
  have HB1 := Lib.hid hb1
  have HR1 := Lib.hid (hr.below hb1)
  have hr0 := hr
  have hP1 := hP.lt
  obtain ⟨n, hn⟩ : ∃ n, zs.length = n := ⟨_, rfl⟩
  obtain ⟨k, hk⟩ : ∃ k, (zs.take 5).length = k := ⟨_, rfl⟩
  have hk5 : k = min n 5 := by rw [← hk, List.length_take, hn]; omega
  have HK := Lib.hid hk
  have HZ := Lib.hid hz
  have HNn := Lib.hid hn
  rw [hn] at hcap hl ⊢
  clear hP hb1 hr hz hn hk
  have HRw := Lib.hid hr0
  clear hr0
  have hcase : (n ≤ 5 ∧ n = k) ∨ (5 < n ∧ k = 5) := by omega
  clear hk5
  rcases hcase with ⟨hn5, hkn⟩ | ⟨hn5, rfl⟩
  case' inl => subst hkn
  all_goals
    go_enter Try.func22, Try.ntmps22
    go_wp2_with fail
    clear hw1
    have hrd := read_calls w1 A cap (zs.take 5) (HR1.out.front 5) (HZ.out.take 5) (by rw [HK.out]; omega)
    rw [HK.out] at hrd
    refine hrd.mono ?_
    rintro e w2 ⟨R, rfl, hR, hst, hb⟩
    have HP2 := Lib.hid (HP1.out.below hb)
    have HB2 := Lib.hid (bel_next HB1.out hb (Nat.le_refl _))
    have HS2 := Lib.hid hst
    have hRP : R ≠ w.heap.size := by omega
    have hRw : w.heap.size ≤ R := by omega
    clear hrd hst hb HR1 HB1 HP1
    obtain ⟨r1, hr1⟩ : ∃ r1, tkL (some (zs.take 5)) 1 = r1 := ⟨_, rfl⟩
    obtain ⟨r2, hr2⟩ : ∃ r2, tkL r1.2 2 = r2 := ⟨_, rfl⟩
    obtain ⟨r3, hr3⟩ : ∃ r3, tkL r2.2 2 = r3 := ⟨_, rfl⟩
    have t1 := Bytes.tk (st := some (zs.take 5)) (HZ.out.take 5) 1
    rw [hr1] at t1
    have t2 := Bytes.tk t1.2 2
    rw [hr2] at t2
    have t3 := Bytes.tk t2.2 2
    rw [hr3] at t3
    have l1 := tkL_len (some (zs.take 5)) 1
    have l2 := tkL_len r1.2 2
    have l3 := tkL_len r2.2 2
    rw [hr1] at l1
    rw [hr2] at l2
    rw [hr3] at l3
    have o1 := oct_rng t1.1 1 l1 (by omega)
    have o2 := oct_rng t2.1 2 l2 (by omega)
    have o3 := oct_rng t3.1 2 l3 (by omega)
    have e1 : wrap64 (oc.oct r1.1) = oc.oct r1.1 := by have := o1; unfold wrap64; omega
    have e2 : wrap64 (oc.oct r2.1) = oc.oct r2.1 := by have := o2; unfold wrap64; omega
    have e3 : wrap64 (oc.oct r3.1) = oc.oct r3.1 := by have := o3; unfold wrap64; omega
    have HV := Lib.hid (show 5 ≤ zs.length → oc.oct r1.1 = clO zs ∧ oc.oct r2.1 = pgO zs ∧ oc.oct r3.1 = psO zs by
      intro h5
      obtain ⟨q1, q2, q3⟩ := head3 zs h5
      rw [q1] at hr1
      subst hr1
      rw [q2] at hr2
      subst hr2
      rw [q3] at hr3
      subst hr3
      exact ⟨rfl, rfl, rfl⟩)
    have HR1 := Lib.hid hr1
    have HR2 := Lib.hid hr2
    have HR3 := Lib.hid hr3
    obtain ⟨c, hc⟩ : ∃ c, oc.oct r1.1 = c := ⟨_, rfl⟩
    obtain ⟨g, hg⟩ : ∃ g, oc.oct r2.1 = g := ⟨_, rfl⟩
    obtain ⟨p, hp⟩ : ∃ p, oc.oct r3.1 = p := ⟨_, rfl⟩
    rw [hc] at e1 o1 HV
    rw [hg] at e2 o2 HV
    rw [hp] at e3 o3 HV
    have E1 := Lib.hid e1
    have E2 := Lib.hid e2
    have E3 := Lib.hid e3
    have O1 := Lib.hid (show I64 c ∧ 0 ≤ c ∧ c ≤ 255 from ⟨⟨by omega, by omega⟩, o1.1, o1.2.2 rfl⟩)
    have O2 := Lib.hid (show I64 g ∧ 0 ≤ g ∧ g ≤ 65535 from ⟨⟨by omega, by omega⟩, o2.1, o2.2.1⟩)
    have O3 := Lib.hid (show I64 p ∧ 0 ≤ p ∧ p ≤ 65535 from ⟨⟨by omega, by omega⟩, o3.1, o3.2.1⟩)
    have HC := Lib.hid hc
    have HG := Lib.hid hg
    have HPp := Lib.hid hp
    clear t1 t2 t3 l1 l2 l3 o1 o2 o3 e1 e2 e3 hr1 hr2 hr3 hc hg hp
    go_wp2_with fail
    refine (rnum_calls _ R 1 _ HS2.out (by omega)).mono ?_
    rintro e w3 ⟨rfl, hst, hon⟩
    rw [HR1.out] at hst ⊢
    rw [HC.out, E1.out]
    have HS3 := Lib.hid hst
    have HP3 := Lib.hid (show SpB w3 w.heap.size 0 0 0 none 0 0 from Blk.only HP2.out hon (fun h => hRP h.symm))
    have HB3 := Lib.hid (bel_only HB2.out hon (Nat.le_refl _) (fun i hi => by subst hi; exact hRw))
    clear hst hon HS2
    go_wp2_with fail
    refine (rnum_calls _ R 2 _ HS3.out (by omega)).mono ?_
    rintro e w4 ⟨rfl, hst, hon⟩
    rw [HR2.out] at hst ⊢
    rw [HG.out, E2.out]
    have HS4 := Lib.hid hst
    have HP4 := Lib.hid (show SpB w4 w.heap.size 0 0 0 none 0 0 from Blk.only HP3.out hon (fun h => hRP h.symm))
    have HB4 := Lib.hid (bel_only HB3.out hon (Nat.le_refl _) (fun i hi => by subst hi; exact hRw))
    clear hst hon HS3
    go_wp2_with fail
    refine (rnum_calls _ R 2 _ HS4.out (by omega)).mono ?_
    rintro e w5 ⟨rfl, hst, hon⟩
    rw [HR3.out, HPp.out, E3.out]
    have HP5 := Lib.hid (show SpB w5 w.heap.size 0 0 0 none 0 0 from Blk.only HP4.out hon (fun h => hRP h.symm))
    have HB5 := Lib.hid (bel_only HB4.out hon (Nat.le_refl _) (fun i hi => by subst hi; exact hRw))
    clear hst hon HS4 HR1 HR2 HR3 HC HG HPp E1 E2 E3 hRP
    go_wp2_with fail
    obtain ⟨w6, hw6, hS6, hb6⟩ := one_span w5 g p c none 0 0
    have HS6 := Lib.hid hS6
    have HP6 := Lib.hid (HP5.out.below hb6)
    have HB6 := Lib.hid (bel_next HB5.out hb6 (Nat.le_refl _))
    have hPS : w.heap.size < w5.heap.size := HP5.out.lt
    rw [hw6]
    clear hS6 hb6 hw6
    refine (sizes_calls g p c none 0 0 _ O2.out.1 O3.out.1 O1.out.1).mono ?_
    rintro e w7 ⟨rfl, hb⟩
    have HS7 := Lib.hid (HS6.out.below hb)
    have HP7 := Lib.hid (HP6.out.below hb)
    have HB7 := Lib.hid (bel_next HB6.out hb (Nat.le_refl _))
    rw [perN_cast c]
    have hq32 := perN_le c
    obtain ⟨q, hq⟩ : ∃ q, perN c = q := ⟨_, rfl⟩
    rw [hq] at hq32 ⊢
    have HQ := Lib.hid hq
    obtain ⟨z0, z1, z2, z3⟩ := HP7.out.free
    obtain ⟨y0, y1, y2, y3⟩ := HP7.out.cells
    clear hb hq
    have HNo1 : Hid (zs.length < 13 → ¬ okG zs) := Lib.hid (fun h h2 => by have := h2.1; omega)
    have HNo2 : Hid (q = 0 → ¬ okG zs) := Lib.hid (fun h h2 => h2.2.1 (by have := h2.1; rw [← (HV.out (by omega)).1, HQ.out, h]))
  · by_cases hq0 : q = 0
    · subst hq0
      have HNo := Lib.hid (HNo2.out rfl)
      by_cases hn0 : n < 5
      · go_wp2
        all_goals
          refine bodyPost_ret (v := .tuple #[.agg #[.int .i64 0, .int .i64 0, .int .i64 0, .slice none 0 0], .int .i64 0]) (by simp [results, Try.results22, go_sem, y0, y1, y2, y3]) rfl ?_
          exact get_no HNo.out rfl (below4 HB7.out (Nat.le_refl _) _ _ _ _)
      · go_wp2
        all_goals
          refine bodyPost_ret (v := .tuple #[.agg #[.int .i64 0, .int .i64 0, .int .i64 0, .slice none 0 0], .int .i64 0]) (by simp [results, Try.results22, go_sem, y0, y1, y2, y3]) rfl ?_
          exact get_no HNo.out rfl (below4 HB7.out (Nat.le_refl _) _ _ _ _)
    · have hq1 : 1 ≤ q := by omega
      have hd : ((q : Int) + 63) / 64 = 1 := by omega
      have h13 : n < 13 := by omega
      · have HNo := Lib.hid (HNo1.out (by have := HNn.out; omega))
        go_wp2
        all_goals
          refine bodyPost_ret (v := .tuple #[.agg #[.int .i64 0, .int .i64 0, .int .i64 0, .slice none 0 0], .int .i64 0]) (by simp [results, Try.results22, go_sem, y0, y1, y2, y3]) rfl ?_
          exact get_no HNo.out rfl (below4 HB7.out (Nat.le_refl _) _ _ _ _)
  · by_cases hq0 : q = 0
    · subst hq0
      have HNo := Lib.hid (HNo2.out rfl)
      by_cases hn0 : n < 5
      · go_wp2
        all_goals
          refine bodyPost_ret (v := .tuple #[.agg #[.int .i64 0, .int .i64 0, .int .i64 0, .slice none 0 0], .int .i64 0]) (by simp [results, Try.results22, go_sem, y0, y1, y2, y3]) rfl ?_
          exact get_no HNo.out rfl (below4 HB7.out (Nat.le_refl _) _ _ _ _)
      · go_wp2
        all_goals
          refine bodyPost_ret (v := .tuple #[.agg #[.int .i64 0, .int .i64 0, .int .i64 0, .slice none 0 0], .int .i64 0]) (by simp [results, Try.results22, go_sem, y0, y1, y2, y3]) rfl ?_
          exact get_no HNo.out rfl (below4 HB7.out (Nat.le_refl _) _ _ _ _)
    · have hq1 : 1 ≤ q := by omega
      have hd : ((q : Int) + 63) / 64 = 1 := by omega
      by_cases h13 : n < 13
      · have HNo := Lib.hid (HNo1.out (by have := HNn.out; omega))
        go_wp2
        all_goals
          refine bodyPost_ret (v := .tuple #[.agg #[.int .i64 0, .int .i64 0, .int .i64 0, .slice none 0 0], .int .i64 0]) (by simp [results, Try.results22, go_sem, y0, y1, y2, y3]) rfl ?_
          exact get_no HNo.out rfl (below4 HB7.out (Nat.le_refl _) _ _ _ _)
      · have h5n : 5 ≤ zs.length := by have := HNn.out; omega
        obtain ⟨v1, v2, v3⟩ := HV.out h5n
        subst v1 v2 v3
        obtain ⟨b, o, rfl, hbl, hcell⟩ := HRw.out.resolve_left (by omega)
        have hwl : ((zs.drop 5).take 8).length = 8 := by rw [List.length_take, List.length_drop, HNn.out]; omega
        have hrd : RdAt w (some ⟨b, o + 5, none⟩) ((zs.drop 5).take 8).length (octV ((zs.drop 5).take 8)) := by
          refine .inr ⟨b, o + 5, rfl, hbl, fun i v hi => ?_⟩
          unfold octV at hi hcell
          rw [List.getElem?_map, List.getElem?_take] at hi
          split at hi
          · rw [List.getElem?_drop] at hi
            have := hcell (5 + i) v (by rw [List.getElem?_map]; exact hi)
            rwa [show o + 5 + i = o + (5 + i) by omega]
          · simp at hi
        have HRd := Lib.hid hrd
        have HWl := Lib.hid hwl
        have hc5 : ¬ cap = 5 := by omega
        have hqb : ((q : Int) == 0) = false := by rw [beq_eq_false_iff_ne]; omega
        clear HNo1 HNo2 HV hrd hwl hcell
        go_wp2_with fail
        have hcall := read_calls w7 (some ⟨b, o + 5, none⟩) (cap - 5) ((zs.drop 5).take 8) (HRd.out.below (HB7.out.mono (Nat.le_refl _))) ((HZ.out.drop 5).take 8) (by rw [HWl.out]; omega)
        rw [HWl.out] at hcall
        refine hcall.mono ?_
        rintro e w8 ⟨R2, rfl, hR2, hst, hb⟩
        have HS8 := Lib.hid (HS7.out.below hb)
        have HP8 := Lib.hid (HP7.out.below hb)
        have HB8 := Lib.hid (bel_next HB7.out hb (Nat.le_refl _))
        have HSt := Lib.hid hst
        have hSR : w5.heap.size ≠ R2 ∧ w.heap.size ≠ R2 ∧ w.heap.size ≤ R2 := by have := HS7.out.lt; omega
        have HSz := Lib.hid hSR
        clear hcall hst hb y0 y1 y2 y3 z0 z1 z2 z3
        go_wp2_with fail
        have HPS := Lib.hid (show w.heap.size ≠ w5.heap.size by omega)
        have HPSl := Lib.hid (show w.heap.size ≤ w5.heap.size by omega)
        generalize w5.heap.size = S at *
        go_loopg [] 1 (fun qq wx => (qq = 1 ∧ Hid (RSt wx R2 (some ((zs.drop 5).take 8)) ∧ SpB wx S (pgO zs) (psO zs) (clO zs) none 0 0 ∧ SpB wx w.heap.size 0 0 0 none 0 0 ∧ Below w.heap.size w wx)) ∨ (qq = 0 ∧ ∃ A' c', Hid (RSt wx R2 (some []) ∧ SpB wx S (pgO zs) (psO zs) (clO zs) A' 1 c' ∧ SpB wx w.heap.size 0 0 0 none 0 0 ∧ Below w.heap.size w wx ∧ WordsAt wx A' 1 (fO zs))))
        case atStart => exact .inl ⟨rfl, Lib.hid ⟨HSt.out, HS8.out, HP8.out, HB8.out⟩⟩
        case round =>
          rcases hrel with ⟨hq1, hI⟩ | ⟨hq0, A', c', hI⟩
          · have HTk := Lib.hid (show oc.oct (tkL (some ((zs.drop 5).take 8)) 8).1 = wO zs by
              have : tkL (some ((zs.drop 5).take 8)) 8 = (((zs.drop 5).take 8).take 8, some (((zs.drop 5).take 8).drop 8)) := if_pos (by rw [HWl.out]; omega)
              rw [this, List.take_take]; rfl)
            have HTk2 := Lib.hid (show (tkL (some ((zs.drop 5).take 8)) 8).2 = some [] by
              have : tkL (some ((zs.drop 5).take 8)) 8 = (((zs.drop 5).take 8).take 8, some (((zs.drop 5).take 8).drop 8)) := if_pos (by rw [HWl.out]; omega)
              rw [this]
              show some (((zs.drop 5).take 8).drop 8) = some []
              rw [List.drop_eq_nil_of_le (show ((zs.drop 5).take 8).length ≤ 8 by rw [HWl.out]; omega)])
            have HId := hI
            have HIr := Lib.hid (show RSt wr.drew R2 (some ((zs.drop 5).take 8)) from hI.out.1)
            go_wp2_with fail
            refine (left_calls _ R2 _ HId.out.1).mono ?_
            rintro e w8' ⟨rfl, rfl⟩
            rw [show (((some ((zs.drop 5).take 8)).getD []).length : Nat) = 8 from HWl.out]
            have c3 : wr.drew.cell? ⟨S, 3, none⟩ = some (.slice none 0 0) := HId.out.2.1.cells.2.2.2
            have HSl := Lib.hid HId.out.2.1.lt
            go_wp2_with fail
            refine wp_region_any (by kernel_rfl) ?_
            try (change wpAny _ _ _ _ _ _ _ (World.drew _))
            refine wpAny_take (i := 0) (v := .pointer (some ⟨S, 3, none⟩)) rfl (by kernel_rfl) (by kernel_rfl) (by kernel_rfl) (fun _ _ _ h => h) (Or.inl ⟨by kernel_rfl, by intro w; go_simp⟩) ?_
            refine wpAny_take (i := 2) (v := .pointer (some ⟨R2, 0, none⟩)) rfl (by kernel_rfl) (by kernel_rfl) (by kernel_rfl) (fun _ _ _ h => h) (Or.inl ⟨by kernel_rfl, by intro w; go_simp⟩) ?_
            refine wpAny_ready (rs := [1, 3]) (by kernel_rfl) (by simp) ?_
            refine AllReady.cons rfl (fun K hK => ?_) (AllReady.cons rfl (fun K hK => ?_) AllReady.nil)
            case' refine_1 =>
              go_simp
              refine hK _ _ ?_
              clear hK K
              refine wpAny_ready (rs := [3]) (by kernel_rfl) (by simp) ?_
              refine AllReady.cons rfl (fun K hK => ?_) AllReady.nil
              go_simp
              go_wp2_with (go_at_call 46; refine (rnum_calls wr.drew R2 8 (some ((zs.drop 5).take 8)) HIr.out (by omega)).mono ?_; rintro e w9 ⟨rfl, hst, hon⟩; have HSt9 := Lib.hid hst; have HOn9 := Lib.hid hon; rw [HTk.out]; have d3 : w9.cell? ⟨S, 3, none⟩ = some (.slice none 0 0) := (World.cell?_of_block (hon.block S HSl.out (fun h => HSz.out.1 h))).trans c3; have hne9 : ¬ S = w9.heap.size := (by have h1 : wr.heap.size ≤ w9.heap.size := hon.size; have h2 := HSl.out; omega); have d4 : ∀ ob, (w9.alloc ob).cell? ⟨S, 3, none⟩ = some (.slice none 0 0) := (fun ob => (World.cell?_of_block (Below.heap_alloc w9 ob S (by have h1 : wr.heap.size ≤ w9.heap.size := hon.size; have h2 := HSl.out; omega))).trans d3); clear hst hon)
              try clear hK K
              refine wpAny_ready (rs := [4]) (by kernel_rfl) (by simp) ?_
              refine AllReady.cons rfl (fun K hK => ?_) AllReady.nil
              go_simp
              refine hK _ _ ?_
              clear hK K
              refine wpAny_ready (rs := [5]) (by kernel_rfl) (by simp) ?_
              refine AllReady.cons rfl (fun K hK => ?_) AllReady.nil
              go_simp
              refine hK _ _ ?_
              clear hK K
            case' refine_2 =>
              go_simp
              go_wp2_with (go_at_call 46; refine (rnum_calls wr.drew R2 8 (some ((zs.drop 5).take 8)) HIr.out (by omega)).mono ?_; rintro e w9 ⟨rfl, hst, hon⟩; have HSt9 := Lib.hid hst; have HOn9 := Lib.hid hon; rw [HTk.out]; have d3 : w9.cell? ⟨S, 3, none⟩ = some (.slice none 0 0) := (World.cell?_of_block (hon.block S HSl.out (fun h => HSz.out.1 h))).trans c3; have hne9 : ¬ S = w9.heap.size := (by have h1 : wr.heap.size ≤ w9.heap.size := hon.size; have h2 := HSl.out; omega); have d4 : ∀ ob, (w9.alloc ob).cell? ⟨S, 3, none⟩ = some (.slice none 0 0) := (fun ob => (World.cell?_of_block (Below.heap_alloc w9 ob S (by have h1 : wr.heap.size ≤ w9.heap.size := hon.size; have h2 := HSl.out; omega))).trans d3); clear hst hon)
              try clear hK K
              refine wpAny_ready (rs := [1, 4]) (by kernel_rfl) (by simp) ?_
              refine AllReady.cons rfl (fun K hK => ?_) (AllReady.cons rfl (fun K hK => ?_) AllReady.nil)
              case' refine_1 =>
                go_simp
                refine hK _ _ ?_
                clear hK K
                refine wpAny_ready (rs := [4]) (by kernel_rfl) (by simp) ?_
                refine AllReady.cons rfl (fun K hK => ?_) AllReady.nil
                go_simp
                refine hK _ _ ?_
                clear hK K
                refine wpAny_ready (rs := [5]) (by kernel_rfl) (by simp) ?_
                refine AllReady.cons rfl (fun K hK => ?_) AllReady.nil
                go_simp
                refine hK _ _ ?_
                clear hK K
              case' refine_2 =>
                go_simp
                refine hK _ _ ?_
                clear hK K
                refine wpAny_ready (rs := [1, 5]) (by kernel_rfl) (by simp) ?_
                refine AllReady.cons rfl (fun K hK => ?_) (AllReady.cons rfl (fun K hK => ?_) AllReady.nil)
                case' refine_1 =>
                  go_simp
                  refine hK _ _ ?_
                  clear hK K
                  refine wpAny_ready (rs := [5]) (by kernel_rfl) (by simp) ?_
                  refine AllReady.cons rfl (fun K hK => ?_) AllReady.nil
                  go_simp
                  refine hK _ _ ?_
                  clear hK K
                case' refine_2 =>
                  go_simp
                  refine hK _ _ ?_
                  clear hK K
                  refine wpAny_ready (rs := [1]) (by kernel_rfl) (by simp) ?_
                  refine AllReady.cons rfl (fun K hK => ?_) AllReady.nil
                  go_simp
                  refine hK _ _ ?_
                  clear hK K
            all_goals
              have hxv : IntKind.u64.wrap (wrap64 (wO zs)) = wO zs := by
                have := wO_rng HZ.out
                rw [IntKind.wrap_u64]
                unfold wrap64
                omega
              rw [hxv]
              have hst9 := HSt9.out
              rw [HTk2.out] at hst9
              have hbl9 := Blk.new w9 #[.int .u64 (wO zs)] 31
              have hSl9 : wr.heap.size ≤ w9.heap.size := HOn9.out.size
              have hBs := HId.out.2.2.2.size
              have hSb : SpB w9 S (pgO zs) (psO zs) (clO zs) none 0 0 := Blk.only (w := wr.drew) HId.out.2.1 HOn9.out (fun h => HSz.out.1 h)
              have hPb : SpB w9 w.heap.size 0 0 0 none 0 0 := Blk.only (w := wr.drew) HId.out.2.2.1 HOn9.out (fun h => HSz.out.2.1 h)
              have hB9 : Below w.heap.size w w9 := bel_only (b := wr.drew) HId.out.2.2.2.drew HOn9.out (Nat.le_refl _) (fun i hi => by subst hi; exact HSz.out.2.2)
              have hBa : Below w9.heap.size w9 (w9.alloc (.cells #[.int .u64 (wO zs)] 31)) := (Below.refl _ _).alloc (Nat.le_refl _) _
              refine wpAny_ready (rs := [6]) (by kernel_rfl) (by simp) ?_
              refine AllReady.cons rfl (fun K hK => ?_) AllReady.nil
              refine step_append_rd rfl (.tmp 50) (.tmp 54) 22 rfl (w9.heap.size + 1) 31 i0 _ 1 8 Try.underlying22 hi hz0 hz1 hz2 rfl (by decide) (.slice none 0 0) 0 [] rfl (World.ownsRow_nil _ _ _ _) (some ⟨w9.heap.size, 0, none⟩) 1 1 rfl [.int .u64 (wO zs)] rfl (RdAt.of_blk hbl9) (fun u hu => by obtain rfl := List.mem_singleton.1 hu; rfl) (by omega) (by unfold maxLen; omega) (by simp) ?_
              intro v2 w10 hown2 hgr2 hnew2
              refine hK _ _ ?_
              obtain ⟨A2, c2, rfl⟩ := ownsRow_slice hown2
              have hB10 : Below w9.heap.size w9 w10 := hBa.grown hgr2 hBa.size (fun k hk => by simp [Value.ownBlock] at hk)
              have hA2 : ∀ x o, A2 = some ⟨x, o, none⟩ → x ≠ S := fun x o he => by
                have h1 := (hown2.lt x (by rw [he]; rfl)).1
                have h2 := hSb.lt
                omega
              have hW2 : WordsAt w10 A2 1 (fO zs) := ⟨by rw [← fO_wd HZ.out]; exact RdAt.of_own hown2, fO_out zs, by omega⟩
              have hS10 := hSb.below hB10
              have HRes := Lib.hid (show RSt (w10.setCell ⟨S, 3, none⟩ (.slice A2 1 c2)) R2 (some []) ∧ SpB (w10.setCell ⟨S, 3, none⟩ (.slice A2 1 c2)) S (pgO zs) (psO zs) (clO zs) A2 1 c2 ∧ SpB (w10.setCell ⟨S, 3, none⟩ (.slice A2 1 c2)) w.heap.size 0 0 0 none 0 0 ∧ Below w.heap.size w (w10.setCell ⟨S, 3, none⟩ (.slice A2 1 c2)) ∧ WordsAt (w10.setCell ⟨S, 3, none⟩ (.slice A2 1 c2)) A2 1 (fO zs) from
                ⟨(hst9.below hB10).set_other (fun h => HSz.out.1 h.symm) _ _, Blk.set hS10 3 (.slice A2 1 c2), Blk.set_other (hPb.below hB10) HPS.out _ _, (bel_next hB9 hB10 (Nat.le_refl _)).setCell (p := ⟨S, 3, none⟩) HPSl.out _, hW2.set1 hA2 _ _⟩)
              have k1 := hS10.free.2.2.2
              have k2 := hS10.cells.2.2.2
              clear hK K hown2 hgr2 hnew2 hst9 hbl9 hSb hPb hB9 hBa hB10 hA2 hW2 hS10 c3 d3 d4
              refine wpAny_ready (rs := [7]) (by kernel_rfl) (by simp) ?_
              refine AllReady.cons rfl (fun K hK => ?_) AllReady.nil
              go_simp
              refine hK _ _ ?_
              clear hK K
              refine wpAny_ready (rs := [8]) (by kernel_rfl) (by simp) ?_
              refine AllReady.cons rfl (fun K hK => ?_) AllReady.nil
              go_simp
              refine hK _ _ ?_
              clear hK K
              refine wpAny_done (by kernel_rfl) ?_ _
              go_wp2
              go_roundg 0
              case measure => omega
              case rel => exact .inr ⟨rfl, A2, c2, HRes⟩
          · have HId := hI
            go_wp2_with fail
            refine (left_calls _ R2 _ HId.out.1).mono ?_
            rintro e w8' ⟨rfl, rfl⟩
            rw [show (((some ([] : List Int)).getD []).length : Nat) = 0 from rfl]
            obtain ⟨s0, s1, s2, s3⟩ := HId.out.2.1.cells
            go_wp2_with fail
            refine (right_calls (pgO zs) (psO zs) (clO zs) A' 1 c' (fO zs) _ O2.out.1 O3.out.1 O1.out.1 HId.out.2.2.2.2).mono ?_
            rintro e w9 ⟨bb, rfl, hbb, hb⟩
            have HBb := Lib.hid hbb
            have HB9 := Lib.hid (bel_next HId.out.2.2.2.1 hb (Nat.le_refl _))
            have HP9 := Lib.hid (HId.out.2.2.1.below hb)
            have HS9 := Lib.hid (HId.out.2.1.below hb)
            have HW9 := Lib.hid (HId.out.2.2.2.2.below hb)
            obtain ⟨z0, z1, z2, z3⟩ := HP9.out.free
            obtain ⟨y0, y1, y2, y3⟩ := HP9.out.cells
            obtain ⟨s0', s1', s2', s3'⟩ := HS9.out.cells
            clear s0 s1 s2 s3 hbb hb
            cases bb
            · have HNo := Lib.hid (show ¬ okG zs from fun h => by have := HBb.out.2 h.2.2; cases this)
              go_wp2
              refine bodyPost_ret (v := .tuple #[.agg #[.int .i64 0, .int .i64 0, .int .i64 0, .slice none 0 0], .int .i64 0]) (by simp [results, Try.results22, go_sem, y0, y1, y2, y3]) rfl ?_
              exact get_no HNo.out rfl (below4 HB9.out (Nat.le_refl _) _ _ _ _)
            · have HYes := Lib.hid (show okG zs from ⟨by have := HNn.out; omega, by rw [HQ.out]; omega, HBb.out.1 rfl⟩)
              go_wp2
              refine bodyPost_ret (v := .tuple #[.agg #[.int .i64 (pgO zs), .int .i64 (psO zs), .int .i64 (clO zs), .slice A' 1 c'], .int .i64 13]) (by simp [results, Try.results22, go_sem, y0, y1, y2, y3]) rfl ?_
              exact get_yes HYes.out rfl (WordsAt.store HW9.out HP9.out _ _ _ _) (below4 HB9.out (Nat.le_refl _) _ _ _ _)
end Go.Proofs.Ytakcdkcikopoiaa
