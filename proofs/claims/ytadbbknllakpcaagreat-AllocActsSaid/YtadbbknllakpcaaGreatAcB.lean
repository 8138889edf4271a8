/- The document's heap: Free. -/
import Derived.Test.YtadbbknllakpcaaGreatAcA
import Derived.OwnWalk
namespace Go.Proofs.YtadbbknllakpcaaGreat
open Go.RowKit
set_option linter.unusedVariables false

/-- A span that is no more. -/
theorem set_gone {S : List Sp} (hr : Rise (pagesS S)) {s s' : Sp} {i : Nat} (hs : S[i]? = some s) (hp : s'.pg = s.pg) (hc : ¬ 0 < s'.cnt) : S.take i ++ S.drop (i + 1) = setS S s' := by
  have h1 : ∀ t ∈ S.take i, t.pg < s'.pg := fun t ht => by
    obtain ⟨k, hk, hkt⟩ := takeAt ht
    unfold Rise pagesS at hr
    have h1 := (List.getElem?_eq_some_iff.1 hkt).1
    have h2 := (List.getElem?_eq_some_iff.1 hs).1
    have := List.pairwise_iff_getElem.1 hr k i (by simpa using h1) (by simpa using h2) hk
    simp only [List.getElem_map, (List.getElem?_eq_some_iff.1 hkt).2, (List.getElem?_eq_some_iff.1 hs).2] at this
    omega
  have h2 := drop_gt hr hs (x := s'.pg) (by omega)
  have f1 : (S.take i).filter (fun t => decide (t.pg < s'.pg)) = S.take i := List.filter_eq_self.2 (fun t ht => decide_eq_true (h1 t ht))
  have f2 : (S.take i).filter (fun t => decide (s'.pg < t.pg)) = [] := List.filter_eq_nil_iff.2 (fun t ht => by simp only [decide_eq_true_eq]; have := h1 t ht; omega)
  have f3 : (S.drop (i + 1)).filter (fun t => decide (t.pg < s'.pg)) = [] := List.filter_eq_nil_iff.2 (fun t ht => by simp only [decide_eq_true_eq]; have := h2 t ht; omega)
  have f4 : (S.drop (i + 1)).filter (fun t => decide (s'.pg < t.pg)) = S.drop (i + 1) := List.filter_eq_self.2 (fun t ht => decide_eq_true (h2 t ht))
  have hsp : S.take i ++ s :: S.drop (i + 1) = S := by
    have := (List.getElem?_eq_some_iff.1 hs).2
    rw [← this, List.getElem_cons_drop, List.take_append_drop]
  unfold setS
  rw [if_neg hc]
  have e1 : S.filter (fun t => decide (t.pg < s'.pg)) = S.take i := by
    have h3 := congrArg (List.filter (fun t => decide (t.pg < s'.pg))) hsp
    rw [List.filter_append, List.filter_cons, f1, f3, if_neg (by simp only [decide_eq_true_eq]; omega), List.append_nil] at h3
    exact h3.symm
  have e2 : S.filter (fun t => decide (s'.pg < t.pg)) = S.drop (i + 1) := by
    have h3 := congrArg (List.filter (fun t => decide (s'.pg < t.pg))) hsp
    rw [List.filter_append, List.filter_cons, f2, f4, if_neg (by simp only [decide_eq_true_eq]; omega), List.nil_append] at h3
    exact h3.symm
  rw [e1, e2]
  rfl
/-- The shorter list, noted in the heap's block. -/
theorem gone_made {w w9 : World} {R cap i : Nat} {A : Option Addr} {Z : List Zp} {K : Nat → Prop} {S' : List Sp} {v : Value} (h : RHp w R A cap Z K) (hK : ∀ k, K k → k < w.heap.size) (hS : (spsZ Z).take i ++ (spsZ Z).drop (i + 1) = S') (hinv : Inv S')
    (hb : Below w.heap.size w w9) (ho : w9.ownsRow w.heap.size 27 4 v (Z.take i ++ Z.drop (i + 1)).length (cz (Z.take i ++ Z.drop (i + 1)))) :
    RStep w (w9.setCell ⟨R, 0, none⟩ v) R S' K := by
  obtain ⟨A', c', rfl⟩ := ownsRow_slice ho
  have hR := h.blk.lt
  have hsz := hb.size
  have ho9 : Only (fun k => k = R) w (w9.setCell ⟨R, 0, none⟩ (.slice A' (Z.take i ++ Z.drop (i + 1)).length c')) := (Only.of_below (S := fun k => k = R) hb).set (p := ⟨R, 0, none⟩) (fun _ => rfl) _
  have hone : Only (fun k => k = R) w9 (w9.setCell ⟨R, 0, none⟩ (.slice A' (Z.take i ++ Z.drop (i + 1)).length c')) := (Only.refl (fun k => k = R) w9).set (p := ⟨R, 0, none⟩) (fun _ => rfl) _
  have hsp : spsZ (Z.take i ++ Z.drop (i + 1)) = S' := by
    rw [← hS]
    unfold spsZ
    simp [List.map_take, List.map_drop]
  refine ⟨A', c', Z.take i ++ Z.drop (i + 1), hsp, ⟨?_, ⟨?_, ?_, ?_⟩, by rw [hsp]; exact hinv, own_capZ ho, h.own⟩, ho9⟩
  · exact ((h.blk.below hb).set 0 (.slice A' (Z.take i ++ Z.drop (i + 1)).length c'))
  · exact (RdAt.of_own ho).only hone (fun x y e hx => by
      subst e
      have := (ho.lt x rfl).1
      omega)
  · intro b o e
    subst e
    have := ho.lt b rfl
    refine ⟨?_, fun hk => by have := hK b hk; omega⟩
    have := hone.size
    omega
  · intro z hz
    have h1 : z ∈ Z := by
      rcases List.mem_append.1 hz with h1 | h1
      · exact List.mem_of_mem_take h1
      · exact List.mem_of_mem_drop h1
    have := h.at'.wrd z h1
    exact ⟨this.1.only ho9 (fun x y e hx => by subst hx; exact this.2.not _ y e h.own), this.2.grow ho9.size⟩
theorem gone_list {w9 : World} {b i m : Nat} {v : Value} {Z : List Zp} (hi : i ≤ Z.length) (hm : i + 1 + m = Z.length) (h : w9.ownsRow b 27 4 v (0 + i + m) ([] ++ cz (Z.take i) ++ cz (Z.drop (i + 1)))) :
    w9.ownsRow b 27 4 v (Z.take i ++ Z.drop (i + 1)).length (cz (Z.take i ++ Z.drop (i + 1))) := by
  rw [show (Z.take i ++ Z.drop (i + 1)).length = 0 + i + m by simp; omega, cz_append]
  exact h
theorem RStep.wide {w w' : World} {R : Nat} {S : List Sp} {K K' : Nat → Prop} (h : RStep w w' R S K) (hk : ∀ k, K' k → K k) (hR : K' R) : RStep w w' R S K' := by
  obtain ⟨A, cap, Z, h1, h2, h3⟩ := h
  exact ⟨A, cap, Z, h1, h2.wide (fun k _ => hk k) hR, h3⟩
/-- .. and then a block of the call's own is written. -/
theorem RStep.poke {w0 w w' w'' : World} {R X : Nat} {S : List Sp} {K : Nat → Prop} (h : RStep w w' R S K) (h0 : Below w0.heap.size w0 w) (hX : K X) (hXR : X ≠ R) (hX0 : w0.heap.size ≤ X) (o : Only (· = X) w' w'') : RStep w0 w'' R S K := by
  obtain ⟨A, cap, Z, h1, h2, h3⟩ := h
  refine ⟨A, cap, Z, h1, h2.only o (fun k hk => by subst hk; exact hX) (fun e => hXR e.symm), ?_⟩
  exact ((Only.of_below (S := (· = R)) h0).trans h3 (fun _ _ h => h)).trans o (fun i hi e => by omega)
theorem RHp.still {w0 w : World} {R cap : Nat} {A : Option Addr} {Z : List Zp} {K : Nat → Prop} (h : RHp w R A cap Z K) (h0 : Below w0.heap.size w0 w) : RStep w0 w R (spsZ Z) K := ⟨A, cap, Z, rfl, h, Only.of_below h0⟩
set_option maxRecDepth 8000 in
set_option maxHeartbeats 8000000 in
theorem rfree17_calls (w : World) (R cap : Nat) (A : Option Addr) (Z : List Zp) (K : Nat → Prop) (h : RHp w R A cap Z K) (hK : ∀ k, K k → k < w.heap.size) (x : Int) (hx : I64 x) :
    Calls Tryz.prog 11 #[.pointer (some ⟨R, 0, none⟩), .int .i64 x] w fun e w' => ∃ r n er S', e = .returned (.tuple #[.agg #[.int .i64 r, .int .i64 n], .int .i64 er]) ∧ (∃ l l', FreeL (spsZ Z) l x r n er S' l') ∧ RStep w w' R S' K := by
  obtain ⟨i0, hi0, hz0, hz1, hz2⟩ := info_parts info_SpanH
  obtain ⟨w1, hw1, hS1, hB1⟩ := one_row w 0 0
  have hlen := h.len
  have hRlt := h.blk.lt
  have hsz1 : w1.heap.size = w.heap.size + 1 := by rw [← hw1]; simp
  have HR1 := Lib.hid ((h.wide (K' := fun k => K k ∨ k = w.heap.size) (fun k hk h => h.elim id (fun e => by omega)) (.inl h.own)).below hB1)
  have HK := Lib.hid (show ∀ k, (K k ∨ k = w.heap.size) → k < w1.heap.size from fun k hk => by
    rcases hk with h1 | h1
    · have := hK k h1; omega
    · omega)
  have HOwn := Lib.hid h.own
  have HI := Lib.hid h.inv
  have HCap := Lib.hid h.cap
  have HX := Lib.hid hx
  have HRow1 := Lib.hid hS1
  have HB1 := Lib.hid hB1
  clear h hK hx hS1 hB1
  go_enter Tryz.func11, Tryz.ntmps11
  go_wp2_with fail
  clear hw1
  obtain ⟨Y, hY⟩ : ∃ Y, w.heap.size = Y := ⟨_, rfl⟩
  rw [hY]
  have HY := Lib.hid hY
  rw [hY] at HR1 HK HRow1 hsz1 hRlt
  clear hY
  go_loopg [6] Z.length (fun q s6 wr => ∃ i, q = Z.length - i ∧ i ≤ Z.length ∧ s6 = .int .i64 (i : Int) ∧ Hid (∀ t ∈ (spsZ Z).take i, ∀ q : Nat, q < t.per → t.f q = true → x ≠ t.at q) ∧ Hid (Below w1.heap.size w1 wr))
  case atStart => exact ⟨0, by omega, by omega, rfl, Lib.hid (fun t ht => by simp at ht), Lib.hid (Below.refl _ _)⟩
  case round =>
    obtain ⟨i, hq, hil, rfl, hno, hb⟩ := hrel
    have HRr := Lib.hid (HR1.out.below hb.out)
    have HRw := Lib.hid (Blk.below HRow1.out hb.out)
    have hcell := HRr.out.cell
    by_cases hlt : i < Z.length
    · obtain ⟨z, hz⟩ : ∃ z, Z[i]? = some z := ⟨_, List.getElem?_eq_getElem hlt⟩
      obtain ⟨b, o, rfl, hbl, f0, f1, f2, f3⟩ := HRr.out.at'.four hz
      have HM := Lib.hid (HRr.out.mem hz)
      have HZ := Lib.hid hz
      have HLt := Lib.hid hlt
      clear hz
      go_wp2_with fail
      refine (give15r_calls z.1.pg z.1.ps z.1.cl z.2.1 z.1.len z.2.2 z.1.f x wr HM.out.1 HX.out HM.out.2.2).mono ?_
      rintro e w2 ⟨hb2, hcs⟩
      have HB2 := Lib.hid (bel_next hb.out hb2 (Nat.le_refl _))
      clear hb2 hcell f0 f1 f2 f3
      rcases hcs with ⟨rfl, hnx⟩ | ⟨q, A', cap', rfl, hi, hf, hxi, hW2, hA2⟩
      · obtain ⟨w3, hw3, hS3, hB3⟩ := one_span w2 0 0 0 none 0 0
        have HB3 := Lib.hid (bel_next HB2.out hB3 (Nat.le_refl _))
        have HN := Lib.hid (show ∀ t ∈ (spsZ Z).take (i + 1), ∀ q : Nat, q < t.per → t.f q = true → x ≠ t.at q from fun t ht => by
          rw [List.take_add_one, spsZ_at HZ.out] at ht
          rcases List.mem_append.1 ht with h1 | h1
          · exact hno.out t h1
          · simp at h1; subst h1
            exact hnx)
        obtain ⟨t0, t1, t2, t3⟩ := hS3.cells
        obtain ⟨e0, e1, e2, e3⟩ := hS3.free
        have hbig : w1.heap.size ≤ w2.heap.size := HB2.out.size
        clear hnx hS3 hB3
        unfold spV
        go_wp2
        go_roundg (Z.length - (i + 1))
        case measure => first | (rw [hq]; exact Nat.sub_lt_sub_left HLt.out (Nat.lt_succ_self _)) | exact Nat.sub_lt_sub_left HLt.out (Nat.lt_succ_self _)
        case rel => exact ⟨i + 1, rfl, HLt.out, by go_num, HN, Lib.hid (below4 HB3.out hbig _ _ _ _)⟩
      · obtain ⟨w3, hw3, hS3, hB3⟩ := one_span w2 z.1.pg z.1.ps z.1.cl A' z.1.len cap'
        have HB3 := Lib.hid (bel_next HB2.out hB3 (Nat.le_refl _))
        have HS3 := Lib.hid hS3
        have HW3 := Lib.hid (hW2.below hB3)
        have HF3 := Lib.hid (show Far w3 (fun k => K k ∨ k = Y) A' from fun y o2 e => ⟨by have h1 := hW2.lt HM.out.1.len1 y o2 e; have := hB3.size; omega, fun h => by have h1 := hA2 y o2 e; have h2 := HK.out y h; have := hb.out.size; omega⟩)
        have HG := Lib.hid (And.intro hi (And.intro hf hxi))
        have HOk := Lib.hid (HM.out.1.with (i := q) hi false)
        have HIn := Lib.hid (inv_with HI.out (List.mem_of_getElem? (spsZ_at HZ.out)) (i := q) hi false)
        have hbig : Y < w2.heap.size := by have := HB2.out.size; omega
        obtain ⟨s0, s1, s2, s3⟩ := hS3.cells
        clear hi hf hxi hW2 hA2 hB3 hS3
        unfold spV
        go_wp2_with fail
        obtain ⟨X, hX⟩ : ∃ X, w2.heap.size = X := ⟨_, rfl⟩
        rw [hX] at HS3 s0 s1 s2 s3 hbig
        rw [hX]
        clear hw3 hX
        refine (right15_calls z.1.pg z.1.ps z.1.cl A' z.1.len cap' (z.1.with q false).f _ HM.out.1.i64.1 HM.out.1.i64.2.1 HM.out.1.i64.2.2 HW3.out).mono ?_
        rintro e w4 ⟨bb, rfl, hbb, hb4⟩
        have HB4 := Lib.hid (bel_next HB3.out hb4 (Nat.le_refl _))
        have HS4 := Lib.hid (SpB.below HS3.out hb4)
        have HW4 := Lib.hid (HW3.out.below hb4)
        have HF4 := Lib.hid (HF3.out.grow hb4.size)
        have HR4 := Lib.hid (HR1.out.below HB4.out)
        have HK4 := Lib.hid (show ∀ k, (K k ∨ k = Y) → k < w4.heap.size from fun k hk => by have := HK.out k hk; have := HB4.out.size; omega)
        have HBb := Lib.hid (show bb = true ↔ 0 < (z.1.with q false).cnt from hbb.trans ⟨fun h => h.2, fun h => ⟨HOk.out, h⟩⟩)
        obtain ⟨s0, s1, s2, s3⟩ := HS4.out.cells
        clear hbb hb4
        cases bb
        · have hcnt : ¬ 0 < (z.1.with q false).cnt := fun h => by have := HBb.out.2 h; cases this
          have HGn := Lib.hid (set_gone (s' := z.1.with q false) HI.out.rise (spsZ_at HZ.out) rfl hcnt)
          obtain ⟨b2, o2, he2, hbl2, f0, f1, f2, f3⟩ := HR4.out.at'.four HZ.out
          cases he2
          have hcell := HR4.out.cell
          have hbs4 : w4.heap.size ≤ w4.heap.size := Nat.le_refl _
          have HO4 := Lib.hid (World.ownsRow_nil w4 w4.heap.size 27 4)
          have hrd0 : RdAt w4 (some ⟨b, o, none⟩) i (cz (Z.take i)) := by
            rcases HR4.out.at'.rd with h | ⟨b3, o3, he, hl, hc⟩
            · omega
            · cases he
              exact .inr ⟨_, _, rfl, hl, fun j u hu => hc j u (by rw [← cz_take] at hu; have := (List.getElem?_eq_some_iff.1 hu).1; rw [List.length_take] at this; rw [List.getElem?_take_of_lt (by omega)] at hu; exact hu)⟩
          have hic : i ≤ cap := by have := HCap.out; omega
          by_cases hcp : cap = i + 1
          · go_wp2_with (first | (at_builtin; refine wpList_append_rd rfl (.tmp 39) (.tmp 45) 22 rfl w4.heap.size 27 i0 _ 4 48 Tryz.underlying22 hi0 hz0 hz1 hz2 rfl (by decide) (.slice none 0 0) 0 [] rfl HO4.out _ _ _ rfl (cz (Z.take i)) (by rw [cz_len, List.length_take]; omega) hrd0 (cz_one _) (by omega) (by unfold maxLen; omega) hbs4 ?_; intro v5 w5 hown5 hgr5 hnew5 _; have HO5 := Lib.hid hown5; have HB5 := Lib.hid (own_grown (Below.refl w4.heap.size w4) HO4.out (Nat.le_refl _) hgr5); have HR5 := Lib.hid (HR4.out.below HB5.out); have hcell5 := HR5.out.cell; have hbs5 : w4.heap.size ≤ w5.heap.size := HB5.out.size; clear hown5 hgr5 hnew5) | (at_builtin; refine wpList_append_rd rfl (.tmp 48) (.tmp 55) 22 rfl w4.heap.size 27 i0 _ 4 48 Tryz.underlying22 hi0 hz0 hz1 hz2 rfl (by decide) v5 (0 + i) _ rfl HO5.out _ _ _ rfl (cz []) (by have := HCap.out; simp [cz]; omega) (.inl (by have := HCap.out; omega)) (cz_one _) (by omega) (by unfold maxLen; omega) hbs5 ?_; intro v6 w6 hown6 hgr6 hnew6 _; obtain ⟨A6, c6, rfl⟩ := ownsRow_slice hown6; have HB6 := Lib.hid (own_grown HB5.out HO5.out hbs4 hgr6); have hfr6 := (HR4.out.blk.below HB6.out).free 0; have hcl6 := (HR4.out.below HB6.out).cell; have HO6 := Lib.hid hown6; clear hown6 hgr6 hnew6; have hst := gone_made HR4.out HK4.out HGn.out HIn.out HB6.out (gone_list (i := i) (m := Z.length - (i + 1)) (by omega) (by have := HCap.out; omega) (by have h := HO6.out; rw [List.drop_of_length_le (by have := HCap.out; omega)]; exact h)); have hS7 := SpB.below HS4.out HB6.out; have hrow7 : RowC w6 Y 0 0 := Blk.below (Blk.below HRow1.out HB4.out) HB6.out; simp only [Nat.zero_add] at hst; have HSt := Lib.hid hst; obtain ⟨t0, t1, t2, t3⟩ := hS7.cells; have r0 := hrow7.cell 0; have r1 := hrow7.cell 1; have q0 := hrow7.free 0; have q1 := hrow7.free 1; simp at r0 r1; clear hst hS7 hrow7))
            have hYR : ¬ Y = R := by omega
            refine bodyPost_ret (v := .tuple #[.agg #[.int .i64 (z.1.pg : Int), .int .i64 (z.1.ps : Int)], .int .i64 0]) (by simp [results, Tryz.results11, go_sem, r0, r1, q0, q1]) rfl ?_
            refine ⟨_, _, _, rfl, _, ⟨[], [], .inr ⟨z.1, List.mem_of_getElem? (spsZ_at HZ.out), q, HG.out.1, HG.out.2.1, HG.out.2.2, rfl, rfl, .inr ⟨by omega, rfl, rfl⟩⟩⟩, ?_⟩
            exact (HSt.out.poke (w0 := w) (bel_next HB1.out HB4.out (Nat.le_refl _)) (.inr rfl) (by omega) (by have := HY.out; omega) (poke2 _ Y _ _)).wide (fun k hk => .inl hk) HOwn.out
          · skip
            go_wp2_with (first | (at_builtin; refine wpList_append_rd rfl (.tmp 39) (.tmp 45) 22 rfl w4.heap.size 27 i0 _ 4 48 Tryz.underlying22 hi0 hz0 hz1 hz2 rfl (by decide) (.slice none 0 0) 0 [] rfl HO4.out _ _ _ rfl (cz (Z.take i)) (by rw [cz_len, List.length_take]; omega) hrd0 (cz_one _) (by omega) (by unfold maxLen; omega) hbs4 ?_; intro v5 w5 hown5 hgr5 hnew5 _; have HO5 := Lib.hid hown5; have HB5 := Lib.hid (own_grown (Below.refl w4.heap.size w4) HO4.out (Nat.le_refl _) hgr5); have HR5 := Lib.hid (HR4.out.below HB5.out); have hcell5 := HR5.out.cell; have hbs5 : w4.heap.size ≤ w5.heap.size := HB5.out.size; clear hown5 hgr5 hnew5) | (at_builtin; refine wpList_append_rd rfl (.tmp 48) (.tmp 55) 22 rfl w4.heap.size 27 i0 _ 4 48 Tryz.underlying22 hi0 hz0 hz1 hz2 rfl (by decide) v5 (0 + i) _ rfl HO5.out _ _ _ rfl (cz (Z.drop (i + 1))) (by rw [cz_len, List.length_drop]) (by have h := rd_rest HR5.out.at' HCap.out (show i + 1 ≤ Z.length by omega); rw [if_neg hcp, show ((some ⟨b, o, none⟩ : Option Addr).map fun x => x.add ((i + 1) * 4)) = some ⟨b, o + (i + 1) * 4, none⟩ by simp [Addr.add]] at h; exact h) (cz_one _) (by omega) (by unfold maxLen; omega) hbs5 ?_; intro v6 w6 hown6 hgr6 hnew6 _; obtain ⟨A6, c6, rfl⟩ := ownsRow_slice hown6; have HB6 := Lib.hid (own_grown HB5.out HO5.out hbs4 hgr6); have hfr6 := (HR4.out.blk.below HB6.out).free 0; have hcl6 := (HR4.out.below HB6.out).cell; have HO6 := Lib.hid hown6; clear hown6 hgr6 hnew6; have hst := gone_made HR4.out HK4.out HGn.out HIn.out HB6.out (gone_list (i := i) (m := Z.length - (i + 1)) (by omega) (by have := HCap.out; omega) (by have h := HO6.out;  exact h)); have hS7 := SpB.below HS4.out HB6.out; have hrow7 : RowC w6 Y 0 0 := Blk.below (Blk.below HRow1.out HB4.out) HB6.out; simp only [Nat.zero_add] at hst; have HSt := Lib.hid hst; obtain ⟨t0, t1, t2, t3⟩ := hS7.cells; have r0 := hrow7.cell 0; have r1 := hrow7.cell 1; have q0 := hrow7.free 0; have q1 := hrow7.free 1; simp at r0 r1; clear hst hS7 hrow7))
            have hYR : ¬ Y = R := by omega
            refine bodyPost_ret (v := .tuple #[.agg #[.int .i64 (z.1.pg : Int), .int .i64 (z.1.ps : Int)], .int .i64 0]) (by simp [results, Tryz.results11, go_sem, r0, r1, q0, q1]) rfl ?_
            refine ⟨_, _, _, rfl, _, ⟨[], [], .inr ⟨z.1, List.mem_of_getElem? (spsZ_at HZ.out), q, HG.out.1, HG.out.2.1, HG.out.2.2, rfl, rfl, .inr ⟨by omega, rfl, rfl⟩⟩⟩, ?_⟩
            exact (HSt.out.poke (w0 := w) (bel_next HB1.out HB4.out (Nat.le_refl _)) (.inr rfl) (by omega) (by have := HY.out; omega) (poke2 _ Y _ _)).wide (fun k hk => .inl hk) HOwn.out
        · have hcnt : 0 < (z.1.with q false).cnt := HBb.out.1 rfl
          go_wp2_with fail
          refine (rput_calls w4 R cap (some ⟨b, o, none⟩) Z (fun k => K k ∨ k = Y) (z.1.with q false) A' cap' HR4.out HK4.out HW4.out HF4.out hcnt HIn.out).mono ?_
          rintro e w5 ⟨rfl, hst⟩
          have hrow5 : RowC w5 Y 0 0 := by
            obtain ⟨_, _, _, _, _, h3⟩ := hst
            exact Blk.only (HRow1.out.below HB4.out) h3 (fun e => by have e : Y = R := e; omega)
          have HSt := Lib.hid hst
          have r0 := hrow5.cell 0
          have r1 := hrow5.cell 1
          have q0 := hrow5.free 0
          have q1 := hrow5.free 1
          simp at r0 r1
          clear hst hrow5 s0 s1 s2 s3
          go_wp2
          refine bodyPost_ret (v := .tuple #[.agg #[.int .i64 0, .int .i64 0], .int .i64 0]) (by simp [results, Tryz.results11, go_sem, r0, r1, q0, q1]) rfl ?_
          refine ⟨_, _, _, _, rfl, ⟨[], [], .inr ⟨z.1, List.mem_of_getElem? (spsZ_at HZ.out), q, HG.out.1, HG.out.2.1, HG.out.2.2, rfl, rfl, .inl ⟨hcnt, rfl, rfl, rfl⟩⟩⟩, ?_⟩
          exact (HSt.out.poke (w0 := w) (bel_next HB1.out HB4.out (Nat.le_refl _)) (.inr rfl) (by omega) (by have := HY.out; omega) (poke2 w5 Y _ _)).wide (fun k hk => .inl hk) HOwn.out
    · obtain rfl : i = Z.length := by omega
      rw [List.take_of_length_le (by rw [spsZ_len]; omega)] at hno
      have r0 := HRw.out.cell 0
      have r1 := HRw.out.cell 1
      have q0 := HRw.out.free 0
      have q1 := HRw.out.free 1
      simp at r0 r1
      go_wp2
      refine bodyPost_ret (v := .tuple #[.agg #[.int .i64 0, .int .i64 0], .int .i64 17]) (by simp [results, Tryz.results11, go_sem, r0, r1, q0, q1]) rfl ?_
      refine ⟨_, _, _, _, rfl, ⟨[], [], .inl ⟨rfl, rfl, rfl, rfl, rfl, fun k ⟨t, ht, q, hq1, hq2, ha, _⟩ => hno.out t ht q hq1 hq2 ha⟩⟩, ?_⟩
      exact ((HRr.out.still (Below.refl _ _)).poke (w0 := w) (bel_next HB1.out hb.out (Nat.le_refl _)) (.inr rfl) (by omega) (by have := HY.out; omega) (poke2 _ Y _ _)).wide (fun k hk => .inl hk) HOwn.out
end Go.Proofs.YtadbbknllakpcaaGreat

/- The document's heap: Alloc. -/
namespace Go.Proofs.YtadbbknllakpcaaGreat
open Go.RowKit
set_option linter.unusedVariables false

/-- What Alloc does. -/
def RAllocR (w : World) (R : Nat) (S : List Sp) (l : List (Nat × Nat)) (n : Int) (K : Nat → Prop) (e : Ending) (w' : World) : Prop :=
  ∃ a er S', e = .returned (.tuple #[.int .i64 a, .int .i64 er]) ∧ (∃ l', AllocL S l n a er S' l') ∧ RStep w w' R S' K
/-- One word, in a block of its own. -/
theorem word_one (w : World) (t : TypeId) : ∃ w', (w.alloc (.cells #[.int .u64 1] t)) = w' ∧ WordsAt w' (some ⟨w.heap.size, 0, none⟩) 1 bit0 ∧ Below w.heap.size w w' ∧ w'.heap.size = w.heap.size + 1 := by
  refine ⟨_, rfl, ⟨?_, fun i hi => bit0_out i (by omega), by omega⟩, (Below.refl _ _).alloc (Nat.le_refl _) _, by simp⟩
  rw [wdV_one1]
  exact RdAt.of_blk (Blk.new w #[.int .u64 1] t)
theorem RStep.from {w0 w w' : World} {R : Nat} {S : List Sp} {K : Nat → Prop} (h : RStep w w' R S K) (h0 : Below w0.heap.size w0 w) : RStep w0 w' R S K := by
  obtain ⟨A, cap, Z, h1, h2, h3⟩ := h
  exact ⟨A, cap, Z, h1, h2, (Only.of_below (S := (· = R)) h0).trans h3 (fun _ _ h => h)⟩
theorem newL_ok {S : List Sp} {l : List (Nat × Nat)} {n : Int} {b : Nat} {p : Nat × Nat} (h : rn.BestTo l (pagesFor n : Nat) l.length b p) : ∃ l', NewL S l n (512 * (p.1 : Int)) 0 (setS S (newSp p.1 n)) l' := ⟨_, .inr ⟨b, p, h, rfl, rfl, rfl, rfl⟩⟩
theorem part_none {S : List Sp} {c : Int} (h : ∀ t ∈ S, t.part c = false) : partS S c = [] := by
  unfold partS
  rw [List.filter_eq_nil_iff.2 (fun t ht => by rw [h t ht]; decide)]
  rfl
theorem part_first {S : List Sp} {c : Int} {i : Nat} {s : Sp} (hs : S[i]? = some s) (h : ∀ t ∈ S.take i, t.part c = false) (hp : s.part c = true) : ∃ rest, partS S c = s.pg :: rest := by
  have hsp : S.take i ++ s :: S.drop (i + 1) = S := by
    have := (List.getElem?_eq_some_iff.1 hs).2
    rw [← this, List.getElem_cons_drop, List.take_append_drop]
  refine ⟨partS (S.drop (i + 1)) c, ?_⟩
  have h1 := part_none h
  unfold partS at h1 ⊢
  rw [← hsp, List.filter_append, List.map_append, h1, List.filter_cons, if_pos hp, hsp]
  rfl
theorem cntF_fullZ {f : Nat → Bool} : ∀ n, (∀ i, i < n → f i = true) → cntF f n = n
  | 0, _ => rfl
  | n + 1, h => by
    have ih := cntF_fullZ n (fun i hi => h i (by omega))
    simp only [cntF, ih, h n (by omega), if_true]
theorem cnt_fullZ {s : Sp} (h : ∀ i, i < s.per → s.f i = true) : s.cnt = s.per := cntF_fullZ s.per h
theorem cntF_someZ {f : Nat → Bool} {i : Nat} (hf : f i = true) : ∀ n, i < n → 0 < cntF f n
  | 0, h => by omega
  | n + 1, h => by
    by_cases e : i = n
    · subst e; simp only [cntF, hf, if_true]; omega
    · have := cntF_someZ hf n (by omega)
      simp only [cntF]; omega
theorem cnt_withZ {s : Sp} {i : Nat} (hi : i < s.per) : 0 < (s.with i true).cnt := cntF_someZ (f := put s.f i true) (i := i) (by unfold put; simp) s.per hi
theorem cntF_lessZ {f : Nat → Bool} {i : Nat} (hf : f i = false) : ∀ n, i < n → cntF f n < n
  | 0, h => by omega
  | n + 1, h => by
    have hle := cntF_le f n
    by_cases e : i = n
    · subst e
      simp only [cntF, hf]
      simp
      omega
    · have := cntF_lessZ hf n (by omega)
      simp only [cntF]
      split <;> omega
theorem cnt_ltZ {s : Sp} {i : Nat} (hi : i < s.per) (hf : s.f i = false) : s.cnt < s.per := cntF_lessZ hf s.per hi
set_option maxRecDepth 8000 in
set_option maxHeartbeats 16000000 in
theorem ralloc17_calls (w : World) (R cap : Nat) (A : Option Addr) (Z : List Zp) (K : Nat → Prop) (h : RHp w R A cap Z K) (hK : ∀ k, K k → k < w.heap.size) (l : List (Nat × Nat)) (hl : LandOf (spsZ Z) l) (hcn : rn.Canon l) (n : Int) (hn : I64 n) :
    Calls Tryz.prog 9 #[.pointer (some ⟨R, 0, none⟩), .int .i64 n] w (RAllocR w R (spsZ Z) l n K) := by
  have HR := Lib.hid h
  have HK := Lib.hid hK
  have HL := Lib.hid (And.intro hl hcn)
  have HN := Lib.hid hn
  have hlen := h.len
  clear h hK hl hcn
  unfold I64 at hn
  by_cases hbad : n < 1 ∨ 2096640 < n
  · by_cases h1 : n < 1
    · have d1 : decide (n < 1) = true := decide_eq_true h1
      go_enter Tryz.func9, Tryz.ntmps9
      go_wp2
      go_ret2
      exact ⟨_, _, _, rfl, ⟨_, .inl ⟨hbad, rfl, rfl, rfl, rfl⟩⟩, HR.out.still (Below.refl _ _)⟩
    · have d1 : decide (n < 1) = false := decide_eq_false h1
      have d2 : decide (2096640 < n) = true := decide_eq_true (by omega)
      go_enter Tryz.func9, Tryz.ntmps9
      go_wp2
      go_ret2
      exact ⟨_, _, _, rfl, ⟨_, .inl ⟨hbad, rfl, rfl, rfl, rfl⟩⟩, HR.out.still (Below.refl _ _)⟩
  · have h1 : 1 ≤ n ∧ n ≤ 2096640 := by omega
    have d1 : decide (n < 1) = false := decide_eq_false (by omega)
    have d2 : decide (2096640 < n) = false := decide_eq_false (by omega)
    have HR1 := Lib.hid h1
    have hpf := pagesFor_bd h1.1 h1.2
    go_enter Tryz.func9, Tryz.ntmps9
    go_wp2_with fail
    clear d1 d2
    refine (rof_calls n _ HN.out.1 HN.out.2).mono ?_
    rintro e w1 ⟨rfl, hb1⟩
    have HB1 := Lib.hid hb1
    clear hb1
    obtain ⟨c, hc⟩ : ∃ c, ofL n = c := ⟨_, rfl⟩
    have HC := Lib.hid hc
    rw [hc]
    by_cases hneg : c < 0
    · have d3 : decide (c < 0) = true := decide_eq_true hneg
      have hlg := (pages_large (hc ▸ hneg) h1.1 h1.2).1
      have HLg := Lib.hid hlg
      clear hc hlg
      go_wp2_with fail
      refine (rland_calls w1 R cap A Z K (HR.out.below HB1.out)).mono ?_
      rintro e w2 ⟨L, T, f, rfl, hRf, hCv, hL, hT, hb2⟩
      have HRf := Lib.hid hRf
      have HRel := Lib.hid (hCv.rel HL.out.2 HL.out.1)
      have HB2 := Lib.hid (bel_next HB1.out hb2 (Nat.le_refl _))
      have HT := Lib.hid (show w.heap.size ≤ T from Nat.le_trans HB1.out.size hT)
      clear hRf hCv hb2 hL hT
      go_wp2_with fail
      refine (rlarge_calls n w2 HN.out.1 HN.out.2).mono ?_
      rintro e w2' ⟨rfl, rfl⟩
      rw [HLg.out]
      go_wp2_with fail
      refine (rn.rtake_calls w2 L T f l (pagesFor n : Nat) HRf.out HRel.out (by omega)).mono ?_
      rintro e w3 hTk
      rcases hTk with ⟨hlow, _⟩ | ⟨_, hno, rfl, hb3⟩ | ⟨b, p, _, hbt, rfl, _, ho3⟩
      · omega
      · have HB3 := Lib.hid (bel_next HB2.out hb3 (Nat.le_refl _))
        have HNo := Lib.hid hno
        clear hb3 hno
        go_wp2
        go_ret2
        exact ⟨_, _, _, rfl, ⟨_, .inr ⟨HR1.out, .inr ⟨.inl (HC.out ▸ hneg), .inl ⟨HNo.out, rfl, rfl, rfl, rfl⟩⟩⟩⟩, (HR.out.below HB3.out).still HB3.out⟩
      · have HB3 := Lib.hid (bel_only HB2.out ho3 (Nat.le_refl _) (fun i hi => by subst hi; exact HT.out))
        have HBt := Lib.hid hbt
        obtain ⟨k1, k2, k3, k4, _, _, _, k7, k8⟩ := new_span HR.out.inv HL.out.1 HL.out.2 h1.1 h1.2 hbt
        have HNw := Lib.hid (And.intro k1 (And.intro k2 (And.intro k3 k4)))
        have hp1 : p.1 ≤ 4096 := by omega
        clear ho3 hbt k1 k2 k3 k4 k7 k8
        go_wp2_with fail
        refine (rlarge_calls n w3 HN.out.1 HN.out.2).mono ?_
        rintro e w3' ⟨rfl, rfl⟩
        rw [HLg.out]
        obtain ⟨w4, hw4, hW4, hB4, hz4⟩ := word_one w3 64
        have HW4 := Lib.hid hW4
        have HB4 := Lib.hid (bel_next HB3.out hB4 (Nat.le_refl _))
        have hw3s := HB3.out.size
        clear hW4 hB4
        go_wp2_with fail
        have hput := rput_calls w4 R cap A Z K (newSp p.1 n) (some ⟨w3.heap.size, 0, none⟩) 1 (HR.out.below HB4.out) (fun k hk => by have := HK.out k hk; have := HB4.out.size; omega) (by rw [HNw.out.2.2.1]; exact HW4.out) (fun x o he => by cases he; exact ⟨by omega, fun hk => by have := HK.out _ hk; omega⟩) HNw.out.2.1 HNw.out.2.2.2
        have hv : (newSp p.1 n).v (some ⟨w3.heap.size, 0, none⟩) 1 = .agg #[.int .i64 (p.1 : Int), .int .i64 (pagesFor n : Nat), .int .i64 255, .slice (some ⟨w3.heap.size, 0, none⟩) 1 1] := by
          unfold Sp.v
          rw [HNw.out.2.2.1]
          unfold newSp spV
          simp only [if_pos (show ofL n < 0 from HC.out ▸ hneg)]
        rw [hv] at hput
        clear hv hw4
        refine hput.mono ?_
        rintro e w5 ⟨rfl, hst⟩
        have HSt := Lib.hid hst
        have hmul : wrap64 (512 * (p.1 : Int)) = 512 * (p.1 : Int) := IntWalk.wrap64_in _ (by omega)
        clear hst hput
        go_wp2
        go_ret2
        obtain ⟨l', hnl⟩ := newL_ok (n := n) HBt.out
        exact ⟨_, _, _, rfl, ⟨l', .inr ⟨HR1.out, .inr ⟨.inl (HC.out ▸ hneg), hnl⟩⟩⟩, HSt.out.from HB4.out⟩
    · have d3 : decide (c < 0) = false := decide_eq_false hneg
      obtain ⟨hpl, _, _, _, _, hc19⟩ := pages_class (hc ▸ hneg : ¬ ofL n < 0)
      rw [hc] at hpl hc19
      have HPl := Lib.hid hpl
      clear hc hpl
      go_wp2_with fail
      clear d3
      go_loopg [9] Z.length (fun q s9 wr => ∃ i, q = Z.length - i ∧ i ≤ Z.length ∧ s9 = .int .i64 (i : Int) ∧ Hid (∀ t ∈ (spsZ Z).take i, t.part c = false) ∧ Hid (Below w.heap.size w wr))
      case atStart => exact ⟨0, by omega, by omega, rfl, Lib.hid (fun t ht => by simp at ht), HB1⟩
      case round =>
        obtain ⟨i, hq, hil, rfl, hno, hb⟩ := hrel
        have HRr := Lib.hid (HR.out.below hb.out)
        have hcell := HRr.out.cell
        by_cases hlt : i < Z.length
        · obtain ⟨z, hz⟩ : ∃ z, Z[i]? = some z := ⟨_, List.getElem?_eq_getElem hlt⟩
          obtain ⟨b, o, rfl, hbl, f0, f1, f2, f3⟩ := HRr.out.at'.four hz
          have HM := Lib.hid (HRr.out.mem hz)
          have HZ := Lib.hid hz
          have HLt := Lib.hid hlt
          have HNext := Lib.hid (show z.1.part c = false → ∀ t ∈ (spsZ Z).take (i + 1), t.part c = false from fun hp t ht => by
            rw [List.take_add_one, spsZ_at hz] at ht
            rcases List.mem_append.1 ht with h1 | h1
            · exact hno.out t h1
            · simp at h1; subst h1; exact hp)
          clear hz
          by_cases hcl : z.1.cl = c
          · have dcl : (z.1.cl != c) = false := by rw [hcl]; simp
            have HCl := Lib.hid hcl
            clear hcl
            go_wp2_with fail
            refine (take15r_calls z.1.pg z.1.ps z.1.cl z.2.1 z.1.len z.2.2 z.1.f wr HM.out.1 HM.out.2.2).mono ?_
            rintro e w2 ⟨hb2, hcs⟩
            have HB2 := Lib.hid (bel_next hb.out hb2 (Nat.le_refl _))
            clear hb2 hcell f0 f1 f2 f3
            rcases hcs with ⟨rfl, hall⟩ | ⟨q, A', cap', rfl, hi, hf, hbef, hW2, hA2⟩
            · obtain ⟨w3, hw3, hS3, hB3⟩ := one_span w2 0 0 0 none 0 0
              have HB3 := Lib.hid (bel_next HB2.out hB3 (Nat.le_refl _))
              have HN := Lib.hid (HNext.out (by
                unfold Sp.part
                rw [decide_eq_false (by
                  have : z.1.cnt = z.1.per := cnt_fullZ hall
                  omega), Bool.and_false]))
              obtain ⟨t0, t1, t2, t3⟩ := hS3.cells
              obtain ⟨e0, e1, e2, e3⟩ := hS3.free
              have hbig : w.heap.size ≤ w2.heap.size := HB2.out.size
              clear hall hS3 hB3
              unfold spV
              go_wp2
              go_roundg (Z.length - (i + 1))
              case measure => first | (rw [hq]; exact Nat.sub_lt_sub_left HLt.out (Nat.lt_succ_self _)) | exact Nat.sub_lt_sub_left HLt.out (Nat.lt_succ_self _)
              case rel => exact ⟨i + 1, rfl, HLt.out, by go_num, HN, Lib.hid (below4 HB3.out hbig _ _ _ _)⟩
            · obtain ⟨w3, hw3, hS3, hB3⟩ := one_span w2 z.1.pg z.1.ps z.1.cl A' z.1.len cap'
              have HB3 := Lib.hid (bel_next HB2.out hB3 (Nat.le_refl _))
              have HW3 := Lib.hid (hW2.below hB3)
              have HF3 := Lib.hid (show Far w3 K A' from fun y o2 e => ⟨by have h1 := hW2.lt HM.out.1.len1 y o2 e; have := hB3.size; omega, fun h => by have h1 := hA2 y o2 e; have h2 := HK.out y h; have := hb.out.size; omega⟩)
              have HG := Lib.hid (And.intro hi (And.intro hf hbef))
              have HOk := Lib.hid (HM.out.1.with (i := q) hi true)
              have HIn := Lib.hid (inv_with HR.out.inv (List.mem_of_getElem? (spsZ_at HZ.out)) (i := q) hi true)
              have hcnt : 0 < (z.1.with q true).cnt := cnt_withZ hi
              have hsz := HM.out.1.size
              obtain ⟨s0, s1, s2, s3⟩ := hS3.cells
              have hput := rput_calls w3 R cap (some ⟨b, o, none⟩) Z K (z.1.with q true) A' cap' (HR.out.below HB3.out) (fun k hk => by have := HK.out k hk; have := HB3.out.size; omega) HW3.out HF3.out hcnt HIn.out
              rw [with_v] at hput
              clear hi hf hbef hW2 hA2 hB3 hS3 hsz
              unfold spV
              unfold Sp.v spV at hput
              go_wp2_with fail
              clear hw3
              refine hput.mono ?_
              rintro e w5 ⟨rfl, hst⟩
              have HSt := Lib.hid hst
              clear hst hput
              go_wp2
              go_ret2
              refine ⟨_, _, _, rfl, ⟨l, .inr ⟨HR1.out, .inl ⟨by rw [HC.out]; omega, z.1, ?_⟩⟩⟩, HSt.out.from HB3.out⟩
              obtain ⟨rest, hrest⟩ := part_first (spsZ_at HZ.out) hno.out (c := c) (by
                unfold Sp.part
                rw [HCl.out, decide_eq_true (cnt_ltZ HG.out.1 HG.out.2.1)]
                simp)
              exact ⟨rest, q, by rw [HC.out]; exact hrest, List.mem_of_getElem? (spsZ_at HZ.out), by rw [HC.out]; exact HCl.out, ⟨HG.out.1, HG.out.2.1, HG.out.2.2⟩, rfl, rfl, rfl, rfl⟩
          · have dcl : (z.1.cl != c) = true := by rw [bne_iff_ne]; exact hcl
            have HN := Lib.hid (HNext.out (by
              unfold Sp.part
              rw [beq_eq_false_iff_ne.2 hcl, Bool.false_and]))
            go_wp2
            go_roundg (Z.length - (i + 1))
            case measure => first | (rw [hq]; exact Nat.sub_lt_sub_left HLt.out (Nat.lt_succ_self _)) | exact Nat.sub_lt_sub_left HLt.out (Nat.lt_succ_self _)
            case rel => exact ⟨i + 1, rfl, HLt.out, by go_num, HN, hb⟩
        · obtain rfl : i = Z.length := by omega
          rw [List.take_of_length_le (by rw [spsZ_len]; omega)] at hno
          have HPt := Lib.hid (show partS (spsZ Z) (ofL n) = [] by rw [HC.out]; exact part_none hno.out)
          go_wp2_with fail
          clear hcell
          refine (rland_calls _ R cap A Z K HRr.out).mono ?_
          rintro e w2 ⟨L, T, f, rfl, hRf, hCv, hL, hT, hb2⟩
          have HRf := Lib.hid hRf
          have HRel := Lib.hid (hCv.rel HL.out.2 HL.out.1)
          have HB2 := Lib.hid (bel_next hb.out hb2 (Nat.le_refl _))
          have HT := Lib.hid (show w.heap.size ≤ T from Nat.le_trans hb.out.size hT)
          clear hRf hCv hb2 hL hT
          go_wp2_with fail
          refine (rpages_calls c w2 (by omega) (by omega)).mono ?_
          rintro e w2' ⟨rfl, hb2'⟩
          rw [HPl.out]
          have HRf' := Lib.hid (HRf.out.below hb2')
          have HB2' := Lib.hid (bel_next HB2.out hb2' (Nat.le_refl _))
          clear hb2'
          go_wp2_with fail
          refine (rn.rtake_calls w2' L T f l (pagesFor n : Nat) HRf'.out HRel.out (by omega)).mono ?_
          rintro e w3 hTk
          rcases hTk with ⟨hlow, _⟩ | ⟨_, hno3, rfl, hb3⟩ | ⟨b, p, _, hbt, rfl, _, ho3⟩
          · omega
          · have HB3 := Lib.hid (bel_next HB2'.out hb3 (Nat.le_refl _))
            have HNo := Lib.hid hno3
            clear hb3 hno3
            go_wp2
            go_ret2
            exact ⟨_, _, _, rfl, ⟨_, .inr ⟨HR1.out, .inr ⟨.inr HPt.out, .inl ⟨HNo.out, rfl, rfl, rfl, rfl⟩⟩⟩⟩, (HR.out.below HB3.out).still HB3.out⟩
          · have HB3 := Lib.hid (bel_only HB2'.out ho3 (Nat.le_refl _) (fun i hi => by subst hi; exact HT.out))
            have HBt := Lib.hid hbt
            obtain ⟨k1, k2, k3, k4, _, _, _, k7, k8⟩ := new_span HR.out.inv HL.out.1 HL.out.2 h1.1 h1.2 hbt
            have hnb := (newSp_right (q := p.1) (n := n) h1.1 h1.2 k7 k8).2
            have hng : ¬ ofL n < 0 := by rw [HC.out]; omega
            rw [if_neg hng, HC.out] at hnb
            have HNg := Lib.hid hng
            clear hng
            have HNw := Lib.hid (And.intro k1 (And.intro k2 (And.intro k3 k4)))
            have hp1 : p.1 ≤ 4096 := by omega
            have hw3s := HB3.out.size
            have HNb := Lib.hid hnb
            clear ho3 hbt k1 k2 k3 k4 k7 k8 hnb
            go_wp2_with fail
            refine (new15_calls (p.1 : Int) c w3 (by unfold I64; omega) (by unfold I64; omega)).mono ?_
            rintro e w4 ⟨hb4, ⟨hfa, _⟩ | ⟨B, cap', _, rfl, hW4, hB4⟩⟩
            · exact absurd (hfa.symm.trans HNb.out) (by decide)
            · rw [HPl.out]
              obtain ⟨w5, hw5, hS5, hB5⟩ := one_span w4 (p.1 : Int) (pagesFor n : Nat) c B 1 cap'
              have HB5 := Lib.hid (bel_next (bel_next HB3.out hb4 (Nat.le_refl _)) hB5 (Nat.le_refl _))
              have HW5 := Lib.hid (hW4.below hB5)
              have hFar : Far w5 K B := fun x o he => ⟨by have h1 := hW4.lt (by omega) x o he; have := hB5.size; omega, fun hk => by have h1 := hB4 x o he; have := HK.out _ hk; omega⟩
              have hput := rput_calls w5 R cap A Z K (newSp p.1 n) B cap' (HR.out.below HB5.out) (fun k hk => by have := HK.out k hk; have := HB5.out.size; omega) (by rw [HNw.out.2.2.1]; exact HW5.out) hFar HNw.out.2.1 HNw.out.2.2.2
              have hv : (newSp p.1 n).v B cap' = .agg #[.int .i64 (p.1 : Int), .int .i64 (pagesFor n : Nat), .int .i64 c, .slice B 1 cap'] := by
                unfold Sp.v
                rw [HNw.out.2.2.1]
                unfold newSp spV
                simp only [if_neg (Int.not_lt.2 HNg.out)]
                rw [HC.out]
              rw [hv] at hput
              obtain ⟨s0, s1, s2, s3⟩ := hS5.cells
              clear hv hb4 hW4 hB4 hFar hB5 hS5
              unfold spV
              go_wp2_with fail
              clear hw5
              refine hput.mono ?_
              rintro e w6 ⟨rfl, hst⟩
              have HSt := Lib.hid hst
              have hmul : wrap64 (512 * (p.1 : Int)) = 512 * (p.1 : Int) := IntWalk.wrap64_in _ (by omega)
              clear hst hput
              go_wp2
              go_ret2
              obtain ⟨l', hnl⟩ := newL_ok (n := n) HBt.out
              exact ⟨_, _, _, rfl, ⟨l', .inr ⟨HR1.out, .inr ⟨.inr HPt.out, hnl⟩⟩⟩, HSt.out.from HB5.out⟩
end Go.Proofs.YtadbbknllakpcaaGreat

/- The document's heap: Find, Count. -/
namespace Go.Proofs.YtadbbknllakpcaaGreat
open Go.RowKit
set_option linter.unusedVariables false

set_option maxRecDepth 8000 in
set_option maxHeartbeats 4000000 in
theorem rfind17_calls (w : World) (R cap : Nat) (A : Option Addr) (Z : List Zp) (K : Nat → Prop) (h : RHp w R A cap Z K) (x : Int) (hx : I64 x) :
    Calls Tryz.prog 13 #[.pointer (some ⟨R, 0, none⟩), .int .i64 x] w fun e w' => ∃ a k ok, e = .returned (.tuple #[.int .i64 a, .int .i64 k, .bool ok]) ∧ FindL (spsZ Z) x a k ok ∧ Below w.heap.size w w' := by
  have HR := Lib.hid h
  have hlen := h.len
  have HX := Lib.hid hx
  clear h hx
  go_enter Tryz.func13, Tryz.ntmps13
  go_wp2_with fail
  go_loopg [7] Z.length (fun q s7 wr => ∃ i, q = Z.length - i ∧ i ≤ Z.length ∧ s7 = .int .i64 (i : Int) ∧ Hid (∀ t ∈ (spsZ Z).take i, ∀ q : Nat, q < t.per → t.f q = true → ¬ (t.at q ≤ x ∧ x < t.at q + t.siz)) ∧ Hid (Below w.heap.size w wr))
  case atStart => exact ⟨0, by omega, by omega, rfl, Lib.hid (fun t ht => by simp at ht), Lib.hid (Below.refl _ _)⟩
  case round =>
    obtain ⟨i, hq, hil, rfl, hno, hb⟩ := hrel
    have HRr := Lib.hid (HR.out.below hb.out)
    have hcell := HRr.out.cell
    by_cases hlt : i < Z.length
    · obtain ⟨z, hz⟩ : ∃ z, Z[i]? = some z := ⟨_, List.getElem?_eq_getElem hlt⟩
      obtain ⟨b, o, rfl, hbl, f0, f1, f2, f3⟩ := HRr.out.at'.four hz
      have hm := HRr.out.mem hz
      have HM := Lib.hid hm
      have HZ := Lib.hid hz
      have HLt := Lib.hid hlt
      clear hz hm
      go_wp2_with fail
      refine (find15r_calls z.1.pg z.1.ps z.1.cl z.2.1 z.1.len z.2.2 z.1.f x wr HM.out.1 HX.out HM.out.2.2).mono ?_
      rintro e w2 ⟨hb2, hcs⟩
      have HB2 := Lib.hid (bel_next hb.out hb2 (Nat.le_refl _))
      clear hb2 hcell f0 f1 f2 f3
      rcases hcs with ⟨rfl, hwh⟩ | ⟨q, u, rfl, hwh⟩
      · have HN := Lib.hid (show ∀ t ∈ (spsZ Z).take (i + 1), ∀ q : Nat, q < t.per → t.f q = true → ¬ (t.at q ≤ x ∧ x < t.at q + t.siz) from fun t ht => by
          rw [List.take_add_one, spsZ_at HZ.out] at ht
          rcases List.mem_append.1 ht with h1 | h1
          · exact hno.out t h1
          · simp at h1; subst h1
            intro q hq1 hq2 hx2
            rcases hwh with ⟨_, _, h3⟩ | ⟨j, _, _, h3, _⟩
            · have := h3 q hq1 hq2
              unfold Sp.at Sp.siz at hx2
              omega
            · omega)
        clear hwh
        go_wp2
        go_roundg (Z.length - (i + 1))
        case measure => first | (rw [hq]; exact Nat.sub_lt_sub_left HLt.out (Nat.lt_succ_self _)) | exact Nat.sub_lt_sub_left HLt.out (Nat.lt_succ_self _)
        case rel => exact ⟨i + 1, rfl, HLt.out, by go_num, HN, HB2⟩
      · have HF := Lib.hid (show FindL (spsZ Z) x (x - u) (sizN z.1.cl z.1.ps : Nat) true from by
          rcases hwh with ⟨h1, _⟩ | ⟨j, hj, hfj, h2, h3, h4, h5⟩
          · omega
          · have hmem : z.1 ∈ spsZ Z := List.mem_of_getElem? (spsZ_at HZ.out)
            exact find_yes hmem (i := j) hj hfj (by unfold Sp.at Sp.siz; exact h3) h4 h5)
        clear hwh
        go_wp2
        go_ret3
        exact ⟨_, _, _, rfl, HF.out, HB2.out⟩
    · obtain rfl : i = Z.length := by omega
      rw [List.take_of_length_le (by rw [spsZ_len]; omega)] at hno
      go_wp2
      go_ret3
      exact ⟨_, _, _, rfl, .inl ⟨rfl, rfl, rfl, fun a k ⟨t, ht, q, hq1, hq2, ha, hk⟩ hx2 => hno.out t ht q hq1 hq2 (by rw [← ha, ← hk]; exact hx2)⟩, hb.out⟩
end Go.Proofs.YtadbbknllakpcaaGreat

/- The document's heap: Count. -/
namespace Go.Proofs.YtadbbknllakpcaaGreat
open Go.RowKit
set_option linter.unusedVariables false

theorem cnt_snoc (S : List Sp) (s : Sp) : cntAll (S ++ [s]) = cntAll S + s.cnt := by unfold cntAll; simp
theorem oct_snoc (S : List Sp) (s : Sp) : octAll (S ++ [s]) = octAll S + s.cnt * s.siz := by unfold octAll; simp
theorem oct_bd {s : Sp} (h : s.ok) : s.cnt ≤ 32 ∧ s.cnt * s.siz ≤ 2097152 := by
  have h1 := h.size
  have h2 := h.ps1
  have h3 : s.cnt ≤ s.per := cnt_le
  have h4 := Nat.mul_le_mul_right s.siz h3
  omega
theorem all_bd : ∀ (S : List Sp), (∀ s ∈ S, s.ok) → cntAll S ≤ S.length * 32 ∧ octAll S ≤ S.length * 2097152
  | [], _ => by simp [cntAll, octAll]
  | s :: r, h => by
    have h1 := oct_bd (h s (by simp))
    have h2 := all_bd r (fun t ht => h t (List.mem_cons_of_mem _ ht))
    simp only [cntAll, octAll, List.map_cons, List.sum_cons, List.length_cons] at h2 ⊢
    omega
set_option maxRecDepth 8000 in
set_option maxHeartbeats 4000000 in
theorem rcount17_calls (w : World) (R cap : Nat) (A : Option Addr) (Z : List Zp) (K : Nat → Prop) (h : RHp w R A cap Z K) :
    Calls Tryz.prog 15 #[.pointer (some ⟨R, 0, none⟩)] w fun e w' => e = .returned (.tuple #[.int .i64 (cntAll (spsZ Z) : Nat), .int .i64 (octAll (spsZ Z) : Nat)]) ∧ Below w.heap.size w w' := by
  have HR := Lib.hid h
  have hlen := h.len
  clear h
  go_enter Tryz.func15, Tryz.ntmps15
  go_wp2_with fail
  go_loopg [4, 5, 6] Z.length (fun q s4 s5 s6 wr => ∃ i, q = Z.length - i ∧ i ≤ Z.length ∧ s6 = .int .i64 (i : Int) ∧ s4 = .int .i64 ((cntAll ((spsZ Z).take i) : Nat) : Int) ∧ s5 = .int .i64 ((octAll ((spsZ Z).take i) : Nat) : Int) ∧ Hid (Below w.heap.size w wr))
  case atStart => exact ⟨0, by omega, by omega, rfl, rfl, rfl, Lib.hid (Below.refl _ _)⟩
  case round =>
    obtain ⟨i, hq, hil, rfl, rfl, rfl, hb⟩ := hrel
    have HRr := Lib.hid (HR.out.below hb.out)
    have hcell := HRr.out.cell
    have hbd := all_bd ((spsZ Z).take i) (fun s hs => (HR.out.inv.1 s (List.mem_of_mem_take hs)).1)
    rw [List.length_take, spsZ_len, Nat.min_eq_left hil] at hbd
    by_cases hlt : i < Z.length
    · obtain ⟨z, hz⟩ : ∃ z, Z[i]? = some z := ⟨_, List.getElem?_eq_getElem hlt⟩
      obtain ⟨b, o, rfl, hbl, f0, f1, f2, f3⟩ := HRr.out.at'.four hz
      have HM := Lib.hid (HRr.out.mem hz)
      have HNx := Lib.hid (show cntAll ((spsZ Z).take (i + 1)) = cntAll ((spsZ Z).take i) + z.1.cnt ∧ octAll ((spsZ Z).take (i + 1)) = octAll ((spsZ Z).take i) + z.1.cnt * z.1.siz from by
        rw [List.take_add_one, spsZ_at hz]
        exact ⟨cnt_snoc _ _, oct_snoc _ _⟩)
      have hsz := HM.out.1.size
      have hob := oct_bd HM.out.1
      have HZ := Lib.hid hz
      have HLt := Lib.hid hlt
      obtain ⟨cA, hcA⟩ : ∃ cA, cntAll ((spsZ Z).take i) = cA := ⟨_, rfl⟩
      obtain ⟨oA, hoA⟩ : ∃ oA, octAll ((spsZ Z).take i) = oA := ⟨_, rfl⟩
      rw [hcA, hoA] at HNx
      rw [hcA, hoA] at hbd ⊢
      have hcb : cA ≤ 131072 ∧ oA ≤ 8589934592 := by omega
      clear hz hcA hoA hbd
      go_wp2_with fail
      refine (bits15_calls z.1.pg z.1.ps z.1.cl z.2.1 z.1.len z.2.2 z.1.f wr HM.out.1.i64.2.2 HM.out.2.2).mono ?_
      rintro e w2 ⟨hb2, ⟨hno, rfl⟩ | ⟨v, hok, rfl, hown⟩⟩
      · exact absurd HM.out.1.live hno
      obtain ⟨g, cb, hv⟩ := ownsRow_slice hown
      subst hv
      obtain ⟨g, rfl, hg1, hg2, hgc⟩ := (ownsRow_rd hown).resolve_left (by have := hsz.2.2.1; unfold Sp.per at this; omega)
      have HB2 := Lib.hid (bel_next hb.out hb2 (Nat.le_refl _))
      have HGc := Lib.hid (show ∀ j, j < z.1.per → w2.cell? ⟨g, j, none⟩ = some (.bool (z.1.f j)) from fun j hj => hgc j _ (fnV_at _ _ _ hj))
      clear hb2 hcell f0 f1 f2 f3 hok hown hgc
      have hP : perN z.1.cl = z.1.per := rfl
      rw [hP]
      clear hP
      obtain ⟨P, hP⟩ : ∃ P, z.1.per = P := ⟨_, rfl⟩
      obtain ⟨f, hf⟩ : ∃ f, z.1.f = f := ⟨_, rfl⟩
      obtain ⟨sz, hs⟩ : ∃ sz, z.1.siz = sz := ⟨_, rfl⟩
      have HCnt := Lib.hid (show z.1.cnt = cntF f P from by unfold Sp.cnt; rw [hP, hf])
      have HMul := Lib.hid (show ∀ j, cntF f j ≤ j from cntF_le f)
      rw [hP, hf] at HGc
      rw [hP]
      rw [hP, hs] at hsz
      rw [hs] at HNx
      have hP32 : 1 ≤ P ∧ P ≤ 32 ∧ 1 ≤ sz ∧ sz ≤ 2097152 := by omega
      have HSz := Lib.hid (show sizeS z.1.cl (z.1.ps : Int) = (sz : Int) from by rw [← hs]; exact (Good.size HM.out.1).1)
      clear hP hs hsz hob
      go_wp2_with fail
      go_loopg [4, 5, 9] P (fun q s4 s5 s9 wq => ∃ j, q = P - j ∧ j ≤ P ∧ s9 = .int .i64 (j : Int) ∧ s4 = .int .i64 ((cA + cntF f j : Nat) : Int) ∧ s5 = .int .i64 ((oA + cntF f j * sz : Nat) : Int) ∧ Hid (Below w2.heap.size w2 wq))
      case atStart => exact ⟨0, by omega, by omega, rfl, by simp [cntF], by simp [cntF], Lib.hid (Below.refl _ _)⟩
      case round =>
        obtain ⟨j, hq2, hjl, rfl, rfl, rfl, hbq⟩ := hrel
        have HRq := Lib.hid (HR.out.below (bel_next HB2.out hbq.out (Nat.le_refl _)))
        have hcell := HRq.out.cell
        by_cases hltj : j < P
        · have hgc := (World.cell?_of_block (a := ⟨g, j, none⟩) (hbq.out.block g hg2)).trans (HGc.out j hltj)
          obtain ⟨c, hc⟩ : ∃ c, cntF f j = c := ⟨_, rfl⟩
          have hcj : c ≤ j := by rw [← hc]; exact HMul.out j
          have hnx : cntF f (j + 1) = c + if f j then 1 else 0 := by rw [← hc]; rfl
          rw [hc]
          have hms := Nat.mul_le_mul_right sz (show c ≤ 32 by omega)
          obtain ⟨m, hm⟩ : ∃ m, c * sz = m := ⟨_, rfl⟩
          rw [hm] at hms ⊢
          have hmb : m ≤ 67108864 := by omega
          have HM2 := Lib.hid hm
          have HLj := Lib.hid hltj
          clear hc hm hms
          cases hfj : f j
          · rw [hfj] at hgc hnx
            have HNj := Lib.hid (show cntF f (j + 1) = c by rw [hnx]; simp)
            clear hnx hfj
            go_wp2
            go_roundg (P - (j + 1))
            case measure => first | (rw [hq2]; exact Nat.sub_lt_sub_left HLj.out (Nat.lt_succ_self _)) | exact Nat.sub_lt_sub_left HLj.out (Nat.lt_succ_self _)
            case rel => exact ⟨j + 1, rfl, HLj.out, by go_num, by rw [HNj.out], by rw [HNj.out, HM2.out], hbq⟩
          · rw [hfj] at hgc hnx
            have HNj := Lib.hid (show cntF f (j + 1) = c + 1 by rw [hnx]; simp)
            obtain ⟨b2, o2, he2, hbl2, f0, f1, f2, f3⟩ := HRq.out.at'.four HZ.out
            cases he2
            obtain ⟨O, hO⟩ : ∃ O : Int, ((oA + m : Nat) : Int) = O := ⟨_, rfl⟩
            obtain ⟨y, hy⟩ : ∃ y : Int, (sz : Int) = y := ⟨_, rfl⟩
            have hadd : wrap64 (O + y) = O + y := IntWalk.wrap64_in _ (by omega)
            have HOy := Lib.hid (show O + y = ((oA + (m + sz) : Nat) : Int) from by omega)
            have HY := Lib.hid hy
            rw [hO]
            have hcA := hcb.1
            have hPj : j ≤ 31 := by omega
            clear hnx hfj hO hy hcb hmb hP32
            go_wp2_with fail
            refine (size15_calls z.1.pg z.1.ps z.1.cl z.2.1 z.1.len z.2.2 _ HM.out.1.i64.2.1 HM.out.1.i64.2.2).mono ?_
            rintro e w4 ⟨rfl, hb4⟩
            rw [HSz.out, HY.out]
            have HB4 := Lib.hid (bel_next hbq.out hb4 (Nat.le_refl _))
            clear hb4 hcell f0 f1 f2 f3 hgc
            go_wp2
            go_roundg (P - (j + 1))
            case measure => first | (rw [hq2]; exact Nat.sub_lt_sub_left HLj.out (Nat.lt_succ_self _)) | exact Nat.sub_lt_sub_left HLj.out (Nat.lt_succ_self _)
            case rel => exact ⟨j + 1, rfl, HLj.out, by go_num, by rw [HNj.out]; go_num, by rw [hadd, HNj.out, Nat.add_mul, Nat.one_mul, HM2.out, HOy.out], HB4⟩
        · obtain rfl : j = P := by omega
          have HBn := Lib.hid (bel_next HB2.out hbq.out (Nat.le_refl _))
          go_wp2
          go_roundg (Z.length - (i + 1))
          case measure => first | (rw [hq]; exact Nat.sub_lt_sub_left HLt.out (Nat.lt_succ_self _)) | exact Nat.sub_lt_sub_left HLt.out (Nat.lt_succ_self _)
          case rel => exact ⟨i + 1, rfl, HLt.out, by go_num, by rw [HNx.out.1, HCnt.out], by rw [HNx.out.2, HCnt.out], HBn⟩
    · obtain rfl : i = Z.length := by omega
      rw [List.take_of_length_le (show (spsZ Z).length ≤ Z.length by rw [spsZ_len]; omega)] at hbd ⊢
      go_wp2
      go_ret2
      exact ⟨rfl, hb.out⟩
end Go.Proofs.YtadbbknllakpcaaGreat
