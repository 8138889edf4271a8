/- The walk of SpanTurns. -/
import Derived.Test.YtakcdkcikopoiaaSpnG
import Derived.Test.YtakcdkcikopoiaaSpIn
import Derived.Test.YtakcdkcikopoiaaBitL
namespace Go.Proofs.Ytakcdkcikopoiaa
open Go.RowKit
set_option linter.unusedVariables false

theorem take_one (pg ps cl : Int) (len : Nat) (f : Nat → Bool) : ∃ (a1 a2 a3 : Int) (L : Nat) (F : Nat → Bool) (X E : Int), ∀ w e w', TakeR pg ps cl len f w e w' → Below w.heap.size w w' ∧ ∃ A cap, e = .returned (.tuple #[.agg #[.int .i64 a1, .int .i64 a2, .int .i64 a3, .slice A L cap], .int .i64 X, .int .i64 E]) ∧ WordsAt w' A L F := by
  by_cases hfull : ∀ i, i < perN cl → f i = true
  · refine ⟨0, 0, 0, 0, fun _ => false, 0, 12, fun w e w' h => ⟨h.1, ?_⟩⟩
    rcases h.2 with ⟨rfl, _⟩ | ⟨i, A, cap, _, hi, hfi, _⟩
    · exact ⟨none, 0, rfl, .inl rfl, fun i _ => rfl, by omega⟩
    · rw [hfull i hi] at hfi; cases hfi
  · obtain ⟨i, hi, hfi, hpre⟩ := least (p := fun i => !f i) (perN cl) (by
      refine Classical.byContradiction fun hn => hfull fun i hi => ?_
      cases hf : f i
      · exact absurd ⟨i, hi, by simp [hf]⟩ hn
      · rfl)
    have hfi' : f i = false := by simpa using hfi
    refine ⟨pg, ps, cl, len, put f i true, 512 * pg + ((i * sizN cl ps : Nat) : Int), 0, fun w e w' h => ⟨h.1, ?_⟩⟩
    rcases h.2 with ⟨_, h2⟩ | ⟨j, A, cap, rfl, hj, hfj, hpj, hW⟩
    · rw [h2 i hi] at hfi'; cases hfi'
    · obtain rfl : j = i := by
        rcases Nat.lt_trichotomy j i with h | h | h
        · have := hpre j h; simp [hfj] at this
        · exact h
        · have := hpj i h; rw [hfi'] at this; cases this
      exact ⟨A, cap, rfl, hW⟩
theorem give_one (pg ps cl : Int) (len : Nat) (f : Nat → Bool) (x : Int) (hS : 1 ≤ sizN cl ps) : ∃ (a1 a2 a3 : Int) (L : Nat) (F : Nat → Bool) (E : Int), ∀ w e w', GiveR pg ps cl len f x w e w' → Below w.heap.size w w' ∧ ∃ A cap, e = .returned (.tuple #[.agg #[.int .i64 a1, .int .i64 a2, .int .i64 a3, .slice A L cap], .int .i64 E]) ∧ WordsAt w' A L F := by
  by_cases hno : ∀ i : Nat, i < perN cl → f i = true → x ≠ 512 * pg + ((i * sizN cl ps : Nat) : Int)
  · refine ⟨0, 0, 0, 0, fun _ => false, 17, fun w e w' h => ⟨h.1, ?_⟩⟩
    rcases h.2 with ⟨rfl, _⟩ | ⟨i, A, cap, _, hi, hfi, hx, _⟩
    · exact ⟨none, 0, rfl, .inl rfl, fun i _ => rfl, by omega⟩
    · exact absurd hx (hno i hi hfi)
  · obtain ⟨i, hi⟩ := Classical.not_forall.1 hno
    obtain ⟨hi1, hi⟩ := Classical.not_imp.1 hi
    obtain ⟨hi2, hi3⟩ := Classical.not_imp.1 hi
    have hi3 := Classical.not_not.1 hi3
    refine ⟨pg, ps, cl, len, put f i false, 0, fun w e w' h => ⟨h.1, ?_⟩⟩
    rcases h.2 with ⟨_, h2⟩ | ⟨j, A, cap, rfl, hj, hfj, hx, hW⟩
    · exact absurd hi3 (h2 i hi1 hi2)
    · obtain rfl : j = i := by
        have : j * sizN cl ps = i * sizN cl ps := by omega
        exact Nat.eq_of_mul_eq_mul_right (by omega) this
      exact ⟨A, cap, rfl, hW⟩
theorem WhichR.one {pg : Int} {P S : Nat} {f : Nat → Bool} {x v u v' u' : Int} (h : WhichR pg P S f x v u) (h' : WhichR pg P S f x v' u') : v = v' ∧ u = u' := by
  rcases h with ⟨rfl, rfl, h⟩ | ⟨i, hi, hfi, rfl, hx, h0, h1⟩ <;> rcases h' with ⟨rfl, rfl, h'⟩ | ⟨j, hj, hfj, rfl, hx', h0', h1'⟩
  · exact ⟨rfl, rfl⟩
  · have := h j hj hfj (by omega); omega
  · have := h' i hi hfi (by omega); omega
  · rcases Nat.lt_trichotomy i j with h | h | h
    · have h5 : (i + 1) * S ≤ j * S := Nat.mul_le_mul_right _ h
      rw [Nat.add_mul, Nat.one_mul] at h5
      omega
    · subst h; exact ⟨rfl, by omega⟩
    · have h5 : (j + 1) * S ≤ i * S := Nat.mul_le_mul_right _ h
      rw [Nat.add_mul, Nat.one_mul] at h5
      omega
theorem find_one (pg ps cl : Int) (f : Nat → Bool) (x : Int) : ∃ (v1 v2 : Int) (b : Bool), ∀ w e w', FindP pg ps cl f x w e w' → Below w.heap.size w w' ∧ e = .returned (.tuple #[.int .i64 v1, .int .i64 v2, .bool b]) := by
  by_cases hno : WhichR pg (perN cl) (sizN cl ps) f x (-1) 0
  · refine ⟨0, 0, false, fun w e w' h => ⟨h.1, ?_⟩⟩
    rcases h.2 with ⟨rfl, _⟩ | ⟨i, u, _, h2⟩
    · rfl
    · have := (hno.one h2).1; omega
  · by_cases hy : ∃ (i : Nat) (u : Int), WhichR pg (perN cl) (sizN cl ps) f x i u
    · obtain ⟨i, u, hy⟩ := hy
      refine ⟨x - u, (sizN cl ps : Nat), true, fun w e w' h => ⟨h.1, ?_⟩⟩
      rcases h.2 with ⟨_, h2⟩ | ⟨j, u', rfl, h2⟩
      · exact absurd h2 hno
      · rw [(hy.one h2).2]
    · refine ⟨0, 0, false, fun w e w' h => ?_⟩
      rcases h.2 with ⟨_, h2⟩ | ⟨j, u', _, h2⟩
      · exact absurd h2 hno
      · exact absurd ⟨j, u', h2⟩ hy
theorem WordsAt.set1 {w : World} {b : Nat} {pg ps cl : Int} {A A' : Option Addr} {len len' cap : Nat} {f : Nat → Bool} (h : WordsAt w A' len' f) (hS : SpB w b pg ps cl A len cap) (j : Nat) (x : Value) :
    WordsAt (w.setCell ⟨b, j, none⟩ x) A' len' f := by
  refine ⟨?_, h.2⟩
  rcases h.1 with h1 | ⟨b1, o1, rfl, hl, hc⟩
  · exact .inl h1
  · by_cases h0 : 0 < len'
    · have hne := h.apart hS h0 b1 o1 rfl
      refine .inr ⟨b1, o1, rfl, by simpa [World.setCell] using hl, fun i u hu => ?_⟩
      rw [← hc i u hu]
      simp [go_sem]
    · exact .inl (by omega)

theorem in_made {w w4 w5 : World} {v' : Value} {sb bi : Nat} {p0 p1 p2 : Int} {A0 : Option Addr} {len cap0 : Nat} {f : Nat → Bool}
    (hB : Below w.heap.size w w4) (hS : SpB w4 sb p0 p1 p2 A0 len cap0) (hW : WordsAt w4 A0 len f) (hI : SpB w4 bi p0 p1 p2 A0 len cap0) (hne : sb ≠ bi) (hbi : w.heap.size ≤ bi)
    (hown : w5.ownsRow w4.heap.size 31 1 v' (0 + len) ([] ++ wdV len f)) (hg : (w4.alloc (.cells #[] 31)).grownBy w5 (Value.slice (some ⟨w4.heap.size, 0, none⟩) 0 0).ownBlock) :
    ∃ A1 c1 w6, v' = .slice A1 len c1 ∧ w5.setCell ⟨bi, 3, none⟩ (.slice A1 len c1) = w6 ∧ (w5.cell? ⟨bi, 3, none⟩ = some (.slice A0 len cap0) ∧ w5.frozen? ⟨bi, 3, none⟩ = false) ∧
      SpB w6 sb p0 p1 p2 A0 len cap0 ∧ WordsAt w6 A0 len f ∧ SpB w6 bi p0 p1 p2 A1 len c1 ∧ WordsAt w6 A1 len f ∧ Below w.heap.size w w6 := by
  rw [Nat.zero_add, List.nil_append] at hown
  obtain ⟨A1, c1, rfl⟩ := ownsRow_slice hown
  have hB5 : Below w4.heap.size w4 w5 := ((Below.refl _ _).alloc (Nat.le_refl _) _).grown hg (by simp) (fun k hk => by
    have e : (Value.slice (some (⟨w4.heap.size, 0, none⟩ : Addr)) 0 0).ownBlock = some w4.heap.size := by simp [Value.ownBlock]
    rw [e] at hk; cases hk; exact Nat.le_refl _)
  have hS5 := hS.below hB5
  have hI5 := hI.below hB5
  have hW5 := hW.below hB5
  have hJ5 : WordsAt w5 A1 len f := ⟨RdAt.of_own hown, hW.2⟩
  refine ⟨A1, c1, _, rfl, rfl, ⟨hI5.cells.2.2.2, hI5.free.2.2.2⟩, Blk.set_other hS5 hne _ _, hW5.set1 hI5 _ _, Blk.set hI5 3 _, hJ5.set1 hI5 _ _, (bel_next hB hB5 (Nat.le_refl _)).setCell (p := ⟨bi, 3, none⟩) hbi _⟩

set_option maxHeartbeats 8000000 in
set_option maxRecDepth 8000 in
theorem turns_walk (v : Value) (q : (Int × Int × Int) × (Option Addr × Nat × Nat) × List Int) (x : Int) (w : World) (hq : SpanIn w v q) (wf1 : (Lit.int .i64 x).wf = true) :
    Calls Try.prog 4 #[v, .int .i64 x] w fun e w' => e = .returned (.bool true) ∧ Below w.heap.size w w' := by
  obtain ⟨⟨p0, p1, p2⟩, ⟨A0, len, cap0⟩, zs⟩ := q
  obtain ⟨rfl, h0, h1, h2, hrow⟩ := hq
  dsimp only at h0 h1 h2 hrow ⊢
  obtain ⟨f, hr0, ho0⟩ := words_of_row hrow
  have hlen := hrow.len_le
  have hW0 : WordsAt w A0 len f := ⟨hr0, ho0, hlen⟩
  obtain ⟨w1, hw1, hS, hB⟩ := one_span w p0 p1 p2 A0 len cap0
  have HX : Hid (I64 x) := Lib.hid (wf_i64 wf1)
  have H0 := Lib.hid h0
  have H1 := Lib.hid h1
  have H2 := Lib.hid h2
  have HB := Lib.hid hB
  have HWs := Lib.hid (hW0.below hB)
  have HSs := Lib.hid hS
  obtain ⟨s0, s1, s2, s3⟩ := hS.cells
  clear hrow hr0 hW0 hS hB h0 h1 h2 wf1
  unfold spV
  go_enter Try.func4, Try.ntmps4
  go_wp2_with fail
  refine (awake_calls15 _).mono ?_
  rintro e w2 ⟨rfl, hb⟩
  have HB := Lib.hid (bel_next HB.out hb (Nat.le_refl _))
  have HSs := Lib.hid (HSs.out.below hb)
  have HWs := Lib.hid (HWs.out.below hb)
  obtain ⟨s0, s1, s2, s3⟩ := HSs.out.cells
  clear hb hw1
  go_wp2_with fail
  refine (right15_calls p0 p1 p2 A0 len cap0 f _ H0.out H1.out H2.out HWs.out).mono ?_
  rintro e w3 ⟨b, rfl, hbr, hb⟩
  have HB := Lib.hid (bel_next HB.out hb (Nat.le_refl _))
  have HSs := Lib.hid (HSs.out.below hb)
  have HWs := Lib.hid (HWs.out.below hb)
  obtain ⟨s0, s1, s2, s3⟩ := HSs.out.cells
  clear hb
  cases b
  · clear hbr
    go_wp2_with fail
    refine (awake_calls15 _).mono ?_
    rintro e w4 ⟨rfl, hb⟩
    have HB := Lib.hid (bel_next HB.out hb (Nat.le_refl _))
    clear hb
    go_wp2
    go_ret
    exact ⟨rfl, HB.out⟩
  obtain ⟨hg, _⟩ := hbr.1 rfl
  have HG := Lib.hid hg
  obtain ⟨z0, z1, z2, z3, z4, z5⟩ := hg.size
  have hl1 : len = 1 := by have := hg.live.1; unfold wn at this; omega
  subst hl1
  have HT := Lib.hid (take_one p0 p1 p2 1 f)
  have HV := Lib.hid (give_one p0 p1 p2 1 f x z1)
  have HF := Lib.hid (find_one p0 p1 p2 f x)
  obtain ⟨i0, hi, hz0, hz1, hz2⟩ := info_parts Try.info_clone_u64
  clear hbr hg z0 z5
  obtain ⟨w4, hw4, hS4, hB4⟩ := one_span w3 p0 p1 p2 A0 1 cap0
  have HB4 := Lib.hid (bel_next HB.out hB4 (Nat.le_refl _))
  have HSs4 := Lib.hid (HSs.out.below hB4)
  have HWs4 := Lib.hid (HWs.out.below hB4)
  have HI4 := Lib.hid hS4
  have hbi := hS4.lt
  have hsb := HSs.out.lt
  have hown := Lib.hid (World.ownsRow_made (base := w4.heap.size) (e := 31) (size := 1) w4 #[] 0 (Nat.le_refl _) (by simp) (by simp))
  have HR4 := Lib.hid (HWs4.out.1.alloc (.cells #[] 31))
  obtain ⟨s0, s1, s2, s3⟩ := (HSs4.out.below ((Below.refl _ _).alloc (Nat.le_refl _) (.cells #[] 31))).cells
  obtain ⟨t0, t1, t2, t3⟩ := HI4.out.cells
  clear hS4 hB4
  go_wp2_with (at_builtin; refine wpList_append_rd rfl (.tmp 37) (.tmp 39) 22 rfl w4.heap.size 31 i0 _ 1 8 Try.underlying22 hi hz0 hz1 hz2 rfl (by decide) (.slice (some ⟨w4.heap.size, 0, none⟩) 0 0) 0 [] rfl hown.out A0 1 cap0 rfl (wdV 1 f) (by rw [wdV_length, Nat.mul_one]) HR4.out (wdV_one _ _) (by omega) (by unfold maxLen; omega) (by simp) ?_; intro v' w5 hown5 hgr5 hnew5 hnil5; obtain ⟨A1, c1, w6, rfl, hw6, ⟨k3, kf⟩, hS6, hW6, hI6, hJ6, hB6⟩ := in_made HB4.out HSs4.out HWs4.out HI4.out (by omega) (by omega) hown5 hgr5; obtain ⟨s0, s1, s2, s3⟩ := hS6.cells; obtain ⟨t0, t1, t2, t3⟩ := hI6.cells; clear hown5 hgr5 hnew5 hnil5)
  have HB := Lib.hid hB6
  have HSs := Lib.hid hS6
  have HWs := Lib.hid hW6
  have HSi := Lib.hid hI6
  have HWi := Lib.hid hJ6
  clear hw4 hw6 hS6 hW6 hI6 hJ6 hB6 hown HR4 HB4 HSs4 HWs4 HI4 k3 kf
  generalize w3.heap.size = bi at *
  obtain ⟨a1, a2, a3, La, Fa, Xa, Ea, hT⟩ := HT.out
  have HT2 := Lib.hid hT
  obtain ⟨c1', c2, c3, Lc, Fc, Ec, hV⟩ := HV.out
  have HV2 := Lib.hid hV
  obtain ⟨v1, v2, bf, hF⟩ := HF.out
  have HF2 := Lib.hid hF
  clear HT hT HV hV HF hF
  refine (take15_calls p0 p1 p2 A1 1 c1 f _ HG.out HWi.out).mono ?_
  rintro e w7 h
  obtain ⟨hb, Aa, capa, rfl, hW⟩ := HT2.out _ _ _ h
  obtain ⟨w71, hw71, hS, hB⟩ := one_span w7 a1 a2 a3 Aa La capa
  have hbb := hb.trans (hB.mono hb.size)
  have HSa := Lib.hid hS
  have HWa := Lib.hid (hW.below hB)
  have HSs := Lib.hid (HSs.out.below hbb)
  have HWs := Lib.hid (HWs.out.below hbb)
  have HSi := Lib.hid (HSi.out.below hbb)
  have HWi := Lib.hid (HWi.out.below hbb)
  have HB := Lib.hid (bel_next HB.out hbb (Nat.le_refl _))
  obtain ⟨s0, s1, s2, s3⟩ := HSs.out.cells
  obtain ⟨t0, t1, t2, t3⟩ := HSi.out.cells
  clear h hb hW hS hB hbb
  go_wp2_with fail
  clear hw71
  generalize w7.heap.size = ba at *
  refine (take15r_calls p0 p1 p2 A0 1 cap0 f _ HG.out HWs.out).mono ?_
  rintro e w8 h
  obtain ⟨hb, Ab, capb, rfl, hW⟩ := HT2.out _ _ _ h
  obtain ⟨w81, hw81, hS, hB⟩ := one_span w8 a1 a2 a3 Ab La capb
  have hbb := hb.trans (hB.mono hb.size)
  have HSb := Lib.hid hS
  have HWb := Lib.hid (hW.below hB)
  have HSs := Lib.hid (HSs.out.below hbb)
  have HWs := Lib.hid (HWs.out.below hbb)
  have HSi := Lib.hid (HSi.out.below hbb)
  have HWi := Lib.hid (HWi.out.below hbb)
  have HSa := Lib.hid (HSa.out.below hbb)
  have HWa := Lib.hid (HWa.out.below hbb)
  have HB := Lib.hid (bel_next HB.out hbb (Nat.le_refl _))
  obtain ⟨s0, s1, s2, s3⟩ := HSs.out.cells
  obtain ⟨t0, t1, t2, t3⟩ := HSi.out.cells
  clear h hb hW hS hB hbb
  go_wp2_with fail
  clear hw81
  generalize w8.heap.size = bb at *
  refine (give15_calls p0 p1 p2 A1 1 c1 f x _ HG.out HX.out HWi.out).mono ?_
  rintro e w9 h
  obtain ⟨hb, Ac, capc, rfl, hW⟩ := HV2.out _ _ _ h
  obtain ⟨w91, hw91, hS, hB⟩ := one_span w9 c1' c2 c3 Ac Lc capc
  have hbb := hb.trans (hB.mono hb.size)
  have HSc := Lib.hid hS
  have HWc := Lib.hid (hW.below hB)
  have HSs := Lib.hid (HSs.out.below hbb)
  have HWs := Lib.hid (HWs.out.below hbb)
  have HSi := Lib.hid (HSi.out.below hbb)
  have HWi := Lib.hid (HWi.out.below hbb)
  have HSa := Lib.hid (HSa.out.below hbb)
  have HWa := Lib.hid (HWa.out.below hbb)
  have HSb := Lib.hid (HSb.out.below hbb)
  have HWb := Lib.hid (HWb.out.below hbb)
  have HB := Lib.hid (bel_next HB.out hbb (Nat.le_refl _))
  obtain ⟨s0, s1, s2, s3⟩ := HSs.out.cells
  obtain ⟨t0, t1, t2, t3⟩ := HSi.out.cells
  clear h hb hW hS hB hbb
  go_wp2_with fail
  clear hw91
  generalize w9.heap.size = bc at *
  refine (give15r_calls p0 p1 p2 A0 1 cap0 f x _ HG.out HX.out HWs.out).mono ?_
  rintro e w10 h
  obtain ⟨hb, Ad, capd, rfl, hW⟩ := HV2.out _ _ _ h
  obtain ⟨w101, hw101, hS, hB⟩ := one_span w10 c1' c2 c3 Ad Lc capd
  have hbb := hb.trans (hB.mono hb.size)
  have HSd := Lib.hid hS
  have HWd := Lib.hid (hW.below hB)
  have HSs := Lib.hid (HSs.out.below hbb)
  have HWs := Lib.hid (HWs.out.below hbb)
  have HSi := Lib.hid (HSi.out.below hbb)
  have HWi := Lib.hid (HWi.out.below hbb)
  have HSa := Lib.hid (HSa.out.below hbb)
  have HWa := Lib.hid (HWa.out.below hbb)
  have HSb := Lib.hid (HSb.out.below hbb)
  have HWb := Lib.hid (HWb.out.below hbb)
  have HSc := Lib.hid (HSc.out.below hbb)
  have HWc := Lib.hid (HWc.out.below hbb)
  have HB := Lib.hid (bel_next HB.out hbb (Nat.le_refl _))
  obtain ⟨s0, s1, s2, s3⟩ := HSs.out.cells
  obtain ⟨t0, t1, t2, t3⟩ := HSi.out.cells
  clear h hb hW hS hB hbb
  go_wp2_with fail
  clear hw101
  generalize w10.heap.size = bd at *
  refine (find15_calls p0 p1 p2 A1 1 c1 f x _ HG.out HX.out HWi.out).mono ?_
  rintro e w12 h
  obtain ⟨hb, rfl⟩ := HF2.out _ _ _ h
  have HSs := Lib.hid (HSs.out.below hb)
  have HWs := Lib.hid (HWs.out.below hb)
  have HSi := Lib.hid (HSi.out.below hb)
  have HWi := Lib.hid (HWi.out.below hb)
  have HSa := Lib.hid (HSa.out.below hb)
  have HWa := Lib.hid (HWa.out.below hb)
  have HSb := Lib.hid (HSb.out.below hb)
  have HWb := Lib.hid (HWb.out.below hb)
  have HSc := Lib.hid (HSc.out.below hb)
  have HWc := Lib.hid (HWc.out.below hb)
  have HSd := Lib.hid (HSd.out.below hb)
  have HWd := Lib.hid (HWd.out.below hb)
  have HB := Lib.hid (bel_next HB.out hb (Nat.le_refl _))
  obtain ⟨s0, s1, s2, s3⟩ := HSs.out.cells
  obtain ⟨t0, t1, t2, t3⟩ := HSi.out.cells
  clear h hb
  go_wp2_with fail
  refine (find15r_calls p0 p1 p2 A0 1 cap0 f x _ HG.out HX.out HWs.out).mono ?_
  rintro e w13 h
  obtain ⟨hb, rfl⟩ := HF2.out _ _ _ h
  have HSs := Lib.hid (HSs.out.below hb)
  have HWs := Lib.hid (HWs.out.below hb)
  have HSi := Lib.hid (HSi.out.below hb)
  have HWi := Lib.hid (HWi.out.below hb)
  have HSa := Lib.hid (HSa.out.below hb)
  have HWa := Lib.hid (HWa.out.below hb)
  have HSb := Lib.hid (HSb.out.below hb)
  have HWb := Lib.hid (HWb.out.below hb)
  have HSc := Lib.hid (HSc.out.below hb)
  have HWc := Lib.hid (HWc.out.below hb)
  have HSd := Lib.hid (HSd.out.below hb)
  have HWd := Lib.hid (HWd.out.below hb)
  have HB := Lib.hid (bel_next HB.out hb (Nat.le_refl _))
  obtain ⟨s0, s1, s2, s3⟩ := HSs.out.cells
  obtain ⟨t0, t1, t2, t3⟩ := HSi.out.cells
  clear h hb
  go_wp2_with fail
  refine (count15_calls p0 p1 p2 A1 1 c1 f _ HG.out HWi.out).mono ?_
  rintro e w14 ⟨rfl, hb⟩
  have HSs := Lib.hid (HSs.out.below hb)
  have HWs := Lib.hid (HWs.out.below hb)
  have HSi := Lib.hid (HSi.out.below hb)
  have HWi := Lib.hid (HWi.out.below hb)
  have HSa := Lib.hid (HSa.out.below hb)
  have HWa := Lib.hid (HWa.out.below hb)
  have HSb := Lib.hid (HSb.out.below hb)
  have HWb := Lib.hid (HWb.out.below hb)
  have HSc := Lib.hid (HSc.out.below hb)
  have HWc := Lib.hid (HWc.out.below hb)
  have HSd := Lib.hid (HSd.out.below hb)
  have HWd := Lib.hid (HWd.out.below hb)
  have HB := Lib.hid (bel_next HB.out hb (Nat.le_refl _))
  obtain ⟨s0, s1, s2, s3⟩ := HSs.out.cells
  obtain ⟨t0, t1, t2, t3⟩ := HSi.out.cells
  clear hb
  go_wp2_with fail
  refine (bits15_calls p0 p1 p2 A0 1 cap0 f _ H2.out HWs.out).mono ?_
  rintro e w15 ⟨hb, ⟨hno, rfl⟩ | ⟨v, hok, rfl, hown⟩⟩
  · exact absurd HG.out.live hno
  obtain ⟨B, cb, hv⟩ := ownsRow_slice hown
  subst hv
  have HRd := Lib.hid (RdAt.of_own hown)
  have HSs := Lib.hid (HSs.out.below hb)
  have HWs := Lib.hid (HWs.out.below hb)
  have HSi := Lib.hid (HSi.out.below hb)
  have HWi := Lib.hid (HWi.out.below hb)
  have HSa := Lib.hid (HSa.out.below hb)
  have HWa := Lib.hid (HWa.out.below hb)
  have HSb := Lib.hid (HSb.out.below hb)
  have HWb := Lib.hid (HWb.out.below hb)
  have HSc := Lib.hid (HSc.out.below hb)
  have HWc := Lib.hid (HWc.out.below hb)
  have HSd := Lib.hid (HSd.out.below hb)
  have HWd := Lib.hid (HWd.out.below hb)
  have HB := Lib.hid (bel_next HB.out hb (Nat.le_refl _))
  obtain ⟨s0, s1, s2, s3⟩ := HSs.out.cells
  obtain ⟨t0, t1, t2, t3⟩ := HSi.out.cells
  clear hb hown hok
  go_wp2_with fail
  go_loopg [26, 27] (perN p2) (fun q c i wr => ∃ j : Nat, q + j = perN p2 ∧ i = .int .i64 j ∧ c = .int .i64 (cntF f j : Nat) ∧ w15 = wr)
  case atStart => exact ⟨0, by omega, rfl, rfl, rfl⟩
  case round =>
    obtain ⟨j, hj, rfl, rfl, rfl⟩ := hrel
    by_cases hlt : j < perN p2
    · obtain ⟨bz, oz, rfl, hl, hc⟩ := HRd.out.resolve_left (by omega)
      have hx := hc j _ (fnV_at _ _ j hlt)
      have hle := cntF_le f j
      have hs : cntF f (j + 1) = cntF f j + if f j then 1 else 0 := rfl
      obtain ⟨c, hc2⟩ : ∃ c, cntF f j = c := ⟨_, rfl⟩
      rw [hc2] at hle hs ⊢
      have HS := Lib.hid hs
      clear hc hc2 hs
      cases hf : f j
      · rw [hf] at hx
        have hs2 := HS.out
        rw [hf] at hs2
        have HS2 := Lib.hid hs2
        clear hf hs2 HS
        go_wp2
        go_roundg (perN p2 - (j + 1))
        case measure => omega
        case rel => exact ⟨j + 1, by omega, by go_num, by rw [HS2.out]; simp, rfl⟩
      · rw [hf] at hx
        have hs2 := HS.out
        rw [hf] at hs2
        have HS2 := Lib.hid hs2
        clear hf hs2 HS
        go_wp2
        go_roundg (perN p2 - (j + 1))
        case measure => omega
        case rel => exact ⟨j + 1, by omega, by go_num, by rw [HS2.out]; simp, rfl⟩
    · have hjP : j = perN p2 := by omega
      rw [hjP]
      generalize cntF f (perN p2) = cn at *
      generalize perN p2 = P at *
      obtain ⟨x0, x1, x2, x3⟩ := HSa.out.cells
      obtain ⟨y0, y1, y2, y3⟩ := HSb.out.cells
      go_wp2_with fail
      refine (same15_calls a1 a2 a3 Aa Ab La capa capb Fa _ HWa.out HWb.out).mono ?_
      rintro e w16 ⟨rfl, hb⟩
      have HB := Lib.hid (bel_next HB.out hb (Nat.le_refl _))
      have HWc := Lib.hid (HWc.out.below hb)
      have HWd := Lib.hid (HWd.out.below hb)
      have HWs := Lib.hid (HWs.out.below hb)
      have HWi := Lib.hid (HWi.out.below hb)
      have HSs := Lib.hid (HSs.out.below hb)
      have HSi := Lib.hid (HSi.out.below hb)
      obtain ⟨x0, x1, x2, x3⟩ := (HSc.out.below hb).cells
      obtain ⟨y0, y1, y2, y3⟩ := (HSd.out.below hb).cells
      clear hb
      go_wp2_with fail
      refine (same15_calls c1' c2 c3 Ac Ad Lc capc capd Fc _ HWc.out HWd.out).mono ?_
      rintro e w17 ⟨rfl, hb⟩
      have HB := Lib.hid (bel_next HB.out hb (Nat.le_refl _))
      have HWs := Lib.hid (HWs.out.below hb)
      have HWi := Lib.hid (HWi.out.below hb)
      obtain ⟨s0, s1, s2, s3⟩ := (HSs.out.below hb).cells
      obtain ⟨t0, t1, t2, t3⟩ := (HSi.out.below hb).cells
      clear hb
      go_wp2_with fail
      refine (same15_calls p0 p1 p2 A1 A0 1 c1 cap0 f _ HWi.out HWs.out).mono ?_
      rintro e w18 ⟨rfl, hb⟩
      have HB := Lib.hid (bel_next HB.out hb (Nat.le_refl _))
      clear hb
      go_wp2
      go_ret
      exact ⟨rfl, HB.out⟩
end Go.Proofs.Ytakcdkcikopoiaa
