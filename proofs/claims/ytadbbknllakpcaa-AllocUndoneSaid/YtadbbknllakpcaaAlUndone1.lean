/- The walk of AllocUndone. -/
import Derived.Test.YtadbbknllakpcaaAlQ
import Derived.Test.YtadbbknllakpcaaHpCt
import Derived.Test.YtadbbknllakpcaaAlAgain1
import Derived.Test.YtadbbknllakpcaaAlThere1
namespace Go.Proofs.Ytadbbknllakpcaa
open Go.RowKit
set_option linter.unusedVariables false

/-- While objects are allocated one behind another. -/
def RowF (w wr : World) (H L : Nat) (j : Nat) (xs : List Int) (v : Value) : Prop :=
  ∃ S x F k, StF F w wr H L k S (rowL x) xs v ∧ (∀ s ∈ S, s.pg + s.ps ≤ x) ∧ 1 ≤ x ∧ x ≤ 1 + 6 * j ∧ k ≤ 2 * j ∧ xs.length = j ∧ Bd xs ∧ xs.Nodup ∧ ∀ b, (∃ z, Obj S b z) ↔ b ∈ xs
/-- While they are freed. -/
def OutF (w wr : World) (H L : Nat) (i : Nat) (xs : List Int) (v : Value) : Prop :=
  ∃ S l F k, StF F w wr H L k S l xs v ∧ k ≤ 1000 + 4 * i ∧ ∀ b, (∃ z, Obj S b z) ↔ ∃ j, i ≤ j ∧ xs[j]? = some b
theorem freed_first {S S1 : List Sp} {l l1 : List (Nat × Nat)} {a r k er : Int} (hI : Inv S) (ho : ∃ z, Obj S a z) (hF : FreeL S l a r k er S1 l1) : er = 0 ∧ ∀ b, (∃ z, Obj S1 b z) ↔ (∃ z, Obj S b z) ∧ b ≠ a := by
  obtain ⟨z, ho⟩ := ho
  rcases hF with ⟨_, _, _, _, _, hno⟩ | ⟨s, hs, i, hi, hf, rfl, rfl, rfl, _⟩
  · exact absurd ho (hno z)
  · refine ⟨rfl, fun b => ?_⟩
    constructor
    · rintro ⟨y, h⟩
      obtain ⟨h1, h2⟩ := (obj_free hI hs hi hf b y).1 h
      exact ⟨⟨y, h1⟩, h2⟩
    · rintro ⟨⟨y, h1⟩, h2⟩
      exact ⟨y, (obj_free hI hs hi hf b y).2 ⟨h1, h2⟩⟩
theorem freed_again {S S1 : List Sp} {l l1 : List (Nat × Nat)} {a r k er : Int} (ho : ∀ z, ¬ Obj S a z) (hF : FreeL S l a r k er S1 l1) : er = 17 ∧ S1 = S := by
  rcases hF with ⟨_, _, rfl, rfl, _, _⟩ | ⟨s, hs, i, hi, hf, rfl, _⟩
  · exact ⟨rfl, rfl⟩
  · exact absurd ⟨s, hs, i, hi, hf, rfl, rfl⟩ (ho _)
set_option maxRecDepth 8000 in
set_option maxHeartbeats 16000000 in
theorem undone_walk (a0 : Option Addr) (n0 c0 : Nat) (z0 : List Int) (n : Int) (w : World) (h0 : IsRow .u16 w a0 n0 c0 z0) (wf1 : (Lit.int .i64 n).wf = true) :
    Calls Try.prog 5 #[.slice a0 n0 c0, .int .i64 n] w fun e w' => e = .returned (.bool true) ∧ Below w.heap.size w w' := by
  obtain ⟨i0, hi0, hz0, hz1, hz2⟩ := info_parts info_IntA
  have H0 := Lib.hid h0
  have hnw := wf_i64 wf1
  clear h0 wf1
  go_enter Try.func5, Try.ntmps5
  go_wp2_with fail
  refine (awake17_calls w).mono ?_
  rintro e w1 ⟨rfl, hB⟩
  have HB1 := Lib.hid hB
  clear hB
  by_cases hs0 : n0 ≤ 30
  · have d0 : decide (30 < n0) = false := decide_eq_false (by omega)
    go_wp2_with fail
    clear d0
    refine (new17_calls w1 none 0 [] (zero_at w1) inv_nil).mono ?_
    rintro e w2 ⟨H, L, l, F, rfl, hH, hl, hF, hB⟩
    obtain rfl : l = rowL 1 := LandOf.one hl land_none hH.canon (rn.canon_one (by omega) (by omega) (by omega))
    have HSt := Lib.hid (show RowF w w2 H L 0 [] (.slice none 0 0) from ⟨[], 1, F, 0, StF.start hH hl (fun k hk => Nat.le_trans HB1.out.size (hF k hk)) (bel_next HB1.out hB (Nat.le_refl _)), (fun s h => by cases h), by omega, by omega, by omega, rfl, (fun a h => by cases h), List.nodup_nil, fun b => ⟨fun ⟨z, s, hs, _⟩ => (by cases hs), fun h => (by cases h)⟩⟩)
    clear hH hl hF hB
    go_wp2_with fail
    go_loopg [8, 7] n0 (fun q s8 s7 wr => ∃ j, q = n0 - j ∧ j ≤ n0 ∧ s8 = .int .i64 (j : Int) ∧ Hid (∃ xs, RowF w wr H L j xs s7))
    case atStart => exact ⟨0, by omega, by omega, rfl, Lib.hid ⟨[], HSt.out⟩⟩
    case round =>
      obtain ⟨j, hq, hjl, rfl, hst⟩ := hrel
      by_cases hlt : j < n0
      · obtain ⟨xs, S, x, F, k, hF, hT, hx1, hx2, hk, hxl, hbd, hnd, hob⟩ := hst.out
        obtain ⟨b, o, z, rfl, hb, hc, hwz⟩ := H0.out.read hlt
        have hcz := keep_cell hF.2.2.2.2.2 hb hc
        have hz := wf_u16 hwz
        obtain ⟨a, S', x', y, hA, hT', hxx, hxy, hobs, hno, _⟩ := row_step (n := 1 + z % 3000) (by omega) (by omega) hF.1.inv hT hx1 (by omega)
        have HFx := Lib.hid hF
        have HA := Lib.hid hA
        have HT := Lib.hid hT'
        have HXs := Lib.hid hxl
        have HBd := Lib.hid hbd
        have HNd := Lib.hid (show (xs ++ [a]).Nodup from List.nodup_append.2 ⟨hnd, by simp, fun u hu v hv e => by
          obtain rfl := List.mem_singleton.1 hv
          subst e
          obtain ⟨z, h⟩ := (hob u).2 hu
          exact hno z h⟩)
        have HOb := Lib.hid (show ∀ b, (∃ z, Obj S' b z) ↔ b ∈ xs ++ [a] from fun b => by
          rw [List.mem_append, List.mem_singleton, ← hob b]
          constructor
          · rintro ⟨z, h⟩
            exact ((hobs b z).1 h).imp (fun h => ⟨z, h⟩) (·.1)
          · rintro (⟨z, h⟩ | rfl)
            · exact ⟨z, (hobs b z).2 (.inl h)⟩
            · exact ⟨y, (hobs _ _).2 (.inr ⟨rfl, rfl⟩)⟩)
        have HLt := Lib.hid hlt
        have HNum := Lib.hid (show x' ≤ 1 + 6 * (j + 1) ∧ 1 ≤ x' ∧ k ≤ 2 * j by omega)
        clear hF hT hx1 hx2 hk hxl hbd hnd hob hA hT' hxx hxy hobs hno hst hb hc hwz
        go_wp2_with fail
        refine (alloc17_calls wr H L k S (rowL x) F (1 + z % 3000) HFx.out.1 HFx.out.2.1 (by have := HNum.out; omega) (by unfold I64; omega)).mono ?_
        rintro e w3 ⟨a1, er, S1, l1, rfl, hA1, hl1, hS1⟩
        obtain ⟨rfl, rfl, rfl, rfl⟩ := HA.out.one HFx.out.1.inv hA1
        obtain ⟨F', hF'⟩ := HFx.out.step hS1 hl1
        have HF' := Lib.hid hF'
        have HAb := Lib.hid (HA.out.bd HFx.out.1.inv HFx.out.1.canon)
        clear hA1 hl1 hS1 hF' hcz
        have HO := Lib.hid (HF'.out.2.2.2.1)
        rw [HXs.out] at HO
        have hbs := HF'.out.2.2.2.2.2.size
        go_wp2_with (at_builtin; refine wpList_append_new rfl (.tmp 55) (.tmp 57) 24 rfl w.heap.size 3 i0 _ 1 8 Try.underlying24 hi0 hz0 hz1 hz2 rfl (by decide) u7 j 1 _ rfl HO.out rfl rfl (one_int _) (by omega) (by unfold maxLen; omega) hbs ?_; intro v2 w5 hown2 hgr2 hnew2)
        have HF5 := Lib.hid (HF'.out.app (by rw [HXs.out]; exact hown2) hgr2 hnew2)
        clear hown2 hgr2 hnew2
        go_roundg (n0 - (j + 1))
        case measure => first | (rw [hq]; exact Nat.sub_lt_sub_left HLt.out (Nat.lt_succ_self _)) | exact Nat.sub_lt_sub_left HLt.out (Nat.lt_succ_self _)
        case rel => exact ⟨j + 1, rfl, HLt.out, by go_num, Lib.hid ⟨xs ++ [a], S', x', F', k + 2, HF5.out, HT.out, HNum.out.2.1, HNum.out.1, by have := HNum.out; omega, by rw [List.length_append, HXs.out]; rfl, HBd.out.snoc HAb.out, HNd.out, HOb.out⟩⟩
      · obtain rfl : j = n0 := by omega
        obtain ⟨xs, S, x, F, k, hF, hT, hx1, hx2, hk, hxl, hbd, hnd, hob⟩ := hst.out
        obtain ⟨A9, c9, rfl⟩ := ownsRow_slice hF.2.2.2.1
        rw [hxl] at hF ⊢
        have HFx := Lib.hid hF
        have HX := Lib.hid (And.intro hxl (And.intro hbd (And.intro hnd (And.intro hob hk))))
        clear hF hT hx1 hx2 hk hxl hbd hnd hob hst
        go_wp2_with fail
        refine (spans_calls wr H L k S (rowL x) F HFx.out.1).mono ?_
        rintro e w3 ⟨v3, rfl, hV3, hB3⟩
        have HF3 := Lib.hid (HFx.out.below hB3)
        have HV3 := Lib.hid hV3
        have HB3 := Lib.hid hB3
        clear hV3 hB3
        go_wp2_with fail
        refine (alloc17_calls w3 H L k S (rowL x) F n HF3.out.1 HF3.out.2.1 (by have := HX.out.2.2.2.2; omega) (by unfold I64; omega)).mono ?_
        rintro e w4 ⟨a1, er, S1, l1, rfl, hA1, hl1, hS1⟩
        obtain ⟨F1, hF1, hFn1⟩ := HF3.out.step2 hS1 hl1
        have hO4 : Only F w3 w4 := hS1.only
        by_cases her : er = 0
        · subst her
          have HAb := Lib.hid (hA1.bd HF3.out.1.inv HF3.out.1.canon)
          have HA1 := Lib.hid hA1
          have HF1 := Lib.hid hF1
          have HFn1 := Lib.hid hFn1
          have HO4 := Lib.hid hO4
          clear hA1 hl1 hS1 hF1 hFn1 hO4
          go_wp2_with fail
          refine (free17_calls w4 H L (k + 2) S1 l1 F1 a1 HF1.out.1 HF1.out.2.1 (by have := HX.out.2.2.2.2; omega) (by have := HAb.out; unfold I64; omega)).mono ?_
          rintro e w5 ⟨r, kk, er2, S2, l2, rfl, hFr, hl2, hS2⟩
          obtain ⟨rfl, hSS⟩ := alloc_free HF3.out.1.inv HF3.out.2.1 HF3.out.1.canon HF1.out.1.inv HA1.out hFr
          subst hSS
          obtain ⟨F2, hF2⟩ := HF1.out.step hS2 hl2
          have hO5 : Only F w3 w5 := HO4.out.trans hS2.only (fun i hi h => (HFn1.out i h).elim id (fun h2 => by omega))
          have hVZ := HV3.out.only hO5 (fun k' h1 h2 hk => by have := HFx.out.1.lt k' hk; omega) (fun t ht => (HF3.out.1.inv.1 t ht).1.len1)
          obtain ⟨w6, hw6, hR6, hB6⟩ := one_row w5 r kk
          have HFZ := Lib.hid (hF2.below hB6)
          have HVZ := Lib.hid (hVZ.below hB6)
          clear hFr hl2 hS2 hF2 hO5 hVZ hR6 hB6
          have HO0 := Lib.hid (show OutF w w6 H L 0 xs (.slice A9 j c9) from ⟨S2, l2, F2, (k + 2 + 2), HFZ.out, by have := HX.out.2.2.2.2; omega, fun b => (HX.out.2.2.2.1 b).trans ⟨fun h => by obtain ⟨i, hi⟩ := List.mem_iff_getElem?.1 h; exact ⟨i, by omega, hi⟩, fun ⟨i, _, hi⟩ => List.mem_of_getElem? hi⟩⟩)
          go_wp2_with fail
          refine (spans_calls w6 H L (k + 2 + 2) S2 l2 F2 HFZ.out.1).mono ?_
          rintro e w7 ⟨v7, rfl, hV7, hB7⟩
          obtain ⟨A7, c7, rfl, hSp7⟩ := hV7.read
          obtain ⟨A5, c5, he5, hSp5⟩ := HVZ.out.read
          obtain rfl := he5
          have HSp7 := Lib.hid hSp7
          have HSp5 := Lib.hid (hSp5.below hB7)
          have HB7 := Lib.hid hB7
          clear hV7 hSp7 hSp5 hB7
          go_wp2_with fail
          refine (rsame17_calls w7 A7 A5 c7 c5 _ HSp7.out HSp5.out (by have := HFZ.out.1.inv.len; omega)).mono ?_
          rintro e w8 ⟨rfl, hB8⟩
          have HO8 := Lib.hid (show OutF w w8 H L 0 xs (.slice A9 j c9) from by
            obtain ⟨S', l', F', k', g1, g2, g3⟩ := HO0.out
            exact ⟨S', l', F', k', g1.below (bel_next HB7.out hB8 (Nat.le_refl _)), g2, g3⟩)
          clear hB8
          go_wp2_with fail
          go_loopg [16] j (fun q s16 wr => ∃ i, q = j - i ∧ i ≤ j ∧ s16 = .int .i64 (i : Int) ∧ Hid (OutF w wr H L i xs (.slice A9 j c9)))
          case atStart => exact ⟨0, by omega, by omega, rfl, HO8⟩
          case round =>
            obtain ⟨i, hq, hil, rfl, hst⟩ := hrel
            by_cases hlt : i < j
            · obtain ⟨S, l, F, k, hF, hk, hob⟩ := hst.out
              obtain ⟨a, ha⟩ : ∃ a, xs[i]? = some a := ⟨_, List.getElem?_eq_getElem (by have := HX.out.1; omega)⟩
              obtain ⟨b9, c8, he9, hc9⟩ := own_ints hF.2.2.2.1 ha
              have hbd := HX.out.2.1 a (List.mem_of_getElem? ha)
              have hA9 : A9 = some ⟨b9, 0, none⟩ := by simp only [Value.slice.injEq] at he9; exact he9.1
              have HAo := Lib.hid ((hob a).2 ⟨i, Nat.le_refl _, ha⟩)
              have HF := Lib.hid hF
              have Hk := Lib.hid hk
              have HOb := Lib.hid hob
              have HA := Lib.hid ha
              have HLt := Lib.hid hlt
              have HA9 := Lib.hid hA9
              subst hA9
              clear hF hk hob ha he9
              go_wp2_with fail
              refine (free17_calls _ H L k S l F a HF.out.1 HF.out.2.1 (by have := Hk.out; omega) (by unfold I64; omega)).mono ?_
              rintro e w9 ⟨r, kk, er, S1, l1, rfl, hFr, hl1, hS1⟩
              obtain ⟨rfl, hob1⟩ := freed_first HF.out.1.inv HAo.out hFr
              obtain ⟨F1, hF1⟩ := HF.out.step hS1 hl1
              have HOb1 := Lib.hid hob1
              obtain ⟨w10, hw10, hR10, hB10⟩ := one_row w9 r kk
              have HF1 := Lib.hid (hF1.below hB10)
              obtain ⟨b8, c6, he8, hc8⟩ := own_ints HF1.out.2.2.2.1 HA.out
              obtain rfl : b9 = b8 := by simp only [Value.slice.injEq, Option.some.injEq, Addr.mk.injEq] at he8; exact he8.1.1
              clear hFr hl1 hS1 hF1 hob1 hR10 hB10 he8 hc9
              go_wp2_with fail
              clear hw10
              refine (free17_calls _ H L (k + 2) S1 l1 F1 a HF1.out.1 HF1.out.2.1 (by have := Hk.out; omega) (by unfold I64; omega)).mono ?_
              rintro e w11 ⟨r2, k2, er2, S2, l2, rfl, hFr, hl1, hS1⟩
              obtain ⟨rfl, rfl⟩ := freed_again (fun z hz => ((HOb1.out a).1 ⟨z, hz⟩).2 rfl) hFr
              obtain ⟨F2, hF2⟩ := HF1.out.step hS1 hl1
              obtain ⟨w12, hw12, hR12, hB12⟩ := one_row w11 r2 k2
              have HN := Lib.hid (show OutF w w12 H L (i + 1) xs (.slice (some ⟨b9, 0, none⟩) j c9) from ⟨_, _, _, _, hF2.below hB12, by have := Hk.out; omega, fun b => by
                rw [HOb1.out b, HOb.out b]
                constructor
                · rintro ⟨⟨q, h1, h2⟩, h3⟩
                  refine ⟨q, ?_, h2⟩
                  rcases Nat.lt_or_ge i q with h | h
                  · exact h
                  · exfalso
                    obtain rfl : q = i := by omega
                    rw [HA.out] at h2; cases h2; exact h3 rfl
                · rintro ⟨q, h1, h2⟩
                  refine ⟨⟨q, by omega, h2⟩, fun e => ?_⟩
                  subst e
                  have := (List.getElem?_inj (i := q) (j := i) (by have := (List.getElem?_eq_some_iff.1 h2).1; exact this) HX.out.2.2.1).1 (h2.trans HA.out.symm)
                  omega⟩)
              clear hFr hl1 hS1 hF2 hR12 hB12 hc8
              go_wp2
              go_roundg (j - (i + 1))
              case measure => first | (rw [hq]; exact Nat.sub_lt_sub_left HLt.out (Nat.lt_succ_self _)) | exact Nat.sub_lt_sub_left HLt.out (Nat.lt_succ_self _)
              case rel => exact ⟨i + 1, rfl, HLt.out, by go_num, HN⟩
            · obtain rfl : i = j := by omega
              obtain ⟨S, l, F, k, hF, hk, hob⟩ := hst.out
              obtain rfl : S = [] := obj_none hF.1.inv (fun b z h => by
                obtain ⟨q, h1, h2⟩ := (hob b).1 ⟨z, h⟩
                have := (List.getElem?_eq_some_iff.1 h2).1
                have := HX.out.1
                omega)
              have HF := Lib.hid hF
              clear hF hk hob
              go_wp2_with fail
              refine (count17_calls _ H L k [] l F HF.out.1).mono ?_
              rintro e w9 ⟨rfl, hB9⟩
              have HF9 := Lib.hid (HF.out.below hB9)
              clear hB9
              go_wp2_with fail
              refine (spans_calls w9 H L k [] l F HF9.out.1).mono ?_
              rintro e w10 ⟨v10, rfl, hV10, hB10⟩
              obtain ⟨A10, c10, rfl, _⟩ := hV10.read
              have HB10 := Lib.hid (bel_next HF9.out.2.2.2.2.2 hB10 (Nat.le_refl _))
              clear hV10 hB10
              have e1 : ((cntAll [] : Nat) : Int) = 0 := rfl
              have e2 : ((octAll [] : Nat) : Int) = 0 := rfl
              rw [e1, e2]
              clear e1 e2
              go_wp2
              go_ret
              exact ⟨rfl, HB10.out⟩
        · have hS1S : S1 = S := by
            rcases hA1 with ⟨_, _, _, h, _⟩ | ⟨_, ⟨_, s, r, i, _, _, _, _, _, h, _⟩ | ⟨_, ⟨_, _, _, h, _⟩ | ⟨b, p, _, _, h, _⟩⟩⟩
            · exact h
            · exact absurd h her
            · exact h
            · exact absurd h her
          subst hS1S
          have hVZ := HV3.out.only hO4 (fun k' h1 h2 hk => by have := HFx.out.1.lt k' hk; omega) (fun t ht => (HF3.out.1.inv.1 t ht).1.len1)
          have HFZ := Lib.hid hF1
          have HVZ := Lib.hid hVZ
          have d1 : (er == 0) = false := by rw [beq_eq_false_iff_ne]; exact her
          clear hA1 hl1 hS1 hF1 hFn1 hO4 hVZ
          have HO0 := Lib.hid (show OutF w w4 H L 0 xs (.slice A9 j c9) from ⟨S1, l1, F1, (k + 2), HFZ.out, by have := HX.out.2.2.2.2; omega, fun b => (HX.out.2.2.2.1 b).trans ⟨fun h => by obtain ⟨i, hi⟩ := List.mem_iff_getElem?.1 h; exact ⟨i, by omega, hi⟩, fun ⟨i, _, hi⟩ => List.mem_of_getElem? hi⟩⟩)
          go_wp2_with fail
          refine (spans_calls w4 H L (k + 2) S1 l1 F1 HFZ.out.1).mono ?_
          rintro e w7 ⟨v7, rfl, hV7, hB7⟩
          obtain ⟨A7, c7, rfl, hSp7⟩ := hV7.read
          obtain ⟨A5, c5, he5, hSp5⟩ := HVZ.out.read
          obtain rfl := he5
          have HSp7 := Lib.hid hSp7
          have HSp5 := Lib.hid (hSp5.below hB7)
          have HB7 := Lib.hid hB7
          clear hV7 hSp7 hSp5 hB7
          go_wp2_with fail
          refine (rsame17_calls w7 A7 A5 c7 c5 _ HSp7.out HSp5.out (by have := HFZ.out.1.inv.len; omega)).mono ?_
          rintro e w8 ⟨rfl, hB8⟩
          have HO8 := Lib.hid (show OutF w w8 H L 0 xs (.slice A9 j c9) from by
            obtain ⟨S', l', F', k', g1, g2, g3⟩ := HO0.out
            exact ⟨S', l', F', k', g1.below (bel_next HB7.out hB8 (Nat.le_refl _)), g2, g3⟩)
          clear hB8
          go_wp2_with fail
          go_loopg [16] j (fun q s16 wr => ∃ i, q = j - i ∧ i ≤ j ∧ s16 = .int .i64 (i : Int) ∧ Hid (OutF w wr H L i xs (.slice A9 j c9)))
          case atStart => exact ⟨0, by omega, by omega, rfl, HO8⟩
          case round =>
            obtain ⟨i, hq, hil, rfl, hst⟩ := hrel
            by_cases hlt : i < j
            · obtain ⟨S, l, F, k, hF, hk, hob⟩ := hst.out
              obtain ⟨a, ha⟩ : ∃ a, xs[i]? = some a := ⟨_, List.getElem?_eq_getElem (by have := HX.out.1; omega)⟩
              obtain ⟨b9, c8, he9, hc9⟩ := own_ints hF.2.2.2.1 ha
              have hbd := HX.out.2.1 a (List.mem_of_getElem? ha)
              have hA9 : A9 = some ⟨b9, 0, none⟩ := by simp only [Value.slice.injEq] at he9; exact he9.1
              have HAo := Lib.hid ((hob a).2 ⟨i, Nat.le_refl _, ha⟩)
              have HF := Lib.hid hF
              have Hk := Lib.hid hk
              have HOb := Lib.hid hob
              have HA := Lib.hid ha
              have HLt := Lib.hid hlt
              have HA9 := Lib.hid hA9
              subst hA9
              clear hF hk hob ha he9
              go_wp2_with fail
              refine (free17_calls _ H L k S l F a HF.out.1 HF.out.2.1 (by have := Hk.out; omega) (by unfold I64; omega)).mono ?_
              rintro e w9 ⟨r, kk, er, S1, l1, rfl, hFr, hl1, hS1⟩
              obtain ⟨rfl, hob1⟩ := freed_first HF.out.1.inv HAo.out hFr
              obtain ⟨F1, hF1⟩ := HF.out.step hS1 hl1
              have HOb1 := Lib.hid hob1
              obtain ⟨w10, hw10, hR10, hB10⟩ := one_row w9 r kk
              have HF1 := Lib.hid (hF1.below hB10)
              obtain ⟨b8, c6, he8, hc8⟩ := own_ints HF1.out.2.2.2.1 HA.out
              obtain rfl : b9 = b8 := by simp only [Value.slice.injEq, Option.some.injEq, Addr.mk.injEq] at he8; exact he8.1.1
              clear hFr hl1 hS1 hF1 hob1 hR10 hB10 he8 hc9
              go_wp2_with fail
              clear hw10
              refine (free17_calls _ H L (k + 2) S1 l1 F1 a HF1.out.1 HF1.out.2.1 (by have := Hk.out; omega) (by unfold I64; omega)).mono ?_
              rintro e w11 ⟨r2, k2, er2, S2, l2, rfl, hFr, hl1, hS1⟩
              obtain ⟨rfl, rfl⟩ := freed_again (fun z hz => ((HOb1.out a).1 ⟨z, hz⟩).2 rfl) hFr
              obtain ⟨F2, hF2⟩ := HF1.out.step hS1 hl1
              obtain ⟨w12, hw12, hR12, hB12⟩ := one_row w11 r2 k2
              have HN := Lib.hid (show OutF w w12 H L (i + 1) xs (.slice (some ⟨b9, 0, none⟩) j c9) from ⟨_, _, _, _, hF2.below hB12, by have := Hk.out; omega, fun b => by
                rw [HOb1.out b, HOb.out b]
                constructor
                · rintro ⟨⟨q, h1, h2⟩, h3⟩
                  refine ⟨q, ?_, h2⟩
                  rcases Nat.lt_or_ge i q with h | h
                  · exact h
                  · exfalso
                    obtain rfl : q = i := by omega
                    rw [HA.out] at h2; cases h2; exact h3 rfl
                · rintro ⟨q, h1, h2⟩
                  refine ⟨⟨q, by omega, h2⟩, fun e => ?_⟩
                  subst e
                  have := (List.getElem?_inj (i := q) (j := i) (by have := (List.getElem?_eq_some_iff.1 h2).1; exact this) HX.out.2.2.1).1 (h2.trans HA.out.symm)
                  omega⟩)
              clear hFr hl1 hS1 hF2 hR12 hB12 hc8
              go_wp2
              go_roundg (j - (i + 1))
              case measure => first | (rw [hq]; exact Nat.sub_lt_sub_left HLt.out (Nat.lt_succ_self _)) | exact Nat.sub_lt_sub_left HLt.out (Nat.lt_succ_self _)
              case rel => exact ⟨i + 1, rfl, HLt.out, by go_num, HN⟩
            · obtain rfl : i = j := by omega
              obtain ⟨S, l, F, k, hF, hk, hob⟩ := hst.out
              obtain rfl : S = [] := obj_none hF.1.inv (fun b z h => by
                obtain ⟨q, h1, h2⟩ := (hob b).1 ⟨z, h⟩
                have := (List.getElem?_eq_some_iff.1 h2).1
                have := HX.out.1
                omega)
              have HF := Lib.hid hF
              clear hF hk hob
              go_wp2_with fail
              refine (count17_calls _ H L k [] l F HF.out.1).mono ?_
              rintro e w9 ⟨rfl, hB9⟩
              have HF9 := Lib.hid (HF.out.below hB9)
              clear hB9
              go_wp2_with fail
              refine (spans_calls w9 H L k [] l F HF9.out.1).mono ?_
              rintro e w10 ⟨v10, rfl, hV10, hB10⟩
              obtain ⟨A10, c10, rfl, _⟩ := hV10.read
              have HB10 := Lib.hid (bel_next HF9.out.2.2.2.2.2 hB10 (Nat.le_refl _))
              clear hV10 hB10
              have e1 : ((cntAll [] : Nat) : Int) = 0 := rfl
              have e2 : ((octAll [] : Nat) : Int) = 0 := rfl
              rw [e1, e2]
              clear e1 e2
              go_wp2
              go_ret
              exact ⟨rfl, HB10.out⟩
  · have d0 : decide (30 < n0) = true := decide_eq_true (by omega)
    go_wp2_with fail
    refine (awake17_calls _).mono ?_
    rintro e w2 ⟨rfl, hB⟩
    have HB2 := Lib.hid (bel_next HB1.out hB (Nat.le_refl _))
    clear hB
    go_wp2
    go_ret
    exact ⟨rfl, HB2.out⟩
end Go.Proofs.Ytadbbknllakpcaa
