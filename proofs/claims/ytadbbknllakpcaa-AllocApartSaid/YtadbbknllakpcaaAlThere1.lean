/- The walk of AllocAgainThere. -/
import Derived.Test.YtadbbknllakpcaaHeapG
namespace Go.Proofs.Ytadbbknllakpcaa
open Go.RowKit
set_option linter.unusedVariables false

theorem wf_u16x {n : Int} (h : (Lit.int .u16 n).wf = true) : 0 ≤ n ∧ n ≤ 65535 := by
  simp only [Lit.wf, Bool.and_eq_true, decide_eq_true_eq] at h; exact h
theorem wf_u8x {n : Int} (h : (Lit.int .u8 n).wf = true) : 0 ≤ n ∧ n ≤ 255 := by
  simp only [Lit.wf, Bool.and_eq_true, decide_eq_true_eq] at h; exact h
/-- While objects of one class are allocated. -/
def TidF (w wr : World) (H L : Nat) (n : Int) (j : Nat) (xs : List Int) (v : Value) : Prop :=
  ∃ S x F m, StF F w wr H L m S (rowL x) xs v ∧ Tid n S x ∧ 1 ≤ x ∧ x ≤ 1 + 4 * j ∧ m ≤ 2 * j ∧ xs.length = j ∧ ∀ a ∈ xs, (0 ≤ a ∧ a ≤ 2097152) ∧ ∃ z, Obj S a z
theorem StF.step2 {F : Nat → Prop} {w wr w' : World} {H L n n' : Nat} {S S' : List Sp} {l l' : List (Nat × Nat)} {xs : List Int} {v : Value} (h : StF F w wr H L n S l xs v) (hs : HStep F wr w' H L n' S' l') (hl : LandOf S' l') : ∃ F', StF F' w w' H L n' S' l' xs v ∧ ∀ k, F' k → F k ∨ wr.heap.size ≤ k := by
  obtain ⟨h1, h2, h3, h4, h5, h6⟩ := h
  obtain ⟨F', g1, g2, g3⟩ := hs
  refine ⟨F', ⟨g1, hl, fun k hk => (g3 k hk).elim (h3 k) (fun h => Nat.le_trans h6.size h), own_onlyC h4 g2 (fun k hk hF => h5 k hk hF), fun k hk hF => ?_, bel_only h6 g2 (Nat.le_refl _) h3⟩, g3⟩
  rcases g3 k hF with h | h
  · exact h5 k hk h
  · have := (h4.lt k hk).2; omega
theorem keep_cell3 {w wr w3 : World} {n b c i : Nat} {xs : List Int} {x : Int} (hB : Below wr.heap.size wr w3) (ho : wr.ownsRow w.heap.size 3 1 (.slice (some ⟨b, 0, none⟩) n c) xs.length (intsV xs)) (h : wr.cell? ⟨b, i, none⟩ = some (.int .i64 x)) : w3.cell? ⟨b, i, none⟩ = some (.int .i64 x) :=
  (World.cell?_of_block (hB.block b (ho.lt b rfl).2)).trans h
theorem SpansV.only {w w' : World} {B : Nat} {S : List Sp} {v : Value} {G : Nat → Prop} (h : SpansV w B S v) (o : Only G w w') (hG : ∀ k, B ≤ k → k < w.heap.size → ¬ G k) (hl : ∀ t ∈ S, 0 < t.len) : SpansV w' B S v := by
  obtain ⟨W, hr, hw, ha⟩ := h
  refine ⟨W, own_onlyC hr o (fun k hk => hG k (hr.lt k hk).1 (hr.lt k hk).2), fun i s hs => ⟨(hw i s hs).1.only o (fun x y he => hG x ((hw i s hs).2 x y he) ((hw i s hs).1.lt (hl s (List.mem_of_getElem? hs)) x y he)), (hw i s hs).2⟩, ha⟩
set_option maxRecDepth 8000 in
set_option maxHeartbeats 16000000 in
theorem there_walk (cn n0 at0 : Int) (w : World) (wf0 : (Lit.int .u8 cn).wf = true) (wf1 : (Lit.int .u16 n0).wf = true) (wf2 : (Lit.int .u8 at0).wf = true) :
    Calls Try.prog 4 #[.int .u8 cn, .int .u16 n0, .int .u8 at0] w fun e w' => e = .returned (.bool true) ∧ Below w.heap.size w w' := by
  obtain ⟨i0, hi0, hz0, hz1, hz2⟩ := info_parts info_IntA
  have hw0 := wf_u8x wf0
  have hw1 := wf_u16x wf1
  have hw2 := wf_u8x wf2
  obtain ⟨cN, rfl⟩ : ∃ k : Nat, cn = k := ⟨cn.toNat, by omega⟩
  obtain ⟨aN, rfl⟩ : ∃ k : Nat, at0 = k := ⟨at0.toNat, by omega⟩
  obtain ⟨n, hn⟩ : ∃ n, 1 + n0 % 1024 = n := ⟨_, rfl⟩
  obtain ⟨m, hm⟩ : ∃ m : Nat, cN % 60 = m := ⟨_, rfl⟩
  have hmm : (cN : Int) % 60 = (m : Int) := by omega
  have hm60 : m < 60 := by omega
  have hnb : 1 ≤ n ∧ n ≤ 1024 := by omega
  have hc : ¬ ofL n < 0 := by
    intro h
    have := pages_large h hnb.1 (by omega)
    omega
  have HC := Lib.hid hc
  have HNb := Lib.hid hnb
  clear wf0 wf1 wf2 hc
  go_enter Try.func4, Try.ntmps4
  go_wp2_with fail
  refine (awake17_calls w).mono ?_
  rintro e w1 ⟨rfl, hB⟩
  have HB1 := Lib.hid hB
  clear hB
  go_wp2_with fail
  refine (new17_calls w1 none 0 [] (zero_at w1) inv_nil).mono ?_
  rintro e w2 ⟨H, L, l, F, rfl, hH, hl, hF, hB⟩
  obtain rfl : l = rowL 1 := LandOf.one hl land_none hH.canon (rn.canon_one (by omega) (by omega) (by omega))
  have HSt := Lib.hid (show TidF w w2 H L n 0 [] (.slice none 0 0) from ⟨[], 1, F, 0, StF.start hH hl (fun k hk => Nat.le_trans HB1.out.size (hF k hk)) (bel_next HB1.out hB (Nat.le_refl _)), Tid.nil n 1, by omega, by omega, by omega, rfl, (fun a h => by cases h)⟩)
  clear hH hl hF hB
  go_wp2_with fail
  go_loopg [11, 10] (m + 1) (fun q s11 s10 wr => ∃ j, q = m + 1 - j ∧ j ≤ m + 1 ∧ s11 = .int .i64 (j : Int) ∧ Hid (∃ xs, TidF w wr H L n j xs s10))
  case atStart => exact ⟨0, by omega, by omega, rfl, Lib.hid ⟨[], HSt.out⟩⟩
  case round =>
    obtain ⟨j, hq, hjl, rfl, hst⟩ := hrel
    by_cases hlt : j < m + 1
    · obtain ⟨xs, S, x, F, k, hF, hT, hx1, hx2, hk, hxl, hxs⟩ := hst.out
      obtain ⟨a, S', x', hA, hT', hxx, hxy, hkeep, hob⟩ := tid_step (Int.not_lt.2 HC.out) hF.1.inv hT hx1 (by have := pages_class (Int.not_lt.2 HC.out); omega)
      have hp4 := (pages_class (Int.not_lt.2 HC.out)).2.2.1
      have HFx := Lib.hid hF
      have HA := Lib.hid hA
      have HT := Lib.hid (And.intro hT' (And.intro hkeep hob))
      have HXs := Lib.hid (And.intro hxl hxs)
      have HLt := Lib.hid hlt
      have HNum := Lib.hid (show x' ≤ 1 + 4 * (j + 1) ∧ 1 ≤ x' ∧ k ≤ 2 * j by omega)
      have hle : decide ((j : Int) ≤ (m : Int)) = true := decide_eq_true (by omega)
      have hle2 : decide (j ≤ m) = true := decide_eq_true (by omega)
      clear hF hT hx1 hx2 hk hxl hxs hA hT' hxx hxy hkeep hob hst
      go_wp2_with fail
      refine (alloc17_calls wr H L k S (rowL x) F n HFx.out.1 HFx.out.2.1 (by have := HNum.out; omega) (by have := HNb.out; unfold I64; omega)).mono ?_
      rintro e w3 ⟨a1, er, S1, l1, rfl, hA1, hl1, hS1⟩
      obtain ⟨rfl, rfl, rfl, rfl⟩ := HA.out.one HFx.out.1.inv hA1
      obtain ⟨F', hF'⟩ := HFx.out.step hS1 hl1
      have HF' := Lib.hid hF'
      have HAb := Lib.hid (HA.out.bd HFx.out.1.inv HFx.out.1.canon)
      clear hA1 hl1 hS1 hF'
      have HO := Lib.hid (HF'.out.2.2.2.1)
      rw [HXs.out.1] at HO
      have hbs := HF'.out.2.2.2.2.2.size
      go_wp2_with (at_builtin; refine wpList_append_new rfl (.tmp 45) (.tmp 47) 24 rfl w.heap.size 3 i0 _ 1 8 Try.underlying24 hi0 hz0 hz1 hz2 rfl (by decide) u10 j 1 _ rfl HO.out rfl rfl (one_int _) (by omega) (by unfold maxLen; omega) hbs ?_; intro v2 w5 hown2 hgr2 hnew2)
      have HF5 := Lib.hid (HF'.out.app (by rw [HXs.out.1]; exact hown2) hgr2 hnew2)
      clear hown2 hgr2 hnew2
      go_roundg (m + 1 - (j + 1))
      case measure => first | (rw [hq]; exact Nat.sub_lt_sub_left HLt.out (Nat.lt_succ_self _)) | exact Nat.sub_lt_sub_left HLt.out (Nat.lt_succ_self _)
      case rel =>
        refine ⟨j + 1, rfl, HLt.out, by go_num, Lib.hid ⟨xs ++ [a], S', x', F', k + 2, HF5.out, HT.out.1, HNum.out.2.1, HNum.out.1, by have := HNum.out; omega, by rw [List.length_append, HXs.out.1]; rfl, fun b hb => ?_⟩⟩
        rcases List.mem_append.1 hb with h | h
        · obtain ⟨h1, z, h2⟩ := HXs.out.2 b h
          exact ⟨h1, z, HT.out.2.1 b z h2⟩
        · obtain rfl := List.mem_singleton.1 h
          exact ⟨HAb.out, HT.out.2.2⟩
    · obtain rfl : j = m + 1 := by omega
      have hle : decide (((m + 1 : Nat) : Int) ≤ (m : Int)) = false := decide_eq_false (by omega)
      have hle2 : decide (m + 1 ≤ m) = false := decide_eq_false (by omega)
      have hle3 : decide ((m : Int) + 1 ≤ (m : Int)) = false := decide_eq_false (by omega)
      obtain ⟨xs, S, x, F, k, hF, hT, hx1, hx2, hk, hxl, hxs⟩ := hst.out
      obtain ⟨A9, c9, rfl⟩ := ownsRow_slice hF.2.2.2.1
      obtain ⟨i, hi⟩ : ∃ i, aN % (m + 1) = i := ⟨_, rfl⟩
      have him : i < m + 1 := by rw [← hi]; exact Nat.mod_lt _ (by omega)
      have hii : (aN : Int) % ((m : Int) + 1) = (i : Int) := by rw [← hi]; push_cast; rfl
      obtain ⟨a, ha⟩ : ∃ a, xs[i]? = some a := ⟨_, List.getElem?_eq_getElem (by omega)⟩
      obtain ⟨hab, hob⟩ := hxs a (List.mem_of_getElem? ha)
      obtain ⟨b9, _, he9, hc9⟩ := own_ints hF.2.2.2.1 ha
      rw [hxl] at he9 hF ⊢
      cases he9
      have HFx := Lib.hid hF
      have HT := Lib.hid (And.intro hT (And.intro hx1 (And.intro hx2 hk)))
      have HOb := Lib.hid hob
      have HC9 := Lib.hid hc9
      have HAt := Lib.hid ha
      clear hF hT hx1 hx2 hk hxl hxs hst ha hob hi
      go_wp2_with fail
      rw [hii]
      refine (spans_calls wr H L k S (rowL x) F HFx.out.1).mono ?_
      rintro e w3 ⟨v3, rfl, hV3, hB3⟩
      have HF3 := Lib.hid (HFx.out.below hB3)
      have HV3 := Lib.hid hV3
      have HB3 := Lib.hid hB3
      have hc3 := keep_cell3 hB3 HFx.out.2.2.2.1 HC9.out
      clear hV3 hB3 hc9
      go_wp2_with fail
      refine (free17_calls w3 H L k S (rowL x) F a HF3.out.1 HF3.out.2.1 (by have := HT.out; omega) (by unfold I64; omega)).mono ?_
      rintro e w4 ⟨r, kk, er, S1, l1, rfl, hFr, hl1, hS1⟩
      obtain ⟨F1, hF1, hFn1⟩ := HF3.out.step2 hS1 hl1
      have hO4 : Only F w3 w4 := hS1.only
      obtain rfl : er = 0 := (tid_again (a2 := 0) (e2 := 0) (S2 := S) (l2 := l1) (Int.not_lt.2 HC.out) HF3.out.1.inv HT.out.1 HT.out.2.1 (by have := HT.out; omega) HF3.out.2.1 HOb.out hFr hl1 hF1.1.canon hF1.1.inv).1
      have HFr := Lib.hid hFr
      have HF1 := Lib.hid hF1
      have HFn1 := Lib.hid (show ∀ k', F1 k' → F k' ∨ w3.heap.size ≤ k' from hFn1)
      obtain ⟨w5, hw5, hR5, hB5⟩ := one_row w4 r kk
      have HF5 := Lib.hid (HF1.out.below hB5)
      have HO5 := Lib.hid (show Only F w3 w5 from hO4.next hB5)
      clear hFr hl1 hS1 hF1 hFn1 hO4 hR5 hB5 hc3
      go_wp2_with fail
      clear hw5
      refine (alloc17_calls w5 H L (k + 2) S1 l1 F1 n HF5.out.1 HF5.out.2.1 (by have := HT.out; omega) (by have := HNb.out; unfold I64; omega)).mono ?_
      rintro e w6 ⟨a2, e2, S2, l2, rfl, hA2, hl2, hS2⟩
      obtain ⟨rfl, rfl, rfl⟩ := (tid_again (Int.not_lt.2 HC.out) HF3.out.1.inv HT.out.1 HT.out.2.1 (by have := HT.out; omega) HF3.out.2.1 HOb.out HFr.out HF5.out.2.1 HF5.out.1.canon HF5.out.1.inv).2 hA2
      obtain ⟨F2, hF2, hFn2⟩ := HF5.out.step2 hS2 hl2
      have hO6 : Only F1 w5 w6 := hS2.only
      have hO36 : Only F w3 w6 := (HO5.out).trans hO6 (fun i hi h => (HFn1.out i h).elim id (fun h2 => by omega))
      have hV6 := HV3.out.only hO36 (fun k' h1 h2 hk => by have := HFx.out.1.lt k' hk; omega) (fun t ht => (HF3.out.1.inv.1 t ht).1.len1)
      obtain ⟨A5, c5, rfl, hSp5⟩ := hV6.read
      have HSp5 := Lib.hid hSp5
      have HF6 := Lib.hid hF2
      obtain ⟨b8, c8, he8, hc8⟩ := own_ints hF2.2.2.2.1 HAt.out
      obtain rfl : b9 = b8 := by simp only [Value.slice.injEq, Option.some.injEq, Addr.mk.injEq] at he8; exact he8.1.1
      clear he8
      clear hA2 hl2 hS2 hF2 hFn2 hO6 hO36 hV6 hSp5
      go_wp2_with fail
      refine (spans_calls w6 H L _ _ l2 F2 HF6.out.1).mono ?_
      rintro e w7 ⟨v7, rfl, hV7, hB7⟩
      obtain ⟨A7, c7, rfl, hSp7⟩ := hV7.read
      have HSp7 := Lib.hid hSp7
      have HSp5b := Lib.hid (HSp5.out.below hB7)
      have HB7 := Lib.hid (bel_next HF6.out.2.2.2.2.2 hB7 (Nat.le_refl _))
      clear hV7 hB7 hSp7
      go_wp2_with fail
      refine (rsame17_calls w7 A7 A5 c7 c5 _ HSp7.out HSp5b.out (by have := HF6.out.1.inv.len; omega)).mono ?_
      rintro e w8 ⟨rfl, hB8⟩
      have HB8 := Lib.hid (bel_next HB7.out hB8 (Nat.le_refl _))
      clear hB8
      go_wp2
      go_ret
      exact ⟨rfl, HB8.out⟩
end Go.Proofs.Ytadbbknllakpcaa
