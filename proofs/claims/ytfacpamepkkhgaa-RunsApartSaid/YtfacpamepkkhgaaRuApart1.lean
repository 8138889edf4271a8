/- The walk of RunsApart. -/
import Derived.Test.YtfacpamepkkhgaaRuBest1
import Derived.Test.YtfacpamepkkhgaaRunR
import Derived.BigQuiet
namespace Go.Proofs.Ytfacpamepkkhgaa
open Go.RowKit
set_option linter.unusedVariables false

theorem rem_mod (n c : Int) (h : 1 ≤ c) (h2 : c ≤ 1000) : 0 ≤ n.tmod c % c ∧ n.tmod c % c ≤ c - 1 ∧ -c < n.tmod c ∧ n.tmod c < c := by
  have h3 := Int.emod_nonneg (n.tmod c) (show c ≠ 0 by omega)
  have h4 := Int.emod_lt_of_pos (n.tmod c) (show 0 < c by omega)
  have h5 := Int.tmod_lt_of_pos n (show 0 < c by omega)
  have h6 : -c < n.tmod c := by
    have := Int.tmod_lt_of_pos (-n) (show 0 < c by omega)
    rw [Int.neg_tmod] at this
    omega
  omega
/-- The pages of the row that was taken q-th. -/
def InB (ys : List Nat) (q j : Nat) : Prop := 1 + (ys.take q).sum ≤ j ∧ j < 1 + (ys.take (q + 1)).sum
theorem sum_take_mono (ys : List Nat) {a b : Nat} (h : a ≤ b) : (ys.take a).sum ≤ (ys.take b).sum := by
  have := sum_take_le (ys.take b) a
  rw [List.take_take, Nat.min_eq_left h] at this
  exact this
theorem InB.one {ys : List Nat} {q q' j : Nat} (h : InB ys q j) (h' : InB ys q' j) : q = q' := by
  unfold InB at h h'
  rcases Nat.lt_trichotomy q q' with e | e | e
  · have := sum_take_mono ys (show q + 1 ≤ q' by omega); omega
  · exact e
  · have := sum_take_mono ys (show q' + 1 ≤ q by omega); omega
theorem InB.find (ys : List Nat) (j : Nat) (h1 : 1 ≤ j) (n : Nat) (h : j < 1 + (ys.take n).sum) : ∃ q, q < n ∧ InB ys q j := by
  induction n with
  | zero => simp at h; omega
  | succ n ih =>
    by_cases h2 : j < 1 + (ys.take n).sum
    · obtain ⟨q, hq, h3⟩ := ih h2
      exact ⟨q, by omega, h3⟩
    · exact ⟨n, by omega, by omega, h⟩
theorem mod_two {a n : Nat} (h : a < 2 * n) : a % n = if a < n then a else a - n := by
  split
  · exact Nat.mod_eq_of_lt ‹_›
  · rw [Nat.mod_eq_sub_mod (by omega), Nat.mod_eq_of_lt (by omega)]
/-- Which pages are free when i rows were given again, from the c-th on. -/
def Inv (ys : List Nat) (c i : Nat) (l : List (Nat × Nat)) : Prop := ∀ j, Fr l j ↔ (1 ≤ j ∧ j < 4096) ∧ ¬ ∃ t, i ≤ t ∧ t < ys.length ∧ InB ys ((t + c) % ys.length) j
theorem inv_first {ys : List Nat} {c : Nat} (hS : ys.sum < 4095) (hc : 0 < ys.length → c < ys.length) : Inv ys c 0 [(1 + ys.sum, 4095 - ys.sum)] := by
  intro j
  rw [Fr_cons]
  constructor
  · rintro (h | ⟨q, hq, _⟩)
    · simp only at h
      refine ⟨by omega, ?_⟩
      rintro ⟨t, _, _, h2⟩
      have := sum_take_le ys ((t + c) % ys.length + 1)
      have := h2.2
      omega
    · cases hq
  · rintro ⟨h1, h2⟩
    refine .inl ?_
    simp only
    refine Classical.byContradiction fun h3 => h2 ?_
    obtain ⟨q, hq, hb⟩ := InB.find ys j h1.1 ys.length (by rw [List.take_length]; omega)
    have hc2 := hc (by omega)
    by_cases hqc : c ≤ q
    · exact ⟨q - c, by omega, by omega, by rw [show q - c + c = q by omega, Nat.mod_eq_of_lt hq]; exact hb⟩
    · exact ⟨q + ys.length - c, by omega, by omega, by rw [show q + ys.length - c + c = q + ys.length by omega, Nat.add_mod_right, Nat.mod_eq_of_lt hq]; exact hb⟩
theorem inv_taken {ys : List Nat} {c i x n : Nat} {l : List (Nat × Nat)} (h : Inv ys c i l) (hi : i < ys.length) (hx : x = 1 + (ys.take ((i + c) % ys.length)).sum) (hn : x + n = 1 + (ys.take ((i + c) % ys.length + 1)).sum) : ∀ j, x ≤ j → j < x + n → ¬ Fr l j := by
  intro j h1 h2 h3
  exact ((h j).1 h3).2 ⟨i, Nat.le_refl _, hi, by omega, by omega⟩
theorem inv_next {ys : List Nat} {c i x n : Nat} {l m : List (Nat × Nat)} (h : Inv ys c i l) (hi : i < ys.length) (hc : c < ys.length) (hS : ys.sum < 4095) (hx : x = 1 + (ys.take ((i + c) % ys.length)).sum) (hn : x + n = 1 + (ys.take ((i + c) % ys.length + 1)).sum)
    (hm : ∀ j, Fr m j ↔ Fr l j ∨ (x ≤ j ∧ j < x + n)) : Inv ys c (i + 1) m := by
  intro j
  rw [hm, h j]
  constructor
  · rintro (⟨h1, h2⟩ | h1)
    · exact ⟨h1, fun ⟨t, h3, h4, h5⟩ => h2 ⟨t, by omega, h4, h5⟩⟩
    · refine ⟨by have := sum_take_le ys ((i + c) % ys.length + 1); omega, fun ⟨t, h3, h4, h5⟩ => ?_⟩
      have := h5.one (show InB ys ((i + c) % ys.length) j from ⟨by omega, by omega⟩)
      rw [mod_two (show t + c < 2 * ys.length by omega), mod_two (show i + c < 2 * ys.length by omega)] at this
      split at this <;> split at this <;> omega
  · rintro ⟨h1, h2⟩
    by_cases h3 : x ≤ j ∧ j < x + n
    · exact .inr h3
    · refine .inl ⟨h1, fun ⟨t, h4, h5, h6⟩ => ?_⟩
      by_cases e : t = i
      · subst e
        exact h3 ⟨by have := h6.1; omega, by have := h6.2; omega⟩
      · exact h2 ⟨t, by omega, h5, h6⟩
theorem inv_last {ys : List Nat} {c : Nat} {l : List (Nat × Nat)} (hl : Canon l) (h : Inv ys c ys.length l) : l = [(1, 4095)] := by
  refine hl.ext (canon_one (by omega) (by omega) (by omega)) fun j => ?_
  rw [h j, fr_one]
  exact ⟨fun h => h.1, fun h => ⟨h, fun ⟨t, h1, h2, _⟩ => by omega⟩⟩

set_option maxRecDepth 8000 in
set_option maxHeartbeats 16000000 in
theorem apart_walk (a0 : Option Addr) (len cap0 : Nat) (zs : List Int) (tn : Int) (w : World) (hrow : IsRow .u8 w a0 len cap0 zs) (wf1 : (Lit.int .i64 tn).wf = true) :
    Calls Try.prog 4 #[.slice a0 len cap0, .int .i64 tn] w fun e w' => e = .returned (.bool true) ∧ Below w.heap.size w w' := by
  obtain ⟨i0, hi, hz0, hz1, hz2⟩ := info_parts Try.info_int
  have hlen := hrow.len_le
  have htn := wf_i64 wf1
  have HAt := Lib.hid (NumAt.of_row (M := 255) hrow (fun n hn => by have := wf_u8 hn; omega))
  clear hrow wf1
  by_cases hl : 40 < len
  · go_enter Try.func4, Try.ntmps4
    go_wp2_with fail
    refine (awake_calls16 _).mono ?_
    rintro e w1 ⟨rfl, hb1⟩
    have HB1 := Lib.hid hb1
    clear hb1
    go_wp2_with fail
    refine (awake_calls16 _).mono ?_
    rintro e w2 ⟨rfl, hb2⟩
    have HB2 := Lib.hid (bel_next HB1.out hb2 (Nat.le_refl _))
    clear hb2
    go_wp2
    go_ret
    exact ⟨rfl, HB2.out⟩
  have hl2 : len ≤ 40 := by omega
  clear hl
  go_enter Try.func4, Try.ntmps4
  go_wp2_with fail
  refine (awake_calls16 _).mono ?_
  rintro e w1 ⟨rfl, hb1⟩
  have HB1 := Lib.hid hb1
  clear hb1
  go_wp2_with fail
  refine (new16_calls _).mono ?_
  rintro e w2 ⟨L, g0, c0, rfl, hla, hL, hg, hb⟩
  have hb1s := HB1.out.size
  have HT2 := Lib.hid (Two.new (w0 := w) hla (by omega) (by omega) (bel_next HB1.out hb (Nat.le_refl _)))
  clear hla hL hg hb
  go_wp2_with fail
  go_loopg [6, 7, 8, 9, 10, 11, 12] len (fun q v1 v2 i s9 s10 s11 s12 wr => ∃ (ys : List Nat) (g cap : Nat), q + ys.length = len ∧ i = .int .i64 ys.length ∧ Hid (∀ y ∈ ys, 1 ≤ y ∧ y ≤ 60) ∧ Hid (Two w wr L g cap [(1 + ys.sum, 4095 - ys.sum)] (froms ys) ys v1 v2))
  case atStart => exact ⟨[], g0, c0, by simp, rfl, Lib.hid (fun y hy => by cases hy), HT2⟩
  case round =>
    obtain ⟨ys, g, cap, hq, rfl, hys, ht⟩ := hrel
    have hsb := sum_bound ys hys.out
    obtain ⟨j, hj⟩ : ∃ j, ys.length = j := ⟨_, rfl⟩
    have HJ := Lib.hid hj
    rw [hj] at hq hsb ⊢
    clear hj
    by_cases hlt : j < len
    · obtain ⟨bb, oo, rfl, hbl, hcc⟩ := HAt.out.resolve_left (by omega)
      obtain ⟨z, hz, hzc⟩ := hcc j hlt
      have hx := (ht.out.bel.cell (p := ⟨bb, oo + j, none⟩) hbl).trans hzc
      obtain ⟨k, hk⟩ : ∃ k : Nat, 1 + z % 60 = k := ⟨_, rfl⟩
      have hki : 1 + (z : Int) % 60 = (k : Int) := by omega
      have hk2 : 1 ≤ k ∧ k ≤ 60 := by omega
      have HTw := ht
      have HYs := hys
      obtain ⟨S, hS⟩ : ∃ S, ys.sum = S := ⟨_, rfl⟩
      have HSs := Lib.hid hS
      rw [hS] at hsb
      clear hcc hzc hk ht hys hS
      go_wp2_with fail
      refine (take16_calls _ L g cap _ k HTw.out.land (by rw [HSs.out]; exact canon_one (by omega) (by omega) (by omega)) (by simp) (by omega)).mono ?_
      rintro e w5 h
      have hbt := take_is h (by omega) (best_first (by rw [HSs.out]; omega) (fun q hq => by cases hq))
      obtain ⟨rfl, hr⟩ := hbt
      rw [Int.toNat_natCast, leftR_front (by rw [HSs.out]; omega)] at hr
      obtain ⟨g5, cap5, ht5⟩ := HTw.out.step hr
      obtain ⟨B1, e1, hv1⟩ := ownsRow_slice ht5.o1
      obtain ⟨B2, e2, hv2⟩ := ownsRow_slice ht5.o2
      rw [froms_length, HJ.out] at hv1
      rw [HJ.out] at hv2
      subst hv1 hv2
      have HT5 := Lib.hid (show Two w w5 L g5 cap5 [(1 + ys.sum + k, 4095 - ys.sum - k)] (froms ys) ys (.slice B1 j e1) (.slice B2 j e2) from ht5)
      have hfl : (froms ys).length ≤ 40 ∧ ys.length ≤ 40 := by rw [froms_length, HJ.out]; omega
      clear h hr ht5 HTw
      rw [HSs.out]
      obtain ⟨X, hX⟩ : ∃ X : Nat, (1 + S, 4095 - S).1 = X := ⟨_, rfl⟩
      rw [hX]
      have HX := Lib.hid (show X = 1 + ys.sum by rw [HSs.out]; exact hX.symm)
      have hXb : X ≤ 4000 := by rw [← hX]; simp only; omega
      clear hX
      go_wp2_with fail
      go_loopg [12] j (fun q i wx => ∃ t : Nat, q + t = j ∧ i = .int .i64 t ∧ Hid (Two w wx L g5 cap5 [(1 + ys.sum + k, 4095 - ys.sum - k)] (froms ys) ys (.slice B1 j e1) (.slice B2 j e2)))
      case atStart => exact ⟨0, by omega, rfl, HT5⟩
      case round =>
        obtain ⟨t, hq2, rfl, ht⟩ := hrel
        by_cases htj : t < j
        · obtain ⟨y, hy⟩ : ∃ y, ys[t]? = some y := ⟨_, List.getElem?_eq_getElem (by have := HJ.out; omega)⟩
          have hyb := HYs.out y (List.mem_of_getElem? hy)
          have hfx := froms_at ys t (by have := HJ.out; omega)
          have hyx : ys[t]'(by have := HJ.out; omega) = y := (List.getElem?_eq_some_iff.1 hy).2
          obtain ⟨F, hF⟩ : ∃ F, 1 + (ys.take t).sum = F := ⟨_, rfl⟩
          rw [hF] at hfx
          have hFX : F + y ≤ X := by
            have a1 := sum_take_succ ys t (by have := HJ.out; omega)
            have a3 := sum_take_le ys (t + 1)
            have := HX.out
            omega
          have hd : decide ((X : Int) < (F : Int) + (y : Int)) = false := decide_eq_false (by omega)
          obtain ⟨b1, rfl, d1⟩ := ht.out.at1 hfx
          obtain ⟨b2, rfl, d2⟩ := ht.out.at2 hy
          clear hyx hF hfx hy
          go_wp2_with fail
          go_quiet (fail)
          go_wp2
          go_roundg (j - (t + 1))
          case measure => omega
          case rel => exact ⟨t + 1, by omega, by go_num, Lib.hid (ht.out.below (bel_dn (Below.refl _ _) _))⟩
        · obtain rfl : t = j := by omega
          have h5s := ht.out.bel.size
          have HT6 := ht
          clear ht
          go_wp2_with (first | (at_builtin; refine wpList_append_one rfl (.tmp 73) (.tmp 75) 26 rfl w.heap.size 3 i0 (.int .i64 0) 8 Try.underlying26 hi hz0 hz1 hz2 rfl (.slice B1 t e1) _ _ rfl HT6.out.o1 rfl rfl (by omega) (by unfold maxLen; omega) (by omega) ?_; intro v1 w6 hown1 hgr1 hnew1; have HX1 := Lib.hid hown1; have HG1 := Lib.hid hgr1; have HW1 := Lib.hid hnew1; have hs5 := hgr1.size; clear hown1 hgr1 hnew1) | (at_builtin; refine wpList_append_one rfl (.tmp 77) (.tmp 79) 26 rfl w.heap.size 3 i0 (.int .i64 0) 8 Try.underlying26 hi hz0 hz1 hz2 rfl (.slice B2 t e2) _ _ rfl (ownsRow_grown HT6.out.o2 HG1.out HT6.out.ap) rfl rfl (by omega) (by unfold maxLen; omega) (by omega) ?_; intro v2 w7 hown2 hgr2 hnew2; have HX2 := Lib.hid hown2; have HG2 := Lib.hid hgr2; have HW2 := Lib.hid hnew2; have hs6 := hgr2.size; clear hown2 hgr2 hnew2))
          go_roundg (len - (t + 1))
          case measure => omega
          case rel =>
            refine ⟨ys ++ [k], g5, cap5, by rw [List.length_append, HJ.out]; simp; omega, by rw [List.length_append, HJ.out]; go_num, Lib.hid (fun y hy => ?_), Lib.hid ?_⟩
            · rcases List.mem_append.1 hy with h | h
              · exact HYs.out y h
              · obtain rfl := List.mem_singleton.1 h
                exact hk2
            · have := HT6.out.grow HX1.out HG1.out HW1.out HX2.out HG2.out HW2.out
              rw [froms_snoc, ← HX.out, List.sum_append]
              have e : ([(1 + (ys.sum + [k].sum), 4095 - (ys.sum + [k].sum))] : List (Nat × Nat)) = [(1 + ys.sum + k, 4095 - ys.sum - k)] := by
                simp only [List.sum_cons, List.sum_nil, Nat.add_zero]
                rw [Nat.add_assoc, Nat.sub_sub]
              rw [e]
              exact this
    · obtain rfl : j = len := by omega
      obtain ⟨c, hc⟩ : ∃ c : Nat, c = (tn.tmod j % j).toNat := ⟨_, rfl⟩
      have hcc : 0 < j → tn.tmod (j : Int) % (j : Int) = (c : Int) ∧ c < j ∧ -(j : Int) < tn.tmod (j : Int) ∧ tn.tmod (j : Int) < j := fun h => by
        have := rem_mod tn j (by omega) (by omega)
        rw [hc]
        omega
      clear hc
      obtain ⟨B1, e1, hv1⟩ := ownsRow_slice ht.out.o1
      obtain ⟨B2, e2, hv2⟩ := ownsRow_slice ht.out.o2
      rw [froms_length, HJ.out] at hv1
      rw [HJ.out] at hv2
      subst hv1 hv2
      have HT := ht
      have HYs := hys
      have hSb : ys.sum < 4095 := by omega
      clear ht hys
      go_wp2_with fail
      go_loopg [13, 14] j (fun q i s14 wx => ∃ (n : Nat) (l : List (Nat × Nat)) (g cap : Nat), q + n = j ∧ i = .int .i64 n ∧ Hid (Canon l) ∧ Hid (Inv ys c n l) ∧ Hid (Two w wx L g cap l (froms ys) ys (.slice B1 j e1) (.slice B2 j e2)))
      case atStart => exact ⟨0, _, g, cap, by omega, rfl, Lib.hid (canon_one (by omega) (by omega) (by omega)), Lib.hid (inv_first hSb (fun h => by rw [HJ.out] at h ⊢; exact (hcc h).2.1)), HT⟩
      case round =>
        obtain ⟨n, l, g', cap', hq2, rfl, hcan, hinv, ht⟩ := hrel
        by_cases hnj : n < j
        · obtain ⟨hc1, hc2, hc3, hc4⟩ := hcc (by omega)
          clear hcc
          obtain ⟨x, hx⟩ : ∃ x : Nat, (n + c) % j = x := ⟨_, rfl⟩
          have hxi : ((n : Int) + (c : Int)) % (j : Int) = (x : Int) := by rw [← hx]; simp
          have hxl : x < j := by rw [← hx]; exact Nat.mod_lt _ (by omega)
          obtain ⟨y, hy⟩ : ∃ y, ys[x]? = some y := ⟨_, List.getElem?_eq_getElem (by have := HJ.out; omega)⟩
          have hyb := HYs.out y (List.mem_of_getElem? hy)
          have hfx := froms_at ys x (by have := HJ.out; omega)
          have hyx : ys[x]'(by have := HJ.out; omega) = y := (List.getElem?_eq_some_iff.1 hy).2
          obtain ⟨F, hF⟩ : ∃ F, 1 + (ys.take x).sum = F := ⟨_, rfl⟩
          rw [hF] at hfx
          have a1 := sum_take_succ ys x (by have := HJ.out; omega)
          have a3 := sum_take_le ys (x + 1)
          have hFb : 1 ≤ F ∧ F + y ≤ 4095 := by omega
          have HFF := Lib.hid (show F = 1 + (ys.take ((n + c) % ys.length)).sum by rw [HJ.out, hx]; exact hF.symm)
          have HFy := Lib.hid (show F + y = 1 + (ys.take ((n + c) % ys.length + 1)).sum by rw [HJ.out, hx]; omega)
          have HTd := Lib.hid ht.out.drew
          obtain ⟨b1, rfl, d1⟩ := ht.out.drew.at1 hfx
          obtain ⟨b2, rfl, d2⟩ := ht.out.drew.at2 hy
          have HFx := Lib.hid hfx
          have HY := Lib.hid hy
          have hll := hcan.out.len
          have HTh := Lib.hid (there_ok (x := F) (n := y) (by omega) (by omega) (by omega) (by omega))
          clear a1 a3 hyx hF hfx hy hx ht
          go_wp2_with fail
          rw [hxi]
          have HSb := Lib.hid hSb
          have HAr := Lib.hid (show n < j ∧ c < j ∧ gk + n = j ∧ j ≤ 40 from ⟨hnj, hc2, hq2, hl2⟩)
          have hyb1 := hyb.1
          have hFb1 := hFb.1
          have hFb2 := hFb.2
          clear hxi hc1 hc2 hc3 hc4 hSb hsb htn hlen hb1s hq hyb hFb hq2 hl2 hlt
          refine wp_region_any (by kernel_rfl) ?_
          try (change wpAny _ _ _ _ _ _ _ (World.drew _))
          refine wpAny_take (i := 0) (v := .pointer (some ⟨L, 0, none⟩)) rfl (by kernel_rfl) (by kernel_rfl) (by kernel_rfl) (fun _ _ _ h => h) (Or.inl ⟨by kernel_rfl, by intro w; go_simp⟩) ?_
          refine wpAny_take (i := 1) (v := .slice (some ⟨b1, 0, none⟩) j e1) rfl (by kernel_rfl) (by kernel_rfl) (by kernel_rfl) (fun _ _ _ h => h) (Or.inl ⟨by kernel_rfl, by intro w; go_simp⟩) ?_
          refine wpAny_take (i := 2) (v := .int .i64 (x : Nat)) rfl (by kernel_rfl) (by kernel_rfl) (by kernel_rfl) (fun _ _ _ h => h) (Or.inl ⟨by kernel_rfl, by intro w; go_simp⟩) ?_
          refine wpAny_take (i := 3) (v := .pointer (some ⟨b1, x, none⟩)) rfl (by kernel_rfl) (by kernel_rfl) (by kernel_rfl) (fun _ _ _ h => h) (Or.inl ⟨by kernel_rfl, by intro w; go_simp⟩) ?_
          refine wpAny_take (i := 5) (v := .slice (some ⟨b2, 0, none⟩) j e2) rfl (by kernel_rfl) (by kernel_rfl) (by kernel_rfl) (fun _ _ _ h => h) (Or.inl ⟨by kernel_rfl, by intro w; go_simp⟩) ?_
          refine wpAny_take (i := 6) (v := .int .i64 (x : Nat)) rfl (by kernel_rfl) (by kernel_rfl) (by kernel_rfl) (fun _ _ _ h => h) (Or.inl ⟨by kernel_rfl, by intro w; go_simp⟩) ?_
          refine wpAny_take (i := 7) (v := .pointer (some ⟨b2, x, none⟩)) rfl (by kernel_rfl) (by kernel_rfl) (by kernel_rfl) (fun _ _ _ h => h) (Or.inl ⟨by kernel_rfl, by intro w; go_simp⟩) ?_
          refine wpAny_ready (rs := [4, 8]) (by kernel_rfl) (by simp) ?_
          refine AllReady.cons rfl (fun K hK => ?_) (AllReady.cons rfl (fun K hK => ?_) AllReady.nil)
          case' refine_2 =>
            go_simp
            refine hK _ _ ?_
            clear hK K
            refine wpAny_ready (rs := [4]) (by kernel_rfl) (by simp) ?_
            refine AllReady.cons rfl (fun K hK => ?_) AllReady.nil
            go_simp
            refine hK _ _ ?_
            clear hK K
          case' refine_1 =>
            go_simp
            refine hK _ _ ?_
            clear hK K
            refine wpAny_ready (rs := [8]) (by kernel_rfl) (by simp) ?_
            refine AllReady.cons rfl (fun K hK => ?_) AllReady.nil
            go_simp
            refine hK _ _ ?_
            clear hK K
          all_goals
            refine wpAny_ready (rs := [9]) (by kernel_rfl) (by simp) ?_
            refine AllReady.cons rfl (fun K hK => ?_) AllReady.nil
            go_simp
            go_wp2_with (go_at_call 10; refine (give16_calls _ L g' cap' _ (F : Int) (y : Int) HTd.out.land hcan.out (by omega) (by omega) (by omega)).mono ?_; rintro e w5 h; obtain ⟨rfl, m, hcm, hfm, hr⟩ := give_ok hcan.out h HTh.out (inv_taken hinv.out (by have := HJ.out; have := HAr.out; omega) HFF.out HFy.out); obtain ⟨g5, cap5, ht5⟩ := HTd.out.step hr; have HCm := Lib.hid hcm; have HFm := Lib.hid hfm; have HT5 := Lib.hid ht5; obtain ⟨b1', hbe1, d1'⟩ := ht5.at1 HFx.out; obtain ⟨b2', hbe2, d2'⟩ := ht5.at2 HY.out; cases hbe1; cases hbe2; clear h hr hcm hfm ht5)
            try clear hK K
            refine wpAny_take (i := 10) (v := .bool false) rfl (by kernel_rfl) (by kernel_rfl) (by kernel_rfl) (fun _ _ _ h => h) (Or.inl ⟨by kernel_rfl, by intro w; go_simp⟩) ?_
            refine wpAny_take (i := 11) (v := .bool false) rfl (by kernel_rfl) (by kernel_rfl) (by kernel_rfl) (fun _ _ _ h => h) (Or.inl ⟨by kernel_rfl, by intro w; go_simp⟩) ?_
            refine wpAny_take (i := 12) (v := .pointer (some ⟨L, 0, none⟩)) rfl (by kernel_rfl) (by kernel_rfl) (by kernel_rfl) (fun _ _ _ h => h) (Or.inl ⟨by kernel_rfl, by intro w; go_simp⟩) ?_
            refine wpAny_take (i := 13) (v := .slice (some ⟨b1, 0, none⟩) j e1) rfl (by kernel_rfl) (by kernel_rfl) (by kernel_rfl) (fun _ _ _ h => h) (Or.inl ⟨by kernel_rfl, by intro w; go_simp⟩) ?_
            refine wpAny_take (i := 14) (v := .int .i64 (x : Nat)) rfl (by kernel_rfl) (by kernel_rfl) (by kernel_rfl) (fun _ _ _ h => h) (Or.inl ⟨by kernel_rfl, by intro w; go_simp⟩) ?_
            refine wpAny_take (i := 15) (v := .pointer (some ⟨b1, x, none⟩)) rfl (by kernel_rfl) (by kernel_rfl) (by kernel_rfl) (fun _ _ _ h => h) (Or.inl ⟨by kernel_rfl, by intro w; go_simp⟩) ?_
            refine wpAny_take (i := 17) (v := .slice (some ⟨b2, 0, none⟩) j e2) rfl (by kernel_rfl) (by kernel_rfl) (by kernel_rfl) (fun _ _ _ h => h) (Or.inl ⟨by kernel_rfl, by intro w; go_simp⟩) ?_
            refine wpAny_take (i := 18) (v := .int .i64 (x : Nat)) rfl (by kernel_rfl) (by kernel_rfl) (by kernel_rfl) (fun _ _ _ h => h) (Or.inl ⟨by kernel_rfl, by intro w; go_simp⟩) ?_
            refine wpAny_take (i := 19) (v := .pointer (some ⟨b2, x, none⟩)) rfl (by kernel_rfl) (by kernel_rfl) (by kernel_rfl) (fun _ _ _ h => h) (Or.inl ⟨by kernel_rfl, by intro w; go_simp⟩) ?_
            refine wpAny_ready (rs := [16, 20]) (by kernel_rfl) (by simp) ?_
            refine AllReady.cons rfl (fun K hK => ?_) (AllReady.cons rfl (fun K hK => ?_) AllReady.nil)
            case' refine_2 =>
              go_simp
              refine hK _ _ ?_
              clear hK K
              refine wpAny_ready (rs := [16]) (by kernel_rfl) (by simp) ?_
              refine AllReady.cons rfl (fun K hK => ?_) AllReady.nil
              go_simp
              refine hK _ _ ?_
              clear hK K
            case' refine_1 =>
              go_simp
              refine hK _ _ ?_
              clear hK K
              refine wpAny_ready (rs := [20]) (by kernel_rfl) (by simp) ?_
              refine AllReady.cons rfl (fun K hK => ?_) AllReady.nil
              go_simp
              refine hK _ _ ?_
              clear hK K
          all_goals
            refine wpAny_ready (rs := [21]) (by kernel_rfl) (by simp) ?_
            refine AllReady.cons rfl (fun K hK => ?_) AllReady.nil
            go_simp
            go_wp2_with (go_at_call 10; refine (give16_calls w5 L g5 cap5 _ (F : Int) (y : Int) HT5.out.land HCm.out (by have := HCm.out.len; omega) (by omega) (by omega)).mono ?_; rintro e w6 h; obtain ⟨rfl, hb⟩ := give_no (j := F) HCm.out h (by omega) (by omega) ((HFm.out F).2 (.inr (by omega))); have HT6 := Lib.hid (HT5.out.below hb); clear h hb)
            try clear hK K
            refine wpAny_take (i := 22) (v := .bool false) rfl (by kernel_rfl) (by kernel_rfl) (by kernel_rfl) (fun _ _ _ h => h) (Or.inl ⟨by kernel_rfl, by intro w; go_simp⟩) ?_
            refine wpAny_take (i := 23) (v := .bool false) rfl (by kernel_rfl) (by kernel_rfl) (by kernel_rfl) (fun _ _ _ h => h) (Or.inl ⟨by kernel_rfl, by intro w; go_simp⟩) ?_
            refine wpAny_done (by kernel_rfl) ?_ _
          all_goals
            have hl2 := HAr.out
            go_wp2
            go_roundg (j - (n + 1))
            case measure => have := HAr.out; omega
            case rel => exact ⟨n + 1, m, g5, cap5, by have := HAr.out; omega, by have := HAr.out; go_num, HCm, Lib.hid (inv_next hinv.out (by have := HJ.out; have := HAr.out; omega) (by have := HJ.out; have := HAr.out; omega) HSb.out HFF.out HFy.out HFm.out), HT6⟩
        · obtain rfl : n = j := by omega
          obtain rfl := inv_last hcan.out (by rw [HJ.out]; exact hinv.out)
          go_wp2_with fail
          refine (runs16_calls _ L g' cap' _ ht.out.land hcan.out).mono ?_
          rintro e w5 ⟨v, rfl, hown, hb⟩
          obtain ⟨B, cc, rfl⟩ := ownsRow_slice hown
          obtain ⟨b, rfl, _, _, hcell⟩ := (ownsRow_rd hown).resolve_left (by simp)
          have k0 := hcell 0 _ rfl
          have k1 := hcell 1 _ rfl
          simp only at k0 k1
          have HT5 := Lib.hid (ht.out.below hb)
          clear hown hcell hb
          go_wp2_with fail
          refine (free16_calls _ L g' cap' _ HT5.out.land hcan.out).mono ?_
          rintro e w6 ⟨rfl, hb⟩
          have HB6 := Lib.hid (bel_next HT5.out.bel hb (Nat.le_refl _))
          clear hb
          rw [show ((frN [(1, 4095)] : Nat) : Int) = 4095 from rfl]
          go_wp2
          go_ret
          exact ⟨rfl, HB6.out⟩
end Go.Proofs.Ytfacpamepkkhgaa
