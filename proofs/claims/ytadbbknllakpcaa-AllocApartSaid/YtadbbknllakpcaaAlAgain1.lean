/- The walk of AllocAgain. -/
import Derived.Test.YtadbbknllakpcaaHeapF
namespace Go.Proofs.Ytadbbknllakpcaa
open Go.RowKit
set_option linter.unusedVariables false

theorem IsRow.read {k : IntKind} {w : World} {a : Option Addr} {len cap : Nat} {zs : List Int} (h : IsRow k w a len cap zs) {i : Nat} (hi : i < len) : ∃ b o z, a = some ⟨b, o, none⟩ ∧ b < w.heap.size ∧ w.cell? ⟨b, o + i, none⟩ = some (.int k z) ∧ (Lit.int k z).wf = true := by
  have hr := RdAt.of_ints h
  rcases h with ⟨_, h0, _⟩ | ⟨x, rfl, hl, _, hz, _, hw⟩
  · omega
  · obtain ⟨z, hzi⟩ : ∃ z, zs[i]? = some z := ⟨_, List.getElem?_eq_getElem (by omega)⟩
    rcases hr with h1 | ⟨b, o, he, hb, hc⟩
    · omega
    · refine ⟨b, o, z, he, hb, hc i _ ?_, hw z (List.mem_of_getElem? hzi)⟩
      rw [List.getElem?_map, List.getElem?_take, if_pos hi, hzi]; rfl
theorem wf_u16 {n : Int} (h : (Lit.int .u16 n).wf = true) : 0 ≤ n ∧ n ≤ 65535 := by
  simp only [Lit.wf, Bool.and_eq_true, decide_eq_true_eq] at h; exact h
theorem wf_u8' {n : Int} (h : (Lit.int .u8 n).wf = true) : 0 ≤ n ∧ n ≤ 255 := by
  simp only [Lit.wf, Bool.and_eq_true, decide_eq_true_eq] at h; exact h
theorem keep_cell {w w' : World} {b o : Nat} {v : Value} (hB : Below w.heap.size w w') (hb : b < w.heap.size) (h : w.cell? ⟨b, o, none⟩ = some v) : w'.cell? ⟨b, o, none⟩ = some v := (World.cell?_of_block (hB.block b hb)).trans h
def Bd (xs : List Int) : Prop := ∀ x ∈ xs, 0 ≤ x ∧ x ≤ 2097152
theorem Bd.snoc {xs : List Int} (h : Bd xs) {x : Int} (hx : 0 ≤ x ∧ x ≤ 2097152) : Bd (xs ++ [x]) := fun y hy => by
  rcases List.mem_append.1 hy with h1 | h1
  · exact h y h1
  · obtain rfl := List.mem_singleton.1 h1; exact hx
/-- One heap is changed, the other one stays. -/
theorem pair_step {F F2 : Nat → Prop} {w wr w' : World} {H L n' G L2 m : Nat} {S' T : List Sp} {l' t : List (Nat × Nat)} (hB : HeapAt wr G L2 m T t F2) (hs : HStep F wr w' H L n' S' l') (hd : ∀ k, F k → ¬ F2 k) (hF : ∀ k, F k → w.heap.size ≤ k) (hb : Below w.heap.size w wr) :
    ∃ F', HeapAt w' H L n' S' l' F' ∧ HeapAt w' G L2 m T t F2 ∧ (∀ k, F' k → ¬ F2 k) ∧ (∀ k, F' k → w.heap.size ≤ k) ∧ Below w.heap.size w w' := by
  obtain ⟨F', g1, g2, g3⟩ := hs
  refine ⟨F', g1, hB.only g2 (fun k hk hF => hd k hF hk), fun k hk h2 => ?_, fun k hk => (g3 k hk).elim (hF k) (fun h => Nat.le_trans hb.size h), bel_only hb g2 (Nat.le_refl _) hF⟩
  rcases g3 k hk with h | h
  · exact hd k h h2
  · have := hB.lt k h2; omega
/-- Two heaps with the same spans. -/
def TwoF (w wr : World) (H L G L2 i : Nat) : Prop :=
  ∃ S l F F2 n m, HeapAt wr H L n S l F ∧ HeapAt wr G L2 m S l F2 ∧ LandOf S l ∧ (∀ k, F k → ¬ F2 k) ∧ (∀ k, F k → w.heap.size ≤ k) ∧ (∀ k, F2 k → w.heap.size ≤ k) ∧ Below w.heap.size w wr ∧ n ≤ 1000 + 2 * i ∧ m ≤ 9000 + 2 * i
set_option maxRecDepth 8000 in
set_option maxHeartbeats 16000000 in
theorem again_walk (a0 : Option Addr) (n0 c0 : Nat) (z0 : List Int) (a1 : Option Addr) (n1 c1 : Nat) (z1 : List Int) (a2 : Option Addr) (n2 c2 : Nat) (z2 : List Int) (w : World) (h0 : IsRow .u16 w a0 n0 c0 z0) (h1 : IsRow .u8 w a1 n1 c1 z1) (h2 : IsRow .i64 w a2 n2 c2 z2) :
    Calls Try.prog 3 #[.slice a0 n0 c0, .slice a1 n1 c1, .slice a2 n2 c2] w fun e w' => e = .returned (.bool true) ∧ Below w.heap.size w w' := by
  obtain ⟨i0, hi0, hz0, hz1, hz2⟩ := info_parts info_IntA
  have H0 := Lib.hid h0
  have H1 := Lib.hid h1
  have H2 := Lib.hid h2
  clear h0 h1 h2
  go_enter Try.func3, Try.ntmps3
  go_wp2_with fail
  refine (awake17_calls w).mono ?_
  rintro e w1 ⟨rfl, hB⟩
  have HB1 := Lib.hid hB
  clear hB
  by_cases hs : n0 ≤ 20 ∧ n1 ≤ 20 ∧ n2 ≤ 10
  · obtain ⟨hs0, hs1, hs2⟩ := hs
    have d0 : decide (20 < n0) = false := decide_eq_false (by omega)
    have d1 : decide (20 < n1) = false := decide_eq_false (by omega)
    have d2 : decide (10 < n2) = false := decide_eq_false (by omega)
    go_wp2_with fail
    clear d0 d1 d2
    refine (new17_calls w1 none 0 [] (zero_at w1) inv_nil).mono ?_
    rintro e w2 ⟨H, L, l, F, rfl, hH, hl, hF, hB⟩
    have HSt := Lib.hid (show ∃ S l F, StF F w w2 H L (2 * 0) S l [] (.slice none 0 0) ∧ Bd [] from ⟨[], l, F, StF.start hH hl (fun k hk => Nat.le_trans HB1.out.size (hF k hk)) (bel_next HB1.out hB (Nat.le_refl _)), fun x hx => by cases hx⟩)
    clear hH hl hF hB
    go_wp2_with fail
    go_loopg [10, 9] n0 (fun q s10 s9 wr => ∃ j, q = n0 - j ∧ j ≤ n0 ∧ s10 = .int .i64 (j : Int) ∧ Hid (∃ S l F xs, StF F w wr H L (2 * j) S l xs s9 ∧ Bd xs ∧ xs.length = j))
    case atStart => exact ⟨0, by omega, by omega, rfl, Lib.hid (by obtain ⟨S, l, F, h, hb⟩ := HSt.out; exact ⟨S, l, F, [], h, hb, rfl⟩)⟩
    case round =>
      obtain ⟨j, hq, hjl, rfl, hst⟩ := hrel
      by_cases hlt : j < n0
      · obtain ⟨S, l, F, xs, hF, hbd, hxl⟩ := hst.out
        obtain ⟨b, o, z, rfl, hb, hc, hwz⟩ := H0.out.read hlt
        have hcz := keep_cell hF.2.2.2.2.2 hb hc
        have hz := wf_u16 hwz
        have HF := Lib.hid hF
        have HBd := Lib.hid hbd
        have HXl := Lib.hid hxl
        have HLt := Lib.hid hlt
        clear hF hbd hxl hb hc hwz
        go_wp2_with fail
        obtain ⟨f1, f2, f3, f4, f5, f6⟩ := HF.out
        refine (alloc17_calls wr H L (2 * j) S l F (1 + z % 3000) f1 f2 (by omega) (by unfold I64; omega)).mono ?_
        rintro e w3 ⟨a, er, S', l', rfl, hA, hl, hS⟩
        obtain ⟨F', hF'⟩ := HF.out.step hS hl
        have HF' := Lib.hid hF'
        have HAb := Lib.hid (hA.bd f1.inv f1.canon)
        clear hA hl hS hF' f1 f2 f3 f4 f5 f6 hcz
        have HO := Lib.hid (HF'.out.2.2.2.1)
        rw [HXl.out] at HO
        have hbs := HF'.out.2.2.2.2.2.size
        go_wp2_with (at_builtin; refine wpList_append_new rfl (.tmp 61) (.tmp 63) 24 rfl w.heap.size 3 i0 _ 1 8 Try.underlying24 hi0 hz0 hz1 hz2 rfl (by decide) u9 j 1 _ rfl HO.out rfl rfl (one_int _) (by omega) (by unfold maxLen; omega) hbs ?_; intro v2 w5 hown2 hgr2 hnew2)
        have hF5 := HF'.out.app (by rw [HXl.out]; exact hown2) hgr2 hnew2
        have HF5 := Lib.hid hF5
        clear hown2 hgr2 hnew2 hF5
        go_roundg (n0 - (j + 1))
        case measure => first | (rw [hq]; exact Nat.sub_lt_sub_left HLt.out (Nat.lt_succ_self _)) | exact Nat.sub_lt_sub_left HLt.out (Nat.lt_succ_self _)
        case rel => exact ⟨j + 1, rfl, HLt.out, by go_num, Lib.hid ⟨S', l', F', xs ++ [a], HF5.out, HBd.out.snoc HAb.out, by rw [List.length_append, HXl.out]; rfl⟩⟩
      · obtain rfl : j = n0 := by omega
        obtain ⟨S, l, F, xs, hF, hbd, hxl⟩ := hst.out
        obtain ⟨A9, c9, rfl⟩ := ownsRow_slice hF.2.2.2.1
        rw [hxl] at hF ⊢
        have HXl := Lib.hid hxl
        have HBd := Lib.hid hbd
        have HF0 := Lib.hid (show ∃ S l F n, StF F w wr H L n S l xs (.slice A9 j c9) ∧ n ≤ 2 * j + 2 * 0 from ⟨S, l, F, _, hF, by omega⟩)
        clear hF hbd hxl hst hq hjl hlt
        go_wp2_with fail
        go_loopg [13] n1 (fun q s13 wr => ∃ i, q = n1 - i ∧ i ≤ n1 ∧ s13 = .int .i64 (i : Int) ∧ Hid (∃ S l F n, StF F w wr H L n S l xs (.slice A9 j c9) ∧ n ≤ 2 * j + 2 * i))
        case atStart => exact ⟨0, by omega, by omega, rfl, HF0⟩
        case round =>
          obtain ⟨i, hq, hil, rfl, hst⟩ := hrel
          by_cases hlt : i < n1 ∧ 0 < j
          · obtain ⟨hlt, hj0⟩ := hlt
            have hdj : decide (0 < j) = true := decide_eq_true hj0
            obtain ⟨S, l, F, n, hF, hn⟩ := hst.out
            obtain ⟨b, o, z, rfl, hb, hc, hwz⟩ := H1.out.read hlt
            have hcz := keep_cell hF.2.2.2.2.2 hb hc
            obtain ⟨zn, rfl⟩ : ∃ zn : Nat, z = zn := ⟨z.toNat, by have := wf_u8' hwz; omega⟩
            have hzb : zn ≤ 255 := by have := wf_u8' hwz; omega
            obtain ⟨k, hk⟩ : ∃ k, zn % j = k := ⟨_, rfl⟩
            have hkj : k < j := by rw [← hk]; exact Nat.mod_lt _ hj0
            have hkk : (zn : Int) % (j : Int) = (k : Int) := by omega
            obtain ⟨x, hx⟩ : ∃ x, xs[k]? = some x := ⟨_, List.getElem?_eq_getElem (by rw [HXl.out]; exact hkj)⟩
            obtain ⟨b9, _, he9, hc9⟩ := own_ints hF.2.2.2.1 hx
            rw [HXl.out] at he9
            cases he9
            have hxb := HBd.out x (List.mem_of_getElem? hx)
            have HF := Lib.hid hF
            have HLt := Lib.hid hlt
            have Hn := Lib.hid hn
            clear hF hb hc hwz hx hn hk
            go_wp2_with fail
            obtain ⟨f1, f2, f3, f4, f5, f6⟩ := HF.out
            refine (free17_calls wr H L n S l F x f1 f2 (by have := Hn.out; omega) (by unfold I64; omega)).mono ?_
            rintro e w3 ⟨r, kk, er, S', l', rfl, hA, hl, hS⟩
            obtain ⟨F', hF'⟩ := HF.out.step hS hl
            have HF' := Lib.hid hF'
            clear hA hl hS hF' f1 f2 f3 f4 f5 f6 hcz hc9
            go_wp2
            go_roundg (n1 - (i + 1))
            case measure => first | (rw [hq]; exact Nat.sub_lt_sub_left HLt.out (Nat.lt_succ_self _)) | exact Nat.sub_lt_sub_left HLt.out (Nat.lt_succ_self _)
            case rel => exact ⟨i + 1, rfl, HLt.out, by go_num, Lib.hid ⟨S', l', F', n + 2, HF'.out, by have := Hn.out; omega⟩⟩
          · by_cases hi1 : i < n1
            · have hdj : decide (0 < j) = false := decide_eq_false (by omega)
              obtain ⟨S, l, F, n, hF, hn⟩ := hst.out
              have HF := Lib.hid hF
              have Hn := Lib.hid hn
              clear hF hn hst
              go_wp2_with fail
              refine (spans_calls wr H L n S l F HF.out.1).mono ?_
              rintro e w3 ⟨v, rfl, hV, hB3⟩
              obtain ⟨A5, c5, rfl, hSp⟩ := hV.read
              have HF3 := Lib.hid (HF.out.below hB3)
              have HSp := Lib.hid hSp
              clear hV hB3 hSp
              go_wp2_with fail
              refine (new17_calls w3 A5 c5 S HSp.out HF.out.1.inv).mono ?_
              rintro e w4 ⟨G, L2, l2, F2, rfl, hG, hl2, hF2, hB4⟩
              obtain rfl : l = l2 := LandOf.one HF3.out.2.1 hl2 HF3.out.1.canon hG.canon
              have HTw := Lib.hid (show TwoF w w4 H L G L2 0 from by
                obtain ⟨f1, f2, f3, f4, f5, f6⟩ := HF3.out
                have h9 := f1.inv.len
                have h8 := Hn.out
                exact ⟨S, l, F, F2, n, _, f1.below hB4, hG, f2, fun k hk h2 => by have := f1.lt k hk; have := hF2 k h2; omega, f3, fun k hk => Nat.le_trans f6.size (hF2 k hk), bel_next f6 hB4 (Nat.le_refl _), by omega, by omega⟩)
              clear hG hl2 hF2 hB4
              go_wp2_with fail
              go_loopg [16] n2 (fun q s16 wr => ∃ i, q = n2 - i ∧ i ≤ n2 ∧ s16 = .int .i64 (i : Int) ∧ Hid (TwoF w wr H L G L2 i))
              case atStart => exact ⟨0, by omega, by omega, rfl, HTw⟩
              case round =>
                obtain ⟨i, hq, hil, rfl, hst⟩ := hrel
                by_cases hlt : i < n2
                · obtain ⟨S, l, F, F2, n, m, t1, t2, t3, t4, t5, t6, t7, t8, t9⟩ := hst.out
                  obtain ⟨b, o, x, rfl, hb, hc, hwz⟩ := H2.out.read hlt
                  have hcz := keep_cell t7 hb hc
                  have hxw := wf_i64 hwz
                  have HT := Lib.hid (And.intro t1 (And.intro t2 (And.intro t3 (And.intro t4 (And.intro t5 (And.intro t6 (And.intro t7 (And.intro t8 t9))))))))
                  have HBb := Lib.hid (And.intro hb hc)
                  have HLt := Lib.hid hlt
                  clear t1 t2 t3 t4 t5 t6 t7 t8 t9 hb hc hwz
                  go_wp2_with fail
                  refine (alloc17_calls _ H L n S l F x HT.out.1 HT.out.2.2.1 (by have := HT.out.2.2.2.2.2.2.2; omega) hxw).mono ?_
                  rintro e w5 ⟨a, er, S', l', rfl, hA, hl, hS⟩
                  obtain ⟨t1, t2, t3, t4, t5, t6, t7, t8, t9⟩ := HT.out
                  obtain ⟨F', p1, p2, p3, p4, p5⟩ := pair_step t2 hS t4 t5 t7
                  have hcz := keep_cell p5 HBb.out.1 HBb.out.2
                  have HA := Lib.hid hA
                  have HL := Lib.hid hl
                  have HP := Lib.hid (And.intro p1 (And.intro p2 (And.intro p3 (And.intro p4 p5))))
                  clear t1 t2 t3 t4 t5 t6 t7 t8 t9 p1 p2 p3 p4 p5 hA hl hS
                  go_wp2_with fail
                  refine (alloc17_calls _ G L2 m S l F2 x HP.out.2.1 HT.out.2.2.1 (by have := HT.out.2.2.2.2.2.2.2; omega) hxw).mono ?_
                  rintro e w6 ⟨a2, er2, S2, l2, rfl, hA2, hl2, hS2⟩
                  obtain ⟨t1, t2, t3, t4, t5, t6, t7, t8, t9⟩ := HT.out
                  obtain ⟨rfl, rfl, rfl, rfl⟩ := HA.out.one t1.inv hA2
                  obtain ⟨p1, p2, p3, p4, p5⟩ := HP.out
                  obtain ⟨F3, q1, q2, q3, q4, q5⟩ := pair_step p1 hS2 (fun k hk h => p3 k h hk) t6 p5
                  have HN := Lib.hid (show TwoF w w6 H L G L2 (i + 1) from ⟨S', l', F', F3, _, _, q2, q1, HL.out, fun k hk h => q3 k h hk, p4, q4, q5, by omega, by omega⟩)
                  clear t1 t2 t3 t4 t5 t6 t7 t8 t9 p1 p2 p3 p4 p5 q1 q2 q3 q4 q5 hA2 hl2 hS2 hcz
                  go_wp2
                  go_roundg (n2 - (i + 1))
                  case measure => first | (rw [hq]; exact Nat.sub_lt_sub_left HLt.out (Nat.lt_succ_self _)) | exact Nat.sub_lt_sub_left HLt.out (Nat.lt_succ_self _)
                  case rel => exact ⟨i + 1, rfl, HLt.out, by go_num, HN⟩
                · obtain rfl : i = n2 := by omega
                  obtain ⟨S, l, F, F2, n, m, t1, t2, t3, t4, t5, t6, t7, t8, t9⟩ := hst.out
                  have HT := Lib.hid (And.intro t1 (And.intro t2 t7))
                  clear t1 t2 t3 t4 t5 t6 t7 t8 t9
                  go_wp2_with fail
                  refine (spans_calls _ H L n S l F HT.out.1).mono ?_
                  rintro e w5 ⟨v5, rfl, hV5, hB5⟩
                  obtain ⟨A6, c6, rfl, hSp6⟩ := hV5.read
                  have HS6 := Lib.hid hSp6
                  have HB5 := Lib.hid hB5
                  clear hV5 hB5 hSp6
                  go_wp2_with fail
                  refine (spans_calls _ G L2 m S l F2 (HT.out.2.1.below HB5.out)).mono ?_
                  rintro e w6 ⟨v6, rfl, hV6, hB6⟩
                  obtain ⟨A7, c7, rfl, hSp7⟩ := hV6.read
                  have HS7 := Lib.hid hSp7
                  have HS6b := Lib.hid (HS6.out.below hB6)
                  have HB6 := Lib.hid (bel_next (bel_next HT.out.2.2 HB5.out (Nat.le_refl _)) hB6 (Nat.le_refl _))
                  clear hV6 hB6 hSp7
                  go_wp2_with fail
                  refine (rsame17_calls _ A6 A7 c6 c7 S HS6b.out HS7.out (by have := HT.out.1.inv.len; omega)).mono ?_
                  rintro e w7 ⟨rfl, hB7⟩
                  have HB7 := Lib.hid (bel_next HB6.out hB7 (Nat.le_refl _))
                  clear hB7
                  go_wp2
                  go_ret
                  exact ⟨rfl, HB7.out⟩
            · obtain rfl : i = n1 := by omega
              obtain ⟨S, l, F, n, hF, hn⟩ := hst.out
              have HF := Lib.hid hF
              have Hn := Lib.hid hn
              clear hF hn hst
              go_wp2_with fail
              refine (spans_calls wr H L n S l F HF.out.1).mono ?_
              rintro e w3 ⟨v, rfl, hV, hB3⟩
              obtain ⟨A5, c5, rfl, hSp⟩ := hV.read
              have HF3 := Lib.hid (HF.out.below hB3)
              have HSp := Lib.hid hSp
              clear hV hB3 hSp
              go_wp2_with fail
              refine (new17_calls w3 A5 c5 S HSp.out HF.out.1.inv).mono ?_
              rintro e w4 ⟨G, L2, l2, F2, rfl, hG, hl2, hF2, hB4⟩
              obtain rfl : l = l2 := LandOf.one HF3.out.2.1 hl2 HF3.out.1.canon hG.canon
              have HTw := Lib.hid (show TwoF w w4 H L G L2 0 from by
                obtain ⟨f1, f2, f3, f4, f5, f6⟩ := HF3.out
                have h9 := f1.inv.len
                have h8 := Hn.out
                exact ⟨S, l, F, F2, n, _, f1.below hB4, hG, f2, fun k hk h2 => by have := f1.lt k hk; have := hF2 k h2; omega, f3, fun k hk => Nat.le_trans f6.size (hF2 k hk), bel_next f6 hB4 (Nat.le_refl _), by omega, by omega⟩)
              clear hG hl2 hF2 hB4
              go_wp2_with fail
              go_loopg [16] n2 (fun q s16 wr => ∃ i, q = n2 - i ∧ i ≤ n2 ∧ s16 = .int .i64 (i : Int) ∧ Hid (TwoF w wr H L G L2 i))
              case atStart => exact ⟨0, by omega, by omega, rfl, HTw⟩
              case round =>
                obtain ⟨i, hq, hil, rfl, hst⟩ := hrel
                by_cases hlt : i < n2
                · obtain ⟨S, l, F, F2, n, m, t1, t2, t3, t4, t5, t6, t7, t8, t9⟩ := hst.out
                  obtain ⟨b, o, x, rfl, hb, hc, hwz⟩ := H2.out.read hlt
                  have hcz := keep_cell t7 hb hc
                  have hxw := wf_i64 hwz
                  have HT := Lib.hid (And.intro t1 (And.intro t2 (And.intro t3 (And.intro t4 (And.intro t5 (And.intro t6 (And.intro t7 (And.intro t8 t9))))))))
                  have HBb := Lib.hid (And.intro hb hc)
                  have HLt := Lib.hid hlt
                  clear t1 t2 t3 t4 t5 t6 t7 t8 t9 hb hc hwz
                  go_wp2_with fail
                  refine (alloc17_calls _ H L n S l F x HT.out.1 HT.out.2.2.1 (by have := HT.out.2.2.2.2.2.2.2; omega) hxw).mono ?_
                  rintro e w5 ⟨a, er, S', l', rfl, hA, hl, hS⟩
                  obtain ⟨t1, t2, t3, t4, t5, t6, t7, t8, t9⟩ := HT.out
                  obtain ⟨F', p1, p2, p3, p4, p5⟩ := pair_step t2 hS t4 t5 t7
                  have hcz := keep_cell p5 HBb.out.1 HBb.out.2
                  have HA := Lib.hid hA
                  have HL := Lib.hid hl
                  have HP := Lib.hid (And.intro p1 (And.intro p2 (And.intro p3 (And.intro p4 p5))))
                  clear t1 t2 t3 t4 t5 t6 t7 t8 t9 p1 p2 p3 p4 p5 hA hl hS
                  go_wp2_with fail
                  refine (alloc17_calls _ G L2 m S l F2 x HP.out.2.1 HT.out.2.2.1 (by have := HT.out.2.2.2.2.2.2.2; omega) hxw).mono ?_
                  rintro e w6 ⟨a2, er2, S2, l2, rfl, hA2, hl2, hS2⟩
                  obtain ⟨t1, t2, t3, t4, t5, t6, t7, t8, t9⟩ := HT.out
                  obtain ⟨rfl, rfl, rfl, rfl⟩ := HA.out.one t1.inv hA2
                  obtain ⟨p1, p2, p3, p4, p5⟩ := HP.out
                  obtain ⟨F3, q1, q2, q3, q4, q5⟩ := pair_step p1 hS2 (fun k hk h => p3 k h hk) t6 p5
                  have HN := Lib.hid (show TwoF w w6 H L G L2 (i + 1) from ⟨S', l', F', F3, _, _, q2, q1, HL.out, fun k hk h => q3 k h hk, p4, q4, q5, by omega, by omega⟩)
                  clear t1 t2 t3 t4 t5 t6 t7 t8 t9 p1 p2 p3 p4 p5 q1 q2 q3 q4 q5 hA2 hl2 hS2 hcz
                  go_wp2
                  go_roundg (n2 - (i + 1))
                  case measure => first | (rw [hq]; exact Nat.sub_lt_sub_left HLt.out (Nat.lt_succ_self _)) | exact Nat.sub_lt_sub_left HLt.out (Nat.lt_succ_self _)
                  case rel => exact ⟨i + 1, rfl, HLt.out, by go_num, HN⟩
                · obtain rfl : i = n2 := by omega
                  obtain ⟨S, l, F, F2, n, m, t1, t2, t3, t4, t5, t6, t7, t8, t9⟩ := hst.out
                  have HT := Lib.hid (And.intro t1 (And.intro t2 t7))
                  clear t1 t2 t3 t4 t5 t6 t7 t8 t9
                  go_wp2_with fail
                  refine (spans_calls _ H L n S l F HT.out.1).mono ?_
                  rintro e w5 ⟨v5, rfl, hV5, hB5⟩
                  obtain ⟨A6, c6, rfl, hSp6⟩ := hV5.read
                  have HS6 := Lib.hid hSp6
                  have HB5 := Lib.hid hB5
                  clear hV5 hB5 hSp6
                  go_wp2_with fail
                  refine (spans_calls _ G L2 m S l F2 (HT.out.2.1.below HB5.out)).mono ?_
                  rintro e w6 ⟨v6, rfl, hV6, hB6⟩
                  obtain ⟨A7, c7, rfl, hSp7⟩ := hV6.read
                  have HS7 := Lib.hid hSp7
                  have HS6b := Lib.hid (HS6.out.below hB6)
                  have HB6 := Lib.hid (bel_next (bel_next HT.out.2.2 HB5.out (Nat.le_refl _)) hB6 (Nat.le_refl _))
                  clear hV6 hB6 hSp7
                  go_wp2_with fail
                  refine (rsame17_calls _ A6 A7 c6 c7 S HS6b.out HS7.out (by have := HT.out.1.inv.len; omega)).mono ?_
                  rintro e w7 ⟨rfl, hB7⟩
                  have HB7 := Lib.hid (bel_next HB6.out hB7 (Nat.le_refl _))
                  clear hB7
                  go_wp2
                  go_ret
                  exact ⟨rfl, HB7.out⟩
  · by_cases e0 : 20 < n0
    · have d0 : decide (20 < n0) = true := decide_eq_true e0
      go_wp2_with fail
      refine (awake17_calls _).mono ?_
      rintro e w2 ⟨rfl, hB⟩
      have HB2 := Lib.hid (bel_next HB1.out hB (Nat.le_refl _))
      clear hB
      go_wp2
      go_ret
      exact ⟨rfl, HB2.out⟩
    · have d0 : decide (20 < n0) = false := decide_eq_false e0
      by_cases e1 : 20 < n1
      · have d1 : decide (20 < n1) = true := decide_eq_true e1
        go_wp2_with fail
        refine (awake17_calls _).mono ?_
        rintro e w2 ⟨rfl, hB⟩
        have HB2 := Lib.hid (bel_next HB1.out hB (Nat.le_refl _))
        clear hB
        go_wp2
        go_ret
        exact ⟨rfl, HB2.out⟩
      · have d1 : decide (20 < n1) = false := decide_eq_false e1
        have d2 : decide (10 < n2) = true := decide_eq_true (by omega)
        go_wp2_with fail
        refine (awake17_calls _).mono ?_
        rintro e w2 ⟨rfl, hB⟩
        have HB2 := Lib.hid (bel_next HB1.out hB (Nat.le_refl _))
        clear hB
        go_wp2
        go_ret
        exact ⟨rfl, HB2.out⟩
end Go.Proofs.Ytadbbknllakpcaa
