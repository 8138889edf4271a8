/- The document's spans (mothballref15): Bits, live, Size, With, Same. -/
import Derived.Test.YtadbbknllakpcaaGreatSpnW
import Derived.Test.YtadbbknllakpcaaGreatSpnC
import Derived.Deep.DeepCutAuto
import Derived.Deep.CutBlock
import Derived.Test.YtadbbknllakpcaaGreatTail
import Derived.Deep.AppendLies
import Derived.Laws.OwnMore
namespace Go.Proofs.YtadbbknllakpcaaGreat
open Go.RowKit
set_option linter.unusedVariables false

/-- What Bits answers. -/
def BitsR (cl : Int) (len : Nat) (f : Nat → Bool) (w : World) (e : Ending) (w' : World) : Prop :=
  Below w.heap.size w w' ∧ ((¬ LiveOk (perN cl) len f ∧ e = .returned (.tuple #[.slice none 0 0, .bool false])) ∨
    ∃ v, LiveOk (perN cl) len f ∧ e = .returned (.tuple #[v, .bool true]) ∧ w'.ownsRow w.heap.size 4 1 v (perN cl) (fnV (perN cl) fun i => .bool (f i)))
theorem fnV_snoc (n : Nat) (g : Nat → Value) : fnV n g ++ [g n] = fnV (n + 1) g := by unfold fnV; rw [List.range_succ, List.map_append]; rfl
set_option maxHeartbeats 2000000 in
set_option maxRecDepth 8000 in
theorem bits15_calls (pg ps cl : Int) (A : Option Addr) (len cap : Nat) (f : Nat → Bool) (w : World) (hc : I64 cl) (h : WordsAt w A len f) :
    Calls Tryz.prog 46 #[spV pg ps cl A len cap] w (BitsR cl len f w) := by
  obtain ⟨i0, hi, hz0, hz1, hz2⟩ := info_parts Tryz.info_bool
  obtain ⟨w1, hw1, hS, hB⟩ := one_span w pg ps cl A len cap
  have HB := Lib.hid hB
  have HS := Lib.hid hS
  have HW := Lib.hid (h.below hB)
  have hl9 := h.2.2
  obtain ⟨s0, s1, s2, s3⟩ := hS.cells
  have hPle := perN_le cl
  have hPc := perN_cast cl
  unfold I64 at hc
  obtain ⟨P, hP⟩ : ∃ P, perN cl = P := ⟨_, rfl⟩
  rw [hP] at hPle hPc
  have HP := Lib.hid hP
  clear h hS hB hP
  unfold spV
  have hper : (cl = 255 ∧ P = 1) ∨ (cl ≠ 255 ∧ perL cl = P) := by
    by_cases h : cl = 255
    · refine .inl ⟨h, ?_⟩
      have : perS cl = 1 := by rw [h]; rfl
      omega
    · exact .inr ⟨h, by rw [← hPc]; exact (if_neg h).symm⟩
  have hwn : (P + 63) / 64 = wn P := rfl
  go_enter Tryz.func46, Tryz.ntmps46
  go_wp2_with fail
  refine (rper_calls cl _ hc.1 hc.2).mono ?_
  rintro e w2 ⟨rfl, hb⟩
  have HB2 := Lib.hid (bel_next HB.out hb (Nat.le_refl _))
  have HS2 := Lib.hid (HS.out.below hb)
  have HW2 := Lib.hid (HW.out.below hb)
  obtain ⟨s0, s1, s2, s3⟩ := HS2.out.cells
  clear hb hw1
  go_upto_if 13 with fail
  go_cut [4] (fun v wx => v = .int .i64 P ∧ wx = w2)
  case first =>
    rcases hper with ⟨rfl, rfl⟩ | ⟨hc1, hpl⟩
    · go_wp2
      go_meet
      case rel => exact ⟨rfl, rfl⟩
    · have hcb : (cl == 255) = false := by simpa using hc1
      clear hc1
      rw [hpl]
      go_wp2
      go_meet
      case rel => exact ⟨rfl, rfl⟩
  case rest =>
    obtain ⟨rfl, rfl⟩ := hcut
    clear hper
    by_cases hl : len = wn P
    · have hlb : ((len : Int) != ((P : Int) + 63) / 64) = false := by rw [bne_eq_false_iff_eq]; unfold wn at hl; omega
      have hlen : len ≤ 1 := by unfold wn at hl; omega
      have HL := Lib.hid hl
      clear hl hwn
      go_wp2_with fail
      go_loopg [5, 6, 7] (64 * len) (fun q v i s wr => ∃ j : Nat, q + j = 64 * len ∧ i = .int .i64 j ∧ wr.ownsRow wc.heap.size 4 1 v (min j P) (fnV (min j P) fun i => .bool (f i)) ∧ Below wc.heap.size wc wr ∧ Hid (∀ i, P ≤ i → i < j → f i = false))
      case atStart => exact ⟨0, by omega, rfl, by simpa [fnV] using World.ownsRow_nil _ _ _ _, Below.refl _ _, Lib.hid (fun i _ h => by omega)⟩
      case round =>
        obtain ⟨j, hj, rfl, hown, hbc, hall⟩ := hrel
        have HO := Lib.hid hown
        have HBc := Lib.hid hbc
        obtain ⟨s0, s1, s2, s3⟩ := (HS2.out.below hbc).cells
        have hw := HW2.out.below hbc
        have hsz := hbc.size
        clear hown hbc
        by_cases hlt : j < 64 * len
        · obtain ⟨bb, oo, rfl, hlb2, hcc⟩ := hw.1.resolve_left (by omega)
          have hk : j / 64 < len := by omega
          have hx := hcc (j / 64) _ (wdV_at len f (j / 64) hk)
          have hbit := wd_bit f j
          obtain ⟨k, hkk⟩ : ∃ k, j / 64 = k := ⟨_, rfl⟩
          obtain ⟨t, htt⟩ : ∃ t, j % 64 = t := ⟨_, rfl⟩
          have hki : (j : Int) / 64 = (k : Int) := by omega
          have hti : (j : Int) % 64 = (t : Int) := by omega
          rw [hkk] at hx hk hbit
          rw [htt] at hbit
          have hwl := wd_lt f k
          generalize wd f k = x at *
          have htest : (((x : Int) / 2 ^ t).tmod 2 == 1) = f j := by
            rw [Int.tmod_eq_emod_of_nonneg (by have := pow_cast t; have := pow_pos2 t; exact Int.ediv_nonneg (by omega) (by omega)), show ((x : Int) / 2 ^ t % 2) = ((x / 2 ^ t % 2 : Nat) : Int) by simp, hbit]
            cases f j <;> rfl
          have HHk := Lib.hid hkk
          clear hcc hw hbit hkk htt
          by_cases hjP : j < P
          · have hm1 : min j P = j := by omega
            have hm2 : min (j + 1) P = j + 1 := by omega
            rw [hm1] at HO
            have HM2 := Lib.hid hm2
            clear hm1 hm2
            go_wp2_with (at_builtin; refine wpList_append_one rfl (.tmp 43) (.tmp 45) 84 rfl wc.heap.size 4 i0 _ 1 Tryz.underlying84 hi hz0 hz1 hz2 rfl _ _ _ rfl HO.out rfl rfl (by omega) (by unfold maxLen; omega) (by omega) ?_; intro v1 w5 hown1 hgr1 hnew1)
            rw [fnV_snoc] at hown1
            go_roundg (64 * len - (j + 1))
            case measure => omega
            case rel => exact ⟨j + 1, by omega, by go_num, by rw [HM2.out]; exact hown1, HBc.out.grown hgr1 hsz (fun k hk => (HO.out.lt k hk).1), Lib.hid (fun i h1 h2 => by omega)⟩
          · have hm1 : min j P = P := by omega
            have hm2 : min (j + 1) P = P := by omega
            rw [hm1] at HO
            have HM2 := Lib.hid hm2
            clear hm1 hm2
            have hjP' : P ≤ j := by omega
            clear hjP
            cases hf : f j
            · rw [hf] at htest
              have HF := Lib.hid hf
              clear hf
              go_wp2
              go_roundg (64 * len - (j + 1))
              case measure => omega
              case rel => exact ⟨j + 1, by omega, by go_num, by rw [HM2.out]; exact HO.out, HBc.out, Lib.hid (fun i h1 h2 => by by_cases h : i = j; rw [h]; exact HF.out; exact hall.out i h1 (by omega))⟩
            · rw [hf] at htest
              have HF := Lib.hid hf
              clear hf
              go_wp2
              go_ret2
              exact ⟨bel_next HB2.out HBc.out (Nat.le_refl _), .inl ⟨fun h => (by have h2 := h.2 j (by rw [HP.out]; exact hjP'); rw [HF.out] at h2; cases h2), rfl⟩⟩
        · obtain rfl : j = 64 * len := by omega
          have hm1 : min (64 * len) P = P := by have := HL.out; unfold wn at this; omega
          rw [hm1] at HO
          have HF := Lib.hid hw.2.1
          clear hw hm1
          go_wp2
          go_ret2
          refine ⟨bel_next HB2.out HBc.out (Nat.le_refl _), .inr ⟨_, ⟨by rw [HP.out]; exact HL.out, fun i hi => ?_⟩, rfl, ?_⟩⟩
          · rw [HP.out] at hi
            by_cases h : i < 64 * len
            · exact hall.out i hi h
            · exact HF.out i (by omega)
          · rw [HP.out]; exact ownsRow_base HO.out HB2.out.size
    · have hlb : ((len : Int) != ((P : Int) + 63) / 64) = true := by rw [bne_iff_ne]; unfold wn at hl; omega
      have HL := Lib.hid (show ¬ LiveOk (perN cl) len f by rw [HP.out]; exact fun h => hl h.1)
      clear hl hwn
      go_wp2
      go_ret2
      exact ⟨HB2.out, .inl ⟨HL.out, rfl⟩⟩

set_option maxHeartbeats 1000000 in
theorem live15_calls (w : World) (A : Option Addr) (n cap : Nat) (f : Nat → Bool) (h : RdAt w A n (fnV n fun i => .bool (f i))) (hn : n ≤ 1000000) :
    Calls Tryz.prog 53 #[.slice A n cap] w fun e w' => e = .returned (.int .i64 (cntF f n : Nat)) ∧ w = w' := by
  have HA := Lib.hid h
  clear h
  go_enter Tryz.func53, Tryz.ntmps53
  go_wp2_with fail
  go_loopg [3, 4] n (fun q c i wr => ∃ j : Nat, q + j = n ∧ i = .int .i64 j ∧ c = .int .i64 (cntF f j : Nat) ∧ w = wr)
  case atStart => exact ⟨0, by omega, rfl, rfl, rfl⟩
  case round =>
    obtain ⟨j, hj, rfl, rfl, rfl⟩ := hrel
    by_cases hlt : j < n
    · obtain ⟨b, o, rfl, hl, hc⟩ := HA.out.resolve_left (by omega)
      have hx := hc j _ (fnV_at n _ j hlt)
      have hle := cntF_le f j
      have hs : cntF f (j + 1) = cntF f j + if f j then 1 else 0 := rfl
      obtain ⟨c, hc2⟩ : ∃ c, cntF f j = c := ⟨_, rfl⟩
      rw [hc2] at hle hs ⊢
      have HS := Lib.hid hs
      clear hc hc2 hs
      cases hf : f j
      · rw [hf] at hx
        have hs2 := HS.out
        rw [hf] at hs2
        have HS2 := Lib.hid hs2
        clear hf hs2 HS
        go_wp2
        go_roundg (n - (j + 1))
        case measure => omega
        case rel => exact ⟨j + 1, by omega, by go_num, by rw [HS2.out]; simp, rfl⟩
      · rw [hf] at hx
        have hs2 := HS.out
        rw [hf] at hs2
        have HS2 := Lib.hid hs2
        clear hf hs2 HS
        go_wp2
        go_roundg (n - (j + 1))
        case measure => omega
        case rel => exact ⟨j + 1, by omega, by go_num, by rw [HS2.out]; simp, rfl⟩
    · obtain rfl : j = n := by omega
      go_wp2
      go_ret
      exact ⟨rfl, rfl⟩

set_option maxHeartbeats 1000000 in
theorem size15_calls (pg ps cl : Int) (A : Option Addr) (len cap : Nat) (w : World) (hp : I64 ps) (hc : I64 cl) :
    Calls Tryz.prog 47 #[spV pg ps cl A len cap] w fun e w' => e = .returned (.int .i64 (sizeS cl ps)) ∧ Below w.heap.size w w' := by
  obtain ⟨w1, hw1, hS, hB⟩ := one_span w pg ps cl A len cap
  have HB := Lib.hid hB
  obtain ⟨s0, s1, s2, s3⟩ := hS.cells
  unfold I64 at hp hc
  clear hS hB
  unfold spV
  by_cases h : cl = 255
  · subst h
    have HE := Lib.hid (show sizeS 255 ps = wrap64 (512 * ps) by unfold sizeS; rw [if_pos rfl, Int.mul_comm])
    go_enter Tryz.func47, Tryz.ntmps47
    go_wp2
    go_ret
    exact ⟨ret_eq HE.out.symm, HB.out⟩
  · have hcb : (cl == 255) = false := by simpa using h
    have HE := Lib.hid (show sizeS cl ps = sizeL cl from if_neg h)
    clear h
    go_enter Tryz.func47, Tryz.ntmps47
    go_wp2_with fail
    refine (rsize_calls cl _ hc.1 hc.2).mono ?_
    rintro e w2 ⟨rfl, hb⟩
    have HB2 := Lib.hid (bel_next HB.out hb (Nat.le_refl _))
    clear hb
    go_wp2
    go_ret
    exact ⟨ret_eq HE.out.symm, HB2.out⟩

set_option maxHeartbeats 1000000 in
theorem with15_calls (pg ps cl : Int) (A : Option Addr) (len cap : Nat) (w : World) (B : Option Addr) (n capb : Nat) (f : Nat → Bool) (h : RdAt w B n (fnV n fun i => .bool (f i))) (hn : n ≤ 65536) (hf : ∀ i, n ≤ i → f i = false) :
    Calls Tryz.prog 70 #[spV pg ps cl A len cap, .slice B n capb] w fun e w' => ∃ A' cap', e = .returned (.agg #[.int .i64 pg, .int .i64 ps, .int .i64 cl, .slice A' (wn n) cap']) ∧ WordsAt w' A' (wn n) f ∧ Below w.heap.size w w' ∧ ∀ x o, A' = some ⟨x, o, none⟩ → w.heap.size ≤ x := by
  obtain ⟨w1, hw1, hS, hR, hB⟩ := two_spans w pg ps cl A len cap
  have hR8 : R8G (w1.alloc (.cells #[.slice B n capb] 126)) w1.heap.size B n capb f := ⟨Blk.new w1 _ _, (h.below hB).alloc _, hf, hn⟩
  have hB1 := hB.alloc hB.size (.cells #[.slice B n capb] 126)
  have HS1 := Lib.hid (SpB.below hS ((Below.refl _ _).alloc (Nat.le_refl _) (.cells #[.slice B n capb] 126)))
  have HR1 := Lib.hid (SpB.below hR ((Below.refl _ _).alloc (Nat.le_refl _) (.cells #[.slice B n capb] 126)))
  have HR8 := Lib.hid hR8
  have HB1 := Lib.hid hB1
  have HF := Lib.hid hf
  have hl2 := hR.lt
  have hsz : (w1.alloc (.cells #[.slice B n capb] 126)).heap.size = w1.heap.size + 1 := by simp
  have hbs := hB.size
  clear h hS hR hB hR8 hB1 hf
  unfold spV
  go_enter Tryz.func70, Tryz.ntmps70
  go_wp2_with fail
  refine (words8_calls _ _ B n capb f HR8.out).mono ?_
  rintro e w2 ⟨v, rfl, hown, hb⟩
  obtain ⟨A', cap', rfl⟩ := ownsRow_slice hown
  have hW : WordsAt w2 A' (wn n) f := ⟨RdAt.of_own hown, fun i hi => HF.out i (by unfold wn at hi; omega), by unfold wn; omega⟩
  have HA : Hid (∀ x o, A' = some ⟨x, o, none⟩ → w1.heap.size + 1 ≤ x) := Lib.hid fun x o he => by
    subst he
    rw [← hsz]
    exact (hown.lt x rfl).1
  have HW := Lib.hid hW
  have HB2 := Lib.hid (bel_next HB1.out hb (Nat.le_refl _))
  have HS2 := Lib.hid (HS1.out.below hb)
  have HR2 := Lib.hid (HR1.out.below hb)
  obtain ⟨s0, s1, s2, s3⟩ := HS2.out.cells
  obtain ⟨q0, q1, q2, q3⟩ := HR2.out.cells
  obtain ⟨e0, e1, e2, e3⟩ := HR2.out.free
  have d3 := HS2.out.free.2.2.2
  clear hown hb hW hw1
  go_wp2
  refine bodyPost_ret (v := spV pg ps cl A' (wn n) cap') (by simp [spV, results, Tryz.results70, go_sem, q0, q1, q2, q3]) rfl ⟨A', cap', rfl, ?_, ?_, fun x o he => by have := HA.out x o he; omega⟩
  · refine WordsAt.set4 ?_ (fun x o he => by have := HA.out x o he; omega) _ _ _ _
    refine ⟨?_, HW.out.2⟩
    rcases HW.out.1 with h1 | ⟨b1, o1, rfl, hl, hc⟩
    · exact .inl h1
    · have hne := HA.out b1 o1 rfl
      refine .inr ⟨b1, o1, rfl, by simpa [World.setCell] using hl, fun i u hu => ?_⟩
      rw [← hc i u hu]
      simp [go_sem]
  · exact below4 (HB2.out.setCell (p := ⟨w.heap.size, 3, none⟩) (Nat.le_refl _) _) (by omega) _ _ _ _

end Go.Proofs.YtadbbknllakpcaaGreat

/- The document's spans (mothballref15): Right, New. -/
namespace Go.Proofs.YtadbbknllakpcaaGreat
open Go.RowKit
set_option linter.unusedVariables false

theorem Good.right {pg ps cl : Int} {len : Nat} {f : Nat → Bool} (h : Good pg ps cl len f) (hc : 0 < cntF f (perN cl)) : rightP pg ps cl len f := by
  have h1 := h.p1
  have h2 := h.p2
  have h3 := h.p3
  refine ⟨decide_eq_true (by omega), ?_⟩
  rcases h.fit with ⟨rfl, h4⟩ | ⟨h4, h5, h6⟩
  · refine .inl ⟨rfl, h4, ?_⟩
    have e2 : perN 255 = 1 := rfl
    have hl := h.live
    rw [e2] at hl hc
    have hlen : len = 1 := hl.1
    have h0 : f 0 = true := by
      cases hf : f 0
      · simp [cntF, hf] at hc
      · rfl
    refine decide_eq_true ⟨hlen, ?_⟩
    have : wd f 0 = wd bit0 0 := wd_congr fun b hb => by
      rw [Nat.mul_zero, Nat.zero_add]
      by_cases h : b = 0
      · rw [h, h0]; rfl
      · rw [hl.2 b (by omega), bit0_out b (by omega)]
    rw [this, wd_bit0]
  · exact .inr ⟨h4, h5, h6, h.live, hc⟩
/-- Is it right? -/
def RgtR (pg ps cl : Int) (len : Nat) (f : Nat → Bool) (w : World) (e : Ending) (w' : World) : Prop :=
  ∃ b : Bool, e = .returned (.bool b) ∧ (b = true ↔ Good pg ps cl len f ∧ 0 < cntF f (perN cl)) ∧ Below w.heap.size w w'
theorem rg_no {pg ps cl : Int} {len : Nat} {f : Nat → Bool} {w w' : World} {e : Ending} (he : e = .returned (.bool false)) (hn : Good pg ps cl len f → ¬ 0 < cntF f (perN cl)) (hb : Below w.heap.size w w') : RgtR pg ps cl len f w e w' :=
  ⟨false, he, ⟨fun h => (by cases h), fun h => absurd h.2 (hn h.1)⟩, hb⟩
theorem rg_yes {pg ps cl : Int} {len : Nat} {f : Nat → Bool} {w w' : World} {e : Ending} (he : e = .returned (.bool true)) (hn : Good pg ps cl len f) (hc : 0 < cntF f (perN cl)) (hb : Below w.heap.size w w') : RgtR pg ps cl len f w e w' :=
  ⟨true, he, ⟨fun _ => ⟨hn, hc⟩, fun _ => rfl⟩, hb⟩
set_option maxHeartbeats 4000000 in
theorem right15_calls (pg ps cl : Int) (A : Option Addr) (len cap : Nat) (f : Nat → Bool) (w : World) (h1 : I64 pg) (h2 : I64 ps) (h3 : I64 cl) (h : WordsAt w A len f) :
    Calls Tryz.prog 22 #[spV pg ps cl A len cap] w (RgtR pg ps cl len f w) := by
  obtain ⟨w1, hw1, hS, hB⟩ := one_span w pg ps cl A len cap
  have HB := Lib.hid hB
  have HS := Lib.hid hS
  have HW := Lib.hid (h.below hB)
  have H1 := Lib.hid h1
  have H2 := Lib.hid h2
  have H3 := Lib.hid h3
  obtain ⟨s0, s1, s2, s3⟩ := hS.cells
  have hPle := perN_le cl
  unfold I64 at h1 h2 h3
  clear h hS hB
  unfold spV
  by_cases hp : 1 ≤ pg ∧ 1 ≤ ps ∧ ps ≤ 4096 ∧ pg ≤ 4096 - ps
  · obtain ⟨p1, p2, p3, p4⟩ := hp
    go_enter Tryz.func22, Tryz.ntmps22
    go_wp2_with fail
    refine (bits15_calls pg ps cl A len cap f _ H3.out HW.out).mono ?_
    rintro e w2 ⟨hb, ⟨hno, rfl⟩ | ⟨v, hok, rfl, hown⟩⟩
    · have HB2 := Lib.hid (bel_next HB.out hb (Nat.le_refl _))
      have HN := Lib.hid hno
      clear hb hno
      go_wp2
      go_ret
      exact rg_no rfl (fun h => absurd h.live HN.out) HB2.out
    obtain ⟨B, cb, rfl⟩ := ownsRow_slice hown
    have HB2 := Lib.hid (bel_next HB.out hb (Nat.le_refl _))
    have HS2 := Lib.hid (HS.out.below hb)
    have HR := Lib.hid (RdAt.of_own hown)
    have HOk := Lib.hid hok
    obtain ⟨s0, s1, s2, s3⟩ := HS2.out.cells
    clear hb hok hown hw1
    go_wp2_with fail
    refine (live15_calls _ B (perN cl) cb f HR.out (by omega)).mono ?_
    rintro e w3 ⟨rfl, rfl⟩
    by_cases hk : 0 < cntF f (perN cl)
    · have HK := Lib.hid hk
      have hkb : ((cntF f (perN cl) : Int) == 0) = false := by rw [beq_eq_false_iff_ne]; omega
      generalize cntF f (perN cl) = k at hk hkb ⊢
      by_cases hc : cl = 255
      · subst hc
        by_cases h3p : 3 ≤ ps
        · go_wp2
          go_ret
          exact rg_yes rfl ⟨p1, p2, by omega, HOk.out, .inl ⟨rfl, h3p⟩⟩ HK.out HB2.out
        · go_wp2
          go_ret
          refine rg_no (ret_bool (decide_eq_false (by omega))) (fun h => ?_) HB2.out
          rcases h.fit with ⟨_, h⟩ | ⟨h, _⟩
          · omega
          · exact absurd rfl h
      · have hcb : (cl == 255) = false := by simpa using hc
        have HCn := Lib.hid hc
        have HSd := Lib.hid (show SpB w2.drew w.heap.size pg ps cl A len cap from HS2.out)
        have HBd := Lib.hid (show Below w.heap.size w w2.drew from HB2.out.drew)
        have HE := Lib.hid (show sizeS cl ps = sizeL cl from if_neg hc)
        clear hc hk
        by_cases hs : sizeL cl = 0
        · have hs2 : ¬ 0 < sizeL cl := by omega
          have HS0 := Lib.hid hs
          clear hs
          go_wp2_with fail
          refine wp_region_any (by kernel_rfl) ?_
          change wpAny _ _ _ _ _ _ _ (World.drew _)
          refine wpAny_ready (rs := [0]) (by kernel_rfl) (by simp) ?_
          refine AllReady.cons rfl (fun K hK => ?_) AllReady.nil
          go_simp
          refine hK _ _ ?_
          clear hK K
          refine wpAny_ready (rs := [1]) (by kernel_rfl) (by simp) ?_
          refine AllReady.cons rfl (fun K hK => ?_) AllReady.nil
          go_simp
          go_wp2_with (go_at_call 47; refine (size15_calls pg ps cl A len cap _ H2.out H3.out).mono ?_; rintro e w5 ⟨rfl, hb⟩; rw [HE.out, HS0.out])
          try clear hK K
          obtain ⟨s0, s1, s2, s3⟩ := (HSd.out.below hb).cells
          have HBd := Lib.hid (bel_next HBd.out hb (Nat.le_refl _))
          clear hb
          refine wpAny_tail 2 (by kernel_rfl) (by rfl) (by kernel_rfl) ?_
          change wpQuiet _ _ _ _ (_ :: _) _
          repeat (go_big_quiet_step (fail))
          refine wpQuiet_nil ?_
          intro wq hw'
          obtain ⟨nq, hw''⟩ := hw'
          subst hw''
          go_wp2
          go_ret
          refine rg_no rfl (fun h => ?_) (below_drewN HBd.out nq)
          rcases h.fit with ⟨h, _⟩ | ⟨_, h, _⟩
          · exact absurd h HCn.out
          · exact absurd HS0.out h
        · have hs2 : 0 < sizeL cl := by have := cls_facts cl hs; omega
          have HS0 := Lib.hid hs
          clear hs
          have hfin : ∀ b : Bool, (pagesL cl == ps) = b → ∀ w', Below w.heap.size w w' → RgtR pg ps cl len f w (.returned (.bool b)) w' := by
            intro b hb w' hB
            cases b
            · refine rg_no rfl (fun h => ?_) hB
              rcases h.fit with ⟨h, _⟩ | ⟨_, _, h⟩
              · exact absurd h HCn.out
              · rw [beq_eq_false_iff_ne] at hb; exact absurd h hb
            · exact rg_yes rfl ⟨p1, p2, by omega, HOk.out, .inr ⟨HCn.out, HS0.out, by simpa using hb⟩⟩ HK.out hB
          have HFin := Lib.hid (hfin _ rfl)
          clear hfin
          go_wp2_with fail
          go_region_with (first | (go_at_call 47; refine (size15_calls pg ps cl A len cap _ H2.out H3.out).mono ?_; rintro e w5 ⟨rfl, hb⟩; rw [HE.out]; obtain ⟨s0, s1, s2, s3⟩ := (HSd.out.below hb).cells; have HBd := Lib.hid (bel_next HBd.out hb (Nat.le_refl _)); have HSd := Lib.hid (HSd.out.below hb); clear hb) | (go_at_call 36; refine (rpages_calls cl _ h3.1 h3.2).mono ?_; rintro e w6 ⟨rfl, hb⟩; obtain ⟨s0, s1, s2, s3⟩ := (HSd.out.below hb).cells; have HBd := Lib.hid (bel_next HBd.out hb (Nat.le_refl _)); have HSd := Lib.hid (HSd.out.below hb); clear hb))
          all_goals
            go_wp2
            go_ret
            exact HFin.out _ HBd.out
    · have HK := Lib.hid hk
      have hk0 : cntF f (perN cl) = 0 := by omega
      rw [hk0]
      clear hk hk0
      go_wp2
      go_ret
      exact rg_no rfl (fun h => HK.out) HB2.out
  · have hx : pg < 1 ∨ (1 ≤ pg ∧ ps < 1) ∨ (1 ≤ pg ∧ 1 ≤ ps ∧ 4096 < ps) ∨ (1 ≤ pg ∧ 1 ≤ ps ∧ ps ≤ 4096 ∧ 4096 - ps < pg) := by omega
    have HN : Hid (Good pg ps cl len f → ¬ 0 < cntF f (perN cl)) := Lib.hid fun h => by have q1 := h.p1; have q2 := h.p2; have q3 := h.p3; omega
    clear hp
    rcases hx with h | ⟨h, h'⟩ | ⟨h, h', h''⟩ | ⟨h, h', h'', h'''⟩
    all_goals
      go_enter Tryz.func22, Tryz.ntmps22
      go_wp2
      go_ret
      exact rg_no rfl HN.out HB.out
end Go.Proofs.YtadbbknllakpcaaGreat

/- The document's spans (mothballref15): New. -/
namespace Go.Proofs.YtadbbknllakpcaaGreat
open Go.RowKit
set_option linter.unusedVariables false

/-- The cells of the first bit alone. -/
theorem fn_first (n : Nat) : (fnV n fun _ => Value.bool false).set 0 (.bool true) = fnV n fun i => .bool (bit0 i) := by
  rw [fnV_set]
  exact fnV_congr fun i _ => by
    unfold bit0
    by_cases h : i = 0
    · rw [if_pos h, decide_eq_true h]
    · rw [if_neg h, decide_eq_false h]
set_option maxHeartbeats 2000000 in
theorem new15_calls (pg cl : Int) (w : World) (h1 : I64 pg) (h2 : I64 cl) :
    Calls Tryz.prog 37 #[.int .i64 pg, .int .i64 cl] w fun e w' => Below w.heap.size w w' ∧ ((newB pg cl = false ∧ e = .returned (.tuple #[spV 0 0 0 none 0 0, .bool false])) ∨
      ∃ A cap, newB pg cl = true ∧ e = .returned (.tuple #[spV pg (pagesL cl) cl A 1 cap, .bool true]) ∧ WordsAt w' A 1 bit0 ∧ ∀ x o, A = some ⟨x, o, none⟩ → w.heap.size ≤ x) := by
  obtain ⟨i0, hi, hz0, hz1, hz2⟩ := info_parts Tryz.info_bool
  obtain ⟨w1, hw1, hR, hB⟩ := one_span w 0 0 0 none 0 0
  have HB := Lib.hid hB
  have HR := Lib.hid hR
  have H1 := Lib.hid h1
  have H2 := Lib.hid h2
  have hpb := pagesL_bd cl
  unfold I64 at h1 h2
  have hmk : ∀ (w : World) (k : Nat), k ≤ 32 → (Instr.makeSlice 84 (.int .i64 k) (.int .i64 k)).run Tryz.prog w = .ok (.slice (some ⟨w.heap.size, 0, none⟩) k k) (w.alloc (.cells (zrow k (.bool false)) 4)) := fun w k hk =>
    run_make1 (P := Tryz.prog) w 84 4 i0 _ (.bool false) Tryz.underlying84 hi hz0 rfl hz1 k (by rw [hz2]; omega) (by omega)
  clear hR hB
  go_enter Tryz.func37, Tryz.ntmps37
  go_wp2_with fail
  refine (rper_calls cl _ h2.1 h2.2).mono ?_
  rintro e w2 ⟨rfl, hb⟩
  have HB2 := Lib.hid (bel_next HB.out hb (Nat.le_refl _))
  have HR2 := Lib.hid (HR.out.below hb)
  have hw2 := (HR.out.below hb).lt
  by_cases hs : sizeL cl = 0
  · have hz : perL cl = 0 := by unfold perL; rw [if_pos hs]
    have hn : newB pg cl = false := by
      cases h : newB pg cl
      · rfl
      · exact absurd hs (newB_pos h)
    have hm := hmk w2 0 (by omega)
    have HN := Lib.hid hn
    simp only [Int.natCast_zero] at hm
    obtain ⟨w3, hw3⟩ : ∃ w3, w2.alloc (.cells (zrow 0 (.bool false)) 4) = w3 := ⟨_, rfl⟩
    have hB3 : Below w2.heap.size w2 w3 := by rw [← hw3]; exact (Below.refl _ _).alloc (Nat.le_refl _) _
    rw [hw3] at hm
    obtain ⟨e0, e1, e2, e3⟩ := (HR2.out.below hB3).free
    obtain ⟨q0, q1, q2, q3⟩ := (HR2.out.below hB3).cells
    have HB3 := Lib.hid (bel_next HB2.out hB3 (Nat.le_refl _))
    rw [hz]
    clear hB3 hw3
    clear hs hz hn hmk hb hw1
    go_wp2
    refine bodyPost_ret (v := .tuple #[spV 0 0 0 none 0 0, .bool false]) (by simp [spV, results, Tryz.results37, go_sem, q0, q1, q2, q3]) rfl ?_
    exact ⟨below4 HB3.out (Nat.le_refl _) _ _ _ _, .inl ⟨HN.out, rfl⟩⟩
  · obtain ⟨hc, hpc, hp1⟩ := perN_pos cl hs
    have hple := perN_le cl
    have hcast := perN_cast cl
    rw [hpc] at hcast
    obtain ⟨P, hP⟩ : ∃ P, perN cl = P := ⟨_, rfl⟩
    rw [hP] at hcast hple hp1
    have hm := hmk w2 P hple
    have HP := Lib.hid hP
    have hsz : (w2.alloc (.cells (zrow P (.bool false)) 4)).heap.size = w2.heap.size + 1 := by simp
    have hblk0 : Blk (w2.alloc (.cells (zrow P (.bool false)) 4)) w2.heap.size (fnV P fun _ => .bool false) 4 := by
      rw [← fnV_rep]; exact Blk.new w2 (zrow P (.bool false)) 4
    have hblk := Blk.set hblk0 0 (.bool true)
    rw [fn_first] at hblk
    have hc0 := hblk0.cell 0
    rw [fnV_at P _ 0 (by omega)] at hc0
    have hf0 := hblk0.free 0
    obtain ⟨w4, hw4⟩ : ∃ w4, (w2.alloc (.cells (zrow P (.bool false)) 4)).setCell ⟨w2.heap.size, 0, none⟩ (.bool true) = w4 := ⟨_, rfl⟩
    rw [hw4] at hblk
    have hB4 : Below w2.heap.size w2 w4 := by rw [← hw4]; exact ((Below.refl _ _).alloc (Nat.le_refl _) _).setCell (p := ⟨w2.heap.size, 0, none⟩) (Nat.le_refl _) _
    have HB4 := Lib.hid (bel_next HB2.out hB4 (Nat.le_refl _))
    have HR4 := Lib.hid (HR2.out.below hB4)
    have HRd := Lib.hid (RdAt.of_blk (n := P) hblk)
    have HNz := Lib.hid (show ∀ b : Bool, (b = true ↔ Good pg (pagesL cl) cl 1 bit0 ∧ 0 < cntF bit0 (perN cl)) → b = newB pg cl from fun b hb => by
      cases b
      · cases hn : newB pg cl
        · rfl
        · have h1 := (new_iff pg cl).2 (.inl ⟨hc, hn⟩)
          exact absurd (hb.2 (Good.of_right h1 (fun i hi => bit0_out i (by omega)))) (by simp)
      · have h1 := hb.1 rfl
        have h2 := (new_iff pg cl).1 (h1.1.right h1.2)
        rcases h2 with ⟨_, h2⟩ | ⟨_, h2⟩
        · exact h2.symm
        · exact h2.elim)
    rw [hcast]
    clear hs hpc hcast hblk0 hblk hB4 hmk hb hw1 hP
    have hPe : ((P : Int) == 0) = false := by rw [beq_eq_false_iff_ne]; omega
    go_wp2_with fail
    refine (rpages_calls cl _ h2.1 h2.2).mono ?_
    rintro e w5 ⟨rfl, hb⟩
    have HB5 := Lib.hid (bel_next HB4.out hb (Nat.le_refl _))
    have HR5 := Lib.hid (HR4.out.below hb)
    have HRd5 := Lib.hid (HRd.out.below hb)
    clear hb hw4
    go_wp2_with fail
    refine (with15_calls pg (pagesL cl) cl none 0 0 _ _ P P bit0 HRd5.out (by omega) (fun i hi => bit0_out i (by omega))).mono ?_
    rintro e w6 ⟨A', cap', rfl, hW, hb, hA6⟩
    have HA6 := Lib.hid (show ∀ x o, A' = some ⟨x, o, none⟩ → w.heap.size ≤ x from fun x o he => Nat.le_trans HB5.out.size (hA6 x o he))
    clear hA6
    rw [show wn P = 1 by unfold wn; omega] at hW ⊢
    obtain ⟨w7, hw7, hS7, hB7⟩ := one_span w6 pg (pagesL cl) cl A' 1 cap'
    have HB7 := Lib.hid (bel_next (bel_next HB5.out hb (Nat.le_refl _)) hB7 (Nat.le_refl _))
    have HR7 := Lib.hid ((HR5.out.below hb).below hB7)
    have HW7 := Lib.hid (hW.below hB7)
    have HS7 := Lib.hid hS7
    obtain ⟨s0, s1, s2, s3⟩ := hS7.cells
    clear hb hW hS7 hB7 hm
    go_wp2_with fail
    clear hw7
    generalize w6.heap.size = sb at *
    refine (right15_calls pg (pagesL cl) cl A' 1 cap' bit0 _ H1.out (by unfold I64; omega) H2.out HW7.out).mono ?_
    rintro e w8 ⟨b, rfl, hb2, hb⟩
    have hbn := HNz.out b hb2
    have HB8 := Lib.hid (bel_next HB7.out hb (Nat.le_refl _))
    obtain ⟨s0, s1, s2, s3⟩ := (HS7.out.below hb).cells
    obtain ⟨e0, e1, e2, e3⟩ := (HR7.out.below hb).free
    obtain ⟨q0, q1, q2, q3⟩ := (HR7.out.below hb).cells
    have HW8 := Lib.hid (HW7.out.below hb)
    have HR8 := Lib.hid (HR7.out.below hb)
    have HBn := Lib.hid hbn
    clear hb hb2 hbn
    cases b
    · go_wp2
      refine bodyPost_ret (v := .tuple #[spV 0 0 0 none 0 0, .bool false]) (by simp [spV, results, Tryz.results37, go_sem, q0, q1, q2, q3]) rfl ?_
      exact ⟨below4 HB8.out (Nat.le_refl _) _ _ _ _, .inl ⟨HBn.out.symm, rfl⟩⟩
    · go_wp2
      refine bodyPost_ret (v := .tuple #[spV pg (pagesL cl) cl A' 1 cap', .bool true]) (by simp [spV, results, Tryz.results37, go_sem, q0, q1, q2, q3]) rfl ?_
      exact ⟨below4 HB8.out (Nat.le_refl _) _ _ _ _, .inr ⟨_, _, HBn.out.symm, rfl, WordsAt.store HW8.out HR8.out _ _ _ _, HA6.out⟩⟩
end Go.Proofs.YtadbbknllakpcaaGreat

/- The document's spans (mothballref15): Find, Give. -/
namespace Go.Proofs.YtadbbknllakpcaaGreat
open Go.RowKit
set_option linter.unusedVariables false

def FindP (pg ps cl : Int) (f : Nat → Bool) (x : Int) (w : World) (e : Ending) (w' : World) : Prop :=
  Below w.heap.size w w' ∧ ((e = .returned (.tuple #[.int .i64 0, .int .i64 0, .bool false]) ∧ WhichR pg (perN cl) (sizN cl ps) f x (-1) 0) ∨
       ∃ (i : Nat) (u : Int), e = .returned (.tuple #[.int .i64 (x - u), .int .i64 (sizN cl ps : Nat), .bool true]) ∧ WhichR pg (perN cl) (sizN cl ps) f x i u)
set_option maxHeartbeats 4000000 in
set_option maxRecDepth 8000 in
theorem find15r_calls (pg ps cl : Int) (A : Option Addr) (len cap : Nat) (f : Nat → Bool) (x : Int) (w : World) (hg : Good pg ps cl len f) (hx : I64 x) (h : WordsAt w A len f) :
    Calls Tryz.prog 43 #[spV pg ps cl A len cap, .int .i64 x] w (FindP pg ps cl f x w) := by
  obtain ⟨w1, hw1, hS, hB⟩ := one_span w pg ps cl A len cap
  have HG := Lib.hid hg
  have HI := Lib.hid hg.i64
  have HB := Lib.hid hB
  have HS := Lib.hid hS
  have HW := Lib.hid (h.below hB)
  obtain ⟨s0, s1, s2, s3⟩ := hS.cells
  obtain ⟨z0, z1, z2, z3, z4, z5⟩ := hg.size
  have p1 := hg.p1
  have p2 := hg.p2
  have p3 := hg.p3
  have HZ := Lib.hid z0
  unfold I64 at hx
  obtain ⟨S, hSz⟩ : ∃ S, sizN cl ps = S := ⟨_, rfl⟩
  obtain ⟨P, hPn⟩ : ∃ P, perN cl = P := ⟨_, rfl⟩
  rw [hSz] at z1 z2 z5 HZ
  rw [hPn] at z3 z4 z5
  have HSz := Lib.hid hSz
  have HPn := Lib.hid hPn
  have HZ5 := Lib.hid z5
  clear h hg hS hB z0 z5 hSz hPn
  unfold spV
  go_enter Tryz.func43, Tryz.ntmps43
  go_wp2_with fail
  refine (bits15_calls pg ps cl A len cap f _ HI.out.2.2 HW.out).mono ?_
  rintro e w2 ⟨hb, ⟨hno, rfl⟩ | ⟨v, hok, rfl, hown⟩⟩
  · exact absurd HG.out.live hno
  obtain ⟨B, cb, hv⟩ := ownsRow_slice hown
  subst hv
  rw [HPn.out] at hown ⊢
  have HB2 := Lib.hid (bel_next HB.out hb (Nat.le_refl _))
  have HS2 := Lib.hid (HS.out.below hb)
  have HR2 := Lib.hid (RdAt.of_own hown)
  clear hb hown hok hw1
  go_wp2_with fail
  go_loopg [9, 10] P (fun q i t wr => ∃ j : Nat, q + j = P ∧ i = .int .i64 j ∧ Below w2.heap.size w2 wr ∧ Hid (∀ i : Nat, i < j → f i = true → 512 * pg + ((i * S : Nat) : Int) ≤ x → 512 * pg + ((i * S : Nat) : Int) + S ≤ x))
  case atStart => exact ⟨0, by omega, rfl, Below.refl _ _, Lib.hid (fun i h => by omega)⟩
  case round =>
    obtain ⟨j, hj, rfl, hb, hall⟩ := hrel
    have HBr := Lib.hid hb
    have HBw := Lib.hid (bel_next HB2.out hb (Nat.le_refl _))
    have HSd := Lib.hid (HS2.out.below hb)
    have hrd := HR2.out.below hb
    obtain ⟨s0, s1, s2, s3⟩ := HSd.out.cells
    obtain ⟨wo, rfl⟩ : ∃ wo : World, wo = wr := ⟨_, rfl⟩
    clear hb
    by_cases hlt : j < P
    · obtain ⟨bb, oo, rfl, hlb, hcc⟩ := hrd.resolve_left (by omega)
      have HCc := Lib.hid hcc
      have h5 : (j + 1) * S ≤ P * S := Nat.mul_le_mul_right _ hlt
      rw [Nat.add_mul, Nat.one_mul] at h5
      have h6 := HZ5.out
      obtain ⟨m, hm⟩ : ∃ m, j * S = m := ⟨_, rfl⟩
      have hmi : (j : Int) * (S : Int) = (m : Int) := by rw [← hm]; simp
      have hm6 : (m : Int) + S ≤ 512 * ps := by omega
      have hm7 : (m : Int) ≤ 2097152 := by omega
      have HM := Lib.hid hm
      have HBd := Lib.hid (show Below wo.heap.size wo wo.drew from (Below.refl _ _).drew)
      replace HSd := Lib.hid (show SpB wo.drew w.heap.size pg ps cl (A) len cap from HSd.out)
      clear h5 h6 hm hrd hcc
      have hval : IntKind.i64.wrap (IntKind.i64.wrap (512 * pg) + IntKind.i64.wrap (m : Int)) = 512 * pg + (m : Int) := by
        rw [IntWalk.i64_in (512 * pg) (by omega), IntWalk.i64_in (m : Int) (by omega), IntWalk.i64_in _ (by omega)]
      have HVal := Lib.hid hval
      clear hval
      have hcase : (f j = false ∧ True) ∨ (f j = true ∧ x < 512 * pg + (m : Int)) ∨ (f j = true ∧ 512 * pg + (m : Int) ≤ x ∧ 512 * pg + (m : Int) + S ≤ x) ∨ (f j = true ∧ 512 * pg + (m : Int) ≤ x ∧ x < 512 * pg + (m : Int) + S) := by
        cases f j
        · exact .inl ⟨rfl, trivial⟩
        · by_cases h1 : x < 512 * pg + (m : Int)
          · exact .inr (.inl ⟨rfl, h1⟩)
          · by_cases h2 : x < 512 * pg + (m : Int) + S
            · exact .inr (.inr (.inr ⟨rfl, by omega, h2⟩))
            · exact .inr (.inr (.inl ⟨rfl, by omega, by omega⟩))
      rcases hcase with ⟨hf, _⟩ | ⟨hf, h1⟩ | ⟨hf, h1, h2⟩ | ⟨hf, h1, h2⟩
      · have HF := Lib.hid hf
        have hdx := HCc.out j _ (fnV_at P _ j hlt)
        rw [hf] at hdx
        have HDx := Lib.hid hdx
        clear hf hdx
        go_wp2_with fail
        go_region_with (first | (go_at_call 47; refine (size15_calls pg ps cl A len cap _ HI.out.2.1 HI.out.2.2).mono ?_; rintro e w5 ⟨rfl, hb⟩; rw [HZ.out]; obtain ⟨s0, s1, s2, s3⟩ := (HSd.out.below hb).cells; have HBd := Lib.hid (HBd.out.trans (hb.mono HBd.out.size)); have HSd := Lib.hid (HSd.out.below hb); clear hb))
        all_goals
          rw [HVal.out]
          have dx := (HBd.out.cell (p := ⟨bb, oo + j, none⟩) hlb).trans HDx.out
          go_wp2
          go_roundg (P - (j + 1))
          case measure => omega
          case rel => exact ⟨j + 1, by omega, by go_num, HBr.out.trans (HBd.out.mono HBr.out.size), Lib.hid (fun i h1 h2 h3 => by by_cases hij : i = j; rw [hij, HF.out] at h2; cases h2; exact hall.out i (by omega) h2 h3)⟩
      · have HF := Lib.hid hf
        have hdx := HCc.out j _ (fnV_at P _ j hlt)
        rw [hf] at hdx
        have HDx := Lib.hid hdx
        clear hf hdx
        go_wp2_with fail
        go_region_with (first | (go_at_call 47; refine (size15_calls pg ps cl A len cap _ HI.out.2.1 HI.out.2.2).mono ?_; rintro e w5 ⟨rfl, hb⟩; rw [HZ.out]; obtain ⟨s0, s1, s2, s3⟩ := (HSd.out.below hb).cells; have HBd := Lib.hid (HBd.out.trans (hb.mono HBd.out.size)); have HSd := Lib.hid (HSd.out.below hb); clear hb))
        all_goals
          rw [HVal.out]
          have dx := (HBd.out.cell (p := ⟨bb, oo + j, none⟩) hlb).trans HDx.out
          go_wp2
          go_roundg (P - (j + 1))
          case measure => omega
          case rel => exact ⟨j + 1, by omega, by go_num, HBr.out.trans (HBd.out.mono HBr.out.size), Lib.hid (fun i g1 g2 g3 => by by_cases hij : i = j; rw [hij, HM.out] at g3; omega; exact hall.out i (by omega) g2 g3)⟩
      · have HF := Lib.hid hf
        have hdx := HCc.out j _ (fnV_at P _ j hlt)
        rw [hf] at hdx
        have HDx := Lib.hid hdx
        have H2 := Lib.hid h2
        clear hf hdx
        go_wp2_with fail
        go_region_with (first | (go_at_call 47; refine (size15_calls pg ps cl A len cap _ HI.out.2.1 HI.out.2.2).mono ?_; rintro e w5 ⟨rfl, hb⟩; rw [HZ.out]; obtain ⟨s0, s1, s2, s3⟩ := (HSd.out.below hb).cells; have HBd := Lib.hid (HBd.out.trans (hb.mono HBd.out.size)); have HSd := Lib.hid (HSd.out.below hb); clear hb))
        all_goals
          rw [HVal.out]
          have dx := (HBd.out.cell (p := ⟨bb, oo + j, none⟩) hlb).trans HDx.out
          go_wp2_with (go_at_call 47; refine (size15_calls pg ps cl A len cap _ HI.out.2.1 HI.out.2.2).mono ?_; rintro e w6 ⟨rfl, hb⟩; rw [HZ.out]; obtain ⟨s0, s1, s2, s3⟩ := (HSd.out.below hb).cells; have HBd := Lib.hid (HBd.out.trans (hb.mono HBd.out.size)); have HSd := Lib.hid (HSd.out.below hb); clear hb)
          go_roundg (P - (j + 1))
          case measure => omega
          case rel => exact ⟨j + 1, by omega, by go_num, HBr.out.trans (HBd.out.mono HBr.out.size), Lib.hid (fun i g1 g2 g3 => by by_cases hij : i = j; rw [hij, HM.out]; exact H2.out; exact hall.out i (by omega) g2 g3)⟩
      · have HF := Lib.hid hf
        have hdx := HCc.out j _ (fnV_at P _ j hlt)
        rw [hf] at hdx
        have HDx := Lib.hid hdx
        have H1 := Lib.hid h1
        have H2 := Lib.hid h2
        clear hf hdx
        go_wp2_with fail
        go_region_with (first | (go_at_call 47; refine (size15_calls pg ps cl A len cap _ HI.out.2.1 HI.out.2.2).mono ?_; rintro e w5 ⟨rfl, hb⟩; rw [HZ.out]; obtain ⟨s0, s1, s2, s3⟩ := (HSd.out.below hb).cells; have HBd := Lib.hid (HBd.out.trans (hb.mono HBd.out.size)); have HSd := Lib.hid (HSd.out.below hb); clear hb))
        all_goals
          rw [HVal.out]
          have dx := (HBd.out.cell (p := ⟨bb, oo + j, none⟩) hlb).trans HDx.out
          go_wp2_with (go_at_call 47; refine (size15_calls pg ps cl A len cap _ HI.out.2.1 HI.out.2.2).mono ?_; rintro e w6 ⟨rfl, hb⟩; rw [HZ.out]; obtain ⟨s0, s1, s2, s3⟩ := (HSd.out.below hb).cells; have HBd := Lib.hid (HBd.out.trans (hb.mono HBd.out.size)); have HSd := Lib.hid (HSd.out.below hb); clear hb)
          go_ret3
          refine ⟨bel_next HBw.out HBd.out (Nat.le_refl _), .inr ⟨j, x - (512 * pg + (m : Int)), ?_, ?_⟩⟩
          · rw [HSz.out, show x - (x - (512 * pg + (m : Int))) = 512 * pg + (m : Int) by omega]
            rfl
          · rw [HSz.out, HPn.out]
            exact .inr ⟨j, hlt, HF.out, rfl, by rw [HM.out]; omega, by have := H1.out; omega, by have := H2.out; omega⟩
    · obtain rfl : j = P := by omega
      go_wp2
      go_ret3
      refine ⟨HBw.out, .inl ⟨rfl, ?_⟩⟩
      rw [HSz.out, HPn.out]
      exact .inl ⟨rfl, rfl, hall.out⟩
end Go.Proofs.YtadbbknllakpcaaGreat

/- The document's spans (mothballref15): Give, Take. -/
namespace Go.Proofs.YtadbbknllakpcaaGreat
open Go.RowKit
set_option linter.unusedVariables false

/-- A row of bits of the call's own, and one of them stored. -/
theorem bits_own {w : World} {base P cb : Nat} {B : Option Addr} {f : Nat → Bool} (h : w.ownsRow base 4 1 (.slice B P cb) P (fnV P fun i => .bool (f i))) (hP : 0 < P) :
    ∃ g, B = some ⟨g, 0, none⟩ ∧ base ≤ g ∧ g < w.heap.size ∧ (∀ i, i < P → w.cell? ⟨g, i, none⟩ = some (.bool (f i))) ∧ (∀ i, w.frozen? ⟨g, i, none⟩ = false) ∧
      ∀ i s, i < P → (w.setCell ⟨g, i, none⟩ (.bool s)).ownsRow base 4 1 (.slice B P cb) P (fnV P fun j => .bool (put f i s j)) := by
  obtain ⟨g, hB, h1, h2, hc⟩ := (ownsRow_rd h).resolve_left (by omega)
  subst hB
  refine ⟨g, rfl, h1, h2, fun i hi => hc i _ (fnV_at P _ i hi), fun i => h.frozenAt i, fun i s hi => ?_⟩
  have := (h.stored i (.bool s)).1
  rw [fnV_set] at this
  have e : (fun j => if j = i then Value.bool s else Value.bool (f j)) = (fun j => Value.bool (put f i s j)) := funext fun j => by unfold put; split <;> rfl
  rw [e] at this
  exact this
set_option maxHeartbeats 2000000 in
theorem give15r_calls (pg ps cl : Int) (A : Option Addr) (len cap : Nat) (f : Nat → Bool) (x : Int) (w : World) (hg : Good pg ps cl len f) (hx : I64 x) (h : WordsAt w A len f) :
    Calls Tryz.prog 41 #[spV pg ps cl A len cap, .int .i64 x] w (GiveF pg ps cl len f x w) := by
  obtain ⟨w1, hw1, hS, hR, hB⟩ := two_spans w pg ps cl A len cap
  have HG := Lib.hid hg
  have HX := Lib.hid hx
  have HI := Lib.hid hg.i64
  have HB := Lib.hid hB
  have HS := Lib.hid hS
  have HR := Lib.hid hR
  have HW := Lib.hid (h.below hB)
  have hl2 := hR.lt
  obtain ⟨s0, s1, s2, s3⟩ := HS.out.cells
  obtain ⟨z0, z1, z2, z3, z4, z5⟩ := hg.size
  have p1 := hg.p1
  have p2 := hg.p2
  have p3 := hg.p3
  have HL := Lib.hid hg.live.1
  have HZ5 := Lib.hid z5
  unfold I64 at hx
  clear h hg hS hR hB z0 z5
  unfold spV
  go_enter Tryz.func41, Tryz.ntmps41
  go_wp2_with fail
  refine (find15r_calls pg ps cl A len cap f x _ HG.out HX.out HW.out).mono ?_
  rintro e w2 ⟨hb, hcs⟩
  have HB2 := Lib.hid (bel_next HB.out hb (Nat.le_refl _))
  have HS2 := Lib.hid (HS.out.below hb)
  have HR2 := Lib.hid (HR.out.below hb)
  have HW2 := Lib.hid (HW.out.below hb)
  have hsz := hb.size
  obtain ⟨s0, s1, s2, s3⟩ := HS2.out.cells
  obtain ⟨e0, e1, e2, e3⟩ := HR2.out.free
  obtain ⟨q0, q1, q2, q3⟩ := HR2.out.cells
  clear hw1 hb
  rcases hcs with ⟨rfl, hwh⟩ | ⟨i, u, rfl, hwh⟩
  · have HN := Lib.hid (hwh.not_at z1 (.inl rfl))
    clear hwh
    go_wp2
    refine bodyPost_ret (v := .tuple #[spV 0 0 0 none 0 0, .int .i64 17]) (by simp [spV, results, Tryz.results41, go_sem, q0, q1, q2, q3]) rfl ?_
    exact ⟨below4 HB2.out (by omega) _ _ _ _, .inl ⟨rfl, HN.out⟩⟩
  by_cases hu : u = 0
  · subst hu
    rcases hwh with ⟨h1, _⟩ | ⟨i', hi, hfi, hii, hxe, _, _⟩
    · omega
    obtain rfl : i' = i := by omega
    have HXe := Lib.hid hxe
    have HFi := Lib.hid hfi
    obtain ⟨m, hm⟩ : ∃ m, i' * sizN cl ps = m := ⟨_, rfl⟩
    have hxm : x - 512 * pg = (m : Int) := by rw [hm] at hxe; omega
    have hq : (m : Int) / ((sizN cl ps : Nat) : Int) = (i' : Int) := by
      rw [← hm, Int.natCast_mul, Int.mul_ediv_cancel _ (by omega)]
    have hx0 : (x - 0 != x) = false := by simp
    have HM := Lib.hid hm
    clear hxe hii hm
    go_wp2_with fail
    refine (bits15_calls pg ps cl A len cap f _ HI.out.2.2 HW2.out).mono ?_
    rintro e w3 ⟨hb, ⟨hno, rfl⟩ | ⟨v, hok, rfl, hown⟩⟩
    · exact absurd HG.out.live hno
    obtain ⟨B, cb, hv⟩ := ownsRow_slice hown
    subst hv
    obtain ⟨g, rfl, hg1, hg2, hgc, hgf, hgs⟩ := bits_own hown (by omega)
    have gc := hgc i' hi
    have gf := hgf i'
    have hst := hgs i' false hi
    have hne : w.heap.size + 1 < g := by omega
    have hSx : SpB (w3.setCell ⟨g, i', none⟩ (.bool false)) w.heap.size pg ps cl A len cap := Blk.set_other (HS2.out.below hb) (by omega) _ _
    have hRx : SpB (w3.setCell ⟨g, i', none⟩ (.bool false)) (w.heap.size + 1) 0 0 0 none 0 0 := Blk.set_other (HR2.out.below hb) (by omega) _ _
    have HBx := Lib.hid ((bel_next HB2.out hb (Nat.le_refl _)).setCell (p := ⟨g, i', none⟩) (by show w.heap.size ≤ g; omega) (.bool false))
    have HRd := Lib.hid (RdAt.of_own hst)
    obtain ⟨w4, hw4⟩ : ∃ w4, w3.setCell ⟨g, i', none⟩ (.bool false) = w4 := ⟨_, rfl⟩
    obtain ⟨s0, s1, s2, s3⟩ := (HS2.out.below hb).cells
    rw [hw4] at HRd HBx hSx hRx
    have HSx := Lib.hid hSx
    have HRx := Lib.hid hRx
    obtain ⟨t0, t1, t2, t3⟩ := hSx.cells
    clear hb hown hok hgc hgf hgs hst hSx hRx
    have hfo : Hid (∀ j, perN cl ≤ j → put f i' false j = false) := Lib.hid fun j hj => by unfold put; rw [if_neg (by omega)]; exact HG.out.live.2 j hj
    go_wp2_with fail
    refine (with15_calls pg ps cl A len cap _ _ (perN cl) cb _ HRd.out (by omega) hfo.out).mono ?_
    rintro e w6 ⟨A', cap', rfl, hW6, hb6, hA6⟩
    have HA6 := Lib.hid (show ∀ x o, A' = some ⟨x, o, none⟩ → w.heap.size ≤ x from fun x o he => Nat.le_trans HBx.out.size (hA6 x o he))
    obtain ⟨e0, e1, e2, e3⟩ := (HRx.out.below hb6).free
    obtain ⟨q0, q1, q2, q3⟩ := (HRx.out.below hb6).cells
    have HW6 := Lib.hid (hW6.store (HRx.out.below hb6))
    have HB6 := Lib.hid (bel_next HBx.out hb6 (Nat.le_refl _))
    clear hW6 hA6 hb6 hw4
    go_wp2
    refine bodyPost_ret (v := .tuple #[spV pg ps cl A' (wn (perN cl)) cap', .int .i64 0]) (by simp [spV, results, Tryz.results41, go_sem, q0, q1, q2, q3]) rfl ?_
    refine ⟨below4 HB6.out (by omega) _ _ _ _, .inr ⟨i', A', cap', by rw [HL.out], hi, HFi.out, by have := HXe.out; omega, ?_⟩⟩
    rw [HL.out]
    exact ⟨HW6.out _ _ _ _, HA6.out⟩
  · have HN := Lib.hid (hwh.not_at z1 (.inr hu))
    have hux : (x - u != x) = true := by rw [bne_iff_ne]; omega
    clear hwh hu
    go_wp2
    refine bodyPost_ret (v := .tuple #[spV 0 0 0 none 0 0, .int .i64 17]) (by simp [spV, results, Tryz.results41, go_sem, q0, q1, q2, q3]) rfl ?_
    exact ⟨below4 HB2.out (by omega) _ _ _ _, .inl ⟨rfl, HN.out⟩⟩

set_option maxHeartbeats 8000000 in
set_option maxRecDepth 8000 in
theorem take15r_calls (pg ps cl : Int) (A : Option Addr) (len cap : Nat) (f : Nat → Bool) (w : World) (hg : Good pg ps cl len f) (h : WordsAt w A len f) :
    Calls Tryz.prog 35 #[spV pg ps cl A len cap] w (TakeF pg ps cl len f w) := by
  obtain ⟨w1, hw1, hS, hR, hB⟩ := two_spans w pg ps cl A len cap
  have HG := Lib.hid hg
  have HI := Lib.hid hg.i64
  have HB := Lib.hid hB
  have HS := Lib.hid hS
  have HR := Lib.hid hR
  have HW := Lib.hid (h.below hB)
  have hl2 := hR.lt
  obtain ⟨s0, s1, s2, s3⟩ := HS.out.cells
  obtain ⟨z0, z1, z2, z3, z4, z5⟩ := hg.size
  have p1 := hg.p1
  have p2 := hg.p2
  have p3 := hg.p3
  have HL := Lib.hid hg.live.1
  have HZ5 := Lib.hid z5
  have HZ := Lib.hid z0
  clear h hg hS hR hB z0 z5
  unfold spV
  go_enter Tryz.func35, Tryz.ntmps35
  go_wp2_with fail
  refine (bits15_calls pg ps cl A len cap f _ HI.out.2.2 HW.out).mono ?_
  rintro e w2 ⟨hb, ⟨hno, rfl⟩ | ⟨v, hok, rfl, hown⟩⟩
  · exact absurd HG.out.live hno
  obtain ⟨B, cb, hv⟩ := ownsRow_slice hown
  subst hv
  obtain ⟨g, rfl, hg1, hg2, hgc, hgf, hgs⟩ := bits_own hown (by omega)
  have HGc := Lib.hid hgc
  have HGf := Lib.hid hgf
  have HGs := Lib.hid hgs
  have HB2 := Lib.hid (bel_next HB.out hb (Nat.le_refl _))
  have HS2 := Lib.hid (HS.out.below hb)
  have HR2 := Lib.hid (HR.out.below hb)
  obtain ⟨e0, e1, e2, e3⟩ := HR2.out.free
  obtain ⟨q0, q1, q2, q3⟩ := HR2.out.cells
  have hne : w.heap.size + 1 < g := by omega
  clear hw1 hb hown hok hgc hgf hgs
  go_wp2_with fail
  go_loopg [7] (perN cl) (fun q i wr => ∃ j : Nat, q + j = perN cl ∧ i = .int .i64 j ∧ w2 = wr ∧ Hid (∀ i, i < j → f i = true))
  case atStart => exact ⟨0, by omega, rfl, rfl, Lib.hid (fun i h => by omega)⟩
  case round =>
    obtain ⟨j, hj, rfl, rfl, hall⟩ := hrel
    obtain ⟨s0, s1, s2, s3⟩ := HS2.out.cells
    by_cases hlt : j < perN cl
    · have gc := HGc.out j hlt
      have gf := HGf.out j
      cases hf : f j
      · rw [hf] at gc
        have HF := Lib.hid hf
        have hst := HGs.out j true hlt
        have hSx : SpB (w2.setCell ⟨g, j, none⟩ (.bool true)) w.heap.size pg ps cl A len cap := Blk.set_other HS2.out (by omega) _ _
        have hRx : SpB (w2.setCell ⟨g, j, none⟩ (.bool true)) (w.heap.size + 1) 0 0 0 none 0 0 := Blk.set_other HR2.out (by omega) _ _
        have hBx := HB2.out.setCell (p := ⟨g, j, none⟩) (by show w.heap.size ≤ g; omega) (.bool true)
        obtain ⟨w4, hw4⟩ : ∃ w4, w2.setCell ⟨g, j, none⟩ (.bool true) = w4 := ⟨_, rfl⟩
        rw [hw4] at hst hSx hRx hBx
        have HRd := Lib.hid (show RdAt w4.drew (some ⟨g, 0, none⟩) (perN cl) (fnV (perN cl) fun i => .bool (put f j true i)) from RdAt.of_own hst)
        have HSd := Lib.hid (show SpB w4.drew w.heap.size pg ps cl A len cap from hSx)
        have HRr := Lib.hid (show SpB w4.drew (w.heap.size + 1) 0 0 0 none 0 0 from hRx)
        have HBd := Lib.hid (show Below w.heap.size w w4.drew from hBx.drew)
        obtain ⟨t0, t1, t2, t3⟩ := hSx.cells
        have hfo : Hid (∀ i, perN cl ≤ i → put f j true i = false) := Lib.hid fun i hi => by unfold put; rw [if_neg (by omega)]; exact HG.out.live.2 i hi
        have h5 : (j + 1) * sizN cl ps ≤ perN cl * sizN cl ps := Nat.mul_le_mul_right _ hlt
        rw [Nat.add_mul, Nat.one_mul] at h5
        have h6 := HZ5.out
        obtain ⟨m, hm⟩ : ∃ m, j * sizN cl ps = m := ⟨_, rfl⟩
        have hmi : (j : Int) * (sizN cl ps : Int) = (m : Int) := by rw [← hm]; simp
        have hm7 : m ≤ 2097152 := by omega
        have HM := Lib.hid hm
        clear hf hst hSx hRx hBx h5 h6 hm
        go_wp2_with fail
        clear hw4
        go_region_with (first | (go_at_call 70; refine (with15_calls pg ps cl A len cap _ _ (perN cl) cb _ HRd.out (by omega) hfo.out).mono ?_; rintro e w6 ⟨A', cap', rfl, hW6, hb, hA6⟩; have HA6 := Lib.hid (show ∀ x o, A' = some ⟨x, o, none⟩ → w.heap.size ≤ x from fun x o he => Nat.le_trans HBd.out.size (hA6 x o he)); obtain ⟨s0, s1, s2, s3⟩ := (HSd.out.below hb).cells; obtain ⟨e0, e1, e2, e3⟩ := (HRr.out.below hb).free; obtain ⟨q0, q1, q2, q3⟩ := (HRr.out.below hb).cells; have HBd := Lib.hid (bel_next HBd.out hb (Nat.le_refl _)); have HSd := Lib.hid (HSd.out.below hb); have HRr := Lib.hid (HRr.out.below hb); have HW6 := Lib.hid hW6; clear hb hW6 hA6) | (go_at_call 47; refine (size15_calls pg ps cl A len cap _ HI.out.2.1 HI.out.2.2).mono ?_; rintro e w5 ⟨rfl, hb⟩; rw [HZ.out]; obtain ⟨s0, s1, s2, s3⟩ := (HSd.out.below hb).cells; obtain ⟨e0, e1, e2, e3⟩ := (HRr.out.below hb).free; obtain ⟨q0, q1, q2, q3⟩ := (HRr.out.below hb).cells; have HBd := Lib.hid (bel_next HBd.out hb (Nat.le_refl _)); have HSd := Lib.hid (HSd.out.below hb); have HRr := Lib.hid (HRr.out.below hb); have HW6 := Lib.hid (HW6.out.below hb); clear hb))
        all_goals
          have hval : IntKind.i64.wrap (IntKind.i64.wrap (512 * pg) + IntKind.i64.wrap (m : Int)) = 512 * pg + ((j * sizN cl ps : Nat) : Int) := by
            rw [HM.out, IntWalk.i64_in (512 * pg) (by omega), IntWalk.i64_in (m : Int) (by omega), IntWalk.i64_in _ (by omega)]
          rw [hval]
          clear hval
          go_wp2
          refine bodyPost_ret (v := .tuple #[spV pg ps cl A' (wn (perN cl)) cap', .int .i64 (512 * pg + ((j * sizN cl ps : Nat) : Int)), .int .i64 0]) (by simp [spV, results, Tryz.results35, go_sem, q0, q1, q2, q3]) rfl ?_
          refine ⟨below4 HBd.out (by omega) _ _ _ _, .inr ⟨j, A', cap', by rw [HL.out], hlt, HF.out, hall.out, ?_⟩⟩
          rw [HL.out]
          exact ⟨HW6.out.store HRr.out _ _ _ _, HA6.out⟩
      · rw [hf] at gc
        have HF := Lib.hid hf
        clear hf
        go_wp2
        go_roundg (perN cl - (j + 1))
        case measure => omega
        case rel => exact ⟨j + 1, by omega, by go_num, rfl, Lib.hid (fun i hi => by by_cases h : i = j; rw [h]; exact HF.out; exact hall.out i (by omega))⟩
    · have hjP : j = perN cl := by omega
      go_wp2
      refine bodyPost_ret (v := .tuple #[spV 0 0 0 none 0 0, .int .i64 0, .int .i64 12]) (by simp [spV, results, Tryz.results35, go_sem, q0, q1, q2, q3]) rfl ?_
      exact ⟨below4 HB2.out (by omega) _ _ _ _, .inl ⟨rfl, by rw [← hjP]; exact hall.out⟩⟩
end Go.Proofs.YtadbbknllakpcaaGreat
