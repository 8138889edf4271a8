/- The document's spans (mothballref15): Bits, live, Size, With, Same. -/
import Derived.Test.YtakcdkcikopoiaaSpnW
import Derived.Test.YtakcdkcikopoiaaSpnA
import Derived.Deep.DeepCutAuto
import Derived.Deep.CutBlock
namespace Go.Proofs.Ytakcdkcikopoiaa
open Go.RowKit
set_option linter.unusedVariables false

/-- What Bits answers. -/
def BitsR (cl : Int) (len : Nat) (f : Nat → Bool) (w : World) (e : Ending) (w' : World) : Prop :=
  Below w.heap.size w w' ∧ ((¬ LiveOk (perN cl) len f ∧ e = .returned (.tuple #[.slice none 0 0, .bool false])) ∨
    ∃ v, LiveOk (perN cl) len f ∧ e = .returned (.tuple #[v, .bool true]) ∧ w'.ownsRow w.heap.size 4 1 v (perN cl) (fnV (perN cl) fun i => .bool (f i)))
theorem fnV_snoc (n : Nat) (g : Nat → Value) : fnV n g ++ [g n] = fnV (n + 1) g := by unfold fnV; rw [List.range_succ, List.map_append]; rfl
set_option maxHeartbeats 2000000 in
set_option maxRecDepth 8000 in
theorem bits15_calls (pg ps cl : Int) (A : Option Addr) (len cap : Nat) (f : Nat → Bool) (w : World) (hc : I64 cl) (h : WordsAt w A len f) :
    Calls Try.prog 21 #[spV pg ps cl A len cap] w (BitsR cl len f w) := by
  obtain ⟨i0, hi, hz0, hz1, hz2⟩ := info_parts Try.info_bool
  obtain ⟨w1, hw1, hS, hB⟩ := one_span w pg ps cl A len cap
  have HB := Lib.hid hB
  have HS := Lib.hid hS
  have HW := Lib.hid (h.below hB)
  have hl9 := h.2.2
  obtain ⟨s0, s1, s2, s3⟩ := hS.cells
  have hPle := perN_le cl
  have hPc := perN_cast cl
  unfold I64 at hc
  obtain ⟨P, hP⟩ : ∃ P, perN cl = P := ⟨_, rfl⟩
  rw [hP] at hPle hPc
  have HP := Lib.hid hP
  clear h hS hB hP
  unfold spV
  have hper : (cl = 255 ∧ P = 1) ∨ (cl ≠ 255 ∧ perL cl = P) := by
    by_cases h : cl = 255
    · refine .inl ⟨h, ?_⟩
      have : perS cl = 1 := by rw [h]; rfl
      omega
    · exact .inr ⟨h, by rw [← hPc]; exact (if_neg h).symm⟩
  have hwn : (P + 63) / 64 = wn P := rfl
  go_enter Try.func21, Try.ntmps21
  go_wp2_with fail
  refine (rper_calls cl _ hc.1 hc.2).mono ?_
  rintro e w2 ⟨rfl, hb⟩
  have HB2 := Lib.hid (bel_next HB.out hb (Nat.le_refl _))
  have HS2 := Lib.hid (HS.out.below hb)
  have HW2 := Lib.hid (HW.out.below hb)
  obtain ⟨s0, s1, s2, s3⟩ := HS2.out.cells
  clear hb hw1
  go_upto_if 13 with fail
  go_cut [4] (fun v wx => v = .int .i64 P ∧ wx = w2)
  case first =>
    rcases hper with ⟨rfl, rfl⟩ | ⟨hc1, hpl⟩
    · go_wp2
      go_meet
      case rel => exact ⟨rfl, rfl⟩
    · have hcb : (cl == 255) = false := by simpa using hc1
      clear hc1
      rw [hpl]
      go_wp2
      go_meet
      case rel => exact ⟨rfl, rfl⟩
  case rest =>
    obtain ⟨rfl, rfl⟩ := hcut
    clear hper
    by_cases hl : len = wn P
    · have hlb : ((len : Int) != ((P : Int) + 63) / 64) = false := by rw [bne_eq_false_iff_eq]; unfold wn at hl; omega
      have hlen : len ≤ 1 := by unfold wn at hl; omega
      have HL := Lib.hid hl
      clear hl hwn
      go_wp2_with fail
      go_loopg [5, 6, 7] (64 * len) (fun q v i s wr => ∃ j : Nat, q + j = 64 * len ∧ i = .int .i64 j ∧ wr.ownsRow wc.heap.size 4 1 v (min j P) (fnV (min j P) fun i => .bool (f i)) ∧ Below wc.heap.size wc wr ∧ Hid (∀ i, P ≤ i → i < j → f i = false))
      case atStart => exact ⟨0, by omega, rfl, by simpa [fnV] using World.ownsRow_nil _ _ _ _, Below.refl _ _, Lib.hid (fun i _ h => by omega)⟩
      case round =>
        obtain ⟨j, hj, rfl, hown, hbc, hall⟩ := hrel
        have HO := Lib.hid hown
        have HBc := Lib.hid hbc
        obtain ⟨s0, s1, s2, s3⟩ := (HS2.out.below hbc).cells
        have hw := HW2.out.below hbc
        have hsz := hbc.size
        clear hown hbc
        by_cases hlt : j < 64 * len
        · obtain ⟨bb, oo, rfl, hlb2, hcc⟩ := hw.1.resolve_left (by omega)
          have hk : j / 64 < len := by omega
          have hx := hcc (j / 64) _ (wdV_at len f (j / 64) hk)
          have hbit := wd_bit f j
          obtain ⟨k, hkk⟩ : ∃ k, j / 64 = k := ⟨_, rfl⟩
          obtain ⟨t, htt⟩ : ∃ t, j % 64 = t := ⟨_, rfl⟩
          have hki : (j : Int) / 64 = (k : Int) := by omega
          have hti : (j : Int) % 64 = (t : Int) := by omega
          rw [hkk] at hx hk hbit
          rw [htt] at hbit
          have hwl := wd_lt f k
          generalize wd f k = x at *
          have htest : (((x : Int) / 2 ^ t).tmod 2 == 1) = f j := by
            rw [Int.tmod_eq_emod_of_nonneg (by have := pow_cast t; have := pow_pos2 t; exact Int.ediv_nonneg (by omega) (by omega)), show ((x : Int) / 2 ^ t % 2) = ((x / 2 ^ t % 2 : Nat) : Int) by simp, hbit]
            cases f j <;> rfl
          have HHk := Lib.hid hkk
          clear hcc hw hbit hkk htt
          by_cases hjP : j < P
          · have hm1 : min j P = j := by omega
            have hm2 : min (j + 1) P = j + 1 := by omega
            rw [hm1] at HO
            have HM2 := Lib.hid hm2
            clear hm1 hm2
            go_wp2_with (at_builtin; refine wpList_append_one rfl (.tmp 43) (.tmp 45) 46 rfl wc.heap.size 4 i0 _ 1 Try.underlying46 hi hz0 hz1 hz2 rfl _ _ _ rfl HO.out rfl rfl (by omega) (by unfold maxLen; omega) (by omega) ?_; intro v1 w5 hown1 hgr1 hnew1)
            rw [fnV_snoc] at hown1
            go_roundg (64 * len - (j + 1))
            case measure => omega
            case rel => exact ⟨j + 1, by omega, by go_num, by rw [HM2.out]; exact hown1, HBc.out.grown hgr1 hsz (fun k hk => (HO.out.lt k hk).1), Lib.hid (fun i h1 h2 => by omega)⟩
          · have hm1 : min j P = P := by omega
            have hm2 : min (j + 1) P = P := by omega
            rw [hm1] at HO
            have HM2 := Lib.hid hm2
            clear hm1 hm2
            have hjP' : P ≤ j := by omega
            clear hjP
            cases hf : f j
            · rw [hf] at htest
              have HF := Lib.hid hf
              clear hf
              go_wp2
              go_roundg (64 * len - (j + 1))
              case measure => omega
              case rel => exact ⟨j + 1, by omega, by go_num, by rw [HM2.out]; exact HO.out, HBc.out, Lib.hid (fun i h1 h2 => by by_cases h : i = j; rw [h]; exact HF.out; exact hall.out i h1 (by omega))⟩
            · rw [hf] at htest
              have HF := Lib.hid hf
              clear hf
              go_wp2
              go_ret2
              exact ⟨bel_next HB2.out HBc.out (Nat.le_refl _), .inl ⟨fun h => (by have h2 := h.2 j (by rw [HP.out]; exact hjP'); rw [HF.out] at h2; cases h2), rfl⟩⟩
        · obtain rfl : j = 64 * len := by omega
          have hm1 : min (64 * len) P = P := by have := HL.out; unfold wn at this; omega
          rw [hm1] at HO
          have HF := Lib.hid hw.2.1
          clear hw hm1
          go_wp2
          go_ret2
          refine ⟨bel_next HB2.out HBc.out (Nat.le_refl _), .inr ⟨_, ⟨by rw [HP.out]; exact HL.out, fun i hi => ?_⟩, rfl, ?_⟩⟩
          · rw [HP.out] at hi
            by_cases h : i < 64 * len
            · exact hall.out i hi h
            · exact HF.out i (by omega)
          · rw [HP.out]; exact ownsRow_base HO.out HB2.out.size
    · have hlb : ((len : Int) != ((P : Int) + 63) / 64) = true := by rw [bne_iff_ne]; unfold wn at hl; omega
      have HL := Lib.hid (show ¬ LiveOk (perN cl) len f by rw [HP.out]; exact fun h => hl h.1)
      clear hl hwn
      go_wp2
      go_ret2
      exact ⟨HB2.out, .inl ⟨HL.out, rfl⟩⟩

set_option maxHeartbeats 1000000 in
theorem live15_calls (w : World) (A : Option Addr) (n cap : Nat) (f : Nat → Bool) (h : RdAt w A n (fnV n fun i => .bool (f i))) (hn : n ≤ 1000000) :
    Calls Try.prog 36 #[.slice A n cap] w fun e w' => e = .returned (.int .i64 (cntF f n : Nat)) ∧ w = w' := by
  have HA := Lib.hid h
  clear h
  go_enter Try.func36, Try.ntmps36
  go_wp2_with fail
  go_loopg [3, 4] n (fun q c i wr => ∃ j : Nat, q + j = n ∧ i = .int .i64 j ∧ c = .int .i64 (cntF f j : Nat) ∧ w = wr)
  case atStart => exact ⟨0, by omega, rfl, rfl, rfl⟩
  case round =>
    obtain ⟨j, hj, rfl, rfl, rfl⟩ := hrel
    by_cases hlt : j < n
    · obtain ⟨b, o, rfl, hl, hc⟩ := HA.out.resolve_left (by omega)
      have hx := hc j _ (fnV_at n _ j hlt)
      have hle := cntF_le f j
      have hs : cntF f (j + 1) = cntF f j + if f j then 1 else 0 := rfl
      obtain ⟨c, hc2⟩ : ∃ c, cntF f j = c := ⟨_, rfl⟩
      rw [hc2] at hle hs ⊢
      have HS := Lib.hid hs
      clear hc hc2 hs
      cases hf : f j
      · rw [hf] at hx
        have hs2 := HS.out
        rw [hf] at hs2
        have HS2 := Lib.hid hs2
        clear hf hs2 HS
        go_wp2
        go_roundg (n - (j + 1))
        case measure => omega
        case rel => exact ⟨j + 1, by omega, by go_num, by rw [HS2.out]; simp, rfl⟩
      · rw [hf] at hx
        have hs2 := HS.out
        rw [hf] at hs2
        have HS2 := Lib.hid hs2
        clear hf hs2 HS
        go_wp2
        go_roundg (n - (j + 1))
        case measure => omega
        case rel => exact ⟨j + 1, by omega, by go_num, by rw [HS2.out]; simp, rfl⟩
    · obtain rfl : j = n := by omega
      go_wp2
      go_ret
      exact ⟨rfl, rfl⟩

set_option maxHeartbeats 1000000 in
theorem size15_calls (pg ps cl : Int) (A : Option Addr) (len cap : Nat) (w : World) (hp : I64 ps) (hc : I64 cl) :
    Calls Try.prog 37 #[spV pg ps cl A len cap] w fun e w' => e = .returned (.int .i64 (sizeS cl ps)) ∧ Below w.heap.size w w' := by
  obtain ⟨w1, hw1, hS, hB⟩ := one_span w pg ps cl A len cap
  have HB := Lib.hid hB
  obtain ⟨s0, s1, s2, s3⟩ := hS.cells
  unfold I64 at hp hc
  clear hS hB
  unfold spV
  by_cases h : cl = 255
  · subst h
    have HE := Lib.hid (show sizeS 255 ps = wrap64 (512 * ps) by unfold sizeS; rw [if_pos rfl, Int.mul_comm])
    go_enter Try.func37, Try.ntmps37
    go_wp2
    go_ret
    exact ⟨ret_eq HE.out.symm, HB.out⟩
  · have hcb : (cl == 255) = false := by simpa using h
    have HE := Lib.hid (show sizeS cl ps = sizeL cl from if_neg h)
    clear h
    go_enter Try.func37, Try.ntmps37
    go_wp2_with fail
    refine (rsize_calls cl _ hc.1 hc.2).mono ?_
    rintro e w2 ⟨rfl, hb⟩
    have HB2 := Lib.hid (bel_next HB.out hb (Nat.le_refl _))
    clear hb
    go_wp2
    go_ret
    exact ⟨ret_eq HE.out.symm, HB2.out⟩

set_option maxHeartbeats 1000000 in
theorem with15_calls (pg ps cl : Int) (A : Option Addr) (len cap : Nat) (w : World) (B : Option Addr) (n capb : Nat) (f : Nat → Bool) (h : RdAt w B n (fnV n fun i => .bool (f i))) (hn : n ≤ 65536) (hf : ∀ i, n ≤ i → f i = false) :
    Calls Try.prog 29 #[spV pg ps cl A len cap, .slice B n capb] w fun e w' => ∃ A' cap', e = .returned (.agg #[.int .i64 pg, .int .i64 ps, .int .i64 cl, .slice A' (wn n) cap']) ∧ WordsAt w' A' (wn n) f ∧ Below w.heap.size w w' ∧ ∀ x o, A' = some ⟨x, o, none⟩ → w.heap.size ≤ x := by
  obtain ⟨w1, hw1, hS, hR, hB⟩ := two_spans w pg ps cl A len cap
  have hR8 : R8G (w1.alloc (.cells #[.slice B n capb] 79)) w1.heap.size B n capb f := ⟨Blk.new w1 _ _, (h.below hB).alloc _, hf, hn⟩
  have hB1 := hB.alloc hB.size (.cells #[.slice B n capb] 79)
  have HS1 := Lib.hid (SpB.below hS ((Below.refl _ _).alloc (Nat.le_refl _) (.cells #[.slice B n capb] 79)))
  have HR1 := Lib.hid (SpB.below hR ((Below.refl _ _).alloc (Nat.le_refl _) (.cells #[.slice B n capb] 79)))
  have HR8 := Lib.hid hR8
  have HB1 := Lib.hid hB1
  have HF := Lib.hid hf
  have hl2 := hR.lt
  have hsz : (w1.alloc (.cells #[.slice B n capb] 79)).heap.size = w1.heap.size + 1 := by simp
  have hbs := hB.size
  clear h hS hR hB hR8 hB1 hf
  unfold spV
  go_enter Try.func29, Try.ntmps29
  go_wp2_with fail
  refine (words8_calls _ _ B n capb f HR8.out).mono ?_
  rintro e w2 ⟨v, rfl, hown, hb⟩
  obtain ⟨A', cap', rfl⟩ := ownsRow_slice hown
  have hW : WordsAt w2 A' (wn n) f := ⟨RdAt.of_own hown, fun i hi => HF.out i (by unfold wn at hi; omega), by unfold wn; omega⟩
  have HA : Hid (∀ x o, A' = some ⟨x, o, none⟩ → w1.heap.size + 1 ≤ x) := Lib.hid fun x o he => by
    subst he
    rw [← hsz]
    exact (hown.lt x rfl).1
  have HW := Lib.hid hW
  have HB2 := Lib.hid (bel_next HB1.out hb (Nat.le_refl _))
  have HS2 := Lib.hid (HS1.out.below hb)
  have HR2 := Lib.hid (HR1.out.below hb)
  obtain ⟨s0, s1, s2, s3⟩ := HS2.out.cells
  obtain ⟨q0, q1, q2, q3⟩ := HR2.out.cells
  obtain ⟨e0, e1, e2, e3⟩ := HR2.out.free
  have d3 := HS2.out.free.2.2.2
  clear hown hb hW hw1
  go_wp2
  refine bodyPost_ret (v := spV pg ps cl A' (wn n) cap') (by simp [spV, results, Try.results29, go_sem, q0, q1, q2, q3]) rfl ⟨A', cap', rfl, ?_, ?_, fun x o he => by have := HA.out x o he; omega⟩
  · refine WordsAt.set4 ?_ (fun x o he => by have := HA.out x o he; omega) _ _ _ _
    refine ⟨?_, HW.out.2⟩
    rcases HW.out.1 with h1 | ⟨b1, o1, rfl, hl, hc⟩
    · exact .inl h1
    · have hne := HA.out b1 o1 rfl
      refine .inr ⟨b1, o1, rfl, by simpa [World.setCell] using hl, fun i u hu => ?_⟩
      rw [← hc i u hu]
      simp [go_sem]
  · exact below4 (HB2.out.setCell (p := ⟨w.heap.size, 3, none⟩) (Nat.le_refl _) _) (by omega) _ _ _ _

set_option maxHeartbeats 1000000 in
theorem same15_calls (pg ps cl : Int) (A B : Option Addr) (len ca cb : Nat) (f : Nat → Bool) (w : World) (hA : WordsAt w A len f) (hB : WordsAt w B len f) :
    Calls Try.prog 13 #[spV pg ps cl A len ca, spV pg ps cl B len cb] w fun e w' => e = .returned (.bool true) ∧ Below w.heap.size w w' := by
  obtain ⟨w1, hw1, hS1, hB1⟩ := one_span w pg ps cl A len ca
  obtain ⟨w2, hw2, hS2, hB2⟩ := one_span w1 pg ps cl B len cb
  have hsz : w1.heap.size = w.heap.size + 1 := by rw [← hw1]; simp
  have HB := Lib.hid (bel_next hB1 hB2 (Nat.le_refl _))
  have HA := Lib.hid ((hA.below hB1).below hB2)
  have HBb := Lib.hid ((hB.below hB1).below hB2)
  obtain ⟨s0, s1, s2, s3⟩ := (SpB.below hS1 hB2).cells
  obtain ⟨t0, t1, t2, t3⟩ := hS2.cells
  clear hS1 hS2 hB1 hB2 hA hB hsz
  unfold spV
  go_enter Try.func13, Try.ntmps13
  go_wp2_with fail
  refine (same8_yes _ A B len ca cb f HA.out.1 HBb.out.1 HA.out.2.2).mono ?_
  rintro e w3 ⟨rfl, hb⟩
  have HB3 := Lib.hid (bel_next HB.out hb (Nat.le_refl _))
  clear hb
  go_wp2
  go_ret
  exact ⟨rfl, HB3.out⟩
end Go.Proofs.Ytakcdkcikopoiaa
