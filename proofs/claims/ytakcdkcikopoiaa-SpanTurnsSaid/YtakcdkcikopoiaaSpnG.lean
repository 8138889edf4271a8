/- The document's spans (mothballref15): Give, Take. -/
import Derived.Test.YtakcdkcikopoiaaSpnF
import Derived.Deep.AppendLies
import Derived.Laws.OwnMore
namespace Go.Proofs.Ytakcdkcikopoiaa
open Go.RowKit
set_option linter.unusedVariables false

/-- A row of bits of the call's own, and one of them stored. -/
theorem bits_own {w : World} {base P cb : Nat} {B : Option Addr} {f : Nat → Bool} (h : w.ownsRow base 4 1 (.slice B P cb) P (fnV P fun i => .bool (f i))) (hP : 0 < P) :
    ∃ g, B = some ⟨g, 0, none⟩ ∧ base ≤ g ∧ g < w.heap.size ∧ (∀ i, i < P → w.cell? ⟨g, i, none⟩ = some (.bool (f i))) ∧ (∀ i, w.frozen? ⟨g, i, none⟩ = false) ∧
      ∀ i s, i < P → (w.setCell ⟨g, i, none⟩ (.bool s)).ownsRow base 4 1 (.slice B P cb) P (fnV P fun j => .bool (put f i s j)) := by
  obtain ⟨g, hB, h1, h2, hc⟩ := (ownsRow_rd h).resolve_left (by omega)
  subst hB
  refine ⟨g, rfl, h1, h2, fun i hi => hc i _ (fnV_at P _ i hi), fun i => h.frozenAt i, fun i s hi => ?_⟩
  have := (h.stored i (.bool s)).1
  rw [fnV_set] at this
  have e : (fun j => if j = i then Value.bool s else Value.bool (f j)) = (fun j => Value.bool (put f i s j)) := funext fun j => by unfold put; split <;> rfl
  rw [e] at this
  exact this
set_option maxHeartbeats 2000000 in
theorem give15r_calls (pg ps cl : Int) (A : Option Addr) (len cap : Nat) (f : Nat → Bool) (x : Int) (w : World) (hg : Good pg ps cl len f) (hx : I64 x) (h : WordsAt w A len f) :
    Calls Try.prog 17 #[spV pg ps cl A len cap, .int .i64 x] w (GiveR pg ps cl len f x w) := by
  obtain ⟨w1, hw1, hS, hR, hB⟩ := two_spans w pg ps cl A len cap
  have HG := Lib.hid hg
  have HX := Lib.hid hx
  have HI := Lib.hid hg.i64
  have HB := Lib.hid hB
  have HS := Lib.hid hS
  have HR := Lib.hid hR
  have HW := Lib.hid (h.below hB)
  have hl2 := hR.lt
  obtain ⟨s0, s1, s2, s3⟩ := HS.out.cells
  obtain ⟨z0, z1, z2, z3, z4, z5⟩ := hg.size
  have p1 := hg.p1
  have p2 := hg.p2
  have p3 := hg.p3
  have HL := Lib.hid hg.live.1
  have HZ5 := Lib.hid z5
  unfold I64 at hx
  clear h hg hS hR hB z0 z5
  unfold spV
  go_enter Try.func17, Try.ntmps17
  go_wp2_with fail
  refine (find15r_calls pg ps cl A len cap f x _ HG.out HX.out HW.out).mono ?_
  rintro e w2 ⟨hb, hcs⟩
  have HB2 := Lib.hid (bel_next HB.out hb (Nat.le_refl _))
  have HS2 := Lib.hid (HS.out.below hb)
  have HR2 := Lib.hid (HR.out.below hb)
  have HW2 := Lib.hid (HW.out.below hb)
  have hsz := hb.size
  obtain ⟨s0, s1, s2, s3⟩ := HS2.out.cells
  obtain ⟨e0, e1, e2, e3⟩ := HR2.out.free
  obtain ⟨q0, q1, q2, q3⟩ := HR2.out.cells
  clear hw1 hb
  rcases hcs with ⟨rfl, hwh⟩ | ⟨i, u, rfl, hwh⟩
  · have HN := Lib.hid (hwh.not_at z1 (.inl rfl))
    clear hwh
    go_wp2
    refine bodyPost_ret (v := .tuple #[spV 0 0 0 none 0 0, .int .i64 17]) (by simp [spV, results, Try.results17, go_sem, q0, q1, q2, q3]) rfl ?_
    exact ⟨below4 HB2.out (by omega) _ _ _ _, .inl ⟨rfl, HN.out⟩⟩
  by_cases hu : u = 0
  · subst hu
    rcases hwh with ⟨h1, _⟩ | ⟨i', hi, hfi, hii, hxe, _, _⟩
    · omega
    obtain rfl : i' = i := by omega
    have HXe := Lib.hid hxe
    have HFi := Lib.hid hfi
    obtain ⟨m, hm⟩ : ∃ m, i' * sizN cl ps = m := ⟨_, rfl⟩
    have hxm : x - 512 * pg = (m : Int) := by rw [hm] at hxe; omega
    have hq : (m : Int) / ((sizN cl ps : Nat) : Int) = (i' : Int) := by
      rw [← hm, Int.natCast_mul, Int.mul_ediv_cancel _ (by omega)]
    have hx0 : (x - 0 != x) = false := by simp
    have HM := Lib.hid hm
    clear hxe hii hm
    go_wp2_with fail
    refine (bits15_calls pg ps cl A len cap f _ HI.out.2.2 HW2.out).mono ?_
    rintro e w3 ⟨hb, ⟨hno, rfl⟩ | ⟨v, hok, rfl, hown⟩⟩
    · exact absurd HG.out.live hno
    obtain ⟨B, cb, hv⟩ := ownsRow_slice hown
    subst hv
    obtain ⟨g, rfl, hg1, hg2, hgc, hgf, hgs⟩ := bits_own hown (by omega)
    have gc := hgc i' hi
    have gf := hgf i'
    have hst := hgs i' false hi
    have hne : w.heap.size + 1 < g := by omega
    have hSx : SpB (w3.setCell ⟨g, i', none⟩ (.bool false)) w.heap.size pg ps cl A len cap := Blk.set_other (HS2.out.below hb) (by omega) _ _
    have hRx : SpB (w3.setCell ⟨g, i', none⟩ (.bool false)) (w.heap.size + 1) 0 0 0 none 0 0 := Blk.set_other (HR2.out.below hb) (by omega) _ _
    have HBx := Lib.hid ((bel_next HB2.out hb (Nat.le_refl _)).setCell (p := ⟨g, i', none⟩) (by show w.heap.size ≤ g; omega) (.bool false))
    have HRd := Lib.hid (RdAt.of_own hst)
    obtain ⟨w4, hw4⟩ : ∃ w4, w3.setCell ⟨g, i', none⟩ (.bool false) = w4 := ⟨_, rfl⟩
    obtain ⟨s0, s1, s2, s3⟩ := (HS2.out.below hb).cells
    rw [hw4] at HRd HBx hSx hRx
    have HSx := Lib.hid hSx
    have HRx := Lib.hid hRx
    obtain ⟨t0, t1, t2, t3⟩ := hSx.cells
    clear hb hown hok hgc hgf hgs hst hSx hRx
    have hfo : Hid (∀ j, perN cl ≤ j → put f i' false j = false) := Lib.hid fun j hj => by unfold put; rw [if_neg (by omega)]; exact HG.out.live.2 j hj
    go_wp2_with fail
    refine (with15_calls pg ps cl A len cap _ _ (perN cl) cb _ HRd.out (by omega) hfo.out).mono ?_
    rintro e w6 ⟨A', cap', rfl, hW6, hb6, hA6⟩
    obtain ⟨e0, e1, e2, e3⟩ := (HRx.out.below hb6).free
    obtain ⟨q0, q1, q2, q3⟩ := (HRx.out.below hb6).cells
    have HW6 := Lib.hid (hW6.store (HRx.out.below hb6))
    have HB6 := Lib.hid (bel_next HBx.out hb6 (Nat.le_refl _))
    clear hW6 hA6 hb6 hw4
    go_wp2
    refine bodyPost_ret (v := .tuple #[spV pg ps cl A' (wn (perN cl)) cap', .int .i64 0]) (by simp [spV, results, Try.results17, go_sem, q0, q1, q2, q3]) rfl ?_
    refine ⟨below4 HB6.out (by omega) _ _ _ _, .inr ⟨i', A', cap', by rw [HL.out], hi, HFi.out, by have := HXe.out; omega, ?_⟩⟩
    rw [HL.out]
    exact HW6.out _ _ _ _
  · have HN := Lib.hid (hwh.not_at z1 (.inr hu))
    have hux : (x - u != x) = true := by rw [bne_iff_ne]; omega
    clear hwh hu
    go_wp2
    refine bodyPost_ret (v := .tuple #[spV 0 0 0 none 0 0, .int .i64 17]) (by simp [spV, results, Try.results17, go_sem, q0, q1, q2, q3]) rfl ?_
    exact ⟨below4 HB2.out (by omega) _ _ _ _, .inl ⟨rfl, HN.out⟩⟩

set_option maxHeartbeats 8000000 in
set_option maxRecDepth 8000 in
theorem take15r_calls (pg ps cl : Int) (A : Option Addr) (len cap : Nat) (f : Nat → Bool) (w : World) (hg : Good pg ps cl len f) (h : WordsAt w A len f) :
    Calls Try.prog 15 #[spV pg ps cl A len cap] w (TakeR pg ps cl len f w) := by
  obtain ⟨w1, hw1, hS, hR, hB⟩ := two_spans w pg ps cl A len cap
  have HG := Lib.hid hg
  have HI := Lib.hid hg.i64
  have HB := Lib.hid hB
  have HS := Lib.hid hS
  have HR := Lib.hid hR
  have HW := Lib.hid (h.below hB)
  have hl2 := hR.lt
  obtain ⟨s0, s1, s2, s3⟩ := HS.out.cells
  obtain ⟨z0, z1, z2, z3, z4, z5⟩ := hg.size
  have p1 := hg.p1
  have p2 := hg.p2
  have p3 := hg.p3
  have HL := Lib.hid hg.live.1
  have HZ5 := Lib.hid z5
  have HZ := Lib.hid z0
  clear h hg hS hR hB z0 z5
  unfold spV
  go_enter Try.func15, Try.ntmps15
  go_wp2_with fail
  refine (bits15_calls pg ps cl A len cap f _ HI.out.2.2 HW.out).mono ?_
  rintro e w2 ⟨hb, ⟨hno, rfl⟩ | ⟨v, hok, rfl, hown⟩⟩
  · exact absurd HG.out.live hno
  obtain ⟨B, cb, hv⟩ := ownsRow_slice hown
  subst hv
  obtain ⟨g, rfl, hg1, hg2, hgc, hgf, hgs⟩ := bits_own hown (by omega)
  have HGc := Lib.hid hgc
  have HGf := Lib.hid hgf
  have HGs := Lib.hid hgs
  have HB2 := Lib.hid (bel_next HB.out hb (Nat.le_refl _))
  have HS2 := Lib.hid (HS.out.below hb)
  have HR2 := Lib.hid (HR.out.below hb)
  obtain ⟨e0, e1, e2, e3⟩ := HR2.out.free
  obtain ⟨q0, q1, q2, q3⟩ := HR2.out.cells
  have hne : w.heap.size + 1 < g := by omega
  clear hw1 hb hown hok hgc hgf hgs
  go_wp2_with fail
  go_loopg [7] (perN cl) (fun q i wr => ∃ j : Nat, q + j = perN cl ∧ i = .int .i64 j ∧ w2 = wr ∧ Hid (∀ i, i < j → f i = true))
  case atStart => exact ⟨0, by omega, rfl, rfl, Lib.hid (fun i h => by omega)⟩
  case round =>
    obtain ⟨j, hj, rfl, rfl, hall⟩ := hrel
    obtain ⟨s0, s1, s2, s3⟩ := HS2.out.cells
    by_cases hlt : j < perN cl
    · have gc := HGc.out j hlt
      have gf := HGf.out j
      cases hf : f j
      · rw [hf] at gc
        have HF := Lib.hid hf
        have hst := HGs.out j true hlt
        have hSx : SpB (w2.setCell ⟨g, j, none⟩ (.bool true)) w.heap.size pg ps cl A len cap := Blk.set_other HS2.out (by omega) _ _
        have hRx : SpB (w2.setCell ⟨g, j, none⟩ (.bool true)) (w.heap.size + 1) 0 0 0 none 0 0 := Blk.set_other HR2.out (by omega) _ _
        have hBx := HB2.out.setCell (p := ⟨g, j, none⟩) (by show w.heap.size ≤ g; omega) (.bool true)
        obtain ⟨w4, hw4⟩ : ∃ w4, w2.setCell ⟨g, j, none⟩ (.bool true) = w4 := ⟨_, rfl⟩
        rw [hw4] at hst hSx hRx hBx
        have HRd := Lib.hid (show RdAt w4.drew (some ⟨g, 0, none⟩) (perN cl) (fnV (perN cl) fun i => .bool (put f j true i)) from RdAt.of_own hst)
        have HSd := Lib.hid (show SpB w4.drew w.heap.size pg ps cl A len cap from hSx)
        have HRr := Lib.hid (show SpB w4.drew (w.heap.size + 1) 0 0 0 none 0 0 from hRx)
        have HBd := Lib.hid (show Below w.heap.size w w4.drew from hBx.drew)
        obtain ⟨t0, t1, t2, t3⟩ := hSx.cells
        have hfo : Hid (∀ i, perN cl ≤ i → put f j true i = false) := Lib.hid fun i hi => by unfold put; rw [if_neg (by omega)]; exact HG.out.live.2 i hi
        have h5 : (j + 1) * sizN cl ps ≤ perN cl * sizN cl ps := Nat.mul_le_mul_right _ hlt
        rw [Nat.add_mul, Nat.one_mul] at h5
        have h6 := HZ5.out
        obtain ⟨m, hm⟩ : ∃ m, j * sizN cl ps = m := ⟨_, rfl⟩
        have hmi : (j : Int) * (sizN cl ps : Int) = (m : Int) := by rw [← hm]; simp
        have hm7 : m ≤ 2097152 := by omega
        have HM := Lib.hid hm
        clear hf hst hSx hRx hBx h5 h6 hm
        go_wp2_with fail
        clear hw4
        go_region_with (first | (go_at_call 29; refine (with15_calls pg ps cl A len cap _ _ (perN cl) cb _ HRd.out (by omega) hfo.out).mono ?_; rintro e w6 ⟨A', cap', rfl, hW6, hb, hA6⟩; obtain ⟨s0, s1, s2, s3⟩ := (HSd.out.below hb).cells; obtain ⟨e0, e1, e2, e3⟩ := (HRr.out.below hb).free; obtain ⟨q0, q1, q2, q3⟩ := (HRr.out.below hb).cells; have HBd := Lib.hid (bel_next HBd.out hb (Nat.le_refl _)); have HSd := Lib.hid (HSd.out.below hb); have HRr := Lib.hid (HRr.out.below hb); have HW6 := Lib.hid hW6; clear hb hW6 hA6) | (go_at_call 37; refine (size15_calls pg ps cl A len cap _ HI.out.2.1 HI.out.2.2).mono ?_; rintro e w5 ⟨rfl, hb⟩; rw [HZ.out]; obtain ⟨s0, s1, s2, s3⟩ := (HSd.out.below hb).cells; obtain ⟨e0, e1, e2, e3⟩ := (HRr.out.below hb).free; obtain ⟨q0, q1, q2, q3⟩ := (HRr.out.below hb).cells; have HBd := Lib.hid (bel_next HBd.out hb (Nat.le_refl _)); have HSd := Lib.hid (HSd.out.below hb); have HRr := Lib.hid (HRr.out.below hb); have HW6 := Lib.hid (HW6.out.below hb); clear hb))
        all_goals
          have hval : IntKind.i64.wrap (IntKind.i64.wrap (512 * pg) + IntKind.i64.wrap (m : Int)) = 512 * pg + ((j * sizN cl ps : Nat) : Int) := by
            rw [HM.out, IntWalk.i64_in (512 * pg) (by omega), IntWalk.i64_in (m : Int) (by omega), IntWalk.i64_in _ (by omega)]
          rw [hval]
          clear hval
          go_wp2
          refine bodyPost_ret (v := .tuple #[spV pg ps cl A' (wn (perN cl)) cap', .int .i64 (512 * pg + ((j * sizN cl ps : Nat) : Int)), .int .i64 0]) (by simp [spV, results, Try.results15, go_sem, q0, q1, q2, q3]) rfl ?_
          refine ⟨below4 HBd.out (by omega) _ _ _ _, .inr ⟨j, A', cap', by rw [HL.out], hlt, HF.out, hall.out, ?_⟩⟩
          rw [HL.out]
          exact HW6.out.store HRr.out _ _ _ _
      · rw [hf] at gc
        have HF := Lib.hid hf
        clear hf
        go_wp2
        go_roundg (perN cl - (j + 1))
        case measure => omega
        case rel => exact ⟨j + 1, by omega, by go_num, rfl, Lib.hid (fun i hi => by by_cases h : i = j; rw [h]; exact HF.out; exact hall.out i (by omega))⟩
    · have hjP : j = perN cl := by omega
      go_wp2
      refine bodyPost_ret (v := .tuple #[spV 0 0 0 none 0 0, .int .i64 0, .int .i64 12]) (by simp [spV, results, Try.results15, go_sem, q0, q1, q2, q3]) rfl ?_
      exact ⟨below4 HB2.out (by omega) _ _ _ _, .inl ⟨rfl, by rw [← hjP]; exact hall.out⟩⟩
end Go.Proofs.Ytakcdkcikopoiaa
