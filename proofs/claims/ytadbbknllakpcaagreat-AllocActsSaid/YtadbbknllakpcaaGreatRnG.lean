/- The walk of runs.Give. -/
import Derived.Test.YtadbbknllakpcaaGreatRnK
import Derived.BigRegion
import Derived.Deep.RegionWith
import Derived.Deep.DeepCutAuto
import Derived.Deep.CutBlock
namespace Go.Proofs.YtadbbknllakpcaaGreat.rn
open Go.RowKit
set_option linter.unusedVariables false

/-- The row ahead of what is given: joined, or apart. -/
def LO (l : List (Nat × Nat)) (x n i a : Nat) (ro : Nat × Nat) : Prop :=
  (a = i ∧ ro = (x, n) ∧ ∀ p, 0 < i → l[i - 1]? = some p → p.1 + p.2 < x) ∨ ∃ p, 0 < i ∧ l[i - 1]? = some p ∧ p.1 + p.2 = x ∧ a = i - 1 ∧ ro = (p.1, p.2 + n)
/-- The row behind it. -/
def RO (l : List (Nat × Nat)) (i b : Nat) (ro ro' : Nat × Nat) : Prop :=
  (b = i ∧ ro' = ro ∧ ∀ p, l[i]? = some p → ro.1 + ro.2 < p.1) ∨ ∃ p, l[i]? = some p ∧ p.1 = ro.1 + ro.2 ∧ b = i + 1 ∧ ro' = (ro.1, ro.2 + p.2)
/-- What Give answers. -/
def GiveR (w : World) (L g : Nat) (l : List (Nat × Nat)) (x n : Int) (e : Ending) (w' : World) : Prop :=
  (thereB x n = false ∧ e = .returned (.int .i64 2) ∧ w = w') ∨
  ∃ x' n' i : Nat, x = x' ∧ n = n' ∧ thereB x n = true ∧ BehR l x i ∧
    ((e = .returned (.int .i64 2) ∧ Below w.heap.size w w' ∧ ((∃ p, 0 < i ∧ l[i - 1]? = some p ∧ x' < p.1 + p.2) ∨ ∃ p, l[i]? = some p ∧ p.1 < x' + n')) ∨
     ∃ a b ro ro', e = .returned (.int .i64 0) ∧ LO l x' n' i a ro ∧ RO l i b ro ro' ∧ LandR w L g (l.take a ++ [ro'] ++ l.drop b) w')
theorem LO.sum {l : List (Nat × Nat)} {x n i a : Nat} {ro : Nat × Nat} (h : LO l x n i a ro) : ro.1 + ro.2 = x + n ∧ a ≤ i := by
  rcases h with ⟨rfl, rfl, _⟩ | ⟨p, _, _, h, rfl, rfl⟩
  · exact ⟨rfl, Nat.le_refl _⟩
  · simp only; omega
def RowB (w : World) (rb : Nat) (ro : Nat × Nat) : Prop := Blk w rb [.int .i64 (ro.1 : Nat), .int .i64 (ro.2 : Nat)] 45
theorem RowB.cells {w : World} {rb : Nat} {ro : Nat × Nat} (h : RowB w rb ro) : (w.cell? ⟨rb, 0, none⟩ = some (.int .i64 (ro.1 : Nat)) ∧ w.cell? ⟨rb, 1, none⟩ = some (.int .i64 (ro.2 : Nat))) ∧ w.frozen? ⟨rb, 0, none⟩ = false ∧ w.frozen? ⟨rb, 1, none⟩ = false :=
  ⟨⟨Blk.cell h 0, Blk.cell h 1⟩, Blk.free h 0, Blk.free h 1⟩
theorem seg_split {l : List (Nat × Nat)} {a b : Nat} (hab : a ≤ b) (hb : b ≤ l.length) : ∃ M, l.take a ++ M ++ l.drop b = l ∧ (l.take a).length = a ∧ a + M.length = b := by
  refine ⟨(l.take b).drop a, ?_, by rw [List.length_take]; omega, by rw [List.length_drop, List.length_take]; omega⟩
  have h : l.take a = (l.take b).take a := by rw [List.take_take]; congr 1; omega
  rw [h, List.take_append_drop, List.take_append_drop]
set_option maxRecDepth 8000 in
set_option maxHeartbeats 8000000 in
theorem give16_calls (w : World) (L g cap : Nat) (l : List (Nat × Nat)) (x n : Int) (hL : LandAt w L g cap l) (hc : Canon l) (hl : l.length ≤ 90000) (hx : -9223372036854775808 ≤ x ∧ x ≤ 9223372036854775807) (hn : -9223372036854775808 ≤ n ∧ n ≤ 9223372036854775807) :
    Calls Tryz.prog 40 #[.pointer (some ⟨L, 0, none⟩), .int .i64 x, .int .i64 n] w (GiveR w L g l x n) := by
  have HL := Lib.hid hL
  have HC := Lib.hid hc
  have hll := hL.lt
  clear hL hc
  cases hth : thereB x n
  · have HT := Lib.hid hth
    go_enter Tryz.func40, Tryz.ntmps40
    go_wp2_with fail
    refine (there_calls x n _ hx hn).mono ?_
    rintro e w1 ⟨rfl, rfl⟩
    rw [HT.out]
    go_wp2
    go_ret
    exact .inl ⟨HT.out, rfl, rfl⟩
  have hth2 : 1 ≤ n ∧ 1 ≤ x ∧ n < 4096 ∧ x ≤ 4096 - n := of_decide_eq_true hth
  have HT := Lib.hid hth
  obtain ⟨x', rfl⟩ : ∃ x' : Nat, x = x' := ⟨x.toNat, by omega⟩
  obtain ⟨n', rfl⟩ : ∃ n' : Nat, n = n' := ⟨n.toNat, by omega⟩
  clear hth hx hn
  go_enter Tryz.func40, Tryz.ntmps40
  go_wp2_with fail
  refine (there_calls x' n' _ (by omega) (by omega)).mono ?_
  rintro e w1 ⟨rfl, rfl⟩
  rw [HT.out]
  go_wp2_with fail
  refine (behind_calls _ L g cap l x' HL.out HC.out (by omega) (by omega)).mono ?_
  rintro e w2 ⟨i, rfl, hbeh, hb⟩
  have HB2 := Lib.hid hb
  have HL2 := Lib.hid (HL.out.below hb)
  have HBe := Lib.hid hbeh
  have hil := hbeh.1
  have hb2s := hb.size
  obtain ⟨w3, hw3⟩ : ∃ w3, w2.alloc (.cells #[.int .i64 (x' : Nat), .int .i64 (n' : Nat)] 45) = w3 := ⟨_, rfl⟩
  have hb23 : Below w2.heap.size w2 w3 := by rw [← hw3]; exact (Below.refl _ _).alloc (Nat.le_refl _) _
  have hR3 : RowB w3 w2.heap.size (x', n') := by rw [← hw3]; exact Blk.new w2 #[.int .i64 (x' : Nat), .int .i64 (n' : Nat)] 45
  have HB3 := Lib.hid (bel_next HB2.out hb23 (Nat.le_refl _))
  have HL3 := Lib.hid (HL2.out.below hb23)
  have HR3 := Lib.hid hR3
  have c0 := HL3.out.head
  have hlt3 := hR3.lt
  clear hb hbeh hb23 hR3
  by_cases hL1 : ∃ p, 0 < i ∧ l[i - 1]? = some p ∧ x' < p.1 + p.2
  · have HE := Lib.hid hL1
    obtain ⟨p, hi0, hp, hpx⟩ := hL1
    obtain ⟨r1, r2⟩ := HL3.out.row hp
    have hpb := HC.out.mem hp
    have hi1 : (i : Int) - 1 = ((i - 1 : Nat) : Int) := by omega
    have hi2 : i - 1 < l.length := by omega
    clear hp
    go_wp2_with fail
    go_quiet (fail)
    go_wp2
    go_ret
    exact .inr ⟨x', n', i, rfl, rfl, HT.out, HBe.out, .inl ⟨rfl, bel_dn HB3.out _, .inl HE.out⟩⟩
  go_upto_if 26 with fail
  go_cut [8] (fun f wx => ∃ a ro, f = .int .i64 (a : Nat) ∧ Hid (LO l x' n' i a ro) ∧ RowB wx w2.heap.size ro ∧ Hid (LandAt wx L g cap l) ∧ Hid (Below w.heap.size w wx))
  case first =>
    by_cases hi0 : 0 < i
    · obtain ⟨p, hp⟩ : ∃ p, l[i - 1]? = some p := ⟨_, List.getElem?_eq_getElem (by omega)⟩
      obtain ⟨r1, r2⟩ := HL3.out.row hp
      have hpb := HC.out.mem hp
      have hpx : ¬ x' < p.1 + p.2 := fun h => hL1 ⟨p, hi0, hp, h⟩
      have hi1 : (i : Int) - 1 = ((i - 1 : Nat) : Int) := by omega
      have hi2 : i - 1 < l.length := by omega
      have HP := Lib.hid hp
      clear hp hL1
      by_cases hpe : p.1 + p.2 = x'
      · have hpe2 : (p.1 : Int) + (p.2 : Int) = (x' : Int) := by omega
        obtain ⟨⟨k0, k1⟩, f0, f1⟩ := HR3.out.cells
        go_wp2_with fail
        go_quiet (fail)
        go_wp2_with fail
        go_region
        go_wp2
        go_meet
        case rel =>
          have hon : Only (· = w2.heap.size) w3 ((((w3.drewN (nq + 1)).setCell ⟨w2.heap.size, 0, none⟩ (.int .i64 p.1)).setCell ⟨w2.heap.size, 1, none⟩ (.int .i64 ((p.2 : Int) + (n' : Int))))) :=
            by have h : Only (· = w2.heap.size) w3 (w3.drewN (nq + 1)) := onl_dn (Only.refl _ _) _; exact (h.set (p := ⟨w2.heap.size, 0, none⟩) (fun _ => rfl) _).set (p := ⟨w2.heap.size, 1, none⟩) (fun _ => rfl) _
          refine ⟨i - 1, (p.1, p.2 + n'), rfl, Lib.hid (.inr ⟨p, hi0, HP.out, hpe, rfl, rfl⟩), ?_, Lib.hid (HL3.out.only hon (by omega) (by omega)), Lib.hid (((bel_dn HB3.out _).setCell (p := ⟨w2.heap.size, 0, none⟩) hb2s _).setCell (p := ⟨w2.heap.size, 1, none⟩) hb2s _)⟩
          have h := Blk.set (Blk.set (w := w3.drewN (nq + 1)) HR3.out 0 (.int .i64 (p.1 : Nat))) 1 (.int .i64 ((p.2 : Int) + (n' : Int)))
          unfold RowB
          rw [show (((p.1, p.2 + n').2 : Nat) : Int) = (p.2 : Int) + (n' : Int) by simp]
          exact h
      · have hpe2 : ((p.1 : Int) + (p.2 : Int) == (x' : Int)) = false := by rw [beq_eq_false_iff_ne]; omega
        have hpl : ¬ (x' : Int) < (p.1 : Int) + (p.2 : Int) := by omega
        go_wp2_with fail
        go_quiet (fail)
        go_wp2
        go_meet
        case rel => exact ⟨i, (x', n'), rfl, Lib.hid (.inl ⟨rfl, rfl, fun q _ hq => by have := HP.out.symm.trans hq; cases this; omega⟩), HR3.out, HL3.out.drewN _ |> Lib.hid, Lib.hid (bel_dn HB3.out _)⟩
    · obtain rfl : i = 0 := by omega
      go_wp2
      go_meet
      case rel => exact ⟨0, (x', n'), rfl, Lib.hid (.inl ⟨rfl, rfl, fun q h _ => by omega⟩), HR3.out, HL3, HB3⟩
  case rest =>
    obtain ⟨a, ro, rfl, hlo, hrb, hla, hbw⟩ := hcut
    have HRb := Lib.hid hrb
    obtain ⟨⟨k0, k1⟩, f0, f1⟩ := hrb.cells
    obtain ⟨hsum, hai⟩ := hlo.out.sum
    have hrlt := Blk.lt hrb
    have c1 := hla.out.head
    clear hrb c0 hL1 HR3 HL3 HB3 hlt3
    by_cases hR1 : ∃ p, l[i]? = some p ∧ p.1 < x' + n'
    · have HE := Lib.hid hR1
      obtain ⟨p, hp, hpx⟩ := hR1
      obtain ⟨r1, r2⟩ := hla.out.row hp
      have hpb := HC.out.mem hp
      have hi2 : i < l.length := (List.getElem?_eq_some_iff.1 hp).1
      clear hp
      go_wp2
      go_ret
      exact .inr ⟨x', n', i, rfl, rfl, HT.out, HBe.out, .inl ⟨rfl, hbw.out, .inr HE.out⟩⟩
    obtain ⟨rb, hrbe⟩ : ∃ rb, w2.heap.size = rb := ⟨_, rfl⟩
    rw [hrbe] at HRb k0 k1 f0 f1 hrlt hb2s ⊢
    go_upto_if 81 with fail
    go_cut [9] (fun t wx => ∃ b ro', t = .int .i64 (b : Nat) ∧ Hid (RO l i b ro ro') ∧ RowB wx rb ro' ∧ Hid (LandAt wx L g cap l) ∧ Hid (Below w.heap.size w wx))
    case first =>
      by_cases hi2 : i < l.length
      · obtain ⟨p, hp⟩ : ∃ p, l[i]? = some p := ⟨_, List.getElem?_eq_getElem hi2⟩
        obtain ⟨r1, r2⟩ := hla.out.row hp
        have hpb := HC.out.mem hp
        have hpx : ¬ p.1 < x' + n' := fun h => hR1 ⟨p, hp, h⟩
        have HP := Lib.hid hp
        clear hp hR1
        by_cases hpe : p.1 = x' + n'
        · have hpe2 : (p.1 : Int) = (x' : Int) + (n' : Int) := by omega
          have hro : ro.2 ≤ 8192 := by omega
          go_wp2_with fail
          go_region
          go_wp2
          go_meet
          case rel =>
            have hon : Only (· = rb) wc (wc.setCell ⟨rb, 1, none⟩ (.int .i64 ((ro.2 : Int) + (p.2 : Int)))).drew := by have h : Only (· = rb) wc wc := Only.refl _ _; exact (h.set (p := ⟨rb, 1, none⟩) (fun _ => rfl) _).drew
            refine ⟨i + 1, (ro.1, ro.2 + p.2), by go_num, Lib.hid (.inr ⟨p, HP.out, by omega, rfl, rfl⟩), ?_, Lib.hid (hla.out.only hon (by omega) (by omega)), Lib.hid (hbw.out.setCell (p := ⟨rb, 1, none⟩) hb2s _).drew⟩
            have h := Blk.set (w := wc) HRb.out 1 (.int .i64 ((ro.2 : Int) + (p.2 : Int)))
            unfold RowB
            rw [show (((ro.1, ro.2 + p.2).2 : Nat) : Int) = (ro.2 : Int) + (p.2 : Int) by simp]
            exact h
        · have hpe2 : ((p.1 : Int) == (x' : Int) + (n' : Int)) = false := by rw [beq_eq_false_iff_ne]; omega
          have hpl : ¬ (p.1 : Int) < (x' : Int) + (n' : Int) := by omega
          go_wp2
          go_meet
          case rel => exact ⟨i, ro, rfl, Lib.hid (.inl ⟨rfl, rfl, fun q hq => by have := HP.out.symm.trans hq; cases this; omega⟩), HRb.out, hla, hbw⟩
      · go_wp2
        go_meet
        case rel => exact ⟨i, ro, rfl, Lib.hid (.inl ⟨rfl, rfl, fun q hq => absurd (List.getElem?_eq_some_iff.1 hq).1 hi2⟩), HRb.out, hla, hbw⟩
    case rest =>
      obtain ⟨b, ro', rfl, hro, hrb, hla, hbw⟩ := hcut
      obtain ⟨⟨k0, k1⟩, f0, f1⟩ := hrb.cells
      have c2 := hla.out.head
      have hbs := hbw.out.size
      have hrb2 := Blk.lt hrb
      have hib : i ≤ b ∧ b ≤ l.length := by
        rcases hro.out with ⟨rfl, _⟩ | ⟨p, hp, _, rfl, _⟩
        · exact ⟨Nat.le_refl _, hil⟩
        · have := (List.getElem?_eq_some_iff.1 hp).1
          omega
      obtain ⟨M, hM, hMa, hMb⟩ := seg_split (l := l) (a := a) (b := b) (by omega) hib.2
      obtain ⟨hne, hLb, cur, hs, ht⟩ := hla.out
      have hlw := hla.out.lt
      obtain ⟨w5, hw5⟩ : ∃ w5, wc.drew.alloc (.cells #[.int .i64 (ro'.1 : Nat), .int .i64 (ro'.2 : Nat)] 45) = w5 := ⟨_, rfl⟩
      have hb5 : Below wc.heap.size wc w5 := by rw [← hw5]; exact (Below.refl _ _).drew.alloc (Nat.le_refl _) _
      have hv5 : Blk w5 wc.heap.size [.int .i64 (ro'.1 : Nat), .int .i64 (ro'.2 : Nat)] 45 := by rw [← hw5]; exact Blk.new wc.drew #[.int .i64 (ro'.1 : Nat), .int .i64 (ro'.2 : Nat)] 45
      have HS5 := Lib.hid (show SlcRow w5 g l.length cap cur from ⟨hs.1.below hb5, hs.2⟩)
      have HL5 := Lib.hid (hLb.below hb5)
      have HV5 := Lib.hid hv5
      have HB5 := Lib.hid (bel_next hbw.out hb5 (Nat.le_refl _))
      have HT5 := Lib.hid ht
      have hX : ∀ cur' : List Value, ∀ tot, tot = (l.take a ++ [ro'] ++ l.drop b).length → cur'.take (tot * 2) = cur.take (a * 2) ++ [.int .i64 (ro'.1 : Nat), .int .i64 (ro'.2 : Nat)] ++ (cur.take (l.length * 2)).drop (b * 2) → cur'.take (tot * 2) = rowsV (l.take a ++ [ro'] ++ l.drop b) := fun cur' tot _ h => by
        rw [h]
        have h2 := repl_rows (cur := cur) (A := l.take a) (M := M) (M' := [ro']) (B := l.drop b) (n := l.length) (by rw [hM]) (by rw [hM]; exact ht)
        rw [hMa, hMb] at h2
        exact h2
      have HX := Lib.hid hX
      have hlenN : (l.take a ++ [ro'] ++ l.drop b).length = a + 1 + (l.length - b) := by simp only [List.length_append, List.length_cons, List.length_nil, hMa, List.length_drop]
      have HLenN := Lib.hid hlenN
      have c5 := HL5.out.cell 0
      simp only [List.getElem?_cons_zero] at c5
      clear hM hMa hMb hLb hs ht hb5 hv5 hX hlenN hR1
      go_wp2_with fail
      go_region_with (first | (go_at_call 76; refine (replace_Row w5 g l.length cap a b 1 1 _ cur [.int .i64 (ro'.1 : Nat), .int .i64 (ro'.2 : Nat)] HS5.out (by omega) (by omega) (.inr ⟨wc.heap.size, _, rfl, HV5.out, by omega, rfl, by omega⟩) rfl (by omega) (fun v hv => List.all_eq_true.1 (show ([Value.int .i64 (ro'.1 : Nat), Value.int .i64 (ro'.2 : Nat)]).all (fun v => v.oneCell') = true from rfl) v hv) (by rw [HT5.out]; exact rowsV_one _) (by omega)).mono ?_; rintro e w6 ⟨g', cap', cur', rfl, hs6, ht6, hg6, ho6⟩; have hL6 := HL5.out.only ho6 (fun h => hne h); have l0 := hL6.cell 0; have lf := hL6.free 0; simp only [List.getElem?_cons_zero] at l0; have HS6 := Lib.hid hs6; have HT6 := Lib.hid ht6; have HO6 := Lib.hid ho6; have HL6 := Lib.hid hL6; clear hs6 ht6 ho6 hL6))
      all_goals
        go_wp2
        go_ret
        have hLg' : L ≠ g' := by have := HB5.out.size; rcases hg6 with h | h <;> omega
        exact .inr ⟨x', n', i, rfl, rfl, HT.out, HBe.out, .inr ⟨a, b, ro, ro', rfl, hlo.out, hro.out, land_store HB5.out HO6.out HL6.out hLg' HLenN.out HS6.out (HX.out _ _ HLenN.out.symm HT6.out) hg6 hll.1⟩⟩
end Go.Proofs.YtadbbknllakpcaaGreat.rn
