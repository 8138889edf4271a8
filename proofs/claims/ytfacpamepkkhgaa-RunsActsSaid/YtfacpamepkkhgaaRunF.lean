/- The document's Take, and Same. -/
import Derived.Test.YtfacpamepkkhgaaRunE
import Derived.BigQuiet
import Derived.BigRegion
namespace Go.Proofs.Ytfacpamepkkhgaa
open Go.RowKit
set_option linter.unusedVariables false

/-- What the document's Take answers. -/
def RTakeR (w : World) (T : Nat) (f : Nat → Bool) (l : List (Nat × Nat)) (n : Int) (e : Ending) (w' : World) : Prop :=
  (n < 1 ∧ e = .returned (.tuple #[.int .i64 0, .int .i64 2]) ∧ w = w') ∨
  (1 ≤ n ∧ NoneTo l n l.length ∧ e = .returned (.tuple #[.int .i64 0, .int .i64 16]) ∧ Below w.heap.size w w') ∨
  ∃ (b : Nat) (p : Nat × Nat), 1 ≤ n ∧ BestTo l n l.length b p ∧ e = .returned (.tuple #[.int .i64 p.1, .int .i64 0]) ∧ Blk w' T (fnV 4096 fun i => .bool (setF f p.1 (p.1 + n.toNat) true i)) 4 ∧ Only (· = T) w w'
theorem best_new {l : List (Nat × Nat)} {n : Int} {j : Nat} {a : Nat × Nat} (h : NoneTo l n j) (ha : l[j]? = some a) (hge : n ≤ (a.2 : Int)) : BestTo l n (j + 1) j a :=
  ⟨by omega, ha, hge, fun k a' hk hk2 hk3 => by
    by_cases e : k = j
    · subst e
      have := ha.symm.trans hk2
      cases this
      exact ⟨Nat.le_refl _, fun h => by omega⟩
    · have := h k a' (by omega) hk2
      omega⟩
theorem best_less {l : List (Nat × Nat)} {n : Int} {j b : Nat} {a p : Nat × Nat} (h : BestTo l n j b p) (ha : l[j]? = some a) (hge : n ≤ (a.2 : Int)) (hsm : a.2 < p.2) : BestTo l n (j + 1) j a :=
  ⟨by omega, ha, hge, fun k a' hk hk2 hk3 => by
    by_cases e : k = j
    · subst e
      have := ha.symm.trans hk2
      cases this
      exact ⟨Nat.le_refl _, fun h => by omega⟩
    · have := h.2.2.2 k a' (by omega) hk2 hk3
      omega⟩
theorem best_keep {l : List (Nat × Nat)} {n : Int} {j b : Nat} {a p : Nat × Nat} (h : BestTo l n j b p) (ha : l[j]? = some a) (hsm : n ≤ (a.2 : Int) → ¬ a.2 < p.2) : BestTo l n (j + 1) b p :=
  ⟨by have := h.1; omega, h.2.1, h.2.2.1, fun k a' hk hk2 hk3 => by
    by_cases e : k = j
    · subst e
      have := ha.symm.trans hk2
      cases this
      have := hsm hk3
      exact ⟨by omega, fun h' => by have := h.1; omega⟩
    · exact h.2.2.2 k a' (by omega) hk2 hk3⟩
theorem none_keep {l : List (Nat × Nat)} {n : Int} {j : Nat} {a : Nat × Nat} (h : NoneTo l n j) (ha : l[j]? = some a) (hge : ¬ n ≤ (a.2 : Int)) : NoneTo l n (j + 1) := fun k a' hk hk2 => by
  by_cases e : k = j
  · subst e
    have := ha.symm.trans hk2
    cases this
    omega
  · exact h k a' (by omega) hk2
theorem own_rows {w : World} {base n cc : Nat} {B : Option Addr} {l : List (Nat × Nat)} (h : w.ownsRow base 35 2 (.slice B n cc) l.length (rowsV l)) {j : Nat} {a : Nat × Nat} (ha : l[j]? = some a) :
    ∃ b, B = some ⟨b, 0, none⟩ ∧ w.cell? ⟨b, j * 2, none⟩ = some (.int .i64 a.1) ∧ w.cell? ⟨b, j * 2 + 1, none⟩ = some (.int .i64 a.2) := by
  have hjl := (List.getElem?_eq_some_iff.1 ha).1
  obtain ⟨b, hb, _, _, hcell⟩ := (ownsRow_rd h).resolve_left (by omega)
  obtain ⟨h1, h2⟩ := rowsV_at ha
  exact ⟨b, hb, hcell _ _ h1, hcell _ _ h2⟩
theorem RowB.set2 {w : World} {rb : Nat} {ro : Nat × Nat} (h : RowB w rb ro) (a : Nat × Nat) : RowB ((w.setCell ⟨rb, 0, none⟩ (.int .i64 a.1)).setCell ⟨rb, 1, none⟩ (.int .i64 a.2)) rb a :=
  Blk.set (Blk.set (w := w) h 0 (.int .i64 (a.1 : Nat))) 1 (.int .i64 (a.2 : Nat))
set_option maxRecDepth 20000 in
set_option maxHeartbeats 8000000 in
theorem rtake_calls (w : World) (R T : Nat) (f : Nat → Bool) (l : List (Nat × Nat)) (n : Int) (hR : RefAt w R T f) (hl : RelF l f) (hn : -9223372036854775808 ≤ n ∧ n ≤ 9223372036854775807) :
    Calls Try.prog 15 #[.pointer (some ⟨R, 0, none⟩), .int .i64 n] w (RTakeR w T f l n) := by
  by_cases h0 : n < 1
  · go_enter Try.func15, Try.ntmps15
    go_wp2
    go_ret2
    exact .inl ⟨h0, rfl, rfl⟩
  have h1 : 1 ≤ n := by omega
  obtain ⟨m, rfl⟩ : ∃ m : Nat, n = m := ⟨n.toNat, by omega⟩
  have HR := Lib.hid hR
  have HRl := Lib.hid hl
  have hll := hR.lt
  have hlen := hl.1.len
  have hne := hR.1
  clear hR hl h0
  go_enter Try.func15, Try.ntmps15
  go_wp2_with fail
  refine (rruns_calls w R T f l HR.out HRl.out).mono ?_
  rintro e w1 ⟨v, rfl, hown, hb⟩
  obtain ⟨B, cc, rfl⟩ := ownsRow_slice hown
  obtain ⟨bb, hbb⟩ : ∃ bb, w1.heap.size = bb := ⟨_, rfl⟩
  have hbs := hb.size
  obtain ⟨w2, hw2⟩ : ∃ w2, w1.alloc (.cells #[.int .i64 0, .int .i64 0] 35) = w2 := ⟨_, rfl⟩
  have hb12 : Below w1.heap.size w1 w2 := by rw [← hw2]; exact (Below.refl _ _).alloc (Nat.le_refl _) _
  have HB2 := Lib.hid (bel_next hb hb12 (Nat.le_refl _))
  have HBr2 : RowB w2 bb (0, 0) := by rw [← hw2, ← hbb]; exact Blk.new w1 #[.int .i64 0, .int .i64 0] 35
  have HO2 := Lib.hid (ownsRow_below hown hb12)
  have hob : ∀ k, (Value.slice B l.length cc).ownBlock = some k → k < bb := fun k hk => by have := (hown.lt k hk).2; omega
  have HOb := Lib.hid hob
  have hoff2 : (Value.slice B l.length cc).ownBlock ≠ some bb := fun h => by have := hob _ h; omega
  have HOff2 := Lib.hid hoff2
  rw [hbb] at hbs
  obtain ⟨⟨k0, k1⟩, f0, f1⟩ := HBr2.cells
  clear hb hb12 hown hob hoff2
  go_wp2_with fail
  go_loopg [8] l.length (fun q i wr => ∃ (j : Nat) (ro : Nat × Nat), q + j = l.length ∧ i = .int .i64 j ∧ RowB wr bb ro ∧ Hid ((ro = (0, 0) ∧ NoneTo l m j) ∨ ∃ b, BestTo l m j b ro) ∧ Hid (wr.ownsRow w.heap.size 35 2 (.slice B l.length cc) l.length (rowsV l)) ∧ Hid (Below w.heap.size w wr))
  case atStart => exact ⟨0, (0, 0), by omega, rfl, RowB.set2 HBr2 (0, 0), Lib.hid (.inl ⟨rfl, fun k a h => by omega⟩), Lib.hid (ownsRow_setCell_other (ownsRow_setCell_other HO2.out (a := ⟨bb, 0, none⟩) HOff2.out _) (a := ⟨bb, 1, none⟩) HOff2.out _), Lib.hid ((HB2.out.setCell (p := ⟨bb, 0, none⟩) hbs _).setCell (p := ⟨bb, 1, none⟩) hbs _)⟩
  case round =>
    obtain ⟨j, ro, hq, rfl, hrb, hinv, hown, hb⟩ := hrel
    have HRb := Lib.hid hrb
    obtain ⟨⟨k0, k1⟩, f0, f1⟩ := hrb.cells
    have hrlt := Blk.lt hrb
    clear hrb
    by_cases hlt : j < l.length
    · obtain ⟨a, ha⟩ : ∃ a, l[j]? = some a := ⟨_, List.getElem?_eq_getElem hlt⟩
      obtain ⟨b, rfl, r1, r2⟩ := own_rows hown.out ha
      have hab := HRl.out.1.mem ha
      have HA := Lib.hid ha
      have hbne : b < bb := HOb.out b rfl
      have hoff : (Value.slice (some ⟨b, 0, none⟩) l.length cc).ownBlock ≠ some bb := by simp [Value.ownBlock]; omega
      have HOff := Lib.hid hoff
      clear ha hoff
      by_cases hge : (m : Int) ≤ (a.2 : Int)
      · rcases hinv.out with ⟨rfl, hno⟩ | ⟨bi, hbest⟩
        · have HNo := Lib.hid hno
          clear hno hinv
          go_wp2_with fail
          go_quiet (fail)
          go_wp2
          go_roundg (l.length - (j + 1))
          case measure => omega
          case rel =>
            refine ⟨j + 1, a, by omega, by go_num, RowB.set2 (w := wr.drewN _) HRb.out a, Lib.hid (.inr ⟨j, best_new HNo.out HA.out hge⟩), Lib.hid ?_, Lib.hid ?_⟩
            · exact ownsRow_setCell_other (ownsRow_setCell_other (ownsRow_below hown.out (bel_dn (Below.refl _ _) _)) (a := ⟨bb, 0, none⟩) HOff.out _) (a := ⟨bb, 1, none⟩) HOff.out _
            · exact ((bel_dn hb.out _).setCell (p := ⟨bb, 0, none⟩) hbs _).setCell (p := ⟨bb, 1, none⟩) hbs _
        · have HBest := Lib.hid hbest
          have hb2 := hbest.2.2.1
          have hro : ((ro.2 : Int) == 0) = false := by rw [beq_eq_false_iff_ne]; omega
          clear hinv hbest
          by_cases hsm : a.2 < ro.2
          · go_wp2_with fail
            go_quiet (fail)
            go_wp2
            go_roundg (l.length - (j + 1))
            case measure => omega
            case rel =>
              refine ⟨j + 1, a, by omega, by go_num, RowB.set2 (w := wr.drewN _) HRb.out a, Lib.hid (.inr ⟨j, best_less HBest.out HA.out hge hsm⟩), Lib.hid ?_, Lib.hid ?_⟩
              · exact ownsRow_setCell_other (ownsRow_setCell_other (ownsRow_below hown.out (bel_dn (Below.refl _ _) _)) (a := ⟨bb, 0, none⟩) HOff.out _) (a := ⟨bb, 1, none⟩) HOff.out _
              · exact ((bel_dn hb.out _).setCell (p := ⟨bb, 0, none⟩) hbs _).setCell (p := ⟨bb, 1, none⟩) hbs _
          · go_wp2_with fail
            go_quiet (fail)
            go_wp2
            go_roundg (l.length - (j + 1))
            case measure => omega
            case rel => exact ⟨j + 1, ro, by omega, by go_num, HRb.out, Lib.hid (.inr ⟨bi, best_keep HBest.out HA.out (fun _ => hsm)⟩), Lib.hid (ownsRow_below hown.out (bel_dn (Below.refl _ _) _)), Lib.hid (bel_dn hb.out _)⟩
      · have hgb : decide ((m : Int) ≤ (a.2 : Int)) = false := decide_eq_false hge
        have hgl : (a.2 : Int) < (m : Int) := by omega
        have hgb2 : decide (m ≤ a.2) = false := decide_eq_false (by omega)
        have hgl2 : a.2 < m := by omega
        have HGe := Lib.hid hge
        clear hge
        go_wp2_with fail
        go_quiet (fail)
        go_wp2
        go_roundg (l.length - (j + 1))
        case measure => omega
        case rel => exact ⟨j + 1, ro, by omega, by go_num, HRb.out, Lib.hid (by
          rcases hinv.out with ⟨g1, g2⟩ | ⟨bi, g⟩
          · exact .inl ⟨g1, none_keep g2 HA.out (by have := HGe.out; omega)⟩
          · exact .inr ⟨bi, best_keep g HA.out (fun h => absurd h (by have := HGe.out; omega))⟩), Lib.hid (ownsRow_below hown.out (bel_dn (Below.refl _ _) _)), Lib.hid (bel_dn hb.out _)⟩
    · obtain rfl : j = l.length := by omega
      rcases hinv.out with ⟨rfl, hno⟩ | ⟨bi, hbest⟩
      · have HNo := Lib.hid hno
        clear hno hinv
        go_wp2
        go_ret2
        exact .inr (.inl ⟨h1, HNo.out, rfl, hb.out⟩)
      · have HBest := Lib.hid hbest
        have hb2 := hbest.2.2.1
        have hpm := HRl.out.1.mem hbest.2.1
        have hro : ((ro.2 : Int) == 0) = false := by rw [beq_eq_false_iff_ne]; omega
        have HTh := Lib.hid (there_ok (x := ro.1) (n := m) (by omega) (by omega) (by omega) (by omega))
        have hTb : T ≠ bb := by omega
        have hfree : ∀ i, ro.1 ≤ i → i < ro.1 + m → f i ≠ true := fun i g1 g2 => by
          have := (HRl.out.2.2 i).1 ((Fr_at l i).2 ⟨bi, ro, hbest.2.1, g1, by omega⟩)
          rw [this.2.2]; simp
        have HFree := Lib.hid hfree
        clear hinv hbest hfree
        go_wp2_with fail
        refine (turn16_calls _ R T f (ro.1 : Int) (m : Int) true (HR.out.below hb.out) (by omega) (by omega)).mono ?_
        rintro e w3 h
        rcases h with ⟨h, _⟩ | ⟨x', n', hx, hnn, _, h⟩
        · rw [HTh.out] at h; cases h
        obtain rfl : ro.1 = x' := by omega
        obtain rfl : m = n' := by omega
        rcases h with ⟨⟨i, g1, g2, g3⟩, _⟩ | ⟨_, rfl, hblk, hon⟩
        · exact absurd g3 (HFree.out i g1 g2)
        have HBk := Lib.hid hblk
        have HOn := Lib.hid ((Only.of_below (S := (· = T)) hb.out).trans hon (fun i _ h => h))
        have hrb3 : RowB w3 bb ro := Blk.only HRb.out hon (fun h => hTb h.symm)
        obtain ⟨⟨k0, k1⟩, _, _⟩ := hrb3.cells
        clear hblk hon hrb3
        go_wp2
        go_ret2
        refine .inr (.inr ⟨bi, ro, h1, HBest.out, rfl, ?_, HOn.out⟩)
        rw [Int.toNat_natCast]
        exact HBk.out
end Go.Proofs.Ytfacpamepkkhgaa
