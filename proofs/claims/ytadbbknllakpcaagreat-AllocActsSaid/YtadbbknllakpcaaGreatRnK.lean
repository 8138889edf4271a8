/- The walk of runs.Take. -/
import Derived.Test.YtadbbknllakpcaaGreatRnC
namespace Go.Proofs.YtadbbknllakpcaaGreat.rn
open Go.RowKit
set_option linter.unusedVariables false

/-- The row that is taken from: the first of the smallest that have so many pages. -/
def BestTo (l : List (Nat × Nat)) (n : Int) (j b : Nat) (p : Nat × Nat) : Prop :=
  b < j ∧ l[b]? = some p ∧ n ≤ (p.2 : Int) ∧ ∀ k a, k < j → l[k]? = some a → n ≤ (a.2 : Int) → p.2 ≤ a.2 ∧ (k < b → p.2 < a.2)
def NoneTo (l : List (Nat × Nat)) (n : Int) (j : Nat) : Prop := ∀ k a, k < j → l[k]? = some a → (a.2 : Int) < n
/-- What Take answers. -/
def TakeR (w : World) (L g : Nat) (l : List (Nat × Nat)) (n : Int) (e : Ending) (w' : World) : Prop :=
  (n < 1 ∧ e = .returned (.tuple #[.int .i64 0, .int .i64 2]) ∧ w = w') ∨
  (1 ≤ n ∧ NoneTo l n l.length ∧ e = .returned (.tuple #[.int .i64 0, .int .i64 16]) ∧ Below w.heap.size w w') ∨
  ∃ (b : Nat) (p : Nat × Nat), 1 ≤ n ∧ BestTo l n l.length b p ∧ e = .returned (.tuple #[.int .i64 p.1, .int .i64 0]) ∧ LandR w L g (l.take b ++ leftR p p.1 n.toNat ++ l.drop (b + 1)) w'
theorem split_at {l : List (Nat × Nat)} {b : Nat} {p : Nat × Nat} (h : l[b]? = some p) : l = l.take b ++ p :: l.drop (b + 1) ∧ (l.take b).length = b := by
  obtain ⟨hb, rfl⟩ := List.getElem?_eq_some_iff.1 h
  exact ⟨by rw [← List.drop_eq_getElem_cons hb, List.take_append_drop], by rw [List.length_take]; omega⟩
theorem LandR.pre {w w1 w2 : World} {L g : Nat} {l : List (Nat × Nat)} (h : LandR w1 L g l w2) (hb : Below w.heap.size w w1) : LandR w L g l w2 := by
  obtain ⟨g', cap', h1, h2, h3⟩ := h
  exact ⟨g', cap', h1, h2.imp id (fun h => Nat.le_trans hb.size h), (Only.of_below hb).trans h3 (fun _ _ h => h)⟩
set_option maxRecDepth 8000 in
set_option maxHeartbeats 8000000 in
theorem take16_calls (w : World) (L g cap : Nat) (l : List (Nat × Nat)) (n : Int) (hL : LandAt w L g cap l) (hc : Canon l) (hl : l.length ≤ 90000) (hn : -9223372036854775808 ≤ n ∧ n ≤ 9223372036854775807) :
    Calls Tryz.prog 27 #[.pointer (some ⟨L, 0, none⟩), .int .i64 n] w (TakeR w L g l n) := by
  by_cases h0 : n < 1
  · go_enter Tryz.func27, Tryz.ntmps27
    go_wp2
    go_ret2
    exact .inl ⟨h0, rfl, rfl⟩
  have h1 : 1 ≤ n := by omega
  have HL := Lib.hid hL
  have HC := Lib.hid hc
  have c0 := hL.head
  have hll := hL.lt
  clear hL hc h0
  go_enter Tryz.func27, Tryz.ntmps27
  go_wp2_with fail
  go_loopg [6, 7, 8, 17] l.length (fun q best s7 s8 i wr => ∃ (j : Nat) (bi : Int), q + j = l.length ∧ i = .int .i64 j ∧ best = .int .i64 bi ∧ Hid ((bi = -1 ∧ NoneTo l n j) ∨ ∃ b p, bi = (b : Nat) ∧ BestTo l n j b p) ∧ Below w.heap.size w wr)
  case atStart => exact ⟨0, -1, by omega, rfl, rfl, Lib.hid (.inl ⟨rfl, fun k a h => by omega⟩), Below.refl _ _⟩
  case round =>
    obtain ⟨j, bi, hq, rfl, rfl, hinv, hb⟩ := hrel
    have HB := Lib.hid hb
    have HLr := Lib.hid (HL.out.below hb)
    have hbs := hb.size
    have c1 := HLr.out.head
    clear hb
    by_cases hlt : j < l.length
    · obtain ⟨a, ha⟩ : ∃ a, l[j]? = some a := ⟨_, List.getElem?_eq_getElem hlt⟩
      obtain ⟨r1, r2⟩ := HLr.out.row ha
      have hab := HC.out.mem ha
      have HA := Lib.hid ha
      have HB1 := Lib.hid (HB.out.alloc hbs (.cells #[.int .i64 a.1, .int .i64 a.2] 45))
      have hLa := HLr.out.below ((Below.refl _ _).alloc (Nat.le_refl _) (.cells #[.int .i64 a.1, .int .i64 a.2] 45))
      have c2 := hLa.head
      have HLa := Lib.hid hLa
      clear ha hLa
      by_cases hge : n ≤ (a.2 : Int)
      · rcases hinv.out with ⟨rfl, hno⟩ | ⟨b, p, rfl, hbest⟩
        · have HNo := Lib.hid hno
          clear hno hinv
          go_wp2_with fail
          go_quiet (fail)
          go_wp2
          go_roundg (l.length - (j + 1))
          case measure => omega
          case rel => exact ⟨j + 1, j, by omega, by go_num, rfl, Lib.hid (.inr ⟨j, a, rfl, by omega, HA.out, hge, fun k a' hk hk2 hk3 => by
            by_cases e : k = j
            · subst e
              have := HA.out.symm.trans hk2
              cases this
              exact ⟨Nat.le_refl _, fun h => by omega⟩
            · have := HNo.out k a' (by omega) hk2
              omega⟩), bel_dn HB1.out _⟩
        · obtain ⟨hbj, hbp, hbn, hbb⟩ := hbest
          have hbl : b < l.length := by omega
          obtain ⟨t1, t2⟩ := HLa.out.row hbp
          have HBp := Lib.hid hbp
          have HBb := Lib.hid hbb
          clear hinv hbp hbb
          by_cases hsm : a.2 < p.2
          · go_wp2_with fail
            go_quiet (fail)
            go_wp2
            go_roundg (l.length - (j + 1))
            case measure => omega
            case rel => exact ⟨j + 1, j, by omega, by go_num, rfl, Lib.hid (.inr ⟨j, a, rfl, by omega, HA.out, hge, fun k a' hk hk2 hk3 => by
              by_cases e : k = j
              · subst e
                have := HA.out.symm.trans hk2
                cases this
                exact ⟨Nat.le_refl _, fun h => by omega⟩
              · have := HBb.out k a' (by omega) hk2 hk3
                omega⟩), bel_dn HB1.out _⟩
          · go_wp2_with fail
            go_quiet (fail)
            go_wp2
            go_roundg (l.length - (j + 1))
            case measure => omega
            case rel => exact ⟨j + 1, b, by omega, by go_num, rfl, Lib.hid (.inr ⟨b, p, rfl, by omega, HBp.out, hbn, fun k a' hk hk2 hk3 => by
              by_cases e : k = j
              · subst e
                have := HA.out.symm.trans hk2
                cases this
                exact ⟨by omega, fun h => by omega⟩
              · exact HBb.out k a' (by omega) hk2 hk3⟩), bel_dn HB1.out _⟩
      · have hgb : decide (n ≤ (a.2 : Int)) = false := decide_eq_false hge
        have hgl : (a.2 : Int) < n := by omega
        clear hge
        go_wp2_with fail
        go_quiet (fail)
        go_wp2
        go_roundg (l.length - (j + 1))
        case measure => omega
        case rel => exact ⟨j + 1, bi, by omega, by go_num, rfl, Lib.hid (by
          rcases hinv.out with ⟨h1, h2⟩ | ⟨b, p, h1, h2, h3, h4, h5⟩
          · refine .inl ⟨h1, fun k a' hk hk2 => ?_⟩
            by_cases e : k = j
            · subst e
              have := HA.out.symm.trans hk2
              cases this
              omega
            · exact h2 k a' (by omega) hk2
          · refine .inr ⟨b, p, h1, by omega, h3, h4, fun k a' hk hk2 hk3 => ?_⟩
            by_cases e : k = j
            · subst e
              have := HA.out.symm.trans hk2
              cases this
              omega
            · exact h5 k a' (by omega) hk2 hk3), bel_dn HB1.out _⟩
    · obtain rfl : j = l.length := by omega
      rcases hinv.out with ⟨rfl, hno⟩ | ⟨b, p, rfl, hbest⟩
      · have HNo := Lib.hid hno
        clear hno hinv
        go_wp2
        go_ret2
        exact .inr (.inl ⟨h1, HNo.out, rfl, HB.out⟩)
      · have HBest := Lib.hid hbest
        obtain ⟨hbj, hbp, hbn, _⟩ := hbest
        obtain ⟨t1, t2⟩ := HLr.out.row hbp
        have hpb := HC.out.mem hbp
        obtain ⟨hsp, hspl⟩ := split_at hbp
        have HLs := Lib.hid (show LandAt wr L g cap (l.take b ++ p :: l.drop (b + 1)) by rw [← hsp]; exact HLr.out)
        have hlen : (l.take b ++ p :: l.drop (b + 1)).length ≤ 100000 := by rw [← hsp]; omega
        obtain ⟨m, hm⟩ : ∃ m : Nat, n = m := ⟨n.toNat, by omega⟩
        subst hm
        have HSpl := Lib.hid hspl
        have HLen := Lib.hid hlen
        clear hinv hbp hsp hspl hlen
        go_wp2_with fail
        have hcut := cut_calls wr L g cap (l.take b) (l.drop (b + 1)) p p.1 m HLs.out (Nat.le_refl _) (by omega) hpb.2.2 HLen.out
        rw [HSpl.out] at hcut
        refine hcut.mono ?_
        rintro e w' ⟨rfl, hr⟩
        have HR := Lib.hid (hr.pre HB.out)
        clear hr hcut
        go_wp2
        go_ret2
        refine .inr (.inr ⟨b, p, h1, HBest.out, rfl, ?_⟩)
        rw [Int.toNat_natCast]
        exact HR.out
end Go.Proofs.YtadbbknllakpcaaGreat.rn
