/- The walk of the document's Right of a directory. -/
import Derived.Test.YtanfjiccilibcaaNmO
import Derived.Deep.LoopGhost
namespace Go.Proofs.Ytanfjiccilibcaa
open Go.RowKit
set_option linter.unusedVariables false

set_option maxHeartbeats 4000000 in
theorem less_quiet (a b : ByteArray) (c : Bool) (hc : lt a b = c) (hsa : a.size ≤ 100000) (hsb : b.size ≤ 100000) (w : World) (q0 : Nat) : Calls Try.prog 30 #[.string a, .string b] (w.drewN q0) fun e w' => e = .returned (.bool c) ∧ ∃ m, w' = w.drewN m := by
  subst hc
  obtain ⟨n, hn⟩ : ∃ n, a.size = n := ⟨_, rfl⟩
  obtain ⟨m, hm⟩ : ∃ m, b.size = m := ⟨_, rfl⟩
  rw [hn] at hsa
  rw [hm] at hsb
  go_enter Try.func30, Try.ntmps30
  go_wp2_with fail
  go_loopg [5] n (fun q s5 wr => ∃ i t : Nat, q + i = n ∧ s5 = .int .i64 i ∧ i ≤ m ∧ Hid (lt a b = Op.bytesLess (a.toList.drop i) (b.toList.drop i)) ∧ wr = w.drewN t)
  case atStart => exact ⟨0, q0, by omega, rfl, by omega, Lib.hid rfl, rfl⟩
  case round =>
    obtain ⟨i, t, hq, rfl, him, hinv, rfl⟩ := hrel
    by_cases h1 : i < n
    · by_cases h2 : i < m
      · have ha := ba_drop a i (by omega)
        have hb2 := ba_drop b i (by omega)
        have hai : i < a.size := by omega
        have hbi : i < b.size := by omega
        obtain ⟨x, hx⟩ : ∃ x, a[i] = x := ⟨_, rfl⟩
        obtain ⟨y, hy⟩ : ∃ y, b[i] = y := ⟨_, rfl⟩
        rw [hx] at ha
        rw [hy] at hb2
        have HE := Lib.hid (hinv.out.trans (by rw [ha, hb2]))
        by_cases he : x = y
        · subst he
          have hbe : ((x.toNat : Int) == (x.toNat : Int)) = true := by simp
          clear ha hb2
          go_wp2_with fail
          go_quiet (fail)
          go_wp2
          go_roundg (n - (i + 1))
          case measure => omega
          case rel => exact ⟨i + 1, _, by omega, by go_num, by omega, Lib.hid (HE.out.trans (bl_cons _ _ _)), rfl⟩
        · have hne : x.toNat ≠ y.toNat := fun h => he (UInt8.toNat_inj.1 h)
          have HR := Lib.hid (show lt a b = decide ((x.toNat : Int) < (y.toNat : Int)) by
            rw [HE.out]
            have e2 : (x == y) = false := by rw [beq_eq_false_iff_ne]; exact he
            simp only [Op.bytesLess, e2, Bool.false_and, Bool.or_false]
            rw [decide_eq_decide, UInt8.lt_iff_toNat_lt]
            omega)
          clear ha hb2
          go_wp2_with fail
          go_quiet (fail)
          go_wp2_with fail
          go_quiet (fail)
          go_wp2
          go_ret
          exact ⟨ret_bool (by rw [HR.out, decide_eq_decide]; omega), _, (congrArg (fun x : World => x.drewN _) (World.drewN_drewN _ _ _)).trans (World.drewN_drewN _ _ _)⟩
      · obtain rfl : i = m := by omega
        have HR := Lib.hid (show lt a b = false by
          rw [hinv.out, ba_drop_all b i (by omega)]
          cases a.toList.drop i <;> rfl)
        go_wp2
        go_ret
        exact ⟨ret_bool (by rw [HR.out]; exact decide_eq_false (by omega)), _, rfl⟩
    · obtain rfl : i = n := by omega
      have HR := Lib.hid (show lt a b = decide (i < m) by
        rw [hinv.out, ba_drop_all a i (by omega)]
        by_cases h3 : i < m
        · rw [ba_drop b i (by omega), decide_eq_true h3]; rfl
        · rw [ba_drop_all b i (by omega), decide_eq_false h3]; rfl)
      go_wp2
      go_ret
      exact ⟨ret_bool (by rw [HR.out]), _, rfl⟩
/-- What the document asks of an entry. -/
theorem ok_of {l : List Ent} {i : Nat} {a : Ent} (h : OkAt l i a) : (1 ≤ a.1.size ∧ a.1.size ≤ 32) ∧ (1 ≤ a.2 ∧ a.2 ≤ 64) ∧ (∀ p, 0 < i → l[i - 1]? = some p → lt p.1 a.1 = true) ∧ ∀ k b, k < i → l[k]? = some b → b.2 ≠ a.2 := by
  have h1 := good_sz h.1
  have h2 : 1 ≤ a.2 ∧ a.2 ≤ 64 := Classical.byContradiction fun hn => h.2.1 ((bitN_zero a.2).2 hn)
  refine ⟨h1, h2, fun p hp hl => h.2.2.2 p hp hl, fun k b hk hb he => ?_⟩
  exact (setN_and (l.take i) a.2 h2.1 h2.2).2 ⟨b, List.mem_of_getElem? (i := k) (by rw [List.getElem?_take, if_pos hk]; exact hb), he⟩ h.2.2.1
theorem of_ok {l : List Ent} {i : Nat} {a : Ent} (h1 : 1 ≤ a.1.size ∧ a.1.size ≤ 32) (h2 : 1 ≤ a.2 ∧ a.2 ≤ 64) (h3 : ∀ p, 0 < i → l[i - 1]? = some p → lt p.1 a.1 = true) (h4 : ∀ k b, k < i → l[k]? = some b → b.2 ≠ a.2) : OkAt l i a := by
  refine ⟨decide_eq_true h1, fun e => (bitN_zero a.2).1 e h2, Classical.byContradiction fun hn => ?_, fun p hp hl => h3 p hp hl⟩
  obtain ⟨b, hb, he⟩ := (setN_and (l.take i) a.2 h2.1 h2.2).1 hn
  obtain ⟨k, hk⟩ := List.mem_iff_getElem?.1 hb
  rw [List.getElem?_take] at hk
  split at hk
  · exact h4 k b ‹_› hk he
  · cases hk
theorem below_cellN {w wx : World} {X : Nat} (h : Below X w wx) (t : Nat) : Below X w (wx.drewN t) := below_drewN13 h t
set_option maxRecDepth 8000 in
set_option maxHeartbeats 16000000 in
theorem rright13_calls (w : World) (A : Option Addr) (cap : Nat) (l : List Ent) (hL : RdAt w A l.length (namesV l)) (hH : HeapsIn l) (hl : l.length ≤ 90000) (hz : ∀ a ∈ l, a.1.size ≤ 9223372036854775807) :
    Calls Try.prog 22 #[.slice A l.length cap] w fun e w' => ∃ b, e = .returned (.bool b) ∧ (b = true ↔ RightP l) ∧ Below w.heap.size w w' := by
  have HL := Lib.hid hL
  have HH := Lib.hid hH
  have HZ := Lib.hid hz
  clear hL hH hz
  go_enter Try.func22, Try.ntmps22
  go_wp2_with fail
  go_loopg [3, 4, 5] l.length (fun q s3 s4 s5 wr => ∃ i : Nat, q + i = l.length ∧ s3 = .int .i64 i ∧ Hid (∀ j a, j < i → l[j]? = some a → OkAt l j a) ∧ Hid (Below w.heap.size w wr))
  case atStart => exact ⟨0, by omega, rfl, Lib.hid (fun j a hj => by omega), Lib.hid (Below.refl _ _)⟩
  case round =>
    obtain ⟨i, hq, rfl, hok, hb⟩ := hrel
    by_cases hlt : i < l.length
    · obtain ⟨a, ha⟩ : ∃ a, l[i]? = some a := ⟨_, List.getElem?_eq_getElem hlt⟩
      obtain ⟨bb, o, rfl, hbb, r1, r2⟩ := (HL.out.below hb.out).ent ha
      have hran := HH.out a (List.mem_of_getElem? ha)
      have hsz := HZ.out a (List.mem_of_getElem? ha)
      have HA := Lib.hid ha
      have hb1 : Below wr.heap.size wr (wr.alloc (.cells #[.string a.1, .int .i64 a.2] 47)) := (Below.refl _ _).alloc (Nat.le_refl _) _
      have hk := Blk.new wr #[.string a.1, .int .i64 a.2] 47
      have hprev : ∀ p, 0 < i → l[i - 1]? = some p → (wr.alloc (.cells #[.string a.1, .int .i64 a.2] 47)).cell? ⟨bb, o + (i - 1) * 2, none⟩ = some (.string p.1) := fun p hj hp => by
        obtain ⟨b', o', he, hb', c1, _⟩ := (HL.out.below hb.out).ent hp
        cases he
        exact (hb1.cell (p := ⟨bb, o + (i - 1) * 2, none⟩) hb').trans c1
      have HPv := Lib.hid hprev
      have HB1 := Lib.hid (bel_next hb.out hb1 (Nat.le_refl _))
      have HK := Lib.hid hk
      have k0 := hk.cell 0
      have k1 := hk.cell 1
      simp only [List.getElem?_cons_zero, List.getElem?_cons_succ] at k0 k1
      have hnot : ∀ (h : ¬ OkAt l i a), ¬ RightP l := fun h hR => h (hR i a HA.out)
      obtain ⟨z, hz⟩ : ∃ z, a.1.size = z := ⟨_, rfl⟩
      rw [hz] at hsz
      clear ha hb1 hk hprev
      go_wp2_with fail
      generalize wr.alloc (.cells #[.string a.1, .int .i64 a.2] 47) = W1 at *
      generalize wr.heap.size = X at *
      by_cases hz1 : z < 1
      · have HN := Lib.hid (hnot (fun h => by have := (ok_of h).1; omega))
        have d1 : decide ((z : Int) < 1) = true := decide_eq_true (by omega)
        clear hnot
        go_quiet (fail)
        go_wp2
        go_ret
        first | exact ⟨_, rfl, ⟨(fun h => by cases h), fun h => absurd h HN.out⟩, below_drewN13 HB1.out _⟩ | exact .inl ⟨rfl, HN.out, below_drewN13 HB1.out _⟩
      by_cases hz2 : 32 < z
      · have HN := Lib.hid (hnot (fun h => by have := (ok_of h).1; omega))
        have d1 : decide ((z : Int) < 1) = false := decide_eq_false (by omega)
        have d2 : decide ((32 : Int) < (z : Int)) = true := decide_eq_true (by omega)
        clear hnot
        go_quiet (fail)
        go_wp2
        go_ret
        first | exact ⟨_, rfl, ⟨(fun h => by cases h), fun h => absurd h HN.out⟩, below_drewN13 HB1.out _⟩ | exact .inl ⟨rfl, HN.out, below_drewN13 HB1.out _⟩
      by_cases hh1 : a.2 < 1
      · have HN := Lib.hid (hnot (fun h => by have := (ok_of h).2.1; omega))
        have d1 : decide ((z : Int) < 1) = false := decide_eq_false (by omega)
        have d2 : decide ((32 : Int) < (z : Int)) = false := decide_eq_false (by omega)
        have d3 : decide (a.2 < 1) = true := decide_eq_true (by omega)
        clear hnot
        go_quiet (fail)
        go_wp2
        go_ret
        first | exact ⟨_, rfl, ⟨(fun h => by cases h), fun h => absurd h HN.out⟩, below_drewN13 HB1.out _⟩ | exact .inl ⟨rfl, HN.out, below_drewN13 HB1.out _⟩
      by_cases hh2 : 64 < a.2
      · have HN := Lib.hid (hnot (fun h => by have := (ok_of h).2.1; omega))
        have d1 : decide ((z : Int) < 1) = false := decide_eq_false (by omega)
        have d2 : decide ((32 : Int) < (z : Int)) = false := decide_eq_false (by omega)
        have d3 : decide (a.2 < 1) = false := decide_eq_false (by omega)
        have d4 : decide ((64 : Int) < a.2) = true := decide_eq_true (by omega)
        clear hnot
        go_quiet (fail)
        go_wp2
        go_ret
        first | exact ⟨_, rfl, ⟨(fun h => by cases h), fun h => absurd h HN.out⟩, below_drewN13 HB1.out _⟩ | exact .inl ⟨rfl, HN.out, below_drewN13 HB1.out _⟩
      have d1 : decide ((z : Int) < 1) = false := decide_eq_false (by omega)
      have d2 : decide ((32 : Int) < (z : Int)) = false := decide_eq_false (by omega)
      have d3 : decide (a.2 < 1) = false := decide_eq_false (by omega)
      have d4 : decide ((64 : Int) < a.2) = false := decide_eq_false (by omega)
      have hgo : 0 < i ∨ i = 0 := by omega
      have hwant : (i = 0 ∨ ∃ p, 0 < i ∧ l[i - 1]? = some p ∧ lt p.1 a.1 = true) ∨ ∃ p, 0 < i ∧ l[i - 1]? = some p ∧ lt p.1 a.1 = false := by
        rcases hgo with h0 | h0
        · obtain ⟨p, hp⟩ : ∃ p, l[i - 1]? = some p := ⟨_, List.getElem?_eq_getElem (by omega)⟩
          cases hlp : lt p.1 a.1
          · exact .inr ⟨p, h0, hp, hlp⟩
          · exact .inl (.inr ⟨p, h0, hp, hlp⟩)
        · exact .inl (.inl h0)
      clear hgo
      rcases hwant with hgood | ⟨p, h0, hp, hlp⟩
      case inr =>
        have kp := HPv.out p h0 hp
        have d5 : decide ((0 : Int) < (i : Int)) = true := decide_eq_true (by omega)
        have HN := Lib.hid (hnot (fun h => by have := (ok_of h).2.2.1 p h0 hp; rw [hlp] at this; cases this))
        have hps := (ok_of (hok.out (i - 1) p (by omega) hp)).1
        clear hnot hp
        go_quiet (exact less_quiet p.1 a.1 _ hlp (by omega) (by omega) _ _)
        go_wp2
        go_ret
        first | exact ⟨_, rfl, ⟨(fun h => by cases h), fun h => absurd h HN.out⟩, below_drewN13 HB1.out _⟩ | exact .inl ⟨rfl, HN.out, below_drewN13 HB1.out _⟩
      have HG := Lib.hid (show ∀ p, 0 < i → l[i - 1]? = some p → lt p.1 a.1 = true by
        intro p h0 hp
        rcases hgood with h1 | ⟨p', _, hp', hlp⟩
        · omega
        · cases hp.symm.trans hp'
          exact hlp)
      rcases hgood with h0 | ⟨p, h0, hp, hlp⟩
      case' inl =>
        have d5 : decide ((0 : Int) < (i : Int)) = false := decide_eq_false (by omega)
        go_quiet (fail)
        clear h0 d5
      case' inr =>
        have kp := HPv.out p h0 hp
        have d5 : decide ((0 : Int) < (i : Int)) = true := decide_eq_true (by omega)
        have hps := (ok_of (hok.out (i - 1) p (by omega) hp)).1
        clear hp
        go_quiet (exact less_quiet p.1 a.1 _ hlp (by omega) (by omega) _ _)
      all_goals
        clear hnot
        go_wp2_with fail
        go_loopg [5] i (fun q s5 wy => ∃ k t : Nat, q + k = i ∧ s5 = .int .i64 k ∧ Hid (∀ j b, j < k → l[j]? = some b → b.2 ≠ a.2) ∧ wy = W1.drewN t)
        case atStart => exact ⟨0, _, by omega, rfl, Lib.hid (fun j b hj => by omega), rfl⟩
        case round =>
          obtain ⟨k, t, hk, rfl, hno, rfl⟩ := hrel
          by_cases hki : k < i
          · obtain ⟨b, hbk⟩ : ∃ b, l[k]? = some b := ⟨_, List.getElem?_eq_getElem (by omega)⟩
            obtain ⟨b', o', he, hb', c1, c2⟩ := (HL.out.below HB1.out).ent hbk
            cases he
            by_cases hbe : b.2 = a.2
            · have e1 : (b.2 == a.2) = true := by rw [hbe]; simp
              have HN := Lib.hid (show ¬ RightP l from fun hR => (ok_of (hR i a HA.out)).2.2.2 k b hki hbk hbe)
              clear hbk
              go_wp2_with fail
              go_quiet (fail)
              go_wp2
              go_ret
              first | exact ⟨_, rfl, ⟨(fun h => by cases h), fun h => absurd h HN.out⟩, below_drewN13 (below_drewN13 HB1.out _) _⟩ | exact .inl ⟨rfl, HN.out, below_drewN13 (below_drewN13 HB1.out _) _⟩
            · have e1 : (b.2 == a.2) = false := by rw [beq_eq_false_iff_ne]; exact hbe
              have HK2 := Lib.hid hbk
              clear hbk
              go_wp2_with fail
              go_quiet (fail)
              go_wp2
              go_roundg (i - (k + 1))
              case measure => omega
              case rel => exact ⟨k + 1, _, by omega, by go_num, Lib.hid (fun j x hj hx => by
                rcases Nat.lt_or_ge j k with h | h
                · exact hno.out j x h hx
                · obtain rfl : j = k := by omega
                  cases HK2.out.symm.trans hx
                  exact hbe), by first | rfl | exact World.drewN_drewN _ _ _⟩
          · obtain rfl : k = i := by omega
            have HO := Lib.hid (of_ok (l := l) (i := k) (a := a) (by omega) (by omega) HG.out hno.out)
            go_wp2
            go_roundg (l.length - (k + 1))
            case measure => omega
            case rel => exact ⟨k + 1, by omega, by go_num, Lib.hid (fun j x hj hx => by
              rcases Nat.lt_or_ge j k with h | h
              · exact hok.out j x h hx
              · obtain rfl : j = k := by omega
                cases HA.out.symm.trans hx
                exact HO.out), Lib.hid (below_drewN13 HB1.out _)⟩
    · obtain rfl : i = l.length := by omega
      have HR := Lib.hid (show RightP l from fun j a hj => hok.out j a (List.getElem?_eq_some_iff.1 hj).1 hj)
      go_wp2
      go_ret
      exact ⟨_, rfl, ⟨fun _ => HR.out, fun _ => rfl⟩, hb.out⟩
end Go.Proofs.Ytanfjiccilibcaa
