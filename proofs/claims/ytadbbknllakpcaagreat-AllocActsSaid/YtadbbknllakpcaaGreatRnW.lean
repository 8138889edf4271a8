/- The walks through package runs: New, there, behind. -/
import Derived.Test.YtadbbknllakpcaaGreatRnP
import Derived.Test.YtadbbknllakpcaaGreatRepRow
import Derived.Deep.LoopGhost
namespace Go.Proofs.YtadbbknllakpcaaGreat.rn
open Go.RowKit
set_option linter.unusedVariables false

/-- A heap's pages: which rows are free. -/
def LandAt (w : World) (L g cap : Nat) (l : List (Nat × Nat)) : Prop :=
  L ≠ g ∧ Blk w L [.slice (some ⟨g, 0, none⟩) l.length cap] 91 ∧ ∃ cur, SlcRow w g l.length cap cur ∧ cur.take (l.length * 2) = rowsV l
def LandS (L g : Nat) (i : Nat) : Prop := i = L ∨ i = g
theorem LandAt.only {w w' : World} {L g cap : Nat} {l : List (Nat × Nat)} {S : Nat → Prop} (h : LandAt w L g cap l) (o : Only S w w') (h1 : ¬ S L) (h2 : ¬ S g) : LandAt w' L g cap l := by
  obtain ⟨hne, hL, cur, hs, ht⟩ := h
  exact ⟨hne, hL.only o h1, cur, ⟨hs.1.only o h2, hs.2⟩, ht⟩
theorem LandAt.below {w w' : World} {L g cap : Nat} {l : List (Nat × Nat)} (h : LandAt w L g cap l) (o : Below w.heap.size w w') : LandAt w' L g cap l := by
  obtain ⟨hne, hL, cur, hs, ht⟩ := h
  exact ⟨hne, hL.below o, cur, ⟨hs.1.below o, hs.2⟩, ht⟩
theorem LandAt.drewN {w : World} {L g cap : Nat} {l : List (Nat × Nat)} (h : LandAt w L g cap l) (q : Nat) : LandAt (w.drewN q) L g cap l := h
theorem LandAt.row {w : World} {L g cap : Nat} {l : List (Nat × Nat)} (h : LandAt w L g cap l) {k : Nat} {a : Nat × Nat} (hk : l[k]? = some a) : w.cell? ⟨g, k * 2, none⟩ = some (.int .i64 a.1) ∧ w.cell? ⟨g, k * 2 + 1, none⟩ = some (.int .i64 a.2) := by
  obtain ⟨_, _, cur, hs, ht⟩ := h
  have hkl : k < l.length := (List.getElem?_eq_some_iff.1 hk).1
  obtain ⟨h1, h2⟩ := rowsV_at hk
  rw [← ht, List.getElem?_take_of_lt (by omega)] at h1 h2
  exact ⟨(hs.1.cell _).trans h1, (hs.1.cell _).trans h2⟩
theorem LandAt.head {w : World} {L g cap : Nat} {l : List (Nat × Nat)} (h : LandAt w L g cap l) : w.cell? ⟨L, 0, none⟩ = some (.slice (some ⟨g, 0, none⟩) l.length cap) := h.2.1.cell 0
theorem LandAt.lt {w : World} {L g cap : Nat} {l : List (Nat × Nat)} (h : LandAt w L g cap l) : L < w.heap.size ∧ g < w.heap.size := by
  obtain ⟨_, hL, cur, hs, _⟩ := h
  exact ⟨hL.lt, hs.1.lt⟩

theorem new16_calls (w : World) : Calls Tryz.prog 18 #[] w fun e w' => ∃ L g cap, e = .returned (.pointer (some ⟨L, 0, none⟩)) ∧ LandAt w' L g cap [(1, 4095)] ∧ w.heap.size ≤ L ∧ w.heap.size ≤ g ∧ Below w.heap.size w w' := by
  go_enter Tryz.func18, Tryz.ntmps18
  go_wp2
  go_ret
  refine ⟨w.heap.size + 1, w.heap.size, 1, rfl, ⟨by omega, ?_, _, ⟨(Blk.new w _ _).alloc _, rfl, Nat.le_refl _, by unfold maxLen; omega⟩, rfl⟩, by omega, Nat.le_refl _, ((Below.refl _ _).alloc (Nat.le_refl _) _).alloc (by simp) _⟩
  have := Blk.new (w.alloc (.cells #[.int .i64 1, .int .i64 4095] 45)) #[.slice (some ⟨w.heap.size, 0, none⟩) 1 1] 91
  simpa using this
def thereB (a n : Int) : Bool := decide (1 ≤ n ∧ 1 ≤ a ∧ n < 4096 ∧ a ≤ 4096 - n)
theorem there_calls (a n : Int) (w : World) (ha : -9223372036854775808 ≤ a ∧ a ≤ 9223372036854775807) (hn : -9223372036854775808 ≤ n ∧ n ≤ 9223372036854775807) :
    Calls Tryz.prog 49 #[.int .i64 a, .int .i64 n] w fun e w' => e = .returned (.bool (thereB a n)) ∧ w = w' := by
  have hcase : (1 ≤ n ∧ 1 ≤ a ∧ n < 4096 ∧ a ≤ 4096 - n) ∨ (¬ 1 ≤ n) ∨ (1 ≤ n ∧ ¬ 1 ≤ a) ∨ (1 ≤ n ∧ 1 ≤ a ∧ ¬ n < 4096) ∨ (1 ≤ n ∧ 1 ≤ a ∧ n < 4096 ∧ ¬ a ≤ 4096 - n) := by omega
  rcases hcase with h | h | h | h | h
  · rw [show thereB a n = true from decide_eq_true h]
    obtain ⟨h1, h2, h3, h4⟩ := h
    go_enter Tryz.func49, Tryz.ntmps49
    go_wp2
    go_ret
    exact ⟨rfl, rfl⟩
  all_goals
    have HF := Lib.hid (show thereB a n = false from decide_eq_false (by omega))
    rw [HF.out]
    first | (obtain ⟨h1, h2, h3, h4⟩ := h) | (obtain ⟨h1, h2, h3⟩ := h) | (obtain ⟨h1, h2⟩ := h) | skip
    go_enter Tryz.func49, Tryz.ntmps49
    go_wp2
    go_ret
    exact ⟨ret_bool (by first | rfl | exact decide_eq_false (by omega)), rfl⟩

theorem cmp_calls (r n a : Int) (w : World) (h : -100000 ≤ r ∧ r ≤ 100000) (ha : -100000 ≤ a ∧ a ≤ 100000) :
    Calls Tryz.prog 79 #[.agg #[.int .i64 r, .int .i64 n], .int .i64 a] w fun e w' => e = .returned (.int .i64 (r - a)) ∧ Below w.heap.size w w' := by
  go_enter Tryz.func79, Tryz.ntmps79
  go_wp2
  go_ret
  exact ⟨rfl, (Below.refl _ _).alloc (Nat.le_refl _) _⟩

/-- Where a page belongs among the rows. -/
def BehR (l : List (Nat × Nat)) (x : Int) (i : Nat) : Prop := i ≤ l.length ∧ ∀ k a, l[k]? = some a → (k < i ↔ (a.1 : Int) < x)
set_option maxRecDepth 8000 in
set_option maxHeartbeats 4000000 in
theorem search_calls (w : World) (L g cap : Nat) (l : List (Nat × Nat)) (x : Int) (hL : LandAt w L g cap l) (hc : Canon l) (hl : l.length ≤ 100000) (hx : -10000 ≤ x ∧ x ≤ 10000) :
    Calls Tryz.prog 78 #[.slice (some ⟨g, 0, none⟩) l.length cap, Value.int .i64 x, .func (.func 79) #[] #[]] w fun e w' => ∃ (i : Nat) (b : Bool), e = .returned (.tuple #[.int .i64 i, .bool b]) ∧ BehR l x i ∧ Below w.heap.size w w' := by
  have HL := Lib.hid hL
  have HC := Lib.hid hc
  clear hL hc
  go_enter Tryz.func78, Tryz.ntmps78
  go_wp2_with fail
  go_loopg [9, 10, 11] l.length (fun q i j h wr => ∃ (a b : Nat), q = b - a ∧ i = .int .i64 a ∧ j = .int .i64 b ∧ a ≤ b ∧ b ≤ l.length ∧ Hid (∀ k p, l[k]? = some p → (k < a → (p.1 : Int) < x) ∧ (b ≤ k → x ≤ (p.1 : Int))) ∧ Below w.heap.size w wr)
  case atStart => exact ⟨0, l.length, by omega, rfl, rfl, by omega, by omega, Lib.hid (fun k p hk => ⟨fun h => by omega, fun h => by have := (List.getElem?_eq_some_iff.1 hk).1; omega⟩), Below.refl _ _⟩
  case round =>
    obtain ⟨a, b, hq, rfl, rfl, hab, hbl, hinv, hb⟩ := hrel
    have HB := Lib.hid hb
    have HLr := Lib.hid (HL.out.below hb)
    clear hb
    by_cases hlt : a < b
    · obtain ⟨h, hh⟩ : ∃ h, (a + b) / 2 = h := ⟨_, rfl⟩
      have hhi : ((a : Int) + (b : Int)) / 2 = (h : Int) := by omega
      have hhl : h < l.length := by omega
      obtain ⟨p, hp⟩ : ∃ p, l[h]? = some p := ⟨_, List.getElem?_eq_getElem hhl⟩
      obtain ⟨r1, r2⟩ := HLr.out.row hp
      have hpb := HC.out.1 p (List.mem_of_getElem? hp)
      have HP := Lib.hid hp
      clear hp
      go_wp2_with fail
      refine (cmp_calls p.1 p.2 x _ (by omega) (by omega)).mono ?_
      rintro e w2 ⟨rfl, hb⟩
      have HB2 := Lib.hid (bel_next HB.out hb (Nat.le_refl _))
      clear hb
      by_cases hc : (p.1 : Int) < x
      · have hc2 : (p.1 : Int) - x < 0 := by omega
        go_wp2
        go_roundg (b - (h + 1))
        case measure => omega
        case rel => exact ⟨h + 1, b, rfl, by go_num, rfl, by omega, hbl, Lib.hid (fun k q hk => ⟨fun hkh => by
          by_cases e : k = h
          · subst e
            have := HP.out.symm.trans hk
            cases this
            exact hc
          · have := HC.out.lt hk HP.out (by omega)
            omega, fun hkb => (hinv.out k q hk).2 hkb⟩), HB2.out⟩
      · have hc2 : ¬ (p.1 : Int) - x < 0 := by omega
        go_wp2
        go_roundg (h - a)
        case measure => omega
        case rel => exact ⟨a, h, rfl, rfl, rfl, by omega, by omega, Lib.hid (fun k q hk => ⟨fun hka => (hinv.out k q hk).1 hka, fun hkh => by
          by_cases e : k = h
          · subst e
            have := HP.out.symm.trans hk
            cases this
            omega
          · have := HC.out.lt HP.out hk (by omega)
            omega⟩), HB2.out⟩
    · obtain rfl : a = b := by omega
      have hfin : BehR l x a := ⟨hbl, fun k q hk => ⟨fun h => (hinv.out k q hk).1 h, fun h => by
        refine Classical.byContradiction fun hn => ?_
        have := (hinv.out k q hk).2 (by omega)
        omega⟩⟩
      have HFin := Lib.hid hfin
      clear hfin
      by_cases hal : a < l.length
      · obtain ⟨p, hp⟩ : ∃ p, l[a]? = some p := ⟨_, List.getElem?_eq_getElem hal⟩
        obtain ⟨r1, r2⟩ := HLr.out.row hp
        have hpb := HC.out.mem hp
        clear hp
        go_wp2_with fail
        refine (cmp_calls p.1 p.2 x _ (by omega) (by omega)).mono ?_
        rintro e w2 ⟨rfl, hb⟩
        have HB2 := Lib.hid (bel_next HB.out hb (Nat.le_refl _))
        clear hb
        go_wp2
        go_ret2
        exact ⟨a, _, rfl, HFin.out, HB2.out⟩
      · obtain rfl : a = l.length := by omega
        go_wp2
        go_ret2
        exact ⟨_, _, rfl, HFin.out, HB.out⟩
set_option maxRecDepth 8000 in
set_option maxHeartbeats 1000000 in
theorem behind_calls (w : World) (L g cap : Nat) (l : List (Nat × Nat)) (x : Int) (hL : LandAt w L g cap l) (hc : Canon l) (hl : l.length ≤ 100000) (hx : -10000 ≤ x ∧ x ≤ 10000) :
    Calls Tryz.prog 50 #[.pointer (some ⟨L, 0, none⟩), .int .i64 x] w fun e w' => ∃ i : Nat, e = .returned (.int .i64 i) ∧ BehR l x i ∧ Below w.heap.size w w' := by
  have HL := Lib.hid hL
  have HC := Lib.hid hc
  have c0 := hL.head
  clear hL hc
  go_enter Tryz.func50, Tryz.ntmps50
  go_wp2_with fail
  refine (search_calls _ L g cap l x HL.out HC.out hl hx).mono ?_
  rintro e w' ⟨i, b, rfl, hr, hb⟩
  have HR := Lib.hid hr
  have HB := Lib.hid hb
  clear hr hb
  go_wp2
  go_ret
  exact ⟨i, rfl, HR.out, HB.out⟩
end Go.Proofs.YtadbbknllakpcaaGreat.rn
