/- Same; what Take, Claim and Give do to the program's rows and to the document's pages alike. -/
import Derived.Test.YtfacpamepkkhgaaRunF
namespace Go.Proofs.Ytfacpamepkkhgaa
open Go.RowKit
set_option linter.unusedVariables false

set_option maxHeartbeats 2000000 in
theorem same16_calls (w : World) (base1 base2 : Nat) (A B : Option Addr) (ca cb : Nat) (l : List (Nat × Nat)) (hA : w.ownsRow base1 35 2 (.slice A l.length ca) l.length (rowsV l)) (hB : w.ownsRow base2 35 2 (.slice B l.length cb) l.length (rowsV l)) (hl : l.length ≤ 2048) :
    Calls Try.prog 18 #[.slice A l.length ca, .slice B l.length cb] w fun e w' => e = .returned (.bool true) ∧ Below w.heap.size w w' := by
  have HA := Lib.hid hA
  have HB := Lib.hid hB
  clear hA hB
  go_enter Try.func18, Try.ntmps18
  go_wp2_with fail
  go_loopg [5] l.length (fun q i wr => ∃ j : Nat, q + j = l.length ∧ i = .int .i64 j ∧ Hid (Below w.heap.size w wr))
  case atStart => exact ⟨0, by omega, rfl, Lib.hid (Below.refl _ _)⟩
  case round =>
    obtain ⟨j, hq, rfl, hb⟩ := hrel
    by_cases hlt : j < l.length
    · obtain ⟨a, ha⟩ : ∃ a, l[j]? = some a := ⟨_, List.getElem?_eq_getElem hlt⟩
      obtain ⟨b1, rfl, r1, r2⟩ := own_rows (ownsRow_below HA.out hb.out) ha
      obtain ⟨b2, rfl, s1, s2⟩ := own_rows (ownsRow_below HB.out hb.out) ha
      clear ha
      go_wp2_with fail
      go_quiet (fail)
      go_wp2
      go_roundg (l.length - (j + 1))
      case measure => omega
      case rel => exact ⟨j + 1, by omega, by go_num, Lib.hid (bel_dn hb.out _)⟩
    · obtain rfl : j = l.length := by omega
      go_wp2
      go_ret
      exact ⟨rfl, hb.out⟩
theorem canon_of (f : Nat → Bool) (h0 : f 0 = true) : ∃ l, RelF l f := by
  have key : ∀ i, i + 1 ≤ 4096 → ∃ l, StepInv f (i + 1) l := by
    intro i
    induction i with
    | zero => intro _; exact ⟨[], step_start f⟩
    | succ i ih =>
      intro hi
      obtain ⟨l, hl⟩ := ih (by omega)
      cases hf : f (i + 1)
      · cases hp : f i
        · obtain ⟨l0, p, _, _, h⟩ := step_more hl hf hp h0 (by omega) (by omega)
          exact ⟨_, h⟩
        · exact ⟨_, step_new hl hf hp (by omega) (by omega)⟩
      · exact ⟨l, step_taken hl hf⟩
  obtain ⟨l, hl⟩ := key 4095 (by omega)
  exact ⟨l, hl.rel h0⟩
/-- What a call leaves of the program's rows. -/
def PA (w w' : World) (L g : Nat) (l m : List (Nat × Nat)) : Prop := (m = l ∧ Below w.heap.size w w') ∨ LandR w L g m w'
/-- What a call leaves of the document's pages. -/
def RA (w w' : World) (T : Nat) (f f' : Nat → Bool) : Prop := (f' = f ∧ Below w.heap.size w w') ∨ (Blk w' T (fnV 4096 fun i => .bool (f' i)) 4 ∧ Only (· = T) w w')
theorem setF_taken {l m : List (Nat × Nat)} {f : Nat → Bool} {x n : Nat} (h : RelF l f) (hm : RelF m (setF f x (x + n) true)) (j : Nat) : Fr m j ↔ Fr l j ∧ ¬ (x ≤ j ∧ j < x + n) := by
  rw [hm.2.2, h.2.2]
  unfold setF
  by_cases hj : x ≤ j ∧ j < x + n
  · rw [if_pos hj]; simp [hj]
  · rw [if_neg hj]
    exact ⟨fun h => ⟨h, hj⟩, fun h => h.1⟩
theorem setF_given {l m : List (Nat × Nat)} {f : Nat → Bool} {x n : Nat} (h : RelF l f) (hm : RelF m (setF f x (x + n) false)) (hx : 1 ≤ x) (hn : x + n ≤ 4096) (j : Nat) : Fr m j ↔ Fr l j ∨ (x ≤ j ∧ j < x + n) := by
  rw [hm.2.2, h.2.2]
  unfold setF
  by_cases hj : x ≤ j ∧ j < x + n
  · rw [if_pos hj]
    exact ⟨fun _ => .inr hj, fun _ => ⟨by omega, by omega, rfl⟩⟩
  · rw [if_neg hj]
    exact ⟨fun h => .inl h, fun h => h.resolve_right hj⟩
theorem setF_zero {f : Nat → Bool} {x j : Nat} {b : Bool} (h : f 0 = true) (hx : 1 ≤ x) : setF f x j b 0 = true := by unfold setF; rw [if_neg (by omega)]; exact h
theorem take_flat {l : List (Nat × Nat)} {f : Nat → Bool} (h : RelF l f) (n : Int) : ∃ (x c : Int) (m : List (Nat × Nat)) (f' : Nat → Bool), RelF m f' ∧
    (∀ (w w' : World) (L g : Nat) (e : Ending), TakeR w L g l n e w' → e = .returned (.tuple #[.int .i64 x, .int .i64 c]) ∧ PA w w' L g l m) ∧
    (∀ (w w' : World) (T : Nat) (e : Ending), RTakeR w T f l n e w' → e = .returned (.tuple #[.int .i64 x, .int .i64 c]) ∧ RA w w' T f f') := by
  by_cases hn : n < 1
  · refine ⟨0, 2, l, f, h, fun w w' L g e hR => ?_, fun w w' T e hR => ?_⟩
    · rcases hR with ⟨_, he, rfl⟩ | ⟨h1, _⟩ | ⟨_, _, h1, _⟩
      · exact ⟨he, .inl ⟨rfl, Below.refl _ _⟩⟩
      · omega
      · omega
    · rcases hR with ⟨_, he, rfl⟩ | ⟨h1, _⟩ | ⟨_, _, h1, _⟩
      · exact ⟨he, .inl ⟨rfl, Below.refl _ _⟩⟩
      · omega
      · omega
  obtain ⟨k, rfl⟩ : ∃ k : Nat, n = k := ⟨n.toNat, by omega⟩
  by_cases hb : ∃ b p, BestTo l k l.length b p
  · obtain ⟨b, p, hb⟩ := hb
    have hpm := h.1.mem hb.2.1
    have hpn := hb.2.2.1
    obtain ⟨m, hm⟩ := canon_of (setF f p.1 (p.1 + k) true) (setF_zero h.2.1 hpm.1)
    have hnn : ¬ NoneTo l k l.length := fun hno => by have := hno b p hb.1 hb.2.1; omega
    refine ⟨p.1, 0, m, _, hm, fun w w' L g e hR => ?_, fun w w' T e hR => ?_⟩
    · obtain ⟨he, hl⟩ := take_is hR (by omega) hb
      rw [Int.toNat_natCast] at hl
      obtain ⟨g1, g2, _, _⟩ := cut_plain h.1 hb.2.1 (Nat.le_refl _) (show p.1 + k ≤ p.1 + p.2 by omega) (by omega)
      have e1 := g1.ext hm.1 fun j => by rw [g2 j, setF_taken h hm j]
      rw [e1] at hl
      exact ⟨he, .inr hl⟩
    · rcases hR with ⟨h1, _⟩ | ⟨_, hno, _⟩ | ⟨b', p', _, hb', he, hk, ho⟩
      · omega
      · exact absurd hno hnn
      · obtain ⟨rfl, rfl⟩ := hb.one hb'
        rw [Int.toNat_natCast] at hk
        exact ⟨he, .inr ⟨hk, ho⟩⟩
  · refine ⟨0, 16, l, f, h, fun w w' L g e hR => ?_, fun w w' T e hR => ?_⟩
    · rcases hR with ⟨h1, _⟩ | ⟨_, _, he, hbl⟩ | ⟨b', p', _, hb', _⟩
      · omega
      · exact ⟨he, .inl ⟨rfl, hbl⟩⟩
      · exact absurd ⟨b', p', hb'⟩ hb
    · rcases hR with ⟨h1, _⟩ | ⟨_, _, he, hbl⟩ | ⟨b', p', _, hb', _⟩
      · omega
      · exact ⟨he, .inl ⟨rfl, hbl⟩⟩
      · exact absurd ⟨b', p', hb'⟩ hb
theorem turn_no {w w' : World} {T : Nat} {f : Nat → Bool} {x n : Int} {b : Bool} {e : Ending} (h : TurnR w T f x n b e w') (hs : thereB x n = false ∨ ∃ j : Nat, x ≤ j ∧ (j : Int) < x + n ∧ f j = b) : e = .returned (.int .i64 2) ∧ RA w w' T f f := by
  rcases h with ⟨_, he, rfl⟩ | ⟨x', n', rfl, rfl, ht, h⟩
  · exact ⟨he, .inl ⟨rfl, Below.refl _ _⟩⟩
  · rcases h with ⟨_, he, rfl⟩ | ⟨hall, _⟩
    · exact ⟨he, .inl ⟨rfl, Below.refl _ _⟩⟩
    · rcases hs with hs | ⟨j, h1, h2, h3⟩
      · rw [ht] at hs; cases hs
      · exact absurd h3 (hall j (by omega) (by omega))
theorem turn_ok {w w' : World} {T : Nat} {f : Nat → Bool} {x n : Nat} {b : Bool} {e : Ending} (h : TurnR w T f x n b e w') (ht : thereB x n = true) (hall : ∀ j, x ≤ j → j < x + n → f j ≠ b) : e = .returned (.int .i64 0) ∧ RA w w' T f (setF f x (x + n) b) := by
  rcases h with ⟨h, _⟩ | ⟨x', n', hx, hn, _, h⟩
  · rw [ht] at h; cases h
  · obtain rfl : x = x' := by omega
    obtain rfl : n = n' := by omega
    rcases h with ⟨⟨j, h1, h2, h3⟩, _⟩ | ⟨_, he, hb, ho⟩
    · exact absurd h3 (hall j h1 h2)
    · exact ⟨he, .inr ⟨hb, ho⟩⟩
theorem claim_flat {l : List (Nat × Nat)} {f : Nat → Bool} (h : RelF l f) (x n : Int) : ∃ (c : Int) (m : List (Nat × Nat)) (f' : Nat → Bool), RelF m f' ∧
    (∀ (w w' : World) (L g : Nat) (e : Ending), ClaimR w L g l x n e w' → e = .returned (.int .i64 c) ∧ PA w w' L g l m) ∧
    (∀ (w w' : World) (T : Nat) (e : Ending), TurnR w T f x n true e w' → e = .returned (.int .i64 c) ∧ RA w w' T f f') := by
  cases ht : thereB x n
  · refine ⟨2, l, f, h, fun w w' L g e hR => ?_, fun w w' T e hR => turn_no hR (.inl ht)⟩
    rcases hR with ⟨_, he, rfl⟩ | ⟨_, _, _, _, h1, _⟩
    · exact ⟨he, .inl ⟨rfl, Below.refl _ _⟩⟩
    · rw [ht] at h1; cases h1
  have ht2 : 1 ≤ n ∧ 1 ≤ x ∧ n < 4096 ∧ x ≤ 4096 - n := of_decide_eq_true ht
  obtain ⟨x', rfl⟩ : ∃ x' : Nat, x = x' := ⟨x.toNat, by omega⟩
  obtain ⟨n', rfl⟩ : ∃ n' : Nat, n = n' := ⟨n.toNat, by omega⟩
  by_cases hall : ∀ j, x' ≤ j → j < x' + n' → Fr l j
  · obtain ⟨m, hm⟩ := canon_of (setF f x' (x' + n') true) (setF_zero h.2.1 (by omega))
    refine ⟨0, m, _, hm, fun w w' L g e hR => ?_, fun w w' T e hR => turn_ok hR ht fun j h1 h2 => by rw [((h.2.2 j).1 (hall j h1 h2)).2.2]; simp⟩
    obtain ⟨he, m', g1, g2, _, hl⟩ := claim_ok h.1 hR ht hall
    have e1 := g1.ext hm.1 fun j => by rw [g2 j, setF_taken h hm j]
    rw [e1] at hl
    exact ⟨he, .inr hl⟩
  · obtain ⟨j, hj⟩ := Classical.not_forall.1 hall
    have h1 : x' ≤ j := Classical.byContradiction fun hn => hj fun h => absurd h hn
    have h2 : j < x' + n' := Classical.byContradiction fun hn => hj fun _ h => absurd h hn
    have h3 : ¬ Fr l j := fun hf => hj fun _ _ => hf
    refine ⟨2, l, f, h, fun w w' L g e hR => ?_, fun w w' T e hR => turn_no hR (.inr ⟨j, by omega, by omega, ?_⟩)⟩
    · obtain ⟨he, hb⟩ := claim_no h.1 hR h1 h2 h3
      exact ⟨he, .inl ⟨rfl, hb⟩⟩
    · cases hf : f j
      · exact absurd ((h.2.2 j).2 ⟨by omega, by omega, hf⟩) h3
      · rfl
theorem give_flat {l : List (Nat × Nat)} {f : Nat → Bool} (h : RelF l f) (x n : Int) : ∃ (c : Int) (m : List (Nat × Nat)) (f' : Nat → Bool), RelF m f' ∧
    (∀ (w w' : World) (L g : Nat) (e : Ending), GiveR w L g l x n e w' → e = .returned (.int .i64 c) ∧ PA w w' L g l m) ∧
    (∀ (w w' : World) (T : Nat) (e : Ending), TurnR w T f x n false e w' → e = .returned (.int .i64 c) ∧ RA w w' T f f') := by
  cases ht : thereB x n
  · refine ⟨2, l, f, h, fun w w' L g e hR => ?_, fun w w' T e hR => turn_no hR (.inl ht)⟩
    rcases hR with ⟨_, he, rfl⟩ | ⟨_, _, _, _, _, h1, _⟩
    · exact ⟨he, .inl ⟨rfl, Below.refl _ _⟩⟩
    · rw [ht] at h1; cases h1
  have ht2 : 1 ≤ n ∧ 1 ≤ x ∧ n < 4096 ∧ x ≤ 4096 - n := of_decide_eq_true ht
  obtain ⟨x', rfl⟩ : ∃ x' : Nat, x = x' := ⟨x.toNat, by omega⟩
  obtain ⟨n', rfl⟩ : ∃ n' : Nat, n = n' := ⟨n.toNat, by omega⟩
  by_cases hall : ∀ j, x' ≤ j → j < x' + n' → ¬ Fr l j
  · obtain ⟨m, hm⟩ := canon_of (setF f x' (x' + n') false) (setF_zero h.2.1 (by omega))
    refine ⟨0, m, _, hm, fun w w' L g e hR => ?_, fun w w' T e hR => turn_ok hR ht fun j h1 h2 hf => hall j h1 h2 ((h.2.2 j).2 ⟨by omega, by omega, hf⟩)⟩
    obtain ⟨he, m', g1, g2, hl⟩ := give_ok h.1 hR ht hall
    have e1 := g1.ext hm.1 fun j => by rw [g2 j, setF_given h hm (by omega) (by omega) j]
    rw [e1] at hl
    exact ⟨he, .inr hl⟩
  · obtain ⟨j, hj⟩ := Classical.not_forall.1 hall
    have h1 : x' ≤ j := Classical.byContradiction fun hn => hj fun h => absurd h hn
    have h2 : j < x' + n' := Classical.byContradiction fun hn => hj fun _ h => absurd h hn
    have h3 : Fr l j := Classical.byContradiction fun hf => hj fun _ _ => hf
    refine ⟨2, l, f, h, fun w w' L g e hR => ?_, fun w w' T e hR => turn_no hR (.inr ⟨j, by omega, by omega, ((h.2.2 j).1 h3).2.2⟩)⟩
    obtain ⟨he, hb⟩ := give_no h.1 hR h1 h2 h3
    exact ⟨he, .inl ⟨rfl, hb⟩⟩
/-- The program's land and the document's, side by side. -/
structure Both (w0 wr : World) (L g cap : Nat) (l : List (Nat × Nat)) (R T : Nat) (f : Nat → Bool) : Prop where
  land : LandAt wr L g cap l
  ref : RefAt wr R T f
  base : w0.heap.size ≤ L ∧ w0.heap.size ≤ g ∧ w0.heap.size ≤ R ∧ w0.heap.size ≤ T
  sep : L ≠ R ∧ L ≠ T ∧ g ≠ R ∧ g ≠ T
  bel : Below w0.heap.size w0 wr
theorem Both.prog {w0 wr w' : World} {L g cap R T : Nat} {l m : List (Nat × Nat)} {f : Nat → Bool} (h : Both w0 wr L g cap l R T f) (hp : PA wr w' L g l m) : ∃ g' cap', Both w0 w' L g' cap' m R T f := by
  have hb := h.base
  have hs := h.sep
  have hrl := h.ref.lt
  have hbs := h.bel.size
  rcases hp with ⟨rfl, hb2⟩ | ⟨g', cap', hl, hg, ho⟩
  · exact ⟨g, cap, h.land.below hb2, h.ref.below hb2, hb, hs, bel_next h.bel hb2 (Nat.le_refl _)⟩
  · refine ⟨g', cap', hl, h.ref.only ho (fun hh => ?_) (fun hh => ?_), ?_, ?_, bel_only h.bel ho (Nat.le_refl _) (fun i hi => ?_)⟩
    · unfold LandS at hh; omega
    · unfold LandS at hh; omega
    · omega
    · omega
    · unfold LandS at hi; omega
theorem Both.doc {w0 wr w' : World} {L g cap R T : Nat} {l : List (Nat × Nat)} {f f' : Nat → Bool} (h : Both w0 wr L g cap l R T f) (hp : RA wr w' T f f') : Both w0 w' L g cap l R T f' := by
  have hb := h.base
  have hs := h.sep
  rcases hp with ⟨rfl, hb2⟩ | ⟨hk, ho⟩
  · exact ⟨h.land.below hb2, h.ref.below hb2, hb, hs, bel_next h.bel hb2 (Nat.le_refl _)⟩
  · refine ⟨h.land.only ho (fun hh => ?_) (fun hh => ?_), ⟨h.ref.1, h.ref.2.1.only ho h.ref.1, hk⟩, hb, hs, bel_only h.bel ho (Nat.le_refl _) (fun i hi => ?_)⟩
    · omega
    · omega
    · omega
theorem Both.below {w0 wr w' : World} {L g cap R T : Nat} {l : List (Nat × Nat)} {f : Nat → Bool} (h : Both w0 wr L g cap l R T f) (hb2 : Below wr.heap.size wr w') : Both w0 w' L g cap l R T f :=
  ⟨h.land.below hb2, h.ref.below hb2, h.base, h.sep, bel_next h.bel hb2 (Nat.le_refl _)⟩
end Go.Proofs.Ytfacpamepkkhgaa
