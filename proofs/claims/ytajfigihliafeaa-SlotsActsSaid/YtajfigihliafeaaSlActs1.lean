/- SlotsActs: the board, the document's board and the act beside each other. -/
import Derived.Test.YtajfigihliafeaaSlActsU
import Derived.Test.YtajfigihliafeaaIs9
namespace Go.Proofs.Ytajfigihliafeaa
open Go.RowKit
set_option linter.unusedVariables false

theorem size_calls (w : World) (b r a c g n cap : Nat) (sp : List Value) (f : Nat → Bool) (h : BoardAt w b r a c g n cap sp f) :
    Calls Try.prog 16 #[.pointer (some ⟨b, 0, none⟩)] w fun e w' => e = .returned (.int .i64 n) ∧ w = w' := by
  have HM := Lib.hid h
  have c0 := h.2.2.1.cell 0
  simp only [List.getElem?_cons_zero] at c0
  clear h
  go_enter Try.func16, Try.ntmps16
  go_wp2_with fail
  refine (len_calls _ r a c n f _ HM.out.2.2.2.1).mono ?_
  rintro e w' ⟨rfl, rfl⟩
  go_wp2
  go_ret
  exact ⟨rfl, rfl⟩

/-- The blocks of the two boards, of the act and of the list that is handed in. -/
structure D9 (B0 b r a c g q u A : Nat) : Prop where
  lo : B0 ≤ b ∧ B0 ≤ r ∧ B0 ≤ a ∧ B0 ≤ c ∧ B0 ≤ g ∧ B0 ≤ q ∧ B0 ≤ u ∧ B0 ≤ A
  qn : q ≠ b ∧ q ≠ r ∧ q ≠ a ∧ q ≠ c ∧ q ≠ g
  un : u ≠ b ∧ u ≠ r ∧ u ≠ a ∧ u ≠ c ∧ u ≠ g
  an : A ≠ b ∧ A ≠ r ∧ A ≠ a ∧ A ≠ c ∧ A ≠ g ∧ A ≠ q ∧ A ≠ u
/-- Does a slice keep clear of the blocks that are written? -/
def Clear9 (s : Option Addr) (sl r a c g u : Nat) : Prop := ∀ x o, s = some ⟨x, o, none⟩ → 0 < sl → x ≠ r ∧ x ≠ a ∧ x ≠ c ∧ x ≠ g ∧ x ≠ u
def Both9 (w0 w : World) (b r a c g q u A n cap : Nat) (sp cs : List Value) (s : Option Addr) (sl : Nat) (ts : List Int) (f1 f2 : Nat → Bool) : Prop :=
  BoardAt w b r a c g n cap sp f1 ∧ R9At w q u n f2 ∧ Blk w A cs 44 ∧ IntsAt w s sl ts ∧ Below w0.heap.size w0 w
section
variable {w0 w w' : World} {b r a c g q u A n cap sl : Nat} {sp cs : List Value} {s : Option Addr} {ts : List Int} {f1 f2 f' : Nat → Bool}
theorem Both9.brd (hD : D9 w0.heap.size b r a c g q u A) (hC : Clear9 s sl r a c g u) (hB : Both9 w0 w b r a c g q u A n cap sp cs s sl ts f1 f2) (h : BoardAt w' b r a c g n cap sp f') (o : Only (BrdS r a c g) w w') : Both9 w0 w' b r a c g q u A n cap sp cs s sl ts f' f2 := by
  obtain ⟨h1, h2, h3, h4, h5⟩ := hB
  have d1 := hD.lo; have d2 := hD.qn; have d3 := hD.un; have d4 := hD.an
  refine ⟨h, h2.only o (by unfold BrdS; omega) (by unfold BrdS; omega), h3.only o (by unfold BrdS; omega), h4.only o (fun x y e hl hs => ?_), bel_only h5 o (Nat.le_refl _) (fun i => BrdS_ge d1.2.1 d1.2.2.1 d1.2.2.2.1 d1.2.2.2.2.1)⟩
  have := hC x y e hl
  unfold BrdS at hs
  omega
theorem Both9.ref (hD : D9 w0.heap.size b r a c g q u A) (hC : Clear9 s sl r a c g u) (hB : Both9 w0 w b r a c g q u A n cap sp cs s sl ts f1 f2) (h : R9At w' q u n f') (o : Only (· = u) w w') : Both9 w0 w' b r a c g q u A n cap sp cs s sl ts f1 f' := by
  obtain ⟨h1, h2, h3, h4, h5⟩ := hB
  have d1 := hD.lo; have d2 := hD.qn; have d3 := hD.un; have d4 := hD.an
  refine ⟨BMid.only h1 o (by omega) (by omega) (by omega) (by omega) (by omega), h, h3.only o (by omega), h4.only o (fun x y e hl hs => ?_), bel_only h5 o (Nat.le_refl _) (fun i hi => by omega)⟩
  have := hC x y e hl
  omega
theorem Both9.below (hB : Both9 w0 w b r a c g q u A n cap sp cs s sl ts f1 f2) (o : Below w.heap.size w w') : Both9 w0 w' b r a c g q u A n cap sp cs s sl ts f1 f2 :=
  ⟨BMid.below hB.1 o, hB.2.1.below o, hB.2.2.1.below o, hB.2.2.2.1.below o, bel_next hB.2.2.2.2 o (Nat.le_refl _)⟩
theorem Both9.drew (hB : Both9 w0 w b r a c g q u A n cap sp cs s sl ts f1 f2) : Both9 w0 w.drew b r a c g q u A n cap sp cs s sl ts f1 f2 := hB.below (Below.refl _ _).drew
theorem Both9.drewN (hB : Both9 w0 w b r a c g q u A n cap sp cs s sl ts f1 f2) (k : Nat) : Both9 w0 (w.drewN k) b r a c g q u A n cap sp cs s sl ts f1 f2 := hB.below (below_drewN (Below.refl _ _) k)
theorem Both9.cell0 {v0 v1 v2 : Value} (hB : Both9 w0 w b r a c g q u A n cap sp [v0, v1, v2] s sl ts f1 f2) : w.cell? ⟨A, 0, none⟩ = some v0 := by simpa using hB.2.2.1.cell 0
theorem Both9.cell1 {v0 v1 v2 : Value} (hB : Both9 w0 w b r a c g q u A n cap sp [v0, v1, v2] s sl ts f1 f2) : w.cell? ⟨A, 1, none⟩ = some v1 := by simpa using hB.2.2.1.cell 1
theorem Both9.cell2 {v0 v1 v2 : Value} (hB : Both9 w0 w b r a c g q u A n cap sp [v0, v1, v2] s sl ts f1 f2) : w.cell? ⟨A, 2, none⟩ = some v2 := by simpa using hB.2.2.1.cell 2

/-- What both answer to Take. -/
def Ans (f : Nat → Bool) (n : Nat) (x y : Int) (f' : Nat → Bool) : Prop := (x = 0 ∧ y = 12 ∧ (∀ k, k < wn n → fr n f k = 0) ∧ f' = f) ∨ ∃ s : Nat, x = s ∧ y = 0 ∧ PickS n f s ∧ f' = put f s true
theorem Ans.one {f f1 f2 : Nat → Bool} {n : Nat} {x1 y1 x2 y2 : Int} (h : Ans f n x1 y1 f1) (h' : Ans f n x2 y2 f2) : x1 = x2 ∧ y1 = y2 ∧ f1 = f2 := by
  rcases h with ⟨rfl, rfl, hz, rfl⟩ | ⟨s, rfl, rfl, hs, rfl⟩ <;> rcases h' with ⟨rfl, rfl, hz', rfl⟩ | ⟨s', rfl, rfl, hs', rfl⟩
  · exact ⟨rfl, rfl, rfl⟩
  · have h1 := fr_none hz s' hs'.1
    rw [hs'.2.1] at h1; cases h1
  · have h1 := fr_none hz' s hs.1
    rw [hs.2.1] at h1; cases h1
  · obtain rfl := hs.one hs'
    exact ⟨rfl, rfl, rfl⟩
theorem take_both (hD : D9 w0.heap.size b r a c g q u A) (hC : Clear9 s sl r a c g u) (hB : Both9 w0 w b r a c g q u A n cap sp cs s sl ts f1 f2) :
    Calls Try.prog 10 #[.pointer (some ⟨b, 0, none⟩)] w fun e w' => ∃ x y f', e = .returned (.tuple #[.int .i64 x, .int .i64 y]) ∧ Hid (Ans f1 n x y f') ∧ Both9 w0 w' b r a c g q u A n cap sp cs s sl ts f' f2 :=
  (take_calls w b r a c g n cap sp f1 hB.1).mono fun e w' h => by
    rcases h with ⟨rfl, hz, rfl⟩ | ⟨x, rfl, hx, hb, ho⟩
    · exact ⟨_, _, f1, rfl, Lib.hid (.inl ⟨rfl, rfl, hz, rfl⟩), hB⟩
    · exact ⟨_, _, _, rfl, Lib.hid (.inr ⟨x, rfl, rfl, hx, rfl⟩), hB.brd hD hC hb ho⟩
theorem take9_both (hD : D9 w0.heap.size b r a c g q u A) (hC : Clear9 s sl r a c g u) (hB : Both9 w0 w b r a c g q u A n cap sp cs s sl ts f1 f2) :
    Calls Try.prog 17 #[.pointer (some ⟨q, 0, none⟩)] w fun e w' => ∃ x y f', e = .returned (.tuple #[.int .i64 x, .int .i64 y]) ∧ Hid (Ans f2 n x y f') ∧ Both9 w0 w' b r a c g q u A n cap sp cs s sl ts f1 f' :=
  (take9_calls w q u n f2 hB.2.1).mono fun e w' h => by
    rcases h with ⟨rfl, hz, hb⟩ | ⟨x, rfl, hx, hb, ho⟩
    · exact ⟨_, _, f2, rfl, Lib.hid (.inl ⟨rfl, rfl, hz, rfl⟩), hB.below hb⟩
    · exact ⟨_, _, _, rfl, Lib.hid (.inr ⟨x, rfl, rfl, hx, rfl⟩), hB.ref hD hC hb ho⟩
/-- What both answer to Run. -/
def RunA (f : Nat → Bool) (n : Nat) (k x y : Int) (f' : Nat → Bool) : Prop :=
  ((k < 1 ∨ 64 < k) ∧ x = 0 ∧ y = 2 ∧ f' = f) ∨ (∃ K : Nat, k = K ∧ 1 ≤ K ∧ K ≤ 64 ∧ ((x = 0 ∧ y = 12 ∧ FindR f n K (-1) ∧ f' = f) ∨ ∃ p : Nat, x = p ∧ y = 0 ∧ FindR f n K p ∧ f' = fillF f p K true))
theorem RunA.one {f f1 f2 : Nat → Bool} {n : Nat} {k x1 y1 x2 y2 : Int} (h : RunA f n k x1 y1 f1) (h' : RunA f n k x2 y2 f2) : x1 = x2 ∧ y1 = y2 ∧ f1 = f2 := by
  rcases h with ⟨hk, rfl, rfl, rfl⟩ | ⟨K, rfl, h1, h2, h⟩ <;> rcases h' with ⟨hk', rfl, rfl, rfl⟩ | ⟨K', hK, h1', h2', h'⟩
  · exact ⟨rfl, rfl, rfl⟩
  · clear h'; omega
  · clear h; omega
  · have hKK : K = K' := by clear h h'; omega
    subst hKK
    rcases h with ⟨rfl, rfl, h, rfl⟩ | ⟨p, rfl, rfl, h, rfl⟩ <;> rcases h' with ⟨rfl, rfl, h', rfl⟩ | ⟨p', rfl, rfl, h', rfl⟩
    · exact ⟨rfl, rfl, rfl⟩
    · exact (h.not_none h').elim
    · exact (h'.not_none h).elim
    · obtain rfl : p = p' := by have := h.one h'; omega
      exact ⟨rfl, rfl, rfl⟩
theorem run_both (hD : D9 w0.heap.size b r a c g q u A) (hC : Clear9 s sl r a c g u) (hB : Both9 w0 w b r a c g q u A n cap sp cs s sl ts f1 f2) (k : Int) :
    Calls Try.prog 9 #[.pointer (some ⟨b, 0, none⟩), .int .i64 k] w fun e w' => ∃ x y f', e = .returned (.tuple #[.int .i64 x, .int .i64 y]) ∧ Hid (RunA f1 n k x y f') ∧ Both9 w0 w' b r a c g q u A n cap sp cs s sl ts f' f2 := by
  by_cases hk : k < 1 ∨ 64 < k
  · exact (run_bad w b k hk).mono fun e w' ⟨h1, h2⟩ => ⟨_, _, f1, h1, Lib.hid (.inl ⟨hk, rfl, rfl, rfl⟩), h2 ▸ hB⟩
  · obtain ⟨K, rfl⟩ := Int.eq_ofNat_of_zero_le (show 0 ≤ k by omega)
    refine (run_calls w b r a c g n cap sp f1 K hB.1 (by omega) (by omega)).mono fun e w' h => ?_
    rcases h with ⟨rfl, hz, rfl⟩ | ⟨p, rfl, hp, hb, ho⟩
    · exact ⟨_, _, f1, rfl, Lib.hid (.inr ⟨K, rfl, by omega, by omega, .inl ⟨rfl, rfl, hz, rfl⟩⟩), hB⟩
    · exact ⟨_, _, _, rfl, Lib.hid (.inr ⟨K, rfl, by omega, by omega, .inr ⟨p, rfl, rfl, hp, rfl⟩⟩), hB.brd hD hC hb ho⟩
theorem run9_both (hD : D9 w0.heap.size b r a c g q u A) (hC : Clear9 s sl r a c g u) (hB : Both9 w0 w b r a c g q u A n cap sp cs s sl ts f1 f2) (k : Int) :
    Calls Try.prog 18 #[.pointer (some ⟨q, 0, none⟩), .int .i64 k] w fun e w' => ∃ x y f', e = .returned (.tuple #[.int .i64 x, .int .i64 y]) ∧ Hid (RunA f2 n k x y f') ∧ Both9 w0 w' b r a c g q u A n cap sp cs s sl ts f1 f' := by
  by_cases hk : k < 1 ∨ 64 < k
  · exact (run9_bad w q k hk).mono fun e w' ⟨h1, h2⟩ => ⟨_, _, f2, h1, Lib.hid (.inl ⟨hk, rfl, rfl, rfl⟩), h2 ▸ hB⟩
  · obtain ⟨K, rfl⟩ := Int.eq_ofNat_of_zero_le (show 0 ≤ k by omega)
    refine (run9_calls w q u n f2 K hB.2.1 (by omega) (by omega)).mono fun e w' h => ?_
    rcases h with ⟨rfl, hz, rfl⟩ | ⟨p, rfl, hp, hb, ho⟩
    · exact ⟨_, _, f2, rfl, Lib.hid (.inr ⟨K, rfl, by omega, by omega, .inl ⟨rfl, rfl, hz, rfl⟩⟩), hB⟩
    · exact ⟨_, _, _, rfl, Lib.hid (.inr ⟨K, rfl, by omega, by omega, .inr ⟨p, rfl, rfl, hp, rfl⟩⟩), hB.ref hD hC hb ho⟩
/-- What both answer to Give. -/
def GvA (f : Nat → Bool) (n : Nat) (zs : List Int) (x : Int) (f' : Nat → Bool) : Prop := (x = 2 ∧ ¬ GvTo n f zs zs.length ∧ f' = f) ∨ (x = 0 ∧ GvTo n f zs zs.length ∧ f' = clrL f zs)
theorem GvA.one {f f1 f2 : Nat → Bool} {n : Nat} {zs : List Int} {x1 x2 : Int} (h : GvA f n zs x1 f1) (h' : GvA f n zs x2 f2) : x1 = x2 ∧ f1 = f2 := by
  rcases h with ⟨rfl, h, rfl⟩ | ⟨rfl, h, rfl⟩ <;> rcases h' with ⟨rfl, h', rfl⟩ | ⟨rfl, h', rfl⟩
  · exact ⟨rfl, rfl⟩
  · exact absurd h' h
  · exact absurd h h'
  · exact ⟨rfl, rfl⟩
end
end Go.Proofs.Ytajfigihliafeaa
