/- SlotsActs: what is held against each other behind an act. -/
import Derived.Test.YtajfigihliafeaaSlActs1
namespace Go.Proofs.Ytajfigihliafeaa
open Go.RowKit
set_option linter.unusedVariables false

theorem is_calls (w : World) (b r a c g n cap : Nat) (sp : List Value) (f : Nat → Bool) (z : Int) (h : BoardAt w b r a c g n cap sp f) :
    Calls Try.prog 14 #[.pointer (some ⟨b, 0, none⟩), .int .i64 z] w fun e w' => e = .returned (.bool (hasB n f z)) ∧ w = w' := by
  have HM := Lib.hid h
  have c0 := h.2.2.1.cell 0
  simp only [List.getElem?_cons_zero] at c0
  clear h
  go_enter Try.func14, Try.ntmps14
  go_wp2_with fail
  refine (has_any _ r a c n f _ z HM.out.2.2.2.1).mono ?_
  rintro e w' ⟨rfl, rfl⟩
  go_wp2
  go_ret
  exact ⟨rfl, rfl⟩
def frL (n : Nat) (f : Nat → Bool) : List Int := (List.range (wn n)).map fun k => (fr n f k : Int)
theorem frV_eq (n : Nat) (f : Nat → Bool) : frV n f = (frL n f).map (Value.int .i64) := by unfold frV fnV frL; rw [List.map_map]; rfl
theorem frL_bd (n : Nat) (f : Nat → Bool) : ∀ z ∈ frL n f, -9223372036854775808 ≤ z ∧ z ≤ 9223372036854775807 := fun z hz => by
  obtain ⟨k, _, rfl⟩ := List.mem_map.1 hz
  have := fr_le n f k
  omega
section
variable {w0 w w' : World} {b r a c g q u A n cap sl n5 : Nat} {sp cs : List Value} {s A5 : Option Addr} {ts zs : List Int} {f f1 f2 f' : Nat → Bool}
theorem give_two (hD : D9 w0.heap.size b r a c g q u A) (hC : Clear9 s sl r a c g u) (hC5 : Clear9 A5 sl r a c g u) (hB : Both9 w0 w b r a c g q u A n cap sp cs s sl ts f1 f2) (h5 : IntsAt w A5 sl ts) {c5 : Nat} (hl : sl ≤ c5) (hcp : c5 ≤ maxLen) :
    Calls Try.prog 13 #[.pointer (some ⟨b, 0, none⟩), .slice A5 sl c5] w fun e w' => ∃ x f', e = .returned (.int .i64 x) ∧ Hid (GvA f1 n ts x f') ∧ Both9 w0 w' b r a c g q u A n cap sp cs s sl ts f' f2 ∧ IntsAt w' A5 sl ts := by
  refine (give_calls w b r a c g n cap sp f1 A5 sl c5 ts hB.1 h5 hl hcp (fun x y e hl hs => by have := hC5 x y e hl; unfold BrdS at hs; omega)).mono fun e w' h => ?_
  rcases h with ⟨rfl, hz, rfl⟩ | ⟨rfl, hz, hb, ho⟩
  · exact ⟨_, f1, rfl, Lib.hid (.inl ⟨rfl, hz, rfl⟩), hB, h5⟩
  · exact ⟨_, _, rfl, Lib.hid (.inr ⟨rfl, hz, rfl⟩), hB.brd hD hC hb ho, h5.only ho (fun x y e hl hs => by have := hC5 x y e hl; unfold BrdS at hs; omega)⟩
theorem give9_two (hD : D9 w0.heap.size b r a c g q u A) (hC : Clear9 s sl r a c g u) (hC5 : Clear9 A5 sl r a c g u) (hB : Both9 w0 w b r a c g q u A n cap sp cs s sl ts f1 f2) (h5 : IntsAt w A5 sl ts) (hl : sl ≤ 60) {sc : Nat} :
    Calls Try.prog 19 #[.pointer (some ⟨q, 0, none⟩), .slice s sl sc] w fun e w' => ∃ x f', e = .returned (.int .i64 x) ∧ Hid (GvA f2 n ts x f') ∧ Both9 w0 w' b r a c g q u A n cap sp cs s sl ts f1 f' ∧ IntsAt w' A5 sl ts := by
  refine (give9_calls w q u n f2 s sl sc ts hB.2.1 hB.2.2.2.1 (by omega) (fun x y e hl => (hC x y e hl).2.2.2.2)).mono fun e w' h => ?_
  obtain ⟨ho, ⟨rfl, hz, hb⟩ | ⟨rfl, hz, hb⟩⟩ := h
  · exact ⟨_, f2, rfl, Lib.hid (.inl ⟨rfl, hz, rfl⟩), hB.ref hD hC hb ho, h5.only ho (fun x y e hl => (hC5 x y e hl).2.2.2.2)⟩
  · exact ⟨_, _, rfl, Lib.hid (.inr ⟨rfl, hz, rfl⟩), hB.ref hD hC hb ho, h5.only ho (fun x y e hl => (hC5 x y e hl).2.2.2.2)⟩
theorem ints_two (hB : Both9 w0 w b r a c g q u A n cap sp cs s sl ts f1 f2) (h5 : IntsAt w A5 sl ts) (hl : sl ≤ 60) {c5 sc : Nat} :
    Calls Try.prog 20 #[.slice A5 sl c5, .slice s sl sc] w fun e w' => e = .returned (.bool true) ∧ Both9 w0 w' b r a c g q u A n cap sp cs s sl ts f1 f2 :=
  (ints_calls w A5 sl c5 ts s sl sc ts h5 hB.2.2.2.1 (by omega) (by omega)).mono fun e w' ⟨he, hb⟩ => ⟨by rw [he, decide_eq_true rfl], hB.below hb⟩

theorem free_pair (hB : Both9 w0 w b r a c g q u A n cap sp cs s sl ts f f) :
    Calls Try.prog 11 #[.pointer (some ⟨b, 0, none⟩)] w fun e w' => e = .returned (.int .i64 ((n - cntF f n : Nat) : Int)) ∧ Both9 w0 w' b r a c g q u A n cap sp cs s sl ts f f :=
  (free_calls w b r a c g n cap sp f hB.1).mono fun e w' ⟨he, k, hk⟩ => ⟨he, by rw [hk]; exact hB.drewN k⟩
theorem free9_pair (hB : Both9 w0 w b r a c g q u A n cap sp cs s sl ts f f) :
    Calls Try.prog 21 #[.pointer (some ⟨q, 0, none⟩)] w fun e w' => e = .returned (.int .i64 ((n - cntF f n : Nat) : Int)) ∧ Both9 w0 w' b r a c g q u A n cap sp cs s sl ts f f :=
  (free9_calls w q u n f hB.2.1).mono fun e w' ⟨he, hw⟩ => ⟨he, hw ▸ hB⟩
theorem clusters_pair (hB : Both9 w0 w b r a c g q u A n cap sp cs s sl ts f f) :
    Calls Try.prog 12 #[.pointer (some ⟨b, 0, none⟩)] w fun e w' => ∃ A1 c1, e = .returned (.slice A1 (wn n) c1) ∧ IntsAt w' A1 (wn n) (frL n f) ∧ Below w.heap.size w w' ∧ Both9 w0 w' b r a c g q u A n cap sp cs s sl ts f f :=
  (clusters_calls w b r a c g n cap sp f hB.1).mono fun e w' ⟨v, he, ho, hb⟩ => by
    rw [frV_eq] at ho
    obtain ⟨A1, c1, rfl, hi, _⟩ := IntsAt.of_own ho (frL_bd n f)
    exact ⟨A1, c1, he, hi, hb, hB.below hb⟩
theorem clusters9_pair (hB : Both9 w0 w b r a c g q u A n cap sp cs s sl ts f f) :
    Calls Try.prog 22 #[.pointer (some ⟨q, 0, none⟩)] w fun e w' => ∃ A1 c1, e = .returned (.slice A1 (wn n) c1) ∧ IntsAt w' A1 (wn n) (frL n f) ∧ Below w.heap.size w w' ∧ Both9 w0 w' b r a c g q u A n cap sp cs s sl ts f f :=
  (clusters9_calls w q u n f hB.2.1).mono fun e w' ⟨v, he, ho, hb⟩ => by
    rw [frV_eq] at ho
    obtain ⟨A1, c1, rfl, hi, _⟩ := IntsAt.of_own ho (frL_bd n f)
    exact ⟨A1, c1, he, hi, hb, hB.below hb⟩
theorem ints_pair (hB : Both9 w0 w b r a c g q u A n cap sp cs s sl ts f f) {A1 A2 : Option Addr} {c1 c2 : Nat} (h1 : IntsAt w A1 (wn n) (frL n f)) (h2 : IntsAt w A2 (wn n) (frL n f)) :
    Calls Try.prog 20 #[.slice A1 (wn n) c1, .slice A2 (wn n) c2] w fun e w' => e = .returned (.bool true) ∧ Both9 w0 w' b r a c g q u A n cap sp cs s sl ts f f := by
  have hW : wn n ≤ 100000 := by have := hB.2.1.2.1.2; unfold wn; omega
  exact (ints_calls w A1 (wn n) c1 _ A2 (wn n) c2 _ h1 h2 hW hW).mono fun e w' ⟨he, hb⟩ => ⟨by rw [he, decide_eq_true rfl], hB.below hb⟩
theorem is_pair (hB : Both9 w0 w b r a c g q u A n cap sp cs s sl ts f f) (k : Int) :
    Calls Try.prog 14 #[.pointer (some ⟨b, 0, none⟩), .int .i64 k] w fun e w' => e = .returned (.bool (hasB n f k)) ∧ w = w' := is_calls w b r a c g n cap sp f k hB.1
theorem Both9.rc (hB : Both9 w0 w b r a c g q u A n cap sp cs s sl ts f1 f2) : w.cell? ⟨q, 0, none⟩ = some (.slice (some ⟨u, 0, none⟩) n n) := by simpa using hB.2.1.2.2.1.cell 0
theorem Both9.ru (hB : Both9 w0 w b r a c g q u A n cap sp cs s sl ts f1 f2) (x : Nat) (hx : x < n) : w.cell? ⟨u, x, none⟩ = some (.bool (f2 x)) := by
  rw [hB.2.1.2.2.2.cell x, fnV_at _ _ _ hx]
end
end Go.Proofs.Ytajfigihliafeaa
