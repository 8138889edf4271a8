/- The walks through package slots: a board in memory; turn, Take, Run, Free, Is. -/
import Derived.Test.YtajfigihliafeaaBrdM
import Derived.Test.YtajfigihliafeaaNum
import Derived.Test.YtajfigihliafeaaBitT
namespace Go.Proofs.Ytajfigihliafeaa
open Go.RowKit
set_option linter.unusedVariables false

theorem fnVa_at (k : Nat) (F : Nat → Value) (sp : List Value) (i : Nat) (h : i < k) : (fnV k F ++ sp)[i]? = some (F i) := by
  rw [List.getElem?_append_left (by rw [fnV_length]; exact h), fnV_at _ _ _ h]
theorem fnVa_set (k : Nat) (F : Nat → Value) (sp : List Value) (i : Nat) (v : Value) (h : i < k) : (fnV k F ++ sp).set i v = fnV k (fun j => if j = i then v else F j) ++ sp := by
  rw [List.set_append_left _ _ (by rw [fnV_length]; exact h), fnV_set]

/-- A board in memory: f which slots are taken, f2 by which the clusters are counted. -/
def BMid (w : World) (b r a c g n cap : Nat) (sp : List Value) (f f2 : Nat → Bool) : Prop :=
  (b ≠ r ∧ b ≠ a ∧ b ≠ c ∧ b ≠ g ∧ g ≠ r ∧ g ≠ a ∧ g ≠ c) ∧ (1 ≤ n ∧ wn n ≤ cap ∧ cap ≤ maxLen) ∧ Blk w b [.pointer (some ⟨r, 0, none⟩), .slice (some ⟨g, 0, none⟩) (wn n) cap] 58 ∧ RowAt w r a c n f ∧
    Blk w g (fnV (wn n) (fun k => .int .i64 (fr n f2 k)) ++ sp) 3
def BoardAt (w : World) (b r a c g n cap : Nat) (sp : List Value) (f : Nat → Bool) : Prop := BMid w b r a c g n cap sp f f
def BrdS (r a c g : Nat) (i : Nat) : Prop := i = r ∨ i = a ∨ i = c ∨ i = g
theorem BMid.only {w w' : World} {b r a c g n cap : Nat} {sp : List Value} {f f2 : Nat → Bool} {S : Nat → Prop} (h : BMid w b r a c g n cap sp f f2) (o : Only S w w') (h0 : ¬ S b) (h1 : ¬ S r) (h2 : ¬ S a) (h3 : ¬ S c) (h4 : ¬ S g) : BMid w' b r a c g n cap sp f f2 :=
  ⟨h.1, h.2.1, h.2.2.1.only o h0, RowMid.only h.2.2.2.1 o h1 h2 h3, h.2.2.2.2.only o h4⟩
theorem BMid.below {w w' : World} {b r a c g n cap : Nat} {sp : List Value} {f f2 : Nat → Bool} (h : BMid w b r a c g n cap sp f f2) (o : Below w.heap.size w w') : BMid w' b r a c g n cap sp f f2 :=
  ⟨h.1, h.2.1, h.2.2.1.below o, RowMid.below h.2.2.2.1 o, h.2.2.2.2.below o⟩
theorem BMid.drewN {w : World} {b r a c g n cap : Nat} {sp : List Value} {f f2 : Nat → Bool} (h : BMid w b r a c g n cap sp f f2) (q : Nat) : BMid (w.drewN q) b r a c g n cap sp f f2 := h
theorem BMid.row {w w' : World} {b r a c g n cap : Nat} {sp : List Value} {f f2 f' : Nat → Bool} (h : BMid w b r a c g n cap sp f f2) (o : Only (RowS r a c) w w') (hr : RowAt w' r a c n f') : BMid w' b r a c g n cap sp f' f2 := by
  obtain ⟨h1, h2, h3, h4, h5⟩ := h
  exact ⟨h1, h2, h3.only o (fun h => by unfold RowS at h; omega), hr, h5.only o (fun h => by unfold RowS at h; omega)⟩
theorem BMid.count {w : World} {b r a c g n cap : Nat} {sp : List Value} {f f2 : Nat → Bool} (h : BMid w b r a c g n cap sp f f2) (i : Nat) (s : Bool) (hi : i < n) (hf : f2 i = !s) :
    BMid (w.setCell ⟨g, i / 64, none⟩ (.int .i64 (fr n (put f2 i s) (i / 64)))) b r a c g n cap sp f (put f2 i s) := by
  obtain ⟨h1, h2, h3, h4, h5⟩ := h
  have ho : Only (· = g) w (w.setCell ⟨g, i / 64, none⟩ (.int .i64 (fr n (put f2 i s) (i / 64)))) := Only.set (S := fun x => x = g) (Only.refl _ w) (fun _ => rfl) _
  refine ⟨h1, h2, h3.set_other h1.2.2.2.1 _ _, RowMid.only h4 ho (fun e => by omega) (fun e => by omega) (fun e => by omega), ?_⟩
  have := h5.set (i / 64) (.int .i64 (fr n (put f2 i s) (i / 64)))
  rw [fnVa_set _ _ _ _ _ (by unfold wn; omega)] at this
  have e : (fun j => if j = i / 64 then Value.int .i64 (fr n (put f2 i s) (i / 64)) else Value.int .i64 (fr n f2 j)) = (fun j => Value.int .i64 (fr n (put f2 i s) j)) := funext fun j => by
    by_cases hj : j = i / 64
    · rw [if_pos hj, hj]
    · rw [if_neg hj]
      cases s
      · have := fr_clear n f2 i hi hf j
        rw [if_neg hj] at this
        rw [this]; rfl
      · have := fr_set n f2 i hi hf j
        rw [if_neg hj] at this
        rw [← this]; rfl
  rw [e] at this
  exact this

set_option maxHeartbeats 2000000 in
theorem bturn_ok (w : World) (b r a c g n cap : Nat) (sp : List Value) (f : Nat → Bool) (A K : Nat) (s : Bool) (h : BoardAt w b r a c g n cap sp f) (hA : A + K ≤ n) (hc : ∀ i, A ≤ i → i < A + K → f i = !s) :
    Calls Try.prog 24 #[.pointer (some ⟨b, 0, none⟩), .int .i64 A, .int .i64 K, .bool s] w fun e w' => e = .returned (.int .i64 0) ∧ BoardAt w' b r a c g n cap sp (fillF f A K s) ∧ Only (BrdS r a c g) w w' := by
  have HM := Lib.hid h
  have HC := Lib.hid hc
  have c0 := h.2.2.1.cell 0
  simp only [List.getElem?_cons_zero] at c0
  have hn := h.2.2.2.1.2.1
  clear h hc
  cases s
  case' false =>
    go_enter Try.func24, Try.ntmps24
    go_wp2_with fail
    refine (clear_ok _ r a c n f A K HM.out.2.2.2.1 hA HC.out).mono ?_
    obtain ⟨s, hs⟩ : ∃ s, s = false := ⟨_, rfl⟩
    have by0 : (1 : Int) = if s then -1 else 1 := by rw [hs]; rfl
  case' true =>
    go_enter Try.func24, Try.ntmps24
    go_wp2_with fail
    refine (set_ok _ r a c n f A K HM.out.2.2.2.1 hA HC.out).mono ?_
    obtain ⟨s, hs⟩ : ∃ s, s = true := ⟨_, rfl⟩
    have by0 : (-1 : Int) = if s then -1 else 1 := by rw [hs]; rfl
  all_goals
    clear by0
    rintro e w1 ⟨rfl, hr, ho⟩
    have HR := Lib.hid (HM.out.row ho hr)
    have HO := Lib.hid (ho.mono (T := BrdS r a c g) (fun i _ h => by unfold RowS at h; unfold BrdS; omega))
    have HS := Lib.hid hs
    clear hr ho hs
    go_wp2_with fail
    go_loopg [11] K (fun q i wr => ∃ j : Nat, q + j = K ∧ i = .int .i64 ((A + j : Nat) : Int) ∧ BMid wr b r a c g n cap sp (fillF f A K s) (fillF f A j s) ∧ Only (BrdS r a c g) w wr)
    case atStart => exact ⟨0, by omega, by go_num, by rw [fillF_zero, HS.out]; exact HR.out, HO.out⟩
    case round =>
      obtain ⟨j, hj, rfl, hm, ho⟩ := hrel
      have HMj := Lib.hid hm
      have HOj := Lib.hid ho
      by_cases hlt : j < K
      · obtain ⟨x, hx⟩ : ∃ x, A + j = x := ⟨_, rfl⟩
        have hxi : (A : Int) + (j : Int) = (x : Int) := by omega
        have hxn : x < n := by omega
        have hk : x / 64 < wn n := by unfold wn; omega
        have hW : wn n ≤ 65536 := by unfold wn; omega
        have d1 := hm.2.2.1.cell 1
        simp only [List.getElem?_cons_zero, List.getElem?_cons_succ] at d1
        have dg := hm.2.2.2.2.cell (x / 64)
        rw [fnVa_at _ _ _ _ hk] at dg
        have fg := hm.2.2.2.2.free (x / 64)
        have hle := fr_le n (fillF f A j s) (x / 64)
        have hfx : fillF f A j s x = !s := by unfold fillF; rw [if_neg (by omega)]; rw [HS.out]; exact HC.out x (by omega) (by omega)
        have hst := Lib.hid (hm.count x s hxn hfx)
        have hval : (fr n (put (fillF f A j s) x s) (x / 64) : Int) = (fr n (fillF f A j s) (x / 64) : Int) + (if s then -1 else 1) := by
          cases s
          · have := fr_clear n _ x hxn hfx (x / 64); rw [if_pos rfl] at this; rw [this]; simp
          · have := fr_set n _ x hxn hfx (x / 64); rw [if_pos rfl] at this; simp; omega
        rw [HS.out] at hval
        simp only [if_true, Bool.false_eq_true, if_false] at hval
        have HV := Lib.hid hval
        have HX := Lib.hid hx
        rw [hx]
        clear hm ho hx hfx hval
        go_wp2
        go_roundg (gk - 1)
        case measure => omega
        case rel =>
          refine ⟨j + 1, by omega, by have := HX.out; go_num, ?_, ?_⟩
          · have := hst.out
            rw [← fillF_succ, HX.out]
            rw [HS.out] at this ⊢
            rw [HV.out] at this
            exact this
          · exact HOj.out.set (fun _ => .inr (.inr (.inr rfl))) _
      · obtain rfl : j = K := by omega
        go_wp2
        go_ret
        exact ⟨rfl, by have := HMj.out; rw [HS.out] at this; exact this, HOj.out⟩
end Go.Proofs.Ytajfigihliafeaa
