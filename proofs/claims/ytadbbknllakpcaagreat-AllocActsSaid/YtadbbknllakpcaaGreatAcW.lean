/- AllocActs: the program's heap and the document's, side by side. -/
import Derived.Test.YtadbbknllakpcaaGreatAcB
import Derived.Test.YtadbbknllakpcaaGreatAcE
namespace Go.Proofs.YtadbbknllakpcaaGreat
open Go.RowKit
set_option linter.unusedVariables false

theorem obj_one {S : List Sp} (hI : Inv S) {a b z y x : Int} (h1 : Obj S a z) (h2 : Obj S b y) (hx : a ≤ x ∧ x < a + z) (hy : b ≤ x ∧ x < b + y) : a = b ∧ z = y := by
  obtain ⟨s, hs, i, hi, _, rfl, rfl⟩ := h1
  obtain ⟨t, ht, j, hj, _, rfl, rfl⟩ := h2
  have g1 := at_in (hI.1 s hs).1 hi
  have g2 := at_in (hI.1 t ht).1 hj
  obtain rfl := in_one hI hs ht (x := x) (by omega) (by omega)
  obtain rfl := at_inj (hI.1 s hs).1 (i := i) (j := j) (x := x) hx hy
  exact ⟨rfl, rfl⟩
theorem FindL.one {S : List Sp} (hI : Inv S) {x a k a2 k2 : Int} {b b2 : Bool} (h : FindL S x a k b) (h2 : FindL S x a2 k2 b2) : a = a2 ∧ k = k2 ∧ b = b2 := by
  rcases h with ⟨rfl, rfl, rfl, hno⟩ | ⟨rfl, ho, h1, h3⟩
  · rcases h2 with ⟨rfl, rfl, rfl, _⟩ | ⟨_, ho2, h4, h5⟩
    · exact ⟨rfl, rfl, rfl⟩
    · exact absurd ⟨h4, h5⟩ (hno _ _ ho2)
  · rcases h2 with ⟨_, _, _, hno⟩ | ⟨rfl, ho2, h4, h5⟩
    · exact absurd ⟨h1, h3⟩ (hno _ _ ho)
    · obtain ⟨rfl, rfl⟩ := obj_one hI ho ho2 ⟨h1, h3⟩ ⟨h4, h5⟩
      exact ⟨rfl, rfl, rfl⟩
theorem FreeL.one {S : List Sp} (hI : Inv S) {x r n e r2 n2 e2 : Int} {l l' l2 l3 : List (Nat × Nat)} {S' S2 : List Sp} (h : FreeL S l x r n e S' l') (h2 : FreeL S l2 x r2 n2 e2 S2 l3) : r = r2 ∧ n = n2 ∧ e = e2 ∧ S' = S2 := by
  rcases h with ⟨rfl, rfl, rfl, rfl, _, hno⟩ | ⟨s, hs, i, hi, hf, hx, rfl, rfl, hr⟩
  · rcases h2 with ⟨rfl, rfl, rfl, rfl, _, _⟩ | ⟨t, ht, j, hj, hg, hy, _, _, _⟩
    · exact ⟨rfl, rfl, rfl, rfl⟩
    · exact absurd ⟨t, ht, j, hj, hg, hy, rfl⟩ (hno _)
  · rcases h2 with ⟨_, _, _, _, _, hno⟩ | ⟨t, ht, j, hj, hg, hy, rfl, rfl, hr2⟩
    · exact absurd ⟨s, hs, i, hi, hf, hx, rfl⟩ (hno _)
    · have g1 := at_in (hI.1 s hs).1 hi
      have g2 := at_in (hI.1 t ht).1 hj
      have z1 := (hI.1 s hs).1.size
      have z2 := (hI.1 t ht).1.size
      obtain rfl := in_one hI hs ht (x := x) (by omega) (by omega)
      obtain rfl := at_inj (hI.1 s hs).1 (i := i) (j := j) (x := x) (by omega) (by omega)
      rcases hr with ⟨h1, rfl, rfl, _⟩ | ⟨h1, rfl, rfl⟩
      · rcases hr2 with ⟨h2, rfl, rfl, _⟩ | ⟨h2, rfl, rfl⟩
        · exact ⟨rfl, rfl, rfl, rfl⟩
        · omega
      · rcases hr2 with ⟨h2, rfl, rfl, _⟩ | ⟨h2, rfl, rfl⟩
        · omega
        · exact ⟨rfl, rfl, rfl, rfl⟩
theorem StF.step2 {F : Nat → Prop} {w wr w' : World} {H L n n' : Nat} {S S' : List Sp} {l l' : List (Nat × Nat)} {xs : List Int} {v : Value} (h : StF F w wr H L n S l xs v) (hs : HStep F wr w' H L n' S' l') (hl : LandOf S' l') : ∃ F', StF F' w w' H L n' S' l' xs v ∧ ∀ k, F' k → F k ∨ wr.heap.size ≤ k := by
  obtain ⟨h1, h2, h3, h4, h5, h6⟩ := h
  obtain ⟨F', g1, g2, g3⟩ := hs
  refine ⟨F', ⟨g1, hl, fun k hk => (g3 k hk).elim (h3 k) (fun h => Nat.le_trans h6.size h), own_onlyC h4 g2 (fun k hk hF => h5 k hk hF), fun k hk hF => ?_, bel_only h6 g2 (Nat.le_refl _) h3⟩, g3⟩
  rcases g3 k hF with h | h
  · exact h5 k hk h
  · have := (h4.lt k hk).2; omega
/-- Whose blocks may be written. -/
def KF (F : Nat → Prop) (R : Nat) (v : Value) (k : Nat) : Prop := F k ∨ k = R ∨ v.ownBlock = some k
structure Dbl (F : Nat → Prop) (w wr : World) (H L n : Nat) (S : List Sp) (l : List (Nat × Nat)) (xs : List Int) (v : Value) (R : Nat) (A : Option Addr) (cap : Nat) (Z : List Zp) : Prop where
  st : StF F w wr H L n S l xs v
  rf : RHp wr R A cap Z (KF F R v)
  nF : ¬ F R
  nv : v.ownBlock ≠ some R
  ge : w.heap.size ≤ R
/-- The act that is done now, in a block of its own. -/
structure ActB (wr : World) (F : Nat → Prop) (R : Nat) (v : Value) (X : Nat) (kd n : Int) : Prop where
  blk : Blk wr X [.int .i64 kd, .int .i64 n] 39
  xF : ¬ F X
  xR : X ≠ R
  xv : v.ownBlock ≠ some X
section
variable {F : Nat → Prop} {w wr w' : World} {H L n : Nat} {S : List Sp} {l : List (Nat × Nat)} {xs : List Int} {v : Value} {R : Nat} {A : Option Addr} {cap : Nat} {Z : List Zp}
theorem Dbl.kb (h : Dbl F w wr H L n S l xs v R A cap Z) : ∀ k, KF F R v k → k < wr.heap.size := fun k hk => by
  rcases hk with h1 | h1 | h1
  · exact h.st.1.lt k h1
  · subst h1; exact h.rf.blk.lt
  · exact (h.st.2.2.2.1.lt k h1).2
theorem Dbl.below (h : Dbl F w wr H L n S l xs v R A cap Z) (hb : Below wr.heap.size wr w') : Dbl F w w' H L n S l xs v R A cap Z := ⟨h.st.below hb, h.rf.below hb, h.nF, h.nv, h.ge⟩
theorem ActB.below {X : Nat} {kd m : Int} (h : ActB wr F R v X kd m) (hb : Below wr.heap.size wr w') : ActB w' F R v X kd m := ⟨h.blk.below hb, h.xF, h.xR, h.xv⟩
/-- The program's heap has done a step. -/
theorem Dbl.heap (h : Dbl F w wr H L n S l xs v R A cap Z) {n' : Nat} {S' : List Sp} {l' : List (Nat × Nat)} (hs : HStep F wr w' H L n' S' l') (hl : LandOf S' l') :
    ∃ F', Dbl F' w w' H L n' S' l' xs v R A cap Z ∧ ∀ X kd m, ActB wr F R v X kd m → ActB w' F' R v X kd m := by
  obtain ⟨F', g1, g2⟩ := h.st.step2 hs hl
  have ho : Only F wr w' := hs.only
  have hRl := h.rf.blk.lt
  have hnF : ¬ F' R := fun hF => (g2 R hF).elim h.nF (fun h1 => by omega)
  refine ⟨F', ⟨g1, ?_, hnF, h.nv, h.ge⟩, fun X kd m ha => ⟨ha.blk.only ho ha.xF, fun hF => (g2 X hF).elim ha.xF (fun h1 => by have := ha.blk.lt; omega), ha.xR, ha.xv⟩⟩
  have h1 := h.rf.wide (K' := fun k => F' k ∨ KF F R v k) (fun k hk hh => hh.elim (fun h2 => (g2 k h2).elim .inl (fun h3 => by omega)) id) (.inr (.inr (.inl rfl)))
  have h2 := h1.only ho (fun k hk => .inr (.inl hk)) h.nF
  exact h2.wide (fun k _ hk => hk.elim .inl (fun h3 => .inr (.inr h3))) (.inr (.inl rfl))
/-- The document's heap has done a step. -/
theorem Dbl.doc (h : Dbl F w wr H L n S l xs v R A cap Z) {S' : List Sp} (hst : RStep wr w' R S' (KF F R v)) :
    ∃ A' cap' Z', spsZ Z' = S' ∧ Dbl F w w' H L n S l xs v R A' cap' Z' ∧ ∀ X kd m, ActB wr F R v X kd m → ActB w' F R v X kd m := by
  obtain ⟨A', cap', Z', h1, h2, ho⟩ := hst
  obtain ⟨a1, a2, a3, a4, a5, a6⟩ := h.st
  refine ⟨A', cap', Z', h1, ⟨⟨a1.only ho (fun k hk e => by have e : k = R := e; subst e; exact h.nF hk), a2, a3, own_onlyC a4 ho (fun k hk e => by have e : k = R := e; subst e; exact h.nv hk), a5, bel_only a6 ho (Nat.le_refl _) (fun k hk => by have e : k = R := hk; subst e; exact h.ge)⟩, h2, h.nF, h.nv, h.ge⟩, fun X kd m ha => ⟨ha.blk.only ho ha.xR, ha.xF, ha.xR, ha.xv⟩⟩
/-- An address is noted. -/
theorem Dbl.app (h : Dbl F w wr H L n S l xs v R A cap Z) {v' : Value} {x : Int} (ho : w'.ownsRow w.heap.size 3 1 v' (xs.length + 1) (intsV xs ++ (#[Value.int .i64 x]).toList)) (hg : wr.grownBy w' v.ownBlock) (hn : NewRow (wr.heap.size + 1) v v') : Dbl F w w' H L n S l (xs ++ [x]) v' R A cap Z := by
  have hRl := h.rf.blk.lt
  have hon : Only (fun k => v.ownBlock = some k) wr w' := Only.grown (S := fun k => v.ownBlock = some k) (Only.refl _ wr) hg (fun k hk _ => hk)
  have hnv : v'.ownBlock ≠ some R := fun e => by
    rcases hn with h1 | ⟨j, h1, hj⟩
    · rw [h1] at e; exact h.nv e
    · rw [h1] at e; cases e; omega
  refine ⟨h.st.app ho hg hn, ?_, h.nF, hnv, h.ge⟩
  have h1 := h.rf.wide (K' := fun k => v'.ownBlock = some k ∨ KF F R v k) (fun k hk hh => hh.elim (fun h2 => by
    rcases hn with h3 | ⟨j, h3, hj⟩
    · rw [h3] at h2; exact .inr (.inr h2)
    · rw [h3] at h2; cases h2; omega) id) (.inr (.inr (.inl rfl)))
  have h2 := h1.only hon (fun k hk => .inr (.inr (.inr hk))) h.nv
  refine h2.wide (fun k _ hk => ?_) (.inr (.inl rfl))
  rcases hk with h3 | h3 | h3
  · exact .inr (.inl h3)
  · exact .inr (.inr (.inl h3))
  · exact .inl h3
/-- At the start: the spans that came in, and one address. -/
theorem Dbl.start {w1 w2 : World} {c9 : Nat} {A9 : Option Addr} (hH : HeapAt w1 H L n S l F) (hl : LandOf S l) (hF : ∀ k, F k → w.heap.size ≤ k) (hb1 : Below w.heap.size w w1) (hb2 : Below w1.heap.size w1 w2) (ho : w2.ownsRow w1.heap.size 27 4 (.slice A9 Z.length c9) Z.length (cz Z)) (hw : ∀ z ∈ Z, WordsAt w z.2.1 z.1.len z.1.f) (hI : Inv (spsZ Z)) :
    Dbl F w ((w2.alloc (.cells #[.slice A9 Z.length c9] 36)).alloc (.cells #[.int .i64 512] 3)) H L n S l [512] (.slice (some ⟨w2.heap.size + 1, 0, none⟩) 1 1) w2.heap.size A9 c9 Z := by
  have e3 : (w2.alloc (.cells #[.slice A9 Z.length c9] 36)).heap.size = w2.heap.size + 1 := by simp
  obtain ⟨w3, hw3⟩ : ∃ w3, w2.alloc (.cells #[.slice A9 Z.length c9] 36) = w3 := ⟨_, rfl⟩
  have hb3 : Below w2.heap.size w2 w3 := by rw [← hw3]; exact (Below.refl _ _).alloc (Nat.le_refl _) _
  have hk3 : Blk w3 w2.heap.size [.slice A9 Z.length c9] 36 := by rw [← hw3]; exact Blk.new w2 #[.slice A9 Z.length c9] 36
  rw [hw3] at e3 ⊢
  have hb4 : Below w3.heap.size w3 (w3.alloc (.cells #[.int .i64 512] 3)) := (Below.refl _ _).alloc (Nat.le_refl _) _
  have ho4 : (w3.alloc (.cells #[.int .i64 512] 3)).ownsRow w.heap.size 3 1 (.slice (some ⟨w3.heap.size, 0, none⟩) 1 1) 1 [.int .i64 512] := (Blk.new w3 #[.int .i64 512] 3).owns (by have := hb1.size; have := hb2.size; omega) rfl (by unfold maxLen; omega)
  have e4 : (w3.alloc (.cells #[.int .i64 512] 3)).heap.size = w3.heap.size + 1 := by simp
  obtain ⟨w4, hw4⟩ : ∃ w4, w3.alloc (.cells #[.int .i64 512] 3) = w4 := ⟨_, rfl⟩
  rw [hw4] at hb4 ho4 e4 ⊢
  rw [e3] at ho4 e4
  have s1 := hb1.size
  have s2 := hb2.size
  have hb14 : Below w1.heap.size w1 w4 := bel_next (bel_next hb2 hb3 (Nat.le_refl _)) hb4 (Nat.le_refl _)
  have hbw : Below w.heap.size w w4 := bel_next hb1 hb14 (Nat.le_refl _)
  have hob : (Value.slice (some (⟨w2.heap.size + 1, 0, none⟩ : Addr)) 1 1).ownBlock = some (w2.heap.size + 1) := by simp [Value.ownBlock]
  have hK : ∀ k, KF F w2.heap.size (.slice (some ⟨w2.heap.size + 1, 0, none⟩) 1 1) k → w.heap.size ≤ k ∧ (F k ∨ w2.heap.size ≤ k) := fun k hk => by
    rcases hk with h1 | h1 | h1
    · exact ⟨hF k h1, .inl h1⟩
    · omega
    · rw [hob] at h1; cases h1; omega
  refine ⟨⟨hH.below hb14, hl, hF, ho4, fun k hk hFk => ?_, hbw⟩, ⟨hk3.below hb4, ⟨?_, ?_, fun z hz => ⟨?_, ?_⟩⟩, hI, own_capZ ho, .inr (.inl rfl)⟩, fun hFk => ?_, ?_, by omega⟩
  · rw [hob] at hk; cases hk
    have := hH.lt _ hFk; omega
  · exact (RdAt.of_own ho).below (bel_next hb3 hb4 (Nat.le_refl _))
  · intro b o e
    subst e
    have h1 := ho.lt b rfl
    have := hb3.size
    have := hb4.size
    refine ⟨by omega, fun hk => ?_⟩
    rcases (hK b hk).2 with h2 | h2
    · have := hH.lt b h2; omega
    · omega
  · exact (hw z hz).below hbw
  · intro b o e
    have h1 := (hw z hz).lt ((hI.1 z.1 (List.mem_map.2 ⟨z, hz, rfl⟩)).1.len1) b o e
    have := hbw.size
    exact ⟨by omega, fun hk => by have := (hK b hk).1; omega⟩
  · have := hH.lt _ hFk; omega
  · rw [hob]; intro e; simp only [Option.some.injEq] at e; omega
/-- An act is laid in a block of its own. -/
theorem Dbl.lay (h : Dbl F w wr H L n S l xs v R A cap Z) (kd m : Int) : ∃ W, wr.alloc (.cells #[.int .i64 kd, .int .i64 m] 39) = W ∧ Dbl F w W H L n S l xs v R A cap Z ∧ ActB W F R v wr.heap.size kd m := by
  have hb : Below wr.heap.size wr (wr.alloc (.cells #[.int .i64 kd, .int .i64 m] 39)) := (Below.refl _ _).alloc (Nat.le_refl _) _
  refine ⟨_, rfl, h.below hb, Blk.new wr #[.int .i64 kd, .int .i64 m] 39, fun hF => ?_, fun e => ?_, fun e => ?_⟩
  · have := h.st.1.lt _ hF; omega
  · have := h.rf.blk.lt; omega
  · have := (h.st.2.2.2.1.lt _ e).2; omega
end
end Go.Proofs.YtadbbknllakpcaaGreat
