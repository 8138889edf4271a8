/- Plain: what Alloc comes to. -/
import Derived.Test.YtadbbknllakpcaaGreatHeapC
import Derived.Test.YtadbbknllakpcaaGreatRnB
import Derived.Test.YtadbbknllakpcaaGreatDagA
namespace Go.Proofs.YtadbbknllakpcaaGreat
open Go.RowKit
set_option linter.unusedVariables false

theorem best_ex (l : List (Nat × Nat)) (n : Int) : ∀ j, j ≤ l.length → rn.NoneTo l n j ∨ ∃ b p, rn.BestTo l n j b p
  | 0, _ => .inl (fun k a h => by omega)
  | j + 1, hj => by
    obtain ⟨a, ha⟩ : ∃ a, l[j]? = some a := ⟨_, List.getElem?_eq_getElem (by omega)⟩
    rcases best_ex l n j (by omega) with h | ⟨b, p, hb, hp, hn, h⟩
    · by_cases hc : (a.2 : Int) < n
      · refine .inl (fun k q hk hq => ?_)
        by_cases e : k = j
        · subst e; rw [ha] at hq; cases hq; exact hc
        · exact h k q (by omega) hq
      · refine .inr ⟨j, a, by omega, ha, by omega, fun k q hk hq hnq => ?_⟩
        by_cases e : k = j
        · subst e; rw [ha] at hq; cases hq; exact ⟨Nat.le_refl _, fun h => by omega⟩
        · have := h k q (by omega) hq; omega
    · by_cases hc : n ≤ (a.2 : Int) ∧ a.2 < p.2
      · refine .inr ⟨j, a, by omega, ha, hc.1, fun k q hk hq hnq => ?_⟩
        by_cases e : k = j
        · subst e; rw [ha] at hq; cases hq; exact ⟨Nat.le_refl _, fun h => by omega⟩
        · have := h k q (by omega) hq hnq
          exact ⟨by omega, fun _ => by omega⟩
      · refine .inr ⟨b, p, by omega, hp, hn, fun k q hk hq hnq => ?_⟩
        by_cases e : k = j
        · subst e; rw [ha] at hq; cases hq; exact ⟨by omega, fun h => by omega⟩
        · exact h k q (by omega) hq hnq
/-- How many pages a new span takes. -/
def pagesFor (n : Int) : Nat := if ofL n < 0 then (largeL n).toNat else (pagesL (ofL n)).toNat
def newSp (q : Nat) (n : Int) : Sp := ⟨q, pagesFor n, if ofL n < 0 then 255 else ofL n, bit0⟩
theorem pages_large {n : Int} (h : ofL n < 0) (h1 : 1 ≤ n) (h2 : n ≤ 2096640) : largeL n = (pagesFor n : Nat) ∧ 3 ≤ pagesFor n ∧ pagesFor n < 4096 ∧ 1024 < n := by
  have h3 : 1024 < n := by
    refine Classical.byContradiction fun hc => ?_
    have := of_fin ⟨n.toNat, by omega⟩
    rcases this with h4 | h4
    · simp at h4; omega
    · have e : ((n.toNat : Nat) : Int) = n := by omega
      simp only [e] at h4
      omega
  unfold pagesFor largeL
  rw [if_pos h, if_neg (by omega)]
  omega
theorem pages_class {n : Int} (h : ¬ ofL n < 0) : pagesL (ofL n) = (pagesFor n : Nat) ∧ 1 ≤ pagesFor n ∧ pagesFor n ≤ 4 ∧ 1 ≤ n ∧ n ≤ 1024 ∧ ofL n ≤ 19 := by
  have h1 := of_facts n h
  unfold pagesFor
  rw [if_neg h]
  have h2 : 1 ≤ pagesL (ofL n) ∧ pagesL (ofL n) ≤ 4 := by
    obtain ⟨k, hk⟩ : ∃ k : Nat, ofL n = k := ⟨(ofL n).toNat, by omega⟩
    have : ∀ j : Fin 20, 1 ≤ pagesL (j.val : Int) ∧ pagesL (j.val : Int) ≤ 4 := by decide
    rw [hk]
    exact this ⟨k, by omega⟩
  omega
theorem pagesFor_bd {n : Int} (h1 : 1 ≤ n) (h2 : n ≤ 2096640) : 1 ≤ pagesFor n ∧ pagesFor n < 4096 := by
  by_cases h : ofL n < 0
  · have := pages_large h h1 h2; omega
  · have := pages_class h; omega
/-- A new span is good. -/
theorem newSp_right {q : Nat} {n : Int} (h1 : 1 ≤ n) (h2 : n ≤ 2096640) (hq : 1 ≤ q) (hp : q + pagesFor n ≤ 4096) :
    rightP (q : Int) (pagesFor n : Int) (newSp q n).cl 1 bit0 ∧ (if ofL n < 0 then largeB q (pagesFor n) = true else newB q (ofL n) = true) := by
  have hb := pagesFor_bd h1 h2
  have hpl : placedB (q : Int) (pagesFor n : Int) = true := decide_eq_true (by omega)
  unfold newSp
  by_cases h : ofL n < 0
  · have h3 := pages_large h h1 h2
    have h4 : largeB (q : Int) (pagesFor n) = true := by
      unfold largeB
      rw [hpl, decide_eq_true (by omega)]; rfl
    rw [if_pos h]
    simp only [h, if_true]
    exact ⟨(large_iff _ _).2 h4, h4⟩
  · have h3 := pages_class h
    have h4 : newB (q : Int) (ofL n) = true := by unfold newB; rw [h3.1]; exact hpl
    rw [if_neg h]
    simp only [h, if_false]
    refine ⟨?_, h4⟩
    have := (new_iff (q : Int) (ofL n)).2 (.inl ⟨by omega, h4⟩)
    rw [h3.1] at this
    exact this
theorem newSp_ok {q : Nat} {n : Int} (h1 : 1 ≤ n) (h2 : n ≤ 2096640) (hq : 1 ≤ q) (hp : q + pagesFor n ≤ 4096) : (newSp q n).ok ∧ 0 < (newSp q n).cnt ∧ (newSp q n).len = 1 := by
  obtain ⟨h3, h4⟩ := Good.of_right (newSp_right h1 h2 hq hp).1 (fun i hi => bit0_out i (by omega))
  have hl : wn (perN (newSp q n).cl) = 1 := h3.live.1.symm
  have e : (newSp q n).len = 1 := hl
  refine ⟨?_, h4, e⟩
  unfold Sp.ok
  rw [e]
  exact h3
/-- Pages are taken. -/
def cutL (l : List (Nat × Nat)) (b : Nat) (p : Nat × Nat) (m : Nat) : List (Nat × Nat) := l.take b ++ rn.leftR p p.1 m ++ l.drop (b + 1)
theorem take_land {l : List (Nat × Nat)} {b m : Nat} {p : Nat × Nat} (hc : rn.Canon l) (h : rn.BestTo l (m : Int) l.length b p) (hm : 1 ≤ m) :
    rn.Canon (cutL l b p m) ∧ (∀ j, rn.Fr (cutL l b p m) j ↔ rn.Fr l j ∧ ¬ (p.1 ≤ j ∧ j < p.1 + m)) ∧ 1 ≤ p.1 ∧ p.1 + m ≤ 4096 ∧ ∀ j, p.1 ≤ j → j < p.1 + m → rn.Fr l j := by
  obtain ⟨hb, hp, hn, _⟩ := h
  have hsp : l = l.take b ++ p :: l.drop (b + 1) := by
    rw [List.getElem?_eq_some_iff] at hp
    obtain ⟨hlt, rfl⟩ := hp
    rw [List.getElem_cons_drop, List.take_append_drop]
  have hq := hc.mem hp
  have hc2 := hc
  rw [hsp] at hc2
  refine ⟨rn.cut_canon hc2 (Nat.le_refl _) (by omega) hm, fun j => ?_, hq.1, by omega, fun j h1 h2 => (rn.Fr_at l j).2 ⟨b, p, hp, h1, by omega⟩⟩
  have h3 := rn.cut_fr hc2 (at' := p.1) (n := m) (Nat.le_refl _) (by omega) j
  rw [← hsp] at h3
  exact h3
theorem new_apart {S : List Sp} {l : List (Nat × Nat)} {x m : Nat} (hI : Inv S) (hl : LandOf S l) (hm : 1 ≤ m) (hf : ∀ j, x ≤ j → j < x + m → rn.Fr l j) : ∀ t ∈ S, t.pg + t.ps ≤ x ∨ x + m ≤ t.pg := by
  intro t ht
  have h1 := (hI.1 t ht).1.ps1
  refine Classical.byContradiction fun hn => ?_
  rcases Nat.lt_or_ge t.pg x with h2 | h2
  · exact land_taken hl ht (j := x) (by omega) (by omega) (hf x (by omega) (by omega))
  · exact land_taken hl ht (j := t.pg) (by omega) (by omega) (hf t.pg h2 (by omega))
theorem new_span {S : List Sp} {l : List (Nat × Nat)} {b : Nat} {p : Nat × Nat} {n : Int} (hI : Inv S) (hl : LandOf S l) (hc : rn.Canon l) (h1 : 1 ≤ n) (h2 : n ≤ 2096640) (h : rn.BestTo l (pagesFor n : Nat) l.length b p) :
    (newSp p.1 n).ok ∧ 0 < (newSp p.1 n).cnt ∧ (newSp p.1 n).len = 1 ∧ Inv (setS S (newSp p.1 n)) ∧ (∀ t ∈ S, t.pg ≠ p.1) ∧ LandOf (setS S (newSp p.1 n)) (cutL l b p (pagesFor n)) ∧ rn.Canon (cutL l b p (pagesFor n)) ∧ 1 ≤ p.1 ∧ p.1 + pagesFor n ≤ 4096 := by
  have hb := pagesFor_bd h1 h2
  obtain ⟨g1, g2, g3, g4, g5⟩ := take_land hc h hb.1
  obtain ⟨k1, k2, k3⟩ := newSp_ok h1 h2 g3 g4
  have hap := new_apart hI hl hb.1 g5
  have hne : ∀ t ∈ S, t.pg ≠ p.1 := fun t ht e => by
    have := hap t ht
    have := (hI.1 t ht).1.ps1
    omega
  refine ⟨k1, k2, k3, inv_set hI k1 (fun t ht _ => hap t ht), hne, fun j => ?_, g1, g3, g4⟩
  rw [g2 j, hl j, cov_new (s := newSp p.1 n) hne k2]
  show _ ↔ 1 ≤ j ∧ j < 4096 ∧ ¬ (Cov S j ∨ (p.1 ≤ j ∧ j < p.1 + pagesFor n))
  constructor
  · rintro ⟨⟨a1, a2, a3⟩, a4⟩
    exact ⟨a1, a2, fun h => h.elim a3 a4⟩
  · rintro ⟨a1, a2, a3⟩
    exact ⟨⟨a1, a2, fun h => a3 (.inl h)⟩, fun h => a3 (.inr h)⟩
/-- A span in which the lowest free object is taken. -/
def FirstIn (s : Sp) (i : Nat) : Prop := i < s.per ∧ s.f i = false ∧ ∀ j, j < i → s.f j = true
def NewL (S : List Sp) (l : List (Nat × Nat)) (n a e : Int) (S' : List Sp) (l' : List (Nat × Nat)) : Prop :=
  (rn.NoneTo l (pagesFor n : Nat) l.length ∧ a = 0 ∧ e = 16 ∧ S' = S ∧ l' = l) ∨
  ∃ b p, rn.BestTo l (pagesFor n : Nat) l.length b p ∧ a = 512 * (p.1 : Int) ∧ e = 0 ∧ S' = setS S (newSp p.1 n) ∧ l' = cutL l b p (pagesFor n)
def AllocL (S : List Sp) (l : List (Nat × Nat)) (n a e : Int) (S' : List Sp) (l' : List (Nat × Nat)) : Prop :=
  ((n < 1 ∨ 2096640 < n) ∧ a = 0 ∧ e = 2 ∧ S' = S ∧ l' = l) ∨
  ((1 ≤ n ∧ n ≤ 2096640) ∧ (((0 ≤ ofL n ∧ ∃ s rest i, partS S (ofL n) = s.pg :: rest ∧ s ∈ S ∧ s.cl = ofL n ∧ FirstIn s i ∧ a = s.at i ∧ e = 0 ∧ S' = setS S (s.with i true) ∧ l' = l)) ∨
    ((ofL n < 0 ∨ partS S (ofL n) = []) ∧ NewL S l n a e S' l')))
theorem FirstIn.one {s : Sp} {i j : Nat} (h : FirstIn s i) (k : FirstIn s j) : i = j := by
  rcases Nat.lt_trichotomy i j with h1 | h1 | h1
  · have := k.2.2 i h1; rw [h.2.1] at this; cases this
  · exact h1
  · have := h.2.2 j h1; rw [k.2.1] at this; cases this
theorem NewL.one {S : List Sp} {l : List (Nat × Nat)} {n a e a2 e2 : Int} {S' S2 : List Sp} {l' l2 : List (Nat × Nat)} (h : NewL S l n a e S' l') (k : NewL S l n a2 e2 S2 l2) : a = a2 ∧ e = e2 ∧ S' = S2 ∧ l' = l2 := by
  rcases h with ⟨h, rfl, rfl, rfl, rfl⟩ | ⟨b, p, h, rfl, rfl, rfl, rfl⟩
  · rcases k with ⟨k, rfl, rfl, rfl, rfl⟩ | ⟨b, p, k, rfl, rfl, rfl, rfl⟩
    · exact ⟨rfl, rfl, rfl, rfl⟩
    · have := h b p k.1 k.2.1; have := k.2.2.1; omega
  · rcases k with ⟨k, rfl, rfl, rfl, rfl⟩ | ⟨b2, p2, k, rfl, rfl, rfl, rfl⟩
    · have := k b p h.1 h.2.1; have := h.2.2.1; omega
    · obtain ⟨rfl, rfl⟩ := h.one k
      exact ⟨rfl, rfl, rfl, rfl⟩
theorem bad_n {n : Int} (h : 1 ≤ n ∧ n ≤ 2096640) (k : n < 1 ∨ 2096640 < n) : False := by omega
theorem AllocL.one {S : List Sp} {l : List (Nat × Nat)} {n a e a2 e2 : Int} {S' S2 : List Sp} {l' l2 : List (Nat × Nat)} (hI : Inv S) (h : AllocL S l n a e S' l') (k : AllocL S l n a2 e2 S2 l2) : a = a2 ∧ e = e2 ∧ S' = S2 ∧ l' = l2 := by
  rcases h with ⟨h, rfl, rfl, rfl, rfl⟩ | ⟨h, ⟨h0, s, r, i, hs, hm, hc, hf, rfl, rfl, rfl, rfl⟩ | ⟨h0, hN⟩⟩
  · rcases k with ⟨k, rfl, rfl, rfl, rfl⟩ | ⟨k, _⟩
    · exact ⟨rfl, rfl, rfl, rfl⟩
    · exact (bad_n k h).elim
  · rcases k with ⟨k, _⟩ | ⟨_, ⟨_, s2, r2, i2, hs2, hm2, _, hf2, rfl, rfl, rfl, rfl⟩ | ⟨k0, _⟩⟩
    · exact (bad_n h k).elim
    · rw [hs] at hs2
      obtain rfl := rise_one hI.rise hm hm2 (by simp at hs2; exact hs2.1)
      obtain rfl := hf.one hf2
      exact ⟨rfl, rfl, rfl, rfl⟩
    · rcases k0 with k0 | k0
      · exact absurd k0 (Int.not_lt.2 h0)
      · rw [hs] at k0; cases k0
  · rcases k with ⟨k, _⟩ | ⟨_, ⟨h3, s2, r2, i2, hs2, _⟩ | ⟨_, kN⟩⟩
    · exact (bad_n h k).elim
    · rcases h0 with h0 | h0
      · exact absurd h0 (Int.not_lt.2 h3)
      · rw [hs2] at h0; cases h0
    · exact hN.one kN
end Go.Proofs.YtadbbknllakpcaaGreat

/- The walk of alloc's Free. -/
namespace Go.Proofs.YtadbbknllakpcaaGreat
open Go.RowKit
set_option linter.unusedVariables false

/-- What Free does. -/
def FreeR (w : World) (H L n : Nat) (S : List Sp) (l : List (Nat × Nat)) (F : Nat → Prop) (x : Int) (e : Ending) (w' : World) : Prop :=
  ∃ r k er S' l', e = .returned (.tuple #[.agg #[.int .i64 r, .int .i64 k], .int .i64 er]) ∧ FreeL S l x r k er S' l' ∧ LandOf S' l' ∧ HStep F w w' H L (n + 2) S' l'
theorem below2 {B b : Nat} {w w' : World} (h : Below B w w') (hb : B ≤ b) (x0 x1 : Value) : Below B w ((w'.setCell ⟨b, 0, none⟩ x0).setCell ⟨b, 1, none⟩ x1) :=
  (h.setCell (p := ⟨b, 0, none⟩) hb x0).setCell (p := ⟨b, 1, none⟩) hb x1
def RowC (w : World) (R : Nat) (a b : Int) : Prop := Blk w R [.int .i64 a, .int .i64 b] 45
theorem one_row (w : World) (a b : Int) : ∃ w1, (w.alloc (.cells #[.int .i64 a, .int .i64 b] 45)) = w1 ∧ RowC w1 w.heap.size a b ∧ Below w.heap.size w w1 :=
  ⟨_, rfl, Blk.new w #[.int .i64 a, .int .i64 b] 45, (Below.refl _ _).alloc (Nat.le_refl _) _⟩
/-- A span is stored in a block that held one; other blocks stay. -/
theorem stored_span2 {w : World} {b : Nat} {pg ps cl : Int} {A : Option Addr} {len cap : Nat} (h : SpB w b pg ps cl A len cap) (B : Nat) (w0 : World) (hB : Below B w0 w) (hb : B ≤ b) (pg' ps' cl' : Int) (A' : Option Addr) (len' cap' : Nat) :
    ∃ w1, (((w.setCell ⟨b, 0, none⟩ (.int .i64 pg')).setCell ⟨b, 1, none⟩ (.int .i64 ps')).setCell ⟨b, 2, none⟩ (.int .i64 cl')).setCell ⟨b, 3, none⟩ (.slice A' len' cap') = w1 ∧ SpB w1 b pg' ps' cl' A' len' cap' ∧ Below B w0 w1 ∧
      w1.heap.size = w.heap.size ∧ (∀ r cs t, r ≠ b → Blk w r cs t → Blk w1 r cs t) ∧ ∀ A'' n f, 0 < n → WordsAt w A'' n f → WordsAt w1 A'' n f :=
  ⟨_, rfl, set4_span h _ _ _ _ _ _, below4 hB hb _ _ _ _, by simp [World.setCell], fun r cs t hr hk => (((hk.set_other hr _ _).set_other hr _ _).set_other hr _ _).set_other hr _ _, fun A'' n f hn hk => hk.store h _ _ _ _⟩
theorem poke2 (w : World) (R : Nat) (a b : Value) : Only (· = R) w ((w.setCell ⟨R, 0, none⟩ a).setCell ⟨R, 1, none⟩ b) :=
  Only.set (S := (· = R)) (p := ⟨R, 1, none⟩) (Only.set (S := (· = R)) (p := ⟨R, 0, none⟩) (Only.refl _ w) (fun _ => rfl) a) (fun _ => rfl) b
theorem heap_poke {w w6 w7 : World} {H L n R : Nat} {S : List Sp} {l : List (Nat × Nat)} {F F' : Nat → Prop} (h : HeapAt w6 H L n S l F') (hO : Only F w w6) (hk : ∀ k, F' k → F k ∨ w.heap.size ≤ k) (hR : ¬ F' R) (hw : w.heap.size ≤ R) (ho : Only (· = R) w6 w7) : HStep F w w7 H L n S l :=
  ⟨F', h.only ho (fun k hk e => hR (e ▸ hk)), hO.trans ho (fun i hi e => by omega), hk⟩
set_option maxRecDepth 8000 in
set_option maxHeartbeats 8000000 in
theorem free17_calls (w : World) (H L n : Nat) (S : List Sp) (l : List (Nat × Nat)) (F : Nat → Prop) (x : Int) (h : HeapAt w H L n S l F) (hl : LandOf S l) (hn : n ≤ 999990) (hx : I64 x) :
    Calls Tryz.prog 10 #[.pointer (some ⟨H, 0, none⟩), .int .i64 x] w (FreeR w H L n S l F x) := by
  have HH := Lib.hid h
  have HX := Lib.hid hx
  have HL := Lib.hid hl
  have HI := Lib.hid h.inv
  obtain ⟨w1, hw1, hR, hB⟩ := one_row w 0 0
  have HB1 := Lib.hid hB
  have HR1 := Lib.hid hR
  clear h hx hl hB hR
  go_enter Tryz.func10, Tryz.ntmps10
  have HH1 := Lib.hid (HH.out.below HB1.out)
  obtain ⟨c, g, cp, rfl, rfl, hh⟩ := HH1.out
  have HC := Lib.hid hh
  clear hh
  go_wp2_with fail
  refine (under_calls _ c n S x HC.out.core HI.out HX.out).mono ?_
  rintro e w2 ⟨hB, h⟩
  have HB2 := Lib.hid (bel_next HB1.out hB (Nat.le_refl _))
  have HR2 := Lib.hid (Blk.below HR1.out hB)
  clear hB hw1
  rcases h with ⟨pg, ps, cl, A, len, cap, rfl, hno⟩ | ⟨s, hs, A, cap, rfl, h1, h2, hW⟩
  · have HNo := Lib.hid hno
    clear hno
    obtain ⟨w3, hw3, hS3, hB3⟩ := one_span w2 pg ps cl A len cap
    have HB3 := Lib.hid (bel_next HB2.out hB3 (Nat.le_refl _))
    have HR3 := HR2.out.below hB3
    have r0 := HR3.cell 0
    have r1 := HR3.cell 1
    have q0 := HR3.free 0
    have q1 := HR3.free 1
    simp at r0 r1
    clear hB3 HR3
    unfold spV
    go_wp2
    refine bodyPost_ret (v := .tuple #[.agg #[.int .i64 0, .int .i64 0], .int .i64 17]) (by simp [results, Tryz.results10, go_sem, r0, r1, q0, q1]) rfl ?_
    exact ⟨_, _, _, S, l, rfl, free_none HI.out HNo.out, HL.out, ((HH.out.step (below2 HB3.out (Nat.le_refl _) _ _)).mono (by omega))⟩
  · have HS := Lib.hid (And.intro hs (And.intro h1 h2))
    obtain ⟨w3, hw3, hS3, hB3⟩ := one_span w2 s.pg s.ps s.cl A s.len cap
    have HB3 := Lib.hid (bel_next HB2.out hB3 (Nat.le_refl _))
    have HW3 := Lib.hid (hW.below hB3)
    have HX3 := Lib.hid hS3
    have HR3 := Lib.hid (Blk.below HR2.out hB3)
    have HXg := Lib.hid (show w.heap.size < w2.heap.size from Blk.lt HR2.out)
    obtain ⟨s0, s1, s2, s3⟩ := hS3.cells
    clear hs h1 h2 hW hB3 hS3
    unfold Sp.v spV
    go_wp2_with fail
    obtain ⟨X, hX⟩ : ∃ X, w2.heap.size = X := ⟨_, rfl⟩
    obtain ⟨R, hRR⟩ : ∃ R, w.heap.size = R := ⟨_, rfl⟩
    have HRR := Lib.hid hRR
    have HXX := Lib.hid hX
    rw [hX] at HX3 HXg s0 s1 s2 s3
    rw [hRR] at HR3 HXg
    rw [hX, hRR]
    clear hX hRR hw3
    refine (give15F_calls s.pg s.ps s.cl A s.len cap s.f x _ (HI.out.1 s HS.out.1).1 HX.out HW3.out).mono ?_
    rintro e w4 ⟨hB4, h4⟩
    have HB4 := Lib.hid (bel_next HB3.out hB4 (Nat.le_refl _))
    have HX4 := Lib.hid (SpB.below HX3.out hB4)
    have HR4 := Lib.hid (Blk.below HR3.out hB4)
    obtain ⟨e0, e1, e2, e3⟩ := HX4.out.free
    obtain ⟨x0, x1, x2, x3⟩ := HX4.out.cells
    rcases h4 with ⟨rfl, hno⟩ | ⟨i, A', cap', rfl, hi, hf, hxi, hW4, hA4⟩
    · have HNo := Lib.hid hno
      obtain ⟨w5, hw5, hS5, hB5, hz5, hk5, _⟩ := stored_span2 HX4.out R w4 (Below.refl R w4) (by have := HXg.out; omega) 0 0 0 none 0 0
      have HR5 := hk5 R _ _ (by have := HXg.out; omega) HR4.out
      have r0 := HR5.cell 0
      have r1 := HR5.cell 1
      have q0 := HR5.free 0
      have q1 := HR5.free 1
      have HB5 := Lib.hid (show Below w.heap.size w w5 from HB4.out.trans (HRR.out ▸ hB5))
      simp at r0 r1
      clear hno s0 s1 s2 s3 hB4 hS5 hB5 hz5 hk5 HR5
      unfold spV
      go_wp2
      refine bodyPost_ret (v := .tuple #[.agg #[.int .i64 0, .int .i64 0], .int .i64 17]) (by simp [results, Tryz.results10, go_sem, r0, r1, q0, q1]) rfl ?_
      exact ⟨_, _, _, S, l, rfl, free_no HI.out HS.out.1 HS.out.2 HNo.out, HL.out, ((HH.out.step (below2 HB5.out (Nat.le_of_eq HRR.out) _ _)).mono (by omega))⟩
    · have HG := Lib.hid (And.intro hi (And.intro hf hxi))
      obtain ⟨w5, hw5, hS5, hB5, hz5, hk5, hW5⟩ := stored_span2 HX4.out R w4 (Below.refl R w4) (by have := HXg.out; omega) s.pg s.ps s.cl A' s.len cap'
      have HR5 := Lib.hid (hk5 R _ _ (by have := HXg.out; omega) HR4.out)
      have HB5 := Lib.hid (show Below w.heap.size w w5 from HB4.out.trans (HRR.out ▸ hB5))
      have HX5 := Lib.hid hS5
      have HW5 := Lib.hid (hW5 _ _ _ (HI.out.1 s HS.out.1).1.len1 hW4)
      have HA5 := Lib.hid (show ∀ y o, A' = some ⟨y, o, none⟩ → R < y ∧ X < y from fun y o he => by
        have h1 := hA4 y o he
        have h2 := HX3.out.lt
        have h3 := HXg.out
        omega)
      have HXz := Lib.hid (show R < w5.heap.size ∧ X < w5.heap.size from ⟨HR5.out.lt, HX5.out.lt⟩)
      have HOk := Lib.hid ((HI.out.1 s HS.out.1).1.with (i := i) hi false)
      have HIn := Lib.hid (inv_with HI.out HS.out.1 (i := i) hi false)
      obtain ⟨u0, u1, u2, u3⟩ := hS5.cells
      have HH5 := Lib.hid (HH.out.below HB5.out)
      have HlF := Lib.hid (show ∀ k, F k → k < R from fun k hk => HRR.out ▸ HH.out.lt k hk)
      clear hi hf hxi hW4 hA4 hS5 hB5 hz5 hk5 hW5 hB4 s0 s1 s2 s3
      unfold spV
      go_wp2_with fail
      clear hw5 e0 e1 e2 e3 u0 u1 u2 u3 x0 x1 x2 x3
      refine (hset_calls w5 c.H c.L n S l F (s.with i false) A' cap' HH5.out HOk.out HW5.out (fun y o he hF => by have h1 := HlF.out y hF; have h2 := (HA5.out y o he).1; omega) (by omega) HIn.out (cl_with HI.out HS.out.1 i false)).mono ?_
      rintro e w6 ⟨rfl, F', hF', hO6, hk6⟩
      have HF6 := Lib.hid hF'
      have HO6 := Lib.hid ((Only.of_below (S := F) HB5.out).trans hO6 (fun _ _ h => h))
      have HK6 := Lib.hid (show ∀ k, F' k → F k ∨ w.heap.size ≤ k from fun k hk => by
        rcases hk6 k hk with h1 | h1 | ⟨o, h1⟩
        · exact .inl h1
        · exact .inr (by have := HB5.out.size; omega)
        · exact .inr (by have := (HA5.out k o h1).1; have := HRR.out; omega))
      have hNot : ∀ k, (k = R ∨ k = X) → ¬ F' k := fun k hk hF => by
        have h0 := HXz.out
        have h9 := HXg.out
        rcases hk6 k hF with h1 | h1 | ⟨o, h1⟩
        · have := HlF.out k h1; omega
        · omega
        · have := HA5.out k o h1; omega
      have HNR := Lib.hid (hNot R (.inl rfl))
      have HNX := Lib.hid (hNot X (.inr rfl))
      have HR6 := Lib.hid (Blk.only HR5.out hO6 (fun h => by have := HlF.out R h; omega))
      have HX6 := Lib.hid (show SpB w6 X s.pg s.ps s.cl A' s.len cap' from Blk.only HX5.out hO6 (fun h => by have := HlF.out X h; have := HXg.out; omega))
      clear hF' hO6 hk6 hNot
      by_cases hc : 0 < (s.with i false).cnt
      · have hcd : decide (0 < (s.with i false).cnt) = true := decide_eq_true hc
        rw [hcd]
        have HCd := Lib.hid hc
        have r0 := HR6.out.cell 0
        have r1 := HR6.out.cell 1
        have q0 := HR6.out.free 0
        have q1 := HR6.out.free 1
        simp at r0 r1
        clear hcd hc
        go_wp2
        refine bodyPost_ret (v := .tuple #[.agg #[.int .i64 0, .int .i64 0], .int .i64 0]) (by simp [results, Tryz.results10, go_sem, r0, r1, q0, q1]) rfl ?_
        obtain ⟨g1, g2, g3⟩ := HG.out
        refine ⟨_, _, _, setS S (s.with i false), l, rfl, .inr ⟨s, HS.out.1, i, g1, g2, g3, rfl, rfl, .inl ⟨HCd.out, rfl, rfl, rfl⟩⟩, land_put HI.out HL.out HS.out.1 HCd.out, ?_⟩
        exact heap_poke HF6.out HO6.out HK6.out HNR.out (Nat.le_of_eq HRR.out) (poke2 _ _ _ _)
      · have hcd : decide (0 < (s.with i false).cnt) = false := decide_eq_false hc
        rw [hcd]
        have HCd := Lib.hid (show (s.with i false).cnt = 0 by omega)
        clear hcd hc
        obtain ⟨c', g', cp', hcH, hcL, hh'⟩ := HF6.out
        have HIN := Lib.hid hh'
        have HcH := Lib.hid hcH
        have HcL := Lib.hid hcL
        have HBl := Lib.hid (show Blk w6.drew c.H [.pointer (some ⟨c.L, 0, none⟩), .map (some c'.r1), c'.fv, .map (some c'.r2)] 61 from by rw [← hcH, ← hcL]; exact hh'.core.blk.drew)
        clear hh' hcH hcL
        go_wp2_with fail
        refine wp_dag [(32, .pointer (some ⟨c.H, 0, none⟩)), (33, .pointer (some ⟨c.H, 0, none⟩)), (34, .pointer (some ⟨c.H, 0, none⟩)), (35, .pointer (some ⟨c.L, 0, none⟩)), (36, .pointer (some ⟨X, 0, none⟩)), (37, .int .i64 ((s.pg : Nat) : Int)), (38, .pointer (some ⟨X, 1, none⟩)), (39, .int .i64 ((s.ps : Nat) : Int)), (40, .int .i64 0)] (OneJ w6.drew 8 [3, 5, 7] (fun w' => ∃ l', LandOf (setS S (s.with i false)) l' ∧ HStep F' w6.drew w' c.H c.L (n + 2) (setS S (s.with i false)) l')) (by kernel_rfl) (by kernel_rfl) (by kernel_rfl) (by kernel_rfl) .start ?_ ?_
        case refine_1 =>
          refine dag_cons (dag_val (v := .pointer (some ⟨c.H, 0, none⟩)) (by kernel_rfl) (by kernel_rfl) (fun g0 w' h => by kernel_rfl) (fun g0 w' h => h.same rfl)) ?_
          refine dag_cons (dag_val (v := .pointer (some ⟨c.H, 0, none⟩)) (by kernel_rfl) (by kernel_rfl) (fun g0 w' h => by kernel_rfl) (fun g0 w' h => h.same rfl)) ?_
          refine dag_cons (dag_field (s := 61) (x := .tmp 33) (k := 0) (v1 := .pointer (some ⟨c.H, 0, none⟩)) (v := .pointer (some ⟨c.H, 0, none⟩)) (by kernel_rfl) (by kernel_rfl) (by kernel_rfl) (by kernel_rfl) (fun w' => by kernel_rfl) (fun g0 w' h => h.same rfl)) ?_
          refine dag_cons (dag_loadO (t := 56) (d := .pointer 91) (x := .tmp 34) (p := ⟨c.H, 0, none⟩) (v := .pointer (some ⟨c.L, 0, none⟩)) (by kernel_rfl) (by kernel_rfl) (by kernel_rfl) (by kernel_rfl) Tryz.underlying56 rfl (fun g0 w' hg h => by obtain rfl := h.at rfl hg; exact HBl.out.cell 0) (fun g0 w' h => h.same rfl)) ?_
          refine dag_cons (dag_field (s := 27) (x := .tmp 6) (k := 0) (v1 := .pointer (some ⟨X, 0, none⟩)) (v := .pointer (some ⟨X, 0, none⟩)) (by kernel_rfl) (by kernel_rfl) (by kernel_rfl) (by kernel_rfl) (fun w' => by kernel_rfl) (fun g0 w' h => h.same rfl)) ?_
          refine dag_cons (dag_loadO (t := 3) (d := .int .i64) (x := .tmp 36) (p := ⟨X, 0, none⟩) (v := .int .i64 ((s.pg : Nat) : Int)) (by kernel_rfl) (by kernel_rfl) (by kernel_rfl) (by kernel_rfl) Tryz.underlying3 rfl (fun g0 w' hg h => by obtain rfl := h.at rfl hg; exact HX6.out.cells.1) (fun g0 w' h => h.same rfl)) ?_
          refine dag_cons (dag_field (s := 27) (x := .tmp 6) (k := 1) (v1 := .pointer (some ⟨X, 0, none⟩)) (v := .pointer (some ⟨X, 1, none⟩)) (by kernel_rfl) (by kernel_rfl) (by kernel_rfl) (by kernel_rfl) (fun w' => by kernel_rfl) (fun g0 w' h => h.same rfl)) ?_
          refine dag_cons (dag_loadO (t := 3) (d := .int .i64) (x := .tmp 38) (p := ⟨X, 1, none⟩) (v := .int .i64 ((s.ps : Nat) : Int)) (by kernel_rfl) (by kernel_rfl) (by kernel_rfl) (by kernel_rfl) Tryz.underlying3 rfl (fun g0 w' hg h => by obtain rfl := h.at rfl hg; exact HX6.out.cells.2.1) (fun g0 w' h => h.same rfl)) ?_
          refine dag_cons (dag_call2 (f := 40) (args := #[.pointer (some ⟨c.L, 0, none⟩), .int .i64 ((s.pg : Nat) : Int), .int .i64 ((s.ps : Nat) : Int)]) (v := .int .i64 0) (by kernel_rfl) (by kernel_rfl) (fun w' => by kernel_rfl) (fun g0 w' hg hd h => ?_)) ?_
          case refine_1 =>
            have hd3 : g0 3 = true := hd { on := 3, ground := Ground.data } (by simp) rfl
            have hd5 : g0 5 = true := hd { on := 5, ground := Ground.data } (by simp) rfl
            have hd7 : g0 7 = true := hd { on := 7, ground := Ground.data } (by simp) rfl
            obtain rfl := h.2.1 hg
            have hp := (HI.out.1 s HS.out.1).1.ps1
            have hca := HIN.out.canon
            refine (rn.give16_calls w6.drew c.L g' cp' l (s.pg : Int) (s.ps : Int) (by rw [← HcL.out]; exact HIN.out.drew.land) hca (by have := hca.len; omega) (by omega) (by omega)).mono ?_
            rintro e w7 hG
            obtain ⟨he, m, hm, hF, hR⟩ := rn.give_ok hca hG (rn.there_ok (by omega) (by omega) (by omega) (by omega)) (fun j h1 h2 => land_taken HL.out HS.out.1 h1 h2)
            refine ⟨he, h.call (by simp [hd3, hd5, hd7]) ⟨m, free_land HI.out HL.out HS.out.1 HCd.out hF, ?_⟩⟩
            rw [← HcL.out] at hR
            obtain ⟨g2, cp2, hin, ho⟩ := HIN.out.drew.land_step hR hm
            exact ⟨Ext F' w6.drew w7, ⟨c', g2, cp2, HcH.out, HcL.out, hin⟩, ho, fun k hk => hk.imp id (·.1)⟩
          exact dag_nil
        case refine_2 =>
          intro w7 hJ
          obtain ⟨m, hm, F2, hF2, hO7, hk7⟩ := hJ.fin rfl
          have HM := Lib.hid hm
          have HF7 := Lib.hid hF2
          have hO7' : Only F' w6 w7 := hO7.of_drew
          have hX7 : SpB w7 X s.pg s.ps s.cl A' s.len cap' := Blk.only HX6.out hO7' HNX.out
          have hR7 := Blk.only HR6.out hO7' HNR.out
          have HO7 := Lib.hid (HO6.out.trans hO7' (fun k hk hF => (HK6.out k hF).elim id (fun h => by omega)))
          have HK7 := Lib.hid (show ∀ k, F2 k → F k ∨ w.heap.size ≤ k from fun k hk => by
            rcases hk7 k hk with h1 | h1
            · exact HK6.out k h1
            · exact .inr (by have := HO6.out.size; simp at h1; omega))
          have HN7 := Lib.hid (show ¬ F2 R from fun h => (hk7 R h).elim HNR.out (fun h1 => by have := HR6.out.lt; simp at h1; omega))
          obtain ⟨x0, x1, x2, x3⟩ := hX7.cells
          have r0 := hR7.cell 0
          have r1 := hR7.cell 1
          have q0 := hR7.free 0
          have q1 := hR7.free 1
          simp at r0 r1
          clear hJ hm hF2 hO7 hO7' hX7 hR7 hk7
          simp only [putAll, List.foldl_cons, List.foldl_nil]
          go_wp2
          refine bodyPost_ret (v := .tuple #[.agg #[.int .i64 s.pg, .int .i64 s.ps], .int .i64 0]) (by simp [results, Tryz.results10, go_sem, r0, r1, q0, q1]) rfl ?_
          obtain ⟨g1, g2, g3⟩ := HG.out
          refine ⟨_, _, _, setS S (s.with i false), m, rfl, .inr ⟨s, HS.out.1, i, g1, g2, g3, rfl, rfl, .inr ⟨HCd.out, rfl, rfl⟩⟩, HM.out, ?_⟩
          exact heap_poke HF7.out HO7.out HK7.out HN7.out (Nat.le_of_eq HRR.out) (poke2 _ _ _ _)
end Go.Proofs.YtadbbknllakpcaaGreat

/- The walk of alloc's large. -/
namespace Go.Proofs.YtadbbknllakpcaaGreat
open Go.RowKit
set_option linter.unusedVariables false

/-- What Alloc does. -/
def AllocR (w : World) (H L n : Nat) (S : List Sp) (l : List (Nat × Nat)) (F : Nat → Prop) (x : Int) (e : Ending) (w' : World) : Prop :=
  ∃ a er S' l', e = .returned (.tuple #[.int .i64 a, .int .i64 er]) ∧ AllocL S l x a er S' l' ∧ LandOf S' l' ∧ HStep F w w' H L (n + 2) S' l'
/-- The new span is noted. -/
theorem set_new {w w6 : World} {H L n : Nat} {S : List Sp} {l : List (Nat × Nat)} {F : Nat → Prop} {A : Option Addr} {e : Ending} (hA : ∀ x o, A = some ⟨x, o, none⟩ → w.heap.size ≤ x) {w5 : World} {F5 : Nat → Prop} (h5 : Only F w w5) (hk5 : ∀ k, F5 k → F k ∨ w.heap.size ≤ k) {b : Bool}
    (h : SetH F5 A w5 H L n S l b e w6) : e = .returned (.bool b) ∧ HStep F w w6 H L n S l := by
  obtain ⟨he, F', hF', hO, hk⟩ := h
  refine ⟨he, F', hF', h5.trans hO (fun i hi hF => (hk5 i hF).elim id (fun h => by omega)), fun k hk' => ?_⟩
  rcases hk k hk' with h1 | h1 | ⟨o, h1⟩
  · exact hk5 k h1
  · exact .inr (Nat.le_trans h5.size h1)
  · exact .inr (hA k o h1)
theorem new_v {q : Nat} {n : Int} (h1 : 1 ≤ n) (h2 : n ≤ 2096640) (hq : 1 ≤ q) (hp : q + pagesFor n ≤ 4096) (A : Option Addr) (cap : Nat) : (newSp q n).v A cap = spV (q : Int) (pagesFor n : Nat) (newSp q n).cl A 1 cap := by
  unfold Sp.v
  rw [(newSp_ok h1 h2 hq hp).2.2]
  rfl
set_option maxRecDepth 8000 in
set_option maxHeartbeats 8000000 in
theorem large17_calls (w : World) (H L n : Nat) (S : List Sp) (l : List (Nat × Nat)) (F : Nat → Prop) (x : Int) (h : HeapAt w H L n S l F) (hl : LandOf S l) (hn : n ≤ 999990) (hx : I64 x) (hc : ofL x < 0) :
    Calls Tryz.prog 25 #[.pointer (some ⟨H, 0, none⟩), .int .i64 x] w (AllocR w H L n S l F x) := by
  obtain ⟨c, g, cp, rfl, rfl, hh⟩ := h
  have HC := Lib.hid hh
  have HX := Lib.hid hx
  have HL := Lib.hid hl
  have Hof := Lib.hid hc
  obtain ⟨p, hp⟩ : ∃ p, largeL x = p := ⟨_, rfl⟩
  have hpb : -1 < p ∧ p < 100000 ∧ ((p < 1 ∨ 4096 ≤ p) ↔ (x < 1 ∨ 2096640 < x)) := by
    rw [← hp]; unfold largeL; split <;> omega
  have HP := Lib.hid hp
  have HPb := Lib.hid hpb
  have hbl := hh.core.blk.cell 0
  simp at hbl
  clear hh hx hl hc hpb
  go_enter Tryz.func25, Tryz.ntmps25
  go_wp2_with fail
  refine (large_calls x _ HX.out.1 HX.out.2).mono ?_
  rintro e w1 ⟨rfl, rfl⟩
  rw [hp]
  clear hp
  by_cases hsm : p < 1
  · have d1 : decide (p < 1) = true := decide_eq_true hsm
    have HBad := Lib.hid (HPb.out.2.2.1 (.inl hsm))
    go_wp2
    go_ret2
    exact ⟨_, _, S, l, rfl, .inl ⟨HBad.out, rfl, rfl, rfl, rfl⟩, HL.out, (HeapAt.step ⟨c, g, cp, rfl, rfl, HC.out⟩ (Below.refl _ _)).mono (by omega)⟩
  · have d1 : decide (p < 1) = false := decide_eq_false hsm
    by_cases hbg : 4096 ≤ p
    · have d2 : decide (4096 ≤ p) = true := decide_eq_true hbg
      have HBad := Lib.hid (HPb.out.2.2.1 (.inr hbg))
      go_wp2
      go_ret2
      exact ⟨_, _, S, l, rfl, .inl ⟨HBad.out, rfl, rfl, rfl, rfl⟩, HL.out, (HeapAt.step ⟨c, g, cp, rfl, rfl, HC.out⟩ (Below.refl _ _)).mono (by omega)⟩
    · have d2 : decide (4096 ≤ p) = false := decide_eq_false hbg
      have hx2 : 1 ≤ x ∧ x ≤ 2096640 := by
        have := HPb.out.2.2
        omega
      have HX2 := Lib.hid hx2
      have hpp := pages_large Hof.out hx2.1 hx2.2
      obtain ⟨m, hm⟩ : ∃ m, pagesFor x = m := ⟨_, rfl⟩
      have hpm : p = (m : Int) := by rw [← HP.out, ← hm]; exact hpp.1
      have HM := Lib.hid (And.intro hm (And.intro hpm hpp))
      clear hx2 hpp hm
      subst hpm
      have hlen := HC.out.canon.len
      go_wp2_with fail
      refine (rn.take16_calls _ c.L g cp l (m : Int) HC.out.land HC.out.canon (by omega) (by omega)).mono ?_
      rintro e w2 hT
      rcases best_ex l (m : Int) l.length (Nat.le_refl _) with hno | ⟨b, q, hb⟩
      · have HNo := Lib.hid hno
        have hE : e = .returned (.tuple #[.int .i64 0, .int .i64 16]) ∧ Below w.heap.size w w2 := by
          rcases hT with ⟨h1, _⟩ | ⟨_, _, h1, h2⟩ | ⟨b, q, _, h1, _⟩
          · omega
          · exact ⟨h1, h2⟩
          · have := hno b q h1.1 h1.2.1; have := h1.2.2.1; omega
        obtain ⟨rfl, hB⟩ := hE
        have HB := Lib.hid hB
        clear hT hno hB
        go_wp2
        go_ret2
        exact ⟨_, _, S, l, rfl, .inr ⟨HX2.out, .inr ⟨.inl Hof.out, .inl ⟨by rw [HM.out.1]; exact HNo.out, rfl, rfl, rfl, rfl⟩⟩⟩, HL.out, (HeapAt.step ⟨c, g, cp, rfl, rfl, HC.out⟩ HB.out).mono (by omega)⟩
      · obtain ⟨rfl, hR⟩ := rn.take_is hT (by omega) hb
        rw [Int.toNat_natCast] at hR
        have hb2 : rn.BestTo l (pagesFor x : Nat) l.length b q := by rw [HM.out.1]; exact hb
        obtain ⟨k1, k2, k3, k4, k5, k6, k7, k8, k9⟩ := new_span HC.out.inv HL.out HC.out.canon HX2.out.1 HX2.out.2 hb2
        have hcut : cutL l b q (pagesFor x) = l.take b ++ rn.leftR q q.1 m ++ l.drop (b + 1) := by unfold cutL; rw [HM.out.1]
        have HBest := Lib.hid hb2
        have HNew := Lib.hid (And.intro k1 (And.intro k2 (And.intro k3 (And.intro k4 (And.intro k5 k6)))))
        have HQ := Lib.hid (And.intro k8 k9)
        rw [← hcut] at hR
        obtain ⟨g2, cp2, hin, ho⟩ := HC.out.land_step hR k7
        have HIn := Lib.hid hin
        have HO := Lib.hid ho
        have hqs : q.1 ≤ 4096 := by omega
        clear hT hb hR hb2 k1 k2 k3 k4 k5 k6 k7 k8 k9 hcut hin ho
        go_wp2_with fail
        refine (slarge_calls (q.1 : Int) (m : Int) _ (by unfold I64; omega) (by have := HM.out; unfold I64; omega)).mono ?_
        rintro e w3 ⟨hB3, h3⟩
        obtain ⟨A, cap, _, rfl, hW, hA, rfl⟩ := h3.resolve_left (fun h => by
          have := (newSp_right HX2.out.1 HX2.out.2 HQ.out.1 HQ.out.2).2
          rw [if_pos Hof.out, HM.out.1] at this
          rw [this] at h; cases h.1)
        have HB3 := Lib.hid hB3
        have HIn3 := Lib.hid (HIn.out.below hB3)
        obtain ⟨w4, hw4, hS4, hB4⟩ := one_span w3 (q.1 : Int) (m : Int) 255 A 1 1
        have HIn4 := Lib.hid (HIn3.out.below hB4)
        have HO4 := Lib.hid ((HO.out.next HB3.out).next hB4)
        have HW4 := Lib.hid (hW.below hB4)
        have HA4 := Lib.hid (show ∀ y o, A = some ⟨y, o, none⟩ → w2.heap.size ≤ y from hA)
        obtain ⟨s0, s1, s2, s3⟩ := hS4.cells
        have hz := HO.out.size
        clear hB3 hW hA hB4 h3 hS4
        unfold spV
        go_wp2_with fail
        obtain ⟨k1, k2, k3, k4, k5, k6⟩ := HNew.out
        have hcl : (newSp q.1 x).cl = 255 := if_pos Hof.out
        have hset := hset_calls w4 c.H c.L n S (cutL l b q (pagesFor x)) (Ext F w w2) (newSp q.1 x) A 1 ⟨c, g2, cp2, rfl, rfl, HIn4.out⟩ k1 (by rw [k3]; exact HW4.out) (fun y o he hF => by
          have h1 := HA4.out y o he
          rcases hF with h2 | h2
          · have := HC.out.lt y h2; omega
          · omega) (by omega) k4 (fun t ht he => absurd he (k5 t ht))
        have hv : (newSp q.1 x).v A 1 = spV (q.1 : Int) (m : Int) 255 A 1 1 := by rw [new_v HX2.out.1 HX2.out.2 HQ.out.1 HQ.out.2, hcl, HM.out.1]
        rw [hv, decide_eq_true k2] at hset
        refine hset.mono ?_
        rintro e w5 hS5
        obtain ⟨rfl, hst⟩ := set_new (w := w) (fun y o he => Nat.le_trans hz (HA4.out y o he)) HO4.out (fun k hk => hk.imp id (·.1)) hS5
        have HSt := Lib.hid hst
        have hmul : wrap64 ((q.1 : Int) * 512) = 512 * (q.1 : Int) := by rw [IntWalk.wrap64_in _ (by omega)]; omega
        clear hS5 hset hst hv k1 k2 k3 k4 k5 k6 hcl hw4 s0 s1 s2 s3 hz
        go_wp2
        go_ret2
        exact ⟨_, _, _, _, rfl, .inr ⟨HX2.out, .inr ⟨.inl Hof.out, .inr ⟨b, q, HBest.out, Int.mul_comm _ _, rfl, rfl, rfl⟩⟩⟩, HNew.out.2.2.2.2.2, HSt.out⟩
end Go.Proofs.YtadbbknllakpcaaGreat
