/- A heap as it stands between calls. -/
import Derived.Test.YtadbbknllakpcaaGreatHpS
import Derived.Test.YtadbbknllakpcaaGreatRnQ
import Derived.Maps.OwnOps
namespace Go.Proofs.YtadbbknllakpcaaGreat
open Go.RowKit
set_option linter.unusedVariables false

/-- A heap's parts, its land too; F: the blocks that it may write, or reads. -/
structure HeapIn (w : World) (c : HC) (g cap n : Nat) (S : List Sp) (l : List (Nat × Nat)) (F : Nat → Prop) : Prop where
  core : Core w c n (pagesS S) (partS S) S
  land : rn.LandAt w c.L g cap l
  canon : rn.Canon l
  inv : Inv S
  fK : ∀ k, c.K k → F k
  fL : F c.L
  fg : F g
  nL : ¬ c.K c.L
  ng : ¬ c.K g
  wrd : ∀ s ∈ S, ∀ A cap, c.m1 (s.pg : Int) = some (s.v A cap) → ∀ x o, A = some ⟨x, o, none⟩ → x ≠ c.L ∧ x ≠ g ∧ F x
  lt : ∀ k, F k → k < w.heap.size
def Ext (F : Nat → Prop) (w w' : World) (k : Nat) : Prop := F k ∨ (w.heap.size ≤ k ∧ k < w'.heap.size)
theorem HeapIn.below {w w' : World} {c : HC} {g cap n : Nat} {S : List Sp} {l : List (Nat × Nat)} {F : Nat → Prop} (h : HeapIn w c g cap n S l F) (o : Below w.heap.size w w') : HeapIn w' c g cap n S l F :=
  { h with core := h.core.below o, land := h.land.below o, lt := fun k hk => Nat.lt_of_lt_of_le (h.lt k hk) o.size }
theorem HeapIn.drew {w : World} {c : HC} {g cap n : Nat} {S : List Sp} {l : List (Nat × Nat)} {F : Nat → Prop} (h : HeapIn w c g cap n S l F) : HeapIn w.drew c g cap n S l F := h.below (Below.refl _ _).drew
theorem HeapIn.land_step {w w' : World} {c : HC} {g cap n : Nat} {S : List Sp} {l l' : List (Nat × Nat)} {F : Nat → Prop} (h : HeapIn w c g cap n S l F) (hr : rn.LandR w c.L g l' w') (hc : rn.Canon l') :
    ∃ g' cap', HeapIn w' c g' cap' n S l' (Ext F w w') ∧ Only F w w' := by
  obtain ⟨g', cap', hl, hg, ho⟩ := hr
  have hgl := h.land.lt
  have hg2 : ∀ k, F k → k ≠ g → k ≠ g' := fun k hk hne e => by
    rcases hg with h1 | h1
    · exact hne (e.trans h1)
    · have := h.lt k hk; omega
  refine ⟨g', cap', ⟨h.core.move ho ?_ ?_, hl, hc, h.inv, fun k hk => .inl (h.fK k hk), .inl h.fL, ?_, h.nL, ?_, ?_, ?_⟩, ho.mono ?_⟩
  · rintro k hk (rfl | rfl)
    · exact h.nL hk
    · exact h.ng hk
  · rintro s hs A cap hm x y rfl (h1 | h1)
    · exact (h.wrd s hs _ cap hm x y rfl).1 h1
    · exact (h.wrd s hs _ cap hm x y rfl).2.1 h1
  · rcases hg with h1 | h1
    · rw [h1]; exact .inl h.fg
    · exact .inr ⟨h1, hl.lt.2⟩
  · intro hk
    rcases hg with h1 | h1
    · exact h.ng (h1 ▸ hk)
    · have := h.core.lt _ hk; omega
  · intro s hs A cap hm x o he
    obtain ⟨h1, h2, h3⟩ := h.wrd s hs A cap hm x o he
    exact ⟨h1, hg2 x h3 h2, .inl h3⟩
  · rintro k (hk | hk)
    · exact Nat.lt_of_lt_of_le (h.lt k hk) ho.size
    · exact hk.2
  · rintro i _ (rfl | rfl)
    · exact h.fL
    · exact h.fg
/-- A heap. -/
def HeapAt (w : World) (H L n : Nat) (S : List Sp) (l : List (Nat × Nat)) (F : Nat → Prop) : Prop := ∃ c g cap, c.H = H ∧ c.L = L ∧ HeapIn w c g cap n S l F
/-- What has become of it. -/
def HStep (F : Nat → Prop) (w w' : World) (H L n : Nat) (S : List Sp) (l : List (Nat × Nat)) : Prop := ∃ F', HeapAt w' H L n S l F' ∧ Only F w w' ∧ ∀ k, F' k → F k ∨ w.heap.size ≤ k
theorem HeapAt.below {w w' : World} {H L n : Nat} {S : List Sp} {l : List (Nat × Nat)} {F : Nat → Prop} (h : HeapAt w H L n S l F) (o : Below w.heap.size w w') : HeapAt w' H L n S l F := by
  obtain ⟨c, g, cap, h1, h2, h3⟩ := h
  exact ⟨c, g, cap, h1, h2, h3.below o⟩
theorem HeapAt.lt {w : World} {H L n : Nat} {S : List Sp} {l : List (Nat × Nat)} {F : Nat → Prop} (h : HeapAt w H L n S l F) : ∀ k, F k → k < w.heap.size := by
  obtain ⟨c, g, cap, h1, h2, h3⟩ := h
  exact h3.lt
theorem HeapAt.canon {w : World} {H L n : Nat} {S : List Sp} {l : List (Nat × Nat)} {F : Nat → Prop} (h : HeapAt w H L n S l F) : rn.Canon l := by
  obtain ⟨c, g, cap, h1, h2, h3⟩ := h
  exact h3.canon
theorem HeapAt.inv {w : World} {H L n : Nat} {S : List Sp} {l : List (Nat × Nat)} {F : Nat → Prop} (h : HeapAt w H L n S l F) : Inv S := by
  obtain ⟨c, g, cap, h1, h2, h3⟩ := h
  exact h3.inv
theorem HeapAt.mono {w : World} {H L n m : Nat} {S : List Sp} {l : List (Nat × Nat)} {F : Nat → Prop} (h : HeapAt w H L n S l F) (hm : n ≤ m) : HeapAt w H L m S l F := by
  obtain ⟨c, g, cap, h1, h2, h3⟩ := h
  exact ⟨c, g, cap, h1, h2, { h3 with core := { h3.core with mp1 := h3.core.mp1.mono hm, mp2 := h3.core.mp2.mono hm } }⟩
theorem HeapAt.step {w w' : World} {H L n : Nat} {S : List Sp} {l : List (Nat × Nat)} {F : Nat → Prop} (h : HeapAt w H L n S l F) (o : Below w.heap.size w w') : HStep F w w' H L n S l :=
  ⟨F, h.below o, Only.of_below o, fun k hk => .inl hk⟩
theorem HStep.mono {w w' : World} {H L n m : Nat} {S : List Sp} {l : List (Nat × Nat)} {F : Nat → Prop} (h : HStep F w w' H L n S l) (hm : n ≤ m) : HStep F w w' H L m S l := by
  obtain ⟨F', h1, h2, h3⟩ := h
  exact ⟨F', h1.mono hm, h2, h3⟩
theorem HStep.below {w w' w'' : World} {H L n : Nat} {S : List Sp} {l : List (Nat × Nat)} {F : Nat → Prop} (h : HStep F w w' H L n S l) (o : Below w'.heap.size w' w'') : HStep F w w'' H L n S l := by
  obtain ⟨F', h1, h2, h3⟩ := h
  exact ⟨F', h1.below o, h2.next o, h3⟩
theorem HStep.before {w0 w w' : World} {H L n : Nat} {S : List Sp} {l : List (Nat × Nat)} {F : Nat → Prop} (h : HStep F w w' H L n S l) (o : Below w0.heap.size w0 w) : HStep F w0 w' H L n S l := by
  obtain ⟨F', h1, h2, h3⟩ := h
  exact ⟨F', h1, (Only.of_below (S := F) o).trans h2 (fun i _ hi => hi), fun k hk => (h3 k hk).imp id (fun h => Nat.le_trans o.size h)⟩
theorem HStep.trans {w w' w'' : World} {H L n n' : Nat} {S S' : List Sp} {l l' : List (Nat × Nat)} {F : Nat → Prop} (h : HStep F w w' H L n S l) (h2 : ∀ F', HeapAt w' H L n S l F' → HStep F' w' w'' H L n' S' l') : HStep F w w'' H L n' S' l' := by
  obtain ⟨F', h1, ho, hF⟩ := h
  obtain ⟨F2, h3, ho2, hF2⟩ := h2 F' h1
  refine ⟨F2, h3, ho.trans ho2 (fun i hi hi2 => (hF i hi2).elim id (fun h => by omega)), fun k hk => ?_⟩
  rcases hF2 k hk with h | h
  · exact hF k h
  · exact .inr (Nat.le_trans ho.size h)
theorem HStep.only {w w' : World} {H L n : Nat} {S : List Sp} {l : List (Nat × Nat)} {F : Nat → Prop} (h : HStep F w w' H L n S l) : Only F w w' := h.choose_spec.2.1
/-- Another heap stays as it is. -/
theorem HeapIn.only {w w' : World} {c : HC} {g cap n : Nat} {S : List Sp} {l : List (Nat × Nat)} {F G : Nat → Prop} (h : HeapIn w c g cap n S l F) (o : Only G w w') (hG : ∀ k, F k → ¬ G k) : HeapIn w' c g cap n S l F :=
  { h with
    core := h.core.move o (fun k hk => hG k (h.fK k hk)) (fun s hs A cap hm x y he => hG x (h.wrd s hs A cap hm x y he).2.2)
    land := h.land.only o (hG _ h.fL) (hG _ h.fg)
    lt := fun k hk => Nat.lt_of_lt_of_le (h.lt k hk) o.size }
theorem HeapAt.only {w w' : World} {H L n : Nat} {S : List Sp} {l : List (Nat × Nat)} {F G : Nat → Prop} (h : HeapAt w H L n S l F) (o : Only G w w') (hG : ∀ k, F k → ¬ G k) : HeapAt w' H L n S l F := by
  obtain ⟨c, g, cap, h1, h2, h3⟩ := h
  exact ⟨c, g, cap, h1, h2, h3.only o hG⟩

/-! Plain lists of spans. -/
theorem Inv.of_mem {S : List Sp} (h : Inv S) {s t : Sp} (hs : s ∈ S) (ht : t ∈ S) : s = t ∨ s.pg + s.ps ≤ t.pg ∨ t.pg + t.ps ≤ s.pg := by
  obtain ⟨i, hi⟩ := List.mem_iff_getElem?.1 hs
  obtain ⟨j, hj⟩ := List.mem_iff_getElem?.1 ht
  rcases Nat.lt_trichotomy i j with h3 | h3 | h3
  · exact .inr (.inl ((List.pairwise_iff_getElem.1 h.2) i j (List.getElem?_eq_some_iff.1 hi).1 (List.getElem?_eq_some_iff.1 hj).1 h3 |> fun h => by
      rw [(List.getElem?_eq_some_iff.1 hi).2, (List.getElem?_eq_some_iff.1 hj).2] at h; exact h))
  · subst h3; rw [hi] at hj; cases hj; exact .inl rfl
  · exact .inr (.inr ((List.pairwise_iff_getElem.1 h.2) j i (List.getElem?_eq_some_iff.1 hj).1 (List.getElem?_eq_some_iff.1 hi).1 h3 |> fun h => by
      rw [(List.getElem?_eq_some_iff.1 hi).2, (List.getElem?_eq_some_iff.1 hj).2] at h; exact h))
/-- Rising pages, and apart: in order. -/
theorem inv_of {S : List Sp} (h1 : ∀ s ∈ S, s.ok ∧ 0 < s.cnt) (h2 : Rise (pagesS S)) (h3 : ∀ s ∈ S, ∀ t ∈ S, s.pg < t.pg → s.pg + s.ps ≤ t.pg) : Inv S := by
  refine ⟨h1, ?_⟩
  unfold Rise pagesS at h2
  rw [List.pairwise_map] at h2
  exact List.Pairwise.imp_of_mem (fun {a b} ha hb hab => h3 a ha b hb hab) h2
theorem inv_set {S : List Sp} {s : Sp} (h : Inv S) (hs : s.ok) (ha : ∀ t ∈ S, t.pg ≠ s.pg → t.pg + t.ps ≤ s.pg ∨ s.pg + s.ps ≤ t.pg) : Inv (setS S s) := by
  refine inv_of (fun t ht => ?_) (setS_rise h.rise) (fun t ht u hu hlt => ?_)
  · rcases setS_mem.1 ht with ⟨h1, _⟩ | ⟨rfl, h2⟩
    · exact h.1 t h1
    · exact ⟨hs, h2⟩
  · rcases setS_mem.1 ht with ⟨h1, h2⟩ | ⟨rfl, h2⟩
    · rcases setS_mem.1 hu with ⟨h3, h4⟩ | ⟨rfl, h4⟩
      · rcases h.of_mem h1 h3 with rfl | h5 | h5 <;> omega
      · have := ha t h1 h2; have := hs.ps1; omega
    · rcases setS_mem.1 hu with ⟨h3, h4⟩ | ⟨rfl, h4⟩
      · have := ha u h3 h4; have := (h.1 u h3).1.ps1; omega
      · omega
/-- A span put where one with the same pages was. -/
theorem inv_put {S : List Sp} {s t : Sp} (h : Inv S) (ht : t ∈ S) (hp : s.pg = t.pg) (hn : s.ps = t.ps) (hs : s.ok) : Inv (setS S s) := by
  refine inv_set h hs (fun u hu hne => ?_)
  rcases h.of_mem hu ht with rfl | h1 | h1
  · exact absurd hp.symm hne
  · omega
  · omega
theorem cov_set {S : List Sp} {s : Sp} (j : Nat) : Cov (setS S s) j ↔ (∃ t ∈ S, t.pg ≠ s.pg ∧ t.pg ≤ j ∧ j < t.pg + t.ps) ∨ (0 < s.cnt ∧ s.pg ≤ j ∧ j < s.pg + s.ps) := by
  constructor
  · rintro ⟨t, ht, h1, h2⟩
    rcases setS_mem.1 ht with ⟨h3, h4⟩ | ⟨rfl, h4⟩
    · exact .inl ⟨t, h3, h4, h1, h2⟩
    · exact .inr ⟨h4, h1, h2⟩
  · rintro (⟨t, h3, h4, h1, h2⟩ | ⟨h4, h1, h2⟩)
    · exact ⟨t, setS_mem.2 (.inl ⟨h3, h4⟩), h1, h2⟩
    · exact ⟨s, setS_mem.2 (.inr ⟨rfl, h4⟩), h1, h2⟩
theorem cov_put {S : List Sp} {s t : Sp} (h : Inv S) (ht : t ∈ S) (hp : s.pg = t.pg) (hn : s.ps = t.ps) (hc : 0 < s.cnt) (j : Nat) : Cov (setS S s) j ↔ Cov S j := by
  rw [cov_set]
  constructor
  · rintro (⟨u, h3, _, h1, h2⟩ | ⟨_, h1, h2⟩)
    · exact ⟨u, h3, h1, h2⟩
    · exact ⟨t, ht, by omega, by omega⟩
  · rintro ⟨u, h3, h1, h2⟩
    by_cases e : u.pg = s.pg
    · obtain rfl := rise_one h.rise h3 ht (by omega)
      exact .inr ⟨hc, by omega, by omega⟩
    · exact .inl ⟨u, h3, e, h1, h2⟩
theorem cov_new {S : List Sp} {s : Sp} (hf : ∀ t ∈ S, t.pg ≠ s.pg) (hc : 0 < s.cnt) (j : Nat) : Cov (setS S s) j ↔ Cov S j ∨ (s.pg ≤ j ∧ j < s.pg + s.ps) := by
  rw [cov_set]
  constructor
  · rintro (⟨u, h3, _, h1, h2⟩ | ⟨_, h1, h2⟩)
    · exact .inl ⟨u, h3, h1, h2⟩
    · exact .inr ⟨h1, h2⟩
  · rintro (⟨u, h3, h1, h2⟩ | ⟨h1, h2⟩)
    · exact .inl ⟨u, h3, hf u h3, h1, h2⟩
    · exact .inr ⟨hc, h1, h2⟩
theorem cov_gone {S : List Sp} {s t : Sp} (h : Inv S) (ht : t ∈ S) (hp : s.pg = t.pg) (hn : s.ps = t.ps) (hc : s.cnt = 0) (j : Nat) : Cov (setS S s) j ↔ Cov S j ∧ ¬ (s.pg ≤ j ∧ j < s.pg + s.ps) := by
  rw [cov_set]
  constructor
  · rintro (⟨u, h3, h4, h1, h2⟩ | ⟨h0, _⟩)
    · refine ⟨⟨u, h3, h1, h2⟩, fun h5 => ?_⟩
      rcases h.of_mem h3 ht with rfl | h6 | h6 <;> omega
    · omega
  · rintro ⟨⟨u, h3, h1, h2⟩, h4⟩
    refine .inl ⟨u, h3, fun e => ?_, h1, h2⟩
    obtain rfl := rise_one h.rise h3 ht (by omega)
    omega
/-- The free pages. -/
def LandOf (S : List Sp) (l : List (Nat × Nat)) : Prop := ∀ j, rn.Fr l j ↔ 1 ≤ j ∧ j < 4096 ∧ ¬ Cov S j
theorem LandOf.one {S : List Sp} {l m : List (Nat × Nat)} (h : LandOf S l) (h' : LandOf S m) (hl : rn.Canon l) (hm : rn.Canon m) : l = m := hl.ext hm (fun j => (h j).trans (h' j).symm)
theorem rise_len : ∀ {l : List Nat} {a b : Nat}, Rise l → (∀ x ∈ l, a ≤ x ∧ x < b) → l.length + a ≤ b ∨ l = []
  | [], _, _, _, _ => .inr rfl
  | x :: l, a, b, h, hb => by
    have h1 := hb x (by simp)
    have h2 := rise_len (l := l) (a := x + 1) (b := b) h.of_cons (fun y hy => ⟨(List.pairwise_cons.1 h).1 y hy, (hb y (by simp [hy])).2⟩)
    rcases h2 with h2 | h2
    · exact .inl (by simp; omega)
    · subst h2; exact .inl (by simp; omega)
theorem Inv.len {S : List Sp} (h : Inv S) : S.length ≤ 4096 := by
  have h1 := rise_len (a := 0) (b := 4096) h.rise (fun x hx => by
    obtain ⟨s, hs, rfl⟩ := mem_pages.1 hx
    have := (h.1 s hs).1.ps1
    omega)
  unfold pagesS at h1
  rcases h1 with h1 | h1
  · simpa using h1
  · simp at h1; subst h1; simp
end Go.Proofs.YtadbbknllakpcaaGreat

/- set, at a heap. -/
namespace Go.Proofs.YtadbbknllakpcaaGreat
open Go.RowKit
set_option linter.unusedVariables false

theorem part_sub_len {S : List Sp} (h : Inv S) (c : Int) : (partS S c).length ≤ 4096 := by
  have := h.len
  have h2 : (partS S c).length ≤ S.length := by
    unfold partS
    rw [List.length_map]
    exact List.length_filter_le _ _
  omega
theorem pages_len {S : List Sp} (h : Inv S) : (pagesS S).length ≤ 4096 := by
  have := h.len
  unfold pagesS; rw [List.length_map]; exact this
theorem Rise.nodupP {S : List Sp} (h : Inv S) (c : Int) : Rise (partS S c) := part_rise h.rise
def SetH (F : Nat → Prop) (A : Option Addr) (w : World) (H L n : Nat) (S : List Sp) (l : List (Nat × Nat)) (b : Bool) (e : Ending) (w' : World) : Prop :=
  e = .returned (.bool b) ∧ ∃ F', HeapAt w' H L n S l F' ∧ Only F w w' ∧ ∀ k, F' k → F k ∨ w.heap.size ≤ k ∨ ∃ o, A = some ⟨k, o, none⟩
theorem sp_v_inj {s : Sp} {A B : Option Addr} {cap cap' : Nat} (h : s.v A cap = s.v B cap') : A = B ∧ cap = cap' := by
  unfold Sp.v spV at h
  simp at h
  exact h
theorem hset_calls (w : World) (H L n : Nat) (S : List Sp) (l : List (Nat × Nat)) (F : Nat → Prop) (s : Sp) (A : Option Addr) (cap : Nat) (h : HeapAt w H L n S l F) (hs : s.ok) (hW : WordsAt w A s.len s.f)
    (hA : ∀ x o, A = some ⟨x, o, none⟩ → ¬ F x) (hn : n ≤ 1000000) (hinv : Inv (setS S s)) (hcl : ∀ t ∈ S, t.pg = s.pg → t.cl = s.cl) :
    Calls Tryz.prog 21 #[.pointer (some ⟨H, 0, none⟩), s.v A cap] w (SetH F A w H L (n + 2) (setS S s) l (decide (0 < s.cnt))) := by
  obtain ⟨c, g, cp, rfl, rfl, hh⟩ := h
  refine (set_calls w c n (pagesS S) (partS S) S s A cap hh.core hh.inv.rise (by have := pages_len hh.inv; omega) (fun x => part_rise hh.inv.rise) (fun x => by have := part_sub_len hh.inv x; omega) hs hW
    (fun x o he hx => hA x o he (hh.fK x hx)) hn).mono ?_
  rintro e w' ⟨rfl, c', hH, hL, hC, hO, hK, hm⟩
  have hgl := hh.land.lt
  have hwl := hW.lt hs.len1
  refine ⟨rfl, fun k => F k ∨ (w.heap.size ≤ k ∧ k < w'.heap.size) ∨ ∃ o, A = some ⟨k, o, none⟩, ⟨c', g, cp, hH, hL, ?_⟩, hO.mono (fun i _ hi => hh.fK i hi), ?_⟩
  · have hK2 : ∀ k, c'.K k → k < w'.heap.size := hC.lt
    have e1 : (fun y => if y = s.cl then togL (partS S s.cl) s.pg (partOn s) else partS S y) = partS (setS S s) := by
      funext y
      rw [set_part hh.inv.rise hcl y]
      by_cases e : y = s.cl
      · subst e; rfl
      · rw [if_neg e, if_neg e]
    rw [e1, ← set_pages hh.inv.rise] at hC
    refine { core := hC, land := ?_, canon := hh.canon, inv := hinv, fK := ?_, fL := by rw [hL]; exact .inl hh.fL, fg := .inl hh.fg, nL := ?_, ng := ?_, wrd := ?_, lt := ?_ }
    · rw [hL]
      exact hh.land.only hO hh.nL hh.ng
    · intro k hk
      rcases hK k hk with h1 | h1
      · exact .inl (hh.fK k h1)
      · exact .inr (.inl ⟨h1, hK2 k hk⟩)
    · rw [hL]
      intro hk
      rcases hK _ hk with h1 | h1
      · exact hh.nL h1
      · omega
    · intro hk
      rcases hK _ hk with h1 | h1
      · exact hh.ng h1
      · omega
    · intro t ht A' cap' hmt x o he
      rw [hm] at hmt
      rw [hL]
      rcases setS_mem.1 ht with ⟨h1, h2⟩ | ⟨rfl, h2⟩
      · have h3 : c.m1 (t.pg : Int) = some (t.v A' cap') := by
          rw [← hmt]
          split
          · exact (if_neg (by omega)).symm
          · exact (if_neg (by omega)).symm
        obtain ⟨h4, h5, h6⟩ := hh.wrd t h1 A' cap' h3 x o he
        exact ⟨h4, h5, .inl h6⟩
      · rw [if_pos h2] at hmt
        unfold mput at hmt
        rw [if_pos rfl] at hmt
        obtain ⟨rfl, _⟩ := sp_v_inj (Option.some.inj hmt)
        refine ⟨fun e => ?_, fun e => ?_, .inr (.inr ⟨o, he⟩)⟩
        · exact hA x o he (e ▸ hh.fL)
        · exact hA x o he (e ▸ hh.fg)
    · rintro k (hk | hk | ⟨o, hk⟩)
      · exact Nat.lt_of_lt_of_le (hh.lt k hk) hO.size
      · exact hk.2
      · exact Nat.lt_of_lt_of_le (hwl k o hk) hO.size
  · rintro k (hk | hk | hk)
    · exact .inl hk
    · exact .inr (.inl hk.1)
    · exact .inr (.inr hk)
end Go.Proofs.YtadbbknllakpcaaGreat

/- Look-ups in a heap's maps; spans laid and stored in regions. -/
namespace Go.Proofs.YtadbbknllakpcaaGreat
open Go.RowKit Go.Maps
set_option linter.unusedVariables false

theorem wpList_look {w : World} {ops : Array Oper} {rest : List Oper} {o : Oper} {a : Act} {Q : Exit → Act → World → Prop} {m : Int → Option Value} {b n : Nat}
    (hg : o.guard = none) (mm x : Operand) (t e : TypeId) (hop : o.op = Op.lookup t mm x false) (ht : Tryz.prog.underlying t = some (.map 3 e)) {z : Value} (hz : (zeroValue e).run Tryz.prog w = .ok z w)
    (hm : a.eval mm = .map (some b)) (h : MapIs w b n m) (y : Int) (hx : a.eval x = .int .i64 y) (hy : (Lit.int .i64 y).wf = true)
    (hK : wpList Tryz.prog ops Q rest (a.put o.dst ((m y).getD z)) w) : wpList Tryz.prog ops Q (o :: rest) a w := by
  refine wpList_plain hg fun K' hK' => ?_
  unfold Oper.wp
  simp [execOp, hop, hm, hx, h.look ht hz hy, Result.andThen]
  exact hK' _ _ hK
theorem run_allocS (w : World) : (Instr.alloc 27 true (.tuple #[])).run Tryz.prog w = .ok (.pointer (some ⟨w.heap.size, 0, none⟩)) (w.alloc (.cells #[.int .i64 0, .int .i64 0, .int .i64 0, .slice none 0 0] 27)) := by
  kernel_rfl
theorem zero_span (w : World) : (zeroValue 27).run Tryz.prog w = .ok (spV 0 0 0 none 0 0) w := by kernel_rfl
theorem span_size : (Tryz.prog.info? 27).map (·.size) = some 4 := by kernel_rfl
def set4 (w : World) (X : Nat) (pg ps cl : Int) (A : Option Addr) (len cap : Nat) : World := (((w.setCell ⟨X, 0, none⟩ (.int .i64 pg)).setCell ⟨X, 1, none⟩ (.int .i64 ps)).setCell ⟨X, 2, none⟩ (.int .i64 cl)).setCell ⟨X, 3, none⟩ (.slice A len cap)
theorem store_one {w : World} {p : Addr} {u v : Value} (hv : v.oneCell' = true) (hc : w.cell? p = some u) (hf : w.frozen? p = false) : (store p v).run Tryz.prog w = .ok () (w.setCell p v) := by
  rw [run_store _ _ _ _ _ hv]
  simp [hc, hf]
theorem run_storeS {w : World} {X : Nat} {a b c : Int} {A : Option Addr} {ln cp : Nat} (h : SpB w X a b c A ln cp) (pg ps cl : Int) (A' : Option Addr) (len cap : Nat) :
    (Instr.storeAt 27 (.pointer (some ⟨X, 0, none⟩)) (spV pg ps cl A' len cap)).run Tryz.prog w = .ok () (set4 w X pg ps cl A' len cap) := by
  obtain ⟨i, hi, hs⟩ := Option.map_eq_some_iff.1 span_size
  have h0 := Blk.set h 0 (.int .i64 pg)
  have h1 := h0.set 1 (.int .i64 ps)
  have h2 := h1.set 2 (.int .i64 cl)
  have q0 := store_one (v := .int .i64 pg) rfl (Blk.cell h 0) (Blk.free h 0)
  have q1 := store_one (v := .int .i64 ps) rfl (h0.cell 1) (h0.free 1)
  have q2 := store_one (v := .int .i64 cl) rfl (h1.cell 2) (h1.free 2)
  have q3 := store_one (v := .slice A' len cap) rfl (h2.cell 3) (h2.free 3)
  unfold set4
  simp [Instr.storeAt, storeVar, spV, Instr.sureAddr, sizeOf, typeInfo, hi, hs, Value.cells, storeCells, Addr.add, Result.andThen, q0, q1, q2, q3]
end Go.Proofs.YtadbbknllakpcaaGreat
