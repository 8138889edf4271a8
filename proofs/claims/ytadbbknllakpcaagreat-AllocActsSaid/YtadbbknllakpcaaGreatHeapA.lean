/- Plain mathematics for layer 17 (alloc), and what a heap is in the machine. -/
import Derived.Test.YtadbbknllakpcaaGreatSpnC
import Derived.Test.YtadbbknllakpcaaGreatIntL
import Derived.Test.YtadbbknllakpcaaGreatMapV
import Derived.Test.YtadbbknllakpcaaGreatRnH
namespace Go.Proofs.YtadbbknllakpcaaGreat
open Go.RowKit
set_option linter.unusedVariables false

/-- A span. -/
structure Sp where
  pg : Nat
  ps : Nat
  cl : Int
  f : Nat → Bool
def Sp.per (s : Sp) : Nat := perN s.cl
def Sp.cnt (s : Sp) : Nat := cntF s.f s.per
def Sp.len (s : Sp) : Nat := wn s.per
def Sp.ok (s : Sp) : Prop := Good (s.pg : Int) (s.ps : Int) s.cl s.len s.f
def Sp.v (s : Sp) (A : Option Addr) (cap : Nat) : Value := spV (s.pg : Int) (s.ps : Int) s.cl A s.len cap
def pagesS (S : List Sp) : List Nat := S.map (·.pg)
def Sp.part (s : Sp) (c : Int) : Bool := s.cl == c && decide (s.cnt < s.per)
def partS (S : List Sp) (c : Int) : List Nat := (S.filter fun s => s.part c).map (·.pg)
/-- A heap's spans: P17.1. -/
def Inv (S : List Sp) : Prop := (∀ s ∈ S, s.ok ∧ 0 < s.cnt) ∧ S.Pairwise fun a b => a.pg + a.ps ≤ b.pg
/-- With a span as it is now. -/
def setS (S : List Sp) (s : Sp) : List Sp := S.filter (fun t => decide (t.pg < s.pg)) ++ ((if 0 < s.cnt then [s] else []) ++ S.filter (fun t => decide (s.pg < t.pg)))
theorem Sp.ok.ps1 {s : Sp} (h : s.ok) : 1 ≤ s.pg ∧ 1 ≤ s.ps ∧ s.pg + s.ps ≤ 4096 := by
  have h1 := Good.p1 h
  have h2 := Good.p2 h
  have h3 := Good.p3 h
  omega
theorem Inv.rise {S : List Sp} (h : Inv S) : Rise (pagesS S) := by
  unfold Rise pagesS
  rw [List.pairwise_map]
  exact List.Pairwise.imp_of_mem (fun {a b} ha hb hab => by have := (h.1 a ha).1.ps1; omega) h.2
theorem setS_mem {S : List Sp} {s t : Sp} : t ∈ setS S s ↔ (t ∈ S ∧ t.pg ≠ s.pg) ∨ (t = s ∧ 0 < s.cnt) := by
  unfold setS
  simp only [List.mem_append, List.mem_filter, decide_eq_true_eq]
  constructor
  · rintro (⟨h1, h2⟩ | h | ⟨h1, h2⟩)
    · exact .inl ⟨h1, by omega⟩
    · split at h
      · exact .inr ⟨List.mem_singleton.1 h, ‹_›⟩
      · cases h
    · exact .inl ⟨h1, by omega⟩
  · rintro (⟨h1, h2⟩ | ⟨rfl, h2⟩)
    · rcases Nat.lt_or_ge t.pg s.pg with h3 | h3
      · exact .inl ⟨h1, h3⟩
      · exact .inr (.inr ⟨h1, by omega⟩)
    · exact .inr (.inl (by rw [if_pos h2]; exact List.mem_singleton.2 rfl))
theorem rise_sub {S T : List Sp} (h : Rise (pagesS S)) (hT : T.Sublist S) : Rise (pagesS T) := by
  unfold Rise pagesS at *
  exact h.sublist (hT.map _)
theorem setS_rise {S : List Sp} {s : Sp} (h : Rise (pagesS S)) : Rise (pagesS (setS S s)) := by
  have hf : ∀ p : Sp → Bool, (S.filter p).Pairwise (fun a b => a.pg < b.pg) := fun p => by
    have := rise_sub h (List.filter_sublist (p := p) (l := S))
    unfold Rise pagesS at this
    rwa [List.pairwise_map] at this
  unfold Rise pagesS setS
  rw [List.pairwise_map]
  have h1 : ((if 0 < s.cnt then [s] else []) ++ S.filter (fun t => decide (s.pg < t.pg))).Pairwise (fun a b => a.pg < b.pg) := by
    refine List.pairwise_append.2 ⟨?_, hf _, fun a ha b hb => ?_⟩
    · split
      · exact List.pairwise_singleton _ _
      · exact List.Pairwise.nil
    · have h2 := (List.mem_filter.1 hb).2
      simp only [decide_eq_true_eq] at h2
      split at ha
      · rw [List.mem_singleton.1 ha]; exact h2
      · cases ha
  refine List.pairwise_append.2 ⟨hf _, h1, fun a ha b hb => ?_⟩
  have h2 := (List.mem_filter.1 ha).2
  simp only [decide_eq_true_eq] at h2
  rcases List.mem_append.1 hb with hb | hb
  · split at hb
    · rw [List.mem_singleton.1 hb]; exact h2
    · cases hb
  · have h3 := (List.mem_filter.1 hb).2
    simp only [decide_eq_true_eq] at h3
    omega
theorem mem_pages {S : List Sp} {x : Nat} : x ∈ pagesS S ↔ ∃ s ∈ S, s.pg = x := by unfold pagesS; exact List.mem_map
theorem mem_part {S : List Sp} {c : Int} {x : Nat} : x ∈ partS S c ↔ ∃ s ∈ S, s.part c = true ∧ s.pg = x := by
  unfold partS
  rw [List.mem_map]
  simp only [List.mem_filter, and_assoc]
theorem set_pages {S : List Sp} {s : Sp} (h : Rise (pagesS S)) : pagesS (setS S s) = togL (pagesS S) s.pg (decide (0 < s.cnt)) := by
  refine (setS_rise h).ext (tog_rise h) fun x => ?_
  rw [mem_pages, tog_mem, mem_pages]
  constructor
  · rintro ⟨t, ht, rfl⟩
    rcases setS_mem.1 ht with ⟨h1, h2⟩ | ⟨rfl, h2⟩
    · exact .inl ⟨⟨t, h1, rfl⟩, h2⟩
    · exact .inr ⟨rfl, decide_eq_true h2⟩
  · rintro (⟨⟨t, h1, rfl⟩, h2⟩ | ⟨rfl, h2⟩)
    · exact ⟨t, setS_mem.2 (.inl ⟨h1, h2⟩), rfl⟩
    · exact ⟨s, setS_mem.2 (.inr ⟨rfl, of_decide_eq_true h2⟩), rfl⟩
theorem part_rise {S : List Sp} {c : Int} (h : Rise (pagesS S)) : Rise (partS S c) := rise_sub h List.filter_sublist
theorem rise_one {S : List Sp} (h : Rise (pagesS S)) {s t : Sp} (hs : s ∈ S) (ht : t ∈ S) (he : s.pg = t.pg) : s = t := by
  obtain ⟨i, hi⟩ := List.mem_iff_getElem?.1 hs
  obtain ⟨j, hj⟩ := List.mem_iff_getElem?.1 ht
  have h1 : (pagesS S)[i]? = some s.pg := by unfold pagesS; rw [List.getElem?_map, hi]; rfl
  have h2 : (pagesS S)[j]? = some t.pg := by unfold pagesS; rw [List.getElem?_map, hj]; rfl
  rcases Nat.lt_trichotomy i j with h3 | h3 | h3
  · have := h.lt_at h1 h2 h3; omega
  · subst h3; rw [hi] at hj; cases hj; rfl
  · have := h.lt_at h2 h1 h3; omega
def partOn (s : Sp) : Bool := decide (0 < s.cnt) && decide (s.cnt < s.per)
theorem set_part {S : List Sp} {s : Sp} (h : Rise (pagesS S)) (hc : ∀ t ∈ S, t.pg = s.pg → t.cl = s.cl) (c : Int) : partS (setS S s) c = if c = s.cl then togL (partS S c) s.pg (partOn s) else partS S c := by
  split
  · rename_i e
    subst e
    refine (part_rise (setS_rise h)).ext (tog_rise (part_rise h)) fun x => ?_
    rw [mem_part, tog_mem, mem_part]
    constructor
    · rintro ⟨t, ht, hp, rfl⟩
      rcases setS_mem.1 ht with ⟨h1, h2⟩ | ⟨rfl, h2⟩
      · exact .inl ⟨⟨t, h1, hp, rfl⟩, h2⟩
      · refine .inr ⟨rfl, ?_⟩
        unfold Sp.part at hp
        unfold partOn
        simp at hp ⊢
        exact ⟨h2, hp⟩
    · rintro (⟨⟨t, h1, hp, rfl⟩, h2⟩ | ⟨rfl, h2⟩)
      · exact ⟨t, setS_mem.2 (.inl ⟨h1, h2⟩), hp, rfl⟩
      · unfold partOn at h2
        simp at h2
        exact ⟨s, setS_mem.2 (.inr ⟨rfl, h2.1⟩), by unfold Sp.part; simp; exact h2.2, rfl⟩
  · rename_i e
    refine (part_rise (setS_rise h)).ext (part_rise h) fun x => ?_
    rw [mem_part, mem_part]
    constructor
    · rintro ⟨t, ht, hp, rfl⟩
      rcases setS_mem.1 ht with ⟨h1, h2⟩ | ⟨rfl, h2⟩
      · exact ⟨t, h1, hp, rfl⟩
      · unfold Sp.part at hp
        simp at hp
        exact absurd hp.1.symm e
    · rintro ⟨t, h1, hp, rfl⟩
      refine ⟨t, setS_mem.2 (.inl ⟨h1, fun h2 => ?_⟩), hp, rfl⟩
      have h3 := hc t h1 h2
      unfold Sp.part at hp
      simp at hp
      exact e (hp.1.symm.trans h3)
/-- Pages that a heap's spans cover. -/
def Cov (S : List Sp) (j : Nat) : Prop := ∃ s ∈ S, s.pg ≤ j ∧ j < s.pg + s.ps
end Go.Proofs.YtadbbknllakpcaaGreat

/- A heap's parts in the machine: what holds while it is written. -/
namespace Go.Proofs.YtadbbknllakpcaaGreat
open Go.RowKit
set_option linter.unusedVariables false

theorem own_onlyC {w w' : World} {base size n : Nat} {e : TypeId} {xs : List Value} {v : Value} {S : Nat → Prop} (h : w.ownsRow base e size v n xs) (o : Only S w w') (hS : ∀ k, v.ownBlock = some k → ¬ S k) : w'.ownsRow base e size v n xs := by
  refine ⟨h.1, ?_⟩
  rcases h.2 with h2 | ⟨g, cap, cur, rfl, hg, hh, r⟩
  · exact .inl h2
  · exact .inr ⟨g, cap, cur, rfl, hg, (o.block g (Array.getElem?_eq_some_iff.1 hh).1 (hS g rfl)).trans hh, r⟩
theorem own_apartC {w : World} {B n size R : Nat} {e t : TypeId} {v : Value} {xs cs : List Value} (h : w.ownsRow B e size v n xs) (hb : Blk w R cs t) (ht : t ≠ e) : v.ownBlock ≠ some R := by
  intro ho
  rcases h.2 with ⟨h1, _⟩ | ⟨g, cap, cur, rfl, hg, hh, _⟩
  · rw [h1] at ho; cases ho
  · simp only [Value.ownBlock, Option.some.injEq] at ho
    subst ho
    unfold Blk at hb
    rw [hh] at hb
    simp at hb
    exact ht hb.2.symm
theorem own_ne_map {w : World} {B n size b k : Nat} {e : TypeId} {v : Value} {xs : List Value} {m : Int → Option Value} (h : w.ownsRow B e size v n xs) (hm : MapIs w b k m) : v.ownBlock ≠ some b := by
  intro ho
  obtain ⟨D, ⟨es, clock, h1, _⟩, _⟩ := hm
  rcases h.2 with ⟨h2, _⟩ | ⟨g, cap, cur, rfl, hg, hh, _⟩
  · rw [h2] at ho; cases ho
  · simp only [Value.ownBlock, Option.some.injEq] at ho
    subst ho
    rw [hh] at h1
    cases h1
theorem blk_ne_map {w : World} {b c k : Nat} {cs : List Value} {t : TypeId} {m : Int → Option Value} (h : Blk w b cs t) (hm : MapIs w c k m) : b ≠ c := by
  intro e
  subst e
  obtain ⟨D, ⟨es, clock, h1, _⟩, _⟩ := hm
  unfold Blk at h
  rw [h] at h1
  cases h1
theorem WordsAt.only {w w' : World} {A : Option Addr} {len : Nat} {f : Nat → Bool} {S : Nat → Prop} (h : WordsAt w A len f) (o : Only S w w') (hS : ∀ x y, A = some ⟨x, y, none⟩ → ¬ S x) : WordsAt w' A len f := by
  refine ⟨?_, h.2⟩
  rcases h.1 with h1 | ⟨b, p, rfl, hl, hc⟩
  · exact .inl h1
  · exact .inr ⟨b, p, rfl, Nat.lt_of_lt_of_le hl o.size, fun i u hu => (World.cell?_of_block (o.block b hl (hS b p rfl))).trans (hc i u hu)⟩
theorem WordsAt.lt {w : World} {A : Option Addr} {len : Nat} {f : Nat → Bool} (h : WordsAt w A len f) (hl : 0 < len) : ∀ x y, A = some ⟨x, y, none⟩ → x < w.heap.size := by
  intro x y e
  rcases h.1 with h1 | ⟨b, p, h2, h3, _⟩
  · omega
  · rw [h2] at e; cases e; exact h3
theorem Sp.ok.len1 {s : Sp} (h : s.ok) : 1 ≤ s.len := by
  have h1 := (Good.size h).2.2.2.1
  unfold Sp.len Sp.per wn
  have : perN s.cl = s.per := rfl
  omega
/-- The parts of a heap. -/
structure HC where
  H : Nat
  L : Nat
  r1 : Nat
  r2 : Nat
  fv : Value
  m1 : Int → Option Value
  m2 : Int → Option Value
/-- The blocks that a heap may write. -/
def HC.K (c : HC) (k : Nat) : Prop := k = c.H ∨ k = c.r1 ∨ k = c.r2 ∨ c.fv.ownBlock = some k ∨ ∃ x v, c.m2 x = some v ∧ v.ownBlock = some k
def nilV : Value := .slice none 0 0
/-- Where a span's words are. -/
def LiveAt (w : World) (c : HC) (s : Sp) : Prop := s.ok ∧ ∃ A cap, c.m1 (s.pg : Int) = some (s.v A cap) ∧ WordsAt w A s.len s.f ∧ ∀ x o, A = some ⟨x, o, none⟩ → ¬ c.K x
structure Core (w : World) (c : HC) (n : Nat) (P : List Nat) (Q : Int → List Nat) (T : List Sp) : Prop where
  blk : Blk w c.H [.pointer (some ⟨c.L, 0, none⟩), .map (some c.r1), c.fv, .map (some c.r2)] 61
  mp1 : MapIs w c.r1 n c.m1
  mp2 : MapIs w c.r2 n c.m2
  ne : c.r1 ≠ c.r2
  fst : w.ownsRow 0 3 1 c.fv P.length (natsV P)
  has : ∀ s ∈ T, LiveAt w c s
  only : ∀ (x : Int) v, c.m1 x = some v → ∃ s ∈ T, (s.pg : Int) = x
  prt : ∀ x : Int, w.ownsRow 0 3 1 ((c.m2 x).getD nilV) (Q x).length (natsV (Q x))
  ap1 : ∀ x v k, c.m2 x = some v → v.ownBlock = some k → c.fv.ownBlock ≠ some k
  ap2 : ∀ x y v u k, x ≠ y → c.m2 x = some v → c.m2 y = some u → v.ownBlock = some k → u.ownBlock ≠ some k
theorem getD_own {o : Option Value} {k : Nat} (h : (o.getD nilV).ownBlock = some k) : ∃ v, o = some v ∧ v.ownBlock = some k := by
  cases o with
  | none => cases h
  | some v => exact ⟨v, rfl, h⟩
theorem LiveAt.move {w w' : World} {c c' : HC} {s : Sp} {S : Nat → Prop} (h : LiveAt w c s) (o : Only S w w') (hS : ∀ k, S k → c.K k) (hm : c'.m1 (s.pg : Int) = c.m1 (s.pg : Int)) (hK : ∀ k, c'.K k → c.K k ∨ w.heap.size ≤ k) : LiveAt w' c' s := by
  obtain ⟨h0, A, cap, h1, h2, h3⟩ := h
  refine ⟨h0, A, cap, hm.trans h1, h2.only o (fun x y e hx => h3 x y e (hS x hx)), fun x y e hx => ?_⟩
  rcases hK x hx with h4 | h4
  · exact h3 x y e h4
  · have := h2.lt (by have := h0.len1; omega) x y e; omega
theorem Core.lt {w : World} {c : HC} {n : Nat} {P : List Nat} {Q : Int → List Nat} {T : List Sp} (h : Core w c n P Q T) : ∀ k, c.K k → k < w.heap.size := by
  rintro k (rfl | rfl | rfl | h1 | ⟨x, v, h1, h2⟩)
  · exact h.blk.lt
  · exact h.mp1.lt
  · exact h.mp2.lt
  · exact (h.fst.lt k h1).2
  · have := h.prt x
    rw [h1] at this
    exact (this.lt k h2).2
theorem Core.move {w w' : World} {c : HC} {n : Nat} {P : List Nat} {Q : Int → List Nat} {T : List Sp} {S : Nat → Prop} (h : Core w c n P Q T) (o : Only S w w') (hS : ∀ k, c.K k → ¬ S k) (hL : ∀ s ∈ T, ∀ A cap, c.m1 (s.pg : Int) = some (s.v A cap) → ∀ x y, A = some ⟨x, y, none⟩ → ¬ S x) : Core w' c n P Q T where
  blk := h.blk.only o (hS _ (.inl rfl))
  mp1 := h.mp1.only o (hS _ (.inr (.inl rfl)))
  mp2 := h.mp2.only o (hS _ (.inr (.inr (.inl rfl))))
  ne := h.ne
  fst := own_onlyC h.fst o (fun k hk => hS _ (.inr (.inr (.inr (.inl hk)))))
  has := fun s hs => by
    obtain ⟨h0, A, cap, h1, h2, h3⟩ := h.has s hs
    exact ⟨h0, A, cap, h1, h2.only o (hL s hs A cap h1), h3⟩
  only := h.only
  prt := fun x => own_onlyC (h.prt x) o (fun k hk => by
    obtain ⟨v, h1, h2⟩ := getD_own hk
    exact hS _ (.inr (.inr (.inr (.inr ⟨x, v, h1, h2⟩)))))
  ap1 := h.ap1
  ap2 := h.ap2
theorem Core.below {w w' : World} {c : HC} {n : Nat} {P : List Nat} {Q : Int → List Nat} {T : List Sp} (h : Core w c n P Q T) (o : Below w.heap.size w w') : Core w' c n P Q T :=
  h.move (S := fun _ => False) (Only.of_below o) (fun _ _ h => h) (fun _ _ _ _ _ _ _ _ h => h)
/-- A class's list is written. -/
theorem core_part {w w1 w2 : World} {c : HC} {n : Nat} {P : List Nat} {Q : Int → List Nat} {T : List Sp} {x : Int} {v' : Value} {l' : List Nat} (h : Core w c n P Q T) (hT : TogR ((c.m2 x).getD nilV) l' w (.returned v') w1)
    (hm : MapIs w2 c.r2 (n + 1) (mput c.m2 x v')) (ho : Only (· = c.r2) w1 w2) :
    Core w2 { c with m2 := mput c.m2 x v' } (n + 1) P (fun y => if y = x then l' else Q y) T ∧ Only c.K w w2 ∧ ∀ k, HC.K { c with m2 := mput c.m2 x v' } k → c.K k ∨ w.heap.size ≤ k := by
  obtain ⟨v0, he, hown, hpl, hon⟩ := hT
  cases he
  have hv0 := h.prt x
  have hK0 : ∀ k, ((c.m2 x).getD nilV).ownBlock = some k → c.K k := fun k hk => by
    obtain ⟨v, h1, h2⟩ := getD_own hk
    exact .inr (.inr (.inr (.inr ⟨x, v, h1, h2⟩)))
  have hO : Only c.K w w2 := (hon.mono (fun k _ hk => hK0 k hk)).trans ho (fun k _ hk => by rw [hk]; exact .inr (.inr (.inl rfl)))
  have hKK : ∀ k, HC.K { c with m2 := mput c.m2 x v' } k → c.K k ∨ w.heap.size ≤ k := by
    rintro k (h1 | h1 | h1 | h1 | ⟨y, v, h1, h2⟩)
    · exact .inl (.inl h1)
    · exact .inl (.inr (.inl h1))
    · exact .inl (.inr (.inr (.inl h1)))
    · exact .inl (.inr (.inr (.inr (.inl h1))))
    · simp only [mput] at h1
      split at h1
      · cases h1
        exact (hpl k h2).imp (hK0 k) id
      · exact .inl (.inr (.inr (.inr (.inr ⟨y, v, h1, h2⟩))))
  have hH1 : Blk w1 c.H _ _ := h.blk.only hon (own_apartC hv0 h.blk (by decide))
  have hr2 : ¬ c.H = c.r2 := blk_ne_map h.blk h.mp2
  have own2 : ∀ {v n xs}, w1.ownsRow 0 3 1 v n xs → v.ownBlock ≠ some c.r2 → w2.ownsRow 0 3 1 v n xs := fun h1 h2 => own_onlyC h1 ho (fun k hk e => h2 (by rw [hk, e]))
  have hm1 : MapIs w1 c.r2 n c.m2 := h.mp2.only hon (own_ne_map hv0 h.mp2)
  refine ⟨⟨hH1.only ho hr2, ?_, hm, h.ne, ?_, ?_, h.only, ?_, ?_, ?_⟩, hO, hKK⟩
  · exact ((h.mp1.only hon (own_ne_map hv0 h.mp1)).only ho h.ne).mono (Nat.le_succ n)
  · have h1 := own_onlyC h.fst hon (fun k hk e => by
      obtain ⟨v, h1, h2⟩ := getD_own e
      exact h.ap1 x v k h1 h2 hk)
    exact own2 h1 (own_ne_map h1 hm1)
  · exact fun s hs => (h.has s hs).move hO (fun k hk => hk) rfl hKK
  · intro y
    by_cases e : y = x
    · subst e
      simp only [mput, if_pos rfl, Option.getD_some]
      exact own2 hown (own_ne_map hown hm1)
    · simp only [mput, if_neg e]
      have h1 := own_onlyC (h.prt y) hon (fun k hk e2 => by
        obtain ⟨v, g1, g2⟩ := getD_own hk
        obtain ⟨u, g3, g4⟩ := getD_own e2
        exact h.ap2 y x v u k e g1 g3 g2 g4)
      exact own2 h1 (own_ne_map h1 hm1)
  · intro y v k h1 h2
    simp only [mput] at h1
    split at h1
    · cases h1
      rcases hpl k h2 with h3 | h3
      · obtain ⟨u, g1, g2⟩ := getD_own h3
        exact h.ap1 x u k g1 g2
      · intro h4
        have := (h.fst.lt k h4).2
        omega
    · exact h.ap1 y v k h1 h2
  · intro y z v u k hyz h1 h2 h3 h4
    simp only [mput] at h1 h2
    have old : ∀ {y : Int} {u : Value}, c.m2 y = some u → u.ownBlock = some k → k < w.heap.size := fun {y u} g1 g2 => by
      have := h.prt y
      rw [g1] at this
      exact (this.lt k g2).2
    split at h1
    · cases h1
      split at h2
      · omega
      · rcases hpl k h3 with h5 | h5
        · obtain ⟨u', g1, g2⟩ := getD_own h5
          exact h.ap2 x z u' u k (by rintro rfl; contradiction) g1 h2 g2 h4
        · have := old h2 h4; omega
    · split at h2
      · cases h2
        rcases hpl k h4 with h5 | h5
        · obtain ⟨u', g1, g2⟩ := getD_own h5
          exact h.ap2 y x v u' k (by assumption) h1 g1 h3 g2
        · have := old h1 h3; omega
      · exact h.ap2 y z v u k hyz h1 h2 h3 h4
/-- The list of the pages is written. -/
theorem core_first {w w1 : World} {c : HC} {n : Nat} {P : List Nat} {Q : Int → List Nat} {T : List Sp} {v' : Value} {l' : List Nat} (h : Core w c n P Q T) (hT : TogR c.fv l' w (.returned v') w1) :
    Core (w1.setCell ⟨c.H, 2, none⟩ v') { c with fv := v' } n l' Q T ∧ Only c.K w (w1.setCell ⟨c.H, 2, none⟩ v') ∧ ∀ k, HC.K { c with fv := v' } k → c.K k ∨ w.heap.size ≤ k := by
  obtain ⟨v0, he, hown, hpl, hon⟩ := hT
  cases he
  have hK0 : ∀ k, c.fv.ownBlock = some k → c.K k := fun k hk => .inr (.inr (.inr (.inl hk)))
  have hH1 : Blk w1 c.H _ _ := h.blk.only hon (own_apartC h.fst h.blk (by decide))
  have ho : Only (· = c.H) w1 (w1.setCell ⟨c.H, 2, none⟩ v') := Only.set (S := (· = c.H)) (Only.refl _ w1) (p := ⟨c.H, 2, none⟩) (fun _ => rfl) v'
  have hO : Only c.K w (w1.setCell ⟨c.H, 2, none⟩ v') := (hon.mono (fun k _ hk => hK0 k hk)).trans ho (fun k _ hk => by rw [hk]; exact .inl rfl)
  have hKK : ∀ k, HC.K { c with fv := v' } k → c.K k ∨ w.heap.size ≤ k := by
    rintro k (h1 | h1 | h1 | h1 | h1)
    · exact .inl (.inl h1)
    · exact .inl (.inr (.inl h1))
    · exact .inl (.inr (.inr (.inl h1)))
    · exact (hpl k h1).imp (hK0 k) id
    · exact .inl (.inr (.inr (.inr (.inr h1))))
  have own2 : ∀ {v n xs}, w1.ownsRow 0 3 1 v n xs → (w1.setCell ⟨c.H, 2, none⟩ v').ownsRow 0 3 1 v n xs := fun h1 => own_onlyC h1 ho (fun k hk e => own_apartC h1 hH1 (by decide) (by rw [hk, e]))
  refine ⟨⟨?_, ?_, ?_, h.ne, own2 hown, ?_, h.only, ?_, ?_, h.ap2⟩, hO, hKK⟩
  · have := hH1.set 2 v'
    simpa using this
  · exact (h.mp1.only hon (own_ne_map h.fst h.mp1)).only ho (fun e => blk_ne_map h.blk h.mp1 e.symm)
  · exact (h.mp2.only hon (own_ne_map h.fst h.mp2)).only ho (fun e => blk_ne_map h.blk h.mp2 e.symm)
  · exact fun s hs => (h.has s hs).move hO (fun k hk => hk) rfl hKK
  · intro y
    exact own2 (own_onlyC (h.prt y) hon (fun k hk e => by
      obtain ⟨v, h1, h2⟩ := getD_own hk
      exact h.ap1 y v k h1 h2 e))
  · intro y v k h1 h2 h3
    rcases hpl k h3 with h4 | h4
    · exact h.ap1 y v k h1 h2 h4
    · have := h.prt y
      rw [h1] at this
      have := (this.lt k h2).2
      omega
/-- The spans themselves are written. -/
theorem core_map {w w2 : World} {c : HC} {n k : Nat} {P : List Nat} {Q : Int → List Nat} {T T' : List Sp} {m : Int → Option Value} (h : Core w c n P Q T) (hk : n ≤ k) (hm : MapIs w2 c.r1 k m) (ho : Only (· = c.r1) w w2)
    (hhas : ∀ s ∈ T', (s ∈ T ∧ m (s.pg : Int) = c.m1 (s.pg : Int)) ∨ LiveAt w { c with m1 := m } s) (honly : ∀ (x : Int) v, m x = some v → ∃ s ∈ T', (s.pg : Int) = x) :
    Core w2 { c with m1 := m } k P Q T' ∧ Only c.K w w2 ∧ ∀ k, HC.K { c with m1 := m } k → c.K k ∨ w.heap.size ≤ k := by
  have hO : Only c.K w w2 := ho.mono (fun k _ hk => by rw [hk]; exact .inr (.inl rfl))
  have hKK : ∀ k, HC.K { c with m1 := m } k → c.K k ∨ w.heap.size ≤ k := fun k hk => .inl hk
  have own2 : ∀ {v n xs}, w.ownsRow 0 3 1 v n xs → w2.ownsRow 0 3 1 v n xs := fun h1 => own_onlyC h1 ho (fun k hk e => own_ne_map h1 h.mp1 (by rw [hk, e]))
  refine ⟨⟨h.blk.only ho (blk_ne_map h.blk h.mp1), hm, (h.mp2.only ho (fun e => h.ne e.symm)).mono hk, h.ne, own2 h.fst, ?_, honly, fun y => own2 (h.prt y), h.ap1, h.ap2⟩, hO, hKK⟩
  intro s hs
  rcases hhas s hs with ⟨h1, h2⟩ | h1
  · exact (h.has s h1).move hO (fun k hk => hk) h2 hKK
  · exact h1.move (c := { c with m1 := m }) (c' := { c with m1 := m }) hO (fun k hk => hk) rfl (fun k hk => .inl hk)
end Go.Proofs.YtadbbknllakpcaaGreat
