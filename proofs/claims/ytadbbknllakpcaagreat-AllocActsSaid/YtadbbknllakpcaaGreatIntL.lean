/- Rising lists of numbers: slices.BinarySearch, Insert and Delete at []int; alloc's toggle. -/
import Derived.Test.YtadbbknllakpcaaGreatInsInt
import Derived.Test.YtadbbknllakpcaaGreatApp
import Derived.Deep.LoopGhost
import Derived.OwnWalk
import Derived.WalkArith
namespace Go.Proofs.YtadbbknllakpcaaGreat
open Go.RowKit
set_option linter.unusedVariables false

/-- Numbers as cells. -/
def natsV (l : List Nat) : List Value := l.map fun (z : Nat) => .int .i64 (z : Int)
theorem natsV_len (l : List Nat) : (natsV l).length = l.length := by simp [natsV]
theorem natsV_one (l : List Nat) : ∀ v ∈ natsV l, v.oneCell' = true := fun v hv => by obtain ⟨z, _, rfl⟩ := List.mem_map.1 hv; rfl
theorem natsV_at {l : List Nat} {j z : Nat} (h : l[j]? = some z) : (natsV l)[j]? = some (.int .i64 (z : Int)) := by unfold natsV; rw [List.getElem?_map, h]; rfl
theorem natsV_append (a b : List Nat) : natsV (a ++ b) = natsV a ++ natsV b := List.map_append
theorem natsV_take (l : List Nat) (i : Nat) : natsV (l.take i) = (natsV l).take i := List.map_take
theorem natsV_drop (l : List Nat) (i : Nat) : natsV (l.drop i) = (natsV l).drop i := List.map_drop
def Rise (l : List Nat) : Prop := l.Pairwise (· < ·)
theorem Rise.lt_at {l : List Nat} (h : Rise l) {i j a b : Nat} (hi : l[i]? = some a) (hj : l[j]? = some b) (hij : i < j) : a < b := by
  obtain ⟨h1, e1⟩ := List.getElem?_eq_some_iff.1 hi
  obtain ⟨h2, e2⟩ := List.getElem?_eq_some_iff.1 hj
  rw [← e1, ← e2]
  exact List.pairwise_iff_getElem.1 h i j h1 h2 hij
/-- Where a number is or belongs. -/
def PosN (l : List Nat) (x : Int) (i : Nat) : Prop := i ≤ l.length ∧ ∀ (k a : Nat), l[k]? = some a → (k < i ↔ (a : Int) < x)
/-- With a number, or without it. -/
def togL (l : List Nat) (x : Nat) (b : Bool) : List Nat := if b then l.filter (· < x) ++ x :: l.filter (x < ·) else l.filter (· ≠ x)
theorem PosN.split {l : List Nat} {x i : Nat} (hr : Rise l) (h : PosN l x i) : l.take i = l.filter (· < x) ∧ (l[i]? = some x → l.drop (i + 1) = l.filter (x < ·)) ∧ (l[i]? ≠ some x → l.drop i = l.filter (x < ·)) := by
  have e : l = l.take i ++ l.drop i := (List.take_append_drop i l).symm
  have h1 : ∀ a ∈ l.take i, a < x := fun a ha => by
    obtain ⟨k, hk⟩ := List.mem_iff_getElem?.1 ha
    rw [List.getElem?_take] at hk
    split at hk
    · have := (h.2 k a hk).1 ‹_›; omega
    · cases hk
  have h2 : ∀ a ∈ l.drop i, x ≤ a := fun a ha => by
    obtain ⟨k, hk⟩ := List.mem_iff_getElem?.1 ha
    rw [List.getElem?_drop] at hk
    have := h.2 _ a hk
    refine Classical.byContradiction fun hn => ?_
    have := this.2 (by omega)
    omega
  have fA : (l.take i).filter (· < x) = l.take i := List.filter_eq_self.2 (fun a ha => by simpa using h1 a ha)
  have fB : (l.drop i).filter (· < x) = [] := List.filter_eq_nil_iff.2 (fun a ha => by have := h2 a ha; simp; omega)
  have gA : (l.take i).filter (x < ·) = [] := List.filter_eq_nil_iff.2 (fun a ha => by have := h1 a ha; simp; omega)
  refine ⟨?_, fun hx => ?_, fun hx => ?_⟩
  · conv => rhs; rw [e, List.filter_append, fA, fB, List.append_nil]
  · have hi := (List.getElem?_eq_some_iff.1 hx).1
    have ed : l.drop i = x :: l.drop (i + 1) := by
      rw [List.drop_eq_getElem_cons hi]
      congr 1
      exact (List.getElem?_eq_some_iff.1 hx).2
    have h3 : ∀ a ∈ l.drop (i + 1), x < a := fun a ha => by
      obtain ⟨k, hk⟩ := List.mem_iff_getElem?.1 ha
      rw [List.getElem?_drop] at hk
      exact hr.lt_at hx hk (by omega)
    conv => rhs; rw [e, List.filter_append, gA, List.nil_append, ed, List.filter_cons]
    simp only [Nat.lt_irrefl, decide_false]
    exact (List.filter_eq_self.2 (fun a ha => by simpa using h3 a ha)).symm
  · have h3 : ∀ a ∈ l.drop i, x < a := fun a ha => by
      have h4 := h2 a ha
      rcases Nat.lt_or_ge x a with h5 | h5
      · exact h5
      · obtain rfl : a = x := by omega
        exfalso
        obtain ⟨k, hk⟩ := List.mem_iff_getElem?.1 ha
        rw [List.getElem?_drop] at hk
        rcases Nat.eq_zero_or_pos k with rfl | hk0
        · exact hx hk
        · have hil : i < l.length := by have := (List.getElem?_eq_some_iff.1 hk).1; omega
          have h6 := hr.lt_at (List.getElem?_eq_getElem hil) hk (by omega)
          have h7 := h2 _ (List.mem_of_getElem? (l := l.drop i) (i := 0) (by rw [List.getElem?_drop]; exact List.getElem?_eq_getElem hil))
          omega
    conv => rhs; rw [e, List.filter_append, gA, List.nil_append]
    exact (List.filter_eq_self.2 (fun a ha => by simpa using h3 a ha)).symm
theorem PosN.mem {l : List Nat} {x i : Nat} (hr : Rise l) (h : PosN l x i) : x ∈ l ↔ l[i]? = some x := by
  constructor
  · intro hm
    obtain ⟨k, hk⟩ := List.mem_iff_getElem?.1 hm
    have h1 : ¬ k < i := fun hki => by have := (h.2 k x hk).1 hki; omega
    have hil : i < l.length := by have := (List.getElem?_eq_some_iff.1 hk).1; omega
    have hy := List.getElem?_eq_getElem hil
    have h2 := h.2 i _ hy
    rcases Nat.lt_or_ge i k with hik | hik
    · have h3 := hr.lt_at hy hk hik
      have := h2.2 (by omega)
      omega
    · rw [show i = k by omega]; exact hk
  · exact List.mem_of_getElem?
theorem tog_no {l : List Nat} {x : Nat} (h : x ∉ l) : togL l x false = l := by
  unfold togL
  rw [if_neg (by decide)]
  exact List.filter_eq_self.2 (fun a ha => by
    simp only [ne_eq, decide_eq_true_eq]
    intro e
    subst e
    exact h ha)
theorem tog_in {l : List Nat} {x i : Nat} (hr : Rise l) (h : PosN l x i) (hx : l[i]? = some x) : togL l x true = l ∧ togL l x false = l.take i ++ l.drop (i + 1) := by
  obtain ⟨h1, h2, _⟩ := h.split hr
  have hi := (List.getElem?_eq_some_iff.1 hx).1
  have ed : l.drop i = x :: l.drop (i + 1) := by
    rw [List.drop_eq_getElem_cons hi]
    congr 1
    exact (List.getElem?_eq_some_iff.1 hx).2
  have e : l = l.take i ++ x :: l.drop (i + 1) := by rw [← ed, List.take_append_drop]
  unfold togL
  rw [if_pos rfl, if_neg (by decide), ← h1, ← h2 hx]
  refine ⟨e.symm, ?_⟩
  have f1 : (l.take i).filter (· ≠ x) = l.take i := List.filter_eq_self.2 (fun a ha => by
    rw [h1] at ha
    have := (List.mem_filter.1 ha).2
    simp at this ⊢; omega)
  have f2 : (l.drop (i + 1)).filter (· ≠ x) = l.drop (i + 1) := List.filter_eq_self.2 (fun a ha => by
    rw [h2 hx] at ha
    have := (List.mem_filter.1 ha).2
    simp at this ⊢; omega)
  conv => lhs; rw [e]
  rw [List.filter_append, List.filter_cons, f1, f2]
  simp
theorem tog_out {l : List Nat} {x i : Nat} (hr : Rise l) (h : PosN l x i) (hx : l[i]? ≠ some x) : togL l x true = l.take i ++ x :: l.drop i := by
  obtain ⟨h1, _, h3⟩ := h.split hr
  unfold togL
  rw [if_pos rfl, ← h1, ← h3 hx]
theorem tog_mem {l : List Nat} {x : Nat} {b : Bool} (a : Nat) : a ∈ togL l x b ↔ (a ∈ l ∧ a ≠ x) ∨ (a = x ∧ b = true) := by
  unfold togL
  cases b
  · rw [if_neg (by decide)]
    simp
  · rw [if_pos rfl]
    simp only [List.mem_append, List.mem_filter, List.mem_cons, decide_eq_true_eq, and_true]
    constructor
    · rintro (⟨h1, h2⟩ | h | ⟨h1, h2⟩)
      · exact .inl ⟨h1, by omega⟩
      · exact .inr h
      · exact .inl ⟨h1, by omega⟩
    · rintro (⟨h1, h2⟩ | h)
      · rcases Nat.lt_or_ge a x with h3 | h3
        · exact .inl ⟨h1, h3⟩
        · exact .inr (.inr ⟨h1, by omega⟩)
      · exact .inr (.inl h)
theorem tog_rise {l : List Nat} {x : Nat} {b : Bool} (h : Rise l) : Rise (togL l x b) := by
  unfold togL Rise
  cases b
  · rw [if_neg (by decide)]
    exact h.filter _
  · rw [if_pos rfl]
    refine List.pairwise_append.2 ⟨h.filter _, List.pairwise_cons.2 ⟨fun a ha => ?_, h.filter _⟩, fun a ha b hb => ?_⟩
    · simpa using (List.mem_filter.1 ha).2
    · have h1 := (List.mem_filter.1 ha).2
      simp at h1
      rcases List.mem_cons.1 hb with rfl | hb
      · exact h1
      · have h2 := (List.mem_filter.1 hb).2
        simp at h2
        omega
theorem Rise.ext {l m : List Nat} (hl : Rise l) (hm : Rise m) (h : ∀ a, a ∈ l ↔ a ∈ m) : l = m := by
  induction l generalizing m with
  | nil =>
    cases m with
    | nil => rfl
    | cons b m => exact absurd ((h b).2 List.mem_cons_self) (by simp)
  | cons a l ih =>
    cases m with
    | nil => exact absurd ((h a).1 List.mem_cons_self) (by simp)
    | cons b m =>
      obtain ⟨h1, h2⟩ := List.pairwise_cons.1 hl
      obtain ⟨h3, h4⟩ := List.pairwise_cons.1 hm
      have e : a = b := by
        rcases List.mem_cons.1 ((h a).1 List.mem_cons_self) with e | e
        · exact e
        · have h5 := h3 a e
          rcases List.mem_cons.1 ((h b).2 List.mem_cons_self) with e2 | e2
          · exact e2.symm
          · have := h1 b e2; omega
      subst e
      congr 1
      refine ih h2 h4 fun x => ⟨fun hx => ?_, fun hx => ?_⟩
      · rcases List.mem_cons.1 ((h x).1 (List.mem_cons_of_mem _ hx)) with e | e
        · have := h1 x hx; omega
        · exact e
      · rcases List.mem_cons.1 ((h x).2 (List.mem_cons_of_mem _ hx)) with e | e
        · have := h3 x hx; omega
        · exact e
/-! The walks. -/
theorem lessI_calls (a b : Int) (w : World) : Calls Tryz.prog 88 #[.int .i64 a, .int .i64 b] w fun e w' => e = .returned (.bool (decide (a < b))) ∧ w = w' := by
  go_enter Tryz.func88, Tryz.ntmps88
  go_wp2
  go_ret
  exact ⟨rfl, rfl⟩
theorem RdAt.num {w : World} {A : Option Addr} {l : List Nat} {k a : Nat} (h : RdAt w A l.length (natsV l)) (hk : l[k]? = some a) : ∃ b o, A = some ⟨b, o, none⟩ ∧ b < w.heap.size ∧ w.cell? ⟨b, o + k, none⟩ = some (.int .i64 (a : Int)) := by
  have hl := (List.getElem?_eq_some_iff.1 hk).1
  obtain ⟨b, o, rfl, hb, hc⟩ := h.resolve_left (by omega)
  exact ⟨b, o, rfl, hb, hc k _ (natsV_at hk)⟩
/-- What BinarySearch answers. -/
def BsR (l : List Nat) (x : Int) (w : World) (e : Ending) (w' : World) : Prop := ∃ (i : Nat) (b : Bool), e = .returned (.tuple #[.int .i64 i, .bool b]) ∧ PosN l x i ∧ (b = true ↔ ∃ a, l[i]? = some a ∧ (a : Int) = x) ∧ w = w'
set_option maxHeartbeats 4000000 in
theorem bsearchI_calls (w : World) (A : Option Addr) (cap : Nat) (l : List Nat) (x : Int) (hL : RdAt w A l.length (natsV l)) (hc : Rise l) (hl : l.length ≤ 100000) :
    Calls Tryz.prog 73 #[.slice A l.length cap, .int .i64 x] w (BsR l x w) := by
  have HL := Lib.hid hL
  have HC := Lib.hid hc
  clear hL hc
  go_enter Tryz.func73, Tryz.ntmps73
  go_wp2_with fail
  go_loopg [7, 8, 9] l.length (fun q i j h wr => ∃ (a b : Nat), q = b - a ∧ i = .int .i64 a ∧ j = .int .i64 b ∧ a ≤ b ∧ b ≤ l.length ∧ Hid (∀ k (p : Nat), l[k]? = some p → (k < a → (p : Int) < x) ∧ (b ≤ k → ¬ (p : Int) < x)) ∧ w = wr)
  case atStart => exact ⟨0, l.length, by omega, rfl, rfl, by omega, by omega, Lib.hid (fun k p hk => ⟨fun h => by omega, fun h => by have := (List.getElem?_eq_some_iff.1 hk).1; omega⟩), rfl⟩
  case round =>
    obtain ⟨a, b, hq, rfl, rfl, hab, hbl, hinv, rfl⟩ := hrel
    by_cases hlt : a < b
    · obtain ⟨h, hh⟩ : ∃ h, (a + b) / 2 = h := ⟨_, rfl⟩
      have hhi : ((a : Int) + (b : Int)) / 2 = (h : Int) := by omega
      have hhl : h < l.length := by omega
      obtain ⟨p, hp⟩ : ∃ p, l[h]? = some p := ⟨_, List.getElem?_eq_getElem hhl⟩
      obtain ⟨bb, o, rfl, hbb, r1⟩ := HL.out.num hp
      have HP := Lib.hid hp
      clear hp
      go_wp2_with fail
      refine (lessI_calls p x _).mono ?_
      rintro e w2 ⟨rfl, rfl⟩
      by_cases hc : (p : Int) < x
      · have d1 : decide ((p : Int) < x) = true := decide_eq_true hc
        go_wp2
        go_roundg (b - (h + 1))
        case measure => omega
        case rel => exact ⟨h + 1, b, rfl, by go_num, rfl, by omega, hbl, Lib.hid (fun k q hk => ⟨fun hkh => by
          by_cases e : k = h
          · subst e
            have := HP.out.symm.trans hk
            cases this
            exact hc
          · have := HC.out.lt_at hk HP.out (by omega); omega, fun hkb => (hinv.out k q hk).2 hkb⟩), rfl⟩
      · have d1 : decide ((p : Int) < x) = false := decide_eq_false hc
        go_wp2
        go_roundg (h - a)
        case measure => omega
        case rel => exact ⟨a, h, rfl, rfl, rfl, by omega, by omega, Lib.hid (fun k q hk => ⟨fun hka => (hinv.out k q hk).1 hka, fun hkh => by
          by_cases e : k = h
          · subst e
            have := HP.out.symm.trans hk
            cases this
            exact hc
          · have := HC.out.lt_at HP.out hk (by omega); omega⟩), rfl⟩
    · obtain rfl : a = b := by omega
      have hfin : PosN l x a := ⟨hbl, fun k q hk => ⟨fun h => (hinv.out k q hk).1 h, fun h => by
        refine Classical.byContradiction fun hn => ?_
        exact (hinv.out k q hk).2 (by omega) h⟩⟩
      have HFin := Lib.hid hfin
      clear hfin
      by_cases hal : a < l.length
      · obtain ⟨p, hp⟩ : ∃ p, l[a]? = some p := ⟨_, List.getElem?_eq_getElem hal⟩
        obtain ⟨bb, o, rfl, hbb, r1⟩ := HL.out.num hp
        have HP := Lib.hid hp
        clear hp
        by_cases hpx : (p : Int) = x
        · have d1 : ((p : Int) == x) = true := by rw [hpx]; simp
          go_wp2
          go_ret2
          exact ⟨a, _, rfl, HFin.out, ⟨fun _ => ⟨p, HP.out, hpx⟩, fun _ => rfl⟩, rfl⟩
        · have d1 : ((p : Int) == x) = false := by rw [beq_eq_false_iff_ne]; exact hpx
          go_wp2
          go_ret2
          exact ⟨a, _, rfl, HFin.out, ⟨(fun h => by cases h), fun ⟨p', h1, h2⟩ => by cases HP.out.symm.trans h1; exact absurd h2 hpx⟩, rfl⟩
      · obtain rfl : a = l.length := by omega
        go_wp2
        go_ret2
        exact ⟨_, _, rfl, HFin.out, ⟨(fun h => by cases h), fun ⟨p', h1, h2⟩ => by simp at h1⟩, rfl⟩
theorem own_slcI {w : World} {B n : Nat} {v : Value} {xs : List Value} (h : w.ownsRow B 3 1 v n xs) : (v = .slice none 0 0 ∧ n = 0) ∨ ∃ g cap cur, v = .slice (some ⟨g, 0, none⟩) n cap ∧ B ≤ g ∧ SlcInt w g n cap cur ∧ cur.take n = xs := by
  rcases h.2 with h2 | ⟨g, cap, cur, rfl, hB, hg, hnc, hcm, hcs, ht⟩
  · exact .inl h2
  · exact .inr ⟨g, cap, cur.toList, rfl, hB, ⟨hg, by simpa using hcs, hnc, hcm⟩, by simpa using ht⟩
theorem slc_ownI {w : World} {B n g cap : Nat} {cur xs : List Value} (hS : SlcInt w g n cap cur) (hB : B ≤ g) (ht : cur.take n = xs) : w.ownsRow B 3 1 (.slice (some ⟨g, 0, none⟩) n cap) n xs := by
  obtain ⟨h1, h2, h3, h4⟩ := hS
  refine ⟨?_, .inr ⟨g, cap, cur.toArray, rfl, hB, h1, h3, h4, by simpa using h2, by simpa using ht⟩⟩
  rw [← ht, List.length_take]; omega
/-- What has become of a list of numbers. -/
def TogR (v : Value) (l' : List Nat) (w : World) (e : Ending) (w' : World) : Prop :=
  ∃ v', e = .returned v' ∧ w'.ownsRow 0 3 1 v' l'.length (natsV l') ∧ (∀ k, v'.ownBlock = some k → v.ownBlock = some k ∨ w.heap.size ≤ k) ∧ Only (fun k => v.ownBlock = some k) w w'
set_option maxHeartbeats 1000000 in
theorem insertI_nil (w : World) (vb c x : Nat) (hv : Blk w vb [.int .i64 (x : Int)] 3) :
    Calls Tryz.prog 80 #[.slice none 0 0, .int .i64 0, .slice (some ⟨vb, 0, none⟩) 1 c] w (TogR (.slice none 0 0) [x] w) := by
  obtain ⟨i0, hi0, hz0, hz1, hz2⟩ := info_parts Tryz.info_Int
  have HR := Lib.hid (RdAt.of_blk (n := 1) hv)
  have hown := Lib.hid (World.ownsRow_nil w w.heap.size 3 1)
  clear hv
  go_enter Tryz.func80, Tryz.ntmps80
  go_wp2_with (at_builtin; refine wpList_append_rd rfl (.tmp 23) (.tmp 24) 37 rfl w.heap.size 3 i0 _ 1 8 Tryz.underlying37 hi0 hz0 hz1 hz2 rfl (by decide) (.slice none 0 0) 0 [] rfl hown.out (some ⟨vb, 0, none⟩) 1 c rfl (natsV [x]) rfl HR.out (natsV_one _) (by omega) (by unfold maxLen; omega) (by simp) ?_; intro v' w1 hown1 hgr1 hnew1 hnil1)
  go_ret
  refine ⟨_, rfl, ?_, fun k hk => ?_, ?_⟩
  · have := ownsRow_base (base' := 0) hown1 (Nat.zero_le _)
    simpa using this
  · exact .inr (hown1.lt k hk).1
  · exact Only.grown (Only.refl _ w) hgr1 (fun k hk _ => by simp [Value.ownBlock] at hk)
theorem insertI_own (w : World) (vb i c : Nat) (v : Value) (l : List Nat) (x : Nat) (hown : w.ownsRow 0 3 1 v l.length (natsV l)) (hi : i ≤ l.length) (hv : Blk w vb [.int .i64 (x : Int)] 3) (hne : v.ownBlock ≠ some vb) (hbig : l.length ≤ 100000) :
    Calls Tryz.prog 80 #[v, .int .i64 i, .slice (some ⟨vb, 0, none⟩) 1 c] w (TogR v (l.take i ++ x :: l.drop i) w) := by
  rcases own_slcI hown with ⟨rfl, h0⟩ | ⟨g, cap, cur, rfl, hBg, hS, ht⟩
  · obtain rfl : l = [] := List.eq_nil_of_length_eq_zero h0
    obtain rfl : i = 0 := by simpa using hi
    exact insertI_nil w vb c x hv
  · have hgv : vb ≠ g := fun e => hne (by rw [e]; rfl)
    refine (insert_Int w g l.length cap i vb 1 c cur _ _ hS hi (by omega) hv hgv rfl rfl (natsV_one [x]) (by rw [ht]; exact natsV_one l) (by omega)).mono ?_
    rintro e w' ⟨g', cap', cur', rfl, hS', ht', hg', ho⟩
    have hlen : (l.take i ++ x :: l.drop i).length = l.length + 1 := by rw [List.length_append, List.length_cons, List.length_take, List.length_drop]; omega
    refine ⟨_, rfl, ?_, fun k hk => ?_, ho.mono (fun k _ hk => by subst hk; rfl)⟩
    · rw [hlen]
      refine slc_ownI hS' (Nat.zero_le _) ?_
      rw [ht', ht, natsV_append, natsV_take]
      have e1 : cur.take i = (natsV l).take i := by rw [← ht, List.take_take, Nat.min_eq_left (by omega)]
      rw [e1, ← natsV_drop, List.append_assoc]
      rfl
    · simp only [Value.ownBlock, Option.some.injEq] at hk ⊢
      subst hk
      rcases hg' with h | h
      · exact .inl h.symm
      · exact .inr h
/-- 'append(s, xs...)' where there is room, as a step of a drawn region. -/
theorem step_app_room {P : Program} {w : World} {ops : Array Oper} {o : Oper} {a : Act} {K : Act → World → Prop} {Q : Exit → Act → World → Prop} {E : Prop} (hgd : o.guard = none) (s x : Operand) (t : TypeId)
    (ho : o.op = .call { callee := .builtin .append, args := #[s, x], argTypes := #[t, t] }) (e : TypeId) (i : TypeInfo) (ht : P.underlying t = some (.slice e)) (hi : P.info? e = some i) (k : Nat) (hsize : i.size = k)
    (g n cap : Nat) (cur : List Value) (hg : Blk w g cur e) (hs : a.eval s = .slice (some ⟨g, 0, none⟩) n cap) (ad : Addr) (m c : Nat) (hx : a.eval x = .slice (some ad) m c)
    (ys : List Value) (hl : ys.length = m * k) (hnews : ∀ j u, ys[j]? = some u → w.cell? (ad.add j) = some u) (h1 : ∀ u ∈ ys, u.oneCell' = true) (hroom : n + m ≤ cap) (hfit : cap * k ≤ cur.length)
    (h : ∀ w', Hid (Blk w' g (splice cur (n * k) ys) e) → Only (· = g) w w' → K (a.put o.dst (.slice (some ⟨g, 0, none⟩) (n + m) cap)) w') :
    if Region.wanted o (yielded ops a.tmps) = true then Oper.wp P o a w K Q else E := by
  subst hsize
  have hw : Region.wanted o (yielded ops a.tmps) = true := by simp [Region.wanted, hgd]
  rw [if_pos hw]
  have hfit2 : n * i.size + ys.length ≤ cur.length := by
    have : (n + m) * i.size ≤ cap * i.size := Nat.mul_le_mul_right _ hroom
    rw [Nat.add_mul] at this
    omega
  have hrun := run_append_room (P := P) w t o.type e i ht hi g n cap cur.toArray hg ad m c ys hl hnews h1 hroom (by simpa using hfit2)
  unfold Oper.wp execOp
  simp only [ho, resolve, invoke, builtin, Sem.run_bind, Sem.run_pure, Result.andThen_ok, List.map_toArray, List.map_cons, List.map_nil, hs, hx, hrun]
  have hk := setRow_heap w g cur.toArray (cur.toArray.toList.take (n * i.size) ++ ys ++ cur.toArray.toList.drop (n * i.size + ys.length)).toArray e (0, 0) hg
  refine h _ (Lib.hid (show Blk _ g (splice cur (n * i.size) ys) e from ?_)) (only_setRow _)
  rw [show splice cur (n * i.size) ys = cur.take (n * i.size) ++ ys ++ cur.drop (n * i.size + ys.length) by simp [splice]]
  exact hk
theorem splice_take {cur ys : List Value} {a : Nat} (ha : a + ys.length ≤ cur.length) : (splice cur a ys).take (a + ys.length) = cur.take a ++ ys := by
  unfold splice
  rw [← List.append_assoc, List.take_left' (by rw [List.length_append, List.length_take]; omega)]
set_option maxHeartbeats 4000000 in
theorem deleteI_own (w : World) (i : Nat) (v : Value) (l : List Nat) (hown : w.ownsRow 0 3 1 v l.length (natsV l)) (hi : i < l.length) (hbig : l.length ≤ 100000) :
    Calls Tryz.prog 81 #[v, .int .i64 i, .int .i64 ((i : Int) + 1)] w (TogR v (l.take i ++ l.drop (i + 1)) w) := by
  obtain ⟨i0, hi0, hz0, hz1, hz2⟩ := info_parts Tryz.info_Int
  rcases own_slcI hown with ⟨rfl, h0⟩ | ⟨g, cap, cur, rfl, hBg, hS, ht⟩
  · omega
  obtain ⟨hg, hcl, hnc, hcm⟩ := hS
  have hcm' : cap ≤ 9223372036854775807 := by unfold maxLen at hcm; omega
  have hrl : (l.take i ++ l.drop (i + 1)).length = l.length - 1 := by rw [List.length_append, List.length_take, List.length_drop]; omega
  obtain ⟨n, hn⟩ : ∃ n, l.length = n := ⟨_, rfl⟩
  have hDl : (natsV (l.drop (i + 1))).length = n - (i + 1) := by rw [natsV_len, List.length_drop, hn]
  have hDat : ∀ j v, (natsV (l.drop (i + 1)))[j]? = some v → cur[i + 1 + j]? = some v := fun j v hj => by
    rw [natsV_drop, ← ht, List.getElem?_drop, List.getElem?_take] at hj
    split at hj
    · exact hj
    · cases hj
  have hres : (splice cur i (natsV (l.drop (i + 1)))).take (n - 1) = natsV (l.take i ++ l.drop (i + 1)) := by
    have h1 : cur.take i = natsV (l.take i) := by rw [natsV_take, ← ht, List.take_take, Nat.min_eq_left (by omega)]
    rw [show n - 1 = i + (natsV (l.drop (i + 1))).length by rw [hDl]; omega, splice_take (by rw [hDl]; omega), natsV_append, h1]
  have hD1 := natsV_one (l.drop (i + 1))
  generalize natsV (l.drop (i + 1)) = D at *
  generalize l.take i ++ l.drop (i + 1) = R at *
  rw [hn] at hi hnc hbig hrl ⊢
  have HG := Lib.hid hg
  have HDl := Lib.hid hDl
  have HDat := Lib.hid hDat
  have HD1 := Lib.hid hD1
  have HRes := Lib.hid hres
  have HRl := Lib.hid hrl
  clear ht hg hDl hDat hD1 hres hn hrl hown
  have e1 : ((i : Int) == (i : Int) + 1) = false := by rw [beq_eq_false_iff_ne]; omega
  have e2 : i + (n - (i + 1)) = n - 1 := by omega
  have e3 : ((i : Int) + 1).toNat = i + 1 := by omega
  have e4 : (0 : Int) ≤ (i : Int) + 1 := by omega
  have e5 : (i : Int) + 1 ≤ (n : Int) := by omega
  have e8 : i ≤ cap := by omega
  have hcn : ¬ cap = n - 1 := by omega
  obtain ⟨ad, had, hnews⟩ : ∃ ad : Addr, (if cap = i + 1 then some (⟨g, 0, none⟩ : Addr) else some ⟨g, i + 1, none⟩) = some ad ∧ Hid (∀ j u, D[j]? = some u → w.cell? (ad.add j) = some u) := by
    by_cases hc : cap = i + 1
    · refine ⟨⟨g, 0, none⟩, if_pos hc, Lib.hid fun j u hj => ?_⟩
      have h1 := (List.getElem?_eq_some_iff.1 hj).1
      have h2 := HDl.out
      omega
    · refine ⟨_, if_neg hc, Lib.hid fun j u hj => ?_⟩
      rw [show (⟨g, i + 1, none⟩ : Addr).add j = ⟨g, i + 1 + j, none⟩ by unfold Addr.add; split <;> simp_all]
      exact (HG.out.cell _).trans (HDat.out j u hj)
  go_enter Tryz.func81, Tryz.ntmps81
  go_wp2_with fail
  go_region_law (refine step_app_room rfl (.tmp 22) (.tmp 25) 37 rfl 3 i0 Tryz.underlying37 hi0 1 hz1 g i cap cur HG.out (by simp [Act.eval, Act.put]) ad (n - (i + 1)) (cap - (i + 1)) (by simp [Act.eval, Act.put]) D (by rw [HDl.out, Nat.mul_one]) hnews.out HD1.out (by omega) (by omega) ?_; intro w3 hg3 ho3)
  have hsl : (splice cur i D).length = cap := by rw [splice_length (by rw [HDl.out]; omega)]; exact hcl
  have HSl := Lib.hid hsl
  rw [Nat.mul_one] at hg3
  have e6 : ((n - 1 : Nat) : Int) ≤ (n : Int) := by omega
  have e7 : n - (n - 1) = 1 := by omega
  go_wp2_with (refine wpList_clear_k rfl (.tmp 31) 37 rfl 3 i0 _ Tryz.underlying37 hi0 hz0 1 rfl (fun v hv => by simp [Value.cells] at hv; subst hv; rfl) (some ⟨g, n - 1, none⟩) 1 (cap - (n - 1)) rfl g (n - 1) (splice cur i D) hg3.out (fun _ => rfl) (by rw [HSl.out]; omega) ?_; intro cur' w4 hg4 hl4 ht4 ho4)
  go_ret
  refine ⟨_, rfl, ?_, fun k hk => .inl hk, (Only.trans (b := w.drew) (Only.refl (· = g) w).drew (ho3.trans ho4 (fun _ _ h => h)) (fun _ _ h => h)).mono (fun k _ hk => by subst hk; rfl)⟩
  rw [HRl.out]
  exact slc_ownI ⟨hg4.out, by rw [hl4, HSl.out], by omega, hcm⟩ (Nat.zero_le _) (by rw [ht4.out, HRes.out])
theorem TogR.pre {v : Value} {l' : List Nat} {w w1 w' : World} {e : Ending} (h : TogR v l' w1 e w') (hb : Below w.heap.size w w1) : TogR v l' w e w' := by
  obtain ⟨v', h1, h2, h3, h4⟩ := h
  exact ⟨v', h1, h2, fun k hk => (h3 k hk).imp id (fun h => Nat.le_trans hb.size h), (Only.of_below hb).trans h4 (fun _ _ h => h)⟩
set_option maxHeartbeats 2000000 in
theorem toggle_calls (w : World) (v : Value) (l : List Nat) (x : Nat) (b : Bool) (hown : w.ownsRow 0 3 1 v l.length (natsV l)) (hr : Rise l) (hbig : l.length ≤ 90000) :
    Calls Tryz.prog 52 #[v, .int .i64 (x : Int), .bool b] w (TogR v (togL l x b) w) := by
  obtain ⟨A1, c1, rfl⟩ := ownsRow_slice hown
  have HO := Lib.hid hown
  have HR := Lib.hid hr
  have hlt := fun k hk => (hown.lt k hk).2
  clear hown hr
  go_enter Tryz.func52, Tryz.ntmps52
  go_wp2_with fail
  refine (bsearchI_calls _ A1 c1 l x (RdAt.of_own HO.out) HR.out (by omega)).mono ?_
  rintro e w2 ⟨i, is, rfl, hp, hb, rfl⟩
  have HP := Lib.hid hp
  have hil := hp.1
  have HIs : Hid (is = true ↔ l[i]? = some x) := Lib.hid (hb.trans ⟨fun ⟨a, h1, h2⟩ => by rw [h1]; congr 1; omega, fun h => ⟨x, h, rfl⟩⟩)
  clear hp hb
  have same : togL l x b = l → TogR (.slice A1 l.length c1) (togL l x b) w (.returned (.slice A1 l.length c1)) w := fun h => by
    rw [h]
    exact ⟨_, rfl, HO.out, fun k hk => .inl hk, Only.refl _ w⟩
  have HSm := Lib.hid same
  clear same
  cases is
  · have hno : l[i]? ≠ some x := fun h => by have := HIs.out.2 h; cases this
    cases b
    · have HT := Lib.hid (HSm.out (tog_no (fun h => hno ((HP.out.mem HR.out).1 h))))
      go_wp2
      go_ret
      exact HT.out
    · have HT := Lib.hid (tog_out HR.out HP.out hno)
      clear hno
      go_wp2_with fail
      refine (insertI_own _ w.heap.size i 1 (.slice A1 l.length c1) l x (HO.out.alloc _) hil (Blk.new w #[.int .i64 (x : Int)] 3) (fun h => by have := hlt _ h; omega) (by omega)).mono ?_
      rintro e w3 hT
      rw [← HT.out] at hT
      have HT3 := Lib.hid (hT.pre ((Below.refl w.heap.size w).alloc (Nat.le_refl _) _))
      obtain ⟨v', rfl, _⟩ := hT
      go_wp2
      go_ret
      exact HT3.out
  · have hyes : l[i]? = some x := HIs.out.1 rfl
    obtain ⟨t1, t2⟩ := tog_in HR.out HP.out hyes
    have hil2 := (List.getElem?_eq_some_iff.1 hyes).1
    clear hyes
    cases b
    · have HT := Lib.hid t2
      clear t1 t2
      go_wp2_with fail
      refine (deleteI_own _ i (.slice A1 l.length c1) l HO.out hil2 (by omega)).mono ?_
      rintro e w3 hT
      rw [← HT.out] at hT
      have HT3 := Lib.hid hT
      obtain ⟨v', rfl, _⟩ := hT
      go_wp2
      go_ret
      exact HT3.out
    · have HT := Lib.hid (HSm.out t1)
      clear t1 t2
      go_wp2
      go_ret
      exact HT.out
end Go.Proofs.YtadbbknllakpcaaGreat
