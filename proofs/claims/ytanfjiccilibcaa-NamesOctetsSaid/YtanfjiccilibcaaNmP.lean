/- Plain mathematics for layer 13 (names): lists of names and heaps. No program in sight. -/
import Derived.Test.YtanfjiccilibcaaBase
namespace Go.Proofs.Ytanfjiccilibcaa
open Go.RowKit
set_option linter.unusedVariables false

abbrev Ent := ByteArray × Int
/-- The list as cells. -/
def namesV (l : List Ent) : List Value := l.flatMap fun a => [.string a.1, .int .i64 a.2]
theorem namesV_cons (a : Ent) (l : List Ent) : namesV (a :: l) = .string a.1 :: .int .i64 a.2 :: namesV l := rfl
theorem namesV_append (l m : List Ent) : namesV (l ++ m) = namesV l ++ namesV m := by unfold namesV; rw [List.flatMap_append]
theorem namesV_length (l : List Ent) : (namesV l).length = l.length * 2 := by
  induction l with
  | nil => rfl
  | cons a l ih => rw [namesV_cons, List.length_cons, List.length_cons, ih, List.length_cons]; omega
theorem namesV_one (l : List Ent) : ∀ v ∈ namesV l, v.oneCell' = true := fun v hv => by
  obtain ⟨a, _, h⟩ := List.mem_flatMap.1 hv
  simp only [List.mem_cons, List.not_mem_nil, or_false] at h
  rcases h with rfl | rfl <;> rfl
theorem namesV_take (l : List Ent) (i : Nat) : (namesV l).take (i * 2) = namesV (l.take i) := by
  induction l generalizing i with
  | nil => simp [namesV]
  | cons a l ih =>
    cases i with
    | zero => simp [namesV]
    | succ i => rw [namesV_cons, show (i + 1) * 2 = i * 2 + 1 + 1 by omega, List.take_succ_cons, List.take_succ_cons, ih, List.take_succ_cons, namesV_cons]
theorem namesV_drop (l : List Ent) (i : Nat) : (namesV l).drop (i * 2) = namesV (l.drop i) := by
  induction l generalizing i with
  | nil => simp [namesV]
  | cons a l ih =>
    cases i with
    | zero => simp
    | succ i => rw [namesV_cons, show (i + 1) * 2 = i * 2 + 1 + 1 by omega, List.drop_succ_cons, List.drop_succ_cons, ih, List.drop_succ_cons]
theorem namesV_at {l : List Ent} {i : Nat} {a : Ent} (h : l[i]? = some a) : (namesV l)[i * 2]? = some (.string a.1) ∧ (namesV l)[i * 2 + 1]? = some (.int .i64 a.2) := by
  induction l generalizing i with
  | nil => simp at h
  | cons b l ih =>
    cases i with
    | zero =>
      simp only [List.getElem?_cons_zero, Option.some.injEq] at h
      subst h
      exact ⟨rfl, rfl⟩
    | succ i =>
      have := ih (i := i) (by simpa using h)
      rw [namesV_cons]
      rw [show (i + 1) * 2 = i * 2 + 1 + 1 by omega, show i * 2 + 1 + 1 + 1 = i * 2 + 1 + 1 + 1 by rfl]
      simpa using this

/-- The order of names. -/
def lt (a b : ByteArray) : Bool := Op.bytesLess a.toList b.toList
theorem bl_irrefl (x : List UInt8) : Op.bytesLess x x = false := by
  induction x with
  | nil => rfl
  | cons a x ih =>
    simp only [Op.bytesLess, ih, Bool.and_false, Bool.or_false, decide_eq_false_iff_not]
    exact UInt8.lt_irrefl a
theorem bl_trans : ∀ (x y z : List UInt8), Op.bytesLess x y = true → Op.bytesLess y z = true → Op.bytesLess x z = true
  | _, _, [], _, h => by cases ‹List UInt8› <;> simp [Op.bytesLess] at h
  | [], _, _ :: _, _, _ => rfl
  | a :: x, [], c :: z, h, _ => by simp [Op.bytesLess] at h
  | a :: x, b :: y, c :: z, h1, h2 => by
    simp only [Op.bytesLess, Bool.or_eq_true, decide_eq_true_eq, Bool.and_eq_true, beq_iff_eq] at h1 h2 ⊢
    rcases h1 with h1 | ⟨rfl, h1⟩
    · rcases h2 with h2 | ⟨rfl, h2⟩
      · exact .inl (UInt8.lt_trans h1 h2)
      · exact .inl h1
    · rcases h2 with h2 | ⟨rfl, h2⟩
      · exact .inl h2
      · exact .inr ⟨rfl, bl_trans x y z h1 h2⟩
theorem bl_tri : ∀ (x y : List UInt8), Op.bytesLess x y = false → Op.bytesLess y x = false → x = y
  | [], [], _, _ => rfl
  | [], _ :: _, h, _ => by simp [Op.bytesLess] at h
  | _ :: _, [], _, h => by simp [Op.bytesLess] at h
  | a :: x, b :: y, h1, h2 => by
    simp only [Op.bytesLess, Bool.or_eq_false_iff, decide_eq_false_iff_not, Bool.and_eq_false_iff, beq_eq_false_iff_ne] at h1 h2
    obtain ⟨h1, h3⟩ := h1
    obtain ⟨h2, h4⟩ := h2
    have e : a = b := UInt8.le_antisymm (UInt8.not_lt.1 h2) (UInt8.not_lt.1 h1)
    subst e
    rw [bl_tri x y (h3.resolve_left (fun h => h rfl)) (h4.resolve_left (fun h => h rfl))]
theorem ba_ext {a b : ByteArray} (h : a.toList = b.toList) : a = b := by
  rw [ByteArray.toList_eq, ByteArray.toList_eq] at h
  cases a; cases b
  simp only at h
  congr 1
  exact Array.toList_inj.1 h
theorem ba_beq (a b : ByteArray) : (a.toList == b.toList) = decide (a = b) := by
  by_cases h : a = b
  · subst h; simp
  · rw [decide_eq_false h, beq_eq_false_iff_ne]
    exact fun e => h (ba_ext e)
theorem lt_irrefl (a : ByteArray) : lt a a = false := bl_irrefl _
theorem lt_trans {a b c : ByteArray} (h : lt a b = true) (k : lt b c = true) : lt a c = true := bl_trans _ _ _ h k
theorem lt_tri {a b : ByteArray} (h : lt a b = false) (k : lt b a = false) : a = b := ba_ext (bl_tri _ _ h k)
theorem lt_ne {a b : ByteArray} (h : lt a b = true) : a ≠ b := fun e => by subst e; rw [lt_irrefl] at h; cases h
theorem lt_asymm {a b : ByteArray} (h : lt a b = true) : lt b a = false := by
  cases k : lt b a
  · rfl
  · have := lt_trans h k
    rw [lt_irrefl] at this; cases this
/-- What Compare answers. -/
def cmpS (a b : ByteArray) : Int := if lt a b = true then -1 else if lt b a = true then 1 else 0
theorem cmpS_lt (a b : ByteArray) : cmpS a b < 0 ↔ lt a b = true := by
  unfold cmpS
  split
  · simp [*]
  · split <;> simp [*]
theorem cmpS_eq (a b : ByteArray) : cmpS a b = 0 ↔ a = b := by
  unfold cmpS
  split
  · rename_i h
    simp [lt_ne h]
  · rename_i h
    split
    · rename_i k
      simp [(lt_ne k).symm]
    · rename_i k
      simp [lt_tri (by simpa using h) (by simpa using k)]

/-- Rising names. -/
def Asc (l : List Ent) : Prop := l.Pairwise fun a b => lt a.1 b.1 = true
theorem Asc.lt_at {l : List Ent} (h : Asc l) {i j : Nat} {a b : Ent} (hi : l[i]? = some a) (hj : l[j]? = some b) (hij : i < j) : lt a.1 b.1 = true := by
  obtain ⟨h1, e1⟩ := List.getElem?_eq_some_iff.1 hi
  obtain ⟨h2, e2⟩ := List.getElem?_eq_some_iff.1 hj
  rw [← e1, ← e2]
  exact List.pairwise_iff_getElem.1 h i j h1 h2 hij
/-- Where a name is or belongs. -/
def PosR (l : List Ent) (s : ByteArray) (i : Nat) : Prop := i ≤ l.length ∧ ∀ (k : Nat) (a : Ent), l[k]? = some a → (k < i ↔ lt a.1 s = true)
theorem PosR.one {l : List Ent} {s : ByteArray} {i j : Nat} (h : PosR l s i) (k : PosR l s j) : i = j := by
  rcases Nat.lt_trichotomy i j with e | e | e
  · have hl : i < l.length := by have := k.1; omega
    have h1 := h.2 i _ (List.getElem?_eq_getElem hl)
    have h2 := k.2 i _ (List.getElem?_eq_getElem hl)
    have := h1.2 (h2.1 e); omega
  · exact e
  · have hl : j < l.length := by have := h.1; omega
    have h1 := h.2 j _ (List.getElem?_eq_getElem hl)
    have h2 := k.2 j _ (List.getElem?_eq_getElem hl)
    have := h2.2 (h1.1 e); omega
def Has (l : List Ent) (s : ByteArray) : Prop := ∃ a ∈ l, a.1 = s
theorem has_at {l : List Ent} {s : ByteArray} {i : Nat} (h : Asc l) (hp : PosR l s i) : Has l s ↔ ∃ a, l[i]? = some a ∧ a.1 = s := by
  constructor
  · rintro ⟨a, ha, rfl⟩
    obtain ⟨j, hj⟩ := List.mem_iff_getElem?.1 ha
    have h1 : ¬ j < i := fun h => by
      have := (hp.2 j a hj).1 h
      rw [lt_irrefl] at this; cases this
    by_cases e : i = j
    · subst e; exact ⟨a, hj, rfl⟩
    · have hl : i < l.length := by have := (List.getElem?_eq_some_iff.1 hj).1; omega
      have h2 := h.lt_at (List.getElem?_eq_getElem hl) hj (by omega)
      have := (hp.2 i _ (List.getElem?_eq_getElem hl)).2 h2
      omega
  · rintro ⟨a, ha, h⟩
    exact ⟨a, List.mem_of_getElem? ha, h⟩

/-- A heap's bit. -/
def bitN (h : Int) : Nat := if 1 ≤ h ∧ h ≤ 64 then 2 ^ (h - 1).toNat else 0
theorem bitN_testBit (h : Int) (j : Nat) : (bitN h).testBit j = true ↔ (1 ≤ h ∧ h ≤ 64) ∧ h = (j : Int) + 1 := by
  unfold bitN
  split
  · rw [Nat.testBit_two_pow, decide_eq_true_iff]
    omega
  · simp [*]
theorem bitN_lt (h : Int) : bitN h < 18446744073709551616 := by
  unfold bitN
  split
  · exact Nat.pow_lt_pow_right (a := 2) (n := 64) (by omega) (by omega)
  · omega
theorem bitN_zero (h : Int) : bitN h = 0 ↔ ¬ (1 ≤ h ∧ h ≤ 64) := by
  unfold bitN
  split
  · have := Nat.pow_pos (n := (h - 1).toNat) (show 0 < 2 by omega)
    constructor
    · intro h; omega
    · intro h; contradiction
  · simp [*]
/-- The set of the heaps. -/
def setN (l : List Ent) : Nat := l.foldl (fun s a => s ||| bitN a.2) 0
theorem setN_snoc (l : List Ent) (a : Ent) : setN (l ++ [a]) = setN l ||| bitN a.2 := by unfold setN; rw [List.foldl_append]; rfl
theorem take_snoc {α : Type} {l : List α} {i : Nat} {a : α} (h : l[i]? = some a) : l.take (i + 1) = l.take i ++ [a] := by
  rw [List.take_add_one, h]; rfl
theorem setN_take {l : List Ent} {i : Nat} {a : Ent} (h : l[i]? = some a) : setN (l.take (i + 1)) = setN (l.take i) ||| bitN a.2 := by rw [take_snoc h, setN_snoc]
theorem setN_lt (l : List Ent) : setN l < 18446744073709551616 := by
  have key : ∀ (l : List Ent) (s : Nat), s < 2 ^ 64 → l.foldl (fun s a => s ||| bitN a.2) s < 2 ^ 64 := by
    intro l
    induction l with
    | nil => intro s h; exact h
    | cons a l ih => intro s h; exact ih _ (Nat.or_lt_two_pow h (bitN_lt a.2))
  exact key l 0 (by omega)
theorem setN_testBit (l : List Ent) (j : Nat) : (setN l).testBit j = true ↔ ∃ a ∈ l, (1 ≤ a.2 ∧ a.2 ≤ 64) ∧ a.2 = (j : Int) + 1 := by
  have key : ∀ (l : List Ent) (s : Nat), (l.foldl (fun s a => s ||| bitN a.2) s).testBit j = true ↔ s.testBit j = true ∨ ∃ a ∈ l, (1 ≤ a.2 ∧ a.2 ≤ 64) ∧ a.2 = (j : Int) + 1 := by
    intro l
    induction l with
    | nil => intro s; simp
    | cons a l ih =>
      intro s
      rw [List.foldl_cons, ih, Nat.testBit_or, Bool.or_eq_true, bitN_testBit]
      simp only [List.mem_cons, exists_eq_or_imp, or_assoc]
  have := key l 0
  simpa [setN] using this
/-- Whether a heap is in the set. -/
theorem setN_and (l : List Ent) (h : Int) (h1 : 1 ≤ h) (h2 : h ≤ 64) : setN l &&& bitN h ≠ 0 ↔ ∃ a ∈ l, a.2 = h := by
  have hb : bitN h = 2 ^ (h - 1).toNat := by unfold bitN; rw [if_pos ⟨h1, h2⟩]
  have e : (setN l &&& bitN h ≠ 0) ↔ (setN l).testBit (h - 1).toNat = true := by
    rw [hb]
    generalize (h - 1).toNat = q
    constructor
    · intro hne
      refine Classical.byContradiction fun hn => hne ?_
      apply Nat.eq_of_testBit_eq
      intro j
      rw [Nat.testBit_and, Nat.testBit_two_pow, Nat.zero_testBit]
      by_cases e : q = j
      · subst e; simp [hn]
      · simp [e]
    · intro ht e
      have := congrArg (fun x => x.testBit q) e
      simp [Nat.testBit_and, ht] at this
  rw [e, setN_testBit]
  constructor
  · rintro ⟨a, ha, _, h3⟩; exact ⟨a, ha, by omega⟩
  · rintro ⟨a, ha, rfl⟩; exact ⟨a, ha, ⟨h1, h2⟩, by omega⟩
theorem setN_and_no (l : List Ent) (h : Int) (hh : ¬ (1 ≤ h ∧ h ≤ 64)) : setN l &&& bitN h = 0 := by rw [(bitN_zero h).2 hh, Nat.and_zero]
/-- The least heap that there is none of. -/
def LeastR (l : List Ent) (h : Int) : Prop := 1 ≤ h ∧ h ≤ 64 ∧ (∀ a ∈ l, a.2 ≠ h) ∧ ∀ j : Int, 1 ≤ j → j < h → ∃ a ∈ l, a.2 = j
theorem LeastR.one {l : List Ent} {h k : Int} (a : LeastR l h) (b : LeastR l k) : h = k := by
  rcases Int.lt_trichotomy h k with e | e | e
  · obtain ⟨x, hx, rfl⟩ := b.2.2.2 h a.1 e; exact absurd rfl (a.2.2.1 x hx)
  · exact e
  · obtain ⟨x, hx, rfl⟩ := a.2.2.2 k b.1 e; exact absurd rfl (b.2.2.1 x hx)
theorem free_heap (m : Nat) : ∀ l : List Ent, l.length < m → ∃ h : Int, 1 ≤ h ∧ h ≤ m ∧ ∀ a ∈ l, a.2 ≠ h := by
  induction m with
  | zero => intro l h; omega
  | succ m ih =>
    intro l hl
    by_cases he : ∃ a ∈ l, a.2 = (m : Int) + 1
    · obtain ⟨a, ha, h1⟩ := he
      have hlt : (l.filter fun b => b.2 ≠ (m : Int) + 1).length < l.length := by
        refine Nat.lt_of_le_of_ne (List.length_filter_le _ _) fun e => ?_
        have := (List.length_filter_eq_length_iff.1 e) a ha
        simp [h1] at this
      obtain ⟨h, h2, h3, h4⟩ := ih _ (show (l.filter fun b => b.2 ≠ (m : Int) + 1).length < m by omega)
      refine ⟨h, h2, by omega, fun b hb e => ?_⟩
      exact h4 b (List.mem_filter.2 ⟨hb, by simp; omega⟩) e
    · exact ⟨(m : Int) + 1, by omega, by omega, fun a ha e => he ⟨a, ha, e⟩⟩
/-- A directory: P13.1. -/
def Dir (l : List Ent) : Prop := Asc l ∧ (∀ a ∈ l, 1 ≤ a.1.size ∧ a.1.size ≤ 32 ∧ 1 ≤ a.2 ∧ a.2 ≤ 64) ∧ l.Pairwise fun a b => a.2 ≠ b.2
/-- With a name more. -/
def addL (l : List Ent) (i : Nat) (s : ByteArray) (h : Int) : List Ent := l.take i ++ (s, h) :: l.drop i
def delL (l : List Ent) (i : Nat) : List Ent := l.take i ++ l.drop (i + 1)
theorem addL_length {l : List Ent} {i : Nat} {s : ByteArray} {h : Int} (hi : i ≤ l.length) : (addL l i s h).length = l.length + 1 := by
  unfold addL; rw [List.length_append, List.length_cons, List.length_take, List.length_drop]; omega
theorem delL_length {l : List Ent} {i : Nat} (hi : i < l.length) : (delL l i).length + 1 = l.length := by
  unfold delL; rw [List.length_append, List.length_take, List.length_drop]; omega
theorem addL_mem {l : List Ent} {i : Nat} {s : ByteArray} {h : Int} (a : Ent) : a ∈ addL l i s h ↔ a = (s, h) ∨ a ∈ l := by
  unfold addL
  conv => rhs; rw [← List.take_append_drop i l]
  simp only [List.mem_append, List.mem_cons]
  constructor
  · rintro (h | h | h)
    · exact .inr (.inl h)
    · exact .inl h
    · exact .inr (.inr h)
  · rintro (h | h | h)
    · exact .inr (.inl h)
    · exact .inl h
    · exact .inr (.inr h)
theorem delL_mem {l : List Ent} {i : Nat} (a : Ent) (h : a ∈ delL l i) : a ∈ l := by
  unfold delL at h
  rcases List.mem_append.1 h with h | h
  · exact List.mem_of_mem_take h
  · exact List.mem_of_mem_drop h
theorem Dir.add {l : List Ent} {i : Nat} {s : ByteArray} {h : Int} (hd : Dir l) (hp : PosR l s i) (hn : ¬ Has l s) (hs : 1 ≤ s.size ∧ s.size ≤ 32) (hh : LeastR l h) : Dir (addL l i s h) := by
  obtain ⟨h1, h2, h3⟩ := hd
  have e : l = l.take i ++ l.drop i := (List.take_append_drop i l).symm
  have hlo : ∀ a ∈ l.take i, lt a.1 s = true := fun a ha => by
    obtain ⟨k, hk⟩ := List.mem_iff_getElem?.1 ha
    rw [List.getElem?_take] at hk
    split at hk
    · exact (hp.2 k a hk).1 ‹_›
    · cases hk
  have hhi : ∀ a ∈ l.drop i, lt s a.1 = true := fun a ha => by
    obtain ⟨k, hk⟩ := List.mem_iff_getElem?.1 ha
    rw [List.getElem?_drop] at hk
    have h5 := (hp.2 _ a hk).2
    cases h6 : lt s a.1
    · cases h7 : lt a.1 s
      · exact absurd ⟨a, List.mem_of_getElem? hk, lt_tri h7 h6⟩ hn
      · have := h5 h7; omega
    · rfl
  have h1' := List.pairwise_append.1 (show (l.take i ++ l.drop i).Pairwise _ by rw [← e]; exact h1)
  have h3' := List.pairwise_append.1 (show (l.take i ++ l.drop i).Pairwise _ by rw [← e]; exact h3)
  refine ⟨?_, fun a ha => ?_, ?_⟩
  · unfold Asc addL
    refine List.pairwise_append.2 ⟨h1'.1, List.pairwise_cons.2 ⟨hhi, h1'.2.1⟩, fun a ha b hb => ?_⟩
    rcases List.mem_cons.1 hb with rfl | hb
    · exact hlo a ha
    · exact h1'.2.2 a ha b hb
  · rcases (addL_mem a).1 ha with rfl | ha
    · exact ⟨hs.1, hs.2, hh.1, hh.2.1⟩
    · exact h2 a ha
  · unfold addL
    refine List.pairwise_append.2 ⟨h3'.1, List.pairwise_cons.2 ⟨fun a ha => (hh.2.2.1 a (List.mem_of_mem_drop ha)).symm, h3'.2.1⟩, fun a ha b hb => ?_⟩
    rcases List.mem_cons.1 hb with rfl | hb
    · exact hh.2.2.1 a (List.mem_of_mem_take ha)
    · exact h3'.2.2 a ha b hb
theorem Dir.del {l : List Ent} {i : Nat} (hd : Dir l) : Dir (delL l i) := by
  obtain ⟨h1, h2, h3⟩ := hd
  have hs : (delL l i).Sublist l := by
    unfold delL
    conv => rhs; rw [← List.take_append_drop i l]
    exact List.Sublist.append (List.Sublist.refl _) (List.drop_sublist_drop_left l (by omega))
  exact ⟨List.Pairwise.sublist hs h1, fun a ha => h2 a (delL_mem a ha), List.Pairwise.sublist hs h3⟩
theorem Dir.nil : Dir [] := ⟨List.Pairwise.nil, (fun a h => by cases h), List.Pairwise.nil⟩
end Go.Proofs.Ytanfjiccilibcaa
