/- Plain mathematics for NamesFull. No program in sight. -/
import Derived.Test.YtanfjiccilibcaaNmR
namespace Go.Proofs.Ytanfjiccilibcaa
open Go.RowKit
set_option linter.unusedVariables false

theorem lt_mk (x y : List UInt8) : lt ⟨x.toArray⟩ ⟨y.toArray⟩ = Op.bytesLess x y := by simp [lt]
def nm (k : Nat) : ByteArray := ⟨[110, UInt8.ofNat (48 + k)].toArray⟩
def more : ByteArray := ⟨[109, 111, 114, 101].toArray⟩
theorem nm_lt {i j : Nat} (h : i < j) (hj : j < 64) : lt (nm i) (nm j) = true := by
  unfold nm
  rw [lt_mk]
  have : UInt8.ofNat (48 + i) < UInt8.ofNat (48 + j) := by
    rw [UInt8.lt_iff_toNat_lt, UInt8.toNat_ofNat', UInt8.toNat_ofNat']
    omega
  generalize UInt8.ofNat (48 + i) = x at *
  generalize UInt8.ofNat (48 + j) = y at *
  simp [Op.bytesLess, this]
theorem nm_inj {i j : Nat} (hi : i < 64) (hj : j < 64) (h : nm i = nm j) : i = j := by
  rcases Nat.lt_trichotomy i j with e | e | e
  · exact absurd h (lt_ne (nm_lt e hj))
  · exact e
  · exact absurd h (lt_ne (nm_lt e hi)).symm
theorem more_lt (k : Nat) : lt more (nm k) = true := by unfold more nm; rw [lt_mk]; simp [Op.bytesLess]
def lN (i : Nat) : List Ent := (List.range i).map fun k => (nm k, (k : Int) + 1)
theorem lN_length (i : Nat) : (lN i).length = i := by simp [lN]
theorem lN_at {i k : Nat} (h : k < i) : (lN i)[k]? = some (nm k, (k : Int) + 1) := by simp [lN, h]
theorem lN_get {i k : Nat} {a : Ent} (h : (lN i)[k]? = some a) : k < i ∧ a = (nm k, (k : Int) + 1) := by
  have hk := (List.getElem?_eq_some_iff.1 h).1
  rw [lN_length] at hk
  rw [lN_at hk] at h
  cases h
  exact ⟨hk, rfl⟩
theorem lN_mem {i : Nat} {a : Ent} : a ∈ lN i ↔ ∃ k, k < i ∧ a = (nm k, (k : Int) + 1) := by
  constructor
  · intro h
    obtain ⟨k, hk⟩ := List.mem_iff_getElem?.1 h
    exact ⟨k, lN_get hk⟩
  · rintro ⟨k, hk, rfl⟩
    exact List.mem_of_getElem? (lN_at hk)
theorem lN_succ (i : Nat) : lN (i + 1) = lN i ++ [(nm i, (i : Int) + 1)] := by unfold lN; rw [List.range_succ, List.map_append]; rfl
theorem good_nm (k : Nat) : goodB (nm k) = true := decide_eq_true ⟨by show 1 ≤ 2; omega, by show 2 ≤ 32; omega⟩
theorem good_more : goodB more = true := decide_eq_true ⟨by show 1 ≤ 4; omega, by show 4 ≤ 32; omega⟩
theorem lN_dir {i : Nat} (h : i ≤ 64) : Dir (lN i) := by
  refine ⟨List.pairwise_iff_getElem.2 fun a b ha hb hab => ?_, fun a ha => ?_, List.pairwise_iff_getElem.2 fun a b ha hb hab => ?_⟩
  · have h1 := lN_get (List.getElem?_eq_getElem ha)
    have h2 := lN_get (List.getElem?_eq_getElem hb)
    rw [h1.2, h2.2]
    exact nm_lt hab (by omega)
  · obtain ⟨k, hk, rfl⟩ := lN_mem.1 ha
    have := good_sz (good_nm k)
    exact ⟨this.1, this.2, by simp only; omega, by simp only; omega⟩
  · have h1 := lN_get (List.getElem?_eq_getElem ha)
    have h2 := lN_get (List.getElem?_eq_getElem hb)
    rw [h1.2, h2.2]
    simp only
    omega
theorem lN_pos {i k : Nat} (hk : k ≤ i) (hk2 : k < 64) (hi : i ≤ 64) : PosR (lN i) (nm k) k := by
  refine ⟨by rw [lN_length]; exact hk, fun j a ha => ?_⟩
  obtain ⟨h1, rfl⟩ := lN_get ha
  constructor
  · intro h; exact nm_lt h hk2
  · intro h
    refine Classical.byContradiction fun hn => ?_
    by_cases e : j = k
    · subst e; rw [lt_irrefl] at h; cases h
    · rw [lt_asymm (nm_lt (show k < j by omega) (by omega))] at h; cases h
theorem lN_add {i : Nat} (h : i < 64) : AddF (lN i) (nm i) (lN (i + 1)) ((i : Int) + 1) 0 := by
  refine .inr (.inr (.inr ⟨good_nm i, ?_, by rw [lN_length]; exact h, rfl, ⟨by omega, by omega, fun a ha => ?_, fun j h1 h2 => ?_⟩, i, lN_pos (Nat.le_refl _) h (by omega), ?_⟩))
  · rintro ⟨a, ha, he⟩
    obtain ⟨k, hk, rfl⟩ := lN_mem.1 ha
    have := nm_inj (by omega) h he
    omega
  · obtain ⟨k, hk, rfl⟩ := lN_mem.1 ha
    simp only
    omega
  · exact ⟨_, lN_mem.2 ⟨(j - 1).toNat, by omega, rfl⟩, by simp only; omega⟩
  · unfold addL
    rw [List.take_of_length_le (by rw [lN_length]; omega), List.drop_eq_nil_of_le (by rw [lN_length]; omega), lN_succ]
theorem more_has {l : List Ent} (h : ∀ a ∈ l, a ∈ lN 64) : ¬ Has l more := by
  rintro ⟨a, ha, he⟩
  obtain ⟨k, hk, rfl⟩ := lN_mem.1 (h a ha)
  exact lt_ne (more_lt k) he.symm
theorem lN_full : AddF (lN 64) more [] 0 16 := .inr (.inr (.inl ⟨good_more, more_has (fun a h => h), by rw [lN_length]; omega, rfl, rfl, rfl⟩))
theorem lN_drop {k : Nat} (hk : k < 64) : DropF (lN 64) (nm k) (delL (lN 64) k) 0 :=
  .inr ⟨⟨_, lN_mem.2 ⟨k, hk, rfl⟩, rfl⟩, rfl, k, lN_pos (by omega) hk (by omega), rfl⟩
theorem lN_del_at {k : Nat} (a : Ent) : a ∈ delL (lN 64) k → ∃ j, j < 64 ∧ j ≠ k ∧ a = (nm j, (j : Int) + 1) := by
  intro h
  unfold delL at h
  rcases List.mem_append.1 h with h | h
  · obtain ⟨j, hj⟩ := List.mem_iff_getElem?.1 h
    rw [List.getElem?_take] at hj
    split at hj
    · obtain ⟨h1, h2⟩ := lN_get hj
      exact ⟨j, h1, by omega, h2⟩
    · cases hj
  · obtain ⟨j, hj⟩ := List.mem_iff_getElem?.1 h
    rw [List.getElem?_drop] at hj
    obtain ⟨h1, h2⟩ := lN_get hj
    exact ⟨k + 1 + j, h1, by omega, h2⟩
theorem lN_del_mem {j k : Nat} (hj : j < 64) (hjk : j ≠ k) : (nm j, (j : Int) + 1) ∈ delL (lN 64) k := by
  unfold delL
  refine List.mem_append.2 ?_
  by_cases h : j < k
  · exact .inl (List.mem_of_getElem? (i := j) (by rw [List.getElem?_take_of_lt h]; exact lN_at hj))
  · exact .inr (List.mem_of_getElem? (i := j - (k + 1)) (by rw [List.getElem?_drop, show k + 1 + (j - (k + 1)) = j by omega]; exact lN_at hj))
theorem lN_again {k : Nat} (hk : k < 64) : AddF (delL (lN 64) k) more (addL (delL (lN 64) k) 0 more ((k : Int) + 1)) ((k : Int) + 1) 0 := by
  have hl : (delL (lN 64) k).length = 63 := by have := delL_length (l := lN 64) (i := k) (by rw [lN_length]; exact hk); rw [lN_length] at this; omega
  refine .inr (.inr (.inr ⟨good_more, more_has (fun a h => delL_mem a h), by omega, rfl, ⟨by omega, by omega, fun a ha => ?_, fun j h1 h2 => ?_⟩, 0, ⟨by omega, fun j a ha => ?_⟩, rfl⟩))
  · obtain ⟨j, hj, hjk, rfl⟩ := lN_del_at a ha
    simp only
    omega
  · exact ⟨_, lN_del_mem (j := (j - 1).toNat) (by omega) (by omega), by simp only; omega⟩
  · obtain ⟨q, hq, _, rfl⟩ := lN_del_at a (List.mem_of_getElem? ha)
    simp only
    rw [lt_asymm (more_lt q)]
    constructor
    · intro h; omega
    · intro h; cases h
theorem lN_again_len {k : Nat} (hk : k < 64) : (addL (delL (lN 64) k) 0 more ((k : Int) + 1)).length = 64 := by
  have hl := delL_length (l := lN 64) (i := k) (by rw [lN_length]; exact hk)
  rw [lN_length] at hl
  rw [addL_length (by omega)]; omega
/- the document's example -/
def nb : ByteArray := ⟨[98].toArray⟩
def na : ByteArray := ⟨[97].toArray⟩
theorem awake_b : AddF [] nb [(nb, 1)] 1 0 := by
  refine .inr (.inr (.inr ⟨decide_eq_true ⟨by show 1 ≤ 1; omega, by show 1 ≤ 32; omega⟩, ?_, by simp, rfl, ⟨by omega, by omega, (fun a h => by cases h), fun j h1 h2 => by omega⟩, 0, ⟨by simp, fun k a h => by simp at h⟩, rfl⟩))
  rintro ⟨a, ha, _⟩; cases ha
theorem awake_a : AddF [(nb, 1)] na [(na, 2), (nb, 1)] 2 0 := by
  have hlt : lt na nb = true := by unfold na nb; rw [lt_mk]; decide
  refine .inr (.inr (.inr ⟨decide_eq_true ⟨by show 1 ≤ 1; omega, by show 1 ≤ 32; omega⟩, ?_, by simp, rfl, ⟨by omega, by omega, fun a h => ?_, fun j h1 h2 => ⟨_, List.mem_singleton.2 rfl, by simp only; omega⟩⟩, 0, ⟨by simp, fun k a h => ?_⟩, rfl⟩))
  · rintro ⟨a, ha, he⟩
    obtain rfl := List.mem_singleton.1 ha
    exact lt_ne hlt he.symm
  · obtain rfl := List.mem_singleton.1 h
    simp only
    omega
  · obtain rfl := List.mem_singleton.1 (List.mem_of_getElem? h)
    simp only
    rw [lt_asymm hlt]
    constructor
    · intro h; omega
    · intro h; cases h
theorem dir_b : Dir [(nb, (1 : Int))] := awake_b.dir Dir.nil
end Go.Proofs.Ytanfjiccilibcaa
