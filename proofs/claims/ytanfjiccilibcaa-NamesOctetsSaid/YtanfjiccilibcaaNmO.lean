/- Plain mathematics of a directory's octets. No program in sight but the octets' own forms. -/
import Derived.Test.YtanfjiccilibcaaNmOpen
import Derived.Test.YtanfjiccilibcaaPackT
import Derived.Lib.AppendStr
namespace Go.Proofs.Ytanfjiccilibcaa
open Go.RowKit
set_option linter.unusedVariables false

/-- A name's octets. -/
def bo (s : ByteArray) : List Int := s.data.toList.map fun b => (b.toNat : Int)
theorem bo_len (s : ByteArray) : (bo s).length = s.size := by unfold bo; rw [List.length_map]; rfl
theorem bo_bd (s : ByteArray) : ∀ b ∈ bo s, 0 ≤ b ∧ b ≤ 255 := fun b hb => by
  obtain ⟨x, _, rfl⟩ := List.mem_map.1 hb
  have := x.toNat_lt
  omega
theorem strOf_bo (s : ByteArray) : strOfNums (bo s) = s := by
  unfold strOfNums bo
  rw [List.map_map]
  cases s with | mk d => 
  congr 1
  apply Array.toList_inj.1
  show List.map ((fun n : Int => UInt8.ofNat n.toNat) ∘ fun b : UInt8 => (b.toNat : Int)) d.toList = d.toList
  conv => rhs; rw [← List.map_id d.toList]
  refine List.map_congr_left fun b hb => ?_
  simp
theorem bo_strOf (zs : List Int) (h : ∀ b ∈ zs, 0 ≤ b ∧ b ≤ 255) : bo (strOfNums zs) = zs := by
  unfold strOfNums bo
  simp only [List.map_map]
  conv => rhs; rw [← List.map_id zs]
  refine List.map_congr_left fun b hb => ?_
  have := h b hb
  simp only [Function.comp, UInt8.toNat_ofNat', id]
  omega
theorem octV_bo (s : ByteArray) : Lib.strCells s = octV (bo s) := by
  unfold Lib.strCells octV bo
  rw [List.map_map]; rfl
theorem strOf_size (zs : List Int) : (strOfNums zs).size = zs.length := strOfNums_size zs
theorem strOf_app (a b : List Int) : strOfNums a ++ strOfNums b = strOfNums (a ++ b) := by
  unfold strOfNums
  apply ByteArray.ext
  simp
theorem strOf_cut (s : ByteArray) (i j : Nat) : s.extract i j = strOfNums (((bo s).drop i).take (j - i)) := by
  unfold strOfNums bo
  apply ByteArray.ext
  apply Array.toList_inj.1
  simp only [ByteArray.data_extract, Array.toList_extract, List.extract, ← List.map_drop, ← List.map_take, List.map_map]
  conv => lhs; rw [← List.map_id (List.take (j - i) (List.drop i s.data.toList))]
  refine List.map_congr_left fun b hb => ?_
  simp
theorem bo_at (s : ByteArray) (i : Nat) (h : i < s.size) : ((s[i]'h).toNat : Int) = (bo s)[i]?.getD 0 := by
  unfold bo
  have h2 : i < s.data.toList.length := by rw [Array.length_toList]; exact h
  rw [List.getElem?_map, List.getElem?_eq_getElem h2]
  rfl

/-- An entry off octets. -/
def pEnt (st : Option (List Int)) : Ent × Option (List Int) :=
  ((strOfNums (tkL (tkL (tkL st 1).2 2).2 (oc.oct (tkL (tkL st 1).2 2).1).toNat).1, oc.oct (tkL st 1).1), (tkL (tkL (tkL st 1).2 2).2 (oc.oct (tkL (tkL st 1).2 2).1).toNat).2)
def plS (st : Option (List Int)) : Nat → List Ent × Option (List Int)
  | 0 => ([], st)
  | n + 1 => ((plS st n).1 ++ [(pEnt (plS st n).2).1], (pEnt (plS st n).2).2)
theorem plS_len (st : Option (List Int)) (n : Nat) : (plS st n).1.length = n := by
  induction n with
  | zero => rfl
  | succ n ih => simp [plS, ih]
theorem plS_at (st : Option (List Int)) {i n : Nat} (h : i < n) : (plS st n).1[i]? = some (pEnt (plS st i).2).1 := by
  induction n with
  | zero => omega
  | succ n ih =>
    by_cases e : i = n
    · subst e
      simp only [plS]
      rw [List.getElem?_append_right (by rw [plS_len]; omega), plS_len]
      simp
    · simp only [plS]
      rw [List.getElem?_append_left (by rw [plS_len]; omega)]
      exact ih (by omega)
theorem tkL_fail {st : Option (List Int)} {n : Nat} (h : (tkL st n).2 = none) : (tkL st n).1 = [] := by
  unfold tkL at h ⊢
  split
  · rfl
  · split
    · rename_i hh
      simp [hh] at h
    · rfl
theorem pEnt_fail {st : Option (List Int)} (h : (pEnt st).2 = none) : (pEnt st).1.1.size = 0 := by
  have h2 : (tkL (tkL (tkL st 1).2 2).2 (oc.oct (tkL (tkL st 1).2 2).1).toNat).2 = none := h
  show (strOfNums _).size = 0
  rw [tkL_fail h2]; rfl
theorem pl_bad {st : Option (List Int)} {i n : Nat} (hi : i < n) (h : (pEnt (plS st i).2).2 = none) : ¬ RightP (plS st n).1 := fun hr => by
  have h1 := (hr i _ (plS_at st hi)).1
  have h2 := good_sz h1
  have h3 := pEnt_fail h
  omega
/-- The directory at the beginning of octets, and how many it has. -/
noncomputable def getN (zs : List Int) : List Ent × Nat :=
  open Classical in
  match zs with
  | [] => ([], 0)
  | z :: r => if RightP (plS (some r) z.toNat).1 then ((plS (some r) z.toNat).1, (z :: r).length - ((plS (some r) z.toNat).2.getD []).length) else ([], 0)
theorem getN_yes {z : Int} {r : List Int} (h : RightP (plS (some r) z.toNat).1) : getN (z :: r) = ((plS (some r) z.toNat).1, (z :: r).length - ((plS (some r) z.toNat).2.getD []).length) := by unfold getN; exact if_pos h
theorem getN_no {z : Int} {r : List Int} (h : ¬ RightP (plS (some r) z.toNat).1) : getN (z :: r) = ([], 0) := by unfold getN; exact if_neg h
/-- A directory's octets. -/
def entO (a : Ent) : List Int := oc.layL a.2 1 ++ oc.layL a.1.size 2 ++ bo a.1
def putN (l : List Ent) : List Int := oc.layL l.length 1 ++ l.flatMap entO
theorem U_nat {n : Int} (h : 0 ≤ n ∧ n ≤ 65535) : oc.U n = n.toNat := by unfold oc.U; omega
theorem tk_app (a b : List Int) : tkL (some (a ++ b)) a.length = (a, some b) := by
  unfold tkL
  simp
theorem tk_lay (n : Int) (m : Nat) (b : List Int) : tkL (some (oc.layL n m ++ b)) m = (oc.layL n m, some b) := by
  have := tk_app (oc.layL n m) b
  rwa [oc.layL_length] at this
theorem oct_lay1 {n : Int} (h : 0 ≤ n ∧ n ≤ 255) : oc.oct (oc.layL n 1) = n := by rw [oc.oct_lay, U_nat (by omega)]; omega
theorem oct_lay2 {n : Int} (h : 0 ≤ n ∧ n ≤ 65535) : oc.oct (oc.layL n 2) = n := by rw [oc.oct_lay, U_nat (by omega)]; omega
theorem pEnt_put {a : Ent} (h1 : 0 ≤ a.2 ∧ a.2 ≤ 255) (h2 : a.1.size ≤ 65535) (rest : List Int) : pEnt (some (entO a ++ rest)) = (a, some rest) := by
  unfold pEnt entO
  rw [List.append_assoc, List.append_assoc, tk_lay, tk_lay]
  simp only
  rw [oct_lay2 (by omega), oct_lay1 h1, Int.toNat_natCast, ← bo_len a.1, tk_app]
  simp only
  rw [strOf_bo]
theorem pl_put {l : List Ent} (h1 : ∀ a ∈ l, 0 ≤ a.2 ∧ a.2 ≤ 255) (h2 : ∀ a ∈ l, a.1.size ≤ 65535) (rest : List Int) (i : Nat) (hi : i ≤ l.length) : plS (some (l.flatMap entO ++ rest)) i = (l.take i, some ((l.drop i).flatMap entO ++ rest)) := by
  induction i with
  | zero => rfl
  | succ i ih =>
    have hx : l[i]? = some l[i] := List.getElem?_eq_getElem (by omega)
    have hm := List.getElem_mem (l := l) (n := i) (by omega)
    have e : l.drop i = l[i] :: l.drop (i + 1) := List.drop_eq_getElem_cons (by omega)
    simp only [plS]
    rw [ih (by omega), e, List.flatMap_cons, List.append_assoc, pEnt_put (h1 _ hm) (h2 _ hm), ← take_snoc hx]
theorem dir_len {d : List Ent} (h : Dir d) : (∀ a ∈ d, 0 ≤ a.2 ∧ a.2 ≤ 255) ∧ (∀ a ∈ d, a.1.size ≤ 65535) :=
  ⟨fun a ha => by have := h.2.1 a ha; omega, fun a ha => by have := h.2.1 a ha; omega⟩
theorem layL_one {n : Int} (h : 0 ≤ n ∧ n ≤ 255) : oc.layL n 1 = [n] := by
  have h1 : oc.layL n 1 = [((oc.U n / 2 ^ (8 * 0) % 256 : Nat) : Int)] := rfl
  rw [h1, U_nat (by omega)]
  simp
  omega
theorem layL_two {n : Int} (h : 0 ≤ n ∧ n ≤ 65535) : oc.layL n 2 = [n % 256, n / 256] := by
  have h1 : oc.layL n 2 = [((oc.U n / 2 ^ (8 * 0) % 256 : Nat) : Int), ((oc.U n / 2 ^ (8 * 1) % 256 : Nat) : Int)] := rfl
  rw [h1, U_nat (by omega)]
  simp
  omega
theorem getN_put {d : List Ent} (h : Dir d) (hl : d.length ≤ 30) (b : List Int) : getN (putN d ++ b) = (d, (putN d).length) := by
  have h1 := pl_put (dir_len h).1 (dir_len h).2 b d.length (Nat.le_refl _)
  rw [List.take_length, List.drop_length] at h1
  have e : putN d ++ b = (d.length : Int) :: (d.flatMap entO ++ b) := by
    unfold putN
    rw [layL_one (by omega)]; rfl
  rw [e]
  have hz : ((d.length : Int)).toNat = d.length := Int.toNat_natCast _
  have hr : RightP (plS (some (d.flatMap entO ++ b)) ((d.length : Int)).toNat).1 := by rw [hz, h1]; exact h.right
  rw [getN_yes hr, hz, h1]
  refine Prod.ext rfl ?_
  show _ - ((some ([].flatMap entO ++ b)).getD []).length = _
  have : (putN d).length = 1 + (d.flatMap entO).length := by unfold putN; rw [List.length_append, oc.layL_length]
  simp only [List.length_cons, List.length_append, List.flatMap_nil, Option.getD_some, List.length_nil]
  omega
theorem entO_len (a : Ent) : (entO a).length = 3 + a.1.size := by unfold entO; rw [List.length_append, List.length_append, oc.layL_length, oc.layL_length, bo_len]
theorem flat_len {l : List Ent} (h : ∀ a ∈ l, a.1.size ≤ 32) : (l.flatMap entO).length ≤ 35 * l.length := by
  induction l with
  | nil => simp
  | cons a l ih =>
    have h1 := ih fun x hx => h x (List.mem_cons_of_mem _ hx)
    have h2 := h a List.mem_cons_self
    rw [List.flatMap_cons, List.length_append, entO_len, List.length_cons]
    omega
theorem putN_len {d : List Ent} (h : Dir d) (hl : d.length ≤ 30) : (putN d).length ≤ 1051 := by
  have := flat_len (l := d) fun a ha => (h.2.1 a ha).2.1
  unfold putN
  rw [List.length_append, oc.layL_length]
  omega
theorem entO_bd (a : Ent) : ∀ b ∈ entO a, 0 ≤ b ∧ b ≤ 255 := fun b hb => by
  unfold entO at hb
  rcases List.mem_append.1 hb with hb | hb
  · rcases List.mem_append.1 hb with hb | hb
    · exact oc.layL_bd _ _ b hb
    · exact oc.layL_bd _ _ b hb
  · exact bo_bd _ b hb
theorem putN_bd (l : List Ent) : ∀ b ∈ putN l, 0 ≤ b ∧ b ≤ 255 := fun b hb => by
  unfold putN at hb
  rcases List.mem_append.1 hb with hb | hb
  · exact oc.layL_bd _ _ b hb
  · obtain ⟨a, _, h⟩ := List.mem_flatMap.1 hb
    exact entO_bd a b h
/-- What the document reads: an entry that is there. -/
theorem pEnt_there {zs : List Int} (hb : ∀ b ∈ zs, 0 ≤ b ∧ b ≤ 255) (h3 : 3 ≤ zs.length) (m : Nat) (hm : (m : Int) = zs[1]?.getD 0 + 256 * zs[2]?.getD 0) (hl : 3 + m ≤ zs.length) : pEnt (some zs) = ((strOfNums ((zs.drop 3).take m), zs[0]?.getD 0), some (zs.drop (3 + m))) := by
  match zs, h3 with
  | x :: y :: z :: r, _ =>
    have e : oc.oct [y, z] = (m : Int) := by simp [oc.oct] at hm ⊢; omega
    have t1 : tkL (some (x :: y :: z :: r)) 1 = ([x], some (y :: z :: r)) := tk_app [x] (y :: z :: r)
    have t2 : tkL (some (y :: z :: r)) 2 = ([y, z], some r) := tk_app [y, z] r
    have hr : m ≤ r.length := by simp at hl; omega
    have t3 : tkL (some r) m = (r.take m, some (r.drop m)) := if_pos hr
    unfold pEnt
    rw [t1]
    simp only
    rw [t2]
    simp only
    rw [e, Int.toNat_natCast, t3]
    have e1 : oc.oct [x] = x := by simp [oc.oct]
    rw [e1]
    have e2 : List.drop (3 + m) (x :: y :: z :: r) = r.drop m := by
      rw [show 3 + m = m + 1 + 1 + 1 by omega]; rfl
    rw [e2]; rfl
theorem pEnt_short {zs : List Int} (h3 : zs.length < 3) : (pEnt (some zs)).2 = none := by
  match zs, h3 with
  | [], _ => rfl
  | [x], _ => rfl
  | [x, y], _ => rfl
theorem pEnt_cut {zs : List Int} (h3 : 3 ≤ zs.length) (m : Nat) (hm : (m : Int) = zs[1]?.getD 0 + 256 * zs[2]?.getD 0) (hl : zs.length < 3 + m) : (pEnt (some zs)).2 = none := by
  match zs, h3 with
  | x :: y :: z :: r, _ =>
    have e : oc.oct [y, z] = (m : Int) := by simp [oc.oct] at hm ⊢; omega
    have t1 : tkL (some (x :: y :: z :: r)) 1 = ([x], some (y :: z :: r)) := tk_app [x] (y :: z :: r)
    have t2 : tkL (some (y :: z :: r)) 2 = ([y, z], some r) := tk_app [y, z] r
    have hr : ¬ m ≤ r.length := by simp at hl; omega
    have t3 : tkL (some r) m = ([], none) := if_neg hr
    unfold pEnt
    rw [t1]
    simp only
    rw [t2]
    simp only
    rw [e, Int.toNat_natCast, t3]
end Go.Proofs.Ytanfjiccilibcaa
