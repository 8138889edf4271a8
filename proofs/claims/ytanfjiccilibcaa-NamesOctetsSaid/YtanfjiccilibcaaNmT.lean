/- The walks through the document's answers for names: Less, Find, Name, Same. -/
import Derived.Test.YtanfjiccilibcaaNmR
namespace Go.Proofs.Ytanfjiccilibcaa
open Go.RowKit
set_option linter.unusedVariables false

theorem bl_cons (x : UInt8) (a b : List UInt8) : Op.bytesLess (x :: a) (x :: b) = Op.bytesLess a b := by
  simp [Op.bytesLess, UInt8.lt_irrefl]
theorem ba_drop (a : ByteArray) (i : Nat) (h : i < a.size) : a.toList.drop i = a[i] :: a.toList.drop (i + 1) := by
  rw [ByteArray.toList_eq]
  have h2 : i < a.data.toList.length := by cases a; exact h
  rw [List.drop_eq_getElem_cons h2]
  rfl
theorem ba_drop_all (a : ByteArray) (i : Nat) (h : a.size ≤ i) : a.toList.drop i = [] := by
  rw [ByteArray.toList_eq]
  refine List.drop_eq_nil_of_le ?_
  cases a; exact h
set_option maxHeartbeats 4000000 in
theorem less_calls (a b : ByteArray) (w : World) (hsa : a.size ≤ 100000) (hsb : b.size ≤ 100000) : Calls Try.prog 30 #[.string a, .string b] w fun e w' => e = .returned (.bool (lt a b)) ∧ Below w.heap.size w w' := by
  obtain ⟨n, hn⟩ : ∃ n, a.size = n := ⟨_, rfl⟩
  obtain ⟨m, hm⟩ : ∃ m, b.size = m := ⟨_, rfl⟩
  rw [hn] at hsa
  rw [hm] at hsb
  go_enter Try.func30, Try.ntmps30
  go_wp2_with fail
  go_loopg [5] n (fun q s5 wr => ∃ i : Nat, q + i = n ∧ s5 = .int .i64 i ∧ i ≤ m ∧ Hid (lt a b = Op.bytesLess (a.toList.drop i) (b.toList.drop i)) ∧ Hid (Below w.heap.size w wr))
  case atStart => exact ⟨0, by omega, rfl, by omega, Lib.hid rfl, Lib.hid (Below.refl _ _)⟩
  case round =>
    obtain ⟨i, hq, rfl, him, hinv, hb⟩ := hrel
    by_cases h1 : i < n
    · by_cases h2 : i < m
      · have ha := ba_drop a i (by omega)
        have hb2 := ba_drop b i (by omega)
        have hai : i < a.size := by omega
        have hbi : i < b.size := by omega
        obtain ⟨x, hx⟩ : ∃ x, a[i] = x := ⟨_, rfl⟩
        obtain ⟨y, hy⟩ : ∃ y, b[i] = y := ⟨_, rfl⟩
        rw [hx] at ha
        rw [hy] at hb2
        have HE := Lib.hid (hinv.out.trans (by rw [ha, hb2]))
        by_cases he : x = y
        · subst he
          have hbe : ((x.toNat : Int) == (x.toNat : Int)) = true := by simp
          clear ha hb2
          go_wp2_with fail
          go_quiet (fail)
          go_wp2
          go_roundg (n - (i + 1))
          case measure => omega
          case rel => exact ⟨i + 1, by omega, by go_num, by omega, Lib.hid (HE.out.trans (bl_cons _ _ _)), Lib.hid (below_drewN13 hb.out _)⟩
        · have hne : x.toNat ≠ y.toNat := fun h => he (UInt8.toNat_inj.1 h)
          have HR := Lib.hid (show lt a b = decide ((x.toNat : Int) < (y.toNat : Int)) by
            rw [HE.out]
            have e2 : (x == y) = false := by rw [beq_eq_false_iff_ne]; exact he
            simp only [Op.bytesLess, e2, Bool.false_and, Bool.or_false]
            rw [decide_eq_decide, UInt8.lt_iff_toNat_lt]
            omega)
          clear ha hb2
          go_wp2_with fail
          go_quiet (fail)
          go_wp2_with fail
          go_quiet (fail)
          go_wp2
          go_ret
          exact ⟨ret_bool (by rw [HR.out, decide_eq_decide]; omega), below_drewN13 (below_drewN13 hb.out _) _⟩
      · obtain rfl : i = m := by omega
        have HR := Lib.hid (show lt a b = false by
          rw [hinv.out, ba_drop_all b i (by omega)]
          cases a.toList.drop i <;> rfl)
        go_wp2
        go_ret
        exact ⟨ret_bool (by rw [HR.out]; exact decide_eq_false (by omega)), hb.out⟩
    · obtain rfl : i = n := by omega
      have HR := Lib.hid (show lt a b = decide (i < m) by
        rw [hinv.out, ba_drop_all a i (by omega)]
        by_cases h3 : i < m
        · rw [ba_drop b i (by omega), decide_eq_true h3]; rfl
        · rw [ba_drop_all b i (by omega), decide_eq_false h3]; rfl)
      go_wp2
      go_ret
      exact ⟨ret_bool (by rw [HR.out]), hb.out⟩
/-- What Find of the document answers. -/
def RFindP (l : List Ent) (s : ByteArray) (h : Int) : Prop := (¬ Has l s ∧ h = 0) ∨ ∃ a ∈ l, a.1 = s ∧ h = a.2
set_option maxHeartbeats 1000000 in
theorem rfind_calls (w : World) (A : Option Addr) (cap : Nat) (l : List Ent) (s : ByteArray) (hL : RdAt w A l.length (namesV l)) (hl : l.length ≤ 100000) :
    Calls Try.prog 17 #[.slice A l.length cap, .string s] w fun e w' => ∃ h, e = .returned (.int .i64 h) ∧ RFindP l s h ∧ w = w' := by
  have HL := Lib.hid hL
  clear hL
  go_enter Try.func17, Try.ntmps17
  go_wp2_with fail
  go_loopg [5] l.length (fun q s5 wr => ∃ j : Nat, q + j = l.length ∧ s5 = .int .i64 j ∧ wr = w ∧ Hid (∀ k x, k < j → l[k]? = some x → x.1 ≠ s))
  case atStart => exact ⟨0, by omega, rfl, rfl, Lib.hid (fun k x hk => by omega)⟩
  case round =>
    obtain ⟨j, hq, rfl, rfl, hno⟩ := hrel
    by_cases hlt : j < l.length
    · obtain ⟨a, ha⟩ : ∃ a, l[j]? = some a := ⟨_, List.getElem?_eq_getElem hlt⟩
      obtain ⟨bb, o, rfl, hbb, r1, r2⟩ := HL.out.ent ha
      have HA := Lib.hid ha
      have heq := ba_beq a.1 s
      clear ha
      by_cases he : a.1 = s
      · rw [decide_eq_true he] at heq
        have heq' : a.1.toList = s.toList := by rw [he]
        go_wp2
        go_ret
        exact ⟨_, rfl, .inr ⟨a, List.mem_of_getElem? HA.out, he, rfl⟩, rfl⟩
      · rw [decide_eq_false he] at heq
        go_wp2
        go_roundg (l.length - (j + 1))
        case measure => omega
        case rel => exact ⟨j + 1, by omega, by go_num, rfl, Lib.hid (fun k x hk hx => by
          by_cases e : k = j
          · subst e; cases HA.out.symm.trans hx; exact he
          · exact hno.out k x (by omega) hx)⟩
    · obtain rfl : j = l.length := by omega
      go_wp2
      go_ret
      exact ⟨_, rfl, .inl ⟨fun ⟨a, ha, he⟩ => by
        obtain ⟨k, hk⟩ := List.mem_iff_getElem?.1 ha
        exact hno.out k a ((List.getElem?_eq_some_iff.1 hk).1) hk he, rfl⟩, rfl⟩
set_option maxHeartbeats 1000000 in
theorem rname_calls (w : World) (A : Option Addr) (cap : Nat) (l : List Ent) (h : Int) (hL : RdAt w A l.length (namesV l)) (hl : l.length ≤ 100000) :
    Calls Try.prog 18 #[.slice A l.length cap, .int .i64 h] w fun e w' => ∃ s b, e = .returned (.string s) ∧ NameP l h s b ∧ w = w' := by
  have HL := Lib.hid hL
  clear hL
  go_enter Try.func18, Try.ntmps18
  go_wp2_with fail
  go_loopg [5] l.length (fun q s5 wr => ∃ j : Nat, q + j = l.length ∧ s5 = .int .i64 j ∧ wr = w ∧ Hid (∀ k x, k < j → l[k]? = some x → x.2 ≠ h))
  case atStart => exact ⟨0, by omega, rfl, rfl, Lib.hid (fun k x hk => by omega)⟩
  case round =>
    obtain ⟨j, hq, rfl, rfl, hno⟩ := hrel
    by_cases hlt : j < l.length
    · obtain ⟨a, ha⟩ : ∃ a, l[j]? = some a := ⟨_, List.getElem?_eq_getElem hlt⟩
      obtain ⟨bb, o, rfl, hbb, r1, r2⟩ := HL.out.ent ha
      have HA := Lib.hid ha
      clear ha
      by_cases he : a.2 = h
      · subst he
        go_wp2
        go_ret
        exact ⟨_, _, rfl, .inr ⟨j, a, HA.out, rfl, hno.out, rfl, rfl⟩, rfl⟩
      · have he' : (a.2 == h) = false := by simpa using he
        go_wp2
        go_roundg (l.length - (j + 1))
        case measure => omega
        case rel => exact ⟨j + 1, by omega, by go_num, rfl, Lib.hid (fun k x hk hx => by
          by_cases e : k = j
          · subst e; cases HA.out.symm.trans hx; exact he
          · exact hno.out k x (by omega) hx)⟩
    · obtain rfl : j = l.length := by omega
      go_wp2
      go_ret
      exact ⟨_, _, rfl, .inl ⟨fun a ha => by
        obtain ⟨k, hk⟩ := List.mem_iff_getElem?.1 ha
        exact hno.out k a ((List.getElem?_eq_some_iff.1 hk).1) hk, rfl, rfl⟩, rfl⟩
set_option maxHeartbeats 2000000 in
theorem same13_calls (w : World) (A B : Option Addr) (ca cb : Nat) (l : List Ent) (hA : RdAt w A l.length (namesV l)) (hB : RdAt w B l.length (namesV l)) (hl : l.length ≤ 100000) :
    Calls Try.prog 16 #[.slice A l.length ca, .slice B l.length cb] w fun e w' => e = .returned (.bool true) ∧ Below w.heap.size w w' := by
  have HA := Lib.hid hA
  have HB := Lib.hid hB
  clear hA hB
  go_enter Try.func16, Try.ntmps16
  go_wp2_with fail
  go_loopg [5] l.length (fun q i wr => ∃ j : Nat, q + j = l.length ∧ i = .int .i64 j ∧ Hid (Below w.heap.size w wr))
  case atStart => exact ⟨0, by omega, rfl, Lib.hid (Below.refl _ _)⟩
  case round =>
    obtain ⟨j, hq, rfl, hb⟩ := hrel
    by_cases hlt : j < l.length
    · obtain ⟨a, ha⟩ : ∃ a, l[j]? = some a := ⟨_, List.getElem?_eq_getElem hlt⟩
      obtain ⟨b1, o1, rfl, _, r1, r2⟩ := (HA.out.below hb.out).ent ha
      obtain ⟨b2, o2, rfl, _, s1, s2⟩ := (HB.out.below hb.out).ent ha
      clear ha
      go_wp2_with fail
      go_quiet (fail)
      go_wp2
      go_roundg (l.length - (j + 1))
      case measure => omega
      case rel => exact ⟨j + 1, by omega, by go_num, Lib.hid (below_drewN13 hb.out _)⟩
    · obtain rfl : j = l.length := by omega
      go_wp2
      go_ret
      exact ⟨rfl, hb.out⟩
end Go.Proofs.Ytanfjiccilibcaa
