/- The walks through package names: the search, at, Find, Name. -/
import Derived.Test.YtanfjiccilibcaaNmW
namespace Go.Proofs.Ytanfjiccilibcaa
open Go.RowKit
set_option linter.unusedVariables false

theorem RdAt.ent {w : World} {A : Option Addr} {l : List Ent} {k : Nat} {a : Ent} (h : RdAt w A l.length (namesV l)) (hk : l[k]? = some a) : ∃ b o, A = some ⟨b, o, none⟩ ∧ b < w.heap.size ∧ w.cell? ⟨b, o + k * 2, none⟩ = some (.string a.1) ∧ w.cell? ⟨b, o + k * 2 + 1, none⟩ = some (.int .i64 a.2) := by
  obtain ⟨h1, h2⟩ := namesV_at hk
  have hl := (List.getElem?_eq_some_iff.1 hk).1
  obtain ⟨b, o, rfl, hb, hc⟩ := h.resolve_left (by omega)
  exact ⟨b, o, rfl, hb, hc _ _ h1, by rw [Nat.add_assoc]; exact hc _ _ h2⟩
theorem at1_calls (s t : ByteArray) (h : Int) (w : World) : Calls Try.prog 40 #[.agg #[.string s, .int .i64 h], .string t] w fun e w' => e = .returned (.int .i64 (cmpS s t)) ∧ Below w.heap.size w w' := by
  go_enter Try.func40, Try.ntmps40
  go_wp2_with fail
  refine (compare_calls s t _).mono ?_
  rintro e w2 ⟨rfl, rfl⟩
  go_wp2
  go_ret
  exact ⟨rfl, (Below.refl _ _).alloc (Nat.le_refl _) _⟩
def FoundR (l : List Ent) (s : ByteArray) (i : Nat) (b : Bool) : Prop := PosR l s i ∧ (b = true ↔ ∃ a, l[i]? = some a ∧ a.1 = s)
set_option maxHeartbeats 4000000 in
theorem search_calls (w : World) (A : Option Addr) (cap : Nat) (l : List Ent) (s : ByteArray) (hL : RdAt w A l.length (namesV l)) (hc : Asc l) (hl : l.length ≤ 100000) :
    Calls Try.prog 39 #[.slice A l.length cap, Value.string s, .func (.func 40) #[] #[]] w fun e w' => ∃ (i : Nat) (b : Bool), e = .returned (.tuple #[.int .i64 i, .bool b]) ∧ FoundR l s i b ∧ Below w.heap.size w w' := by
  have HL := Lib.hid hL
  have HC := Lib.hid hc
  clear hL hc
  go_enter Try.func39, Try.ntmps39
  go_wp2_with fail
  go_loopg [9, 10, 11] l.length (fun q i j h wr => ∃ (a b : Nat), q = b - a ∧ i = .int .i64 a ∧ j = .int .i64 b ∧ a ≤ b ∧ b ≤ l.length ∧ Hid (∀ k p, l[k]? = some p → (k < a → lt p.1 s = true) ∧ (b ≤ k → lt p.1 s = false)) ∧ Below w.heap.size w wr)
  case atStart => exact ⟨0, l.length, by omega, rfl, rfl, by omega, by omega, Lib.hid (fun k p hk => ⟨fun h => by omega, fun h => by have := (List.getElem?_eq_some_iff.1 hk).1; omega⟩), Below.refl _ _⟩
  case round =>
    obtain ⟨a, b, hq, rfl, rfl, hab, hbl, hinv, hb⟩ := hrel
    have HB := Lib.hid hb
    have HLr := Lib.hid (HL.out.below (hb.mono (Nat.le_refl _)))
    clear hb
    by_cases hlt : a < b
    · obtain ⟨h, hh⟩ : ∃ h, (a + b) / 2 = h := ⟨_, rfl⟩
      have hhi : ((a : Int) + (b : Int)) / 2 = (h : Int) := by omega
      have hhl : h < l.length := by omega
      obtain ⟨p, hp⟩ : ∃ p, l[h]? = some p := ⟨_, List.getElem?_eq_getElem hhl⟩
      obtain ⟨bb, o, rfl, hbb, r1, r2⟩ := HLr.out.ent hp
      have HP := Lib.hid hp
      clear hp
      go_wp2_with fail
      refine (at1_calls p.1 s p.2 _).mono ?_
      rintro e w2 ⟨rfl, hb⟩
      have HB2 := Lib.hid (bel_next HB.out hb (Nat.le_refl _))
      clear hb
      by_cases hc : cmpS p.1 s < 0
      · go_wp2
        go_roundg (b - (h + 1))
        case measure => omega
        case rel => exact ⟨h + 1, b, rfl, by go_num, rfl, by omega, hbl, Lib.hid (fun k q hk => ⟨fun hkh => by
          by_cases e : k = h
          · subst e
            have := HP.out.symm.trans hk
            cases this
            exact (cmpS_lt _ _).1 hc
          · exact lt_trans (HC.out.lt_at hk HP.out (by omega)) ((cmpS_lt _ _).1 hc), fun hkb => (hinv.out k q hk).2 hkb⟩), HB2.out⟩
      · go_wp2
        go_roundg (h - a)
        case measure => omega
        case rel => exact ⟨a, h, rfl, rfl, rfl, by omega, by omega, Lib.hid (fun k q hk => ⟨fun hka => (hinv.out k q hk).1 hka, fun hkh => by
          have hno : lt p.1 s = false := by
            cases h3 : lt p.1 s
            · rfl
            · have := (cmpS_lt _ _).2 h3; omega
          by_cases e : k = h
          · subst e
            have := HP.out.symm.trans hk
            cases this
            exact hno
          · have h4 := HC.out.lt_at HP.out hk (by omega)
            cases h5 : lt q.1 s
            · rfl
            · rw [lt_trans h4 h5] at hno; cases hno⟩), HB2.out⟩
    · obtain rfl : a = b := by omega
      have hfin : PosR l s a := ⟨hbl, fun k q hk => ⟨fun h => (hinv.out k q hk).1 h, fun h => by
        refine Classical.byContradiction fun hn => ?_
        have := (hinv.out k q hk).2 (by omega)
        rw [h] at this; cases this⟩⟩
      have HFin := Lib.hid hfin
      clear hfin
      by_cases hal : a < l.length
      · obtain ⟨p, hp⟩ : ∃ p, l[a]? = some p := ⟨_, List.getElem?_eq_getElem hal⟩
        obtain ⟨bb, o, rfl, hbb, r1, r2⟩ := HLr.out.ent hp
        have HP := Lib.hid hp
        clear hp
        go_wp2_with fail
        refine (at1_calls p.1 s p.2 _).mono ?_
        rintro e w2 ⟨rfl, hb⟩
        have HB2 := Lib.hid (bel_next HB.out hb (Nat.le_refl _))
        clear hb
        go_wp2
        go_ret2
        refine ⟨a, _, rfl, ⟨HFin.out, ?_⟩, HB2.out⟩
        rw [HP.out]
        simp only [beq_iff_eq, cmpS_eq, Option.some.injEq, exists_eq_left']
      · obtain rfl : a = l.length := by omega
        go_wp2
        go_ret2
        refine ⟨_, _, rfl, ⟨HFin.out, ?_⟩, HB.out⟩
        simp
set_option maxHeartbeats 1000000 in
theorem at_calls (w : World) (A : Option Addr) (cap : Nat) (l : List Ent) (s : ByteArray) (hL : RdAt w A l.length (namesV l)) (hc : Asc l) (hl : l.length ≤ 100000) :
    Calls Try.prog 24 #[.slice A l.length cap, .string s] w fun e w' => ∃ (i : Nat) (b : Bool), e = .returned (.tuple #[.int .i64 i, .bool b]) ∧ FoundR l s i b ∧ Below w.heap.size w w' := by
  have HL := Lib.hid hL
  have HC := Lib.hid hc
  clear hL hc
  go_enter Try.func24, Try.ntmps24
  go_wp2_with fail
  refine (search_calls _ A cap l s HL.out HC.out hl).mono ?_
  rintro e w' ⟨i, b, rfl, hr, hb⟩
  have HR := Lib.hid hr
  have HB := Lib.hid hb
  clear hr hb
  go_wp2
  go_ret2
  exact ⟨i, b, rfl, HR.out, HB.out⟩
def FindP (l : List Ent) (s : ByteArray) (e : Ending) : Prop := (¬ Has l s ∧ e = .returned (.tuple #[.int .i64 0, .bool false])) ∨ ∃ a ∈ l, a.1 = s ∧ e = .returned (.tuple #[.int .i64 a.2, .bool true])
set_option maxHeartbeats 1000000 in
theorem find_calls (w : World) (A : Option Addr) (cap : Nat) (l : List Ent) (s : ByteArray) (hL : RdAt w A l.length (namesV l)) (hc : Asc l) (hl : l.length ≤ 100000) :
    Calls Try.prog 14 #[.slice A l.length cap, .string s] w fun e w' => FindP l s e ∧ Below w.heap.size w w' := by
  have HL := Lib.hid hL
  have HC := Lib.hid hc
  clear hL hc
  go_enter Try.func14, Try.ntmps14
  go_wp2_with fail
  refine (at_calls _ A cap l s HL.out HC.out hl).mono ?_
  rintro e w' ⟨i, b, rfl, hr, hb⟩
  have HR := Lib.hid hr
  have HB := Lib.hid hb
  have HL2 := Lib.hid (HL.out.below hb)
  clear hr hb
  cases b
  · go_wp2
    go_ret2
    refine ⟨.inl ⟨fun h => ?_, rfl⟩, HB.out⟩
    have := HR.out.2.2 ((has_at HC.out HR.out.1).1 h)
    cases this
  · obtain ⟨a, ha, hs⟩ := HR.out.2.1 rfl
    obtain ⟨bb, o, rfl, hbb, r1, r2⟩ := HL2.out.ent ha
    have hil := (List.getElem?_eq_some_iff.1 ha).1
    have HA := Lib.hid ha
    clear ha
    go_wp2
    go_ret2
    exact ⟨.inr ⟨a, List.mem_of_getElem? HA.out, hs, rfl⟩, HB.out⟩
def NameP (l : List Ent) (h : Int) (s : ByteArray) (b : Bool) : Prop := ((∀ a ∈ l, a.2 ≠ h) ∧ s = ByteArray.empty ∧ b = false) ∨ ∃ (k : Nat) (a : Ent), l[k]? = some a ∧ a.2 = h ∧ (∀ j x, j < k → l[j]? = some x → x.2 ≠ h) ∧ s = a.1 ∧ b = true
theorem NameP.one {l : List Ent} {h : Int} {s t : ByteArray} {b c : Bool} (x : NameP l h s b) (y : NameP l h t c) : s = t ∧ b = c := by
  rcases x with ⟨h1, rfl, rfl⟩ | ⟨k, a, h1, h2, h3, rfl, rfl⟩
  · rcases y with ⟨_, rfl, rfl⟩ | ⟨k, a, h4, h5, _⟩
    · exact ⟨rfl, rfl⟩
    · exact absurd h5 (h1 a (List.mem_of_getElem? h4))
  · rcases y with ⟨h4, rfl, rfl⟩ | ⟨k', a', h4, h5, h6, rfl, rfl⟩
    · exact absurd h2 (h4 a (List.mem_of_getElem? h1))
    · rcases Nat.lt_trichotomy k k' with e | e | e
      · exact absurd h2 (h6 k a e h1)
      · subst e
        cases h1.symm.trans h4
        exact ⟨rfl, rfl⟩
      · exact absurd h5 (h3 k' a' e h4)
set_option maxHeartbeats 1000000 in
theorem name_calls (w : World) (A : Option Addr) (cap : Nat) (l : List Ent) (h : Int) (hL : RdAt w A l.length (namesV l)) (hl : l.length ≤ 100000) :
    Calls Try.prog 15 #[.slice A l.length cap, .int .i64 h] w fun e w' => ∃ s b, e = .returned (.tuple #[.string s, .bool b]) ∧ NameP l h s b ∧ Below w.heap.size w w' := by
  have HL := Lib.hid hL
  clear hL
  go_enter Try.func15, Try.ntmps15
  go_wp2_with fail
  go_loopg [10, 7] l.length (fun q i s7 wr => ∃ j : Nat, q + j = l.length ∧ i = .int .i64 j ∧ Hid (∀ k x, k < j → l[k]? = some x → x.2 ≠ h) ∧ Hid (Below w.heap.size w wr))
  case atStart => exact ⟨0, by omega, rfl, Lib.hid (fun k x hk => by omega), Lib.hid (Below.refl _ _)⟩
  case round =>
    obtain ⟨j, hq, rfl, hno, hb⟩ := hrel
    by_cases hlt : j < l.length
    · obtain ⟨a, ha⟩ : ∃ a, l[j]? = some a := ⟨_, List.getElem?_eq_getElem hlt⟩
      obtain ⟨bb, o, rfl, hbb, r1, r2⟩ := (HL.out.below hb.out).ent ha
      have HA := Lib.hid ha
      clear ha
      have HB2 := Lib.hid (hb.out.alloc (by exact hb.out.size) (.cells #[.string a.1, .int .i64 a.2] 47))
      by_cases he : a.2 = h
      · subst he
        go_wp2
        go_ret2
        exact ⟨_, _, rfl, .inr ⟨j, a, HA.out, rfl, hno.out, rfl, rfl⟩, HB2.out⟩
      · have he' : (a.2 == h) = false := by simpa using he
        go_wp2
        go_roundg (l.length - (j + 1))
        case measure => omega
        case rel => exact ⟨j + 1, by omega, by go_num, Lib.hid (fun k x hk hx => by
          by_cases e : k = j
          · subst e; cases HA.out.symm.trans hx; exact he
          · exact hno.out k x (by omega) hx), HB2⟩
    · obtain rfl : j = l.length := by omega
      go_wp2
      go_ret2
      exact ⟨_, _, rfl, .inl ⟨fun a ha => by
        obtain ⟨k, hk⟩ := List.mem_iff_getElem?.1 ha
        exact hno.out k a ((List.getElem?_eq_some_iff.1 hk).1) hk, rfl, rfl⟩, hb.out⟩
end Go.Proofs.Ytanfjiccilibcaa
