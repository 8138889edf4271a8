/- The walks through package names: Add, Drop. -/
import Derived.Test.YtanfjiccilibcaaNmS
import Derived.Test.YtanfjiccilibcaaNmI
import Derived.Test.YtanfjiccilibcaaClNamed
import Derived.OwnWalk
namespace Go.Proofs.Ytanfjiccilibcaa
open Go.RowKit
set_option linter.unusedVariables false

theorem least_of {l : List Ent} (h : l.length < 64) : ∃ k : Nat, LeastR l k := by
  have key : ∀ m : Nat, m ≤ 64 → (∃ k : Nat, 1 ≤ k ∧ k ≤ m ∧ ∀ a ∈ l, a.2 ≠ (k : Int)) → ∃ k : Nat, LeastR l k := by
    intro m
    induction m with
    | zero => rintro _ ⟨k, h1, h2, _⟩; omega
    | succ m ih =>
      rintro hm ⟨k, h1, h2, h3⟩
      by_cases hs : ∃ k : Nat, 1 ≤ k ∧ k ≤ m ∧ ∀ a ∈ l, a.2 ≠ (k : Int)
      · exact ih (by omega) hs
      · by_cases hk : k ≤ m
        · exact absurd ⟨k, h1, hk, h3⟩ hs
        · refine ⟨k, by omega, by omega, h3, fun j hj1 hj2 => Classical.byContradiction fun hn => hs ⟨j.toNat, by omega, by omega, fun a ha e => hn ⟨a, ha, by omega⟩⟩⟩
  obtain ⟨k, h1, h2, h3⟩ := free_heap 64 l h
  exact key 64 (by omega) ⟨k.toNat, by omega, by omega, fun a ha e => h3 a ha (by omega)⟩
/-- What Add answers. -/
def AddF (l : List Ent) (s : ByteArray) (m : List Ent) (h : Int) (c : Int) : Prop :=
  (goodB s = false ∧ m = [] ∧ h = 0 ∧ c = 2) ∨ (goodB s = true ∧ Has l s ∧ m = [] ∧ h = 0 ∧ c = 15) ∨ (goodB s = true ∧ ¬ Has l s ∧ 64 ≤ l.length ∧ m = [] ∧ h = 0 ∧ c = 16) ∨
  (goodB s = true ∧ ¬ Has l s ∧ l.length < 64 ∧ c = 0 ∧ LeastR l h ∧ ∃ i, PosR l s i ∧ m = addL l i s h)
/-- What Drop answers. -/
def DropF (l : List Ent) (s : ByteArray) (m : List Ent) (c : Int) : Prop :=
  (¬ Has l s ∧ m = [] ∧ c = 15) ∨ (Has l s ∧ c = 0 ∧ ∃ i, PosR l s i ∧ m = delL l i)
theorem pos_of {l : List Ent} (h : Asc l) (s : ByteArray) : ∃ i, PosR l s i := by
  have key : ∀ n, n ≤ l.length → (∀ k a, k < n → l[k]? = some a → lt a.1 s = true) → ∃ i, PosR l s i := by
    intro n hn
    induction hd : l.length - n generalizing n with
    | zero => exact fun hk => ⟨l.length, Nat.le_refl _, fun k a ha => ⟨fun h => hk k a (by omega) ha, fun _ => (List.getElem?_eq_some_iff.1 ha).1⟩⟩
    | succ d ih =>
      intro hk
      obtain ⟨a, ha⟩ : ∃ a, l[n]? = some a := ⟨_, List.getElem?_eq_getElem (by omega)⟩
      cases hs : lt a.1 s
      · refine ⟨n, hn, fun k b hb => ⟨fun h => hk k b h hb, fun h1 => Classical.byContradiction fun h2 => ?_⟩⟩
        by_cases e : k = n
        · subst e; cases ha.symm.trans hb; rw [hs] at h1; cases h1
        · have := lt_trans (h.lt_at ha hb (by omega)) h1
          rw [hs] at this; cases this
      · refine ih (n + 1) (by omega) (by omega) fun k b hkn hb => ?_
        by_cases e : k = n
        · subst e; cases ha.symm.trans hb; exact hs
        · exact hk k b (by omega) hb
  exact key 0 (by omega) (fun k a h => by omega)
theorem addF_ex {l : List Ent} (hd : Dir l) (s : ByteArray) : ∃ m h c, AddF l s m h c := by
  cases hg : goodB s
  · exact ⟨_, _, _, .inl ⟨hg, rfl, rfl, rfl⟩⟩
  by_cases hh : Has l s
  · exact ⟨_, _, _, .inr (.inl ⟨hg, hh, rfl, rfl, rfl⟩)⟩
  by_cases hn : 64 ≤ l.length
  · exact ⟨_, _, _, .inr (.inr (.inl ⟨hg, hh, hn, rfl, rfl, rfl⟩))⟩
  obtain ⟨i, hi⟩ := pos_of hd.1 s
  obtain ⟨k, hk⟩ := least_of (show l.length < 64 by omega)
  exact ⟨_, _, _, .inr (.inr (.inr ⟨hg, hh, by omega, rfl, hk, i, hi, rfl⟩))⟩
theorem dropF_ex {l : List Ent} (hd : Dir l) (s : ByteArray) : ∃ m c, DropF l s m c := by
  by_cases hh : Has l s
  · obtain ⟨i, hi⟩ := pos_of hd.1 s
    exact ⟨_, _, .inr ⟨hh, rfl, i, hi, rfl⟩⟩
  · exact ⟨_, _, .inl ⟨hh, rfl, rfl⟩⟩
theorem good_sz {s : ByteArray} (h : goodB s = true) : 1 ≤ s.size ∧ s.size ≤ 32 := of_decide_eq_true h
theorem AddF.dir {l m : List Ent} {s : ByteArray} {h c : Int} (hd : Dir l) (hF : AddF l s m h c) : Dir m := by
  rcases hF with ⟨_, rfl, _⟩ | ⟨_, _, rfl, _⟩ | ⟨_, _, _, rfl, _⟩ | ⟨hg, hh, _, _, hl, i, hi, rfl⟩
  · exact Dir.nil
  · exact Dir.nil
  · exact Dir.nil
  · exact hd.add hi hh (good_sz hg) hl
theorem DropF.dir {l m : List Ent} {s : ByteArray} {c : Int} (hd : Dir l) (hF : DropF l s m c) : Dir m := by
  rcases hF with ⟨_, rfl, _⟩ | ⟨_, _, i, hi, rfl⟩
  · exact Dir.nil
  · exact hd.del
theorem AddF.len {l m : List Ent} {s : ByteArray} {h c : Int} (hF : AddF l s m h c) : m.length ≤ l.length + 1 := by
  rcases hF with ⟨_, rfl, _⟩ | ⟨_, _, rfl, _⟩ | ⟨_, _, _, rfl, _⟩ | ⟨hg, hh, _, _, hl, i, hi, rfl⟩
  · simp
  · simp
  · simp
  · rw [addL_length hi.1]; exact Nat.le_refl _
theorem DropF.len {l m : List Ent} {s : ByteArray} {c : Int} (hF : DropF l s m c) (hd : Asc l) : m.length ≤ l.length := by
  rcases hF with ⟨_, rfl, _⟩ | ⟨hh, _, i, hi, rfl⟩
  · simp
  · obtain ⟨a, ha, _⟩ := (has_at hd hi).1 hh
    have := delL_length (List.getElem?_eq_some_iff.1 ha).1
    omega
theorem AddF.range {l m : List Ent} {s : ByteArray} {h c : Int} (hF : AddF l s m h c) : 0 ≤ h ∧ h ≤ 64 := by
  rcases hF with ⟨_, _, rfl, _⟩ | ⟨_, _, _, rfl, _⟩ | ⟨_, _, _, _, rfl, _⟩ | ⟨hg, hh, _, _, hl, i, hi, rfl⟩
  · omega
  · omega
  · omega
  · exact ⟨by have := hl.1; omega, hl.2.1⟩
set_option maxHeartbeats 8000000 in
theorem add_calls (w : World) (A : Option Addr) (cap : Nat) (l m : List Ent) (s : ByteArray) (h c : Int) (hL : RdAt w A l.length (namesV l)) (hd : Dir l) (hl : l.length ≤ 90000) (hF : AddF l s m h c) :
    Calls Try.prog 8 #[.slice A l.length cap, .string s] w fun e w' => ∃ v, e = .returned (.tuple #[v, .int .i64 h, .int .i64 c]) ∧ w'.ownsRow w.heap.size 47 2 v m.length (namesV m) ∧ Below w.heap.size w w' := by
  have HL := Lib.hid hL
  have HD := Lib.hid hd
  clear hL hd
  rcases hF with ⟨hg, rfl, rfl, rfl⟩ | ⟨hg, hh, rfl, rfl, rfl⟩ | ⟨hg, hh, hn, rfl, rfl, rfl⟩ | ⟨hg, hh, hn, rfl, hle, i, hp, rfl⟩
  · go_enter Try.func8, Try.ntmps8
    go_wp2_with fail
    refine (at_calls _ A cap l s HL.out HD.out.1 (by omega)).mono ?_
    rintro e w' ⟨i, b, rfl, hr, hb⟩
    have HB := Lib.hid hb
    clear hr hb
    go_wp2_with fail
    refine (good_calls s _).mono ?_
    rintro e w2 ⟨rfl, rfl⟩
    rw [hg]
    go_wp2
    go_ret3
    exact ⟨_, rfl, World.ownsRow_nil _ _ _ _, HB.out⟩
  · go_enter Try.func8, Try.ntmps8
    go_wp2_with fail
    refine (at_calls _ A cap l s HL.out HD.out.1 (by omega)).mono ?_
    rintro e w' ⟨i, b, rfl, hr, hb⟩
    obtain rfl : b = true := hr.2.2 ((has_at HD.out.1 hr.1).1 hh)
    have HB := Lib.hid hb
    clear hr hb hh
    go_wp2_with fail
    refine (good_calls s _).mono ?_
    rintro e w2 ⟨rfl, rfl⟩
    rw [hg]
    go_wp2
    go_ret3
    exact ⟨_, rfl, World.ownsRow_nil _ _ _ _, HB.out⟩
  · go_enter Try.func8, Try.ntmps8
    go_wp2_with fail
    refine (at_calls _ A cap l s HL.out HD.out.1 (by omega)).mono ?_
    rintro e w' ⟨i, b, rfl, hr, hb⟩
    obtain rfl : b = false := by
      cases b
      · rfl
      · exact absurd ((has_at HD.out.1 hr.1).2 (hr.2.1 rfl)) hh
    have HB := Lib.hid hb
    clear hr hb hh
    go_wp2_with fail
    refine (good_calls s _).mono ?_
    rintro e w2 ⟨rfl, rfl⟩
    rw [hg]
    go_wp2
    go_ret3
    exact ⟨_, rfl, World.ownsRow_nil _ _ _ _, HB.out⟩
  · obtain ⟨hm, rfl⟩ : ∃ hm : Nat, h = hm := ⟨h.toNat, by have := hle.1; omega⟩
    have HLe := Lib.hid hle
    have hm1 : 1 ≤ hm ∧ hm ≤ 64 := by have := hle.1; have := hle.2.1; omega
    have HP := Lib.hid hp
    have hil := hp.1
    clear hle hp
    go_enter Try.func8, Try.ntmps8
    go_wp2_with fail
    refine (at_calls _ A cap l s HL.out HD.out.1 (by omega)).mono ?_
    rintro e w' ⟨i', b, rfl, hr, hb⟩
    obtain rfl : b = false := by
      cases b
      · rfl
      · exact absurd ((has_at HD.out.1 hr.1).2 (hr.2.1 rfl)) hh
    obtain rfl : i' = i := hr.1.one HP.out
    have HB := Lib.hid hb
    clear hr hb hh
    go_wp2_with fail
    refine (good_calls s _).mono ?_
    rintro e w2 ⟨rfl, rfl⟩
    rw [hg]
    go_wp2_with fail
    go_loopg [9, 31, 11] l.length (fun q s9 s31 s11 wr => ∃ j : Nat, q + j = l.length ∧ s9 = .int .u64 (setN (l.take j) : Nat) ∧ s31 = .int .i64 j ∧ Hid (Below w.heap.size w wr))
    case atStart => exact ⟨0, by omega, rfl, rfl, HB⟩
    case round =>
      obtain ⟨j, hq, rfl, rfl, hb⟩ := hrel
      by_cases hlt : j < l.length
      · obtain ⟨a, ha⟩ : ∃ a, l[j]? = some a := ⟨_, List.getElem?_eq_getElem hlt⟩
        obtain ⟨bb, o, rfl, hbb, r1, r2⟩ := (HL.out.below hb.out).ent ha
        have hran := HD.out.2.1 a (List.mem_of_getElem? ha)
        have HS := Lib.hid (setN_take ha)
        have HB2 := Lib.hid (hb.out.alloc (by exact hb.out.size) (.cells #[.string a.1, .int .i64 a.2] 47))
        clear ha
        go_wp2_with fail
        refine (bit_calls a.2 _ (by omega)).mono ?_
        rintro e w3 ⟨rfl, rfl⟩
        go_wp2
        go_roundg (l.length - (j + 1))
        case measure => omega
        case rel => exact ⟨j + 1, by omega, by rw [HS.out, ← u64_or_nat _ _ (setN_lt _) (bitN_lt _)], by go_num, HB2⟩
      · obtain rfl : j = l.length := by omega
        rw [List.take_length]
        go_wp2_with fail
        go_loopg [12] 63 (fun q s12 wx => ∃ t : Nat, q + t = 64 ∧ 1 ≤ t ∧ t ≤ hm ∧ s12 = .int .i64 t ∧ wx = wr)
        case atStart => exact ⟨1, by omega, by omega, by omega, rfl, rfl⟩
        case round =>
          obtain ⟨t, hqt, ht1, ht2, rfl, rfl⟩ := hrel
          have hand : bits .and .u64 ((setN l : Nat) : Int) ((bitN (t : Int) : Nat) : Int) = ((setN l &&& bitN (t : Int) : Nat) : Int) := u64_and_nat _ _ (setN_lt _) (bitN_lt _)
          have hiff := setN_and l (t : Int) (by omega) (by omega)
          by_cases hth : t < hm
          · obtain ⟨z, hz⟩ : ∃ z, setN l &&& bitN (t : Int) = z := ⟨_, rfl⟩
            have hz0 : z ≠ 0 := by
              rw [← hz]; exact hiff.2 (HLe.out.2.2.2 t (by omega) (by omega))
            rw [hz] at hand
            have hz1 : ((z : Int) == 0) = false := by rw [beq_eq_false_iff_ne]; omega
            have hz2 : ((z : Int) != 0) = true := by simp [hz0]
            clear hiff hz
            go_wp2_with fail
            refine (bit_calls (t : Int) _ (by omega)).mono ?_
            rintro e w3 ⟨rfl, rfl⟩
            go_wp2
            go_roundg (64 - (t + 1))
            case measure => omega
            case rel => exact ⟨t + 1, by omega, by omega, by omega, by go_num, rfl⟩
          · obtain rfl : t = hm := by omega
            have hz : setN l &&& bitN (t : Int) = 0 := Classical.byContradiction fun hn => by
              obtain ⟨a, ha, he⟩ := hiff.1 hn
              exact HLe.out.2.2.1 a ha he
            rw [hz] at hand
            clear hiff hz
            go_wp2_with fail
            refine (bit_calls (t : Int) _ (by omega)).mono ?_
            rintro e w3 ⟨rfl, rfl⟩
            go_wp2_with fail
            refine (clone_Named _ A l.length cap (namesV l) (namesV_length l) (HL.out.below (hb.out.mono (Nat.le_refl _))) (namesV_one l) (by omega)).mono ?_
            rintro e w4 ⟨v, rfl, hown, _, hbc⟩
            have HO := Lib.hid (show (w4.alloc (.cells #[.string s, .int .i64 t] 47)).ownsRow w.heap.size 47 2 v l.length (namesV l) from (ownsRow_base hown hb.out.size).alloc _)
            have hvb : v.ownBlock ≠ some w4.heap.size := by
              rcases ownsRow_form hown with ⟨rfl, _⟩ | ⟨g, cp, rfl, _, hg2, _⟩
              · simp [Value.ownBlock]
              · simp [Value.ownBlock]; omega
            have HBk := Lib.hid (Blk.new w4 #[.string s, .int .i64 t] 47)
            have HB4 := Lib.hid ((bel_next hb.out hbc (Nat.le_refl _)).alloc (by have := hb.out.size; have := hbc.size; omega) (.cells #[.string s, .int .i64 t] 47))
            have hs4 : w.heap.size ≤ (w4.alloc (.cells #[.string s, .int .i64 t] 47)).heap.size := HB4.out.size
            clear hown hbc
            go_wp2_with fail
            refine (insert_own _ w.heap.size w4.heap.size i' 1 v l s t HO.out hil HBk.out hvb hs4 (by omega)).mono ?_
            rintro e w5 ⟨v', rfl, hown, hb5⟩
            have HO5 := Lib.hid hown
            have HB5 := Lib.hid (HB4.out.trans hb5)
            clear hown hb5
            go_wp2
            go_ret3
            refine ⟨_, rfl, ?_, HB5.out⟩
            rw [addL_length hil]
            exact HO5.out
end Go.Proofs.Ytanfjiccilibcaa
