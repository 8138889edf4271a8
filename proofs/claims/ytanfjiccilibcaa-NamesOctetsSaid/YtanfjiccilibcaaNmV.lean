/- The walks through the document's answers for names: Drop; made. -/
import Derived.Test.YtanfjiccilibcaaNmU
namespace Go.Proofs.Ytanfjiccilibcaa
open Go.RowKit
set_option linter.unusedVariables false

/-- What is kept. -/
def keepL (l : List Ent) (s : ByteArray) : List Ent := l.filter fun a => decide (a.1 ≠ s)
theorem keep_all {l : List Ent} {s : ByteArray} (h : ∀ a ∈ l, a.1 ≠ s) : keepL l s = l := by
  unfold keepL
  rw [List.filter_eq_self]
  intro a ha
  exact decide_eq_true (h a ha)
theorem keep_take {l : List Ent} {s : ByteArray} {j : Nat} {a : Ent} (h : l[j]? = some a) : keepL (l.take (j + 1)) s = if a.1 = s then keepL (l.take j) s else keepL (l.take j) s ++ [a] := by
  rw [take_snoc h]
  unfold keepL
  rw [List.filter_append]
  by_cases he : a.1 = s
  · simp [he]
  · simp [he]
theorem keep_del {l : List Ent} {s : ByteArray} {i : Nat} (hd : Asc l) (hp : PosR l s i) (hh : Has l s) : keepL l s = delL l i := by
  obtain ⟨a, ha, he⟩ := (has_at hd hp).1 hh
  have hil := (List.getElem?_eq_some_iff.1 ha).1
  have e : l = l.take i ++ a :: l.drop (i + 1) := by
    conv => lhs; rw [← List.take_append_drop i l, List.drop_eq_getElem_cons hil]
    rw [(List.getElem?_eq_some_iff.1 ha).2]
  have h1 : keepL (l.take i) s = l.take i := keep_all fun x hx => by
    obtain ⟨k, hk⟩ := List.mem_iff_getElem?.1 hx
    rw [List.getElem?_take] at hk
    split at hk
    · rw [← he]; exact lt_ne (hd.lt_at hk ha ‹_›)
    · cases hk
  have h2 : keepL (l.drop (i + 1)) s = l.drop (i + 1) := keep_all fun x hx => by
    obtain ⟨k, hk⟩ := List.mem_iff_getElem?.1 hx
    rw [List.getElem?_drop] at hk
    rw [← he]; exact (lt_ne (hd.lt_at ha hk (by omega))).symm
  have h3 : keepL l s = keepL (l.take i) s ++ keepL (l.drop (i + 1)) s := by
    conv => lhs; rw [e]
    unfold keepL
    rw [List.filter_append, List.filter_cons]
    simp [he]
  rw [h3, h1, h2]
  rfl
theorem keep_le (l : List Ent) (s : ByteArray) : (keepL l s).length ≤ l.length := List.length_filter_le _ _
set_option maxHeartbeats 4000000 in
theorem rdrop_calls (w : World) (A : Option Addr) (cap : Nat) (l m : List Ent) (s : ByteArray) (c : Int) (hL : RdAt w A l.length (namesV l)) (hd : Dir l) (hl : l.length ≤ 90000) (hF : DropF l s m c) :
    Calls Try.prog 13 #[.slice A l.length cap, .string s] w fun e w' => ∃ v, e = .returned (.tuple #[v, .int .i64 c]) ∧ w'.ownsRow w.heap.size 47 2 v m.length (namesV m) ∧ Below w.heap.size w w' := by
  obtain ⟨i0, hi, hz0, hz1, hz2⟩ := info_parts Try.info_Named
  have HL := Lib.hid hL
  have HD := Lib.hid hd
  clear hL hd
  rcases hF with ⟨hh, rfl, rfl⟩ | ⟨hh, rfl, i, hp, rfl⟩
  · go_enter Try.func13, Try.ntmps13
    go_wp2_with fail
    refine (rfind_calls _ A cap l s HL.out (by omega)).mono ?_
    rintro e w' ⟨h, rfl, hr, rfl⟩
    obtain rfl : h = 0 := by
      rcases hr with ⟨_, h0⟩ | ⟨a, ha, he, rfl⟩
      · exact h0
      · exact absurd ⟨a, ha, he⟩ hh
    go_wp2
    go_ret2
    exact ⟨_, rfl, World.ownsRow_nil _ _ _ _, Below.refl _ _⟩
  · have HKeep := Lib.hid (keep_del HD.out.1 hp hh)
    clear hp
    go_enter Try.func13, Try.ntmps13
    go_wp2_with fail
    refine (rfind_calls _ A cap l s HL.out (by omega)).mono ?_
    rintro e w' ⟨h, rfl, hr, rfl⟩
    have hh1 : (h == 0) = false := by
      rw [beq_eq_false_iff_ne]
      rcases hr with ⟨hn, _⟩ | ⟨a, ha, _, rfl⟩
      · exact absurd hh hn
      · have := (HD.out.2.1 a ha).2.2.1; omega
    clear hr hh
    go_wp2_with fail
    go_loopg [6, 7] l.length (fun q s6 s7 wr => ∃ (j k : Nat), q + j = l.length ∧ s7 = .int .i64 j ∧ Hid ((keepL (l.take j) s).length = k) ∧ k ≤ j ∧ Hid (wr.ownsRow w.heap.size 47 2 s6 k (namesV (keepL (l.take j) s))) ∧ Hid (Below w.heap.size w wr))
    case atStart => exact ⟨0, 0, by omega, rfl, Lib.hid rfl, by omega, Lib.hid (World.ownsRow_nil _ _ _ _), Lib.hid (Below.refl _ _)⟩
    case round =>
      obtain ⟨j, k, hq, rfl, hk, hkj, ho, hb⟩ := hrel
      by_cases hlt : j < l.length
      · obtain ⟨a, ha⟩ : ∃ a, l[j]? = some a := ⟨_, List.getElem?_eq_getElem hlt⟩
        obtain ⟨bb, o, rfl, hbb, r1, r2⟩ := (HL.out.below (hb.out.mono (Nat.le_refl _))).ent ha
        have heq := ba_beq a.1 s
        have HT := Lib.hid (keep_take (s := s) ha)
        clear ha
        by_cases he : a.1 = s
        · rw [decide_eq_true he] at heq
          have heq' : a.1.toList = s.toList := by rw [he]
          have HT2 := Lib.hid (HT.out.trans (if_pos he))
          clear he
          go_wp2
          go_roundg (l.length - (j + 1))
          case measure => omega
          case rel => exact ⟨j + 1, k, by omega, by go_num, Lib.hid (by rw [HT2.out]; exact hk.out), by omega, Lib.hid (by rw [HT2.out]; exact ho.out), hb⟩
        · rw [decide_eq_false he] at heq
          have heq' : ¬ a.1.toList = s.toList := fun h => he (ba_ext h)
          have HT2 := Lib.hid (HT.out.trans (if_neg he))
          clear he
          go_wp2_with (at_builtin; refine wpList_append_new rfl (.tmp 25) (.tmp 30) 23 rfl w.heap.size 47 i0 _ 2 24 Try.underlying23 hi hz0 hz1 hz2 rfl (by decide) _ k 1 _ rfl ho.out rfl rfl (two_one13 _ _) (by omega) (by unfold maxLen; omega) hb.out.size ?_; intro v2 w4 hown2 hgr2 hnew2; have HO2 := Lib.hid hown2; have HB4 := Lib.hid (app_own hb.out ho.out hgr2); clear hown2 hgr2 hnew2)
          go_roundg (l.length - (j + 1))
          case measure => omega
          case rel => exact ⟨j + 1, k + 1, by omega, by go_num, Lib.hid (by rw [HT2.out, List.length_append, hk.out]; rfl), by omega, Lib.hid (by rw [HT2.out, ← namesV_snoc]; exact HO2.out), HB4⟩
      · obtain rfl : j = l.length := by omega
        go_wp2
        go_ret2
        refine ⟨_, rfl, ?_, hb.out⟩
        have h1 := ho.out
        have h2 := hk.out
        rw [List.take_length, HKeep.out] at h1 h2
        rw [h2]
        exact h1
/-- What a walk is told of the strings. -/
def StrsAt (w : World) (v : Value) (q : Option Addr × Nat × Nat) : Prop :=
  v = .slice q.1 q.2.1 q.2.2 ∧ q.2.1 ≤ 9223372036854775807 ∧ (q.2.1 = 0 ∨ ∃ b o, q.1 = some ⟨b, o, none⟩ ∧ b < w.heap.size ∧ ∀ i, i < q.2.1 → ∃ s, w.cell? ⟨b, o + i, none⟩ = some (.string s))
set_option maxHeartbeats 4000000 in
theorem made_calls (w : World) (a : Option Addr) (len cap : Nat) (hS : StrsAt w (.slice a len cap) (a, len, cap)) :
    Calls Try.prog 11 #[.slice a len cap] w fun e w' => ∃ v l, e = .returned v ∧ Dir l ∧ l.length ≤ 30 ∧ w'.ownsRow w.heap.size 47 2 v l.length (namesV l) ∧ Below w.heap.size w w' := by
  obtain ⟨_, hlen, hs⟩ := hS
  have hlen : len ≤ 9223372036854775807 := hlen
  have HS := Lib.hid hs
  clear hs
  go_enter Try.func11, Try.ntmps11
  go_wp2_with fail
  go_loopg [3, 4, 5, 6, 7] 30 (fun q s3 s4 s5 s6 s7 wr => ∃ (i : Nat) (l : List Ent), q + i = 30 ∧ s4 = .int .i64 i ∧ l.length ≤ i ∧ Hid (Dir l) ∧ Hid (wr.ownsRow w.heap.size 47 2 s3 l.length (namesV l)) ∧ Hid (Below w.heap.size w wr))
  case atStart => exact ⟨0, [], by omega, rfl, by simp, Lib.hid Dir.nil, Lib.hid (World.ownsRow_nil _ _ _ _), Lib.hid (Below.refl _ _)⟩
  case round =>
    obtain ⟨i, l, hq, rfl, hli, hd, ho, hb⟩ := hrel
    by_cases h1 : i < len
    · by_cases h2 : i < 30
      · obtain ⟨b, o, hae, hbl, hc⟩ := (HS.out).resolve_left (by show ¬ len = 0; omega)
        have hae : a = some ⟨b, o, none⟩ := hae
        subst hae
        obtain ⟨s, hs⟩ := hc i h1
        have hs2 := (hb.out.cell (p := ⟨b, o + i, none⟩) hbl).trans hs
        obtain ⟨m, h, c, hF⟩ := addF_ex hd.out s
        have HF := Lib.hid hF
        have hml := hF.len
        clear hs hc hF
        go_wp2_with fail
        refine (radd_calls _ w.heap.size _ l m s h c ho.out hd.out (by omega) HF.out).mono ?_
        rintro e w3 ⟨v', rfl, hown, hb3⟩
        have HB3 := Lib.hid (bel_next hb.out hb3 (Nat.le_refl _))
        have HO3 := Lib.hid (ownsRow_base hown hb.out.size)
        have HOl := Lib.hid (ownsRow_below ho.out hb3)
        clear hown hb3
        by_cases hc0 : c = 0
        · subst hc0
          go_wp2
          go_roundg (30 - (i + 1))
          case measure => omega
          case rel => exact ⟨i + 1, m, by omega, by go_num, by omega, Lib.hid (HF.out.dir hd.out), HO3, HB3⟩
        · have hc1 : (c == 0) = false := by rw [beq_eq_false_iff_ne]; exact hc0
          go_wp2
          go_roundg (30 - (i + 1))
          case measure => omega
          case rel => exact ⟨i + 1, l, by omega, by go_num, by omega, hd, HOl, HB3⟩
      · go_wp2
        go_ret
        exact ⟨_, l, rfl, hd.out, by omega, ho.out, hb.out⟩
    · go_wp2
      go_ret
      exact ⟨_, l, rfl, hd.out, by omega, ho.out, hb.out⟩
end Go.Proofs.Ytanfjiccilibcaa
