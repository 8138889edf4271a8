/- The walks of runs.Claim and runs.Free, and what Take, Claim and Give do to the free pages. -/
import Derived.Test.YtadbbknllakpcaaGreatRnQ
namespace Go.Proofs.YtadbbknllakpcaaGreat.rn
open Go.RowKit
set_option linter.unusedVariables false

/-- What Claim answers. -/
def ClaimR (w : World) (L g : Nat) (l : List (Nat × Nat)) (x n : Int) (e : Ending) (w' : World) : Prop :=
  (thereB x n = false ∧ e = .returned (.int .i64 2) ∧ w = w') ∨
  ∃ x' n' : Nat, x = x' ∧ n = n' ∧ thereB x n = true ∧
    ((e = .returned (.int .i64 2) ∧ Below w.heap.size w w' ∧ ∀ (k : Nat) (p : Nat × Nat), l[k]? = some p → p.1 ≤ x' → p.1 + p.2 < x' + n') ∨
     ∃ (b : Nat) (p : Nat × Nat), e = .returned (.int .i64 0) ∧ l[b]? = some p ∧ p.1 ≤ x' ∧ x' + n' ≤ p.1 + p.2 ∧ LandR w L g (l.take b ++ leftR p x' n' ++ l.drop (b + 1)) w')
set_option maxRecDepth 8000 in
set_option maxHeartbeats 4000000 in
theorem claim16_calls (w : World) (L g cap : Nat) (l : List (Nat × Nat)) (x n : Int) (hL : LandAt w L g cap l) (hc : Canon l) (hx : -9223372036854775808 ≤ x ∧ x ≤ 9223372036854775807) (hn : -9223372036854775808 ≤ n ∧ n ≤ 9223372036854775807) :
    Calls Tryz.prog 19 #[.pointer (some ⟨L, 0, none⟩), .int .i64 x, .int .i64 n] w (ClaimR w L g l x n) := by
  have hl := hc.len
  have HL := Lib.hid hL
  have HC := Lib.hid hc
  have hll := hL.lt
  clear hL hc
  cases hth : thereB x n
  · have HT := Lib.hid hth
    go_enter Tryz.func19, Tryz.ntmps19
    go_wp2_with fail
    refine (there_calls x n _ hx hn).mono ?_
    rintro e w1 ⟨rfl, rfl⟩
    rw [HT.out]
    go_wp2
    go_ret
    exact .inl ⟨HT.out, rfl, rfl⟩
  have hth2 : 1 ≤ n ∧ 1 ≤ x ∧ n < 4096 ∧ x ≤ 4096 - n := of_decide_eq_true hth
  have HT := Lib.hid hth
  obtain ⟨x', rfl⟩ : ∃ x' : Nat, x = x' := ⟨x.toNat, by omega⟩
  obtain ⟨n', rfl⟩ : ∃ n' : Nat, n = n' := ⟨n.toNat, by omega⟩
  clear hth hx hn
  go_enter Tryz.func19, Tryz.ntmps19
  go_wp2_with fail
  refine (there_calls x' n' _ (by omega) (by omega)).mono ?_
  rintro e w1 ⟨rfl, rfl⟩
  rw [HT.out]
  go_wp2_with fail
  refine (behind_calls _ L g cap l ((x' : Int) + 1) HL.out HC.out (by omega) (by omega)).mono ?_
  rintro e w2 ⟨i, rfl, hbeh, hb⟩
  have HB2 := Lib.hid hb
  have HL2 := Lib.hid (HL.out.below hb)
  have HBe := Lib.hid hbeh
  have hil := hbeh.1
  have c0 := HL2.out.head
  clear hb hbeh
  by_cases hi0 : i = 0
  · subst hi0
    go_wp2_with fail
    go_quiet (fail)
    go_wp2
    go_ret
    refine .inr ⟨x', n', rfl, rfl, HT.out, .inl ⟨rfl, bel_dn HB2.out _, fun k p hk hp => ?_⟩⟩
    have := (HBe.out.2 k p hk).2 (by omega)
    omega
  · obtain ⟨p, hp⟩ : ∃ p, l[i - 1]? = some p := ⟨_, List.getElem?_eq_getElem (by omega)⟩
    obtain ⟨r1, r2⟩ := HL2.out.row hp
    have hpb := HC.out.mem hp
    have hi1 : (i : Int) - 1 = ((i - 1 : Nat) : Int) := by omega
    have hi2 : i - 1 < l.length := by omega
    have hi3 : ((i : Int) == 0) = false := by rw [beq_eq_false_iff_ne]; omega
    have HP := Lib.hid hp
    clear hp
    have hmax : ∀ (k : Nat) (q : Nat × Nat), l[k]? = some q → q.1 ≤ x' → q.1 + q.2 ≤ p.1 + p.2 := fun k q hk hq => by
      have hk2 := (HBe.out.2 k q hk).2 (by omega)
      by_cases e : k = i - 1
      · subst e; cases hk.symm.trans HP.out; omega
      · have := HC.out.lt hk HP.out (by omega)
        omega
    have HM := Lib.hid hmax
    clear hmax
    by_cases hlt : p.1 + p.2 < x' + n'
    · go_wp2_with fail
      go_quiet (fail)
      go_wp2
      go_ret
      exact .inr ⟨x', n', rfl, rfl, HT.out, .inl ⟨rfl, bel_dn HB2.out _, fun k q hk hq => by have := HM.out k q hk hq; omega⟩⟩
    · have hpx : (p.1 : Int) < (x' : Int) + 1 := (HBe.out.2 _ p HP.out).1 (by omega)
      obtain ⟨hsp, hspl⟩ := split_at HP.out
      have hlen : (l.take (i - 1) ++ p :: l.drop (i - 1 + 1)).length ≤ 100000 := by rw [← hsp]; omega
      have HSp := Lib.hid hsp
      have HSpl := Lib.hid hspl
      have HLen := Lib.hid hlen
      clear hsp hspl hlen
      go_wp2_with fail
      go_quiet (fail)
      have HLs := Lib.hid (show LandAt (w2.drewN nq) L g cap (l.take (i - 1) ++ p :: l.drop (i - 1 + 1)) by rw [← HSp.out]; exact HL2.out.drewN _)
      go_wp2_with fail
      have hcut := cut_calls (w2.drewN nq) L g cap (l.take (i - 1)) (l.drop (i - 1 + 1)) p x' n' HLs.out (by omega) (by omega) hpb.2.2 HLen.out
      rw [HSpl.out] at hcut
      refine hcut.mono ?_
      rintro e w' ⟨rfl, hr⟩
      have HR := Lib.hid (hr.pre (bel_dn HB2.out nq))
      clear hr hcut
      go_wp2
      go_ret
      exact .inr ⟨x', n', rfl, rfl, HT.out, .inr ⟨i - 1, p, rfl, HP.out, by omega, by omega, HR.out⟩⟩
theorem frN_take_succ {l : List (Nat × Nat)} {j : Nat} {a : Nat × Nat} (h : l[j]? = some a) : frN (l.take (j + 1)) = frN (l.take j) + a.2 := by
  rw [List.take_add_one, h, frN_append]
  simp [frN]
/-- Pages beside each other that are free lie in one row. -/
theorem Canon.wide {l : List (Nat × Nat)} (h : Canon l) {x n : Nat} (hn : 1 ≤ n) (hf : ∀ j, x ≤ j → j < x + n → Fr l j) : ∃ (b : Nat) (p : Nat × Nat), l[b]? = some p ∧ p.1 ≤ x ∧ x + n ≤ p.1 + p.2 := by
  obtain ⟨b, p, hp, h1, h2⟩ := (Fr_at l x).1 (hf x (by omega) (by omega))
  refine ⟨b, p, hp, h1, Classical.byContradiction fun h3 => ?_⟩
  obtain ⟨b2, q, hq, g1, g2⟩ := (Fr_at l (p.1 + p.2)).1 (hf _ (by omega) (by omega))
  rcases Nat.lt_trichotomy b b2 with e | e | e
  · have := h.lt hp hq e; omega
  · subst e; cases hp.symm.trans hq; omega
  · have := h.lt hq hp e; omega
theorem leftR_frN {p : Nat × Nat} {x n : Nat} (h1 : p.1 ≤ x) (h2 : x + n ≤ p.1 + p.2) : frN (leftR p x n) + n = p.2 := by
  unfold leftR
  rw [frN_append]
  split <;> split <;> simp [frN] <;> omega
theorem cut_plain {l : List (Nat × Nat)} {b x n : Nat} {p : Nat × Nat} (hc : Canon l) (hp : l[b]? = some p) (h1 : p.1 ≤ x) (h2 : x + n ≤ p.1 + p.2) (hn : 1 ≤ n) :
    Canon (l.take b ++ leftR p x n ++ l.drop (b + 1)) ∧ (∀ j, Fr (l.take b ++ leftR p x n ++ l.drop (b + 1)) j ↔ Fr l j ∧ ¬ (x ≤ j ∧ j < x + n)) ∧ frN (l.take b ++ leftR p x n ++ l.drop (b + 1)) + n = frN l ∧ ∀ j, x ≤ j → j < x + n → Fr l j := by
  obtain ⟨hsp, _⟩ := split_at hp
  have hc2 := hc
  rw [hsp] at hc2
  refine ⟨cut_canon hc2 h1 h2 hn, fun j => ?_, ?_, fun j g1 g2 => (Fr_at l j).2 ⟨b, p, hp, by omega, by omega⟩⟩
  · have := cut_fr hc2 h1 h2 j
    rw [← hsp] at this
    exact this
  · have h3 := leftR_frN h1 h2
    have h4 : frN l = frN (l.take b) + (p.2 + frN (l.drop (b + 1))) := by rw [← frN_cons, ← frN_append, ← hsp]
    rw [frN_append, frN_append, h4]
    omega
theorem claim_ok {w w' : World} {L g : Nat} {l : List (Nat × Nat)} {x n : Nat} {e : Ending} (hc : Canon l) (h : ClaimR w L g l x n e w') (ht : thereB x n = true) (hf : ∀ j, x ≤ j → j < x + n → Fr l j) :
    e = .returned (.int .i64 0) ∧ ∃ m, Canon m ∧ (∀ j, Fr m j ↔ Fr l j ∧ ¬ (x ≤ j ∧ j < x + n)) ∧ frN m + n = frN l ∧ LandR w L g m w' := by
  have ht2 : 1 ≤ (n : Int) ∧ 1 ≤ (x : Int) ∧ (n : Int) < 4096 ∧ (x : Int) ≤ 4096 - n := of_decide_eq_true ht
  rcases h with ⟨h, _⟩ | ⟨x', n', hx, hn, _, h⟩
  · rw [ht] at h; cases h
  · obtain rfl : x = x' := by omega
    obtain rfl : n = n' := by omega
    rcases h with ⟨_, _, h⟩ | ⟨b, p, he, hp, h1, h2, hl⟩
    · exfalso
      obtain ⟨b, p, hp, h1, h2⟩ := hc.wide (by omega) hf
      have := h b p hp h1
      omega
    · obtain ⟨g1, g2, g3, _⟩ := cut_plain hc hp h1 h2 (by omega)
      exact ⟨he, _, g1, g2, g3, hl⟩
theorem claim_no {w w' : World} {L g : Nat} {l : List (Nat × Nat)} {x n j : Nat} {e : Ending} (hc : Canon l) (h : ClaimR w L g l x n e w') (h1 : x ≤ j) (h2 : j < x + n) (hj : ¬ Fr l j) :
    e = .returned (.int .i64 2) ∧ Below w.heap.size w w' := by
  rcases h with ⟨_, he, rfl⟩ | ⟨x', n', hx, hn, ht, h⟩
  · exact ⟨he, Below.refl _ _⟩
  · obtain rfl : x = x' := by omega
    obtain rfl : n = n' := by omega
    rcases h with ⟨he, hb, _⟩ | ⟨b, p, he, hp, g1, g2, hl⟩
    · exact ⟨he, hb⟩
    · exact absurd ((Fr_at l j).2 ⟨b, p, hp, by omega, by omega⟩) hj
theorem take_plain {w w' : World} {L g : Nat} {l : List (Nat × Nat)} {n : Nat} {e : Ending} (hc : Canon l) (hn : 1 ≤ n) (h : TakeR w L g l n e w') :
    (e = .returned (.tuple #[.int .i64 0, .int .i64 16]) ∧ Below w.heap.size w w') ∨
    ∃ (x : Nat) (m : List (Nat × Nat)), e = .returned (.tuple #[.int .i64 x, .int .i64 0]) ∧ 1 ≤ x ∧ x + n ≤ 4096 ∧ (∀ j, x ≤ j → j < x + n → Fr l j) ∧ Canon m ∧ (∀ j, Fr m j ↔ Fr l j ∧ ¬ (x ≤ j ∧ j < x + n)) ∧ frN m + n = frN l ∧ LandR w L g m w' := by
  rcases h with ⟨h, _⟩ | ⟨_, _, he, hb⟩ | ⟨b, p, _, hb, he, hl⟩
  · omega
  · exact .inl ⟨he, hb⟩
  · rw [Int.toNat_natCast] at hl
    have hpn := hb.2.2.1
    have hpm := hc.mem hb.2.1
    obtain ⟨g1, g2, g3, g4⟩ := cut_plain hc hb.2.1 (Nat.le_refl _) (show p.1 + n ≤ p.1 + p.2 by omega) hn
    exact .inr ⟨p.1, _, he, hpm.1, by omega, g4, g1, g2, g3, hl⟩
theorem fr_one (j : Nat) : Fr [(1, 4095)] j ↔ 1 ≤ j ∧ j < 4096 := by
  rw [Fr_cons]
  constructor
  · rintro (h | ⟨q, hq, _⟩)
    · simp only at h; omega
    · cases hq
  · intro h
    exact .inl (by simp only; omega)
end Go.Proofs.YtadbbknllakpcaaGreat.rn
