/- The walks through package pack: what is read, with the type of the row that it stands in. -/
import Derived.Test.YtanfjiccilibcaaPackW
namespace Go.Proofs.Ytanfjiccilibcaa
open Go.RowKit
set_option linter.unusedVariables false

/-- Octets as they are read out of a block. -/
def Bx (w : World) (R : Nat) (A : Option Addr) (len cap : Nat) (zs : List Int) : Prop :=
  zs.length = len ∧ (∀ b ∈ zs, 0 ≤ b ∧ b ≤ 255) ∧ len ≤ cap ∧ cap ≤ 9223372036854775807 ∧ ((A = none ∧ cap = 0) ∨ ∃ g o, A = some ⟨g, o, none⟩ ∧ g ≠ R ∧ g < w.heap.size ∧ (∃ cs fr, w.heap[g]? = some (.cells cs 5 fr)) ∧ ∀ i, i < len → w.cell? ⟨g, o + i, none⟩ = some (.int .u8 (zs[i]?.getD 0)))
theorem Bx.only {w w' : World} {R len cap : Nat} {A : Option Addr} {zs : List Int} (h : Bx w R A len cap zs) (o : Only (· = R) w w') : Bx w' R A len cap zs := by
  obtain ⟨h1, h2, h3, h4, h5⟩ := h
  refine ⟨h1, h2, h3, h4, h5.imp id ?_⟩
  rintro ⟨g, of, rfl, hg, hl, ⟨cs, fr, hty⟩, hc⟩
  exact ⟨g, of, rfl, hg, Nat.lt_of_lt_of_le hl o.size, ⟨cs, fr, (o.block g hl hg).trans hty⟩, fun i hi => (World.cell?_of_block (o.block g hl hg)).trans (hc i hi)⟩
theorem Bx.below {w w' : World} {R len cap : Nat} {A : Option Addr} {zs : List Int} (h : Bx w R A len cap zs) (o : Below w.heap.size w w') : Bx w' R A len cap zs := h.only (Only.of_below o)
theorem Bx.octs {w : World} {R len cap : Nat} {A : Option Addr} {zs : List Int} (h : Bx w R A len cap zs) : oc.Octs w A len cap zs := by
  obtain ⟨h1, h2, h3, h4, h5⟩ := h
  refine ⟨h1, h2, h3, by unfold maxLen; omega, ?_⟩
  rcases h5 with ⟨rfl, rfl⟩ | ⟨g, o, rfl, _, _, _, hc⟩
  · exact .inl (by omega)
  · exact .inr ⟨g, o, rfl, hc⟩
/-- What is being read: none: it failed. -/
def RSt (w : World) (R : Nat) (st : Option (List Int)) : Prop :=
  ∃ A len cap, Blk w R [.slice A len cap, .bool st.isNone] 81 ∧ Bx w R A len cap (st.getD [])
theorem RSt.below {w w' : World} {R : Nat} {st : Option (List Int)} (h : RSt w R st) (o : Below w.heap.size w w') : RSt w' R st := by
  obtain ⟨A, len, cap, h1, h2⟩ := h
  exact ⟨A, len, cap, h1.below o, h2.below o⟩
/-- What taking n octets off gives, and what is left. -/
def tkL (st : Option (List Int)) (n : Nat) : List Int × Option (List Int) :=
  match st with
  | none => ([], none)
  | some zs => if n ≤ zs.length then (zs.take n, some (zs.drop n)) else ([], none)
theorem tkL_len (st : Option (List Int)) (n : Nat) : (tkL st n).1.length ≤ n := by
  unfold tkL
  split
  · simp
  · split
    · simp; omega
    · simp
set_option maxHeartbeats 1000000 in
theorem read_calls (w : World) (A : Option Addr) (cap : Nat) (zs : List Int) (hr : RdAt w A zs.length (octV zs)) (hz : ∀ b ∈ zs, 0 ≤ b ∧ b ≤ 255) (hl : zs.length ≤ 100000) :
    Calls Try.prog 35 #[.slice A zs.length cap] w fun e w' => ∃ R, e = .returned (.pointer (some ⟨R, 0, none⟩)) ∧ w.heap.size ≤ R ∧ RSt w' R (some zs) ∧ Below w.heap.size w w' := by
  have HR := Lib.hid hr
  clear hr
  go_enter Try.func35, Try.ntmps35
  go_wp2_with fail
  refine (clone_U8 _ A zs.length cap (octV zs) (by simp [octV]) HR.out (octV_one _) (by omega)).mono ?_
  rintro e w5 ⟨v, rfl, hown, _, hb⟩
  obtain ⟨A1, c1, rfl⟩ := ownsRow_slice hown
  have HO := Lib.hid hown
  have HB := Lib.hid hb
  clear hown hb
  go_wp2
  go_ret
  refine ⟨w5.heap.size, rfl, HB.out.size, ⟨A1, zs.length, c1, by simpa using Blk.new w5 _ _, rfl, hz, ?_⟩, HB.out.alloc HB.out.size _⟩
  have ho := HO.out
  rcases ownsRow_form ho with ⟨h1, h2⟩ | ⟨g, cp, h1, _, hg, h3, h4⟩
  · simp only [Value.slice.injEq] at h1
    obtain ⟨rfl, _, rfl⟩ := h1
    refine ⟨by show zs.length ≤ 0; omega, by omega, .inl ⟨rfl, rfl⟩⟩
  · simp only [Value.slice.injEq] at h1
    obtain ⟨rfl, _, rfl⟩ := h1
    refine ⟨h3, by unfold maxLen at h4; exact h4, .inr ⟨g, 0, rfl, by omega, by simp; omega, ?_, fun i hi => ?_⟩⟩
    · rcases (ho.alloc (.cells #[.slice (some ⟨g, 0, none⟩) zs.length c1, .bool false] 81)).2 with ⟨h6, _⟩ | ⟨g', cap', cur, h6, _, hh, _⟩
      · cases h6
      · cases h6
        exact ⟨_, _, hh⟩
    have h5 : i < zs.length := hi
    have h6 := (ho.alloc (.cells #[.slice (some ⟨g, 0, none⟩) zs.length c1, .bool false] 81)).cellAt i (by omega)
    rw [Nat.zero_add]
    refine h6.trans ?_
    simp [octV, h5]
theorem width_calls (m : Nat) (hm : m ≤ 8) (w : World) : Calls Try.prog 48 #[.int .i64 m] w fun e w' => e = .returned (.int .i64 m) ∧ w = w' := by
  go_enter Try.func48, Try.ntmps48
  go_wp2
  all_goals go_ret
  all_goals exact ⟨ret_eq (by first | omega | (simp; omega)), rfl⟩
theorem RSt.failed {w : World} {R : Nat} {st : Option (List Int)} (h : RSt w R st) : RSt ((w.setCell ⟨R, 0, none⟩ (.slice none 0 0)).setCell ⟨R, 1, none⟩ (.bool true)) R none := by
  obtain ⟨A, len, cap, h1, h2⟩ := h
  refine ⟨none, 0, 0, ?_, rfl, (fun b hb => by cases hb), by omega, by omega, .inl ⟨rfl, rfl⟩⟩
  have := (h1.set 0 (.slice none 0 0)).set 1 (.bool true)
  simpa using this
theorem RSt.next {w : World} {R n len cap g o : Nat} {zs : List Int} {B : Option Addr} (h1 : Blk w R [.slice (some ⟨g, o, none⟩) len cap, .bool false] 81) (h2 : Bx w R (some ⟨g, o, none⟩) len cap zs) (hn : n ≤ len) (hB : B = some ⟨g, o + n, none⟩ ∨ (n = cap ∧ ∃ o', B = some ⟨g, o', none⟩)) :
    RSt (w.setCell ⟨R, 0, none⟩ (.slice B (len - n) (cap - n))) R (some (zs.drop n)) := by
  obtain ⟨b1, b2, b3, b4, b5⟩ := h2
  refine ⟨B, len - n, cap - n, ?_, ?_⟩
  · have := h1.set 0 (.slice B (len - n) (cap - n))
    simpa using this
  · refine Bx.only (w := w) ⟨by simp; omega, fun b hb => b2 b (List.mem_of_mem_drop hb), by omega, by omega, .inr ?_⟩ (Only.set (S := (· = R)) (Only.refl _ w) (p := ⟨R, 0, none⟩) (fun _ => rfl) _)
    obtain ⟨g', o', he, hg, hl, hty, hc⟩ := b5.resolve_left (fun h => by cases h.1)
    cases he
    rcases hB with rfl | ⟨rfl, o', rfl⟩
    · refine ⟨g, o + n, rfl, hg, hl, hty, fun i hi => ?_⟩
      rw [show o + n + i = o + (n + i) by omega, hc (n + i) (by omega)]
      simp
    · exact ⟨g, o', rfl, hg, hl, hty, fun i hi => by omega⟩
theorem Bx.take {w : World} {R n len cap : Nat} {A : Option Addr} {zs : List Int} (h : Bx w R A len cap zs) (hn : n ≤ len) : Bx w R A n cap (zs.take n) := by
  obtain ⟨b1, b2, b3, b4, b5⟩ := h
  refine ⟨by simp; omega, fun b hb => b2 b (List.mem_of_mem_take hb), by omega, b4, b5.imp id ?_⟩
  rintro ⟨g, o, rfl, hg, hl, hty, hc⟩
  refine ⟨g, o, rfl, hg, hl, hty, fun i hi => ?_⟩
  rw [hc i (by omega)]
  simp [hi]
theorem ptake_calls (w : World) (R n : Nat) (st : Option (List Int)) (h : RSt w R st) (hn : n ≤ 100000) :
    Calls Try.prog 47 #[.pointer (some ⟨R, 0, none⟩), .int .i64 n] w fun e w' => ∃ A' len' cap', e = .returned (.slice A' len' cap') ∧ oc.Octs w' A' len' cap' (tkL st n).1 ∧ RSt w' R (tkL st n).2 ∧ Only (· = R) w w' := by
  have HS := Lib.hid h
  obtain ⟨A, len, cap, h1, h2⟩ := h
  have c0 : w.cell? ⟨R, 0, none⟩ = some (.slice A len cap) := h1.cell 0
  have c1 : w.cell? ⟨R, 1, none⟩ = some (.bool st.isNone) := h1.cell 1
  have z0 := h1.free 0
  have z1 := h1.free 1
  have hlc := h2.2.2.1
  have hcm := h2.2.2.2.1
  have HF := Lib.hid HS.out.failed
  have HOn : Hid (Only (· = R) w ((w.setCell ⟨R, 0, none⟩ (.slice none 0 0)).setCell ⟨R, 1, none⟩ (.bool true))) := Lib.hid ((Only.set (S := (· = R)) (Only.refl _ w) (p := ⟨R, 0, none⟩) (fun _ => rfl) _).set (p := ⟨R, 1, none⟩) (fun _ => rfl) _)
  have oz : ∀ w', oc.Octs w' none 0 0 [] := fun w' => ⟨rfl, (fun b hb => by cases hb), by omega, by unfold maxLen; omega, .inl rfl⟩
  have HBk := Lib.hid h1
  have HBx := Lib.hid h2
  clear h1 h2
  cases st with
  | none =>
    clear HBk HBx
    go_enter Try.func47, Try.ntmps47
    go_wp2
    go_ret
    exact ⟨_, _, _, rfl, oz _, HF.out, HOn.out⟩
  | some zs =>
    have hzl : zs.length = len := HBx.out.1
    by_cases hnl : n ≤ len
    · have ht : tkL (some zs) n = (zs.take n, some (zs.drop n)) := if_pos (by omega)
      rw [ht]
      rcases HBx.out.2.2.2.2 with ⟨rfl, rfl⟩ | ⟨g, o, rfl, hgR, _, _⟩
      · obtain rfl : n = 0 := by omega
        obtain rfl : len = 0 := by omega
        have hz0 : zs = [] := List.eq_nil_of_length_eq_zero hzl
        subst hz0
        have HN : Hid (RSt (w.setCell ⟨R, 0, none⟩ (.slice none 0 0)) R (some [])) := Lib.hid ⟨none, 0, 0, by simpa using HBk.out.set 0 (.slice none 0 0), rfl, (fun b hb => by cases hb), by omega, by omega, .inl ⟨rfl, rfl⟩⟩
        clear HBk HBx HF HOn HS
        go_enter Try.func47, Try.ntmps47
        go_wp2
        go_ret
        exact ⟨_, _, _, rfl, oz _, HN.out, Only.set (S := (· = R)) (Only.refl _ w) (p := ⟨R, 0, none⟩) (fun _ => rfl) _⟩
      · obtain ⟨Ad, hAd, hAd2⟩ : ∃ Ad : Option Addr, (if cap = n then some (⟨g, o, none⟩ : Addr) else some ⟨g, o + n, none⟩) = Ad ∧ (Ad = some ⟨g, o + n, none⟩ ∨ (n = cap ∧ ∃ o', Ad = some ⟨g, o', none⟩)) := by
          by_cases hc : cap = n
          · exact ⟨_, if_pos hc, .inr ⟨hc.symm, _, rfl⟩⟩
          · exact ⟨_, if_neg hc, .inl rfl⟩
        have HN := Lib.hid (RSt.next HBk.out HBx.out hnl hAd2)
        have HT := Lib.hid (HBx.out.take hnl)
        have hnc : n ≤ cap := by omega
        clear HBk HBx HF HOn HS hAd2
        go_enter Try.func47, Try.ntmps47
        go_wp2
        go_ret
        have hOn : Only (· = R) w (w.setCell ⟨R, 0, none⟩ (.slice Ad (len - n) (cap - n))) := Only.set (S := (· = R)) (Only.refl _ w) (p := ⟨R, 0, none⟩) (fun _ => rfl) _
        exact ⟨_, _, _, rfl, (HT.out.only hOn).octs, HN.out, hOn⟩
    · have ht : tkL (some zs) n = ([], none) := if_neg (by omega)
      rw [ht]
      have hnl2 : (len : Int) < (n : Int) := by omega
      clear HBk HBx
      go_enter Try.func47, Try.ntmps47
      go_wp2
      go_ret
      exact ⟨_, _, _, rfl, oz _, HF.out, HOn.out⟩
set_option maxHeartbeats 1000000 in
theorem rnum_calls (w : World) (R m : Nat) (st : Option (List Int)) (h : RSt w R st) (hm : m ≤ 8) :
    Calls Try.prog 36 #[.pointer (some ⟨R, 0, none⟩), .int .i64 m] w fun e w' => e = .returned (.int .i64 (wrap64 (oc.oct (tkL st m).1))) ∧ RSt w' R (tkL st m).2 ∧ Only (· = R) w w' := by
  have HS := Lib.hid h
  clear h
  go_enter Try.func36, Try.ntmps36
  go_wp2_with fail
  refine (width_calls m hm _).mono ?_
  rintro e w2 ⟨rfl, rfl⟩
  go_wp2_with fail
  refine (ptake_calls _ R m st HS.out (by omega)).mono ?_
  rintro e w3 ⟨A, len, cap, rfl, ho, hs, hon⟩
  have HO := Lib.hid ho
  have HS3 := Lib.hid hs
  have HOn := Lib.hid hon
  clear ho hs hon
  go_wp2_with fail
  refine (oc.get_calls _ _ _ _ _ HO.out).mono ?_
  rintro e w4 ⟨rfl, rfl⟩
  go_wp2
  go_ret
  refine ⟨ret_eq ?_, HS3.out, HOn.out⟩
  rw [List.take_of_length_le (by have := tkL_len st m; omega)]
theorem left_calls (w : World) (R : Nat) (st : Option (List Int)) (h : RSt w R st) :
    Calls Try.prog 38 #[.pointer (some ⟨R, 0, none⟩)] w fun e w' => e = .returned (.int .i64 ((st.getD []).length : Nat)) ∧ w = w' := by
  obtain ⟨A, len, cap, h1, h2⟩ := h
  have c0 : w.cell? ⟨R, 0, none⟩ = some (.slice A len cap) := h1.cell 0
  have hl : (st.getD []).length = len := h2.1
  rw [hl]
  clear h1 h2 hl
  go_enter Try.func38, Try.ntmps38
  go_wp2
  go_ret
  exact ⟨rfl, rfl⟩
theorem RSt.grown {w w' : World} {R B n size : Nat} {e : TypeId} {v : Value} {xs : List Value} {st : Option (List Int)} (h : RSt w R st) (hown : w.ownsRow B e size v n xs) (he : 81 ≠ e) (he2 : 5 ≠ e) (hg : w.grownBy w' v.ownBlock) : RSt w' R st := by
  obtain ⟨A, len, cap, h1, h2, h3, h4, h5, h6⟩ := h
  have hR := own_apart hown h1 he
  refine ⟨A, len, cap, h1.of_heap (hg.block R h1.lt (fun h => hR h.symm)), h2, h3, h4, h5, h6.imp id ?_⟩
  rintro ⟨g, o, rfl, k1, k2, ⟨cs, fr, k3⟩, k4⟩
  have hgo : v.ownBlock ≠ some g := by
    intro ho
    rcases hown.2 with ⟨q1, _⟩ | ⟨g', cap', cur, rfl, _, hh, _⟩
    · rw [q1] at ho; cases ho
    · simp only [Value.ownBlock, Option.some.injEq] at ho
      subst ho
      rw [hh] at k3
      simp at k3
      exact he2 k3.2.1.symm
  have hb := hg.block g k2 (fun h => hgo h.symm)
  exact ⟨g, o, rfl, k1, Nat.lt_of_lt_of_le k2 hg.size, ⟨cs, fr, hb.trans k3⟩, fun i hi => (World.cell?_of_block hb).trans (k4 i hi)⟩
end Go.Proofs.Ytanfjiccilibcaa
