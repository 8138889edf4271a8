/- The document's board (mothballref09): New, Clusters, Free. -/
import Derived.Test.YtajfigihliafeaaSlBack1
namespace Go.Proofs.Ytajfigihliafeaa
open Go.RowKit
set_option linter.unusedVariables false

def R9At (w : World) (q u n : Nat) (f : Nat → Bool) : Prop :=
  q ≠ u ∧ (1 ≤ n ∧ n ≤ 65536) ∧ Blk w q [.slice (some ⟨u, 0, none⟩) n n] 52 ∧ Blk w u (fnV n fun i => .bool (f i)) 4
theorem R9At.only {w w' : World} {q u n : Nat} {f : Nat → Bool} {S : Nat → Prop} (h : R9At w q u n f) (o : Only S w w') (h1 : ¬ S q) (h2 : ¬ S u) : R9At w' q u n f :=
  ⟨h.1, h.2.1, h.2.2.1.only o h1, h.2.2.2.only o h2⟩
theorem R9At.below {w w' : World} {q u n : Nat} {f : Nat → Bool} (h : R9At w q u n f) (o : Below w.heap.size w w') : R9At w' q u n f :=
  ⟨h.1, h.2.1, h.2.2.1.below o, h.2.2.2.below o⟩
theorem R9At.drewN {w : World} {q u n : Nat} {f : Nat → Bool} (h : R9At w q u n f) (k : Nat) : R9At (w.drewN k) q u n f := h
theorem R9At.turned {w : World} {q u n : Nat} {f : Nat → Bool} (h : R9At w q u n f) (i : Nat) (b : Bool) : R9At (w.setCell ⟨u, i, none⟩ (.bool b)) q u n (put f i b) := by
  obtain ⟨h1, h2, h3, h4⟩ := h
  refine ⟨h1, h2, h3.set_other h1 _ _, ?_⟩
  have := h4.set i (.bool b)
  rw [fnV_set] at this
  have e : (fun j => if j = i then Value.bool b else Value.bool (f j)) = (fun j => Value.bool (put f i b j)) := funext fun j => by unfold put; split <;> rfl
  rw [e] at this
  exact this
theorem only_u {w : World} {u i : Nat} {v : Value} {S : Nat → Prop} {w0 : World} (h : Only S w0 w) (hu : S u) : Only S w0 (w.setCell ⟨u, i, none⟩ v) := h.set (fun _ => hu) _

theorem new9_bad (w : World) (n : Int) (A : Option Addr) (len cap : Nat) (h : n < 1 ∨ 65536 < n) :
    Calls Try.prog 15 #[.int .i64 n, .slice A len cap] w fun e w' => e = .returned (.pointer none) ∧ w = w' := by
  rcases h with h | h
  · go_enter Try.func15, Try.ntmps15
    go_wp2
    go_ret
    exact ⟨rfl, rfl⟩
  · have h' : ¬ n < 1 := by omega
    go_enter Try.func15, Try.ntmps15
    go_wp2
    go_ret
    exact ⟨rfl, rfl⟩
def New9R (n : Nat) (zs : List Int) (w : World) (e : Ending) (w' : World) : Prop :=
  Below w.heap.size w w' ∧ ((e = .returned (.pointer none) ∧ tkTo n zs (fun _ => false) = none) ∨
    ∃ q u f, e = .returned (.pointer (some ⟨q, 0, none⟩)) ∧ tkTo n zs (fun _ => false) = some f ∧ R9At w' q u n f ∧ w.heap.size ≤ q ∧ w.heap.size ≤ u)

set_option maxHeartbeats 4000000 in
theorem new9_calls (w : World) (n : Nat) (A : Option Addr) (len cap0 : Nat) (zs : List Int) (hn1 : 1 ≤ n) (hn2 : n ≤ 65536) (hz : IntsAt w A len zs) (hlen : len ≤ 100000) :
    Calls Try.prog 15 #[.int .i64 n, .slice A len cap0] w (New9R n zs w) := by
  obtain ⟨i0, hi, hz0, hz1, hz2⟩ := info_parts Try.info_bool
  have hmk := run_make1 (P := Try.prog) w 50 4 i0 _ (.bool false) Try.underlying50 hi hz0 rfl hz1 n (by rw [hz2]; omega) (by omega)
  have HM : Hid (R9At ((w.alloc (.cells (zrow n (.bool false)) 4)).alloc (.cells #[.slice (some ⟨w.heap.size, 0, none⟩) n n] 52)) (w.heap.size + 1) w.heap.size n (fun _ => false)) := Lib.hid (by
    refine ⟨by omega, ⟨hn1, hn2⟩, ?_, ?_⟩
    · have := Blk.new (w.alloc (.cells (zrow n (.bool false)) 4)) #[.slice (some ⟨w.heap.size, 0, none⟩) n n] 52
      simpa using this
    · have := (Blk.new w (zrow n (.bool false)) 4).alloc (.cells #[.slice (some ⟨w.heap.size, 0, none⟩) n n] 52)
      rw [zrow_toList, fnV_rep] at this
      exact this)
  have HB : Hid (Below w.heap.size w ((w.alloc (.cells (zrow n (.bool false)) 4)).alloc (.cells #[.slice (some ⟨w.heap.size, 0, none⟩) n n] 52))) := Lib.hid (((Below.refl _ _).alloc (Nat.le_refl _) _).alloc (by simp) _)
  have HZ := Lib.hid hz
  have h1 : ¬ (n : Int) < 1 := by omega
  have h2 : ¬ (65536 : Int) < (n : Int) := by omega
  clear hi hz0 hz1 hz2 hz
  go_enter Try.func15, Try.ntmps15
  go_wp2_with fail
  clear hmk
  have hq1 : w.heap.size ≤ w.heap.size + 1 := by omega
  have hq2 : w.heap.size ≤ w.heap.size := by omega
  have HQ := Lib.hid (And.intro hq1 hq2)
  clear hq1 hq2
  obtain ⟨wo, hwo⟩ : ∃ wo, (w.alloc (.cells (zrow n (.bool false)) 4)).alloc (.cells #[.slice (some ⟨w.heap.size, 0, none⟩) n n] 52) = wo := ⟨_, rfl⟩
  rw [hwo] at HM HB ⊢
  clear hwo
  obtain ⟨q, hqe⟩ : ∃ q, w.heap.size + 1 = q := ⟨_, rfl⟩
  rw [hqe] at HM HQ ⊢
  clear hqe
  obtain ⟨u, hue⟩ : ∃ u, w.heap.size = u ∧ w.heap.size ≤ u := ⟨_, rfl, Nat.le_refl _⟩
  rw [hue.1] at HM ⊢
  have HU := Lib.hid hue.2
  clear hue
  go_loopg [6] len (fun gg i wr => ∃ (j : Nat) (f : Nat → Bool), gg + j = len ∧ i = .int .i64 j ∧ R9At wr q u n f ∧ Below w.heap.size w wr ∧ Hid (tkTo n zs (fun _ => false) = tkTo n (zs.drop j) f))
  case atStart => exact ⟨0, _, by omega, rfl, HM.out, HB.out, Lib.hid rfl⟩
  case round =>
    obtain ⟨j, f, hj, rfl, hr, hb, ht⟩ := hrel
    have HR := Lib.hid hr
    have HBl := Lib.hid hb
    by_cases hlt : j < len
    · have hzr := HZ.out.below hb
      obtain ⟨ab, ao, rfl, hab, hac⟩ := hzr.2.2.resolve_left (by omega)
      have hc := hac j hlt
      have hzl := hzr.1
      obtain ⟨z, hz⟩ : ∃ z, zs[j]? = some z := ⟨zs[j]'(by omega), List.getElem?_eq_getElem (by omega)⟩
      rw [hz] at hc
      simp only [Option.getD_some] at hc
      have hzb := hzr.2.1 z (List.mem_of_getElem? hz)
      have hdr : zs.drop j = z :: zs.drop (j + 1) := by
        obtain ⟨hlt3, hze⟩ := List.getElem?_eq_some_iff.1 hz
        rw [List.drop_eq_getElem_cons hlt3, hze]
      have HDr := Lib.hid hdr
      have d0 := hr.2.2.1.cell 0
      simp only [List.getElem?_cons_zero] at d0
      clear hb hzr hac hz hdr
      by_cases hin : 0 ≤ z ∧ z < n
      · obtain ⟨x, rfl⟩ := Int.eq_ofNat_of_zero_le hin.1
        have hxn : x < n := by omega
        have dx := hr.2.2.2.cell x
        rw [fnV_at _ _ _ hxn] at dx
        have fx := hr.2.2.2.free x
        have h3 : ¬ (n : Int) ≤ (x : Int) := by omega
        have h4 : ¬ (x : Int) < 0 := by omega
        cases hfx : f x
        · have ht2 : tkTo n zs (fun _ => false) = tkTo n (zs.drop (j + 1)) (put f x true) := by
            rw [ht.out, HDr.out]
            show (if _ then _ else _) = _
            rw [if_pos ⟨by omega, by omega, by simpa using hfx⟩]; rfl
          have HT2 := Lib.hid ht2
          have HN := Lib.hid (hr.turned x true)
          rw [hfx] at dx
          clear hr ht2 hfx hin
          go_wp2
          go_roundg (gk - 1)
          case measure => omega
          case rel => exact ⟨j + 1, _, by omega, by go_num, HN.out, HBl.out.setCell HU.out _, HT2⟩
        · have hnone : tkTo n zs (fun _ => false) = none := by
            rw [ht.out, HDr.out]
            show (if _ then _ else _) = _
            rw [if_neg (fun h => by have h := h.2.2; rw [show ((x : Int).toNat) = x by omega, hfx] at h; cases h)]
          have HNone := Lib.hid hnone
          rw [hfx] at dx
          clear hr hnone hfx hin
          go_wp2
          go_ret
          exact ⟨HBl.out, .inl ⟨rfl, HNone.out⟩⟩
      · have hnone : tkTo n zs (fun _ => false) = none := by
          rw [ht.out, HDr.out]
          show (if _ then _ else _) = _
          rw [if_neg (fun h => hin ⟨h.1, h.2.1⟩)]
        have HNone := Lib.hid hnone
        clear hr hnone
        by_cases h0 : z < 0
        · clear hin
          go_wp2
          go_ret
          exact ⟨HBl.out, .inl ⟨rfl, HNone.out⟩⟩
        · have h3 : (n : Int) ≤ z := by omega
          clear hin
          go_wp2
          go_ret
          exact ⟨HBl.out, .inl ⟨rfl, HNone.out⟩⟩
    · obtain rfl : j = len := by omega
      have hend : tkTo n zs (fun _ => false) = some f := by
        rw [ht.out, List.drop_eq_nil_of_le (by have := HZ.out.1; omega)]; rfl
      have HE := Lib.hid hend
      clear hend hb hr
      go_wp2
      go_ret
      exact ⟨HBl.out, .inr ⟨q, u, f, rfl, HE.out, HR.out, HQ.out.1, HU.out⟩⟩
end Go.Proofs.Ytajfigihliafeaa
