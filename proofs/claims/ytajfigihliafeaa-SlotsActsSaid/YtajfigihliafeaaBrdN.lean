/- The walk of slots.New. -/
import Derived.Test.YtajfigihliafeaaBrdT
namespace Go.Proofs.Ytajfigihliafeaa
open Go.RowKit
set_option linter.unusedVariables false

theorem ownsRow_blk {w : World} {base n : Nat} {e : TypeId} {v : Value} {xs : List Value} (h : w.ownsRow base e 1 v n xs) (hn : 0 < n) :
    ∃ g cap sp, v = .slice (some ⟨g, 0, none⟩) n cap ∧ base ≤ g ∧ n ≤ cap ∧ cap ≤ maxLen ∧ Blk w g (xs ++ sp) e := by
  have hl := ownsRow_len h
  rcases h.2 with ⟨rfl, rfl⟩ | ⟨g, cap, cur, hv, hg, hh, hc, hm, hs, ht⟩
  · omega
  · refine ⟨g, cap, cur.toList.drop n, hv, hg, hc, hm, ?_⟩
    have e : xs ++ cur.toList.drop n = cur.toList := by
      rw [Nat.mul_one] at ht
      rw [← ht, List.take_append_drop]
    unfold Blk
    rw [e]
    exact hh

/-- How many slots each cluster has. -/
def mk9 (n k : Nat) : Value := .int .i64 ((min 64 (n - 64 * k) : Nat) : Int)
theorem fnV_succ (k : Nat) (F : Nat → Value) : fnV k F ++ [F k] = fnV (k + 1) F := by unfold fnV; rw [List.range_succ, List.map_append]; rfl
theorem mk9_fr (n : Nat) : fnV (wn n) (mk9 n) = fnV (wn n) (fun k => .int .i64 (fr n (fun _ => false) k)) :=
  fnV_congr fun k hk => by unfold mk9; rw [fr_new n k (by unfold wn at hk; omega)]
/-- Which slots are taken by a list; none: it may not be. -/
def tkTo (n : Nat) : List Int → (Nat → Bool) → Option (Nat → Bool)
  | [], f => some f
  | z :: zs, f => if 0 ≤ z ∧ z < n ∧ f z.toNat = false then tkTo n zs (put f z.toNat true) else none

theorem newb_bad (w : World) (n : Int) (A : Option Addr) (len cap : Nat) (h : n < 1 ∨ 65536 < n) :
    Calls Try.prog 8 #[.int .i64 n, .slice A len cap] w fun e w' => e = .returned (.tuple #[.pointer none, .int .i64 2]) ∧ Below w.heap.size w w' := by
  by_cases h2 : n < 0 ∨ 65536 < n
  · go_enter Try.func8, Try.ntmps8
    go_wp2_with fail
    refine (new_no _ n h2).mono ?_
    rintro e w' ⟨rfl, rfl⟩
    go_wp2
    go_ret2
    exact ⟨rfl, Below.refl _ _⟩
  · obtain rfl : n = 0 := by omega
    clear h h2
    go_enter Try.func8, Try.ntmps8
    go_wp2_with fail
    refine (new_yes _ 0 (by omega)).mono ?_
    rintro e w1 ⟨r, a, c, rfl, hr, h1, h2, h3, hb⟩
    have HB := Lib.hid hb
    clear hr hb
    go_wp2
    go_ret2
    exact ⟨rfl, HB.out⟩

theorem set_out (w : World) (r a c n : Nat) (f : Nat → Bool) (z : Int) (h : RowAt w r a c n f) (hn : 1 ≤ n) (hz : z < 0 ∨ n ≤ z) :
    Calls Try.prog 32 #[.pointer (some ⟨r, 0, none⟩), .int .i64 z, .int .i64 1] w fun e w' => e = .returned (.int .i64 2) ∧ w = w' := by
  have c0 := h.2.2.2.1.cell 0
  have hn2 := h.2.1
  simp only [List.getElem?_cons_zero] at c0
  clear h
  have key : Calls Try.prog 36 #[.pointer (some ⟨r, 0, none⟩), .int .i64 z, .int .i64 1, .bool true] w fun e w' => e = .returned (.int .i64 2) ∧ w = w' := by
    rcases hz with hz | hz
    · go_enter Try.func36, Try.ntmps36
      go_wp2
      go_ret
      exact ⟨rfl, rfl⟩
    · have h1 : ¬ z < 0 := by omega
      have h2 : ¬ (n : Int) < 1 := by omega
      have h3 : (n : Int) - 1 < z := by omega
      go_enter Try.func36, Try.ntmps36
      go_wp2
      go_ret
      exact ⟨rfl, rfl⟩
  have K := Lib.hid key
  clear key hz
  go_enter Try.func32, Try.ntmps32
  go_wp2_with fail
  refine K.out.mono ?_
  rintro e w' ⟨rfl, rfl⟩
  go_wp2
  go_ret
  exact ⟨rfl, rfl⟩
theorem bturn_no (w : World) (b r a c g n cap : Nat) (sp : List Value) (f : Nat → Bool) (z : Int) (h : BoardAt w b r a c g n cap sp f) (hz : ¬ (0 ≤ z ∧ z < n ∧ f z.toNat = false)) :
    Calls Try.prog 24 #[.pointer (some ⟨b, 0, none⟩), .int .i64 z, .int .i64 1, .bool true] w fun e w' => e = .returned (.int .i64 2) ∧ w = w' := by
  have c0 := h.2.2.1.cell 0
  simp only [List.getElem?_cons_zero] at c0
  have key : Calls Try.prog 32 #[.pointer (some ⟨r, 0, none⟩), .int .i64 z, .int .i64 1] w fun e w' => e = .returned (.int .i64 2) ∧ w = w' := by
    by_cases h1 : z < 0 ∨ n ≤ z
    · exact set_out w r a c n f z h.2.2.2.1 h.2.1.1 h1
    · obtain ⟨x, rfl⟩ := Int.eq_ofNat_of_zero_le (show 0 ≤ z by omega)
      refine set_no w r a c n f x h.2.2.2.1 (by omega) ?_
      cases hf : f x
      · exact absurd ⟨by omega, by omega, hf⟩ hz
      · rfl
  have K := Lib.hid key
  clear key hz h
  go_enter Try.func24, Try.ntmps24
  go_wp2_with fail
  refine K.out.mono ?_
  rintro e w' ⟨rfl, rfl⟩
  go_wp2
  go_ret
  exact ⟨rfl, rfl⟩

/-- What New answers. -/
def NewR (n : Nat) (zs : List Int) (w : World) (e : Ending) (w' : World) : Prop :=
  Below w.heap.size w w' ∧ ((e = .returned (.tuple #[.pointer none, .int .i64 2]) ∧ tkTo n zs (fun _ => false) = none) ∨
    ∃ b r a c g cap sp f, e = .returned (.tuple #[.pointer (some ⟨b, 0, none⟩), .int .i64 0]) ∧ tkTo n zs (fun _ => false) = some f ∧ BoardAt w' b r a c g n cap sp f ∧ w.heap.size ≤ b ∧ w.heap.size ≤ r ∧ w.heap.size ≤ a ∧ w.heap.size ≤ c ∧ w.heap.size ≤ g)
theorem BrdS_ge {B r a c g i : Nat} (h1 : B ≤ r) (h2 : B ≤ a) (h3 : B ≤ c) (h4 : B ≤ g) (h : BrdS r a c g i) : B ≤ i := by unfold BrdS at h; omega

/-- The board while its clusters are counted. -/
def BNew (w0 w : World) (b r a c n B : Nat) (v : Value) (j : Nat) : Prop :=
  (w0.heap.size ≤ r ∧ w0.heap.size ≤ a ∧ w0.heap.size ≤ c ∧ r < b ∧ a < b ∧ c < b ∧ b < B ∧ B ≤ w.heap.size) ∧ Blk w b [.pointer (some ⟨r, 0, none⟩), v] 58 ∧ RowAt w r a c n (fun _ => false) ∧ w.ownsRow B 3 1 v j (fnV j (mk9 n)) ∧ Below w0.heap.size w0 w
theorem BNew.start {w0 w1 : World} {r a c n : Nat} (hr : RowAt w1 r a c n (fun _ => false)) (h1 : w0.heap.size ≤ r) (h2 : w0.heap.size ≤ a) (h3 : w0.heap.size ≤ c) (hb : Below w0.heap.size w0 w1) :
    BNew w0 (w1.alloc (.cells #[.pointer (some ⟨r, 0, none⟩), .slice none 0 0] 58)) w1.heap.size r a c n (w1.heap.size + 1) (.slice none 0 0) 0 :=
  ⟨⟨h1, h2, h3, hr.2.2.2.1.lt, hr.2.2.2.2.1.lt, hr.2.2.2.2.2.lt, by omega, by simp⟩, Blk.new _ _ _, RowMid.below hr ((Below.refl _ _).alloc (Nat.le_refl _) _), World.ownsRow_nil _ _ _ _, hb.alloc hb.size _⟩
theorem BNew.next {w0 w w' : World} {b r a c n B j : Nat} {v v' : Value} (h : BNew w0 w b r a c n B v j) (ho : w'.ownsRow B 3 1 v' (j + 1) (fnV (j + 1) (mk9 n))) (hg : w.grownBy w' v.ownBlock) :
    BNew w0 (w'.setCell ⟨b, 1, none⟩ v') b r a c n B v' (j + 1) := by
  obtain ⟨h1, h2, h3, h4, h5⟩ := h
  have og : Only (fun k => B ≤ k) w w' := (Only.refl _ w).grown hg (fun k hk _ => (h4.lt k hk).1)
  have os : Only (fun k => k = b) w' (w'.setCell ⟨b, 1, none⟩ v') := Only.set (S := fun k => k = b) (Only.refl _ w') (fun _ => rfl) _
  have hB : w0.heap.size ≤ b := by omega
  have h2' := (h2.only og (by omega)).set 1 v'
  refine ⟨by have := hg.size; simp [World.setCell]; omega, by simpa using h2', ?_, ownsRow_only ho os (fun k hk e => by omega), ?_⟩
  · have h3' := RowMid.only h3 og (by omega) (by omega) (by omega)
    exact RowMid.only h3' os (by omega) (by omega) (by omega)
  · exact bel_only (bel_only h5 og (Nat.le_refl _) (fun i hi => by omega)) os (Nat.le_refl _) (fun i hi => by omega)
theorem blk_mid {w0 w w' : World} {b r a c n B j : Nat} {v : Value} (h : BNew w0 w b r a c n B v j) (hg : w.grownBy w' v.ownBlock) : Blk w' b [.pointer (some ⟨r, 0, none⟩), v] 58 := by
  obtain ⟨h1, h2, h3, h4, h5⟩ := h
  have og : Only (fun k => B ≤ k) w w' := (Only.refl _ w).grown hg (fun k hk _ => (h4.lt k hk).1)
  exact h2.only og (by omega)
theorem BNew.done {w0 w : World} {b r a c n B : Nat} {v : Value} (h : BNew w0 w b r a c n B v (wn n)) (hn : 1 ≤ n) :
    ∃ g cap sp, v = .slice (some ⟨g, 0, none⟩) (wn n) cap ∧ w0.heap.size ≤ g ∧ BoardAt w b r a c g n cap sp (fun _ => false) := by
  obtain ⟨h1, h2, h3, h4, h5⟩ := h
  obtain ⟨g, cap, sp, rfl, hg, hc, hm, hb⟩ := ownsRow_blk h4 (by unfold wn; omega)
  rw [mk9_fr] at hb
  exact ⟨g, cap, sp, rfl, by omega, ⟨by omega, ⟨hn, hc, hm⟩, h2, h3, hb⟩⟩

set_option maxHeartbeats 4000000 in
theorem newb_calls (w : World) (n : Nat) (A : Option Addr) (len cap0 : Nat) (zs : List Int) (hn1 : 1 ≤ n) (hn2 : n ≤ 65536) (hz : IntsAt w A len zs) (hlen : len ≤ 100000) :
    Calls Try.prog 8 #[.int .i64 n, .slice A len cap0] w (NewR n zs w) := by
  obtain ⟨i0, hi, hz0, hz1, hz2⟩ := info_parts Try.info_int
  have HZ := Lib.hid hz
  have hW : wn n ≤ 1024 := by unfold wn; omega
  clear hz
  go_enter Try.func8, Try.ntmps8
  go_wp2_with fail
  refine (new_yes _ n hn2).mono ?_
  rintro e w1 ⟨r, a, c, rfl, hr, h1, h2, h3, hb⟩
  have HN := Lib.hid (BNew.start hr h1 h2 h3 hb)
  clear hr h1 h2 h3 hb
  have g1 : decide ((n : Int) < 1) = false := decide_eq_false (by omega)
  go_wp2_with fail
  go_loopg [9] (wn n) (fun q i wr => ∃ (j : Nat) (v : Value), q + j = wn n ∧ i = .int .i64 ((64 * j : Nat) : Int) ∧ BNew w wr w1.heap.size r a c n (w1.heap.size + 1) v j)
  case atStart => exact ⟨0, _, by omega, by go_num, HN.out⟩
  case round =>
    obtain ⟨j, v, hj, rfl, hN⟩ := hrel
    have HNj := Lib.hid hN
    by_cases hlt : j < wn n
    · have d1 := hN.2.1.cell 1
      simp only [List.getElem?_cons_zero, List.getElem?_cons_succ] at d1
      have hsz := hN.1.2.2.2.2.2.2.2
      have hjn : 64 * j < n := by unfold wn at hlt; omega
      obtain ⟨p, hp⟩ : ∃ p, 64 * j = p := ⟨_, rfl⟩
      have HP := Lib.hid hp
      have hpn : p < n := by omega
      rw [hp]
      clear hN hp
      by_cases hf : 64 ≤ n - p
      case' pos => 
        have hm : mk9 n j = .int .i64 64 := by unfold mk9; have := HP.out; congr 1; omega
      case' neg =>
        have hm : mk9 n j = .int .i64 ((n : Int) - (p : Int)) := by unfold mk9; have := HP.out; congr 1; omega
      all_goals
        have hown := HNj.out.2.2.2.1
        have HO := Lib.hid hown
        have HM := Lib.hid hm
        clear hown hm
        go_wp2_with (at_builtin; refine wpList_append_one rfl (.tmp 36) (.tmp 41) 34 rfl (w1.heap.size + 1) 3 i0 (.int .i64 0) 8 Try.underlying34 hi hz0 hz1 hz2 rfl v _ _ rfl HO.out rfl rfl (by omega) (by unfold maxLen; omega) (by omega) ?_; intro v1 w5 hown1 hgr1 hnew1; rw [← HM.out, fnV_succ] at hown1; obtain ⟨A5, c5, rfl⟩ := ownsRow_slice hown1; have HX := Lib.hid (HNj.out.next hown1 hgr1); have hd1 := blk_mid HNj.out hgr1; have d2 := hd1.cell 1; have f2 := hd1.free 1; clear hown1 hgr1 hnew1 hd1; simp only [List.getElem?_cons_zero, List.getElem?_cons_succ] at d2)
        go_roundg (gk - 1)
        case measure => omega
        case rel => exact ⟨j + 1, _, by omega, by have := HP.out; go_num, HX.out⟩
    · obtain rfl : j = wn n := by omega
      obtain ⟨g, cap, sp, rfl, hg, hbd⟩ := hN.done hn1
      have HBd := Lib.hid hbd
      have hS := hN.1
      have HBl := Lib.hid hN.2.2.2.2
      have hwn : ¬ ((64 * wn n : Nat) : Int) < (n : Int) := by unfold wn; omega
      clear hN HNj
      go_wp2_with fail
      obtain ⟨wo, rfl⟩ : ∃ wo : World, wo = wr := ⟨_, rfl⟩
      clear HN
      generalize w1.heap.size = b at *
      go_loopg [47] len (fun q i wx => ∃ (j : Nat) (f : Nat → Bool), q + j = len ∧ i = .int .i64 j ∧ BoardAt wx b r a c g n cap sp f ∧ Only (BrdS r a c g) wo wx ∧ Hid (tkTo n zs (fun _ => false) = tkTo n (zs.drop j) f))
      case atStart => exact ⟨0, _, by omega, rfl, HBd.out, Only.refl _ _, Lib.hid rfl⟩
      case round =>
        obtain ⟨j, f, hj, rfl, hbd, ho, ht⟩ := hrel
        have HBj := Lib.hid hbd
        have HOj := Lib.hid ho
        have hbel := bel_only HBl.out ho (Nat.le_refl _) (fun i => BrdS_ge hS.1 hS.2.1 hS.2.2.1 hg)
        have HBel := Lib.hid hbel
        clear hbd ho
        by_cases hlt2 : j < len
        · have hzr := HZ.out.below hbel
          obtain ⟨ab, ao, rfl, hab, hac⟩ := hzr.2.2.resolve_left (by omega)
          have hc := hac j hlt2
          have hzl := hzr.1
          obtain ⟨z, hz⟩ : ∃ z, zs[j]? = some z := ⟨zs[j]'(by omega), List.getElem?_eq_getElem (by omega)⟩
          rw [hz] at hc
          simp only [Option.getD_some] at hc
          have hzb := hzr.2.1 z (List.mem_of_getElem? hz)
          have hdr : zs.drop j = z :: zs.drop (j + 1) := by
            obtain ⟨hlt3, hze⟩ := List.getElem?_eq_some_iff.1 hz
            rw [List.drop_eq_getElem_cons hlt3, hze]
          have HDr := Lib.hid hdr
          clear hbel hzr hac hz hdr
          by_cases hgood : 0 ≤ z ∧ z < n ∧ f z.toNat = false
          · obtain ⟨x, rfl⟩ := Int.eq_ofNat_of_zero_le hgood.1
            have hxf : f x = false := hgood.2.2
            have hxn : x < n := by omega
            have ht2 : tkTo n zs (fun _ => false) = tkTo n (zs.drop (j + 1)) (put f x true) := by
              rw [ht.out, HDr.out]
              show (if _ then _ else _) = _
              rw [if_pos hgood]; rfl
            have HT2 := Lib.hid ht2
            have HXf := Lib.hid hxf
            clear hgood hxf ht2
            go_wp2_with fail
            refine (bturn_ok _ b r a c g n cap sp f x 1 true HBj.out (by omega) (fun i h1 h2 => by rw [show i = x by omega]; exact HXf.out)).mono ?_
            rintro e w2 ⟨rfl, hb2, ho2⟩
            rw [fillF_put] at hb2
            have HB2 := Lib.hid hb2
            have HO2 := Lib.hid (HOj.out.trans ho2 (fun _ _ h => h))
            clear hb2 ho2
            go_wp2
            go_roundg (gk - 1)
            case measure => omega
            case rel => exact ⟨j + 1, _, by omega, by go_num, HB2.out, HO2.out, HT2⟩
          · have hnone : tkTo n zs (fun _ => false) = none := by
              rw [ht.out, HDr.out]
              show (if _ then _ else _) = _
              rw [if_neg hgood]
            have HNone := Lib.hid hnone
            have HG := Lib.hid hgood
            clear hgood hnone
            go_wp2_with fail
            refine (bturn_no _ b r a c g n cap sp f z HBj.out HG.out).mono ?_
            rintro e w2 ⟨rfl, rfl⟩
            go_wp2
            go_ret2
            exact ⟨HBel.out, .inl ⟨rfl, HNone.out⟩⟩
        · obtain rfl : j = len := by omega
          have hend : tkTo n zs (fun _ => false) = some f := by
            rw [ht.out, List.drop_eq_nil_of_le (by have := HZ.out.1; omega)]; rfl
          have HE := Lib.hid hend
          clear hend hbel
          go_wp2
          go_ret2
          exact ⟨HBel.out, .inr ⟨b, r, a, c, g, cap, sp, f, rfl, HE.out, HBj.out, by omega, hS.1, hS.2.1, hS.2.2.1, hg⟩⟩
end Go.Proofs.Ytajfigihliafeaa
