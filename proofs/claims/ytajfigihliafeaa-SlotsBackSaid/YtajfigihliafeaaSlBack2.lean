/- The walk of SlotsBack. -/
import Derived.Test.YtajfigihliafeaaSlBack1
import Derived.Deep.DeepCutAuto
import Derived.Deep.CutBlock
namespace Go.Proofs.Ytajfigihliafeaa
open Go.RowKit
set_option linter.unusedVariables false

theorem intsV_one (zs : List Int) : ∀ u ∈ zs.map (Value.int .i64), u.oneCell' = true := fun v hv => by obtain ⟨k, _, rfl⟩ := List.mem_map.1 hv; rfl
/-- The list with its first one twice: a row of the call's own. -/
theorem twice_at {w : World} {H n : Nat} {e : TypeId} {v : Value} {zs : List Int} {z : Int} (h : w.ownsRow H e 1 v n (zs.map (.int .i64) ++ [.int .i64 z])) (hb : ∀ y ∈ zs, -9223372036854775808 ≤ y ∧ y ≤ 9223372036854775807) (hz : z ∈ zs) :
    ∃ A c, v = .slice A n c ∧ IntsAt w A n (zs ++ [z]) ∧ (n ≤ c ∧ c ≤ maxLen) ∧ ∀ b o, A = some ⟨b, o, none⟩ → H ≤ b := by
  have h' : w.ownsRow H e 1 v n ((zs ++ [z]).map (.int .i64)) := by rw [List.map_append]; exact h
  obtain ⟨A, c, rfl, h1, h2⟩ := IntsAt.of_own h' (fun y hy => by
    rcases List.mem_append.1 hy with hy | hy
    · exact hb y hy
    · rw [List.mem_singleton.1 hy]; exact hb z hz)
  refine ⟨A, c, rfl, h1, ?_, h2⟩
  rcases ownsRow_form h with ⟨he, hn⟩ | ⟨g, cap, he, _, _, h3, h4⟩
  · cases he; omega
  · cases he; exact ⟨h3, h4⟩

theorem is_calls (w : World) (b r a c g n cap : Nat) (sp : List Value) (f : Nat → Bool) (z : Int) (h : BoardAt w b r a c g n cap sp f) :
    Calls Try.prog 14 #[.pointer (some ⟨b, 0, none⟩), .int .i64 z] w fun e w' => e = .returned (.bool (hasB n f z)) ∧ w = w' := by
  have HM := Lib.hid h
  have c0 := h.2.2.1.cell 0
  simp only [List.getElem?_cons_zero] at c0
  clear h
  go_enter Try.func14, Try.ntmps14
  go_wp2_with fail
  refine (has_any _ r a c n f _ z HM.out.2.2.2.1).mono ?_
  rintro e w' ⟨rfl, rfl⟩
  go_wp2
  go_ret
  exact ⟨rfl, rfl⟩
theorem dup56 {wr w0 w5 : World} {X H n : Nat} {T : TypeId} {v5 : Value} {xs : List Value} (hb : Below H wr w0) (hH : H ≤ w0.heap.size) (hX : H ≤ X) (hown : w5.ownsRow H T 1 v5 (0 + n) ([] ++ xs)) (hg : w0.grownBy w5 (Value.slice (some (⟨X, 0, none⟩ : Addr)) 0 0).ownBlock) :
    w5.ownsRow H T 1 v5 n xs ∧ Below H wr w5 := by
  rw [Nat.zero_add, List.nil_append] at hown
  exact ⟨hown, lit_below hb hH hX hg⟩
theorem give_twice (w : World) (b r a c g n cap : Nat) (sp : List Value) (f : Nat → Bool) (A : Option Addr) (len cp : Nat) (zs : List Int) (h : BoardAt w b r a c g n cap sp f) (hz : IntsAt w A len zs) (hl : len ≤ cp) (hcp : cp ≤ maxLen)
    (hd : ∀ b o, A = some ⟨b, o, none⟩ → 0 < len → ¬ BrdS r a c g b) (hno : ¬ GvTo n f zs zs.length) :
    Calls Try.prog 13 #[.pointer (some ⟨b, 0, none⟩), .slice A len cp] w fun e w' => e = .returned (.int .i64 2) ∧ w = w' :=
  (give_calls w b r a c g n cap sp f A len cp zs h hz hl hcp hd).mono fun e w' h => by
    rcases h with ⟨h1, _, h2⟩ | ⟨_, h1, _⟩
    · exact ⟨h1, h2⟩
    · exact absurd h1 hno
theorem give_fine (w : World) (b r a c g n cap : Nat) (sp : List Value) (f : Nat → Bool) (A : Option Addr) (len cp : Nat) (zs : List Int) (h : BoardAt w b r a c g n cap sp f) (hz : IntsAt w A len zs) (hl : len ≤ cp) (hcp : cp ≤ maxLen)
    (hd : ∀ b o, A = some ⟨b, o, none⟩ → 0 < len → ¬ BrdS r a c g b) (hg : GvTo n f zs zs.length) :
    Calls Try.prog 13 #[.pointer (some ⟨b, 0, none⟩), .slice A len cp] w fun e w' => e = .returned (.int .i64 0) ∧ BoardAt w' b r a c g n cap sp (clrL f zs) ∧ Only (BrdS r a c g) w w' :=
  (give_calls w b r a c g n cap sp f A len cp zs h hz hl hcp hd).mono fun e w' h => by
    rcases h with ⟨_, h1, _⟩ | ⟨h1, _, h2, h3⟩
    · exact absurd hg h1
    · exact ⟨h1, h2, h3⟩
theorem free_tk (w : World) (b r a c g n cap : Nat) (sp : List Value) (f : Nat → Bool) (k : Nat) (h : BoardAt w b r a c g n cap sp f) (hk : cntF f n = k) :
    Calls Try.prog 11 #[.pointer (some ⟨b, 0, none⟩)] w fun e w' => e = .returned (.int .i64 ((n : Int) - (k : Int))) ∧ ∃ q, w' = w.drewN q := by
  refine (free_calls w b r a c g n cap sp f h).mono fun e w' ⟨h1, h2⟩ => ⟨?_, h2⟩
  rw [h1, hk]
  have := cntF_le f n
  exact ret_eq (by omega)

set_option maxRecDepth 100000 in
set_option maxHeartbeats 8000000 in
theorem back_walk (n k0 : Int) (w : World) (wn0 : (Lit.int .i64 n).wf = true) (wk0 : (Lit.int .i64 k0).wf = true) :
    Calls Try.prog 5 #[.int .i64 n, .int .i64 k0] w fun e w' => e = .returned (.bool true) ∧ Below w.heap.size w w' := by
  obtain ⟨i0, hi, hz0, hz1, hz2⟩ := info_parts Try.info_int
  obtain ⟨b0, b1, b2, b3⟩ := rem_mod n 150 (by omega) (by omega)
  obtain ⟨m, hm⟩ : ∃ m : Nat, 2 + n.tmod 150 % 150 = m := ⟨(2 + n.tmod 150 % 150).toNat, by omega⟩
  have hm2 : 2 ≤ m ∧ m ≤ 151 := by omega
  obtain ⟨c0, c1, c2, c3⟩ := rem_mod k0 m (by omega) (by omega)
  obtain ⟨tk, ht⟩ : ∃ tk : Nat, 1 + k0.tmod m % m = tk := ⟨(1 + k0.tmod m % m).toNat, by omega⟩
  have ht2 : 1 ≤ tk ∧ tk ≤ m := by omega
  have HMm := Lib.hid hm
  have HTk := Lib.hid ht
  have hm0 : ¬ (m : Int) = 0 := by omega
  clear wn0 wk0 hm ht
  go_enter Try.func5, Try.ntmps5
  go_wp2_with fail
  refine (awake_calls09 _).mono ?_
  rintro e w1 ⟨rfl, hb1⟩
  have HB1 := Lib.hid hb1
  clear hb1
  go_wp2_with fail
  rw [HMm.out]
  refine (newb_calls _ m none 0 0 [] (by omega) (by omega) (IntsAt.nil _) (by omega)).mono ?_
  rintro e w2 ⟨hb2, ⟨rfl, hx⟩ | ⟨b, r, a, c, g, cap, sp, f, rfl, hf, hbd, h1, h2, h3, h4, h5⟩⟩
  · cases hx
  · injection hf with hf
    subst hf
    have HB2 := Lib.hid (bel_next HB1.out hb2 (Nat.le_refl _))
    have HBd := Lib.hid hbd
    have hS : w.heap.size ≤ b ∧ w.heap.size ≤ r ∧ w.heap.size ≤ a ∧ w.heap.size ≤ c ∧ w.heap.size ≤ g := by have := HB1.out.size; omega
    have hL : b < w2.heap.size ∧ r < w2.heap.size ∧ a < w2.heap.size ∧ c < w2.heap.size ∧ g < w2.heap.size := ⟨hbd.2.2.1.lt, hbd.2.2.2.1.2.2.2.1.lt, hbd.2.2.2.1.2.2.2.2.1.lt, hbd.2.2.2.1.2.2.2.2.2.lt, hbd.2.2.2.2.lt⟩
    have HS := Lib.hid hS
    have HL := Lib.hid hL
    clear hb2 hbd h1 h2 h3 h4 h5 hS hL
    go_wp2_with fail
    rw [HTk.out, show (k0.tmod (m : Int) + (m : Int)) % (m : Int) = k0.tmod (m : Int) % (m : Int) from by simp]
    go_loopg [9, 10] tk (fun q v i wr => ∃ (j : Nat) (f : Nat → Bool) (zs : List Int), q + j = tk ∧ i = .int .i64 j ∧ BoardAt wr b r a c g m cap sp f ∧ Hid (TkI m f zs j) ∧ wr.ownsRow w2.heap.size 3 1 v j (zs.map (.int .i64)) ∧ w2.heap.size ≤ wr.heap.size ∧ Below w.heap.size w wr)
    case atStart => exact ⟨0, _, [], by omega, rfl, HBd.out, Lib.hid (TkI.start m), World.ownsRow_nil _ _ _ _, Nat.le_refl _, HB2.out⟩
    case round =>
      obtain ⟨j, f, zs, hj, rfl, hbd, hT, hown, hsz, hbel⟩ := hrel
      have HBj := Lib.hid hbd
      have HOj := Lib.hid hown
      have HBel := Lib.hid hbel
      clear hbd hown hbel
      by_cases hlt : j < tk
      · go_wp2_with fail
        refine (take_calls _ b r a c g m cap sp f HBj.out).mono ?_
        rintro e w4 (⟨rfl, hno, rfl⟩ | ⟨x, rfl, hx, hb4, ho4⟩)
        · have h1 := cntF_full f m (fun i hi => fr_none hno i hi)
          have h2 := hT.out.2.2.2.2
          omega
        · have HT4 := Lib.hid (hT.out.next hx.1 hx.2.1)
          have HB4 := Lib.hid hb4
          have HL4 := Lib.hid (bel_only HBel.out ho4 (Nat.le_refl _) (fun i => BrdS_ge HS.out.2.1 HS.out.2.2.1 HS.out.2.2.2.1 HS.out.2.2.2.2))
          have HO4 := Lib.hid (ownsRow_only HOj.out ho4 (fun k hk h => by have := HL.out; unfold BrdS at h; omega))
          have hs4 := ho4.size
          clear hx hb4 ho4
          go_wp2_with (at_builtin; refine wpList_append_one rfl (.tmp 49) (.tmp 51) 34 rfl w2.heap.size 3 i0 (.int .i64 0) 8 Try.underlying34 hi hz0 hz1 hz2 rfl u9 _ _ rfl HO4.out rfl rfl (by omega) (by unfold maxLen; omega) (by omega) ?_; intro v1 w5 hown1 hgr1 hnew1; have HX1 := Lib.hid hown1; have HG1 := Lib.hid hgr1; have hs5 := hgr1.size; clear hown1 hgr1 hnew1)
          go_roundg (gk - 1)
          case measure => omega
          case rel =>
            have hmid : Only (fun k => w2.heap.size ≤ k) w4 w5 := (Only.refl _ w4).grown HG1.out (fun k hk _ => (HO4.out.lt k hk).1)
            have hL := HL.out
            exact ⟨j + 1, _, _, by omega, by go_num, BMid.only HB4.out hmid (by omega) (by omega) (by omega) (by omega) (by omega), HT4, by rw [List.map_append]; exact HX1.out, by omega, bel_only HL4.out hmid (Nat.le_refl _) (fun i hi => by have := HB2.out.size; omega)⟩
      · obtain rfl : j = tk := by omega
        obtain ⟨q, cq, hv, hq⟩ : ∃ q cq, u9 = .slice (some ⟨q, 0, none⟩) j cq ∧ (w2.heap.size ≤ q ∧ q < wr.heap.size ∧ j ≤ cq ∧ cq ≤ maxLen) := by
          rcases ownsRow_form HOj.out with ⟨_, h0⟩ | ⟨q, cq, h1, h2, h3, h4, h5⟩
          · omega
          · exact ⟨q, cq, h1, h2, h3, h4, h5⟩
        subst hv
        unfold maxLen at hq
        obtain ⟨z0, hz0l⟩ : ∃ z, zs[0]? = some z := ⟨zs[0]'(by have := hT.out.1; omega), List.getElem?_eq_getElem (by have := hT.out.1; omega)⟩
        have hz0m := List.mem_of_getElem? hz0l
        have hints : IntsAt wr (some ⟨q, 0, none⟩) j zs := by
          obtain ⟨A', c', he, h1, _⟩ := IntsAt.of_own HOj.out (hT.out.bounds (by omega))
          cases he; exact h1
        have hcell : wr.cell? ⟨q, 0, none⟩ = some (.int .i64 z0) := by
          obtain ⟨b', o', he, _, hc⟩ := hints.2.2.resolve_left (by omega)
          cases he
          have := hc 0 (by omega)
          rw [hz0l] at this
          simpa using this
        have HI := Lib.hid hints
        have HZ0 := Lib.hid hz0m
        have HRd := Lib.hid (RdAt.of_own HOj.out)
        clear hz0l hz0m hints
        have hj0 : (0 : Int) < (j : Int) := by omega
        have hj0n : 0 < j := by omega
        have hqw := hq.2.1
        have HWr := Lib.hid (IntWalk.i64_in ((m : Int) - (j : Int)) (by omega))
        have HZl := Lib.hid (show (zs.map (Value.int .i64)).length = j * 1 by rw [List.length_map, hT.out.1, Nat.mul_one])
        have HCO := Lib.hid ((lit_own wr wr.heap.size 3 (Nat.le_refl _)).drew)
        have HCR := Lib.hid ((HRd.out.alloc (.cells #[] 3)).drew)
        have HCB := Lib.hid (((Below.refl wr.heap.size wr).alloc (Nat.le_refl _) (.cells #[] 3)).drew)
        have HBO := Lib.hid (((lit_own wr wr.heap.size 3 (Nat.le_refl _)).alloc (.cells #[.int .i64 z0] 3)).drew)
        have HBR := Lib.hid (((HRd.out.alloc (.cells #[] 3)).alloc (.cells #[.int .i64 z0] 3)).drew)
        have HBB := Lib.hid ((((Below.refl wr.heap.size wr).alloc (Nat.le_refl _) (.cells #[] 3)).alloc (by simp) (.cells #[.int .i64 z0] 3)).drew)
        have HBK := Lib.hid ((Blk.new (wr.alloc (.cells #[] 3)) #[.int .i64 z0] 3).drew)
        have HAO := Lib.hid ((lit_own (wr.alloc (.cells #[.int .i64 z0] 3)) wr.heap.size 3 (by simp)).drew)
        have HAR := Lib.hid (((HRd.out.alloc (.cells #[.int .i64 z0] 3)).alloc (.cells #[] 3)).drew)
        have HAB := Lib.hid ((((Below.refl wr.heap.size wr).alloc (Nat.le_refl _) (.cells #[.int .i64 z0] 3)).alloc (by simp) (.cells #[] 3)).drew)
        have HAK := Lib.hid (((Blk.new wr #[.int .i64 z0] 3).alloc (.cells #[] 3)).drew)
        have hsz1 : (wr.alloc (.cells #[] 3)).heap.size = wr.heap.size + 1 := by simp
        have hsz2 : (wr.alloc (.cells #[.int .i64 z0] 3)).heap.size = wr.heap.size + 1 := by simp
        rw [hsz1] at HBK
        rw [hsz2] at HAO
        clear hsz1 hsz2
        go_wp2_with fail
        go_upto_if 71 with fail
        go_cut [71] (fun s71 wx => s71 = .bool false ∧ Below wr.heap.size wr wx)
        case first =>
          go_region_held3 (fun w' => w'.cell? ⟨q, 0, none⟩ = some (.int .i64 z0)) (first | go_keep | exact (HB6.out.cell (p := ⟨q, 0, none⟩) hqw).trans hcell | exact (HQ5.out.2.cell (p := ⟨q, 0, none⟩) hqw).trans hcell) (first | (go_at_call 13; refine (give_twice _ b r a c g m cap sp f A6 (j + 1) c6 (zs ++ [z0]) (BMid.below HBj.out HB6.out) HI6.out HC6.out.1 HC6.out.2 (fun b o he _ hS => by have := HA6.out b o he; have := HL.out; unfold BrdS at hS; omega) (hT.out.twice HZ0.out)).mono ?_; rintro e w7 ⟨rfl, rfl⟩) | (go_at_call 11; refine (free_tk _ b r a c g m cap sp f j (BMid.below HBj.out HB6.out) hT.out.2.2.2.2).mono ?_; rintro e w7 ⟨rfl, qq, rfl⟩) | (refine step_append_rd (by rfl) (.tmp 54) (.tmp 55) 34 (by rfl) wr.heap.size 3 i0 (.int .i64 0) 1 8 Try.underlying34 hi hz0 hz1 hz2 rfl (by omega) (.slice (some ⟨wr.heap.size, 0, none⟩) 0 0) 0 [] (by rfl) HCO.out (some ⟨q, 0, none⟩) j cq (by rfl) (zs.map (.int .i64)) HZl.out HCR.out (intsV_one _) (by omega) (by unfold maxLen; omega) (by first | omega | (simp; done) | (simp; omega)) ?_; intro v5 w5 hown5 hgr5 hnew5; have HQ5 := Lib.hid (dup56 (w0 := (wr.alloc (.cells #[] 3)).drew) HCB.out (by first | omega | (simp; done) | (simp; omega)) (by omega) hown5 hgr5); have hs5 := HQ5.out.2.size; clear hown5 hgr5 hnew5) | (refine step_append_rd (by rfl) (.tmp 54) (.tmp 55) 34 (by rfl) wr.heap.size 3 i0 (.int .i64 0) 1 8 Try.underlying34 hi hz0 hz1 hz2 rfl (by omega) (.slice (some ⟨wr.heap.size, 0, none⟩) 0 0) 0 [] (by rfl) HBO.out (some ⟨q, 0, none⟩) j cq (by rfl) (zs.map (.int .i64)) HZl.out HBR.out (intsV_one _) (by omega) (by unfold maxLen; omega) (by first | omega | (simp; done) | (simp; omega)) ?_; intro v5 w5 hown5 hgr5 hnew5; have HQ5 := Lib.hid (dup56 (w0 := ((wr.alloc (.cells #[] 3)).alloc (.cells #[.int .i64 z0] 3)).drew) HBB.out (by first | omega | (simp; done) | (simp; omega)) (by omega) hown5 hgr5); have HK5 := Lib.hid (lit_apart HBK.out (by omega) hgr5 hnew5); have hs5 := HQ5.out.2.size; clear hown5 hgr5 hnew5) | (refine step_append_rd (by rfl) (.tmp 54) (.tmp 55) 34 (by rfl) wr.heap.size 3 i0 (.int .i64 0) 1 8 Try.underlying34 hi hz0 hz1 hz2 rfl (by omega) (.slice (some ⟨wr.heap.size + 1, 0, none⟩) 0 0) 0 [] (by rfl) HAO.out (some ⟨q, 0, none⟩) j cq (by rfl) (zs.map (.int .i64)) HZl.out HAR.out (intsV_one _) (by omega) (by unfold maxLen; omega) (by first | omega | (simp; done) | (simp; omega)) ?_; intro v5 w5 hown5 hgr5 hnew5; have HQ5 := Lib.hid (dup56 (w0 := ((wr.alloc (.cells #[.int .i64 z0] 3)).alloc (.cells #[] 3)).drew) HAB.out (by first | omega | (simp; done) | (simp; omega)) (by omega) hown5 hgr5); have HK5 := Lib.hid (lit_apart HAK.out (by omega) hgr5 hnew5); have hs5 := HQ5.out.2.size; clear hown5 hgr5 hnew5) | (refine step_append_rd (by rfl) (.tmp 56) (.tmp 60) 34 (by rfl) wr.heap.size 3 i0 (.int .i64 0) 1 8 Try.underlying34 hi hz0 hz1 hz2 rfl (by omega) v5 j (zs.map (.int .i64)) (by rfl) (HQ5.out.1.alloc _) (some ⟨w5.heap.size, 0, none⟩) 1 1 (by rfl) [.int .i64 z0] rfl (RdAt.of_blk (Blk.new w5 #[.int .i64 z0] 3)) (fun u hu => by rw [List.mem_singleton.1 hu]; rfl) (by omega) (by unfold maxLen; omega) (by first | omega | (simp; done) | (simp; omega)) ?_; intro v6 w6 hown6 hgr6 hnew6; have HB6 := Lib.hid (own_below (HQ5.out.2.alloc (by omega) _) (HQ5.out.1.alloc (.cells #[.int .i64 z0] 3)) (by simp; omega) hgr6); obtain ⟨A6, c6, rfl, HI6, hc6, hA6⟩ := twice_at hown6 (hT.out.bounds (by omega)) HZ0.out; have HI6 := Lib.hid HI6; have HC6 := Lib.hid hc6; have HA6 := Lib.hid hA6; clear hown6 hgr6 hnew6 hc6 hA6) | (refine step_append_rd (by rfl) (.tmp 56) (.tmp 60) 34 (by rfl) wr.heap.size 3 i0 (.int .i64 0) 1 8 Try.underlying34 hi hz0 hz1 hz2 rfl (by omega) v5 j (zs.map (.int .i64)) (by rfl) HQ5.out.1 (some ⟨wr.heap.size, 0, none⟩) 1 1 (by rfl) [.int .i64 z0] rfl (RdAt.of_blk HK5.out.1) (fun u hu => by rw [List.mem_singleton.1 hu]; rfl) (by omega) (by unfold maxLen; omega) (by first | omega | (simp; done) | (simp; omega)) ?_; intro v6 w6 hown6 hgr6 hnew6; have HB6 := Lib.hid (own_below HQ5.out.2 HQ5.out.1 (by omega) hgr6); obtain ⟨A6, c6, rfl, HI6, hc6, hA6⟩ := twice_at hown6 (hT.out.bounds (by omega)) HZ0.out; have HI6 := Lib.hid HI6; have HC6 := Lib.hid hc6; have HA6 := Lib.hid hA6; clear hown6 hgr6 hnew6 hc6 hA6) | (refine step_append_rd (by rfl) (.tmp 56) (.tmp 60) 34 (by rfl) wr.heap.size 3 i0 (.int .i64 0) 1 8 Try.underlying34 hi hz0 hz1 hz2 rfl (by omega) v5 j (zs.map (.int .i64)) (by rfl) HQ5.out.1 (some ⟨wr.heap.size + 1, 0, none⟩) 1 1 (by rfl) [.int .i64 z0] rfl (RdAt.of_blk HK5.out.1) (fun u hu => by rw [List.mem_singleton.1 hu]; rfl) (by omega) (by unfold maxLen; omega) (by first | omega | (simp; done) | (simp; omega)) ?_; intro v6 w6 hown6 hgr6 hnew6; have HB6 := Lib.hid (own_below HQ5.out.2 HQ5.out.1 (by omega) hgr6); obtain ⟨A6, c6, rfl, HI6, hc6, hA6⟩ := twice_at hown6 (hT.out.bounds (by omega)) HZ0.out; have HI6 := Lib.hid HI6; have HC6 := Lib.hid hc6; have HA6 := Lib.hid hA6; clear hown6 hgr6 hnew6 hc6 hA6))
          all_goals
            go_wp2
            go_meet
            case rel => exact ⟨by rw [HWr.out]; simp, below_drewN HB6.out _⟩
        case rest =>
          obtain ⟨rfl, hbx⟩ := hcut
          have hT' := hT.out
          have HBc := Lib.hid (BMid.below HBj.out (hbx.mono (Nat.le_refl _)))
          have HIc := Lib.hid (HI.out.below hbx)
          have HBelc := Lib.hid (bel_next HBel.out hbx (Nat.le_refl _))
          have hszc : w2.heap.size ≤ wc.heap.size := Nat.le_trans hsz hbx.size
          obtain ⟨h, hh⟩ : ∃ h, j / 2 = h := ⟨_, rfl⟩
          have hhi : (j : Int) / 2 = (h : Int) := by omega
          have hhj : h < j := by omega
          have hcutI : IntsAt wc (some ⟨q, 0, none⟩) h (zs.take h) := by
            obtain ⟨h1, h2, h3⟩ := HIc.out
            obtain ⟨b', o', he, hb', hc⟩ := h3.resolve_left (by omega)
            cases he
            exact ⟨by rw [List.length_take]; omega, fun z hz => h2 z (List.mem_of_mem_take hz), .inr ⟨q, 0, rfl, hb', fun i hi => by rw [hc i (by omega), List.getElem?_take_of_lt hi]⟩⟩
          have HCi := Lib.hid hcutI
          have hcnt := cntF_clrL hT' h (by omega)
          have hcnt' : cntF (clrL f (zs.take h)) m = j - h := by omega
          have HCnt := Lib.hid hcnt'
          have HTr := Lib.hid (hT'.rest_tk h (by omega) hcnt')
          have HRest := Lib.hid (fun i => hT'.rest h i)
          have hjh : (m : Int) - ((j - h : Nat) : Int) = (m : Int) - (j : Int) + (h : Int) := by omega
          have HJh := Lib.hid hjh
          have hq1 := hq.1
          have hq2 := hq.2.1
          have hq3 := hq.2.2.1
          have hq4 := hq.2.2.2
          clear hbx hcutI hcnt hcnt' hjh hT' hcell hq hh
          go_wp2_with fail
          refine (give_fine _ b r a c g m cap sp f (some ⟨q, 0, none⟩) h cq (zs.take h) HBc.out HCi.out (by omega) (by unfold maxLen; omega) (fun b o he _ hS => by cases he; have := HL.out; unfold BrdS at hS; omega) (hT.out.half h)).mono ?_
          rintro e w7 ⟨rfl, hb7, ho7⟩
          have HB7 := Lib.hid hb7
          have hsz7 : w2.heap.size ≤ w7.heap.size := Nat.le_trans hszc ho7.size
          have HO7 := Lib.hid ho7
          have HI7 := Lib.hid (HIc.out.only ho7 (fun b o he _ hS => by cases he; have := HL.out; unfold BrdS at hS; omega))
          have HBel7 := Lib.hid (bel_only HBelc.out ho7 (Nat.le_refl _) (fun i => BrdS_ge HS.out.2.1 HS.out.2.2.1 HS.out.2.2.2.1 HS.out.2.2.2.2))
          clear hb7 ho7
          go_wp2_with fail
          refine (free_tk _ b r a c g m cap sp _ (j - h) HB7.out HCnt.out).mono ?_
          rintro e w8 ⟨rfl, qq, hw8⟩
          rw [HJh.out]
          have HB8 := Lib.hid (show BoardAt w8 b r a c g m cap sp (clrL f (zs.take h)) by rw [hw8]; exact BMid.drewN HB7.out qq)
          have HI8 := Lib.hid (show IntsAt w8 (some ⟨q, 0, none⟩) j zs by rw [hw8]; exact HI7.out.of_heap (Nat.le_refl _) (fun _ _ _ _ => rfl))
          have HBel8 := Lib.hid (show Below w.heap.size w w8 by rw [hw8]; exact below_drewN HBel7.out qq)
          have hsz8 : w2.heap.size ≤ w8.heap.size := by rw [hw8]; exact hsz7
          clear hw8
          go_wp2_with fail
          go_loopg [14] j (fun qm i wx => ∃ t : Nat, qm + t = j ∧ i = .int .i64 t ∧ w8 = wx)
          case atStart => exact ⟨0, by omega, rfl, rfl⟩
          case round =>
            obtain ⟨t, htj, rfl, rfl⟩ := hrel
            obtain ⟨b', o', he, hb', hc⟩ := HI8.out.2.2.resolve_left (by omega)
            cases he
            have hzl := HI8.out.1
            by_cases hlt2 : t < j
            · have hct := hc t hlt2
              obtain ⟨z, hzt⟩ : ∃ z, zs[t]? = some z := ⟨zs[t]'(by omega), List.getElem?_eq_getElem (by omega)⟩
              rw [hzt] at hct
              simp only [Option.getD_some, Nat.zero_add] at hct
              have hzb := hT.out.2.1 z (List.mem_of_getElem? hzt)
              obtain ⟨x, rfl⟩ := Int.eq_ofNat_of_zero_le hzb.1
              have hval : hasB m (clrL f (zs.take h)) (x : Int) = decide (h ≤ t) := by
                rw [hasB_nat m _ x (by omega), HRest.out x]
                by_cases hth : h ≤ t
                · rw [decide_eq_true hth]
                  refine (memB_iff _ _).2 (List.mem_of_getElem? (i := t - h) ?_)
                  rw [List.getElem?_drop, show h + (t - h) = t by omega, hzt]
                · rw [decide_eq_false hth]
                  cases hmd : memB (zs.drop h) (x : Int)
                  · rfl
                  · have h1 := hT.out.apart h hmd
                    rw [(memB_iff _ _).2 (List.mem_of_getElem? (i := t) (by rw [List.getElem?_take_of_lt (by omega), hzt]))] at h1
                    cases h1
              by_cases hth : h ≤ t
              · rw [decide_eq_true hth] at hval
                have HVal := Lib.hid hval
                clear hc hzt hzb hval
                go_wp2_with fail
                refine (is_calls _ b r a c g m cap sp _ (x : Int) HB8.out).mono ?_
                rintro e w9 ⟨rfl, rfl⟩
                rw [HVal.out]
                go_wp2
                go_roundg (gk - 1)
                case measure => omega
                case rel => exact ⟨t + 1, by omega, by go_num, rfl⟩
              · rw [decide_eq_false hth] at hval
                have HVal := Lib.hid hval
                clear hc hzt hzb hval
                go_wp2_with fail
                refine (is_calls _ b r a c g m cap sp _ (x : Int) HB8.out).mono ?_
                rintro e w9 ⟨rfl, rfl⟩
                rw [HVal.out]
                go_wp2
                go_roundg (gk - 1)
                case measure => omega
                case rel => exact ⟨t + 1, by omega, by go_num, rfl⟩
            · obtain rfl : t = j := by omega
              have hdrop : IntsAt w8 (some ⟨q, h, none⟩) (t - h) (zs.drop h) := by
                obtain ⟨h1, h2, _⟩ := HI8.out
                exact ⟨by rw [List.length_drop, h1], fun z hz => h2 z (List.mem_of_mem_drop hz), .inr ⟨q, h, rfl, hb', fun i hi => by
                  have := hc (h + i) (by omega)
                  rw [Nat.zero_add] at this
                  rw [this, List.getElem?_drop]⟩⟩
              have HDr := Lib.hid hdrop
              have hcell : w8.cell? ⟨q, 0, none⟩ = some (.int .i64 (zs[0]?.getD 0)) := hc 0 (by omega)
              obtain ⟨y, hy⟩ : ∃ y, zs[0]?.getD 0 = y := ⟨_, rfl⟩
              have HYe := Lib.hid hy
              rw [hy] at hcell
              have HC8 := Lib.hid hcell
              have hne : ¬ cq = h := by omega
              have hall := clrL_all HTr.out
              have HAll := Lib.hid hall
              have hg2 : GvTo m (clrL f (zs.take h)) (zs.drop h) (zs.drop h).length := by
                have := HTr.out.half (t - h)
                rw [List.take_of_length_le (Nat.le_of_eq HTr.out.1)] at this
                exact this
              have HG2 := Lib.hid hg2
              clear hc hdrop hy hall hg2 hcell
              go_wp2_with fail
              refine (give_fine _ b r a c g m cap sp _ (some ⟨q, h, none⟩) (t - h) (cq - h) (zs.drop h) HB8.out HDr.out (by omega) (by unfold maxLen; omega) (fun b o he _ hS => by cases he; have := HL.out; unfold BrdS at hS; omega) HG2.out).mono ?_
              rintro e w9 ⟨rfl, hb9, ho9⟩
              rw [HAll.out] at hb9
              have HB9 := Lib.hid hb9
              have hsz9 : w2.heap.size ≤ w9.heap.size := Nat.le_trans hsz8 ho9.size
              have hc9 := (ho9.cell (p := ⟨q, 0, none⟩) (by have := hb'; exact this) (by have := HL.out; unfold BrdS; simp only; omega)).trans HC8.out
              have HBel9 := Lib.hid (bel_only HBel8.out ho9 (Nat.le_refl _) (fun i => BrdS_ge HS.out.2.1 HS.out.2.2.1 HS.out.2.2.2.1 HS.out.2.2.2.2))
              have HZe := Lib.hid (cntF_none m)
              clear hb9 ho9
              go_wp2_with fail
              refine (free_tk _ b r a c g m cap sp _ 0 HB9.out HZe.out).mono ?_
              rintro e w10 ⟨rfl, q2, hw10⟩
              rw [show (m : Int) - ((0 : Nat) : Int) = (m : Int) by omega]
              have HB10 := Lib.hid (show BoardAt w10 b r a c g m cap sp (fun _ => false) by rw [hw10]; exact BMid.drewN HB9.out q2)
              have hc10 : w10.cell? ⟨q, 0, none⟩ = some (.int .i64 y) := by rw [hw10]; exact hc9
              have HBel10 := Lib.hid (show Below w.heap.size w w10 by rw [hw10]; exact below_drewN HBel9.out q2)
              have hszw : w2.heap.size ≤ w10.heap.size := by rw [hw10]; exact hsz9
              clear hw10 hc9
              have hal := (Below.refl w10.heap.size w10).alloc (Nat.le_refl _) (.cells #[.int .i64 y] 3)
              have HBa := Lib.hid (BMid.below HB10.out hal)
              have HBela := Lib.hid (HBel10.out.alloc HBel10.out.size (.cells #[.int .i64 y] 3))
              have hya : IntsAt (w10.alloc (.cells #[.int .i64 y] 3)) (some ⟨w10.heap.size, 0, none⟩) 1 [y] :=
                ⟨rfl, fun z hz => by rw [List.mem_singleton.1 hz]; have := HI8.out.at 0; rw [HYe.out] at this; exact this, .inr ⟨_, 0, rfl, by simp, fun i hi => by
                  obtain rfl : i = 0 := by omega
                  exact (Blk.new w10 #[.int .i64 y] 3).cell 0⟩⟩
              have HYa := Lib.hid hya
              have hbad : ¬ GvTo m (fun _ => false) [y] [y].length := fun hg => by
                have := (hg 0 y (by simp) rfl).1
                unfold hasB at this
                simp at this
              have HBad := Lib.hid hbad
              clear hal hya hbad
              go_wp2_with fail
              refine (give_twice _ b r a c g m cap sp _ (some ⟨w10.heap.size, 0, none⟩) 1 1 [y] HBa.out HYa.out (by omega) (by unfold maxLen; omega) (fun b o he _ hS => by cases he; have := HL.out; unfold BrdS at hS; omega) HBad.out).mono ?_
              rintro e w11 ⟨rfl, rfl⟩
              go_wp2
              go_ret
              exact ⟨rfl, HBela.out⟩
end Go.Proofs.Ytajfigihliafeaa
