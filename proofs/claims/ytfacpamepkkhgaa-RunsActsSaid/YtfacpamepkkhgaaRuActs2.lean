/- The walk of RunsActs. -/
import Derived.Test.YtfacpamepkkhgaaRuActs1
namespace Go.Proofs.Ytfacpamepkkhgaa
open Go.RowKit
set_option linter.unusedVariables false

set_option maxRecDepth 8000 in
set_option maxHeartbeats 16000000 in
theorem racts_walk (v : Value) (q : Option Addr × Nat × Nat) (w : World) (hA : ActsAt w v q) :
    Calls Try.prog 6 #[v] w fun e w' => e = .returned (.bool true) ∧ Below w.heap.size w w' := by
  obtain ⟨a, len, cap⟩ := q
  obtain ⟨rfl, hlen, hrows⟩ := hA
  have hlen : len ≤ 9223372036854775807 := hlen
  have HR := Lib.hid hrows
  clear hrows
  by_cases hl : 25 < len
  · go_enter Try.func6, Try.ntmps6
    go_wp2_with fail
    refine (awake_calls16 _).mono ?_
    rintro e w1 ⟨rfl, hb1⟩
    have HB1 := Lib.hid hb1
    clear hb1
    go_wp2_with fail
    refine (awake_calls16 _).mono ?_
    rintro e w2 ⟨rfl, hb2⟩
    have HB2 := Lib.hid (bel_next HB1.out hb2 (Nat.le_refl _))
    clear hb2
    go_wp2
    go_ret
    exact ⟨rfl, HB2.out⟩
  have hl2 : len ≤ 25 := by omega
  clear hl
  go_enter Try.func6, Try.ntmps6
  go_wp2_with fail
  refine (awake_calls16 _).mono ?_
  rintro e w1 ⟨rfl, hb1⟩
  have HB1 := Lib.hid hb1
  clear hb1
  go_wp2_with fail
  refine (new16_calls _).mono ?_
  rintro e w2 ⟨L, g0, c0, rfl, hla, hL, hg, hb2⟩
  have hb1s := HB1.out.size
  have HLa := Lib.hid hla
  have HB2 := Lib.hid (bel_next HB1.out hb2 (Nat.le_refl _))
  have hb2s := hb2.size
  clear hla hb2
  go_wp2_with fail
  refine (rnew_calls _).mono ?_
  rintro e w3 ⟨R, T, rfl, hra, hR, hT, hb3⟩
  have HBo := Lib.hid (show Both w w3 L g0 c0 [(1, 4095)] R T bit0 by
    have hll := HLa.out.lt
    exact ⟨HLa.out.below hb3, hra, by omega, by omega, bel_next HB2.out hb3 (Nat.le_refl _)⟩)
  clear hra hb3 hb2s hL hg hR hT hb1s HLa HB2 HB1
  go_wp2_with fail
  go_loopg [5, 6, 7, 8, 9, 10, 11, 12, 13, 14] len (fun gk i s6 s7 s8 s9 s10 s11 s12 s13 s14 wr => ∃ (j : Nat) (l : List (Nat × Nat)) (f : Nat → Bool) (g cap : Nat), gk + j = len ∧ i = .int .i64 j ∧ Hid (RelF l f) ∧ Hid (Both w wr L g cap l R T f))
  case atStart => exact ⟨0, _, _, g0, c0, by omega, rfl, Lib.hid (rel_first), HBo⟩
  case round =>
    obtain ⟨j, l, f, g, cp, hj, rfl, hrel, hbo⟩ := hrel
    by_cases hlt : j < len
    · obtain ⟨b, o, ha, hbl, hcells⟩ := (HR.out).resolve_left (by show ¬ len = 0; omega)
      obtain ⟨kd, x, n, ⟨c0, c1, c2⟩, hkd, hx, hn⟩ := hcells j hlt
      have hbl : b < w.heap.size := hbl
      have ha : a = some ⟨b, o, none⟩ := ha
      have d0 := (hbo.out.bel.cell (p := ⟨b, o + j * 3, none⟩) hbl).trans c0
      have d1 := (hbo.out.bel.cell (p := ⟨b, o + j * 3 + 1, none⟩) hbl).trans c1
      have d2 := (hbo.out.bel.cell (p := ⟨b, o + j * 3 + 2, none⟩) hbl).trans c2
      clear hcells c0 c1 c2 hbl
      subst ha
      go_upto_block 2 with fail
      go_cut [7] (fun s7 wx => s7 = .bool true ∧ ∃ l' f' g' cap', RelF l' f' ∧ Both w wx L g' cap' l' R T f')
      case first =>
        generalize hW0 : wr.alloc (.cells #[.int .i64 kd, .int .i64 x, .int .i64 n] 44) = W0
        have hb0 : Below wr.heap.size wr W0 := by rw [← hW0]; exact (Below.refl _ _).alloc (Nat.le_refl _) _
        have hbl0 : Blk W0 wr.heap.size [.int .i64 kd, .int .i64 x, .int .i64 n] 44 := by rw [← hW0]; exact Blk.new wr #[.int .i64 kd, .int .i64 x, .int .i64 n] 44
        have hT : Trio w W0 L g cp l R T f wr.heap.size [.int .i64 kd, .int .i64 x, .int .i64 n] := by
          have e0 := hbo.out.bel.size
          have e1 := hbo.out.land.lt
          have e2 := hbo.out.ref.lt
          exact ⟨hbo.out.below hb0, hbl0, by omega⟩
        replace hT := Lib.hid hT
        clear hW0 hb0 hbl0 d0 d1 d2 hbo HBo
        generalize wr.heap.size = A at *
        have q0 := hT.out.c0
        have q1 := hT.out.c1
        have q2 := hT.out.c2
        by_cases k0 : kd = 0
        · subst k0
          obtain ⟨y, c, m, f', hm, hPA, hRA⟩ := take_flat hrel.out n
          have HM := Lib.hid hm
          clear hm
          go_wp2_with fail
          refine (take16_calls _ L g cp l n hT.out.both.land hrel.out.1 (by have := hrel.out.1.len; omega) hn).mono ?_
          rintro e w4 hr
          obtain ⟨rfl, hpa⟩ := hPA _ _ _ _ _ hr
          obtain ⟨g4, cp4, hT4⟩ := hT.out.prog hpa
          have HT4 := Lib.hid hT4
          have q3 := HT4.out.c2
          clear hr hpa hT4 hT q0 q1 q2
          go_wp2_with fail
          refine (rtake_calls _ R T f l n HT4.out.both.ref hrel.out hn).mono ?_
          rintro e w5 hr
          obtain ⟨rfl, hra⟩ := hRA _ _ _ _ hr
          have HT5 := Lib.hid (HT4.out.doc hra)
          clear hr hra q3
          go_wp2
          go_meet
          case rel => exact ⟨rfl, m, f', _, _, HM.out, HT5.out.both⟩
        · have k0' : (kd == 0) = false := by simpa using k0
          clear k0
          by_cases k1 : kd = 1
          · subst k1

            obtain ⟨c, m, f', hm, hPA, hRA⟩ := claim_flat hrel.out x n
            have HM := Lib.hid hm
            clear hm
            go_wp2_with fail
            refine wp_dag [(63, .pointer (some ⟨L, 0, none⟩)), (64, .pointer (some ⟨A, 1, none⟩)), (65, .int .i64 x), (66, .pointer (some ⟨A, 2, none⟩)), (67, .int .i64 n), (68, .int .i64 c), (69, .pointer (some ⟨R, 0, none⟩)), (70, .pointer (some ⟨A, 1, none⟩)), (71, .int .i64 x), (72, .pointer (some ⟨A, 2, none⟩)), (73, .int .i64 n), (74, .int .i64 c), (75, .bool true), (7, .bool true)] (fun g0 w' => ∃ g' cap', Trio w w' L g' cap' (if g0 5 = true then m else l) R T (if g0 11 = true then f' else f) A [.int .i64 1, .int .i64 x, .int .i64 n]) (by kernel_rfl) (by kernel_rfl) (by kernel_rfl) (by kernel_rfl) ⟨_, _, hT.out.drew⟩ ?_ ?_
            case refine_1 =>
              refine dag_cons (dag_val (v := .pointer (some ⟨L, 0, none⟩)) (by kernel_rfl) (by kernel_rfl) (fun g0 w' h => by kernel_rfl) (fun g0 w' h => h)) ?_
              refine dag_cons (dag_val (v := .pointer (some ⟨A, 1, none⟩)) (by kernel_rfl) (by kernel_rfl) (fun g0 w' h => by kernel_rfl) (fun g0 w' h => h)) ?_
              refine dag_cons (dag_load (t := 3) (d := .int .i64) (x := .tmp 64) (p := ⟨A, 1, none⟩) (v := .int .i64 x) (by kernel_rfl) (by kernel_rfl) (by kernel_rfl) (by kernel_rfl) Try.underlying3 rfl (fun g0 w' h => by obtain ⟨g', cap', h⟩ := h; exact h.c1) (fun g0 w' h => h)) ?_
              refine dag_cons (dag_val (v := .pointer (some ⟨A, 2, none⟩)) (by kernel_rfl) (by kernel_rfl) (fun g0 w' h => by kernel_rfl) (fun g0 w' h => h)) ?_
              refine dag_cons (dag_load (t := 3) (d := .int .i64) (x := .tmp 66) (p := ⟨A, 2, none⟩) (v := .int .i64 n) (by kernel_rfl) (by kernel_rfl) (by kernel_rfl) (by kernel_rfl) Try.underlying3 rfl (fun g0 w' h => by obtain ⟨g', cap', h⟩ := h; exact h.c2) (fun g0 w' h => h)) ?_
              refine dag_cons (dag_call (f := 13) (args := #[.pointer (some ⟨L, 0, none⟩), .int .i64 x, .int .i64 n]) (v := .int .i64 c) (by kernel_rfl) (by kernel_rfl) (fun w' => by kernel_rfl) (fun g0 w' hg h => ?_)) ?_
              case refine_1 =>
                obtain ⟨g', cap', h⟩ := h
                have hg : g0 5 = false := hg
                rw [show (if g0 5 = true then m else l) = l by rw [hg]; rfl] at h
                refine (claim16_calls _ L g' cap' l x n h.both.land hrel.out.1 hx hn).mono ?_
                rintro e w5 hr
                obtain ⟨he, hpa⟩ := hPA _ _ _ _ _ hr
                exact ⟨he, h.prog hpa⟩
              refine dag_cons (dag_val (v := .pointer (some ⟨R, 0, none⟩)) (by kernel_rfl) (by kernel_rfl) (fun g0 w' h => by kernel_rfl) (fun g0 w' h => h)) ?_
              refine dag_cons (dag_val (v := .pointer (some ⟨A, 1, none⟩)) (by kernel_rfl) (by kernel_rfl) (fun g0 w' h => by kernel_rfl) (fun g0 w' h => h)) ?_
              refine dag_cons (dag_load (t := 3) (d := .int .i64) (x := .tmp 70) (p := ⟨A, 1, none⟩) (v := .int .i64 x) (by kernel_rfl) (by kernel_rfl) (by kernel_rfl) (by kernel_rfl) Try.underlying3 rfl (fun g0 w' h => by obtain ⟨g', cap', h⟩ := h; exact h.c1) (fun g0 w' h => h)) ?_
              refine dag_cons (dag_val (v := .pointer (some ⟨A, 2, none⟩)) (by kernel_rfl) (by kernel_rfl) (fun g0 w' h => by kernel_rfl) (fun g0 w' h => h)) ?_
              refine dag_cons (dag_load (t := 3) (d := .int .i64) (x := .tmp 72) (p := ⟨A, 2, none⟩) (v := .int .i64 n) (by kernel_rfl) (by kernel_rfl) (by kernel_rfl) (by kernel_rfl) Try.underlying3 rfl (fun g0 w' h => by obtain ⟨g', cap', h⟩ := h; exact h.c2) (fun g0 w' h => h)) ?_
              refine dag_cons (dag_call (f := 16) (args := #[.pointer (some ⟨R, 0, none⟩), .int .i64 x, .int .i64 n, .bool true]) (v := .int .i64 c) (by kernel_rfl) (by kernel_rfl) (fun w' => by kernel_rfl) (fun g0 w' hg h => ?_)) ?_
              case refine_1 =>
                obtain ⟨g', cap', h⟩ := h
                have hg : g0 11 = false := hg
                rw [show (if g0 11 = true then f' else f) = f by rw [hg]; rfl] at h
                refine (turn16_calls _ R T f x n true h.both.ref hx hn).mono ?_
                rintro e w5 hr
                obtain ⟨he, hpa⟩ := hRA _ _ _ _ hr
                exact ⟨he, g', cap', h.doc hpa⟩
              refine dag_cons (dag_eq (t := 3) (t' := 3) (x := .tmp 68) (y := .tmp 74) (k := .i64) (c := c) (by kernel_rfl) (by kernel_rfl) (by kernel_rfl) (by kernel_rfl) (by kernel_rfl) (fun g0 w' h => h)) ?_
              refine dag_cons (dag_val (v := .bool true) (by kernel_rfl) (by kernel_rfl) (fun g0 w' h => by kernel_rfl) (fun g0 w' h => h)) ?_
              exact dag_nil
            case refine_2 =>
              rintro w5 ⟨g5, cap5, h5⟩
              have H5 := Lib.hid h5
              clear h5
              simp only [putAll, List.foldl_cons, List.foldl_nil]
              go_wp2
              go_meet
              case rel => exact ⟨rfl, m, f', g5, cap5, HM.out, H5.out.both⟩

          · have k1' : (kd == 1) = false := by simpa using k1
            clear k1
            by_cases k2 : kd = 2
            · subst k2

              obtain ⟨c, m, f', hm, hPA, hRA⟩ := give_flat hrel.out x n
              have HM := Lib.hid hm
              clear hm
              go_wp2_with fail
              refine wp_dag [(78, .pointer (some ⟨L, 0, none⟩)), (79, .pointer (some ⟨A, 1, none⟩)), (80, .int .i64 x), (81, .pointer (some ⟨A, 2, none⟩)), (82, .int .i64 n), (83, .int .i64 c), (84, .pointer (some ⟨R, 0, none⟩)), (85, .pointer (some ⟨A, 1, none⟩)), (86, .int .i64 x), (87, .pointer (some ⟨A, 2, none⟩)), (88, .int .i64 n), (89, .int .i64 c), (90, .bool true), (7, .bool true)] (fun g0 w' => ∃ g' cap', Trio w w' L g' cap' (if g0 5 = true then m else l) R T (if g0 11 = true then f' else f) A [.int .i64 2, .int .i64 x, .int .i64 n]) (by kernel_rfl) (by kernel_rfl) (by kernel_rfl) (by kernel_rfl) ⟨_, _, hT.out.drew⟩ ?_ ?_
              case refine_1 =>
                refine dag_cons (dag_val (v := .pointer (some ⟨L, 0, none⟩)) (by kernel_rfl) (by kernel_rfl) (fun g0 w' h => by kernel_rfl) (fun g0 w' h => h)) ?_
                refine dag_cons (dag_val (v := .pointer (some ⟨A, 1, none⟩)) (by kernel_rfl) (by kernel_rfl) (fun g0 w' h => by kernel_rfl) (fun g0 w' h => h)) ?_
                refine dag_cons (dag_load (t := 3) (d := .int .i64) (x := .tmp 79) (p := ⟨A, 1, none⟩) (v := .int .i64 x) (by kernel_rfl) (by kernel_rfl) (by kernel_rfl) (by kernel_rfl) Try.underlying3 rfl (fun g0 w' h => by obtain ⟨g', cap', h⟩ := h; exact h.c1) (fun g0 w' h => h)) ?_
                refine dag_cons (dag_val (v := .pointer (some ⟨A, 2, none⟩)) (by kernel_rfl) (by kernel_rfl) (fun g0 w' h => by kernel_rfl) (fun g0 w' h => h)) ?_
                refine dag_cons (dag_load (t := 3) (d := .int .i64) (x := .tmp 81) (p := ⟨A, 2, none⟩) (v := .int .i64 n) (by kernel_rfl) (by kernel_rfl) (by kernel_rfl) (by kernel_rfl) Try.underlying3 rfl (fun g0 w' h => by obtain ⟨g', cap', h⟩ := h; exact h.c2) (fun g0 w' h => h)) ?_
                refine dag_cons (dag_call (f := 10) (args := #[.pointer (some ⟨L, 0, none⟩), .int .i64 x, .int .i64 n]) (v := .int .i64 c) (by kernel_rfl) (by kernel_rfl) (fun w' => by kernel_rfl) (fun g0 w' hg h => ?_)) ?_
                case refine_1 =>
                  obtain ⟨g', cap', h⟩ := h
                  have hg : g0 5 = false := hg
                  rw [show (if g0 5 = true then m else l) = l by rw [hg]; rfl] at h
                  refine (give16_calls _ L g' cap' l x n h.both.land hrel.out.1 (by have := hrel.out.1.len; omega) hx hn).mono ?_
                  rintro e w5 hr
                  obtain ⟨he, hpa⟩ := hPA _ _ _ _ _ hr
                  exact ⟨he, h.prog hpa⟩
                refine dag_cons (dag_val (v := .pointer (some ⟨R, 0, none⟩)) (by kernel_rfl) (by kernel_rfl) (fun g0 w' h => by kernel_rfl) (fun g0 w' h => h)) ?_
                refine dag_cons (dag_val (v := .pointer (some ⟨A, 1, none⟩)) (by kernel_rfl) (by kernel_rfl) (fun g0 w' h => by kernel_rfl) (fun g0 w' h => h)) ?_
                refine dag_cons (dag_load (t := 3) (d := .int .i64) (x := .tmp 85) (p := ⟨A, 1, none⟩) (v := .int .i64 x) (by kernel_rfl) (by kernel_rfl) (by kernel_rfl) (by kernel_rfl) Try.underlying3 rfl (fun g0 w' h => by obtain ⟨g', cap', h⟩ := h; exact h.c1) (fun g0 w' h => h)) ?_
                refine dag_cons (dag_val (v := .pointer (some ⟨A, 2, none⟩)) (by kernel_rfl) (by kernel_rfl) (fun g0 w' h => by kernel_rfl) (fun g0 w' h => h)) ?_
                refine dag_cons (dag_load (t := 3) (d := .int .i64) (x := .tmp 87) (p := ⟨A, 2, none⟩) (v := .int .i64 n) (by kernel_rfl) (by kernel_rfl) (by kernel_rfl) (by kernel_rfl) Try.underlying3 rfl (fun g0 w' h => by obtain ⟨g', cap', h⟩ := h; exact h.c2) (fun g0 w' h => h)) ?_
                refine dag_cons (dag_call (f := 16) (args := #[.pointer (some ⟨R, 0, none⟩), .int .i64 x, .int .i64 n, .bool false]) (v := .int .i64 c) (by kernel_rfl) (by kernel_rfl) (fun w' => by kernel_rfl) (fun g0 w' hg h => ?_)) ?_
                case refine_1 =>
                  obtain ⟨g', cap', h⟩ := h
                  have hg : g0 11 = false := hg
                  rw [show (if g0 11 = true then f' else f) = f by rw [hg]; rfl] at h
                  refine (turn16_calls _ R T f x n false h.both.ref hx hn).mono ?_
                  rintro e w5 hr
                  obtain ⟨he, hpa⟩ := hRA _ _ _ _ hr
                  exact ⟨he, g', cap', h.doc hpa⟩
                refine dag_cons (dag_eq (t := 3) (t' := 3) (x := .tmp 83) (y := .tmp 89) (k := .i64) (c := c) (by kernel_rfl) (by kernel_rfl) (by kernel_rfl) (by kernel_rfl) (by kernel_rfl) (fun g0 w' h => h)) ?_
                refine dag_cons (dag_val (v := .bool true) (by kernel_rfl) (by kernel_rfl) (fun g0 w' h => by kernel_rfl) (fun g0 w' h => h)) ?_
                exact dag_nil
              case refine_2 =>
                rintro w5 ⟨g5, cap5, h5⟩
                have H5 := Lib.hid h5
                clear h5
                simp only [putAll, List.foldl_cons, List.foldl_nil]
                go_wp2
                go_meet
                case rel => exact ⟨rfl, m, f', g5, cap5, HM.out, H5.out.both⟩

            · have k2' : (kd == 2) = false := by simpa using k2
              clear k2
              go_wp2
              go_meet
              case rel => exact ⟨rfl, l, f, _, _, hrel.out, hT.out.both⟩
      case rest =>
        obtain ⟨rfl, l', f', g', cap', hrel', hbo'⟩ := hcut
        have HRel := Lib.hid hrel'
        have HBo2 := Lib.hid hbo'
        have hll := hrel'.1.len
        have hfr := hrel'.1.frN_lt
        clear hrel' hbo' hrel hbo d0 d1 d2 HBo
        go_wp2_with fail
        refine (rruns_calls _ R T f' l' HBo2.out.ref HRel.out).mono ?_
        rintro e w5 ⟨vv, rfl, hown, hb⟩
        have HO := Lib.hid hown
        have HB5 := Lib.hid (HBo2.out.below hb)
        obtain ⟨B, cc, rfl⟩ := ownsRow_slice hown
        have hW5 := hb.size
        clear hown hb HBo2
        go_wp2_with fail
        go_loopg [13, 14] l'.length (fun q s13 s14 wy => ∃ t : Nat, q + t = l'.length ∧ s13 = .int .i64 (frN (l'.take t) : Nat) ∧ s14 = .int .i64 t ∧ wy = w5)
        case atStart => exact ⟨0, by omega, rfl, rfl, rfl⟩
        case round =>
          obtain ⟨t, hq, rfl, rfl, rfl⟩ := hrel
          by_cases htl : t < l'.length
          · obtain ⟨p, hp⟩ : ∃ p, l'[t]? = some p := ⟨_, List.getElem?_eq_getElem htl⟩
            obtain ⟨bb, rfl, r1, r2⟩ := own_rows HO.out hp
            have hfs := frN_take_succ hp
            have hft := frN_take_le l' (t + 1)
            clear hp
            go_wp2
            go_roundg (l'.length - (t + 1))
            case measure => omega
            case rel => exact ⟨t + 1, by omega, by rw [hfs]; go_num, by go_num, rfl⟩
          · obtain rfl : t = l'.length := by omega
            rw [List.take_length]
            go_wp2_with fail
            refine (runs16_calls _ L g' cap' l' HB5.out.land HRel.out.1).mono ?_
            rintro e w6 ⟨vv, rfl, hown, hb⟩
            have HO6 := Lib.hid hown
            have HO5 := Lib.hid (ownsRow_below HO.out (hb.mono (Nat.le_refl _)))
            have HB6 := Lib.hid (HB5.out.below hb)
            obtain ⟨B6, cc6, rfl⟩ := ownsRow_slice hown
            clear hown hb
            go_wp2_with fail
            refine (same16_calls _ _ _ _ _ _ _ l' HO6.out HO5.out hll).mono ?_
            rintro e w7 ⟨rfl, hb⟩
            have HB7 := Lib.hid (HB6.out.below hb)
            clear hb
            go_wp2_with fail
            refine (free16_calls _ L g' cap' l' HB7.out.land HRel.out.1).mono ?_
            rintro e w8 ⟨rfl, hb⟩
            have HB8 := Lib.hid (HB7.out.below hb)
            clear hb
            go_wp2
            go_roundg (len - (j + 1))
            case measure => omega
            case rel => exact ⟨j + 1, l', f', g', cap', by omega, by go_num, HRel, HB8⟩
    · obtain rfl : j = len := by omega
      go_wp2
      go_ret
      exact ⟨rfl, hbo.out.bel⟩
end Go.Proofs.Ytfacpamepkkhgaa
