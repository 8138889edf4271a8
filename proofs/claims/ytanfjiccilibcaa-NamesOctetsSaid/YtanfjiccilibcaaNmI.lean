/- Insert and Delete at rows of the call's own, of names and heaps. -/
import Derived.Test.YtanfjiccilibcaaInsNamed
import Derived.Test.YtanfjiccilibcaaNmP
import Derived.Test.YtanfjiccilibcaaApp
namespace Go.Proofs.Ytanfjiccilibcaa
open Go.RowKit
set_option linter.unusedVariables false

set_option maxHeartbeats 1000000 in
theorem insert_nil (w : World) (vb m c : Nat) (ys : List Value) (hm : 0 < m) (hyl : ys.length = m * 2) (hr : RdAt w (some ⟨vb, 0, none⟩) m ys) (h1 : ∀ v ∈ ys, v.oneCell' = true) (hbig : m ≤ 1000000) :
    Calls Try.prog 27 #[.slice none 0 0, .int .i64 0, .slice (some ⟨vb, 0, none⟩) m c] w fun e w' => ∃ v, e = .returned v ∧ w'.ownsRow w.heap.size 47 2 v m ys ∧ Below w.heap.size w w' := by
  obtain ⟨i0, hi0, hz0, hz1, hz2⟩ := info_parts Try.info_Named
  have hm0 : ((m : Int) == 0) = false := by rw [beq_eq_false_iff_ne]; omega
  have HR := Lib.hid hr
  have H1 := Lib.hid h1
  have HL := Lib.hid hyl
  have hown := Lib.hid (World.ownsRow_nil w w.heap.size 47 2)
  clear hr h1 hyl
  go_enter Try.func27, Try.ntmps27
  go_wp2_with (at_builtin; refine wpList_append_rd rfl (.tmp 23) (.tmp 24) 23 rfl w.heap.size 47 i0 _ 2 24 Try.underlying23 hi0 hz0 hz1 hz2 rfl (by decide) (.slice none 0 0) 0 [] rfl hown.out (some ⟨vb, 0, none⟩) m c rfl ys HL.out HR.out H1.out (by omega) (by unfold maxLen; omega) (by simp) ?_; intro v' w1 hown1 hgr1 hnew1 hnil1)
  go_ret
  refine ⟨_, rfl, ?_, (Below.refl _ _).grown hgr1 (Nat.le_refl _) (fun k hk => ?_)⟩
  · simpa using hown1
  · simp [Value.ownBlock] at hk

theorem own_slc {w : World} {B n : Nat} {v : Value} {xs : List Value} (h : w.ownsRow B 47 2 v n xs) : (v = .slice none 0 0 ∧ n = 0) ∨ ∃ g cap cur, v = .slice (some ⟨g, 0, none⟩) n cap ∧ B ≤ g ∧ SlcNamed w g n cap cur ∧ cur.take (n * 2) = xs := by
  rcases h.2 with h2 | ⟨g, cap, cur, rfl, hB, hg, hnc, hcm, hcs, ht⟩
  · exact .inl h2
  · exact .inr ⟨g, cap, cur.toList, rfl, hB, ⟨hg, by simpa using hcs, hnc, hcm⟩, ht⟩
theorem slc_own {w : World} {B n g cap : Nat} {cur xs : List Value} (hS : SlcNamed w g n cap cur) (hB : B ≤ g) (ht : cur.take (n * 2) = xs) : w.ownsRow B 47 2 (.slice (some ⟨g, 0, none⟩) n cap) n xs := by
  obtain ⟨h1, h2, h3, h4⟩ := hS
  refine ⟨?_, .inr ⟨g, cap, cur.toArray, rfl, hB, h1, h3, h4, by simpa using h2, by simpa using ht⟩⟩
  rw [← ht, List.length_take]; omega
theorem insert_own (w : World) (B vb i c : Nat) (v : Value) (l : List Ent) (s : ByteArray) (h : Int) (hown : w.ownsRow B 47 2 v l.length (namesV l)) (hi : i ≤ l.length) (hv : Blk w vb [.string s, .int .i64 h] 47) (hne : v.ownBlock ≠ some vb) (hB : B ≤ w.heap.size) (hbig : l.length ≤ 100000) :
    Calls Try.prog 27 #[v, .int .i64 i, .slice (some ⟨vb, 0, none⟩) 1 c] w fun e w' => ∃ v', e = .returned v' ∧ w'.ownsRow B 47 2 v' (l.length + 1) (namesV (addL l i s h)) ∧ Below B w w' := by
  have hone : ∀ u ∈ [Value.string s, Value.int .i64 h], u.oneCell' = true := fun u hu => List.all_eq_true.1 (show ([Value.string s, Value.int .i64 h]).all (fun v => v.oneCell') = true from rfl) u hu
  rcases own_slc hown with ⟨rfl, h0⟩ | ⟨g, cap, cur, rfl, hBg, hS, ht⟩
  · obtain rfl : l = [] := List.eq_nil_of_length_eq_zero h0
    obtain rfl : i = 0 := by simpa using hi
    refine (insert_nil w vb 1 c _ (by omega) rfl (RdAt.of_blk hv) hone (by omega)).mono ?_
    rintro e w' ⟨v', rfl, ho, hb⟩
    exact ⟨v', rfl, ownsRow_base ho hB, hb.mono hB⟩
  · have hgv : vb ≠ g := fun e => hne (by rw [e]; rfl)
    refine (insert_Named w g l.length cap i vb 1 c cur _ _ hS hi (by omega) hv hgv rfl rfl hone (by rw [ht]; exact namesV_one l) (by omega)).mono ?_
    rintro e w' ⟨g', cap', cur', rfl, hS', ht', hg', ho⟩
    refine ⟨_, rfl, slc_own hS' (by omega) ?_, bel_only (Below.refl B w) ho hB (fun j hj => by omega)⟩
    rw [ht', ht, namesV_drop]
    have e1 : cur.take (i * 2) = namesV (l.take i) := by rw [← namesV_take, ← ht, List.take_take, Nat.min_eq_left (by omega)]
    rw [e1]
    unfold addL
    rw [namesV_append, namesV_cons, List.append_assoc]
    rfl

/-- 'append(s, xs...)' where there is room, as a step of a drawn region. -/
theorem step_app_room {P : Program} {w : World} {ops : Array Oper} {o : Oper} {a : Act} {K : Act → World → Prop} {Q : Exit → Act → World → Prop} {E : Prop} (hgd : o.guard = none) (s x : Operand) (t : TypeId)
    (ho : o.op = .call { callee := .builtin .append, args := #[s, x], argTypes := #[t, t] }) (e : TypeId) (i : TypeInfo) (ht : P.underlying t = some (.slice e)) (hi : P.info? e = some i) (k : Nat) (hsize : i.size = k)
    (g n cap : Nat) (cur : List Value) (hg : Blk w g cur e) (hs : a.eval s = .slice (some ⟨g, 0, none⟩) n cap) (ad : Addr) (m c : Nat) (hx : a.eval x = .slice (some ad) m c)
    (ys : List Value) (hl : ys.length = m * k) (hnews : ∀ j u, ys[j]? = some u → w.cell? (ad.add j) = some u) (h1 : ∀ u ∈ ys, u.oneCell' = true) (hroom : n + m ≤ cap) (hfit : cap * k ≤ cur.length)
    (h : ∀ w', Hid (Blk w' g (splice cur (n * k) ys) e) → Only (· = g) w w' → K (a.put o.dst (.slice (some ⟨g, 0, none⟩) (n + m) cap)) w') :
    if Region.wanted o (yielded ops a.tmps) = true then Oper.wp P o a w K Q else E := by
  subst hsize
  have hw : Region.wanted o (yielded ops a.tmps) = true := by simp [Region.wanted, hgd]
  rw [if_pos hw]
  have hfit2 : n * i.size + ys.length ≤ cur.length := by
    have : (n + m) * i.size ≤ cap * i.size := Nat.mul_le_mul_right _ hroom
    rw [Nat.add_mul] at this
    omega
  have hrun := run_append_room (P := P) w t o.type e i ht hi g n cap cur.toArray hg ad m c ys hl hnews h1 hroom (by simpa using hfit2)
  unfold Oper.wp execOp
  simp only [ho, resolve, invoke, builtin, Sem.run_bind, Sem.run_pure, Result.andThen_ok, List.map_toArray, List.map_cons, List.map_nil, hs, hx, hrun]
  have hk := setRow_heap w g cur.toArray (cur.toArray.toList.take (n * i.size) ++ ys ++ cur.toArray.toList.drop (n * i.size + ys.length)).toArray e (0, 0) hg
  refine h _ (Lib.hid (show Blk _ g (splice cur (n * i.size) ys) e from ?_)) (only_setRow _)
  rw [show splice cur (n * i.size) ys = cur.take (n * i.size) ++ ys ++ cur.drop (n * i.size + ys.length) by simp [splice]]
  exact hk
theorem named_zero : ∀ v ∈ (Value.agg #[.string ByteArray.empty, .int .i64 0]).cells.toList, v.oneCell' = true := fun u hu => List.all_eq_true.1 (show ((Value.agg #[.string ByteArray.empty, .int .i64 0]).cells.toList).all (fun v => v.oneCell') = true from rfl) u hu
theorem splice_take {cur ys : List Value} {a : Nat} (ha : a + ys.length ≤ cur.length) : (splice cur a ys).take (a + ys.length) = cur.take a ++ ys := by
  unfold splice
  rw [← List.append_assoc, List.take_left' (by rw [List.length_append, List.length_take]; omega)]
set_option maxHeartbeats 4000000 in
theorem delete_own (w : World) (B g cap i : Nat) (l : List Ent) (cur : List Value) (hS : SlcNamed w g l.length cap cur) (ht : cur.take (l.length * 2) = namesV l) (hi : i < l.length) (hBg : B ≤ g) (hB : B ≤ w.heap.size) (hbig : l.length ≤ 100000) :
    Calls Try.prog 29 #[.slice (some ⟨g, 0, none⟩) l.length cap, .int .i64 i, .int .i64 ((i : Int) + 1)] w fun e w' => ∃ v', e = .returned v' ∧ w'.ownsRow B 47 2 v' (l.length - 1) (namesV (delL l i)) ∧ Below B w w' := by
  obtain ⟨i0, hi0, hz0, hz1, hz2⟩ := info_parts Try.info_Named
  obtain ⟨hg, hcl, hnc, hcm⟩ := hS
  have hcm' : cap ≤ 9223372036854775807 := by unfold maxLen at hcm; omega
  obtain ⟨n, hn⟩ : ∃ n, l.length = n := ⟨_, rfl⟩
  have hDl : (namesV (l.drop (i + 1))).length = (n - (i + 1)) * 2 := by rw [namesV_length, List.length_drop, hn]
  have hDat : ∀ j v, (namesV (l.drop (i + 1)))[j]? = some v → cur[(i + 1) * 2 + j]? = some v := fun j v hj => by
    rw [← namesV_drop, ← ht, List.getElem?_drop, List.getElem?_take] at hj
    split at hj
    · exact hj
    · cases hj
  have hres : (splice cur (i * 2) (namesV (l.drop (i + 1)))).take ((n - 1) * 2) = namesV (delL l i) := by
    rw [show (n - 1) * 2 = i * 2 + (namesV (l.drop (i + 1))).length by rw [hDl]; omega, splice_take (by rw [hDl]; omega)]
    unfold delL
    rw [namesV_append]
    congr 1
    rw [← namesV_take, ← ht, List.take_take, Nat.min_eq_left (by omega)]
  have hD1 := namesV_one (l.drop (i + 1))
  generalize namesV (l.drop (i + 1)) = D at *
  rw [hn] at hi hnc hbig ⊢
  have HG := Lib.hid hg
  have HDl := Lib.hid hDl
  have HDat := Lib.hid hDat
  have HD1 := Lib.hid hD1
  have HRes := Lib.hid hres
  clear ht hg hDl hDat hD1 hres hn
  have e1 : ((i : Int) == (i : Int) + 1) = false := by rw [beq_eq_false_iff_ne]; omega
  have e2 : i + (n - (i + 1)) = n - 1 := by omega
  have e3 : ((i : Int) + 1).toNat = i + 1 := by omega
  have e4 : (0 : Int) ≤ (i : Int) + 1 := by omega
  have e5 : (i : Int) + 1 ≤ (n : Int) := by omega
  have e8 : i ≤ cap := by omega
  have hcn : ¬ cap = n - 1 := by omega
  obtain ⟨ad, had, hnews⟩ : ∃ ad : Addr, (if cap = i + 1 then some (⟨g, 0, none⟩ : Addr) else some ⟨g, (i + 1) * 2, none⟩) = some ad ∧ Hid (∀ j u, D[j]? = some u → w.cell? (ad.add j) = some u) := by
    by_cases hc : cap = i + 1
    · refine ⟨⟨g, 0, none⟩, if_pos hc, Lib.hid fun j u hj => ?_⟩
      have h1 := (List.getElem?_eq_some_iff.1 hj).1
      have h2 := HDl.out
      omega
    · refine ⟨_, if_neg hc, Lib.hid fun j u hj => ?_⟩
      rw [show (⟨g, (i + 1) * 2, none⟩ : Addr).add j = ⟨g, (i + 1) * 2 + j, none⟩ by unfold Addr.add; split <;> simp_all]
      exact (HG.out.cell _).trans (HDat.out j u hj)
  go_enter Try.func29, Try.ntmps29
  go_wp2_with fail
  go_region_law (refine step_app_room rfl (.tmp 22) (.tmp 25) 23 rfl 47 i0 Try.underlying23 hi0 2 hz1 g i cap cur HG.out (by simp [Act.eval, Act.put]) ad (n - (i + 1)) (cap - (i + 1)) (by simp [Act.eval, Act.put, had]) D (by rw [HDl.out]) hnews.out HD1.out (by omega) (by omega) ?_; intro w3 hg3 ho3)
  have hsl : (splice cur (i * 2) D).length = cap * 2 := by rw [splice_length (by rw [HDl.out]; omega)]; exact hcl
  have HSl := Lib.hid hsl
  have e6 : ((n - 1 : Nat) : Int) ≤ (n : Int) := by omega
  have e7 : n - (n - 1) = 1 := by omega
  go_wp2_with (refine wpList_clear_k rfl (.tmp 31) 23 rfl 47 i0 _ Try.underlying23 hi0 hz0 2 rfl named_zero (some ⟨g, (n - 1) * 2, none⟩) 1 (cap - (n - 1)) rfl g ((n - 1) * 2) (splice cur (i * 2) D) hg3.out (fun _ => rfl) (by rw [HSl.out]; omega) ?_; intro cur' w4 hg4 hl4 ht4 ho4)
  go_ret
  refine ⟨_, rfl, slc_own ⟨hg4.out, by rw [hl4, HSl.out], by omega, hcm⟩ hBg (by rw [ht4.out, HRes.out]), bel_only (Below.refl B w) (Only.trans (b := w.drew) (Only.refl (· = g) w).drew (ho3.trans ho4 (fun _ _ h => h)) (fun _ _ h => h)) hB (fun j hj => by omega)⟩
end Go.Proofs.Ytanfjiccilibcaa
