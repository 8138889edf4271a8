/- Copies at elements of any number of cells, within a block or into it. No program in sight. -/
import Derived.Test.YtadbbknllakpcaaGreatApp
import Derived.Lib.AppendZerosOnto
import Derived.Deep.RegionLaw
namespace Go.Proofs.YtadbbknllakpcaaGreat
open Go.RowKit
set_option linter.unusedVariables false

theorem run_copy_k {P : Program} (w : World) (dT sT ty elem : TypeId) (g o dLen dCap : Nat) (a : Addr) (sLen sCap : Nat) (cur : Array Value) (t : TypeId) (cs : List Value) (k : Nat)
    (hu : P.underlying dT = some (.slice elem)) (hs : (P.info? elem).map (·.size) = some k)
    (hg : w.heap[g]? = some (.cells cur t (0, 0))) (hn : cs.length = Nat.min sLen dLen * k)
    (hsrc : ∀ j v, cs[j]? = some v → w.cell? (a.add j) = some v) (hfit : o + cs.length ≤ cur.size) (h1 : ∀ v ∈ cs, v.oneCell' = true) :
    (Builtin.copy_ #[dT, sT] ty #[.slice (some ⟨g, o, none⟩) dLen dCap, .slice (some a) sLen sCap]).run P w =
      .ok (goInt (Nat.min sLen dLen)) (w.setRow g (cur.toList.take o ++ cs ++ cur.toList.drop (o + cs.length)).toArray) := by
  have hl := run_loadCells_list (P := P) w a cs hsrc
  have hst := run_storeCells_at P g o t cs 0 cur w hg (by simpa using hfit) h1
  cases hq : P.info? elem with
  | none => simp [hq] at hs
  | some i =>
    have hi : i.size = k := by simpa [hq] using hs
    simp [Builtin.copy_, run_underlying hu, Builtin.lenOf, Builtin.firstCells, sizeOf, typeInfo, hq, hi, ← hn, hl, hst]
theorem run_copy_none_k {P : Program} (w : World) (dT sT ty elem : TypeId) (d a : Option Addr) (dLen dCap sLen sCap k : Nat) (hu : P.underlying dT = some (.slice elem)) (hs : (P.info? elem).map (·.size) = some k) (hn : Nat.min sLen dLen = 0) :
    (Builtin.copy_ #[dT, sT] ty #[.slice d dLen dCap, .slice a sLen sCap]).run P w = .ok (goInt 0) w := by
  cases hq : P.info? elem with
  | none => simp [hq] at hs
  | some i =>
    have hl : ∀ (x : Addr), (loadCells x 0).run P w = .ok #[] w := fun x => by simpa using run_loadCells_list (P := P) w x [] (by simp)
    cases d <;> cases a <;> simp [Builtin.copy_, run_underlying hu, Builtin.lenOf, Builtin.firstCells, sizeOf, typeInfo, hq, hn, storeCells, hl]
/-- 'copy(dst, src)' into a block known whole; the place and the cells told by the prover. -/
theorem wpList_copy_k {P : Program} {w : World} {ops : Array Oper} {rest : List Oper} {o : Oper} {a : Act} {Q : Exit → Act → World → Prop} (hgd : o.guard = none) (d s : Operand) (dT sT : TypeId)
    (ho : o.op = .call { callee := .builtin .copy, args := #[d, s], argTypes := #[dT, sT] }) (elem : TypeId) (hu : P.underlying dT = some (.slice elem)) (k : Nat) (hsz : (P.info? elem).map (·.size) = some k)
    (dp sp : Option Addr) (dLen dCap sLen sCap : Nat) (hd : a.eval d = .slice dp dLen dCap) (hs : a.eval s = .slice sp sLen sCap)
    (g off : Nat) (cur : List Value) (t : TypeId) (hg : Blk w g cur t) (cs : List Value) (hn : cs.length = Nat.min sLen dLen * k) (hk : 0 < k)
    (hpos : 0 < cs.length → dp = some ⟨g, off, none⟩ ∧ ∃ b f, sp = some ⟨b, f, none⟩ ∧ ∀ j v, cs[j]? = some v → w.cell? ⟨b, f + j, none⟩ = some v)
    (hfit : off + cs.length ≤ cur.length) (h1 : ∀ v ∈ cs, v.oneCell' = true)
    (h : ∀ w', Hid (Blk w' g (splice cur off cs) t) → Only (· = g) w w' → wpList P ops Q rest (a.put o.dst (goInt (Nat.min sLen dLen))) w') :
    wpList P ops Q (o :: rest) a w := by
  refine wpList_plain hgd fun K hK => ?_
  by_cases h0 : cs.length = 0
  · obtain rfl : cs = [] := List.eq_nil_of_length_eq_zero h0
    have hm : Nat.min sLen dLen = 0 := by
      rcases Nat.mul_eq_zero.1 (hn.symm.trans h0) with h | h
      · exact h
      · omega
    have hrun := run_copy_none_k (P := P) w dT sT o.type elem dp sp dLen dCap sLen sCap k hu hsz hm
    unfold Oper.wp
    simp [execOp, ho, resolve, invoke, builtin, hd, hs, hrun, Result.andThen]
    have := h w (Lib.hid (by simpa [splice] using hg)) (Only.refl _ _)
    rw [hm] at this
    exact hK _ _ this
  · obtain ⟨rfl, b, f, rfl, hsrc⟩ := hpos (by omega)
    have hrun := run_copy_k (P := P) w dT sT o.type elem g off dLen dCap ⟨b, f, none⟩ sLen sCap cur.toArray t cs k hu hsz hg hn
      (fun j v hj => by rw [show (⟨b, f, none⟩ : Addr).add j = ⟨b, f + j, none⟩ by unfold Addr.add; split <;> simp_all]; exact hsrc j v hj) (by simpa using hfit) h1
    unfold Oper.wp
    simp only [execOp, ho, resolve, invoke, builtin, Sem.run_bind, Sem.run_pure, Result.andThen_ok, List.map_toArray, List.map_cons, List.map_nil, hd, hs, hrun]
    have e : (cur.toArray.toList.take off ++ cs ++ cur.toArray.toList.drop (off + cs.length)).toArray = (splice cur off cs).toArray := by simp [splice]
    rw [e]
    exact hK _ _ (h _ (Lib.hid (setRow_heap w g _ _ t _ hg)) (only_setRow _))

/-- The same, as a step of a region that draws its order. -/
theorem step_copy_k {P : Program} {ops : Array Oper} {o : Oper} {a : Act} {w : World} {K : Act → World → Prop} {Q : Exit → Act → World → Prop} {E : Prop} (hgd : o.guard = none) (d s : Operand) (dT sT : TypeId)
    (ho : o.op = .call { callee := .builtin .copy, args := #[d, s], argTypes := #[dT, sT] }) (elem : TypeId) (hu : P.underlying dT = some (.slice elem)) (k : Nat) (hsz : (P.info? elem).map (·.size) = some k)
    (dp sp : Option Addr) (dLen dCap sLen sCap : Nat) (hd : a.eval d = .slice dp dLen dCap) (hs : a.eval s = .slice sp sLen sCap)
    (g off : Nat) (cur : List Value) (t : TypeId) (hg : Blk w g cur t) (cs : List Value) (hn : cs.length = Nat.min sLen dLen * k) (hk : 0 < k)
    (hpos : 0 < cs.length → dp = some ⟨g, off, none⟩ ∧ ∃ b f, sp = some ⟨b, f, none⟩ ∧ ∀ j v, cs[j]? = some v → w.cell? ⟨b, f + j, none⟩ = some v)
    (hfit : off + cs.length ≤ cur.length) (h1 : ∀ v ∈ cs, v.oneCell' = true)
    (h : ∀ w', Hid (Blk w' g (splice cur off cs) t) → Only (· = g) w w' → K (a.put o.dst (goInt (Nat.min sLen dLen))) w') :
    if Region.wanted o (yielded ops a.tmps) = true then Oper.wp P o a w K Q else E := by
  have hw : Region.wanted o (yielded ops a.tmps) = true := by simp [Region.wanted, hgd]
  rw [if_pos hw]
  by_cases h0 : cs.length = 0
  · obtain rfl : cs = [] := List.eq_nil_of_length_eq_zero h0
    have hm : Nat.min sLen dLen = 0 := by
      rcases Nat.mul_eq_zero.1 (hn.symm.trans h0) with h | h
      · exact h
      · omega
    have hrun := run_copy_none_k (P := P) w dT sT o.type elem dp sp dLen dCap sLen sCap k hu hsz hm
    unfold Oper.wp
    simp [execOp, ho, resolve, invoke, builtin, hd, hs, hrun, Result.andThen]
    have := h w (Lib.hid (by simpa [splice] using hg)) (Only.refl _ _)
    rwa [hm] at this
  · obtain ⟨rfl, b, f, rfl, hsrc⟩ := hpos (by omega)
    have hrun := run_copy_k (P := P) w dT sT o.type elem g off dLen dCap ⟨b, f, none⟩ sLen sCap cur.toArray t cs k hu hsz hg hn
      (fun j v hj => by rw [show (⟨b, f, none⟩ : Addr).add j = ⟨b, f + j, none⟩ by unfold Addr.add; split <;> simp_all]; exact hsrc j v hj) (by simpa using hfit) h1
    unfold Oper.wp
    simp only [execOp, ho, resolve, invoke, builtin, Sem.run_bind, Sem.run_pure, Result.andThen_ok, List.map_toArray, List.map_cons, List.map_nil, hd, hs, hrun]
    have e : (cur.toArray.toList.take off ++ cs ++ cur.toArray.toList.drop (off + cs.length)).toArray = (splice cur off cs).toArray := by simp [splice]
    rw [e]
    exact h _ (Lib.hid (setRow_heap w g _ _ t _ hg)) (only_setRow _)

theorem splice_length {L cs : List Value} {off : Nat} (h : off + cs.length ≤ L.length) : (splice L off cs).length = L.length := length_splice L off cs h
/-- 'append(s, xs...)' where there is room: in place. -/
theorem wpList_app_room {P : Program} {w : World} {ops : Array Oper} {rest : List Oper} {o : Oper} {a : Act} {Q : Exit → Act → World → Prop} (hgd : o.guard = none) (s x : Operand) (t : TypeId)
    (ho : o.op = .call { callee := .builtin .append, args := #[s, x], argTypes := #[t, t] }) (e : TypeId) (i : TypeInfo) (ht : P.underlying t = some (.slice e)) (hi : P.info? e = some i) (k : Nat) (hsize : i.size = k)
    (g n cap : Nat) (cur : List Value) (hg : Blk w g cur e) (hs : a.eval s = .slice (some ⟨g, 0, none⟩) n cap) (B : Option Addr) (m c : Nat) (hx : a.eval x = .slice B m c)
    (ys : List Value) (hl : ys.length = m * k) (hr : RdAt w B m ys) (h1 : ∀ u ∈ ys, u.oneCell' = true) (hroom : n + m ≤ cap) (hfit : cap * k ≤ cur.length)
    (h : ∀ w', Hid (Blk w' g (splice cur (n * k) ys) e) → Only (· = g) w w' → wpList P ops Q rest (a.put o.dst (.slice (some ⟨g, 0, none⟩) (n + m) cap)) w') : wpList P ops Q (o :: rest) a w := by
  subst hsize
  refine wpList_plain hgd fun K hK => ?_
  have hfit2 : n * i.size + ys.length ≤ cur.length := by
    have : (n + m) * i.size ≤ cap * i.size := Nat.mul_le_mul_right _ hroom
    rw [Nat.add_mul] at this
    omega
  rcases B with _ | ad
  · have hm0 : m = 0 := by
      rcases hr with h | ⟨b, o, h, _⟩
      · exact h
      · cases h
    subst hm0
    obtain rfl : ys = [] := List.eq_nil_of_length_eq_zero (by simpa using hl)
    have hrun : (Builtin.append_ #[t, t] o.type #[.slice (some ⟨g, 0, none⟩) n cap, .slice none 0 c]).run P w = .ok (.slice (some ⟨g, 0, none⟩) n cap) w := by
      simp [Builtin.append_, run_underlying ht, sizeOf, typeInfo, hi, Builtin.lenOf, Builtin.firstCells, show n ≤ cap by omega, storeCells]
    unfold Oper.wp execOp
    simp only [ho, resolve, invoke, builtin, Sem.run_bind, Sem.run_pure, Result.andThen_ok, List.map_toArray, List.map_cons, List.map_nil, hs, hx, hrun]
    exact hK _ _ (h w (Lib.hid (by simpa [splice] using hg)) (Only.refl _ _))
  · have hnews : ∀ j u, ys[j]? = some u → w.cell? (ad.add j) = some u := by
      intro j y hj
      rcases hr with hm0 | ⟨b, o, hA, hlt, hc⟩
      · subst hm0
        obtain rfl : ys = [] := List.eq_nil_of_length_eq_zero (by simpa using hl)
        simp at hj
      · cases hA
        rw [show (⟨b, o, none⟩ : Addr).add j = ⟨b, o + j, none⟩ by unfold Addr.add; split <;> simp_all]
        exact hc j y hj
    have hrun := run_append_room (P := P) w t o.type e i ht hi g n cap cur.toArray hg ad m c ys hl hnews h1 hroom (by simpa using hfit2)
    unfold Oper.wp execOp
    simp only [ho, resolve, invoke, builtin, Sem.run_bind, Sem.run_pure, Result.andThen_ok, List.map_toArray, List.map_cons, List.map_nil, hs, hx, hrun]
    have e2 : (cur.toArray.toList.take (n * i.size) ++ ys ++ cur.toArray.toList.drop (n * i.size + ys.length)).toArray = (splice cur (n * i.size) ys).toArray := by simp [splice]
    rw [e2]
    exact hK _ _ (h _ (Lib.hid (setRow_heap w g _ _ e _ hg)) (only_setRow _))
theorem zeroCells_len (z : Array Value) (n : Nat) : (Builtin.zeroCells z n).toList.length = n * z.size := by simp [Builtin.zeroCells]
/-- 'append(s, xs...)' where there is no room: in a new block. -/
theorem wpList_app_grow {P : Program} {w : World} {ops : Array Oper} {rest : List Oper} {o : Oper} {a : Act} {Q : Exit → Act → World → Prop} (hgd : o.guard = none) (s x : Operand) (t : TypeId)
    (ho : o.op = .call { callee := .builtin .append, args := #[s, x], argTypes := #[t, t] }) (e : TypeId) (i : TypeInfo) (z : Value) (ht : P.underlying t = some (.slice e)) (hi : P.info? e = some i) (hz : i.zero = some z) (k bytes : Nat) (hsize : i.size = k) (hby : i.bytes = bytes) (hzs : z.cells.size = k)
    (g n cap : Nat) (cur : List Value) (hg : Blk w g cur e) (hs : a.eval s = .slice (some ⟨g, 0, none⟩) n cap) (B : Option Addr) (m c : Nat) (hx : a.eval x = .slice B m c)
    (ys : List Value) (hl : ys.length = m * k) (hr : RdAt w B m ys) (hroom : cap < n + m) (hnc : n ≤ cap) (hfit : cap * k ≤ cur.length) (hbig : (n + m) * bytes ≤ 140737488355328) (h63 : n + m ≤ maxLen)
    (h : ∀ cap' cur' w', Hid (Blk w' w.heap.size cur' e) → cur'.length = cap' * k → n + m ≤ cap' → cap' ≤ maxLen → Hid (cur'.take ((n + m) * k) = cur.take (n * k) ++ ys) → Below w.heap.size w w' → wpList P ops Q rest (a.put o.dst (.slice (some ⟨w.heap.size, 0, none⟩) (n + m) cap')) w') : wpList P ops Q (o :: rest) a w := by
  subst hsize hby
  refine wpList_plain hgd fun K hK => ?_
  obtain ⟨b, of, rfl, hlt, hc⟩ := hr.resolve_left (by omega)
  have hnk : n * i.size ≤ cur.length := Nat.le_trans (Nat.mul_le_mul_right _ hnc) hfit
  have hol : (cur.take (n * i.size)).length = n * i.size := by rw [List.length_take]; omega
  have holds : ∀ j v, (cur.take (n * i.size))[j]? = some v → w.cell? ((⟨g, 0, none⟩ : Addr).add j) = some v := by
    intro j v hj
    rw [show (⟨g, 0, none⟩ : Addr).add j = ⟨g, j, none⟩ by unfold Addr.add; split <;> simp_all, Blk.cell hg j]
    rw [List.getElem?_take] at hj
    split at hj
    · exact hj
    · cases hj
  have hnews : ∀ j u, ys[j]? = some u → w.cell? ((⟨b, of, none⟩ : Addr).add j) = some u := fun j u hj => by
    rw [show (⟨b, of, none⟩ : Addr).add j = ⟨b, of + j, none⟩ by unfold Addr.add; split <;> simp_all]; exact hc j u hj
  have hsm : n + m ≤ 9223372036854775807 := by unfold maxLen at h63; omega
  have hrun := run_append_grow (P := P) w t o.type e i z ht hi hz ⟨g, 0, none⟩ n cap (cur.take (n * i.size)) hol holds ⟨b, of, none⟩ m c ys hl hnews hroom (by omega) (growslice_fits hroom hbig)
  have hge := grownCap_ge w (n + m) cap e
  have hcm : grownCap w (n + m) cap e ≤ maxLen := grownCap_le_maxLen w (n + m) cap e h63
  unfold Oper.wp execOp
  simp only [ho, resolve, invoke, builtin, Sem.run_bind, Sem.run_pure, Result.andThen_ok, List.map_toArray, List.map_cons, List.map_nil, hs, hx, hrun]
  refine hK _ _ (h (grownCap w (n + m) cap e) (cur.take (n * i.size) ++ ys ++ (Builtin.zeroCells z.cells (grownCap w (n + m) cap e - (n + m))).toList) _ (Lib.hid ?_) ?_ hge hcm (Lib.hid ?_) ?_)
  · have := heap_alloc_new w.drew (.cells ((cur.take (n * i.size)).toArray ++ ys.toArray ++ Builtin.zeroCells z.cells (grownCap w (n + m) cap e - (n + m))) e)
    unfold Blk
    rw [show w.heap.size = w.drew.heap.size from rfl, this]
    congr 2
    apply Array.ext'
    simp
  · rw [List.length_append, List.length_append, hol, hl, zeroCells_len, hzs, ← Nat.add_mul, ← Nat.add_mul]
    congr 1
    omega
  · rw [List.take_left' (by rw [List.length_append, hol, hl, ← Nat.add_mul])]
  · exact (Below.refl _ _).drew.alloc (Nat.le_refl _) _
/-- 'append(s, make([]T, k0)...)' where there is no room: in a new block. -/
theorem wpList_app_zeros {P : Program} {w : World} {ops : Array Oper} {rest : List Oper} {o : Oper} {a : Act} {Q : Exit → Act → World → Prop} (hgd : o.guard = none) (s x : Operand) (t tn : TypeId)
    (ho : o.op = .call { callee := .builtin .append, args := #[s, x], argTypes := #[t, tn] }) (e : TypeId) (i : TypeInfo) (z : Value) (kn : IntKind) (ht : P.underlying t = some (.slice e)) (htn : P.underlying tn = some (.int kn)) (hi : P.info? e = some i) (hz : i.zero = some z) (k bytes : Nat) (hsize : i.size = k) (hby : i.bytes = bytes) (hzs : z.cells.size = k) (hk : 0 < k)
    (g n cap : Nat) (cur : List Value) (hg : Blk w g cur e) (hs : a.eval s = .slice (some ⟨g, 0, none⟩) n cap) (kq : IntKind) (v0 : Int) (k0 : Nat) (hv0 : v0 = (k0 : Int)) (hx : a.eval x = .int kq v0)
    (tot : Nat) (htot : n + k0 = tot) (hroom : cap < tot) (hnc : n ≤ cap) (hfit : cap * k ≤ cur.length) (hbig : tot * bytes ≤ 140737488355328) (h63 : tot ≤ maxLen)
    (h : ∀ cap' cur' w', Hid (Blk w' w.heap.size cur' e) → cur'.length = cap' * k → tot ≤ cap' → cap' ≤ maxLen → Hid (cur'.take (n * k) = cur.take (n * k)) → Below w.heap.size w w' → wpList P ops Q rest (a.put o.dst (.slice (some ⟨w.heap.size, 0, none⟩) tot cap')) w') : wpList P ops Q (o :: rest) a w := by
  subst hsize hby hv0 htot
  refine wpList_plain hgd fun K hK => ?_
  have hnk : n * i.size ≤ cur.length := Nat.le_trans (Nat.mul_le_mul_right _ hnc) hfit
  have hol : (cur.take (n * i.size)).length = n * i.size := by rw [List.length_take]; omega
  have hold : (Builtin.firstCells i.size n (.slice (some ⟨g, 0, none⟩) n cap)).run P w.drew = .ok (cur.take (n * i.size)).toArray w.drew :=
    run_firstCells_some w.drew i.size n ⟨g, 0, none⟩ n cap (cur.take (n * i.size)) hol (fun j v hj => by
      rw [show (⟨g, 0, none⟩ : Addr).add j = ⟨g, j, none⟩ by unfold Addr.add; split <;> simp_all]
      show w.cell? ⟨g, j, none⟩ = some v
      rw [Blk.cell hg j]
      rw [List.getElem?_take] at hj
      split at hj
      · exact hj
      · cases hj)
  have hsm : n + k0 ≤ 9223372036854775807 := by unfold maxLen at h63; omega
  have hk0 : k0 * i.bytes ≤ 281474976710656 := by
    have : k0 * i.bytes ≤ (n + k0) * i.bytes := Nat.mul_le_mul_right _ (by omega)
    omega
  have hrun := Lib.run_append_grow_zeros (P := P) w t tn o.type e i z kq kn ht htn hi hz (some ⟨g, 0, none⟩) n cap (cur.take (n * i.size)) hold k0 (by omega) hk hroom (by omega) hk0 (growslice_fits hroom hbig)
  have hge := grownCap_ge w (n + k0) cap e
  have hcm : grownCap w (n + k0) cap e ≤ maxLen := grownCap_le_maxLen w (n + k0) cap e h63
  unfold Oper.wp execOp
  simp only [ho, resolve, invoke, builtin, Sem.run_bind, Sem.run_pure, Result.andThen_ok, List.map_toArray, List.map_cons, List.map_nil, hs, hx, hrun]
  refine hK _ _ (h (grownCap w (n + k0) cap e) (cur.take (n * i.size) ++ ((Builtin.zeroCells z.cells k0).toList ++ (Builtin.zeroCells z.cells (grownCap w (n + k0) cap e - (n + k0))).toList)) _ (Lib.hid ?_) ?_ hge hcm (Lib.hid ?_) ?_)
  · have := heap_alloc_new w.drew (.cells ((cur.take (n * i.size)).toArray ++ Builtin.zeroCells z.cells k0 ++ Builtin.zeroCells z.cells (grownCap w (n + k0) cap e - (n + k0))) e)
    unfold Blk
    rw [show w.heap.size = w.drew.heap.size from rfl, this]
    congr 2
    apply Array.ext'
    simp
  · rw [List.length_append, List.length_append, hol, zeroCells_len, zeroCells_len, hzs, ← Nat.add_mul, ← Nat.add_mul]
    congr 1
    omega
  · rw [List.take_left' hol]
  · exact (Below.refl _ _).drew.alloc (Nat.le_refl _) _
/-- 'clear(s)', s the end of what is in use of a block. -/
theorem wpList_clear_k {P : Program} {w : World} {ops : Array Oper} {rest : List Oper} {o : Oper} {a : Act} {Q : Exit → Act → World → Prop} (hgd : o.guard = none) (s : Operand) (t : TypeId)
    (ho : o.op = .call { callee := .builtin .clear, args := #[s], argTypes := #[t] }) (e : TypeId) (i : TypeInfo) (z : Value) (ht : P.underlying t = some (.slice e)) (hi : P.info? e = some i) (hz : i.zero = some z) (k : Nat) (hzs : z.cells.size = k) (h1 : ∀ v ∈ z.cells.toList, v.oneCell' = true)
    (p : Option Addr) (len c : Nat) (hs : a.eval s = .slice p len c) (g off : Nat) (cur : List Value) (hg : Blk w g cur e) (hpos : 0 < len → p = some ⟨g, off, none⟩) (hfit : off + len * k ≤ cur.length)
    (h : ∀ cur' w', Hid (Blk w' g cur' e) → cur'.length = cur.length → Hid (cur'.take off = cur.take off) → Only (· = g) w w' → wpList P ops Q rest (a.put o.dst (.tuple #[])) w') : wpList P ops Q (o :: rest) a w := by
  refine wpList_plain hgd fun K hK => ?_
  by_cases h0 : len = 0
  · subst h0
    have hrun : (Builtin.clear_ #[t] o.type #[.slice p 0 c]).run P w = .ok (.tuple #[]) w := by
      cases p <;> simp [Builtin.clear_, run_underlying ht]
    unfold Oper.wp execOp
    simp only [ho, resolve, invoke, builtin, Sem.run_bind, Sem.run_pure, Result.andThen_ok, List.map_toArray, List.map_cons, List.map_nil, hs, hrun]
    exact hK _ _ (h cur w (Lib.hid hg) rfl (Lib.hid rfl) (Only.refl _ _))
  · obtain rfl := hpos (by omega)
    have hzl := zeroCells_len z.cells len
    rw [hzs] at hzl
    have hst := run_storeCells_at P g off e (Builtin.zeroCells z.cells len).toList 0 cur.toArray w hg (by rw [Nat.add_zero, hzl]; simpa using hfit) (fun v hv => by
      simp only [Builtin.zeroCells, Array.toList_map, List.mem_map] at hv
      obtain ⟨j, hj, rfl⟩ := hv
      have hzp : 0 < z.cells.size := by
        refine Nat.pos_of_ne_zero fun hz0 => ?_
        rw [hz0] at hj
        simp at hj
      refine h1 _ ?_
      rw [getElem!_pos z.cells (j % z.cells.size) (Nat.mod_lt _ hzp)]
      simp)
    simp only [Nat.add_zero] at hst
    have hrun : (Builtin.clear_ #[t] o.type #[.slice (some ⟨g, off, none⟩) len c]).run P w = .ok (.tuple #[]) (w.setRow g (cur.toArray.toList.take off ++ (Builtin.zeroCells z.cells len).toList ++ cur.toArray.toList.drop (off + (Builtin.zeroCells z.cells len).toList.length)).toArray) := by
      obtain ⟨l, rfl⟩ : ∃ l, len = l + 1 := ⟨len - 1, by omega⟩
      simp only [Builtin.clear_]
      simp [run_underlying ht, zeroValue, typeInfo, hi, hz, hst]
    unfold Oper.wp execOp
    simp only [ho, resolve, invoke, builtin, Sem.run_bind, Sem.run_pure, Result.andThen_ok, List.map_toArray, List.map_cons, List.map_nil, hs, hrun]
    refine hK _ _ (h (cur.take off ++ (Builtin.zeroCells z.cells len).toList ++ cur.drop (off + len * k)) _ (Lib.hid ?_) ?_ (Lib.hid ?_) (only_setRow _))
    · have := setRow_heap w g cur.toArray (cur.toArray.toList.take off ++ (Builtin.zeroCells z.cells len).toList ++ cur.toArray.toList.drop (off + (Builtin.zeroCells z.cells len).toList.length)).toArray e (0, 0) hg
      rw [hzl] at this
      rw [hzl]
      exact this
    · simp only [List.length_append, List.length_take, List.length_drop, hzl]; omega
    · rw [List.append_assoc, List.take_left' (by rw [List.length_take]; omega)]
theorem splice_get {L cs : List Value} {off : Nat} (h : off + cs.length ≤ L.length) (j : Nat) : (splice L off cs)[j]? = if j < off then L[j]? else if j < off + cs.length then cs[j - off]? else L[j]? := by
  unfold splice
  by_cases h1 : j < off
  · rw [if_pos h1, List.getElem?_append_left (by rw [List.length_take]; omega), List.getElem?_take_of_lt h1]
  · rw [if_neg h1, List.getElem?_append_right (by rw [List.length_take]; omega), List.length_take, Nat.min_eq_left (by omega)]
    by_cases h2 : j < off + cs.length
    · rw [if_pos h2, List.getElem?_append_left (by omega)]
    · rw [if_neg h2, List.getElem?_append_right (by omega), List.getElem?_drop]
      congr 1
      omega
theorem three_get {cur ys D : List Value} {a : Nat} (ha : a ≤ cur.length) (j : Nat) : (cur.take a ++ ys ++ D)[j]? = if j < a then cur[j]? else if j < a + ys.length then ys[j - a]? else D[j - a - ys.length]? := by
  have hl : (cur.take a).length = a := by rw [List.length_take]; omega
  by_cases h1 : j < a
  · rw [if_pos h1, List.getElem?_append_left (by rw [List.length_append]; omega), List.getElem?_append_left (by omega), List.getElem?_take_of_lt h1]
  · rw [if_neg h1]
    by_cases h2 : j < a + ys.length
    · rw [if_pos h2, List.getElem?_append_left (by rw [List.length_append]; omega), List.getElem?_append_right (by omega), hl]
    · rw [if_neg h2, List.getElem?_append_right (by rw [List.length_append]; omega), List.length_append, hl]
      congr 1
      omega
theorem fill_shift {cur ys D : List Value} {a b tot : Nat} (ha : a + ys.length = b) (hb : b + D.length = tot) (ht : tot ≤ cur.length) : (splice (splice cur b D) a ys).take tot = cur.take a ++ ys ++ D := by
  have hl : (splice cur b D).length = cur.length := splice_length (by omega)
  apply List.ext_getElem?
  intro j
  rw [three_get (by omega), List.getElem?_take]
  by_cases hj : j < tot
  · rw [if_pos hj, splice_get (by omega), splice_get (by omega)]
    by_cases h1 : j < a
    · rw [if_pos h1, if_pos h1, if_pos (by omega)]
    · rw [if_neg h1, if_neg h1]
      by_cases h2 : j < a + ys.length
      · rw [if_pos h2, if_pos h2]
      · rw [if_neg h2, if_neg h2, if_neg (by omega), if_pos (by omega)]
        congr 1
        omega
  · rw [if_neg hj, if_neg (by omega), if_neg (by omega)]
    exact (List.getElem?_eq_none (by omega)).symm
theorem fill_fore {cur ys D : List Value} {a b tot : Nat} (ha : a + ys.length = b) (hb : b + D.length = tot) (ht : tot ≤ cur.length) : (splice (splice cur a ys) b D).take tot = cur.take a ++ ys ++ D := by
  have hl : (splice cur a ys).length = cur.length := splice_length (by omega)
  apply List.ext_getElem?
  intro j
  rw [three_get (by omega), List.getElem?_take]
  by_cases hj : j < tot
  · rw [if_pos hj, splice_get (by omega), splice_get (by omega)]
    by_cases h1 : j < a
    · have hb1 : j < b := by omega
      simp only [if_pos hb1, if_pos h1]
    · by_cases h2 : j < a + ys.length
      · have hb1 : j < b := by omega
        simp only [if_pos hb1, if_neg h1, if_pos h2]
      · have hb1 : ¬ j < b := by omega
        have hb2 : j < b + D.length := by omega
        simp only [if_neg hb1, if_pos hb2, if_neg h1, if_neg h2]
        congr 1
        omega
  · rw [if_neg hj, if_neg (by omega), if_neg (by omega)]
    exact (List.getElem?_eq_none (by omega)).symm
end Go.Proofs.YtadbbknllakpcaaGreat
