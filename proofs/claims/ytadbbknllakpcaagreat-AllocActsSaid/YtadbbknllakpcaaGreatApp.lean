/- General laws of memory, the second part: appends that tell where the row lies; rows that are only read; copy. No program in sight. -/
import Derived.Test.YtadbbknllakpcaaGreatMem
import Derived.Maps.AppendAt
import Derived.Laws.CopyOwn
namespace Go.Proofs.YtadbbknllakpcaaGreat
open Go.RowKit
set_option linter.unusedVariables false

/-- Where the row lies after an append: where it lay, or in a block that did not exist. -/
def NewRow (B : Nat) (v v' : Value) : Prop := v'.ownBlock = v.ownBlock ∨ ∃ k, v'.ownBlock = some k ∧ B ≤ k

/-- 'out = append(out, x, ..)': the slice of the new elements has just been laid in a block of its own; elements of 'size' cells. -/
theorem wpList_append_new {P : Program} {w0 : World} {us : Array Value} {ops : Array Oper} {rest : List Oper} {o : Oper} {a : Act} {Q : Exit → Act → World → Prop} (hgd : o.guard = none) (s x : Operand) (t : TypeId)
    (ho : o.op = .call { callee := .builtin .append, args := #[s, x], argTypes := #[t, t] })
    (base : Nat) (e : TypeId) (i : TypeInfo) (z : Value) (size bytes : Nat) (ht : P.underlying t = some (.slice e)) (hi : P.info? e = some i) (hz : i.zero = some z)
    (hsize : i.size = size) (hby : i.bytes = bytes) (hzs : z.cells.size = size) (hsz : 0 < size)
    (v : Value) (n m : Nat) (xs : List Value) (hs : a.eval s = v) (hown : w0.ownsRow base e size v n xs)
    (hx : a.eval x = .slice (some ⟨w0.heap.size, 0, none⟩) m m) (hm : us.size = m * size) (h1 : ∀ u ∈ us.toList, u.oneCell' = true)
    (hbytes : (n + m) * bytes ≤ 140737488355328) (h63 : n + m ≤ maxLen) (hbase : base ≤ w0.heap.size)
    (h : ∀ v' w', w'.ownsRow base e size v' (n + m) (xs ++ us.toList) → w0.grownBy w' v.ownBlock → NewRow (w0.heap.size + 1) v v' → wpList P ops Q rest (a.put o.dst v') w') :
    wpList P ops Q (o :: rest) a (w0.alloc (.cells us e)) := by
  refine wpList_append_own_at _ hgd s x t ho base e i z size bytes ht hi hz hsize hby hzs hsz v n xs hs (hown.alloc _) ⟨w0.heap.size, 0, none⟩ m m us.toList hx (by simpa using hm) ?_ h1 h63 hbytes (by simp; omega) ?_
  · intro j y hj
    have hadd : (⟨w0.heap.size, 0, none⟩ : Addr).add j = ⟨w0.heap.size, j, none⟩ := by unfold Addr.add; split <;> simp_all
    rw [hadd, World.cell?_alloc_at _ _ _ _ rfl]
    simpa using hj
  · intro v' w' h2 h3 _ h5
    refine h v' w' h2 (grownBy_trans (World.grownBy_alloc _ _ _) h3) ?_
    rcases h5 with h5 | h5
    · exact .inl h5
    · exact .inr ⟨_, h5, by simp⟩

/-- The same, one new element of one cell. -/
theorem wpList_append_one {P : Program} {w0 : World} {u : Value} {ops : Array Oper} {rest : List Oper} {o : Oper} {a : Act} {Q : Exit → Act → World → Prop} (hgd : o.guard = none) (s x : Operand) (t : TypeId)
    (ho : o.op = .call { callee := .builtin .append, args := #[s, x], argTypes := #[t, t] })
    (base : Nat) (e : TypeId) (i : TypeInfo) (z : Value) (bytes : Nat) (ht : P.underlying t = some (.slice e)) (hi : P.info? e = some i) (hz : i.zero = some z)
    (hsize : i.size = 1) (hby : i.bytes = bytes) (hzs : z.cells.size = 1)
    (v : Value) (n : Nat) (xs : List Value) (hs : a.eval s = v) (hown : w0.ownsRow base e 1 v n xs)
    (hx : a.eval x = .slice (some ⟨w0.heap.size, 0, none⟩) 1 1) (h1 : u.oneCell' = true)
    (hbytes : (n + 1) * bytes ≤ 140737488355328) (h63 : n + 1 ≤ maxLen) (hbase : base ≤ w0.heap.size)
    (h : ∀ v' w', w'.ownsRow base e 1 v' (n + 1) (xs ++ [u]) → w0.grownBy w' v.ownBlock → NewRow (w0.heap.size + 1) v v' → wpList P ops Q rest (a.put o.dst v') w') :
    wpList P ops Q (o :: rest) a (w0.alloc (.cells #[u] e)) :=
  wpList_append_new hgd s x t ho base e i z 1 bytes ht hi hz hsize hby hzs (by decide) v n 1 xs hs hown hx rfl (fun y hy => by rw [List.mem_singleton.1 hy]; exact h1) hbytes h63 hbase h

/-- A slice that is read: its cells, in this order. -/
def RdAt (w : World) (a : Option Addr) (len : Nat) (vs : List Value) : Prop :=
  len = 0 ∨ ∃ b o, a = some ⟨b, o, none⟩ ∧ b < w.heap.size ∧ ∀ i u, vs[i]? = some u → w.cell? ⟨b, o + i, none⟩ = some u
theorem RdAt.below {w w' : World} {a : Option Addr} {len : Nat} {vs : List Value} (h : RdAt w a len vs) (hb : Below w.heap.size w w') : RdAt w' a len vs := by
  rcases h with h | ⟨b, o, rfl, h1, h2⟩
  · exact .inl h
  · exact .inr ⟨b, o, rfl, Nat.lt_of_lt_of_le h1 hb.size, fun i u hu => (hb.cell (p := ⟨b, o + i, none⟩) h1).trans (h2 i u hu)⟩
theorem RdAt.alloc {w : World} {a : Option Addr} {len : Nat} {vs : List Value} (h : RdAt w a len vs) (o : Obj) : RdAt (w.alloc o) a len vs := h.below ((Below.refl _ _).alloc (Nat.le_refl _) _)
theorem RdAt.drew {w : World} {a : Option Addr} {len : Nat} {vs : List Value} (h : RdAt w a len vs) : RdAt w.drew a len vs := h
theorem RdAt.of_blk {w : World} {b n : Nat} {cs : List Value} {t : TypeId} (h : Blk w b cs t) : RdAt w (some ⟨b, 0, none⟩) n cs :=
  .inr ⟨b, 0, rfl, h.lt, fun i u hu => by rw [Nat.zero_add, h.cell i]; exact hu⟩
theorem RdAt.of_own {w : World} {base size n n' cap : Nat} {e : TypeId} {a : Option Addr} {xs : List Value} (h : w.ownsRow base e size (.slice a n' cap) n xs) : RdAt w a n xs := by
  rcases ownsRow_form h with ⟨hv, hn⟩ | ⟨g, c, hv, h1, h2, h3, h4⟩
  · exact .inl hn
  · cases hv
    refine .inr ⟨g, 0, rfl, h2, fun i u hu => ?_⟩
    have := h.cells (g := g) rfl i u hu
    rwa [show (⟨g, 0, none⟩ : Addr).add i = ⟨g, 0 + i, none⟩ by unfold Addr.add; split <;> simp_all] at this
/-- A row of the call's own: nothing is in it, or it begins at the head of a block of the call's own. -/
theorem ownsRow_rd {w : World} {base size n n' cap : Nat} {e : TypeId} {a : Option Addr} {xs : List Value} (h : w.ownsRow base e size (.slice a n' cap) n xs) :
    n = 0 ∨ ∃ g, a = some ⟨g, 0, none⟩ ∧ base ≤ g ∧ g < w.heap.size ∧ ∀ i u, xs[i]? = some u → w.cell? ⟨g, i, none⟩ = some u := by
  rcases ownsRow_form h with ⟨hv, hn⟩ | ⟨g, c, hv, h1, h2, h3, h4⟩
  · exact .inl hn
  · cases hv
    refine .inr ⟨g, rfl, h1, h2, fun i u hu => ?_⟩
    have := h.cells (g := g) rfl i u hu
    rwa [show (⟨g, 0, none⟩ : Addr).add i = ⟨g, i, none⟩ by unfold Addr.add; split <;> simp_all] at this
theorem ownsRow_slice {w : World} {base size n : Nat} {e : TypeId} {xs : List Value} {v : Value} (h : w.ownsRow base e size v n xs) : ∃ A c, v = .slice A n c := by
  rcases ownsRow_form h with ⟨rfl, rfl⟩ | ⟨g, cap, rfl, _⟩
  · exact ⟨_, _, rfl⟩
  · exact ⟨_, _, rfl⟩
theorem ownsRow_only {w w' : World} {base size n : Nat} {e : TypeId} {xs : List Value} {v : Value} {S : Nat → Prop} (h : w.ownsRow base e size v n xs) (o : Only S w w') (hS : ∀ k, base ≤ k → ¬ S k) : w'.ownsRow base e size v n xs := by
  refine ⟨h.1, ?_⟩
  rcases h.2 with h2 | ⟨g, cap, cur, hv, hg, hh, r⟩
  · exact .inl h2
  · exact .inr ⟨g, cap, cur, hv, hg, (o.block g (Array.getElem?_eq_some_iff.1 hh).1 (hS g hg)).trans hh, r⟩
theorem Only.cell {S : Nat → Prop} {w w' : World} (o : Only S w w') {p : Addr} (hp : p.block < w.heap.size) (hS : ¬ S p.block) : w'.cell? p = w.cell? p := World.cell?_of_block (o.block p.block hp hS)
theorem RdAt.of_ints {k : IntKind} {w : World} {a : Option Addr} {len cap : Nat} {zs : List Int} (h : IsRow k w a len cap zs) : RdAt w a len ((zs.take len).map (.int k)) := by
  rcases h with ⟨rfl, rfl, rfl, rfl⟩ | ⟨x, rfl, h1, h2, h3, h4, h5⟩
  · exact .inl rfl
  · by_cases hc : 0 < len
    · obtain ⟨b, o, rfl, hcell⟩ := ints_at h4 (by omega)
      refine .inr ⟨b, o, rfl, World.block_lt_of_cell? w _ (hcell 0 (by omega)), fun i u hu => ?_⟩
      have hi : i < len := by
        have := (List.getElem?_eq_some_iff.1 hu).1
        simp at this; omega
      rw [hcell i (by omega)]
      rw [List.getElem?_map, List.getElem?_take_of_lt hi, List.getElem?_eq_getElem (by omega)] at hu
      simp only [Option.map_some, Option.some.injEq] at hu
      rw [← hu]
      simp [List.getD, show i < zs.length by omega]
    · exact .inl (by omega)

theorem run_append_nil_src {P : Program} (w : World) (base : Nat) (t ty e : TypeId) (i : TypeInfo) (size : Nat) (ht : P.underlying t = some (.slice e)) (hi : P.info? e = some i)
    (v : Value) (n : Nat) (xs : List Value) (hown : w.ownsRow base e size v n xs) (c : Nat) : (Builtin.append_ #[t, t] ty #[v, .slice none 0 c]).run P w = .ok v w := by
  rcases ownsRow_form hown with ⟨rfl, rfl⟩ | ⟨g, cap, rfl, _, _, hnc, _⟩
  · simp [Builtin.append_, run_underlying ht, sizeOf, typeInfo, hi, Builtin.lenOf, Builtin.firstCells]
  · simp [Builtin.append_, run_underlying ht, sizeOf, typeInfo, hi, Builtin.lenOf, Builtin.firstCells, hnc, storeCells]

/-- 'append(out, xs...)' onto a row of the call's own, whatever xs. -/
theorem wpList_append_rd {P : Program} {w : World} {ops : Array Oper} {rest : List Oper} {o : Oper} {a : Act} {Q : Exit → Act → World → Prop} (hgd : o.guard = none) (s x : Operand) (t : TypeId)
    (ho : o.op = .call { callee := .builtin .append, args := #[s, x], argTypes := #[t, t] })
    (base : Nat) (e : TypeId) (i : TypeInfo) (z : Value) (size bytes : Nat) (ht : P.underlying t = some (.slice e)) (hi : P.info? e = some i) (hz : i.zero = some z)
    (hsize : i.size = size) (hby : i.bytes = bytes) (hzs : z.cells.size = size) (hsz : 0 < size)
    (v : Value) (n : Nat) (xs : List Value) (hs : a.eval s = v) (hown : w.ownsRow base e size v n xs)
    (A : Option Addr) (m c : Nat) (hx : a.eval x = .slice A m c) (ys : List Value) (hm : ys.length = m * size) (hr : RdAt w A m ys) (h1 : ∀ u ∈ ys, u.oneCell' = true)
    (hbytes : (n + m) * bytes ≤ 140737488355328) (h63 : n + m ≤ maxLen) (hbase : base ≤ w.heap.size)
    (h : ∀ v' w', w'.ownsRow base e size v' (n + m) (xs ++ ys) → w.grownBy w' v.ownBlock → NewRow w.heap.size v v' → (v' = .slice none 0 0 ↔ v = .slice none 0 0 ∧ m = 0) → wpList P ops Q rest (a.put o.dst v') w') :
    wpList P ops Q (o :: rest) a w := by
  rcases A with _ | ad
  · have hm0 : m = 0 := by
      rcases hr with h | ⟨b, o, h, _⟩
      · exact h
      · cases h
    subst hm0
    obtain rfl : ys = [] := List.eq_nil_of_length_eq_zero (by simpa using hm)
    refine wpList_plain hgd fun K hK => ?_
    have hrun := run_append_nil_src (P := P) w base t o.type e i size ht hi v n xs hown c
    unfold Oper.wp execOp
    simp only [ho, resolve, invoke, builtin, Sem.run_bind, Sem.run_pure, Result.andThen_ok, List.map_toArray, List.map_cons, List.map_nil, hs, hx, hrun]
    exact hK _ _ (h v w (by simpa using hown) (World.grownBy.refl w _) (.inl rfl) (by simp))
  · refine wpList_append_own_at _ hgd s x t ho base e i z size bytes ht hi hz hsize hby hzs hsz v n xs hs hown ad m c ys hx hm ?_ h1 h63 hbytes hbase ?_
    · intro j y hj
      rcases hr with hm0 | ⟨b, o, hA, hlt, hc⟩
      · subst hm0
        obtain rfl : ys = [] := List.eq_nil_of_length_eq_zero (by simpa using hm)
        simp at hj
      · cases hA
        rw [show (⟨b, o, none⟩ : Addr).add j = ⟨b, o + j, none⟩ by unfold Addr.add; split <;> simp_all]
        exact hc j y hj
    · intro v' w' h2 h3 h4 h5
      refine h v' w' h2 h3 ?_ h4
      rcases h5 with h5 | h5
      · exact .inl h5
      · exact .inr ⟨_, h5, Nat.le_refl _⟩

theorem only_setRow {w : World} {g : Nat} (cs : Array Value) : Only (· = g) w (w.setRow g cs) :=
  ⟨rfl, rfl, rfl, by simp [World.setRow], fun k hk hne => setRow_other w g k cs hne⟩
/-- 'copy(dst, src)', as many cells as dst has, all of a block. -/
theorem wpList_copy_all {P : Program} {w : World} {ops : Array Oper} {rest : List Oper} {o : Oper} {a : Act} {Q : Exit → Act → World → Prop} (hgd : o.guard = none) (d s : Operand) (dT sT : TypeId)
    (ho : o.op = .call { callee := .builtin .copy, args := #[d, s], argTypes := #[dT, sT] }) (elem : TypeId) (hu : P.underlying dT = some (.slice elem)) (hsz : (P.info? elem).map (·.size) = some 1)
    (g n dc sc : Nat) (sp : Option Addr) (hd : a.eval d = .slice (some ⟨g, 0, none⟩) n dc) (hs : a.eval s = .slice sp n sc)
    (cur cs : List Value) (t : TypeId) (hg : Blk w g cur t) (hc : cur.length = n) (hn : cs.length = n) (hr : RdAt w sp n cs) (h1 : ∀ v ∈ cs, v.oneCell' = true)
    (h : ∀ w', Blk w' g cs t → Only (· = g) w w' → wpList P ops Q rest (a.put o.dst (goInt n)) w') : wpList P ops Q (o :: rest) a w := by
  rcases hr with h0 | ⟨b, of, rfl, hlt, hcell⟩
  · subst h0
    obtain rfl : cur = [] := List.eq_nil_of_length_eq_zero hc
    obtain rfl : cs = [] := List.eq_nil_of_length_eq_zero hn
    exact wpList_copy_nothing hgd d s dT sT ho elem hu hsz _ sp _ _ _ _ hd hs (by simp) (h w hg (Only.refl _ _))
  · refine wpList_copy_own hgd d s dT sT ho elem hu hsz g 0 n dc ⟨b, of, none⟩ n sc hd hs cur.toArray t hg cs (by rw [hn]; exact (Nat.min_self n).symm) ?_ (by simp; omega) h1 ?_
    · intro j v hj
      rw [show (⟨b, of, none⟩ : Addr).add j = ⟨b, of + j, none⟩ by unfold Addr.add; split <;> simp_all]
      exact hcell j v hj
    · have e : (cur.toArray.toList.take 0 ++ (cs ++ cur.toArray.toList.drop (0 + cs.length))).toArray = cs.toArray := by
        simp [hn, hc.symm]
      rw [e]
      have := h (w.setRow g cs.toArray) (setRow_heap w g _ _ t _ hg) (only_setRow _)
      rwa [hn]
end Go.Proofs.YtadbbknllakpcaaGreat
