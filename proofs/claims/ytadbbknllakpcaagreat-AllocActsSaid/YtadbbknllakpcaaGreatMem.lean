/- Memory, block by block: what a block holds, which blocks may have turned; sets kept in a map. No program in sight. -/
import Derived.Test.YtadbbknllakpcaaGreatLib
import Derived.Maps.OwnSet
import Derived.OpenShut
namespace Go.Proofs.YtadbbknllakpcaaGreat
open Go.RowKit
set_option linter.unusedVariables false

/-- Block b holds these cells. -/
def Blk (w : World) (b : Nat) (cs : List Value) (t : TypeId) : Prop := w.heap[b]? = some (.cells cs.toArray t (0, 0))
theorem Blk.lt {w : World} {b : Nat} {cs : List Value} {t : TypeId} (h : Blk w b cs t) : b < w.heap.size := (Array.getElem?_eq_some_iff.1 h).1
theorem Blk.cell {w : World} {b : Nat} {cs : List Value} {t : TypeId} (h : Blk w b cs t) (j : Nat) : w.cell? ⟨b, j, none⟩ = cs[j]? := by
  rw [cell_of_row w b j _ t _ h]; simp
theorem Blk.free {w : World} {b : Nat} {cs : List Value} {t : TypeId} (h : Blk w b cs t) (j : Nat) : w.frozen? ⟨b, j, none⟩ = false := by
  unfold Blk at h
  simp [World.frozen?, h]
theorem Blk.of_heap {w w' : World} {b : Nat} {cs : List Value} {t : TypeId} (h : Blk w b cs t) (he : w'.heap[b]? = w.heap[b]?) : Blk w' b cs t := he.trans h
theorem Blk.alloc {w : World} {b : Nat} {cs : List Value} {t : TypeId} (h : Blk w b cs t) (o : Obj) : Blk (w.alloc o) b cs t := h.of_heap (Below.heap_alloc w o b h.lt)
theorem Blk.drew {w : World} {b : Nat} {cs : List Value} {t : TypeId} (h : Blk w b cs t) : Blk w.drew b cs t := h
theorem Blk.new (w : World) (cs : Array Value) (t : TypeId) : Blk (w.alloc (.cells cs t)) w.heap.size cs.toList t := by
  unfold Blk; rw [heap_alloc_new]
theorem Blk.set_other {w : World} {b c : Nat} {cs : List Value} {t : TypeId} (h : Blk w b cs t) (hne : b ≠ c) (j : Nat) (v : Value) : Blk (w.setCell ⟨c, j, none⟩ v) b cs t :=
  h.of_heap (Below.heap_setCell w ⟨c, j, none⟩ v b hne)
theorem Blk.set {w : World} {b : Nat} {cs : List Value} {t : TypeId} (h : Blk w b cs t) (j : Nat) (v : Value) : Blk (w.setCell ⟨b, j, none⟩ v) b (cs.set j v) t := by
  have hlt := h.lt
  have h' : w.heap[b] = .cells cs.toArray t (0, 0) := by
    unfold Blk at h
    simpa [Array.getElem?_eq_getElem hlt] using h
  show (w.heap.modify b _)[b]? = _
  rw [Array.getElem?_eq_getElem (by simpa using hlt), Array.getElem_modify_self, h']
  simp

/-- Only the blocks of S may have turned, and there may be new ones. -/
structure Only (S : Nat → Prop) (w w' : World) : Prop where
  os : w'.os = w.os
  tape : w'.tape = w.tape
  output : w'.output = w.output
  size : w.heap.size ≤ w'.heap.size
  block : ∀ k, k < w.heap.size → ¬ S k → w'.heap[k]? = w.heap[k]?
theorem Only.refl (S : Nat → Prop) (w : World) : Only S w w := ⟨rfl, rfl, rfl, Nat.le_refl _, fun _ _ _ => rfl⟩
theorem Only.trans {S T : Nat → Prop} {a b c : World} (h : Only S a b) (k : Only T b c) (hT : ∀ i, i < a.heap.size → T i → S i) : Only S a c :=
  ⟨k.os.trans h.os, k.tape.trans h.tape, k.output.trans h.output, Nat.le_trans h.size k.size, fun i hi hs => (k.block i (Nat.lt_of_lt_of_le hi h.size) (fun ht => hs (hT i hi ht))).trans (h.block i hi hs)⟩
theorem Only.mono {S T : Nat → Prop} {a b : World} (h : Only S a b) (hT : ∀ i, i < a.heap.size → S i → T i) : Only T a b :=
  ⟨h.os, h.tape, h.output, h.size, fun i hi ht => h.block i hi (fun hs => ht (hT i hi hs))⟩
theorem Only.drew {S : Nat → Prop} {a b : World} (h : Only S a b) : Only S a b.drew := ⟨h.os, h.tape, h.output, h.size, h.block⟩
theorem Only.alloc {S : Nat → Prop} {a b : World} (h : Only S a b) (o : Obj) : Only S a (b.alloc o) :=
  ⟨h.os, h.tape, h.output, Nat.le_trans h.size (by simp), fun i hi hs => (Below.heap_alloc b o i (Nat.lt_of_lt_of_le hi h.size)).trans (h.block i hi hs)⟩
theorem Only.set {S : Nat → Prop} {a b : World} (h : Only S a b) {p : Addr} (hp : p.block < a.heap.size → S p.block) (v : Value) : Only S a (b.setCell p v) :=
  ⟨h.os, h.tape, h.output, by simpa [World.setCell] using h.size, fun i hi hs => (Below.heap_setCell b p v i (fun e => hs (e ▸ hp (e ▸ hi)))).trans (h.block i hi hs)⟩
theorem Only.grown {S : Nat → Prop} {a b c : World} {row : Option Nat} (h : Only S a b) (hg : b.grownBy c row) (hr : ∀ k, row = some k → k < a.heap.size → S k) : Only S a c :=
  ⟨hg.os.trans h.os, hg.tape.trans h.tape, hg.output.trans h.output, Nat.le_trans h.size hg.size, fun i hi hs => (hg.block i (Nat.lt_of_lt_of_le hi h.size) (fun e => hs (hr i e.symm hi))).trans (h.block i hi hs)⟩
theorem Only.of_below {S : Nat → Prop} {w w' : World} (h : Below w.heap.size w w') : Only S w w' := ⟨h.os, h.tape, h.output, h.size, fun k hk _ => h.block k hk⟩
theorem Only.next {S : Nat → Prop} {a b c : World} (h : Only S a b) (k : Below b.heap.size b c) : Only S a c :=
  h.trans (Only.of_below (S := S) k) (fun _ _ h => h)
theorem bel_only {B : Nat} {S : Nat → Prop} {a b c : World} (h : Below B a b) (k : Only S b c) (hB : B ≤ a.heap.size) (hS : ∀ i, S i → B ≤ i) : Below B a c :=
  ⟨k.os.trans h.os, k.tape.trans h.tape, k.output.trans h.output, Nat.le_trans h.size k.size, fun i hi => (k.block i (Nat.lt_of_lt_of_le hi (Nat.le_trans hB h.size)) (fun hs => by have := hS i hs; omega)).trans (h.block i hi)⟩
theorem Blk.only {w w' : World} {b : Nat} {cs : List Value} {t : TypeId} {S : Nat → Prop} (h : Blk w b cs t) (k : Only S w w') (hS : ¬ S b) : Blk w' b cs t := h.of_heap (k.block b h.lt hS)
theorem Blk.below {w w' : World} {b : Nat} {cs : List Value} {t : TypeId} (h : Blk w b cs t) (k : Below w.heap.size w w') : Blk w' b cs t := h.of_heap (k.block b h.lt)

/-- A row of the call's own that is full: a block. -/
theorem Blk.owns {w : World} {b n : Nat} {cs : List Value} {t : TypeId} (h : Blk w b cs t) {base : Nat} (hb : base ≤ b) (hn : cs.length = n) (hm : n ≤ maxLen) : w.ownsRow base t 1 (.slice (some ⟨b, 0, none⟩) n n) n cs :=
  ⟨by simpa using hn, .inr ⟨b, n, cs.toArray, rfl, hb, h, Nat.le_refl _, hm, by simpa using hn, by simp [List.take_of_length_le (Nat.le_of_eq hn)]⟩⟩

/-- A map whose values are bools as a set of numbers: those of l. -/
def SetMap (P : Program) (k e : TypeId) (w : World) (b n : Nat) (l : List Int) : Prop :=
  ∃ D : DataW Unit, w.ownsMap P k (plainElem P e) b n D ∧ ∀ x, D.atKey (.int .i64 x) (.lit (.bool false)) = .lit (.bool (decide (x ∈ l)))
theorem SetMap.made (P : Program) (k e : TypeId) (w : World) : SetMap P k e (w.alloc (.map #[] 0)) w.heap.size 0 [] :=
  ⟨.map [], World.ownsMap_made _ _ _ _, fun x => by simp [DataW.atKey]⟩
theorem SetMap.lt {P : Program} {k e : TypeId} {w : World} {b n : Nat} {l : List Int} (h : SetMap P k e w b n l) : b < w.heap.size := by
  obtain ⟨D, hD, _⟩ := h; exact hD.lt
theorem SetMap.of_heap {P : Program} {k e : TypeId} {w w' : World} {b n : Nat} {l : List Int} (h : SetMap P k e w b n l) (he : w'.heap[b]? = w.heap[b]?) : SetMap P k e w' b n l := by
  obtain ⟨D, ⟨es, clock, hb, F, hs, hD⟩, hx⟩ := h
  exact ⟨D, ⟨es, clock, he.trans hb, F, hs, hD⟩, hx⟩
theorem SetMap.only {P : Program} {k e : TypeId} {w w' : World} {b n : Nat} {l : List Int} {S : Nat → Prop} (h : SetMap P k e w b n l) (hk : Only S w w') (hS : ¬ S b) : SetMap P k e w' b n l := h.of_heap (hk.block b h.lt hS)
theorem SetMap.look {P : Program} {t k e : TypeId} {w : World} {b n : Nat} {l : List Int} (h : SetMap P k e w b n l) (ht : P.underlying t = some (.map k e)) (hk : P.underlying k = some (.int .i64)) (he : P.underlying e = some .bool)
    (hz : ∀ w : World, (zeroValue e).run P w = .ok (.bool false) w) (x : Int) (h0 : -9223372036854775808 ≤ x) (h1 : x ≤ 9223372036854775807) :
    (Instr.lookup t (.map (some b)) (.int .i64 x) false).run P w = .ok (.bool (decide (x ∈ l))) w := by
  obtain ⟨D, hD, hx⟩ := h
  have hkey : keyOf P k (.int .i64 x) = some (.int .i64 x) := Maps.keyOf_int_mk hk (WalkArith.wf_i64 ⟨h0, h1⟩)
  obtain ⟨v, ps, hrun, hv⟩ := hD.lookup (Maps.int_keyed hk) ht (hz w) (plainElem_bool he false) hkey
  rw [hx] at hv
  unfold plainElem at hv
  rw [he] at hv
  cases v <;> simp at hv
  rw [hv.1] at hrun
  exact hrun
theorem SetMap.put {P : Program} {t k e : TypeId} {w : World} {b n : Nat} {l : List Int} (h : SetMap P k e w b n l) (ht : P.underlying t = some (.map k e)) (hk : P.underlying k = some (.int .i64)) (he : P.underlying e = some .bool)
    (hn : n < maxLen) (x : Int) (h0 : -9223372036854775808 ≤ x) (h1 : x ≤ 9223372036854775807) :
    ∃ w', (Instr.mapUpdate t (.map (some b)) (.int .i64 x) (.bool true)).run P w = .ok () w' ∧ SetMap P k e w' b (n + 1) (l ++ [x]) ∧ w.grownBy w' (some b) := by
  obtain ⟨D, hD, hx⟩ := h
  have hkey : keyOf P k (.int .i64 x) = some (.int .i64 x) := Maps.keyOf_int_mk hk (WalkArith.wf_i64 ⟨h0, h1⟩)
  obtain ⟨w', hrun, hown, hg⟩ := hD.update (Maps.int_keyed hk) ht hn hkey (plainElem_bool he true)
  refine ⟨w', hrun, ⟨_, hown, fun y => ?_⟩, hg⟩
  by_cases hy : y = x
  · subst hy
    rw [Maps.atKey_put_same hD.isMap (by trivial)]
    simp
  · rw [Maps.atKey_put_other (by simpa using hy), hx]
    simp [hy]
theorem wpList_setMap {P : Program} (w : World) {ops : Array Oper} {rest : List Oper} {o : Oper} {a : Act} {Q : Exit → Act → World → Prop}
    (hg : o.guard = none) (m x v : Operand) (t : TypeId) (hop : o.op = Op.mapUpdate t m x v)
    (k e : TypeId) (ht : P.underlying t = some (.map k e)) (hk : P.underlying k = some (.int .i64)) (he : P.underlying e = some .bool)
    (b n : Nat) (l : List Int) (y : Int) (hm : a.eval m = .map (some b)) (hx : a.eval x = .int .i64 y) (hv : a.eval v = .bool true) (hown : SetMap P k e w b n l) (hn : n < maxLen) (h0 : -9223372036854775808 ≤ y) (h1 : y ≤ 9223372036854775807)
    (hK : ∀ w', SetMap P k e w' b (n + 1) (l ++ [y]) → w.grownBy w' (some b) → wpList P ops Q rest (a.put o.dst undef) w') :
    wpList P ops Q (o :: rest) a w := by
  refine wpList_plain hg fun K' hK' => ?_
  obtain ⟨w', hrun, r1, r2⟩ := hown.put ht hk he hn y h0 h1
  unfold Oper.wp
  simp [execOp, hop, hm, hx, hv, hrun, Result.andThen]
  exact hK' _ _ (hK w' r1 r2)

/-- A slice of ints as it is read: empty, or a row of cells. -/
def IntsAt (w : World) (a : Option Addr) (len : Nat) (zs : List Int) : Prop :=
  zs.length = len ∧ (∀ z ∈ zs, -9223372036854775808 ≤ z ∧ z ≤ 9223372036854775807) ∧ (len = 0 ∨ ∃ b o, a = some ⟨b, o, none⟩ ∧ b < w.heap.size ∧ ∀ i, i < len → w.cell? ⟨b, o + i, none⟩ = some (.int .i64 (zs[i]?.getD 0)))
theorem IntsAt.at {w : World} {a : Option Addr} {len : Nat} {zs : List Int} (h : IntsAt w a len zs) (i : Nat) : -9223372036854775808 ≤ zs[i]?.getD 0 ∧ zs[i]?.getD 0 ≤ 9223372036854775807 := by
  by_cases hi : i < zs.length
  · have : zs[i]?.getD 0 = zs[i] := by simp [hi]
    rw [this]; exact h.2.1 _ (List.getElem_mem hi)
  · rw [List.getElem?_eq_none (by omega)]; simp
theorem IntsAt.of_heap {w w' : World} {a : Option Addr} {len : Nat} {zs : List Int} (h : IntsAt w a len zs) (hs : w.heap.size ≤ w'.heap.size) (he : ∀ b o, a = some ⟨b, o, none⟩ → 0 < len → w'.heap[b]? = w.heap[b]?) : IntsAt w' a len zs := by
  refine ⟨h.1, h.2.1, ?_⟩
  rcases h.2.2 with h0 | ⟨b, o, ha, hb, hc⟩
  · exact .inl h0
  · by_cases h0 : 0 < len
    · exact .inr ⟨b, o, ha, by omega, fun i hi => (World.cell?_of_block (a := ⟨b, o + i, none⟩) (he b o ha h0)).trans (hc i hi)⟩
    · exact .inl (by omega)
theorem IntsAt.below {w w' : World} {a : Option Addr} {len : Nat} {zs : List Int} (h : IntsAt w a len zs) (k : Below w.heap.size w w') : IntsAt w' a len zs := by
  rcases h.2.2 with h0 | ⟨b, o, ha, hb, hc⟩
  · exact ⟨h.1, h.2.1, .inl h0⟩
  · exact h.of_heap k.size (fun b' o' ha' _ => by rw [ha] at ha'; cases ha'; exact k.block b hb)
theorem IntsAt.only {S : Nat → Prop} {w w' : World} {a : Option Addr} {len : Nat} {zs : List Int} (h : IntsAt w a len zs) (k : Only S w w') (hS : ∀ b o, a = some ⟨b, o, none⟩ → 0 < len → ¬ S b) : IntsAt w' a len zs := by
  rcases h.2.2 with h0 | ⟨b, o, ha, hb, hc⟩
  · exact ⟨h.1, h.2.1, .inl h0⟩
  · exact h.of_heap k.size (fun b' o' ha' h0 => by have := hS b' o' ha' h0; rw [ha] at ha'; cases ha'; exact k.block b hb this)
theorem IntsAt.nil (w : World) : IntsAt w none 0 [] := ⟨rfl, by simp, .inl rfl⟩
theorem IntsAt.of_row {w : World} {a : Option Addr} {len cap : Nat} {zs : List Int} (h : IsRow .i64 w a len cap zs) : IntsAt w a len (zs.take len) := by
  rcases h with ⟨rfl, rfl, rfl, rfl⟩ | ⟨x, rfl, h1, h2, h3, h4, h5⟩
  · exact .nil w
  · refine ⟨by simp; omega, fun z hz => wf_i64 (h5 z (List.mem_of_mem_take hz)), ?_⟩
    by_cases hc : 0 < len
    · obtain ⟨b, o, rfl, hcell⟩ := ints_at h4 (by omega)
      refine .inr ⟨b, o, rfl, World.block_lt_of_cell? w _ (hcell 0 (by omega)), fun i hi => ?_⟩
      rw [hcell i (by omega)]
      simp [List.getD, hi]
    · exact .inl (by omega)
theorem IntsAt.of_own {w : World} {base n : Nat} {e : TypeId} {v : Value} {zs : List Int} (h : w.ownsRow base e 1 v n (zs.map (.int .i64))) (hb : ∀ z ∈ zs, -9223372036854775808 ≤ z ∧ z ≤ 9223372036854775807) : ∃ a cap, v = .slice a n cap ∧ IntsAt w a n zs ∧ (∀ b o, a = some ⟨b, o, none⟩ → base ≤ b) := by
  have hl : zs.length = n := by have := ownsRow_len h; simpa using this
  rcases ownsRow_form h with ⟨rfl, rfl⟩ | ⟨g, cap, rfl, h1, h2, _, _⟩
  · exact ⟨none, 0, rfl, ⟨hl, hb, .inl rfl⟩, by simp⟩
  · refine ⟨_, cap, rfl, ⟨hl, hb, .inr ⟨g, 0, rfl, h2, fun i hi => ?_⟩⟩, fun b o he => by cases he; exact h1⟩
    rw [Nat.zero_add, ownsRow_cell h i hi]
    simp [show i < zs.length by omega]
end Go.Proofs.YtadbbknllakpcaaGreat
