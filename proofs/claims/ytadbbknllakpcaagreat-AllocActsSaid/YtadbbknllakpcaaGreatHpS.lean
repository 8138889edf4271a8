/- The walk of alloc's set. -/
import Derived.Test.YtadbbknllakpcaaGreatHeapA
import Derived.Test.YtadbbknllakpcaaGreatDagA
namespace Go.Proofs.YtadbbknllakpcaaGreat
open Go.RowKit
set_option linter.unusedVariables false

theorem run_gtr (a b : Int) (v : Bool) (h : decide (b < a) = v) (w : World) : (binOp .gtr 3 (.int .i64 a) (.int .i64 b)).run Tryz.prog w = .ok (.bool v) w := by
  subst h
  go_simp
theorem run_lss (a b : Int) (v : Bool) (h : decide (a < b) = v) (w : World) : (binOp .lss 3 (.int .i64 a) (.int .i64 b)).run Tryz.prog w = .ok (.bool v) w := by
  subst h
  go_simp
theorem dag_loadG {P : Program} {md : Region.Mode} {ops : Array Oper} {F : Act} {J : (Nat → Bool) → World → Prop} {i : Nat} {o : Oper} {t : TypeId} {d : TypeDesc} {x : Operand} {p : Addr} {v : Value} (hw : Region.wanted o (yielded ops F.tmps) = true) (hp : F.put o.dst v = F) (ho : o.op = .load t x) (hx : F.eval x = .pointer (some p)) (hu : P.underlying t = some d) (hd : (match d with | .struct _ | .array _ _ => false | _ => true) = true)
    (hc : ∀ (g : Nat → Bool) (w : World), g i = false → J g w → w.cell? p = some v) (hJ : ∀ (g : Nat → Bool) (w : World), g i = false → J g w → J (upd g i) w) : DagStep P md ops F J i o := by
  refine dag_make hw hp (fun g w h1 _ h => ⟨w, ?_, hJ g w h1 h⟩)
  unfold execOp
  simp only [ho, hx, Instr.loadAt, Instr.sureAddr, Sem.run_bind, Sem.run_pure, Result.andThen_ok, run_load1 hu hd (hc g w h1 h)]
theorem upd_ne {g : Nat → Bool} {i j : Nat} (h : (j == i) = false) : upd g i j = g j := by
  unfold upd
  rw [if_neg]
  intro e; subst e; simp at h
theorem zero_slice (w : World) : (zeroValue 37).run Tryz.prog w = .ok nilV w := by kernel_rfl
def HBlk (w : World) (c : HC) : Prop := Blk w c.H [.pointer (some ⟨c.L, 0, none⟩), .map (some c.r1), c.fv, .map (some c.r2)] 61
theorem sp_off {w w1 : World} {X : Nat} {s : Sp} {A : Option Addr} {cap n : Nat} {v : Value} {xs : List Value} (h : SpB w X s.pg s.ps s.cl A s.len cap) (hown : w.ownsRow 0 3 1 v n xs) (ho : Only (fun k => v.ownBlock = some k) w w1) : SpB w1 X s.pg s.ps s.cl A s.len cap :=
  Blk.only h ho (own_apartC hown h (by decide))
/-- While a class's list is written. -/
def SetJ2 (W0 : World) (c : HC) (X : Nat) (s : Sp) (A : Option Addr) (cap n : Nat) (l' : List Nat) (g : Nat → Bool) (x : Value) (w' : World) : Prop :=
  (HBlk w' c ∧ SpB w' X s.pg s.ps s.cl A s.len cap) ∧ ((g 23 = true → g 22 = true) ∧ (g 22 = true → g 12 = true)) ∧ (g 22 = false → w' = W0) ∧ (g 22 = true → g 23 = false → TogR ((c.m2 s.cl).getD nilV) l' W0 (.returned x) w') ∧
    (g 23 = true → ∃ w1, TogR ((c.m2 s.cl).getD nilV) l' W0 (.returned x) w1 ∧ MapIs w' c.r2 (n + 1) (mput c.m2 s.cl x) ∧ Only (· = c.r2) w1 w')
section
variable {W0 : World} {c : HC} {X : Nat} {s : Sp} {A : Option Addr} {cap n : Nat} {l' : List Nat} {g : Nat → Bool} {x : Value} {w' : World} {P : List Nat} {Q : Int → List Nat} {T : List Sp}
theorem SetJ2.start (hC : Core W0 c n P Q T) (hX : SpB W0 X s.pg s.ps s.cl A s.len cap) : SetJ2 W0 c X s A cap n l' (fun _ => false) x W0 :=
  ⟨⟨hC.blk, hX⟩, ⟨(fun h => by cases h), fun h => by cases h⟩, (fun _ => rfl), (fun h => by cases h), fun h => by cases h⟩
theorem SetJ2.any {y : Value} (h : SetJ2 W0 c X s A cap n l' g x w') (hg : g 22 = false) : SetJ2 W0 c X s A cap n l' g y w' :=
  ⟨h.1, h.2.1, h.2.2.1, (fun h2 => by rw [hg] at h2; cases h2), fun h3 => by have := h.2.1.1 h3; rw [hg] at this; cases this⟩
theorem SetJ2.same (h : SetJ2 W0 c X s A cap n l' g x w') {i : Nat} (hi : (12 == i || (22 == i || 23 == i)) = false) : SetJ2 W0 c X s A cap n l' (upd g i) x w' := by
  simp only [Bool.or_eq_false_iff] at hi
  unfold SetJ2
  rw [upd_ne hi.1, upd_ne hi.2.1, upd_ne hi.2.2]
  exact h
theorem SetJ2.looked (h : SetJ2 W0 c X s A cap n l' g x w') : SetJ2 W0 c X s A cap n l' (upd g 12) x w' := by
  unfold SetJ2
  rw [upd_ne (i := 12) (j := 22) rfl, upd_ne (i := 12) (j := 23) rfl]
  exact ⟨h.1, ⟨h.2.1.1, fun _ => rfl⟩, h.2.2⟩
theorem SetJ2.look (h : SetJ2 W0 c X s A cap n l' g x w') (hC : Core W0 c n P Q T) (hcw : (Lit.int .i64 s.cl).wf = true) (hg : g 12 = false) : (Instr.lookup 59 (.map (some c.r2)) (.int .i64 s.cl) false).run Tryz.prog w' = .ok ((c.m2 s.cl).getD nilV) w' := by
  have h22 : g 22 = false := by
    cases h2 : g 22
    · rfl
    · have := h.2.1.2 h2; rw [hg] at this; cases this
  obtain rfl := h.2.2.1 h22
  exact hC.mp2.look Tryz.underlying59 (zero_slice _) hcw
theorem SetJ2.call {b : Bool} (h : SetJ2 W0 c X s A cap n (togL (Q s.cl) s.pg b) g x w') (hC : Core W0 c n P Q T) (hX : SpB W0 X s.pg s.ps s.cl A s.len cap) (hg : g 22 = false) (hd : g 12 = true) (hr : Rise (Q s.cl)) (hl : (Q s.cl).length ≤ 90000) :
    Calls Tryz.prog 52 #[(c.m2 s.cl).getD nilV, .int .i64 ((s.pg : Nat) : Int), .bool b] w' fun e w'' => ∃ y, e = .returned (id y) ∧ SetJ2 W0 c X s A cap n (togL (Q s.cl) s.pg b) (upd g 22) y w'' := by
  obtain rfl := h.2.2.1 hg
  refine (toggle_calls w' _ (Q s.cl) s.pg b (hC.prt s.cl) hr hl).mono ?_
  intro e w'' hT
  have hT0 := hT
  obtain ⟨v', rfl, hown, hpl, hon⟩ := hT
  refine ⟨v', rfl, ⟨hC.blk.only hon (own_apartC (hC.prt s.cl) hC.blk (by decide)), sp_off hX (hC.prt s.cl) hon⟩, ⟨fun _ => rfl, fun _ => hd⟩, (fun h => by cases h), (fun _ _ => hT0), fun h3 => ?_⟩
  rw [upd_ne (i := 22) (j := 23) rfl] at h3
  have := h.2.1.1 h3
  rw [hg] at this; cases this
theorem SetJ2.stored (h : SetJ2 W0 c X s A cap n l' g x w') (hC : Core W0 c n P Q T) (hcw : (Lit.int .i64 s.cl).wf = true) (hn : n < maxLen) (hd : g 22 = true) (hg : g 23 = false) :
    ∃ w'', (Instr.mapUpdate 59 (.map (some c.r2)) (.int .i64 s.cl) x).run Tryz.prog w' = .ok () w'' ∧ SetJ2 W0 c X s A cap n l' (upd g 23) x w'' := by
  have hT := h.2.2.2.1 hd hg
  have hT0 := hT
  obtain ⟨v', he, hown, hpl, hon⟩ := hT
  have hm1 : MapIs w' c.r2 n c.m2 := hC.mp2.only hon (own_ne_map (hC.prt s.cl) hC.mp2)
  obtain ⟨w'', hr, hm, ho, _⟩ := hm1.store Tryz.underlying59 hn hcw x
  refine ⟨w'', hr, ⟨h.1.1.only ho (blk_ne_map h.1.1 hm1), Blk.only h.1.2 ho (blk_ne_map h.1.2 hm1)⟩, ⟨fun _ => by rw [upd_ne (i := 23) (j := 22) rfl]; exact hd, fun _ => ?_⟩, (fun h2 => ?_), (fun _ h3 => by cases h3), fun _ => ⟨w', hT0, hm, ho⟩⟩
  · rw [upd_ne (i := 23) (j := 12) rfl]; exact h.2.1.2 hd
  · rw [upd_ne (i := 23) (j := 22) rfl, hd] at h2; cases h2
theorem SetJ2.fin (h : SetJ2 W0 c X s A cap n l' (fun k => decide (k < 24)) x w') : ∃ w1, TogR ((c.m2 s.cl).getD nilV) l' W0 (.returned x) w1 ∧ MapIs w' c.r2 (n + 1) (mput c.m2 s.cl x) ∧ Only (· = c.r2) w1 w' := h.2.2.2.2 rfl
/-- While the list of the pages is written. -/
def SetJ3 (W0 : World) (c : HC) (X : Nat) (s : Sp) (A : Option Addr) (cap : Nat) (l' : List Nat) (g : Nat → Bool) (x : Value) (w' : World) : Prop :=
  SpB w' X s.pg s.ps s.cl A s.len cap ∧ ((g 12 = true → g 9 = true) ∧ (g 9 = true → g 4 = true)) ∧ (g 9 = false → w' = W0) ∧ (g 9 = true → g 12 = false → TogR c.fv l' W0 (.returned x) w') ∧
    (g 12 = true → ∃ w1, TogR c.fv l' W0 (.returned x) w1 ∧ w' = w1.setCell ⟨c.H, 2, none⟩ x)
theorem SetJ3.start (hX : SpB W0 X s.pg s.ps s.cl A s.len cap) : SetJ3 W0 c X s A cap l' (fun _ => false) x W0 :=
  ⟨hX, ⟨(fun h => by cases h), fun h => by cases h⟩, (fun _ => rfl), (fun h => by cases h), fun h => by cases h⟩
theorem SetJ3.any {y : Value} (h : SetJ3 W0 c X s A cap l' g x w') (hg : g 9 = false) : SetJ3 W0 c X s A cap l' g y w' :=
  ⟨h.1, h.2.1, h.2.2.1, (fun h2 => by rw [hg] at h2; cases h2), fun h3 => by have := h.2.1.1 h3; rw [hg] at this; cases this⟩
theorem SetJ3.same (h : SetJ3 W0 c X s A cap l' g x w') {i : Nat} (hi : (4 == i || (9 == i || 12 == i)) = false) : SetJ3 W0 c X s A cap l' (upd g i) x w' := by
  simp only [Bool.or_eq_false_iff] at hi
  unfold SetJ3
  rw [upd_ne hi.1, upd_ne hi.2.1, upd_ne hi.2.2]
  exact h
theorem SetJ3.looked (h : SetJ3 W0 c X s A cap l' g x w') : SetJ3 W0 c X s A cap l' (upd g 4) x w' := by
  unfold SetJ3
  rw [upd_ne (i := 4) (j := 9) rfl, upd_ne (i := 4) (j := 12) rfl]
  exact ⟨h.1, ⟨h.2.1.1, fun _ => rfl⟩, h.2.2⟩
theorem SetJ3.fvAt (h : SetJ3 W0 c X s A cap l' g x w') (hC : Core W0 c n P Q T) (hg : g 4 = false) : w'.cell? ⟨c.H, 2, none⟩ = some c.fv := by
  have h9 : g 9 = false := by
    cases h2 : g 9
    · rfl
    · have := h.2.1.2 h2; rw [hg] at this; cases this
  obtain rfl := h.2.2.1 h9
  exact hC.blk.cell 2
theorem SetJ3.call {b : Bool} (h : SetJ3 W0 c X s A cap (togL P s.pg b) g x w') (hC : Core W0 c n P Q T) (hX : SpB W0 X s.pg s.ps s.cl A s.len cap) (hg : g 9 = false) (hd : g 4 = true) (hr : Rise P) (hl : P.length ≤ 90000) :
    Calls Tryz.prog 52 #[c.fv, .int .i64 ((s.pg : Nat) : Int), .bool b] w' fun e w'' => ∃ y, e = .returned (id y) ∧ SetJ3 W0 c X s A cap (togL P s.pg b) (upd g 9) y w'' := by
  obtain rfl := h.2.2.1 hg
  refine (toggle_calls w' _ P s.pg b hC.fst hr hl).mono ?_
  intro e w'' hT
  have hT0 := hT
  obtain ⟨v', rfl, hown, hpl, hon⟩ := hT
  refine ⟨v', rfl, sp_off hX hC.fst hon, ⟨fun _ => rfl, fun _ => hd⟩, (fun h => by cases h), (fun _ _ => hT0), fun h3 => ?_⟩
  rw [upd_ne (i := 9) (j := 12) rfl] at h3
  have := h.2.1.1 h3
  rw [hg] at this; cases this
theorem int_info : (Tryz.prog.info? 37).map (·.size) = some 1 := by kernel_rfl
theorem SetJ3.stored (h : SetJ3 W0 c X s A cap l' g x w') (hC : Core W0 c n P Q T) (hd : g 9 = true) (hg : g 12 = false) :
    ∃ w'', (Instr.storeAt 37 (.pointer (some ⟨c.H, 2, none⟩)) x).run Tryz.prog w' = .ok () w'' ∧ SetJ3 W0 c X s A cap l' (upd g 12) x w'' := by
  have hT := h.2.2.2.1 hd hg
  have hT0 := hT
  obtain ⟨v', he, hown, hpl, hon⟩ := hT
  cases he
  have hB : Blk w' c.H _ _ := hC.blk.only hon (own_apartC hC.fst hC.blk (by decide))
  obtain ⟨i, hi, hs⟩ := Option.map_eq_some_iff.1 int_info
  obtain ⟨A1, c1, rfl⟩ := ownsRow_slice hown
  have hne : X ≠ c.H := fun e => by
    have h1 := h.1
    unfold SpB Blk at h1
    unfold Blk at hB
    rw [e, hB] at h1
    simp at h1
  refine ⟨_, run_storeOne hi hs rfl (hB.cell 2) (hB.free 2), Blk.set_other h.1 hne _ _, ⟨fun _ => by rw [upd_ne (i := 12) (j := 9) rfl]; exact hd, fun _ => ?_⟩, (fun h2 => ?_), (fun _ h3 => by cases h3), fun _ => ⟨w', hT0, rfl⟩⟩
  · rw [upd_ne (i := 12) (j := 4) rfl]; exact h.2.1.2 hd
  · rw [upd_ne (i := 12) (j := 9) rfl, hd] at h2; cases h2
theorem SetJ3.fin (h : SetJ3 W0 c X s A cap l' (fun k => decide (k < 13)) x w') : ∃ w1, TogR c.fv l' W0 (.returned x) w1 ∧ w' = w1.setCell ⟨c.H, 2, none⟩ x := h.2.2.2.2 rfl
/-- While a span is laid. -/
def PutJ (W0 : World) (c : HC) (X : Nat) (s : Sp) (A : Option Addr) (cap n : Nat) (g : Nat → Bool) (w' : World) : Prop :=
  (HBlk w' c ∧ SpB w' X s.pg s.ps s.cl A s.len cap) ∧ (g 7 = false → w' = W0) ∧ (g 7 = true → MapIs w' c.r1 (n + 1 + 1) (mput c.m1 s.pg (s.v A cap)) ∧ Only (· = c.r1) W0 w')
def DelJ (W0 : World) (c : HC) (X : Nat) (s : Sp) (A : Option Addr) (cap n : Nat) (g : Nat → Bool) (w' : World) : Prop :=
  (HBlk w' c ∧ SpB w' X s.pg s.ps s.cl A s.len cap) ∧ (g 6 = false → w' = W0) ∧ (g 6 = true → MapIs w' c.r1 (n + 1) (mdel c.m1 s.pg) ∧ Only (· = c.r1) W0 w')
theorem PutJ.start (hC : Core W0 c (n + 1) P Q T) (hX : SpB W0 X s.pg s.ps s.cl A s.len cap) : PutJ W0 c X s A cap n (fun _ => false) W0 := ⟨⟨hC.blk, hX⟩, (fun _ => rfl), fun h => by cases h⟩
theorem DelJ.start (hC : Core W0 c (n + 1) P Q T) (hX : SpB W0 X s.pg s.ps s.cl A s.len cap) : DelJ W0 c X s A cap n (fun _ => false) W0 := ⟨⟨hC.blk, hX⟩, (fun _ => rfl), fun h => by cases h⟩
theorem PutJ.same (h : PutJ W0 c X s A cap n g w') {i : Nat} (hi : (7 == i) = false) : PutJ W0 c X s A cap n (upd g i) w' := by
  unfold PutJ
  rw [upd_ne hi]
  exact h
theorem DelJ.same (h : DelJ W0 c X s A cap n g w') {i : Nat} (hi : (6 == i) = false) : DelJ W0 c X s A cap n (upd g i) w' := by
  unfold DelJ
  rw [upd_ne hi]
  exact h
theorem PutJ.put (h : PutJ W0 c X s A cap n g w') (hC : Core W0 c (n + 1) P Q T) (hX : SpB W0 X s.pg s.ps s.cl A s.len cap) (hpw : (Lit.int .i64 (s.pg : Int)).wf = true) (hn : n + 1 < maxLen) (hg : g 7 = false) :
    ∃ w'', (Instr.mapUpdate 58 (.map (some c.r1)) (.int .i64 (s.pg : Int)) (.agg #[.int .i64 ((s.pg : Nat) : Int), .int .i64 ((s.ps : Nat) : Int), .int .i64 s.cl, .slice A s.len cap])).run Tryz.prog w' = .ok () w'' ∧ PutJ W0 c X s A cap n (upd g 7) w'' := by
  obtain rfl := h.2.1 hg
  obtain ⟨w'', hr, hm, ho, _⟩ := hC.mp1.store Tryz.underlying58 hn hpw (s.v A cap)
  exact ⟨w'', hr, ⟨hC.blk.only ho (blk_ne_map hC.blk hC.mp1), Blk.only hX ho (blk_ne_map hX hC.mp1)⟩, (fun h => by cases h), fun _ => ⟨hm, ho⟩⟩
theorem DelJ.del (h : DelJ W0 c X s A cap n g w') (hC : Core W0 c (n + 1) P Q T) (hX : SpB W0 X s.pg s.ps s.cl A s.len cap) (hpw : (Lit.int .i64 (s.pg : Int)).wf = true) (hg : g 6 = false) {ty : TypeId} :
    ∃ w'', (Builtin.delete_ #[58, 3] ty #[.map (some c.r1), .int .i64 (s.pg : Int)]).run Tryz.prog w' = .ok (.tuple #[]) w'' ∧ DelJ W0 c X s A cap n (upd g 6) w'' := by
  obtain rfl := h.2.1 hg
  obtain ⟨w'', hr, hm, ho, _⟩ := hC.mp1.drop Tryz.underlying58 hpw ty
  exact ⟨w'', hr, ⟨hC.blk.only ho (blk_ne_map hC.blk hC.mp1), Blk.only hX ho (blk_ne_map hX hC.mp1)⟩, (fun h => by cases h), fun _ => ⟨hm, ho⟩⟩
theorem PutJ.fin (h : PutJ W0 c X s A cap n (fun k => decide (k < 8)) w') : MapIs w' c.r1 (n + 1 + 1) (mput c.m1 s.pg (s.v A cap)) ∧ Only (· = c.r1) W0 w' := h.2.2 rfl
theorem DelJ.fin (h : DelJ W0 c X s A cap n (fun k => decide (k < 7)) w') : MapIs w' c.r1 (n + 1) (mdel c.m1 s.pg) ∧ Only (· = c.r1) W0 w' := h.2.2 rfl
theorem has_put (hS : s.ok) (hW : WordsAt w' A s.len s.f) (hA : ∀ x o, A = some ⟨x, o, none⟩ → ¬ c.K x) (hc : 0 < s.cnt) : ∀ t ∈ setS T s, (t ∈ T ∧ mput c.m1 s.pg (s.v A cap) (t.pg : Int) = c.m1 (t.pg : Int)) ∨ LiveAt w' { c with m1 := mput c.m1 s.pg (s.v A cap) } t := by
  intro t ht
  rcases setS_mem.1 ht with ⟨h1, h2⟩ | ⟨rfl, _⟩
  · exact .inl ⟨h1, if_neg (by omega)⟩
  · exact .inr ⟨hS, A, cap, if_pos rfl, hW, hA⟩
theorem has_del (hc : s.cnt = 0) : ∀ t ∈ setS T s, (t ∈ T ∧ mdel c.m1 s.pg (t.pg : Int) = c.m1 (t.pg : Int)) ∨ LiveAt w' { c with m1 := mdel c.m1 s.pg } t := by
  intro t ht
  rcases setS_mem.1 ht with ⟨h1, h2⟩ | ⟨rfl, h2⟩
  · exact .inl ⟨h1, if_neg (by omega)⟩
  · omega
theorem only_put (ho : ∀ (x : Int) v, c.m1 x = some v → ∃ s ∈ T, (s.pg : Int) = x) (hc : 0 < s.cnt) : ∀ (x : Int) v, mput c.m1 s.pg (s.v A cap) x = some v → ∃ t ∈ setS T s, (t.pg : Int) = x := by
  intro x v h
  unfold mput at h
  split at h
  · exact ⟨s, setS_mem.2 (.inr ⟨rfl, hc⟩), by omega⟩
  · obtain ⟨t, h1, h2⟩ := ho x v h
    exact ⟨t, setS_mem.2 (.inl ⟨h1, by omega⟩), h2⟩
theorem only_del (ho : ∀ (x : Int) v, c.m1 x = some v → ∃ s ∈ T, (s.pg : Int) = x) : ∀ (x : Int) v, mdel c.m1 s.pg x = some v → ∃ t ∈ setS T s, (t.pg : Int) = x := by
  intro x v h
  unfold mdel at h
  split at h
  · cases h
  · obtain ⟨t, h1, h2⟩ := ho x v h
    exact ⟨t, setS_mem.2 (.inl ⟨h1, by omega⟩), h2⟩
theorem Core.drew (h : Core W0 c n P Q T) : Core W0.drew c n P Q T := h.below (Below.refl _ _).drew
theorem Core.up (h : Core W0 c n P Q T) : Core W0 c (n + 1) P Q T := { h with mp1 := h.mp1.mono (Nat.le_succ n), mp2 := h.mp2.mono (Nat.le_succ n) }
end
theorem Only.of_drew {S : Nat → Prop} {w w' : World} (h : Only S w.drew w') : Only S w w' := ⟨h.os, h.tape, h.output, h.size, h.block⟩
theorem SpB.drew {w : World} {b : Nat} {pg ps cl : Int} {A : Option Addr} {len cap : Nat} (h : SpB w b pg ps cl A len cap) : SpB w.drew b pg ps cl A len cap := h
/-- What set does. -/
def SetR (c : HC) (n : Nat) (P : List Nat) (Q : Int → List Nat) (T : List Sp) (s : Sp) (A : Option Addr) (cap : Nat) (w : World) (e : Ending) (w' : World) : Prop :=
  e = .returned (.bool (decide (0 < s.cnt))) ∧ ∃ c' : HC, c'.H = c.H ∧ c'.L = c.L ∧ Core w' c' (n + 2) (togL P s.pg (decide (0 < s.cnt))) (fun y => if y = s.cl then togL (Q s.cl) s.pg (partOn s) else Q y) (setS T s) ∧ Only c.K w w' ∧ (∀ k, c'.K k → c.K k ∨ w.heap.size ≤ k) ∧
    c'.m1 = if 0 < s.cnt then mput c.m1 s.pg (s.v A cap) else mdel c.m1 s.pg
set_option maxRecDepth 8000 in
set_option maxHeartbeats 16000000 in
theorem set_calls (w : World) (c : HC) (n : Nat) (P : List Nat) (Q : Int → List Nat) (T : List Sp) (s : Sp) (A : Option Addr) (cap : Nat) (hC : Core w c n P Q T) (hPr : Rise P) (hPl : P.length ≤ 90000) (hQr : ∀ x, Rise (Q x)) (hQl : ∀ x, (Q x).length ≤ 90000)
    (hS : s.ok) (hW : WordsAt w A s.len s.f) (hA : ∀ x o, A = some ⟨x, o, none⟩ → ¬ c.K x) (hn : n ≤ 1000000) :
    Calls Tryz.prog 21 #[.pointer (some ⟨c.H, 0, none⟩), s.v A cap] w (SetR c n P Q T s A cap w) := by
  obtain ⟨w1, hw1, hX, hB⟩ := one_span w s.pg s.ps s.cl A s.len cap
  have HCw := Lib.hid hC
  have HB1 := Lib.hid hB
  have HX1 := Lib.hid hX
  have HW1 := Lib.hid (hW.below hB)
  have HA := Lib.hid hA
  have HPr := Lib.hid hPr
  have HQr := Lib.hid hQr
  have HQl := Lib.hid hQl
  have hlen1 : 0 < s.len := hS.len1
  have hpw : (Lit.int .i64 (s.pg : Int)).wf = true := WalkArith.wf_i64 (by have := hS.ps1; omega)
  have hcw : (Lit.int .i64 s.cl).wf = true := WalkArith.wf_i64 (by have := Good.cls hS; omega)
  have HPs := Lib.hid (show n < maxLen ∧ n + 1 < maxLen by unfold maxLen; omega)
  obtain ⟨k, hk⟩ : ∃ k, s.cnt = k := ⟨_, rfl⟩
  obtain ⟨p, hp⟩ : ∃ p, s.per = p := ⟨_, rfl⟩
  obtain ⟨s0, s1, s2, s3⟩ := HX1.out.cells
  have HKk := Lib.hid hk
  have HPp := Lib.hid hp
  clear hX hB hW hA hPr hQr hQl
  unfold Sp.v spV
  go_enter Tryz.func21, Tryz.ntmps21
  go_wp2_with fail
  refine (count15_calls (s.pg : Int) (s.ps : Int) s.cl A s.len cap s.f _ hS HW1.out).mono ?_
  rintro e w2 ⟨rfl, hb⟩
  rw [show cntF s.f (perN s.cl) = k from hk, show perN s.cl = p from hp]
  have HB2 := Lib.hid (bel_next HB1.out hb (Nat.le_refl _))
  have HX2 := Lib.hid (HX1.out.below hb)
  have HW2 := Lib.hid (HW1.out.below hb)
  have HC2 := Lib.hid (HCw.out.below HB2.out)
  obtain ⟨X, hX⟩ : ∃ X, w.heap.size = X := ⟨_, rfl⟩
  rw [hX] at HX2
  rw [hX]
  have hXw := hX
  clear hb hw1 s0 s1 s2 s3 HX1 HW1 HB1 hX hC hk hp
  have hn := HPs.out.1
  have hkn : ∀ w' : World, True := fun _ => trivial
  have HcK := HKk.out
  by_cases hk0 : 0 < k
  · have hkb : ((k : Int) == 0) = false := by rw [beq_eq_false_iff_ne]; omega
    have hbp : partOn s = decide (k < p) := by unfold partOn; rw [HKk.out, HPp.out, decide_eq_true hk0, Bool.true_and]
    have hcn : decide (0 < s.cnt) = true := decide_eq_true (by omega)
    go_wp2_with fail
    refine wp_dagU (U := Value) (fun y => [(12, .pointer (some ⟨c.H, 0, none⟩)), (13, .pointer (some ⟨c.H, 0, none⟩)), (14, .pointer (some ⟨c.H, 3, none⟩)), (15, .map (some c.r2)), (16, .pointer (some ⟨X, 2, none⟩)), (17, .int .i64 (s.cl)), (18, .pointer (some ⟨c.H, 0, none⟩)), (19, .pointer (some ⟨c.H, 0, none⟩)), (20, .pointer (some ⟨c.H, 3, none⟩)), (21, .map (some c.r2)), (22, .pointer (some ⟨X, 2, none⟩)), (23, .int .i64 (s.cl)), (24, ((c.m2 s.cl).getD nilV)), (25, .pointer (some ⟨X, 0, none⟩)), (26, .int .i64 ((s.pg : Nat) : Int)), (27, .int .i64 ((k : Nat) : Int)), (28, .bool true), (29, .bool true), (30, .int .i64 ((k : Nat) : Int)), (31, .int .i64 ((p : Nat) : Int)), (32, .bool (decide (k < p))), (33, .bool (decide (k < p))), (34, y)]) (SetJ2 w2.drew c X s A cap n (togL (Q s.cl) s.pg (decide (k < p)))) 22 _ id [34] nilV (by kernel_rfl) (by kernel_rfl) (by kernel_rfl) (fun y => by kernel_rfl) rfl rfl (by kernel_rfl) (fun x y => rfl) (fun y => by kernel_rfl) (fun g x y w' hg h => h.any hg) (.start HC2.out.drew HX2.out.drew) ?_ ?_ ?_
    case refine_1 =>
      intro x g0 w' hg hd h
      refine ⟨52, #[(c.m2 s.cl).getD nilV, .int .i64 ((s.pg : Nat) : Int), .bool (decide (k < p))], by kernel_rfl, ?_⟩
      exact h.call HC2.out.drew HX2.out.drew hg (hd { on := 12, ground := Ground.data } (by simp) rfl) (HQr.out _) (HQl.out _)
    case refine_2 =>
      intro y
      have hC := HC2.out.drew
      refine dagU_cons (dag_val (v := .pointer (some ⟨c.H, 0, none⟩)) (by kernel_rfl) (by kernel_rfl) (fun g0 w' h => by kernel_rfl) (fun g0 w' h => h.same rfl)) ?_
      refine dagU_cons (dag_val (v := .pointer (some ⟨c.H, 0, none⟩)) (by kernel_rfl) (by kernel_rfl) (fun g0 w' h => by kernel_rfl) (fun g0 w' h => h.same rfl)) ?_
      refine dagU_cons (dag_field (s := 61) (x := .tmp 13) (k := 3) (v1 := .pointer (some ⟨c.H, 0, none⟩)) (v := .pointer (some ⟨c.H, 3, none⟩)) (by kernel_rfl) (by kernel_rfl) (by kernel_rfl) (by kernel_rfl) (fun w' => by kernel_rfl) (fun g0 w' h => h.same rfl)) ?_
      refine dagU_cons (dag_load (t := 59) (d := .map 3 37) (x := .tmp 14) (p := ⟨c.H, 3, none⟩) (v := .map (some c.r2)) (by kernel_rfl) (by kernel_rfl) (by kernel_rfl) (by kernel_rfl) Tryz.underlying59 rfl (fun g0 w' h => h.1.1.cell 3) (fun g0 w' h => h.same rfl)) ?_
      refine dagU_cons (dag_field (s := 27) (x := .tmp 3) (k := 2) (v1 := .pointer (some ⟨X, 0, none⟩)) (v := .pointer (some ⟨X, 2, none⟩)) (by kernel_rfl) (by kernel_rfl) (by kernel_rfl) (by kernel_rfl) (fun w' => by kernel_rfl) (fun g0 w' h => h.same rfl)) ?_
      refine dagU_cons (dag_load (t := 3) (d := .int .i64) (x := .tmp 16) (p := ⟨X, 2, none⟩) (v := .int .i64 (s.cl)) (by kernel_rfl) (by kernel_rfl) (by kernel_rfl) (by kernel_rfl) Tryz.underlying3 rfl (fun g0 w' h => h.1.2.cells.2.2.1) (fun g0 w' h => h.same rfl)) ?_
      refine dagU_cons (dag_val (v := .pointer (some ⟨c.H, 0, none⟩)) (by kernel_rfl) (by kernel_rfl) (fun g0 w' h => by kernel_rfl) (fun g0 w' h => h.same rfl)) ?_
      refine dagU_cons (dag_val (v := .pointer (some ⟨c.H, 0, none⟩)) (by kernel_rfl) (by kernel_rfl) (fun g0 w' h => by kernel_rfl) (fun g0 w' h => h.same rfl)) ?_
      refine dagU_cons (dag_field (s := 61) (x := .tmp 19) (k := 3) (v1 := .pointer (some ⟨c.H, 0, none⟩)) (v := .pointer (some ⟨c.H, 3, none⟩)) (by kernel_rfl) (by kernel_rfl) (by kernel_rfl) (by kernel_rfl) (fun w' => by kernel_rfl) (fun g0 w' h => h.same rfl)) ?_
      refine dagU_cons (dag_load (t := 59) (d := .map 3 37) (x := .tmp 20) (p := ⟨c.H, 3, none⟩) (v := .map (some c.r2)) (by kernel_rfl) (by kernel_rfl) (by kernel_rfl) (by kernel_rfl) Tryz.underlying59 rfl (fun g0 w' h => h.1.1.cell 3) (fun g0 w' h => h.same rfl)) ?_
      refine dagU_cons (dag_field (s := 27) (x := .tmp 3) (k := 2) (v1 := .pointer (some ⟨X, 0, none⟩)) (v := .pointer (some ⟨X, 2, none⟩)) (by kernel_rfl) (by kernel_rfl) (by kernel_rfl) (by kernel_rfl) (fun w' => by kernel_rfl) (fun g0 w' h => h.same rfl)) ?_
      refine dagU_cons (dag_load (t := 3) (d := .int .i64) (x := .tmp 22) (p := ⟨X, 2, none⟩) (v := .int .i64 (s.cl)) (by kernel_rfl) (by kernel_rfl) (by kernel_rfl) (by kernel_rfl) Tryz.underlying3 rfl (fun g0 w' h => h.1.2.cells.2.2.1) (fun g0 w' h => h.same rfl)) ?_
      refine dagU_cons (dag_lookup (t := 59) (m := .tmp 21) (x := .tmp 23) (v1 := .map (some c.r2)) (v2 := .int .i64 (s.cl)) (v := ((c.m2 s.cl).getD nilV)) (by kernel_rfl) (by kernel_rfl) (by kernel_rfl) (by kernel_rfl) (by kernel_rfl) (fun g0 w' hg h => h.look hC hcw hg) (fun g0 w' hg h => h.looked)) ?_
      refine dagU_cons (dag_field (s := 27) (x := .tmp 3) (k := 0) (v1 := .pointer (some ⟨X, 0, none⟩)) (v := .pointer (some ⟨X, 0, none⟩)) (by kernel_rfl) (by kernel_rfl) (by kernel_rfl) (by kernel_rfl) (fun w' => by kernel_rfl) (fun g0 w' h => h.same rfl)) ?_
      refine dagU_cons (dag_load (t := 3) (d := .int .i64) (x := .tmp 25) (p := ⟨X, 0, none⟩) (v := .int .i64 ((s.pg : Nat) : Int)) (by kernel_rfl) (by kernel_rfl) (by kernel_rfl) (by kernel_rfl) Tryz.underlying3 rfl (fun g0 w' h => h.1.2.cells.1) (fun g0 w' h => h.same rfl)) ?_
      refine dagU_cons (dag_val (v := .int .i64 ((k : Nat) : Int)) (by kernel_rfl) (by kernel_rfl) (fun g0 w' h => by kernel_rfl) (fun g0 w' h => h.same rfl)) ?_
      refine dagU_cons (dag_bin (b := .gtr) (t := 3) (t' := 3) (x := .tmp 27) (y := .const (.int .i64 0)) (v1 := .int .i64 ((k : Nat) : Int)) (v2 := .int .i64 0) (v := .bool true) (by kernel_rfl) (by kernel_rfl) (by kernel_rfl) (by kernel_rfl) (by kernel_rfl) rfl (fun w' => run_gtr _ _ _ (by simp; omega) w') (fun g0 w' h => h.same rfl)) ?_
      refine dagU_cons (dag_val (v := .bool true) (by kernel_rfl) (by kernel_rfl) (fun g0 w' h => by kernel_rfl) (fun g0 w' h => h.same rfl)) ?_
      refine dagU_cons (dag_val (v := .int .i64 ((k : Nat) : Int)) (by kernel_rfl) (by kernel_rfl) (fun g0 w' h => by kernel_rfl) (fun g0 w' h => h.same rfl)) ?_
      refine dagU_cons (dag_val (v := .int .i64 ((p : Nat) : Int)) (by kernel_rfl) (by kernel_rfl) (fun g0 w' h => by kernel_rfl) (fun g0 w' h => h.same rfl)) ?_
      refine dagU_cons (dag_bin (b := .lss) (t := 3) (t' := 3) (x := .tmp 30) (y := .tmp 31) (v1 := .int .i64 ((k : Nat) : Int)) (v2 := .int .i64 ((p : Nat) : Int)) (v := .bool (decide (k < p))) (by kernel_rfl) (by kernel_rfl) (by kernel_rfl) (by kernel_rfl) (by kernel_rfl) rfl (fun w' => run_lss _ _ _ (by simp) w') (fun g0 w' h => h.same rfl)) ?_
      refine dagU_cons (dag_val (v := .bool (decide (k < p))) (by kernel_rfl) (by kernel_rfl) (fun g0 w' h => by kernel_rfl) (fun g0 w' h => h.same rfl)) ?_
      refine dagU_call rfl ?_
      refine dagU_cons (dag_update (t := 59) (m := .tmp 15) (x := .tmp 17) (y := .tmp 34) (v1 := .map (some c.r2)) (v2 := .int .i64 (s.cl)) (v3 := y) (by kernel_rfl) (by kernel_rfl) (by kernel_rfl) (by kernel_rfl) (by kernel_rfl) (by kernel_rfl) (fun g0 w' hg hd h => h.stored hC hcw hn (hd { on := 22, ground := Ground.data } (by simp) rfl) hg)) ?_
      exact dagU_nil
    case refine_3 =>
      intro y3 w3 hJ
      obtain ⟨w2', hT, hm, ho⟩ := hJ.fin
      obtain ⟨hC3, hO3, hK3⟩ := core_part HC2.out.drew hT hm ho
      have HX3 := Lib.hid hJ.1.2
      have HC3 := Lib.hid hC3
      have HO3 := Lib.hid (Only.trans (S := c.K) (b := w2.drew) (Only.of_below HB2.out.drew) hO3 (fun _ _ h => h))
      have HK3 := Lib.hid hK3
      have HW3 := Lib.hid (WordsAt.only (w := w2.drew) (HW2.out.below (Below.refl _ _).drew) hO3 HA.out)
      have HA3 := Lib.hid (show ∀ x o, A = some ⟨x, o, none⟩ → ¬ HC.K { c with m2 := mput c.m2 s.cl y3 } x from fun x o he hx => (hK3 x hx).elim (HA.out x o he) (fun h => by have := HW2.out.lt hlen1 x o he; simp at h; omega))
      clear hT hm ho hC3 hO3 hK3 hJ
      simp only [putAll, List.foldl_cons, List.foldl_nil]
      obtain ⟨c1, hc1⟩ : ∃ c1, HC.mk c.H c.L c.r1 c.r2 c.fv c.m1 (mput c.m2 s.cl y3) = c1 := ⟨_, rfl⟩
      have e1 : c1.H = c.H := by rw [← hc1]
      have e2 : c1.L = c.L := by rw [← hc1]
      have e3 : c1.m1 = c.m1 := by rw [← hc1]
      rw [hc1] at HC3 HK3 HA3
      rw [← e1]
      have HE := Lib.hid (show c1.H = c.H ∧ c1.L = c.L ∧ c1.m1 = c.m1 from ⟨e1, e2, e3⟩)
      clear hc1 e1 e2 e3
      go_wp2_with fail
      refine wp_dagU (U := Value) (fun y => [(35, .pointer (some ⟨c1.H, 0, none⟩)), (36, .pointer (some ⟨c1.H, 0, none⟩)), (37, .pointer (some ⟨c1.H, 0, none⟩)), (38, .pointer (some ⟨c1.H, 2, none⟩)), (39, c1.fv), (40, .pointer (some ⟨X, 0, none⟩)), (41, .int .i64 ((s.pg : Nat) : Int)), (42, .int .i64 ((k : Nat) : Int)), (43, .bool true), (44, y), (45, .pointer (some ⟨c1.H, 0, none⟩)), (46, .pointer (some ⟨c1.H, 2, none⟩))]) (SetJ3 w3.drew c1 X s A cap (togL P s.pg true)) 9 _ id [44] nilV (by kernel_rfl) (by kernel_rfl) (by kernel_rfl) (fun y => by kernel_rfl) rfl rfl (by kernel_rfl) (fun x y => rfl) (fun y => by kernel_rfl) (fun g x y w' hg h => h.any hg) (.start HX3.out) ?_ ?_ ?_
      case refine_1 =>
        intro x g0 w' hg hd h
        refine ⟨52, #[c1.fv, .int .i64 ((s.pg : Nat) : Int), .bool true], by kernel_rfl, ?_⟩
        exact h.call HC3.out.drew HX3.out hg (hd { on := 4, ground := Ground.data } (by simp) rfl) HPr.out hPl
      case refine_2 =>
        intro y
        have hC := HC3.out.drew
        refine dagU_cons (dag_val (v := .pointer (some ⟨c1.H, 0, none⟩)) (by kernel_rfl) (by kernel_rfl) (fun g0 w' h => by kernel_rfl) (fun g0 w' h => h.same rfl)) ?_
        refine dagU_cons (dag_val (v := .pointer (some ⟨c1.H, 0, none⟩)) (by kernel_rfl) (by kernel_rfl) (fun g0 w' h => by kernel_rfl) (fun g0 w' h => h.same rfl)) ?_
        refine dagU_cons (dag_val (v := .pointer (some ⟨c1.H, 0, none⟩)) (by kernel_rfl) (by kernel_rfl) (fun g0 w' h => by kernel_rfl) (fun g0 w' h => h.same rfl)) ?_
        refine dagU_cons (dag_field (s := 61) (x := .tmp 37) (k := 2) (v1 := .pointer (some ⟨c1.H, 0, none⟩)) (v := .pointer (some ⟨c1.H, 2, none⟩)) (by kernel_rfl) (by kernel_rfl) (by kernel_rfl) (by kernel_rfl) (fun w' => by kernel_rfl) (fun g0 w' h => h.same rfl)) ?_
        refine dagU_cons (dag_loadG (t := 37) (d := .slice 3) (x := .tmp 38) (p := ⟨c1.H, 2, none⟩) (v := c1.fv) (by kernel_rfl) (by kernel_rfl) (by kernel_rfl) (by kernel_rfl) Tryz.underlying37 rfl (fun g0 w' hg h => h.fvAt hC hg) (fun g0 w' hg h => h.looked)) ?_
        refine dagU_cons (dag_field (s := 27) (x := .tmp 3) (k := 0) (v1 := .pointer (some ⟨X, 0, none⟩)) (v := .pointer (some ⟨X, 0, none⟩)) (by kernel_rfl) (by kernel_rfl) (by kernel_rfl) (by kernel_rfl) (fun w' => by kernel_rfl) (fun g0 w' h => h.same rfl)) ?_
        refine dagU_cons (dag_load (t := 3) (d := .int .i64) (x := .tmp 40) (p := ⟨X, 0, none⟩) (v := .int .i64 ((s.pg : Nat) : Int)) (by kernel_rfl) (by kernel_rfl) (by kernel_rfl) (by kernel_rfl) Tryz.underlying3 rfl (fun g0 w' h => h.1.cells.1) (fun g0 w' h => h.same rfl)) ?_
        refine dagU_cons (dag_val (v := .int .i64 ((k : Nat) : Int)) (by kernel_rfl) (by kernel_rfl) (fun g0 w' h => by kernel_rfl) (fun g0 w' h => h.same rfl)) ?_
        refine dagU_cons (dag_bin (b := .gtr) (t := 3) (t' := 3) (x := .tmp 42) (y := .const (.int .i64 0)) (v1 := .int .i64 ((k : Nat) : Int)) (v2 := .int .i64 0) (v := .bool true) (by kernel_rfl) (by kernel_rfl) (by kernel_rfl) (by kernel_rfl) (by kernel_rfl) rfl (fun w' => run_gtr _ _ _ (by simp; omega) w') (fun g0 w' h => h.same rfl)) ?_
        refine dagU_call rfl ?_
        refine dagU_cons (dag_val (v := .pointer (some ⟨c1.H, 0, none⟩)) (by kernel_rfl) (by kernel_rfl) (fun g0 w' h => by kernel_rfl) (fun g0 w' h => h.same rfl)) ?_
        refine dagU_cons (dag_field (s := 61) (x := .tmp 45) (k := 2) (v1 := .pointer (some ⟨c1.H, 0, none⟩)) (v := .pointer (some ⟨c1.H, 2, none⟩)) (by kernel_rfl) (by kernel_rfl) (by kernel_rfl) (by kernel_rfl) (fun w' => by kernel_rfl) (fun g0 w' h => h.same rfl)) ?_
        refine dagU_cons (dag_store (t := 37) (x := .tmp 46) (y := .tmp 44) (v1 := .pointer (some ⟨c1.H, 2, none⟩)) (v2 := y) (by kernel_rfl) (by kernel_rfl) (by kernel_rfl) (by kernel_rfl) (by kernel_rfl) (fun g0 w' hg hd h => h.stored hC (hd { on := 9, ground := Ground.data } (by simp) rfl) hg)) ?_
        exact dagU_nil
      case refine_3 =>
        intro y4 w4 hJ
        obtain ⟨w3', hT, rfl⟩ := hJ.fin
        obtain ⟨hC4, hO4, hK4⟩ := core_first HC3.out.drew hT
        have HX4 := Lib.hid hJ.1
        have HC4 := Lib.hid hC4
        have hO4' : Only c1.K w3 (w3'.setCell ⟨c1.H, 2, none⟩ y4) := hO4.of_drew
        have HO4 := Lib.hid (HO3.out.trans hO4' (fun i hi h => (HK3.out i h).elim id (fun h2 => by have := HB2.out.size; simp at h2; omega)))
        have HK4 := Lib.hid (show ∀ k, HC.K { c1 with fv := y4 } k → c.K k ∨ w.heap.size ≤ k from fun k h => (hK4 k h).elim (fun h2 => (HK3.out k h2).imp id (fun h3 => by have := HB2.out.size; simp at h3; omega)) (fun h2 => .inr (by have := HO3.out.size; simp at h2; omega)))
        have HW4 := Lib.hid (HW3.out.only hO4' HA3.out)
        have HA4 := Lib.hid (show ∀ x o, A = some ⟨x, o, none⟩ → ¬ HC.K { c1 with fv := y4 } x from fun x o he hx => (hK4 x hx).elim (HA3.out x o he) (fun h => by have := HW3.out.lt hlen1 x o he; simp at h; omega))
        clear hT hC4 hO4 hO4' hK4 hJ
        simp only [putAll, List.foldl_cons, List.foldl_nil]
        obtain ⟨c2, hc2⟩ : ∃ c2, HC.mk c1.H c1.L c1.r1 c1.r2 y4 c1.m1 c1.m2 = c2 := ⟨_, rfl⟩
        have e1 : c2.H = c1.H := by rw [← hc2]
        have HE2 := Lib.hid (show c2.H = c.H ∧ c2.L = c.L ∧ c2.m1 = c.m1 from by rw [← hc2]; exact HE.out)
        rw [hc2] at HC4 HK4 HA4
        generalize w3'.setCell ⟨c1.H, 2, none⟩ y4 = w4 at *
        rw [← e1]
        clear hc2 e1
        go_wp2_with fail
        refine wp_dag [(55, .pointer (some ⟨c2.H, 0, none⟩)), (56, .pointer (some ⟨c2.H, 0, none⟩)), (57, .pointer (some ⟨c2.H, 1, none⟩)), (58, .map (some c2.r1)), (59, .pointer (some ⟨X, 0, none⟩)), (60, .int .i64 ((s.pg : Nat) : Int)), (61, .agg #[.int .i64 ((s.pg : Nat) : Int), .int .i64 ((s.ps : Nat) : Int), .int .i64 s.cl, .slice A s.len cap])] (PutJ w4.drew c2 X s A cap n) (by kernel_rfl) (by kernel_rfl) (by kernel_rfl) (by kernel_rfl) (.start HC4.out.drew HX4.out) ?_ ?_
        case refine_1 =>
          have hC := HC4.out.drew
          have hX := HX4.out
          refine dag_cons (dag_val (v := .pointer (some ⟨c2.H, 0, none⟩)) (by kernel_rfl) (by kernel_rfl) (fun g0 w' h => by kernel_rfl) (fun g0 w' h => h.same rfl)) ?_
          refine dag_cons (dag_val (v := .pointer (some ⟨c2.H, 0, none⟩)) (by kernel_rfl) (by kernel_rfl) (fun g0 w' h => by kernel_rfl) (fun g0 w' h => h.same rfl)) ?_
          refine dag_cons (dag_field (s := 61) (x := .tmp 56) (k := 1) (v1 := .pointer (some ⟨c2.H, 0, none⟩)) (v := .pointer (some ⟨c2.H, 1, none⟩)) (by kernel_rfl) (by kernel_rfl) (by kernel_rfl) (by kernel_rfl) (fun w' => by kernel_rfl) (fun g0 w' h => h.same rfl)) ?_
          refine dag_cons (dag_load (t := 58) (d := .map 3 27) (x := .tmp 57) (p := ⟨c2.H, 1, none⟩) (v := .map (some c2.r1)) (by kernel_rfl) (by kernel_rfl) (by kernel_rfl) (by kernel_rfl) Tryz.underlying58 rfl (fun g0 w' h => h.1.1.cell 1) (fun g0 w' h => h.same rfl)) ?_
          refine dag_cons (dag_field (s := 27) (x := .tmp 3) (k := 0) (v1 := .pointer (some ⟨X, 0, none⟩)) (v := .pointer (some ⟨X, 0, none⟩)) (by kernel_rfl) (by kernel_rfl) (by kernel_rfl) (by kernel_rfl) (fun w' => by kernel_rfl) (fun g0 w' h => h.same rfl)) ?_
          refine dag_cons (dag_load (t := 3) (d := .int .i64) (x := .tmp 59) (p := ⟨X, 0, none⟩) (v := .int .i64 ((s.pg : Nat) : Int)) (by kernel_rfl) (by kernel_rfl) (by kernel_rfl) (by kernel_rfl) Tryz.underlying3 rfl (fun g0 w' h => h.1.2.cells.1) (fun g0 w' h => h.same rfl)) ?_
          refine dag_cons (dag_loadS (t := 27) (ty := 27) (x := .tmp 3) (S := X) (cs := #[.int .i64 ((s.pg : Nat) : Int), .int .i64 ((s.ps : Nat) : Int), .int .i64 s.cl, .slice A s.len cap]) (by kernel_rfl) (by kernel_rfl) (by kernel_rfl) (by kernel_rfl) Tryz.underlying27 rfl (by kernel_rfl) (fun g0 w' h => h.1.2) (fun g0 w' h => h.same rfl)) ?_
          refine dag_cons (dag_update (t := 58) (m := .tmp 58) (x := .tmp 60) (y := .tmp 61) (v1 := .map (some c2.r1)) (v2 := .int .i64 ((s.pg : Nat) : Int)) (v3 := .agg #[.int .i64 ((s.pg : Nat) : Int), .int .i64 ((s.ps : Nat) : Int), .int .i64 s.cl, .slice A s.len cap]) (by kernel_rfl) (by kernel_rfl) (by kernel_rfl) (by kernel_rfl) (by kernel_rfl) (by kernel_rfl) (fun g0 w' hg hd h => h.put hC hX hpw HPs.out.2 hg)) ?_
          exact dag_nil
        case refine_2 =>
          intro w5 hJ
          obtain ⟨hm5, ho5⟩ := hJ.fin
          have hL5 := HC4.out.drew
          obtain ⟨hC5, hO5, hK5⟩ := core_map (T' := setS T s) HC4.out.drew (Nat.le_succ _) hm5 ho5 (has_put hS HW4.out HA4.out (by omega)) (only_put HC4.out.only (by omega))
          have HC5 := Lib.hid hC5
          have hO5' : Only c2.K w4 w5 := hO5.of_drew
          have HO5 := Lib.hid (HO4.out.trans hO5' (fun i hi h => (HK4.out i h).elim id (fun h2 => by omega)))
          have HK5 := Lib.hid (show ∀ k, HC.K { c2 with m1 := mput c2.m1 s.pg (s.v A cap) } k → c.K k ∨ w.heap.size ≤ k from fun k h => (hK5 k h).elim (HK4.out k) (fun h2 => .inr (by have := HO4.out.size; simp at h2; omega)))
          clear hC5 hO5 hO5' hK5 hJ hm5 ho5 hL5
          simp only [putAll, List.foldl_cons, List.foldl_nil]
          go_wp2
          go_ret
          unfold SetR
          rw [hcn, if_pos (by omega), hbp]
          refine ⟨by kernel_rfl, { c2 with m1 := mput c2.m1 s.pg (s.v A cap) }, HE2.out.1, HE2.out.2.1, HC5.out, HO5.out, HK5.out, ?_⟩
          show mput c2.m1 s.pg (s.v A cap) = _
          rw [HE2.out.2.2]
  · obtain rfl : k = 0 := by omega
    have hkb : (((0 : Nat) : Int) == 0) = true := rfl
    have hbp : partOn s = false := by unfold partOn; rw [HKk.out]; rfl
    have hcn : decide (0 < s.cnt) = false := decide_eq_false (by omega)
    go_wp2_with fail
    refine wp_dagU (U := Value) (fun y => [(12, .pointer (some ⟨c.H, 0, none⟩)), (13, .pointer (some ⟨c.H, 0, none⟩)), (14, .pointer (some ⟨c.H, 3, none⟩)), (15, .map (some c.r2)), (16, .pointer (some ⟨X, 2, none⟩)), (17, .int .i64 (s.cl)), (18, .pointer (some ⟨c.H, 0, none⟩)), (19, .pointer (some ⟨c.H, 0, none⟩)), (20, .pointer (some ⟨c.H, 3, none⟩)), (21, .map (some c.r2)), (22, .pointer (some ⟨X, 2, none⟩)), (23, .int .i64 (s.cl)), (24, ((c.m2 s.cl).getD nilV)), (25, .pointer (some ⟨X, 0, none⟩)), (26, .int .i64 ((s.pg : Nat) : Int)), (27, .int .i64 ((0 : Nat) : Int)), (28, .bool false), (29, .bool false), (30, undef), (31, undef), (32, undef), (33, .bool false), (34, y)]) (SetJ2 w2.drew c X s A cap n (togL (Q s.cl) s.pg false)) 22 _ id [34] nilV (by kernel_rfl) (by kernel_rfl) (by kernel_rfl) (fun y => by kernel_rfl) rfl rfl (by kernel_rfl) (fun x y => rfl) (fun y => by kernel_rfl) (fun g x y w' hg h => h.any hg) (.start HC2.out.drew HX2.out.drew) ?_ ?_ ?_
    case refine_1 =>
      intro x g0 w' hg hd h
      refine ⟨52, #[(c.m2 s.cl).getD nilV, .int .i64 ((s.pg : Nat) : Int), .bool false], by kernel_rfl, ?_⟩
      exact h.call HC2.out.drew HX2.out.drew hg (hd { on := 12, ground := Ground.data } (by simp) rfl) (HQr.out _) (HQl.out _)
    case refine_2 =>
      intro y
      have hC := HC2.out.drew
      refine dagU_cons (dag_val (v := .pointer (some ⟨c.H, 0, none⟩)) (by kernel_rfl) (by kernel_rfl) (fun g0 w' h => by kernel_rfl) (fun g0 w' h => h.same rfl)) ?_
      refine dagU_cons (dag_val (v := .pointer (some ⟨c.H, 0, none⟩)) (by kernel_rfl) (by kernel_rfl) (fun g0 w' h => by kernel_rfl) (fun g0 w' h => h.same rfl)) ?_
      refine dagU_cons (dag_field (s := 61) (x := .tmp 13) (k := 3) (v1 := .pointer (some ⟨c.H, 0, none⟩)) (v := .pointer (some ⟨c.H, 3, none⟩)) (by kernel_rfl) (by kernel_rfl) (by kernel_rfl) (by kernel_rfl) (fun w' => by kernel_rfl) (fun g0 w' h => h.same rfl)) ?_
      refine dagU_cons (dag_load (t := 59) (d := .map 3 37) (x := .tmp 14) (p := ⟨c.H, 3, none⟩) (v := .map (some c.r2)) (by kernel_rfl) (by kernel_rfl) (by kernel_rfl) (by kernel_rfl) Tryz.underlying59 rfl (fun g0 w' h => h.1.1.cell 3) (fun g0 w' h => h.same rfl)) ?_
      refine dagU_cons (dag_field (s := 27) (x := .tmp 3) (k := 2) (v1 := .pointer (some ⟨X, 0, none⟩)) (v := .pointer (some ⟨X, 2, none⟩)) (by kernel_rfl) (by kernel_rfl) (by kernel_rfl) (by kernel_rfl) (fun w' => by kernel_rfl) (fun g0 w' h => h.same rfl)) ?_
      refine dagU_cons (dag_load (t := 3) (d := .int .i64) (x := .tmp 16) (p := ⟨X, 2, none⟩) (v := .int .i64 (s.cl)) (by kernel_rfl) (by kernel_rfl) (by kernel_rfl) (by kernel_rfl) Tryz.underlying3 rfl (fun g0 w' h => h.1.2.cells.2.2.1) (fun g0 w' h => h.same rfl)) ?_
      refine dagU_cons (dag_val (v := .pointer (some ⟨c.H, 0, none⟩)) (by kernel_rfl) (by kernel_rfl) (fun g0 w' h => by kernel_rfl) (fun g0 w' h => h.same rfl)) ?_
      refine dagU_cons (dag_val (v := .pointer (some ⟨c.H, 0, none⟩)) (by kernel_rfl) (by kernel_rfl) (fun g0 w' h => by kernel_rfl) (fun g0 w' h => h.same rfl)) ?_
      refine dagU_cons (dag_field (s := 61) (x := .tmp 19) (k := 3) (v1 := .pointer (some ⟨c.H, 0, none⟩)) (v := .pointer (some ⟨c.H, 3, none⟩)) (by kernel_rfl) (by kernel_rfl) (by kernel_rfl) (by kernel_rfl) (fun w' => by kernel_rfl) (fun g0 w' h => h.same rfl)) ?_
      refine dagU_cons (dag_load (t := 59) (d := .map 3 37) (x := .tmp 20) (p := ⟨c.H, 3, none⟩) (v := .map (some c.r2)) (by kernel_rfl) (by kernel_rfl) (by kernel_rfl) (by kernel_rfl) Tryz.underlying59 rfl (fun g0 w' h => h.1.1.cell 3) (fun g0 w' h => h.same rfl)) ?_
      refine dagU_cons (dag_field (s := 27) (x := .tmp 3) (k := 2) (v1 := .pointer (some ⟨X, 0, none⟩)) (v := .pointer (some ⟨X, 2, none⟩)) (by kernel_rfl) (by kernel_rfl) (by kernel_rfl) (by kernel_rfl) (fun w' => by kernel_rfl) (fun g0 w' h => h.same rfl)) ?_
      refine dagU_cons (dag_load (t := 3) (d := .int .i64) (x := .tmp 22) (p := ⟨X, 2, none⟩) (v := .int .i64 (s.cl)) (by kernel_rfl) (by kernel_rfl) (by kernel_rfl) (by kernel_rfl) Tryz.underlying3 rfl (fun g0 w' h => h.1.2.cells.2.2.1) (fun g0 w' h => h.same rfl)) ?_
      refine dagU_cons (dag_lookup (t := 59) (m := .tmp 21) (x := .tmp 23) (v1 := .map (some c.r2)) (v2 := .int .i64 (s.cl)) (v := ((c.m2 s.cl).getD nilV)) (by kernel_rfl) (by kernel_rfl) (by kernel_rfl) (by kernel_rfl) (by kernel_rfl) (fun g0 w' hg h => h.look hC hcw hg) (fun g0 w' hg h => h.looked)) ?_
      refine dagU_cons (dag_field (s := 27) (x := .tmp 3) (k := 0) (v1 := .pointer (some ⟨X, 0, none⟩)) (v := .pointer (some ⟨X, 0, none⟩)) (by kernel_rfl) (by kernel_rfl) (by kernel_rfl) (by kernel_rfl) (fun w' => by kernel_rfl) (fun g0 w' h => h.same rfl)) ?_
      refine dagU_cons (dag_load (t := 3) (d := .int .i64) (x := .tmp 25) (p := ⟨X, 0, none⟩) (v := .int .i64 ((s.pg : Nat) : Int)) (by kernel_rfl) (by kernel_rfl) (by kernel_rfl) (by kernel_rfl) Tryz.underlying3 rfl (fun g0 w' h => h.1.2.cells.1) (fun g0 w' h => h.same rfl)) ?_
      refine dagU_cons (dag_val (v := .int .i64 ((0 : Nat) : Int)) (by kernel_rfl) (by kernel_rfl) (fun g0 w' h => by kernel_rfl) (fun g0 w' h => h.same rfl)) ?_
      refine dagU_cons (dag_bin (b := .gtr) (t := 3) (t' := 3) (x := .tmp 27) (y := .const (.int .i64 0)) (v1 := .int .i64 ((0 : Nat) : Int)) (v2 := .int .i64 0) (v := .bool false) (by kernel_rfl) (by kernel_rfl) (by kernel_rfl) (by kernel_rfl) (by kernel_rfl) rfl (fun w' => run_gtr _ _ _ (by simp) w') (fun g0 w' h => h.same rfl)) ?_
      refine dagU_cons (dag_val (v := .bool false) (by kernel_rfl) (by kernel_rfl) (fun g0 w' h => by kernel_rfl) (fun g0 w' h => h.same rfl)) ?_
      refine dagU_cons (dag_skip (by kernel_rfl) (by kernel_rfl) (fun g0 w' h => h.same rfl)) ?_
      refine dagU_cons (dag_skip (by kernel_rfl) (by kernel_rfl) (fun g0 w' h => h.same rfl)) ?_
      refine dagU_cons (dag_skip (by kernel_rfl) (by kernel_rfl) (fun g0 w' h => h.same rfl)) ?_
      refine dagU_cons (dag_val (v := .bool false) (by kernel_rfl) (by kernel_rfl) (fun g0 w' h => by kernel_rfl) (fun g0 w' h => h.same rfl)) ?_
      refine dagU_call rfl ?_
      refine dagU_cons (dag_update (t := 59) (m := .tmp 15) (x := .tmp 17) (y := .tmp 34) (v1 := .map (some c.r2)) (v2 := .int .i64 (s.cl)) (v3 := y) (by kernel_rfl) (by kernel_rfl) (by kernel_rfl) (by kernel_rfl) (by kernel_rfl) (by kernel_rfl) (fun g0 w' hg hd h => h.stored hC hcw hn (hd { on := 22, ground := Ground.data } (by simp) rfl) hg)) ?_
      exact dagU_nil
    case refine_3 =>
      intro y3 w3 hJ
      obtain ⟨w2', hT, hm, ho⟩ := hJ.fin
      obtain ⟨hC3, hO3, hK3⟩ := core_part HC2.out.drew hT hm ho
      have HX3 := Lib.hid hJ.1.2
      have HC3 := Lib.hid hC3
      have HO3 := Lib.hid (Only.trans (S := c.K) (b := w2.drew) (Only.of_below HB2.out.drew) hO3 (fun _ _ h => h))
      have HK3 := Lib.hid hK3
      have HW3 := Lib.hid (WordsAt.only (w := w2.drew) (HW2.out.below (Below.refl _ _).drew) hO3 HA.out)
      have HA3 := Lib.hid (show ∀ x o, A = some ⟨x, o, none⟩ → ¬ HC.K { c with m2 := mput c.m2 s.cl y3 } x from fun x o he hx => (hK3 x hx).elim (HA.out x o he) (fun h => by have := HW2.out.lt hlen1 x o he; simp at h; omega))
      clear hT hm ho hC3 hO3 hK3 hJ
      simp only [putAll, List.foldl_cons, List.foldl_nil]
      obtain ⟨c1, hc1⟩ : ∃ c1, HC.mk c.H c.L c.r1 c.r2 c.fv c.m1 (mput c.m2 s.cl y3) = c1 := ⟨_, rfl⟩
      have e1 : c1.H = c.H := by rw [← hc1]
      have e2 : c1.L = c.L := by rw [← hc1]
      have e3 : c1.m1 = c.m1 := by rw [← hc1]
      rw [hc1] at HC3 HK3 HA3
      rw [← e1]
      have HE := Lib.hid (show c1.H = c.H ∧ c1.L = c.L ∧ c1.m1 = c.m1 from ⟨e1, e2, e3⟩)
      clear hc1 e1 e2 e3
      go_wp2_with fail
      refine wp_dagU (U := Value) (fun y => [(35, .pointer (some ⟨c1.H, 0, none⟩)), (36, .pointer (some ⟨c1.H, 0, none⟩)), (37, .pointer (some ⟨c1.H, 0, none⟩)), (38, .pointer (some ⟨c1.H, 2, none⟩)), (39, c1.fv), (40, .pointer (some ⟨X, 0, none⟩)), (41, .int .i64 ((s.pg : Nat) : Int)), (42, .int .i64 ((0 : Nat) : Int)), (43, .bool false), (44, y), (45, .pointer (some ⟨c1.H, 0, none⟩)), (46, .pointer (some ⟨c1.H, 2, none⟩))]) (SetJ3 w3.drew c1 X s A cap (togL P s.pg false)) 9 _ id [44] nilV (by kernel_rfl) (by kernel_rfl) (by kernel_rfl) (fun y => by kernel_rfl) rfl rfl (by kernel_rfl) (fun x y => rfl) (fun y => by kernel_rfl) (fun g x y w' hg h => h.any hg) (.start HX3.out) ?_ ?_ ?_
      case refine_1 =>
        intro x g0 w' hg hd h
        refine ⟨52, #[c1.fv, .int .i64 ((s.pg : Nat) : Int), .bool false], by kernel_rfl, ?_⟩
        exact h.call HC3.out.drew HX3.out hg (hd { on := 4, ground := Ground.data } (by simp) rfl) HPr.out hPl
      case refine_2 =>
        intro y
        have hC := HC3.out.drew
        refine dagU_cons (dag_val (v := .pointer (some ⟨c1.H, 0, none⟩)) (by kernel_rfl) (by kernel_rfl) (fun g0 w' h => by kernel_rfl) (fun g0 w' h => h.same rfl)) ?_
        refine dagU_cons (dag_val (v := .pointer (some ⟨c1.H, 0, none⟩)) (by kernel_rfl) (by kernel_rfl) (fun g0 w' h => by kernel_rfl) (fun g0 w' h => h.same rfl)) ?_
        refine dagU_cons (dag_val (v := .pointer (some ⟨c1.H, 0, none⟩)) (by kernel_rfl) (by kernel_rfl) (fun g0 w' h => by kernel_rfl) (fun g0 w' h => h.same rfl)) ?_
        refine dagU_cons (dag_field (s := 61) (x := .tmp 37) (k := 2) (v1 := .pointer (some ⟨c1.H, 0, none⟩)) (v := .pointer (some ⟨c1.H, 2, none⟩)) (by kernel_rfl) (by kernel_rfl) (by kernel_rfl) (by kernel_rfl) (fun w' => by kernel_rfl) (fun g0 w' h => h.same rfl)) ?_
        refine dagU_cons (dag_loadG (t := 37) (d := .slice 3) (x := .tmp 38) (p := ⟨c1.H, 2, none⟩) (v := c1.fv) (by kernel_rfl) (by kernel_rfl) (by kernel_rfl) (by kernel_rfl) Tryz.underlying37 rfl (fun g0 w' hg h => h.fvAt hC hg) (fun g0 w' hg h => h.looked)) ?_
        refine dagU_cons (dag_field (s := 27) (x := .tmp 3) (k := 0) (v1 := .pointer (some ⟨X, 0, none⟩)) (v := .pointer (some ⟨X, 0, none⟩)) (by kernel_rfl) (by kernel_rfl) (by kernel_rfl) (by kernel_rfl) (fun w' => by kernel_rfl) (fun g0 w' h => h.same rfl)) ?_
        refine dagU_cons (dag_load (t := 3) (d := .int .i64) (x := .tmp 40) (p := ⟨X, 0, none⟩) (v := .int .i64 ((s.pg : Nat) : Int)) (by kernel_rfl) (by kernel_rfl) (by kernel_rfl) (by kernel_rfl) Tryz.underlying3 rfl (fun g0 w' h => h.1.cells.1) (fun g0 w' h => h.same rfl)) ?_
        refine dagU_cons (dag_val (v := .int .i64 ((0 : Nat) : Int)) (by kernel_rfl) (by kernel_rfl) (fun g0 w' h => by kernel_rfl) (fun g0 w' h => h.same rfl)) ?_
        refine dagU_cons (dag_bin (b := .gtr) (t := 3) (t' := 3) (x := .tmp 42) (y := .const (.int .i64 0)) (v1 := .int .i64 ((0 : Nat) : Int)) (v2 := .int .i64 0) (v := .bool false) (by kernel_rfl) (by kernel_rfl) (by kernel_rfl) (by kernel_rfl) (by kernel_rfl) rfl (fun w' => run_gtr _ _ _ (by simp) w') (fun g0 w' h => h.same rfl)) ?_
        refine dagU_call rfl ?_
        refine dagU_cons (dag_val (v := .pointer (some ⟨c1.H, 0, none⟩)) (by kernel_rfl) (by kernel_rfl) (fun g0 w' h => by kernel_rfl) (fun g0 w' h => h.same rfl)) ?_
        refine dagU_cons (dag_field (s := 61) (x := .tmp 45) (k := 2) (v1 := .pointer (some ⟨c1.H, 0, none⟩)) (v := .pointer (some ⟨c1.H, 2, none⟩)) (by kernel_rfl) (by kernel_rfl) (by kernel_rfl) (by kernel_rfl) (fun w' => by kernel_rfl) (fun g0 w' h => h.same rfl)) ?_
        refine dagU_cons (dag_store (t := 37) (x := .tmp 46) (y := .tmp 44) (v1 := .pointer (some ⟨c1.H, 2, none⟩)) (v2 := y) (by kernel_rfl) (by kernel_rfl) (by kernel_rfl) (by kernel_rfl) (by kernel_rfl) (fun g0 w' hg hd h => h.stored hC (hd { on := 9, ground := Ground.data } (by simp) rfl) hg)) ?_
        exact dagU_nil
      case refine_3 =>
        intro y4 w4 hJ
        obtain ⟨w3', hT, rfl⟩ := hJ.fin
        obtain ⟨hC4, hO4, hK4⟩ := core_first HC3.out.drew hT
        have HX4 := Lib.hid hJ.1
        have HC4 := Lib.hid hC4
        have hO4' : Only c1.K w3 (w3'.setCell ⟨c1.H, 2, none⟩ y4) := hO4.of_drew
        have HO4 := Lib.hid (HO3.out.trans hO4' (fun i hi h => (HK3.out i h).elim id (fun h2 => by have := HB2.out.size; simp at h2; omega)))
        have HK4 := Lib.hid (show ∀ k, HC.K { c1 with fv := y4 } k → c.K k ∨ w.heap.size ≤ k from fun k h => (hK4 k h).elim (fun h2 => (HK3.out k h2).imp id (fun h3 => by have := HB2.out.size; simp at h3; omega)) (fun h2 => .inr (by have := HO3.out.size; simp at h2; omega)))
        have HW4 := Lib.hid (HW3.out.only hO4' HA3.out)
        have HA4 := Lib.hid (show ∀ x o, A = some ⟨x, o, none⟩ → ¬ HC.K { c1 with fv := y4 } x from fun x o he hx => (hK4 x hx).elim (HA3.out x o he) (fun h => by have := HW3.out.lt hlen1 x o he; simp at h; omega))
        clear hT hC4 hO4 hO4' hK4 hJ
        simp only [putAll, List.foldl_cons, List.foldl_nil]
        obtain ⟨c2, hc2⟩ : ∃ c2, HC.mk c1.H c1.L c1.r1 c1.r2 y4 c1.m1 c1.m2 = c2 := ⟨_, rfl⟩
        have e1 : c2.H = c1.H := by rw [← hc2]
        have HE2 := Lib.hid (show c2.H = c.H ∧ c2.L = c.L ∧ c2.m1 = c.m1 from by rw [← hc2]; exact HE.out)
        rw [hc2] at HC4 HK4 HA4
        generalize w3'.setCell ⟨c1.H, 2, none⟩ y4 = w4 at *
        rw [← e1]
        clear hc2 e1
        go_wp2_with fail
        refine wp_dag [(49, .pointer (some ⟨c2.H, 0, none⟩)), (50, .pointer (some ⟨c2.H, 0, none⟩)), (51, .pointer (some ⟨c2.H, 1, none⟩)), (52, .map (some c2.r1)), (53, .pointer (some ⟨X, 0, none⟩)), (54, .int .i64 ((s.pg : Nat) : Int))] (DelJ w4.drew c2 X s A cap n) (by kernel_rfl) (by kernel_rfl) (by kernel_rfl) (by kernel_rfl) (.start HC4.out.drew HX4.out) ?_ ?_
        case refine_1 =>
          have hC := HC4.out.drew
          have hX := HX4.out
          refine dag_cons (dag_val (v := .pointer (some ⟨c2.H, 0, none⟩)) (by kernel_rfl) (by kernel_rfl) (fun g0 w' h => by kernel_rfl) (fun g0 w' h => h.same rfl)) ?_
          refine dag_cons (dag_val (v := .pointer (some ⟨c2.H, 0, none⟩)) (by kernel_rfl) (by kernel_rfl) (fun g0 w' h => by kernel_rfl) (fun g0 w' h => h.same rfl)) ?_
          refine dag_cons (dag_field (s := 61) (x := .tmp 50) (k := 1) (v1 := .pointer (some ⟨c2.H, 0, none⟩)) (v := .pointer (some ⟨c2.H, 1, none⟩)) (by kernel_rfl) (by kernel_rfl) (by kernel_rfl) (by kernel_rfl) (fun w' => by kernel_rfl) (fun g0 w' h => h.same rfl)) ?_
          refine dag_cons (dag_load (t := 58) (d := .map 3 27) (x := .tmp 51) (p := ⟨c2.H, 1, none⟩) (v := .map (some c2.r1)) (by kernel_rfl) (by kernel_rfl) (by kernel_rfl) (by kernel_rfl) Tryz.underlying58 rfl (fun g0 w' h => h.1.1.cell 1) (fun g0 w' h => h.same rfl)) ?_
          refine dag_cons (dag_field (s := 27) (x := .tmp 3) (k := 0) (v1 := .pointer (some ⟨X, 0, none⟩)) (v := .pointer (some ⟨X, 0, none⟩)) (by kernel_rfl) (by kernel_rfl) (by kernel_rfl) (by kernel_rfl) (fun w' => by kernel_rfl) (fun g0 w' h => h.same rfl)) ?_
          refine dag_cons (dag_load (t := 3) (d := .int .i64) (x := .tmp 53) (p := ⟨X, 0, none⟩) (v := .int .i64 ((s.pg : Nat) : Int)) (by kernel_rfl) (by kernel_rfl) (by kernel_rfl) (by kernel_rfl) Tryz.underlying3 rfl (fun g0 w' h => h.1.2.cells.1) (fun g0 w' h => h.same rfl)) ?_
          refine dag_cons (dag_delete (t := 58) (k := 3) (m := .tmp 52) (x := .tmp 54) (v1 := .map (some c2.r1)) (v2 := .int .i64 ((s.pg : Nat) : Int)) (by kernel_rfl) (by kernel_rfl) (by kernel_rfl) (by kernel_rfl) (by kernel_rfl) (fun g0 w' hg hd h => h.del hC hX hpw hg)) ?_
          exact dag_nil
        case refine_2 =>
          intro w5 hJ
          obtain ⟨hm5, ho5⟩ := hJ.fin
          have hL5 := HC4.out.drew
          obtain ⟨hC5, hO5, hK5⟩ := core_map (T' := setS T s) HC4.out.drew (Nat.le_refl _) hm5 ho5 (has_del (by omega)) (only_del HC4.out.only)
          have HC5 := Lib.hid hC5
          have hO5' : Only c2.K w4 w5 := hO5.of_drew
          have HO5 := Lib.hid (HO4.out.trans hO5' (fun i hi h => (HK4.out i h).elim id (fun h2 => by omega)))
          have HK5 := Lib.hid (show ∀ k, HC.K { c2 with m1 := mdel c2.m1 s.pg } k → c.K k ∨ w.heap.size ≤ k from fun k h => (hK5 k h).elim (HK4.out k) (fun h2 => .inr (by have := HO4.out.size; simp at h2; omega)))
          clear hC5 hO5 hO5' hK5 hJ hm5 ho5 hL5
          simp only [putAll, List.foldl_cons, List.foldl_nil]
          go_wp2
          go_ret
          unfold SetR
          rw [hcn, if_neg (by omega), hbp]
          refine ⟨by kernel_rfl, { c2 with m1 := mdel c2.m1 s.pg }, HE2.out.1, HE2.out.2.1, HC5.out.up, HO5.out, HK5.out, ?_⟩
          show mdel c2.m1 s.pg = _
          rw [HE2.out.2.2]
end Go.Proofs.YtadbbknllakpcaaGreat
