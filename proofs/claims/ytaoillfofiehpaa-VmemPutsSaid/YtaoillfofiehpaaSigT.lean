/- Memory, said once for all walks of this seat: what stays (Keep), a slice that reads as a list of cells (Sl), runs of append, copy and make over such slices, and stops of the walk at hard operations (RunGoal). A region that draws its order, walked in one order that is given: operations that yield the same in every world of a class S are taken first; behind each of the others S is shown anew, where something may still come that leans on it. A region that draws its order, walked in orders that are given as a tree: where two operations that turn memory may both come next, both ways are shown. No condition. -/
import Derived.WalkKit
import Derived.WalkLawsBesides
import Derived.WalkSpells
import Derived.Lib.Hide
import Derived.Lib.SliceRun
import Derived.Laws.CopyOwn
import Derived.Maps.OwnSet
import Derived.Maps.RangeWalk
import Derived.Maps.OwnOps
import Derived.Maps.AppendAt
import Derived.Deep.QuietTactic
import Derived.BigQuiet
import Derived.OrdersHeld
set_option linter.unusedVariables false
set_option linter.unusedSimpArgs false
namespace Go.Dm
open Go Go.RowKit

/-- Of what was there, all that is not in A is as it was. -/
structure Keep (A : Nat → Prop) (w w' : World) : Prop where
  os : w'.os = w.os
  tape : w'.tape = w.tape
  output : w'.output = w.output
  size : w.heap.size ≤ w'.heap.size
  block : ∀ k, k < w.heap.size → ¬ A k → w'.heap[k]? = w.heap[k]?

def No : Nat → Prop := fun _ => False
/-- A, and what is new in w' since w. -/
def Plus (A : Nat → Prop) (w w' : World) : Nat → Prop := fun k => A k ∨ (w.heap.size ≤ k ∧ k < w'.heap.size)

theorem Keep.refl (A : Nat → Prop) (w : World) : Keep A w w := ⟨rfl, rfl, rfl, Nat.le_refl _, fun _ _ _ => rfl⟩
theorem Keep.mono {A B : Nat → Prop} {w w' : World} (h : Keep A w w') (hab : ∀ k, k < w.heap.size → A k → B k) : Keep B w w' :=
  ⟨h.os, h.tape, h.output, h.size, fun k hk hb => h.block k hk fun ha => hb (hab k hk ha)⟩
theorem Keep.trans {A B : Nat → Prop} {a b c : World} (h : Keep A a b) (k : Keep B b c) (hB : ∀ j, j < a.heap.size → B j → A j) : Keep A a c :=
  ⟨k.os.trans h.os, k.tape.trans h.tape, k.output.trans h.output, Nat.le_trans h.size k.size,
    fun i hi hA => (k.block i (Nat.lt_of_lt_of_le hi h.size) fun hb => hA (hB i hi hb)).trans (h.block i hi hA)⟩
theorem Keep.trans' {A : Nat → Prop} {a b c : World} (h : Keep A a b) (k : Keep A b c) : Keep A a c := h.trans k fun _ _ h => h
theorem Keep.drew {A : Nat → Prop} {a w : World} (h : Keep A a w) : Keep A a w.drew := ⟨h.os, h.tape, h.output, h.size, h.block⟩
theorem Keep.drewN {A : Nat → Prop} {a w : World} (h : Keep A a w) (n : Nat) : Keep A a (w.drewN n) := ⟨h.os, h.tape, h.output, h.size, h.block⟩
theorem Keep.alloc {A : Nat → Prop} {a w : World} (h : Keep A a w) (o : Obj) : Keep A a (w.alloc o) :=
  h.trans ⟨rfl, rfl, rfl, by simp, fun k hk _ => Below.heap_alloc _ _ _ hk⟩ (B := No) fun _ _ h => h.elim
theorem Keep.setCell {A : Nat → Prop} {a w : World} (h : Keep A a w) {p : Addr} (hp : p.block < a.heap.size → A p.block) (u : Value) : Keep A a (w.setCell p u) :=
  ⟨h.os, h.tape, h.output, by simpa [World.setCell] using h.size, fun k hk hA => (Below.heap_setCell _ _ _ _ fun e => by subst e; exact hA (hp hk)).trans (h.block k hk hA)⟩
theorem Keep.of_below {w w' : World} (h : Below w.heap.size w w') : Keep No w w' := ⟨h.os, h.tape, h.output, h.size, fun k hk _ => h.block k hk⟩
theorem Keep.below {A : Nat → Prop} {w w' : World} (h : Keep A w w') (B : Nat) (hB : B ≤ w.heap.size) (hA : ∀ k, A k → B ≤ k) : Below B w w' :=
  ⟨h.os, h.tape, h.output, h.size, fun k hk => h.block k (by omega) fun ha => by have := hA k ha; omega⟩
theorem Keep.of_grown {w w' : World} {row : Option Nat} (h : w.grownBy w' row) : Keep (fun k => some k = row) w w' := ⟨h.os, h.tape, h.output, h.size, fun k hk hA => h.block k hk hA⟩
theorem Keep.toGrown {w w' : World} (h : Keep No w w') : w.grownBy w' none := ⟨h.os, h.tape, h.output, h.size, fun k hk _ => h.block k hk fun h => h⟩
theorem Keep.cell {A : Nat → Prop} {w w' : World} (h : Keep A w w') {p : Addr} (hp : p.block < w.heap.size) (hA : ¬ A p.block) : w'.cell? p = w.cell? p := World.cell?_of_block (w := w) (h.block p.block hp hA)
theorem Keep.frozen {A : Nat → Prop} {w w' : World} (h : Keep A w w') {p : Addr} (hp : p.block < w.heap.size) (hA : ¬ A p.block) : w'.frozen? p = w.frozen? p := World.frozen?_of_block (w := w) (h.block p.block hp hA)

/-- Block b holds just these cells, none of them frozen. -/
def Blk (w : World) (b : Nat) (cs : Array Value) (t : TypeId) : Prop := w.heap[b]? = some (.cells cs t (0, 0))
theorem Blk.cell {w : World} {b : Nat} {cs : Array Value} {t : TypeId} (h : Blk w b cs t) (i : Nat) : w.cell? ⟨b, i, none⟩ = cs[i]? := cell_of_row w b i cs t _ h
theorem Blk.frozen {w : World} {b : Nat} {cs : Array Value} {t : TypeId} (h : Blk w b cs t) (i : Nat) : w.frozen? ⟨b, i, none⟩ = false := frozen_of_row w b i cs t h
theorem Blk.lt {w : World} {b : Nat} {cs : Array Value} {t : TypeId} (h : Blk w b cs t) : b < w.heap.size := (Array.getElem?_eq_some_iff.1 h).1
theorem Blk.keep {A : Nat → Prop} {w w' : World} {b : Nat} {cs : Array Value} {t : TypeId} (h : Blk w b cs t) (k : Keep A w w') (hA : ¬ A b) : Blk w' b cs t := (k.block b h.lt hA).trans h
theorem Blk.same {w w' : World} {b : Nat} {cs : Array Value} {t : TypeId} (h : Blk w b cs t) (e : w'.heap[b]? = w.heap[b]?) : Blk w' b cs t := e.trans h
theorem Blk.alloc {w : World} {b : Nat} {cs : Array Value} {t : TypeId} (h : Blk w b cs t) (o : Obj) : Blk (w.alloc o) b cs t := (Below.heap_alloc w o b (Blk.lt h)).trans h
theorem Blk.new (w : World) (cs : Array Value) (t : TypeId) : Blk (w.alloc (.cells cs t)) w.heap.size cs t := heap_alloc_new w _
theorem Blk.set {w : World} {b i : Nat} {cs : Array Value} {t : TypeId} (h : Blk w b cs t) (v : Value) : Blk (w.setCell ⟨b, i, none⟩ v) b (cs.setIfInBounds i v) t := heap_setCell_same w b i cs t v h
theorem Blk.set_other {w : World} {b : Nat} {a : Addr} {cs : Array Value} {t : TypeId} (h : Blk w b cs t) (hn : b ≠ a.block) (v : Value) : Blk (w.setCell a v) b cs t := (heap_setCell_other w a b v hn).trans h

/-- The value v is a slice of n elements (of 'size' cells each) that read, one behind the other, as cs; its memory lies in A (an empty one may lead anywhere). -/
def Sl (A : Nat → Prop) (w : World) (size : Nat) (v : Value) (n : Nat) (cs : List Value) : Prop :=
  cs.length = n * size ∧ ∃ a cap, v = .slice a n cap ∧ n ≤ cap ∧ cap ≤ maxLen ∧ (a = none → cap = 0) ∧
    (0 < n → ∃ g off, a = some ⟨g, off, none⟩ ∧ A g ∧ g < w.heap.size ∧ ∀ j u, cs[j]? = some u → w.cell? ⟨g, off + j, none⟩ = some u)

theorem Sl.nil (A : Nat → Prop) (w : World) (size : Nat) : Sl A w size (.slice none 0 0) 0 [] := ⟨by simp, none, 0, rfl, Nat.le_refl _, Nat.zero_le _, fun _ => rfl, fun h => absurd h (by omega)⟩
theorem Sl.empty (A : Nat → Prop) (w : World) (size : Nat) (a : Addr) {cap : Nat} (h : cap ≤ maxLen) : Sl A w size (.slice (some a) 0 cap) 0 [] := ⟨by simp, some a, cap, rfl, Nat.zero_le _, h, (fun h => by cases h), fun h => absurd h (by omega)⟩
theorem Sl.mk {A : Nat → Prop} {w : World} {size n g off cap : Nat} {cs : List Value} (h : cs.length = n * size) (hA : A g) (hg : g < w.heap.size) (hn : n ≤ cap) (hc : cap ≤ maxLen) (hr : ∀ j u, cs[j]? = some u → w.cell? ⟨g, off + j, none⟩ = some u) : Sl A w size (.slice (some ⟨g, off, none⟩) n cap) n cs :=
  ⟨h, _, cap, rfl, hn, hc, (fun h => by cases h), fun _ => ⟨g, off, rfl, hA, hg, hr⟩⟩
theorem Sl.mono {A B : Nat → Prop} {w : World} {size n : Nat} {v : Value} {cs : List Value} (h : Sl A w size v n cs) (hab : ∀ k, k < w.heap.size → A k → B k) : Sl B w size v n cs := by
  obtain ⟨h1, a, cap, e, c, d, f, r⟩ := h
  refine ⟨h1, a, cap, e, c, d, f, fun hn => ?_⟩
  obtain ⟨g, off, e, a, b, r⟩ := r hn
  exact ⟨g, off, e, hab g b a, b, r⟩
theorem Sl.same {A : Nat → Prop} {w w' : World} {size n : Nat} {v : Value} {cs : List Value} (h : Sl A w size v n cs) (hs : w.heap.size ≤ w'.heap.size) (e : ∀ k, k < w.heap.size → A k → w'.heap[k]? = w.heap[k]?) : Sl A w' size v n cs := by
  obtain ⟨h1, a, cap, e1, c, d, f, r⟩ := h
  refine ⟨h1, a, cap, e1, c, d, f, fun hn => ?_⟩
  obtain ⟨g, off, e2, a, b, r⟩ := r hn
  exact ⟨g, off, e2, a, Nat.lt_of_lt_of_le b hs, fun j u hu => (World.cell?_of_block (w := w) (e g b a)).trans (r j u hu)⟩
theorem Sl.keep {A S : Nat → Prop} {w w' : World} {size n : Nat} {v : Value} {cs : List Value} (h : Sl A w size v n cs) (k : Keep S w w') (hAS : ∀ j, j < w.heap.size → A j → ¬ S j) : Sl A w' size v n cs :=
  h.same k.size fun j hj ha => k.block j hj (hAS j hj ha)
theorem Sl.shape {A : Nat → Prop} {w : World} {size n : Nat} {v : Value} {cs : List Value} (h : Sl A w size v n cs) : ∃ a cap, v = .slice a n cap ∧ n ≤ cap ∧ cap ≤ maxLen := by
  obtain ⟨_, a, cap, e, c, d, _⟩ := h
  exact ⟨a, cap, e, c, d⟩
/-- where there is a cell there is an address -/
theorem Sl.at {A : Nat → Prop} {w : World} {size n : Nat} {v : Value} {cs : List Value} (h : Sl A w size v n cs) (hn : 0 < n) :
    ∃ g off cap, v = .slice (some ⟨g, off, none⟩) n cap ∧ A g ∧ g < w.heap.size ∧ n ≤ cap ∧ cap ≤ maxLen ∧ ∀ j u, cs[j]? = some u → w.cell? ⟨g, off + j, none⟩ = some u := by
  obtain ⟨_, a, cap, e, c, d, _, r⟩ := h
  obtain ⟨g, off, e2, h3, b, r2⟩ := r hn
  subst e2
  exact ⟨g, off, cap, e, h3, b, c, d, r2⟩
theorem Sl.of_own {w : World} {base : Nat} {e : TypeId} {size n : Nat} {v : Value} {xs : List Value} (h : w.ownsRow base e size v n xs) : Sl (fun k => base ≤ k ∧ some k = v.ownBlock) w size v n xs := by
  refine ⟨h.1, ?_⟩
  rcases h.2 with ⟨rfl, rfl⟩ | ⟨g, cap, cur, rfl, hb, hg, hn, hm, _, ht⟩
  · exact ⟨none, 0, rfl, Nat.le_refl _, Nat.zero_le _, fun _ => rfl, fun h => absurd h (by omega)⟩
  · refine ⟨_, cap, rfl, hn, hm, (fun h => by cases h), fun _ => ⟨g, 0, rfl, ⟨hb, rfl⟩, (Array.getElem?_eq_some_iff.1 hg).1, fun j u hu => ?_⟩⟩
    have := h.cells (g := g) rfl j u hu
    simpa [Addr.add_lit] using this

theorem Sl.new (w : World) (cs : Array Value) (t : TypeId) {size n : Nat} (h : cs.size = n * size) (hn : n ≤ maxLen) : Sl (fun k => k = w.heap.size) (w.alloc (.cells cs t)) size (.slice (some ⟨w.heap.size, 0, none⟩) n n) n cs.toList :=
  Sl.mk (by simpa using h) rfl (by simp) (Nat.le_refl _) hn fun j u hu => by rw [(Blk.new w cs t).cell]; simpa using hu

/-- The walk's stop at an operation: what is left to say is how it runs. -/
def RunGoal {α : Type} (P : Program) (s : Sem α) (w : World) (K : α → World → Prop) : Prop := ∃ v w', s.run P w = .ok v w' ∧ K v w'
theorem RunGoal.mk {α : Type} {P : Program} {s : Sem α} {w : World} {K : α → World → Prop} {v : α} {w' : World} (h : s.run P w = .ok v w') (hk : K v w') : RunGoal P s w K := ⟨v, w', h, hk⟩

/-! The stops proper: their operations are names here, so that the walk's simp does not look into them. -/
def AppendGoal (P : Program) (t1 t2 ty : TypeId) (v1 v2 : Value) (w : World) (K : Value → World → Prop) : Prop := RunGoal P (Builtin.append_ #[t1, t2] ty #[v1, v2]) w K
def CopyGoal (P : Program) (t1 t2 ty : TypeId) (v1 v2 : Value) (w : World) (K : Value → World → Prop) : Prop := RunGoal P (Builtin.copy_ #[t1, t2] ty #[v1, v2]) w K
def MaxGoal (P : Program) (t1 t2 ty : TypeId) (v1 v2 : Value) (w : World) (K : Value → World → Prop) : Prop := RunGoal P (Builtin.max_ #[t1, t2] ty #[v1, v2]) w K
def MinGoal (P : Program) (t1 t2 ty : TypeId) (v1 v2 : Value) (w : World) (K : Value → World → Prop) : Prop := RunGoal P (Builtin.min_ #[t1, t2] ty #[v1, v2]) w K
def DeleteGoal (P : Program) (t1 t2 ty : TypeId) (v1 v2 : Value) (w : World) (K : Value → World → Prop) : Prop := RunGoal P (Builtin.delete_ #[t1, t2] ty #[v1, v2]) w K
def LenGoal (P : Program) (t1 ty : TypeId) (v1 : Value) (w : World) (K : Value → World → Prop) : Prop := RunGoal P (Builtin.len_ #[t1] ty #[v1]) w K
def MakeGoal (P : Program) (t : TypeId) (v1 v2 : Value) (w : World) (K : Value → World → Prop) : Prop := RunGoal P (Instr.makeSlice t v1 v2) w K
def UpdateGoal (P : Program) (t : TypeId) (v1 v2 v3 : Value) (w : World) (K : World → Prop) : Prop := RunGoal P (Instr.mapUpdate t v1 v2 v3) w fun _ w' => K w'
def LookupGoal (P : Program) (t : TypeId) (v1 v2 : Value) (c : Bool) (w : World) (K : Value → World → Prop) : Prop := RunGoal P (Instr.lookup t v1 v2 c) w K
def RangeGoal (P : Program) (t : TypeId) (v1 : Value) (w : World) (K : Value → World → Prop) : Prop := RunGoal P (Instr.range t v1) w K
def NextGoal (P : Program) (v1 : Value) (s : Bool) (ty : TypeId) (w : World) (K : Value → World → Prop) : Prop := RunGoal P (Instr.next v1 s ty) w K
def MakeMapGoal (P : Program) (t : TypeId) (v1 : Option Value) (w : World) (K : Value → World → Prop) : Prop := RunGoal P (Instr.makeMap t v1) w K

section
variable {P : Program} {w : World} {ops : Array Oper} {rest : List Oper} {o : Oper} {a : Act} {Q : Exit → Act → World → Prop}

theorem wl_append (hgd : o.guard = none) (x y : Operand) (t1 t2 : TypeId) (ho : o.op = .call { callee := .builtin .append, args := #[x, y], argTypes := #[t1, t2] })
    (v1 v2 : Value) (h1 : a.eval x = v1) (h2 : a.eval y = v2) (h : AppendGoal P t1 t2 o.type v1 v2 w fun v w' => wpList P ops Q rest (a.put o.dst v) w') : wpList P ops Q (o :: rest) a w := by
  obtain ⟨v, w', hr, hk⟩ := h
  refine wpList_plain hgd fun K hK => ?_
  unfold Oper.wp execOp
  simp only [ho, resolve, invoke, builtin, Sem.run_bind, Sem.run_pure, Result.andThen_ok, List.map_toArray, List.map_cons, List.map_nil, h1, h2, hr]
  exact hK _ _ hk

theorem wl_copy (hgd : o.guard = none) (x y : Operand) (t1 t2 : TypeId) (ho : o.op = .call { callee := .builtin .copy, args := #[x, y], argTypes := #[t1, t2] })
    (v1 v2 : Value) (h1 : a.eval x = v1) (h2 : a.eval y = v2) (h : CopyGoal P t1 t2 o.type v1 v2 w fun v w' => wpList P ops Q rest (a.put o.dst v) w') : wpList P ops Q (o :: rest) a w := by
  obtain ⟨v, w', hr, hk⟩ := h
  refine wpList_plain hgd fun K hK => ?_
  unfold Oper.wp execOp
  simp only [ho, resolve, invoke, builtin, Sem.run_bind, Sem.run_pure, Result.andThen_ok, List.map_toArray, List.map_cons, List.map_nil, h1, h2, hr]
  exact hK _ _ hk

theorem wl_max (hgd : o.guard = none) (x y : Operand) (t1 t2 : TypeId) (ho : o.op = .call { callee := .builtin .max, args := #[x, y], argTypes := #[t1, t2] })
    (v1 v2 : Value) (h1 : a.eval x = v1) (h2 : a.eval y = v2) (h : MaxGoal P t1 t2 o.type v1 v2 w fun v w' => wpList P ops Q rest (a.put o.dst v) w') : wpList P ops Q (o :: rest) a w := by
  obtain ⟨v, w', hr, hk⟩ := h
  refine wpList_plain hgd fun K hK => ?_
  unfold Oper.wp execOp
  simp only [ho, resolve, invoke, builtin, Sem.run_bind, Sem.run_pure, Result.andThen_ok, List.map_toArray, List.map_cons, List.map_nil, h1, h2, hr]
  exact hK _ _ hk

theorem wl_min (hgd : o.guard = none) (x y : Operand) (t1 t2 : TypeId) (ho : o.op = .call { callee := .builtin .min, args := #[x, y], argTypes := #[t1, t2] })
    (v1 v2 : Value) (h1 : a.eval x = v1) (h2 : a.eval y = v2) (h : MinGoal P t1 t2 o.type v1 v2 w fun v w' => wpList P ops Q rest (a.put o.dst v) w') : wpList P ops Q (o :: rest) a w := by
  obtain ⟨v, w', hr, hk⟩ := h
  refine wpList_plain hgd fun K hK => ?_
  unfold Oper.wp execOp
  simp only [ho, resolve, invoke, builtin, Sem.run_bind, Sem.run_pure, Result.andThen_ok, List.map_toArray, List.map_cons, List.map_nil, h1, h2, hr]
  exact hK _ _ hk

theorem wl_delete (hgd : o.guard = none) (x y : Operand) (t1 t2 : TypeId) (ho : o.op = .call { callee := .builtin .delete, args := #[x, y], argTypes := #[t1, t2] })
    (v1 v2 : Value) (h1 : a.eval x = v1) (h2 : a.eval y = v2) (h : DeleteGoal P t1 t2 o.type v1 v2 w fun v w' => wpList P ops Q rest (a.put o.dst v) w') : wpList P ops Q (o :: rest) a w := by
  obtain ⟨v, w', hr, hk⟩ := h
  refine wpList_plain hgd fun K hK => ?_
  unfold Oper.wp execOp
  simp only [ho, resolve, invoke, builtin, Sem.run_bind, Sem.run_pure, Result.andThen_ok, List.map_toArray, List.map_cons, List.map_nil, h1, h2, hr]
  exact hK _ _ hk

theorem wl_len (hgd : o.guard = none) (x : Operand) (t1 : TypeId) (ho : o.op = .call { callee := .builtin .len, args := #[x], argTypes := #[t1] })
    (b : Nat) (h1 : a.eval x = .map (some b)) (h : LenGoal P t1 o.type (.map (some b)) w fun v w' => wpList P ops Q rest (a.put o.dst v) w') : wpList P ops Q (o :: rest) a w := by
  obtain ⟨v, w', hr, hk⟩ := h
  refine wpList_plain hgd fun K hK => ?_
  unfold Oper.wp execOp
  simp only [ho, resolve, invoke, builtin, Sem.run_bind, Sem.run_pure, Result.andThen_ok, List.map_toArray, List.map_cons, List.map_nil, h1, hr]
  exact hK _ _ hk

theorem wl_make (hgd : o.guard = none) (l c : Operand) (t : TypeId) (ho : o.op = Op.makeSlice t l c) (v1 v2 : Value) (h1 : a.eval l = v1) (h2 : a.eval c = v2)
    (h : MakeGoal P t v1 v2 w fun v w' => wpList P ops Q rest (a.put o.dst v) w') : wpList P ops Q (o :: rest) a w := by
  obtain ⟨v, w', hr, hk⟩ := h
  refine wpList_plain hgd fun K hK => ?_
  unfold Oper.wp
  simp [execOp, ho, h1, h2, hr, Result.andThen]
  exact hK _ _ hk

theorem wl_mapUpdate (hgd : o.guard = none) (m x v : Operand) (t : TypeId) (ho : o.op = Op.mapUpdate t m x v) (v1 v2 v3 : Value) (h1 : a.eval m = v1) (h2 : a.eval x = v2) (h3 : a.eval v = v3)
    (h : UpdateGoal P t v1 v2 v3 w fun w' => wpList P ops Q rest (a.put o.dst undef) w') : wpList P ops Q (o :: rest) a w := by
  obtain ⟨v, w', hr, hk⟩ := h
  refine wpList_plain hgd fun K hK => ?_
  unfold Oper.wp
  simp [execOp, ho, h1, h2, h3, hr, Result.andThen]
  exact hK _ _ hk

theorem wl_lookup (hgd : o.guard = none) (m x : Operand) (t : TypeId) (c : Bool) (ho : o.op = Op.lookup t m x c) (v1 v2 : Value) (h1 : a.eval m = v1) (h2 : a.eval x = v2)
    (h : LookupGoal P t v1 v2 c w fun v w' => wpList P ops Q rest (a.put o.dst v) w') : wpList P ops Q (o :: rest) a w := by
  obtain ⟨v, w', hr, hk⟩ := h
  refine wpList_plain hgd fun K hK => ?_
  unfold Oper.wp
  simp [execOp, ho, h1, h2, hr, Result.andThen]
  exact hK _ _ hk

theorem wl_range (hgd : o.guard = none) (m : Operand) (t : TypeId) (ho : o.op = Op.range t m) (b : Nat) (h1 : a.eval m = .map (some b))
    (h : RangeGoal P t (.map (some b)) w fun v w' => wpList P ops Q rest (a.put o.dst v) w') : wpList P ops Q (o :: rest) a w := by
  obtain ⟨v, w', hr, hk⟩ := h
  refine wpList_plain hgd fun K hK => ?_
  unfold Oper.wp
  simp [execOp, ho, h1, hr, Result.andThen]
  exact hK _ _ hk

theorem wl_next (hgd : o.guard = none) (it : Operand) (ho : o.op = Op.next it false) (v1 : Value) (h1 : a.eval it = v1)
    (h : NextGoal P v1 false o.type w fun v w' => wpList P ops Q rest (a.put o.dst v) w') : wpList P ops Q (o :: rest) a w := by
  obtain ⟨v, w', hr, hk⟩ := h
  refine wpList_plain hgd fun K hK => ?_
  unfold Oper.wp
  simp [execOp, ho, h1, hr, Result.andThen]
  exact hK _ _ hk
end

/-! runs over such slices -/
section
variable {P : Program} {w : World}

theorem run_max2 (t : Array TypeId) (ty : TypeId) (a b : Int) : (Builtin.max_ t ty #[.int .i64 a, .int .i64 b]).run P w = .ok (.int .i64 (max a b)) w := by
  have e : (if b > a then b else a) = max a b := by simp only [Int.max_def]; split <;> split <;> omega
  simp [Builtin.max_, Builtin.max2, e, List.foldlM]
theorem run_min2 (t : Array TypeId) (ty : TypeId) (a b : Int) : (Builtin.min_ t ty #[.int .i64 a, .int .i64 b]).run P w = .ok (.int .i64 (min a b)) w := by
  have e : (if b < a then b else a) = min a b := by simp only [Int.min_def]; split <;> split <;> omega
  simp [Builtin.min_, Builtin.min2, e, List.foldlM]

/-- append onto a slice of one's own, of whatever source. -/
theorem run_append_sl {A : Nat → Prop} (base : Nat) (t ty e : TypeId) (z : Value) (size bytes : Nat) (ht : P.underlying t = some (.slice e)) (hi : (P.info? e).map (fun i => (i.zero, i.size, i.bytes)) = some (some z, size, bytes))
    (hzs : z.cells.size = size) (hsz : 0 < size) {v vs : Value} {n m : Nat} {xs news : List Value} (hown : w.ownsRow base e size v n xs) (hs : Sl A w size vs m news) (h1 : ∀ u ∈ news, u.oneCell' = true)
    (h63 : n + m ≤ maxLen) (hbytes : (n + m) * bytes ≤ 140737488355328) (hbase : base ≤ w.heap.size) :
    ∃ v' w', (Builtin.append_ #[t, t] ty #[v, vs]).run P w = .ok v' w' ∧ w'.ownsRow base e size v' (n + m) (xs ++ news) ∧ w.grownBy w' v.ownBlock ∧ (v' = .slice none 0 0 ↔ v = .slice none 0 0 ∧ m = 0) ∧ (v'.ownBlock = v.ownBlock ∨ v'.ownBlock = some w.heap.size) := by
  obtain ⟨i, hi, hz0, hz1, hz2⟩ := info_parts hi
  obtain ⟨h1', a, cap, rfl, hnc, _, hnone, hr⟩ := hs
  cases a with
  | none =>
    obtain rfl := hnone rfl
    obtain rfl : m = 0 := by omega
    obtain rfl : news = [] := List.eq_nil_of_length_eq_zero (by simpa using h1')
    refine ⟨v, w, run_append_owned_none (P := P) (w := w) base t ty e i size ht hi v n xs hown, by simpa using hown, World.grownBy.refl _ _, by simp, .inl rfl⟩
  | some a =>
    refine run_append_own_at (P := P) w base t ty e i z size bytes ht hi hz0 hz1 hz2 hzs hsz v n xs hown a m cap news h1' (fun j u hu => ?_) h1 h63 hbytes hbase
    have hm : 0 < m := by
      rcases Nat.eq_zero_or_pos m with h | h
      · subst h
        have := List.eq_nil_of_length_eq_zero (by simpa using h1')
        subst this; simp at hu
      · exact h
    obtain ⟨g, off, e2, _, _, hc⟩ := hr hm
    cases e2
    rw [Addr.add_lit]; exact hc j u hu

/-- make([]T, n) -/
theorem run_make_sl (t e : TypeId) (z : Value) (size bytes : Nat) (ht : P.underlying t = some (.slice e)) (hi : (P.info? e).map (fun i => (i.zero, i.size, i.bytes)) = some (some z, size, bytes))
    (n : Nat) (b2 : bytes * n ≤ 281474976710656) (b3 : n ≤ maxLen) :
    ∃ w', (Instr.makeSlice t (.int .i64 (n : Int)) (.int .i64 (n : Int))).run P w = .ok (.slice (some ⟨w.heap.size, 0, none⟩) n n) w' ∧ Blk w' w.heap.size (madeCells z.cells (n * size)) e ∧ Keep No w w' := by
  obtain ⟨i, hi, hz0, hz1, hz2⟩ := info_parts hi
  obtain ⟨w', hrun, r1, r2⟩ := run_make_full (P := P) w w.heap.size t e i z size ht hi hz0 hz1 .i64 .i64 n (by rw [hz2]; exact b2) b3 (Nat.le_refl _)
  refine ⟨w', hrun, ?_, (Keep.of_grown r2).mono (fun k _ h => by cases h)⟩
  rcases r1.2 with ⟨h, _⟩ | ⟨g, cap, cur, e1, _, hg, _, _, hcs, hct⟩
  · cases h
  · cases e1
    have e2 : cur = madeCells z.cells (n * size) := by
      apply Array.toList_inj.1
      rw [← hct, List.take_of_length_le]
      simp only [Array.length_toList]; omega
    rw [e2] at hg
    exact hg

/-- copy into a row that is known whole. -/
theorem run_copy_sl {A : Nat → Prop} (t ty e t' : TypeId) (ht : P.underlying t = some (.slice e)) (hi : (P.info? e).map (·.size) = some 1)
    {g off dLen dCap : Nat} {cur : Array Value} {dp : Option Addr} {vs : Value} {m : Nat} {cs : List Value} (hb : Blk w g cur t') (hd : 0 < Nat.min m dLen → dp = some ⟨g, off, none⟩) (hs : Sl A w 1 vs m cs) (hfit : off + Nat.min m dLen ≤ cur.size)
    (h1 : ∀ u ∈ cs, u.oneCell' = true) :
    ∃ w', (Builtin.copy_ #[t, t] ty #[.slice dp dLen dCap, vs]).run P w = .ok (.int .i64 (Nat.min m dLen : Nat)) w' ∧ Blk w' g (splice cur.toList off (cs.take dLen)).toArray t' ∧ Keep (fun k => k = g) w w' := by
  have hlen : cs.length = m := by simpa using hs.1
  by_cases h0 : Nat.min m dLen = 0
  · obtain ⟨a, cap, rfl, _, _⟩ := hs.shape
    have hrun := run_copy_none (P := P) w t t ty e dp a dLen dCap m cap ht hi h0
    have e0 : cs.take dLen = [] := by
      apply List.eq_nil_of_length_eq_zero
      rw [List.length_take, hlen, Nat.min_comm]; exact h0
    refine ⟨w, ?_, by rw [e0]; simpa [splice] using hb, Keep.refl _ _⟩
    rw [hrun, h0]; rfl
  · have hm : 0 < m := by
      rcases Nat.eq_zero_or_pos m with h | h
      · subst h; simp at h0
      · exact h
    obtain ⟨g2, off2, cap, rfl, _, _, _, _, hc⟩ := hs.at hm
    obtain rfl := hd (by omega)
    have hl2 : (cs.take dLen).length = Nat.min m dLen := by rw [List.length_take, hlen, Nat.min_comm]
    have hrun := run_copy_row (P := P) w t t ty e g off dLen dCap ⟨g2, off2, none⟩ m cap cur t' (cs.take dLen) ht hi hb hl2 (fun j v hj => by
      rw [Addr.add_lit]; exact hc j v (by
        rw [List.getElem?_take] at hj
        split at hj
        · exact hj
        · cases hj)) (by rw [hl2]; exact hfit) (fun u hu => h1 u (List.mem_of_mem_take hu))
    have e2 : cur.toList.take off ++ cs.take dLen ++ cur.toList.drop (off + (cs.take dLen).length) = splice cur.toList off (cs.take dLen) := by simp [splice]
    rw [e2, hl2] at hrun
    exact ⟨_, hrun, setRow_heap w g cur _ t' _ hb, ⟨rfl, rfl, rfl, by simp, fun k _ hk => setRow_other w g k _ hk⟩⟩
end

/-! bytes -/
def bv (b : UInt8) : Value := .int .u8 (b.toNat : Int)
def Bts (A : Nat → Prop) (w : World) (v : Value) (l : List UInt8) : Prop := Sl A w 1 v l.length (l.map bv)
theorem bv_one (l : List UInt8) : ∀ u ∈ l.map bv, u.oneCell' = true := by
  intro u hu; obtain ⟨_, _, rfl⟩ := List.mem_map.1 hu; rfl
theorem madeCells_u8 (n : Nat) : madeCells (Value.int .u8 0).cells (n * 1) = ((List.replicate n (0 : UInt8)).map bv).toArray := by
  apply Array.toList_inj.1
  apply List.ext_getElem
  · simp [madeCells]
  · intro i h1 h2
    simp [madeCells, Value.cells, bv, Nat.mod_one]
theorem splice_map {α β : Type} (f : α → β) (l : List α) (o : Nat) (m : List α) : splice (l.map f) o (m.map f) = (splice l o m).map f := by
  simp [splice, List.map_take, List.map_drop]
def laidB (xs : List UInt8) (i : Nat) (ys : List UInt8) : List UInt8 := splice (splice (List.replicate (max xs.length (i + ys.length)) 0) 0 xs) i ys
theorem length_laidB (xs : List UInt8) (i : Nat) (ys : List UInt8) : (laidB xs i ys).length = max xs.length (i + ys.length) := by
  unfold laidB
  rw [length_splice _ _ _ (by rw [length_splice _ _ _ (by simp; omega)]; simp; omega), length_splice _ _ _ (by simp; omega)]
  simp
/-- a row of bytes known whole is a slice of bytes. -/
theorem Bts.of_blk {w : World} {g : Nat} {l : List UInt8} {t : TypeId} (h : Blk w g (l.map bv).toArray t) (hm : l.length ≤ maxLen) : Bts (fun k => k = g) w (.slice (some ⟨g, 0, none⟩) l.length l.length) l :=
  Sl.mk (by simp) rfl h.lt (Nat.le_refl _) hm fun j u hu => by rw [h.cell]; simpa using hu

/-! the same runs as answers to the walk's stops -/
section
variable {P : Program} {w : World} {K : Value → World → Prop}
theorem rg_max2 {t1 t2 ty : TypeId} {a b : Int} (h : K (.int .i64 (max a b)) w) : MaxGoal P t1 t2 ty (.int .i64 a) (.int .i64 b) w K := .mk (run_max2 _ _ _ _) h
theorem rg_min2 {t1 t2 ty : TypeId} {a b : Int} (h : K (.int .i64 (min a b)) w) : MinGoal P t1 t2 ty (.int .i64 a) (.int .i64 b) w K := .mk (run_min2 _ _ _ _) h
theorem rg_make (e : TypeId) (z : Value) (size bytes : Nat) {t : TypeId} (ht : P.underlying t = some (.slice e)) (hi : (P.info? e).map (fun i => (i.zero, i.size, i.bytes)) = some (some z, size, bytes))
    {n : Nat} (b2 : bytes * n ≤ 281474976710656) (b3 : n ≤ maxLen)
    (h : ∀ w', Blk w' w.heap.size (madeCells z.cells (n * size)) e → Keep No w w' → K (.slice (some ⟨w.heap.size, 0, none⟩) n n) w') : MakeGoal P t (.int .i64 (n : Int)) (.int .i64 (n : Int)) w K := by
  obtain ⟨w', hr, hb, hk⟩ := run_make_sl (P := P) (w := w) t e z size bytes ht hi n b2 b3
  exact .mk hr (h w' hb hk)
theorem rg_copy {A : Nat → Prop} (e t' : TypeId) {t ty : TypeId} (ht : P.underlying t = some (.slice e)) (hi : (P.info? e).map (·.size) = some 1)
    {g off dLen dCap : Nat} {cur : Array Value} {dp : Option Addr} {vs : Value} {m : Nat} {cs : List Value} (hb : Blk w g cur t') (hs : Sl A w 1 vs m cs) (hd : 0 < min m dLen → dp = some ⟨g, off, none⟩) (hfit : off + min m dLen ≤ cur.size)
    (h1 : ∀ u ∈ cs, u.oneCell' = true)
    (h : ∀ w', Blk w' g (splice cur.toList off (cs.take dLen)).toArray t' → Keep (fun k => k = g) w w' → K (.int .i64 (min m dLen : Nat)) w') : CopyGoal P t t ty (.slice dp dLen dCap) vs w K := by
  obtain ⟨w', hr, hb, hk⟩ := run_copy_sl (P := P) (w := w) (dCap := dCap) t ty e t' ht hi hb hd hs hfit h1
  exact .mk hr (h w' hb hk)
theorem rg_append {A : Nat → Prop} (base : Nat) (e : TypeId) (z : Value) (size bytes : Nat) {t ty : TypeId} (ht : P.underlying t = some (.slice e)) (hi : (P.info? e).map (fun i => (i.zero, i.size, i.bytes)) = some (some z, size, bytes))
    (hzs : z.cells.size = size) (hsz : 0 < size) {v vs : Value} {n m : Nat} {xs news : List Value} (hown : w.ownsRow base e size v n xs) (hs : Sl A w size vs m news) (h1 : ∀ u ∈ news, u.oneCell' = true)
    (h63 : n + m ≤ maxLen) (hbytes : (n + m) * bytes ≤ 140737488355328) (hbase : base ≤ w.heap.size)
    (h : ∀ v' w', w'.ownsRow base e size v' (n + m) (xs ++ news) → Keep (fun k => some k = v.ownBlock) w w' → (v' = .slice none 0 0 ↔ v = .slice none 0 0 ∧ m = 0) → (v'.ownBlock = v.ownBlock ∨ v'.ownBlock = some w.heap.size) → K v' w') :
    AppendGoal P t t ty v vs w K := by
  obtain ⟨v', w', hr, ho, hg, hn, hl⟩ := run_append_sl (P := P) (w := w) base t ty e z size bytes ht hi hzs hsz hown hs h1 h63 hbytes hbase
  exact .mk hr (h v' w' ho (Keep.of_grown hg) hn hl)
end
end Go.Dm
namespace Go.Dm
open Go

section
variable {P : Program} {ops : Array Oper} {Q : Exit → Act → World → Prop} {md : Region.Mode} {S : World → Prop} {kb : Nat → Bool}

/-- Whatever order is picked from here on, and S behind each operation of kb. -/
def wpAnyK (P : Program) (md : Region.Mode) (ops : Array Oper) (Q : Exit → Act → World → Prop) (S : World → Prop) (kb : Nat → Bool) : Nat → Array Bool → Act → World → Prop
  | 0, listed, a, w => Region.ready md ops listed = [] ∧ Q .normal a w
  | fuel + 1, listed, a, w =>
    (Region.ready md ops listed = [] → Q .normal a w) ∧
    ∀ i ∈ Region.ready md ops listed, wpOp P ops Q i (fun a' w' => (kb i = true → S w') ∧ wpAnyK P md ops Q S kb fuel (listed.setIfInBounds i true) a' w') a w

theorem wpAny_of_K : ∀ (fuel : Nat) (listed : Array Bool) (a : Act) (w : World), wpAnyK P md ops Q S kb fuel listed a w → wpAny P md ops Q fuel listed a w
  | 0, _, _, _, h => h
  | fuel + 1, _, _, _, h => ⟨h.1, fun i hi => wpOp_mono (fun a' w' h' => wpAny_of_K fuel _ a' w' h'.2) (h.2 i hi)⟩

/-- does number j wait for number i, at once or through others? -/
def reach (md : Region.Mode) (ops : Array Oper) : Nat → Nat → Nat → Bool
  | 0, _, _ => false
  | f + 1, j, i => match ops[j]? with
    | none => false
    | some oj => oj.after.any fun e => Region.binds md e && (e.on == i || reach md ops f e.on i)
def Closed (md : Region.Mode) (ops : Array Oper) (listed : Array Bool) : Prop :=
  ∀ (k : Nat) (ok : Oper), ops[k]? = some ok → listed.getD k false = true → ∀ e ∈ ok.after, Region.binds md e = true → listed.getD e.on false = true
theorem reach_listed {listed : Array Bool} (hc : Closed md ops listed) {i : Nat} : ∀ (f j : Nat) (oj : Oper), ops[j]? = some oj → (∀ e ∈ oj.after, Region.binds md e = true → listed.getD e.on false = true) → reach md ops f j i = true → listed.getD i false = true
  | 0, _, _, _, _, h => by simp [reach] at h
  | f + 1, j, oj, hj, ha, h => by
    simp only [reach, hj] at h
    obtain ⟨e, he, hb⟩ := Array.any_eq_true'.1 h
    simp only [Bool.and_eq_true, Bool.or_eq_true, beq_iff_eq] at hb
    obtain ⟨hb, h1 | h1⟩ := hb
    · rw [← h1]; exact ha e he hb
    · cases hk : ops[e.on]? with
      | none => cases f with
        | zero => simp [reach] at h1
        | succ f => simp [reach, hk] at h1
      | some ok => exact reach_listed hc f e.on ok hk (hc e.on ok hk (ha e he hb)) h1
theorem getD_set_same {listed : Array Bool} {i : Nat} (h : i < listed.size) : (listed.setIfInBounds i true).getD i false = true := by simp [h]
theorem Closed.step {listed : Array Bool} (hc : Closed md ops listed) {i : Nat} (hr : i ∈ Region.ready md ops listed) : Closed md ops (listed.setIfInBounds i true) := by
  have hmono : ∀ k, listed.getD k false = true → (listed.setIfInBounds i true).getD k false = true := by
    intro k hk
    by_cases e : i = k
    · subst e
      refine getD_set_same ?_
      rcases Nat.lt_or_ge i listed.size with h | h
      · exact h
      · simp [Array.getElem?_eq_none h] at hk
    · rw [getD_set_ne false e]; exact hk
  intro k ok hk hl e he hb
  by_cases ek : i = k
  · subst ek
    obtain ⟨_, oj, hoj, hall⟩ := mem_ready.1 hr
    rw [hk] at hoj; cases hoj
    exact hmono _ (hall e he hb)
  · rw [getD_set_ne false ek] at hl
    exact hmono _ (hc k ok hk hl e he hb)

theorem wpAnyK_first {i : Nat} {oi : Oper} {v : Value} (hi : ops[i]? = some oi) (hsel : ∀ (j : Nat) (o : Oper) cs b, ops[j]? = some o → o.op ≠ .select cs b)
    (hQ : ∀ c a w, Q (.panic c) (a.put oi.dst v) w → Q (.panic c) a w) :
    ∀ (fuel : Nat) (listed : Array Bool) (a : Act) (w : World),
      (∀ j oj, ops[j]? = some oj → j ≠ i → listed.getD j true = false → reach md ops ops.size j i = false → oi.apart ops oj = true ∧ kb j = true) →
      Closed md ops listed → i ∈ Region.ready md ops listed → YieldsIf P ops S oi v a → S w →
      wpAnyK P md ops Q S kb fuel (listed.setIfInBounds i true) (a.put oi.dst v) w → wpAnyK P md ops Q S kb (fuel + 1) listed a w := by
  intro fuel
  induction fuel with
  | zero =>
    intro listed a w _ _ hr hy hS H
    refine ⟨fun h => (by rw [h] at hr; cases hr), fun j hj => ?_⟩
    by_cases hji : j = i
    · subst hji; exact hy.wpOp hi hS ⟨fun _ => hS, H⟩
    · have := ready_mono hj hji
      rw [H.1] at this
      cases this
  | succ fuel ih =>
    intro listed a w hfree hcl hr hy hS H
    refine ⟨fun h => (by rw [h] at hr; cases hr), fun j hj => ?_⟩
    by_cases hji : j = i
    · subst hji; exact hy.wpOp hi hS ⟨fun _ => hS, H⟩
    · have h1 := H.2 j (ready_mono hj hji)
      obtain ⟨hjun, oj, hoj, hall⟩ := mem_ready.1 hj
      have hnot : reach md ops ops.size j i = false := by
        cases hq : reach md ops ops.size j i with
        | false => rfl
        | true =>
          have h1 := reach_listed hcl _ j oj hoj hall hq
          have h0 := (mem_ready.1 hr).1
          rcases Nat.lt_or_ge i listed.size with h' | h'
          · simp [h'] at h0 h1; rw [h0] at h1; cases h1
          · simp [Array.getElem?_eq_none h'] at h1
      obtain ⟨hap, hkb⟩ := hfree j oj hoj hji hjun hnot
      have h2 := wpOp_putIf hoj hap (fun cs b => hsel i oi cs b hi) (fun cs b => hsel j oj cs b hoj) hQ hy h1
      have hfree' : ∀ k ok, ops[k]? = some ok → k ≠ i → (listed.setIfInBounds j true).getD k true = false →
          reach md ops ops.size k i = false → oi.apart ops ok = true ∧ kb k = true := fun k ok hk hki hun hno => by
        refine hfree k ok hk hki ?_ hno
        by_cases hjk : j = k
        · subst hjk; exact hjun
        · rw [getD_set_ne true hjk] at hun; exact hun
      refine wpOp_mono (fun a' w' h3 => ⟨h3.2.1, ih (listed.setIfInBounds j true) a' w' hfree' (hcl.step hj) (ready_mono hr (Ne.symm hji)) h3.1 (h3.2.1 hkb) ?_⟩) h2
      rw [Array.setIfInBounds_comm _ _ hji]
      exact h3.2.2

/-- does it wait for number i at once? -/
def direct (md : Region.Mode) (oj : Oper) (i : Nat) : Bool := oj.after.any fun e => e.on == i && Region.binds md e
theorem direct_reach {i j f : Nat} {oj : Oper} (hj : ops[j]? = some oj) (h : direct md oj i = true) : reach md ops (f + 1) j i = true := by
  obtain ⟨e, he, hb⟩ := Array.any_eq_true'.1 h
  simp only [reach, hj]
  refine Array.any_eq_true'.2 ⟨e, he, ?_⟩
  simp only [Bool.and_eq_true] at hb
  rw [hb.2, hb.1]
  rfl
/-- may number i be taken first? -/
def freeK (md : Region.Mode) (ops : Array Oper) (kb : Nat → Bool) (listed : Array Bool) (i : Nat) : Bool :=
  match ops[i]? with
  | none => false
  | some oi => (List.range ops.size).all fun j => j == i || listed.getD j true || match ops[j]? with
      | some oj => (oi.apart ops oj && kb j) || direct md oj i || reach md ops ops.size j i
      | none => true

theorem freeK_spec {i : Nat} {oi : Oper} {listed : Array Bool} (hi : ops[i]? = some oi) (h : freeK md ops kb listed i = true) (j : Nat) (oj : Oper)
    (hj : ops[j]? = some oj) (hne : j ≠ i) (hun : listed.getD j true = false) (hno : reach md ops ops.size j i = false) :
    oi.apart ops oj = true ∧ kb j = true := by
  simp only [freeK, hi, List.all_eq_true, List.mem_range] at h
  have h1 := h j (Array.getElem?_eq_some_iff.1 hj).1
  simp only [hj, Bool.or_eq_true, beq_iff_eq, hne, false_or, hun, Bool.false_eq_true] at h1
  rw [hno] at h1
  have hsz := (Array.getElem?_eq_some_iff.1 hj).1
  have hd : direct md oj i = false := by
    cases hd : direct md oj i with
    | false => rfl
    | true =>
      obtain ⟨f, hf⟩ : ∃ f, ops.size = f + 1 := ⟨ops.size - 1, by omega⟩
      rw [hf, direct_reach hj hd] at hno
      cases hno
  rw [hd] at h1
  simpa using h1

/-- The given order: (number, does it yield the same in every world of S?). -/
def sigB (md : Region.Mode) (ops : Array Oper) (kb : Nat → Bool) : List (Nat × Bool) → Array Bool → Bool → Bool
  | [], listed, _ => (Region.ready md ops listed).isEmpty
  | (i, true) :: r, listed, s => s && (Region.ready md ops listed).contains i && freeK md ops kb listed i && sigB md ops kb r (listed.setIfInBounds i true) s
  | (i, false) :: r, listed, s => (Region.ready md ops listed == [i]) && sigB md ops kb r (listed.setIfInBounds i true) (s && kb i)

/-- The walk in that order. -/
def wpSig (P : Program) (ops : Array Oper) (Q : Exit → Act → World → Prop) (S : World → Prop) (kb : Nat → Bool) : List (Nat × Bool) → Act → World → Prop
  | [], a, w => Q .normal a w
  | (i, true) :: r, a, w => ∃ o v, ops[i]? = some o ∧ YieldsIf P ops S o v a ∧ wpSig P ops Q S kb r (a.put o.dst v) w
  | (i, false) :: r, a, w => wpOp P ops Q i (fun a' w' => (kb i = true → S w') ∧ wpSig P ops Q S kb r a' w') a w

theorem wpSig_sound (hs : Region.noSelect ops = true) (hQ : ∀ c a d v w, Q (.panic c) (a.put d v) w → Q (.panic c) a w) :
    ∀ (l : List (Nat × Bool)) (listed : Array Bool) (s : Bool) (a : Act) (w : World), sigB md ops kb l listed s = true → Closed md ops listed → (s = true → S w) → wpSig P ops Q S kb l a w → wpAnyK P md ops Q S kb l.length listed a w
  | [], listed, s, a, w, h, _, _, hq => by
    have : Region.ready md ops listed = [] := by simpa [sigB] using h
    exact ⟨this, hq⟩
  | (i, true) :: r, listed, s, a, w, h, hcl, hS, ⟨o, v, ho, hy, hq⟩ => by
    simp only [sigB, Bool.and_eq_true] at h
    obtain ⟨⟨⟨h1, h2⟩, h3⟩, h4⟩ := h
    exact wpAnyK_first ho (Region.noSelect_spec hs) (fun c a w => hQ c a _ _ w) r.length listed a w (freeK_spec ho h3) hcl (by simpa using h2) hy (hS h1)
      (wpSig_sound hs hQ r _ s _ w h4 (hcl.step (by simpa using h2)) hS hq)
  | (i, false) :: r, listed, s, a, w, h, hcl, hS, hq => by
    simp only [sigB, Bool.and_eq_true, beq_iff_eq] at h
    refine ⟨fun h0 => (by rw [h.1] at h0; cases h0), fun j hj => ?_⟩
    rw [h.1] at hj
    obtain rfl : j = i := by simpa using hj
    exact wpOp_mono (fun a' w' h' => ⟨h'.1, wpSig_sound hs hQ r _ (s && kb j) a' w' h.2 (hcl.step (by rw [h.1]; simp)) (fun hsk => h'.1 (Bool.and_eq_true_iff.1 hsk).2) h'.2⟩) hq

/-- The beginning. -/
theorem wp_region_sig {id : Nat} {a : Act} {w : World} (S : World → Prop) (kb : Nat → Bool) (l : List (Nat × Bool)) {o : List Oper} (hm : P.follows .mixedOrders = true)
    (hB : (Region.noSelect o.toArray && sigB .any o.toArray kb l (Array.replicate o.toArray.size false) true && (l.length == o.toArray.size)) = true)
    (hQ : ∀ c a d v w, Q (.panic c) (a.put d v) w → Q (.panic c) a w) (hS : S w.drew)
    (h : wpSig P o.toArray Q S kb l a w.drew) : (Code.region id o.toArray true).wp P Q a w := by
  simp only [Bool.and_eq_true, beq_iff_eq] at hB
  refine wp_region_any hm (wpAny_of_K (S := S) (kb := kb) _ _ _ _ ?_)
  have h2 := wpSig_sound (md := .any) hB.1.1 hQ l _ true a _ hB.1.2 (fun k ok _ hl => by rw [Array.getD_eq_getD_getElem?, Array.getElem?_replicate] at hl; split at hl <;> cases hl) (fun _ => hS) h
  rw [hB.2] at h2
  exact h2

theorem sig_nil {a : Act} {w : World} (h : Q .normal a w) : wpSig P ops Q S kb [] a w := h
theorem sig_still {i : Nat} {r : List (Nat × Bool)} {a : Act} {w : World} {o : Oper} {v : Value} (ho : ops[i]? = some o) (hg : o.guard = none)
    (hy : ∀ w', S w' → (execOp a.eval o).run P w' = .ok (.value v) w') (h : wpSig P ops Q S kb r (a.put o.dst v) w) : wpSig P ops Q S kb ((i, true) :: r) a w :=
  ⟨o, v, ho, .inl ⟨by simp [Region.wanted, hg], hy⟩, h⟩
theorem sig_guard {i : Nat} {r : List (Nat × Bool)} {a : Act} {w : World} {o : Oper} {v : Value} (ho : ops[i]? = some o) (hg : Region.wanted o (yielded ops a.tmps) = true)
    (hy : ∀ w', S w' → (execOp a.eval o).run P w' = .ok (.value v) w') (h : wpSig P ops Q S kb r (a.put o.dst v) w) : wpSig P ops Q S kb ((i, true) :: r) a w :=
  ⟨o, v, ho, .inl ⟨hg, hy⟩, h⟩
theorem sig_skip {i : Nat} {r : List (Nat × Bool)} {a : Act} {w : World} {o : Oper} (ho : ops[i]? = some o) (hg : Region.wanted o (yielded ops a.tmps) = false)
    (h : wpSig P ops Q S kb r (a.put o.dst undef) w) : wpSig P ops Q S kb ((i, true) :: r) a w :=
  ⟨o, undef, ho, .inr ⟨hg, rfl⟩, h⟩
theorem sig_eff {i : Nat} {r : List (Nat × Bool)} {a : Act} {w : World} {o : Oper} (ho : ops[i]? = some o) (hg : o.guard = none)
    (h : ∀ K : Act → World → Prop, (∀ a' w', ((kb i = true → S w') ∧ wpSig P ops Q S kb r a' w') → K a' w') → o.wp P a w K Q) : wpSig P ops Q S kb ((i, false) :: r) a w := by
  show wpOp _ _ _ _ _ _ _
  unfold wpOp
  simp only [ho, Region.wanted, hg, if_true]
  exact .inl (h _ fun _ _ h => h)

theorem sig_effg {i : Nat} {r : List (Nat × Bool)} {a : Act} {w : World} {o : Oper} (ho : ops[i]? = some o) (hg : Region.wanted o (yielded ops a.tmps) = true)
    (h : ∀ K : Act → World → Prop, (∀ a' w', ((kb i = true → S w') ∧ wpSig P ops Q S kb r a' w') → K a' w') → o.wp P a w K Q) : wpSig P ops Q S kb ((i, false) :: r) a w := by
  show wpOp _ _ _ _ _ _ _
  unfold wpOp
  simp only [ho, hg, if_true]
  exact .inl (h _ fun _ _ h => h)
theorem wo_append {o : Oper} {a : Act} {w : World} {K : Act → World → Prop} (x y : Operand) (t1 t2 : TypeId) (ho : o.op = .call { callee := .builtin .append, args := #[x, y], argTypes := #[t1, t2] })
    (v1 v2 : Value) (h1 : a.eval x = v1) (h2 : a.eval y = v2) (h : AppendGoal P t1 t2 o.type v1 v2 w fun v w' => K (a.put o.dst v) w') : o.wp P a w K Q := by
  obtain ⟨v, w', hr, hk⟩ := h
  unfold Oper.wp execOp
  simp only [ho, resolve, invoke, builtin, Sem.run_bind, Sem.run_pure, Result.andThen_ok, List.map_toArray, List.map_cons, List.map_nil, h1, h2, hr]
  exact hk
end
end Go.Dm
namespace Go.Dm
open Go

/-- st: it yields the same in every world of S; ef: the only one that may come; br: i or j may come -/
inductive Tr where
  | nil
  | st (i : Nat) (r : Tr)
  | ef (i : Nat) (r : Tr)
  | br (i j : Nat) (l r : Tr)
def Tr.len : Tr → Nat
  | .nil => 0 | .st _ r => r.len + 1 | .ef _ r => r.len + 1 | .br _ _ l _ => l.len + 1

section
variable {P : Program} {ops : Array Oper} {Q : Exit → Act → World → Prop} {md : Region.Mode} {S : World → Prop} {kb : Nat → Bool}

def treeB (md : Region.Mode) (ops : Array Oper) (kb : Nat → Bool) : Tr → Array Bool → Bool → Bool
  | .nil, listed, _ => (Region.ready md ops listed).isEmpty
  | .st i r, listed, s => s && (Region.ready md ops listed).contains i && freeK md ops kb listed i && treeB md ops kb r (listed.setIfInBounds i true) s
  | .ef i r, listed, s => (Region.ready md ops listed == [i]) && treeB md ops kb r (listed.setIfInBounds i true) (s && kb i)
  | .br i j l r, listed, s => (Region.ready md ops listed == [i, j]) && (l.len == r.len) && treeB md ops kb l (listed.setIfInBounds i true) (s && kb i) && treeB md ops kb r (listed.setIfInBounds j true) (s && kb j)

def wpTree (P : Program) (ops : Array Oper) (Q : Exit → Act → World → Prop) (S : World → Prop) (kb : Nat → Bool) : Tr → Act → World → Prop
  | .nil, a, w => Q .normal a w
  | .st i r, a, w => ∃ o v, ops[i]? = some o ∧ YieldsIf P ops S o v a ∧ wpTree P ops Q S kb r (a.put o.dst v) w
  | .ef i r, a, w => wpOp P ops Q i (fun a' w' => (kb i = true → S w') ∧ wpTree P ops Q S kb r a' w') a w
  | .br i j l r, a, w => wpOp P ops Q i (fun a' w' => (kb i = true → S w') ∧ wpTree P ops Q S kb l a' w') a w ∧ wpOp P ops Q j (fun a' w' => (kb j = true → S w') ∧ wpTree P ops Q S kb r a' w') a w

theorem wpTree_sound (hs : Region.noSelect ops = true) (hQ : ∀ c a d v w, Q (.panic c) (a.put d v) w → Q (.panic c) a w) :
    ∀ (l : Tr) (listed : Array Bool) (s : Bool) (a : Act) (w : World), treeB md ops kb l listed s = true → Closed md ops listed → (s = true → S w) → wpTree P ops Q S kb l a w → wpAnyK P md ops Q S kb l.len listed a w
  | .nil, listed, s, a, w, h, _, _, hq => by
    have : Region.ready md ops listed = [] := by simpa [treeB] using h
    exact ⟨this, hq⟩
  | .st i r, listed, s, a, w, h, hcl, hS, ⟨o, v, ho, hy, hq⟩ => by
    simp only [treeB, Bool.and_eq_true] at h
    obtain ⟨⟨⟨h1, h2⟩, h3⟩, h4⟩ := h
    exact wpAnyK_first ho (Region.noSelect_spec hs) (fun c a w => hQ c a _ _ w) r.len listed a w (freeK_spec ho h3) hcl (by simpa using h2) hy (hS h1)
      (wpTree_sound hs hQ r _ s _ w h4 (hcl.step (by simpa using h2)) hS hq)
  | .ef i r, listed, s, a, w, h, hcl, hS, hq => by
    simp only [treeB, Bool.and_eq_true, beq_iff_eq] at h
    refine ⟨fun h0 => (by rw [h.1] at h0; cases h0), fun j hj => ?_⟩
    rw [h.1] at hj
    obtain rfl : j = i := by simpa using hj
    exact wpOp_mono (fun a' w' h' => ⟨h'.1, wpTree_sound hs hQ r _ (s && kb j) a' w' h.2 (hcl.step (by rw [h.1]; simp)) (fun hsk => h'.1 (Bool.and_eq_true_iff.1 hsk).2) h'.2⟩) hq
  | .br i j l r, listed, s, a, w, h, hcl, hS, hq => by
    simp only [treeB, Bool.and_eq_true, beq_iff_eq] at h
    obtain ⟨⟨⟨h1, h2⟩, h3⟩, h4⟩ := h
    refine ⟨fun h0 => (by rw [h1] at h0; cases h0), fun k hk => ?_⟩
    have hk0 := hk
    rw [h1] at hk
    rcases (by simpa using hk : k = i ∨ k = j) with rfl | rfl
    · exact wpOp_mono (fun a' w' h' => ⟨h'.1, wpTree_sound hs hQ l _ (s && kb k) a' w' h3 (hcl.step hk0) (fun hsk => h'.1 (Bool.and_eq_true_iff.1 hsk).2) h'.2⟩) hq.1
    · show wpOp P ops Q k (fun a' w' => (kb k = true → S w') ∧ wpAnyK P md ops Q S kb l.len _ a' w') a w
      rw [h2]
      exact wpOp_mono (fun a' w' h' => ⟨h'.1, wpTree_sound hs hQ r _ (s && kb k) a' w' h4 (hcl.step hk0) (fun hsk => h'.1 (Bool.and_eq_true_iff.1 hsk).2) h'.2⟩) hq.2

theorem wp_region_tree {id : Nat} {a : Act} {w : World} (S : World → Prop) (kb : Nat → Bool) (l : Tr) {o : List Oper} (hm : P.follows .mixedOrders = true)
    (hB : (Region.noSelect o.toArray && treeB .any o.toArray kb l (Array.replicate o.toArray.size false) true && (l.len == o.toArray.size)) = true)
    (hQ : ∀ c a d v w, Q (.panic c) (a.put d v) w → Q (.panic c) a w) (hS : S w.drew)
    (h : wpTree P o.toArray Q S kb l a w.drew) : (Code.region id o.toArray true).wp P Q a w := by
  simp only [Bool.and_eq_true, beq_iff_eq] at hB
  refine wp_region_any hm (wpAny_of_K (S := S) (kb := kb) _ _ _ _ ?_)
  have h2 := wpTree_sound (md := .any) hB.1.1 hQ l _ true a _ hB.1.2 (fun k ok _ hl => by rw [Array.getD_eq_getD_getElem?, Array.getElem?_replicate] at hl; split at hl <;> cases hl) (fun _ => hS) h
  rw [hB.2] at h2
  exact h2

theorem tr_nil {a : Act} {w : World} (h : Q .normal a w) : wpTree P ops Q S kb .nil a w := h
theorem tr_still {i : Nat} {r : Tr} {a : Act} {w : World} {o : Oper} {v : Value} (ho : ops[i]? = some o) (hg : o.guard = none)
    (hy : ∀ w', S w' → (execOp a.eval o).run P w' = .ok (.value v) w') (h : wpTree P ops Q S kb r (a.put o.dst v) w) : wpTree P ops Q S kb (.st i r) a w :=
  ⟨o, v, ho, .inl ⟨by simp [Region.wanted, hg], hy⟩, h⟩
theorem tr_guard {i : Nat} {r : Tr} {a : Act} {w : World} {o : Oper} {v : Value} (ho : ops[i]? = some o) (hg : Region.wanted o (yielded ops a.tmps) = true)
    (hy : ∀ w', S w' → (execOp a.eval o).run P w' = .ok (.value v) w') (h : wpTree P ops Q S kb r (a.put o.dst v) w) : wpTree P ops Q S kb (.st i r) a w :=
  ⟨o, v, ho, .inl ⟨hg, hy⟩, h⟩
theorem tr_skip {i : Nat} {r : Tr} {a : Act} {w : World} {o : Oper} (ho : ops[i]? = some o) (hg : Region.wanted o (yielded ops a.tmps) = false)
    (h : wpTree P ops Q S kb r (a.put o.dst undef) w) : wpTree P ops Q S kb (.st i r) a w :=
  ⟨o, undef, ho, .inr ⟨hg, rfl⟩, h⟩
theorem wo_eff {i : Nat} {a : Act} {w : World} {o : Oper} {R : Act → World → Prop} (ho : ops[i]? = some o) (hg : o.guard = none)
    (h : ∀ K : Act → World → Prop, (∀ a' w', R a' w' → K a' w') → o.wp P a w K Q) : wpOp P ops Q i R a w := by
  unfold wpOp
  simp only [ho, Region.wanted, hg, if_true]
  exact .inl (h _ fun _ _ h => h)
theorem tr_eff {i : Nat} {r : Tr} {a : Act} {w : World} {o : Oper} (ho : ops[i]? = some o) (hg : o.guard = none)
    (h : ∀ K : Act → World → Prop, (∀ a' w', ((kb i = true → S w') ∧ wpTree P ops Q S kb r a' w') → K a' w') → o.wp P a w K Q) : wpTree P ops Q S kb (.ef i r) a w := wo_eff ho hg h
theorem tr_br {i j : Nat} {l r : Tr} {a : Act} {w : World} {o o' : Oper} (ho : ops[i]? = some o) (hg : o.guard = none) (ho' : ops[j]? = some o') (hg' : o'.guard = none)
    (h : ∀ K : Act → World → Prop, (∀ a' w', ((kb i = true → S w') ∧ wpTree P ops Q S kb l a' w') → K a' w') → o.wp P a w K Q)
    (h' : ∀ K : Act → World → Prop, (∀ a' w', ((kb j = true → S w') ∧ wpTree P ops Q S kb r a' w') → K a' w') → o'.wp P a w K Q) : wpTree P ops Q S kb (.br i j l r) a w := ⟨wo_eff ho hg h, wo_eff ho' hg' h'⟩
end
end Go.Dm
