/- Memory, said once for all walks of this seat: what stays (Keep), a slice that reads as a list of cells (Sl), runs of append, copy and make over such slices, and stops of the walk at hard operations (RunGoal). Data that can be read: shapes (Sh), how cells read as them (Rd), and that every argument whose type fits a shape reads so. No condition. -/
import Derived.WalkKit
import Derived.WalkLawsBesides
import Derived.WalkSpells
import Derived.Lib.Hide
import Derived.Lib.SliceRun
import Derived.Laws.CopyOwn
import Derived.Maps.OwnSet
import Derived.Maps.RangeWalk
import Derived.Maps.OwnOps
import Derived.Maps.AppendAt
import Derived.Deep.QuietTactic
import Derived.BigQuiet
import Derived.Deep.Slices
import Derived.OpenShut
import Derived.WideShapes
set_option linter.unusedVariables false
set_option linter.unusedSimpArgs false
namespace Go.Dm
open Go Go.RowKit

/-- Of what was there, all that is not in A is as it was. -/
structure Keep (A : Nat → Prop) (w w' : World) : Prop where
  os : w'.os = w.os
  tape : w'.tape = w.tape
  output : w'.output = w.output
  size : w.heap.size ≤ w'.heap.size
  block : ∀ k, k < w.heap.size → ¬ A k → w'.heap[k]? = w.heap[k]?

def No : Nat → Prop := fun _ => False
/-- A, and what is new in w' since w. -/
def Plus (A : Nat → Prop) (w w' : World) : Nat → Prop := fun k => A k ∨ (w.heap.size ≤ k ∧ k < w'.heap.size)

theorem Keep.refl (A : Nat → Prop) (w : World) : Keep A w w := ⟨rfl, rfl, rfl, Nat.le_refl _, fun _ _ _ => rfl⟩
theorem Keep.mono {A B : Nat → Prop} {w w' : World} (h : Keep A w w') (hab : ∀ k, k < w.heap.size → A k → B k) : Keep B w w' :=
  ⟨h.os, h.tape, h.output, h.size, fun k hk hb => h.block k hk fun ha => hb (hab k hk ha)⟩
theorem Keep.trans {A B : Nat → Prop} {a b c : World} (h : Keep A a b) (k : Keep B b c) (hB : ∀ j, j < a.heap.size → B j → A j) : Keep A a c :=
  ⟨k.os.trans h.os, k.tape.trans h.tape, k.output.trans h.output, Nat.le_trans h.size k.size,
    fun i hi hA => (k.block i (Nat.lt_of_lt_of_le hi h.size) fun hb => hA (hB i hi hb)).trans (h.block i hi hA)⟩
theorem Keep.trans' {A : Nat → Prop} {a b c : World} (h : Keep A a b) (k : Keep A b c) : Keep A a c := h.trans k fun _ _ h => h
theorem Keep.drew {A : Nat → Prop} {a w : World} (h : Keep A a w) : Keep A a w.drew := ⟨h.os, h.tape, h.output, h.size, h.block⟩
theorem Keep.drewN {A : Nat → Prop} {a w : World} (h : Keep A a w) (n : Nat) : Keep A a (w.drewN n) := ⟨h.os, h.tape, h.output, h.size, h.block⟩
theorem Keep.alloc {A : Nat → Prop} {a w : World} (h : Keep A a w) (o : Obj) : Keep A a (w.alloc o) :=
  h.trans ⟨rfl, rfl, rfl, by simp, fun k hk _ => Below.heap_alloc _ _ _ hk⟩ (B := No) fun _ _ h => h.elim
theorem Keep.setCell {A : Nat → Prop} {a w : World} (h : Keep A a w) {p : Addr} (hp : p.block < a.heap.size → A p.block) (u : Value) : Keep A a (w.setCell p u) :=
  ⟨h.os, h.tape, h.output, by simpa [World.setCell] using h.size, fun k hk hA => (Below.heap_setCell _ _ _ _ fun e => by subst e; exact hA (hp hk)).trans (h.block k hk hA)⟩
theorem Keep.of_below {w w' : World} (h : Below w.heap.size w w') : Keep No w w' := ⟨h.os, h.tape, h.output, h.size, fun k hk _ => h.block k hk⟩
theorem Keep.below {A : Nat → Prop} {w w' : World} (h : Keep A w w') (B : Nat) (hB : B ≤ w.heap.size) (hA : ∀ k, A k → B ≤ k) : Below B w w' :=
  ⟨h.os, h.tape, h.output, h.size, fun k hk => h.block k (by omega) fun ha => by have := hA k ha; omega⟩
theorem Keep.of_grown {w w' : World} {row : Option Nat} (h : w.grownBy w' row) : Keep (fun k => some k = row) w w' := ⟨h.os, h.tape, h.output, h.size, fun k hk hA => h.block k hk hA⟩
theorem Keep.toGrown {w w' : World} (h : Keep No w w') : w.grownBy w' none := ⟨h.os, h.tape, h.output, h.size, fun k hk _ => h.block k hk fun h => h⟩
theorem Keep.cell {A : Nat → Prop} {w w' : World} (h : Keep A w w') {p : Addr} (hp : p.block < w.heap.size) (hA : ¬ A p.block) : w'.cell? p = w.cell? p := World.cell?_of_block (w := w) (h.block p.block hp hA)
theorem Keep.frozen {A : Nat → Prop} {w w' : World} (h : Keep A w w') {p : Addr} (hp : p.block < w.heap.size) (hA : ¬ A p.block) : w'.frozen? p = w.frozen? p := World.frozen?_of_block (w := w) (h.block p.block hp hA)

/-- Block b holds just these cells, none of them frozen. -/
def Blk (w : World) (b : Nat) (cs : Array Value) (t : TypeId) : Prop := w.heap[b]? = some (.cells cs t (0, 0))
theorem Blk.cell {w : World} {b : Nat} {cs : Array Value} {t : TypeId} (h : Blk w b cs t) (i : Nat) : w.cell? ⟨b, i, none⟩ = cs[i]? := cell_of_row w b i cs t _ h
theorem Blk.frozen {w : World} {b : Nat} {cs : Array Value} {t : TypeId} (h : Blk w b cs t) (i : Nat) : w.frozen? ⟨b, i, none⟩ = false := frozen_of_row w b i cs t h
theorem Blk.lt {w : World} {b : Nat} {cs : Array Value} {t : TypeId} (h : Blk w b cs t) : b < w.heap.size := (Array.getElem?_eq_some_iff.1 h).1
theorem Blk.keep {A : Nat → Prop} {w w' : World} {b : Nat} {cs : Array Value} {t : TypeId} (h : Blk w b cs t) (k : Keep A w w') (hA : ¬ A b) : Blk w' b cs t := (k.block b h.lt hA).trans h
theorem Blk.same {w w' : World} {b : Nat} {cs : Array Value} {t : TypeId} (h : Blk w b cs t) (e : w'.heap[b]? = w.heap[b]?) : Blk w' b cs t := e.trans h
theorem Blk.alloc {w : World} {b : Nat} {cs : Array Value} {t : TypeId} (h : Blk w b cs t) (o : Obj) : Blk (w.alloc o) b cs t := (Below.heap_alloc w o b (Blk.lt h)).trans h
theorem Blk.new (w : World) (cs : Array Value) (t : TypeId) : Blk (w.alloc (.cells cs t)) w.heap.size cs t := heap_alloc_new w _
theorem Blk.set {w : World} {b i : Nat} {cs : Array Value} {t : TypeId} (h : Blk w b cs t) (v : Value) : Blk (w.setCell ⟨b, i, none⟩ v) b (cs.setIfInBounds i v) t := heap_setCell_same w b i cs t v h
theorem Blk.set_other {w : World} {b : Nat} {a : Addr} {cs : Array Value} {t : TypeId} (h : Blk w b cs t) (hn : b ≠ a.block) (v : Value) : Blk (w.setCell a v) b cs t := (heap_setCell_other w a b v hn).trans h

/-- The value v is a slice of n elements (of 'size' cells each) that read, one behind the other, as cs; its memory lies in A (an empty one may lead anywhere). -/
def Sl (A : Nat → Prop) (w : World) (size : Nat) (v : Value) (n : Nat) (cs : List Value) : Prop :=
  cs.length = n * size ∧ ∃ a cap, v = .slice a n cap ∧ n ≤ cap ∧ cap ≤ maxLen ∧ (a = none → cap = 0) ∧
    (0 < n → ∃ g off, a = some ⟨g, off, none⟩ ∧ A g ∧ g < w.heap.size ∧ ∀ j u, cs[j]? = some u → w.cell? ⟨g, off + j, none⟩ = some u)

theorem Sl.nil (A : Nat → Prop) (w : World) (size : Nat) : Sl A w size (.slice none 0 0) 0 [] := ⟨by simp, none, 0, rfl, Nat.le_refl _, Nat.zero_le _, fun _ => rfl, fun h => absurd h (by omega)⟩
theorem Sl.empty (A : Nat → Prop) (w : World) (size : Nat) (a : Addr) {cap : Nat} (h : cap ≤ maxLen) : Sl A w size (.slice (some a) 0 cap) 0 [] := ⟨by simp, some a, cap, rfl, Nat.zero_le _, h, (fun h => by cases h), fun h => absurd h (by omega)⟩
theorem Sl.mk {A : Nat → Prop} {w : World} {size n g off cap : Nat} {cs : List Value} (h : cs.length = n * size) (hA : A g) (hg : g < w.heap.size) (hn : n ≤ cap) (hc : cap ≤ maxLen) (hr : ∀ j u, cs[j]? = some u → w.cell? ⟨g, off + j, none⟩ = some u) : Sl A w size (.slice (some ⟨g, off, none⟩) n cap) n cs :=
  ⟨h, _, cap, rfl, hn, hc, (fun h => by cases h), fun _ => ⟨g, off, rfl, hA, hg, hr⟩⟩
theorem Sl.mono {A B : Nat → Prop} {w : World} {size n : Nat} {v : Value} {cs : List Value} (h : Sl A w size v n cs) (hab : ∀ k, k < w.heap.size → A k → B k) : Sl B w size v n cs := by
  obtain ⟨h1, a, cap, e, c, d, f, r⟩ := h
  refine ⟨h1, a, cap, e, c, d, f, fun hn => ?_⟩
  obtain ⟨g, off, e, a, b, r⟩ := r hn
  exact ⟨g, off, e, hab g b a, b, r⟩
theorem Sl.same {A : Nat → Prop} {w w' : World} {size n : Nat} {v : Value} {cs : List Value} (h : Sl A w size v n cs) (hs : w.heap.size ≤ w'.heap.size) (e : ∀ k, k < w.heap.size → A k → w'.heap[k]? = w.heap[k]?) : Sl A w' size v n cs := by
  obtain ⟨h1, a, cap, e1, c, d, f, r⟩ := h
  refine ⟨h1, a, cap, e1, c, d, f, fun hn => ?_⟩
  obtain ⟨g, off, e2, a, b, r⟩ := r hn
  exact ⟨g, off, e2, a, Nat.lt_of_lt_of_le b hs, fun j u hu => (World.cell?_of_block (w := w) (e g b a)).trans (r j u hu)⟩
theorem Sl.keep {A S : Nat → Prop} {w w' : World} {size n : Nat} {v : Value} {cs : List Value} (h : Sl A w size v n cs) (k : Keep S w w') (hAS : ∀ j, j < w.heap.size → A j → ¬ S j) : Sl A w' size v n cs :=
  h.same k.size fun j hj ha => k.block j hj (hAS j hj ha)
theorem Sl.shape {A : Nat → Prop} {w : World} {size n : Nat} {v : Value} {cs : List Value} (h : Sl A w size v n cs) : ∃ a cap, v = .slice a n cap ∧ n ≤ cap ∧ cap ≤ maxLen := by
  obtain ⟨_, a, cap, e, c, d, _⟩ := h
  exact ⟨a, cap, e, c, d⟩
/-- where there is a cell there is an address -/
theorem Sl.at {A : Nat → Prop} {w : World} {size n : Nat} {v : Value} {cs : List Value} (h : Sl A w size v n cs) (hn : 0 < n) :
    ∃ g off cap, v = .slice (some ⟨g, off, none⟩) n cap ∧ A g ∧ g < w.heap.size ∧ n ≤ cap ∧ cap ≤ maxLen ∧ ∀ j u, cs[j]? = some u → w.cell? ⟨g, off + j, none⟩ = some u := by
  obtain ⟨_, a, cap, e, c, d, _, r⟩ := h
  obtain ⟨g, off, e2, h3, b, r2⟩ := r hn
  subst e2
  exact ⟨g, off, cap, e, h3, b, c, d, r2⟩
theorem Sl.of_own {w : World} {base : Nat} {e : TypeId} {size n : Nat} {v : Value} {xs : List Value} (h : w.ownsRow base e size v n xs) : Sl (fun k => base ≤ k ∧ some k = v.ownBlock) w size v n xs := by
  refine ⟨h.1, ?_⟩
  rcases h.2 with ⟨rfl, rfl⟩ | ⟨g, cap, cur, rfl, hb, hg, hn, hm, _, ht⟩
  · exact ⟨none, 0, rfl, Nat.le_refl _, Nat.zero_le _, fun _ => rfl, fun h => absurd h (by omega)⟩
  · refine ⟨_, cap, rfl, hn, hm, (fun h => by cases h), fun _ => ⟨g, 0, rfl, ⟨hb, rfl⟩, (Array.getElem?_eq_some_iff.1 hg).1, fun j u hu => ?_⟩⟩
    have := h.cells (g := g) rfl j u hu
    simpa [Addr.add_lit] using this

theorem Sl.new (w : World) (cs : Array Value) (t : TypeId) {size n : Nat} (h : cs.size = n * size) (hn : n ≤ maxLen) : Sl (fun k => k = w.heap.size) (w.alloc (.cells cs t)) size (.slice (some ⟨w.heap.size, 0, none⟩) n n) n cs.toList :=
  Sl.mk (by simpa using h) rfl (by simp) (Nat.le_refl _) hn fun j u hu => by rw [(Blk.new w cs t).cell]; simpa using hu

/-- The walk's stop at an operation: what is left to say is how it runs. -/
def RunGoal {α : Type} (P : Program) (s : Sem α) (w : World) (K : α → World → Prop) : Prop := ∃ v w', s.run P w = .ok v w' ∧ K v w'
theorem RunGoal.mk {α : Type} {P : Program} {s : Sem α} {w : World} {K : α → World → Prop} {v : α} {w' : World} (h : s.run P w = .ok v w') (hk : K v w') : RunGoal P s w K := ⟨v, w', h, hk⟩

/-! The stops proper: their operations are names here, so that the walk's simp does not look into them. -/
def AppendGoal (P : Program) (t1 t2 ty : TypeId) (v1 v2 : Value) (w : World) (K : Value → World → Prop) : Prop := RunGoal P (Builtin.append_ #[t1, t2] ty #[v1, v2]) w K
def CopyGoal (P : Program) (t1 t2 ty : TypeId) (v1 v2 : Value) (w : World) (K : Value → World → Prop) : Prop := RunGoal P (Builtin.copy_ #[t1, t2] ty #[v1, v2]) w K
def MaxGoal (P : Program) (t1 t2 ty : TypeId) (v1 v2 : Value) (w : World) (K : Value → World → Prop) : Prop := RunGoal P (Builtin.max_ #[t1, t2] ty #[v1, v2]) w K
def MinGoal (P : Program) (t1 t2 ty : TypeId) (v1 v2 : Value) (w : World) (K : Value → World → Prop) : Prop := RunGoal P (Builtin.min_ #[t1, t2] ty #[v1, v2]) w K
def DeleteGoal (P : Program) (t1 t2 ty : TypeId) (v1 v2 : Value) (w : World) (K : Value → World → Prop) : Prop := RunGoal P (Builtin.delete_ #[t1, t2] ty #[v1, v2]) w K
def LenGoal (P : Program) (t1 ty : TypeId) (v1 : Value) (w : World) (K : Value → World → Prop) : Prop := RunGoal P (Builtin.len_ #[t1] ty #[v1]) w K
def MakeGoal (P : Program) (t : TypeId) (v1 v2 : Value) (w : World) (K : Value → World → Prop) : Prop := RunGoal P (Instr.makeSlice t v1 v2) w K
def UpdateGoal (P : Program) (t : TypeId) (v1 v2 v3 : Value) (w : World) (K : World → Prop) : Prop := RunGoal P (Instr.mapUpdate t v1 v2 v3) w fun _ w' => K w'
def LookupGoal (P : Program) (t : TypeId) (v1 v2 : Value) (c : Bool) (w : World) (K : Value → World → Prop) : Prop := RunGoal P (Instr.lookup t v1 v2 c) w K
def RangeGoal (P : Program) (t : TypeId) (v1 : Value) (w : World) (K : Value → World → Prop) : Prop := RunGoal P (Instr.range t v1) w K
def NextGoal (P : Program) (v1 : Value) (s : Bool) (ty : TypeId) (w : World) (K : Value → World → Prop) : Prop := RunGoal P (Instr.next v1 s ty) w K
def MakeMapGoal (P : Program) (t : TypeId) (v1 : Option Value) (w : World) (K : Value → World → Prop) : Prop := RunGoal P (Instr.makeMap t v1) w K

section
variable {P : Program} {w : World} {ops : Array Oper} {rest : List Oper} {o : Oper} {a : Act} {Q : Exit → Act → World → Prop}

theorem wl_append (hgd : o.guard = none) (x y : Operand) (t1 t2 : TypeId) (ho : o.op = .call { callee := .builtin .append, args := #[x, y], argTypes := #[t1, t2] })
    (v1 v2 : Value) (h1 : a.eval x = v1) (h2 : a.eval y = v2) (h : AppendGoal P t1 t2 o.type v1 v2 w fun v w' => wpList P ops Q rest (a.put o.dst v) w') : wpList P ops Q (o :: rest) a w := by
  obtain ⟨v, w', hr, hk⟩ := h
  refine wpList_plain hgd fun K hK => ?_
  unfold Oper.wp execOp
  simp only [ho, resolve, invoke, builtin, Sem.run_bind, Sem.run_pure, Result.andThen_ok, List.map_toArray, List.map_cons, List.map_nil, h1, h2, hr]
  exact hK _ _ hk

theorem wl_copy (hgd : o.guard = none) (x y : Operand) (t1 t2 : TypeId) (ho : o.op = .call { callee := .builtin .copy, args := #[x, y], argTypes := #[t1, t2] })
    (v1 v2 : Value) (h1 : a.eval x = v1) (h2 : a.eval y = v2) (h : CopyGoal P t1 t2 o.type v1 v2 w fun v w' => wpList P ops Q rest (a.put o.dst v) w') : wpList P ops Q (o :: rest) a w := by
  obtain ⟨v, w', hr, hk⟩ := h
  refine wpList_plain hgd fun K hK => ?_
  unfold Oper.wp execOp
  simp only [ho, resolve, invoke, builtin, Sem.run_bind, Sem.run_pure, Result.andThen_ok, List.map_toArray, List.map_cons, List.map_nil, h1, h2, hr]
  exact hK _ _ hk

theorem wl_max (hgd : o.guard = none) (x y : Operand) (t1 t2 : TypeId) (ho : o.op = .call { callee := .builtin .max, args := #[x, y], argTypes := #[t1, t2] })
    (v1 v2 : Value) (h1 : a.eval x = v1) (h2 : a.eval y = v2) (h : MaxGoal P t1 t2 o.type v1 v2 w fun v w' => wpList P ops Q rest (a.put o.dst v) w') : wpList P ops Q (o :: rest) a w := by
  obtain ⟨v, w', hr, hk⟩ := h
  refine wpList_plain hgd fun K hK => ?_
  unfold Oper.wp execOp
  simp only [ho, resolve, invoke, builtin, Sem.run_bind, Sem.run_pure, Result.andThen_ok, List.map_toArray, List.map_cons, List.map_nil, h1, h2, hr]
  exact hK _ _ hk

theorem wl_min (hgd : o.guard = none) (x y : Operand) (t1 t2 : TypeId) (ho : o.op = .call { callee := .builtin .min, args := #[x, y], argTypes := #[t1, t2] })
    (v1 v2 : Value) (h1 : a.eval x = v1) (h2 : a.eval y = v2) (h : MinGoal P t1 t2 o.type v1 v2 w fun v w' => wpList P ops Q rest (a.put o.dst v) w') : wpList P ops Q (o :: rest) a w := by
  obtain ⟨v, w', hr, hk⟩ := h
  refine wpList_plain hgd fun K hK => ?_
  unfold Oper.wp execOp
  simp only [ho, resolve, invoke, builtin, Sem.run_bind, Sem.run_pure, Result.andThen_ok, List.map_toArray, List.map_cons, List.map_nil, h1, h2, hr]
  exact hK _ _ hk

theorem wl_delete (hgd : o.guard = none) (x y : Operand) (t1 t2 : TypeId) (ho : o.op = .call { callee := .builtin .delete, args := #[x, y], argTypes := #[t1, t2] })
    (v1 v2 : Value) (h1 : a.eval x = v1) (h2 : a.eval y = v2) (h : DeleteGoal P t1 t2 o.type v1 v2 w fun v w' => wpList P ops Q rest (a.put o.dst v) w') : wpList P ops Q (o :: rest) a w := by
  obtain ⟨v, w', hr, hk⟩ := h
  refine wpList_plain hgd fun K hK => ?_
  unfold Oper.wp execOp
  simp only [ho, resolve, invoke, builtin, Sem.run_bind, Sem.run_pure, Result.andThen_ok, List.map_toArray, List.map_cons, List.map_nil, h1, h2, hr]
  exact hK _ _ hk

theorem wl_len (hgd : o.guard = none) (x : Operand) (t1 : TypeId) (ho : o.op = .call { callee := .builtin .len, args := #[x], argTypes := #[t1] })
    (b : Nat) (h1 : a.eval x = .map (some b)) (h : LenGoal P t1 o.type (.map (some b)) w fun v w' => wpList P ops Q rest (a.put o.dst v) w') : wpList P ops Q (o :: rest) a w := by
  obtain ⟨v, w', hr, hk⟩ := h
  refine wpList_plain hgd fun K hK => ?_
  unfold Oper.wp execOp
  simp only [ho, resolve, invoke, builtin, Sem.run_bind, Sem.run_pure, Result.andThen_ok, List.map_toArray, List.map_cons, List.map_nil, h1, hr]
  exact hK _ _ hk

theorem wl_make (hgd : o.guard = none) (l c : Operand) (t : TypeId) (ho : o.op = Op.makeSlice t l c) (v1 v2 : Value) (h1 : a.eval l = v1) (h2 : a.eval c = v2)
    (h : MakeGoal P t v1 v2 w fun v w' => wpList P ops Q rest (a.put o.dst v) w') : wpList P ops Q (o :: rest) a w := by
  obtain ⟨v, w', hr, hk⟩ := h
  refine wpList_plain hgd fun K hK => ?_
  unfold Oper.wp
  simp [execOp, ho, h1, h2, hr, Result.andThen]
  exact hK _ _ hk

theorem wl_mapUpdate (hgd : o.guard = none) (m x v : Operand) (t : TypeId) (ho : o.op = Op.mapUpdate t m x v) (v1 v2 v3 : Value) (h1 : a.eval m = v1) (h2 : a.eval x = v2) (h3 : a.eval v = v3)
    (h : UpdateGoal P t v1 v2 v3 w fun w' => wpList P ops Q rest (a.put o.dst undef) w') : wpList P ops Q (o :: rest) a w := by
  obtain ⟨v, w', hr, hk⟩ := h
  refine wpList_plain hgd fun K hK => ?_
  unfold Oper.wp
  simp [execOp, ho, h1, h2, h3, hr, Result.andThen]
  exact hK _ _ hk

theorem wl_lookup (hgd : o.guard = none) (m x : Operand) (t : TypeId) (c : Bool) (ho : o.op = Op.lookup t m x c) (v1 v2 : Value) (h1 : a.eval m = v1) (h2 : a.eval x = v2)
    (h : LookupGoal P t v1 v2 c w fun v w' => wpList P ops Q rest (a.put o.dst v) w') : wpList P ops Q (o :: rest) a w := by
  obtain ⟨v, w', hr, hk⟩ := h
  refine wpList_plain hgd fun K hK => ?_
  unfold Oper.wp
  simp [execOp, ho, h1, h2, hr, Result.andThen]
  exact hK _ _ hk

theorem wl_range (hgd : o.guard = none) (m : Operand) (t : TypeId) (ho : o.op = Op.range t m) (b : Nat) (h1 : a.eval m = .map (some b))
    (h : RangeGoal P t (.map (some b)) w fun v w' => wpList P ops Q rest (a.put o.dst v) w') : wpList P ops Q (o :: rest) a w := by
  obtain ⟨v, w', hr, hk⟩ := h
  refine wpList_plain hgd fun K hK => ?_
  unfold Oper.wp
  simp [execOp, ho, h1, hr, Result.andThen]
  exact hK _ _ hk

theorem wl_next (hgd : o.guard = none) (it : Operand) (ho : o.op = Op.next it false) (v1 : Value) (h1 : a.eval it = v1)
    (h : NextGoal P v1 false o.type w fun v w' => wpList P ops Q rest (a.put o.dst v) w') : wpList P ops Q (o :: rest) a w := by
  obtain ⟨v, w', hr, hk⟩ := h
  refine wpList_plain hgd fun K hK => ?_
  unfold Oper.wp
  simp [execOp, ho, h1, hr, Result.andThen]
  exact hK _ _ hk
end

/-! runs over such slices -/
section
variable {P : Program} {w : World}

theorem run_max2 (t : Array TypeId) (ty : TypeId) (a b : Int) : (Builtin.max_ t ty #[.int .i64 a, .int .i64 b]).run P w = .ok (.int .i64 (max a b)) w := by
  have e : (if b > a then b else a) = max a b := by simp only [Int.max_def]; split <;> split <;> omega
  simp [Builtin.max_, Builtin.max2, e, List.foldlM]
theorem run_min2 (t : Array TypeId) (ty : TypeId) (a b : Int) : (Builtin.min_ t ty #[.int .i64 a, .int .i64 b]).run P w = .ok (.int .i64 (min a b)) w := by
  have e : (if b < a then b else a) = min a b := by simp only [Int.min_def]; split <;> split <;> omega
  simp [Builtin.min_, Builtin.min2, e, List.foldlM]

/-- append onto a slice of one's own, of whatever source. -/
theorem run_append_sl {A : Nat → Prop} (base : Nat) (t ty e : TypeId) (z : Value) (size bytes : Nat) (ht : P.underlying t = some (.slice e)) (hi : (P.info? e).map (fun i => (i.zero, i.size, i.bytes)) = some (some z, size, bytes))
    (hzs : z.cells.size = size) (hsz : 0 < size) {v vs : Value} {n m : Nat} {xs news : List Value} (hown : w.ownsRow base e size v n xs) (hs : Sl A w size vs m news) (h1 : ∀ u ∈ news, u.oneCell' = true)
    (h63 : n + m ≤ maxLen) (hbytes : (n + m) * bytes ≤ 140737488355328) (hbase : base ≤ w.heap.size) :
    ∃ v' w', (Builtin.append_ #[t, t] ty #[v, vs]).run P w = .ok v' w' ∧ w'.ownsRow base e size v' (n + m) (xs ++ news) ∧ w.grownBy w' v.ownBlock ∧ (v' = .slice none 0 0 ↔ v = .slice none 0 0 ∧ m = 0) ∧ (v'.ownBlock = v.ownBlock ∨ v'.ownBlock = some w.heap.size) := by
  obtain ⟨i, hi, hz0, hz1, hz2⟩ := info_parts hi
  obtain ⟨h1', a, cap, rfl, hnc, _, hnone, hr⟩ := hs
  cases a with
  | none =>
    obtain rfl := hnone rfl
    obtain rfl : m = 0 := by omega
    obtain rfl : news = [] := List.eq_nil_of_length_eq_zero (by simpa using h1')
    refine ⟨v, w, run_append_owned_none (P := P) (w := w) base t ty e i size ht hi v n xs hown, by simpa using hown, World.grownBy.refl _ _, by simp, .inl rfl⟩
  | some a =>
    refine run_append_own_at (P := P) w base t ty e i z size bytes ht hi hz0 hz1 hz2 hzs hsz v n xs hown a m cap news h1' (fun j u hu => ?_) h1 h63 hbytes hbase
    have hm : 0 < m := by
      rcases Nat.eq_zero_or_pos m with h | h
      · subst h
        have := List.eq_nil_of_length_eq_zero (by simpa using h1')
        subst this; simp at hu
      · exact h
    obtain ⟨g, off, e2, _, _, hc⟩ := hr hm
    cases e2
    rw [Addr.add_lit]; exact hc j u hu

/-- make([]T, n) -/
theorem run_make_sl (t e : TypeId) (z : Value) (size bytes : Nat) (ht : P.underlying t = some (.slice e)) (hi : (P.info? e).map (fun i => (i.zero, i.size, i.bytes)) = some (some z, size, bytes))
    (n : Nat) (b2 : bytes * n ≤ 281474976710656) (b3 : n ≤ maxLen) :
    ∃ w', (Instr.makeSlice t (.int .i64 (n : Int)) (.int .i64 (n : Int))).run P w = .ok (.slice (some ⟨w.heap.size, 0, none⟩) n n) w' ∧ Blk w' w.heap.size (madeCells z.cells (n * size)) e ∧ Keep No w w' := by
  obtain ⟨i, hi, hz0, hz1, hz2⟩ := info_parts hi
  obtain ⟨w', hrun, r1, r2⟩ := run_make_full (P := P) w w.heap.size t e i z size ht hi hz0 hz1 .i64 .i64 n (by rw [hz2]; exact b2) b3 (Nat.le_refl _)
  refine ⟨w', hrun, ?_, (Keep.of_grown r2).mono (fun k _ h => by cases h)⟩
  rcases r1.2 with ⟨h, _⟩ | ⟨g, cap, cur, e1, _, hg, _, _, hcs, hct⟩
  · cases h
  · cases e1
    have e2 : cur = madeCells z.cells (n * size) := by
      apply Array.toList_inj.1
      rw [← hct, List.take_of_length_le]
      simp only [Array.length_toList]; omega
    rw [e2] at hg
    exact hg

/-- copy into a row that is known whole. -/
theorem run_copy_sl {A : Nat → Prop} (t ty e t' : TypeId) (ht : P.underlying t = some (.slice e)) (hi : (P.info? e).map (·.size) = some 1)
    {g off dLen dCap : Nat} {cur : Array Value} {dp : Option Addr} {vs : Value} {m : Nat} {cs : List Value} (hb : Blk w g cur t') (hd : 0 < Nat.min m dLen → dp = some ⟨g, off, none⟩) (hs : Sl A w 1 vs m cs) (hfit : off + Nat.min m dLen ≤ cur.size)
    (h1 : ∀ u ∈ cs, u.oneCell' = true) :
    ∃ w', (Builtin.copy_ #[t, t] ty #[.slice dp dLen dCap, vs]).run P w = .ok (.int .i64 (Nat.min m dLen : Nat)) w' ∧ Blk w' g (splice cur.toList off (cs.take dLen)).toArray t' ∧ Keep (fun k => k = g) w w' := by
  have hlen : cs.length = m := by simpa using hs.1
  by_cases h0 : Nat.min m dLen = 0
  · obtain ⟨a, cap, rfl, _, _⟩ := hs.shape
    have hrun := run_copy_none (P := P) w t t ty e dp a dLen dCap m cap ht hi h0
    have e0 : cs.take dLen = [] := by
      apply List.eq_nil_of_length_eq_zero
      rw [List.length_take, hlen, Nat.min_comm]; exact h0
    refine ⟨w, ?_, by rw [e0]; simpa [splice] using hb, Keep.refl _ _⟩
    rw [hrun, h0]; rfl
  · have hm : 0 < m := by
      rcases Nat.eq_zero_or_pos m with h | h
      · subst h; simp at h0
      · exact h
    obtain ⟨g2, off2, cap, rfl, _, _, _, _, hc⟩ := hs.at hm
    obtain rfl := hd (by omega)
    have hl2 : (cs.take dLen).length = Nat.min m dLen := by rw [List.length_take, hlen, Nat.min_comm]
    have hrun := run_copy_row (P := P) w t t ty e g off dLen dCap ⟨g2, off2, none⟩ m cap cur t' (cs.take dLen) ht hi hb hl2 (fun j v hj => by
      rw [Addr.add_lit]; exact hc j v (by
        rw [List.getElem?_take] at hj
        split at hj
        · exact hj
        · cases hj)) (by rw [hl2]; exact hfit) (fun u hu => h1 u (List.mem_of_mem_take hu))
    have e2 : cur.toList.take off ++ cs.take dLen ++ cur.toList.drop (off + (cs.take dLen).length) = splice cur.toList off (cs.take dLen) := by simp [splice]
    rw [e2, hl2] at hrun
    exact ⟨_, hrun, setRow_heap w g cur _ t' _ hb, ⟨rfl, rfl, rfl, by simp, fun k _ hk => setRow_other w g k _ hk⟩⟩
end

/-! bytes -/
def bv (b : UInt8) : Value := .int .u8 (b.toNat : Int)
def Bts (A : Nat → Prop) (w : World) (v : Value) (l : List UInt8) : Prop := Sl A w 1 v l.length (l.map bv)
theorem bv_one (l : List UInt8) : ∀ u ∈ l.map bv, u.oneCell' = true := by
  intro u hu; obtain ⟨_, _, rfl⟩ := List.mem_map.1 hu; rfl
theorem madeCells_u8 (n : Nat) : madeCells (Value.int .u8 0).cells (n * 1) = ((List.replicate n (0 : UInt8)).map bv).toArray := by
  apply Array.toList_inj.1
  apply List.ext_getElem
  · simp [madeCells]
  · intro i h1 h2
    simp [madeCells, Value.cells, bv, Nat.mod_one]
theorem splice_map {α β : Type} (f : α → β) (l : List α) (o : Nat) (m : List α) : splice (l.map f) o (m.map f) = (splice l o m).map f := by
  simp [splice, List.map_take, List.map_drop]
def laidB (xs : List UInt8) (i : Nat) (ys : List UInt8) : List UInt8 := splice (splice (List.replicate (max xs.length (i + ys.length)) 0) 0 xs) i ys
theorem length_laidB (xs : List UInt8) (i : Nat) (ys : List UInt8) : (laidB xs i ys).length = max xs.length (i + ys.length) := by
  unfold laidB
  rw [length_splice _ _ _ (by rw [length_splice _ _ _ (by simp; omega)]; simp; omega), length_splice _ _ _ (by simp; omega)]
  simp
/-- a row of bytes known whole is a slice of bytes. -/
theorem Bts.of_blk {w : World} {g : Nat} {l : List UInt8} {t : TypeId} (h : Blk w g (l.map bv).toArray t) (hm : l.length ≤ maxLen) : Bts (fun k => k = g) w (.slice (some ⟨g, 0, none⟩) l.length l.length) l :=
  Sl.mk (by simp) rfl h.lt (Nat.le_refl _) hm fun j u hu => by rw [h.cell]; simpa using hu

/-! the same runs as answers to the walk's stops -/
section
variable {P : Program} {w : World} {K : Value → World → Prop}
theorem rg_max2 {t1 t2 ty : TypeId} {a b : Int} (h : K (.int .i64 (max a b)) w) : MaxGoal P t1 t2 ty (.int .i64 a) (.int .i64 b) w K := .mk (run_max2 _ _ _ _) h
theorem rg_min2 {t1 t2 ty : TypeId} {a b : Int} (h : K (.int .i64 (min a b)) w) : MinGoal P t1 t2 ty (.int .i64 a) (.int .i64 b) w K := .mk (run_min2 _ _ _ _) h
theorem rg_make (e : TypeId) (z : Value) (size bytes : Nat) {t : TypeId} (ht : P.underlying t = some (.slice e)) (hi : (P.info? e).map (fun i => (i.zero, i.size, i.bytes)) = some (some z, size, bytes))
    {n : Nat} (b2 : bytes * n ≤ 281474976710656) (b3 : n ≤ maxLen)
    (h : ∀ w', Blk w' w.heap.size (madeCells z.cells (n * size)) e → Keep No w w' → K (.slice (some ⟨w.heap.size, 0, none⟩) n n) w') : MakeGoal P t (.int .i64 (n : Int)) (.int .i64 (n : Int)) w K := by
  obtain ⟨w', hr, hb, hk⟩ := run_make_sl (P := P) (w := w) t e z size bytes ht hi n b2 b3
  exact .mk hr (h w' hb hk)
theorem rg_copy {A : Nat → Prop} (e t' : TypeId) {t ty : TypeId} (ht : P.underlying t = some (.slice e)) (hi : (P.info? e).map (·.size) = some 1)
    {g off dLen dCap : Nat} {cur : Array Value} {dp : Option Addr} {vs : Value} {m : Nat} {cs : List Value} (hb : Blk w g cur t') (hs : Sl A w 1 vs m cs) (hd : 0 < min m dLen → dp = some ⟨g, off, none⟩) (hfit : off + min m dLen ≤ cur.size)
    (h1 : ∀ u ∈ cs, u.oneCell' = true)
    (h : ∀ w', Blk w' g (splice cur.toList off (cs.take dLen)).toArray t' → Keep (fun k => k = g) w w' → K (.int .i64 (min m dLen : Nat)) w') : CopyGoal P t t ty (.slice dp dLen dCap) vs w K := by
  obtain ⟨w', hr, hb, hk⟩ := run_copy_sl (P := P) (w := w) (dCap := dCap) t ty e t' ht hi hb hd hs hfit h1
  exact .mk hr (h w' hb hk)
theorem rg_append {A : Nat → Prop} (base : Nat) (e : TypeId) (z : Value) (size bytes : Nat) {t ty : TypeId} (ht : P.underlying t = some (.slice e)) (hi : (P.info? e).map (fun i => (i.zero, i.size, i.bytes)) = some (some z, size, bytes))
    (hzs : z.cells.size = size) (hsz : 0 < size) {v vs : Value} {n m : Nat} {xs news : List Value} (hown : w.ownsRow base e size v n xs) (hs : Sl A w size vs m news) (h1 : ∀ u ∈ news, u.oneCell' = true)
    (h63 : n + m ≤ maxLen) (hbytes : (n + m) * bytes ≤ 140737488355328) (hbase : base ≤ w.heap.size)
    (h : ∀ v' w', w'.ownsRow base e size v' (n + m) (xs ++ news) → Keep (fun k => some k = v.ownBlock) w w' → (v' = .slice none 0 0 ↔ v = .slice none 0 0 ∧ m = 0) → (v'.ownBlock = v.ownBlock ∨ v'.ownBlock = some w.heap.size) → K v' w') :
    AppendGoal P t t ty v vs w K := by
  obtain ⟨v', w', hr, ho, hg, hn, hl⟩ := run_append_sl (P := P) (w := w) base t ty e z size bytes ht hi hzs hsz hown hs h1 h63 hbytes hbase
  exact .mk hr (h v' w' ho (Keep.of_grown hg) hn hl)
end
end Go.Dm
namespace Go.Dm
open Go Go.RowKit Go.ChangeShapes Go.WideShapes

inductive Sh where
  | int (k : IntKind) | u8 | bool | str | unit
  | pair (a b : Sh)
  | slice (e : Sh)
  | arr (n : Nat) (e : Sh)

@[reducible] def Sh.Ty : Sh → Type
  | .int _ => Int | .u8 => UInt8 | .bool => Bool | .str => List UInt8 | .unit => Unit
  | .pair a b => a.Ty × b.Ty | .slice e => List e.Ty | .arr _ e => List e.Ty
def Sh.n : Sh → Nat
  | .unit => 0 | .pair a b => a.n + b.n | .arr n e => n * e.n | .int _ => 1 | .u8 => 1 | .bool => 1 | .str => 1 | .slice _ => 1

/-- the cells cs read as x; memory beyond them lies in A -/
def Rd (A : Nat → Prop) (w : World) : (s : Sh) → List Value → s.Ty → Prop
  | .int k, cs, x => cs = [.int k x] ∧ (Lit.int k x).wf = true
  | .u8, cs, x => cs = [bv x]
  | .bool, cs, x => cs = [.bool x]
  | .str, cs, x => cs = [.string ⟨x.toArray⟩] ∧ x.length ≤ maxLen
  | .unit, cs, _ => cs = []
  | .pair a b, cs, x => ∃ c1 c2, cs = c1 ++ c2 ∧ Rd A w a c1 x.1 ∧ Rd A w b c2 x.2
  | .slice e, cs, x => ∃ (v : Value) (css : List (List Value)), cs = [v] ∧ Sl A w e.n v x.length css.flatten ∧ css.length = x.length ∧ ∀ (i : Nat) (c : List Value) (y : e.Ty), css[i]? = some c → x[i]? = some y → Rd A w e c y
  | .arr n e, cs, x => ∃ css : List (List Value), cs = css.flatten ∧ css.length = n ∧ x.length = n ∧ ∀ (i : Nat) (c : List Value) (y : e.Ty), css[i]? = some c → x[i]? = some y → Rd A w e c y

theorem flatten_len {n : Nat} : ∀ {css : List (List Value)}, (∀ c ∈ css, c.length = n) → css.flatten.length = css.length * n
  | [], _ => by simp
  | c :: r, h => by
    rw [List.flatten_cons, List.length_append, flatten_len (fun c hc => h c (by simp [hc])), h c (by simp), List.length_cons, Nat.succ_mul]; omega
theorem flatten_get {n : Nat} : ∀ {css : List (List Value)} (_ : ∀ c ∈ css, c.length = n) (i r : Nat) (_ : r < n), css.flatten[i * n + r]? = (css[i]?).bind (·[r]?)
  | [], _, i, r, _ => by simp
  | c :: t, h, 0, r, hr => by
    have := h c (by simp)
    rw [List.flatten_cons, Nat.zero_mul, Nat.zero_add, List.getElem?_append_left (by omega)]; simp
  | c :: t, h, i + 1, r, hr => by
    have := h c (by simp)
    rw [List.flatten_cons, List.getElem?_append_right (by rw [Nat.succ_mul]; omega), this, Nat.succ_mul, show i * n + n + r - n = i * n + r by omega, flatten_get (fun c hc => h c (by simp [hc])) i r hr]; simp
theorem flatten_get_some {n : Nat} {css : List (List Value)} (h : ∀ c ∈ css, c.length = n) (hn : 0 < n) {j : Nat} {u : Value} (hj : css.flatten[j]? = some u) : ∃ i r c, j = i * n + r ∧ r < n ∧ css[i]? = some c ∧ c[r]? = some u := by
  have e : j = j / n * n + j % n := by rw [Nat.mul_comm]; exact (Nat.div_add_mod j n).symm
  rw [e, flatten_get h _ _ (Nat.mod_lt _ hn)] at hj
  cases hc : css[j / n]? with
  | none => rw [hc] at hj; cases hj
  | some c => rw [hc] at hj; exact ⟨j / n, j % n, c, e, Nat.mod_lt _ hn, hc, hj⟩

section
variable {A : Nat → Prop} {w : World}
theorem Rd.len : ∀ {s : Sh} {cs : List Value} {x : s.Ty}, Rd A w s cs x → cs.length = s.n
  | .int k, _, _, h => by rw [h.1]; rfl
  | .u8, _, _, h => by have h : _ = _ := h; rw [h]; rfl
  | .bool, _, _, h => by have h : _ = _ := h; rw [h]; rfl
  | .str, _, _, h => by rw [h.1]; rfl
  | .unit, _, _, h => by have h : _ = _ := h; rw [h]; rfl
  | .pair a b, _, _, ⟨c1, c2, e, h1, h2⟩ => by rw [e, List.length_append, h1.len, h2.len]; rfl
  | .slice e, _, _, ⟨v, css, e1, _⟩ => by rw [e1]; rfl
  | .arr n e, _, x, ⟨css, e1, h1, h2, h3⟩ => by
    rw [e1, flatten_len (n := e.n) fun c hc => ?_, h1]; rfl
    obtain ⟨i, hi⟩ := List.mem_iff_getElem?.1 hc
    have hl : i < css.length := (List.getElem?_eq_some_iff.1 hi).1
    exact (h3 i c x[i] hi (List.getElem?_eq_getElem (by omega))).len
theorem Rd.elems {e : Sh} {css : List (List Value)} {x : List e.Ty} (h1 : css.length = x.length) (h2 : ∀ (i : Nat) (c : List Value) (y : e.Ty), css[i]? = some c → x[i]? = some y → Rd A w e c y) : ∀ c ∈ css, c.length = e.n := by
  intro c hc
  obtain ⟨i, hi⟩ := List.mem_iff_getElem?.1 hc
  have hl : i < css.length := (List.getElem?_eq_some_iff.1 hi).1
  exact (h2 i c x[i] hi (List.getElem?_eq_getElem (by omega))).len
theorem Rd.same {w' : World} (hs : w.heap.size ≤ w'.heap.size) (e : ∀ k, k < w.heap.size → A k → w'.heap[k]? = w.heap[k]?) : ∀ {s : Sh} {cs : List Value} {x : s.Ty}, Rd A w s cs x → Rd A w' s cs x
  | .int k, _, _, h => h
  | .u8, _, _, h => h
  | .bool, _, _, h => h
  | .str, _, _, h => h
  | .unit, _, _, h => h
  | .pair a b, _, _, ⟨c1, c2, e1, h1, h2⟩ => ⟨c1, c2, e1, Rd.same hs e h1, Rd.same hs e h2⟩
  | .slice s, _, _, ⟨v, css, e1, h1, h2, h3⟩ => ⟨v, css, e1, h1.same hs e, h2, fun i c y hc hy => Rd.same hs e (h3 i c y hc hy)⟩
  | .arr n s, _, _, ⟨css, e1, h1, h2, h3⟩ => ⟨css, e1, h1, h2, fun i c y hc hy => Rd.same hs e (h3 i c y hc hy)⟩
theorem Rd.mono {B : Nat → Prop} (e : ∀ k, k < w.heap.size → A k → B k) : ∀ {s : Sh} {cs : List Value} {x : s.Ty}, Rd A w s cs x → Rd B w s cs x
  | .int k, _, _, h => h
  | .u8, _, _, h => h
  | .bool, _, _, h => h
  | .str, _, _, h => h
  | .unit, _, _, h => h
  | .pair a b, _, _, ⟨c1, c2, e1, h1, h2⟩ => ⟨c1, c2, e1, Rd.mono e h1, Rd.mono e h2⟩
  | .slice s, _, _, ⟨v, css, e1, h1, h2, h3⟩ => ⟨v, css, e1, h1.mono e, h2, fun i c y hc hy => Rd.mono e (h3 i c y hc hy)⟩
  | .arr n s, _, _, ⟨css, e1, h1, h2, h3⟩ => ⟨css, e1, h1, h2, fun i c y hc hy => Rd.mono e (h3 i c y hc hy)⟩
theorem Rd.keep {S : Nat → Prop} {w' : World} {s : Sh} {cs : List Value} {x : s.Ty} (h : Rd A w s cs x) (k : Keep S w w') (hS : ∀ j, j < w.heap.size → A j → ¬ S j) : Rd A w' s cs x :=
  Rd.same k.size (fun j hj ha => k.block j hj (hS j hj ha)) h
/-- what is read stays, where only new memory is made -/
theorem Rd.no {w' : World} {s : Sh} {cs : List Value} {x : s.Ty} (h : Rd A w s cs x) (k : Keep No w w') : Rd A w' s cs x := h.keep k fun _ _ _ h => h

/-- a slice of bytes -/
theorem Rd.bts {v : Value} {l : List UInt8} (h : Rd A w (.slice .u8) [v] l) : Bts A w v l := by
  obtain ⟨v', css, e, h1, h2, h3⟩ := h
  cases e
  have e : css.flatten = l.map bv := by
    have hc : css = l.map fun b => [bv b] := by
      apply List.ext_getElem (by simpa using h2)
      intro i hi hj
      rw [List.getElem_map]
      have h2 : css.length = List.length l := h2
      exact h3 i css[i] (l[i]'(by omega)) (List.getElem?_eq_getElem hi) (List.getElem?_eq_getElem (by omega))
    rw [hc]
    clear hc h1 h2 h3
    induction l with
    | nil => rfl
    | cons b r ih => simp only [List.map_cons, List.flatten_cons, ih]; rfl
  rw [e] at h1
  exact h1
theorem Rd.of_bts {v : Value} {l : List UInt8} (h : Bts A w v l) : Rd A w (.slice .u8) [v] l := by
  have e : ∀ l : List UInt8, (l.map fun b => [bv b]).flatten = l.map bv := by
    intro l; induction l with
    | nil => rfl
    | cons b r ih => simp only [List.map_cons, List.flatten_cons, ih]; rfl
  refine ⟨v, l.map fun b => [bv b], rfl, by rw [e]; exact h, by simp, fun i c y hc hy => ?_⟩
  rw [List.getElem?_map, hy] at hc
  cases hc
  rfl
/-- a slice whose elements are flat: each is its cells -/
theorem Rd.flat {e : Sh} (enc : e.Ty → List Value) {v : Value} {l : List e.Ty} (h : Rd A w (.slice e) [v] l) (hd : ∀ c y, Rd A w e c y → c = enc y) : Sl A w e.n v l.length (l.flatMap enc) := by
  obtain ⟨v', css, e1, h1, h2, h3⟩ := h
  cases e1
  have hc : css = l.map enc := by
    apply List.ext_getElem (by simpa using h2)
    intro i hi hj
    rw [List.getElem_map]
    have h2 : css.length = List.length l := h2
    exact hd _ _ (h3 i css[i] (l[i]'(by omega)) (List.getElem?_eq_getElem hi) (List.getElem?_eq_getElem (by omega)))
  rw [List.flatMap_def, ← hc]
  exact h1
theorem Rd.of_flat {e : Sh} (enc : e.Ty → List Value) {v : Value} {l : List e.Ty} (h : Sl A w e.n v l.length (l.flatMap enc)) (hd : ∀ y ∈ l, Rd A w e (enc y) y) : Rd A w (.slice e) [v] l := by
  refine ⟨v, l.map enc, rfl, by rw [← List.flatMap_def]; exact h, by simp, fun i c y hc hy => ?_⟩
  rw [List.getElem?_map, hy] at hc
  cases hc
  exact hd y (List.mem_of_getElem? hy)
theorem Rd.bools {v : Value} {l : List Bool} (h : Rd A w (.slice .bool) [v] l) : Sl A w 1 v l.length (l.map .bool) := by
  have := h.flat (e := .bool) (fun b : Bool => [.bool b]) fun c y h => h
  rwa [← List.map_eq_flatMap] at this
theorem Rd.strs {v : Value} {l : List (List UInt8)} (h : Rd A w (.slice .str) [v] l) : Sl A w 1 v l.length (l.map fun s => .string ⟨s.toArray⟩) := by
  have := h.flat (e := .str) (fun s : List UInt8 => [.string ⟨s.toArray⟩]) fun c y h => h.1
  rwa [← List.map_eq_flatMap] at this
/-- one element of a slice -/
theorem Rd.at {e : Sh} {v : Value} {l : List e.Ty} (h : Rd A w (.slice e) [v] l) {n : Nat} (hn : e.n = n) {i : Nat} (hi : i < l.length) :
    ∃ g off cap, v = .slice (some ⟨g, off, none⟩) l.length cap ∧ A g ∧ g < w.heap.size ∧ l.length ≤ cap ∧ cap ≤ maxLen ∧ ∃ c, Rd A w e c l[i] ∧ ∀ r u, c[r]? = some u → w.cell? ⟨g, off + i * n + r, none⟩ = some u := by
  obtain ⟨v', css, e1, h1, h2, h3⟩ := h
  cases e1
  obtain ⟨g, off, cap, rfl, ha, hb, hc, hd, hr⟩ := h1.at (by omega)
  have hic : i < css.length := by omega
  refine ⟨g, off, cap, rfl, ha, hb, hc, hd, css[i], h3 i _ _ (List.getElem?_eq_getElem hic) (List.getElem?_eq_getElem hi), fun r u hu => ?_⟩
  rw [Nat.add_assoc, ← hn]
  refine hr _ _ ?_
  have hel := Rd.elems h2 h3
  have hrn : r < e.n := by rw [← hel css[i] (List.getElem_mem hic)]; exact (List.getElem?_eq_some_iff.1 hu).1
  rw [flatten_get hel i r hrn, List.getElem?_eq_getElem hic]
  exact hu
theorem Rd.shape {e : Sh} {v : Value} {l : List e.Ty} (h : Rd A w (.slice e) [v] l) : ∃ a cap, v = .slice a l.length cap ∧ l.length ≤ cap ∧ cap ≤ maxLen := by
  obtain ⟨v', css, e1, h1, _⟩ := h
  cases e1
  exact h1.shape
end

/-! a part of a slice -/
theorem Sl.sub {P : Program} {A : Nat → Prop} {w : World} {size n lo hi : Nat} {v : Value} {cs : List Value} (t : TypeId) (ht : P.underlying t = some (.slice (P.elem t))) (hsz : ∀ W, (sizeOf (P.elem t)).run P W = .ok size W)
    (h : Sl A w size v n cs) (h1 : lo ≤ hi) (h2 : hi ≤ n) :
    ∃ a' cap', (∀ W, (Instr.slice t v (some (.int .i64 (lo : Int))) (some (.int .i64 (hi : Int))) none).run P W = .ok (.slice a' (hi - lo) cap') W) ∧ Sl A w size (.slice a' (hi - lo) cap') (hi - lo) ((cs.drop (lo * size)).take ((hi - lo) * size)) := by
  obtain ⟨hl, a, cap, rfl, hn, hm, h0, hr⟩ := h
  refine ⟨if cap = lo then a else a.map (·.add (lo * size)), cap - lo, fun W => ?_, ?_, ?_⟩
  · rw [run_slice_lh (P := P) W t a n cap ht .i64 .i64 lo hi (by omega) (by omega) (by omega), hsz W]
    simp [Result.andThen, sliced]
  · rw [List.length_take, List.length_drop, hl]
    have : hi * size ≤ n * size := Nat.mul_le_mul_right _ h2
    rw [Nat.sub_mul]
    omega
  · refine ⟨_, _, rfl, by omega, by omega, ?_, fun hpos => ?_⟩
    · intro e
      cases a with
      | none => have := h0 rfl; omega
      | some a => split at e <;> cases e
    · obtain ⟨g, off, rfl, hA, hg, hc⟩ := hr (by omega)
      refine ⟨g, off + lo * size, ?_, hA, hg, fun j u hu => ?_⟩
      · rw [if_neg (by omega), Option.map_some, Addr.add_lit]
      · rw [Nat.add_assoc]
        refine hc _ _ ?_
        rw [List.getElem?_take] at hu
        split at hu
        · rw [List.getElem?_drop] at hu; exact hu
        · cases hu
theorem Bts.sub {P : Program} {A : Nat → Prop} {w : World} {lo hi : Nat} {v : Value} {l : List UInt8} (t : TypeId) (ht : P.underlying t = some (.slice (P.elem t))) (hsz : ∀ W, (sizeOf (P.elem t)).run P W = .ok 1 W)
    (h : Bts A w v l) (h1 : lo ≤ hi) (h2 : hi ≤ l.length) :
    ∃ a' cap', (∀ W, (Instr.slice t v (some (.int .i64 (lo : Int))) (some (.int .i64 (hi : Int))) none).run P W = .ok (.slice a' (hi - lo) cap') W) ∧ Bts A w (.slice a' (hi - lo) cap') ((l.drop lo).take (hi - lo)) := by
  obtain ⟨a', cap', hr, hs⟩ := Sl.sub t ht hsz h h1 h2
  refine ⟨a', cap', hr, ?_⟩
  have e : ((l.drop lo).take (hi - lo)).length = hi - lo := by rw [List.length_take, List.length_drop]; omega
  unfold Bts
  rw [e, List.map_take, List.map_drop]
  simpa using hs

/-! an argument that fits a shape -/
def fitX (P : Program) : Sh → TypeId ⊕ (List Field × Nat) → Bool
  | .int k, .inl t => match P.underlying t with | some (.int k') => decide (k' = k) && P.cellsOf t == 1 | _ => false
  | .u8, .inl t => match P.underlying t with | some (.int .u8) => P.cellsOf t == 1 | _ => false
  | .bool, .inl t => match P.underlying t with | some .bool => P.cellsOf t == 1 | _ => false
  | .str, .inl t => match P.underlying t with | some .string => P.cellsOf t == 1 | _ => false
  | .slice e, .inl t => match P.underlying t with | some (.slice te) => P.cellsOf t == 1 && P.cellsOf te == e.n && fitX P e (.inl te) && decide (0 < e.n) | _ => false
  | .arr n e, .inl t => match P.underlying t with | some (.array n' te) => decide (n' = n) && P.cellsOf t == n * e.n && P.cellsOf te == e.n && fitX P e (.inl te) | _ => false
  | .pair a b, .inl t => match P.underlying t with
    | some (.struct ⟨f :: r⟩) => P.cellsOf t == a.n + b.n && f.offset == 0 && P.cellsOf f.type == a.n && fitX P a (.inl f.type) && fitX P b (.inr (r, a.n))
    | _ => false
  | .pair a b, .inr (f :: r, off) => f.offset == off && P.cellsOf f.type == a.n && fitX P a (.inl f.type) && fitX P b (.inr (r, off + a.n))
  | .unit, .inr ([], _) => true
  | _, _ => false

section
variable {H : Type} {enc : TypeId × Value → H} {P : Program} {w : World} {base : Nat} {spare : Nat → Bool} {held : Bool}
theorem chunks (cs : List Value) (k : Nat) : ∀ n, n * k ≤ cs.length → ((List.range n).map fun i => (cs.drop (i * k)).take k).flatten = cs.take (n * k)
  | 0, _ => by simp
  | n + 1, h => by
    rw [Nat.succ_mul] at h ⊢
    rw [List.range_succ, List.map_append, List.flatten_append, chunks cs k n (by omega), List.take_add]; simp
theorem choose_list {α : Type} {n : Nat} {p : Nat → α → Prop} (h : ∀ i, i < n → ∃ x, p i x) : ∃ l : List α, l.length = n ∧ ∀ (i : Nat) x, l[i]? = some x → p i x := by
  induction n with
  | zero => exact ⟨[], rfl, fun i x h => by simp at h⟩
  | succ n ih =>
    obtain ⟨l, hl, hp⟩ := ih fun i hi => h i (by omega)
    obtain ⟨x, hx⟩ := h n (by omega)
    refine ⟨l ++ [x], by simp [hl], fun i y hy => ?_⟩
    rcases Nat.lt_or_ge i n with hi | hi
    · rw [List.getElem?_append_left (by omega)] at hy; exact hp i y hy
    · rw [List.getElem?_append_right (by omega)] at hy
      have : i = n := by
        have := (List.getElem?_eq_some_iff.1 hy).1
        simp at this; omega
      subst this
      simp [hl] at hy; subst hy; exact hx
theorem wf_u8 {n : Int} (h : (Lit.int .u8 n).wf = true) : Value.int .u8 n = bv (UInt8.ofNat n.toNat) := by
  have := bounds_u8 h
  unfold bv
  congr 1
  simp only [UInt8.toNat_ofNat']
  omega

theorem open_x : ∀ (s : Sh),
    (∀ (t : TypeId) (fuel : Nat) (cs : List Value) x, fitX P s (.inl t) = true → DataW.trod enc P w base spare held fuel t cs = some x → ∃ y, Rd (fun k => k < w.heap.size) w s cs y) ∧
    (∀ (fs : List Field) (off n : Nat) (cs : List Value), fitX P s (.inr (fs, off)) = true → cs.length = off + s.n → (∀ f ∈ fs, ∃ x, DataW.trod enc P w base spare held n f.type ((cs.drop f.offset).take (P.cellsOf f.type)) = some x) → ∃ y, Rd (fun k => k < w.heap.size) w s (cs.drop off) y)
  | .int k => ⟨fun t fuel cs x hf h => by
      unfold fitX at hf
      split at hf
      · rename_i k' hu
        simp only [Bool.and_eq_true, decide_eq_true_eq] at hf
        obtain ⟨rfl, _⟩ := hf
        obtain ⟨n, rfl, _, hw⟩ := DataW.trod_int hu h
        exact ⟨n, rfl, hw⟩
      · exact absurd hf Bool.false_ne_true, fun fs off n cs hf => by simp [fitX] at hf⟩
  | .u8 => ⟨fun t fuel cs x hf h => by
      unfold fitX at hf
      split at hf
      · rename_i hu
        obtain ⟨n, rfl, _, hw⟩ := DataW.trod_int hu h
        exact ⟨UInt8.ofNat n.toNat, by show [_] = [_]; rw [wf_u8 hw]⟩
      · exact absurd hf Bool.false_ne_true, fun fs off n cs hf => by simp [fitX] at hf⟩
  | .bool => ⟨fun t fuel cs x hf h => by
      unfold fitX at hf
      split at hf
      · rename_i hu
        obtain ⟨b, rfl, _⟩ := DataW.trod_bool hu h
        exact ⟨b, rfl⟩
      · exact absurd hf Bool.false_ne_true, fun fs off n cs hf => by simp [fitX] at hf⟩
  | .str => ⟨fun t fuel cs x hf h => by
      unfold fitX at hf
      split at hf
      · rename_i hu
        obtain ⟨s, rfl, _, hm⟩ := DataW.trod_string hu h
        exact ⟨s.data.toList, by simp, by simpa using hm⟩
      · exact absurd hf Bool.false_ne_true, fun fs off n cs hf => by simp [fitX] at hf⟩
  | .unit => ⟨fun t fuel cs x hf h => by simp [fitX] at hf, fun fs off n cs hf hl _ => ⟨(), by
      show cs.drop off = []
      rw [List.drop_eq_nil_iff]; simp only [Sh.n] at hl; omega⟩⟩
  | .pair a b => ⟨fun t fuel cs x hf h => by
      unfold fitX at hf
      split at hf
      · rename_i f r hu
        simp only [Bool.and_eq_true, beq_iff_eq] at hf
        obtain ⟨⟨⟨⟨h0, h1⟩, h2⟩, h3⟩, h4⟩ := hf
        obtain ⟨xs, n, _, _, hlen, hxl, hfs⟩ := DataW.trod_struct hu h
        have hg : ∀ f' ∈ f :: r, ∃ x, DataW.trod enc P w base spare held n f'.type ((cs.drop f'.offset).take (P.cellsOf f'.type)) = some x := by
          intro f' hf'
          obtain ⟨i, hi⟩ := List.mem_iff_getElem?.1 hf'
          have hi' : i < (f :: r).length := (List.getElem?_eq_some_iff.1 hi).1
          have hx : i < xs.length := by rw [hxl]; simpa using hi'
          have := hfs i f' (by simpa using hi)
          rw [List.getElem?_eq_getElem hx] at this
          exact ⟨_, this⟩
        obtain ⟨x1, hx1⟩ := hg f (by simp)
        rw [h1, h2, List.drop_zero] at hx1
        obtain ⟨y1, hy1⟩ := (open_x a).1 _ _ _ _ h3 hx1
        obtain ⟨y2, hy2⟩ := (open_x b).2 r a.n n cs h4 (by omega) fun f' hf' => hg f' (by simp [hf'])
        exact ⟨(y1, y2), _, _, (List.take_append_drop a.n cs).symm, hy1, hy2⟩
      · exact absurd hf Bool.false_ne_true, fun fs off n cs hf hl hg => by
      match fs with
      | [] => simp [fitX] at hf
      | f :: r =>
        simp only [fitX, Bool.and_eq_true, beq_iff_eq] at hf
        obtain ⟨⟨⟨h1, h2⟩, h3⟩, h4⟩ := hf
        obtain ⟨x1, hx1⟩ := hg f (by simp)
        rw [h1, h2] at hx1
        obtain ⟨y1, hy1⟩ := (open_x a).1 _ _ _ _ h3 hx1
        simp only [Sh.n] at hl
        obtain ⟨y2, hy2⟩ := (open_x b).2 r (off + a.n) n cs h4 (by omega) fun f' hf' => hg f' (by simp [hf'])
        refine ⟨(y1, y2), _, _, ?_, hy1, hy2⟩
        rw [← List.drop_drop]; exact (List.take_append_drop a.n _).symm⟩
  | .slice e => ⟨fun t fuel cs x hf h => by
      unfold fitX at hf
      split at hf
      · rename_i te hu
        simp only [Bool.and_eq_true, beq_iff_eq, decide_eq_true_eq] at hf
        obtain ⟨⟨⟨_, hce⟩, hfe⟩, hpos⟩ := hf
        rcases Deep.open_slice hu h with ⟨rfl, _⟩ | ⟨a, len, cap, m, n, D, Pl, rfl, _, hl, hm, hmm, _, hi⟩
        · exact ⟨[], _, [], rfl, Sl.nil _ _ _, rfl, fun i c y h => by simp at h⟩
        · have hlm : len ≤ m := by rw [hmm]; split <;> omega
          have h2 : ∀ i, i < len → ∃ q : List Value × e.Ty, (∀ r, r < e.n → w.cell? (a.add (i * e.n + r)) = q.1[r]?) ∧ Rd (fun k => k < w.heap.size) w e q.1 q.2 := by
            intro i hil
            obtain ⟨cs', hc, ht⟩ := hi i (by omega)
            obtain ⟨y, hy⟩ := (open_x e).1 _ _ _ _ hfe ht
            rw [hce] at hc
            obtain ⟨_, _, hr⟩ := World.cells?_some hc
            refine ⟨(cs', y), fun r hr' => ?_, hy⟩
            rw [← Deep.add_add]; exact hr r hr'
          obtain ⟨l, hll, hp⟩ := choose_list h2
          have hel : ∀ c ∈ l.map (·.1), c.length = e.n := by
            intro c hc
            obtain ⟨q, hq, rfl⟩ := List.mem_map.1 hc
            obtain ⟨i, hi⟩ := List.mem_iff_getElem?.1 hq
            exact (hp i q hi).2.len
          refine ⟨l.map (·.2), .slice (some a) len cap, l.map (·.1), rfl, ⟨?_, some a, cap, by simp [hll], by simpa [hll] using hl, hm, (fun h => by cases h), fun hn => ?_⟩, by simp, fun i c y hc hy => ?_⟩
          · rw [flatten_len hel]; simp
          · have hcell : ∀ j u, (l.map (·.1)).flatten[j]? = some u → w.cell? (a.add j) = some u := by
              intro j u hu
              obtain ⟨i, r, c, rfl, hr, hc, hu⟩ := flatten_get_some hel hpos hu
              rw [List.getElem?_map] at hc
              cases hq : l[i]? with
              | none => rw [hq] at hc; cases hc
              | some q =>
                rw [hq] at hc; cases hc
                rw [(hp i q hq).1 r hr]; exact hu
            simp only [List.length_map, hll] at hn
            have hfl : 0 < (l.map (·.1)).flatten.length := by
              rw [flatten_len hel, List.length_map, hll]; exact Nat.mul_pos hn hpos
            have h0 := hcell 0 _ (List.getElem?_eq_getElem hfl)
            obtain ⟨ab, ao, spot⟩ := a
            have hs : spot = none := by simpa [Addr.add] using World.cell?_spot h0
            subst hs
            refine ⟨ab, ao, rfl, World.block_lt_of_cell? w _ h0, World.block_lt_of_cell? w _ h0, fun j u hu => ?_⟩
            have := hcell j u hu
            rwa [Addr.add_lit] at this
          · rw [List.getElem?_map] at hc hy
            cases hq : l[i]? with
            | none => rw [hq] at hc; cases hc
            | some q =>
              rw [hq] at hc hy; cases hc; cases hy
              exact (hp i q hq).2
      · exact absurd hf Bool.false_ne_true, fun fs off n cs hf => by simp [fitX] at hf⟩
  | .arr n e => ⟨fun t fuel cs x hf h => by
      unfold fitX at hf
      split at hf
      · rename_i n' te hu
        simp only [Bool.and_eq_true, beq_iff_eq, decide_eq_true_eq] at hf
        obtain ⟨⟨⟨rfl, hct⟩, hce⟩, hfe⟩ := hf
        cases fuel with
        | zero => simp [DataW.trod] at h
        | succ fuel =>
          unfold DataW.trod at h
          rw [hu] at h
          simp only at h
          split at h
          · rename_i hlen
            rw [hct] at hlen
            cases hm : (List.range n').mapM (fun i => DataW.trod enc P w base spare held fuel te ((cs.drop (i * P.cellsOf te)).take (P.cellsOf te))) with
            | none => rw [hm] at h; cases h
            | some xs =>
              have h2 : ∀ i, i < n' → ∃ y : e.Ty, Rd (fun k => k < w.heap.size) w e ((cs.drop (i * e.n)).take e.n) y := by
                intro i hi
                have h1 := mapM_some_get hm i i (by simp [hi])
                have hxl : xs.length = n' := by simpa using mapM_some_length hm
                rw [List.getElem?_eq_getElem (by omega), hce] at h1
                exact (open_x e).1 _ _ _ _ hfe h1
              obtain ⟨l, hll, hp⟩ := choose_list h2
              refine ⟨l, (List.range n').map fun i => (cs.drop (i * e.n)).take e.n, ?_, by simp, hll, fun i c y hc hy => ?_⟩
              · rw [chunks cs e.n n' (by omega), ← hlen, List.take_length]
              · rw [List.getElem?_map] at hc
                have hi : i < n' := by rw [← hll]; exact (List.getElem?_eq_some_iff.1 hy).1
                rw [List.getElem?_range hi] at hc
                cases hc
                exact hp i y hy
          · cases h
      · exact absurd hf Bool.false_ne_true, fun fs off n cs hf => by simp [fitX] at hf⟩

theorem open_slice_arg {s : Sh} {t te : TypeId} {r : Reach} {b0 : Nat} {v : Value} {d : DataW H} {p : List MemPlace} (hu : P.underlying t = some (.slice te)) (hf : fitX P (.slice s) (.inl t) = true) (hval : Value.okWide P w r b0 t v) (h : DataW.Trod enc P w base spare held t v d p) :
    ∃ y, Rd (fun k => k < w.heap.size) w (.slice s) [v] y := by
  obtain ⟨a, len, cap, rfl⟩ := okWide_slice hu hval
  obtain ⟨fuel, hx⟩ := h
  exact (open_x (.slice s)).1 _ _ _ _ hf hx
theorem open_str_arg {t : TypeId} {r : Reach} {b0 : Nat} {v : Value} {d : DataW H} {p : List MemPlace} (hu : P.underlying t = some .string) (hf : fitX P .str (.inl t) = true) (hval : Value.okWide P w r b0 t v) (h : DataW.Trod enc P w base spare held t v d p) :
    ∃ y : List UInt8, v = .string ⟨y.toArray⟩ ∧ y.length ≤ maxLen := by
  obtain ⟨s, rfl⟩ := okWide_string hu hval
  obtain ⟨fuel, hx⟩ := h
  obtain ⟨y, h1, h2⟩ := (open_x .str).1 _ _ _ _ hf hx
  exact ⟨y, by simpa [Value.cells] using h1, h2⟩
theorem open_struct_arg {s : Sh} {t : TypeId} {fs : Array Field} {r : Reach} {b0 : Nat} {v : Value} {d : DataW H} {p : List MemPlace} (hu : P.underlying t = some (.struct fs)) (hf : fitX P s (.inl t) = true) (hval : Value.okWide P w r b0 t v) (h : DataW.Trod enc P w base spare held t v d p) :
    ∃ cs y, v = .agg cs ∧ Rd (fun k => k < w.heap.size) w s cs.toList y := by
  obtain ⟨cs, rfl, _⟩ := okWide_struct hu hval
  obtain ⟨fuel, hx⟩ := h
  obtain ⟨y, hy⟩ := (open_x s).1 _ _ _ _ hf hx
  exact ⟨cs, y, rfl, hy⟩
theorem open_array_arg {s : Sh} {t te : TypeId} {n : Nat} {r : Reach} {b0 : Nat} {v : Value} {d : DataW H} {p : List MemPlace} (hu : P.underlying t = some (.array n te)) (hf : fitX P s (.inl t) = true) (hval : Value.okWide P w r b0 t v) (h : DataW.Trod enc P w base spare held t v d p) :
    ∃ cs y, v = .agg cs ∧ Rd (fun k => k < w.heap.size) w s cs.toList y := by
  simp only [Value.okWide, hu] at hval
  obtain ⟨cs, rfl, _⟩ := hval
  obtain ⟨fuel, hx⟩ := h
  obtain ⟨y, hy⟩ := (open_x s).1 _ _ _ _ hf hx
  exact ⟨cs, y, rfl, hy⟩
end
end Go.Dm
