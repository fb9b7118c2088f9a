/- Memory, said once for all walks of this seat: what stays (Keep), a slice that reads as a list of cells (Sl), runs of append, copy and make over such slices, and stops of the walk at hard operations (RunGoal). Numbers in bytes, the lowest first: plain laws, no program in sight. What a file says: the loader's plain model, no program in sight. The closure's plain model. Modules, plainly. No condition. -/
import Derived.WalkKit
import Derived.WalkLawsBesides
import Derived.WalkSpells
import Derived.Lib.Hide
import Derived.Lib.SliceRun
import Derived.Laws.CopyOwn
import Derived.Maps.OwnSet
import Derived.Maps.RangeWalk
import Derived.Maps.OwnOps
import Derived.Maps.AppendAt
import Derived.Deep.QuietTactic
import Derived.BigQuiet
import Derived.Laws.BitsAllLaws
set_option linter.unusedVariables false
set_option linter.unusedSimpArgs false
namespace Go.Dm
open Go Go.RowKit

/-- Of what was there, all that is not in A is as it was. -/
structure Keep (A : Nat → Prop) (w w' : World) : Prop where
  os : w'.os = w.os
  tape : w'.tape = w.tape
  output : w'.output = w.output
  size : w.heap.size ≤ w'.heap.size
  block : ∀ k, k < w.heap.size → ¬ A k → w'.heap[k]? = w.heap[k]?

def No : Nat → Prop := fun _ => False
/-- A, and what is new in w' since w. -/
def Plus (A : Nat → Prop) (w w' : World) : Nat → Prop := fun k => A k ∨ (w.heap.size ≤ k ∧ k < w'.heap.size)

theorem Keep.refl (A : Nat → Prop) (w : World) : Keep A w w := ⟨rfl, rfl, rfl, Nat.le_refl _, fun _ _ _ => rfl⟩
theorem Keep.mono {A B : Nat → Prop} {w w' : World} (h : Keep A w w') (hab : ∀ k, k < w.heap.size → A k → B k) : Keep B w w' :=
  ⟨h.os, h.tape, h.output, h.size, fun k hk hb => h.block k hk fun ha => hb (hab k hk ha)⟩
theorem Keep.trans {A B : Nat → Prop} {a b c : World} (h : Keep A a b) (k : Keep B b c) (hB : ∀ j, j < a.heap.size → B j → A j) : Keep A a c :=
  ⟨k.os.trans h.os, k.tape.trans h.tape, k.output.trans h.output, Nat.le_trans h.size k.size,
    fun i hi hA => (k.block i (Nat.lt_of_lt_of_le hi h.size) fun hb => hA (hB i hi hb)).trans (h.block i hi hA)⟩
theorem Keep.trans' {A : Nat → Prop} {a b c : World} (h : Keep A a b) (k : Keep A b c) : Keep A a c := h.trans k fun _ _ h => h
theorem Keep.drew {A : Nat → Prop} {a w : World} (h : Keep A a w) : Keep A a w.drew := ⟨h.os, h.tape, h.output, h.size, h.block⟩
theorem Keep.drewN {A : Nat → Prop} {a w : World} (h : Keep A a w) (n : Nat) : Keep A a (w.drewN n) := ⟨h.os, h.tape, h.output, h.size, h.block⟩
theorem Keep.alloc {A : Nat → Prop} {a w : World} (h : Keep A a w) (o : Obj) : Keep A a (w.alloc o) :=
  h.trans ⟨rfl, rfl, rfl, by simp, fun k hk _ => Below.heap_alloc _ _ _ hk⟩ (B := No) fun _ _ h => h.elim
theorem Keep.setCell {A : Nat → Prop} {a w : World} (h : Keep A a w) {p : Addr} (hp : p.block < a.heap.size → A p.block) (u : Value) : Keep A a (w.setCell p u) :=
  ⟨h.os, h.tape, h.output, by simpa [World.setCell] using h.size, fun k hk hA => (Below.heap_setCell _ _ _ _ fun e => by subst e; exact hA (hp hk)).trans (h.block k hk hA)⟩
theorem Keep.of_below {w w' : World} (h : Below w.heap.size w w') : Keep No w w' := ⟨h.os, h.tape, h.output, h.size, fun k hk _ => h.block k hk⟩
theorem Keep.below {A : Nat → Prop} {w w' : World} (h : Keep A w w') (B : Nat) (hB : B ≤ w.heap.size) (hA : ∀ k, A k → B ≤ k) : Below B w w' :=
  ⟨h.os, h.tape, h.output, h.size, fun k hk => h.block k (by omega) fun ha => by have := hA k ha; omega⟩
theorem Keep.of_grown {w w' : World} {row : Option Nat} (h : w.grownBy w' row) : Keep (fun k => some k = row) w w' := ⟨h.os, h.tape, h.output, h.size, fun k hk hA => h.block k hk hA⟩
theorem Keep.toGrown {w w' : World} (h : Keep No w w') : w.grownBy w' none := ⟨h.os, h.tape, h.output, h.size, fun k hk _ => h.block k hk fun h => h⟩
theorem Keep.cell {A : Nat → Prop} {w w' : World} (h : Keep A w w') {p : Addr} (hp : p.block < w.heap.size) (hA : ¬ A p.block) : w'.cell? p = w.cell? p := World.cell?_of_block (w := w) (h.block p.block hp hA)
theorem Keep.frozen {A : Nat → Prop} {w w' : World} (h : Keep A w w') {p : Addr} (hp : p.block < w.heap.size) (hA : ¬ A p.block) : w'.frozen? p = w.frozen? p := World.frozen?_of_block (w := w) (h.block p.block hp hA)

/-- Block b holds just these cells, none of them frozen. -/
def Blk (w : World) (b : Nat) (cs : Array Value) (t : TypeId) : Prop := w.heap[b]? = some (.cells cs t (0, 0))
theorem Blk.cell {w : World} {b : Nat} {cs : Array Value} {t : TypeId} (h : Blk w b cs t) (i : Nat) : w.cell? ⟨b, i, none⟩ = cs[i]? := cell_of_row w b i cs t _ h
theorem Blk.frozen {w : World} {b : Nat} {cs : Array Value} {t : TypeId} (h : Blk w b cs t) (i : Nat) : w.frozen? ⟨b, i, none⟩ = false := frozen_of_row w b i cs t h
theorem Blk.lt {w : World} {b : Nat} {cs : Array Value} {t : TypeId} (h : Blk w b cs t) : b < w.heap.size := (Array.getElem?_eq_some_iff.1 h).1
theorem Blk.keep {A : Nat → Prop} {w w' : World} {b : Nat} {cs : Array Value} {t : TypeId} (h : Blk w b cs t) (k : Keep A w w') (hA : ¬ A b) : Blk w' b cs t := (k.block b h.lt hA).trans h
theorem Blk.same {w w' : World} {b : Nat} {cs : Array Value} {t : TypeId} (h : Blk w b cs t) (e : w'.heap[b]? = w.heap[b]?) : Blk w' b cs t := e.trans h
theorem Blk.alloc {w : World} {b : Nat} {cs : Array Value} {t : TypeId} (h : Blk w b cs t) (o : Obj) : Blk (w.alloc o) b cs t := (Below.heap_alloc w o b (Blk.lt h)).trans h
theorem Blk.new (w : World) (cs : Array Value) (t : TypeId) : Blk (w.alloc (.cells cs t)) w.heap.size cs t := heap_alloc_new w _
theorem Blk.set {w : World} {b i : Nat} {cs : Array Value} {t : TypeId} (h : Blk w b cs t) (v : Value) : Blk (w.setCell ⟨b, i, none⟩ v) b (cs.setIfInBounds i v) t := heap_setCell_same w b i cs t v h
theorem Blk.set_other {w : World} {b : Nat} {a : Addr} {cs : Array Value} {t : TypeId} (h : Blk w b cs t) (hn : b ≠ a.block) (v : Value) : Blk (w.setCell a v) b cs t := (heap_setCell_other w a b v hn).trans h

/-- The value v is a slice of n elements (of 'size' cells each) that read, one behind the other, as cs; its memory lies in A (an empty one may lead anywhere). -/
def Sl (A : Nat → Prop) (w : World) (size : Nat) (v : Value) (n : Nat) (cs : List Value) : Prop :=
  cs.length = n * size ∧ ∃ a cap, v = .slice a n cap ∧ n ≤ cap ∧ cap ≤ maxLen ∧ (a = none → cap = 0) ∧
    (0 < n → ∃ g off, a = some ⟨g, off, none⟩ ∧ A g ∧ g < w.heap.size ∧ ∀ j u, cs[j]? = some u → w.cell? ⟨g, off + j, none⟩ = some u)

theorem Sl.nil (A : Nat → Prop) (w : World) (size : Nat) : Sl A w size (.slice none 0 0) 0 [] := ⟨by simp, none, 0, rfl, Nat.le_refl _, Nat.zero_le _, fun _ => rfl, fun h => absurd h (by omega)⟩
theorem Sl.empty (A : Nat → Prop) (w : World) (size : Nat) (a : Addr) {cap : Nat} (h : cap ≤ maxLen) : Sl A w size (.slice (some a) 0 cap) 0 [] := ⟨by simp, some a, cap, rfl, Nat.zero_le _, h, (fun h => by cases h), fun h => absurd h (by omega)⟩
theorem Sl.mk {A : Nat → Prop} {w : World} {size n g off cap : Nat} {cs : List Value} (h : cs.length = n * size) (hA : A g) (hg : g < w.heap.size) (hn : n ≤ cap) (hc : cap ≤ maxLen) (hr : ∀ j u, cs[j]? = some u → w.cell? ⟨g, off + j, none⟩ = some u) : Sl A w size (.slice (some ⟨g, off, none⟩) n cap) n cs :=
  ⟨h, _, cap, rfl, hn, hc, (fun h => by cases h), fun _ => ⟨g, off, rfl, hA, hg, hr⟩⟩
theorem Sl.mono {A B : Nat → Prop} {w : World} {size n : Nat} {v : Value} {cs : List Value} (h : Sl A w size v n cs) (hab : ∀ k, k < w.heap.size → A k → B k) : Sl B w size v n cs := by
  obtain ⟨h1, a, cap, e, c, d, f, r⟩ := h
  refine ⟨h1, a, cap, e, c, d, f, fun hn => ?_⟩
  obtain ⟨g, off, e, a, b, r⟩ := r hn
  exact ⟨g, off, e, hab g b a, b, r⟩
theorem Sl.same {A : Nat → Prop} {w w' : World} {size n : Nat} {v : Value} {cs : List Value} (h : Sl A w size v n cs) (hs : w.heap.size ≤ w'.heap.size) (e : ∀ k, k < w.heap.size → A k → w'.heap[k]? = w.heap[k]?) : Sl A w' size v n cs := by
  obtain ⟨h1, a, cap, e1, c, d, f, r⟩ := h
  refine ⟨h1, a, cap, e1, c, d, f, fun hn => ?_⟩
  obtain ⟨g, off, e2, a, b, r⟩ := r hn
  exact ⟨g, off, e2, a, Nat.lt_of_lt_of_le b hs, fun j u hu => (World.cell?_of_block (w := w) (e g b a)).trans (r j u hu)⟩
theorem Sl.keep {A S : Nat → Prop} {w w' : World} {size n : Nat} {v : Value} {cs : List Value} (h : Sl A w size v n cs) (k : Keep S w w') (hAS : ∀ j, j < w.heap.size → A j → ¬ S j) : Sl A w' size v n cs :=
  h.same k.size fun j hj ha => k.block j hj (hAS j hj ha)
theorem Sl.shape {A : Nat → Prop} {w : World} {size n : Nat} {v : Value} {cs : List Value} (h : Sl A w size v n cs) : ∃ a cap, v = .slice a n cap ∧ n ≤ cap ∧ cap ≤ maxLen := by
  obtain ⟨_, a, cap, e, c, d, _⟩ := h
  exact ⟨a, cap, e, c, d⟩
/-- where there is a cell there is an address -/
theorem Sl.at {A : Nat → Prop} {w : World} {size n : Nat} {v : Value} {cs : List Value} (h : Sl A w size v n cs) (hn : 0 < n) :
    ∃ g off cap, v = .slice (some ⟨g, off, none⟩) n cap ∧ A g ∧ g < w.heap.size ∧ n ≤ cap ∧ cap ≤ maxLen ∧ ∀ j u, cs[j]? = some u → w.cell? ⟨g, off + j, none⟩ = some u := by
  obtain ⟨_, a, cap, e, c, d, _, r⟩ := h
  obtain ⟨g, off, e2, h3, b, r2⟩ := r hn
  subst e2
  exact ⟨g, off, cap, e, h3, b, c, d, r2⟩
theorem Sl.of_own {w : World} {base : Nat} {e : TypeId} {size n : Nat} {v : Value} {xs : List Value} (h : w.ownsRow base e size v n xs) : Sl (fun k => base ≤ k ∧ some k = v.ownBlock) w size v n xs := by
  refine ⟨h.1, ?_⟩
  rcases h.2 with ⟨rfl, rfl⟩ | ⟨g, cap, cur, rfl, hb, hg, hn, hm, _, ht⟩
  · exact ⟨none, 0, rfl, Nat.le_refl _, Nat.zero_le _, fun _ => rfl, fun h => absurd h (by omega)⟩
  · refine ⟨_, cap, rfl, hn, hm, (fun h => by cases h), fun _ => ⟨g, 0, rfl, ⟨hb, rfl⟩, (Array.getElem?_eq_some_iff.1 hg).1, fun j u hu => ?_⟩⟩
    have := h.cells (g := g) rfl j u hu
    simpa [Addr.add_lit] using this

theorem Sl.new (w : World) (cs : Array Value) (t : TypeId) {size n : Nat} (h : cs.size = n * size) (hn : n ≤ maxLen) : Sl (fun k => k = w.heap.size) (w.alloc (.cells cs t)) size (.slice (some ⟨w.heap.size, 0, none⟩) n n) n cs.toList :=
  Sl.mk (by simpa using h) rfl (by simp) (Nat.le_refl _) hn fun j u hu => by rw [(Blk.new w cs t).cell]; simpa using hu

/-- The walk's stop at an operation: what is left to say is how it runs. -/
def RunGoal {α : Type} (P : Program) (s : Sem α) (w : World) (K : α → World → Prop) : Prop := ∃ v w', s.run P w = .ok v w' ∧ K v w'
theorem RunGoal.mk {α : Type} {P : Program} {s : Sem α} {w : World} {K : α → World → Prop} {v : α} {w' : World} (h : s.run P w = .ok v w') (hk : K v w') : RunGoal P s w K := ⟨v, w', h, hk⟩

/-! The stops proper: their operations are names here, so that the walk's simp does not look into them. -/
def AppendGoal (P : Program) (t1 t2 ty : TypeId) (v1 v2 : Value) (w : World) (K : Value → World → Prop) : Prop := RunGoal P (Builtin.append_ #[t1, t2] ty #[v1, v2]) w K
def CopyGoal (P : Program) (t1 t2 ty : TypeId) (v1 v2 : Value) (w : World) (K : Value → World → Prop) : Prop := RunGoal P (Builtin.copy_ #[t1, t2] ty #[v1, v2]) w K
def MaxGoal (P : Program) (t1 t2 ty : TypeId) (v1 v2 : Value) (w : World) (K : Value → World → Prop) : Prop := RunGoal P (Builtin.max_ #[t1, t2] ty #[v1, v2]) w K
def MinGoal (P : Program) (t1 t2 ty : TypeId) (v1 v2 : Value) (w : World) (K : Value → World → Prop) : Prop := RunGoal P (Builtin.min_ #[t1, t2] ty #[v1, v2]) w K
def DeleteGoal (P : Program) (t1 t2 ty : TypeId) (v1 v2 : Value) (w : World) (K : Value → World → Prop) : Prop := RunGoal P (Builtin.delete_ #[t1, t2] ty #[v1, v2]) w K
def LenGoal (P : Program) (t1 ty : TypeId) (v1 : Value) (w : World) (K : Value → World → Prop) : Prop := RunGoal P (Builtin.len_ #[t1] ty #[v1]) w K
def MakeGoal (P : Program) (t : TypeId) (v1 v2 : Value) (w : World) (K : Value → World → Prop) : Prop := RunGoal P (Instr.makeSlice t v1 v2) w K
def UpdateGoal (P : Program) (t : TypeId) (v1 v2 v3 : Value) (w : World) (K : World → Prop) : Prop := RunGoal P (Instr.mapUpdate t v1 v2 v3) w fun _ w' => K w'
def LookupGoal (P : Program) (t : TypeId) (v1 v2 : Value) (c : Bool) (w : World) (K : Value → World → Prop) : Prop := RunGoal P (Instr.lookup t v1 v2 c) w K
def RangeGoal (P : Program) (t : TypeId) (v1 : Value) (w : World) (K : Value → World → Prop) : Prop := RunGoal P (Instr.range t v1) w K
def NextGoal (P : Program) (v1 : Value) (s : Bool) (ty : TypeId) (w : World) (K : Value → World → Prop) : Prop := RunGoal P (Instr.next v1 s ty) w K
def MakeMapGoal (P : Program) (t : TypeId) (v1 : Option Value) (w : World) (K : Value → World → Prop) : Prop := RunGoal P (Instr.makeMap t v1) w K

section
variable {P : Program} {w : World} {ops : Array Oper} {rest : List Oper} {o : Oper} {a : Act} {Q : Exit → Act → World → Prop}

theorem wl_append (hgd : o.guard = none) (x y : Operand) (t1 t2 : TypeId) (ho : o.op = .call { callee := .builtin .append, args := #[x, y], argTypes := #[t1, t2] })
    (v1 v2 : Value) (h1 : a.eval x = v1) (h2 : a.eval y = v2) (h : AppendGoal P t1 t2 o.type v1 v2 w fun v w' => wpList P ops Q rest (a.put o.dst v) w') : wpList P ops Q (o :: rest) a w := by
  obtain ⟨v, w', hr, hk⟩ := h
  refine wpList_plain hgd fun K hK => ?_
  unfold Oper.wp execOp
  simp only [ho, resolve, invoke, builtin, Sem.run_bind, Sem.run_pure, Result.andThen_ok, List.map_toArray, List.map_cons, List.map_nil, h1, h2, hr]
  exact hK _ _ hk

theorem wl_copy (hgd : o.guard = none) (x y : Operand) (t1 t2 : TypeId) (ho : o.op = .call { callee := .builtin .copy, args := #[x, y], argTypes := #[t1, t2] })
    (v1 v2 : Value) (h1 : a.eval x = v1) (h2 : a.eval y = v2) (h : CopyGoal P t1 t2 o.type v1 v2 w fun v w' => wpList P ops Q rest (a.put o.dst v) w') : wpList P ops Q (o :: rest) a w := by
  obtain ⟨v, w', hr, hk⟩ := h
  refine wpList_plain hgd fun K hK => ?_
  unfold Oper.wp execOp
  simp only [ho, resolve, invoke, builtin, Sem.run_bind, Sem.run_pure, Result.andThen_ok, List.map_toArray, List.map_cons, List.map_nil, h1, h2, hr]
  exact hK _ _ hk

theorem wl_max (hgd : o.guard = none) (x y : Operand) (t1 t2 : TypeId) (ho : o.op = .call { callee := .builtin .max, args := #[x, y], argTypes := #[t1, t2] })
    (v1 v2 : Value) (h1 : a.eval x = v1) (h2 : a.eval y = v2) (h : MaxGoal P t1 t2 o.type v1 v2 w fun v w' => wpList P ops Q rest (a.put o.dst v) w') : wpList P ops Q (o :: rest) a w := by
  obtain ⟨v, w', hr, hk⟩ := h
  refine wpList_plain hgd fun K hK => ?_
  unfold Oper.wp execOp
  simp only [ho, resolve, invoke, builtin, Sem.run_bind, Sem.run_pure, Result.andThen_ok, List.map_toArray, List.map_cons, List.map_nil, h1, h2, hr]
  exact hK _ _ hk

theorem wl_min (hgd : o.guard = none) (x y : Operand) (t1 t2 : TypeId) (ho : o.op = .call { callee := .builtin .min, args := #[x, y], argTypes := #[t1, t2] })
    (v1 v2 : Value) (h1 : a.eval x = v1) (h2 : a.eval y = v2) (h : MinGoal P t1 t2 o.type v1 v2 w fun v w' => wpList P ops Q rest (a.put o.dst v) w') : wpList P ops Q (o :: rest) a w := by
  obtain ⟨v, w', hr, hk⟩ := h
  refine wpList_plain hgd fun K hK => ?_
  unfold Oper.wp execOp
  simp only [ho, resolve, invoke, builtin, Sem.run_bind, Sem.run_pure, Result.andThen_ok, List.map_toArray, List.map_cons, List.map_nil, h1, h2, hr]
  exact hK _ _ hk

theorem wl_delete (hgd : o.guard = none) (x y : Operand) (t1 t2 : TypeId) (ho : o.op = .call { callee := .builtin .delete, args := #[x, y], argTypes := #[t1, t2] })
    (v1 v2 : Value) (h1 : a.eval x = v1) (h2 : a.eval y = v2) (h : DeleteGoal P t1 t2 o.type v1 v2 w fun v w' => wpList P ops Q rest (a.put o.dst v) w') : wpList P ops Q (o :: rest) a w := by
  obtain ⟨v, w', hr, hk⟩ := h
  refine wpList_plain hgd fun K hK => ?_
  unfold Oper.wp execOp
  simp only [ho, resolve, invoke, builtin, Sem.run_bind, Sem.run_pure, Result.andThen_ok, List.map_toArray, List.map_cons, List.map_nil, h1, h2, hr]
  exact hK _ _ hk

theorem wl_len (hgd : o.guard = none) (x : Operand) (t1 : TypeId) (ho : o.op = .call { callee := .builtin .len, args := #[x], argTypes := #[t1] })
    (b : Nat) (h1 : a.eval x = .map (some b)) (h : LenGoal P t1 o.type (.map (some b)) w fun v w' => wpList P ops Q rest (a.put o.dst v) w') : wpList P ops Q (o :: rest) a w := by
  obtain ⟨v, w', hr, hk⟩ := h
  refine wpList_plain hgd fun K hK => ?_
  unfold Oper.wp execOp
  simp only [ho, resolve, invoke, builtin, Sem.run_bind, Sem.run_pure, Result.andThen_ok, List.map_toArray, List.map_cons, List.map_nil, h1, hr]
  exact hK _ _ hk

theorem wl_make (hgd : o.guard = none) (l c : Operand) (t : TypeId) (ho : o.op = Op.makeSlice t l c) (v1 v2 : Value) (h1 : a.eval l = v1) (h2 : a.eval c = v2)
    (h : MakeGoal P t v1 v2 w fun v w' => wpList P ops Q rest (a.put o.dst v) w') : wpList P ops Q (o :: rest) a w := by
  obtain ⟨v, w', hr, hk⟩ := h
  refine wpList_plain hgd fun K hK => ?_
  unfold Oper.wp
  simp [execOp, ho, h1, h2, hr, Result.andThen]
  exact hK _ _ hk

theorem wl_mapUpdate (hgd : o.guard = none) (m x v : Operand) (t : TypeId) (ho : o.op = Op.mapUpdate t m x v) (v1 v2 v3 : Value) (h1 : a.eval m = v1) (h2 : a.eval x = v2) (h3 : a.eval v = v3)
    (h : UpdateGoal P t v1 v2 v3 w fun w' => wpList P ops Q rest (a.put o.dst undef) w') : wpList P ops Q (o :: rest) a w := by
  obtain ⟨v, w', hr, hk⟩ := h
  refine wpList_plain hgd fun K hK => ?_
  unfold Oper.wp
  simp [execOp, ho, h1, h2, h3, hr, Result.andThen]
  exact hK _ _ hk

theorem wl_lookup (hgd : o.guard = none) (m x : Operand) (t : TypeId) (c : Bool) (ho : o.op = Op.lookup t m x c) (v1 v2 : Value) (h1 : a.eval m = v1) (h2 : a.eval x = v2)
    (h : LookupGoal P t v1 v2 c w fun v w' => wpList P ops Q rest (a.put o.dst v) w') : wpList P ops Q (o :: rest) a w := by
  obtain ⟨v, w', hr, hk⟩ := h
  refine wpList_plain hgd fun K hK => ?_
  unfold Oper.wp
  simp [execOp, ho, h1, h2, hr, Result.andThen]
  exact hK _ _ hk

theorem wl_range (hgd : o.guard = none) (m : Operand) (t : TypeId) (ho : o.op = Op.range t m) (b : Nat) (h1 : a.eval m = .map (some b))
    (h : RangeGoal P t (.map (some b)) w fun v w' => wpList P ops Q rest (a.put o.dst v) w') : wpList P ops Q (o :: rest) a w := by
  obtain ⟨v, w', hr, hk⟩ := h
  refine wpList_plain hgd fun K hK => ?_
  unfold Oper.wp
  simp [execOp, ho, h1, hr, Result.andThen]
  exact hK _ _ hk

theorem wl_next (hgd : o.guard = none) (it : Operand) (ho : o.op = Op.next it false) (v1 : Value) (h1 : a.eval it = v1)
    (h : NextGoal P v1 false o.type w fun v w' => wpList P ops Q rest (a.put o.dst v) w') : wpList P ops Q (o :: rest) a w := by
  obtain ⟨v, w', hr, hk⟩ := h
  refine wpList_plain hgd fun K hK => ?_
  unfold Oper.wp
  simp [execOp, ho, h1, hr, Result.andThen]
  exact hK _ _ hk
end

/-! runs over such slices -/
section
variable {P : Program} {w : World}

theorem run_max2 (t : Array TypeId) (ty : TypeId) (a b : Int) : (Builtin.max_ t ty #[.int .i64 a, .int .i64 b]).run P w = .ok (.int .i64 (max a b)) w := by
  have e : (if b > a then b else a) = max a b := by simp only [Int.max_def]; split <;> split <;> omega
  simp [Builtin.max_, Builtin.max2, e, List.foldlM]
theorem run_min2 (t : Array TypeId) (ty : TypeId) (a b : Int) : (Builtin.min_ t ty #[.int .i64 a, .int .i64 b]).run P w = .ok (.int .i64 (min a b)) w := by
  have e : (if b < a then b else a) = min a b := by simp only [Int.min_def]; split <;> split <;> omega
  simp [Builtin.min_, Builtin.min2, e, List.foldlM]

/-- append onto a slice of one's own, of whatever source. -/
theorem run_append_sl {A : Nat → Prop} (base : Nat) (t ty e : TypeId) (z : Value) (size bytes : Nat) (ht : P.underlying t = some (.slice e)) (hi : (P.info? e).map (fun i => (i.zero, i.size, i.bytes)) = some (some z, size, bytes))
    (hzs : z.cells.size = size) (hsz : 0 < size) {v vs : Value} {n m : Nat} {xs news : List Value} (hown : w.ownsRow base e size v n xs) (hs : Sl A w size vs m news) (h1 : ∀ u ∈ news, u.oneCell' = true)
    (h63 : n + m ≤ maxLen) (hbytes : (n + m) * bytes ≤ 140737488355328) (hbase : base ≤ w.heap.size) :
    ∃ v' w', (Builtin.append_ #[t, t] ty #[v, vs]).run P w = .ok v' w' ∧ w'.ownsRow base e size v' (n + m) (xs ++ news) ∧ w.grownBy w' v.ownBlock ∧ (v' = .slice none 0 0 ↔ v = .slice none 0 0 ∧ m = 0) ∧ (v'.ownBlock = v.ownBlock ∨ v'.ownBlock = some w.heap.size) := by
  obtain ⟨i, hi, hz0, hz1, hz2⟩ := info_parts hi
  obtain ⟨h1', a, cap, rfl, hnc, _, hnone, hr⟩ := hs
  cases a with
  | none =>
    obtain rfl := hnone rfl
    obtain rfl : m = 0 := by omega
    obtain rfl : news = [] := List.eq_nil_of_length_eq_zero (by simpa using h1')
    refine ⟨v, w, run_append_owned_none (P := P) (w := w) base t ty e i size ht hi v n xs hown, by simpa using hown, World.grownBy.refl _ _, by simp, .inl rfl⟩
  | some a =>
    refine run_append_own_at (P := P) w base t ty e i z size bytes ht hi hz0 hz1 hz2 hzs hsz v n xs hown a m cap news h1' (fun j u hu => ?_) h1 h63 hbytes hbase
    have hm : 0 < m := by
      rcases Nat.eq_zero_or_pos m with h | h
      · subst h
        have := List.eq_nil_of_length_eq_zero (by simpa using h1')
        subst this; simp at hu
      · exact h
    obtain ⟨g, off, e2, _, _, hc⟩ := hr hm
    cases e2
    rw [Addr.add_lit]; exact hc j u hu

/-- make([]T, n) -/
theorem run_make_sl (t e : TypeId) (z : Value) (size bytes : Nat) (ht : P.underlying t = some (.slice e)) (hi : (P.info? e).map (fun i => (i.zero, i.size, i.bytes)) = some (some z, size, bytes))
    (n : Nat) (b2 : bytes * n ≤ 281474976710656) (b3 : n ≤ maxLen) :
    ∃ w', (Instr.makeSlice t (.int .i64 (n : Int)) (.int .i64 (n : Int))).run P w = .ok (.slice (some ⟨w.heap.size, 0, none⟩) n n) w' ∧ Blk w' w.heap.size (madeCells z.cells (n * size)) e ∧ Keep No w w' := by
  obtain ⟨i, hi, hz0, hz1, hz2⟩ := info_parts hi
  obtain ⟨w', hrun, r1, r2⟩ := run_make_full (P := P) w w.heap.size t e i z size ht hi hz0 hz1 .i64 .i64 n (by rw [hz2]; exact b2) b3 (Nat.le_refl _)
  refine ⟨w', hrun, ?_, (Keep.of_grown r2).mono (fun k _ h => by cases h)⟩
  rcases r1.2 with ⟨h, _⟩ | ⟨g, cap, cur, e1, _, hg, _, _, hcs, hct⟩
  · cases h
  · cases e1
    have e2 : cur = madeCells z.cells (n * size) := by
      apply Array.toList_inj.1
      rw [← hct, List.take_of_length_le]
      simp only [Array.length_toList]; omega
    rw [e2] at hg
    exact hg

/-- copy into a row that is known whole. -/
theorem run_copy_sl {A : Nat → Prop} (t ty e t' : TypeId) (ht : P.underlying t = some (.slice e)) (hi : (P.info? e).map (·.size) = some 1)
    {g off dLen dCap : Nat} {cur : Array Value} {dp : Option Addr} {vs : Value} {m : Nat} {cs : List Value} (hb : Blk w g cur t') (hd : 0 < Nat.min m dLen → dp = some ⟨g, off, none⟩) (hs : Sl A w 1 vs m cs) (hfit : off + Nat.min m dLen ≤ cur.size)
    (h1 : ∀ u ∈ cs, u.oneCell' = true) :
    ∃ w', (Builtin.copy_ #[t, t] ty #[.slice dp dLen dCap, vs]).run P w = .ok (.int .i64 (Nat.min m dLen : Nat)) w' ∧ Blk w' g (splice cur.toList off (cs.take dLen)).toArray t' ∧ Keep (fun k => k = g) w w' := by
  have hlen : cs.length = m := by simpa using hs.1
  by_cases h0 : Nat.min m dLen = 0
  · obtain ⟨a, cap, rfl, _, _⟩ := hs.shape
    have hrun := run_copy_none (P := P) w t t ty e dp a dLen dCap m cap ht hi h0
    have e0 : cs.take dLen = [] := by
      apply List.eq_nil_of_length_eq_zero
      rw [List.length_take, hlen, Nat.min_comm]; exact h0
    refine ⟨w, ?_, by rw [e0]; simpa [splice] using hb, Keep.refl _ _⟩
    rw [hrun, h0]; rfl
  · have hm : 0 < m := by
      rcases Nat.eq_zero_or_pos m with h | h
      · subst h; simp at h0
      · exact h
    obtain ⟨g2, off2, cap, rfl, _, _, _, _, hc⟩ := hs.at hm
    obtain rfl := hd (by omega)
    have hl2 : (cs.take dLen).length = Nat.min m dLen := by rw [List.length_take, hlen, Nat.min_comm]
    have hrun := run_copy_row (P := P) w t t ty e g off dLen dCap ⟨g2, off2, none⟩ m cap cur t' (cs.take dLen) ht hi hb hl2 (fun j v hj => by
      rw [Addr.add_lit]; exact hc j v (by
        rw [List.getElem?_take] at hj
        split at hj
        · exact hj
        · cases hj)) (by rw [hl2]; exact hfit) (fun u hu => h1 u (List.mem_of_mem_take hu))
    have e2 : cur.toList.take off ++ cs.take dLen ++ cur.toList.drop (off + (cs.take dLen).length) = splice cur.toList off (cs.take dLen) := by simp [splice]
    rw [e2, hl2] at hrun
    exact ⟨_, hrun, setRow_heap w g cur _ t' _ hb, ⟨rfl, rfl, rfl, by simp, fun k _ hk => setRow_other w g k _ hk⟩⟩
end

/-! bytes -/
def bv (b : UInt8) : Value := .int .u8 (b.toNat : Int)
def Bts (A : Nat → Prop) (w : World) (v : Value) (l : List UInt8) : Prop := Sl A w 1 v l.length (l.map bv)
theorem bv_one (l : List UInt8) : ∀ u ∈ l.map bv, u.oneCell' = true := by
  intro u hu; obtain ⟨_, _, rfl⟩ := List.mem_map.1 hu; rfl
theorem madeCells_u8 (n : Nat) : madeCells (Value.int .u8 0).cells (n * 1) = ((List.replicate n (0 : UInt8)).map bv).toArray := by
  apply Array.toList_inj.1
  apply List.ext_getElem
  · simp [madeCells]
  · intro i h1 h2
    simp [madeCells, Value.cells, bv, Nat.mod_one]
theorem splice_map {α β : Type} (f : α → β) (l : List α) (o : Nat) (m : List α) : splice (l.map f) o (m.map f) = (splice l o m).map f := by
  simp [splice, List.map_take, List.map_drop]
def laidB (xs : List UInt8) (i : Nat) (ys : List UInt8) : List UInt8 := splice (splice (List.replicate (max xs.length (i + ys.length)) 0) 0 xs) i ys
theorem length_laidB (xs : List UInt8) (i : Nat) (ys : List UInt8) : (laidB xs i ys).length = max xs.length (i + ys.length) := by
  unfold laidB
  rw [length_splice _ _ _ (by rw [length_splice _ _ _ (by simp; omega)]; simp; omega), length_splice _ _ _ (by simp; omega)]
  simp
/-- a row of bytes known whole is a slice of bytes. -/
theorem Bts.of_blk {w : World} {g : Nat} {l : List UInt8} {t : TypeId} (h : Blk w g (l.map bv).toArray t) (hm : l.length ≤ maxLen) : Bts (fun k => k = g) w (.slice (some ⟨g, 0, none⟩) l.length l.length) l :=
  Sl.mk (by simp) rfl h.lt (Nat.le_refl _) hm fun j u hu => by rw [h.cell]; simpa using hu

/-! the same runs as answers to the walk's stops -/
section
variable {P : Program} {w : World} {K : Value → World → Prop}
theorem rg_max2 {t1 t2 ty : TypeId} {a b : Int} (h : K (.int .i64 (max a b)) w) : MaxGoal P t1 t2 ty (.int .i64 a) (.int .i64 b) w K := .mk (run_max2 _ _ _ _) h
theorem rg_min2 {t1 t2 ty : TypeId} {a b : Int} (h : K (.int .i64 (min a b)) w) : MinGoal P t1 t2 ty (.int .i64 a) (.int .i64 b) w K := .mk (run_min2 _ _ _ _) h
theorem rg_make (e : TypeId) (z : Value) (size bytes : Nat) {t : TypeId} (ht : P.underlying t = some (.slice e)) (hi : (P.info? e).map (fun i => (i.zero, i.size, i.bytes)) = some (some z, size, bytes))
    {n : Nat} (b2 : bytes * n ≤ 281474976710656) (b3 : n ≤ maxLen)
    (h : ∀ w', Blk w' w.heap.size (madeCells z.cells (n * size)) e → Keep No w w' → K (.slice (some ⟨w.heap.size, 0, none⟩) n n) w') : MakeGoal P t (.int .i64 (n : Int)) (.int .i64 (n : Int)) w K := by
  obtain ⟨w', hr, hb, hk⟩ := run_make_sl (P := P) (w := w) t e z size bytes ht hi n b2 b3
  exact .mk hr (h w' hb hk)
theorem rg_copy {A : Nat → Prop} (e t' : TypeId) {t ty : TypeId} (ht : P.underlying t = some (.slice e)) (hi : (P.info? e).map (·.size) = some 1)
    {g off dLen dCap : Nat} {cur : Array Value} {dp : Option Addr} {vs : Value} {m : Nat} {cs : List Value} (hb : Blk w g cur t') (hs : Sl A w 1 vs m cs) (hd : 0 < min m dLen → dp = some ⟨g, off, none⟩) (hfit : off + min m dLen ≤ cur.size)
    (h1 : ∀ u ∈ cs, u.oneCell' = true)
    (h : ∀ w', Blk w' g (splice cur.toList off (cs.take dLen)).toArray t' → Keep (fun k => k = g) w w' → K (.int .i64 (min m dLen : Nat)) w') : CopyGoal P t t ty (.slice dp dLen dCap) vs w K := by
  obtain ⟨w', hr, hb, hk⟩ := run_copy_sl (P := P) (w := w) (dCap := dCap) t ty e t' ht hi hb hd hs hfit h1
  exact .mk hr (h w' hb hk)
theorem rg_append {A : Nat → Prop} (base : Nat) (e : TypeId) (z : Value) (size bytes : Nat) {t ty : TypeId} (ht : P.underlying t = some (.slice e)) (hi : (P.info? e).map (fun i => (i.zero, i.size, i.bytes)) = some (some z, size, bytes))
    (hzs : z.cells.size = size) (hsz : 0 < size) {v vs : Value} {n m : Nat} {xs news : List Value} (hown : w.ownsRow base e size v n xs) (hs : Sl A w size vs m news) (h1 : ∀ u ∈ news, u.oneCell' = true)
    (h63 : n + m ≤ maxLen) (hbytes : (n + m) * bytes ≤ 140737488355328) (hbase : base ≤ w.heap.size)
    (h : ∀ v' w', w'.ownsRow base e size v' (n + m) (xs ++ news) → Keep (fun k => some k = v.ownBlock) w w' → (v' = .slice none 0 0 ↔ v = .slice none 0 0 ∧ m = 0) → (v'.ownBlock = v.ownBlock ∨ v'.ownBlock = some w.heap.size) → K v' w') :
    AppendGoal P t t ty v vs w K := by
  obtain ⟨v', w', hr, ho, hg, hn, hl⟩ := run_append_sl (P := P) (w := w) base t ty e z size bytes ht hi hzs hsz hown hs h1 h63 hbytes hbase
  exact .mk hr (h v' w' ho (Keep.of_grown hg) hn hl)
end
end Go.Dm
namespace Go.Dm.Oc
open Go
/-- the number of bytes, the lowest first -/
def leN : List UInt8 → Nat
  | [] => 0
  | b :: r => b.toNat + 256 * leN r
def le : Nat → Nat → List UInt8
  | 0, _ => []
  | n + 1, x => UInt8.ofNat (x % 256) :: le n (x / 256)
theorem le_len (n x : Nat) : (le n x).length = n := by
  induction n generalizing x with
  | zero => rfl
  | succ n ih => simp [le, ih]
theorem leN_le (n x : Nat) : leN (le n x) = x % 256 ^ n := by
  induction n generalizing x with
  | zero => simp [le, leN, Nat.mod_one]
  | succ n ih =>
    simp only [le, leN, ih, UInt8.toNat_ofNat', Nat.reducePow, Nat.mod_mod]
    rw [Nat.pow_succ, Nat.mul_comm (256 ^ n) 256, Nat.mod_mul]
theorem leN_lt (l : List UInt8) : leN l < 256 ^ l.length := by
  induction l with
  | nil => simp [leN]
  | cons b r ih =>
    have := b.toNat_lt
    simp only [leN, List.length_cons, Nat.pow_succ]
    omega
theorem leN_snoc (l : List UInt8) (b : UInt8) : leN (l ++ [b]) = leN l + 256 ^ l.length * b.toNat := by
  induction l with
  | nil => simp [leN]
  | cons c r ih =>
    simp only [List.cons_append, leN, ih, List.length_cons, Nat.pow_succ]
    rw [Nat.mul_add, Nat.mul_comm (256 ^ r.length) 256, Nat.mul_assoc, Nat.add_assoc]
theorem le_get (n x i : Nat) (hi : i < n) : (le n x)[i]'(by rw [le_len]; exact hi) = UInt8.ofNat (x / 256 ^ i % 256) := by
  induction n generalizing x i with
  | zero => omega
  | succ n ih =>
    cases i with
    | zero => simp [le]
    | succ i =>
      simp only [le, List.getElem_cons_succ]
      rw [ih (x / 256) i (by omega), Nat.div_div_eq_div_mul, Nat.pow_succ, Nat.mul_comm 256]
/-- one byte more is laid on top -/
theorem or_top (x b n : Nat) (hx : x < 2 ^ n) : x ||| (b * 2 ^ n) = x + 2 ^ n * b := by
  rw [Nat.or_comm, Go.nat_join n (b * 2 ^ n) x (Nat.mul_mod_left _ _) hx, Nat.mul_comm]; omega
theorem pow256 (i : Nat) : 256 ^ i = 2 ^ (8 * i) := by rw [Nat.pow_mul]
def widthB (n : Int) : Bool := decide (n = 1 ∨ n = 2 ∨ n = 4 ∨ n = 8)
def hasB (many at_ size : Nat) : Bool := decide (at_ ≤ many) && decide (size ≤ many - at_)
def fitsE (many at_ : Nat) (n : Int) : Nat := if widthB n then if hasB many at_ n.toNat then 0 else 10 else 1
def getX (b : List UInt8) (at_ : Nat) (n : Int) : Nat := if fitsE b.length at_ n = 0 then leN ((b.drop at_).take n.toNat) else 0
theorem fits_parts {many at_ : Nat} {n : Int} (h : fitsE many at_ n = 0) : (n = 1 ∨ n = 2 ∨ n = 4 ∨ n = 8) ∧ at_ ≤ many ∧ n.toNat ≤ many - at_ := by
  unfold fitsE at h
  split at h
  · rename_i hw
    split at h
    · rename_i hh
      simp only [hasB, Bool.and_eq_true, decide_eq_true_eq] at hh
      simp only [widthB, decide_eq_true_eq] at hw
      exact ⟨hw, hh⟩
    · cases h
  · cases h
/-- bytes laid over others from a place on -/
def setR : List UInt8 → Nat → List UInt8 → List UInt8
  | l, _, [] => l
  | l, k, x :: r => setR (l.set k x) (k + 1) r
theorem setR_len (l : List UInt8) (k : Nat) (c : List UInt8) : (setR l k c).length = l.length := by
  induction c generalizing l k with
  | nil => rfl
  | cons x r ih => unfold setR; rw [ih, List.length_set]
theorem setR_snoc (l : List UInt8) (k : Nat) (c : List UInt8) (x : UInt8) : setR l k (c ++ [x]) = (setR l k c).set (k + c.length) x := by
  induction c generalizing l k with
  | nil => rfl
  | cons y r ih =>
    show setR (l.set k y) (k + 1) (r ++ [x]) = (setR (l.set k y) (k + 1) r).set (k + (r.length + 1)) x
    rw [ih]
    congr 1
    omega
theorem setR_whole (l c : List UInt8) (h : c.length = l.length) : setR l 0 c = c := by
  suffices h2 : ∀ (k : Nat) (l c : List UInt8), k + c.length = l.length → setR l k c = l.take k ++ c by simpa using h2 0 l c (by omega)
  intro k l c
  induction c generalizing k l with
  | nil => intro h; simp only [setR, List.append_nil]; rw [List.take_of_length_le (by simpa using Nat.le_of_eq h.symm)]
  | cons x r ih =>
    intro h
    rw [List.length_cons] at h
    unfold setR
    rw [ih (k + 1) (l.set k x) (by rw [List.length_set]; omega), List.take_succ_eq_append_getElem (by rw [List.length_set]; omega), List.getElem_set_self, List.take_set_of_le (Nat.le_refl _), List.append_assoc]
    rfl
theorem getX_whole (b : List UInt8) (n : Nat) (h : b.length = n) (hn : n = 1 ∨ n = 2 ∨ n = 4 ∨ n = 8) : fitsE b.length 0 n = 0 ∧ getX b 0 n = leN b := by
  have hf : fitsE b.length 0 n = 0 := by
    unfold fitsE
    rw [if_pos (by simp only [widthB, decide_eq_true_eq]; omega), if_pos (by simp only [hasB, Bool.and_eq_true, decide_eq_true_eq]; omega)]
  refine ⟨hf, ?_⟩
  unfold getX
  rw [if_pos hf, List.drop_zero, List.take_of_length_le (by omega)]
end Go.Dm.Oc
namespace Go.Dm.Ld
open Go Go.Dm.Oc
abbrev BS := List UInt8

/-- so many bytes from a place on -/
def cutM (b : BS) (at_ size : Nat) : Nat × BS := if hasB b.length at_ size then (0, (b.drop at_).take size) else (10, [])

/-! heads -/
structure Hd where
  kind : Nat
  entry : Nat
  segs : Nat
  count : Nat
deriving DecidableEq
def hd0 : Hd := ⟨0, 0, 0, 0⟩
def magic : BS := [127, 69, 76, 70, 2, 1, 1, 0, 0, 0, 0, 0, 0, 0, 0, 0]
def headB (h : Hd) : BS := magic ++ le 2 h.kind ++ le 2 19823 ++ le 4 1 ++ le 8 h.entry ++ le 8 h.segs ++ le 8 0 ++ le 4 0 ++ le 2 64 ++ le 2 56 ++ le 2 h.count ++ le 2 0 ++ le 2 0 ++ le 2 0
def headOk (h : Hd) : Bool := decide (2 ≤ h.kind) && decide (h.kind ≤ 4) && decide (h.count ≤ 64)
def headIn (b : BS) : Hd := ⟨getX b 16 2, getX b 24 8, getX b 32 8, getX b 56 2⟩
def headM (b : BS) : Nat × Hd :=
  if b.length < 64 then (10, hd0) else if headOk (headIn b) && decide (headB (headIn b) = b.take 64) then (0, headIn b) else (11, hd0)
theorem headB_len (h : Hd) : (headB h).length = 64 := by
  simp only [headB, List.length_append, le_len, magic, List.length_cons, List.length_nil]

/-! segments -/
structure Sg where
  ty : Nat
  fl : Nat
  off : Nat
  va : Nat
  fi : Nat
  me : Nat
  al : Nat
deriving DecidableEq
def sg0 : Sg := ⟨0, 0, 0, 0, 0, 0, 0⟩
def SgOk (s : Sg) : Prop := s.ty < 4294967296 ∧ s.fl < 4294967296 ∧ s.off < 18446744073709551616 ∧ s.va < 18446744073709551616 ∧ s.fi < 18446744073709551616 ∧ s.me < 18446744073709551616 ∧ s.al < 18446744073709551616
def sgIn (b : BS) : Sg := ⟨getX b 0 8 % 4294967296, getX b 0 8 / 4294967296, getX b 8 8, getX b 16 8, getX b 32 8, getX b 40 8, getX b 48 8⟩
def sgGet (b : BS) : Nat × Sg :=
  if b.length < 56 then (10, sg0) else if getX b 16 8 = getX b 24 8 then (0, sgIn b) else (11, sg0)
def sgGo (rest : BS) : Nat → Nat → List Sg → Nat × List Sg
  | 0, _, acc => (0, acc)
  | k + 1, i, acc => if (sgGet (rest.drop (i * 56))).1 = 0 then sgGo rest k (i + 1) (acc ++ [(sgGet (rest.drop (i * 56))).2]) else ((sgGet (rest.drop (i * 56))).1, [])
def sgTab (b : BS) (at_ n : Nat) : Nat × List Sg :=
  if 64 < n then (1, []) else if (cutM b at_ (n * 56)).1 = 0 then sgGo (cutM b at_ (n * 56)).2 n 0 [] else ((cutM b at_ (n * 56)).1, [])
def kindB (k : Nat) : Bool := decide (k = 0 ∨ k = 1 ∨ k = 2 ∨ k = 4 ∨ k = 7)
def firstM (s : Sg) : Nat := s.va / 256 * 256
def lastM (s : Sg) : Nat := (s.va + s.me + 255) / 256 * 256
def oneE (s : Sg) (size : Nat) : Nat :=
  if kindB s.ty = false ∨ 7 < s.fl then 11
  else if s.ty = 0 then 0
  else if size < s.off ∨ size - s.off < s.fi then 10
  else if s.me < s.fi then 11
  else if 4294967296 < s.va ∨ 4294967296 - s.va < s.me then 13
  else if s.ty = 1 ∧ (s.va % 256 ≠ s.off % 256 ∨ s.me = 0) then 11
  else 0
def singleB (s : Sg) : Bool := decide (s.ty = 2 ∨ s.ty = 7)
def liesB (x s : Sg) : Bool := decide (x.ty = 1 ∧ x.off ≤ s.off ∧ s.off - x.off ≤ x.fi ∧ s.fi ≤ x.fi - (s.off - x.off) ∧ (x.va + s.off) % 18446744073709551616 = (s.va + x.off) % 18446744073709551616)
def withinB (l : List Sg) (s : Sg) : Bool := decide (s.fi = 0) || l.any fun x => liesB x s
def chkA (size : Nat) : List Sg → Nat → List Sg → Nat
  | _, _, [] => 0
  | pre, bh, s :: r =>
    if oneE s size ≠ 0 then oneE s size
    else if singleB s = true ∧ pre.any (fun x => x.ty == s.ty) = true then 12
    else if s.ty = 1 then (if firstM s < bh then 12 else chkA size (pre ++ [s]) (lastM s) r)
    else chkA size (pre ++ [s]) bh r
def chkE (l : List Sg) (size : Nat) : Nat :=
  if chkA size [] 0 l ≠ 0 then chkA size [] 0 l else if l.any (fun s => singleB s && !withinB l s) then 11 else 0
def findM (l : List Sg) (k : Nat) : Option Sg := l.find? fun s => s.ty == k
def holdsB (s : Sg) (addr size : Nat) : Bool := decide (0 < size ∧ s.ty = 1 ∧ s.va ≤ addr ∧ addr - s.va ≤ s.fi ∧ size ≤ s.fi - (addr - s.va))
def placeM : List Sg → Nat → Nat → Nat × Nat
  | [], _, _ => (40, 0)
  | s :: r, addr, size => if holdsB s addr size then (0, s.off + (addr - s.va)) else placeM r addr size

/-! entries -/
structure Dy where
  need : List Nat
  v : List Nat
deriving DecidableEq
def dy0 : Dy := ⟨[], [0, 0, 0, 0, 0, 0, 0]⟩
/-- where a tag's number stands: Soname, Strtab, Strsz, Symtab, Symnum, Rela, Relasz -/
def tagAt (t : Nat) : Option Nat :=
  if t = 14 then some 0 else if t = 5 then some 1 else if t = 10 then some 2 else if t = 6 then some 3 else if t = 1610612749 then some 4 else if t = 7 then some 5 else if t = 8 then some 6 else none
def seenOk (s : List Bool) : Bool := s.getD 1 false && s.getD 2 false && (s.getD 3 false == s.getD 4 false) && (s.getD 5 false == s.getD 6 false)
def dyGo (b : BS) : Nat → Nat → Dy → List Bool → Nat × Dy
  | 0, _, _, _ => (10, dy0)
  | f + 1, at_, x, seen =>
    if hasB b.length at_ 16 = false then (10, dy0)
    else if getX b at_ 8 = 0 then (if seenOk seen then (0, x) else (11, dy0))
    else if getX b at_ 8 = 1 then dyGo b f (at_ + 16) { x with need := x.need ++ [getX b (at_ + 8) 8] } seen
    else match tagAt (getX b at_ 8) with
      | none => (11, dy0)
      | some k => if seen.getD k false then (12, dy0) else dyGo b f (at_ + 16) { x with v := x.v.set k (getX b (at_ + 8) 8) } (seen.set k true)
def dyM (b : BS) : Nat × Dy := dyGo b (b.length / 16 + 1) 0 dy0 [false, false, false, false, false, false, false]

/-! names -/
def atM (t : BS) (at_ : Nat) : Nat × BS :=
  if t.length ≤ at_ then (10, []) else if (t.drop at_).contains 0 then (0, (t.drop at_).takeWhile (· != 0)) else (11, [])
def chkN (t : BS) : Nat := if t.head? = some 0 ∧ t.getLast? = some 0 then 0 else 11

/-! symbols -/
structure Sy where
  nm : Nat
  inf : Nat
  oth : Nat
  sec : Nat
  val : Nat
  sz : Nat
deriving DecidableEq
def sy0 : Sy := ⟨0, 0, 0, 0, 0, 0⟩
def SyOk (s : Sy) : Prop := s.nm < 4294967296 ∧ s.inf < 256 ∧ s.oth < 256 ∧ s.sec < 65536 ∧ s.val < 18446744073709551616 ∧ s.sz < 18446744073709551616
def syIn (b : BS) (i : Nat) : Sy := ⟨getX b i 4, getX b (i + 4) 1, getX b (i + 5) 1, getX b (i + 6) 2, getX b (i + 8) 8, getX b (i + 16) 8⟩
def syTab (b : BS) : Nat × List Sy := if b.length % 24 = 0 then (0, (List.range (b.length / 24)).map fun i => syIn b (24 * i)) else (10, [])
def mayS (s : Sy) : Bool :=
  decide (s.inf / 16 ≤ 2) && decide (s.inf % 16 = 0 ∨ s.inf % 16 = 1 ∨ s.inf % 16 = 2 ∨ s.inf % 16 = 6) && decide (s.oth = 0) && decide (s.sec ≤ 1) && decide (s.nm ≠ 0) && (decide (s.sec ≠ 0) || decide (s.val = 0 ∧ s.sz = 0 ∧ s.inf / 16 ≠ 0))
def chkS : List Sy → Nat
  | [] => 0
  | s :: r => if s = sy0 ∧ r.all mayS = true then 0 else 11

/-! relocations -/
structure Rl where
  off : Nat
  ty : Nat
  sym : Nat
  add : Nat
deriving DecidableEq
def RlOk (x : Rl) : Prop := x.off < 18446744073709551616 ∧ x.ty < 4294967296 ∧ x.sym < 4294967296 ∧ x.add < 18446744073709551616
def rlIn (b : BS) (i : Nat) : Rl := ⟨getX b i 8, getX b (i + 8) 4, getX b (i + 12) 4, getX b (i + 16) 8⟩
def rlTab (b : BS) : Nat × List Rl := if b.length % 24 = 0 then (0, (List.range (b.length / 24)).map fun i => rlIn b (24 * i)) else (10, [])
def knownB (t : Nat) : Bool := decide (t = 0 ∨ t = 1 ∨ t = 6 ∨ t = 7 ∨ t = 8 ∨ t = 16 ∨ t = 17 ∨ t = 18)
def rlE (n : Nat) (x : Rl) : Nat :=
  if knownB x.ty = false then 33 else if 0 < x.sym ∧ n ≤ x.sym then 10 else if decide (x.ty = 0 ∨ x.ty = 8) = decide (x.sym = 0) then 0 else 11
def chkR (n : Nat) : List Rl → Nat
  | [] => 0
  | x :: r => if rlE n x = 0 then chkR n r else rlE n x

/-! images -/
structure Im where
  hd : Hd
  segs : List Sg
  so : BS
  need : List BS
  names : List BS
  syms : List Sy
  rels : List Rl
  bytes : BS
deriving DecidableEq
def im0 : Im := ⟨hd0, [], [], [], [], [], [], []⟩
def shapeM (b : BS) : Nat × Hd × List Sg :=
  if (headM b).1 ≠ 0 then ((headM b).1, hd0, [])
  else if (headM b).2.kind = 4 then (11, hd0, [])
  else if (sgTab b (headM b).2.segs (headM b).2.count).1 ≠ 0 then ((sgTab b (headM b).2.segs (headM b).2.count).1, hd0, [])
  else if chkE (sgTab b (headM b).2.segs (headM b).2.count).2 b.length ≠ 0 then (chkE (sgTab b (headM b).2.segs (headM b).2.count).2 b.length, hd0, [])
  else if findM (sgTab b (headM b).2.segs (headM b).2.count).2 1 = none then (11, hd0, [])
  else (0, (headM b).2, (sgTab b (headM b).2.segs (headM b).2.count).2)
/-- the bytes of an address -/
def atI (b : BS) (l : List Sg) (addr size : Nat) : Nat × BS :=
  if (placeM l addr size).1 = 0 then cutM b (placeM l addr size).2 size else ((placeM l addr size).1, [])
def needGo (t : BS) : List Nat → List BS → Nat × List BS
  | [], acc => (0, acc)
  | p :: r, acc => if (atM t p).1 ≠ 0 then ((atM t p).1, []) else if (atM t p).2 = [] then (11, []) else needGo t r (acc ++ [(atM t p).2])
structure Nd where
  info : Dy
  table : BS
  so : BS
  need : List BS
def nd0 : Nd := ⟨dy0, [], [], []⟩
def soM (t : BS) (p : Nat) : Nat × BS := if p = 0 then (0, []) else atM t p
def namedM (b : BS) (l : List Sg) (s : Sg) : Nat × Nd :=
  if (cutM b s.off s.fi).1 ≠ 0 then ((cutM b s.off s.fi).1, nd0)
  else if (dyM (cutM b s.off s.fi).2).1 ≠ 0 then ((dyM (cutM b s.off s.fi).2).1, nd0)
  else
    let d := (dyM (cutM b s.off s.fi).2).2
    if (atI b l (d.v.getD 1 0) (d.v.getD 2 0)).1 ≠ 0 then ((atI b l (d.v.getD 1 0) (d.v.getD 2 0)).1, nd0)
    else
      let t := (atI b l (d.v.getD 1 0) (d.v.getD 2 0)).2
      if chkN t ≠ 0 then (chkN t, nd0)
      else if (soM t (d.v.getD 0 0)).1 ≠ 0 then ((soM t (d.v.getD 0 0)).1, nd0)
      else if (needGo t d.need []).1 ≠ 0 then ((needGo t d.need []).1, nd0)
      else (0, ⟨d, t, (soM t (d.v.getD 0 0)).2, (needGo t d.need []).2⟩)
def nmGo (t : BS) : List Sy → List BS → Nat × List BS
  | [], acc => (0, acc)
  | s :: r, acc => if (atM t s.nm).1 ≠ 0 then ((atM t s.nm).1, []) else nmGo t r (acc ++ [(atM t s.nm).2])
def symsM (b : BS) (l : List Sg) (d : Dy) (t : BS) : Nat × List Sy × List BS :=
  if 1024 < d.v.getD 4 0 then (13, [], [])
  else if d.v.getD 4 0 = 0 then (0, [], [])
  else
    let c := atI b l (d.v.getD 3 0) (24 * d.v.getD 4 0)
    if c.1 ≠ 0 then (c.1, [], [])
    else if chkS (syTab c.2).2 ≠ 0 then (chkS (syTab c.2).2, [], [])
    else if (nmGo t (syTab c.2).2 []).1 ≠ 0 then ((nmGo t (syTab c.2).2 []).1, [], [])
    else (0, (syTab c.2).2, (nmGo t (syTab c.2).2 []).2)
def relsM (b : BS) (l : List Sg) (d : Dy) (n : Nat) : Nat × List Rl :=
  if 65536 < d.v.getD 6 0 then (13, [])
  else if d.v.getD 6 0 = 0 then (0, [])
  else
    let c := atI b l (d.v.getD 5 0) (d.v.getD 6 0)
    if c.1 ≠ 0 then (c.1, [])
    else if (rlTab c.2).1 ≠ 0 then ((rlTab c.2).1, [])
    else (chkR n (rlTab c.2).2, (rlTab c.2).2)
def loadedB (l : List Sg) (a : Nat) : Bool := l.any fun s => decide (s.ty = 1 ∧ s.va ≤ a ∧ a - s.va ≤ s.me ∧ 8 ≤ s.me - (a - s.va))
def sySound (l : List Sg) : List Sy → Nat
  | [] => 0
  | s :: r =>
    if s.sec = 0 then sySound l r
    else if s.inf % 16 = 6 then
      match findM l 7 with
      | none => 11
      | some t => if t.me < s.val then 11 else sySound l r
    else if 4294967296 < s.val then 13
    else sySound l r
def soundM (l : List Sg) (rels : List Rl) (syms : List Sy) : Nat :=
  if rels.any (fun x => decide (x.ty ≠ 0) && !loadedB l x.off) then 40 else sySound l syms
/-- what a file says -/
def parseM (b : BS) : Nat × Im :=
  if 65536 < b.length then (13, im0)
  else if (shapeM b).1 ≠ 0 then ((shapeM b).1, im0)
  else
    let l := (shapeM b).2.2
    match findM l 2 with
    | none => if soundM l [] [] ≠ 0 then (soundM l [] [], im0) else (0, ⟨(shapeM b).2.1, l, [], [], [], [], [], b⟩)
    | some s =>
      let n := namedM b l s
      if n.1 ≠ 0 then (n.1, im0)
      else
        let y := symsM b l n.2.info n.2.table
        if y.1 ≠ 0 then (y.1, im0)
        else
          let x := relsM b l n.2.info y.2.1.length
          if x.1 ≠ 0 then (x.1, im0)
          else if soundM l x.2 y.2.1 ≠ 0 then (soundM l x.2 y.2.1, im0)
          else (0, ⟨(shapeM b).2.1, l, n.2.so, n.2.need, y.2.2, y.2.1, x.2, b⟩)
end Go.Dm.Ld
namespace Go.Dm.Ld
open Go
abbrev Fs := List (BS × BS)
def findF (fs : Fs) (n : BS) : Option BS := (fs.find? fun f => f.1 == n).map (·.2)
/-- the unit of a name -/
def unitM (n : BS) (fs : Fs) (first : Bool) : Nat × Im :=
  match findF fs n with
  | none => (31, im0)
  | some b => if (parseM b).1 ≠ 0 then ((parseM b).1, im0) else if first = decide ((parseM b).2.hd.kind = 2) then (0, (parseM b).2) else (11, im0)
/-- names, and those that are needed and not among them; none: there are too many -/
def addN : List BS → List BS → Option (List BS)
  | names, [] => some names
  | names, n :: r => if n ∈ names then addN names r else if names.length = 8 then none else addN (names ++ [n]) r
/-- units that need one another round: those of S each need one of S -/
def Stuck (us : List (BS × Im)) (S : List BS) : Prop := ∀ x ∈ S, ∃ u ∈ us, u.1 = x ∧ ∃ n ∈ u.2.need, n ∈ S
def strip (us : List (BS × Im)) (S : List BS) : List BS := S.filter fun x => us.any fun u => u.1 == x && u.2.need.any fun n => S.contains n
def stripN (us : List (BS × Im)) : Nat → List BS → List BS
  | 0, S => S
  | k + 1, S => stripN us k (strip us S)
def cycB (us : List (BS × Im)) : Bool := !(stripN us us.length (us.map (·.1))).isEmpty
def orderGo (fs : Fs) : Nat → List BS → List (BS × Im) → Nat × List (BS × Im)
  | 0, _, out => if cycB out then (30, []) else (0, out)
  | f + 1, names, out =>
    match names[out.length]? with
    | none => if cycB out then (30, []) else (0, out)
    | some n =>
      if (unitM n fs (decide (out.length = 0))).1 ≠ 0 then ((unitM n fs (decide (out.length = 0))).1, [])
      else
        match addN names (unitM n fs (decide (out.length = 0))).2.need with
        | none => (13, [])
        | some names' => orderGo fs f names' (out ++ [(n, (unitM n fs (decide (out.length = 0))).2)])
def orderM (root : BS) (fs : Fs) : Nat × List (BS × Im) := orderGo fs 8 [root] []
end Go.Dm.Ld
namespace Go.Dm.Ld
open Go
structure Md where
  name : BS
  base : Nat
  low : Nat
  high : Nat
  tls : Bool
  off : Nat
  mem : Nat
deriving DecidableEq
def inM (a : Nat) (m : Md) : Bool := decide (m.low ≤ a) && decide (a < m.high)
def ofM (l : List Md) (a : Nat) : Int := if l.any (inM a) then (l.findIdx (inM a) : Int) else -1
def up8 (n : Nat) : Nat := (n + 7) / 8 * 8
def blockM : List Md → Nat
  | [] => 0
  | m :: r => (if m.tls then up8 m.mem else 0) + blockM r
theorem blockM_append (l : List Md) (m : Md) : blockM (l ++ [m]) = blockM l + (if m.tls then up8 m.mem else 0) := by
  induction l with
  | nil => simp [blockM]
  | cons a r ih => rw [List.cons_append, blockM, ih, blockM]; omega
theorem blockM_le (l : List Md) (h : ∀ m ∈ l, m.mem ≤ 1099511627776) : blockM l ≤ l.length * 1099511627784 := by
  induction l with
  | nil => simp [blockM]
  | cons a r ih =>
    have h1 := ih fun m hm => h m (List.mem_cons_of_mem _ hm)
    have h2 := h a (List.mem_cons_self ..)
    have h3 : (if a.tls = true then up8 a.mem else 0) ≤ 1099511627784 := by
      unfold up8
      split <;> omega
    rw [blockM, List.length_cons, Nat.add_mul]
    omega
/-- have so many bytes from a on and so many from b on one in common? -/
def meetM (a n b m : Nat) : Bool := decide (0 < n) && decide (0 < m) && (if a ≤ b then decide (b - a < n) else decide (a - b < m))
/-- the pages of segments: the first address, and the one behind the last -/
def spanGo : List Sg → Nat × Nat × Bool → Nat × Nat × Bool
  | [], x => x
  | s :: r, (lo, hi, b) => spanGo r (if s.ty = 1 then ((if !b || decide (firstM s < lo) then firstM s else lo), max hi (lastM s), true) else (lo, hi, b))
def spanM (l : List Sg) : Nat × Nat := ((spanGo l (0, 0, false)).1, (spanGo l (0, 0, false)).2.1)
def basesGo : List (BS × Im) → Nat → Nat → List Nat → List Nat
  | [], _, _, out => out
  | u :: r, i, at_, out =>
    let a := if 0 < i then (at_ + 18446744073709551616 - (spanM u.2.segs).1) % 18446744073709551616 else at_
    basesGo r (i + 1) ((a + (spanM u.2.segs).2 + 256) % 18446744073709551616) (out ++ [a])
def basesM (us : List (BS × Im)) : List Nat := basesGo us 0 4096 []
def modM (u : BS × Im) (b : Nat) (out : List Md) : Md :=
  match findM u.2.segs 7 with
  | some s => ⟨u.1, b, b + (spanM u.2.segs).1, b + (spanM u.2.segs).2, true, blockM out, s.me⟩
  | none => ⟨u.1, b, b + (spanM u.2.segs).1, b + (spanM u.2.segs).2, false, 0, 0⟩
def meetsM (lo hi : Nat) (x : Md) : Bool := meetM x.low (x.high - x.low) lo (hi - lo)
def layGo : List (BS × Im) → List Nat → List Md → Nat × List Md
  | [], _, out => (0, out)
  | _ :: _, [], out => (0, out)
  | u :: r, b :: bs, out =>
    if b % 256 ≠ 0 ∨ 4294967296 < b ∨ 4294967296 - b < (spanM u.2.segs).2 then (34, [])
    else if out.any (meetsM (b + (spanM u.2.segs).1) (b + (spanM u.2.segs).2)) then (12, [])
    else layGo r bs (out ++ [modM u b out])
def layL (us : List (BS × Im)) (bases : List Nat) : Nat × List Md := if us.length ≠ bases.length then (1, []) else layGo us bases []
end Go.Dm.Ld
