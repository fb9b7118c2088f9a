/- Memory, said once for all walks of this seat: what stays (Keep), a slice that reads as a list of cells (Sl), runs of append, copy and make over such slices, and stops of the walk at hard operations (RunGoal). Numbers in bytes, the lowest first: plain laws, no program in sight. What a file says: the loader's plain model, no program in sight. The closure's plain model. Data that can be read: shapes (Sh), how cells read as them (Rd), and that every argument whose type fits a shape reads so. A call of a function value enters its function. No condition. -/
import Derived.WalkKit
import Derived.WalkLawsBesides
import Derived.WalkSpells
import Derived.Lib.Hide
import Derived.Lib.SliceRun
import Derived.Laws.CopyOwn
import Derived.Maps.OwnSet
import Derived.Maps.RangeWalk
import Derived.Maps.OwnOps
import Derived.Maps.AppendAt
import Derived.Deep.QuietTactic
import Derived.BigQuiet
import Derived.Laws.BitsAllLaws
import Derived.Deep.Slices
import Derived.OpenShut
import Derived.WideShapes
import Derived.Test.YtbnahidopemkiaaGreatProg
set_option linter.unusedVariables false
set_option linter.unusedSimpArgs false
namespace Go.Dm
open Go Go.RowKit

/-- Of what was there, all that is not in A is as it was. -/
structure Keep (A : Nat → Prop) (w w' : World) : Prop where
  os : w'.os = w.os
  tape : w'.tape = w.tape
  output : w'.output = w.output
  size : w.heap.size ≤ w'.heap.size
  block : ∀ k, k < w.heap.size → ¬ A k → w'.heap[k]? = w.heap[k]?

def No : Nat → Prop := fun _ => False
theorem Keep.refl (A : Nat → Prop) (w : World) : Keep A w w := ⟨rfl, rfl, rfl, Nat.le_refl _, fun _ _ _ => rfl⟩
theorem Keep.mono {A B : Nat → Prop} {w w' : World} (h : Keep A w w') (hab : ∀ k, k < w.heap.size → A k → B k) : Keep B w w' :=
  ⟨h.os, h.tape, h.output, h.size, fun k hk hb => h.block k hk fun ha => hb (hab k hk ha)⟩
theorem Keep.trans {A B : Nat → Prop} {a b c : World} (h : Keep A a b) (k : Keep B b c) (hB : ∀ j, j < a.heap.size → B j → A j) : Keep A a c :=
  ⟨k.os.trans h.os, k.tape.trans h.tape, k.output.trans h.output, Nat.le_trans h.size k.size,
    fun i hi hA => (k.block i (Nat.lt_of_lt_of_le hi h.size) fun hb => hA (hB i hi hb)).trans (h.block i hi hA)⟩
theorem Keep.trans' {A : Nat → Prop} {a b c : World} (h : Keep A a b) (k : Keep A b c) : Keep A a c := h.trans k fun _ _ h => h
theorem Keep.drew {A : Nat → Prop} {a w : World} (h : Keep A a w) : Keep A a w.drew := ⟨h.os, h.tape, h.output, h.size, h.block⟩
theorem Keep.drewN {A : Nat → Prop} {a w : World} (h : Keep A a w) (n : Nat) : Keep A a (w.drewN n) := ⟨h.os, h.tape, h.output, h.size, h.block⟩
theorem Keep.alloc {A : Nat → Prop} {a w : World} (h : Keep A a w) (o : Obj) : Keep A a (w.alloc o) :=
  h.trans ⟨rfl, rfl, rfl, by simp, fun k hk _ => Below.heap_alloc _ _ _ hk⟩ (B := No) fun _ _ h => h.elim
theorem Keep.setCell {A : Nat → Prop} {a w : World} (h : Keep A a w) {p : Addr} (hp : p.block < a.heap.size → A p.block) (u : Value) : Keep A a (w.setCell p u) :=
  ⟨h.os, h.tape, h.output, by simpa [World.setCell] using h.size, fun k hk hA => (Below.heap_setCell _ _ _ _ fun e => by subst e; exact hA (hp hk)).trans (h.block k hk hA)⟩
theorem Keep.below {A : Nat → Prop} {w w' : World} (h : Keep A w w') (B : Nat) (hB : B ≤ w.heap.size) (hA : ∀ k, A k → B ≤ k) : Below B w w' :=
  ⟨h.os, h.tape, h.output, h.size, fun k hk => h.block k (by omega) fun ha => by have := hA k ha; omega⟩
theorem Keep.of_grown {w w' : World} {row : Option Nat} (h : w.grownBy w' row) : Keep (fun k => some k = row) w w' := ⟨h.os, h.tape, h.output, h.size, fun k hk hA => h.block k hk hA⟩
theorem Keep.cell {A : Nat → Prop} {w w' : World} (h : Keep A w w') {p : Addr} (hp : p.block < w.heap.size) (hA : ¬ A p.block) : w'.cell? p = w.cell? p := World.cell?_of_block (w := w) (h.block p.block hp hA)
theorem Keep.frozen {A : Nat → Prop} {w w' : World} (h : Keep A w w') {p : Addr} (hp : p.block < w.heap.size) (hA : ¬ A p.block) : w'.frozen? p = w.frozen? p := World.frozen?_of_block (w := w) (h.block p.block hp hA)

/-- Block b holds just these cells, none of them frozen. -/
def Blk (w : World) (b : Nat) (cs : Array Value) (t : TypeId) : Prop := w.heap[b]? = some (.cells cs t (0, 0))
theorem Blk.cell {w : World} {b : Nat} {cs : Array Value} {t : TypeId} (h : Blk w b cs t) (i : Nat) : w.cell? ⟨b, i, none⟩ = cs[i]? := cell_of_row w b i cs t _ h
theorem Blk.frozen {w : World} {b : Nat} {cs : Array Value} {t : TypeId} (h : Blk w b cs t) (i : Nat) : w.frozen? ⟨b, i, none⟩ = false := frozen_of_row w b i cs t h
theorem Blk.lt {w : World} {b : Nat} {cs : Array Value} {t : TypeId} (h : Blk w b cs t) : b < w.heap.size := (Array.getElem?_eq_some_iff.1 h).1
theorem Blk.keep {A : Nat → Prop} {w w' : World} {b : Nat} {cs : Array Value} {t : TypeId} (h : Blk w b cs t) (k : Keep A w w') (hA : ¬ A b) : Blk w' b cs t := (k.block b h.lt hA).trans h
theorem Blk.same {w w' : World} {b : Nat} {cs : Array Value} {t : TypeId} (h : Blk w b cs t) (e : w'.heap[b]? = w.heap[b]?) : Blk w' b cs t := e.trans h
theorem Blk.alloc {w : World} {b : Nat} {cs : Array Value} {t : TypeId} (h : Blk w b cs t) (o : Obj) : Blk (w.alloc o) b cs t := (Below.heap_alloc w o b (Blk.lt h)).trans h
theorem Blk.new (w : World) (cs : Array Value) (t : TypeId) : Blk (w.alloc (.cells cs t)) w.heap.size cs t := heap_alloc_new w _
theorem Blk.set {w : World} {b i : Nat} {cs : Array Value} {t : TypeId} (h : Blk w b cs t) (v : Value) : Blk (w.setCell ⟨b, i, none⟩ v) b (cs.setIfInBounds i v) t := heap_setCell_same w b i cs t v h
theorem Blk.set_other {w : World} {b : Nat} {a : Addr} {cs : Array Value} {t : TypeId} (h : Blk w b cs t) (hn : b ≠ a.block) (v : Value) : Blk (w.setCell a v) b cs t := (heap_setCell_other w a b v hn).trans h

/-- The value v is a slice of n elements (of 'size' cells each) that read, one behind the other, as cs; its memory lies in A (an empty one may lead anywhere). -/
def Sl (A : Nat → Prop) (w : World) (size : Nat) (v : Value) (n : Nat) (cs : List Value) : Prop :=
  cs.length = n * size ∧ ∃ a cap, v = .slice a n cap ∧ n ≤ cap ∧ cap ≤ maxLen ∧ (a = none → cap = 0) ∧
    (0 < n → ∃ g off, a = some ⟨g, off, none⟩ ∧ A g ∧ g < w.heap.size ∧ ∀ j u, cs[j]? = some u → w.cell? ⟨g, off + j, none⟩ = some u)

theorem Sl.nil (A : Nat → Prop) (w : World) (size : Nat) : Sl A w size (.slice none 0 0) 0 [] := ⟨by simp, none, 0, rfl, Nat.le_refl _, Nat.zero_le _, fun _ => rfl, fun h => absurd h (by omega)⟩
theorem Sl.empty (A : Nat → Prop) (w : World) (size : Nat) (a : Addr) {cap : Nat} (h : cap ≤ maxLen) : Sl A w size (.slice (some a) 0 cap) 0 [] := ⟨by simp, some a, cap, rfl, Nat.zero_le _, h, (fun h => by cases h), fun h => absurd h (by omega)⟩
theorem Sl.mk {A : Nat → Prop} {w : World} {size n g off cap : Nat} {cs : List Value} (h : cs.length = n * size) (hA : A g) (hg : g < w.heap.size) (hn : n ≤ cap) (hc : cap ≤ maxLen) (hr : ∀ j u, cs[j]? = some u → w.cell? ⟨g, off + j, none⟩ = some u) : Sl A w size (.slice (some ⟨g, off, none⟩) n cap) n cs :=
  ⟨h, _, cap, rfl, hn, hc, (fun h => by cases h), fun _ => ⟨g, off, rfl, hA, hg, hr⟩⟩
theorem Sl.mono {A B : Nat → Prop} {w : World} {size n : Nat} {v : Value} {cs : List Value} (h : Sl A w size v n cs) (hab : ∀ k, k < w.heap.size → A k → B k) : Sl B w size v n cs := by
  obtain ⟨h1, a, cap, e, c, d, f, r⟩ := h
  refine ⟨h1, a, cap, e, c, d, f, fun hn => ?_⟩
  obtain ⟨g, off, e, a, b, r⟩ := r hn
  exact ⟨g, off, e, hab g b a, b, r⟩
theorem Sl.same {A : Nat → Prop} {w w' : World} {size n : Nat} {v : Value} {cs : List Value} (h : Sl A w size v n cs) (hs : w.heap.size ≤ w'.heap.size) (e : ∀ k, k < w.heap.size → A k → w'.heap[k]? = w.heap[k]?) : Sl A w' size v n cs := by
  obtain ⟨h1, a, cap, e1, c, d, f, r⟩ := h
  refine ⟨h1, a, cap, e1, c, d, f, fun hn => ?_⟩
  obtain ⟨g, off, e2, a, b, r⟩ := r hn
  exact ⟨g, off, e2, a, Nat.lt_of_lt_of_le b hs, fun j u hu => (World.cell?_of_block (w := w) (e g b a)).trans (r j u hu)⟩
theorem Sl.keep {A S : Nat → Prop} {w w' : World} {size n : Nat} {v : Value} {cs : List Value} (h : Sl A w size v n cs) (k : Keep S w w') (hAS : ∀ j, j < w.heap.size → A j → ¬ S j) : Sl A w' size v n cs :=
  h.same k.size fun j hj ha => k.block j hj (hAS j hj ha)
theorem Sl.shape {A : Nat → Prop} {w : World} {size n : Nat} {v : Value} {cs : List Value} (h : Sl A w size v n cs) : ∃ a cap, v = .slice a n cap ∧ n ≤ cap ∧ cap ≤ maxLen := by
  obtain ⟨_, a, cap, e, c, d, _⟩ := h
  exact ⟨a, cap, e, c, d⟩
/-- where there is a cell there is an address -/
theorem Sl.at {A : Nat → Prop} {w : World} {size n : Nat} {v : Value} {cs : List Value} (h : Sl A w size v n cs) (hn : 0 < n) :
    ∃ g off cap, v = .slice (some ⟨g, off, none⟩) n cap ∧ A g ∧ g < w.heap.size ∧ n ≤ cap ∧ cap ≤ maxLen ∧ ∀ j u, cs[j]? = some u → w.cell? ⟨g, off + j, none⟩ = some u := by
  obtain ⟨_, a, cap, e, c, d, _, r⟩ := h
  obtain ⟨g, off, e2, h3, b, r2⟩ := r hn
  subst e2
  exact ⟨g, off, cap, e, h3, b, c, d, r2⟩
theorem Sl.of_own {w : World} {base : Nat} {e : TypeId} {size n : Nat} {v : Value} {xs : List Value} (h : w.ownsRow base e size v n xs) : Sl (fun k => base ≤ k ∧ some k = v.ownBlock) w size v n xs := by
  refine ⟨h.1, ?_⟩
  rcases h.2 with ⟨rfl, rfl⟩ | ⟨g, cap, cur, rfl, hb, hg, hn, hm, _, ht⟩
  · exact ⟨none, 0, rfl, Nat.le_refl _, Nat.zero_le _, fun _ => rfl, fun h => absurd h (by omega)⟩
  · refine ⟨_, cap, rfl, hn, hm, (fun h => by cases h), fun _ => ⟨g, 0, rfl, ⟨hb, rfl⟩, (Array.getElem?_eq_some_iff.1 hg).1, fun j u hu => ?_⟩⟩
    have := h.cells (g := g) rfl j u hu
    simpa [Addr.add_lit] using this

theorem Sl.new (w : World) (cs : Array Value) (t : TypeId) {size n : Nat} (h : cs.size = n * size) (hn : n ≤ maxLen) : Sl (fun k => k = w.heap.size) (w.alloc (.cells cs t)) size (.slice (some ⟨w.heap.size, 0, none⟩) n n) n cs.toList :=
  Sl.mk (by simpa using h) rfl (by simp) (Nat.le_refl _) hn fun j u hu => by rw [(Blk.new w cs t).cell]; simpa using hu

/-- The walk's stop at an operation: what is left to say is how it runs. -/
def RunGoal {α : Type} (P : Program) (s : Sem α) (w : World) (K : α → World → Prop) : Prop := ∃ v w', s.run P w = .ok v w' ∧ K v w'
theorem RunGoal.mk {α : Type} {P : Program} {s : Sem α} {w : World} {K : α → World → Prop} {v : α} {w' : World} (h : s.run P w = .ok v w') (hk : K v w') : RunGoal P s w K := ⟨v, w', h, hk⟩

/-! The stops proper: their operations are names here, so that the walk's simp does not look into them. -/
def AppendGoal (P : Program) (t1 t2 ty : TypeId) (v1 v2 : Value) (w : World) (K : Value → World → Prop) : Prop := RunGoal P (Builtin.append_ #[t1, t2] ty #[v1, v2]) w K
def DeleteGoal (P : Program) (t1 t2 ty : TypeId) (v1 v2 : Value) (w : World) (K : Value → World → Prop) : Prop := RunGoal P (Builtin.delete_ #[t1, t2] ty #[v1, v2]) w K
def LenGoal (P : Program) (t1 ty : TypeId) (v1 : Value) (w : World) (K : Value → World → Prop) : Prop := RunGoal P (Builtin.len_ #[t1] ty #[v1]) w K
def MakeGoal (P : Program) (t : TypeId) (v1 v2 : Value) (w : World) (K : Value → World → Prop) : Prop := RunGoal P (Instr.makeSlice t v1 v2) w K
def UpdateGoal (P : Program) (t : TypeId) (v1 v2 v3 : Value) (w : World) (K : World → Prop) : Prop := RunGoal P (Instr.mapUpdate t v1 v2 v3) w fun _ w' => K w'
def LookupGoal (P : Program) (t : TypeId) (v1 v2 : Value) (c : Bool) (w : World) (K : Value → World → Prop) : Prop := RunGoal P (Instr.lookup t v1 v2 c) w K
def RangeGoal (P : Program) (t : TypeId) (v1 : Value) (w : World) (K : Value → World → Prop) : Prop := RunGoal P (Instr.range t v1) w K
def NextGoal (P : Program) (v1 : Value) (s : Bool) (ty : TypeId) (w : World) (K : Value → World → Prop) : Prop := RunGoal P (Instr.next v1 s ty) w K
section
variable {P : Program} {w : World} {ops : Array Oper} {rest : List Oper} {o : Oper} {a : Act} {Q : Exit → Act → World → Prop}

theorem wl_append (hgd : o.guard = none) (x y : Operand) (t1 t2 : TypeId) (ho : o.op = .call { callee := .builtin .append, args := #[x, y], argTypes := #[t1, t2] })
    (v1 v2 : Value) (h1 : a.eval x = v1) (h2 : a.eval y = v2) (h : AppendGoal P t1 t2 o.type v1 v2 w fun v w' => wpList P ops Q rest (a.put o.dst v) w') : wpList P ops Q (o :: rest) a w := by
  obtain ⟨v, w', hr, hk⟩ := h
  refine wpList_plain hgd fun K hK => ?_
  unfold Oper.wp execOp
  simp only [ho, resolve, invoke, builtin, Sem.run_bind, Sem.run_pure, Result.andThen_ok, List.map_toArray, List.map_cons, List.map_nil, h1, h2, hr]
  exact hK _ _ hk

theorem wl_delete (hgd : o.guard = none) (x y : Operand) (t1 t2 : TypeId) (ho : o.op = .call { callee := .builtin .delete, args := #[x, y], argTypes := #[t1, t2] })
    (v1 v2 : Value) (h1 : a.eval x = v1) (h2 : a.eval y = v2) (h : DeleteGoal P t1 t2 o.type v1 v2 w fun v w' => wpList P ops Q rest (a.put o.dst v) w') : wpList P ops Q (o :: rest) a w := by
  obtain ⟨v, w', hr, hk⟩ := h
  refine wpList_plain hgd fun K hK => ?_
  unfold Oper.wp execOp
  simp only [ho, resolve, invoke, builtin, Sem.run_bind, Sem.run_pure, Result.andThen_ok, List.map_toArray, List.map_cons, List.map_nil, h1, h2, hr]
  exact hK _ _ hk

theorem wl_len (hgd : o.guard = none) (x : Operand) (t1 : TypeId) (ho : o.op = .call { callee := .builtin .len, args := #[x], argTypes := #[t1] })
    (b : Nat) (h1 : a.eval x = .map (some b)) (h : LenGoal P t1 o.type (.map (some b)) w fun v w' => wpList P ops Q rest (a.put o.dst v) w') : wpList P ops Q (o :: rest) a w := by
  obtain ⟨v, w', hr, hk⟩ := h
  refine wpList_plain hgd fun K hK => ?_
  unfold Oper.wp execOp
  simp only [ho, resolve, invoke, builtin, Sem.run_bind, Sem.run_pure, Result.andThen_ok, List.map_toArray, List.map_cons, List.map_nil, h1, hr]
  exact hK _ _ hk

theorem wl_make (hgd : o.guard = none) (l c : Operand) (t : TypeId) (ho : o.op = Op.makeSlice t l c) (v1 v2 : Value) (h1 : a.eval l = v1) (h2 : a.eval c = v2)
    (h : MakeGoal P t v1 v2 w fun v w' => wpList P ops Q rest (a.put o.dst v) w') : wpList P ops Q (o :: rest) a w := by
  obtain ⟨v, w', hr, hk⟩ := h
  refine wpList_plain hgd fun K hK => ?_
  unfold Oper.wp
  simp [execOp, ho, h1, h2, hr, Result.andThen]
  exact hK _ _ hk

theorem wl_mapUpdate (hgd : o.guard = none) (m x v : Operand) (t : TypeId) (ho : o.op = Op.mapUpdate t m x v) (v1 v2 v3 : Value) (h1 : a.eval m = v1) (h2 : a.eval x = v2) (h3 : a.eval v = v3)
    (h : UpdateGoal P t v1 v2 v3 w fun w' => wpList P ops Q rest (a.put o.dst undef) w') : wpList P ops Q (o :: rest) a w := by
  obtain ⟨v, w', hr, hk⟩ := h
  refine wpList_plain hgd fun K hK => ?_
  unfold Oper.wp
  simp [execOp, ho, h1, h2, h3, hr, Result.andThen]
  exact hK _ _ hk

theorem wl_lookup (hgd : o.guard = none) (m x : Operand) (t : TypeId) (c : Bool) (ho : o.op = Op.lookup t m x c) (v1 v2 : Value) (h1 : a.eval m = v1) (h2 : a.eval x = v2)
    (h : LookupGoal P t v1 v2 c w fun v w' => wpList P ops Q rest (a.put o.dst v) w') : wpList P ops Q (o :: rest) a w := by
  obtain ⟨v, w', hr, hk⟩ := h
  refine wpList_plain hgd fun K hK => ?_
  unfold Oper.wp
  simp [execOp, ho, h1, h2, hr, Result.andThen]
  exact hK _ _ hk

theorem wl_range (hgd : o.guard = none) (m : Operand) (t : TypeId) (ho : o.op = Op.range t m) (b : Nat) (h1 : a.eval m = .map (some b))
    (h : RangeGoal P t (.map (some b)) w fun v w' => wpList P ops Q rest (a.put o.dst v) w') : wpList P ops Q (o :: rest) a w := by
  obtain ⟨v, w', hr, hk⟩ := h
  refine wpList_plain hgd fun K hK => ?_
  unfold Oper.wp
  simp [execOp, ho, h1, hr, Result.andThen]
  exact hK _ _ hk

theorem wl_next (hgd : o.guard = none) (it : Operand) (ho : o.op = Op.next it false) (v1 : Value) (h1 : a.eval it = v1)
    (h : NextGoal P v1 false o.type w fun v w' => wpList P ops Q rest (a.put o.dst v) w') : wpList P ops Q (o :: rest) a w := by
  obtain ⟨v, w', hr, hk⟩ := h
  refine wpList_plain hgd fun K hK => ?_
  unfold Oper.wp
  simp [execOp, ho, h1, hr, Result.andThen]
  exact hK _ _ hk
end

/-! runs over such slices -/
section
variable {P : Program} {w : World}

/-- append onto a slice of one's own, of whatever source. -/
theorem run_append_sl {A : Nat → Prop} (base : Nat) (t ty e : TypeId) (z : Value) (size bytes : Nat) (ht : P.underlying t = some (.slice e)) (hi : (P.info? e).map (fun i => (i.zero, i.size, i.bytes)) = some (some z, size, bytes))
    (hzs : z.cells.size = size) (hsz : 0 < size) {v vs : Value} {n m : Nat} {xs news : List Value} (hown : w.ownsRow base e size v n xs) (hs : Sl A w size vs m news) (h1 : ∀ u ∈ news, u.oneCell' = true)
    (h63 : n + m ≤ maxLen) (hbytes : (n + m) * bytes ≤ 140737488355328) (hbase : base ≤ w.heap.size) :
    ∃ v' w', (Builtin.append_ #[t, t] ty #[v, vs]).run P w = .ok v' w' ∧ w'.ownsRow base e size v' (n + m) (xs ++ news) ∧ w.grownBy w' v.ownBlock ∧ (v' = .slice none 0 0 ↔ v = .slice none 0 0 ∧ m = 0) ∧ (v'.ownBlock = v.ownBlock ∨ v'.ownBlock = some w.heap.size) := by
  obtain ⟨i, hi, hz0, hz1, hz2⟩ := info_parts hi
  obtain ⟨h1', a, cap, rfl, hnc, _, hnone, hr⟩ := hs
  cases a with
  | none =>
    obtain rfl := hnone rfl
    obtain rfl : m = 0 := by omega
    obtain rfl : news = [] := List.eq_nil_of_length_eq_zero (by simpa using h1')
    refine ⟨v, w, run_append_owned_none (P := P) (w := w) base t ty e i size ht hi v n xs hown, by simpa using hown, World.grownBy.refl _ _, by simp, .inl rfl⟩
  | some a =>
    refine run_append_own_at (P := P) w base t ty e i z size bytes ht hi hz0 hz1 hz2 hzs hsz v n xs hown a m cap news h1' (fun j u hu => ?_) h1 h63 hbytes hbase
    have hm : 0 < m := by
      rcases Nat.eq_zero_or_pos m with h | h
      · subst h
        have := List.eq_nil_of_length_eq_zero (by simpa using h1')
        subst this; simp at hu
      · exact h
    obtain ⟨g, off, e2, _, _, hc⟩ := hr hm
    cases e2
    rw [Addr.add_lit]; exact hc j u hu

/-- make([]T, n) -/
theorem run_make_sl (t e : TypeId) (z : Value) (size bytes : Nat) (ht : P.underlying t = some (.slice e)) (hi : (P.info? e).map (fun i => (i.zero, i.size, i.bytes)) = some (some z, size, bytes))
    (n : Nat) (b2 : bytes * n ≤ 281474976710656) (b3 : n ≤ maxLen) :
    ∃ w', (Instr.makeSlice t (.int .i64 (n : Int)) (.int .i64 (n : Int))).run P w = .ok (.slice (some ⟨w.heap.size, 0, none⟩) n n) w' ∧ Blk w' w.heap.size (madeCells z.cells (n * size)) e ∧ Keep No w w' := by
  obtain ⟨i, hi, hz0, hz1, hz2⟩ := info_parts hi
  obtain ⟨w', hrun, r1, r2⟩ := run_make_full (P := P) w w.heap.size t e i z size ht hi hz0 hz1 .i64 .i64 n (by rw [hz2]; exact b2) b3 (Nat.le_refl _)
  refine ⟨w', hrun, ?_, (Keep.of_grown r2).mono (fun k _ h => by cases h)⟩
  rcases r1.2 with ⟨h, _⟩ | ⟨g, cap, cur, e1, _, hg, _, _, hcs, hct⟩
  · cases h
  · cases e1
    have e2 : cur = madeCells z.cells (n * size) := by
      apply Array.toList_inj.1
      rw [← hct, List.take_of_length_le]
      simp only [Array.length_toList]; omega
    rw [e2] at hg
    exact hg

end

/-! bytes -/
def bv (b : UInt8) : Value := .int .u8 (b.toNat : Int)
def Bts (A : Nat → Prop) (w : World) (v : Value) (l : List UInt8) : Prop := Sl A w 1 v l.length (l.map bv)
theorem bv_one (l : List UInt8) : ∀ u ∈ l.map bv, u.oneCell' = true := by
  intro u hu; obtain ⟨_, _, rfl⟩ := List.mem_map.1 hu; rfl
theorem madeCells_u8 (n : Nat) : madeCells (Value.int .u8 0).cells (n * 1) = ((List.replicate n (0 : UInt8)).map bv).toArray := by
  apply Array.toList_inj.1
  apply List.ext_getElem
  · simp [madeCells]
  · intro i h1 h2
    simp [madeCells, Value.cells, bv, Nat.mod_one]
/-- a row of bytes known whole is a slice of bytes. -/
theorem Bts.of_blk {w : World} {g : Nat} {l : List UInt8} {t : TypeId} (h : Blk w g (l.map bv).toArray t) (hm : l.length ≤ maxLen) : Bts (fun k => k = g) w (.slice (some ⟨g, 0, none⟩) l.length l.length) l :=
  Sl.mk (by simp) rfl h.lt (Nat.le_refl _) hm fun j u hu => by rw [h.cell]; simpa using hu

/-! the same runs as answers to the walk's stops -/
section
variable {P : Program} {w : World} {K : Value → World → Prop}
theorem rg_make (e : TypeId) (z : Value) (size bytes : Nat) {t : TypeId} (ht : P.underlying t = some (.slice e)) (hi : (P.info? e).map (fun i => (i.zero, i.size, i.bytes)) = some (some z, size, bytes))
    {n : Nat} (b2 : bytes * n ≤ 281474976710656) (b3 : n ≤ maxLen)
    (h : ∀ w', Blk w' w.heap.size (madeCells z.cells (n * size)) e → Keep No w w' → K (.slice (some ⟨w.heap.size, 0, none⟩) n n) w') : MakeGoal P t (.int .i64 (n : Int)) (.int .i64 (n : Int)) w K := by
  obtain ⟨w', hr, hb, hk⟩ := run_make_sl (P := P) (w := w) t e z size bytes ht hi n b2 b3
  exact .mk hr (h w' hb hk)
theorem rg_append {A : Nat → Prop} (base : Nat) (e : TypeId) (z : Value) (size bytes : Nat) {t ty : TypeId} (ht : P.underlying t = some (.slice e)) (hi : (P.info? e).map (fun i => (i.zero, i.size, i.bytes)) = some (some z, size, bytes))
    (hzs : z.cells.size = size) (hsz : 0 < size) {v vs : Value} {n m : Nat} {xs news : List Value} (hown : w.ownsRow base e size v n xs) (hs : Sl A w size vs m news) (h1 : ∀ u ∈ news, u.oneCell' = true)
    (h63 : n + m ≤ maxLen) (hbytes : (n + m) * bytes ≤ 140737488355328) (hbase : base ≤ w.heap.size)
    (h : ∀ v' w', w'.ownsRow base e size v' (n + m) (xs ++ news) → Keep (fun k => some k = v.ownBlock) w w' → (v' = .slice none 0 0 ↔ v = .slice none 0 0 ∧ m = 0) → (v'.ownBlock = v.ownBlock ∨ v'.ownBlock = some w.heap.size) → K v' w') :
    AppendGoal P t t ty v vs w K := by
  obtain ⟨v', w', hr, ho, hg, hn, hl⟩ := run_append_sl (P := P) (w := w) base t ty e z size bytes ht hi hzs hsz hown hs h1 h63 hbytes hbase
  exact .mk hr (h v' w' ho (Keep.of_grown hg) hn hl)
end
end Go.Dm
namespace Go.Dm.Oc
open Go
/-- the number of bytes, the lowest first -/
def leN : List UInt8 → Nat
  | [] => 0
  | b :: r => b.toNat + 256 * leN r
def le : Nat → Nat → List UInt8
  | 0, _ => []
  | n + 1, x => UInt8.ofNat (x % 256) :: le n (x / 256)
theorem le_len (n x : Nat) : (le n x).length = n := by
  induction n generalizing x with
  | zero => rfl
  | succ n ih => simp [le, ih]
theorem leN_lt (l : List UInt8) : leN l < 256 ^ l.length := by
  induction l with
  | nil => simp [leN]
  | cons b r ih =>
    have := b.toNat_lt
    simp only [leN, List.length_cons, Nat.pow_succ]
    omega
theorem leN_snoc (l : List UInt8) (b : UInt8) : leN (l ++ [b]) = leN l + 256 ^ l.length * b.toNat := by
  induction l with
  | nil => simp [leN]
  | cons c r ih =>
    simp only [List.cons_append, leN, ih, List.length_cons, Nat.pow_succ]
    rw [Nat.mul_add, Nat.mul_comm (256 ^ r.length) 256, Nat.mul_assoc, Nat.add_assoc]
theorem le_get (n x i : Nat) (hi : i < n) : (le n x)[i]'(by rw [le_len]; exact hi) = UInt8.ofNat (x / 256 ^ i % 256) := by
  induction n generalizing x i with
  | zero => omega
  | succ n ih =>
    cases i with
    | zero => simp [le]
    | succ i =>
      simp only [le, List.getElem_cons_succ]
      rw [ih (x / 256) i (by omega), Nat.div_div_eq_div_mul, Nat.pow_succ, Nat.mul_comm 256]
/-- one byte more is laid on top -/
theorem or_top (x b n : Nat) (hx : x < 2 ^ n) : x ||| (b * 2 ^ n) = x + 2 ^ n * b := by
  rw [Nat.or_comm, Go.nat_join n (b * 2 ^ n) x (Nat.mul_mod_left _ _) hx, Nat.mul_comm]; omega
theorem pow256 (i : Nat) : 256 ^ i = 2 ^ (8 * i) := by rw [Nat.pow_mul]
def widthB (n : Int) : Bool := decide (n = 1 ∨ n = 2 ∨ n = 4 ∨ n = 8)
def hasB (many at_ size : Nat) : Bool := decide (at_ ≤ many) && decide (size ≤ many - at_)
def fitsE (many at_ : Nat) (n : Int) : Nat := if widthB n then if hasB many at_ n.toNat then 0 else 10 else 1
def getX (b : List UInt8) (at_ : Nat) (n : Int) : Nat := if fitsE b.length at_ n = 0 then leN ((b.drop at_).take n.toNat) else 0
theorem fits_parts {many at_ : Nat} {n : Int} (h : fitsE many at_ n = 0) : (n = 1 ∨ n = 2 ∨ n = 4 ∨ n = 8) ∧ at_ ≤ many ∧ n.toNat ≤ many - at_ := by
  unfold fitsE at h
  split at h
  · rename_i hw
    split at h
    · rename_i hh
      simp only [hasB, Bool.and_eq_true, decide_eq_true_eq] at hh
      simp only [widthB, decide_eq_true_eq] at hw
      exact ⟨hw, hh⟩
    · cases h
  · cases h
/-- bytes laid over others from a place on -/
def setR : List UInt8 → Nat → List UInt8 → List UInt8
  | l, _, [] => l
  | l, k, x :: r => setR (l.set k x) (k + 1) r
theorem setR_len (l : List UInt8) (k : Nat) (c : List UInt8) : (setR l k c).length = l.length := by
  induction c generalizing l k with
  | nil => rfl
  | cons x r ih => unfold setR; rw [ih, List.length_set]
theorem setR_snoc (l : List UInt8) (k : Nat) (c : List UInt8) (x : UInt8) : setR l k (c ++ [x]) = (setR l k c).set (k + c.length) x := by
  induction c generalizing l k with
  | nil => rfl
  | cons y r ih =>
    show setR (l.set k y) (k + 1) (r ++ [x]) = (setR (l.set k y) (k + 1) r).set (k + (r.length + 1)) x
    rw [ih]
    congr 1
    omega
theorem setR_whole (l c : List UInt8) (h : c.length = l.length) : setR l 0 c = c := by
  suffices h2 : ∀ (k : Nat) (l c : List UInt8), k + c.length = l.length → setR l k c = l.take k ++ c by simpa using h2 0 l c (by omega)
  intro k l c
  induction c generalizing k l with
  | nil => intro h; simp only [setR, List.append_nil]; rw [List.take_of_length_le (by simpa using Nat.le_of_eq h.symm)]
  | cons x r ih =>
    intro h
    rw [List.length_cons] at h
    unfold setR
    rw [ih (k + 1) (l.set k x) (by rw [List.length_set]; omega), List.take_succ_eq_append_getElem (by rw [List.length_set]; omega), List.getElem_set_self, List.take_set_of_le (Nat.le_refl _), List.append_assoc]
    rfl
end Go.Dm.Oc
namespace Go.Dm.Ld
open Go Go.Dm.Oc
abbrev BS := List UInt8

/-- so many bytes from a place on -/
def cutM (b : BS) (at_ size : Nat) : Nat × BS := if hasB b.length at_ size then (0, (b.drop at_).take size) else (10, [])

/-! heads -/
structure Hd where
  kind : Nat
  entry : Nat
  segs : Nat
  count : Nat
deriving DecidableEq
def hd0 : Hd := ⟨0, 0, 0, 0⟩
def magic : BS := [127, 69, 76, 70, 2, 1, 1, 0, 0, 0, 0, 0, 0, 0, 0, 0]
def headB (h : Hd) : BS := magic ++ le 2 h.kind ++ le 2 19823 ++ le 4 1 ++ le 8 h.entry ++ le 8 h.segs ++ le 8 0 ++ le 4 0 ++ le 2 64 ++ le 2 56 ++ le 2 h.count ++ le 2 0 ++ le 2 0 ++ le 2 0
def headOk (h : Hd) : Bool := decide (2 ≤ h.kind) && decide (h.kind ≤ 4) && decide (h.count ≤ 64)
def headIn (b : BS) : Hd := ⟨getX b 16 2, getX b 24 8, getX b 32 8, getX b 56 2⟩
def headM (b : BS) : Nat × Hd :=
  if b.length < 64 then (10, hd0) else if headOk (headIn b) && decide (headB (headIn b) = b.take 64) then (0, headIn b) else (11, hd0)
theorem headB_len (h : Hd) : (headB h).length = 64 := by
  simp only [headB, List.length_append, le_len, magic, List.length_cons, List.length_nil]

/-! segments -/
structure Sg where
  ty : Nat
  fl : Nat
  off : Nat
  va : Nat
  fi : Nat
  me : Nat
  al : Nat
deriving DecidableEq
def sg0 : Sg := ⟨0, 0, 0, 0, 0, 0, 0⟩
def SgOk (s : Sg) : Prop := s.ty < 4294967296 ∧ s.fl < 4294967296 ∧ s.off < 18446744073709551616 ∧ s.va < 18446744073709551616 ∧ s.fi < 18446744073709551616 ∧ s.me < 18446744073709551616 ∧ s.al < 18446744073709551616
def sgIn (b : BS) : Sg := ⟨getX b 0 8 % 4294967296, getX b 0 8 / 4294967296, getX b 8 8, getX b 16 8, getX b 32 8, getX b 40 8, getX b 48 8⟩
def sgGet (b : BS) : Nat × Sg :=
  if b.length < 56 then (10, sg0) else if getX b 16 8 = getX b 24 8 then (0, sgIn b) else (11, sg0)
def sgGo (rest : BS) : Nat → Nat → List Sg → Nat × List Sg
  | 0, _, acc => (0, acc)
  | k + 1, i, acc => if (sgGet (rest.drop (i * 56))).1 = 0 then sgGo rest k (i + 1) (acc ++ [(sgGet (rest.drop (i * 56))).2]) else ((sgGet (rest.drop (i * 56))).1, [])
def sgTab (b : BS) (at_ n : Nat) : Nat × List Sg :=
  if 64 < n then (1, []) else if (cutM b at_ (n * 56)).1 = 0 then sgGo (cutM b at_ (n * 56)).2 n 0 [] else ((cutM b at_ (n * 56)).1, [])
def kindB (k : Nat) : Bool := decide (k = 0 ∨ k = 1 ∨ k = 2 ∨ k = 4 ∨ k = 7)
def firstM (s : Sg) : Nat := s.va / 256 * 256
def lastM (s : Sg) : Nat := (s.va + s.me + 255) / 256 * 256
def oneE (s : Sg) (size : Nat) : Nat :=
  if kindB s.ty = false ∨ 7 < s.fl then 11
  else if s.ty = 0 then 0
  else if size < s.off ∨ size - s.off < s.fi then 10
  else if s.me < s.fi then 11
  else if 4294967296 < s.va ∨ 4294967296 - s.va < s.me then 13
  else if s.ty = 1 ∧ (s.va % 256 ≠ s.off % 256 ∨ s.me = 0) then 11
  else 0
def singleB (s : Sg) : Bool := decide (s.ty = 2 ∨ s.ty = 7)
def liesB (x s : Sg) : Bool := decide (x.ty = 1 ∧ x.off ≤ s.off ∧ s.off - x.off ≤ x.fi ∧ s.fi ≤ x.fi - (s.off - x.off) ∧ (x.va + s.off) % 18446744073709551616 = (s.va + x.off) % 18446744073709551616)
def withinB (l : List Sg) (s : Sg) : Bool := decide (s.fi = 0) || l.any fun x => liesB x s
def chkA (size : Nat) : List Sg → Nat → List Sg → Nat
  | _, _, [] => 0
  | pre, bh, s :: r =>
    if oneE s size ≠ 0 then oneE s size
    else if singleB s = true ∧ pre.any (fun x => x.ty == s.ty) = true then 12
    else if s.ty = 1 then (if firstM s < bh then 12 else chkA size (pre ++ [s]) (lastM s) r)
    else chkA size (pre ++ [s]) bh r
def chkE (l : List Sg) (size : Nat) : Nat :=
  if chkA size [] 0 l ≠ 0 then chkA size [] 0 l else if l.any (fun s => singleB s && !withinB l s) then 11 else 0
def findM (l : List Sg) (k : Nat) : Option Sg := l.find? fun s => s.ty == k
def holdsB (s : Sg) (addr size : Nat) : Bool := decide (0 < size ∧ s.ty = 1 ∧ s.va ≤ addr ∧ addr - s.va ≤ s.fi ∧ size ≤ s.fi - (addr - s.va))
def placeM : List Sg → Nat → Nat → Nat × Nat
  | [], _, _ => (40, 0)
  | s :: r, addr, size => if holdsB s addr size then (0, s.off + (addr - s.va)) else placeM r addr size

/-! entries -/
structure Dy where
  need : List Nat
  v : List Nat
deriving DecidableEq
def dy0 : Dy := ⟨[], [0, 0, 0, 0, 0, 0, 0]⟩
/-- where a tag's number stands: Soname, Strtab, Strsz, Symtab, Symnum, Rela, Relasz -/
def tagAt (t : Nat) : Option Nat :=
  if t = 14 then some 0 else if t = 5 then some 1 else if t = 10 then some 2 else if t = 6 then some 3 else if t = 1610612749 then some 4 else if t = 7 then some 5 else if t = 8 then some 6 else none
def seenOk (s : List Bool) : Bool := s.getD 1 false && s.getD 2 false && (s.getD 3 false == s.getD 4 false) && (s.getD 5 false == s.getD 6 false)
def dyGo (b : BS) : Nat → Nat → Dy → List Bool → Nat × Dy
  | 0, _, _, _ => (10, dy0)
  | f + 1, at_, x, seen =>
    if hasB b.length at_ 16 = false then (10, dy0)
    else if getX b at_ 8 = 0 then (if seenOk seen then (0, x) else (11, dy0))
    else if getX b at_ 8 = 1 then dyGo b f (at_ + 16) { x with need := x.need ++ [getX b (at_ + 8) 8] } seen
    else match tagAt (getX b at_ 8) with
      | none => (11, dy0)
      | some k => if seen.getD k false then (12, dy0) else dyGo b f (at_ + 16) { x with v := x.v.set k (getX b (at_ + 8) 8) } (seen.set k true)
def dyM (b : BS) : Nat × Dy := dyGo b (b.length / 16 + 1) 0 dy0 [false, false, false, false, false, false, false]

/-! names -/
def atM (t : BS) (at_ : Nat) : Nat × BS :=
  if t.length ≤ at_ then (10, []) else if (t.drop at_).contains 0 then (0, (t.drop at_).takeWhile (· != 0)) else (11, [])
def chkN (t : BS) : Nat := if t.head? = some 0 ∧ t.getLast? = some 0 then 0 else 11

/-! symbols -/
structure Sy where
  nm : Nat
  inf : Nat
  oth : Nat
  sec : Nat
  val : Nat
  sz : Nat
deriving DecidableEq
def sy0 : Sy := ⟨0, 0, 0, 0, 0, 0⟩
def SyOk (s : Sy) : Prop := s.nm < 4294967296 ∧ s.inf < 256 ∧ s.oth < 256 ∧ s.sec < 65536 ∧ s.val < 18446744073709551616 ∧ s.sz < 18446744073709551616
def syIn (b : BS) (i : Nat) : Sy := ⟨getX b i 4, getX b (i + 4) 1, getX b (i + 5) 1, getX b (i + 6) 2, getX b (i + 8) 8, getX b (i + 16) 8⟩
def syTab (b : BS) : Nat × List Sy := if b.length % 24 = 0 then (0, (List.range (b.length / 24)).map fun i => syIn b (24 * i)) else (10, [])
def mayS (s : Sy) : Bool :=
  decide (s.inf / 16 ≤ 2) && decide (s.inf % 16 = 0 ∨ s.inf % 16 = 1 ∨ s.inf % 16 = 2 ∨ s.inf % 16 = 6) && decide (s.oth = 0) && decide (s.sec ≤ 1) && decide (s.nm ≠ 0) && (decide (s.sec ≠ 0) || decide (s.val = 0 ∧ s.sz = 0 ∧ s.inf / 16 ≠ 0))
def chkS : List Sy → Nat
  | [] => 0
  | s :: r => if s = sy0 ∧ r.all mayS = true then 0 else 11

/-! relocations -/
structure Rl where
  off : Nat
  ty : Nat
  sym : Nat
  add : Nat
deriving DecidableEq
def RlOk (x : Rl) : Prop := x.off < 18446744073709551616 ∧ x.ty < 4294967296 ∧ x.sym < 4294967296 ∧ x.add < 18446744073709551616
def rlIn (b : BS) (i : Nat) : Rl := ⟨getX b i 8, getX b (i + 8) 4, getX b (i + 12) 4, getX b (i + 16) 8⟩
def rlTab (b : BS) : Nat × List Rl := if b.length % 24 = 0 then (0, (List.range (b.length / 24)).map fun i => rlIn b (24 * i)) else (10, [])
def knownB (t : Nat) : Bool := decide (t = 0 ∨ t = 1 ∨ t = 6 ∨ t = 7 ∨ t = 8 ∨ t = 16 ∨ t = 17 ∨ t = 18)
def rlE (n : Nat) (x : Rl) : Nat :=
  if knownB x.ty = false then 33 else if 0 < x.sym ∧ n ≤ x.sym then 10 else if decide (x.ty = 0 ∨ x.ty = 8) = decide (x.sym = 0) then 0 else 11
def chkR (n : Nat) : List Rl → Nat
  | [] => 0
  | x :: r => if rlE n x = 0 then chkR n r else rlE n x

/-! images -/
structure Im where
  hd : Hd
  segs : List Sg
  so : BS
  need : List BS
  names : List BS
  syms : List Sy
  rels : List Rl
  bytes : BS
deriving DecidableEq
def im0 : Im := ⟨hd0, [], [], [], [], [], [], []⟩
def shapeM (b : BS) : Nat × Hd × List Sg :=
  if (headM b).1 ≠ 0 then ((headM b).1, hd0, [])
  else if (headM b).2.kind = 4 then (11, hd0, [])
  else if (sgTab b (headM b).2.segs (headM b).2.count).1 ≠ 0 then ((sgTab b (headM b).2.segs (headM b).2.count).1, hd0, [])
  else if chkE (sgTab b (headM b).2.segs (headM b).2.count).2 b.length ≠ 0 then (chkE (sgTab b (headM b).2.segs (headM b).2.count).2 b.length, hd0, [])
  else if findM (sgTab b (headM b).2.segs (headM b).2.count).2 1 = none then (11, hd0, [])
  else (0, (headM b).2, (sgTab b (headM b).2.segs (headM b).2.count).2)
/-- the bytes of an address -/
def atI (b : BS) (l : List Sg) (addr size : Nat) : Nat × BS :=
  if (placeM l addr size).1 = 0 then cutM b (placeM l addr size).2 size else ((placeM l addr size).1, [])
def needGo (t : BS) : List Nat → List BS → Nat × List BS
  | [], acc => (0, acc)
  | p :: r, acc => if (atM t p).1 ≠ 0 then ((atM t p).1, []) else if (atM t p).2 = [] then (11, []) else needGo t r (acc ++ [(atM t p).2])
structure Nd where
  info : Dy
  table : BS
  so : BS
  need : List BS
def nd0 : Nd := ⟨dy0, [], [], []⟩
def soM (t : BS) (p : Nat) : Nat × BS := if p = 0 then (0, []) else atM t p
def namedM (b : BS) (l : List Sg) (s : Sg) : Nat × Nd :=
  if (cutM b s.off s.fi).1 ≠ 0 then ((cutM b s.off s.fi).1, nd0)
  else if (dyM (cutM b s.off s.fi).2).1 ≠ 0 then ((dyM (cutM b s.off s.fi).2).1, nd0)
  else
    let d := (dyM (cutM b s.off s.fi).2).2
    if (atI b l (d.v.getD 1 0) (d.v.getD 2 0)).1 ≠ 0 then ((atI b l (d.v.getD 1 0) (d.v.getD 2 0)).1, nd0)
    else
      let t := (atI b l (d.v.getD 1 0) (d.v.getD 2 0)).2
      if chkN t ≠ 0 then (chkN t, nd0)
      else if (soM t (d.v.getD 0 0)).1 ≠ 0 then ((soM t (d.v.getD 0 0)).1, nd0)
      else if (needGo t d.need []).1 ≠ 0 then ((needGo t d.need []).1, nd0)
      else (0, ⟨d, t, (soM t (d.v.getD 0 0)).2, (needGo t d.need []).2⟩)
def nmGo (t : BS) : List Sy → List BS → Nat × List BS
  | [], acc => (0, acc)
  | s :: r, acc => if (atM t s.nm).1 ≠ 0 then ((atM t s.nm).1, []) else nmGo t r (acc ++ [(atM t s.nm).2])
def symsM (b : BS) (l : List Sg) (d : Dy) (t : BS) : Nat × List Sy × List BS :=
  if 1024 < d.v.getD 4 0 then (13, [], [])
  else if d.v.getD 4 0 = 0 then (0, [], [])
  else
    let c := atI b l (d.v.getD 3 0) (24 * d.v.getD 4 0)
    if c.1 ≠ 0 then (c.1, [], [])
    else if chkS (syTab c.2).2 ≠ 0 then (chkS (syTab c.2).2, [], [])
    else if (nmGo t (syTab c.2).2 []).1 ≠ 0 then ((nmGo t (syTab c.2).2 []).1, [], [])
    else (0, (syTab c.2).2, (nmGo t (syTab c.2).2 []).2)
def relsM (b : BS) (l : List Sg) (d : Dy) (n : Nat) : Nat × List Rl :=
  if 65536 < d.v.getD 6 0 then (13, [])
  else if d.v.getD 6 0 = 0 then (0, [])
  else
    let c := atI b l (d.v.getD 5 0) (d.v.getD 6 0)
    if c.1 ≠ 0 then (c.1, [])
    else if (rlTab c.2).1 ≠ 0 then ((rlTab c.2).1, [])
    else (chkR n (rlTab c.2).2, (rlTab c.2).2)
def loadedB (l : List Sg) (a : Nat) : Bool := l.any fun s => decide (s.ty = 1 ∧ s.va ≤ a ∧ a - s.va ≤ s.me ∧ 8 ≤ s.me - (a - s.va))
def sySound (l : List Sg) : List Sy → Nat
  | [] => 0
  | s :: r =>
    if s.sec = 0 then sySound l r
    else if s.inf % 16 = 6 then
      match findM l 7 with
      | none => 11
      | some t => if t.me < s.val then 11 else sySound l r
    else if 4294967296 < s.val then 13
    else sySound l r
def soundM (l : List Sg) (rels : List Rl) (syms : List Sy) : Nat :=
  if rels.any (fun x => decide (x.ty ≠ 0) && !loadedB l x.off) then 40 else sySound l syms
/-- what a file says -/
def parseM (b : BS) : Nat × Im :=
  if 65536 < b.length then (13, im0)
  else if (shapeM b).1 ≠ 0 then ((shapeM b).1, im0)
  else
    let l := (shapeM b).2.2
    match findM l 2 with
    | none => if soundM l [] [] ≠ 0 then (soundM l [] [], im0) else (0, ⟨(shapeM b).2.1, l, [], [], [], [], [], b⟩)
    | some s =>
      let n := namedM b l s
      if n.1 ≠ 0 then (n.1, im0)
      else
        let y := symsM b l n.2.info n.2.table
        if y.1 ≠ 0 then (y.1, im0)
        else
          let x := relsM b l n.2.info y.2.1.length
          if x.1 ≠ 0 then (x.1, im0)
          else if soundM l x.2 y.2.1 ≠ 0 then (soundM l x.2 y.2.1, im0)
          else (0, ⟨(shapeM b).2.1, l, n.2.so, n.2.need, y.2.2, y.2.1, x.2, b⟩)
end Go.Dm.Ld
namespace Go.Dm.Ld
open Go
abbrev Fs := List (BS × BS)
def findF (fs : Fs) (n : BS) : Option BS := (fs.find? fun f => f.1 == n).map (·.2)
/-- the unit of a name -/
def unitM (n : BS) (fs : Fs) (first : Bool) : Nat × Im :=
  match findF fs n with
  | none => (31, im0)
  | some b => if (parseM b).1 ≠ 0 then ((parseM b).1, im0) else if first = decide ((parseM b).2.hd.kind = 2) then (0, (parseM b).2) else (11, im0)
/-- names, and those that are needed and not among them; none: there are too many -/
def addN : List BS → List BS → Option (List BS)
  | names, [] => some names
  | names, n :: r => if n ∈ names then addN names r else if names.length = 8 then none else addN (names ++ [n]) r
/-- units that need one another round: those of S each need one of S -/
def Stuck (us : List (BS × Im)) (S : List BS) : Prop := ∀ x ∈ S, ∃ u ∈ us, u.1 = x ∧ ∃ n ∈ u.2.need, n ∈ S
def strip (us : List (BS × Im)) (S : List BS) : List BS := S.filter fun x => us.any fun u => u.1 == x && u.2.need.any fun n => S.contains n
def stripN (us : List (BS × Im)) : Nat → List BS → List BS
  | 0, S => S
  | k + 1, S => stripN us k (strip us S)
def cycB (us : List (BS × Im)) : Bool := !(stripN us us.length (us.map (·.1))).isEmpty
def orderGo (fs : Fs) : Nat → List BS → List (BS × Im) → Nat × List (BS × Im)
  | 0, _, out => if cycB out then (30, []) else (0, out)
  | f + 1, names, out =>
    match names[out.length]? with
    | none => if cycB out then (30, []) else (0, out)
    | some n =>
      if (unitM n fs (decide (out.length = 0))).1 ≠ 0 then ((unitM n fs (decide (out.length = 0))).1, [])
      else
        match addN names (unitM n fs (decide (out.length = 0))).2.need with
        | none => (13, [])
        | some names' => orderGo fs f names' (out ++ [(n, (unitM n fs (decide (out.length = 0))).2)])
def orderM (root : BS) (fs : Fs) : Nat × List (BS × Im) := orderGo fs 8 [root] []
end Go.Dm.Ld
namespace Go.Dm
open Go Go.RowKit Go.ChangeShapes Go.WideShapes

inductive Sh where
  | int (k : IntKind) | u8 | bool | str | unit
  | pair (a b : Sh)
  | slice (e : Sh)
  | arr (n : Nat) (e : Sh)

@[reducible] def Sh.Ty : Sh → Type
  | .int _ => Int | .u8 => UInt8 | .bool => Bool | .str => List UInt8 | .unit => Unit
  | .pair a b => a.Ty × b.Ty | .slice e => List e.Ty | .arr _ e => List e.Ty
def Sh.n : Sh → Nat
  | .unit => 0 | .pair a b => a.n + b.n | .arr n e => n * e.n | .int _ => 1 | .u8 => 1 | .bool => 1 | .str => 1 | .slice _ => 1

/-- the cells cs read as x; memory beyond them lies in A -/
def Rd (A : Nat → Prop) (w : World) : (s : Sh) → List Value → s.Ty → Prop
  | .int k, cs, x => cs = [.int k x] ∧ (Lit.int k x).wf = true
  | .u8, cs, x => cs = [bv x]
  | .bool, cs, x => cs = [.bool x]
  | .str, cs, x => cs = [.string ⟨x.toArray⟩] ∧ x.length ≤ maxLen
  | .unit, cs, _ => cs = []
  | .pair a b, cs, x => ∃ c1 c2, cs = c1 ++ c2 ∧ Rd A w a c1 x.1 ∧ Rd A w b c2 x.2
  | .slice e, cs, x => ∃ (v : Value) (css : List (List Value)), cs = [v] ∧ Sl A w e.n v x.length css.flatten ∧ css.length = x.length ∧ ∀ (i : Nat) (c : List Value) (y : e.Ty), css[i]? = some c → x[i]? = some y → Rd A w e c y
  | .arr n e, cs, x => ∃ css : List (List Value), cs = css.flatten ∧ css.length = n ∧ x.length = n ∧ ∀ (i : Nat) (c : List Value) (y : e.Ty), css[i]? = some c → x[i]? = some y → Rd A w e c y

theorem flatten_len {n : Nat} : ∀ {css : List (List Value)}, (∀ c ∈ css, c.length = n) → css.flatten.length = css.length * n
  | [], _ => by simp
  | c :: r, h => by
    rw [List.flatten_cons, List.length_append, flatten_len (fun c hc => h c (by simp [hc])), h c (by simp), List.length_cons, Nat.succ_mul]; omega
theorem flatten_get {n : Nat} : ∀ {css : List (List Value)} (_ : ∀ c ∈ css, c.length = n) (i r : Nat) (_ : r < n), css.flatten[i * n + r]? = (css[i]?).bind (·[r]?)
  | [], _, i, r, _ => by simp
  | c :: t, h, 0, r, hr => by
    have := h c (by simp)
    rw [List.flatten_cons, Nat.zero_mul, Nat.zero_add, List.getElem?_append_left (by omega)]; simp
  | c :: t, h, i + 1, r, hr => by
    have := h c (by simp)
    rw [List.flatten_cons, List.getElem?_append_right (by rw [Nat.succ_mul]; omega), this, Nat.succ_mul, show i * n + n + r - n = i * n + r by omega, flatten_get (fun c hc => h c (by simp [hc])) i r hr]; simp
theorem flatten_get_some {n : Nat} {css : List (List Value)} (h : ∀ c ∈ css, c.length = n) (hn : 0 < n) {j : Nat} {u : Value} (hj : css.flatten[j]? = some u) : ∃ i r c, j = i * n + r ∧ r < n ∧ css[i]? = some c ∧ c[r]? = some u := by
  have e : j = j / n * n + j % n := by rw [Nat.mul_comm]; exact (Nat.div_add_mod j n).symm
  rw [e, flatten_get h _ _ (Nat.mod_lt _ hn)] at hj
  cases hc : css[j / n]? with
  | none => rw [hc] at hj; cases hj
  | some c => rw [hc] at hj; exact ⟨j / n, j % n, c, e, Nat.mod_lt _ hn, hc, hj⟩

section
variable {A : Nat → Prop} {w : World}
theorem Rd.len : ∀ {s : Sh} {cs : List Value} {x : s.Ty}, Rd A w s cs x → cs.length = s.n
  | .int k, _, _, h => by rw [h.1]; rfl
  | .u8, _, _, h => by have h : _ = _ := h; rw [h]; rfl
  | .bool, _, _, h => by have h : _ = _ := h; rw [h]; rfl
  | .str, _, _, h => by rw [h.1]; rfl
  | .unit, _, _, h => by have h : _ = _ := h; rw [h]; rfl
  | .pair a b, _, _, ⟨c1, c2, e, h1, h2⟩ => by rw [e, List.length_append, h1.len, h2.len]; rfl
  | .slice e, _, _, ⟨v, css, e1, _⟩ => by rw [e1]; rfl
  | .arr n e, _, x, ⟨css, e1, h1, h2, h3⟩ => by
    rw [e1, flatten_len (n := e.n) fun c hc => ?_, h1]; rfl
    obtain ⟨i, hi⟩ := List.mem_iff_getElem?.1 hc
    have hl : i < css.length := (List.getElem?_eq_some_iff.1 hi).1
    exact (h3 i c x[i] hi (List.getElem?_eq_getElem (by omega))).len
theorem Rd.elems {e : Sh} {css : List (List Value)} {x : List e.Ty} (h1 : css.length = x.length) (h2 : ∀ (i : Nat) (c : List Value) (y : e.Ty), css[i]? = some c → x[i]? = some y → Rd A w e c y) : ∀ c ∈ css, c.length = e.n := by
  intro c hc
  obtain ⟨i, hi⟩ := List.mem_iff_getElem?.1 hc
  have hl : i < css.length := (List.getElem?_eq_some_iff.1 hi).1
  exact (h2 i c x[i] hi (List.getElem?_eq_getElem (by omega))).len
theorem Rd.same {w' : World} (hs : w.heap.size ≤ w'.heap.size) (e : ∀ k, k < w.heap.size → A k → w'.heap[k]? = w.heap[k]?) : ∀ {s : Sh} {cs : List Value} {x : s.Ty}, Rd A w s cs x → Rd A w' s cs x
  | .int k, _, _, h => h
  | .u8, _, _, h => h
  | .bool, _, _, h => h
  | .str, _, _, h => h
  | .unit, _, _, h => h
  | .pair a b, _, _, ⟨c1, c2, e1, h1, h2⟩ => ⟨c1, c2, e1, Rd.same hs e h1, Rd.same hs e h2⟩
  | .slice s, _, _, ⟨v, css, e1, h1, h2, h3⟩ => ⟨v, css, e1, h1.same hs e, h2, fun i c y hc hy => Rd.same hs e (h3 i c y hc hy)⟩
  | .arr n s, _, _, ⟨css, e1, h1, h2, h3⟩ => ⟨css, e1, h1, h2, fun i c y hc hy => Rd.same hs e (h3 i c y hc hy)⟩
theorem Rd.mono {B : Nat → Prop} (e : ∀ k, k < w.heap.size → A k → B k) : ∀ {s : Sh} {cs : List Value} {x : s.Ty}, Rd A w s cs x → Rd B w s cs x
  | .int k, _, _, h => h
  | .u8, _, _, h => h
  | .bool, _, _, h => h
  | .str, _, _, h => h
  | .unit, _, _, h => h
  | .pair a b, _, _, ⟨c1, c2, e1, h1, h2⟩ => ⟨c1, c2, e1, Rd.mono e h1, Rd.mono e h2⟩
  | .slice s, _, _, ⟨v, css, e1, h1, h2, h3⟩ => ⟨v, css, e1, h1.mono e, h2, fun i c y hc hy => Rd.mono e (h3 i c y hc hy)⟩
  | .arr n s, _, _, ⟨css, e1, h1, h2, h3⟩ => ⟨css, e1, h1, h2, fun i c y hc hy => Rd.mono e (h3 i c y hc hy)⟩
theorem Rd.keep {S : Nat → Prop} {w' : World} {s : Sh} {cs : List Value} {x : s.Ty} (h : Rd A w s cs x) (k : Keep S w w') (hS : ∀ j, j < w.heap.size → A j → ¬ S j) : Rd A w' s cs x :=
  Rd.same k.size (fun j hj ha => k.block j hj (hS j hj ha)) h
/-- what is read stays, where only new memory is made -/
theorem Rd.no {w' : World} {s : Sh} {cs : List Value} {x : s.Ty} (h : Rd A w s cs x) (k : Keep No w w') : Rd A w' s cs x := h.keep k fun _ _ _ h => h

/-- a slice of bytes -/
theorem Rd.bts {v : Value} {l : List UInt8} (h : Rd A w (.slice .u8) [v] l) : Bts A w v l := by
  obtain ⟨v', css, e, h1, h2, h3⟩ := h
  cases e
  have e : css.flatten = l.map bv := by
    have hc : css = l.map fun b => [bv b] := by
      apply List.ext_getElem (by simpa using h2)
      intro i hi hj
      rw [List.getElem_map]
      have h2 : css.length = List.length l := h2
      exact h3 i css[i] (l[i]'(by omega)) (List.getElem?_eq_getElem hi) (List.getElem?_eq_getElem (by omega))
    rw [hc]
    clear hc h1 h2 h3
    induction l with
    | nil => rfl
    | cons b r ih => simp only [List.map_cons, List.flatten_cons, ih]; rfl
  rw [e] at h1
  exact h1
/-- one element of a slice -/
theorem Rd.at {e : Sh} {v : Value} {l : List e.Ty} (h : Rd A w (.slice e) [v] l) {n : Nat} (hn : e.n = n) {i : Nat} (hi : i < l.length) :
    ∃ g off cap, v = .slice (some ⟨g, off, none⟩) l.length cap ∧ A g ∧ g < w.heap.size ∧ l.length ≤ cap ∧ cap ≤ maxLen ∧ ∃ c, Rd A w e c l[i] ∧ ∀ r u, c[r]? = some u → w.cell? ⟨g, off + i * n + r, none⟩ = some u := by
  obtain ⟨v', css, e1, h1, h2, h3⟩ := h
  cases e1
  obtain ⟨g, off, cap, rfl, ha, hb, hc, hd, hr⟩ := h1.at (by omega)
  have hic : i < css.length := by omega
  refine ⟨g, off, cap, rfl, ha, hb, hc, hd, css[i], h3 i _ _ (List.getElem?_eq_getElem hic) (List.getElem?_eq_getElem hi), fun r u hu => ?_⟩
  rw [Nat.add_assoc, ← hn]
  refine hr _ _ ?_
  have hel := Rd.elems h2 h3
  have hrn : r < e.n := by rw [← hel css[i] (List.getElem_mem hic)]; exact (List.getElem?_eq_some_iff.1 hu).1
  rw [flatten_get hel i r hrn, List.getElem?_eq_getElem hic]
  exact hu
theorem Rd.shape {e : Sh} {v : Value} {l : List e.Ty} (h : Rd A w (.slice e) [v] l) : ∃ a cap, v = .slice a l.length cap ∧ l.length ≤ cap ∧ cap ≤ maxLen := by
  obtain ⟨v', css, e1, h1, _⟩ := h
  cases e1
  exact h1.shape
end

/-! a part of a slice -/
/-! an argument that fits a shape -/
def fitX (P : Program) : Sh → TypeId ⊕ (List Field × Nat) → Bool
  | .int k, .inl t => match P.underlying t with | some (.int k') => decide (k' = k) && P.cellsOf t == 1 | _ => false
  | .u8, .inl t => match P.underlying t with | some (.int .u8) => P.cellsOf t == 1 | _ => false
  | .bool, .inl t => match P.underlying t with | some .bool => P.cellsOf t == 1 | _ => false
  | .str, .inl t => match P.underlying t with | some .string => P.cellsOf t == 1 | _ => false
  | .slice e, .inl t => match P.underlying t with | some (.slice te) => P.cellsOf t == 1 && P.cellsOf te == e.n && fitX P e (.inl te) && decide (0 < e.n) | _ => false
  | .arr n e, .inl t => match P.underlying t with | some (.array n' te) => decide (n' = n) && P.cellsOf t == n * e.n && P.cellsOf te == e.n && fitX P e (.inl te) | _ => false
  | .pair a b, .inl t => match P.underlying t with
    | some (.struct ⟨f :: r⟩) => P.cellsOf t == a.n + b.n && f.offset == 0 && P.cellsOf f.type == a.n && fitX P a (.inl f.type) && fitX P b (.inr (r, a.n))
    | _ => false
  | .pair a b, .inr (f :: r, off) => f.offset == off && P.cellsOf f.type == a.n && fitX P a (.inl f.type) && fitX P b (.inr (r, off + a.n))
  | .unit, .inr ([], _) => true
  | _, _ => false

section
variable {H : Type} {enc : TypeId × Value → H} {P : Program} {w : World} {base : Nat} {spare : Nat → Bool} {held : Bool}
theorem chunks (cs : List Value) (k : Nat) : ∀ n, n * k ≤ cs.length → ((List.range n).map fun i => (cs.drop (i * k)).take k).flatten = cs.take (n * k)
  | 0, _ => by simp
  | n + 1, h => by
    rw [Nat.succ_mul] at h ⊢
    rw [List.range_succ, List.map_append, List.flatten_append, chunks cs k n (by omega), List.take_add]; simp
theorem choose_list {α : Type} {n : Nat} {p : Nat → α → Prop} (h : ∀ i, i < n → ∃ x, p i x) : ∃ l : List α, l.length = n ∧ ∀ (i : Nat) x, l[i]? = some x → p i x := by
  induction n with
  | zero => exact ⟨[], rfl, fun i x h => by simp at h⟩
  | succ n ih =>
    obtain ⟨l, hl, hp⟩ := ih fun i hi => h i (by omega)
    obtain ⟨x, hx⟩ := h n (by omega)
    refine ⟨l ++ [x], by simp [hl], fun i y hy => ?_⟩
    rcases Nat.lt_or_ge i n with hi | hi
    · rw [List.getElem?_append_left (by omega)] at hy; exact hp i y hy
    · rw [List.getElem?_append_right (by omega)] at hy
      have : i = n := by
        have := (List.getElem?_eq_some_iff.1 hy).1
        simp at this; omega
      subst this
      simp [hl] at hy; subst hy; exact hx
theorem wf_u8 {n : Int} (h : (Lit.int .u8 n).wf = true) : Value.int .u8 n = bv (UInt8.ofNat n.toNat) := by
  have := bounds_u8 h
  unfold bv
  congr 1
  simp only [UInt8.toNat_ofNat']
  omega

theorem open_x : ∀ (s : Sh),
    (∀ (t : TypeId) (fuel : Nat) (cs : List Value) x, fitX P s (.inl t) = true → DataW.trod enc P w base spare held fuel t cs = some x → ∃ y, Rd (fun k => k < w.heap.size) w s cs y) ∧
    (∀ (fs : List Field) (off n : Nat) (cs : List Value), fitX P s (.inr (fs, off)) = true → cs.length = off + s.n → (∀ f ∈ fs, ∃ x, DataW.trod enc P w base spare held n f.type ((cs.drop f.offset).take (P.cellsOf f.type)) = some x) → ∃ y, Rd (fun k => k < w.heap.size) w s (cs.drop off) y)
  | .int k => ⟨fun t fuel cs x hf h => by
      unfold fitX at hf
      split at hf
      · rename_i k' hu
        simp only [Bool.and_eq_true, decide_eq_true_eq] at hf
        obtain ⟨rfl, _⟩ := hf
        obtain ⟨n, rfl, _, hw⟩ := DataW.trod_int hu h
        exact ⟨n, rfl, hw⟩
      · exact absurd hf Bool.false_ne_true, fun fs off n cs hf => by simp [fitX] at hf⟩
  | .u8 => ⟨fun t fuel cs x hf h => by
      unfold fitX at hf
      split at hf
      · rename_i hu
        obtain ⟨n, rfl, _, hw⟩ := DataW.trod_int hu h
        exact ⟨UInt8.ofNat n.toNat, by show [_] = [_]; rw [wf_u8 hw]⟩
      · exact absurd hf Bool.false_ne_true, fun fs off n cs hf => by simp [fitX] at hf⟩
  | .bool => ⟨fun t fuel cs x hf h => by
      unfold fitX at hf
      split at hf
      · rename_i hu
        obtain ⟨b, rfl, _⟩ := DataW.trod_bool hu h
        exact ⟨b, rfl⟩
      · exact absurd hf Bool.false_ne_true, fun fs off n cs hf => by simp [fitX] at hf⟩
  | .str => ⟨fun t fuel cs x hf h => by
      unfold fitX at hf
      split at hf
      · rename_i hu
        obtain ⟨s, rfl, _, hm⟩ := DataW.trod_string hu h
        exact ⟨s.data.toList, by simp, by simpa using hm⟩
      · exact absurd hf Bool.false_ne_true, fun fs off n cs hf => by simp [fitX] at hf⟩
  | .unit => ⟨fun t fuel cs x hf h => by simp [fitX] at hf, fun fs off n cs hf hl _ => ⟨(), by
      show cs.drop off = []
      rw [List.drop_eq_nil_iff]; simp only [Sh.n] at hl; omega⟩⟩
  | .pair a b => ⟨fun t fuel cs x hf h => by
      unfold fitX at hf
      split at hf
      · rename_i f r hu
        simp only [Bool.and_eq_true, beq_iff_eq] at hf
        obtain ⟨⟨⟨⟨h0, h1⟩, h2⟩, h3⟩, h4⟩ := hf
        obtain ⟨xs, n, _, _, hlen, hxl, hfs⟩ := DataW.trod_struct hu h
        have hg : ∀ f' ∈ f :: r, ∃ x, DataW.trod enc P w base spare held n f'.type ((cs.drop f'.offset).take (P.cellsOf f'.type)) = some x := by
          intro f' hf'
          obtain ⟨i, hi⟩ := List.mem_iff_getElem?.1 hf'
          have hi' : i < (f :: r).length := (List.getElem?_eq_some_iff.1 hi).1
          have hx : i < xs.length := by rw [hxl]; simpa using hi'
          have := hfs i f' (by simpa using hi)
          rw [List.getElem?_eq_getElem hx] at this
          exact ⟨_, this⟩
        obtain ⟨x1, hx1⟩ := hg f (by simp)
        rw [h1, h2, List.drop_zero] at hx1
        obtain ⟨y1, hy1⟩ := (open_x a).1 _ _ _ _ h3 hx1
        obtain ⟨y2, hy2⟩ := (open_x b).2 r a.n n cs h4 (by omega) fun f' hf' => hg f' (by simp [hf'])
        exact ⟨(y1, y2), _, _, (List.take_append_drop a.n cs).symm, hy1, hy2⟩
      · exact absurd hf Bool.false_ne_true, fun fs off n cs hf hl hg => by
      match fs with
      | [] => simp [fitX] at hf
      | f :: r =>
        simp only [fitX, Bool.and_eq_true, beq_iff_eq] at hf
        obtain ⟨⟨⟨h1, h2⟩, h3⟩, h4⟩ := hf
        obtain ⟨x1, hx1⟩ := hg f (by simp)
        rw [h1, h2] at hx1
        obtain ⟨y1, hy1⟩ := (open_x a).1 _ _ _ _ h3 hx1
        simp only [Sh.n] at hl
        obtain ⟨y2, hy2⟩ := (open_x b).2 r (off + a.n) n cs h4 (by omega) fun f' hf' => hg f' (by simp [hf'])
        refine ⟨(y1, y2), _, _, ?_, hy1, hy2⟩
        rw [← List.drop_drop]; exact (List.take_append_drop a.n _).symm⟩
  | .slice e => ⟨fun t fuel cs x hf h => by
      unfold fitX at hf
      split at hf
      · rename_i te hu
        simp only [Bool.and_eq_true, beq_iff_eq, decide_eq_true_eq] at hf
        obtain ⟨⟨⟨_, hce⟩, hfe⟩, hpos⟩ := hf
        rcases Deep.open_slice hu h with ⟨rfl, _⟩ | ⟨a, len, cap, m, n, D, Pl, rfl, _, hl, hm, hmm, _, hi⟩
        · exact ⟨[], _, [], rfl, Sl.nil _ _ _, rfl, fun i c y h => by simp at h⟩
        · have hlm : len ≤ m := by rw [hmm]; split <;> omega
          have h2 : ∀ i, i < len → ∃ q : List Value × e.Ty, (∀ r, r < e.n → w.cell? (a.add (i * e.n + r)) = q.1[r]?) ∧ Rd (fun k => k < w.heap.size) w e q.1 q.2 := by
            intro i hil
            obtain ⟨cs', hc, ht⟩ := hi i (by omega)
            obtain ⟨y, hy⟩ := (open_x e).1 _ _ _ _ hfe ht
            rw [hce] at hc
            obtain ⟨_, _, hr⟩ := World.cells?_some hc
            refine ⟨(cs', y), fun r hr' => ?_, hy⟩
            rw [← Deep.add_add]; exact hr r hr'
          obtain ⟨l, hll, hp⟩ := choose_list h2
          have hel : ∀ c ∈ l.map (·.1), c.length = e.n := by
            intro c hc
            obtain ⟨q, hq, rfl⟩ := List.mem_map.1 hc
            obtain ⟨i, hi⟩ := List.mem_iff_getElem?.1 hq
            exact (hp i q hi).2.len
          refine ⟨l.map (·.2), .slice (some a) len cap, l.map (·.1), rfl, ⟨?_, some a, cap, by simp [hll], by simpa [hll] using hl, hm, (fun h => by cases h), fun hn => ?_⟩, by simp, fun i c y hc hy => ?_⟩
          · rw [flatten_len hel]; simp
          · have hcell : ∀ j u, (l.map (·.1)).flatten[j]? = some u → w.cell? (a.add j) = some u := by
              intro j u hu
              obtain ⟨i, r, c, rfl, hr, hc, hu⟩ := flatten_get_some hel hpos hu
              rw [List.getElem?_map] at hc
              cases hq : l[i]? with
              | none => rw [hq] at hc; cases hc
              | some q =>
                rw [hq] at hc; cases hc
                rw [(hp i q hq).1 r hr]; exact hu
            simp only [List.length_map, hll] at hn
            have hfl : 0 < (l.map (·.1)).flatten.length := by
              rw [flatten_len hel, List.length_map, hll]; exact Nat.mul_pos hn hpos
            have h0 := hcell 0 _ (List.getElem?_eq_getElem hfl)
            obtain ⟨ab, ao, spot⟩ := a
            have hs : spot = none := by simpa [Addr.add] using World.cell?_spot h0
            subst hs
            refine ⟨ab, ao, rfl, World.block_lt_of_cell? w _ h0, World.block_lt_of_cell? w _ h0, fun j u hu => ?_⟩
            have := hcell j u hu
            rwa [Addr.add_lit] at this
          · rw [List.getElem?_map] at hc hy
            cases hq : l[i]? with
            | none => rw [hq] at hc; cases hc
            | some q =>
              rw [hq] at hc hy; cases hc; cases hy
              exact (hp i q hq).2
      · exact absurd hf Bool.false_ne_true, fun fs off n cs hf => by simp [fitX] at hf⟩
  | .arr n e => ⟨fun t fuel cs x hf h => by
      unfold fitX at hf
      split at hf
      · rename_i n' te hu
        simp only [Bool.and_eq_true, beq_iff_eq, decide_eq_true_eq] at hf
        obtain ⟨⟨⟨rfl, hct⟩, hce⟩, hfe⟩ := hf
        cases fuel with
        | zero => simp [DataW.trod] at h
        | succ fuel =>
          unfold DataW.trod at h
          rw [hu] at h
          simp only at h
          split at h
          · rename_i hlen
            rw [hct] at hlen
            cases hm : (List.range n').mapM (fun i => DataW.trod enc P w base spare held fuel te ((cs.drop (i * P.cellsOf te)).take (P.cellsOf te))) with
            | none => rw [hm] at h; cases h
            | some xs =>
              have h2 : ∀ i, i < n' → ∃ y : e.Ty, Rd (fun k => k < w.heap.size) w e ((cs.drop (i * e.n)).take e.n) y := by
                intro i hi
                have h1 := mapM_some_get hm i i (by simp [hi])
                have hxl : xs.length = n' := by simpa using mapM_some_length hm
                rw [List.getElem?_eq_getElem (by omega), hce] at h1
                exact (open_x e).1 _ _ _ _ hfe h1
              obtain ⟨l, hll, hp⟩ := choose_list h2
              refine ⟨l, (List.range n').map fun i => (cs.drop (i * e.n)).take e.n, ?_, by simp, hll, fun i c y hc hy => ?_⟩
              · rw [chunks cs e.n n' (by omega), ← hlen, List.take_length]
              · rw [List.getElem?_map] at hc
                have hi : i < n' := by rw [← hll]; exact (List.getElem?_eq_some_iff.1 hy).1
                rw [List.getElem?_range hi] at hc
                cases hc
                exact hp i y hy
          · cases h
      · exact absurd hf Bool.false_ne_true, fun fs off n cs hf => by simp [fitX] at hf⟩

theorem open_slice_arg {s : Sh} {t te : TypeId} {r : Reach} {b0 : Nat} {v : Value} {d : DataW H} {p : List MemPlace} (hu : P.underlying t = some (.slice te)) (hf : fitX P (.slice s) (.inl t) = true) (hval : Value.okWide P w r b0 t v) (h : DataW.Trod enc P w base spare held t v d p) :
    ∃ y, Rd (fun k => k < w.heap.size) w (.slice s) [v] y := by
  obtain ⟨a, len, cap, rfl⟩ := okWide_slice hu hval
  obtain ⟨fuel, hx⟩ := h
  exact (open_x (.slice s)).1 _ _ _ _ hf hx
theorem open_str_arg {t : TypeId} {r : Reach} {b0 : Nat} {v : Value} {d : DataW H} {p : List MemPlace} (hu : P.underlying t = some .string) (hf : fitX P .str (.inl t) = true) (hval : Value.okWide P w r b0 t v) (h : DataW.Trod enc P w base spare held t v d p) :
    ∃ y : List UInt8, v = .string ⟨y.toArray⟩ ∧ y.length ≤ maxLen := by
  obtain ⟨s, rfl⟩ := okWide_string hu hval
  obtain ⟨fuel, hx⟩ := h
  obtain ⟨y, h1, h2⟩ := (open_x .str).1 _ _ _ _ hf hx
  exact ⟨y, by simpa [Value.cells] using h1, h2⟩
end
end Go.Dm
namespace Go.Proofs.YtbnahidopemkiaaGreat
open Go.RowKit Go.Dm
/-- a call of function f enters it -/
def Enters (f : Nat) (c : Array Value) : Prop := ∀ w : World, (callFunc f c).run Tryz.prog w = .ok (.enter f c) w
end Go.Proofs.YtbnahidopemkiaaGreat
