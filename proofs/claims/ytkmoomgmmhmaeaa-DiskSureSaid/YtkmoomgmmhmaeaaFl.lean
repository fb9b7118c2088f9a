/- Slices of flat elements: read at an index, pushed to, put one behind the other. No condition. -/
import Derived.Test.YtkmoomgmmhmaeaaRd
import Derived.Laws.Tables
import Derived.Laws.Rows
import Derived.Laws.ResultCell
namespace Go.Dm
open Go Go.RowKit

/-- a slice whose elements x are the cells enc x -/
def Fl {α : Type} (A : Nat → Prop) (w : World) (k : Nat) (enc : α → List Value) (v : Value) (l : List α) : Prop := Sl A w k v l.length (l.flatMap enc)
/-- the same in a row of one's own -/
def FlO {α : Type} (w : World) (base : Nat) (e : TypeId) (k : Nat) (enc : α → List Value) (v : Value) (l : List α) : Prop := w.ownsRow base e k v l.length (l.flatMap enc)

section
variable {α : Type} {A : Nat → Prop} {w : World} {k : Nat} {enc : α → List Value} {v : Value} {l : List α}
theorem Fl.keep {S : Nat → Prop} {w' : World} (h : Fl A w k enc v l) (hk : Keep S w w') (hS : ∀ j, j < w.heap.size → A j → ¬ S j) : Fl A w' k enc v l := Sl.keep h hk hS
theorem Fl.no {w' : World} (h : Fl A w k enc v l) (hk : Keep No w w') : Fl A w' k enc v l := Sl.keep h hk fun _ _ _ h => h
theorem Fl.mono {B : Nat → Prop} (h : Fl A w k enc v l) (hab : ∀ j, j < w.heap.size → A j → B j) : Fl B w k enc v l := Sl.mono h hab
theorem Fl.shape (h : Fl A w k enc v l) : ∃ a cap, v = .slice a l.length cap ∧ l.length ≤ cap ∧ cap ≤ maxLen := Sl.shape h
theorem Fl.nil : Fl A w k enc (.slice none 0 0) [] := Sl.nil _ _ _
theorem Fl.at (h : Fl A w k enc v l) (hk : ∀ x, (enc x).length = k) {i : Nat} (hi : i < l.length) :
    ∃ g off cap, v = .slice (some ⟨g, off, none⟩) l.length cap ∧ A g ∧ g < w.heap.size ∧ l.length ≤ cap ∧ cap ≤ maxLen ∧ ∀ r u, (enc l[i])[r]? = some u → w.cell? ⟨g, off + i * k + r, none⟩ = some u := by
  obtain ⟨g, off, cap, e, ha, hg, hc, hm, hr⟩ := Sl.at h (by omega)
  refine ⟨g, off, cap, e, ha, hg, hc, hm, fun r u hu => ?_⟩
  have hel : ∀ c ∈ l.map enc, c.length = k := by
    intro c hc
    obtain ⟨x, _, rfl⟩ := List.mem_map.1 hc
    exact hk x
  have hrk : r < k := by rw [← hk l[i]]; exact (List.getElem?_eq_some_iff.1 hu).1
  rw [Nat.add_assoc]
  refine hr _ _ ?_
  rw [List.flatMap_def, flatten_get hel i r hrk, List.getElem?_map, List.getElem?_eq_getElem hi]
  exact hu
variable {base : Nat} {e : TypeId}
theorem FlO.fl (h : FlO w base e k enc v l) : Fl (fun j => base ≤ j ∧ j < w.heap.size) w k enc v l := Sl.mono (Sl.of_own h) fun j hj ha => ⟨ha.1, hj⟩
theorem FlO.flO (h : FlO w base e k enc v l) : Fl (fun j => base ≤ j ∧ some j = v.ownBlock) w k enc v l := Sl.of_own h
theorem FlO.same {w' : World} (h : FlO w base e k enc v l) (hs : ∀ g, v.ownBlock = some g → w'.heap[g]? = w.heap[g]?) : FlO w' base e k enc v l := by
  refine ⟨h.1, h.2.imp id ?_⟩
  rintro ⟨g, cap, cur, rfl, a, b, r⟩
  exact ⟨g, cap, cur, rfl, a, (hs g rfl).trans b, r⟩
theorem FlO.no {w' : World} (h : FlO w base e k enc v l) (hk : Keep No w w') : FlO w' base e k enc v l := h.same fun g hg => hk.block g (World.ownsRow.lt h g hg).2 fun h => h
theorem FlO.nil : FlO w base e k enc (.slice none 0 0) [] := World.ownsRow_nil _ _ _ _
/-- what is written into a row of one's own is nobody else's -/
theorem Keep.own {w0 w' : World} {n : Nat} {xs : List Value} (hK : Keep No w0 w) (ho : w.ownsRow w0.heap.size e k v n xs) (hk : Keep (fun j => some j = v.ownBlock) w w') : Keep No w0 w' :=
  hK.trans hk fun j hj h => absurd (ho.lt j h.symm).1 (Nat.not_le.2 hj)

theorem Keep.new {w w1 : World} (h : Keep No w w1) {p : Addr} (hp : w.heap.size ≤ p.block) (u : Value) : Keep No w (w1.setCell p u) := h.setCell (fun hl => absurd hl (Nat.not_lt.2 hp)) u
theorem Blk.own {w w' : World} {b base : Nat} {cs : Array Value} {t e : TypeId} {k n : Nat} {v : Value} {xs : List Value} (h : Blk w b cs t) (ho : w.ownsRow base e k v n xs) (hk : Keep (fun j => some j = v.ownBlock) w w') (hb : b < base) : Blk w' b cs t :=
  h.keep hk fun e => absurd (ho.lt b e.symm).1 (Nat.not_le.2 hb)

variable {P : Program}
/-- append(v, x) -/
theorem rg_push (z : Value) (bytes : Nat) {t ty : TypeId} (ht : P.underlying t = some (.slice e)) (hi : (P.info? e).map (fun i => (i.zero, i.size, i.bytes)) = some (some z, k, bytes)) (hzs : z.cells.size = k) (hk0 : 0 < k)
    {x : α} {cs : Array Value} (hcs : cs.toList = enc x) (hx : (enc x).length = k) (hone : ∀ u ∈ enc x, u.oneCell' = true) (ho : FlO w base e k enc v l) (hlen : l.length + 1 ≤ 1099511627776) (hb : bytes ≤ 128) (hbase : base ≤ w.heap.size) {K : Value → World → Prop}
    (h : ∀ v' w', FlO w' base e k enc v' (l ++ [x]) → Keep (fun j => some j = v.ownBlock) w w' → (v'.ownBlock = v.ownBlock ∨ v'.ownBlock = some (w.heap.size + 1)) → K v' w') : AppendGoal P t t ty v (.slice (some ⟨w.heap.size, 0, none⟩) 1 1) (w.alloc (.cells cs e)) K := by
  have hs : Sl (fun j => j = w.heap.size) (w.alloc (.cells cs e)) k (.slice (some ⟨w.heap.size, 0, none⟩) 1 1) 1 (enc x) := by
    rw [← hcs]
    exact Sl.new w cs e (by rw [← Array.length_toList, hcs, hx, Nat.one_mul]) (by unfold maxLen; omega)
  have hbb : (l.length + 1) * bytes ≤ 140737488355328 := Nat.le_trans (Nat.mul_le_mul hlen hb) (by decide)
  refine rg_append base e z k bytes ht hi hzs hk0 (ho.alloc _) hs hone (by unfold maxLen; omega) hbb (by rw [World.size_alloc]; omega) ?_
  intro v' w' ho' hk' _ hn
  refine h v' w' ?_ (((Keep.refl _ w).alloc _).trans' hk') ?_
  · unfold FlO
    rw [List.length_append, List.flatMap_append]
    simpa using ho'
  · rw [World.size_alloc] at hn; exact hn
/-- append(v, vs...) -/
theorem rg_cat (z : Value) (bytes : Nat) {t ty : TypeId} (ht : P.underlying t = some (.slice e)) (hi : (P.info? e).map (fun i => (i.zero, i.size, i.bytes)) = some (some z, k, bytes)) (hzs : z.cells.size = k) (hk0 : 0 < k)
    {vs : Value} {m : List α} (hs : Fl A w k enc vs m) (hone : ∀ x, ∀ u ∈ enc x, u.oneCell' = true) (ho : FlO w base e k enc v l) (hlen : l.length + m.length ≤ 1099511627776) (hb : bytes ≤ 128) (hbase : base ≤ w.heap.size) {K : Value → World → Prop}
    (h : ∀ v' w', FlO w' base e k enc v' (l ++ m) → Keep (fun j => some j = v.ownBlock) w w' → (v'.ownBlock = v.ownBlock ∨ v'.ownBlock = some w.heap.size) → K v' w') : AppendGoal P t t ty v vs w K := by
  have hbb : (l.length + m.length) * bytes ≤ 140737488355328 := Nat.le_trans (Nat.mul_le_mul hlen hb) (by decide)
  refine rg_append base e z k bytes ht hi hzs hk0 ho hs (fun u hu => ?_) (by unfold maxLen; omega) hbb hbase ?_
  · obtain ⟨x, _, hx⟩ := List.mem_flatMap.1 hu
    exact hone x u hx
  · intro v' w' ho' hk' _ hn
    refine h v' w' ?_ hk' hn
    unfold FlO
    rw [List.length_append, List.flatMap_append]
    exact ho'
end

/-! a whole struct is stored; a struct is the result -/
def StAggGoal (P : Program) (ty : TypeId) (g : Nat) (cells : Array Value) (w : World) (K : World → Prop) : Prop := RunGoal P (Instr.storeAt ty (.pointer (some ⟨g, 0, none⟩)) (.agg cells)) w fun _ w' => K w'
section
variable {P : Program} {w : World}
theorem wl_stAgg {ops : Array Oper} {rest : List Oper} {o : Oper} {a : Act} {Q : Exit → Act → World → Prop} (hgd : o.guard = none) (x y : Operand) (ty : TypeId) (ho : o.op = Op.store ty x y) (g : Nat) (cells : Array Value)
    (h1 : a.eval x = .pointer (some ⟨g, 0, none⟩)) (h2 : a.eval y = .agg cells) (h : StAggGoal P ty g cells w fun w' => wpList P ops Q rest (a.put o.dst undef) w') : wpList P ops Q (o :: rest) a w := by
  obtain ⟨v, w', hr, hk⟩ := h
  refine wpList_plain hgd fun K hK => ?_
  unfold Oper.wp execOp
  simp only [ho, h1, h2, hr, Sem.run_bind, Sem.run_pure, Result.andThen_ok]
  exact hK _ _ hk
theorem wo_stAgg {o : Oper} {a : Act} {Q : Exit → Act → World → Prop} {K : Act → World → Prop} (x y : Operand) (ty : TypeId) (ho : o.op = Op.store ty x y) (g : Nat) (cells : Array Value)
    (h1 : a.eval x = .pointer (some ⟨g, 0, none⟩)) (h2 : a.eval y = .agg cells) (h : StAggGoal P ty g cells w fun w' => K (a.put o.dst undef) w') : o.wp P a w K Q := by
  obtain ⟨v, w', hr, hk⟩ := h
  unfold Oper.wp execOp
  simp only [ho, h1, h2, hr, Sem.run_bind, Sem.run_pure, Result.andThen_ok]
  exact hk
theorem rg_stAgg {g : Nat} {old cells : Array Value} {t ty : TypeId} (hB : Blk w g old t) (hi : (P.info? ty).map (·.size) = some cells.size) (hold : old.size = cells.size) (h1 : cells.all (·.oneCell') = true) {K : World → Prop}
    (h : ∀ w', Blk w' g cells t → Keep (fun j => j = g) w w' → w'.heap.size = w.heap.size → K w') : StAggGoal P ty g cells w K := by
  refine .mk (v := ()) (w' := w.setRow g cells) ?_ (h _ (setRow_heap w g old cells t _ hB) ⟨rfl, rfl, rfl, by simp, fun k _ hk => setRow_other w g k cells hk⟩ (by simp))
  simp only [Instr.storeAt, Instr.sureAddr, Sem.run_bind, Sem.run_pure, Result.andThen_ok, run_storeVar_row w g t ty old cells hB hi hold h1]
/-- the result lies in block g -/
theorem ret_blk {fn : Func} {R : Ending → World → Prop} {a : Act} {p : Tmp} {ty t : TypeId} {g : Nat} {cs : Array Value} {d : TypeDesc} (h : fn.results = #[.cell p ty]) (hp : a.tmps.getD p undef = .pointer (some ⟨g, 0, none⟩)) (hB : Blk w g cs t) (hu : P.underlying ty = some d)
    (hd : (match d with | .struct _ | .array _ _ => true | _ => false) = true) (hi : (P.info? ty).map (·.size) = some cs.size) (hdf : a.defers = []) (hR : R (.returned (.agg cs)) w) : bodyPost P fn R .ret a w :=
  bodyPost_ret (results_cell_row h a.tmps w g t cs _ d hp hB hu hd hi) hdf hR
theorem ret_blk_tmp {fn : Func} {R : Ending → World → Prop} {a : Act} {p u : Tmp} {ty t : TypeId} {g : Nat} {cs : Array Value} {d : TypeDesc} (h : fn.results = #[.cell p ty, .tmp u]) (hp : a.tmps.getD p undef = .pointer (some ⟨g, 0, none⟩)) (hB : Blk w g cs t) (hu : P.underlying ty = some d)
    (hd : (match d with | .struct _ | .array _ _ => true | _ => false) = true) (hi : (P.info? ty).map (·.size) = some cs.size) (hdf : a.defers = []) (hR : R (.returned (.tuple #[.agg cs, a.tmps.getD u undef])) w) : bodyPost P fn R .ret a w :=
  bodyPost_ret (by rw [results_cell_tmp h, hp]; simp [asAddr, run_loadVar_row w g t ty cs _ d hB hu hd hi, Result.andThen]) hdf hR
end
end Go.Dm
