/- Slices of flat elements: read at an index, pushed to, put one behind the other. A region that draws its order, walked in one order that is given: operations that yield the same in every world of a class S are taken first; behind each of the others S is shown anew, where something may still come that leans on it. A map as an association list (MapL), and a range over it (RangeL): lookups, stores, deletes, len, range, said once for all walks of this seat. The disk by definition: lists, no program in sight (the document's chapter 10 as Lean functions). How a disk of the program lies in memory (DRep), and that it stays while other memory is turned. No condition. -/
import Derived.Test.YtkmoomgmmhmaeaaGreatRd
import Derived.Laws.Tables
import Derived.Laws.Rows
import Derived.Laws.ResultCell
import Derived.OrdersHeld
import Derived.Test.YtkmoomgmmhmaeaaGreatProg
namespace Go.Dm
open Go Go.RowKit

/-- a slice whose elements x are the cells enc x -/
def Fl {α : Type} (A : Nat → Prop) (w : World) (k : Nat) (enc : α → List Value) (v : Value) (l : List α) : Prop := Sl A w k v l.length (l.flatMap enc)
/-- the same in a row of one's own -/
def FlO {α : Type} (w : World) (base : Nat) (e : TypeId) (k : Nat) (enc : α → List Value) (v : Value) (l : List α) : Prop := w.ownsRow base e k v l.length (l.flatMap enc)

section
variable {α : Type} {A : Nat → Prop} {w : World} {k : Nat} {enc : α → List Value} {v : Value} {l : List α}
theorem Fl.keep {S : Nat → Prop} {w' : World} (h : Fl A w k enc v l) (hk : Keep S w w') (hS : ∀ j, j < w.heap.size → A j → ¬ S j) : Fl A w' k enc v l := Sl.keep h hk hS
theorem Fl.no {w' : World} (h : Fl A w k enc v l) (hk : Keep No w w') : Fl A w' k enc v l := Sl.keep h hk fun _ _ _ h => h
theorem Fl.mono {B : Nat → Prop} (h : Fl A w k enc v l) (hab : ∀ j, j < w.heap.size → A j → B j) : Fl B w k enc v l := Sl.mono h hab
theorem Fl.shape (h : Fl A w k enc v l) : ∃ a cap, v = .slice a l.length cap ∧ l.length ≤ cap ∧ cap ≤ maxLen := Sl.shape h
theorem Fl.nil : Fl A w k enc (.slice none 0 0) [] := Sl.nil _ _ _
theorem Fl.at (h : Fl A w k enc v l) (hk : ∀ x, (enc x).length = k) {i : Nat} (hi : i < l.length) :
    ∃ g off cap, v = .slice (some ⟨g, off, none⟩) l.length cap ∧ A g ∧ g < w.heap.size ∧ l.length ≤ cap ∧ cap ≤ maxLen ∧ ∀ r u, (enc l[i])[r]? = some u → w.cell? ⟨g, off + i * k + r, none⟩ = some u := by
  obtain ⟨g, off, cap, e, ha, hg, hc, hm, hr⟩ := Sl.at h (by omega)
  refine ⟨g, off, cap, e, ha, hg, hc, hm, fun r u hu => ?_⟩
  have hel : ∀ c ∈ l.map enc, c.length = k := by
    intro c hc
    obtain ⟨x, _, rfl⟩ := List.mem_map.1 hc
    exact hk x
  have hrk : r < k := by rw [← hk l[i]]; exact (List.getElem?_eq_some_iff.1 hu).1
  rw [Nat.add_assoc]
  refine hr _ _ ?_
  rw [List.flatMap_def, flatten_get hel i r hrk, List.getElem?_map, List.getElem?_eq_getElem hi]
  exact hu
variable {base : Nat} {e : TypeId}
theorem FlO.fl (h : FlO w base e k enc v l) : Fl (fun j => base ≤ j ∧ j < w.heap.size) w k enc v l := Sl.mono (Sl.of_own h) fun j hj ha => ⟨ha.1, hj⟩
theorem FlO.flO (h : FlO w base e k enc v l) : Fl (fun j => base ≤ j ∧ some j = v.ownBlock) w k enc v l := Sl.of_own h
theorem FlO.same {w' : World} (h : FlO w base e k enc v l) (hs : ∀ g, v.ownBlock = some g → w'.heap[g]? = w.heap[g]?) : FlO w' base e k enc v l := by
  refine ⟨h.1, h.2.imp id ?_⟩
  rintro ⟨g, cap, cur, rfl, a, b, r⟩
  exact ⟨g, cap, cur, rfl, a, (hs g rfl).trans b, r⟩
theorem FlO.no {w' : World} (h : FlO w base e k enc v l) (hk : Keep No w w') : FlO w' base e k enc v l := h.same fun g hg => hk.block g (World.ownsRow.lt h g hg).2 fun h => h
theorem FlO.nil : FlO w base e k enc (.slice none 0 0) [] := World.ownsRow_nil _ _ _ _
/-- what is written into a row of one's own is nobody else's -/
theorem Keep.own {w0 w' : World} {n : Nat} {xs : List Value} (hK : Keep No w0 w) (ho : w.ownsRow w0.heap.size e k v n xs) (hk : Keep (fun j => some j = v.ownBlock) w w') : Keep No w0 w' :=
  hK.trans hk fun j hj h => absurd (ho.lt j h.symm).1 (Nat.not_le.2 hj)

theorem Keep.new {w w1 : World} (h : Keep No w w1) {p : Addr} (hp : w.heap.size ≤ p.block) (u : Value) : Keep No w (w1.setCell p u) := h.setCell (fun hl => absurd hl (Nat.not_lt.2 hp)) u
theorem Blk.own {w w' : World} {b base : Nat} {cs : Array Value} {t e : TypeId} {k n : Nat} {v : Value} {xs : List Value} (h : Blk w b cs t) (ho : w.ownsRow base e k v n xs) (hk : Keep (fun j => some j = v.ownBlock) w w') (hb : b < base) : Blk w' b cs t :=
  h.keep hk fun e => absurd (ho.lt b e.symm).1 (Nat.not_le.2 hb)

variable {P : Program}
/-- append(v, x) -/
theorem rg_push (z : Value) (bytes : Nat) {t ty : TypeId} (ht : P.underlying t = some (.slice e)) (hi : (P.info? e).map (fun i => (i.zero, i.size, i.bytes)) = some (some z, k, bytes)) (hzs : z.cells.size = k) (hk0 : 0 < k)
    {x : α} {cs : Array Value} (hcs : cs.toList = enc x) (hx : (enc x).length = k) (hone : ∀ u ∈ enc x, u.oneCell' = true) (ho : FlO w base e k enc v l) (hlen : l.length + 1 ≤ 1099511627776) (hb : bytes ≤ 128) (hbase : base ≤ w.heap.size) {K : Value → World → Prop}
    (h : ∀ v' w', FlO w' base e k enc v' (l ++ [x]) → Keep (fun j => some j = v.ownBlock) w w' → (v'.ownBlock = v.ownBlock ∨ v'.ownBlock = some (w.heap.size + 1)) → K v' w') : AppendGoal P t t ty v (.slice (some ⟨w.heap.size, 0, none⟩) 1 1) (w.alloc (.cells cs e)) K := by
  have hs : Sl (fun j => j = w.heap.size) (w.alloc (.cells cs e)) k (.slice (some ⟨w.heap.size, 0, none⟩) 1 1) 1 (enc x) := by
    rw [← hcs]
    exact Sl.new w cs e (by rw [← Array.length_toList, hcs, hx, Nat.one_mul]) (by unfold maxLen; omega)
  have hbb : (l.length + 1) * bytes ≤ 140737488355328 := Nat.le_trans (Nat.mul_le_mul hlen hb) (by decide)
  refine rg_append base e z k bytes ht hi hzs hk0 (ho.alloc _) hs hone (by unfold maxLen; omega) hbb (by rw [World.size_alloc]; omega) ?_
  intro v' w' ho' hk' _ hn
  refine h v' w' ?_ (((Keep.refl _ w).alloc _).trans' hk') ?_
  · unfold FlO
    rw [List.length_append, List.flatMap_append]
    simpa using ho'
  · rw [World.size_alloc] at hn; exact hn
/-- append(v, vs...) -/
theorem rg_cat (z : Value) (bytes : Nat) {t ty : TypeId} (ht : P.underlying t = some (.slice e)) (hi : (P.info? e).map (fun i => (i.zero, i.size, i.bytes)) = some (some z, k, bytes)) (hzs : z.cells.size = k) (hk0 : 0 < k)
    {vs : Value} {m : List α} (hs : Fl A w k enc vs m) (hone : ∀ x, ∀ u ∈ enc x, u.oneCell' = true) (ho : FlO w base e k enc v l) (hlen : l.length + m.length ≤ 1099511627776) (hb : bytes ≤ 128) (hbase : base ≤ w.heap.size) {K : Value → World → Prop}
    (h : ∀ v' w', FlO w' base e k enc v' (l ++ m) → Keep (fun j => some j = v.ownBlock) w w' → (v'.ownBlock = v.ownBlock ∨ v'.ownBlock = some w.heap.size) → K v' w') : AppendGoal P t t ty v vs w K := by
  have hbb : (l.length + m.length) * bytes ≤ 140737488355328 := Nat.le_trans (Nat.mul_le_mul hlen hb) (by decide)
  refine rg_append base e z k bytes ht hi hzs hk0 ho hs (fun u hu => ?_) (by unfold maxLen; omega) hbb hbase ?_
  · obtain ⟨x, _, hx⟩ := List.mem_flatMap.1 hu
    exact hone x u hx
  · intro v' w' ho' hk' _ hn
    refine h v' w' ?_ hk' hn
    unfold FlO
    rw [List.length_append, List.flatMap_append]
    exact ho'
end

/-! a whole struct is stored; a struct is the result -/
def StAggGoal (P : Program) (ty : TypeId) (g : Nat) (cells : Array Value) (w : World) (K : World → Prop) : Prop := RunGoal P (Instr.storeAt ty (.pointer (some ⟨g, 0, none⟩)) (.agg cells)) w fun _ w' => K w'
section
variable {P : Program} {w : World}
theorem wl_stAgg {ops : Array Oper} {rest : List Oper} {o : Oper} {a : Act} {Q : Exit → Act → World → Prop} (hgd : o.guard = none) (x y : Operand) (ty : TypeId) (ho : o.op = Op.store ty x y) (g : Nat) (cells : Array Value)
    (h1 : a.eval x = .pointer (some ⟨g, 0, none⟩)) (h2 : a.eval y = .agg cells) (h : StAggGoal P ty g cells w fun w' => wpList P ops Q rest (a.put o.dst undef) w') : wpList P ops Q (o :: rest) a w := by
  obtain ⟨v, w', hr, hk⟩ := h
  refine wpList_plain hgd fun K hK => ?_
  unfold Oper.wp execOp
  simp only [ho, h1, h2, hr, Sem.run_bind, Sem.run_pure, Result.andThen_ok]
  exact hK _ _ hk
theorem wo_stAgg {o : Oper} {a : Act} {Q : Exit → Act → World → Prop} {K : Act → World → Prop} (x y : Operand) (ty : TypeId) (ho : o.op = Op.store ty x y) (g : Nat) (cells : Array Value)
    (h1 : a.eval x = .pointer (some ⟨g, 0, none⟩)) (h2 : a.eval y = .agg cells) (h : StAggGoal P ty g cells w fun w' => K (a.put o.dst undef) w') : o.wp P a w K Q := by
  obtain ⟨v, w', hr, hk⟩ := h
  unfold Oper.wp execOp
  simp only [ho, h1, h2, hr, Sem.run_bind, Sem.run_pure, Result.andThen_ok]
  exact hk
theorem rg_stAgg {g : Nat} {old cells : Array Value} {t ty : TypeId} (hB : Blk w g old t) (hi : (P.info? ty).map (·.size) = some cells.size) (hold : old.size = cells.size) (h1 : cells.all (·.oneCell') = true) {K : World → Prop}
    (h : ∀ w', Blk w' g cells t → Keep (fun j => j = g) w w' → w'.heap.size = w.heap.size → K w') : StAggGoal P ty g cells w K := by
  refine .mk (v := ()) (w' := w.setRow g cells) ?_ (h _ (setRow_heap w g old cells t _ hB) ⟨rfl, rfl, rfl, by simp, fun k _ hk => setRow_other w g k cells hk⟩ (by simp))
  simp only [Instr.storeAt, Instr.sureAddr, Sem.run_bind, Sem.run_pure, Result.andThen_ok, run_storeVar_row w g t ty old cells hB hi hold h1]
/-- the result lies in block g -/
theorem ret_blk {fn : Func} {R : Ending → World → Prop} {a : Act} {p : Tmp} {ty t : TypeId} {g : Nat} {cs : Array Value} {d : TypeDesc} (h : fn.results = #[.cell p ty]) (hp : a.tmps.getD p undef = .pointer (some ⟨g, 0, none⟩)) (hB : Blk w g cs t) (hu : P.underlying ty = some d)
    (hd : (match d with | .struct _ | .array _ _ => true | _ => false) = true) (hi : (P.info? ty).map (·.size) = some cs.size) (hdf : a.defers = []) (hR : R (.returned (.agg cs)) w) : bodyPost P fn R .ret a w :=
  bodyPost_ret (results_cell_row h a.tmps w g t cs _ d hp hB hu hd hi) hdf hR
theorem ret_blk_tmp {fn : Func} {R : Ending → World → Prop} {a : Act} {p u : Tmp} {ty t : TypeId} {g : Nat} {cs : Array Value} {d : TypeDesc} (h : fn.results = #[.cell p ty, .tmp u]) (hp : a.tmps.getD p undef = .pointer (some ⟨g, 0, none⟩)) (hB : Blk w g cs t) (hu : P.underlying ty = some d)
    (hd : (match d with | .struct _ | .array _ _ => true | _ => false) = true) (hi : (P.info? ty).map (·.size) = some cs.size) (hdf : a.defers = []) (hR : R (.returned (.tuple #[.agg cs, a.tmps.getD u undef])) w) : bodyPost P fn R .ret a w :=
  bodyPost_ret (by rw [results_cell_tmp h, hp]; simp [asAddr, run_loadVar_row w g t ty cs _ d hB hu hd hi, Result.andThen]) hdf hR
end
end Go.Dm
namespace Go.Dm
open Go

section
variable {P : Program} {ops : Array Oper} {Q : Exit → Act → World → Prop} {md : Region.Mode} {S : World → Prop} {kb : Nat → Bool}

/-- Whatever order is picked from here on, and S behind each operation of kb. -/
def wpAnyK (P : Program) (md : Region.Mode) (ops : Array Oper) (Q : Exit → Act → World → Prop) (S : World → Prop) (kb : Nat → Bool) : Nat → Array Bool → Act → World → Prop
  | 0, listed, a, w => Region.ready md ops listed = [] ∧ Q .normal a w
  | fuel + 1, listed, a, w =>
    (Region.ready md ops listed = [] → Q .normal a w) ∧
    ∀ i ∈ Region.ready md ops listed, wpOp P ops Q i (fun a' w' => (kb i = true → S w') ∧ wpAnyK P md ops Q S kb fuel (listed.setIfInBounds i true) a' w') a w

theorem wpAny_of_K : ∀ (fuel : Nat) (listed : Array Bool) (a : Act) (w : World), wpAnyK P md ops Q S kb fuel listed a w → wpAny P md ops Q fuel listed a w
  | 0, _, _, _, h => h
  | fuel + 1, _, _, _, h => ⟨h.1, fun i hi => wpOp_mono (fun a' w' h' => wpAny_of_K fuel _ a' w' h'.2) (h.2 i hi)⟩

/-- does number j wait for number i, at once or through others? -/
def reach (md : Region.Mode) (ops : Array Oper) : Nat → Nat → Nat → Bool
  | 0, _, _ => false
  | f + 1, j, i => match ops[j]? with
    | none => false
    | some oj => oj.after.any fun e => Region.binds md e && (e.on == i || reach md ops f e.on i)
def Closed (md : Region.Mode) (ops : Array Oper) (listed : Array Bool) : Prop :=
  ∀ (k : Nat) (ok : Oper), ops[k]? = some ok → listed.getD k false = true → ∀ e ∈ ok.after, Region.binds md e = true → listed.getD e.on false = true
theorem reach_listed {listed : Array Bool} (hc : Closed md ops listed) {i : Nat} : ∀ (f j : Nat) (oj : Oper), ops[j]? = some oj → (∀ e ∈ oj.after, Region.binds md e = true → listed.getD e.on false = true) → reach md ops f j i = true → listed.getD i false = true
  | 0, _, _, _, _, h => by simp [reach] at h
  | f + 1, j, oj, hj, ha, h => by
    simp only [reach, hj] at h
    obtain ⟨e, he, hb⟩ := Array.any_eq_true'.1 h
    simp only [Bool.and_eq_true, Bool.or_eq_true, beq_iff_eq] at hb
    obtain ⟨hb, h1 | h1⟩ := hb
    · rw [← h1]; exact ha e he hb
    · cases hk : ops[e.on]? with
      | none => cases f with
        | zero => simp [reach] at h1
        | succ f => simp [reach, hk] at h1
      | some ok => exact reach_listed hc f e.on ok hk (hc e.on ok hk (ha e he hb)) h1
theorem getD_set_same {listed : Array Bool} {i : Nat} (h : i < listed.size) : (listed.setIfInBounds i true).getD i false = true := by simp [h]
theorem Closed.step {listed : Array Bool} (hc : Closed md ops listed) {i : Nat} (hr : i ∈ Region.ready md ops listed) : Closed md ops (listed.setIfInBounds i true) := by
  have hmono : ∀ k, listed.getD k false = true → (listed.setIfInBounds i true).getD k false = true := by
    intro k hk
    by_cases e : i = k
    · subst e
      refine getD_set_same ?_
      rcases Nat.lt_or_ge i listed.size with h | h
      · exact h
      · simp [Array.getElem?_eq_none h] at hk
    · rw [getD_set_ne false e]; exact hk
  intro k ok hk hl e he hb
  by_cases ek : i = k
  · subst ek
    obtain ⟨_, oj, hoj, hall⟩ := mem_ready.1 hr
    rw [hk] at hoj; cases hoj
    exact hmono _ (hall e he hb)
  · rw [getD_set_ne false ek] at hl
    exact hmono _ (hc k ok hk hl e he hb)

theorem wpAnyK_first {i : Nat} {oi : Oper} {v : Value} (hi : ops[i]? = some oi) (hsel : ∀ (j : Nat) (o : Oper) cs b, ops[j]? = some o → o.op ≠ .select cs b)
    (hQ : ∀ c a w, Q (.panic c) (a.put oi.dst v) w → Q (.panic c) a w) :
    ∀ (fuel : Nat) (listed : Array Bool) (a : Act) (w : World),
      (∀ j oj, ops[j]? = some oj → j ≠ i → listed.getD j true = false → reach md ops ops.size j i = false → oi.apart ops oj = true ∧ kb j = true) →
      Closed md ops listed → i ∈ Region.ready md ops listed → YieldsIf P ops S oi v a → S w →
      wpAnyK P md ops Q S kb fuel (listed.setIfInBounds i true) (a.put oi.dst v) w → wpAnyK P md ops Q S kb (fuel + 1) listed a w := by
  intro fuel
  induction fuel with
  | zero =>
    intro listed a w _ _ hr hy hS H
    refine ⟨fun h => (by rw [h] at hr; cases hr), fun j hj => ?_⟩
    by_cases hji : j = i
    · subst hji; exact hy.wpOp hi hS ⟨fun _ => hS, H⟩
    · have := ready_mono hj hji
      rw [H.1] at this
      cases this
  | succ fuel ih =>
    intro listed a w hfree hcl hr hy hS H
    refine ⟨fun h => (by rw [h] at hr; cases hr), fun j hj => ?_⟩
    by_cases hji : j = i
    · subst hji; exact hy.wpOp hi hS ⟨fun _ => hS, H⟩
    · have h1 := H.2 j (ready_mono hj hji)
      obtain ⟨hjun, oj, hoj, hall⟩ := mem_ready.1 hj
      have hnot : reach md ops ops.size j i = false := by
        cases hq : reach md ops ops.size j i with
        | false => rfl
        | true =>
          have h1 := reach_listed hcl _ j oj hoj hall hq
          have h0 := (mem_ready.1 hr).1
          rcases Nat.lt_or_ge i listed.size with h' | h'
          · simp [h'] at h0 h1; rw [h0] at h1; cases h1
          · simp [Array.getElem?_eq_none h'] at h1
      obtain ⟨hap, hkb⟩ := hfree j oj hoj hji hjun hnot
      have h2 := wpOp_putIf hoj hap (fun cs b => hsel i oi cs b hi) (fun cs b => hsel j oj cs b hoj) hQ hy h1
      have hfree' : ∀ k ok, ops[k]? = some ok → k ≠ i → (listed.setIfInBounds j true).getD k true = false →
          reach md ops ops.size k i = false → oi.apart ops ok = true ∧ kb k = true := fun k ok hk hki hun hno => by
        refine hfree k ok hk hki ?_ hno
        by_cases hjk : j = k
        · subst hjk; exact hjun
        · rw [getD_set_ne true hjk] at hun; exact hun
      refine wpOp_mono (fun a' w' h3 => ⟨h3.2.1, ih (listed.setIfInBounds j true) a' w' hfree' (hcl.step hj) (ready_mono hr (Ne.symm hji)) h3.1 (h3.2.1 hkb) ?_⟩) h2
      rw [Array.setIfInBounds_comm _ _ hji]
      exact h3.2.2

/-- may number i be taken first? -/
def freeK (md : Region.Mode) (ops : Array Oper) (kb : Nat → Bool) (listed : Array Bool) (i : Nat) : Bool :=
  match ops[i]? with
  | none => false
  | some oi => (List.range ops.size).all fun j => j == i || listed.getD j true || match ops[j]? with
      | some oj => reach md ops ops.size j i || (oi.apart ops oj && kb j)
      | none => true

theorem freeK_spec {i : Nat} {oi : Oper} {listed : Array Bool} (hi : ops[i]? = some oi) (h : freeK md ops kb listed i = true) (j : Nat) (oj : Oper)
    (hj : ops[j]? = some oj) (hne : j ≠ i) (hun : listed.getD j true = false) (hno : reach md ops ops.size j i = false) :
    oi.apart ops oj = true ∧ kb j = true := by
  simp only [freeK, hi, List.all_eq_true, List.mem_range] at h
  have h1 := h j (Array.getElem?_eq_some_iff.1 hj).1
  simp only [hj, Bool.or_eq_true, beq_iff_eq, hne, false_or, hun, Bool.false_eq_true] at h1
  rw [hno] at h1
  simpa using h1

/-- The given order: (number, does it yield the same in every world of S?). -/
def sigB (md : Region.Mode) (ops : Array Oper) (kb : Nat → Bool) : List (Nat × Bool) → Array Bool → Bool → Bool
  | [], listed, _ => (Region.ready md ops listed).isEmpty
  | (i, true) :: r, listed, s => s && (Region.ready md ops listed).contains i && freeK md ops kb listed i && sigB md ops kb r (listed.setIfInBounds i true) s
  | (i, false) :: r, listed, s => (Region.ready md ops listed == [i]) && sigB md ops kb r (listed.setIfInBounds i true) (s && kb i)

/-- The walk in that order. -/
def wpSig (P : Program) (ops : Array Oper) (Q : Exit → Act → World → Prop) (S : World → Prop) (kb : Nat → Bool) : List (Nat × Bool) → Act → World → Prop
  | [], a, w => Q .normal a w
  | (i, true) :: r, a, w => ∃ o v, ops[i]? = some o ∧ YieldsIf P ops S o v a ∧ wpSig P ops Q S kb r (a.put o.dst v) w
  | (i, false) :: r, a, w => wpOp P ops Q i (fun a' w' => (kb i = true → S w') ∧ wpSig P ops Q S kb r a' w') a w

theorem wpSig_sound (hs : Region.noSelect ops = true) (hQ : ∀ c a d v w, Q (.panic c) (a.put d v) w → Q (.panic c) a w) :
    ∀ (l : List (Nat × Bool)) (listed : Array Bool) (s : Bool) (a : Act) (w : World), sigB md ops kb l listed s = true → Closed md ops listed → (s = true → S w) → wpSig P ops Q S kb l a w → wpAnyK P md ops Q S kb l.length listed a w
  | [], listed, s, a, w, h, _, _, hq => by
    have : Region.ready md ops listed = [] := by simpa [sigB] using h
    exact ⟨this, hq⟩
  | (i, true) :: r, listed, s, a, w, h, hcl, hS, ⟨o, v, ho, hy, hq⟩ => by
    simp only [sigB, Bool.and_eq_true] at h
    obtain ⟨⟨⟨h1, h2⟩, h3⟩, h4⟩ := h
    exact wpAnyK_first ho (Region.noSelect_spec hs) (fun c a w => hQ c a _ _ w) r.length listed a w (freeK_spec ho h3) hcl (by simpa using h2) hy (hS h1)
      (wpSig_sound hs hQ r _ s _ w h4 (hcl.step (by simpa using h2)) hS hq)
  | (i, false) :: r, listed, s, a, w, h, hcl, hS, hq => by
    simp only [sigB, Bool.and_eq_true, beq_iff_eq] at h
    refine ⟨fun h0 => (by rw [h.1] at h0; cases h0), fun j hj => ?_⟩
    rw [h.1] at hj
    obtain rfl : j = i := by simpa using hj
    exact wpOp_mono (fun a' w' h' => ⟨h'.1, wpSig_sound hs hQ r _ (s && kb j) a' w' h.2 (hcl.step (by rw [h.1]; simp)) (fun hsk => h'.1 (Bool.and_eq_true_iff.1 hsk).2) h'.2⟩) hq

/-- The beginning. -/
theorem wp_region_sig {id : Nat} {a : Act} {w : World} (S : World → Prop) (kb : Nat → Bool) (l : List (Nat × Bool)) {o : List Oper} (hm : P.follows .mixedOrders = true)
    (hB : (Region.noSelect o.toArray && sigB .any o.toArray kb l (Array.replicate o.toArray.size false) true && (l.length == o.toArray.size)) = true)
    (hQ : ∀ c a d v w, Q (.panic c) (a.put d v) w → Q (.panic c) a w) (hS : S w.drew)
    (h : wpSig P o.toArray Q S kb l a w.drew) : (Code.region id o.toArray true).wp P Q a w := by
  simp only [Bool.and_eq_true, beq_iff_eq] at hB
  refine wp_region_any hm (wpAny_of_K (S := S) (kb := kb) _ _ _ _ ?_)
  have h2 := wpSig_sound (md := .any) hB.1.1 hQ l _ true a _ hB.1.2 (fun k ok _ hl => by rw [Array.getD_eq_getD_getElem?, Array.getElem?_replicate] at hl; split at hl <;> cases hl) (fun _ => hS) h
  rw [hB.2] at h2
  exact h2

theorem sig_nil {a : Act} {w : World} (h : Q .normal a w) : wpSig P ops Q S kb [] a w := h
theorem sig_still {i : Nat} {r : List (Nat × Bool)} {a : Act} {w : World} {o : Oper} {v : Value} (ho : ops[i]? = some o) (hg : o.guard = none)
    (hy : ∀ w', S w' → (execOp a.eval o).run P w' = .ok (.value v) w') (h : wpSig P ops Q S kb r (a.put o.dst v) w) : wpSig P ops Q S kb ((i, true) :: r) a w :=
  ⟨o, v, ho, .inl ⟨by simp [Region.wanted, hg], hy⟩, h⟩
theorem sig_guard {i : Nat} {r : List (Nat × Bool)} {a : Act} {w : World} {o : Oper} {v : Value} (ho : ops[i]? = some o) (hg : Region.wanted o (yielded ops a.tmps) = true)
    (hy : ∀ w', S w' → (execOp a.eval o).run P w' = .ok (.value v) w') (h : wpSig P ops Q S kb r (a.put o.dst v) w) : wpSig P ops Q S kb ((i, true) :: r) a w :=
  ⟨o, v, ho, .inl ⟨hg, hy⟩, h⟩
theorem sig_skip {i : Nat} {r : List (Nat × Bool)} {a : Act} {w : World} {o : Oper} (ho : ops[i]? = some o) (hg : Region.wanted o (yielded ops a.tmps) = false)
    (h : wpSig P ops Q S kb r (a.put o.dst undef) w) : wpSig P ops Q S kb ((i, true) :: r) a w :=
  ⟨o, undef, ho, .inr ⟨hg, rfl⟩, h⟩
theorem sig_eff {i : Nat} {r : List (Nat × Bool)} {a : Act} {w : World} {o : Oper} (ho : ops[i]? = some o) (hg : o.guard = none)
    (h : ∀ K : Act → World → Prop, (∀ a' w', ((kb i = true → S w') ∧ wpSig P ops Q S kb r a' w') → K a' w') → o.wp P a w K Q) : wpSig P ops Q S kb ((i, false) :: r) a w := by
  show wpOp _ _ _ _ _ _ _
  unfold wpOp
  simp only [ho, Region.wanted, hg, if_true]
  exact .inl (h _ fun _ _ h => h)

theorem sig_effg {i : Nat} {r : List (Nat × Bool)} {a : Act} {w : World} {o : Oper} (ho : ops[i]? = some o) (hg : Region.wanted o (yielded ops a.tmps) = true)
    (h : ∀ K : Act → World → Prop, (∀ a' w', ((kb i = true → S w') ∧ wpSig P ops Q S kb r a' w') → K a' w') → o.wp P a w K Q) : wpSig P ops Q S kb ((i, false) :: r) a w := by
  show wpOp _ _ _ _ _ _ _
  unfold wpOp
  simp only [ho, hg, if_true]
  exact .inl (h _ fun _ _ h => h)
theorem wo_append {o : Oper} {a : Act} {w : World} {K : Act → World → Prop} (x y : Operand) (t1 t2 : TypeId) (ho : o.op = .call { callee := .builtin .append, args := #[x, y], argTypes := #[t1, t2] })
    (v1 v2 : Value) (h1 : a.eval x = v1) (h2 : a.eval y = v2) (h : AppendGoal P t1 t2 o.type v1 v2 w fun v w' => K (a.put o.dst v) w') : o.wp P a w K Q := by
  obtain ⟨v, w', hr, hk⟩ := h
  unfold Oper.wp execOp
  simp only [ho, resolve, invoke, builtin, Sem.run_bind, Sem.run_pure, Result.andThen_ok, List.map_toArray, List.map_cons, List.map_nil, h1, h2, hr]
  exact hk
end
end Go.Dm
namespace Go.Dm
open Go Go.RowKit Go.Maps Go.ChangeMaps

/-- an element reads as itself -/
def heldE (v : Value) : Option (DataW Value × List MemPlace) := some (.held v, [])
def hd (p : Lit × Value) : Lit × DataW Value := (p.1, .held p.2)
def Apart (L : List (Lit × Value)) : Prop := L.Pairwise (fun p q => p.1 ≠ q.1)
def findL (L : List (Lit × Value)) (k : Lit) : Option Value := (L.find? (fun p => p.1.sameKey k)).map (·.2)
def eraseL (L : List (Lit × Value)) (k : Lit) : List (Lit × Value) := L.filter (fun p => !p.1.sameKey k)

theorem sameKey_true {a b : Lit} (hb : WideAt.IsKeyLit b) : a.sameKey b = true ↔ a = b :=
  ⟨WideAt.sameKey_eq, fun h => by subst h; exact WideAt.sameKey_self hb⟩

theorem find_some {α : Type} {L : List (Lit × α)} (hp : L.Pairwise (fun p q => p.1 ≠ q.1)) {k : Lit} (hk : WideAt.IsKeyLit k) (p : Lit × α) : L.find? (fun p => p.1.sameKey k) = some p ↔ p ∈ L ∧ p.1 = k := by
  induction L with
  | nil => simp
  | cons q r ih =>
    rw [List.pairwise_cons] at hp
    by_cases hq : q.1.sameKey k = true
    · have hqk := (sameKey_true hk).1 hq
      simp only [List.find?_cons, hq]
      constructor
      · intro h; cases h; exact ⟨by simp, hqk⟩
      · rintro ⟨h, e⟩
        rcases List.mem_cons.1 h with rfl | h
        · rfl
        · exact absurd (hqk.trans e.symm) (hp.1 p h)
    · have hq' : q.1.sameKey k = false := by simpa using hq
      simp only [List.find?_cons, hq', ih hp.2]
      constructor
      · rintro ⟨h, e⟩; exact ⟨by simp [h], e⟩
      · rintro ⟨h, e⟩
        rcases List.mem_cons.1 h with rfl | h
        · exact absurd ((sameKey_true hk).2 e) hq
        · exact ⟨h, e⟩

theorem apart_perm {α : Type} {L L' : List (Lit × α)} (h : L.Perm L') (hp : L.Pairwise (fun p q => p.1 ≠ q.1)) : L'.Pairwise (fun p q => p.1 ≠ q.1) :=
  (h.pairwise_iff fun h => Ne.symm h).1 hp

theorem find_perm {α : Type} {L L' : List (Lit × α)} (h : L.Perm L') (hp : L.Pairwise (fun p q => p.1 ≠ q.1)) {k : Lit} (hk : WideAt.IsKeyLit k) : L.find? (fun p => p.1.sameKey k) = L'.find? (fun p => p.1.sameKey k) := by
  apply Option.ext
  intro p
  rw [find_some hp hk, find_some (apart_perm h hp) hk, h.mem_iff]

theorem apart_map {L : List (Lit × Value)} : (L.map hd).Pairwise (fun p q => p.1 ≠ q.1) ↔ Apart L := by
  unfold Apart; rw [List.pairwise_map]; rfl

theorem find_map (L : List (Lit × Value)) (k : Lit) : (L.map hd).find? (fun p => p.1.sameKey k) = (L.find? (fun p => p.1.sameKey k)).map hd := by
  rw [List.find?_map]; rfl

theorem findL_perm {L L' : List (Lit × Value)} (h : L.Perm L') (hp : Apart L) {k : Lit} (hk : WideAt.IsKeyLit k) : findL L k = findL L' k := by unfold findL; rw [find_perm h hp hk]
theorem findL_some {L : List (Lit × Value)} (hp : Apart L) {k : Lit} (hk : WideAt.IsKeyLit k) (v : Value) : findL L k = some v ↔ (k, v) ∈ L := by
  unfold findL
  rw [Option.map_eq_some_iff]
  constructor
  · rintro ⟨p, h, rfl⟩
    obtain ⟨h, e⟩ := (find_some hp hk p).1 h
    rw [← e]; exact h
  · intro h; exact ⟨_, (find_some hp hk _).2 ⟨h, rfl⟩, rfl⟩
theorem apart_erase {L : List (Lit × Value)} (h : Apart L) (k : Lit) : Apart (eraseL L k) := List.Pairwise.filter _ h
theorem eraseL_perm {L L' : List (Lit × Value)} (h : L.Perm L') (k : Lit) : (eraseL L k).Perm (eraseL L' k) := h.filter _
theorem mem_erase {L : List (Lit × Value)} {k : Lit} (hk : WideAt.IsKeyLit k) {p : Lit × Value} : p ∈ eraseL L k ↔ p ∈ L ∧ p.1 ≠ k := by
  unfold eraseL
  rw [List.mem_filter]
  cases h : p.1.sameKey k
  · simp only [Bool.not_false, and_true]
    exact ⟨fun hm => ⟨hm, fun e => by rw [(sameKey_true hk).2 e] at h; cases h⟩, fun h => h.1⟩
  · simp only [Bool.not_true, Bool.false_eq_true, and_false, false_iff]
    exact fun hm => hm.2 ((sameKey_true hk).1 h)
theorem apart_put {L : List (Lit × Value)} (h : Apart L) {k : Lit} (hk : WideAt.IsKeyLit k) (v : Value) : Apart ((k, v) :: eraseL L k) := by
  unfold Apart
  rw [List.pairwise_cons]
  exact ⟨fun p hp => fun e => ((mem_erase hk).1 hp).2 e.symm, apart_erase h k⟩
theorem length_erase_le (L : List (Lit × Value)) (k : Lit) : (eraseL L k).length ≤ L.length := List.length_filter_le _ _

/-- Block b of w is a map (of keys of type k) with just the entries of L. -/
def MapL (P : Program) (k : TypeId) (w : World) (b : Nat) (L : List (Lit × Value)) : Prop :=
  Apart L ∧ ∃ es, es.Perm (L.map hd) ∧ w.ownsMap P k heldE b L.length (.map es)

section
variable {P : Program} {k : TypeId} {w : World} {b : Nat} {L : List (Lit × Value)}

theorem MapL.apart (h : MapL P k w b L) : Apart L := h.1
theorem MapL.perm (h : MapL P k w b L) {L' : List (Lit × Value)} (hp : L.Perm L') : MapL P k w b L' := by
  obtain ⟨ha, es, he, ho⟩ := h
  exact ⟨apart_perm hp ha, es, he.trans (hp.map hd), by rw [← hp.length_eq]; exact ho⟩
theorem MapL.lt (h : MapL P k w b L) : b < w.heap.size := by obtain ⟨_, es, _, ho⟩ := h; exact ho.lt
theorem MapL.obj (h : MapL P k w b L) : ∃ es c, w.heap[b]? = some (.map es c) := by obtain ⟨_, es, _, e, c, hb, _⟩ := h; exact ⟨e, c, hb⟩
theorem MapL.ne_blk (h : MapL P k w b L) {b' : Nat} {cs : Array Value} {t : TypeId} (hb : Blk w b' cs t) : b ≠ b' := by
  rintro rfl
  obtain ⟨es, c, e⟩ := h.obj
  rw [hb] at e; cases e
theorem MapL.same {w' : World} (h : MapL P k w b L) (e : w'.heap[b]? = w.heap[b]?) : MapL P k w' b L := by
  obtain ⟨ha, es, he, e1, c, hb, r⟩ := h
  exact ⟨ha, es, he, e1, c, e.trans hb, r⟩
theorem MapL.keep {A : Nat → Prop} {w' : World} (h : MapL P k w b L) (hk : Keep A w w') (hA : ¬ A b) : MapL P k w' b L := h.same (hk.block b h.lt hA)
theorem MapL.keys (h : MapL P k w b L) (K : Keyed P k) : ∀ p ∈ L, WideAt.IsKeyLit p.1 := by
  obtain ⟨ha, es, he, ho⟩ := h
  obtain ⟨es', e1, _, hk⟩ := ho.entries K
  cases e1
  intro p hp
  exact hk (hd p) (he.mem_iff.2 (List.mem_map_of_mem hp))
theorem MapL.made (P : Program) (k : TypeId) (w : World) : MapL P k (w.alloc (.map #[] 0)) w.heap.size [] :=
  ⟨List.Pairwise.nil, [], List.Perm.refl _, World.ownsMap_made _ _ _ _⟩

theorem keyLit_of {key : Value} {kl : Lit} (K : Keyed P k) (h : keyOf P k key = some kl) : WideAt.IsKeyLit kl := K.key h

theorem MapL.at (h : MapL P k w b L) {kl : Lit} (hk : WideAt.IsKeyLit kl) : ∃ es, w.ownsMap P k heldE b L.length (.map es) ∧ es.Perm (L.map hd) ∧ (∀ z : Value, (DataW.map es).atKey kl (.held z) = .held ((findL L kl).getD z)) ∧ Maps.has (.map es) kl = (findL L kl).isSome := by
  obtain ⟨ha, es, he, ho⟩ := h
  have e1 : es.find? (fun p => p.1.sameKey kl) = (L.find? (fun p => p.1.sameKey kl)).map hd := by
    rw [← find_map]; exact find_perm he (apart_perm he.symm (apart_map.2 ha)) hk
  refine ⟨es, ho, he, fun z => ?_, ?_⟩
  · unfold DataW.atKey findL
    simp only [e1]
    cases L.find? (fun p => p.1.sameKey kl) <;> simp [hd]
  · have e2 : es.any (fun p => p.1.sameKey kl) = (es.find? (fun p => p.1.sameKey kl)).isSome := by
      rw [Bool.eq_iff_iff, List.find?_isSome, List.any_eq_true]
    rw [Maps.has_eq, e2, e1]
    unfold findL
    cases L.find? (fun p => p.1.sameKey kl) <;> simp

/-- m[k] -/
theorem MapL.lookup {t e : TypeId} (h : MapL P k w b L) (K : Keyed P k) (ht : P.underlying t = some (.map k e)) {z : Value} (hz : (zeroValue e).run P w = .ok z w) {key : Value} {kl : Lit} (hkey : keyOf P k key = some kl) :
    (Instr.lookup t (.map (some b)) key false).run P w = .ok ((findL L kl).getD z) w := by
  obtain ⟨es, ho, _, hat, _⟩ := h.at (keyLit_of K hkey)
  obtain ⟨v, ps, hrun, hv⟩ := ho.lookup K ht hz (zd := .held z) (zp := []) rfl hkey
  rw [hat z] at hv
  cases hv
  exact hrun
/-- v, ok := m[k] -/
theorem MapL.lookup_ok {t e : TypeId} (h : MapL P k w b L) (K : Keyed P k) (ht : P.underlying t = some (.map k e)) {z : Value} (hz : (zeroValue e).run P w = .ok z w) {key : Value} {kl : Lit} (hkey : keyOf P k key = some kl) :
    (Instr.lookup t (.map (some b)) key true).run P w = .ok (.tuple #[(findL L kl).getD z, .bool (findL L kl).isSome]) w := by
  obtain ⟨es, ho, _, hat, hhas⟩ := h.at (keyLit_of K hkey)
  obtain ⟨v, ps, hrun, hv⟩ := ho.look_ok K ht hz (zd := .held z) (zp := []) rfl hkey
  rw [hat z] at hv
  cases hv
  rw [← hhas]
  exact hrun
/-- m[k] = v -/
theorem MapL.store {t e : TypeId} (h : MapL P k w b L) (K : Keyed P k) (ht : P.underlying t = some (.map k e)) (hn : L.length < maxLen) {key v : Value} {kl : Lit} (hkey : keyOf P k key = some kl) :
    ∃ w', (Instr.mapUpdate t (.map (some b)) key v).run P w = .ok () w' ∧ MapL P k w' b ((kl, v) :: eraseL L kl) ∧ Keep (fun j => j = b) w w' ∧ w'.heap.size = w.heap.size := by
  have hkl := keyLit_of K hkey
  obtain ⟨ha, es, he, ho⟩ := h
  obtain ⟨w', hrun, ho', ht'⟩ := ho.store K ht hn hkey (d := .held v) (ps := []) rfl
  have hp : (DataW.insert (kl, .held v) (es.filter fun p => !p.1.sameKey kl)).Perm (((kl, v) :: eraseL L kl).map hd) := by
    refine (WideShapes.insert_perm _ _).trans ?_
    refine List.Perm.cons _ ?_
    have := he.filter (fun p : Lit × DataW Value => !p.1.sameKey kl)
    rw [List.filter_map] at this
    exact this
  have hg := ht'.grown
  refine ⟨w', hrun, ⟨apart_put ha hkl v, _, hp, ?_⟩, (Keep.of_grown hg).mono (fun j _ e => by cases e; rfl), ?_⟩
  · have hs := ho'.size_le
    obtain ⟨es2, c2, hb2, F2, _, e2⟩ := ho'
    refine ⟨es2, c2, hb2, F2, ?_, e2⟩
    have e3 := hp.length_eq
    have e4 : (DataW.insert (kl, DataW.held v) (es.filter fun p => !p.1.sameKey kl)).length = es2.size := by
      have := congrArg (fun D : DataW Value => Maps.size D) e2
      simp only [DataW.put, Maps.size, length_sorted, List.length_map, Array.length_toList] at this
      exact this
    rw [List.length_map] at e3
    omega
  · obtain ⟨es1, c1, es2, c2, _, rfl⟩ := ht'
    simp [setBlock]
/-- delete(m, k) -/
theorem MapL.drop {t e : TypeId} (h : MapL P k w b L) (K : Keyed P k) (ht : P.underlying t = some (.map k e)) {key : Value} {kl : Lit} (hkey : keyOf P k key = some kl) (ty : TypeId) :
    ∃ w', (Builtin.delete_ #[t, k] ty #[.map (some b), key]).run P w = .ok (.tuple #[]) w' ∧ MapL P k w' b (eraseL L kl) ∧ Keep (fun j => j = b) w w' ∧ w'.heap.size = w.heap.size := by
  obtain ⟨ha, es, he, ho⟩ := h
  obtain ⟨w', hrun, ho', ht'⟩ := ho.drop K ht hkey ty
  have hp : (es.filter fun p => !p.1.sameKey kl).Perm ((eraseL L kl).map hd) := by
    have := he.filter (fun p : Lit × DataW Value => !p.1.sameKey kl)
    rw [List.filter_map] at this
    exact this
  have hg := ht'.grown
  refine ⟨w', hrun, ⟨apart_erase ha kl, _, hp, ?_⟩, (Keep.of_grown hg).mono (fun j _ e => by cases e; rfl), ?_⟩
  · obtain ⟨es2, c2, hb2, F2, _, e2⟩ := ho'
    refine ⟨es2, c2, hb2, F2, ?_, e2⟩
    have e3 := hp.length_eq
    have e4 : (es.filter fun p => !p.1.sameKey kl).length = es2.size := by
      have := congrArg (fun D : DataW Value => Maps.size D) e2
      simp only [DataW.del, Maps.size, length_sorted, List.length_map, Array.length_toList] at this
      exact this
    rw [List.length_map] at e3
    omega
  · obtain ⟨es1, c1, es2, c2, _, rfl⟩ := ht'
    simp [setBlock]
theorem MapL.size (h : MapL P k w b L) : ∃ es, w.ownsMap P k heldE b L.length (.map es) ∧ es.Perm (L.map hd) ∧ Maps.size (.map es) = L.length := by
  obtain ⟨_, es, he, ho⟩ := h
  exact ⟨es, ho, he, by rw [Maps.size_eq, he.length_eq, List.length_map]⟩
/-- len(m) -/
theorem MapL.len {t e : TypeId} (h : MapL P k w b L) (ht : P.underlying t = some (.map k e)) (ty : TypeId) : (Builtin.len_ #[t] ty #[.map (some b)]).run P w = .ok (.int .i64 L.length) w := by
  obtain ⟨es, ho, _, hs⟩ := h.size
  rw [ho.len ht ty, hs]

/-- An iterator (block r) over the map of block b; 'todo' is still to come. -/
def RangeL (P : Program) (k : TypeId) (w : World) (b r : Nat) (L todo : List (Lit × Value)) : Prop :=
  Apart L ∧ (∀ p ∈ todo, p ∈ L) ∧ Apart todo ∧ ∃ es left cnt, es.Perm (L.map hd) ∧ w.ranges P k heldE b r L.length (.map es) left cnt ∧ ∀ kl, left kl = true ↔ ∃ v, (kl, v) ∈ todo

theorem RangeL.map {r : Nat} {todo : List (Lit × Value)} (h : RangeL P k w b r L todo) : MapL P k w b L := by
  obtain ⟨ha, _, _, es, left, cnt, he, hr, _⟩ := h
  exact ⟨ha, es, he, hr.owns⟩
theorem RangeL.same {w' : World} {r : Nat} {todo : List (Lit × Value)} (h : RangeL P k w b r L todo) (eb : w'.heap[b]? = w.heap[b]?) (er : w'.heap[r]? = w.heap[r]?) : RangeL P k w' b r L todo := by
  obtain ⟨ha, h1, h2, es, left, cnt, he, hr, h3⟩ := h
  refine ⟨ha, h1, h2, es, left, cnt, he, ?_, h3⟩
  obtain ⟨es1, clock, since, seen, c0, hb, F, hs, e, hrr, rest⟩ := hr
  exact ⟨es1, clock, since, seen, c0, eb.trans hb, F, hs, e, er.trans hrr, rest⟩
theorem RangeL.lt {r : Nat} {todo : List (Lit × Value)} (h : RangeL P k w b r L todo) : r < w.heap.size := by
  obtain ⟨_, _, _, es, left, cnt, _, hr, _⟩ := h; exact hr.lt
theorem RangeL.keep {A : Nat → Prop} {w' : World} {r : Nat} {todo : List (Lit × Value)} (h : RangeL P k w b r L todo) (hk : Keep A w w') (hb : ¬ A b) (hr : ¬ A r) : RangeL P k w' b r L todo :=
  h.same (hk.block b h.map.lt hb) (hk.block r h.lt hr)
/-- range m -/
theorem MapL.range {t e : TypeId} (h : MapL P k w b L) (K : Keyed P k) (ht : P.underlying t = some (.map k e)) :
    ∃ w', (Instr.range t (.map (some b))).run P w = .ok (.pointer (some ⟨w.heap.size, 0, none⟩)) w' ∧ RangeL P k w' b w.heap.size L L ∧ Keep No w w' ∧ w'.heap.size = w.heap.size + 1 := by
  have hkeys := h.keys K
  obtain ⟨ha, es, he, ho⟩ := h
  obtain ⟨w', hrun, hr, hg, hs⟩ := ho.range K ht
  refine ⟨w', hrun, ⟨ha, fun _ h => h, ha, es, _, _, he, hr, fun kl => ?_⟩, (Keep.of_grown hg).mono (fun j _ e => by cases e), hs⟩
  rw [Maps.has_eq, List.any_eq_true]
  constructor
  · rintro ⟨p, hp, hs⟩
    obtain ⟨q, hq, rfl⟩ := List.mem_map.1 (he.mem_iff.1 hp)
    have := WideAt.sameKey_eq hs
    simp only [hd] at this
    subst this
    exact ⟨q.2, hq⟩
  · rintro ⟨v, hv⟩
    exact ⟨hd (kl, v), he.mem_iff.2 (List.mem_map_of_mem hv), WideAt.sameKey_self (hkeys _ hv)⟩
/-- the next entry -/
theorem RangeL.next {r : Nat} {todo : List (Lit × Value)} (h : RangeL P k w b r L todo) (K : Keyed P k) (ty : TypeId) :
    (todo = [] ∧ (Instr.next (.pointer (some ⟨r, 0, none⟩)) false ty).run P w = .ok (.tuple #[.bool false]) w) ∨
    ∃ key v kl w', keyOf P k key = some kl ∧ (kl, v) ∈ todo ∧ (Instr.next (.pointer (some ⟨r, 0, none⟩)) false ty).run P w = .ok (.tuple #[.bool true, key, v]) w' ∧
      RangeL P k w' b r L (eraseL todo kl) ∧ w'.rangeLeft b r < w.rangeLeft b r ∧ Keep (fun j => j = r) w w' ∧ w'.heap.size = w.heap.size ∧ (Instr.entry (.pointer (some ⟨r, 0, none⟩))).run P w' = .ok (.tuple #[key, v]) w' := by
  have hkeys := h.map.keys K
  obtain ⟨ha, h1, h2, es, left, cnt, he, hr, h3⟩ := h
  rcases hr.next K ty with ⟨h0, hl, hrun⟩ | ⟨key, v, kl, y, w', cnt', hkey, hlk, hRv, hat, hrun, hr', hlt, hg, hs, hen⟩
  · refine .inl ⟨?_, hrun⟩
    cases todo with
    | nil => rfl
    | cons p r =>
      have := (h3 p.1).2 ⟨p.2, by simp⟩
      rw [hl] at this; cases this
  · refine .inr ⟨key, v, kl, w', hkey, ?_⟩
    cases hRv
    have hkl := keyLit_of K hkey
    obtain ⟨v', hv'⟩ := (h3 kl).1 hlk
    have hm := h1 _ hv'
    have hfind : es.find? (fun p => p.1.sameKey kl) = some (hd (kl, v')) :=
      (find_some (apart_perm he.symm (apart_map.2 ha)) hkl _).2 ⟨he.mem_iff.2 (List.mem_map_of_mem hm), rfl⟩
    have := hat (.held (.bool false))
    unfold DataW.atKey at this
    simp only [hfind, hd] at this
    cases this
    refine ⟨hv', hrun, ⟨ha, fun p hp => h1 p ((mem_erase hkl).1 hp).1, apart_erase h2 kl, es, _, _, he, hr', fun kl' => ?_⟩, by rw [hr'.left_eq, hr.left_eq]; exact hlt, (Keep.of_grown hg).mono (fun j _ e => by cases e; rfl), hs, hen⟩
    rw [Bool.and_eq_true, h3]
    constructor
    · rintro ⟨⟨v2, hv2⟩, hne⟩
      refine ⟨v2, (mem_erase hkl).2 ⟨hv2, fun e => ?_⟩⟩
      simp only at e
      subst e
      rw [WideAt.sameKey_self hkl] at hne; cases hne
    · rintro ⟨v2, hv2⟩
      obtain ⟨h4, h5⟩ := (mem_erase hkl).1 hv2
      exact ⟨⟨v2, h4⟩, by rw [Maps.sameKey_ne h5]; rfl⟩

theorem rg_lookup {t e : TypeId} (h : MapL P k w b L) (K : Keyed P k) (ht : P.underlying t = some (.map k e)) {z : Value} (hz : (zeroValue e).run P w = .ok z w) {key : Value} {kl : Lit} (hkey : keyOf P k key = some kl) {G : Value → World → Prop}
    (hk : G ((findL L kl).getD z) w) : LookupGoal P t (.map (some b)) key false w G := .mk (h.lookup K ht hz hkey) hk
theorem rg_lookup_ok {t e : TypeId} (h : MapL P k w b L) (K : Keyed P k) (ht : P.underlying t = some (.map k e)) {z : Value} (hz : (zeroValue e).run P w = .ok z w) {key : Value} {kl : Lit} (hkey : keyOf P k key = some kl) {G : Value → World → Prop}
    (hk : G (.tuple #[(findL L kl).getD z, .bool (findL L kl).isSome]) w) : LookupGoal P t (.map (some b)) key true w G := .mk (h.lookup_ok K ht hz hkey) hk
theorem rg_store {t e : TypeId} (h : MapL P k w b L) (K : Keyed P k) (ht : P.underlying t = some (.map k e)) (hn : L.length < maxLen) {key v : Value} {kl : Lit} (hkey : keyOf P k key = some kl) {G : World → Prop}
    (hk : ∀ w', MapL P k w' b ((kl, v) :: eraseL L kl) → Keep (fun j => j = b) w w' → w'.heap.size = w.heap.size → G w') : UpdateGoal P t (.map (some b)) key v w G := by
  obtain ⟨w', hr, h1, h2, h3⟩ := h.store K ht hn (v := v) hkey
  exact .mk hr (hk w' h1 h2 h3)
theorem rg_delete {t e : TypeId} (h : MapL P k w b L) (K : Keyed P k) (ht : P.underlying t = some (.map k e)) {key : Value} {kl : Lit} (hkey : keyOf P k key = some kl) {ty : TypeId} {G : Value → World → Prop}
    (hk : ∀ w', MapL P k w' b (eraseL L kl) → Keep (fun j => j = b) w w' → w'.heap.size = w.heap.size → G (.tuple #[]) w') : DeleteGoal P t k ty (.map (some b)) key w G := by
  obtain ⟨w', hr, h1, h2, h3⟩ := h.drop K ht hkey ty
  exact .mk hr (hk w' h1 h2 h3)
theorem rg_len {t e : TypeId} (h : MapL P k w b L) (ht : P.underlying t = some (.map k e)) {ty : TypeId} {G : Value → World → Prop} (hk : G (.int .i64 L.length) w) : LenGoal P t ty (.map (some b)) w G := .mk (h.len ht ty) hk
theorem rg_range {t e : TypeId} (h : MapL P k w b L) (K : Keyed P k) (ht : P.underlying t = some (.map k e)) {G : Value → World → Prop}
    (hk : ∀ w', RangeL P k w' b w.heap.size L L → Keep No w w' → w'.heap.size = w.heap.size + 1 → G (.pointer (some ⟨w.heap.size, 0, none⟩)) w') : RangeGoal P t (.map (some b)) w G := by
  obtain ⟨w', hr, h1, h2, h3⟩ := h.range K ht
  exact .mk hr (hk w' h1 h2 h3)
theorem rg_next {r : Nat} {todo : List (Lit × Value)} (h : RangeL P k w b r L todo) (K : Keyed P k) {ty : TypeId} {G : Value → World → Prop}
    (h0 : todo = [] → G (.tuple #[.bool false]) w)
    (h1 : ∀ key v kl w', keyOf P k key = some kl → (kl, v) ∈ todo → RangeL P k w' b r L (eraseL todo kl) → w'.rangeLeft b r < w.rangeLeft b r → Keep (fun j => j = r) w w' → w'.heap.size = w.heap.size →
      (Instr.entry (.pointer (some ⟨r, 0, none⟩))).run P w' = .ok (.tuple #[key, v]) w' → G (.tuple #[.bool true, key, v]) w') : NextGoal P (.pointer (some ⟨r, 0, none⟩)) false ty w G := by
  rcases h.next K ty with ⟨e, hr⟩ | ⟨key, v, kl, w', a1, a2, a3, a4, a5, a6, a7, a8⟩
  · exact .mk hr (h0 e)
  · exact .mk a3 (h1 key v kl w' a1 a2 a4 a5 a6 a7 a8)
end
end Go.Dm
namespace Go.Dm.Dk

/-- what waits: kind 1 a write, 2 a making, 3 a renaming, 4 a removing -/
structure Op where
  kind : Nat
  file : Nat
  at_ : Nat
  b : List UInt8
  frm : List UInt8
  to : List UInt8

abbrev Names := List (List UInt8 × Nat)
structure M where
  room : Nat
  is : List (List UInt8)
  sure : List (List UInt8)
  L : Names
  S : Names
  wait : List Op
  off : Bool
  cut : Nat

def new (room : Int) : M := ⟨room.toNat, [], [], [], [], [], false, 0⟩
def find (L : Names) (s : List UInt8) : Option Nat := (L.find? (fun p => p.1 == s)).map (·.2)
def without (L : Names) (s : List UInt8) : Names := L.filter (fun p => p.1 != s)
def withN (L : Names) (s : List UInt8) (i : Nat) : Names := without L s ++ [(s, i)]
def namesOp (L : Names) (o : Op) : Names :=
  if o.kind = 2 then withN L o.to o.file else if o.kind = 4 then without L o.frm else
  match find L o.frm with
  | none => L
  | some f => withN (without L o.frm) o.to f
def fileLen (is : List (List UInt8)) (i : Nat) : Nat := (is.getD i []).length
def used (m : M) : Nat := (m.L.map fun p => fileLen m.is p.2).sum
def putF (l : List (List UInt8)) (i : Nat) (s : List UInt8) : List (List UInt8) := l.set i s
/-- a pending operation is made, and done to things as they are -/
def waitD (m : M) (o : Op) : M :=
  if o.kind = 1 then { m with wait := m.wait ++ [o], is := putF m.is o.file (laidB (m.is.getD o.file []) o.at_ o.b) }
  else { m with wait := m.wait ++ [o], L := namesOp m.L o }
/-- one pending operation is done to what is sure, or left -/
def settle1 (sel : Bool) (o : Op) (m : M) : M :=
  if !sel then { m with wait := m.wait ++ [o] }
  else if o.kind = 1 then { m with sure := putF m.sure o.file (laidB (m.sure.getD o.file []) o.at_ o.b) }
  else { m with S := namesOp m.S o }
def settleGo (sel : Nat → Bool) : Nat → List Op → M → M
  | _, [], m => m
  | i, o :: r, m => settleGo sel (i + 1) r (settle1 (sel i) o m)
def settle (m : M) (sel : Nat → Bool) : M := settleGo sel 0 m.wait { m with wait := [] }

/-- own errors of the calls: 1 Create, 2 Write, 3 Sync, 4 Rename, 5 Remove, 6 SyncNames; 0: none -/
def own (m : M) (kind : Nat) (a b : List UInt8) (at_ : Int) (body : List UInt8) : Nat :=
  match kind with
  | 1 => if a = [] then 1 else if (find m.L a).isSome then 21 else 0
  | 2 => match find m.L a with
    | none => 20
    | some f => if at_ < 0 ∨ at_ > fileLen m.is f then 1
      else if at_.toNat + body.length > fileLen m.is f ∧ ((at_.toNat + body.length - fileLen m.is f : Nat) : Int) > (m.room : Int) - used m then 22 else 0
  | 3 => if (find m.L a).isSome then 0 else 20
  | 4 => if (find m.L a).isSome then (if b = [] then 1 else 0) else 20
  | 5 => if (find m.L a).isSome then 0 else 20
  | _ => 0
/-- the operation is done -/
def done (m : M) (kind : Nat) (a b : List UInt8) (at_ : Int) (body : List UInt8) : M :=
  match kind with
  | 1 => waitD { m with is := m.is ++ [[]], sure := m.sure ++ [[]] } ⟨2, m.is.length, 0, [], [], a⟩
  | 2 => waitD m ⟨1, (find m.L a).getD 0, at_.toNat, body, [], []⟩
  | 3 => settle m fun i => match m.wait[i]? with | some o => o.kind == 1 && o.file == (find m.L a).getD 0 | none => false
  | 4 => waitD m ⟨3, 0, 0, [], a, b⟩
  | 5 => waitD m ⟨4, 0, 0, [], a, []⟩
  | _ => settle m fun i => match m.wait[i]? with | some o => o.kind != 1 | none => false
/-- a call -/
def call (m : M) (kind : Nat) (a b : List UInt8) (at_ : Int) (body : List UInt8) : M × Nat :=
  if m.off then (m, 23)
  else if own m kind a b at_ body ≠ 0 then (m, own m kind a b at_ body)
  else if m.cut = 1 then ({ m with cut := 0, off := true }, 23)
  else (done { m with cut := m.cut - 1 } kind a b at_ body, 0)
def readE (m : M) (a : List UInt8) : Nat := if m.off then 23 else if (find m.L a).isSome then 0 else 20
def readB (m : M) (a : List UInt8) : List UInt8 := if m.off then [] else match find m.L a with | some f => m.is.getD f [] | none => []
def cutD (m : M) (steps : Int) : M := if m.off then m else { m with cut := steps.toNat }
def crash (m : M) (keep : List Bool) : M :=
  let s := settle m fun i => keep.getD i false
  { s with wait := [], off := false, cut := 0, L := s.S, is := s.sure }

/-- no number of it is too great -/
structure Fit (m : M) : Prop where
  wl : m.wait.length ≤ 1099511627776
  ll : m.L.length ≤ 1099511627776
  sl : m.S.length ≤ 1099511627776
  il : ∀ f, (m.is.getD f []).length ≤ 1099511627776
  ul : ∀ f, (m.sure.getD f []).length ≤ 1099511627776
  us : used m ≤ 4611686018427387904
  rm : m.room ≤ 9223372036854775807
  ct : m.cut ≤ 9223372036854775807
end Go.Dm.Dk
namespace Go.Proofs.YtkmoomgmmhmaeaaGreat
open Go.RowKit Go.Dm Go.Dm.Dk


/-- bytes of the disk's own: their row bears the type of bytes -/
def DB (A : Nat → Prop) (w : World) (v : Value) (l : List UInt8) : Prop := Bts (fun k => A k ∧ ∃ cs fr, w.heap[k]? = some (.cells cs 5 fr)) w v l

theorem DB.same {A : Nat → Prop} {w w' : World} {v : Value} {l : List UInt8} (h : DB A w v l) (hs : w.heap.size ≤ w'.heap.size)
    (e : ∀ k, k < w.heap.size → A k → (∃ cs fr, w.heap[k]? = some (.cells cs 5 fr)) → w'.heap[k]? = w.heap[k]?) : DB A w' v l := by
  have h1 := Sl.same h hs fun k hk ha => e k hk ha.1 ha.2
  exact Sl.mono (B := fun k => A k ∧ ∃ cs fr, w'.heap[k]? = some (.cells cs 5 fr)) (Sl.mono (B := fun k => (A k ∧ ∃ cs fr, w.heap[k]? = some (.cells cs 5 fr)) ∧ k < w.heap.size) h1 (fun k hk ha => ⟨ha, by
    obtain ⟨_, cs, fr, h⟩ := ha; exact (Array.getElem?_eq_some_iff.1 h).1⟩)) fun k _ ⟨⟨a, cs, fr, h⟩, hl⟩ => ⟨a, cs, fr, (e k hl a ⟨cs, fr, h⟩).trans h⟩
theorem DB.mono {A B : Nat → Prop} {w : World} {v : Value} {l : List UInt8} (h : DB A w v l) (hab : ∀ k, k < w.heap.size → A k → B k) : DB B w v l := Sl.mono h fun k hk ha => ⟨hab k hk ha.1, ha.2⟩
theorem DB.nil (A : Nat → Prop) (w : World) : DB A w (.slice none 0 0) [] := Sl.nil _ _ _
theorem DB.bts {A : Nat → Prop} {w : World} {v : Value} {l : List UInt8} (h : DB A w v l) : Bts A w v l := Sl.mono h fun _ _ ha => ha.1
theorem DB.blk {w : World} {g : Nat} {l : List UInt8} (h : Blk w g (l.map bv).toArray 5) (hm : l.length ≤ maxLen) : DB (fun k => k = g) w (.slice (some ⟨g, 0, none⟩) l.length l.length) l :=
  Sl.mono (Bts.of_blk h hm) fun k _ e => ⟨e, (l.map bv).toArray, (0, 0), by have e : k = g := e; subst e; exact h⟩

def ptrTo (b : Nat) : Value := .pointer (some ⟨b, 0, none⟩)
def fptr (fb : List Nat) (i : Nat) : Value := ptrTo (fb.getD i 0)
def NL (fb : List Nat) (L : Names) : List (Lit × Value) := L.map fun p => (.string p.1, fptr fb p.2)

/-- the closure of a change of names -/
def NameFn (A : Nat → Prop) (w : World) (fb : List Nat) (o : Dk.Op) (c : Value) : Prop :=
  ∃ x y, A x ∧ A y ∧ (
    (o.kind = 2 ∧ c = .func (.func 41) #[] #[ptrTo x, ptrTo y] ∧ Blk w x #[fptr fb o.file] 68 ∧ Blk w y #[.string ⟨o.to.toArray⟩] 9) ∨
    (o.kind = 3 ∧ c = .func (.func 82) #[] #[ptrTo x, ptrTo y] ∧ Blk w x #[.string ⟨o.frm.toArray⟩] 9 ∧ Blk w y #[.string ⟨o.to.toArray⟩] 9) ∨
    (o.kind = 4 ∧ c = .func (.func 65) #[] #[ptrTo x] ∧ Blk w x #[.string ⟨o.frm.toArray⟩] 9))

/-- one pending operation, as its four cells -/
def PendAt (A : Nat → Prop) (w : World) (fb : List Nat) (o : Dk.Op) (cs : List Value) : Prop :=
  (o.kind = 1 ∧ ∃ v, cs = [fptr fb o.file, .int .i64 o.at_, v, .nilFunc] ∧ DB A w v o.b) ∨
  (∃ c, cs = [.pointer none, .int .i64 0, .slice none 0 0, c] ∧ NameFn A w fb o c)

/-- one file -/
def FileAt (A : Nat → Prop) (w : World) (b : Nat) (is sure : List UInt8) : Prop :=
  ∃ v1 v2, Blk w b #[v1, v2] 76 ∧ DB A w v1 is ∧ DB A w v2 sure

def Live (m : M) (i : Nat) : Prop := (∃ s, (s, i) ∈ m.L) ∨ (∃ s, (s, i) ∈ m.S) ∨ ∃ o ∈ m.wait, (o.kind = 1 ∨ o.kind = 2) ∧ o.file = i

structure DRep (A : Nat → Prop) (w : World) (d : Nat) (m : M) (fb : List Nat) (nb sb : Nat) (wv : Value) (rows : List (List Value)) : Prop where
  blk : Blk w d #[.int .i64 m.room, .map (some nb), .map (some sb), wv, .bool m.off, .int .i64 m.cut] 60
  nm : MapL Tryz.prog 9 w nb (NL fb m.L)
  sm : MapL Tryz.prog 9 w sb (NL fb m.S)
  ne : nb ≠ sb
  row : w.ownsRow 0 71 4 wv m.wait.length rows.flatten
  rowA : ∀ g, wv.ownBlock = some g → A g
  rlen : rows.length = m.wait.length
  pend : ∀ (i : Nat) (o : Dk.Op), m.wait[i]? = some o → ∃ cs : List Value, rows[i]? = some cs ∧ PendAt A w fb o cs
  fl : fb.length = m.is.length
  sl : m.sure.length = m.is.length
  nd : fb.Nodup
  fbl : ∀ b ∈ fb, b < w.heap.size
  file : ∀ i, Live m i → i < m.is.length ∧ A (fb.getD i 0) ∧ FileAt A w (fb.getD i 0) (m.is.getD i []) (m.sure.getD i [])
  Ad : A d
  An : A nb
  As : A sb

/-- a disk of the program -/
def DR (A : Nat → Prop) (w : World) (d : Nat) (m : M) : Prop := ∃ fb nb sb wv rows, DRep A w d m fb nb sb wv rows

theorem NameFn.same {A : Nat → Prop} {w w' : World} {fb : List Nat} {o : Dk.Op} {c : Value} (h : NameFn A w fb o c)
    (e : ∀ k, A k → (∃ cs fr, w.heap[k]? = some (.cells cs 68 fr) ∨ w.heap[k]? = some (.cells cs 9 fr)) → w'.heap[k]? = w.heap[k]?) : NameFn A w' fb o c := by
  obtain ⟨x, y, ax, ay, h⟩ := h
  refine ⟨x, y, ax, ay, ?_⟩
  rcases h with ⟨hk, hc, hx, hy⟩ | ⟨hk, hc, hx, hy⟩ | ⟨hk, hc, hx⟩
  · exact .inl ⟨hk, hc, hx.same (e x ax ⟨_, _, .inl hx⟩), hy.same (e y ay ⟨_, _, .inr hy⟩)⟩
  · exact .inr (.inl ⟨hk, hc, hx.same (e x ax ⟨_, _, .inr hx⟩), hy.same (e y ay ⟨_, _, .inr hy⟩)⟩)
  · exact .inr (.inr ⟨hk, hc, hx.same (e x ax ⟨_, _, .inr hx⟩)⟩)
theorem NameFn.mono {A B : Nat → Prop} {w : World} {fb : List Nat} {o : Dk.Op} {c : Value} (h : NameFn A w fb o c) (hab : ∀ k, k < w.heap.size → A k → B k) : NameFn B w fb o c := by
  obtain ⟨x, y, ax, ay, h⟩ := h
  rcases h with ⟨hk, hc, hx, hy⟩ | ⟨hk, hc, hx, hy⟩ | ⟨hk, hc, hx⟩
  · exact ⟨x, y, hab x hx.lt ax, hab y hy.lt ay, .inl ⟨hk, hc, hx, hy⟩⟩
  · exact ⟨x, y, hab x hx.lt ax, hab y hy.lt ay, .inr (.inl ⟨hk, hc, hx, hy⟩)⟩
  · exact ⟨x, x, hab x hx.lt ax, hab x hx.lt ax, .inr (.inr ⟨hk, hc, hx⟩)⟩
theorem PendAt.same {A : Nat → Prop} {w w' : World} {fb : List Nat} {o : Dk.Op} {cs : List Value} (h : PendAt A w fb o cs) (hs : w.heap.size ≤ w'.heap.size)
    (e : ∀ k, A k → (∃ cs fr t, w.heap[k]? = some (.cells cs t fr) ∧ (t = 68 ∨ t = 9 ∨ t = 5)) → w'.heap[k]? = w.heap[k]?) : PendAt A w' fb o cs := by
  rcases h with ⟨hk, v, hc, hb⟩ | ⟨c, hc, hf⟩
  · exact .inl ⟨hk, v, hc, hb.same hs fun k _ ha ⟨cs, fr, h⟩ => e k ha ⟨cs, fr, _, h, by simp⟩⟩
  · refine .inr ⟨c, hc, hf.same fun k ha h => ?_⟩
    obtain ⟨cs, fr, h | h⟩ := h
    · exact e k ha ⟨cs, fr, _, h, by simp⟩
    · exact e k ha ⟨cs, fr, _, h, by simp⟩
theorem PendAt.mono {A B : Nat → Prop} {w : World} {fb : List Nat} {o : Dk.Op} {cs : List Value} (h : PendAt A w fb o cs) (hab : ∀ k, k < w.heap.size → A k → B k) : PendAt B w fb o cs := by
  rcases h with ⟨hk, v, hc, hb⟩ | ⟨c, hc, hf⟩
  · exact .inl ⟨hk, v, hc, hb.mono hab⟩
  · exact .inr ⟨c, hc, hf.mono hab⟩
theorem FileAt.same {A : Nat → Prop} {w w' : World} {b : Nat} {is sure : List UInt8} (h : FileAt A w b is sure) (hs : w.heap.size ≤ w'.heap.size) (hb : w'.heap[b]? = w.heap[b]?)
    (e : ∀ k, k < w.heap.size → A k → (∃ cs fr, w.heap[k]? = some (.cells cs 5 fr)) → w'.heap[k]? = w.heap[k]?) : FileAt A w' b is sure := by
  obtain ⟨v1, v2, h, h1, h2⟩ := h
  exact ⟨v1, v2, h.same hb, h1.same hs e, h2.same hs e⟩
theorem FileAt.mono {A B : Nat → Prop} {w : World} {b : Nat} {is sure : List UInt8} (h : FileAt A w b is sure) (hab : ∀ k, k < w.heap.size → A k → B k) : FileAt B w b is sure := by
  obtain ⟨v1, v2, h, h1, h2⟩ := h
  exact ⟨v1, v2, h, h1.mono hab, h2.mono hab⟩

theorem ownsRow_same {w w' : World} {base e size n : Nat} {v : Value} {xs : List Value} (h : w.ownsRow base e size v n xs) (hs : ∀ g, v.ownBlock = some g → w'.heap[g]? = w.heap[g]?) : w'.ownsRow base e size v n xs := by
  refine ⟨h.1, h.2.imp id ?_⟩
  rintro ⟨g, cap, cur, rfl, a, b, r⟩
  exact ⟨g, cap, cur, rfl, a, (hs g rfl).trans b, r⟩

theorem DRep.same {A : Nat → Prop} {w w' : World} {d : Nat} {m : M} {fb : List Nat} {nb sb : Nat} {wv : Value} {rows : List (List Value)} (h : DRep A w d m fb nb sb wv rows) (hs : w.heap.size ≤ w'.heap.size)
    (e : ∀ k, A k → w'.heap[k]? = w.heap[k]?) : DRep A w' d m fb nb sb wv rows where
  blk := h.blk.same (e d h.Ad)
  nm := h.nm.same (e nb h.An)
  sm := h.sm.same (e sb h.As)
  ne := h.ne
  row := ownsRow_same h.row fun g hg => e g (h.rowA g hg)
  rowA := h.rowA
  rlen := h.rlen
  pend := fun i o ho => by
    obtain ⟨cs, h1, h2⟩ := h.pend i o ho
    exact ⟨cs, h1, h2.same hs fun k ha _ => e k ha⟩
  fl := h.fl
  sl := h.sl
  nd := h.nd
  fbl := fun b hb => Nat.lt_of_lt_of_le (h.fbl b hb) hs
  file := fun i hi => by
    obtain ⟨h1, h2, h3⟩ := h.file i hi
    exact ⟨h1, h2, h3.same hs (e _ h2) fun k _ ha _ => e k ha⟩
  Ad := h.Ad
  An := h.An
  As := h.As
theorem DR.same {A : Nat → Prop} {w w' : World} {d : Nat} {m : M} (h : DR A w d m) (hs : w.heap.size ≤ w'.heap.size) (e : ∀ k, A k → w'.heap[k]? = w.heap[k]?) : DR A w' d m := by
  obtain ⟨fb, nb, sb, wv, rows, h⟩ := h
  exact ⟨fb, nb, sb, wv, rows, h.same hs e⟩
theorem DR.keep {A S : Nat → Prop} {w w' : World} {d : Nat} {m : M} (h : DR A w d m) (hA : ∀ k, A k → k < w.heap.size) (hk : Keep S w w') (hS : ∀ k, A k → ¬ S k) : DR A w' d m :=
  h.same hk.size fun k ha => hk.block k (hA k ha) (hS k ha)
theorem DRep.mono {A B : Nat → Prop} {w : World} {d : Nat} {m : M} {fb : List Nat} {nb sb : Nat} {wv : Value} {rows : List (List Value)} (h : DRep A w d m fb nb sb wv rows) (hab : ∀ k, k < w.heap.size → A k → B k) : DRep B w d m fb nb sb wv rows where
  blk := h.blk
  nm := h.nm
  sm := h.sm
  ne := h.ne
  row := h.row
  rowA := fun g hg => hab g (h.row.lt g hg).2 (h.rowA g hg)
  rlen := h.rlen
  pend := fun i o ho => by
    obtain ⟨cs, h1, h2⟩ := h.pend i o ho
    exact ⟨cs, h1, h2.mono hab⟩
  fl := h.fl
  sl := h.sl
  nd := h.nd
  fbl := h.fbl
  file := fun i hi => by
    obtain ⟨h1, h2, h3⟩ := h.file i hi
    obtain ⟨v1, v2, h4, h5⟩ := h3
    exact ⟨h1, hab _ h4.lt h2, v1, v2, h4, h5.1.mono hab, h5.2.mono hab⟩
  Ad := hab _ h.blk.lt h.Ad
  An := hab _ h.nm.lt h.An
  As := hab _ h.sm.lt h.As
theorem DR.mono {A B : Nat → Prop} {w : World} {d : Nat} {m : M} (h : DR A w d m) (hab : ∀ k, k < w.heap.size → A k → B k) : DR B w d m := by
  obtain ⟨fb, nb, sb, wv, rows, h⟩ := h
  exact ⟨fb, nb, sb, wv, rows, h.mono hab⟩

/-- a map's view of names -/
theorem findL_NL (fb : List Nat) (L : Names) (s : List UInt8) : findL (NL fb L) (.string s) = (find L s).map (fptr fb) := by
  unfold findL NL find
  rw [List.find?_map, Option.map_map, Option.map_map]
  have e : ((fun p : Lit × Value => p.1.sameKey (.string s)) ∘ fun p : List UInt8 × Nat => ((Lit.string p.1, fptr fb p.2) : Lit × Value)) = fun p => p.1 == s := by
    funext p; simp [Lit.sameKey]
  rw [e]; rfl
theorem eraseL_NL (fb : List Nat) (L : Names) (s : List UInt8) : eraseL (NL fb L) (.string s) = NL fb (without L s) := by
  unfold eraseL NL without
  rw [List.filter_map]
  congr 1
theorem putL_NL (fb : List Nat) (L : Names) (s : List UInt8) (i : Nat) : ((Lit.string s, fptr fb i) :: eraseL (NL fb L) (.string s)).Perm (NL fb (withN L s i)) := by
  rw [eraseL_NL]
  unfold withN NL
  rw [List.map_append]
  exact (List.perm_append_singleton _ _).symm
theorem apart_names {fb : List Nat} {L : Names} (h : Apart (NL fb L)) : L.Pairwise (fun p q => p.1 ≠ q.1) := by
  unfold Apart NL at h
  rw [List.pairwise_map] at h
  exact h.imp fun h e => h (by rw [e])
theorem own_ne {w : World} {base e size n d : Nat} {v : Value} {xs : List Value} {cs : Array Value} {t : TypeId} (h : w.ownsRow base e size v n xs) (hd : Blk w d cs t) (ht : t ≠ e) : ¬ some d = v.ownBlock := by
  intro hg
  rcases h.2 with ⟨rfl, _⟩ | ⟨g, cap, cur, rfl, _, hb, _⟩
  · cases hg
  · cases hg
    rw [hd] at hb
    cases hb
    exact ht rfl
theorem own_ne_map {w : World} {base e size n b : Nat} {v : Value} {xs : List Value} {P : Program} {k : TypeId} {L : List (Lit × Value)} (h : w.ownsRow base e size v n xs) (hd : MapL P k w b L) : ¬ v.ownBlock = some b := by
  intro hg
  rcases h.2 with ⟨rfl, _⟩ | ⟨g, cap, cur, rfl, _, hb, _⟩
  · cases hg
  · cases hg
    obtain ⟨es, c, e⟩ := hd.obj
    rw [e] at hb
    cases hb

end Go.Proofs.YtkmoomgmmhmaeaaGreat
