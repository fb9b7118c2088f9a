/- Slices of flat elements: read at an index, pushed to, put one behind the other. A map as an association list (MapL), and a range over it (RangeL): lookups, stores, deletes, len, range, said once for all walks of this seat. Memory in pages, as lists: no program in sight (the document's chapter 13 as Lean functions). How memory in pages lies in the program's memory (SRep), and the small functions: base, may, each. A region that draws its order, walked in one order that is given: operations that yield the same in every world of a class S are taken first; behind each of the others S is shown anew, where something may still come that leans on it. Masks of few bits. No condition. -/
import Derived.Test.YtaoillfofiehpaaGreatDoorRd
import Derived.Laws.Tables
import Derived.Laws.Rows
import Derived.Laws.ResultCell
import Derived.Laws.BitsAllLaws
import Derived.Test.YtaoillfofiehpaaGreatDoorProg
import Derived.OrdersHeld
set_option linter.unusedVariables false
set_option linter.unusedSimpArgs false
namespace Go.Dm
open Go Go.RowKit

/-- a slice whose elements x are the cells enc x -/
def Fl {α : Type} (A : Nat → Prop) (w : World) (k : Nat) (enc : α → List Value) (v : Value) (l : List α) : Prop := Sl A w k v l.length (l.flatMap enc)
/-- the same in a row of one's own -/
def FlO {α : Type} (w : World) (base : Nat) (e : TypeId) (k : Nat) (enc : α → List Value) (v : Value) (l : List α) : Prop := w.ownsRow base e k v l.length (l.flatMap enc)

section
variable {α : Type} {A : Nat → Prop} {w : World} {k : Nat} {enc : α → List Value} {v : Value} {l : List α}
theorem Fl.keep {S : Nat → Prop} {w' : World} (h : Fl A w k enc v l) (hk : Keep S w w') (hS : ∀ j, j < w.heap.size → A j → ¬ S j) : Fl A w' k enc v l := Sl.keep h hk hS
theorem Fl.no {w' : World} (h : Fl A w k enc v l) (hk : Keep No w w') : Fl A w' k enc v l := Sl.keep h hk fun _ _ _ h => h
theorem Fl.mono {B : Nat → Prop} (h : Fl A w k enc v l) (hab : ∀ j, j < w.heap.size → A j → B j) : Fl B w k enc v l := Sl.mono h hab
theorem Fl.shape (h : Fl A w k enc v l) : ∃ a cap, v = .slice a l.length cap ∧ l.length ≤ cap ∧ cap ≤ maxLen := Sl.shape h
theorem Fl.nil : Fl A w k enc (.slice none 0 0) [] := Sl.nil _ _ _
theorem Fl.at (h : Fl A w k enc v l) (hk : ∀ x, (enc x).length = k) {i : Nat} (hi : i < l.length) :
    ∃ g off cap, v = .slice (some ⟨g, off, none⟩) l.length cap ∧ A g ∧ g < w.heap.size ∧ l.length ≤ cap ∧ cap ≤ maxLen ∧ ∀ r u, (enc l[i])[r]? = some u → w.cell? ⟨g, off + i * k + r, none⟩ = some u := by
  obtain ⟨g, off, cap, e, ha, hg, hc, hm, hr⟩ := Sl.at h (by omega)
  refine ⟨g, off, cap, e, ha, hg, hc, hm, fun r u hu => ?_⟩
  have hel : ∀ c ∈ l.map enc, c.length = k := by
    intro c hc
    obtain ⟨x, _, rfl⟩ := List.mem_map.1 hc
    exact hk x
  have hrk : r < k := by rw [← hk l[i]]; exact (List.getElem?_eq_some_iff.1 hu).1
  rw [Nat.add_assoc]
  refine hr _ _ ?_
  rw [List.flatMap_def, flatten_get hel i r hrk, List.getElem?_map, List.getElem?_eq_getElem hi]
  exact hu
variable {base : Nat} {e : TypeId}
theorem FlO.fl (h : FlO w base e k enc v l) : Fl (fun j => base ≤ j ∧ j < w.heap.size) w k enc v l := Sl.mono (Sl.of_own h) fun j hj ha => ⟨ha.1, hj⟩
theorem FlO.flO (h : FlO w base e k enc v l) : Fl (fun j => base ≤ j ∧ some j = v.ownBlock) w k enc v l := Sl.of_own h
theorem FlO.same {w' : World} (h : FlO w base e k enc v l) (hs : ∀ g, v.ownBlock = some g → w'.heap[g]? = w.heap[g]?) : FlO w' base e k enc v l := by
  refine ⟨h.1, h.2.imp id ?_⟩
  rintro ⟨g, cap, cur, rfl, a, b, r⟩
  exact ⟨g, cap, cur, rfl, a, (hs g rfl).trans b, r⟩
theorem FlO.no {w' : World} (h : FlO w base e k enc v l) (hk : Keep No w w') : FlO w' base e k enc v l := h.same fun g hg => hk.block g (World.ownsRow.lt h g hg).2 fun h => h
theorem FlO.nil : FlO w base e k enc (.slice none 0 0) [] := World.ownsRow_nil _ _ _ _
/-- what is written into a row of one's own is nobody else's -/
theorem Keep.own {w0 w' : World} {n : Nat} {xs : List Value} (hK : Keep No w0 w) (ho : w.ownsRow w0.heap.size e k v n xs) (hk : Keep (fun j => some j = v.ownBlock) w w') : Keep No w0 w' :=
  hK.trans hk fun j hj h => absurd (ho.lt j h.symm).1 (Nat.not_le.2 hj)

theorem Keep.new {w w1 : World} (h : Keep No w w1) {p : Addr} (hp : w.heap.size ≤ p.block) (u : Value) : Keep No w (w1.setCell p u) := h.setCell (fun hl => absurd hl (Nat.not_lt.2 hp)) u
theorem Blk.own {w w' : World} {b base : Nat} {cs : Array Value} {t e : TypeId} {k n : Nat} {v : Value} {xs : List Value} (h : Blk w b cs t) (ho : w.ownsRow base e k v n xs) (hk : Keep (fun j => some j = v.ownBlock) w w') (hb : b < base) : Blk w' b cs t :=
  h.keep hk fun e => absurd (ho.lt b e.symm).1 (Nat.not_le.2 hb)

variable {P : Program}
/-- append(v, x) -/
theorem rg_push (z : Value) (bytes : Nat) {t ty : TypeId} (ht : P.underlying t = some (.slice e)) (hi : (P.info? e).map (fun i => (i.zero, i.size, i.bytes)) = some (some z, k, bytes)) (hzs : z.cells.size = k) (hk0 : 0 < k)
    {x : α} {cs : Array Value} (hcs : cs.toList = enc x) (hx : (enc x).length = k) (hone : ∀ u ∈ enc x, u.oneCell' = true) (ho : FlO w base e k enc v l) (hlen : l.length + 1 ≤ 1099511627776) (hb : bytes ≤ 128) (hbase : base ≤ w.heap.size) {K : Value → World → Prop}
    (h : ∀ v' w', FlO w' base e k enc v' (l ++ [x]) → Keep (fun j => some j = v.ownBlock) w w' → (v'.ownBlock = v.ownBlock ∨ v'.ownBlock = some (w.heap.size + 1)) → K v' w') : AppendGoal P t t ty v (.slice (some ⟨w.heap.size, 0, none⟩) 1 1) (w.alloc (.cells cs e)) K := by
  have hs : Sl (fun j => j = w.heap.size) (w.alloc (.cells cs e)) k (.slice (some ⟨w.heap.size, 0, none⟩) 1 1) 1 (enc x) := by
    rw [← hcs]
    exact Sl.new w cs e (by rw [← Array.length_toList, hcs, hx, Nat.one_mul]) (by unfold maxLen; omega)
  have hbb : (l.length + 1) * bytes ≤ 140737488355328 := Nat.le_trans (Nat.mul_le_mul hlen hb) (by decide)
  refine rg_append base e z k bytes ht hi hzs hk0 (ho.alloc _) hs hone (by unfold maxLen; omega) hbb (by rw [World.size_alloc]; omega) ?_
  intro v' w' ho' hk' _ hn
  refine h v' w' ?_ (((Keep.refl _ w).alloc _).trans' hk') ?_
  · unfold FlO
    rw [List.length_append, List.flatMap_append]
    simpa using ho'
  · rw [World.size_alloc] at hn; exact hn
/-- append(v, vs...) -/
theorem rg_cat (z : Value) (bytes : Nat) {t ty : TypeId} (ht : P.underlying t = some (.slice e)) (hi : (P.info? e).map (fun i => (i.zero, i.size, i.bytes)) = some (some z, k, bytes)) (hzs : z.cells.size = k) (hk0 : 0 < k)
    {vs : Value} {m : List α} (hs : Fl A w k enc vs m) (hone : ∀ x, ∀ u ∈ enc x, u.oneCell' = true) (ho : FlO w base e k enc v l) (hlen : l.length + m.length ≤ 1099511627776) (hb : bytes ≤ 128) (hbase : base ≤ w.heap.size) {K : Value → World → Prop}
    (h : ∀ v' w', FlO w' base e k enc v' (l ++ m) → Keep (fun j => some j = v.ownBlock) w w' → (v'.ownBlock = v.ownBlock ∨ v'.ownBlock = some w.heap.size) → K v' w') : AppendGoal P t t ty v vs w K := by
  have hbb : (l.length + m.length) * bytes ≤ 140737488355328 := Nat.le_trans (Nat.mul_le_mul hlen hb) (by decide)
  refine rg_append base e z k bytes ht hi hzs hk0 ho hs (fun u hu => ?_) (by unfold maxLen; omega) hbb hbase ?_
  · obtain ⟨x, _, hx⟩ := List.mem_flatMap.1 hu
    exact hone x u hx
  · intro v' w' ho' hk' _ hn
    refine h v' w' ?_ hk' hn
    unfold FlO
    rw [List.length_append, List.flatMap_append]
    exact ho'
end

/-! a whole struct is stored; a struct is the result -/
def StAggGoal (P : Program) (ty : TypeId) (g : Nat) (cells : Array Value) (w : World) (K : World → Prop) : Prop := RunGoal P (Instr.storeAt ty (.pointer (some ⟨g, 0, none⟩)) (.agg cells)) w fun _ w' => K w'
section
variable {P : Program} {w : World}
theorem wl_stAgg {ops : Array Oper} {rest : List Oper} {o : Oper} {a : Act} {Q : Exit → Act → World → Prop} (hgd : o.guard = none) (x y : Operand) (ty : TypeId) (ho : o.op = Op.store ty x y) (g : Nat) (cells : Array Value)
    (h1 : a.eval x = .pointer (some ⟨g, 0, none⟩)) (h2 : a.eval y = .agg cells) (h : StAggGoal P ty g cells w fun w' => wpList P ops Q rest (a.put o.dst undef) w') : wpList P ops Q (o :: rest) a w := by
  obtain ⟨v, w', hr, hk⟩ := h
  refine wpList_plain hgd fun K hK => ?_
  unfold Oper.wp execOp
  simp only [ho, h1, h2, hr, Sem.run_bind, Sem.run_pure, Result.andThen_ok]
  exact hK _ _ hk
theorem wo_stAgg {o : Oper} {a : Act} {Q : Exit → Act → World → Prop} {K : Act → World → Prop} (x y : Operand) (ty : TypeId) (ho : o.op = Op.store ty x y) (g : Nat) (cells : Array Value)
    (h1 : a.eval x = .pointer (some ⟨g, 0, none⟩)) (h2 : a.eval y = .agg cells) (h : StAggGoal P ty g cells w fun w' => K (a.put o.dst undef) w') : o.wp P a w K Q := by
  obtain ⟨v, w', hr, hk⟩ := h
  unfold Oper.wp execOp
  simp only [ho, h1, h2, hr, Sem.run_bind, Sem.run_pure, Result.andThen_ok]
  exact hk
theorem rg_stAgg {g : Nat} {old cells : Array Value} {t ty : TypeId} (hB : Blk w g old t) (hi : (P.info? ty).map (·.size) = some cells.size) (hold : old.size = cells.size) (h1 : cells.all (·.oneCell') = true) {K : World → Prop}
    (h : ∀ w', Blk w' g cells t → Keep (fun j => j = g) w w' → w'.heap.size = w.heap.size → K w') : StAggGoal P ty g cells w K := by
  refine .mk (v := ()) (w' := w.setRow g cells) ?_ (h _ (setRow_heap w g old cells t _ hB) ⟨rfl, rfl, rfl, by simp, fun k _ hk => setRow_other w g k cells hk⟩ (by simp))
  simp only [Instr.storeAt, Instr.sureAddr, Sem.run_bind, Sem.run_pure, Result.andThen_ok, run_storeVar_row w g t ty old cells hB hi hold h1]
/-- the result lies in block g -/
theorem ret_blk {fn : Func} {R : Ending → World → Prop} {a : Act} {p : Tmp} {ty t : TypeId} {g : Nat} {cs : Array Value} {d : TypeDesc} (h : fn.results = #[.cell p ty]) (hp : a.tmps.getD p undef = .pointer (some ⟨g, 0, none⟩)) (hB : Blk w g cs t) (hu : P.underlying ty = some d)
    (hd : (match d with | .struct _ | .array _ _ => true | _ => false) = true) (hi : (P.info? ty).map (·.size) = some cs.size) (hdf : a.defers = []) (hR : R (.returned (.agg cs)) w) : bodyPost P fn R .ret a w :=
  bodyPost_ret (results_cell_row h a.tmps w g t cs _ d hp hB hu hd hi) hdf hR
theorem ret_blk_tmp {fn : Func} {R : Ending → World → Prop} {a : Act} {p u : Tmp} {ty t : TypeId} {g : Nat} {cs : Array Value} {d : TypeDesc} (h : fn.results = #[.cell p ty, .tmp u]) (hp : a.tmps.getD p undef = .pointer (some ⟨g, 0, none⟩)) (hB : Blk w g cs t) (hu : P.underlying ty = some d)
    (hd : (match d with | .struct _ | .array _ _ => true | _ => false) = true) (hi : (P.info? ty).map (·.size) = some cs.size) (hdf : a.defers = []) (hR : R (.returned (.tuple #[.agg cs, a.tmps.getD u undef])) w) : bodyPost P fn R .ret a w :=
  bodyPost_ret (by rw [results_cell_tmp h, hp]; simp [asAddr, run_loadVar_row w g t ty cs _ d hB hu hd hi, Result.andThen]) hdf hR
end
end Go.Dm
namespace Go.Dm
open Go Go.RowKit Go.Maps Go.ChangeMaps

/-- an element reads as itself -/
def heldE (v : Value) : Option (DataW Value × List MemPlace) := some (.held v, [])
def hd (p : Lit × Value) : Lit × DataW Value := (p.1, .held p.2)
def Apart (L : List (Lit × Value)) : Prop := L.Pairwise (fun p q => p.1 ≠ q.1)
def findL (L : List (Lit × Value)) (k : Lit) : Option Value := (L.find? (fun p => p.1.sameKey k)).map (·.2)
def eraseL (L : List (Lit × Value)) (k : Lit) : List (Lit × Value) := L.filter (fun p => !p.1.sameKey k)

theorem sameKey_true {a b : Lit} (hb : WideAt.IsKeyLit b) : a.sameKey b = true ↔ a = b :=
  ⟨WideAt.sameKey_eq, fun h => by subst h; exact WideAt.sameKey_self hb⟩

theorem find_some {α : Type} {L : List (Lit × α)} (hp : L.Pairwise (fun p q => p.1 ≠ q.1)) {k : Lit} (hk : WideAt.IsKeyLit k) (p : Lit × α) : L.find? (fun p => p.1.sameKey k) = some p ↔ p ∈ L ∧ p.1 = k := by
  induction L with
  | nil => simp
  | cons q r ih =>
    rw [List.pairwise_cons] at hp
    by_cases hq : q.1.sameKey k = true
    · have hqk := (sameKey_true hk).1 hq
      simp only [List.find?_cons, hq]
      constructor
      · intro h; cases h; exact ⟨by simp, hqk⟩
      · rintro ⟨h, e⟩
        rcases List.mem_cons.1 h with rfl | h
        · rfl
        · exact absurd (hqk.trans e.symm) (hp.1 p h)
    · have hq' : q.1.sameKey k = false := by simpa using hq
      simp only [List.find?_cons, hq', ih hp.2]
      constructor
      · rintro ⟨h, e⟩; exact ⟨by simp [h], e⟩
      · rintro ⟨h, e⟩
        rcases List.mem_cons.1 h with rfl | h
        · exact absurd ((sameKey_true hk).2 e) hq
        · exact ⟨h, e⟩

theorem apart_perm {α : Type} {L L' : List (Lit × α)} (h : L.Perm L') (hp : L.Pairwise (fun p q => p.1 ≠ q.1)) : L'.Pairwise (fun p q => p.1 ≠ q.1) :=
  (h.pairwise_iff fun h => Ne.symm h).1 hp

theorem find_perm {α : Type} {L L' : List (Lit × α)} (h : L.Perm L') (hp : L.Pairwise (fun p q => p.1 ≠ q.1)) {k : Lit} (hk : WideAt.IsKeyLit k) : L.find? (fun p => p.1.sameKey k) = L'.find? (fun p => p.1.sameKey k) := by
  apply Option.ext
  intro p
  rw [find_some hp hk, find_some (apart_perm h hp) hk, h.mem_iff]

theorem apart_map {L : List (Lit × Value)} : (L.map hd).Pairwise (fun p q => p.1 ≠ q.1) ↔ Apart L := by
  unfold Apart; rw [List.pairwise_map]; rfl

theorem find_map (L : List (Lit × Value)) (k : Lit) : (L.map hd).find? (fun p => p.1.sameKey k) = (L.find? (fun p => p.1.sameKey k)).map hd := by
  rw [List.find?_map]; rfl

theorem findL_perm {L L' : List (Lit × Value)} (h : L.Perm L') (hp : Apart L) {k : Lit} (hk : WideAt.IsKeyLit k) : findL L k = findL L' k := by unfold findL; rw [find_perm h hp hk]
theorem findL_some {L : List (Lit × Value)} (hp : Apart L) {k : Lit} (hk : WideAt.IsKeyLit k) (v : Value) : findL L k = some v ↔ (k, v) ∈ L := by
  unfold findL
  rw [Option.map_eq_some_iff]
  constructor
  · rintro ⟨p, h, rfl⟩
    obtain ⟨h, e⟩ := (find_some hp hk p).1 h
    rw [← e]; exact h
  · intro h; exact ⟨_, (find_some hp hk _).2 ⟨h, rfl⟩, rfl⟩
theorem apart_erase {L : List (Lit × Value)} (h : Apart L) (k : Lit) : Apart (eraseL L k) := List.Pairwise.filter _ h
theorem eraseL_perm {L L' : List (Lit × Value)} (h : L.Perm L') (k : Lit) : (eraseL L k).Perm (eraseL L' k) := h.filter _
theorem mem_erase {L : List (Lit × Value)} {k : Lit} (hk : WideAt.IsKeyLit k) {p : Lit × Value} : p ∈ eraseL L k ↔ p ∈ L ∧ p.1 ≠ k := by
  unfold eraseL
  rw [List.mem_filter]
  cases h : p.1.sameKey k
  · simp only [Bool.not_false, and_true]
    exact ⟨fun hm => ⟨hm, fun e => by rw [(sameKey_true hk).2 e] at h; cases h⟩, fun h => h.1⟩
  · simp only [Bool.not_true, Bool.false_eq_true, and_false, false_iff]
    exact fun hm => hm.2 ((sameKey_true hk).1 h)
theorem apart_put {L : List (Lit × Value)} (h : Apart L) {k : Lit} (hk : WideAt.IsKeyLit k) (v : Value) : Apart ((k, v) :: eraseL L k) := by
  unfold Apart
  rw [List.pairwise_cons]
  exact ⟨fun p hp => fun e => ((mem_erase hk).1 hp).2 e.symm, apart_erase h k⟩
theorem length_erase_le (L : List (Lit × Value)) (k : Lit) : (eraseL L k).length ≤ L.length := List.length_filter_le _ _

/-- Block b of w is a map (of keys of type k) with just the entries of L. -/
def MapL (P : Program) (k : TypeId) (w : World) (b : Nat) (L : List (Lit × Value)) : Prop :=
  Apart L ∧ ∃ es, es.Perm (L.map hd) ∧ w.ownsMap P k heldE b L.length (.map es)

section
variable {P : Program} {k : TypeId} {w : World} {b : Nat} {L : List (Lit × Value)}

theorem MapL.apart (h : MapL P k w b L) : Apart L := h.1
theorem MapL.perm (h : MapL P k w b L) {L' : List (Lit × Value)} (hp : L.Perm L') : MapL P k w b L' := by
  obtain ⟨ha, es, he, ho⟩ := h
  exact ⟨apart_perm hp ha, es, he.trans (hp.map hd), by rw [← hp.length_eq]; exact ho⟩
theorem MapL.lt (h : MapL P k w b L) : b < w.heap.size := by obtain ⟨_, es, _, ho⟩ := h; exact ho.lt
theorem MapL.obj (h : MapL P k w b L) : ∃ es c, w.heap[b]? = some (.map es c) := by obtain ⟨_, es, _, e, c, hb, _⟩ := h; exact ⟨e, c, hb⟩
theorem MapL.ne_blk (h : MapL P k w b L) {b' : Nat} {cs : Array Value} {t : TypeId} (hb : Blk w b' cs t) : b ≠ b' := by
  rintro rfl
  obtain ⟨es, c, e⟩ := h.obj
  rw [hb] at e; cases e
theorem MapL.same {w' : World} (h : MapL P k w b L) (e : w'.heap[b]? = w.heap[b]?) : MapL P k w' b L := by
  obtain ⟨ha, es, he, e1, c, hb, r⟩ := h
  exact ⟨ha, es, he, e1, c, e.trans hb, r⟩
theorem MapL.keep {A : Nat → Prop} {w' : World} (h : MapL P k w b L) (hk : Keep A w w') (hA : ¬ A b) : MapL P k w' b L := h.same (hk.block b h.lt hA)
theorem MapL.keys (h : MapL P k w b L) (K : Keyed P k) : ∀ p ∈ L, WideAt.IsKeyLit p.1 := by
  obtain ⟨ha, es, he, ho⟩ := h
  obtain ⟨es', e1, _, hk⟩ := ho.entries K
  cases e1
  intro p hp
  exact hk (hd p) (he.mem_iff.2 (List.mem_map_of_mem hp))
theorem MapL.made (P : Program) (k : TypeId) (w : World) : MapL P k (w.alloc (.map #[] 0)) w.heap.size [] :=
  ⟨List.Pairwise.nil, [], List.Perm.refl _, World.ownsMap_made _ _ _ _⟩

theorem keyLit_of {key : Value} {kl : Lit} (K : Keyed P k) (h : keyOf P k key = some kl) : WideAt.IsKeyLit kl := K.key h

theorem MapL.at (h : MapL P k w b L) {kl : Lit} (hk : WideAt.IsKeyLit kl) : ∃ es, w.ownsMap P k heldE b L.length (.map es) ∧ es.Perm (L.map hd) ∧ (∀ z : Value, (DataW.map es).atKey kl (.held z) = .held ((findL L kl).getD z)) ∧ Maps.has (.map es) kl = (findL L kl).isSome := by
  obtain ⟨ha, es, he, ho⟩ := h
  have e1 : es.find? (fun p => p.1.sameKey kl) = (L.find? (fun p => p.1.sameKey kl)).map hd := by
    rw [← find_map]; exact find_perm he (apart_perm he.symm (apart_map.2 ha)) hk
  refine ⟨es, ho, he, fun z => ?_, ?_⟩
  · unfold DataW.atKey findL
    simp only [e1]
    cases L.find? (fun p => p.1.sameKey kl) <;> simp [hd]
  · have e2 : es.any (fun p => p.1.sameKey kl) = (es.find? (fun p => p.1.sameKey kl)).isSome := by
      rw [Bool.eq_iff_iff, List.find?_isSome, List.any_eq_true]
    rw [Maps.has_eq, e2, e1]
    unfold findL
    cases L.find? (fun p => p.1.sameKey kl) <;> simp

/-- m[k] -/
theorem MapL.lookup {t e : TypeId} (h : MapL P k w b L) (K : Keyed P k) (ht : P.underlying t = some (.map k e)) {z : Value} (hz : (zeroValue e).run P w = .ok z w) {key : Value} {kl : Lit} (hkey : keyOf P k key = some kl) :
    (Instr.lookup t (.map (some b)) key false).run P w = .ok ((findL L kl).getD z) w := by
  obtain ⟨es, ho, _, hat, _⟩ := h.at (keyLit_of K hkey)
  obtain ⟨v, ps, hrun, hv⟩ := ho.lookup K ht hz (zd := .held z) (zp := []) rfl hkey
  rw [hat z] at hv
  cases hv
  exact hrun
/-- v, ok := m[k] -/
theorem MapL.lookup_ok {t e : TypeId} (h : MapL P k w b L) (K : Keyed P k) (ht : P.underlying t = some (.map k e)) {z : Value} (hz : (zeroValue e).run P w = .ok z w) {key : Value} {kl : Lit} (hkey : keyOf P k key = some kl) :
    (Instr.lookup t (.map (some b)) key true).run P w = .ok (.tuple #[(findL L kl).getD z, .bool (findL L kl).isSome]) w := by
  obtain ⟨es, ho, _, hat, hhas⟩ := h.at (keyLit_of K hkey)
  obtain ⟨v, ps, hrun, hv⟩ := ho.look_ok K ht hz (zd := .held z) (zp := []) rfl hkey
  rw [hat z] at hv
  cases hv
  rw [← hhas]
  exact hrun
/-- m[k] = v -/
theorem MapL.store {t e : TypeId} (h : MapL P k w b L) (K : Keyed P k) (ht : P.underlying t = some (.map k e)) (hn : L.length < maxLen) {key v : Value} {kl : Lit} (hkey : keyOf P k key = some kl) :
    ∃ w', (Instr.mapUpdate t (.map (some b)) key v).run P w = .ok () w' ∧ MapL P k w' b ((kl, v) :: eraseL L kl) ∧ Keep (fun j => j = b) w w' ∧ w'.heap.size = w.heap.size := by
  have hkl := keyLit_of K hkey
  obtain ⟨ha, es, he, ho⟩ := h
  obtain ⟨w', hrun, ho', ht'⟩ := ho.store K ht hn hkey (d := .held v) (ps := []) rfl
  have hp : (DataW.insert (kl, .held v) (es.filter fun p => !p.1.sameKey kl)).Perm (((kl, v) :: eraseL L kl).map hd) := by
    refine (WideShapes.insert_perm _ _).trans ?_
    refine List.Perm.cons _ ?_
    have := he.filter (fun p : Lit × DataW Value => !p.1.sameKey kl)
    rw [List.filter_map] at this
    exact this
  have hg := ht'.grown
  refine ⟨w', hrun, ⟨apart_put ha hkl v, _, hp, ?_⟩, (Keep.of_grown hg).mono (fun j _ e => by cases e; rfl), ?_⟩
  · have hs := ho'.size_le
    obtain ⟨es2, c2, hb2, F2, _, e2⟩ := ho'
    refine ⟨es2, c2, hb2, F2, ?_, e2⟩
    have e3 := hp.length_eq
    have e4 : (DataW.insert (kl, DataW.held v) (es.filter fun p => !p.1.sameKey kl)).length = es2.size := by
      have := congrArg (fun D : DataW Value => Maps.size D) e2
      simp only [DataW.put, Maps.size, length_sorted, List.length_map, Array.length_toList] at this
      exact this
    rw [List.length_map] at e3
    omega
  · obtain ⟨es1, c1, es2, c2, _, rfl⟩ := ht'
    simp [setBlock]
/-- delete(m, k) -/
theorem MapL.drop {t e : TypeId} (h : MapL P k w b L) (K : Keyed P k) (ht : P.underlying t = some (.map k e)) {key : Value} {kl : Lit} (hkey : keyOf P k key = some kl) (ty : TypeId) :
    ∃ w', (Builtin.delete_ #[t, k] ty #[.map (some b), key]).run P w = .ok (.tuple #[]) w' ∧ MapL P k w' b (eraseL L kl) ∧ Keep (fun j => j = b) w w' ∧ w'.heap.size = w.heap.size := by
  obtain ⟨ha, es, he, ho⟩ := h
  obtain ⟨w', hrun, ho', ht'⟩ := ho.drop K ht hkey ty
  have hp : (es.filter fun p => !p.1.sameKey kl).Perm ((eraseL L kl).map hd) := by
    have := he.filter (fun p : Lit × DataW Value => !p.1.sameKey kl)
    rw [List.filter_map] at this
    exact this
  have hg := ht'.grown
  refine ⟨w', hrun, ⟨apart_erase ha kl, _, hp, ?_⟩, (Keep.of_grown hg).mono (fun j _ e => by cases e; rfl), ?_⟩
  · obtain ⟨es2, c2, hb2, F2, _, e2⟩ := ho'
    refine ⟨es2, c2, hb2, F2, ?_, e2⟩
    have e3 := hp.length_eq
    have e4 : (es.filter fun p => !p.1.sameKey kl).length = es2.size := by
      have := congrArg (fun D : DataW Value => Maps.size D) e2
      simp only [DataW.del, Maps.size, length_sorted, List.length_map, Array.length_toList] at this
      exact this
    rw [List.length_map] at e3
    omega
  · obtain ⟨es1, c1, es2, c2, _, rfl⟩ := ht'
    simp [setBlock]
theorem MapL.size (h : MapL P k w b L) : ∃ es, w.ownsMap P k heldE b L.length (.map es) ∧ es.Perm (L.map hd) ∧ Maps.size (.map es) = L.length := by
  obtain ⟨_, es, he, ho⟩ := h
  exact ⟨es, ho, he, by rw [Maps.size_eq, he.length_eq, List.length_map]⟩
/-- len(m) -/
theorem MapL.len {t e : TypeId} (h : MapL P k w b L) (ht : P.underlying t = some (.map k e)) (ty : TypeId) : (Builtin.len_ #[t] ty #[.map (some b)]).run P w = .ok (.int .i64 L.length) w := by
  obtain ⟨es, ho, _, hs⟩ := h.size
  rw [ho.len ht ty, hs]

/-- An iterator (block r) over the map of block b; 'todo' is still to come. -/
def RangeL (P : Program) (k : TypeId) (w : World) (b r : Nat) (L todo : List (Lit × Value)) : Prop :=
  Apart L ∧ (∀ p ∈ todo, p ∈ L) ∧ Apart todo ∧ ∃ es left cnt, es.Perm (L.map hd) ∧ w.ranges P k heldE b r L.length (.map es) left cnt ∧ ∀ kl, left kl = true ↔ ∃ v, (kl, v) ∈ todo

theorem RangeL.map {r : Nat} {todo : List (Lit × Value)} (h : RangeL P k w b r L todo) : MapL P k w b L := by
  obtain ⟨ha, _, _, es, left, cnt, he, hr, _⟩ := h
  exact ⟨ha, es, he, hr.owns⟩
theorem RangeL.same {w' : World} {r : Nat} {todo : List (Lit × Value)} (h : RangeL P k w b r L todo) (eb : w'.heap[b]? = w.heap[b]?) (er : w'.heap[r]? = w.heap[r]?) : RangeL P k w' b r L todo := by
  obtain ⟨ha, h1, h2, es, left, cnt, he, hr, h3⟩ := h
  refine ⟨ha, h1, h2, es, left, cnt, he, ?_, h3⟩
  obtain ⟨es1, clock, since, seen, c0, hb, F, hs, e, hrr, rest⟩ := hr
  exact ⟨es1, clock, since, seen, c0, eb.trans hb, F, hs, e, er.trans hrr, rest⟩
theorem RangeL.lt {r : Nat} {todo : List (Lit × Value)} (h : RangeL P k w b r L todo) : r < w.heap.size := by
  obtain ⟨_, _, _, es, left, cnt, _, hr, _⟩ := h; exact hr.lt
theorem RangeL.keep {A : Nat → Prop} {w' : World} {r : Nat} {todo : List (Lit × Value)} (h : RangeL P k w b r L todo) (hk : Keep A w w') (hb : ¬ A b) (hr : ¬ A r) : RangeL P k w' b r L todo :=
  h.same (hk.block b h.map.lt hb) (hk.block r h.lt hr)
/-- range m -/
theorem MapL.range {t e : TypeId} (h : MapL P k w b L) (K : Keyed P k) (ht : P.underlying t = some (.map k e)) :
    ∃ w', (Instr.range t (.map (some b))).run P w = .ok (.pointer (some ⟨w.heap.size, 0, none⟩)) w' ∧ RangeL P k w' b w.heap.size L L ∧ Keep No w w' ∧ w'.heap.size = w.heap.size + 1 := by
  have hkeys := h.keys K
  obtain ⟨ha, es, he, ho⟩ := h
  obtain ⟨w', hrun, hr, hg, hs⟩ := ho.range K ht
  refine ⟨w', hrun, ⟨ha, fun _ h => h, ha, es, _, _, he, hr, fun kl => ?_⟩, (Keep.of_grown hg).mono (fun j _ e => by cases e), hs⟩
  rw [Maps.has_eq, List.any_eq_true]
  constructor
  · rintro ⟨p, hp, hs⟩
    obtain ⟨q, hq, rfl⟩ := List.mem_map.1 (he.mem_iff.1 hp)
    have := WideAt.sameKey_eq hs
    simp only [hd] at this
    subst this
    exact ⟨q.2, hq⟩
  · rintro ⟨v, hv⟩
    exact ⟨hd (kl, v), he.mem_iff.2 (List.mem_map_of_mem hv), WideAt.sameKey_self (hkeys _ hv)⟩
/-- the next entry -/
theorem RangeL.next {r : Nat} {todo : List (Lit × Value)} (h : RangeL P k w b r L todo) (K : Keyed P k) (ty : TypeId) :
    (todo = [] ∧ (Instr.next (.pointer (some ⟨r, 0, none⟩)) false ty).run P w = .ok (.tuple #[.bool false]) w) ∨
    ∃ key v kl w', keyOf P k key = some kl ∧ (kl, v) ∈ todo ∧ (Instr.next (.pointer (some ⟨r, 0, none⟩)) false ty).run P w = .ok (.tuple #[.bool true, key, v]) w' ∧
      RangeL P k w' b r L (eraseL todo kl) ∧ w'.rangeLeft b r < w.rangeLeft b r ∧ Keep (fun j => j = r) w w' ∧ w'.heap.size = w.heap.size ∧ (Instr.entry (.pointer (some ⟨r, 0, none⟩))).run P w' = .ok (.tuple #[key, v]) w' := by
  have hkeys := h.map.keys K
  obtain ⟨ha, h1, h2, es, left, cnt, he, hr, h3⟩ := h
  rcases hr.next K ty with ⟨h0, hl, hrun⟩ | ⟨key, v, kl, y, w', cnt', hkey, hlk, hRv, hat, hrun, hr', hlt, hg, hs, hen⟩
  · refine .inl ⟨?_, hrun⟩
    cases todo with
    | nil => rfl
    | cons p r =>
      have := (h3 p.1).2 ⟨p.2, by simp⟩
      rw [hl] at this; cases this
  · refine .inr ⟨key, v, kl, w', hkey, ?_⟩
    cases hRv
    have hkl := keyLit_of K hkey
    obtain ⟨v', hv'⟩ := (h3 kl).1 hlk
    have hm := h1 _ hv'
    have hfind : es.find? (fun p => p.1.sameKey kl) = some (hd (kl, v')) :=
      (find_some (apart_perm he.symm (apart_map.2 ha)) hkl _).2 ⟨he.mem_iff.2 (List.mem_map_of_mem hm), rfl⟩
    have := hat (.held (.bool false))
    unfold DataW.atKey at this
    simp only [hfind, hd] at this
    cases this
    refine ⟨hv', hrun, ⟨ha, fun p hp => h1 p ((mem_erase hkl).1 hp).1, apart_erase h2 kl, es, _, _, he, hr', fun kl' => ?_⟩, by rw [hr'.left_eq, hr.left_eq]; exact hlt, (Keep.of_grown hg).mono (fun j _ e => by cases e; rfl), hs, hen⟩
    rw [Bool.and_eq_true, h3]
    constructor
    · rintro ⟨⟨v2, hv2⟩, hne⟩
      refine ⟨v2, (mem_erase hkl).2 ⟨hv2, fun e => ?_⟩⟩
      simp only at e
      subst e
      rw [WideAt.sameKey_self hkl] at hne; cases hne
    · rintro ⟨v2, hv2⟩
      obtain ⟨h4, h5⟩ := (mem_erase hkl).1 hv2
      exact ⟨⟨v2, h4⟩, by rw [Maps.sameKey_ne h5]; rfl⟩

theorem rg_lookup {t e : TypeId} (h : MapL P k w b L) (K : Keyed P k) (ht : P.underlying t = some (.map k e)) {z : Value} (hz : (zeroValue e).run P w = .ok z w) {key : Value} {kl : Lit} (hkey : keyOf P k key = some kl) {G : Value → World → Prop}
    (hk : G ((findL L kl).getD z) w) : LookupGoal P t (.map (some b)) key false w G := .mk (h.lookup K ht hz hkey) hk
theorem rg_lookup_ok {t e : TypeId} (h : MapL P k w b L) (K : Keyed P k) (ht : P.underlying t = some (.map k e)) {z : Value} (hz : (zeroValue e).run P w = .ok z w) {key : Value} {kl : Lit} (hkey : keyOf P k key = some kl) {G : Value → World → Prop}
    (hk : G (.tuple #[(findL L kl).getD z, .bool (findL L kl).isSome]) w) : LookupGoal P t (.map (some b)) key true w G := .mk (h.lookup_ok K ht hz hkey) hk
theorem rg_store {t e : TypeId} (h : MapL P k w b L) (K : Keyed P k) (ht : P.underlying t = some (.map k e)) (hn : L.length < maxLen) {key v : Value} {kl : Lit} (hkey : keyOf P k key = some kl) {G : World → Prop}
    (hk : ∀ w', MapL P k w' b ((kl, v) :: eraseL L kl) → Keep (fun j => j = b) w w' → w'.heap.size = w.heap.size → G w') : UpdateGoal P t (.map (some b)) key v w G := by
  obtain ⟨w', hr, h1, h2, h3⟩ := h.store K ht hn (v := v) hkey
  exact .mk hr (hk w' h1 h2 h3)
theorem rg_delete {t e : TypeId} (h : MapL P k w b L) (K : Keyed P k) (ht : P.underlying t = some (.map k e)) {key : Value} {kl : Lit} (hkey : keyOf P k key = some kl) {ty : TypeId} {G : Value → World → Prop}
    (hk : ∀ w', MapL P k w' b (eraseL L kl) → Keep (fun j => j = b) w w' → w'.heap.size = w.heap.size → G (.tuple #[]) w') : DeleteGoal P t k ty (.map (some b)) key w G := by
  obtain ⟨w', hr, h1, h2, h3⟩ := h.drop K ht hkey ty
  exact .mk hr (hk w' h1 h2 h3)
theorem rg_len {t e : TypeId} (h : MapL P k w b L) (ht : P.underlying t = some (.map k e)) {ty : TypeId} {G : Value → World → Prop} (hk : G (.int .i64 L.length) w) : LenGoal P t ty (.map (some b)) w G := .mk (h.len ht ty) hk
theorem rg_range {t e : TypeId} (h : MapL P k w b L) (K : Keyed P k) (ht : P.underlying t = some (.map k e)) {G : Value → World → Prop}
    (hk : ∀ w', RangeL P k w' b w.heap.size L L → Keep No w w' → w'.heap.size = w.heap.size + 1 → G (.pointer (some ⟨w.heap.size, 0, none⟩)) w') : RangeGoal P t (.map (some b)) w G := by
  obtain ⟨w', hr, h1, h2, h3⟩ := h.range K ht
  exact .mk hr (hk w' h1 h2 h3)
theorem rg_next {r : Nat} {todo : List (Lit × Value)} (h : RangeL P k w b r L todo) (K : Keyed P k) {ty : TypeId} {G : Value → World → Prop}
    (h0 : todo = [] → G (.tuple #[.bool false]) w)
    (h1 : ∀ key v kl w', keyOf P k key = some kl → (kl, v) ∈ todo → RangeL P k w' b r L (eraseL todo kl) → w'.rangeLeft b r < w.rangeLeft b r → Keep (fun j => j = r) w w' → w'.heap.size = w.heap.size →
      (Instr.entry (.pointer (some ⟨r, 0, none⟩))).run P w' = .ok (.tuple #[key, v]) w' → G (.tuple #[.bool true, key, v]) w') : NextGoal P (.pointer (some ⟨r, 0, none⟩)) false ty w G := by
  rcases h.next K ty with ⟨e, hr⟩ | ⟨key, v, kl, w', a1, a2, a3, a4, a5, a6, a7, a8⟩
  · exact .mk hr (h0 e)
  · exact .mk a3 (h1 key v kl w' a1 a2 a4 a5 a6 a7 a8)
end
end Go.Dm
namespace Go.Dm.Vm
open Go

structure Pg where
  addr : Nat
  prot : Nat
  dirty : Bool
  file : List UInt8
  off : Nat
  b : List UInt8
abbrev V := List Pg
def top : Nat := 4294967296
def pageOf (a : Nat) : Nat := a / 256 * 256
/-- the page of a page's address -/
def pageAt (m : V) (a : Nat) : Option Pg := m.find? (fun p => p.addr == a)
structure PgOk (p : Pg) : Prop where
  al : p.addr % 256 = 0
  lt : p.addr < top
  pr : p.prot ≤ 7
  bl : p.b.length = 256
  ol : p.off < 18446744073709551616
  fl : p.file.length ≤ maxLen
structure Ok (m : V) : Prop where
  srt : m.Pairwise (fun p q => p.addr < q.addr)
  pg : ∀ p ∈ m, PgOk p
  len : m.length ≤ 512
def may (addr size : Nat) (prot : Int) : Bool := addr % 256 == 0 && size % 256 == 0 && decide (0 < size) && decide (addr ≤ top) && decide (size ≤ top - addr) && decide (0 ≤ prot) && decide (prot ≤ 7)
/-- how many pages a span has a part of -/
def pagesN (addr size : Nat) : Nat := (addr % 256 + size + 255) / 256
def pagesOf (addr size : Nat) : List Nat := (List.range (pagesN addr size)).map fun k => pageOf addr + 256 * k
def there (m : V) (addr size : Nat) : Bool := (pagesOf addr size).all fun a => (pageAt m a).isSome
/-- the error of a span some of whose pages aren't there -/
def heldE (m : V) (addr size : Nat) : Nat := if addr > top ∨ size > top - addr ∨ size > 131328 then 40 else if there m addr size then 0 else 40

theorem get_mem {m : V} {a : Nat} {p : Pg} (h : pageAt m a = some p) : p ∈ m ∧ p.addr = a := by
  unfold pageAt at h
  exact ⟨List.mem_of_find?_eq_some h, by simpa using List.find?_some h⟩
theorem get_of_mem {m : V} (hs : m.Pairwise (fun p q => p.addr < q.addr)) {p : Pg} (h : p ∈ m) : pageAt m p.addr = some p := by
  induction m with
  | nil => cases h
  | cons q r ih =>
    rw [List.pairwise_cons] at hs
    unfold pageAt
    rcases List.mem_cons.1 h with rfl | h
    · simp
    · have := hs.1 p h
      rw [List.find?_cons_of_neg (by simp; omega)]
      exact ih hs.2 h

theorem mask_hi (a : Nat) (h : a < 18446744073709551616) : a &&& 18446744073709551360 = a / 256 * 256 := by
  have e1 : (18446744073709551360 : Nat) = (2 ^ 56 - 1) <<< 8 := by decide
  have e2 : a / 256 * 256 = (a >>> 8) <<< 8 := by rw [Nat.shiftLeft_eq, Nat.shiftRight_eq_div_pow]
  rw [e1, e2]
  apply Nat.eq_of_testBit_eq
  intro i
  rw [Nat.testBit_and, Nat.testBit_shiftLeft, Nat.testBit_shiftLeft, Nat.testBit_shiftRight, Nat.testBit_two_pow_sub_one]
  by_cases h8 : 8 ≤ i
  · simp only [ge_iff_le, h8, decide_true, Bool.true_and]
    rw [show 8 + (i - 8) = i by omega]
    by_cases h64 : i - 8 < 56
    · simp [h64]
    · have : a.testBit i = false := Nat.testBit_lt_two_pow (Nat.lt_of_lt_of_le h (Nat.pow_le_pow_right (n := 2) (by decide) (show 64 ≤ i by omega)))
      simp [this]
  · simp [h8]
theorem andNot_255 (a : Nat) (h : a < 18446744073709551616) : bits .andNot .u64 (a : Int) 255 = ((pageOf a : Nat) : Int) := by
  have := u64_andNot_nat a 255 h (by decide)
  rw [show ((255 : Nat) : Int) = 255 from rfl] at this
  rw [this]
  unfold pageOf
  rw [← mask_hi a h]
theorem pageOf_le (a : Nat) : pageOf a ≤ a := by unfold pageOf; omega
theorem pageOf_pageOf (a k : Nat) : pageOf (pageOf a + 256 * k) = pageOf a + 256 * k := by unfold pageOf; omega
/-- the loop over a span's pages -/
theorem pages_step (addr size k : Nat) (hs : 0 < size) : pageOf addr + 256 * k < addr + size ↔ k < pagesN addr size := by
  unfold pageOf pagesN; omega
end Go.Dm.Vm
namespace Go.Proofs.YtaoillfofiehpaaGreatDoor
open Go.RowKit Go.Dm Go.Dm.Vm Go.Maps

def ptrTo (b : Nat) : Value := .pointer (some ⟨b, 0, none⟩)
/-- the call of a function value enters it -/
def Enters (f : Nat) (c : Array Value) : Prop := ∀ w : World, (callFunc f c).run Tryz.prog w = .ok (.enter f c) w
def pgC (p : Pg) : Array Value := (Value.int .i64 p.prot :: Value.bool p.dirty :: Value.string ⟨p.file.toArray⟩ :: Value.int .u64 p.off :: p.b.map bv).toArray
theorem pgC_size {p : Pg} (h : p.b.length = 256) : (pgC p).size = 260 := by simp [pgC, h]
theorem pgC_byte (p : Pg) (r : Nat) : (pgC p)[4 + r]? = (p.b[r]?).map bv := by
  rw [show 4 + r = r + 4 by omega]
  simp [pgC]
def VL (f : Nat → Nat) (m : V) : List (Lit × Value) := m.map fun p => (.int .u64 p.addr, ptrTo (f p.addr))
structure SRep (A : Nat → Prop) (w : World) (d : Nat) (m : V) (mb : Nat) (f : Nat → Nat) : Prop where
  blk : Blk w d #[.map (some mb)] 65
  mp : MapL Tryz.prog 22 w mb (VL f m)
  pg : ∀ p ∈ m, A (f p.addr) ∧ Blk w (f p.addr) (pgC p) 71
  inj : ∀ p ∈ m, ∀ q ∈ m, f p.addr = f q.addr → p.addr = q.addr
  ok : Ok m
  Ad : A d
  Am : A mb
def SR (A : Nat → Prop) (w : World) (d : Nat) (m : V) : Prop := ∃ mb f, SRep A w d m mb f

section
variable {A B S : Nat → Prop} {w w' : World} {d mb : Nat} {f : Nat → Nat} {m : V}
theorem SRep.same (h : SRep A w d m mb f) (e : ∀ k, A k → w'.heap[k]? = w.heap[k]?) : SRep A w' d m mb f where
  blk := h.blk.same (e d h.Ad)
  mp := h.mp.same (e mb h.Am)
  pg := fun p hp => ⟨(h.pg p hp).1, (h.pg p hp).2.same (e _ (h.pg p hp).1)⟩
  inj := h.inj
  ok := h.ok
  Ad := h.Ad
  Am := h.Am
theorem SRep.keep (h : SRep A w d m mb f) (hk : Keep S w w') (hS : ∀ k, A k → ¬ S k) (hA : ∀ k, A k → k < w.heap.size) : SRep A w' d m mb f := h.same fun k ha => hk.block k (hA k ha) (hS k ha)
theorem SRep.mono (h : SRep A w d m mb f) (hab : ∀ k, k < w.heap.size → A k → B k) : SRep B w d m mb f where
  blk := h.blk
  mp := h.mp
  pg := fun p hp => ⟨hab _ (h.pg p hp).2.lt (h.pg p hp).1, (h.pg p hp).2⟩
  inj := h.inj
  ok := h.ok
  Ad := hab _ h.blk.lt h.Ad
  Am := hab _ h.mp.lt h.Am
theorem SR.mono (h : SR A w d m) (hab : ∀ k, k < w.heap.size → A k → B k) : SR B w d m := by
  obtain ⟨mb, f, h⟩ := h
  exact ⟨mb, f, h.mono hab⟩
theorem SR.keep (h : SR A w d m) (hk : Keep S w w') (hS : ∀ k, A k → ¬ S k) (hA : ∀ k, A k → k < w.heap.size) : SR A w' d m := by
  obtain ⟨mb, f, h⟩ := h
  exact ⟨mb, f, h.keep hk hS hA⟩
end
/-- memory whose own memory lies in P -/
def Sp (P : Nat → Prop) (w : World) (d : Nat) (m : V) : Prop := SR (fun k => P k ∧ k < w.heap.size) w d m
theorem Sp.keep {P S : Nat → Prop} {w w' : World} {d : Nat} {m : V} (h : Sp P w d m) (hk : Keep S w w') (hS : ∀ k, P k → ¬ S k) : Sp P w' d m :=
  (SR.keep h hk (fun k hk => hS k hk.1) fun k hk => hk.2).mono fun _ hk ha => ⟨ha.1, hk⟩

theorem kU64 : Keyed Tryz.prog 22 := int_keyed Tryz.underlying22
theorem zPage (w : World) : (zeroValue 68).run Tryz.prog w = .ok (.pointer none) w := by kernel_rfl
theorem kOf {a : Nat} (h : a < 18446744073709551616) : keyOf Tryz.prog 22 (.int .u64 (a : Int)) = some (.int .u64 (a : Int)) := keyOf_int_mk Tryz.underlying22 (by
  simp [Lit.wf, IntKind.min, IntKind.max, IntKind.signed, IntKind.bits]; omega)
def atV (f : Nat → Nat) (m : V) (a : Nat) : Value := ((pageAt m a).map fun p => ptrTo (f p.addr)).getD (.pointer none)
theorem findL_VL (f : Nat → Nat) (m : V) (a : Nat) : findL (VL f m) (.int .u64 (a : Int)) = (pageAt m a).map fun p => ptrTo (f p.addr) := by
  unfold findL VL pageAt
  rw [List.find?_map, Option.map_map]
  congr 1
  have e : ((fun p : Lit × Value => p.1.sameKey (Lit.int .u64 (a : Int))) ∘ fun p : Pg => (Lit.int .u64 (p.addr : Int), ptrTo (f p.addr))) = fun p : Pg => p.addr == a := by
    funext p
    simp [Lit.sameKey]
    rw [Bool.eq_iff_iff]
    simp only [decide_eq_true_eq, beq_iff_eq]
    omega
  rw [e]

set_option maxHeartbeats 400000 in
theorem vbase_any (a : Nat) (h : a < 18446744073709551616) (w : World) : Calls Tryz.prog 41 #[.int .u64 (a : Int)] w fun e w' => e = .returned (.int .u64 ((pageOf a : Nat) : Int)) ∧ w = w' := by
  have e := andNot_255 a h
  go_enter Tryz.func41, Tryz.ntmps41
  go_wp2_with fail
  go_ret
  exact ⟨rfl, rfl⟩
set_option maxHeartbeats 1000000 in
theorem vmay_any (a s : Nat) (p : Int) (ha : a < 18446744073709551616) (hs : s < 18446744073709551616) (w : World) : Calls Tryz.prog 22 #[.int .u64 (a : Int), .int .u64 (s : Int), .int .i64 p] w fun e w' => e = .returned (.bool (may a s p)) ∧ w = w' := by
  go_enter Tryz.func22, Tryz.ntmps22
  go_wp2_with fail
  all_goals
    go_ret
    refine ⟨congrArg (fun b => Ending.returned (Value.bool b)) ?_, rfl⟩
    rw [Bool.eq_iff_iff]
    have ht : top = 4294967296 := rfl
    simp only [may, Bool.and_eq_true, decide_eq_true_eq, beq_iff_eq, Bool.false_eq_true, false_iff]
    omega
set_option maxRecDepth 100000 in
set_option maxHeartbeats 1000000 in
/-- something is done for each page of a span: R holds ahead of the k-th; Q is said of the first error -/
theorem veach_any {f : Nat} {c : Array Value} {w : World} (addr size : Nat) (R : Nat → World → Prop) (Q : Nat → World → Prop) (hs : 0 < size) (ha : addr ≤ top) (hz : size ≤ top - addr) (hent : ∀ a, Enters f (#[a] ++ c)) (h0 : R 0 w)
    (hstep : ∀ k w', k < pagesN addr size → R k w' → Calls Tryz.prog f (#[.int .u64 ((pageOf addr + 256 * k : Nat) : Int)] ++ c) w' fun e w'' => (e = .returned (.int .i64 0) ∧ R (k + 1) w'') ∨ ∃ er : Nat, er ≠ 0 ∧ e = .returned (.int .i64 (er : Int)) ∧ Q er w'') :
    Calls Tryz.prog 23 #[.int .u64 (addr : Int), .int .u64 (size : Int), .func (.func f) #[] c] w fun e w' => (e = .returned (.int .i64 0) ∧ R (pagesN addr size) w') ∨ ∃ er : Nat, er ≠ 0 ∧ e = .returned (.int .i64 (er : Int)) ∧ Q er w' := by
  unfold top at ha hz
  unfold Enters at hent
  have hpl := pageOf_le addr
  have HS := Lib.hid hstep
  clear hstep
  go_enter Tryz.func23, Tryz.ntmps23
  go_wp2_with fail
  refine (vbase_any addr (by omega) _).mono ?_
  rintro e x ⟨rfl, rfl⟩
  go_wp2_with fail
  go_loopw [7] (fun av wr => ∃ k : Nat, av = .int .u64 ((pageOf addr + 256 * k : Nat) : Int) ∧ k ≤ pagesN addr size ∧ R k wr) (fun av _ => pageOf addr + 256 * pagesN addr size - (intOf av).toNat)
  case atStart => exact ⟨0, rfl, Nat.zero_le _, h0⟩
  case round =>
    clear h0
    obtain ⟨k, rfl, hk, hR⟩ := hrel
    have hiff := pages_step addr size k hs
    have hb : pageOf addr + 256 * pagesN addr size ≤ 4294967296 := by unfold pageOf pagesN; omega
    rcases Nat.lt_or_ge k (pagesN addr size) with hkl | hkl
    · have hlt := hiff.2 hkl
      have hcall := HS.out k _ hkl hR
      have hstp : pageOf addr + 256 * k + 256 = pageOf addr + 256 * (k + 1) := by omega
      have hle1 : pageOf addr + 256 * (k + 1) ≤ 4294967296 := Nat.le_trans (by have := Nat.mul_le_mul_left 256 (Nat.succ_le_of_lt hkl); omega) hb
      have HC := Lib.hid hcall
      have hltz : ((pageOf addr + 256 * k : Nat) : Int) < (addr : Int) + (size : Int) := by omega
      have H1 := Lib.hid hstp
      clear hcall hiff hstp
      generalize pageOf addr + 256 * k = at_ at *
      go_wp2_with fail
      refine HC.out.mono ?_
      rintro e w2 (⟨rfl, hR2⟩ | ⟨er, hne, rfl, hQ⟩)
      · go_wp2_with fail
        go_roundw
        case rel => exact ⟨k + 1, by rw [← H1.out]; go_num, hkl, hR2⟩
        case measure => have := H1.out; simp [intOf]; omega
      · have hne' : ((er : Int) == 0) = false := by simpa using hne
        go_wp2_with fail
        go_ret
        exact .inr ⟨er, hne, rfl, hQ⟩
    · obtain rfl : k = pagesN addr size := Nat.le_antisymm hk hkl
      have hge : ((pageOf addr + 256 * pagesN addr size : Nat) : Int) ≥ (addr : Int) + (size : Int) := by
        have : ¬ pageOf addr + 256 * pagesN addr size < addr + size := fun h => absurd (hiff.1 h) (Nat.lt_irrefl _)
        omega
      clear hiff
      generalize pageOf addr + 256 * pagesN addr size = at_ at *
      go_wp2_with fail
      go_ret
      exact .inl ⟨rfl, hR⟩
end Go.Proofs.YtaoillfofiehpaaGreatDoor
namespace Go.Dm
open Go

section
variable {P : Program} {ops : Array Oper} {Q : Exit → Act → World → Prop} {md : Region.Mode} {S : World → Prop} {kb : Nat → Bool}

/-- Whatever order is picked from here on, and S behind each operation of kb. -/
def wpAnyK (P : Program) (md : Region.Mode) (ops : Array Oper) (Q : Exit → Act → World → Prop) (S : World → Prop) (kb : Nat → Bool) : Nat → Array Bool → Act → World → Prop
  | 0, listed, a, w => Region.ready md ops listed = [] ∧ Q .normal a w
  | fuel + 1, listed, a, w =>
    (Region.ready md ops listed = [] → Q .normal a w) ∧
    ∀ i ∈ Region.ready md ops listed, wpOp P ops Q i (fun a' w' => (kb i = true → S w') ∧ wpAnyK P md ops Q S kb fuel (listed.setIfInBounds i true) a' w') a w

theorem wpAny_of_K : ∀ (fuel : Nat) (listed : Array Bool) (a : Act) (w : World), wpAnyK P md ops Q S kb fuel listed a w → wpAny P md ops Q fuel listed a w
  | 0, _, _, _, h => h
  | fuel + 1, _, _, _, h => ⟨h.1, fun i hi => wpOp_mono (fun a' w' h' => wpAny_of_K fuel _ a' w' h'.2) (h.2 i hi)⟩

/-- does number j wait for number i, at once or through others? -/
def reach (md : Region.Mode) (ops : Array Oper) : Nat → Nat → Nat → Bool
  | 0, _, _ => false
  | f + 1, j, i => match ops[j]? with
    | none => false
    | some oj => oj.after.any fun e => Region.binds md e && (e.on == i || reach md ops f e.on i)
def Closed (md : Region.Mode) (ops : Array Oper) (listed : Array Bool) : Prop :=
  ∀ (k : Nat) (ok : Oper), ops[k]? = some ok → listed.getD k false = true → ∀ e ∈ ok.after, Region.binds md e = true → listed.getD e.on false = true
theorem reach_listed {listed : Array Bool} (hc : Closed md ops listed) {i : Nat} : ∀ (f j : Nat) (oj : Oper), ops[j]? = some oj → (∀ e ∈ oj.after, Region.binds md e = true → listed.getD e.on false = true) → reach md ops f j i = true → listed.getD i false = true
  | 0, _, _, _, _, h => by simp [reach] at h
  | f + 1, j, oj, hj, ha, h => by
    simp only [reach, hj] at h
    obtain ⟨e, he, hb⟩ := Array.any_eq_true'.1 h
    simp only [Bool.and_eq_true, Bool.or_eq_true, beq_iff_eq] at hb
    obtain ⟨hb, h1 | h1⟩ := hb
    · rw [← h1]; exact ha e he hb
    · cases hk : ops[e.on]? with
      | none => cases f with
        | zero => simp [reach] at h1
        | succ f => simp [reach, hk] at h1
      | some ok => exact reach_listed hc f e.on ok hk (hc e.on ok hk (ha e he hb)) h1
theorem getD_set_same {listed : Array Bool} {i : Nat} (h : i < listed.size) : (listed.setIfInBounds i true).getD i false = true := by simp [h]
theorem Closed.step {listed : Array Bool} (hc : Closed md ops listed) {i : Nat} (hr : i ∈ Region.ready md ops listed) : Closed md ops (listed.setIfInBounds i true) := by
  have hmono : ∀ k, listed.getD k false = true → (listed.setIfInBounds i true).getD k false = true := by
    intro k hk
    by_cases e : i = k
    · subst e
      refine getD_set_same ?_
      rcases Nat.lt_or_ge i listed.size with h | h
      · exact h
      · simp [Array.getElem?_eq_none h] at hk
    · rw [getD_set_ne false e]; exact hk
  intro k ok hk hl e he hb
  by_cases ek : i = k
  · subst ek
    obtain ⟨_, oj, hoj, hall⟩ := mem_ready.1 hr
    rw [hk] at hoj; cases hoj
    exact hmono _ (hall e he hb)
  · rw [getD_set_ne false ek] at hl
    exact hmono _ (hc k ok hk hl e he hb)

theorem wpAnyK_first {i : Nat} {oi : Oper} {v : Value} (hi : ops[i]? = some oi) (hsel : ∀ (j : Nat) (o : Oper) cs b, ops[j]? = some o → o.op ≠ .select cs b)
    (hQ : ∀ c a w, Q (.panic c) (a.put oi.dst v) w → Q (.panic c) a w) :
    ∀ (fuel : Nat) (listed : Array Bool) (a : Act) (w : World),
      (∀ j oj, ops[j]? = some oj → j ≠ i → listed.getD j true = false → reach md ops ops.size j i = false → oi.apart ops oj = true ∧ kb j = true) →
      Closed md ops listed → i ∈ Region.ready md ops listed → YieldsIf P ops S oi v a → S w →
      wpAnyK P md ops Q S kb fuel (listed.setIfInBounds i true) (a.put oi.dst v) w → wpAnyK P md ops Q S kb (fuel + 1) listed a w := by
  intro fuel
  induction fuel with
  | zero =>
    intro listed a w _ _ hr hy hS H
    refine ⟨fun h => (by rw [h] at hr; cases hr), fun j hj => ?_⟩
    by_cases hji : j = i
    · subst hji; exact hy.wpOp hi hS ⟨fun _ => hS, H⟩
    · have := ready_mono hj hji
      rw [H.1] at this
      cases this
  | succ fuel ih =>
    intro listed a w hfree hcl hr hy hS H
    refine ⟨fun h => (by rw [h] at hr; cases hr), fun j hj => ?_⟩
    by_cases hji : j = i
    · subst hji; exact hy.wpOp hi hS ⟨fun _ => hS, H⟩
    · have h1 := H.2 j (ready_mono hj hji)
      obtain ⟨hjun, oj, hoj, hall⟩ := mem_ready.1 hj
      have hnot : reach md ops ops.size j i = false := by
        cases hq : reach md ops ops.size j i with
        | false => rfl
        | true =>
          have h1 := reach_listed hcl _ j oj hoj hall hq
          have h0 := (mem_ready.1 hr).1
          rcases Nat.lt_or_ge i listed.size with h' | h'
          · simp [h'] at h0 h1; rw [h0] at h1; cases h1
          · simp [Array.getElem?_eq_none h'] at h1
      obtain ⟨hap, hkb⟩ := hfree j oj hoj hji hjun hnot
      have h2 := wpOp_putIf hoj hap (fun cs b => hsel i oi cs b hi) (fun cs b => hsel j oj cs b hoj) hQ hy h1
      have hfree' : ∀ k ok, ops[k]? = some ok → k ≠ i → (listed.setIfInBounds j true).getD k true = false →
          reach md ops ops.size k i = false → oi.apart ops ok = true ∧ kb k = true := fun k ok hk hki hun hno => by
        refine hfree k ok hk hki ?_ hno
        by_cases hjk : j = k
        · subst hjk; exact hjun
        · rw [getD_set_ne true hjk] at hun; exact hun
      refine wpOp_mono (fun a' w' h3 => ⟨h3.2.1, ih (listed.setIfInBounds j true) a' w' hfree' (hcl.step hj) (ready_mono hr (Ne.symm hji)) h3.1 (h3.2.1 hkb) ?_⟩) h2
      rw [Array.setIfInBounds_comm _ _ hji]
      exact h3.2.2

/-- does it wait for number i at once? -/
def direct (md : Region.Mode) (oj : Oper) (i : Nat) : Bool := oj.after.any fun e => e.on == i && Region.binds md e
theorem direct_reach {i j f : Nat} {oj : Oper} (hj : ops[j]? = some oj) (h : direct md oj i = true) : reach md ops (f + 1) j i = true := by
  obtain ⟨e, he, hb⟩ := Array.any_eq_true'.1 h
  simp only [reach, hj]
  refine Array.any_eq_true'.2 ⟨e, he, ?_⟩
  simp only [Bool.and_eq_true] at hb
  rw [hb.2, hb.1]
  rfl
/-- may number i be taken first? -/
def freeK (md : Region.Mode) (ops : Array Oper) (kb : Nat → Bool) (listed : Array Bool) (i : Nat) : Bool :=
  match ops[i]? with
  | none => false
  | some oi => (List.range ops.size).all fun j => j == i || listed.getD j true || match ops[j]? with
      | some oj => (oi.apart ops oj && kb j) || direct md oj i || reach md ops ops.size j i
      | none => true

theorem freeK_spec {i : Nat} {oi : Oper} {listed : Array Bool} (hi : ops[i]? = some oi) (h : freeK md ops kb listed i = true) (j : Nat) (oj : Oper)
    (hj : ops[j]? = some oj) (hne : j ≠ i) (hun : listed.getD j true = false) (hno : reach md ops ops.size j i = false) :
    oi.apart ops oj = true ∧ kb j = true := by
  simp only [freeK, hi, List.all_eq_true, List.mem_range] at h
  have h1 := h j (Array.getElem?_eq_some_iff.1 hj).1
  simp only [hj, Bool.or_eq_true, beq_iff_eq, hne, false_or, hun, Bool.false_eq_true] at h1
  rw [hno] at h1
  have hsz := (Array.getElem?_eq_some_iff.1 hj).1
  have hd : direct md oj i = false := by
    cases hd : direct md oj i with
    | false => rfl
    | true =>
      obtain ⟨f, hf⟩ : ∃ f, ops.size = f + 1 := ⟨ops.size - 1, by omega⟩
      rw [hf, direct_reach hj hd] at hno
      cases hno
  rw [hd] at h1
  simpa using h1

/-- The given order: (number, does it yield the same in every world of S?). -/
def sigB (md : Region.Mode) (ops : Array Oper) (kb : Nat → Bool) : List (Nat × Bool) → Array Bool → Bool → Bool
  | [], listed, _ => (Region.ready md ops listed).isEmpty
  | (i, true) :: r, listed, s => s && (Region.ready md ops listed).contains i && freeK md ops kb listed i && sigB md ops kb r (listed.setIfInBounds i true) s
  | (i, false) :: r, listed, s => (Region.ready md ops listed == [i]) && sigB md ops kb r (listed.setIfInBounds i true) (s && kb i)

/-- The walk in that order. -/
def wpSig (P : Program) (ops : Array Oper) (Q : Exit → Act → World → Prop) (S : World → Prop) (kb : Nat → Bool) : List (Nat × Bool) → Act → World → Prop
  | [], a, w => Q .normal a w
  | (i, true) :: r, a, w => ∃ o v, ops[i]? = some o ∧ YieldsIf P ops S o v a ∧ wpSig P ops Q S kb r (a.put o.dst v) w
  | (i, false) :: r, a, w => wpOp P ops Q i (fun a' w' => (kb i = true → S w') ∧ wpSig P ops Q S kb r a' w') a w

theorem wpSig_sound (hs : Region.noSelect ops = true) (hQ : ∀ c a d v w, Q (.panic c) (a.put d v) w → Q (.panic c) a w) :
    ∀ (l : List (Nat × Bool)) (listed : Array Bool) (s : Bool) (a : Act) (w : World), sigB md ops kb l listed s = true → Closed md ops listed → (s = true → S w) → wpSig P ops Q S kb l a w → wpAnyK P md ops Q S kb l.length listed a w
  | [], listed, s, a, w, h, _, _, hq => by
    have : Region.ready md ops listed = [] := by simpa [sigB] using h
    exact ⟨this, hq⟩
  | (i, true) :: r, listed, s, a, w, h, hcl, hS, ⟨o, v, ho, hy, hq⟩ => by
    simp only [sigB, Bool.and_eq_true] at h
    obtain ⟨⟨⟨h1, h2⟩, h3⟩, h4⟩ := h
    exact wpAnyK_first ho (Region.noSelect_spec hs) (fun c a w => hQ c a _ _ w) r.length listed a w (freeK_spec ho h3) hcl (by simpa using h2) hy (hS h1)
      (wpSig_sound hs hQ r _ s _ w h4 (hcl.step (by simpa using h2)) hS hq)
  | (i, false) :: r, listed, s, a, w, h, hcl, hS, hq => by
    simp only [sigB, Bool.and_eq_true, beq_iff_eq] at h
    refine ⟨fun h0 => (by rw [h.1] at h0; cases h0), fun j hj => ?_⟩
    rw [h.1] at hj
    obtain rfl : j = i := by simpa using hj
    exact wpOp_mono (fun a' w' h' => ⟨h'.1, wpSig_sound hs hQ r _ (s && kb j) a' w' h.2 (hcl.step (by rw [h.1]; simp)) (fun hsk => h'.1 (Bool.and_eq_true_iff.1 hsk).2) h'.2⟩) hq

/-- The beginning. -/
theorem wp_region_sig {id : Nat} {a : Act} {w : World} (S : World → Prop) (kb : Nat → Bool) (l : List (Nat × Bool)) {o : List Oper} (hm : P.follows .mixedOrders = true)
    (hB : (Region.noSelect o.toArray && sigB .any o.toArray kb l (Array.replicate o.toArray.size false) true && (l.length == o.toArray.size)) = true)
    (hQ : ∀ c a d v w, Q (.panic c) (a.put d v) w → Q (.panic c) a w) (hS : S w.drew)
    (h : wpSig P o.toArray Q S kb l a w.drew) : (Code.region id o.toArray true).wp P Q a w := by
  simp only [Bool.and_eq_true, beq_iff_eq] at hB
  refine wp_region_any hm (wpAny_of_K (S := S) (kb := kb) _ _ _ _ ?_)
  have h2 := wpSig_sound (md := .any) hB.1.1 hQ l _ true a _ hB.1.2 (fun k ok _ hl => by rw [Array.getD_eq_getD_getElem?, Array.getElem?_replicate] at hl; split at hl <;> cases hl) (fun _ => hS) h
  rw [hB.2] at h2
  exact h2

theorem sig_nil {a : Act} {w : World} (h : Q .normal a w) : wpSig P ops Q S kb [] a w := h
theorem sig_still {i : Nat} {r : List (Nat × Bool)} {a : Act} {w : World} {o : Oper} {v : Value} (ho : ops[i]? = some o) (hg : o.guard = none)
    (hy : ∀ w', S w' → (execOp a.eval o).run P w' = .ok (.value v) w') (h : wpSig P ops Q S kb r (a.put o.dst v) w) : wpSig P ops Q S kb ((i, true) :: r) a w :=
  ⟨o, v, ho, .inl ⟨by simp [Region.wanted, hg], hy⟩, h⟩
theorem sig_guard {i : Nat} {r : List (Nat × Bool)} {a : Act} {w : World} {o : Oper} {v : Value} (ho : ops[i]? = some o) (hg : Region.wanted o (yielded ops a.tmps) = true)
    (hy : ∀ w', S w' → (execOp a.eval o).run P w' = .ok (.value v) w') (h : wpSig P ops Q S kb r (a.put o.dst v) w) : wpSig P ops Q S kb ((i, true) :: r) a w :=
  ⟨o, v, ho, .inl ⟨hg, hy⟩, h⟩
theorem sig_skip {i : Nat} {r : List (Nat × Bool)} {a : Act} {w : World} {o : Oper} (ho : ops[i]? = some o) (hg : Region.wanted o (yielded ops a.tmps) = false)
    (h : wpSig P ops Q S kb r (a.put o.dst undef) w) : wpSig P ops Q S kb ((i, true) :: r) a w :=
  ⟨o, undef, ho, .inr ⟨hg, rfl⟩, h⟩
theorem sig_eff {i : Nat} {r : List (Nat × Bool)} {a : Act} {w : World} {o : Oper} (ho : ops[i]? = some o) (hg : o.guard = none)
    (h : ∀ K : Act → World → Prop, (∀ a' w', ((kb i = true → S w') ∧ wpSig P ops Q S kb r a' w') → K a' w') → o.wp P a w K Q) : wpSig P ops Q S kb ((i, false) :: r) a w := by
  show wpOp _ _ _ _ _ _ _
  unfold wpOp
  simp only [ho, Region.wanted, hg, if_true]
  exact .inl (h _ fun _ _ h => h)

theorem sig_effg {i : Nat} {r : List (Nat × Bool)} {a : Act} {w : World} {o : Oper} (ho : ops[i]? = some o) (hg : Region.wanted o (yielded ops a.tmps) = true)
    (h : ∀ K : Act → World → Prop, (∀ a' w', ((kb i = true → S w') ∧ wpSig P ops Q S kb r a' w') → K a' w') → o.wp P a w K Q) : wpSig P ops Q S kb ((i, false) :: r) a w := by
  show wpOp _ _ _ _ _ _ _
  unfold wpOp
  simp only [ho, hg, if_true]
  exact .inl (h _ fun _ _ h => h)
theorem wo_append {o : Oper} {a : Act} {w : World} {K : Act → World → Prop} (x y : Operand) (t1 t2 : TypeId) (ho : o.op = .call { callee := .builtin .append, args := #[x, y], argTypes := #[t1, t2] })
    (v1 v2 : Value) (h1 : a.eval x = v1) (h2 : a.eval y = v2) (h : AppendGoal P t1 t2 o.type v1 v2 w fun v w' => K (a.put o.dst v) w') : o.wp P a w K Q := by
  obtain ⟨v, w', hr, hk⟩ := h
  unfold Oper.wp execOp
  simp only [ho, resolve, invoke, builtin, Sem.run_bind, Sem.run_pure, Result.andThen_ok, List.map_toArray, List.map_cons, List.map_nil, h1, h2, hr]
  exact hk
end
end Go.Dm
namespace Go.Dm
open Go Go.RowKit

/-- x & b, for numbers b of few bits -/
def mask (x : Int) (b : Nat) : Nat := (BitVec.ofInt 64 x).toNat &&& b
theorem mask_le (x : Int) (b : Nat) : mask x b ≤ b := Nat.and_le_right
theorem mask_eq (x : Int) (b : Nat) (hb : b < 4294967296) : bits .and .i64 x (b : Int) = (mask x b : Int) := by
  have h2 : (BitVec.ofInt 64 (b : Int)).toNat = b := by
    rw [BitVec.ofInt_natCast, BitVec.toNat_ofNat]; exact Nat.mod_eq_of_lt (by omega)
  have hx := mask_le x b
  unfold mask at hx
  show IntKind.i64.wrap ((BitVec.ofInt 64 x &&& BitVec.ofInt 64 (b : Int)).toNat : Int) = _
  rw [BitVec.toNat_and, h2, IntKind.wrap_i64]
  unfold mask
  omega
end Go.Dm
