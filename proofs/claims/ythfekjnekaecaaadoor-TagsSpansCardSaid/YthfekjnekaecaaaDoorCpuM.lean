/- Slices of flat elements: read at an index, pushed to, put one behind the other. read, write: the bytes of spans. Numbers in bytes, the lowest first: plain laws, no program in sight. Memory in pages as lists: what Map, Unmap, Protect, Store, Copy make of it, and that it stays well formed. A processor's step as plain functions: no program in sight (the document's chapters 12 and 14). No condition. -/
import Derived.Test.YthfekjnekaecaaaDoorRd
import Derived.Laws.Tables
import Derived.Laws.Rows
import Derived.Laws.ResultCell
import Derived.Laws.MakeOwn
import Derived.Test.YthfekjnekaecaaaDoorVmM
import Derived.Laws.BitsAllLaws
set_option linter.unusedVariables false
set_option linter.unusedSimpArgs false
namespace Go.Dm
open Go Go.RowKit

/-- a slice whose elements x are the cells enc x -/
def Fl {α : Type} (A : Nat → Prop) (w : World) (k : Nat) (enc : α → List Value) (v : Value) (l : List α) : Prop := Sl A w k v l.length (l.flatMap enc)
/-- the same in a row of one's own -/
def FlO {α : Type} (w : World) (base : Nat) (e : TypeId) (k : Nat) (enc : α → List Value) (v : Value) (l : List α) : Prop := w.ownsRow base e k v l.length (l.flatMap enc)

section
variable {α : Type} {A : Nat → Prop} {w : World} {k : Nat} {enc : α → List Value} {v : Value} {l : List α}
theorem Fl.keep {S : Nat → Prop} {w' : World} (h : Fl A w k enc v l) (hk : Keep S w w') (hS : ∀ j, j < w.heap.size → A j → ¬ S j) : Fl A w' k enc v l := Sl.keep h hk hS
theorem Fl.no {w' : World} (h : Fl A w k enc v l) (hk : Keep No w w') : Fl A w' k enc v l := Sl.keep h hk fun _ _ _ h => h
theorem Fl.mono {B : Nat → Prop} (h : Fl A w k enc v l) (hab : ∀ j, j < w.heap.size → A j → B j) : Fl B w k enc v l := Sl.mono h hab
theorem Fl.shape (h : Fl A w k enc v l) : ∃ a cap, v = .slice a l.length cap ∧ l.length ≤ cap ∧ cap ≤ maxLen := Sl.shape h
theorem Fl.nil : Fl A w k enc (.slice none 0 0) [] := Sl.nil _ _ _
theorem Fl.at (h : Fl A w k enc v l) (hk : ∀ x, (enc x).length = k) {i : Nat} (hi : i < l.length) :
    ∃ g off cap, v = .slice (some ⟨g, off, none⟩) l.length cap ∧ A g ∧ g < w.heap.size ∧ l.length ≤ cap ∧ cap ≤ maxLen ∧ ∀ r u, (enc l[i])[r]? = some u → w.cell? ⟨g, off + i * k + r, none⟩ = some u := by
  obtain ⟨g, off, cap, e, ha, hg, hc, hm, hr⟩ := Sl.at h (by omega)
  refine ⟨g, off, cap, e, ha, hg, hc, hm, fun r u hu => ?_⟩
  have hel : ∀ c ∈ l.map enc, c.length = k := by
    intro c hc
    obtain ⟨x, _, rfl⟩ := List.mem_map.1 hc
    exact hk x
  have hrk : r < k := by rw [← hk l[i]]; exact (List.getElem?_eq_some_iff.1 hu).1
  rw [Nat.add_assoc]
  refine hr _ _ ?_
  rw [List.flatMap_def, flatten_get hel i r hrk, List.getElem?_map, List.getElem?_eq_getElem hi]
  exact hu
variable {base : Nat} {e : TypeId}
theorem FlO.fl (h : FlO w base e k enc v l) : Fl (fun j => base ≤ j ∧ j < w.heap.size) w k enc v l := Sl.mono (Sl.of_own h) fun j hj ha => ⟨ha.1, hj⟩
theorem FlO.flO (h : FlO w base e k enc v l) : Fl (fun j => base ≤ j ∧ some j = v.ownBlock) w k enc v l := Sl.of_own h
theorem FlO.same {w' : World} (h : FlO w base e k enc v l) (hs : ∀ g, v.ownBlock = some g → w'.heap[g]? = w.heap[g]?) : FlO w' base e k enc v l := by
  refine ⟨h.1, h.2.imp id ?_⟩
  rintro ⟨g, cap, cur, rfl, a, b, r⟩
  exact ⟨g, cap, cur, rfl, a, (hs g rfl).trans b, r⟩
theorem FlO.no {w' : World} (h : FlO w base e k enc v l) (hk : Keep No w w') : FlO w' base e k enc v l := h.same fun g hg => hk.block g (World.ownsRow.lt h g hg).2 fun h => h
theorem FlO.nil : FlO w base e k enc (.slice none 0 0) [] := World.ownsRow_nil _ _ _ _
/-- what is written into a row of one's own is nobody else's -/
theorem Keep.own {w0 w' : World} {n : Nat} {xs : List Value} (hK : Keep No w0 w) (ho : w.ownsRow w0.heap.size e k v n xs) (hk : Keep (fun j => some j = v.ownBlock) w w') : Keep No w0 w' :=
  hK.trans hk fun j hj h => absurd (ho.lt j h.symm).1 (Nat.not_le.2 hj)

theorem Keep.new {w w1 : World} (h : Keep No w w1) {p : Addr} (hp : w.heap.size ≤ p.block) (u : Value) : Keep No w (w1.setCell p u) := h.setCell (fun hl => absurd hl (Nat.not_lt.2 hp)) u
theorem Blk.own {w w' : World} {b base : Nat} {cs : Array Value} {t e : TypeId} {k n : Nat} {v : Value} {xs : List Value} (h : Blk w b cs t) (ho : w.ownsRow base e k v n xs) (hk : Keep (fun j => some j = v.ownBlock) w w') (hb : b < base) : Blk w' b cs t :=
  h.keep hk fun e => absurd (ho.lt b e.symm).1 (Nat.not_le.2 hb)

variable {P : Program}
/-- append(v, x) -/
theorem rg_push (z : Value) (bytes : Nat) {t ty : TypeId} (ht : P.underlying t = some (.slice e)) (hi : (P.info? e).map (fun i => (i.zero, i.size, i.bytes)) = some (some z, k, bytes)) (hzs : z.cells.size = k) (hk0 : 0 < k)
    {x : α} {cs : Array Value} (hcs : cs.toList = enc x) (hx : (enc x).length = k) (hone : ∀ u ∈ enc x, u.oneCell' = true) (ho : FlO w base e k enc v l) (hlen : l.length + 1 ≤ 1099511627776) (hb : bytes ≤ 128) (hbase : base ≤ w.heap.size) {K : Value → World → Prop}
    (h : ∀ v' w', FlO w' base e k enc v' (l ++ [x]) → Keep (fun j => some j = v.ownBlock) w w' → (v'.ownBlock = v.ownBlock ∨ v'.ownBlock = some (w.heap.size + 1)) → K v' w') : AppendGoal P t t ty v (.slice (some ⟨w.heap.size, 0, none⟩) 1 1) (w.alloc (.cells cs e)) K := by
  have hs : Sl (fun j => j = w.heap.size) (w.alloc (.cells cs e)) k (.slice (some ⟨w.heap.size, 0, none⟩) 1 1) 1 (enc x) := by
    rw [← hcs]
    exact Sl.new w cs e (by rw [← Array.length_toList, hcs, hx, Nat.one_mul]) (by unfold maxLen; omega)
  have hbb : (l.length + 1) * bytes ≤ 140737488355328 := Nat.le_trans (Nat.mul_le_mul hlen hb) (by decide)
  refine rg_append base e z k bytes ht hi hzs hk0 (ho.alloc _) hs hone (by unfold maxLen; omega) hbb (by rw [World.size_alloc]; omega) ?_
  intro v' w' ho' hk' _ hn
  refine h v' w' ?_ (((Keep.refl _ w).alloc _).trans' hk') ?_
  · unfold FlO
    rw [List.length_append, List.flatMap_append]
    simpa using ho'
  · rw [World.size_alloc] at hn; exact hn
/-- append(v, vs...) -/
theorem rg_cat (z : Value) (bytes : Nat) {t ty : TypeId} (ht : P.underlying t = some (.slice e)) (hi : (P.info? e).map (fun i => (i.zero, i.size, i.bytes)) = some (some z, k, bytes)) (hzs : z.cells.size = k) (hk0 : 0 < k)
    {vs : Value} {m : List α} (hs : Fl A w k enc vs m) (hone : ∀ x, ∀ u ∈ enc x, u.oneCell' = true) (ho : FlO w base e k enc v l) (hlen : l.length + m.length ≤ 1099511627776) (hb : bytes ≤ 128) (hbase : base ≤ w.heap.size) {K : Value → World → Prop}
    (h : ∀ v' w', FlO w' base e k enc v' (l ++ m) → Keep (fun j => some j = v.ownBlock) w w' → (v'.ownBlock = v.ownBlock ∨ v'.ownBlock = some w.heap.size) → K v' w') : AppendGoal P t t ty v vs w K := by
  have hbb : (l.length + m.length) * bytes ≤ 140737488355328 := Nat.le_trans (Nat.mul_le_mul hlen hb) (by decide)
  refine rg_append base e z k bytes ht hi hzs hk0 ho hs (fun u hu => ?_) (by unfold maxLen; omega) hbb hbase ?_
  · obtain ⟨x, _, hx⟩ := List.mem_flatMap.1 hu
    exact hone x u hx
  · intro v' w' ho' hk' _ hn
    refine h v' w' ?_ hk' hn
    unfold FlO
    rw [List.length_append, List.flatMap_append]
    exact ho'
end

/-! a whole struct is stored; a struct is the result -/
def StAggGoal (P : Program) (ty : TypeId) (g : Nat) (cells : Array Value) (w : World) (K : World → Prop) : Prop := RunGoal P (Instr.storeAt ty (.pointer (some ⟨g, 0, none⟩)) (.agg cells)) w fun _ w' => K w'
section
variable {P : Program} {w : World}
theorem wl_stAgg {ops : Array Oper} {rest : List Oper} {o : Oper} {a : Act} {Q : Exit → Act → World → Prop} (hgd : o.guard = none) (x y : Operand) (ty : TypeId) (ho : o.op = Op.store ty x y) (g : Nat) (cells : Array Value)
    (h1 : a.eval x = .pointer (some ⟨g, 0, none⟩)) (h2 : a.eval y = .agg cells) (h : StAggGoal P ty g cells w fun w' => wpList P ops Q rest (a.put o.dst undef) w') : wpList P ops Q (o :: rest) a w := by
  obtain ⟨v, w', hr, hk⟩ := h
  refine wpList_plain hgd fun K hK => ?_
  unfold Oper.wp execOp
  simp only [ho, h1, h2, hr, Sem.run_bind, Sem.run_pure, Result.andThen_ok]
  exact hK _ _ hk
theorem wo_stAgg {o : Oper} {a : Act} {Q : Exit → Act → World → Prop} {K : Act → World → Prop} (x y : Operand) (ty : TypeId) (ho : o.op = Op.store ty x y) (g : Nat) (cells : Array Value)
    (h1 : a.eval x = .pointer (some ⟨g, 0, none⟩)) (h2 : a.eval y = .agg cells) (h : StAggGoal P ty g cells w fun w' => K (a.put o.dst undef) w') : o.wp P a w K Q := by
  obtain ⟨v, w', hr, hk⟩ := h
  unfold Oper.wp execOp
  simp only [ho, h1, h2, hr, Sem.run_bind, Sem.run_pure, Result.andThen_ok]
  exact hk
theorem rg_stAgg {g : Nat} {old cells : Array Value} {t ty : TypeId} (hB : Blk w g old t) (hi : (P.info? ty).map (·.size) = some cells.size) (hold : old.size = cells.size) (h1 : cells.all (·.oneCell') = true) {K : World → Prop}
    (h : ∀ w', Blk w' g cells t → Keep (fun j => j = g) w w' → w'.heap.size = w.heap.size → K w') : StAggGoal P ty g cells w K := by
  refine .mk (v := ()) (w' := w.setRow g cells) ?_ (h _ (setRow_heap w g old cells t _ hB) ⟨rfl, rfl, rfl, by simp, fun k _ hk => setRow_other w g k cells hk⟩ (by simp))
  simp only [Instr.storeAt, Instr.sureAddr, Sem.run_bind, Sem.run_pure, Result.andThen_ok, run_storeVar_row w g t ty old cells hB hi hold h1]
/-- the result lies in block g -/
theorem ret_blk {fn : Func} {R : Ending → World → Prop} {a : Act} {p : Tmp} {ty t : TypeId} {g : Nat} {cs : Array Value} {d : TypeDesc} (h : fn.results = #[.cell p ty]) (hp : a.tmps.getD p undef = .pointer (some ⟨g, 0, none⟩)) (hB : Blk w g cs t) (hu : P.underlying ty = some d)
    (hd : (match d with | .struct _ | .array _ _ => true | _ => false) = true) (hi : (P.info? ty).map (·.size) = some cs.size) (hdf : a.defers = []) (hR : R (.returned (.agg cs)) w) : bodyPost P fn R .ret a w :=
  bodyPost_ret (results_cell_row h a.tmps w g t cs _ d hp hB hu hd hi) hdf hR
theorem ret_blk_tmp {fn : Func} {R : Ending → World → Prop} {a : Act} {p u : Tmp} {ty t : TypeId} {g : Nat} {cs : Array Value} {d : TypeDesc} (h : fn.results = #[.cell p ty, .tmp u]) (hp : a.tmps.getD p undef = .pointer (some ⟨g, 0, none⟩)) (hB : Blk w g cs t) (hu : P.underlying ty = some d)
    (hd : (match d with | .struct _ | .array _ _ => true | _ => false) = true) (hi : (P.info? ty).map (·.size) = some cs.size) (hdf : a.defers = []) (hR : R (.returned (.tuple #[.agg cs, a.tmps.getD u undef])) w) : bodyPost P fn R .ret a w :=
  bodyPost_ret (by rw [results_cell_tmp h, hp]; simp [asAddr, run_loadVar_row w g t ty cs _ d hB hu hd hi, Result.andThen]) hdf hR
end
end Go.Dm
namespace Go.Dm.Vm
open Go
def byteAt (m : V) (a : Nat) : UInt8 := match pageAt m (pageOf a) with | some p => p.b.getD (a % 256) 0 | none => 0
def readB (m : V) (addr size : Nat) : List UInt8 := (List.range size).map fun i => byteAt m (addr + i)
def setB (m : V) (a : Nat) (c : UInt8) : V := m.map fun p => if p.addr = pageOf a then { p with b := p.b.set (a % 256) c } else p
def writeB : V → Nat → List UInt8 → V
  | m, _, [] => m
  | m, a, c :: r => writeB (setB m a c) (a + 1) r
theorem readB_len (m : V) (a n : Nat) : (readB m a n).length = n := by simp [readB]
theorem pageAt_map {m : V} {g : Pg → Pg} (hg : ∀ p, (g p).addr = p.addr) (x : Nat) : pageAt (m.map g) x = (pageAt m x).map g := by
  unfold pageAt
  rw [List.find?_map]
  have e : ((fun p : Pg => p.addr == x) ∘ g) = fun p : Pg => p.addr == x := by funext p; simp [hg]
  rw [e]
theorem setB_addr (a : Nat) (c : UInt8) (p : Pg) : (if p.addr = pageOf a then { p with b := p.b.set (a % 256) c } else p : Pg).addr = p.addr := by split <;> rfl
theorem pageAt_setB (m : V) (a : Nat) (c : UInt8) (x : Nat) : pageAt (setB m a c) x = (pageAt m x).map fun p => if p.addr = pageOf a then { p with b := p.b.set (a % 256) c } else p := pageAt_map (setB_addr a c) x
theorem setB_ok {m : V} (h : Ok m) (a : Nat) (c : UInt8) : Ok (setB m a c) := by
  refine ⟨?_, fun p hp => ?_, by unfold setB; rw [List.length_map]; exact h.len⟩
  · unfold setB
    rw [List.pairwise_map]
    exact h.srt.imp fun hlt => by rw [setB_addr, setB_addr]; exact hlt
  · obtain ⟨q, hq, rfl⟩ := List.mem_map.1 hp
    have h1 := h.pg q hq
    split
    · exact ⟨h1.al, h1.lt, h1.pr, by simp only [List.length_set]; exact h1.bl, h1.ol, h1.fl⟩
    · exact h1
theorem writeB_snoc (m : V) (a : Nat) (b : List UInt8) (c : UInt8) : writeB m a (b ++ [c]) = setB (writeB m a b) (a + b.length) c := by
  induction b generalizing m a with
  | nil => rfl
  | cons d r ih =>
    show writeB (setB m a d) (a + 1) (r ++ [c]) = _
    rw [ih]
    show setB (writeB (setB m a d) (a + 1) r) (a + 1 + r.length) c = setB (writeB (setB m a d) (a + 1) r) (a + (r.length + 1)) c
    rw [show a + 1 + r.length = a + (r.length + 1) by omega]
theorem there_setB (m : V) (a : Nat) (c : UInt8) (x n : Nat) : there (setB m a c) x n = there m x n := by
  unfold there
  congr 1
  funext y
  rw [pageAt_setB, Option.isSome_map]
theorem writeB_ok {m : V} (h : Ok m) (a : Nat) (b : List UInt8) : Ok (writeB m a b) := by
  induction b generalizing m a with
  | nil => exact h
  | cons c r ih => exact ih (setB_ok h a c) (a + 1)
theorem there_writeB (m : V) (a : Nat) (b : List UInt8) (x n : Nat) : there (writeB m a b) x n = there m x n := by
  induction b generalizing m a with
  | nil => rfl
  | cons c r ih => exact (ih (setB m a c) (a + 1)).trans (there_setB m a c x n)
/-- where a span is there each of its bytes has a page -/
theorem there_at {m : V} {addr size : Nat} (h : there m addr size = true) {i : Nat} (hi : i < size) : ∃ p, pageAt m (pageOf (addr + i)) = some p := by
  unfold there pagesOf at h
  rw [List.all_eq_true] at h
  have hk : (addr % 256 + i) / 256 < pagesN addr size := by unfold pagesN; omega
  have e : pageOf (addr + i) = pageOf addr + 256 * ((addr % 256 + i) / 256) := by unfold pageOf; omega
  have h1 := h _ (List.mem_map.2 ⟨_, List.mem_range.2 hk, rfl⟩)
  rw [← e] at h1
  exact Option.isSome_iff_exists.1 h1
end Go.Dm.Vm
namespace Go.Proofs.YthfekjnekaecaaaDoor
open Go.RowKit Go.Dm Go.Dm.Vm Go.Maps

theorem info_u8 : (Tryd.prog.info? 5).map (fun i => (i.zero, i.size, i.bytes)) = some (some (.int .u8 0), 1, 1) := by kernel_rfl
def encB8 (b : UInt8) : List Value := [bv b]
theorem encB8_map (l : List UInt8) : l.flatMap encB8 = l.map bv := List.map_eq_flatMap.symm
theorem b8_one (b : UInt8) : ∀ u ∈ encB8 b, u.oneCell' = true := by
  intro u hu; simp only [encB8, List.mem_singleton] at hu; subst hu; rfl
section
variable {A : Nat → Prop} {w : World} {d mb : Nat} {f : Nat → Nat} {m : V}
theorem SRep.lk (h : SRep A w d m mb f) {a : Nat} {p : Pg} (ha : a < 18446744073709551616) (hg : pageAt m a = some p) (W : World) (hW : W.heap = w.heap) :
    (Instr.lookup 118 (.map (some mb)) (.int .u64 (a : Int)) false).run Tryd.prog W = .ok (.pointer (some ⟨f p.addr, 0, none⟩)) W := by
  have h1 := (h.mp.same (w' := W) (by rw [hW])).lookup kU64 Tryd.underlying118 (zPage W) (kOf ha)
  rw [findL_VL, hg] at h1
  exact h1
theorem SRep.byte (h : SRep A w d m mb f) {p : Pg} (hp : p ∈ m) {r : Nat} (hr : r < 256) : w.cell? ⟨f p.addr, 4 + r, none⟩ = some (bv (p.b.getD r 0)) := by
  rw [(h.pg p hp).2.cell, pgC_byte]
  have hl := (h.ok.pg p hp).bl
  rw [List.getD_eq_getElem?_getD, List.getElem?_eq_getElem (by omega)]
  rfl
set_option maxRecDepth 100000 in
set_option maxHeartbeats 2000000 in
theorem vread_any (addr size : Nat) (ha : addr ≤ top) (hz : size ≤ top - addr) (hs : size ≤ 1000000) (hth : there m addr size = true) (h : SRep A w d m mb f) (hA : ∀ k, A k → k < w.heap.size) :
    Calls Tryd.prog 71 #[ptrTo d, .int .u64 (addr : Int), .int .u64 (size : Int)] w fun e w' => ∃ v', e = .returned v' ∧ w'.ownsRow w.heap.size 5 1 v' size ((readB m addr size).map bv) ∧ Keep No w w' := by
  have ht : top = 4294967296 := rfl
  have q0 : w.cell? ⟨d, 0, none⟩ = some (.map (some mb)) := h.blk.cell 0
  unfold ptrTo
  go_enter Tryd.func71, Tryd.ntmps71
  go_wp2_with (at_make; refine wl_make rfl _ _ _ rfl _ _ rfl rfl ?_)
  obtain ⟨ti, hi, hz0, hz1, hz2⟩ := info_parts info_u8
  have hrun := run_make (P := Tryd.prog) w 94 5 ti (.int .u8 0) Tryd.underlying94 hi hz0 .i64 .u64 0 size (by omega) (by omega) (by rw [hz2]; omega) (by omega)
  rw [hz1, Nat.mul_one, Int.toNat_natCast, show Int.toNat 0 = 0 from rfl] at hrun
  refine .mk hrun ?_
  clear hrun
  have hka : Keep No w (w.alloc (.cells (madeCells (Value.int .u8 0).cells size) 5)) := (Keep.refl _ _).alloc _
  have hB0 : Blk (w.alloc (.cells (madeCells (Value.int .u8 0).cells size) 5)) w.heap.size (madeCells (Value.int .u8 0).cells size) 5 := Blk.new _ _ _
  have ho0 : FlO (w.alloc (.cells (madeCells (Value.int .u8 0).cells size) 5)) w.heap.size 5 1 encB8 (.slice (some ⟨w.heap.size, 0, none⟩) 0 size) (readB m addr 0) :=
    ⟨rfl, .inr ⟨w.heap.size, size, _, rfl, Nat.le_refl _, hB0, Nat.zero_le _, by unfold maxLen; omega, by simp [madeCells], by simp [readB]⟩⟩
  generalize w.alloc (.cells (madeCells (Value.int .u8 0).cells size) 5) = W at *
  clear hB0
  go_wp2_with fail
  go_loopw [7, 8] (fun ov av wr => ∃ i : Nat, av = .int .u64 ((addr + i : Nat) : Int) ∧ i ≤ size ∧ FlO wr w.heap.size 5 1 encB8 ov (readB m addr i) ∧ Keep No w wr) (fun _ av _ => addr + size - (intOf av).toNat)
  case atStart => exact ⟨0, rfl, Nat.zero_le _, ho0, hka⟩
  case round =>
    clear ho0 hka
    obtain ⟨i, rfl, hi', ho, hK⟩ := hrel
    have h' := h.same fun j hj => hK.block j (hA j hj) fun h => h
    obtain ⟨ao, co, rfl, _, _⟩ := ho.fl.shape
    rw [readB_len] at *
    rcases Nat.lt_or_ge i size with hlt | hge
    · obtain ⟨p, hp⟩ := there_at hth hlt
      obtain ⟨hpm, hpa⟩ := get_mem hp
      have hltz : ((addr + i : Nat) : Int) < (addr : Int) + (size : Int) := by omega
      have hr : ((addr + i : Nat) : Int) % 256 = (((addr + i) % 256 : Nat) : Int) := by omega
      have hr256 : (addr + i) % 256 < 256 := Nat.mod_lt _ (by decide)
      have hby := h'.byte hpm hr256
      have hbv : byteAt m (addr + i) = p.b.getD ((addr + i) % 256) 0 := by unfold byteAt; rw [hp]
      have hpo : pageOf (addr + i) < 18446744073709551616 := by unfold pageOf; omega
      have hlkA : ∀ W, Keep No wr W → (Instr.lookup 118 (.map (some mb)) (.int .u64 ((pageOf (addr + i) : Nat) : Int)) false).run Tryd.prog W = .ok (.pointer (some ⟨f p.addr, 0, none⟩)) W := fun W hk => (h'.same fun j hj => hk.block j (Nat.lt_of_lt_of_le (hA j hj) hK.size) fun h => h).lk hpo hp W rfl
      have hlkd := hlkA wr.drew (Keep.refl No wr).drew
      have HLK := Lib.hid hlkA
      clear hlkA hpo
      have hrs : readB m addr (i + 1) = readB m addr i ++ [byteAt m (addr + i)] := by unfold readB; rw [List.range_succ, List.map_append]; rfl
      have q1 := (hK.cell (p := ⟨d, 0, none⟩) h.blk.lt (fun h => h)).trans q0
      have hal : addr + i < 18446744073709551616 := by omega
      have hstp : addr + i + 1 = addr + (i + 1) := by omega
      have H1 := Lib.hid hstp
      have HRS := Lib.hid hrs
      rw [hbv] at HRS
      clear hrs hbv hstp hp hpa q0
      generalize p.b.getD ((addr + i) % 256) 0 = x at *
      generalize f p.addr = g at *
      generalize (addr + i) % 256 = r at *
      generalize addr + i = at_ at *
      have hrz : (r : Int) < 256 := by omega
      have hrt : (at_ : Int).tmod 256 = (r : Int) := by rw [IntWalk.rem_in _ _ (by omega)]; exact hr
      unfold bv at hby
      go_wp2_with fail
      refine wp_region_sig (fun w' => w'.cell? ⟨d, 0, none⟩ = some (.map (some mb)) ∧ w'.cell? ⟨g, 4 + r, none⟩ = some (.int .u8 (x.toNat : Int)) ∧ (Instr.lookup 118 (.map (some mb)) (.int .u64 ((pageOf at_ : Nat) : Int)) false).run Tryd.prog w' = .ok (.pointer (some ⟨g, 0, none⟩)) w') (fun j => decide (j ≤ 14)) [(0, true), (1, true), (2, true), (3, true), (4, true), (5, true), (8, true), (9, true), (6, false), (7, true), (10, true), (11, true), (12, true), (13, true), (14, false), (15, false), (16, false)] (by kernel_rfl) (by kernel_rfl) (by intro c a d v w h; cases d <;> exact h) ⟨q1, hby, hlkd⟩ ?_
      apply sig_still (o := ⟨some 19, _, _, _, _, _⟩) rfl rfl
      · intro w' hS
        obtain ⟨q1, q2, q3⟩ := hS
        first | (go_simp; done) | (go_simp; rfl) | rfl
      go_frame
      apply sig_still (o := ⟨some 20, _, _, _, _, _⟩) rfl rfl
      · intro w' hS
        obtain ⟨q1, q2, q3⟩ := hS
        first | (go_simp; done) | (go_simp; rfl) | rfl
      go_frame
      apply sig_still (o := ⟨some 21, _, _, _, _, _⟩) rfl rfl
      · intro w' hS
        obtain ⟨q1, q2, q3⟩ := hS
        first | (go_simp; done) | (go_simp; rfl) | rfl
      go_frame
      apply sig_still (o := ⟨some 22, _, _, _, _, _⟩) rfl rfl
      · intro w' hS
        obtain ⟨q1, q2, q3⟩ := hS
        first | (go_simp; done) | (go_simp; rfl) | rfl
      go_frame
      apply sig_still (o := ⟨some 23, _, _, _, _, _⟩) rfl rfl
      · intro w' hS
        obtain ⟨q1, q2, q3⟩ := hS
        first | (go_simp; done) | (go_simp; rfl) | rfl
      go_frame
      apply sig_still (o := ⟨some 24, _, _, _, _, _⟩) rfl rfl
      · intro w' hS
        obtain ⟨q1, q2, q3⟩ := hS
        first | (go_simp; done) | (go_simp; rfl) | rfl
      go_frame
      apply sig_still (o := ⟨some 27, _, _, _, _, _⟩) rfl rfl
      · intro w' hS
        obtain ⟨q1, q2, q3⟩ := hS
        first | (go_simp; done) | (go_simp; rfl) | rfl
      go_frame
      apply sig_still (o := ⟨some 28, _, _, _, _, _⟩) rfl rfl
      · intro w' hS
        obtain ⟨q1, q2, q3⟩ := hS
        first | (go_simp; done) | (go_simp; rfl) | rfl
      go_frame
      refine sig_eff (o := ⟨some 25, _, _, _, _, _⟩) rfl rfl (fun K hKe => ?_)
      go_wp2_with fail
      refine (vbase_any at_ hal _).mono ?_
      rintro e X ⟨rfl, rfl⟩
      go_wp2_with fail
      refine ⟨fun _ => ⟨q1, hby, hlkd⟩, ?_⟩
      apply sig_still (o := ⟨some 26, _, _, _, _, _⟩) rfl rfl
      · intro w' hS
        obtain ⟨q1, q2, q3⟩ := hS
        first | (go_simp; done) | (go_simp; rfl) | rfl
      go_frame
      apply sig_still (o := ⟨some 29, _, _, _, _, _⟩) rfl rfl
      · intro w' hS
        obtain ⟨q1, q2, q3⟩ := hS
        first | (go_simp; done) | (go_simp; rfl) | rfl
      go_frame
      apply sig_still (o := ⟨some 30, _, _, _, _, _⟩) rfl rfl
      · intro w' hS
        obtain ⟨q1, q2, q3⟩ := hS
        first | (go_simp; done) | (go_simp; rfl) | rfl
      go_frame
      apply sig_still (o := ⟨some 31, _, _, _, _, _⟩) rfl rfl
      · intro w' hS
        obtain ⟨q1, q2, q3⟩ := hS
        first | (go_simp; done) | (go_simp; rfl) | rfl
      go_frame
      apply sig_still (o := ⟨some 32, _, _, _, _, _⟩) rfl rfl
      · intro w' hS
        obtain ⟨q1, q2, q3⟩ := hS
        first | (go_simp; done) | (go_simp; rfl) | rfl
      go_frame
      have hkd : Keep No wr (wr.drew.alloc (.cells #[.int .u8 (x.toNat : Int)] 5)) := ((Keep.refl No wr).drew).alloc _
      have hlk2 := HLK.out _ hkd
      have r1 := (hkd.cell (p := ⟨d, 0, none⟩) h'.blk.lt (fun h => h)).trans q1
      have r2 := (hkd.cell (p := ⟨g, 4 + r, none⟩) (World.block_lt_of_cell? wr _ hby) (fun h => h)).trans hby
      refine sig_eff (o := ⟨some 33, _, _, _, _, _⟩) rfl rfl (fun K hKe => ?_)
      go_wp2_with fail
      refine ⟨fun _ => ⟨r1, r2, hlk2⟩, ?_⟩
      refine sig_eff (o := ⟨some 34, _, _, _, _, _⟩) rfl rfl (fun K hKe => ?_)
      refine wo_append _ _ _ _ rfl _ _ rfl rfl ?_
      have hod : FlO wr.drew w.heap.size 5 1 encB8 (.slice ao i co) (readB m addr i) := FlO.no ho (Keep.refl No wr).drew
      have hwd : wr.drew.heap.size = wr.heap.size := rfl
      refine rg_push (w := wr.drew) (.int .u8 0) 1 Tryd.underlying94 info_u8 rfl (by decide) (enc := encB8) (x := x) rfl rfl (b8_one _) hod (by rw [readB_len]; omega) (by decide) (by rw [hwd]; exact hK.size) ?_
      intro v' w2 ho2 hk2 _
      have hK2 := (hK.trans' (Keep.refl No wr).drew).own hod hk2
      refine hKe _ _ ⟨fun h => by simp at h, ?_⟩
      clear hkd hlk2 r1 r2 hod ho hK h' hk2
      obtain ⟨ao2, co2, rfl, _, _⟩ := ho2.fl.shape
      rw [show (readB m addr i ++ [x]).length = i + 1 by rw [List.length_append, readB_len]; rfl] at ho2
      rw [show (readB m addr i ++ [x]).length = i + 1 by rw [List.length_append, readB_len]; rfl]
      refine sig_eff (o := ⟨some 7, _, _, _, _, _⟩) rfl rfl (fun K hKe => ?_)
      go_wp2_with fail
      refine ⟨fun h => by simp at h, sig_nil ?_⟩
      go_wp2_with fail
      go_roundw
      case rel => exact ⟨i + 1, by rw [← H1.out]; go_num, hlt, by rw [HRS.out]; exact ho2, hK2⟩
      case measure => have := H1.out; simp [intOf]; omega
    · obtain rfl : i = size := Nat.le_antisymm hi' hge
      have hgez : ((addr + i : Nat) : Int) ≥ (addr : Int) + (i : Int) := by omega
      clear h'
      go_wp2_with fail
      go_ret
      unfold FlO at ho
      rw [readB_len, encB8_map] at ho
      exact ⟨_, rfl, ho, hK⟩
theorem pgC_set (p : Pg) (r : Nat) (c : UInt8) : (pgC p).setIfInBounds (4 + r) (bv c) = pgC { p with b := p.b.set r c } := by
  apply Array.toList_inj.1
  rw [Array.toList_setIfInBounds, show 4 + r = r + 4 by omega]
  simp [pgC, List.map_set]
/-- a byte is written -/
theorem SRep.setB (h : SRep A w d m mb f) {p : Pg} {a : Nat} (hg : pageAt m (pageOf a) = some p) (c : UInt8) : SRep A (w.setCell ⟨f p.addr, 4 + a % 256, none⟩ (bv c)) d (Vm.setB m a c) mb f := by
  obtain ⟨hpm, hpa⟩ := get_mem hg
  have hB := (h.pg p hpm).2
  have hk : Keep (fun j => j = f p.addr) w (w.setCell ⟨f p.addr, 4 + a % 256, none⟩ (bv c)) := (Keep.refl (fun j => j = f p.addr) w).setCell (p := ⟨f p.addr, 4 + a % 256, none⟩) (fun _ => rfl) _
  have hdne : d ≠ f p.addr := fun e => by
    have h1 := h.blk
    rw [e] at h1
    unfold Blk at h1 hB
    rw [hB] at h1
    simp at h1
  refine ⟨h.blk.keep hk hdne, ?_, fun q hq => ?_, fun q hq q' hq' e => ?_, setB_ok h.ok a c, h.Ad, h.Am⟩
  · have e : VL f (Vm.setB m a c) = VL f m := by
      unfold VL Vm.setB
      rw [List.map_map]
      apply List.map_congr_left
      intro q _
      simp only [Function.comp, setB_addr]
    rw [e]
    exact h.mp.keep hk (h.mp.ne_blk hB)
  · obtain ⟨q, hqm, rfl⟩ := List.mem_map.1 hq
    rw [setB_addr]
    refine ⟨(h.pg q hqm).1, ?_⟩
    by_cases e : q.addr = pageOf a
    · have eq : q = p := by
        have h1 := get_of_mem h.ok.srt hqm
        rw [e, hg] at h1
        exact (Option.some.inj h1).symm
      subst eq
      rw [if_pos e, ← pgC_set]
      exact hB.set (bv c)
    · rw [if_neg e]
      refine (h.pg q hqm).2.keep hk fun e2 => e ?_
      rw [h.inj q hqm p hpm e2]; exact hpa
  · obtain ⟨q, hqm, rfl⟩ := List.mem_map.1 hq
    obtain ⟨q', hqm', rfl⟩ := List.mem_map.1 hq'
    rw [setB_addr, setB_addr] at e ⊢
    exact h.inj q hqm q' hqm' e
end
end Go.Proofs.YthfekjnekaecaaaDoor
namespace Go.Dm.Oc
open Go
/-- the number of bytes, the lowest first -/
def leN : List UInt8 → Nat
  | [] => 0
  | b :: r => b.toNat + 256 * leN r
def le : Nat → Nat → List UInt8
  | 0, _ => []
  | n + 1, x => UInt8.ofNat (x % 256) :: le n (x / 256)
theorem le_len (n x : Nat) : (le n x).length = n := by
  induction n generalizing x with
  | zero => rfl
  | succ n ih => simp [le, ih]
theorem leN_le (n x : Nat) : leN (le n x) = x % 256 ^ n := by
  induction n generalizing x with
  | zero => simp [le, leN, Nat.mod_one]
  | succ n ih =>
    simp only [le, leN, ih, UInt8.toNat_ofNat', Nat.reducePow, Nat.mod_mod]
    rw [Nat.pow_succ, Nat.mul_comm (256 ^ n) 256, Nat.mod_mul]
theorem leN_lt (l : List UInt8) : leN l < 256 ^ l.length := by
  induction l with
  | nil => simp [leN]
  | cons b r ih =>
    have := b.toNat_lt
    simp only [leN, List.length_cons, Nat.pow_succ]
    omega
theorem leN_snoc (l : List UInt8) (b : UInt8) : leN (l ++ [b]) = leN l + 256 ^ l.length * b.toNat := by
  induction l with
  | nil => simp [leN]
  | cons c r ih =>
    simp only [List.cons_append, leN, ih, List.length_cons, Nat.pow_succ]
    rw [Nat.mul_add, Nat.mul_comm (256 ^ r.length) 256, Nat.mul_assoc, Nat.add_assoc]
theorem le_get (n x i : Nat) (hi : i < n) : (le n x)[i]'(by rw [le_len]; exact hi) = UInt8.ofNat (x / 256 ^ i % 256) := by
  induction n generalizing x i with
  | zero => omega
  | succ n ih =>
    cases i with
    | zero => simp [le]
    | succ i =>
      simp only [le, List.getElem_cons_succ]
      rw [ih (x / 256) i (by omega), Nat.div_div_eq_div_mul, Nat.pow_succ, Nat.mul_comm 256]
/-- one byte more is laid on top -/
theorem or_top (x b n : Nat) (hx : x < 2 ^ n) : x ||| (b * 2 ^ n) = x + 2 ^ n * b := by
  rw [Nat.or_comm, Go.nat_join n (b * 2 ^ n) x (Nat.mul_mod_left _ _) hx, Nat.mul_comm]; omega
theorem pow256 (i : Nat) : 256 ^ i = 2 ^ (8 * i) := by rw [Nat.pow_mul]
def widthB (n : Int) : Bool := decide (n = 1 ∨ n = 2 ∨ n = 4 ∨ n = 8)
def hasB (many at_ size : Nat) : Bool := decide (at_ ≤ many) && decide (size ≤ many - at_)
def fitsE (many at_ : Nat) (n : Int) : Nat := if widthB n then if hasB many at_ n.toNat then 0 else 10 else 1
def getX (b : List UInt8) (at_ : Nat) (n : Int) : Nat := if fitsE b.length at_ n = 0 then leN ((b.drop at_).take n.toNat) else 0
theorem fits_parts {many at_ : Nat} {n : Int} (h : fitsE many at_ n = 0) : (n = 1 ∨ n = 2 ∨ n = 4 ∨ n = 8) ∧ at_ ≤ many ∧ n.toNat ≤ many - at_ := by
  unfold fitsE at h
  split at h
  · rename_i hw
    split at h
    · rename_i hh
      simp only [hasB, Bool.and_eq_true, decide_eq_true_eq] at hh
      simp only [widthB, decide_eq_true_eq] at hw
      exact ⟨hw, hh⟩
    · cases h
  · cases h
/-- bytes laid over others from a place on -/
def setR : List UInt8 → Nat → List UInt8 → List UInt8
  | l, _, [] => l
  | l, k, x :: r => setR (l.set k x) (k + 1) r
theorem setR_len (l : List UInt8) (k : Nat) (c : List UInt8) : (setR l k c).length = l.length := by
  induction c generalizing l k with
  | nil => rfl
  | cons x r ih => unfold setR; rw [ih, List.length_set]
theorem setR_snoc (l : List UInt8) (k : Nat) (c : List UInt8) (x : UInt8) : setR l k (c ++ [x]) = (setR l k c).set (k + c.length) x := by
  induction c generalizing l k with
  | nil => rfl
  | cons y r ih =>
    show setR (l.set k y) (k + 1) (r ++ [x]) = (setR (l.set k y) (k + 1) r).set (k + (r.length + 1)) x
    rw [ih]
    congr 1
    omega
theorem setR_whole (l c : List UInt8) (h : c.length = l.length) : setR l 0 c = c := by
  suffices h2 : ∀ (k : Nat) (l c : List UInt8), k + c.length = l.length → setR l k c = l.take k ++ c by simpa using h2 0 l c (by omega)
  intro k l c
  induction c generalizing k l with
  | nil => intro h; simp only [setR, List.append_nil]; rw [List.take_of_length_le (by simpa using Nat.le_of_eq h.symm)]
  | cons x r ih =>
    intro h
    rw [List.length_cons] at h
    unfold setR
    rw [ih (k + 1) (l.set k x) (by rw [List.length_set]; omega), List.take_succ_eq_append_getElem (by rw [List.length_set]; omega), List.getElem_set_self, List.take_set_of_le (Nat.le_refl _), List.append_assoc]
    rfl
theorem getX_whole (b : List UInt8) (n : Nat) (h : b.length = n) (hn : n = 1 ∨ n = 2 ∨ n = 4 ∨ n = 8) : fitsE b.length 0 n = 0 ∧ getX b 0 n = leN b := by
  have hf : fitsE b.length 0 n = 0 := by
    unfold fitsE
    rw [if_pos (by simp only [widthB, decide_eq_true_eq]; omega), if_pos (by simp only [hasB, Bool.and_eq_true, decide_eq_true_eq]; omega)]
  refine ⟨hf, ?_⟩
  unfold getX
  rw [if_pos hf, List.drop_zero, List.take_of_length_le (by omega)]
end Go.Dm.Oc
namespace Go.Dm.Vm
open Go Go.Proofs.YthfekjnekaecaaaDoor Go.Dm.Oc

def noughts : List UInt8 := List.replicate 256 0
theorem noughts_len : noughts.length = 256 := List.length_replicate ..
/-- a page in its place -/
def insP (p : Pg) : V → V
  | [] => [p]
  | q :: r => if p.addr < q.addr then p :: q :: r else q :: insP p r
theorem insP_perm (p : Pg) (m : V) : (insP p m).Perm (p :: m) := by
  induction m with
  | nil => exact List.Perm.refl _
  | cons q r ih =>
    unfold insP
    split
    · exact List.Perm.refl _
    · exact (ih.cons q).trans (List.Perm.swap p q r)
theorem insP_mem {p x : Pg} {m : V} : x ∈ insP p m ↔ x = p ∨ x ∈ m := by rw [(insP_perm p m).mem_iff, List.mem_cons]
theorem insP_len (p : Pg) (m : V) : (insP p m).length = m.length + 1 := by rw [(insP_perm p m).length_eq, List.length_cons]
theorem insP_srt {p : Pg} {m : V} (h : m.Pairwise (fun p q => p.addr < q.addr)) (hn : ∀ q ∈ m, q.addr ≠ p.addr) : (insP p m).Pairwise (fun p q => p.addr < q.addr) := by
  induction m with
  | nil => simp [insP]
  | cons q r ih =>
    rw [List.pairwise_cons] at h
    unfold insP
    split
    · rename_i hlt
      rw [List.pairwise_cons]
      refine ⟨fun x hx => ?_, List.pairwise_cons.2 h⟩
      rcases List.mem_cons.1 hx with rfl | hx
      · exact hlt
      · exact Nat.lt_trans hlt (h.1 x hx)
    · rename_i hge
      rw [List.pairwise_cons]
      refine ⟨fun x hx => ?_, ih h.2 fun q hq => hn q (List.mem_cons_of_mem _ hq)⟩
      rcases insP_mem.1 hx with rfl | hx
      · have := hn q (List.mem_cons_self ..)
        omega
      · exact h.1 x hx
theorem insP_ok {p : Pg} {m : V} (h : Ok m) (hp : PgOk p) (hn : ∀ q ∈ m, q.addr ≠ p.addr) (hl : m.length < 512) : Ok (insP p m) :=
  ⟨insP_srt h.srt hn, fun q hq => (insP_mem.1 hq).elim (fun e => e ▸ hp) (h.pg q), by rw [insP_len]; omega⟩
def newPg (addr prot : Nat) (file : List UInt8) (off k : Nat) : Pg := ⟨addr + 256 * k, prot, false, file, if file = [] then 0 else (off + 256 * k) % 18446744073709551616, noughts⟩
def mapN (m : V) (addr prot : Nat) (file : List UInt8) (off : Nat) : Nat → V
  | 0 => m
  | k + 1 => insP (newPg addr prot file off k) (mapN m addr prot file off k)
def over (m : V) (addr size : Nat) : Bool := m.any fun p => decide (addr ≤ p.addr) && decide (p.addr - addr < size)
def mapE (m : V) (addr size : Nat) (prot : Int) : Nat := if may addr size prot then if over m addr size then 12 else if size / 256 > 512 - m.length then 13 else 0 else 1
def mapV (m : V) (addr size : Nat) (prot : Int) (file : List UInt8) (off : Nat) : V := if mapE m addr size prot = 0 then mapN m addr prot.toNat file off (size / 256) else m
theorem may_parts {addr size : Nat} {prot : Int} (h : may addr size prot = true) : addr % 256 = 0 ∧ size % 256 = 0 ∧ 0 < size ∧ addr ≤ top ∧ size ≤ top - addr ∧ 0 ≤ prot ∧ prot ≤ 7 := by
  simp only [may, Bool.and_eq_true, beq_iff_eq, decide_eq_true_eq] at h
  omega
theorem may_pages {addr size : Nat} {prot : Int} (h : may addr size prot = true) : pagesN addr size = size / 256 ∧ pageOf addr = addr := by
  have := may_parts h
  unfold pagesN pageOf
  omega
theorem mem_mapN {m : V} {addr prot : Nat} {file : List UInt8} {off k : Nat} {x : Pg} : x ∈ mapN m addr prot file off k ↔ x ∈ m ∨ ∃ j, j < k ∧ x = newPg addr prot file off j := by
  induction k with
  | zero => simp [mapN]
  | succ k ih =>
    unfold mapN
    rw [insP_mem, ih]
    constructor
    · rintro (rfl | h | ⟨j, hj, rfl⟩)
      · exact .inr ⟨k, by omega, rfl⟩
      · exact .inl h
      · exact .inr ⟨j, by omega, rfl⟩
    · rintro (h | ⟨j, hj, rfl⟩)
      · exact .inr (.inl h)
      · rcases Nat.lt_or_ge j k with h | h
        · exact .inr (.inr ⟨j, h, rfl⟩)
        · obtain rfl : j = k := by omega
          exact .inl rfl
theorem mapN_len (m : V) (addr prot : Nat) (file : List UInt8) (off k : Nat) : (mapN m addr prot file off k).length = m.length + k := by
  induction k with
  | zero => rfl
  | succ k ih => unfold mapN; rw [insP_len, ih]; rfl
/-- ahead of the k-th page of a span that nobody has, its address is free -/
theorem mapN_free {m : V} {addr size prot : Nat} {file : List UInt8} {off k : Nat} (ho : over m addr size = false) (hk : 256 * k < size) : ∀ q ∈ mapN m addr prot file off k, q.addr ≠ addr + 256 * k := by
  intro q hq e
  rcases mem_mapN.1 hq with h | ⟨j, hj, rfl⟩
  · have h1 := List.any_eq_false.1 ho q h
    simp only [Bool.and_eq_true, decide_eq_true_eq, not_and] at h1
    omega
  · simp only [newPg] at e; omega
theorem newPg_ok {addr size prot : Nat} {file : List UInt8} {off k : Nat} (ha : addr % 256 = 0) (hs : addr + size ≤ top) (hp : prot ≤ 7) (hf : file.length ≤ maxLen) (hk : 256 * k < size) : PgOk (newPg addr prot file off k) := by
  refine ⟨?_, ?_, hp, noughts_len, ?_, hf⟩
  · simp only [newPg]; omega
  · simp only [newPg]; omega
  · simp only [newPg]
    split <;> omega
theorem mapN_ok {m : V} {addr size prot : Nat} {file : List UInt8} {off k : Nat} (h : Ok m) (ha : addr % 256 = 0) (hs : addr + size ≤ top) (hp : prot ≤ 7) (hf : file.length ≤ maxLen) (ho : over m addr size = false) (hk : 256 * k ≤ size) (hl : m.length + k ≤ 512) : Ok (mapN m addr prot file off k) := by
  induction k with
  | zero => exact h
  | succ k ih =>
    have ih := ih (by omega) (by omega)
    exact insP_ok ih (newPg_ok ha hs hp hf (by omega)) (mapN_free ho (by omega)) (by rw [mapN_len]; omega)
/-- a page is made another -/
def upd (m : V) (a : Nat) (g : Pg → Pg) : V := m.map fun p => if p.addr = a then g p else p
def updN (g : Pg → Pg) (m : V) (a : Nat) : Nat → V
  | 0 => m
  | k + 1 => upd (updN g m a k) (a + 256 * k) g
theorem upd_addr {g : Pg → Pg} (hg : ∀ p, (g p).addr = p.addr) (a : Nat) (p : Pg) : (if p.addr = a then g p else p : Pg).addr = p.addr := by split; exact hg p; rfl
theorem upd_ok {m : V} (h : Ok m) {g : Pg → Pg} (hg : ∀ p, (g p).addr = p.addr) (hok : ∀ p, PgOk p → PgOk (g p)) (a : Nat) : Ok (upd m a g) := by
  refine ⟨?_, fun p hp => ?_, by unfold upd; rw [List.length_map]; exact h.len⟩
  · unfold upd
    rw [List.pairwise_map]
    exact h.srt.imp fun hlt => by rw [upd_addr hg, upd_addr hg]; exact hlt
  · obtain ⟨q, hq, rfl⟩ := List.mem_map.1 hp
    split
    · exact hok q (h.pg q hq)
    · exact h.pg q hq
theorem pageAt_upd (m : V) {g : Pg → Pg} (hg : ∀ p, (g p).addr = p.addr) (a x : Nat) : pageAt (upd m a g) x = (pageAt m x).map fun p => if p.addr = a then g p else p := pageAt_map (upd_addr hg a) x
theorem pageAt_updN (m : V) {g : Pg → Pg} (hg : ∀ p, (g p).addr = p.addr) (a x : Nat) (k : Nat) : (pageAt (updN g m a k) x).isSome = (pageAt m x).isSome := by
  induction k with
  | zero => rfl
  | succ k ih => unfold updN; rw [pageAt_upd _ hg, Option.isSome_map, ih]
theorem there_updN (m : V) {g : Pg → Pg} (hg : ∀ p, (g p).addr = p.addr) (a k x n : Nat) : there (updN g m a k) x n = there m x n := by
  unfold there
  congr 1
  funext y
  exact pageAt_updN m hg a y k
theorem updN_ok {m : V} (h : Ok m) {g : Pg → Pg} (hg : ∀ p, (g p).addr = p.addr) (hok : ∀ p, PgOk p → PgOk (g p)) (a k : Nat) : Ok (updN g m a k) := by
  induction k with
  | zero => exact h
  | succ k ih => exact upd_ok ih hg hok _
/-- updN, page by page -/
theorem updN_eq (m : V) {g : Pg → Pg} (hg : ∀ p, (g p).addr = p.addr) (a k : Nat) : updN g m a k = m.map fun p => if ∃ j, j < k ∧ p.addr = a + 256 * j then g p else p := by
  induction k with
  | zero =>
    unfold updN
    conv => lhs; rw [← List.map_id m]
    apply List.map_congr_left
    intro p _
    rw [if_neg (fun ⟨j, hj, _⟩ => absurd hj (Nat.not_lt_zero _))]
    rfl
  | succ k ih =>
    unfold updN
    rw [ih]
    unfold upd
    rw [List.map_map]
    apply List.map_congr_left
    intro p _
    simp only [Function.comp]
    by_cases h1 : ∃ j, j < k ∧ p.addr = a + 256 * j
    · obtain ⟨j, hj, e⟩ := h1
      rw [if_pos (⟨j, hj, e⟩ : ∃ j, j < k ∧ p.addr = a + 256 * j), if_pos (⟨j, by omega, e⟩ : ∃ j, j < k + 1 ∧ p.addr = a + 256 * j), if_neg (by rw [hg]; omega)]
    · rw [if_neg h1]
      by_cases h2 : p.addr = a + 256 * k
      · rw [if_pos h2, if_pos ⟨k, by omega, h2⟩]
      · rw [if_neg h2, if_neg]
        rintro ⟨j, hj, e⟩
        rcases Nat.lt_or_ge j k with h | h
        · exact h1 ⟨j, h, e⟩
        · obtain rfl : j = k := by omega
          exact h2 e
def delP (m : V) (a : Nat) : V := m.filter fun p => p.addr != a
def delN (m : V) (a : Nat) : Nat → V
  | 0 => m
  | k + 1 => delP (delN m a k) (a + 256 * k)
theorem delP_ok {m : V} (h : Ok m) (a : Nat) : Ok (delP m a) :=
  ⟨h.srt.filter _, fun p hp => h.pg p (List.mem_filter.1 hp).1, Nat.le_trans (List.length_filter_le _ _) h.len⟩
theorem delN_ok {m : V} (h : Ok m) (a k : Nat) : Ok (delN m a k) := by
  induction k with
  | zero => exact h
  | succ k ih => exact delP_ok ih _
def unmapE (m : V) (addr size : Nat) : Nat := if may addr size 0 then heldE m addr size else 1
def unmapV (m : V) (addr size : Nat) : V := if unmapE m addr size = 0 then delN m addr (size / 256) else m
def protE (m : V) (addr size : Nat) (prot : Int) : Nat := if may addr size prot then heldE m addr size else 1
def protV (m : V) (addr size : Nat) (prot : Int) : V := if protE m addr size prot = 0 then updN (fun p => { p with prot := prot.toNat }) m addr (size / 256) else m
def numE (m : V) (addr : Nat) (n : Int) (what : Nat) : Nat := if n = 1 ∨ n = 2 ∨ n = 4 ∨ n = 8 then if heldE m addr n.toNat = 0 then allowedE m addr n.toNat what else heldE m addr n.toNat else 1
def loadE (m : V) (addr : Nat) (n : Int) : Nat := numE m addr n 4
def loadX (m : V) (addr : Nat) (n : Int) : Nat := if loadE m addr n = 0 then leN (readB m addr n.toNat) else 0
def dirt (p : Pg) : Pg := { p with dirty := true }
def storeV (m : V) (addr : Nat) (n : Int) (x : Nat) : V := if numE m addr n 2 = 0 then updN dirt (writeB m addr (le n.toNat x)) (pageOf addr) (pagesN addr n.toNat) else m
def fetchE (m : V) (addr : Nat) : Nat := if addr % 8 = 0 then numE m addr 8 1 else 1
def fetchX (m : V) (addr : Nat) : Nat := if fetchE m addr = 0 then leN (readB m addr 8) else 0
def peekE (m : V) (addr size : Nat) : Nat := if size = 0 then 0 else heldE m addr size
def peekB (m : V) (addr size : Nat) : List UInt8 := if size = 0 then [] else if heldE m addr size = 0 then readB m addr size else []
def pokeV (m : V) (addr : Nat) (b : List UInt8) : V := if peekE m addr b.length = 0 then writeB m addr b else m
theorem held_parts {m : V} {addr size : Nat} (h : Vm.heldE m addr size = 0) : addr ≤ top ∧ size ≤ top - addr ∧ size ≤ 131328 ∧ there m addr size = true := by
  unfold Vm.heldE at h
  split at h
  · cases h
  · rename_i hn
    split at h
    · rename_i ht
      exact ⟨by omega, by omega, by omega, ht⟩
    · cases h
end Go.Dm.Vm
namespace Go.Dm.Cp
open Go Go.Dm.Vm

structure Ins where
  op : Nat
  a : Nat
  b : Nat
  c : Nat
  imm : Int
/-- which fields an operation has: 1 A, 2 B, 4 C, 8 Imm -/
def hasM (op : Int) : Nat :=
  if op = 1 ∨ op = 40 then 0 else if op = 2 ∨ op = 37 then 3 else if op ≤ 15 then 7 else if op = 16 ∨ 20 ≤ op ∧ op ≤ 33 then 11
  else if op = 17 ∨ op = 18 ∨ op = 35 ∨ op = 38 ∨ op = 39 then 9 else if op = 34 ∨ op = 41 then 8 else 2
def isOp (op : Int) : Bool := decide (1 ≤ op ∧ op ≤ 41 ∧ op ≠ 19 ∧ op ≠ 28 ∧ op ≠ 29)
def fieldB (has : Nat) (x : Int) : Bool := !(has % 2 == 0 && x != 0) && decide (0 ≤ x ∧ x ≤ 31)
def immB (has : Nat) (x : Int) : Bool := !(has % 2 == 0 && x != 0)
/-- may an instruction be? (but for the size of its number) -/
def mayF (op a b c imm : Int) : Bool := isOp op && fieldB (hasM op) a && fieldB (hasM op / 2) b && fieldB (hasM op / 4) c && immB (hasM op / 8) imm
def mayB (op a b c imm : Int) : Bool := mayF op a b c imm && decide (-2147483648 ≤ imm ∧ imm ≤ 2147483647)
/-- a number as 32 bits -/
def u32 (x : Int) : Nat := (if x < 0 then x + 4294967296 else x).toNat
/-- 32 bits as a number -/
def s32 (x : Nat) : Int := if 2147483648 ≤ x then (x : Int) - 4294967296 else x
/-- a number as 64 bits -/
def u64 (x : Int) : Nat := (if x < 0 then x + 18446744073709551616 else x).toNat
def encM (op a b c imm : Int) : Nat := op.toNat + 256 * a.toNat + 8192 * b.toNat + 262144 * c.toNat + 4294967296 * u32 imm
def decI (w : Nat) : Ins := ⟨w % 256, w / 256 % 32, w / 8192 % 32, w / 262144 % 32, s32 (w / 4294967296)⟩
def decE (w : Nat) : Nat := let i := decI w; if mayB i.op i.a i.b i.c i.imm && (encM i.op i.a i.b i.c i.imm == w) then 0 else 42

structure St where
  r : List Nat
  pc : Nat
  tls : Nat
structure StOk (s : St) : Prop where
  len : s.r.length = 32
  lt : ∀ x ∈ s.r, x < 18446744073709551616
  pc : s.pc < 18446744073709551616
  tls : s.tls < 18446744073709551616
structure Out where
  kind : Nat
  err : Nat
  at_ : Nat
def St.reg (s : St) (k : Nat) : Nat := s.r.getD k 0
def St.put (s : St) (k x : Nat) : St := { s with r := s.r.set k x }
def St.go (s : St) (p : Nat) : St := { s with pc := p }
def add (x y : Nat) : Nat := (x + y) % 18446744073709551616
def belowM (x y : Nat) : Bool := if x / 9223372036854775808 ≠ y / 9223372036854775808 then x / 9223372036854775808 == 1 else decide (x < y)
def subM (b c : Nat) : Nat := if c ≤ b then b - c else 18446744073709551616 - (c - b)
def sarM (b p : Nat) : Nat := if b / 9223372036854775808 = 1 then 18446744073709551615 - (18446744073709551615 - b) / p else b / p
/-- what an operation (3 to 15) makes of two numbers -/
def ofM (op b c : Nat) : Nat :=
  match op with
  | 3 => (b + c) % 18446744073709551616
  | 4 => subM b c
  | 5 => b * c % 18446744073709551616
  | 6 => b / c
  | 7 => b % c
  | 8 => b &&& c
  | 9 => b ||| c
  | 10 => b ^^^ c
  | 11 => b * 2 ^ (c % 64) % 18446744073709551616
  | 12 => b / 2 ^ (c % 64)
  | 13 => sarM b (2 ^ (c % 64))
  | 14 => if belowM b c then 1 else 0
  | _ => if b < c then 1 else 0
theorem of3 (b c : Nat) : ofM 3 b c = (b + c) % 18446744073709551616 := by unfold ofM; rfl
theorem of4 (b c : Nat) : ofM 4 b c = subM b c := by unfold ofM; rfl
theorem of5 (b c : Nat) : ofM 5 b c = b * c % 18446744073709551616 := by unfold ofM; rfl
theorem of6 (b c : Nat) : ofM 6 b c = b / c := by unfold ofM; rfl
theorem of7 (b c : Nat) : ofM 7 b c = b % c := by unfold ofM; rfl
theorem of8 (b c : Nat) : ofM 8 b c = b &&& c := by unfold ofM; rfl
theorem of9 (b c : Nat) : ofM 9 b c = b ||| c := by unfold ofM; rfl
theorem of10 (b c : Nat) : ofM 10 b c = b ^^^ c := by unfold ofM; rfl
theorem of11 (b c : Nat) : ofM 11 b c = b * 2 ^ (c % 64) % 18446744073709551616 := by unfold ofM; rfl
theorem of12 (b c : Nat) : ofM 12 b c = b / 2 ^ (c % 64) := by unfold ofM; rfl
theorem of13 (b c : Nat) : ofM 13 b c = sarM b (2 ^ (c % 64)) := by unfold ofM; rfl
theorem of14 (b c : Nat) : ofM 14 b c = if belowM b c then 1 else 0 := by unfold ofM; rfl
theorem of15 (b c : Nat) : ofM 15 b c = if b < c then 1 else 0 := by unfold ofM; rfl
def jumpsM (op a b : Nat) : Bool :=
  match op with
  | 30 => a == b
  | 31 => !(a == b)
  | 32 => belowM a b
  | _ => decide (a < b)
def wid (k : Nat) : Nat := 2 ^ k
def doM (s : St) (m : V) (i : Ins) : St × V × Out :=
  let n := s.go (add s.pc 8)
  let imm := u64 i.imm
  let b := s.reg i.b
  let c := s.reg i.c
  let a := s.reg i.a
  let op := i.op
  if op = 2 then (n.put i.a b, m, ⟨0, 0, 0⟩)
  else if 3 ≤ op ∧ op ≤ 15 then if (op = 6 ∨ op = 7) ∧ c = 0 then (s, m, ⟨3, 43, s.pc⟩) else (n.put i.a (ofM op b c), m, ⟨0, 0, 0⟩)
  else if op = 16 then (n.put i.a (add b imm), m, ⟨0, 0, 0⟩)
  else if op = 17 then (n.put i.a imm, m, ⟨0, 0, 0⟩)
  else if op = 18 then (n.put i.a (a % 4294967296 + imm % 4294967296 * 4294967296), m, ⟨0, 0, 0⟩)
  else if 20 ≤ op ∧ op ≤ 23 then if loadE m (add b imm) (wid (op - 20) : Nat) = 0 then (n.put i.a (loadX m (add b imm) (wid (op - 20) : Nat)), m, ⟨0, 0, 0⟩) else (s, m, ⟨3, loadE m (add b imm) (wid (op - 20) : Nat), add b imm⟩)
  else if 24 ≤ op ∧ op ≤ 27 then if numE m (add b imm) (wid (op - 24) : Nat) 2 = 0 then (n, storeV m (add b imm) (wid (op - 24) : Nat) a, ⟨0, 0, 0⟩) else (s, m, ⟨3, numE m (add b imm) (wid (op - 24) : Nat) 2, add b imm⟩)
  else if 30 ≤ op ∧ op ≤ 33 then (if jumpsM op a b then n.go (add s.pc imm) else n, m, ⟨0, 0, 0⟩)
  else if op = 34 then (n.go (add s.pc imm), m, ⟨0, 0, 0⟩)
  else if op = 35 then ((n.put i.a (add s.pc 8)).go (add s.pc imm), m, ⟨0, 0, 0⟩)
  else if op = 36 then (n.go b, m, ⟨0, 0, 0⟩)
  else if op = 37 then ((n.put i.a (add s.pc 8)).go b, m, ⟨0, 0, 0⟩)
  else if op = 38 then (n.put i.a (add s.pc imm), m, ⟨0, 0, 0⟩)
  else if op = 39 then (n.put i.a (add s.tls imm), m, ⟨0, 0, 0⟩)
  else if op = 40 then (n, m, ⟨1, 0, 0⟩)
  else if op = 41 then (n, m, ⟨2, 0, imm⟩)
  else (n, m, ⟨0, 0, 0⟩)
def stepM (s : St) (m : V) : St × V × Out :=
  if fetchE m s.pc = 0 then
    if decE (fetchX m s.pc) = 0 then doM s m (decI (fetchX m s.pc)) else (s, m, ⟨3, 42, s.pc⟩)
  else (s, m, ⟨3, fetchE m s.pc, s.pc⟩)

theorem add_lt (x y : Nat) : add x y < 18446744073709551616 := Nat.mod_lt _ (by decide)
theorem u64_lt {x : Int} (h : -2147483648 ≤ x) (h2 : x ≤ 2147483647) : u64 x < 18446744073709551616 := by unfold u64; split <;> omega
theorem s32_lo (x : Nat) (h : x < 4294967296) : -2147483648 ≤ s32 x ∧ s32 x ≤ 2147483647 := by unfold s32; split <;> omega
theorem u32_s32 (x : Nat) (h : x < 4294967296) : u32 (s32 x) = x := by unfold u32 s32; split <;> split <;> omega
theorem two_pos (k : Nat) : 0 < 2 ^ k := Nat.pos_of_ne_zero (by simp)
theorem sub_lt' {b c : Nat} (hb : b < 18446744073709551616) (_hc : c < 18446744073709551616) : subM b c < 18446744073709551616 := by
  unfold subM; split <;> omega
theorem sar_lt {b p : Nat} (hb : b < 18446744073709551616) : sarM b p < 18446744073709551616 := by
  unfold sarM
  split
  · exact Nat.lt_of_le_of_lt (Nat.sub_le _ _) (by decide)
  · exact Nat.lt_of_le_of_lt (Nat.div_le_self _ _) hb
theorem of_lt {op b c : Nat} (ho : 3 ≤ op ∧ op ≤ 15) (hb : b < 18446744073709551616) (hc : c < 18446744073709551616) : ofM op b c < 18446744073709551616 := by
  have hop : op = 3 ∨ op = 4 ∨ op = 5 ∨ op = 6 ∨ op = 7 ∨ op = 8 ∨ op = 9 ∨ op = 10 ∨ op = 11 ∨ op = 12 ∨ op = 13 ∨ op = 14 ∨ op = 15 := by omega
  rcases hop with rfl | rfl | rfl | rfl | rfl | rfl | rfl | rfl | rfl | rfl | rfl | rfl | rfl
  · rw [of3]; exact Nat.mod_lt _ (by decide)
  · rw [of4]; exact sub_lt' hb hc
  · rw [of5]; exact Nat.mod_lt _ (by decide)
  · rw [of6]; exact Nat.lt_of_le_of_lt (Nat.div_le_self _ _) hb
  · rw [of7]; exact Nat.lt_of_le_of_lt (Nat.mod_le _ _) hb
  · rw [of8]; exact Nat.lt_of_le_of_lt Nat.and_le_left hb
  · rw [of9]; exact Nat.or_lt_two_pow (n := 64) hb hc
  · rw [of10]; exact Nat.xor_lt_two_pow (n := 64) hb hc
  · rw [of11]; exact Nat.mod_lt _ (by decide)
  · rw [of12]; exact Nat.lt_of_le_of_lt (Nat.div_le_self _ _) hb
  · rw [of13]; exact sar_lt hb
  · rw [of14]; split <;> decide
  · rw [of15]; split <;> decide
theorem StOk.reg {s : St} (h : StOk s) (k : Nat) : s.reg k < 18446744073709551616 := by
  unfold St.reg
  rw [List.getD_eq_getElem?_getD]
  cases hg : s.r[k]? with
  | none => decide
  | some v => exact h.lt v (List.mem_of_getElem? hg)
theorem StOk.put {s : St} (h : StOk s) (k : Nat) {x : Nat} (hx : x < 18446744073709551616) : StOk (s.put k x) where
  len := by unfold St.put; simp [h.len]
  lt := fun y hy => by
    rcases List.mem_or_eq_of_mem_set hy with h1 | rfl
    · exact h.lt y h1
    · exact hx
  pc := h.pc
  tls := h.tls
theorem StOk.go {s : St} (h : StOk s) {p : Nat} (hp : p < 18446744073709551616) : StOk (s.go p) := ⟨h.len, h.lt, hp, h.tls⟩
end Go.Dm.Cp
