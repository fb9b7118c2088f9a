/- isa: Encode, Decode. A processor's registers in memory. An instruction that is looked at, in memory (its cells); whether a jump is inside; the tag of what an operation makes. The tag of what an operation makes; the tags of loads and stores. No condition. -/
import Derived.Test.YthfekjnekaecaaaDoorCpu2
import Derived.Test.YthfekjnekaecaaaDoorSortK
import Derived.Lib.ReflectliteSwap
import Derived.Deep.QuietTactic
import Derived.BigQuiet
set_option linter.unusedVariables false
set_option linter.unusedSimpArgs false
namespace Go.Proofs.YthfekjnekaecaaaDoor
open Go.RowKit Go.Dm Go.Dm.Vm Go.Dm.Cp Go.Maps
section
variable {w : World}
set_option maxRecDepth 100000 in
set_option maxHeartbeats 8000000 in
theorem isaenc_any (op a b c : Nat) (imm : Int) (ho : op < 256) (ha : a < 32) (hb : b < 32) (hc : c < 32) (h1 : -2147483648 ≤ imm) (h2 : imm ≤ 2147483647) (hT : Tabs w) :
    Calls Tryd.prog 25 #[.agg #[.int .i64 (op : Int), .int .i64 (a : Int), .int .i64 (b : Int), .int .i64 (c : Int), .int .i32 imm]] w fun e w' => e = .returned (.tuple #[.int .u64 ((if mayF op a b c imm then encM op a b c imm else 0 : Nat) : Int), .int .i64 ((if mayF op a b c imm then 0 else 42 : Nat) : Int)]) ∧ Keep No w w' := by
  have hmy := fun (W : World) (hk : Keep No w W) => isamay_any (w := W) op a b c imm h1 h2 (hT.no hk)
  generalize mayF op a b c imm = mf at *
  have HM := Lib.hid hmy
  clear hmy hT
  go_enter Tryd.func25, Tryd.ntmps25
  go_wp2_with fail
  have hkW : Keep No w (w.alloc (.cells #[.int .i64 (op : Int), .int .i64 (a : Int), .int .i64 (b : Int), .int .i64 (c : Int), .int .i32 imm] 37)) := (Keep.refl _ _).alloc _
  have hBW : Blk (w.alloc (.cells #[.int .i64 (op : Int), .int .i64 (a : Int), .int .i64 (b : Int), .int .i64 (c : Int), .int .i32 imm] 37)) w.heap.size #[.int .i64 (op : Int), .int .i64 (a : Int), .int .i64 (b : Int), .int .i64 (c : Int), .int .i32 imm] 37 := Blk.new _ _ _
  have hzW : (w.alloc (.cells #[.int .i64 (op : Int), .int .i64 (a : Int), .int .i64 (b : Int), .int .i64 (c : Int), .int .i32 imm] 37)).heap.size = w.heap.size + 1 := World.size_alloc _ _
  generalize w.alloc (.cells #[.int .i64 (op : Int), .int .i64 (a : Int), .int .i64 (b : Int), .int .i64 (c : Int), .int .i32 imm] 37) = W at *
  have hml := HM.out W hkW
  have q0 : W.cell? ⟨w.heap.size, 0, none⟩ = some (.int .i64 (op : Int)) := hBW.cell 0
  have q1 : W.cell? ⟨w.heap.size, 1, none⟩ = some (.int .i64 (a : Int)) := hBW.cell 1
  have q2 : W.cell? ⟨w.heap.size, 2, none⟩ = some (.int .i64 (b : Int)) := hBW.cell 2
  have q3 : W.cell? ⟨w.heap.size, 3, none⟩ = some (.int .i64 (c : Int)) := hBW.cell 3
  have q4 : W.cell? ⟨w.heap.size, 4, none⟩ = some (.int .i32 imm) := hBW.cell 4
  go_wp2_with fail
  refine hml.mono ?_
  rintro e w2 ⟨⟨x, y, z, rfl⟩, hk2⟩
  have hkw2 := hkW.trans' hk2
  clear hml q0 q1 q2 q3 q4
  go_wp2_with (with_reducible refine wl_stAgg rfl _ _ _ rfl _ _ rfl rfl ?_)
  have hka := (Keep.refl No w2).alloc (.cells #[.int .i64 0, .string ⟨#[]⟩, .string ⟨#[]⟩] 108)
  refine rg_stAgg (Blk.new _ _ _) (by kernel_rfl) (by rfl) (by simp [Value.oneCell']) ?_
  intro w3 hB3 hk3 hs3
  have hk23 : Keep No w2 w3 := hka.trans hk3 fun j hj e => absurd hj (by have e2 : j = w2.heap.size := e; omega)
  have hB4 := (hBW.keep hk2 fun h => h).keep hk23 fun h => h
  have hkw3 := hkw2.trans' hk23
  clear hka hk3 hs3
  cases mf with
  | false =>
    go_wp2_with fail
    go_ret2
    exact ⟨rfl, hkw3⟩
  | true =>
    have q0 : w3.cell? ⟨w.heap.size, 0, none⟩ = some (.int .i64 (op : Int)) := hB4.cell 0
    have q1 : w3.cell? ⟨w.heap.size, 1, none⟩ = some (.int .i64 (a : Int)) := hB4.cell 1
    have q2 : w3.cell? ⟨w.heap.size, 2, none⟩ = some (.int .i64 (b : Int)) := hB4.cell 2
    have q3 : w3.cell? ⟨w.heap.size, 3, none⟩ = some (.int .i64 (c : Int)) := hB4.cell 3
    have q4 : w3.cell? ⟨w.heap.size, 4, none⟩ = some (.int .i32 imm) := hB4.cell 4
    have haz : (a : Int) ≤ 31 := by omega
    have hbz : (b : Int) ≤ 31 := by omega
    have hcz : (c : Int) ≤ 31 := by omega
    have hoz : (op : Int) ≤ 255 := by omega
    go_wp2_with fail
    go_ret2
    exact ⟨congrArg (fun x => Ending.returned (Value.tuple #[Value.int .u64 x, Value.int .i64 0])) (enc_bits ho ha hb hc h1 h2), hkw3⟩
def encI (i : Ins) : Value := .agg #[.int .i64 (i.op : Int), .int .i64 (i.a : Int), .int .i64 (i.b : Int), .int .i64 (i.c : Int), .int .i32 i.imm]
def zeroI : Value := .agg #[.int .i64 0, .int .i64 0, .int .i64 0, .int .i64 0, .int .i32 0]
end
end Go.Proofs.YthfekjnekaecaaaDoor
namespace Go.Proofs.YthfekjnekaecaaaDoor
open Go.RowKit Go.Dm Go.Dm.Vm Go.Dm.Cp Go.Maps
theorem rg_stC {P : Program} {w : World} {g i : Nat} {cs : Array Value} {t ty : TypeId} {k : IntKind} {n : Int} (hB : Blk w g cs t) (hi : i < cs.size) (hs : (P.info? ty).map (·.size) = some 1) {K : World → Prop}
    (h : ∀ w', Blk w' g (cs.setIfInBounds i (.int k n)) t → Keep (fun j => j = g) w w' → w'.heap.size = w.heap.size → K w') : StGoal P ty ⟨g, i, none⟩ (.int k n) w K := by
  obtain ⟨ie, hie, his⟩ := Option.map_eq_some_iff.1 hs
  have hc : w.cell? ⟨g, i, none⟩ = some cs[i] := (hB.cell i).trans (Array.getElem?_eq_getElem hi)
  have hk : Keep (fun j => j = g) w (w.setCell ⟨g, i, none⟩ (.int k n)) := Keep.setCell (Keep.refl (fun j => j = g) w) (p := ⟨g, i, none⟩) (fun _ => rfl) _
  refine .mk (v := ()) (w' := w.setCell ⟨g, i, none⟩ (.int k n)) ?_ (h _ (hB.set _) hk (by simp))
  simp only [Instr.storeAt, Instr.sureAddr, Sem.run_bind, Sem.run_pure, Result.andThen_ok, Lib.rl_storeVar_one ty ie hie his ⟨g, i, none⟩ (.int k n) cs[i] rfl w hc (hB.frozen i)]
theorem wo_stInt {P : Program} {w : World} {o : Oper} {a : Act} {Q : Exit → Act → World → Prop} {K : Act → World → Prop} (x y : Operand) (ty : TypeId) (ho : o.op = Op.store ty x y) (p : Addr) (k : IntKind) (n : Int)
    (h1 : a.eval x = .pointer (some p)) (h2 : a.eval y = .int k n) (h : StGoal P ty p (.int k n) w fun w' => K (a.put o.dst undef) w') : o.wp P a w K Q := by
  obtain ⟨v, w', hr, hk⟩ := h
  unfold Oper.wp execOp
  simp only [ho, h1, h2, hr, Sem.run_bind, Sem.run_pure, Result.andThen_ok]
  exact hk
theorem run_ldoC {P : Program} {a : Act} {o : Oper} {w' : World} (ty : TypeId) (x : Operand) (ho : o.op = .load ty x) (b off : Nat) (hx : a.eval x = .pointer (some ⟨b, off, none⟩)) {v : Value} (h : (loadVar ty ⟨b, off, none⟩).run P w' = .ok v w') : (execOp a.eval o).run P w' = .ok (.value v) w' := by
  unfold execOp
  simp only [ho, hx, Instr.loadAt, Instr.sureAddr, Sem.run_bind, Sem.run_pure, Result.andThen_ok, h]
theorem loadX_lt (m : V) (a : Nat) {k : Nat} (hk : k < 4) : loadX m a (wid k : Nat) < 18446744073709551616 := by
  unfold loadX
  split
  · have h1 := Oc.leN_lt (readB m a ((wid k : Nat) : Int).toNat)
    rw [readB_len] at h1
    have h2 : ((wid k : Nat) : Int).toNat ≤ 8 := by
      have : k = 0 ∨ k = 1 ∨ k = 2 ∨ k = 3 := by omega
      rcases this with rfl | rfl | rfl | rfl <;> decide
    have h3 : 256 ^ ((wid k : Nat) : Int).toNat ≤ 256 ^ 8 := Nat.pow_le_pow_right (by decide) h2
    have h4 : (256 : Nat) ^ 8 = 18446744073709551616 := by decide
    omega
  · decide
theorem results_cell_cell {fn : Func} {p u : Tmp} {ty ty2 : TypeId} (h : fn.results = #[.cell p ty, .cell u ty2]) (tmps : Array Value) (P : Program) (w : World) :
    (results fn tmps).run P w = ((asAddr (tmps.getD p undef)).run P w).andThen fun a w₁ => ((loadVar ty a).run P w₁).andThen fun v w₂ => ((asAddr (tmps.getD u undef)).run P w₂).andThen fun a2 w3 => ((loadVar ty2 a2).run P w3).andThen fun v2 w4 => .ok (.tuple #[v, v2]) w4 := by
  simp only [results, h]
  simp [Sem.run_bind, Result.andThen]
theorem ret_blk_blk {P : Program} {w : World} {fn : Func} {R : Ending → World → Prop} {a : Act} {p u : Tmp} {ty ty2 t t2 : TypeId} {g g2 : Nat} {cs cs2 : Array Value} {d d2 : TypeDesc} (h : fn.results = #[.cell p ty, .cell u ty2]) (hp : a.tmps.getD p undef = .pointer (some ⟨g, 0, none⟩)) (hp2 : a.tmps.getD u undef = .pointer (some ⟨g2, 0, none⟩))
    (hB : Blk w g cs t) (hB2 : Blk w g2 cs2 t2) (hu : P.underlying ty = some d) (hd : (match d with | .struct _ | .array _ _ => true | _ => false) = true) (hi : (P.info? ty).map (·.size) = some cs.size)
    (hu2 : P.underlying ty2 = some d2) (hd2 : (match d2 with | .struct _ | .array _ _ => true | _ => false) = true) (hi2 : (P.info? ty2).map (·.size) = some cs2.size) (hdf : a.defers = []) (hR : R (.returned (.tuple #[.agg cs, .agg cs2])) w) : bodyPost P fn R .ret a w :=
  bodyPost_ret (by rw [results_cell_cell h, hp, hp2]; simp [asAddr, run_loadVar_row w g t ty cs _ d hB hu hd hi, run_loadVar_row w g2 t2 ty2 cs2 _ d2 hB2 hu2 hd2 hi2, Result.andThen]) hdf hR
theorem u64_wrap2 {imm : Int} (h1 : -2147483648 ≤ imm) (h2 : imm ≤ 2147483647) : IntKind.u64.wrap imm = (u64 imm : Int) := by
  rw [IntKind.wrap_u64]
  unfold u64
  split <;> omega
theorem u64_wrap {imm : Int} (h1 : -2147483648 ≤ imm) (h2 : imm ≤ 2147483647) : IntKind.u64.wrap (wrap64 imm) = (u64 imm : Int) := by
  rw [IntKind.wrap_u64]
  unfold wrap64 u64
  split <;> omega
def ru (x : Nat) : Value := .int .u64 (x : Int)
def cellsS (s : St) : Array Value := (s.r.map ru ++ [ru s.pc, ru s.tls]).toArray
theorem cellsS_size {s : St} (h : StOk s) : (cellsS s).size = 34 := by simp [cellsS, h.len]
theorem cellsS_one (s : St) : (cellsS s).all (·.oneCell') = true := by
  simp only [cellsS, List.all_toArray, List.all_append, List.all_map, Bool.and_eq_true, List.all_eq_true]
  exact ⟨fun _ _ => rfl, fun x hx => by simp only [List.mem_cons, List.not_mem_nil, or_false] at hx; rcases hx with rfl | rfl <;> rfl⟩
theorem cellsS_reg {s : St} (h : StOk s) {k : Nat} (hk : k < 32) : (cellsS s)[k]? = some (ru (s.reg k)) := by
  have hl : k < s.r.length := by rw [h.len]; exact hk
  simp only [cellsS, List.getElem?_toArray]
  rw [List.getElem?_append_left (by simpa using hl), List.getElem?_map, List.getElem?_eq_getElem hl]
  unfold St.reg
  rw [List.getD_eq_getElem?_getD, List.getElem?_eq_getElem hl]
  rfl
theorem cellsS_pc {s : St} (h : StOk s) : (cellsS s)[32]? = some (ru s.pc) := by
  simp only [cellsS, List.getElem?_toArray]
  rw [List.getElem?_append_right (by rw [List.length_map, h.len]; decide), List.length_map, h.len]
  rfl
theorem cellsS_tls {s : St} (h : StOk s) : (cellsS s)[33]? = some (ru s.tls) := by
  simp only [cellsS, List.getElem?_toArray]
  rw [List.getElem?_append_right (by rw [List.length_map, h.len]; decide), List.length_map, h.len]
  rfl
theorem cellsS_put {s : St} (h : StOk s) {k : Nat} (hk : k < 32) (x : Nat) : (cellsS s).setIfInBounds k (.int .u64 (x : Int)) = cellsS (s.put k x) := by
  apply Array.toList_inj.1
  simp only [cellsS, Array.toList_setIfInBounds]
  show (s.r.map ru ++ [ru s.pc, ru s.tls]).set k (ru x) = (s.r.set k x).map ru ++ [ru s.pc, ru s.tls]
  rw [List.set_append, if_pos (by rw [List.length_map, h.len]; exact hk), List.map_set]
theorem cellsS_go {s : St} (h : StOk s) (p : Nat) : (cellsS s).setIfInBounds 32 (.int .u64 (p : Int)) = cellsS (s.go p) := by
  apply Array.toList_inj.1
  simp only [cellsS, Array.toList_setIfInBounds]
  show (s.r.map ru ++ [ru s.pc, ru s.tls]).set 32 (ru p) = s.r.map ru ++ [ru p, ru s.tls]
  rw [List.set_append, if_neg (by rw [List.length_map, h.len]; decide), List.length_map, h.len]
  rfl
structure InOk (i : Ins) : Prop where
  op : isOp i.op = true
  a : i.a < 32
  b : i.b < 32
  c : i.c < 32
  lo : -2147483648 ≤ i.imm
  hi : i.imm ≤ 2147483647
section
variable {A : Nat → Prop} {w : World} {d mb : Nat} {f : Nat → Nat} {m : V}
theorem u64_sz : (Tryd.prog.info? 22).map (·.size) = some 1 := by kernel_rfl
theorem stC_sz {s : St} (h : StOk s) : (Tryd.prog.info? 35).map (·.size) = some (cellsS s).size := by rw [cellsS_size h]; kernel_rfl
end
end Go.Proofs.YthfekjnekaecaaaDoor
namespace Go.Proofs.YthfekjnekaecaaaDoor
open Go.RowKit Go.Dm Go.Dm.Vm Go.Dm.Cp Go.Dm.Tg Go.Maps
def it (x : Int) : Value := .int .i64 x
/-- the cells of an instruction that is looked at -/
def stepC (d : Nat) (t : List Int) (s : St) (i : Ins) (own : Int) (u : Value) : Array Value :=
  (ptrTo d :: (t.map it ++ (s.r.map ru ++ [ru s.pc, ru s.tls, it i.op, it i.a, it i.b, it i.c, .int .i32 i.imm, it own, u]))).toArray
section
variable {d : Nat} {t : List Int} {s : St} {i : Ins} {own : Int} {u : Value}
theorem stepC_size (ht : t.length = 32) (hs : StOk s) : (stepC d t s i own u).size = 74 := by simp [stepC, ht, hs.len]
theorem stepC_t (ht : t.length = 32) {k : Nat} (hk : k < 32) : (stepC d t s i own u)[1 + k]? = some (it (t.getD k 0)) := by
  have hl : k < t.length := by omega
  simp only [stepC, List.getElem?_toArray]
  rw [show 1 + k = k + 1 by omega, List.getElem?_cons_succ, List.getElem?_append_left (by simpa using hl), List.getElem?_map, List.getElem?_eq_getElem hl, List.getD_eq_getElem?_getD, List.getElem?_eq_getElem hl]
  rfl
theorem stepC_r (ht : t.length = 32) (hs : StOk s) {k : Nat} (hk : k < 32) : (stepC d t s i own u)[33 + k]? = some (ru (s.reg k)) := by
  have hl : k < s.r.length := by have := hs.len; omega
  simp only [stepC, List.getElem?_toArray]
  rw [show 33 + k = (32 + k) + 1 by omega, List.getElem?_cons_succ, List.getElem?_append_right (by simp; omega), List.length_map, ht, Nat.add_sub_cancel_left, List.getElem?_append_left (by simpa using hl), List.getElem?_map, List.getElem?_eq_getElem hl]
  unfold St.reg
  rw [List.getD_eq_getElem?_getD, List.getElem?_eq_getElem hl]
  rfl
theorem stepC_x (ht : t.length = 32) (hs : StOk s) (k : Nat) : (stepC d t s i own u)[65 + k]? = [ru s.pc, ru s.tls, it i.op, it i.a, it i.b, it i.c, .int .i32 i.imm, it own, u][k]? := by
  simp only [stepC, List.getElem?_toArray]
  rw [show 65 + k = (32 + (32 + k)) + 1 by omega, List.getElem?_cons_succ, List.getElem?_append_right (by simp; omega), List.length_map, ht, Nat.add_sub_cancel_left, List.getElem?_append_right (by simp [hs.len]), List.length_map, hs.len, Nat.add_sub_cancel_left]
theorem stepC_set (ht : t.length = 32) {k : Nat} (hk : k < 32) (x : Int) : (stepC d t s i own u).setIfInBounds (1 + k) (.int .i64 x) = stepC d (t.set k x) s i own u := by
  apply Array.toList_inj.1
  rw [Array.toList_setIfInBounds, show 1 + k = k + 1 by omega]
  simp only [stepC]
  rw [List.set_cons_succ, List.set_append_left _ _ (by simpa using by omega)]
  congr 2
  rw [List.map_set]
  rfl
end
/-- the cells that every operation reads -/
def Cells (w : World) (x d : Nat) (t : List Int) (s : St) (i : Ins) (own : Int) (u : Value) : Prop :=
  w.cell? ⟨x, 0, none⟩ = some (.pointer (some ⟨d, 0, none⟩)) ∧ w.cell? ⟨x, 65, none⟩ = some (.int .u64 (s.pc : Int)) ∧ w.cell? ⟨x, 67, none⟩ = some (.int .i64 (i.op : Int)) ∧
  w.cell? ⟨x, 68, none⟩ = some (.int .i64 (i.a : Int)) ∧ w.cell? ⟨x, 69, none⟩ = some (.int .i64 (i.b : Int)) ∧ w.cell? ⟨x, 70, none⟩ = some (.int .i64 (i.c : Int)) ∧ w.cell? ⟨x, 71, none⟩ = some (.int .i32 i.imm) ∧
  w.cell? ⟨x, 72, none⟩ = some (.int .i64 own) ∧ w.cell? ⟨x, 73, none⟩ = some u ∧ w.cell? ⟨x, 1 + i.a, none⟩ = some (.int .i64 (t.getD i.a 0)) ∧ w.cell? ⟨x, 1 + i.b, none⟩ = some (.int .i64 (t.getD i.b 0)) ∧ w.cell? ⟨x, 1 + i.c, none⟩ = some (.int .i64 (t.getD i.c 0)) ∧
  w.cell? ⟨x, 33 + i.a, none⟩ = some (.int .u64 (s.reg i.a : Int)) ∧ w.cell? ⟨x, 33 + i.b, none⟩ = some (.int .u64 (s.reg i.b : Int)) ∧ w.cell? ⟨x, 33 + i.c, none⟩ = some (.int .u64 (s.reg i.c : Int))
theorem cells_of {w : World} {x d : Nat} {t : List Int} {s : St} {i : Ins} {own : Int} {u : Value} (hB : Blk w x (stepC d t s i own u) 78) (ht : t.length = 32) (hs : StOk s) (hi : InOk i) : Cells w x d t s i own u := by
  have hx := fun k => (hB.cell (65 + k)).trans (stepC_x ht hs k)
  exact ⟨(hB.cell 0).trans rfl, hx 0, hx 2, hx 3, hx 4, hx 5, hx 6, hx 7, hx 8, (hB.cell _).trans (stepC_t ht hi.a), (hB.cell _).trans (stepC_t ht hi.b), (hB.cell _).trans (stepC_t ht hi.c), (hB.cell _).trans (stepC_r ht hs hi.a), (hB.cell _).trans (stepC_r ht hs hi.b), (hB.cell _).trans (stepC_r ht hs hi.c)⟩
section
variable {A B S : Nat → Prop} {w w' : World} {d mb x : Nat} {v : Value} {L : Lg}
set_option maxRecDepth 100000 in
set_option maxHeartbeats 4000000 in
theorem tinside_any (t : List Int) (s : St) (i : Ins) (own : Int) (u : Value) (hB : Blk w x (stepC d t s i own u) 78) (ht : t.length = 32) (hs : StOk s) (hi : InOk i) (h : LRep A w d L v mb) (hA : ∀ k, A k → k < w.heap.size) :
    Calls Tryd.prog 50 #[ptrTo x] w fun e w' => e = .returned (.bool (insideM L s i own)) ∧ Keep No w w' := by
  obtain ⟨p0, p1, p2, p3, p4, p5, p6, p7, p8, -⟩ := cells_of hB ht hs hi
  have hx := hB.lt
  have himm := u64_wrap hi.lo hi.hi
  have himm2 := u64_wrap2 hi.lo hi.hi
  have hul := u64_lt hi.lo hi.hi
  have hpc := hs.pc
  have hadd := add_wrap s.pc (u64 i.imm)
  have hlt := add_lt s.pc (u64 i.imm)
  have hw := twithin_any (w := w.drew) (add s.pc (u64 i.imm)) 1 own hlt (by decide) (h.no hA (Keep.refl No w).drew)
  rw [show ((1 : Nat) : Int) = 1 from rfl] at hw
  have hin : insideM L s i own = withinM L (add s.pc (u64 i.imm)) 1 own := rfl
  rw [hin]
  have ilo := hi.lo
  have ihi := hi.hi
  clear hin hi hs hB h
  generalize add s.pc (u64 i.imm) = at_ at *
  generalize withinM L at_ 1 own = r at *
  generalize s.pc = pc at *
  generalize u64 i.imm = um at *
  generalize i.imm = imm at *
  have q0 : w.drew.cell? ⟨x, 0, none⟩ = some (.pointer (some ⟨d, 0, none⟩)) := p0
  have q1 : w.drew.cell? ⟨x, 65, none⟩ = some (.int .u64 (pc : Int)) := p1
  have q2 : w.drew.cell? ⟨x, 71, none⟩ = some (.int .i32 imm) := p6
  have q3 : w.drew.cell? ⟨x, 72, none⟩ = some (.int .i64 own) := p7
  clear p0 p1 p2 p3 p4 p5 p6 p7 p8
  unfold ptrTo at *
  go_enter Tryd.func50, Tryd.ntmps50
  go_wp2_with fail
  refine wp_region_sig (fun w' => w'.cell? ⟨x, 0, none⟩ = some (.pointer (some ⟨d, 0, none⟩)) ∧ w'.cell? ⟨x, 65, none⟩ = some (.int .u64 (pc : Int)) ∧ w'.cell? ⟨x, 71, none⟩ = some (.int .i32 imm) ∧ w'.cell? ⟨x, 72, none⟩ = some (.int .i64 own)) (fun j => decide (j ≤ 99)) [(0, true), (1, true), (2, true), (3, true), (4, true), (5, true), (6, true), (7, true), (8, true), (9, true), (10, true), (11, true), (12, true), (13, true), (14, true), (15, true), (16, true), (17, true), (18, true), (19, true), (20, true), (21, false), (22, true)] (by kernel_rfl) (by kernel_rfl) (by intro c a d v w h; cases d <;> exact h) ⟨q0, q1, q2, q3⟩ ?_
  apply sig_still (o := ⟨some 3, _, _, _, _, _⟩) rfl rfl
  · intro w' hS
    obtain ⟨q1, q2, q3, q4⟩ := hS
    first | (go_simp; done) | (go_simp; rfl) | rfl
  go_frame
  apply sig_still (o := ⟨some 4, _, _, _, _, _⟩) rfl rfl
  · intro w' hS
    obtain ⟨q1, q2, q3, q4⟩ := hS
    first | (go_simp; done) | (go_simp; rfl) | rfl
  go_frame
  apply sig_still (o := ⟨some 5, _, _, _, _, _⟩) rfl rfl
  · intro w' hS
    obtain ⟨q1, q2, q3, q4⟩ := hS
    first | (go_simp; done) | (go_simp; rfl) | rfl
  go_frame
  apply sig_still (o := ⟨some 6, _, _, _, _, _⟩) rfl rfl
  · intro w' hS
    obtain ⟨q1, q2, q3, q4⟩ := hS
    first | (go_simp; done) | (go_simp; rfl) | rfl
  go_frame
  apply sig_still (o := ⟨some 7, _, _, _, _, _⟩) rfl rfl
  · intro w' hS
    obtain ⟨q1, q2, q3, q4⟩ := hS
    first | (go_simp; done) | (go_simp; rfl) | rfl
  go_frame
  apply sig_still (o := ⟨some 8, _, _, _, _, _⟩) rfl rfl
  · intro w' hS
    obtain ⟨q1, q2, q3, q4⟩ := hS
    first | (go_simp; done) | (go_simp; rfl) | rfl
  go_frame
  apply sig_still (o := ⟨some 9, _, _, _, _, _⟩) rfl rfl
  · intro w' hS
    obtain ⟨q1, q2, q3, q4⟩ := hS
    first | (go_simp; done) | (go_simp; rfl) | rfl
  go_frame
  apply sig_still (o := ⟨some 10, _, _, _, _, _⟩) rfl rfl
  · intro w' hS
    obtain ⟨q1, q2, q3, q4⟩ := hS
    first | (go_simp; done) | (go_simp; rfl) | rfl
  go_frame
  apply sig_still (o := ⟨some 11, _, _, _, _, _⟩) rfl rfl
  · intro w' hS
    obtain ⟨q1, q2, q3, q4⟩ := hS
    first | (go_simp; done) | (go_simp; rfl) | rfl
  go_frame
  apply sig_still (o := ⟨some 12, _, _, _, _, _⟩) rfl rfl
  · intro w' hS
    obtain ⟨q1, q2, q3, q4⟩ := hS
    first | (go_simp; done) | (go_simp; rfl) | rfl
  go_frame
  apply sig_still (o := ⟨some 13, _, _, _, _, _⟩) rfl rfl
  · intro w' hS
    obtain ⟨q1, q2, q3, q4⟩ := hS
    first | (go_simp; done) | (go_simp; rfl) | rfl
  go_frame
  apply sig_still (o := ⟨some 14, _, _, _, _, _⟩) rfl rfl
  · intro w' hS
    obtain ⟨q1, q2, q3, q4⟩ := hS
    first | (go_simp; done) | (go_simp; rfl) | rfl
  go_frame
  apply sig_still (o := ⟨some 15, _, _, _, _, _⟩) rfl rfl
  · intro w' hS
    obtain ⟨q1, q2, q3, q4⟩ := hS
    first | (go_simp; done) | (go_simp; rfl) | rfl
  go_frame
  apply sig_still (o := ⟨some 16, _, _, _, _, _⟩) rfl rfl
  · intro w' hS
    obtain ⟨q1, q2, q3, q4⟩ := hS
    first | (go_simp; done) | (go_simp; rfl) | rfl
  go_frame
  apply sig_still (o := ⟨some 17, _, _, _, _, _⟩) rfl rfl
  · intro w' hS
    obtain ⟨q1, q2, q3, q4⟩ := hS
    first | (go_simp; done) | (go_simp; rfl) | rfl
  go_frame
  apply sig_still (o := ⟨some 18, _, _, _, _, _⟩) rfl rfl
  · intro w' hS
    obtain ⟨q1, q2, q3, q4⟩ := hS
    first | (go_simp; done) | (go_simp; rfl) | rfl
  go_frame
  apply sig_still (o := ⟨some 19, _, _, _, _, _⟩) rfl rfl
  · intro w' hS
    obtain ⟨q1, q2, q3, q4⟩ := hS
    first | (go_simp; done) | (go_simp; rfl) | rfl
  go_frame
  apply sig_still (o := ⟨some 20, _, _, _, _, _⟩) rfl rfl
  · intro w' hS
    obtain ⟨q1, q2, q3, q4⟩ := hS
    first | (go_simp; done) | (go_simp; rfl) | rfl
  go_frame
  apply sig_still (o := ⟨some 21, _, _, _, _, _⟩) rfl rfl
  · intro w' hS
    obtain ⟨q1, q2, q3, q4⟩ := hS
    first | (go_simp; done) | (go_simp; rfl) | rfl
  go_frame
  apply sig_still (o := ⟨some 22, _, _, _, _, _⟩) rfl rfl
  · intro w' hS
    obtain ⟨q1, q2, q3, q4⟩ := hS
    first | (go_simp; done) | (go_simp; rfl) | rfl
  go_frame
  apply sig_still (o := ⟨some 23, _, _, _, _, _⟩) rfl rfl
  · intro w' hS
    obtain ⟨q1, q2, q3, q4⟩ := hS
    first | (go_simp; done) | (go_simp; rfl) | rfl
  go_frame
  refine sig_eff (o := ⟨some 24, _, _, _, _, _⟩) rfl rfl (fun K hKe => ?_)
  go_wp2_with fail
  rw [himm2, hadd]
  refine hw.mono ?_
  rintro e W ⟨rfl, hk⟩
  have hc := fun p hp => hk.cell (p := ⟨x, p, none⟩) hp fun h => h
  refine hKe _ _ ⟨fun _ => ⟨(hc _ hx).trans q0, (hc _ hx).trans q1, (hc _ hx).trans q2, (hc _ hx).trans q3⟩, ?_⟩
  apply sig_still (o := ⟨some 2, _, _, _, _, _⟩) rfl rfl
  · intro w' hS
    obtain ⟨q1, q2, q3, q4⟩ := hS
    first | (go_simp; done) | (go_simp; rfl) | rfl
  go_frame
  refine sig_nil ?_
  go_wp2_with fail
  go_ret
  exact ⟨rfl, (Keep.refl No w).drew.trans' hk⟩
end
end Go.Proofs.YthfekjnekaecaaaDoor
namespace Go.Proofs.YthfekjnekaecaaaDoor
open Go.RowKit Go.Dm Go.Dm.Vm Go.Dm.Cp Go.Dm.Tg Go.Maps
section
variable {A B S : Nat → Prop} {w w' : World} {d mb x : Nat} {v : Value} {L : Lg}
set_option maxRecDepth 100000 in
set_option maxHeartbeats 4000000 in
theorem treckon_any (t : List Int) (s : St) (i : Ins) (own : Int) (u : Value) (hB : Blk w x (stepC d t s i own u) 78) (ht : TsOk L t) (hs : StOk s) (hi : InOk i) (hop : 3 ≤ i.op ∧ i.op ≤ 15) (h : LRep A w d L v mb) (hA : ∀ k, A k → k < w.heap.size) :
    Calls Tryd.prog 48 #[ptrTo x] w fun e w' => e = .returned (.tuple #[.int .i64 (reckM L t s i).1, .bool (reckM L t s i).2]) ∧ Keep No w w' := by
  obtain ⟨p0, p1, p2, p3, p4, p5, p6, p7, p8, p9, p10, p11, p12, p13, p14⟩ := cells_of hB ht.len hs hi
  have hx := hB.lt
  have hln := h.ok.ln
  have hta := ht.tg i.a
  have htb := ht.tg i.b
  have htc := ht.tg i.c
  have haz : (i.a : Int) < 32 := by have := hi.a; omega
  have hbz : (i.b : Int) < 32 := by have := hi.b; omega
  have hcz : (i.c : Int) < 32 := by have := hi.c; omega
  have hra := hs.reg i.a
  have hrb := hs.reg i.b
  have hrc := hs.reg i.c
  have hcmp := fun W (hk : Keep No w W) => tcomp_any (w := W) (s.reg i.b) (s.reg i.c) (t.getD i.b 0) (t.getD i.c 0) htb hrb hrc (h.no hA hk)
  have hrm : reckM L t s i = if i.op = 3 then (t.getD i.b 0 + t.getD i.c 0, decide (t.getD i.b 0 = 0 ∨ t.getD i.c 0 = 0))
    else if i.op = 4 then if t.getD i.b 0 = t.getD i.c 0 then (0, true) else (t.getD i.b 0, decide (t.getD i.c 0 = 0))
    else if i.op = 14 ∨ i.op = 15 then (0, compM L (s.reg i.b) (s.reg i.c) (t.getD i.b 0) (t.getD i.c 0))
    else (0, decide (t.getD i.b 0 = 0 ∧ t.getD i.c 0 = 0)) := rfl
  generalize reckM L t s i = R at *
  have HR := Lib.hid hrm
  clear hrm hta haz p1 p3 p6 p7 p8 p9 p12 hra hi hs hB h ht
  have HC := Lib.hid hcmp
  clear hcmp
  generalize compM L (s.reg i.b) (s.reg i.c) (t.getD i.b 0) (t.getD i.c 0) = cm at *
  generalize t.getD i.b 0 = tb at *
  generalize t.getD i.c 0 = tc at *
  generalize s.reg i.b = rb at *
  generalize s.reg i.c = rc at *
  generalize i.op = op at *
  generalize i.b = b at *
  generalize i.c = c at *
  unfold ptrTo at *
  go_enter Tryd.func48, Tryd.ntmps48
  go_wp2_with fail
  go_quiet (fail)
  generalize hwq : w.drewN nq = W
  have hkW : Keep No w W := hwq ▸ (Keep.refl No w).drewN nq
  have p2 : W.cell? ⟨x, 67, none⟩ = some (.int .i64 (op : Int)) := (hkW.cell (p := ⟨x, 67, none⟩) hx fun h => h).trans p2
  have hcm := HC.out W.drew (hkW.trans' (Keep.refl No W).drew)
  have q0 : W.drew.cell? ⟨x, 0, none⟩ = some (.pointer (some ⟨d, 0, none⟩)) := (hkW.cell (p := ⟨x, 0, none⟩) hx fun h => h).trans p0
  have q1 : W.drew.cell? ⟨x, 69, none⟩ = some (.int .i64 (b : Int)) := (hkW.cell (p := ⟨x, 69, none⟩) hx fun h => h).trans p4
  have q2 : W.drew.cell? ⟨x, 70, none⟩ = some (.int .i64 (c : Int)) := (hkW.cell (p := ⟨x, 70, none⟩) hx fun h => h).trans p5
  have q3 : W.drew.cell? ⟨x, 33 + b, none⟩ = some (.int .u64 (rb : Int)) := (hkW.cell (p := ⟨x, 33 + b, none⟩) hx fun h => h).trans p13
  have q4 : W.drew.cell? ⟨x, 33 + c, none⟩ = some (.int .u64 (rc : Int)) := (hkW.cell (p := ⟨x, 33 + c, none⟩) hx fun h => h).trans p14
  have hxW : x < W.drew.heap.size := Nat.lt_of_lt_of_le hx hkW.size
  clear p0 p4 p5 p10 p11 p13 p14 hwq HC
  by_cases h3 : op = 3
  · subst h3
    rw [if_pos rfl] at HR
    clear hcm q0 q1 q2 q3 q4
    by_cases hb0 : tb = 0
    · subst hb0
      rw [decide_eq_true (.inl rfl), Int.zero_add] at HR
      go_wp2_with fail
      go_ret2
      rw [HR.out]
      exact ⟨rfl, hkW⟩
    · have hbz : (tb == 0) = false := by simpa using hb0
      by_cases hc0 : tc = 0
      · subst hc0
        rw [decide_eq_true (.inr rfl), Int.add_zero] at HR
        go_wp2_with fail
        go_ret2
        rw [HR.out]
        exact ⟨rfl, hkW⟩
      · have hcz : (tc == 0) = false := by simpa using hc0
        rw [decide_eq_false (by omega)] at HR
        go_wp2_with fail
        go_ret2
        rw [HR.out]
        exact ⟨rfl, hkW⟩
  · rw [if_neg h3] at HR
    have n3 : ((op : Int) == 3) = false := by simp; omega
    by_cases h4 : op = 4
    · subst h4
      rw [if_pos rfl] at HR
      clear hcm q0 q1 q2 q3 q4
      by_cases hbc : tb = tc
      · subst hbc
        rw [if_pos rfl] at HR
        go_wp2_with fail
        go_ret2
        rw [HR.out]
        exact ⟨rfl, hkW⟩
      · rw [if_neg hbc] at HR
        have hbz : (tb == tc) = false := by simpa using hbc
        by_cases hc0 : tc = 0
        · subst hc0
          rw [decide_eq_true rfl] at HR
          go_wp2_with fail
          go_ret2
          rw [HR.out]
          exact ⟨rfl, hkW⟩
        · have hcz : (tc == 0) = false := by simpa using hc0
          rw [decide_eq_false hc0] at HR
          go_wp2_with fail
          go_ret2
          rw [HR.out]
          exact ⟨rfl, hkW⟩
    · rw [if_neg h4] at HR
      have n4 : ((op : Int) == 4) = false := by simp; omega
      by_cases h14 : op = 14 ∨ op = 15
      · rw [if_pos h14] at HR
        rcases h14 with rfl | rfl
        all_goals
          go_wp2_with fail
          refine wp_region_sig (fun w' => w'.cell? ⟨x, 0, none⟩ = some (.pointer (some ⟨d, 0, none⟩)) ∧ w'.cell? ⟨x, 69, none⟩ = some (.int .i64 (b : Int)) ∧ w'.cell? ⟨x, 70, none⟩ = some (.int .i64 (c : Int)) ∧ w'.cell? ⟨x, 33 + b, none⟩ = some (.int .u64 (rb : Int)) ∧ w'.cell? ⟨x, 33 + c, none⟩ = some (.int .u64 (rc : Int))) (fun j => decide (j ≤ 99)) [(0, true), (1, true), (2, true), (3, true), (4, true), (5, true), (6, true), (7, true), (8, true), (9, true), (10, true), (11, true), (12, true), (13, true), (14, true), (15, true), (16, true), (17, true), (18, true), (19, true), (20, true), (21, true), (22, true), (23, true), (24, true), (25, true), (26, true), (27, true), (28, false), (29, true), (30, true)] (by kernel_rfl) (by kernel_rfl) (by intro c a d v w h; cases d <;> exact h) ⟨q0, q1, q2, q3, q4⟩ ?_
          apply sig_still (o := ⟨some 53, _, _, _, _, _⟩) rfl rfl
          · intro w' hS
            obtain ⟨q1, q2, q3, q4, q5⟩ := hS
            first | (go_simp; done) | (go_simp; rfl) | rfl
          go_frame
          apply sig_still (o := ⟨some 54, _, _, _, _, _⟩) rfl rfl
          · intro w' hS
            obtain ⟨q1, q2, q3, q4, q5⟩ := hS
            first | (go_simp; done) | (go_simp; rfl) | rfl
          go_frame
          apply sig_still (o := ⟨some 55, _, _, _, _, _⟩) rfl rfl
          · intro w' hS
            obtain ⟨q1, q2, q3, q4, q5⟩ := hS
            first | (go_simp; done) | (go_simp; rfl) | rfl
          go_frame
          apply sig_still (o := ⟨some 56, _, _, _, _, _⟩) rfl rfl
          · intro w' hS
            obtain ⟨q1, q2, q3, q4, q5⟩ := hS
            first | (go_simp; done) | (go_simp; rfl) | rfl
          go_frame
          apply sig_still (o := ⟨some 57, _, _, _, _, _⟩) rfl rfl
          · intro w' hS
            obtain ⟨q1, q2, q3, q4, q5⟩ := hS
            first | (go_simp; done) | (go_simp; rfl) | rfl
          go_frame
          apply sig_still (o := ⟨some 58, _, _, _, _, _⟩) rfl rfl
          · intro w' hS
            obtain ⟨q1, q2, q3, q4, q5⟩ := hS
            first | (go_simp; done) | (go_simp; rfl) | rfl
          go_frame
          apply sig_still (o := ⟨some 59, _, _, _, _, _⟩) rfl rfl
          · intro w' hS
            obtain ⟨q1, q2, q3, q4, q5⟩ := hS
            first | (go_simp; done) | (go_simp; rfl) | rfl
          go_frame
          apply sig_still (o := ⟨some 60, _, _, _, _, _⟩) rfl rfl
          · intro w' hS
            obtain ⟨q1, q2, q3, q4, q5⟩ := hS
            first | (go_simp; done) | (go_simp; rfl) | rfl
          go_frame
          apply sig_still (o := ⟨some 61, _, _, _, _, _⟩) rfl rfl
          · intro w' hS
            obtain ⟨q1, q2, q3, q4, q5⟩ := hS
            first | (go_simp; done) | (go_simp; rfl) | rfl
          go_frame
          apply sig_still (o := ⟨some 62, _, _, _, _, _⟩) rfl rfl
          · intro w' hS
            obtain ⟨q1, q2, q3, q4, q5⟩ := hS
            first | (go_simp; done) | (go_simp; rfl) | rfl
          go_frame
          apply sig_still (o := ⟨some 63, _, _, _, _, _⟩) rfl rfl
          · intro w' hS
            obtain ⟨q1, q2, q3, q4, q5⟩ := hS
            first | (go_simp; done) | (go_simp; rfl) | rfl
          go_frame
          apply sig_still (o := ⟨some 64, _, _, _, _, _⟩) rfl rfl
          · intro w' hS
            obtain ⟨q1, q2, q3, q4, q5⟩ := hS
            first | (go_simp; done) | (go_simp; rfl) | rfl
          go_frame
          apply sig_still (o := ⟨some 65, _, _, _, _, _⟩) rfl rfl
          · intro w' hS
            obtain ⟨q1, q2, q3, q4, q5⟩ := hS
            first | (go_simp; done) | (go_simp; rfl) | rfl
          go_frame
          apply sig_still (o := ⟨some 66, _, _, _, _, _⟩) rfl rfl
          · intro w' hS
            obtain ⟨q1, q2, q3, q4, q5⟩ := hS
            first | (go_simp; done) | (go_simp; rfl) | rfl
          go_frame
          apply sig_still (o := ⟨some 67, _, _, _, _, _⟩) rfl rfl
          · intro w' hS
            obtain ⟨q1, q2, q3, q4, q5⟩ := hS
            first | (go_simp; done) | (go_simp; rfl) | rfl
          go_frame
          apply sig_still (o := ⟨some 68, _, _, _, _, _⟩) rfl rfl
          · intro w' hS
            obtain ⟨q1, q2, q3, q4, q5⟩ := hS
            first | (go_simp; done) | (go_simp; rfl) | rfl
          go_frame
          apply sig_still (o := ⟨some 69, _, _, _, _, _⟩) rfl rfl
          · intro w' hS
            obtain ⟨q1, q2, q3, q4, q5⟩ := hS
            first | (go_simp; done) | (go_simp; rfl) | rfl
          go_frame
          apply sig_still (o := ⟨some 70, _, _, _, _, _⟩) rfl rfl
          · intro w' hS
            obtain ⟨q1, q2, q3, q4, q5⟩ := hS
            first | (go_simp; done) | (go_simp; rfl) | rfl
          go_frame
          apply sig_still (o := ⟨some 71, _, _, _, _, _⟩) rfl rfl
          · intro w' hS
            obtain ⟨q1, q2, q3, q4, q5⟩ := hS
            first | (go_simp; done) | (go_simp; rfl) | rfl
          go_frame
          apply sig_still (o := ⟨some 72, _, _, _, _, _⟩) rfl rfl
          · intro w' hS
            obtain ⟨q1, q2, q3, q4, q5⟩ := hS
            first | (go_simp; done) | (go_simp; rfl) | rfl
          go_frame
          apply sig_still (o := ⟨some 73, _, _, _, _, _⟩) rfl rfl
          · intro w' hS
            obtain ⟨q1, q2, q3, q4, q5⟩ := hS
            first | (go_simp; done) | (go_simp; rfl) | rfl
          go_frame
          apply sig_still (o := ⟨some 74, _, _, _, _, _⟩) rfl rfl
          · intro w' hS
            obtain ⟨q1, q2, q3, q4, q5⟩ := hS
            first | (go_simp; done) | (go_simp; rfl) | rfl
          go_frame
          apply sig_still (o := ⟨some 75, _, _, _, _, _⟩) rfl rfl
          · intro w' hS
            obtain ⟨q1, q2, q3, q4, q5⟩ := hS
            first | (go_simp; done) | (go_simp; rfl) | rfl
          go_frame
          apply sig_still (o := ⟨some 76, _, _, _, _, _⟩) rfl rfl
          · intro w' hS
            obtain ⟨q1, q2, q3, q4, q5⟩ := hS
            first | (go_simp; done) | (go_simp; rfl) | rfl
          go_frame
          apply sig_still (o := ⟨some 77, _, _, _, _, _⟩) rfl rfl
          · intro w' hS
            obtain ⟨q1, q2, q3, q4, q5⟩ := hS
            first | (go_simp; done) | (go_simp; rfl) | rfl
          go_frame
          apply sig_still (o := ⟨some 78, _, _, _, _, _⟩) rfl rfl
          · intro w' hS
            obtain ⟨q1, q2, q3, q4, q5⟩ := hS
            first | (go_simp; done) | (go_simp; rfl) | rfl
          go_frame
          apply sig_still (o := ⟨some 79, _, _, _, _, _⟩) rfl rfl
          · intro w' hS
            obtain ⟨q1, q2, q3, q4, q5⟩ := hS
            first | (go_simp; done) | (go_simp; rfl) | rfl
          go_frame
          apply sig_still (o := ⟨some 80, _, _, _, _, _⟩) rfl rfl
          · intro w' hS
            obtain ⟨q1, q2, q3, q4, q5⟩ := hS
            first | (go_simp; done) | (go_simp; rfl) | rfl
          go_frame
          refine sig_eff (o := ⟨some 81, _, _, _, _, _⟩) rfl rfl (fun K hKe => ?_)
          go_wp2_with fail
          refine hcm.mono ?_
          rintro e W2 ⟨rfl, hk⟩
          have hc := fun p => hk.cell (p := ⟨x, p, none⟩) hxW fun h => h
          refine hKe _ _ ⟨fun _ => ⟨(hc _).trans q0, (hc _).trans q1, (hc _).trans q2, (hc _).trans q3, (hc _).trans q4⟩, ?_⟩
          apply sig_still (o := ⟨some 2, _, _, _, _, _⟩) rfl rfl
          · intro w' hS
            obtain ⟨q1, q2, q3, q4, q5⟩ := hS
            first | (go_simp; done) | (go_simp; rfl) | rfl
          go_frame
          apply sig_still (o := ⟨some 3, _, _, _, _, _⟩) rfl rfl
          · intro w' hS
            obtain ⟨q1, q2, q3, q4, q5⟩ := hS
            first | (go_simp; done) | (go_simp; rfl) | rfl
          go_frame
          refine sig_nil ?_
          go_wp2_with fail
          go_ret2
          rw [HR.out]
          exact ⟨rfl, hkW.trans' ((Keep.refl No W).drew.trans' hk)⟩
      · rw [if_neg h14] at HR
        have n14 : ((op : Int) == 14) = false := by simp; omega
        have n15 : ((op : Int) == 15) = false := by simp; omega
        clear hcm q0 q1 q2 q3 q4
        by_cases hb0 : tb = 0
        · subst hb0
          by_cases hc0 : tc = 0
          · subst hc0
            rw [decide_eq_true ⟨rfl, rfl⟩] at HR
            go_wp2_with fail
            go_ret2
            rw [HR.out]
            exact ⟨rfl, hkW⟩
          · have hcz : (tc == 0) = false := by simpa using hc0
            rw [decide_eq_false (by omega)] at HR
            go_wp2_with fail
            go_ret2
            rw [HR.out]
            exact ⟨rfl, hkW⟩
        · have hbz : (tb == 0) = false := by simpa using hb0
          rw [decide_eq_false (by omega)] at HR
          go_wp2_with fail
          go_ret2
          rw [HR.out]
          exact ⟨rfl, hkW⟩
end
end Go.Proofs.YthfekjnekaecaaaDoor
