/- cpu: a processor's registers in memory; memory, do. No condition. -/
import Derived.Test.YtaoillfofiehpaaGreatDoorCpu8
import Derived.Test.YtaoillfofiehpaaGreatDoorOct
import Derived.Test.YtaoillfofiehpaaGreatDoorVmP
import Derived.Lib.ReflectliteSwap
import Derived.Deep.QuietTactic
import Derived.BigQuiet
set_option linter.unusedVariables false
set_option linter.unusedSimpArgs false
namespace Go.Proofs.YtaoillfofiehpaaGreatDoor
open Go.RowKit Go.Dm Go.Dm.Vm Go.Dm.Cp Go.Maps
theorem rg_stC {P : Program} {w : World} {g i : Nat} {cs : Array Value} {t ty : TypeId} {k : IntKind} {n : Int} (hB : Blk w g cs t) (hi : i < cs.size) (hs : (P.info? ty).map (·.size) = some 1) {K : World → Prop}
    (h : ∀ w', Blk w' g (cs.setIfInBounds i (.int k n)) t → Keep (fun j => j = g) w w' → w'.heap.size = w.heap.size → K w') : StGoal P ty ⟨g, i, none⟩ (.int k n) w K := by
  obtain ⟨ie, hie, his⟩ := Option.map_eq_some_iff.1 hs
  have hc : w.cell? ⟨g, i, none⟩ = some cs[i] := (hB.cell i).trans (Array.getElem?_eq_getElem hi)
  have hk : Keep (fun j => j = g) w (w.setCell ⟨g, i, none⟩ (.int k n)) := Keep.setCell (Keep.refl (fun j => j = g) w) (p := ⟨g, i, none⟩) (fun _ => rfl) _
  refine .mk (v := ()) (w' := w.setCell ⟨g, i, none⟩ (.int k n)) ?_ (h _ (hB.set _) hk (by simp))
  simp only [Instr.storeAt, Instr.sureAddr, Sem.run_bind, Sem.run_pure, Result.andThen_ok, Lib.rl_storeVar_one ty ie hie his ⟨g, i, none⟩ (.int k n) cs[i] rfl w hc (hB.frozen i)]
theorem wo_stInt {P : Program} {w : World} {o : Oper} {a : Act} {Q : Exit → Act → World → Prop} {K : Act → World → Prop} (x y : Operand) (ty : TypeId) (ho : o.op = Op.store ty x y) (p : Addr) (k : IntKind) (n : Int)
    (h1 : a.eval x = .pointer (some p)) (h2 : a.eval y = .int k n) (h : StGoal P ty p (.int k n) w fun w' => K (a.put o.dst undef) w') : o.wp P a w K Q := by
  obtain ⟨v, w', hr, hk⟩ := h
  unfold Oper.wp execOp
  simp only [ho, h1, h2, hr, Sem.run_bind, Sem.run_pure, Result.andThen_ok]
  exact hk
theorem run_ldoC {P : Program} {a : Act} {o : Oper} {w' : World} (ty : TypeId) (x : Operand) (ho : o.op = .load ty x) (b off : Nat) (hx : a.eval x = .pointer (some ⟨b, off, none⟩)) {v : Value} (h : (loadVar ty ⟨b, off, none⟩).run P w' = .ok v w') : (execOp a.eval o).run P w' = .ok (.value v) w' := by
  unfold execOp
  simp only [ho, hx, Instr.loadAt, Instr.sureAddr, Sem.run_bind, Sem.run_pure, Result.andThen_ok, h]
theorem loadX_lt (m : V) (a : Nat) {k : Nat} (hk : k < 4) : loadX m a (wid k : Nat) < 18446744073709551616 := by
  unfold loadX
  split
  · have h1 := Oc.leN_lt (readB m a ((wid k : Nat) : Int).toNat)
    rw [readB_len] at h1
    have h2 : ((wid k : Nat) : Int).toNat ≤ 8 := by
      have : k = 0 ∨ k = 1 ∨ k = 2 ∨ k = 3 := by omega
      rcases this with rfl | rfl | rfl | rfl <;> decide
    have h3 : 256 ^ ((wid k : Nat) : Int).toNat ≤ 256 ^ 8 := Nat.pow_le_pow_right (by decide) h2
    have h4 : (256 : Nat) ^ 8 = 18446744073709551616 := by decide
    omega
  · decide
theorem results_cell_cell {fn : Func} {p u : Tmp} {ty ty2 : TypeId} (h : fn.results = #[.cell p ty, .cell u ty2]) (tmps : Array Value) (P : Program) (w : World) :
    (results fn tmps).run P w = ((asAddr (tmps.getD p undef)).run P w).andThen fun a w₁ => ((loadVar ty a).run P w₁).andThen fun v w₂ => ((asAddr (tmps.getD u undef)).run P w₂).andThen fun a2 w3 => ((loadVar ty2 a2).run P w3).andThen fun v2 w4 => .ok (.tuple #[v, v2]) w4 := by
  simp only [results, h]
  simp [Sem.run_bind, Result.andThen]
theorem ret_blk_blk {P : Program} {w : World} {fn : Func} {R : Ending → World → Prop} {a : Act} {p u : Tmp} {ty ty2 t t2 : TypeId} {g g2 : Nat} {cs cs2 : Array Value} {d d2 : TypeDesc} (h : fn.results = #[.cell p ty, .cell u ty2]) (hp : a.tmps.getD p undef = .pointer (some ⟨g, 0, none⟩)) (hp2 : a.tmps.getD u undef = .pointer (some ⟨g2, 0, none⟩))
    (hB : Blk w g cs t) (hB2 : Blk w g2 cs2 t2) (hu : P.underlying ty = some d) (hd : (match d with | .struct _ | .array _ _ => true | _ => false) = true) (hi : (P.info? ty).map (·.size) = some cs.size)
    (hu2 : P.underlying ty2 = some d2) (hd2 : (match d2 with | .struct _ | .array _ _ => true | _ => false) = true) (hi2 : (P.info? ty2).map (·.size) = some cs2.size) (hdf : a.defers = []) (hR : R (.returned (.tuple #[.agg cs, .agg cs2])) w) : bodyPost P fn R .ret a w :=
  bodyPost_ret (by rw [results_cell_cell h, hp, hp2]; simp [asAddr, run_loadVar_row w g t ty cs _ d hB hu hd hi, run_loadVar_row w g2 t2 ty2 cs2 _ d2 hB2 hu2 hd2 hi2, Result.andThen]) hdf hR
theorem u64_wrap2 {imm : Int} (h1 : -2147483648 ≤ imm) (h2 : imm ≤ 2147483647) : IntKind.u64.wrap imm = (u64 imm : Int) := by
  rw [IntKind.wrap_u64]
  unfold u64
  split <;> omega
theorem u64_wrap {imm : Int} (h1 : -2147483648 ≤ imm) (h2 : imm ≤ 2147483647) : IntKind.u64.wrap (wrap64 imm) = (u64 imm : Int) := by
  rw [IntKind.wrap_u64]
  unfold wrap64 u64
  split <;> omega
def ru (x : Nat) : Value := .int .u64 (x : Int)
def cellsS (s : St) : Array Value := (s.r.map ru ++ [ru s.pc, ru s.tls]).toArray
theorem cellsS_size {s : St} (h : StOk s) : (cellsS s).size = 34 := by simp [cellsS, h.len]
theorem cellsS_one (s : St) : (cellsS s).all (·.oneCell') = true := by
  simp only [cellsS, List.all_toArray, List.all_append, List.all_map, Bool.and_eq_true, List.all_eq_true]
  exact ⟨fun _ _ => rfl, fun x hx => by simp only [List.mem_cons, List.not_mem_nil, or_false] at hx; rcases hx with rfl | rfl <;> rfl⟩
theorem cellsS_reg {s : St} (h : StOk s) {k : Nat} (hk : k < 32) : (cellsS s)[k]? = some (ru (s.reg k)) := by
  have hl : k < s.r.length := by rw [h.len]; exact hk
  simp only [cellsS, List.getElem?_toArray]
  rw [List.getElem?_append_left (by simpa using hl), List.getElem?_map, List.getElem?_eq_getElem hl]
  unfold St.reg
  rw [List.getD_eq_getElem?_getD, List.getElem?_eq_getElem hl]
  rfl
theorem cellsS_pc {s : St} (h : StOk s) : (cellsS s)[32]? = some (ru s.pc) := by
  simp only [cellsS, List.getElem?_toArray]
  rw [List.getElem?_append_right (by rw [List.length_map, h.len]; decide), List.length_map, h.len]
  rfl
theorem cellsS_tls {s : St} (h : StOk s) : (cellsS s)[33]? = some (ru s.tls) := by
  simp only [cellsS, List.getElem?_toArray]
  rw [List.getElem?_append_right (by rw [List.length_map, h.len]; decide), List.length_map, h.len]
  rfl
theorem cellsS_put {s : St} (h : StOk s) {k : Nat} (hk : k < 32) (x : Nat) : (cellsS s).setIfInBounds k (.int .u64 (x : Int)) = cellsS (s.put k x) := by
  apply Array.toList_inj.1
  simp only [cellsS, Array.toList_setIfInBounds]
  show (s.r.map ru ++ [ru s.pc, ru s.tls]).set k (ru x) = (s.r.set k x).map ru ++ [ru s.pc, ru s.tls]
  rw [List.set_append, if_pos (by rw [List.length_map, h.len]; exact hk), List.map_set]
theorem cellsS_go {s : St} (h : StOk s) (p : Nat) : (cellsS s).setIfInBounds 32 (.int .u64 (p : Int)) = cellsS (s.go p) := by
  apply Array.toList_inj.1
  simp only [cellsS, Array.toList_setIfInBounds]
  show (s.r.map ru ++ [ru s.pc, ru s.tls]).set 32 (ru p) = s.r.map ru ++ [ru p, ru s.tls]
  rw [List.set_append, if_neg (by rw [List.length_map, h.len]; decide), List.length_map, h.len]
  rfl
structure InOk (i : Ins) : Prop where
  op : isOp i.op = true
  a : i.a < 32
  b : i.b < 32
  c : i.c < 32
  lo : -2147483648 ≤ i.imm
  hi : i.imm ≤ 2147483647
section
variable {A : Nat → Prop} {w : World} {d mb : Nat} {f : Nat → Nat} {m : V}
theorem u64_sz : (Tryz.prog.info? 22).map (·.size) = some 1 := by kernel_rfl
theorem stC_sz {s : St} (h : StOk s) : (Tryz.prog.info? 33).map (·.size) = some (cellsS s).size := by rw [cellsS_size h]; kernel_rfl
theorem sizes_at {w : World} (hT : Tabs w) (k : Nat) (hk : k < 4) : w.cell? ⟨0, k, none⟩ = some (.int .i64 ((wid k : Nat) : Int)) := by
  have : k = 0 ∨ k = 1 ∨ k = 2 ∨ k = 3 := by omega
  rcases this with rfl | rfl | rfl | rfl <;> exact hT.sizes _ _ rfl
theorem wid_le {k : Nat} (hk : k < 4) : wid k ≤ 8 := by
  have : k = 0 ∨ k = 1 ∨ k = 2 ∨ k = 3 := by omega
  rcases this with rfl | rfl | rfl | rfl <;> decide
set_option maxRecDepth 100000 in
set_option maxHeartbeats 8000000 in
theorem cpumem_ld (k a b c g : Nat) (imm : Int) (s : St) (hs : StOk s) (hk4 : k < 4) (ia : a < 32) (ib : b < 32) (ilo : -2147483648 ≤ imm) (ihi : imm ≤ 2147483647) (hT : Tabs w) (h : SRep A w d m mb f) (hA : ∀ k, A k → k < w.heap.size) (hnA : ¬ A g) (hg : Blk w g (cellsS s) 33) :
    Calls Tryz.prog 48 #[.pointer (some ⟨g, 0, none⟩), ptrTo d, encI ⟨20 + k, a, b, c, imm⟩] w fun e w' => e = .returned (encO3 (if loadE m (add (s.reg b) (u64 imm)) (wid k : Nat) = 0 then ⟨0, 0, 0⟩ else ⟨3, loadE m (add (s.reg b) (u64 imm)) (wid k : Nat), add (s.reg b) (u64 imm)⟩)) ∧ Blk w' g (cellsS (if loadE m (add (s.reg b) (u64 imm)) (wid k : Nat) = 0 then s.put a (loadX m (add (s.reg b) (u64 imm)) (wid k : Nat)) else s)) 33 ∧ Keep (fun j => j = g) w w' := by
  obtain ⟨cs, hcs⟩ : ∃ cs, cs = cellsS s := ⟨_, rfl⟩
  have hHS := Lib.hid h
  have hHT := Lib.hid hT
  have HA := Lib.hid hA
  have HNA := Lib.hid hnA
  have hsz := cellsS_size hs
  have g1 := cellsS_reg hs ia
  have g2 := cellsS_reg hs ib
  unfold ru at g1 g2
  rw [← hcs] at hsz g1 g2 hg
  have hgl := hg.lt
  have haz : (a : Int) < 32 := by omega
  have hbz : (b : Int) < 32 := by omega
  have himm := u64_wrap ilo ihi
  have himm2 := u64_wrap2 ilo ihi
  have hul := u64_lt ilo ihi
  have hadd := add_wrap (s.reg b) (u64 imm)
  have hal := add_lt (s.reg b) (u64 imm)
  have HCS := Lib.hid hcs
  clear hcs h hT hA hnA
  unfold encI ptrTo
  obtain ⟨O, hO⟩ : ∃ O, O = 20 + k := ⟨_, rfl⟩
  rw [← hO]
  have hOk : (O : Int) - 20 = (k : Int) := by omega
  have hkz : (k : Int) < 4 := by omega
  have hsl := fun (W : World) (hk : Keep No w W) => sizes_at (hHT.out.no hk) k hk4
  have hwl := wid_le hk4
  obtain ⟨at_, hat⟩ : ∃ x, x = add (s.reg b) (u64 imm) := ⟨_, rfl⟩
  rw [← hat] at hadd hal ⊢
  generalize wid k = n at *
  have HSL := Lib.hid hsl
  clear hsl hat
  have hO24 : (O : Int) < 24 := by omega
  clear hO
  have hld := fun (W : World) (hk : Keep No w W) => vload_any (w := W) at_ (n : Int) hal (by omega) (by omega) (hHS.out.no HA.out hk) (fun j hj => by have := HA.out j hj; have := hk.size; omega)
  generalize loadX m at_ (n : Int) = X at *
  generalize loadE m at_ (n : Int) = E at *
  obtain ⟨O3, hO3⟩ : ∃ o : Out, o = if E = 0 then ⟨0, 0, 0⟩ else ⟨3, E, at_⟩ := ⟨_, rfl⟩
  obtain ⟨S3, hS3⟩ : ∃ t : St, t = if E = 0 then s.put a X else s := ⟨_, rfl⟩
  rw [← hO3, ← hS3]
  have HO3 := Lib.hid hO3
  have HS3 := Lib.hid hS3
  unfold ptrTo at hld
  have HLD := Lib.hid hld
  clear hO3 hS3 hld
  go_enter Tryz.func48, Tryz.ntmps48
  go_wp2_with fail
  have hkW1 : Keep No w (w.alloc (.cells #[.int .i64 (O : Int), .int .i64 (a : Int), .int .i64 (b : Int), .int .i64 (c : Int), .int .i32 imm] 80)) := (Keep.refl _ _).alloc _
  have hBW1 : Blk (w.alloc (.cells #[.int .i64 (O : Int), .int .i64 (a : Int), .int .i64 (b : Int), .int .i64 (c : Int), .int .i32 imm] 80)) w.heap.size #[.int .i64 (O : Int), .int .i64 (a : Int), .int .i64 (b : Int), .int .i64 (c : Int), .int .i32 imm] 80 := Blk.new _ _ _
  have hzW1 : (w.alloc (.cells #[.int .i64 (O : Int), .int .i64 (a : Int), .int .i64 (b : Int), .int .i64 (c : Int), .int .i32 imm] 80)).heap.size = w.heap.size + 1 := World.size_alloc _ _
  generalize w.alloc (.cells #[.int .i64 (O : Int), .int .i64 (a : Int), .int .i64 (b : Int), .int .i64 (c : Int), .int .i32 imm] 80) = W1 at *
  have hkW2 : Keep No W1 (W1.alloc (.cells #[.int .i64 0, .int .i64 0, .int .u64 0] 46)) := (Keep.refl _ _).alloc _
  have hBW2 : Blk (W1.alloc (.cells #[.int .i64 0, .int .i64 0, .int .u64 0] 46)) W1.heap.size #[.int .i64 0, .int .i64 0, .int .u64 0] 46 := Blk.new _ _ _
  have hzW2 : (W1.alloc (.cells #[.int .i64 0, .int .i64 0, .int .u64 0] 46)).heap.size = W1.heap.size + 1 := World.size_alloc _ _
  generalize W1.alloc (.cells #[.int .i64 0, .int .i64 0, .int .u64 0] 46) = W2 at *
  rw [hzW1] at hBW2 hzW2
  have hk2 := hkW1.trans' hkW2
  have b5 := hBW1.keep hkW2 fun h => h
  have b6 := hBW2
  have bg := hg.keep hk2 fun h => h
  clear hkW1 hkW2 hBW1 hBW2 hzW1
  have p2 : W2.cell? ⟨w.heap.size, 2, none⟩ = some (.int .i64 (b : Int)) := b5.cell 2
  have p4 : W2.cell? ⟨w.heap.size, 4, none⟩ = some (.int .i32 imm) := b5.cell 4
  have r2 : W2.cell? ⟨g, b, none⟩ = some (.int .u64 (s.reg b : Int)) := (bg.cell _).trans g2
  go_quiet (fail)
  generalize hwq : W2.drewN nq = w3
  have hk23 : Keep No W2 w3 := hwq ▸ (Keep.refl No W2).drewN nq
  have hk3 := hk2.trans' hk23
  have b53 := b5.keep hk23 fun h => h
  have b63 := b6.keep hk23 fun h => h
  have bg3 := bg.keep hk23 fun h => h
  clear p2 p4 r2 hwq hk23 b5 b6 bg hk2
  have p0 : w3.cell? ⟨w.heap.size, 0, none⟩ = some (.int .i64 (O : Int)) := b53.cell 0
  have sz3 := HSL.out w3 hk3
  have hcall := HLD.out w3 hk3
  go_wp2_with fail
  refine hcall.mono ?_
  rintro e w4 ⟨rfl, hk34⟩
  have hk4' := hk3.trans' hk34
  have b54 := b53.keep hk34 fun h => h
  have b64 := b63.keep hk34 fun h => h
  have bg4 := bg3.keep hk34 fun h => h
  have hz4 : w.heap.size + 2 ≤ w4.heap.size := by have := hk4'.size; have := b64.lt; omega
  clear hcall p0 sz3 b53 b63 bg3 hk3 hk34
  by_cases hE : E = 0
  · subst hE
    rw [if_pos rfl] at HO3 HS3
    go_wp2_with fail
    have q1 : w4.cell? ⟨w.heap.size, 1, none⟩ = some (.int .i64 (a : Int)) := b54.cell 1
    refine wp_region_sig (fun w' => w'.cell? ⟨w.heap.size, 1, none⟩ = some (.int .i64 (a : Int)) ∧ True) (fun j => decide (j ≤ 99)) [(0, true), (1, true), (2, true), (3, true), (4, true), (5, true), (6, true), (7, false)] (by kernel_rfl) (by kernel_rfl) (by intro c a d v w h; cases d <;> exact h) ⟨q1, trivial⟩ ?_
    apply sig_still (o := ⟨some 53, _, _, _, _, _⟩) rfl rfl
    · intro w' hS
      obtain ⟨q1, q2⟩ := hS
      first | (go_simp; done) | (go_simp; rfl) | rfl
    go_frame
    apply sig_still (o := ⟨some 54, _, _, _, _, _⟩) rfl rfl
    · intro w' hS
      obtain ⟨q1, q2⟩ := hS
      first | (go_simp; done) | (go_simp; rfl) | rfl
    go_frame
    apply sig_still (o := ⟨some 55, _, _, _, _, _⟩) rfl rfl
    · intro w' hS
      obtain ⟨q1, q2⟩ := hS
      first | (go_simp; done) | (go_simp; rfl) | rfl
    go_frame
    apply sig_still (o := ⟨some 56, _, _, _, _, _⟩) rfl rfl
    · intro w' hS
      obtain ⟨q1, q2⟩ := hS
      first | (go_simp; done) | (go_simp; rfl) | rfl
    go_frame
    apply sig_still (o := ⟨some 57, _, _, _, _, _⟩) rfl rfl
    · intro w' hS
      obtain ⟨q1, q2⟩ := hS
      first | (go_simp; done) | (go_simp; rfl) | rfl
    go_frame
    apply sig_still (o := ⟨some 58, _, _, _, _, _⟩) rfl rfl
    · intro w' hS
      obtain ⟨q1, q2⟩ := hS
      first | (go_simp; done) | (go_simp; rfl) | rfl
    go_frame
    apply sig_still (o := ⟨some 59, _, _, _, _, _⟩) rfl rfl
    · intro w' hS
      obtain ⟨q1, q2⟩ := hS
      first | (go_simp; done) | (go_simp; rfl) | rfl
    go_frame
    refine sig_eff (o := ⟨none, _, _, _, _, _⟩) rfl rfl (fun K hKe => ?_)
    refine wo_stInt (.tmp 59) (.tmp 56) 22 rfl _ _ _ rfl rfl ?_
    have hkd := (Keep.refl No w4).drew
    refine rg_stC (bg4.keep hkd fun h => h) (by omega) u64_sz ?_
    intro w5 bg5 hk5 _
    have b55 := (b54.keep hkd fun h => h).keep hk5 fun e => by have e2 : w.heap.size = g := e; omega
    have b65 := (b64.keep hkd fun h => h).keep hk5 fun e => by have e2 : w.heap.size + 1 = g := e; omega
    have hkg : Keep (fun j => j = g) w w5 := ((hk4'.trans' hkd).mono fun _ _ h => h.elim).trans hk5 fun _ _ h => h
    refine hKe _ _ ⟨fun _ => ⟨b55.cell 1, trivial⟩, sig_nil ?_⟩
    rw [HCS.out, cellsS_put hs ia] at bg5
    clear hkd hk5 q1 b54 b64 bg4
    go_wp2_with (with_reducible refine wl_stAgg rfl _ _ _ rfl _ _ rfl rfl ?_)
    have hO3 := HO3.out
    have hS3 := HS3.out
    subst hO3 hS3
    refine rg_stAgg b65 (by kernel_rfl) (by rfl) (by simp [encO3, Value.oneCell']) ?_
    intro wa hBa hka _
    go_wp2_with fail
    refine ret_blk rfl rfl hBa Tryz.underlying46 rfl (by kernel_rfl) rfl ?_
    refine ⟨rfl, ?_, hkg.trans hka fun j hj e => by have e2 : j = w.heap.size + 1 := e; omega⟩
    exact (bg5).keep hka fun e => by have e2 : g = w.heap.size + 1 := e; omega
  · rw [if_neg hE] at HO3 HS3
    have hE0 : ((E : Int) == 0) = false := by simpa using hE
    clear hE
    go_wp2_with fail
    refine (cpufault_any E at_ _).mono ?_
    rintro e w5 ⟨rfl, hk45⟩
    have hk5 := hk4'.trans' hk45
    have b65 := b64.keep hk45 fun h => h
    have bg5 := bg4.keep hk45 fun h => h
    unfold encO3
    go_wp2_with (with_reducible refine wl_stAgg rfl _ _ _ rfl _ _ rfl rfl ?_)
    have hO3 := HO3.out
    have hS3 := HS3.out
    subst hO3 hS3
    rw [HCS.out] at bg5
    have hkg : Keep (fun j => j = g) w w5 := hk5.mono fun _ _ h => h.elim
    refine rg_stAgg b65 (by kernel_rfl) (by rfl) (by simp [encO3, Value.oneCell']) ?_
    intro wa hBa hka _
    go_wp2_with fail
    refine ret_blk rfl rfl hBa Tryz.underlying46 rfl (by kernel_rfl) rfl ?_
    refine ⟨rfl, ?_, hkg.trans hka fun j hj e => by have e2 : j = w.heap.size + 1 := e; omega⟩
    exact (bg5).keep hka fun e => by have e2 : g = w.heap.size + 1 := e; omega
set_option maxRecDepth 100000 in
set_option maxHeartbeats 8000000 in
theorem cpumem_st (k a b c g : Nat) (imm : Int) (s : St) (hs : StOk s) (hk4 : k < 4) (ia : a < 32) (ib : b < 32) (ilo : -2147483648 ≤ imm) (ihi : imm ≤ 2147483647) (hT : Tabs w) (h : SRep A w d m mb f) (hA : ∀ k, A k → k < w.heap.size) (hnA : ¬ A g) (hg : Blk w g (cellsS s) 33) :
    Calls Tryz.prog 48 #[.pointer (some ⟨g, 0, none⟩), ptrTo d, encI ⟨24 + k, a, b, c, imm⟩] w fun e w' => e = .returned (encO3 (if numE m (add (s.reg b) (u64 imm)) (wid k : Nat) 2 = 0 then ⟨0, 0, 0⟩ else ⟨3, numE m (add (s.reg b) (u64 imm)) (wid k : Nat) 2, add (s.reg b) (u64 imm)⟩)) ∧ SRep A w' d (storeV m (add (s.reg b) (u64 imm)) (wid k : Nat) (s.reg a)) mb f ∧ Keep A w w' := by
  obtain ⟨cs, hcs⟩ : ∃ cs, cs = cellsS s := ⟨_, rfl⟩
  have hHS := Lib.hid h
  have hHT := Lib.hid hT
  have HA := Lib.hid hA
  have HNA := Lib.hid hnA
  have hsz := cellsS_size hs
  have g1 := cellsS_reg hs ia
  have g2 := cellsS_reg hs ib
  unfold ru at g1 g2
  rw [← hcs] at hsz g1 g2 hg
  have hgl := hg.lt
  have haz : (a : Int) < 32 := by omega
  have hbz : (b : Int) < 32 := by omega
  have himm := u64_wrap ilo ihi
  have himm2 := u64_wrap2 ilo ihi
  have hul := u64_lt ilo ihi
  have hadd := add_wrap (s.reg b) (u64 imm)
  have hal := add_lt (s.reg b) (u64 imm)
  have HCS := Lib.hid hcs
  clear hcs h hT hA hnA
  unfold encI ptrTo
  obtain ⟨O, hO⟩ : ∃ O, O = 24 + k := ⟨_, rfl⟩
  rw [← hO]
  have hOk : (O : Int) - 24 = (k : Int) := by omega
  have hkz : (k : Int) < 4 := by omega
  have hsl := fun (W : World) (hk : Keep No w W) => sizes_at (hHT.out.no hk) k hk4
  have hwl := wid_le hk4
  obtain ⟨at_, hat⟩ : ∃ x, x = add (s.reg b) (u64 imm) := ⟨_, rfl⟩
  rw [← hat] at hadd hal ⊢
  generalize wid k = n at *
  have HSL := Lib.hid hsl
  clear hsl hat
  have hO24 : (O : Int) ≥ 24 := by omega
  have hO28 : (O : Int) < 28 := by omega
  have hOw : IntKind.i64.wrap (k : Int) = (k : Int) := by simp [IntKind.wrap, IntKind.bits, IntKind.signed]; omega
  clear hO
  have hra := hs.reg a
  have hld := fun (W : World) (hk : Keep No w W) => vstore_any (w := W) at_ (n : Int) (s.reg a) hal hra (by omega) (by omega) (hHS.out.no HA.out hk) (fun j hj => by have := HA.out j hj; have := hk.size; omega)
  generalize storeV m at_ (n : Int) (s.reg a) = M at *
  generalize numE m at_ (n : Int) 2 = E at *
  obtain ⟨O3, hO3⟩ : ∃ o : Out, o = if E = 0 then ⟨0, 0, 0⟩ else ⟨3, E, at_⟩ := ⟨_, rfl⟩
  rw [← hO3]
  have HO3 := Lib.hid hO3
  unfold ptrTo at hld
  have HLD := Lib.hid hld
  clear hO3 hld
  go_enter Tryz.func48, Tryz.ntmps48
  go_wp2_with fail
  have hkW1 : Keep No w (w.alloc (.cells #[.int .i64 (O : Int), .int .i64 (a : Int), .int .i64 (b : Int), .int .i64 (c : Int), .int .i32 imm] 80)) := (Keep.refl _ _).alloc _
  have hBW1 : Blk (w.alloc (.cells #[.int .i64 (O : Int), .int .i64 (a : Int), .int .i64 (b : Int), .int .i64 (c : Int), .int .i32 imm] 80)) w.heap.size #[.int .i64 (O : Int), .int .i64 (a : Int), .int .i64 (b : Int), .int .i64 (c : Int), .int .i32 imm] 80 := Blk.new _ _ _
  have hzW1 : (w.alloc (.cells #[.int .i64 (O : Int), .int .i64 (a : Int), .int .i64 (b : Int), .int .i64 (c : Int), .int .i32 imm] 80)).heap.size = w.heap.size + 1 := World.size_alloc _ _
  generalize w.alloc (.cells #[.int .i64 (O : Int), .int .i64 (a : Int), .int .i64 (b : Int), .int .i64 (c : Int), .int .i32 imm] 80) = W1 at *
  have hkW2 : Keep No W1 (W1.alloc (.cells #[.int .i64 0, .int .i64 0, .int .u64 0] 46)) := (Keep.refl _ _).alloc _
  have hBW2 : Blk (W1.alloc (.cells #[.int .i64 0, .int .i64 0, .int .u64 0] 46)) W1.heap.size #[.int .i64 0, .int .i64 0, .int .u64 0] 46 := Blk.new _ _ _
  have hzW2 : (W1.alloc (.cells #[.int .i64 0, .int .i64 0, .int .u64 0] 46)).heap.size = W1.heap.size + 1 := World.size_alloc _ _
  generalize W1.alloc (.cells #[.int .i64 0, .int .i64 0, .int .u64 0] 46) = W2 at *
  rw [hzW1] at hBW2 hzW2
  have hk2 := hkW1.trans' hkW2
  have b5 := hBW1.keep hkW2 fun h => h
  have b6 := hBW2
  have bg := hg.keep hk2 fun h => h
  clear hkW1 hkW2 hBW1 hBW2 hzW1
  have p2 : W2.cell? ⟨w.heap.size, 2, none⟩ = some (.int .i64 (b : Int)) := b5.cell 2
  have p4 : W2.cell? ⟨w.heap.size, 4, none⟩ = some (.int .i32 imm) := b5.cell 4
  have r2 : W2.cell? ⟨g, b, none⟩ = some (.int .u64 (s.reg b : Int)) := (bg.cell _).trans g2
  go_quiet (fail)
  generalize hwq : W2.drewN nq = w3
  have hk23 : Keep No W2 w3 := hwq ▸ (Keep.refl No W2).drewN nq
  have hk3 := hk2.trans' hk23
  have b53 := b5.keep hk23 fun h => h
  have b63 := b6.keep hk23 fun h => h
  have bg3 := bg.keep hk23 fun h => h
  clear p2 p4 r2 hwq hk23 b5 b6 bg hk2
  have p0 : w3.cell? ⟨w.heap.size, 0, none⟩ = some (.int .i64 (O : Int)) := b53.cell 0
  have sz3 := HSL.out w3 hk3
  have q1 : w3.cell? ⟨w.heap.size, 1, none⟩ = some (.int .i64 (a : Int)) := b53.cell 1
  have r1 : w3.cell? ⟨g, a, none⟩ = some (.int .u64 (s.reg a : Int)) := (bg3.cell _).trans g1
  have hkd := (Keep.refl No w3).drew
  go_wp2_with fail
  refine wp_region_sig (fun w' => w'.cell? ⟨w.heap.size, 0, none⟩ = some (.int .i64 (O : Int)) ∧ w'.cell? ⟨w.heap.size, 1, none⟩ = some (.int .i64 (a : Int)) ∧ w'.cell? ⟨0, k, none⟩ = some (.int .i64 (n : Int)) ∧ w'.cell? ⟨g, a, none⟩ = some (.int .u64 (s.reg a : Int))) (fun j => decide (j ≤ 13)) [(0, true), (1, true), (2, true), (3, true), (4, true), (5, true), (6, true), (7, true), (8, true), (9, true), (10, true), (11, true), (12, true), (13, true), (14, false), (15, false)] (by kernel_rfl) (by kernel_rfl) (by intro c a d v w h; cases d <;> exact h) ⟨p0, q1, sz3, r1⟩ ?_
  apply sig_still (o := ⟨some 25, _, _, _, _, _⟩) rfl rfl
  · intro w' hS
    obtain ⟨q1, q2, q3, q4⟩ := hS
    first | (go_simp; done) | (go_simp; rfl) | rfl
  go_frame
  apply sig_still (o := ⟨some 26, _, _, _, _, _⟩) rfl rfl
  · intro w' hS
    obtain ⟨q1, q2, q3, q4⟩ := hS
    first | (go_simp; done) | (go_simp; rfl) | rfl
  go_frame
  apply sig_still (o := ⟨some 27, _, _, _, _, _⟩) rfl rfl
  · intro w' hS
    obtain ⟨q1, q2, q3, q4⟩ := hS
    first | (go_simp; done) | (go_simp; rfl) | rfl
  go_frame
  apply sig_still (o := ⟨some 28, _, _, _, _, _⟩) rfl rfl
  · intro w' hS
    obtain ⟨q1, q2, q3, q4⟩ := hS
    first | (go_simp; done) | (go_simp; rfl) | rfl
  go_frame
  apply sig_still (o := ⟨some 29, _, _, _, _, _⟩) rfl rfl
  · intro w' hS
    obtain ⟨q1, q2, q3, q4⟩ := hS
    first | (go_simp; done) | (go_simp; rfl) | rfl
  go_frame
  apply sig_still (o := ⟨some 30, _, _, _, _, _⟩) rfl rfl
  · intro w' hS
    obtain ⟨q1, q2, q3, q4⟩ := hS
    first | (go_simp; done) | (go_simp; rfl) | rfl
  go_frame
  apply sig_still (o := ⟨some 31, _, _, _, _, _⟩) rfl rfl
  · intro w' hS
    obtain ⟨q1, q2, q3, q4⟩ := hS
    first | (go_simp; done) | (go_simp; rfl) | rfl
  go_frame
  apply sig_still (o := ⟨some 32, _, _, _, _, _⟩) rfl rfl
  · intro w' hS
    obtain ⟨q1, q2, q3, q4⟩ := hS
    first | (go_simp; done) | (go_simp; rfl) | rfl
  go_frame
  apply sig_still (o := ⟨some 33, _, _, _, _, _⟩) rfl rfl
  · intro w' hS
    obtain ⟨q1, q2, q3, q4⟩ := hS
    first | (go_simp; done) | (go_simp; rfl) | rfl
  go_frame
  apply sig_still (o := ⟨some 34, _, _, _, _, _⟩) rfl rfl
  · intro w' hS
    obtain ⟨q1, q2, q3, q4⟩ := hS
    first | (go_simp; done) | (go_simp; rfl) | rfl
  go_frame
  apply sig_still (o := ⟨some 35, _, _, _, _, _⟩) rfl rfl
  · intro w' hS
    obtain ⟨q1, q2, q3, q4⟩ := hS
    first | (go_simp; done) | (go_simp; rfl) | rfl
  go_frame
  apply sig_still (o := ⟨some 36, _, _, _, _, _⟩) rfl rfl
  · intro w' hS
    obtain ⟨q1, q2, q3, q4⟩ := hS
    first | (go_simp; done) | (go_simp; rfl) | rfl
  go_frame
  apply sig_still (o := ⟨some 37, _, _, _, _, _⟩) rfl rfl
  · intro w' hS
    obtain ⟨q1, q2, q3, q4⟩ := hS
    first | (go_simp; done) | (go_simp; rfl) | rfl
  go_frame
  apply sig_still (o := ⟨some 38, _, _, _, _, _⟩) rfl rfl
  · intro w' hS
    obtain ⟨q1, q2, q3, q4⟩ := hS
    first | (go_simp; done) | (go_simp; rfl) | rfl
  go_frame
  refine sig_eff (o := ⟨some 39, _, _, _, _, _⟩) rfl rfl (fun K hKe => ?_)
  have hcall := HLD.out _ (hk3.trans' hkd)
  go_wp2_with fail
  refine hcall.mono ?_
  rintro e w4 ⟨rfl, hS4, hk34⟩
  have hk4' : Keep A w w4 := (hk3.trans' hkd).mono (fun _ _ h => h.elim) |>.trans' hk34
  have b64 := (b63.keep hkd fun h => h).keep hk34 fun h => by have := HA.out _ h; omega
  clear hcall p0 sz3 q1 b53 b63 bg3 hk3 hk34
  go_wp2_with fail
  refine ⟨fun h => by simp at h, ?_⟩
  refine sig_eff (o := ⟨some 8, _, _, _, _, _⟩) rfl rfl (fun K hKe => ?_)
  go_wp2_with fail
  refine ⟨fun h => by simp at h, sig_nil ?_⟩
  by_cases hE : E = 0
  · subst hE
    rw [if_pos rfl] at HO3
    go_wp2_with (with_reducible refine wl_stAgg rfl _ _ _ rfl _ _ rfl rfl ?_)
    have hO3 := HO3.out
    subst hO3
    refine rg_stAgg b64 (by kernel_rfl) (by rfl) (by simp [Value.oneCell']) ?_
    intro wa hBa hka _
    go_wp2_with fail
    refine ret_blk rfl rfl hBa Tryz.underlying46 rfl (by kernel_rfl) rfl ?_
    exact ⟨rfl, hS4.keep hka (fun j hj e => by have := HA.out j hj; have e2 : j = w.heap.size + 1 := e; omega) (fun j hj => by have := HA.out j hj; have := hk4'.size; omega), hk4'.trans hka fun j hj e => by have e2 : j = w.heap.size + 1 := e; omega⟩
  · rw [if_neg hE] at HO3
    have hE0 : ((E : Int) == 0) = false := by simpa using hE
    clear hE
    go_wp2_with fail
    refine (cpufault_any E at_ _).mono ?_
    rintro e w5 ⟨rfl, hk45⟩
    have b65 := b64.keep hk45 fun h => h
    unfold encO3
    go_wp2_with (with_reducible refine wl_stAgg rfl _ _ _ rfl _ _ rfl rfl ?_)
    have hO3 := HO3.out
    subst hO3
    refine rg_stAgg b65 (by kernel_rfl) (by rfl) (by simp [Value.oneCell']) ?_
    intro wa hBa hka _
    go_wp2_with fail
    refine ret_blk rfl rfl hBa Tryz.underlying46 rfl (by kernel_rfl) rfl ?_
    have hk5 : Keep A w w5 := hk4'.trans hk45 fun _ _ h => h.elim
    exact ⟨rfl, (hS4.no (fun j hj => by have := HA.out j hj; have := hk4'.size; omega) hk45).keep hka (fun j hj e => by have := HA.out j hj; have e2 : j = w.heap.size + 1 := e; omega) (fun j hj => by have := HA.out j hj; have := hk5.size; omega), hk5.trans hka fun j hj e => by have e2 : j = w.heap.size + 1 := e; omega⟩
end
end Go.Proofs.YtaoillfofiehpaaGreatDoor
