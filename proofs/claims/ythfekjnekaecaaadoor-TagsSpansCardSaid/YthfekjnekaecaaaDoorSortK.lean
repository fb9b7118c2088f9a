/- Map, Copy. Copy. pdqsortOrdered of up to twelve, Sort, Collect, Sorted at uint64. maps.Keys at the pages' map: its iterator gives each address once; slices.AppendSeq, Collect over it. No condition. -/
import Derived.Test.YthfekjnekaecaaaDoorVmG
import Derived.RangeFuncFrom
import Derived.RangeFuncBox
import Derived.RangeFuncBound
import Derived.Sort.LotD7
import Derived.Shelf.AbstractIn
import Derived.Shelf.RegionOpen
import Derived.Sort.MapsRangeIn
import Derived.Sort.KeysCollected
import Derived.OwnWalkIn
import Derived.TacticsInMore
import Derived.RegionIn
import Derived.LoopNIn
import Derived.LoopIn
set_option linter.unusedVariables false
set_option linter.unusedSimpArgs false
namespace Go.Dm
open Go Go.RowKit
/-- the walk stops at a store of a number -/
def StGoal (P : Program) (ty : TypeId) (p : Addr) (v : Value) (w : World) (K : World → Prop) : Prop := RunGoal P (Instr.storeAt ty (.pointer (some p)) v) w fun _ w' => K w'
theorem wl_stInt {P : Program} {w : World} {ops : Array Oper} {rest : List Oper} {o : Oper} {a : Act} {Q : Exit → Act → World → Prop} (hgd : o.guard = none) (x y : Operand) (ty : TypeId) (ho : o.op = Op.store ty x y) (p : Addr) (k : IntKind) (n : Int)
    (h1 : a.eval x = .pointer (some p)) (h2 : a.eval y = .int k n) (h : StGoal P ty p (.int k n) w fun w' => wpList P ops Q rest (a.put o.dst undef) w') : wpList P ops Q (o :: rest) a w := by
  obtain ⟨v, w', hr, hk⟩ := h
  refine wpList_plain hgd fun K hK => ?_
  unfold Oper.wp execOp
  simp only [ho, h1, h2, hr, Sem.run_bind, Sem.run_pure, Result.andThen_ok]
  exact hK _ _ hk
/-- the walk stops at a load -/
def LdGoal (P : Program) (ty : TypeId) (p : Addr) (w : World) (K : Value → World → Prop) : Prop := RunGoal P (Instr.loadAt ty (.pointer (some p))) w K
theorem wl_ld {P : Program} {w : World} {ops : Array Oper} {rest : List Oper} {o : Oper} {a : Act} {Q : Exit → Act → World → Prop} (hgd : o.guard = none) (x : Operand) (ty : TypeId) (ho : o.op = Op.load ty x) (p : Addr)
    (h1 : a.eval x = .pointer (some p)) (h : LdGoal P ty p w fun v w' => wpList P ops Q rest (a.put o.dst v) w') : wpList P ops Q (o :: rest) a w := by
  obtain ⟨v, w', hr, hk⟩ := h
  refine wpList_plain hgd fun K hK => ?_
  unfold Oper.wp execOp
  simp only [ho, h1, hr, Sem.run_bind, Sem.run_pure, Result.andThen_ok]
  exact hK _ _ hk
theorem rg_ld {P : Program} {w : World} {g : Nat} {ty t : TypeId} {cs : Array Value} {d : TypeDesc} (hB : Blk w g cs t) (hu : P.underlying ty = some d)
    (hd : (match d with | .struct _ | .array _ _ => true | _ => false) = true) (hi : (P.info? ty).map (·.size) = some cs.size) {K : Value → World → Prop} (h : K (.agg cs) w) : LdGoal P ty ⟨g, 0, none⟩ w K := by
  refine .mk (v := .agg cs) (w' := w) ?_ h
  simp only [Instr.loadAt, Instr.sureAddr, Sem.run_bind, Sem.run_pure, Result.andThen_ok, run_loadVar_row w g t ty cs _ d hB hu hd hi]
end Go.Dm
namespace Go.Proofs.YthfekjnekaecaaaDoor
open Go.RowKit Go.Dm Go.Dm.Vm Go.Maps Go.Dm.Oc Go.WideMaps Go.WideElems

section
variable {A : Nat → Prop} {w : World} {d mb x y z u v : Nat} {f : Nat → Nat} {m : V}
theorem VL_len (f : Nat → Nat) (m : V) : (VL f m).length = m.length := by simp [VL]
theorem delP_free {m : V} {a : Nat} (h : ∀ q ∈ m, q.addr ≠ a) : delP m a = m := by
  unfold delP
  rw [List.filter_eq_self]
  intro p hp
  simpa using h p hp
/-- a page is put -/
theorem SRep.put {w0 w' : World} (h : SRep A w d m mb f) (hA : ∀ k, A k → k < w0.heap.size) {p : Pg} {nb : Nat} (hp : PgOk p) (hfree : ∀ q ∈ m, q.addr ≠ p.addr) (hl : m.length < 512)
    (hm : MapL Tryd.prog 22 w' mb ((.int .u64 (p.addr : Int), ptrTo nb) :: eraseL (VL f m) (.int .u64 (p.addr : Int)))) (hk : Keep (fun j => j = mb) w w') (hnb : w0.heap.size ≤ nb) (hB : Blk w nb (pgC p) 125) :
    SRep (Plus A w0 w') w' d (insP p m) mb (fun x => if x = p.addr then nb else f x) := by
  have hf : ∀ q ∈ m, (if q.addr = p.addr then nb else f q.addr) = f q.addr := fun q hq => if_neg (hfree q hq)
  have hlt : ∀ q ∈ m, f q.addr < nb := fun q hq => Nat.lt_of_lt_of_le (hA _ (h.pg q hq).1) hnb
  have hB2 : Blk w' nb (pgC p) 125 := hB.keep hk fun e => h.mp.ne_blk hB e.symm
  rw [eraseL_VL, delP_free hfree] at hm
  refine ⟨h.blk.keep hk (fun e => h.mp.ne_blk h.blk e.symm), hm.perm ?_, fun q hq => ?_, fun q hq q' hq' e => ?_, insP_ok h.ok hp hfree hl, .inl h.Ad, .inl h.Am⟩
  · have e : VL f m = VL (fun x => if x = p.addr then nb else f x) m := by
      unfold VL
      apply List.map_congr_left
      intro q hq
      simp only [hf q hq]
    rw [e]
    have e2 : ((.int .u64 (p.addr : Int), ptrTo nb) : Lit × Value) = (.int .u64 (p.addr : Int), ptrTo (if p.addr = p.addr then nb else f p.addr)) := by rw [if_pos rfl]
    rw [e2]
    exact ((insP_perm p m).map (fun q : Pg => ((.int .u64 (q.addr : Int), ptrTo (if q.addr = p.addr then nb else f q.addr)) : Lit × Value))).symm
  · rcases insP_mem.1 hq with e | hq
    · rw [e]
      simp only [if_true]
      exact ⟨.inr ⟨hnb, hB2.lt⟩, hB2⟩
    · simp only [hf q hq]
      exact ⟨.inl (h.pg q hq).1, (h.pg q hq).2.keep hk fun e => h.blk_ne hq e.symm⟩
  · have e : (if q.addr = p.addr then nb else f q.addr) = (if q'.addr = p.addr then nb else f q'.addr) := e
    rcases insP_mem.1 hq with e1 | hq <;> rcases insP_mem.1 hq' with e2 | hq'
    · rw [e1, e2]
    · rw [e1, if_pos rfl, hf q' hq'] at e
      have := hlt q' hq'
      omega
    · rw [e2, if_pos rfl, hf q hq] at e
      have := hlt q hq
      omega
    · rw [hf q hq, hf q' hq'] at e
      exact h.inj q hq q' hq' e
theorem str_nonempty {l : List UInt8} (h : l ≠ []) : (({ data := l.toArray } : ByteArray) == { data := #[] }) = false := by
  cases l with
  | nil => exact absurd rfl h
  | cons c r =>
    show ((c :: r).toArray == #[]) = false
    simp
theorem pgC_new (a prot off : Nat) (file : List UInt8) : ((Tryd.zeroCells125.setIfInBounds 0 (.int .i64 (prot : Int))).setIfInBounds 2 (.string ⟨file.toArray⟩)).setIfInBounds 3 (.int .u64 (off : Int)) = pgC ⟨a, prot, false, file, off, noughts⟩ := by kernel_rfl
theorem pgC_new0 (a prot : Nat) (file : List UInt8) : (Tryd.zeroCells125.setIfInBounds 0 (.int .i64 (prot : Int))).setIfInBounds 2 (.string ⟨file.toArray⟩) = pgC ⟨a, prot, false, file, 0, noughts⟩ := by kernel_rfl
set_option maxRecDepth 100000 in
set_option maxHeartbeats 1000000 in
theorem vmap1_any (addr k prot off : Nat) (file : List UInt8) (hA : ∀ k, A k → k < w.heap.size) (ha : addr + 256 * k < 18446744073709551616) (ho : off < 18446744073709551616) (hpk : PgOk (newPg addr prot file off k)) (hfree : ∀ q ∈ m, q.addr ≠ addr + 256 * k) (hl : m.length < 512) (h : SRep A w d m mb f)
    (hx : Blk w x #[.int .i64 (prot : Int)] 3) (hy : Blk w y #[.string ⟨file.toArray⟩] 9) (hz : Blk w z #[.int .u64 (off : Int)] 22) (hu : Blk w u #[.int .u64 (addr : Int)] 22) (hv : Blk w v #[ptrTo d] 38) :
    Calls Tryd.prog 54 #[.int .u64 ((addr + 256 * k : Nat) : Int), ptrTo x, ptrTo y, ptrTo z, ptrTo u, ptrTo v] w fun e w' => e = .returned (.int .i64 0) ∧ (∃ f', SRep (Plus A w w') w' d (insP (newPg addr prot file off k) m) mb f') ∧ Keep (fun j => j = mb) w w' := by
  have q0 : w.cell? ⟨x, 0, none⟩ = some (.int .i64 (prot : Int)) := hx.cell 0
  have q1 : w.cell? ⟨y, 0, none⟩ = some (.string ⟨file.toArray⟩) := hy.cell 0
  have hk1 : Keep No w (w.alloc (.cells ((Tryd.zeroCells125.setIfInBounds 0 (.int .i64 (prot : Int))).setIfInBounds 2 (.string ⟨file.toArray⟩)) 125)) := (Keep.refl _ _).alloc _
  have hS : SRep A (w.alloc (.cells ((Tryd.zeroCells125.setIfInBounds 0 (.int .i64 (prot : Int))).setIfInBounds 2 (.string ⟨file.toArray⟩)) 125)) d m mb f := h.no hA hk1
  obtain ⟨at_, hat⟩ : ∃ at_, at_ = addr + 256 * k := ⟨_, rfl⟩
  rw [← hat] at ha hfree ⊢
  obtain ⟨j, hj⟩ : ∃ j, j = 256 * k := ⟨_, rfl⟩
  have hsub : (at_ : Int) - (addr : Int) = (j : Int) := by omega
  have hwr : IntKind.u64.wrap ((off : Int) + (j : Int)) = (((off + j) % 18446744073709551616 : Nat) : Int) := by rw [IntKind.wrap_u64]; omega
  have hnp : newPg addr prot file off k = ⟨at_, prot, false, file, if file = [] then 0 else (off + j) % 18446744073709551616, noughts⟩ := by unfold newPg; rw [hat, hj]
  rw [hnp] at hpk ⊢
  have hj64 : (j : Int) < 18446744073709551616 := by omega
  have hbl := Blk.new w (pgC ⟨at_, prot, false, file, 0, noughts⟩) 125
  rw [← pgC_new0 at_ prot file] at hbl
  have k1 := (hy.alloc (.cells ((Tryd.zeroCells125.setIfInBounds 0 (.int .i64 (prot : Int))).setIfInBounds 2 (.string ⟨file.toArray⟩)) 125)).cell 0
  have k2 := (hz.alloc (.cells ((Tryd.zeroCells125.setIfInBounds 0 (.int .i64 (prot : Int))).setIfInBounds 2 (.string ⟨file.toArray⟩)) 125)).cell 0
  have k3 := (hu.alloc (.cells ((Tryd.zeroCells125.setIfInBounds 0 (.int .i64 (prot : Int))).setIfInBounds 2 (.string ⟨file.toArray⟩)) 125)).cell 0
  have k4 := (hv.alloc (.cells ((Tryd.zeroCells125.setIfInBounds 0 (.int .i64 (prot : Int))).setIfInBounds 2 (.string ⟨file.toArray⟩)) 125)).cell 0
  have k5 := (h.blk.alloc (.cells ((Tryd.zeroCells125.setIfInBounds 0 (.int .i64 (prot : Int))).setIfInBounds 2 (.string ⟨file.toArray⟩)) 125)).cell 0
  have k6 : (w.alloc (.cells ((Tryd.zeroCells125.setIfInBounds 0 (.int .i64 (prot : Int))).setIfInBounds 2 (.string ⟨file.toArray⟩)) 125)).cell? ⟨w.heap.size, 3, none⟩ = some (.int .u64 0) := hbl.cell 3
  have k7 : (w.alloc (.cells ((Tryd.zeroCells125.setIfInBounds 0 (.int .i64 (prot : Int))).setIfInBounds 2 (.string ⟨file.toArray⟩)) 125)).frozen? ⟨w.heap.size, 3, none⟩ = false := hbl.frozen 3
  simp only [List.getElem?_toArray, List.getElem?_cons_zero] at k1 k2 k3 k4 k5
  have HS := Lib.hid hS
  have HK := Lib.hid hk1
  have HB := Lib.hid hbl
  clear hbl hk1 hS hat hj hnp
  unfold ptrTo at hv k4 ⊢
  by_cases hfe : file = []
  · subst hfe
    rw [if_pos rfl] at hpk ⊢
    have hdf : (({ data := ([] : List UInt8).toArray } : ByteArray) == { data := #[] }) = true := rfl
    have HP := Lib.hid hpk
    clear hpk
    go_enter Tryd.func54, Tryd.ntmps54
    go_wp2_with (at_mapUpdate; refine wl_mapUpdate rfl _ _ _ _ rfl _ _ _ rfl rfl rfl ?_)
    refine rg_store HS.out.mp kU64 Tryd.underlying118 (by rw [VL_len]; unfold maxLen; omega) (kOf ha) ?_
    intro w2 hm2 hk2 hs2
    have hB := HB.out
    rw [pgC_new0 at_ prot []] at hB
    have hres := SRep.put (w0 := w) (p := ⟨at_, prot, false, [], 0, noughts⟩) HS.out hA HP.out hfree hl hm2 hk2 (Nat.le_refl _) hB
    go_wp2_with fail
    go_ret
    exact ⟨rfl, ⟨_, hres⟩, (HK.out.mono fun _ _ h => h.elim).trans' hk2⟩
  · obtain ⟨c0, r0, hcr⟩ := List.exists_cons_of_ne_nil hfe
    have hdf : ({ data := file.toArray } : ByteArray).toList = c0 :: r0 := by rw [ByteArray.toList_eq, hcr]
    have hde : ({ data := #[] } : ByteArray).toList = [] := by rw [ByteArray.toList_eq]
    rw [if_neg hfe] at hpk ⊢
    have HP := Lib.hid hpk
    clear hpk
    generalize (off + j) % 18446744073709551616 = o2 at *
    generalize hbs : ({ data := file.toArray } : ByteArray) = bs at *
    have HBS := Lib.hid hbs
    clear hbs
    go_enter Tryd.func54, Tryd.ntmps54
    go_wp2_with (with_reducible refine wl_stInt rfl _ _ _ rfl _ _ _ rfl rfl ?_)
    obtain ⟨W, hW⟩ : ∃ W, w.alloc (.cells ((Tryd.zeroCells125.setIfInBounds 0 (.int .i64 (prot : Int))).setIfInBounds 2 (.string bs)) 125) = W := ⟨_, rfl⟩
    rw [hW] at HS HK HB k1 k2 k3 k4 k5 k6 k7 ⊢
    clear hW
    have hB := HB.out.set (i := 3) (.int .u64 (o2 : Int))
    rw [← HBS.out, pgC_new at_ prot o2 file] at hB
    have hkS : Keep (fun j => j = w.heap.size) W (W.setCell ⟨w.heap.size, 3, none⟩ (.int .u64 (o2 : Int))) := (Keep.refl (fun j => j = w.heap.size) W).setCell (p := ⟨w.heap.size, 3, none⟩) (fun _ => rfl) _
    have hS := HS.out.keep hkS (fun k hk e => absurd (hA k hk) (by have e2 : k = w.heap.size := e; omega)) (fun k hk => Nat.lt_of_lt_of_le (hA k hk) HK.out.size)
    have j4 := (World.cell?_setCell_other (w := W) (a := ⟨w.heap.size, 3, none⟩) (b := ⟨v, 0, none⟩) (v := .int .u64 (o2 : Int)) (by simp)).trans k4
    have j5 := (World.cell?_setCell_other (w := W) (a := ⟨w.heap.size, 3, none⟩) (b := ⟨d, 0, none⟩) (v := .int .u64 (o2 : Int)) (by simp)).trans k5
    refine .mk (v := ()) (w' := W.setCell ⟨w.heap.size, 3, none⟩ (.int .u64 (o2 : Int))) (by go_simp) ?_
    have hkN : Keep No w (W.setCell ⟨w.heap.size, 3, none⟩ (.int .u64 (o2 : Int))) := HK.out.new (Nat.le_refl _) _
    generalize W.setCell ⟨w.heap.size, 3, none⟩ (.int .u64 (o2 : Int)) = W2 at *
    go_wp2_with (at_mapUpdate; refine wl_mapUpdate rfl _ _ _ _ rfl _ _ _ rfl rfl rfl ?_)
    refine rg_store hS.mp kU64 Tryd.underlying118 (by rw [VL_len]; unfold maxLen; omega) (kOf ha) ?_
    intro w2 hm2 hk2 hs2
    have hres := SRep.put (w0 := w) (p := ⟨at_, prot, false, file, o2, noughts⟩) hS hA HP.out hfree hl hm2 hk2 (Nat.le_refl _) hB
    go_wp2_with fail
    go_ret
    rw [← hcr]
    exact ⟨rfl, ⟨_, hres⟩, (hkN.mono fun _ _ h => h.elim).trans' hk2⟩
theorem Enters.of6 {f : Nat} (h : ∀ a b c d e g : Value, Enters f #[a, b, c, d, e, g]) (b c d e g : Value) : ∀ a, Enters f (#[a] ++ #[b, c, d, e, g]) := fun a => h a b c d e g
theorem mem_VL {T : V} {kl : Lit} {v : Value} (h : (kl, v) ∈ VL f T) : ∃ p ∈ T, kl = .int .u64 (p.addr : Int) ∧ v = ptrTo (f p.addr) := by
  obtain ⟨p, hp, e⟩ := List.mem_map.1 h
  cases e
  exact ⟨p, hp, rfl, rfl⟩
theorem key_u64 {key : Value} {a : Nat} (h : keyOf Tryd.prog 22 key = some (.int .u64 (a : Int))) : key = .int .u64 (a : Int) := by
  obtain ⟨x, rfl, e, _⟩ := Maps.keyOf_int_inv Tryd.underlying22 h
  cases e
  rfl
theorem delP_sub {m : V} {a : Nat} {p : Pg} (h : p ∈ delP m a) : p ∈ m := (List.mem_filter.1 h).1
set_option maxRecDepth 100000 in
set_option maxHeartbeats 4000000 in
theorem vmap_any (addr size off : Nat) (prot : Int) (file : List UInt8) (ha : addr < 18446744073709551616) (hs : size < 18446744073709551616) (ho : off < 18446744073709551616) (hfl : file.length ≤ maxLen) (h : SRep A w d m mb f) (hA : ∀ k, A k → k < w.heap.size) :
    Calls Tryd.prog 29 #[ptrTo d, .int .u64 (addr : Int), .int .u64 (size : Int), .int .i64 prot, .string ⟨file.toArray⟩, .int .u64 (off : Int)] w fun e w' => e = .returned (.int .i64 (mapE m addr size prot : Nat)) ∧ (∃ f', SRep (Plus A w w') w' d (mapV m addr size prot file off) mb f') ∧ Keep A w w' := by
  have hx : mapV m addr size prot file off = if mapE m addr size prot = 0 then mapN m addr prot.toNat file off (size / 256) else m := rfl
  have hy : mapE m addr size prot = if Vm.may addr size prot then if over m addr size then 12 else if size / 256 > 512 - m.length then 13 else 0 else 1 := rfl
  generalize mapV m addr size prot file off = M at *
  generalize mapE m addr size prot = E at *
  have HX := Lib.hid hx
  have HY := Lib.hid hy
  clear hx hy
  have hml := h.ok.len
  have plus0 : ∀ {W : World}, Keep No w W → ∃ f', SRep (Plus A w W) W d m mb f' := fun hk => ⟨f, (h.no hA hk).mono fun j _ ha => .inl ha⟩
  have HP : ∀ W : World, Hid (Keep No w W → ∃ f', SRep (Plus A w W) W d m mb f') := fun W => Lib.hid fun h => plus0 h
  clear plus0
  unfold ptrTo at *
  go_enter Tryd.func29, Tryd.ntmps29
  go_wp2_with fail
  have hkW1 : Keep No w (w.alloc (.cells #[.pointer (some ⟨d, 0, none⟩)] 38)) := (Keep.refl _ _).alloc _
  have hBW1 : Blk (w.alloc (.cells #[.pointer (some ⟨d, 0, none⟩)] 38)) w.heap.size #[.pointer (some ⟨d, 0, none⟩)] 38 := Blk.new _ _ _
  have hzW1 : (w.alloc (.cells #[.pointer (some ⟨d, 0, none⟩)] 38)).heap.size = w.heap.size + 1 := World.size_alloc _ _
  generalize w.alloc (.cells #[.pointer (some ⟨d, 0, none⟩)] 38) = W1 at *
  have hkW2 : Keep No W1 (W1.alloc (.cells #[.int .u64 (addr : Int)] 22)) := (Keep.refl _ _).alloc _
  have hBW2 : Blk (W1.alloc (.cells #[.int .u64 (addr : Int)] 22)) W1.heap.size #[.int .u64 (addr : Int)] 22 := Blk.new _ _ _
  have hzW2 : (W1.alloc (.cells #[.int .u64 (addr : Int)] 22)).heap.size = W1.heap.size + 1 := World.size_alloc _ _
  generalize W1.alloc (.cells #[.int .u64 (addr : Int)] 22) = W2 at *
  have hkW3 : Keep No W2 (W2.alloc (.cells #[.int .i64 prot] 3)) := (Keep.refl _ _).alloc _
  have hBW3 : Blk (W2.alloc (.cells #[.int .i64 prot] 3)) W2.heap.size #[.int .i64 prot] 3 := Blk.new _ _ _
  have hzW3 : (W2.alloc (.cells #[.int .i64 prot] 3)).heap.size = W2.heap.size + 1 := World.size_alloc _ _
  generalize W2.alloc (.cells #[.int .i64 prot] 3) = W3 at *
  have hkW4 : Keep No W3 (W3.alloc (.cells #[.string ⟨file.toArray⟩] 9)) := (Keep.refl _ _).alloc _
  have hBW4 : Blk (W3.alloc (.cells #[.string ⟨file.toArray⟩] 9)) W3.heap.size #[.string ⟨file.toArray⟩] 9 := Blk.new _ _ _
  have hzW4 : (W3.alloc (.cells #[.string ⟨file.toArray⟩] 9)).heap.size = W3.heap.size + 1 := World.size_alloc _ _
  generalize W3.alloc (.cells #[.string ⟨file.toArray⟩] 9) = W4 at *
  have hkW0 : Keep No W4 (W4.alloc (.cells #[.int .u64 (off : Int)] 22)) := (Keep.refl _ _).alloc _
  have hBW0 : Blk (W4.alloc (.cells #[.int .u64 (off : Int)] 22)) W4.heap.size #[.int .u64 (off : Int)] 22 := Blk.new _ _ _
  have hzW0 : (W4.alloc (.cells #[.int .u64 (off : Int)] 22)).heap.size = W4.heap.size + 1 := World.size_alloc _ _
  generalize W4.alloc (.cells #[.int .u64 (off : Int)] 22) = W0 at *
  rw [hzW1] at hBW2 hzW2
  rw [hzW2] at hBW3 hzW3
  rw [hzW3] at hBW4 hzW4
  rw [hzW4] at hBW0
  have hkW : Keep No w W0 := (((hkW1.trans' hkW2).trans' hkW3).trans' hkW4).trans' hkW0
  have b1 := hBW1.keep (((hkW2.trans' hkW3).trans' hkW4).trans' hkW0) fun h => h
  have b2 := hBW2.keep ((hkW3.trans' hkW4).trans' hkW0) fun h => h
  have b3 := hBW3.keep (hkW4.trans' hkW0) fun h => h
  have b4 := hBW4.keep hkW0 fun h => h
  have b5 := hBW0
  have e1 : w.heap.size + 1 + 1 = w.heap.size + 2 := rfl
  have e2 : w.heap.size + 2 + 1 = w.heap.size + 3 := rfl
  have e3 : w.heap.size + 3 + 1 = w.heap.size + 4 := rfl
  rw [hzW4] at hzW0
  have HZ := Lib.hid hzW0
  clear hBW1 hBW2 hBW3 hBW4 hBW0 hkW1 hkW2 hkW3 hkW4 hkW0 hzW1 hzW2 hzW3 hzW4 hzW0 e1 e2 e3
  have hAW : ∀ k, A k → k < W0.heap.size := fun k hk => Nat.lt_of_lt_of_le (hA k hk) hkW.size
  have h' := h.no hA hkW
  have q1 := b1.cell 0
  have q2 := b2.cell 0
  have q3 := b3.cell 0
  have q4 := b4.cell 0
  have q5 := b5.cell 0
  simp only [List.getElem?_toArray, List.getElem?_cons_zero] at q1 q2 q3 q4 q5
  go_wp2_with fail
  refine (vmay_any addr size prot ha hs _).mono ?_
  rintro e X ⟨rfl, rfl⟩
  cases hmay : Vm.may addr size prot with
  | false =>
    rw [hmay] at HY
    have hE := HY.out
    simp only [Bool.false_eq_true, if_false] at hE
    subst hE
    rw [if_neg (by decide)] at HX
    go_wp2_with fail
    go_ret
    rw [HX.out]
    exact ⟨rfl, (HP _).out hkW, hkW.mono fun _ _ h => h.elim⟩
  | true =>
    rw [hmay, if_pos rfl] at HY
    have hpt := may_parts hmay
    have hpg := may_pages hmay
    have qd : W0.cell? ⟨d, 0, none⟩ = some (.map (some mb)) := h'.blk.cell 0
    go_wp2_with (with_reducible refine wl_range rfl _ _ rfl _ rfl ?_)
    refine rg_range h'.mp kU64 Tryd.underlying118 ?_
    intro W1 hr hk1 hs1
    have hap : Apart (VL f m) := h.mp.apart
    go_wp2_with fail
    go_loopw [] (fun wr => ∃ T : V, RangeL Tryd.prog 22 wr mb W0.heap.size (VL f m) (VL f T) ∧ (∀ p ∈ T, p ∈ m) ∧ (∀ p ∈ m, p ∈ T ∨ ¬ (addr ≤ p.addr ∧ p.addr - addr < size)) ∧ Keep No W0 wr) (fun wr => wr.rangeLeft mb W0.heap.size)
    case atStart => exact ⟨m, hr, fun _ h => h, fun _ h => .inl h, hk1⟩
    case round =>
      clear hr hk1 hs1
      obtain ⟨T, hr, hsub, hno, hk⟩ := hrel
      go_wp2_with (with_reducible refine wl_next rfl _ rfl _ rfl ?_)
      refine rg_next hr kU64 ?_ ?_
      · intro e0
        have e1 : T = [] := by simpa [VL] using e0
        subst e1
        have hov : over m addr size = false := by
          unfold over
          rw [List.any_eq_false]
          intro p hp
          have := (hno p hp).resolve_left (by simp)
          simpa using this
        rw [hov] at HY
        simp only [Bool.false_eq_true, if_false] at HY
        clear hno hsub
        have hq : (size : Int).tdiv 256 = ((size / 256 : Nat) : Int) := by rw [Int.tdiv_eq_ediv_of_nonneg (by omega)]; omega
        have p1 := (hk.cell (p := ⟨w.heap.size, 0, none⟩) b1.lt fun h => h).trans q1
        have p2 := (hk.cell (p := ⟨w.heap.size + 1, 0, none⟩) b2.lt fun h => h).trans q2
        have pd := (hk.cell (p := ⟨d, 0, none⟩) h'.blk.lt fun h => h).trans qd
        go_wp2_with (with_reducible refine wl_len rfl _ _ rfl _ rfl ?_)
        refine rg_len hr.map Tryd.underlying118 ?_
        rw [VL_len]
        have hkw := hkW.trans' hk
        have hRN : pagesN addr size = size / 256 := hpg.1
        have hsn : 256 * (size / 256) = size := by omega
        generalize hn : size / 256 = n at *
        clear hn
        by_cases hbig : n > 512 - m.length
        · rw [if_pos hbig] at HY
          have hE := HY.out
          subst hE
          rw [if_neg (by decide)] at HX
          have i1 : (n : Int) > 512 - (m.length : Int) := by omega
          have i0 : (m.length : Int) ≤ 512 := by omega
          generalize m.length = ml at *
          go_wp2_with fail
          go_ret
          rw [HX.out]
          exact ⟨rfl, (HP _).out hkw, hkw.mono fun _ _ h => h.elim⟩
        · rw [if_neg hbig] at HY
          have hE := HY.out
          subst hE
          rw [if_pos rfl] at HX
          have i1 : (n : Int) ≤ 512 - (m.length : Int) := by omega
          have i0 : (m.length : Int) ≤ 512 := by omega
          have c1 := b1.keep hk fun h => h
          have c2 := b2.keep hk fun h => h
          have c3 := b3.keep hk fun h => h
          have c4 := b4.keep hk fun h => h
          have c5 := b5.keep hk fun h => h
          have hpr : prot = (prot.toNat : Int) := by omega
          have hpq : prot.toNat ≤ 7 := by omega
          have hZ := HZ.out
          have hea := veach_any (w := wr) (f := 54) (c := #[ptrTo (w.heap.size + 1 + 1), ptrTo (w.heap.size + 1 + 1 + 1), ptrTo (w.heap.size + 1 + 1 + 1 + 1), ptrTo (w.heap.size + 1), ptrTo w.heap.size]) addr size
            (fun k w' => (∃ f', SRep (Plus A wr w') w' d (mapN m addr prot.toNat file off k) mb f') ∧ Keep (fun j => j = mb) wr w') (fun _ _ => False) hpt.2.2.1 hpt.2.2.2.1 hpt.2.2.2.2.1 (Enters.of6 (fun a b c d e g w => by kernel_rfl) _ _ _ _ _) ⟨⟨f, (h.no hA hkw).mono fun j _ ha => .inl ha⟩, Keep.refl _ _⟩ (fun k w' hk2 hR => by
              obtain ⟨⟨f', hR⟩, hK⟩ := hR
              rw [hRN] at hk2
              have ht : top = 4294967296 := rfl
              have hmbA : mb < w.heap.size := hA _ h.Am
              have hfree := mapN_free (prot := prot.toNat) (file := file) (off := off) (k := k) hov (by omega)
              have hpk := newPg_ok (prot := prot.toNat) (file := file) (off := off) (k := k) hpt.1 (show addr + size ≤ top by have := hpt.2.2.2.1; have := hpt.2.2.2.2.1; omega) hpq hfl (show 256 * k < size by omega)
              rw [hpg.2]
              have hbnd : ∀ j, Plus A wr w' j → j < w'.heap.size := fun j hj => hj.elim (fun ha => Nat.lt_of_lt_of_le (hA j ha) (Nat.le_trans hkw.size hK.size)) fun h => h.2
              refine (vmap1_any addr k prot.toNat off file hbnd (by omega) ho hpk hfree (by rw [mapN_len]; omega) hR (by rw [← hpr]; exact c3.keep hK fun e => by have e2 : w.heap.size + 1 + 1 = mb := e; omega) (c4.keep hK fun e => by have e2 : w.heap.size + 1 + 1 + 1 = mb := e; omega) (c5.keep hK fun e => by have e2 : w.heap.size + 1 + 1 + 1 + 1 = mb := e; omega) (c2.keep hK fun e => by have e2 : w.heap.size + 1 = mb := e; omega) (c1.keep hK fun e => by have e2 : w.heap.size = mb := e; omega)).mono ?_
              rintro e w2 ⟨rfl, ⟨f2, hR2⟩, hk3⟩
              refine .inl ⟨rfl, ⟨f2, hR2.mono fun j hj ha => ?_⟩, hK.trans' hk3⟩
              rcases ha with (ha | ha) | ha
              · exact .inl ha
              · exact .inr ⟨ha.1, hj⟩
              · exact .inr ⟨Nat.le_trans hK.size ha.1, hj⟩)
          rw [hRN] at hea
          unfold ptrTo at hea
          clear hpr
          generalize m.length = ml at *
          go_wp2_with fail
          refine hea.mono ?_
          rintro e W4 (⟨rfl, ⟨f2, h4⟩, hk4⟩ | ⟨_, _, _, hf⟩)
          · go_wp2_with fail
            go_ret
            rw [HX.out]
            refine ⟨rfl, ⟨f2, h4.mono fun j hj ha => ?_⟩, (hkw.mono fun _ _ h => h.elim).trans hk4 fun j _ e => by rw [show j = mb from e]; exact h.Am⟩
            rcases ha with ha | ha
            · exact .inl ha
            · exact .inr ⟨Nat.le_trans hkw.size ha.1, ha.2⟩
          · exact hf.elim
      · intro key v kl w' hkey hmem hr' hlt hk' hs hen
        obtain ⟨p, hpT, rfl, rfl⟩ := mem_VL hmem
        obtain rfl := key_u64 hkey
        rw [eraseL_VL] at hr'
        have hkw' : Keep No W0 w' := hk.trans hk' (fun j hj e => by have e2 : j = W0.heap.size := e; omega)
        have qa : w'.cell? ⟨w.heap.size + 1, 0, none⟩ = some (.int .u64 (addr : Int)) := (hkw'.cell (p := ⟨w.heap.size + 1, 0, none⟩) b2.lt fun h => h).trans q2
        have hpok := h.ok.pg p (hsub p hpT)
        have hplt := hpok.lt
        have ht : top = 4294967296 := rfl
        unfold ptrTo at hen
        have hsub' : ∀ q ∈ delP T p.addr, q ∈ m := fun q hq => hsub q (delP_sub hq)
        have hpm := hsub p hpT
        by_cases hov : addr ≤ p.addr ∧ p.addr - addr < size
        · have hot : over m addr size = true := by
            unfold over
            rw [List.any_eq_true]
            exact ⟨p, hpm, by simpa using hov⟩
          rw [hot, if_pos rfl] at HY
          have hE := HY.out
          subst hE
          rw [if_neg (by decide)] at HX
          have i1 : (addr : Int) ≤ (p.addr : Int) := by omega
          have i2 : (p.addr : Int) - (addr : Int) < (size : Int) := by omega
          clear hno hsub hpok
          generalize f p.addr = g at *
          generalize p.addr = pa at *
          go_wp2_with fail
          go_ret
          rw [HX.out]
          have hk0 := hkW.trans' hkw'
          exact ⟨rfl, (HP _).out hk0, hk0.mono fun _ _ h => h.elim⟩
        · have hno' : ∀ q ∈ m, q ∈ delP T p.addr ∨ ¬ (addr ≤ q.addr ∧ q.addr - addr < size) := fun q hq => by
            by_cases e : q.addr = p.addr
            · exact .inr (by rw [e]; exact hov)
            · exact (hno q hq).imp (fun h => List.mem_filter.2 ⟨h, by simpa using e⟩) id
          have i0 : (p.addr : Int) < (addr : Int) ∨ ((addr : Int) ≤ (p.addr : Int) ∧ (p.addr : Int) - (addr : Int) ≥ (size : Int)) := by omega
          clear hno hsub hpok hov
          generalize f p.addr = g at *
          generalize p.addr = pa at *
          rcases i0 with i1 | ⟨i1, i2⟩
          all_goals
            go_wp2_with fail
            go_roundw
            case rel => exact ⟨_, hr', hsub', hno', hkw'⟩
            case measure => exact hlt
end
end Go.Proofs.YthfekjnekaecaaaDoor
namespace Go.Proofs.YthfekjnekaecaaaDoor
open Go.RowKit Go.Dm Go.Dm.Vm Go.Maps Go.Dm.Oc Go.WideMaps Go.WideElems

theorem pgC_one (p : Pg) : (pgC p).all (·.oneCell') = true := by
  unfold pgC
  rw [List.all_toArray]
  simp [Value.oneCell', bv]
theorem srt_eq : ∀ {m t : V}, m.Pairwise (fun p q => p.addr < q.addr) → t.Pairwise (fun p q => p.addr < q.addr) → m.Perm t → m = t
  | [], t, _, _, h => h.nil_eq
  | p :: r, [], _, _, h => absurd h.length_eq (by simp)
  | p :: r, q :: t, h1, h2, h => by
    rw [List.pairwise_cons] at h1 h2
    by_cases e : p = q
    · subst e
      rw [srt_eq h1.2 h2.2 h.cons_inv]
    · have hp : p ∈ t := (List.mem_cons.1 (h.mem_iff.1 (List.mem_cons_self ..))).resolve_left e
      have hq : q ∈ r := (List.mem_cons.1 (h.mem_iff.2 (List.mem_cons_self ..))).resolve_left fun e2 => e e2.symm
      have := h1.1 q hq
      have := h2.1 p hp
      omega
theorem delP_perm {T : V} (hT : T.Pairwise (fun p q => p.addr ≠ q.addr)) {p : Pg} (hp : p ∈ T) : T.Perm (p :: delP T p.addr) := by
  induction T with
  | nil => cases hp
  | cons q r ih =>
    rw [List.pairwise_cons] at hT
    by_cases e : q.addr = p.addr
    · have eq : q = p := by
        rcases List.mem_cons.1 hp with h | h
        · exact h.symm
        · exact absurd e (hT.1 p h)
      subst eq
      have hd : delP (q :: r) q.addr = r := by
        unfold delP
        rw [List.filter_cons_of_neg (by simp), List.filter_eq_self]
        intro x hx
        simpa using fun e => hT.1 x hx e.symm
      rw [hd]
    · have hpr : p ∈ r := (List.mem_cons.1 hp).resolve_left fun e2 => e (by rw [e2])
      have hd : delP (q :: r) p.addr = q :: delP r p.addr := by
        unfold delP
        rw [List.filter_cons_of_pos (by simpa using e)]
      rw [hd]
      exact ((ih hT.2 hpr).cons q).trans (List.Perm.swap p q _)
theorem rangeLeft_same {w w' : World} {b r : Nat} (eb : w'.heap[b]? = w.heap[b]?) (er : w'.heap[r]? = w.heap[r]?) : w'.rangeLeft b r = w.rangeLeft b r := by
  unfold World.rangeLeft
  rw [eb, er]
section
variable {A : Nat → Prop} {w : World} {d mb x y z u v : Nat} {f : Nat → Nat} {m : V}
end
end Go.Proofs.YthfekjnekaecaaaDoor
namespace Go.Proofs.YthfekjnekaecaaaDoor
open Go.RowKit Go.Dm Go.Dm.Vm Go.Maps

theorem swoN : Sort.SWO ltN where
  irrefl x := by simp [ltN]
  trans x y z h1 h2 := by simp only [ltN, decide_eq_true_eq] at *; omega
  ntrans x y z h1 h2 := by simp only [ltN, decide_eq_false_iff_not] at *; omega
section
variable {w : World}
set_option maxRecDepth 100000 in
set_option maxHeartbeats 4000000 in
theorem pdq_small {base g cap : Nat} {D : Array Nat} (l : Int) (h : Nums w base g cap D) (hn : D.size ≤ 12) :
    Calls Tryd.prog 68 #[.slice (some ⟨g, 0, none⟩) D.size cap, .int .i64 0, .int .i64 (D.size : Int), .int .i64 l] w fun e w' => e = .returned (.tuple #[]) ∧ Nums w' base g cap (Sort.insertionSort ltN D 0 D.size) ∧ Keep (fun j => j = g) w w' ∧ w'.heap.size = w.heap.size := by
  have hi := ins_any h (by omega)
  have hz : (D.size : Int) ≤ 12 := by omega
  generalize Sort.insertionSort ltN D 0 D.size = R at *
  generalize D.size = n at *
  go_enter Tryd.func68, Tryd.ntmps68
  go_wp2_with fail
  go_loopw [1, 2] (fun av bw wr => av = .int .i64 0 ∧ bw = .int .i64 (n : Int) ∧ wr = w) (fun _ _ _ => 0)
  case atStart => exact ⟨rfl, rfl, rfl⟩
  case round =>
    obtain ⟨rfl, rfl, rfl⟩ := hrel
    go_wp2_with fail
    refine hi.mono ?_
    rintro e W ⟨rfl, h1, h2, h3⟩
    go_wp2_with fail
    refine bodyPost_ret (results_none rfl _ _ _) rfl ?_
    exact ⟨rfl, h1, h2, h3⟩
set_option maxRecDepth 100000 in
theorem len_small (n : Nat) (hn : n ≤ 12) (w : World) : Calls Tryd.prog 69 #[.int .u64 (n : Int)] w fun e w' => (∃ l : Int, e = .returned (.int .i64 l)) ∧ w = w' := by
  have h : n = 0 ∨ n = 1 ∨ n = 2 ∨ n = 3 ∨ n = 4 ∨ n = 5 ∨ n = 6 ∨ n = 7 ∨ n = 8 ∨ n = 9 ∨ n = 10 ∨ n = 11 ∨ n = 12 := by omega
  have h64 : Calls Tryd.prog 85 #[.int .u64 (n : Int)] w fun e w' => (∃ l : Int, e = .returned (.int .i64 l)) ∧ w = w' := by
    rcases h with rfl | rfl | rfl | rfl | rfl | rfl | rfl | rfl | rfl | rfl | rfl | rfl | rfl
    all_goals
      go_enter Tryd.func85, Tryd.ntmps85
      go_wp2_with fail
      go_ret
      exact ⟨⟨_, rfl⟩, rfl⟩
  go_enter Tryd.func69, Tryd.ntmps69
  go_wp2_with fail
  refine h64.mono ?_
  rintro e W ⟨⟨l, rfl⟩, rfl⟩
  go_wp2_with fail
  go_ret
  exact ⟨⟨_, rfl⟩, rfl⟩
theorem pdq_nil (l : Int) (w : World) : Calls Tryd.prog 68 #[.slice none 0 0, .int .i64 0, .int .i64 0, .int .i64 l] w fun e w' => e = .returned (.tuple #[]) ∧ w = w' := by
  have hi : Calls Tryd.prog 75 #[.slice none 0 0, .int .i64 0, .int .i64 0] w fun e w' => e = .returned (.tuple #[]) ∧ w = w' := by
    go_enter Tryd.func75, Tryd.ntmps75
    go_wp2_with fail
    go_loopw [6] (fun iv wr => iv = .int .i64 1 ∧ wr = w) (fun _ _ => 0)
    case atStart => exact ⟨rfl, rfl⟩
    case round =>
      obtain ⟨rfl, rfl⟩ := hrel
      go_wp2_with fail
      go_end0
      exact ⟨rfl, rfl⟩
  go_enter Tryd.func68, Tryd.ntmps68
  go_wp2_with fail
  go_loopw [1, 2] (fun av bw wr => av = .int .i64 0 ∧ bw = .int .i64 0 ∧ wr = w) (fun _ _ _ => 0)
  case atStart => exact ⟨rfl, rfl, rfl⟩
  case round =>
    obtain ⟨rfl, rfl, rfl⟩ := hrel
    go_wp2_with fail
    refine hi.mono ?_
    rintro e W ⟨rfl, rfl⟩
    go_wp2_with fail
    refine bodyPost_ret (results_none rfl _ _ _) rfl ?_
    exact ⟨rfl, rfl⟩
set_option maxHeartbeats 4000000 in
/-- slices.Sort at up to twelve: the numbers, sorted -/
theorem sort_small {base : Nat} {v : Value} {D : Array Nat} (h : w.ownsRow base 22 1 v D.size (D.toList.map uv)) (hn : D.size ≤ 12) :
    Calls Tryd.prog 56 #[v] w fun e w' => e = .returned (.tuple #[]) ∧ w'.ownsRow base 22 1 v D.size ((Sort.insertionSort ltN D 0 D.size).toList.map uv) ∧ Keep (fun j => some j = v.ownBlock) w w' ∧ w'.heap.size = w.heap.size := by
  have hss : (Sort.insertionSort ltN D 0 D.size).size = D.size := (Sort.insertionSort_holds swoN D 0 D.size (Nat.zero_le _) (Nat.le_refl _)).1.1
  have hlen := fun w => len_small D.size hn w
  have hz : (D.size : Int) ≤ 12 := by omega
  rcases h.2 with ⟨rfl, h0⟩ | ⟨g, cap, cur, rfl, _⟩
  · have hD : D = #[] := Array.eq_empty_of_size_eq_zero h0
    subst hD
    go_enter Tryd.func56, Tryd.ntmps56
    have hlen0 := hlen
    simp only [List.size_toArray, List.length_nil] at hlen
    go_wp2_with fail
    refine (hlen _).mono ?_
    rintro e W ⟨⟨l, rfl⟩, rfl⟩
    go_wp2_with fail
    refine (pdq_nil l _).mono ?_
    rintro e W ⟨rfl, rfl⟩
    go_wp2_with fail
    go_end0
    have hE := Array.eq_empty_of_size_eq_zero hss
    rw [show Sort.insertionSort ltN #[] 0 0 = #[] from hE]
    exact ⟨rfl, h, Keep.refl _ _, rfl⟩
  · have hp := fun l => pdq_small (w := w) (cap := cap) l h hn
    generalize Sort.insertionSort ltN D 0 D.size = R at *
    generalize D.size = n at *
    go_enter Tryd.func56, Tryd.ntmps56
    go_wp2_with fail
    refine (hlen _).mono ?_
    rintro e W ⟨⟨l, rfl⟩, rfl⟩
    go_wp2_with fail
    refine (hp l).mono ?_
    rintro e W ⟨rfl, h1, h2, h3⟩
    go_wp2_with fail
    go_end0
    unfold Nums at h1
    rw [hss] at h1
    exact ⟨rfl, h1, h2.mono fun j _ e => by rw [e]; rfl, h3⟩
end
end Go.Proofs.YthfekjnekaecaaaDoor
namespace Go.Proofs.YthfekjnekaecaaaDoor
open Go.RowKit Go.Dm Go.Dm.Vm Go.Maps Go.Shelf

attribute [local go_sem] Oper.semAt_some
section
variable {w : World} {f : Nat → Nat} {m : V} {b : Nat}
theorem has_VL {es : List (Lit × DataW Value)} (h : es.Perm ((VL f m).map hd)) (x : Nat) : Maps.has (DataW.map es) (.int .u64 (x : Int)) = true ↔ ∃ p ∈ m, p.addr = x := by
  rw [Maps.has_eq, List.any_eq_true]
  constructor
  · rintro ⟨q, hq, hs⟩
    obtain ⟨q', hq', rfl⟩ := List.mem_map.1 (h.mem_iff.1 hq)
    obtain ⟨p, hp, rfl⟩ := List.mem_map.1 hq'
    have := WideAt.sameKey_eq hs
    simp only [hd, Lit.int.injEq, true_and] at this
    exact ⟨p, hp, by omega⟩
  · rintro ⟨p, hp, rfl⟩
    refine ⟨hd (.int .u64 (p.addr : Int), ptrTo (f p.addr)), h.mem_iff.2 (List.mem_map_of_mem (List.mem_map.2 ⟨p, hp, rfl⟩)), ?_⟩
    simp [hd, Lit.sameKey]
theorem u64_info : (Tryd.prog.info? 22).map (fun i => (i.zero, i.size, i.bytes)) = some (some (.int .u64 0), 1, 8) := by kernel_rfl
def addrs (m : V) : List Nat := m.map (·.addr)
set_option maxRecDepth 100000 in
set_option maxHeartbeats 2000000 in
theorem keysU1_in (n : Nat) (hn : 1 ≤ n) (l Bm : Nat) (J Jx : List Nat → World → Prop) (hnd : (addrs m).Nodup)
    (hY : ∀ pre x W, J pre W → pre.length < m.length → YieldAt Fence.wide (n - 1) Tryd.prog l #[uv x] W fun e W' =>
      (e = .returned (.bool true) ∧ J (pre ++ [x]) W' ∧ KeepsWalks W W') ∨ (e = .returned (.bool false) ∧ Jx (pre ++ [x]) W'))
    (W : World) (hJ : AbidesFrom W.heap.size J) (hm : W.cell? ⟨Bm, 0, none⟩ = some (.map (some b))) (hown : MapL Tryd.prog 22 W b (VL f m)) (h0 : J [] W) :
    CallsIn Fence.wide n Tryd.prog 72 #[.func (.yield l) #[] #[], .pointer (some ⟨Bm, 0, none⟩)] W fun e W' => (∃ v, e = .returned v) ∧ ((∃ ss : List Nat, ss.Perm (addrs m) ∧ J ss W') ∨ ∃ pre : List Nat, True ∧ Jx pre W') := by
  obtain ⟨es, ho, hes, hsz⟩ := hown.size
  have hhas := fun x => has_VL (f := f) (m := m) hes x
  rw [VL_len] at ho hsz
  refine callsIn_of_wp Tryd.func72 rfl trivial ?_ rfl
  simp only [Tryd.ntmps72, List.size_toArray, List.length_cons, List.length_nil, Nat.reduceAdd, Nat.reduceSub, Array.replicate_succ, Array.replicate_zero, List.push_toArray, List.append_toArray, List.nil_append, List.cons_append]
  gi_wp2_with (first
    | (gi_at_range; refine wpListIn_range_own _ rfl _ 118 rfl 22 122 (int_keyed Tryd.underlying22) Tryd.underlying118 _ b m.length _ rfl ho ?_; intro w0 hrg0 hg0 hs0)
    | gi_in)
  go_frame
  gi_loopw [3] (fun _ wr => ∃ (left : Lit → Bool) (cnt : Nat) (ss : List Nat), wr.ranges Tryd.prog 22 Go.Dm.heldE b W.heap.size m.length (.map es) left cnt ∧ ss.length + cnt ≤ m.length ∧ (ss.Nodup ∧ ∀ x, x ∈ ss ↔ ((∃ p ∈ m, p.addr = x) ∧ left (.int .u64 (x : Int)) = false)) ∧ J ss wr)
    (fun _ wr => wr.rangeLeft b W.heap.size)
  case atStart =>
    refine ⟨_, _, [], hrg0, by rw [hsz]; simp, ⟨List.nodup_nil, fun x => ?_⟩, hJ [] W w0 none h0 hg0 (fun r e => by cases e)⟩
    simp only [List.not_mem_nil, false_iff, not_and]
    intro hx
    rw [(hhas x).2 hx]
    simp
  case round =>
    obtain ⟨left, cnt, ss, hrg, hcs, hC, hJs⟩ := hrel
    gi_wp2_with (first
      | (gi_at_next; refine wpListIn_next_ranges (α := Int) (β := Value) _ rfl _ rfl 22 (int_keyed Tryd.underlying22) Go.Dm.heldE (Value.int .u64) id (fun key kl hk => by obtain ⟨x, hx, _⟩ := Maps.keyOf_int_inv Tryd.underlying22 hk; exact ⟨x, hx⟩) (fun v _ _ => ⟨v, rfl⟩) b W.heap.size m.length _ _ _ rfl hrg ?_ ?_)
      | gi_in)
    · intro hc0 hl0
      gi_wp2
      go_end0
      refine ⟨⟨_, rfl⟩, .inl ⟨ss, ?_, hJs⟩⟩
      refine (List.perm_ext_iff_of_nodup hC.1 hnd).2 fun x => ?_
      rw [hC.2 x, hl0]
      simp only [and_true]
      exact ⟨fun ⟨p, hp, e⟩ => List.mem_map.2 ⟨p, hp, e⟩, fun h => by obtain ⟨p, hp, e⟩ := List.mem_map.1 h; exact ⟨p, hp, e⟩⟩
    · intro x c kl yd yp w2 cnt2 hkey hlk hv hat hrg2 hlt hg2 hs2 hen
      obtain ⟨x', ex, rfl, _⟩ := Maps.keyOf_int_inv Tryd.underlying22 hkey
      obtain rfl : x = x' := by simpa using ex
      have hh : Maps.has (DataW.map es) (.int .u64 x) = true := Maps.has_true_of_atKey hat
      obtain ⟨a, ha⟩ : ∃ a : Nat, x = (a : Int) := by
        rw [Maps.has_eq, List.any_eq_true] at hh
        obtain ⟨q, hq, hs⟩ := hh
        obtain ⟨q', hq', rfl⟩ := List.mem_map.1 (hes.mem_iff.1 hq)
        obtain ⟨p, hp, rfl⟩ := List.mem_map.1 hq'
        have := WideAt.sameKey_eq hs
        simp only [hd, Lit.int.injEq, true_and] at this
        exact ⟨p.addr, this.symm⟩
      subst ha
      have hex := (hhas a).1 hh
      have hnew : a ∉ ss := fun ha => by rw [((hC.2 a).1 ha).2] at hlk; cases hlk
      have hC2 : (ss ++ [a]).Nodup ∧ ∀ z, z ∈ ss ++ [a] ↔ ((∃ p ∈ m, p.addr = z) ∧ (left (.int .u64 (z : Int)) && !(Lit.int .u64 (z : Int)).sameKey (.int .u64 (a : Int))) = false) := by
        refine ⟨List.nodup_append.2 ⟨hC.1, by simp, fun x hx y hy e => by simp at hy; subst hy; exact hnew (e ▸ hx)⟩, fun z => ?_⟩
        by_cases hz : z = a
        · subst hz
          simp only [List.mem_append, List.mem_singleton, or_true, true_iff]
          exact ⟨hex, by simp [Lit.sameKey]⟩
        · have hk2 : (Lit.int .u64 (z : Int)).sameKey (.int .u64 (a : Int)) = false := by
            simp [Lit.sameKey]
            omega
          rw [hk2]
          simp only [List.mem_append, List.mem_singleton, hz, or_false, Bool.not_false, Bool.and_true]
          exact hC.2 z
      have hJ2 : J ss w2 := hJ ss wr w2 (some W.heap.size) hJs hg2 (fun r e => by cases e; exact ⟨Nat.le_refl _, hrg.iter_walk⟩)
      obtain ⟨fn, tmps, assign, body, hy, hR⟩ := hY ss a w2 hJ2 (by omega)
      unfold uv at hy
      clear hs2 hh hex hnew
      gi_wp2
      refine hR.mono ?_
      rintro e W3 (⟨rfl, hJ3, hk3⟩ | ⟨rfl, hJx3⟩)
      · gi_wp2
        have hrg3 := hrg2.of_walks hk3
        go_roundw
        case rel => exact ⟨_, cnt2, ss ++ [a], hrg3, by simp; omega, hC2, hJ3⟩
        case measure => rw [hrg3.left_eq, hrg.left_eq]; exact hlt
      · gi_wp2
        refine bodyPost_ret (results_none rfl _ _ _) rfl ?_
        exact ⟨⟨_, rfl⟩, .inr ⟨ss ++ [a], trivial, hJx3⟩⟩
theorem keysU_stops (n : Nat) (hn : 1 ≤ n) (Bm : Nat) (hnd : (addrs m).Nodup) (w : World) (hBm : Bm < w.heap.size) (hm : w.cell? ⟨Bm, 0, none⟩ = some (.map (some b))) (hown : MapL Tryd.prog 22 w b (VL f m)) :
    SeqStops Fence.wide n Tryd.prog 72 #[.pointer (some ⟨Bm, 0, none⟩)] uv (fun ss => ss.Perm (addrs m)) (fun _ => True) m.length w := fun l J Jx W hW hJ _ hY h0 =>
  keysU1_in n hn l Bm J Jx hnd hY W hJ ((hW.cell (p := ⟨Bm, 0, none⟩) hBm).trans hm) (hown.same (hW.block b hown.lt)) h0
set_option maxRecDepth 100000 in
set_option maxHeartbeats 4000000 in
theorem appendseqU_in (n : Nat) (hn : 3 ≤ n) (Bm : Nat) (hnd : (addrs m).Nodup) (w : World) (hBm : Bm < w.heap.size) (hm : w.cell? ⟨Bm, 0, none⟩ = some (.map (some b))) (hown : MapL Tryd.prog 22 w b (VL f m)) (hlen : m.length ≤ 512) :
    CallsIn Fence.wide n Tryd.prog 67 #[.slice none 0 0, .func (.func 72) #[] #[.pointer (some ⟨Bm, 0, none⟩)]] w fun e W' => ∃ (v : Value) (ss : List Nat), e = .returned v ∧ ss.Perm (addrs m) ∧ W'.ownsRow w.heap.size 22 1 v ss.length (ss.map uv) ∧ Below w.heap.size w W' := by
  have h1 : 1 ≤ n := by omega
  have hro : Fence.wide.round = none := rfl
  refine callsIn_of_wp_marks Tryd.func67 rfl trivial ?_ hro
  simp only [Tryd.ntmps67, List.size_toArray, List.length_cons, List.length_nil, Nat.reduceAdd, Nat.reduceSub, Array.replicate_succ, Array.replicate_zero, List.push_toArray, List.append_toArray, List.nil_append, List.cons_append]
  gi_wp2
  have hi := u64_info
  obtain ⟨i0, hi, hz0, hz1, hz2⟩ := info_parts hi
  have bO := Boxed.new w 40 (.slice none 0 0)
  have hB0 : Below w.heap.size w (w.alloc (.cells #[.slice none 0 0] 40)) := (Below.refl _ w).alloc (Nat.le_refl _) _
  refine wpIn_rangeFunc_ownF hro h1 (gf := 72) (lb := #[.pointer (some ⟨Bm, 0, none⟩)]) rfl trivial (enters_of Tryd.func72 (by kernel_rfl) rfl)
    (keysU_stops (n - 1) (by omega) Bm hnd _ (by rw [World.size_alloc]; omega) ((World.cell?_of_block (w := w) (Below.heap_alloc _ _ _ hBm)).trans hm) (hown.same (Below.heap_alloc _ _ _ hown.lt))) walksK_t (walksK_b) (Below.refl _ _) (fun _ => rfl)
    (fun (pre : List Nat) W => (∃ v, Boxed W w.heap.size 40 v ∧ W.ownsRow w.heap.size 22 1 v pre.length (pre.map uv) ∧ True) ∧ Below w.heap.size w W)
    (fun _ _ _ => False)
    (OwnFrom.and (Own.from (holdsRow_own w.heap.size w.heap.size 40 22 1 (fun pre : List Nat => pre.length) (fun pre => pre.map uv) (fun _ _ => True)) _) (ownFrom_below (Nat.le_refl _) (by simp)))
    (fun _ _ _ _ _ hs _ _ => hs)
    ⟨⟨_, bO, World.ownsRow_nil _ _ _ _, trivial⟩, hB0⟩
    (fun x => { tmps := #[.slice none 0 0, .func (.func 72) #[] #[.pointer (some ⟨Bm, 0, none⟩)], .pointer (some ⟨w.heap.size, 0, none⟩), undef, .slice none 0 0, uv x, .func (.func 72) #[] #[.pointer (some ⟨Bm, 0, none⟩)], uv x, undef, undef, undef, undef, undef], defers := [] }) ?assign ?body ?done ?stop
  case assign =>
    intro l x W K hK
    gi_wp2
    exact hK
  case body =>
    rintro l pre x W ⟨⟨v, hv, hrow, _⟩, hB⟩ hlt
    have hc := hv.cell
    unfold uv
    gi_wp2_with (gi_at_builtin; refine wpListIn_append_own _ rfl _ _ 40 rfl w.heap.size 22 i0 (.int .u64 0) 1 8 Tryd.underlying40 hi hz0 hz1 hz2 rfl (by decide) _ _ _ rfl (hrow.alloc _) ⟨W.heap.size, 0, none⟩ 1 1 [.int .u64 (x : Int)] rfl rfl (cell_one_new _ _ _) (by simp [Value.oneCell']) (by unfold maxLen; omega) (by omega) (by have := hB.size; simp; omega) ?_; intro v' w1 hown' hgrow _; obtain ⟨g', cap', rfl⟩ := ownsRow_succ hown'; obtain ⟨hv1, hv2, hr2, hk2, hb2⟩ := hv.appended (by decide) hrow hB.size (Nat.le_refl _) hown' hgrow; have hc1 := hv1.cell; have hf1 := hv1.frozen)
    exact ⟨hk2, hk2.walks, ⟨_, hv2, by rw [List.length_append, List.map_append]; exact hr2, trivial⟩, hB.trans hb2⟩
  case done =>
    rintro D ys W hD hS ⟨⟨v, hv, hrow, _⟩, hB⟩ hK
    have hc := hv.cell
    gi_wp2
    refine ⟨by simp, .inl ⟨_, _, rfl, run_takeDeferred hK, ?_⟩⟩
    exact ⟨_, results_tmp rfl _ _ _, v, ys, rfl, hS, ownsRow_putObj hrow _ hK rfl, hB.trans (belowK_b (w := w) (Nat.le_refl _) W D _ _ (by simp at hD; omega) hK rfl rfl)⟩
  case stop =>
    rintro D c pre W _ _ h _
    exact h.elim
theorem appendseqU_any (Bm : Nat) (hnd : (addrs m).Nodup) (w : World) (hBm : Bm < w.heap.size) (hm : w.cell? ⟨Bm, 0, none⟩ = some (.map (some b))) (hown : MapL Tryd.prog 22 w b (VL f m)) (hlen : m.length ≤ 512) :
    Calls Tryd.prog 67 #[.slice none 0 0, .func (.func 72) #[] #[.pointer (some ⟨Bm, 0, none⟩)]] w fun e W' => ∃ (v : Value) (ss : List Nat), e = .returned v ∧ ss.Perm (addrs m) ∧ W'.ownsRow w.heap.size 22 1 v ss.length (ss.map uv) ∧ Below w.heap.size w W' :=
  callsIn_wide.1 (appendseqU_in 3 (Nat.le_refl _) Bm hnd w hBm hm hown hlen)
theorem sorted_eq (ss : List Nat) (l : List Nat) (hp : ss.Perm l) (hl : l.Pairwise (· < ·)) : (Sort.insertionSort ltN ss.toArray 0 ss.toArray.size).toList = l := by
  have h := Sort.insertionSort_holds swoN ss.toArray 0 ss.toArray.size (Nat.zero_le _) (Nat.le_refl _)
  have h2 := Sort.sorted_unique_holds swoN (fun x y h1 h2 => by simp only [ltN, decide_eq_false_iff_not] at h1 h2; omega) ss.toArray _ h.1 h.2
  rw [h2]
  have e : (fun x y => !ltN y x) = fun x y => decide (x ≤ y) := by
    funext x y
    unfold ltN
    rw [Bool.eq_iff_iff]
    simp
  rw [e]
  refine List.Perm.eq_of_pairwise (le := fun a b : Nat => a ≤ b) (fun a b _ _ h1 h2 => Nat.le_antisymm h1 h2) ?_ (hl.imp fun h => Nat.le_of_lt h) ((List.mergeSort_perm _ _).trans hp)
  have := List.pairwise_mergeSort (le := fun x y : Nat => decide (x ≤ y)) (by simp; omega) (by simp; omega) ss
  simpa using this
set_option maxHeartbeats 2000000 in
theorem keysU_any (b : Nat) (w : World) : Calls Tryd.prog 62 #[.map (some b)] w fun e w' => e = .returned (.func (.func 72) #[] #[.pointer (some ⟨w.heap.size, 0, none⟩)]) ∧ w' = w.alloc (.cells #[.map (some b)] 118) := by
  go_enter Tryd.func62, Tryd.ntmps62
  go_wp2_with fail
  go_ret
  exact ⟨rfl, rfl⟩
theorem own_shape {base : Nat} {e : TypeId} {k n : Nat} {v : Value} {xs : List Value} (h : w.ownsRow base e k v n xs) : ∃ a2 c2, v = .slice a2 n c2 := by
  rcases h.2 with ⟨rfl, e0⟩ | ⟨g, cap, cur, rfl, _⟩
  · exact ⟨none, 0, by rw [e0]⟩
  · exact ⟨_, _, rfl⟩
set_option maxHeartbeats 1000000 in
theorem collectU_any (Bm : Nat) (hnd : (addrs m).Nodup) (w : World) (hBm : Bm < w.heap.size) (hm : w.cell? ⟨Bm, 0, none⟩ = some (.map (some b))) (hown : MapL Tryd.prog 22 w b (VL f m)) (hlen : m.length ≤ 512) :
    Calls Tryd.prog 55 #[.func (.func 72) #[] #[.pointer (some ⟨Bm, 0, none⟩)]] w fun e W' => ∃ (v : Value) (ss : List Nat), e = .returned v ∧ ss.Perm (addrs m) ∧ W'.ownsRow w.heap.size 22 1 v ss.length (ss.map uv) ∧ Below w.heap.size w W' := by
  have hap := appendseqU_any Bm hnd w hBm hm hown hlen
  go_enter Tryd.func55, Tryd.ntmps55
  go_wp2_with fail
  refine hap.mono ?_
  rintro e W ⟨v, ss, rfl, h1, h2, h3⟩
  obtain ⟨a2, c2, rfl⟩ := own_shape h2
  go_wp2_with fail
  go_ret
  exact ⟨_, ss, rfl, h1, h2, h3⟩
/-- sorting what came: the addresses -/
theorem sort_addrs {v : Value} {base : Nat} (ss : List Nat) (hp : ss.Perm (addrs m)) (hsrt : (addrs m).Pairwise (· < ·)) (hlen : m.length ≤ 12) (ho : w.ownsRow base 22 1 v m.length (ss.map uv)) :
    Calls Tryd.prog 56 #[v] w fun e w' => e = .returned (.tuple #[]) ∧ w'.ownsRow base 22 1 v m.length ((addrs m).map uv) ∧ Keep (fun j => some j = v.ownBlock) w w' ∧ w'.heap.size = w.heap.size := by
  have hsl : m.length = ss.toArray.size := by rw [List.size_toArray, hp.length_eq]; simp [addrs]
  have hse := sorted_eq ss (addrs m) hp hsrt
  rw [hsl] at ho hlen ⊢
  refine (sort_small (w := w) (D := ss.toArray) (v := v) ho hlen).mono ?_
  rintro e W ⟨h1, h2, h3, h4⟩
  rw [hse] at h2
  exact ⟨h1, h2, h3, h4⟩
set_option maxHeartbeats 1000000 in
/-- slices.Sorted(maps.Keys(m)), where the sort sorts -/
theorem sortedU_of (Bm : Nat) (hsrt : (addrs m).Pairwise (· < ·)) (w : World) (hBm : Bm < w.heap.size) (hm : w.cell? ⟨Bm, 0, none⟩ = some (.map (some b))) (hown : MapL Tryd.prog 22 w b (VL f m)) (hlen : m.length ≤ 512)
    (hso : ∀ (W : World) (v : Value) (ss : List Nat), ss.Perm (addrs m) → W.ownsRow w.heap.size 22 1 v m.length (ss.map uv) → Calls Tryd.prog 56 #[v] W fun e w' => e = .returned (.tuple #[]) ∧ w'.ownsRow w.heap.size 22 1 v m.length ((addrs m).map uv) ∧ Keep (fun j => some j = v.ownBlock) W w') :
    Calls Tryd.prog 30 #[.func (.func 72) #[] #[.pointer (some ⟨Bm, 0, none⟩)]] w fun e W' => ∃ v : Value, e = .returned v ∧ W'.ownsRow w.heap.size 22 1 v m.length ((addrs m).map uv) ∧ Keep No w W' := by
  have hco := collectU_any Bm (hsrt.imp fun h => Nat.ne_of_lt h) w hBm hm hown (by omega)
  have hal : (addrs m).length = m.length := by simp [addrs]
  generalize addrs m = l at *
  clear hsrt hown hm hlen
  generalize m.length = n at *
  go_enter Tryd.func30, Tryd.ntmps30
  go_wp2_with fail
  refine hco.mono ?_
  rintro e W ⟨v, ss, rfl, hp, ho, hB⟩
  rw [hp.length_eq, hal] at ho
  have hs := hso W v ss hp ho
  clear hso hco
  obtain ⟨a2, c2, rfl⟩ := own_shape ho
  go_wp2_with fail
  refine hs.mono ?_
  rintro e W2 ⟨rfl, h1, h2⟩
  go_wp2_with fail
  go_ret
  exact ⟨_, rfl, h1, (Keep.of_below hB).trans h2 fun j hj e => by have := (ho.lt j e.symm).1; omega⟩
/-- slices.Sorted(maps.Keys(m)), of up to twelve pages -/
theorem sortedU_any (Bm : Nat) (hsrt : (addrs m).Pairwise (· < ·)) (w : World) (hBm : Bm < w.heap.size) (hm : w.cell? ⟨Bm, 0, none⟩ = some (.map (some b))) (hown : MapL Tryd.prog 22 w b (VL f m)) (hlen : m.length ≤ 12) :
    Calls Tryd.prog 30 #[.func (.func 72) #[] #[.pointer (some ⟨Bm, 0, none⟩)]] w fun e W' => ∃ v : Value, e = .returned v ∧ W'.ownsRow w.heap.size 22 1 v m.length ((addrs m).map uv) ∧ Keep No w W' :=
  sortedU_of Bm hsrt w hBm hm hown (by omega) fun W v ss hp ho => (sort_addrs (w := W) ss hp hsrt hlen ho).mono fun _ _ h => ⟨h.1, h.2.1, h.2.2.1⟩
end
end Go.Proofs.YthfekjnekaecaaaDoor
