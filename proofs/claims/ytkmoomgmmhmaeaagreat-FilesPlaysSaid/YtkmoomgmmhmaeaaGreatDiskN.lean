/- Sync and SyncNames. maps.Clone at the disk's type. Crash: its closure, and what its steps leave of the disk. Crash. No condition. -/
import Derived.Test.YtkmoomgmmhmaeaaGreatDiskZ
import Derived.LaidEqlPtr
import Derived.Test.YtkmoomgmmhmaeaaGreatDiskF
import Derived.Shelf.SlMaps.Clone
import Derived.Test.YtkmoomgmmhmaeaaGreatDiskU
namespace Go.Proofs.YtkmoomgmmhmaeaaGreat
open Go.RowKit Go.Dm Go.Dm.Dk Go.Maps

set_option maxRecDepth 100000 in
set_option maxHeartbeats 400000 in
theorem syncnames1_any (w : World) : Calls Tryz.prog 66 #[] w fun e w' => e = .returned (.int .i64 0) ∧ w = w' := by
  go_enter Tryz.func66, Tryz.ntmps66
  go_wp2_with (first | (at_builtin; refine wl_append rfl _ _ _ _ rfl _ _ rfl rfl ?_) | (at_make; refine wl_make rfl _ _ _ rfl _ _ rfl rfl ?_) | (at_mapUpdate; refine wl_mapUpdate rfl _ _ _ _ rfl _ _ _ rfl rfl rfl ?_) | (at_lookup; refine wl_lookup rfl _ _ _ _ rfl _ _ rfl rfl ?_) | (at_delete; refine wl_delete rfl _ _ _ _ rfl _ _ rfl rfl ?_) | (with_reducible refine wl_len rfl _ _ rfl _ rfl ?_) | (with_reducible refine wl_range rfl _ _ rfl _ rfl ?_) | (with_reducible refine wl_next rfl _ rfl _ rfl ?_) | (with_reducible refine wl_copy rfl _ _ _ _ rfl _ _ rfl rfl ?_) | (with_reducible refine wl_max rfl _ _ _ _ rfl _ _ rfl rfl ?_) | (with_reducible refine wl_min rfl _ _ _ _ rfl _ _ rfl rfl ?_))
  go_ret
  exact ⟨rfl, rfl⟩

set_option maxRecDepth 100000 in
set_option maxHeartbeats 400000 in
theorem syncnames21_any {fb : List Nat} {o : Dk.Op} (p0 p1 p2 p3 : Value) (w : World) (h : (o.kind = 1 ∧ p0 = fptr fb o.file) ∨ (o.kind ≠ 1 ∧ p0 = .pointer none)) :
    Calls Tryz.prog 68 #[.agg #[p0, p1, p2, p3]] w fun e w' => e = .returned (.bool (o.kind != 1)) ∧ Keep No w w' := by
  rcases h with ⟨hk, rfl⟩ | ⟨hk, rfl⟩
  · have e : (o.kind != 1) = false := by simp [hk]
    rw [e]
    unfold fptr ptrTo
    go_enter Tryz.func68, Tryz.ntmps68
    go_wp2_with (first | (at_builtin; refine wl_append rfl _ _ _ _ rfl _ _ rfl rfl ?_) | (at_make; refine wl_make rfl _ _ _ rfl _ _ rfl rfl ?_) | (at_mapUpdate; refine wl_mapUpdate rfl _ _ _ _ rfl _ _ _ rfl rfl rfl ?_) | (at_lookup; refine wl_lookup rfl _ _ _ _ rfl _ _ rfl rfl ?_) | (at_delete; refine wl_delete rfl _ _ _ _ rfl _ _ rfl rfl ?_) | (with_reducible refine wl_len rfl _ _ rfl _ rfl ?_) | (with_reducible refine wl_range rfl _ _ rfl _ rfl ?_) | (with_reducible refine wl_next rfl _ rfl _ rfl ?_) | (with_reducible refine wl_copy rfl _ _ _ _ rfl _ _ rfl rfl ?_) | (with_reducible refine wl_max rfl _ _ _ _ rfl _ _ rfl rfl ?_) | (with_reducible refine wl_min rfl _ _ _ _ rfl _ _ rfl rfl ?_))
    go_ret
    exact ⟨rfl, (Keep.refl _ _).alloc _⟩
  · have e : (o.kind != 1) = true := by simp [hk]
    rw [e]
    go_enter Tryz.func68, Tryz.ntmps68
    go_wp2_with (first | (at_builtin; refine wl_append rfl _ _ _ _ rfl _ _ rfl rfl ?_) | (at_make; refine wl_make rfl _ _ _ rfl _ _ rfl rfl ?_) | (at_mapUpdate; refine wl_mapUpdate rfl _ _ _ _ rfl _ _ _ rfl rfl rfl ?_) | (at_lookup; refine wl_lookup rfl _ _ _ _ rfl _ _ rfl rfl ?_) | (at_delete; refine wl_delete rfl _ _ _ _ rfl _ _ rfl rfl ?_) | (with_reducible refine wl_len rfl _ _ rfl _ rfl ?_) | (with_reducible refine wl_range rfl _ _ rfl _ rfl ?_) | (with_reducible refine wl_next rfl _ rfl _ rfl ?_) | (with_reducible refine wl_copy rfl _ _ _ _ rfl _ _ rfl rfl ?_) | (with_reducible refine wl_max rfl _ _ _ _ rfl _ _ rfl rfl ?_) | (with_reducible refine wl_min rfl _ _ _ _ rfl _ _ rfl rfl ?_))
    go_ret
    exact ⟨rfl, (Keep.refl _ _).alloc _⟩

theorem info_file : (Tryz.prog.info? 76).map (fun i => (i.zero, i.size, i.bytes)) = some (some (.agg #[.slice none 0 0, .slice none 0 0]), 2, 48) := by kernel_rfl
theorem eql_file {w : World} {a b : Nat} {ca cb : Array Value} {ta tb : TypeId} (ha : Blk w a ca ta) (hb : Blk w b cb tb) :
    (binOp .eql 68 (.pointer (some ⟨a, 0, none⟩)) (.pointer (some ⟨b, 0, none⟩))).run Tryz.prog w = .ok (.bool (a == b)) w := by
  obtain ⟨i, hi, _, h2, _⟩ := info_parts info_file
  by_cases e : a = b
  · subst e
    rw [beq_self_eq_true]
    exact run_eql_ptr_same (P := Tryz.prog) w ⟨a, 0, none⟩ Tryz.underlying68 hi
  · have e2 : (a == b) = false := by simpa using e
    rw [e2]
    exact run_eql_ptr_other (P := Tryz.prog) w Tryz.underlying68 hi (by rw [h2]; decide) (fun h => e (congrArg Addr.block h)) ha hb

theorem eql_nil_file (w : World) (a : Addr) : (binOp .eql 68 (.pointer none) (.pointer (some a))).run Tryz.prog w = .ok (.bool false) w := by
  have h : ∀ d : Nat, (Op.equalIn (d + 1) 68 (.pointer none) (.pointer (some a))).run Tryz.prog w = .ok false w := fun d => by
    simp [Op.equalIn, run_underlying Tryz.underlying68, sizeOf, typeInfo]
  simp only [binOp]
  simp [Op.equal, Op.maxDepth, h 9999]

set_option maxRecDepth 100000 in
set_option maxHeartbeats 400000 in
theorem sync21_any {fb : List Nat} {o : Dk.Op} {x f : Nat} (p0 p1 p2 p3 : Value) (w : World) (h : (o.kind = 1 ∧ p0 = fptr fb o.file) ∨ (o.kind ≠ 1 ∧ p0 = .pointer none)) (hx : w.cell? ⟨x, 0, none⟩ = some (fptr fb f))
    {ca : Array Value} (hf : Blk w (fb.getD f 0) ca 76) (ho : o.kind = 1 → ∃ cb, Blk w (fb.getD o.file 0) cb 76) (hinj : o.kind = 1 → fb.getD o.file 0 = fb.getD f 0 → o.file = f) :
    Calls Tryz.prog 79 #[.agg #[p0, p1, p2, p3], .pointer (some ⟨x, 0, none⟩)] w fun e w' => e = .returned (.bool (o.kind == 1 && o.file == f)) ∧ Keep No w w' := by
  have hxl := World.block_lt_of_cell? w _ hx
  simp only at hxl
  unfold fptr ptrTo at hx
  rcases h with ⟨hk, rfl⟩ | ⟨hk, rfl⟩
  · unfold fptr ptrTo
    have e : (o.kind == 1 && o.file == f) = (fb.getD o.file 0 == fb.getD f 0) := by
      simp only [hk, beq_self_eq_true, Bool.true_and]
      rw [Bool.eq_iff_iff, beq_iff_eq, beq_iff_eq]
      exact ⟨fun e => by rw [e], hinj hk⟩
    rw [e]
    clear hinj e
    obtain ⟨cb, ho⟩ := ho hk
    generalize fb.getD o.file 0 = a at *
    generalize fb.getD f 0 = b at *
    have q := eql_file (ho.alloc (.cells #[.pointer (some ⟨a, 0, none⟩), p1, p2, p3] 71)) (hf.alloc _)
    go_enter Tryz.func79, Tryz.ntmps79
    go_wp2_with (first | (at_builtin; refine wl_append rfl _ _ _ _ rfl _ _ rfl rfl ?_) | (at_make; refine wl_make rfl _ _ _ rfl _ _ rfl rfl ?_) | (at_mapUpdate; refine wl_mapUpdate rfl _ _ _ _ rfl _ _ _ rfl rfl rfl ?_) | (at_lookup; refine wl_lookup rfl _ _ _ _ rfl _ _ rfl rfl ?_) | (at_delete; refine wl_delete rfl _ _ _ _ rfl _ _ rfl rfl ?_) | (with_reducible refine wl_len rfl _ _ rfl _ rfl ?_) | (with_reducible refine wl_range rfl _ _ rfl _ rfl ?_) | (with_reducible refine wl_next rfl _ rfl _ rfl ?_) | (with_reducible refine wl_copy rfl _ _ _ _ rfl _ _ rfl rfl ?_) | (with_reducible refine wl_max rfl _ _ _ _ rfl _ _ rfl rfl ?_) | (with_reducible refine wl_min rfl _ _ _ _ rfl _ _ rfl rfl ?_))
    go_ret
    exact ⟨rfl, (Keep.refl _ _).alloc _⟩
  · have e : (o.kind == 1 && o.file == f) = false := by simp [hk]
    rw [e]
    generalize fb.getD f 0 = b at *
    have q := fun w => eql_nil_file w ⟨b, 0, none⟩
    go_enter Tryz.func79, Tryz.ntmps79
    go_wp2_with (first | (at_builtin; refine wl_append rfl _ _ _ _ rfl _ _ rfl rfl ?_) | (at_make; refine wl_make rfl _ _ _ rfl _ _ rfl rfl ?_) | (at_mapUpdate; refine wl_mapUpdate rfl _ _ _ _ rfl _ _ _ rfl rfl rfl ?_) | (at_lookup; refine wl_lookup rfl _ _ _ _ rfl _ _ rfl rfl ?_) | (at_delete; refine wl_delete rfl _ _ _ _ rfl _ _ rfl rfl ?_) | (with_reducible refine wl_len rfl _ _ rfl _ rfl ?_) | (with_reducible refine wl_range rfl _ _ rfl _ rfl ?_) | (with_reducible refine wl_next rfl _ rfl _ rfl ?_) | (with_reducible refine wl_copy rfl _ _ _ _ rfl _ _ rfl rfl ?_) | (with_reducible refine wl_max rfl _ _ _ _ rfl _ _ rfl rfl ?_) | (with_reducible refine wl_min rfl _ _ _ _ rfl _ _ rfl rfl ?_))
    go_ret
    exact ⟨rfl, (Keep.refl _ _).alloc _⟩
theorem enters_sync1 (a b : Value) : Enters 77 #[a, b] := fun w => by kernel_rfl
theorem enters_sync2 (a b : Value) : Enters 78 #[a, b] := fun w => by kernel_rfl
theorem enters_sync21 (a b : Value) : Enters 79 #[a, b] := fun w => by kernel_rfl
theorem enters_syncnames1 : Enters 66 #[] := fun w => by kernel_rfl
theorem enters_syncnames2 (a : Value) : Enters 67 #[a] := fun w => by kernel_rfl
theorem enters_syncnames21 (a : Value) : Enters 68 #[a] := fun w => by kernel_rfl

set_option maxRecDepth 100000 in
set_option maxHeartbeats 400000 in
theorem sync1_any {nb x y d : Nat} {fb : List Nat} {L : Names} (s : List UInt8) (w : World) (hs : s.length ≤ maxLen) (hn : MapL Tryz.prog 9 w nb (NL fb L)) (hd : w.cell? ⟨d, 1, none⟩ = some (.map (some nb)))
    (hx : w.cell? ⟨x, 0, none⟩ = some (.pointer (some ⟨d, 0, none⟩))) (hy : w.cell? ⟨y, 0, none⟩ = some (.string ⟨s.toArray⟩)) :
    Calls Tryz.prog 77 #[.pointer (some ⟨x, 0, none⟩), .pointer (some ⟨y, 0, none⟩)] w fun e w' => e = .returned (.int .i64 (thereN L s : Nat)) ∧ w = w' := by
  go_enter Tryz.func77, Tryz.ntmps77
  go_wp2_with (first | (at_builtin; refine wl_append rfl _ _ _ _ rfl _ _ rfl rfl ?_) | (at_make; refine wl_make rfl _ _ _ rfl _ _ rfl rfl ?_) | (at_mapUpdate; refine wl_mapUpdate rfl _ _ _ _ rfl _ _ _ rfl rfl rfl ?_) | (at_lookup; refine wl_lookup rfl _ _ _ _ rfl _ _ rfl rfl ?_) | (at_delete; refine wl_delete rfl _ _ _ _ rfl _ _ rfl rfl ?_) | (with_reducible refine wl_len rfl _ _ rfl _ rfl ?_) | (with_reducible refine wl_range rfl _ _ rfl _ rfl ?_) | (with_reducible refine wl_next rfl _ rfl _ rfl ?_) | (with_reducible refine wl_copy rfl _ _ _ _ rfl _ _ rfl rfl ?_) | (with_reducible refine wl_max rfl _ _ _ _ rfl _ _ rfl rfl ?_) | (with_reducible refine wl_min rfl _ _ _ _ rfl _ _ rfl rfl ?_))
  refine (there_any s _ hs hn hd).mono ?_
  rintro e w1 ⟨rfl, rfl⟩
  go_wp2_with (first | (at_builtin; refine wl_append rfl _ _ _ _ rfl _ _ rfl rfl ?_) | (at_make; refine wl_make rfl _ _ _ rfl _ _ rfl rfl ?_) | (at_mapUpdate; refine wl_mapUpdate rfl _ _ _ _ rfl _ _ _ rfl rfl rfl ?_) | (at_lookup; refine wl_lookup rfl _ _ _ _ rfl _ _ rfl rfl ?_) | (at_delete; refine wl_delete rfl _ _ _ _ rfl _ _ rfl rfl ?_) | (with_reducible refine wl_len rfl _ _ rfl _ rfl ?_) | (with_reducible refine wl_range rfl _ _ rfl _ rfl ?_) | (with_reducible refine wl_next rfl _ rfl _ rfl ?_) | (with_reducible refine wl_copy rfl _ _ _ _ rfl _ _ rfl rfl ?_) | (with_reducible refine wl_max rfl _ _ _ _ rfl _ _ rfl rfl ?_) | (with_reducible refine wl_min rfl _ _ _ _ rfl _ _ rfl rfl ?_))
  go_ret
  exact ⟨rfl, rfl⟩

set_option maxRecDepth 100000 in
set_option maxHeartbeats 400000 in
theorem syncnames2_any {A : Nat → Prop} {d x : Nat} {m : M} (w : World) (h : DR A w d m) (hA : ∀ k, A k → k < w.heap.size) (hfit : FitW m)
    (hx : w.cell? ⟨x, 0, none⟩ = some (.pointer (some ⟨d, 0, none⟩))) :
    Calls Tryz.prog 67 #[.pointer (some ⟨x, 0, none⟩)] w fun e w' => e = .returned (.tuple #[]) ∧ DR (Plus A w w') w' d (done m 6 [] [] 0 []) ∧ Keep A w w' := by
  obtain ⟨fb, nb, sb, wv, rows, h⟩ := h
  have hcall := settle_any (C := No) (f := 68) (caps := #[]) (fun i => match m.wait[i]? with | some o => o.kind != 1 | none => false) (fun _ _ => True) w h hA (fun k hk => hk.elim) hfit (fun v => enters_syncnames21 v) trivial
    (fun _ _ _ _ _ _ => trivial) (by
      intro i o p0 p1 p2 p3 w1 _ _ ho hp
      refine (syncnames21_any p0 p1 p2 p3 w1 hp).mono ?_
      rintro e w2 ⟨rfl, hk⟩
      exact ⟨by rw [ho], trivial, hk⟩)
  have HC := Lib.hid hcall
  clear hcall
  go_enter Tryz.func67, Tryz.ntmps67
  go_wp2_with (first | (at_builtin; refine wl_append rfl _ _ _ _ rfl _ _ rfl rfl ?_) | (at_make; refine wl_make rfl _ _ _ rfl _ _ rfl rfl ?_) | (at_mapUpdate; refine wl_mapUpdate rfl _ _ _ _ rfl _ _ _ rfl rfl rfl ?_) | (at_lookup; refine wl_lookup rfl _ _ _ _ rfl _ _ rfl rfl ?_) | (at_delete; refine wl_delete rfl _ _ _ _ rfl _ _ rfl rfl ?_) | (with_reducible refine wl_len rfl _ _ rfl _ rfl ?_) | (with_reducible refine wl_range rfl _ _ rfl _ rfl ?_) | (with_reducible refine wl_next rfl _ rfl _ rfl ?_) | (with_reducible refine wl_copy rfl _ _ _ _ rfl _ _ rfl rfl ?_) | (with_reducible refine wl_max rfl _ _ _ _ rfl _ _ rfl rfl ?_) | (with_reducible refine wl_min rfl _ _ _ _ rfl _ _ rfl rfl ?_))
  refine HC.out.mono ?_
  rintro e w' ⟨rfl, h2, h3, _⟩
  go_wp2_with (first | (at_builtin; refine wl_append rfl _ _ _ _ rfl _ _ rfl rfl ?_) | (at_make; refine wl_make rfl _ _ _ rfl _ _ rfl rfl ?_) | (at_mapUpdate; refine wl_mapUpdate rfl _ _ _ _ rfl _ _ _ rfl rfl rfl ?_) | (at_lookup; refine wl_lookup rfl _ _ _ _ rfl _ _ rfl rfl ?_) | (at_delete; refine wl_delete rfl _ _ _ _ rfl _ _ rfl rfl ?_) | (with_reducible refine wl_len rfl _ _ rfl _ rfl ?_) | (with_reducible refine wl_range rfl _ _ rfl _ rfl ?_) | (with_reducible refine wl_next rfl _ rfl _ rfl ?_) | (with_reducible refine wl_copy rfl _ _ _ _ rfl _ _ rfl rfl ?_) | (with_reducible refine wl_max rfl _ _ _ _ rfl _ _ rfl rfl ?_) | (with_reducible refine wl_min rfl _ _ _ _ rfl _ _ rfl rfl ?_))
  go_end0
  refine ⟨rfl, h2, h3.mono fun k _ hk => ?_⟩
  rcases hk with hk | hk
  · exact hk
  · exact hk.elim

set_option maxRecDepth 100000 in
set_option maxHeartbeats 400000 in
theorem sync2_any {A : Nat → Prop} {d x y f : Nat} {m : M} (s : List UInt8) (w : World) (h : DR A w d m) (hA : ∀ k, A k → k < w.heap.size) (hfit : FitW m) (hs : s.length ≤ maxLen) (hf : find m.L s = some f)
    (hx : w.cell? ⟨x, 0, none⟩ = some (.pointer (some ⟨d, 0, none⟩))) (hy : w.cell? ⟨y, 0, none⟩ = some (.string ⟨s.toArray⟩)) :
    Calls Tryz.prog 78 #[.pointer (some ⟨x, 0, none⟩), .pointer (some ⟨y, 0, none⟩)] w fun e w' => e = .returned (.tuple #[]) ∧ DR (Plus A w w') w' d (done m 3 s [] 0 []) ∧ Keep A w w' := by
  obtain ⟨fb, nb, sb, wv, rows, h⟩ := h
  have hd := h.blk.cell 1
  simp only [List.getElem?_toArray, List.getElem?_cons_succ, List.getElem?_cons_zero] at hd
  have hxl := World.block_lt_of_cell? w _ hx
  simp only at hxl
  have hff := find_mem hf
  go_enter Tryz.func78, Tryz.ntmps78
  go_wp2_with (first | (at_builtin; refine wl_append rfl _ _ _ _ rfl _ _ rfl rfl ?_) | (at_make; refine wl_make rfl _ _ _ rfl _ _ rfl rfl ?_) | (at_mapUpdate; refine wl_mapUpdate rfl _ _ _ _ rfl _ _ _ rfl rfl rfl ?_) | (at_lookup; refine wl_lookup rfl _ _ _ _ rfl _ _ rfl rfl ?_) | (at_delete; refine wl_delete rfl _ _ _ _ rfl _ _ rfl rfl ?_) | (with_reducible refine wl_len rfl _ _ rfl _ rfl ?_) | (with_reducible refine wl_range rfl _ _ rfl _ rfl ?_) | (with_reducible refine wl_next rfl _ rfl _ rfl ?_) | (with_reducible refine wl_copy rfl _ _ _ _ rfl _ _ rfl rfl ?_) | (with_reducible refine wl_max rfl _ _ _ _ rfl _ _ rfl rfl ?_) | (with_reducible refine wl_min rfl _ _ _ _ rfl _ _ rfl rfl ?_))
  refine (of_any d s _ hs h.nm hd).mono ?_
  rintro e w1 ⟨rfl, rfl⟩
  simp only [ofV, hf, Option.map_some, Option.getD_some, fptr, ptrTo]
  go_wp2_with (first | (at_builtin; refine wl_append rfl _ _ _ _ rfl _ _ rfl rfl ?_) | (at_make; refine wl_make rfl _ _ _ rfl _ _ rfl rfl ?_) | (at_mapUpdate; refine wl_mapUpdate rfl _ _ _ _ rfl _ _ _ rfl rfl rfl ?_) | (at_lookup; refine wl_lookup rfl _ _ _ _ rfl _ _ rfl rfl ?_) | (at_delete; refine wl_delete rfl _ _ _ _ rfl _ _ rfl rfl ?_) | (with_reducible refine wl_len rfl _ _ rfl _ rfl ?_) | (with_reducible refine wl_range rfl _ _ rfl _ rfl ?_) | (with_reducible refine wl_next rfl _ rfl _ rfl ?_) | (with_reducible refine wl_copy rfl _ _ _ _ rfl _ _ rfl rfl ?_) | (with_reducible refine wl_max rfl _ _ _ _ rfl _ _ rfl rfl ?_) | (with_reducible refine wl_min rfl _ _ _ _ rfl _ _ rfl rfl ?_))
  generalize hW : w.alloc (Obj.cells #[Value.pointer (some { block := fb[f]?.getD 0, off := 0 })] 68) = W
  have hWs : W.heap.size = w.heap.size + 1 := by subst hW; simp
  have hkW : Keep No w W := by subst hW; exact (Keep.refl _ _).alloc _
  have hB : Blk W w.heap.size #[fptr fb f] 68 := by subst hW; exact Blk.new _ _ _
  clear hW
  have hA' : ∀ k, A k → k < W.heap.size := fun k ha => by have := hA k ha; omega
  have h1 : DRep A W d m fb nb sb wv rows := h.same hkW.size fun k ha => hkW.block k (hA k ha) fun h => h
  refine (settle_any (C := fun k => k = w.heap.size) (f := 79) (caps := #[ptrTo w.heap.size]) (fun i => match m.wait[i]? with | some o => o.kind == 1 && o.file == f | none => false) (fun _ w' => Blk w' w.heap.size #[fptr fb f] 68) W h1 hA'
    (fun k hk => ⟨by omega, fun ha => by have := hA k ha; omega⟩) hfit (fun v => enters_sync21 v _) hB (fun _ w1 w2 hj _ e => hj.same (e _ rfl)) ?_).mono ?_
  · intro i o p0 p1 p2 p3 w1 hj hD ho hp
    have hok := stOk (fun i => match m.wait[i]? with | some o => o.kind == 1 && o.file == f | none => false) m hfit i (by have := (List.getElem?_eq_some_iff.1 ho).1; omega)
    obtain ⟨hfl, _, v1, v2, hb1, _⟩ := hD.file f (.inl ⟨s, by show (s, f) ∈ (st _ m i).L; rw [hok.L]; exact hff⟩)
    have hlive : o.kind = 1 → _ := fun hk => hD.file o.file (.inr (.inr ⟨o, List.mem_of_getElem? ho, .inl hk, rfl⟩))
    refine (sync21_any p0 p1 p2 p3 w1 hp ((hj.cell 0).trans rfl) hb1 (fun hk => ?_) (fun hk e => ?_)).mono ?_
    · obtain ⟨_, _, u1, u2, hb2, _⟩ := hlive hk
      exact ⟨_, hb2⟩
    · obtain ⟨hl, _⟩ := hlive hk
      have e1 := hD.fl
      exact nodup_getD hD.nd (by rw [e1]; exact hl) (by rw [e1]; exact hfl) e
    · rintro e w2 ⟨rfl, hk⟩
      exact ⟨by rw [ho], hj.keep hk fun h => h, hk.mono fun _ _ h => h.elim⟩
  · rintro e w' ⟨rfl, h2, h3, _⟩
    go_wp2_with (first | (at_builtin; refine wl_append rfl _ _ _ _ rfl _ _ rfl rfl ?_) | (at_make; refine wl_make rfl _ _ _ rfl _ _ rfl rfl ?_) | (at_mapUpdate; refine wl_mapUpdate rfl _ _ _ _ rfl _ _ _ rfl rfl rfl ?_) | (at_lookup; refine wl_lookup rfl _ _ _ _ rfl _ _ rfl rfl ?_) | (at_delete; refine wl_delete rfl _ _ _ _ rfl _ _ rfl rfl ?_) | (with_reducible refine wl_len rfl _ _ rfl _ rfl ?_) | (with_reducible refine wl_range rfl _ _ rfl _ rfl ?_) | (with_reducible refine wl_next rfl _ rfl _ rfl ?_) | (with_reducible refine wl_copy rfl _ _ _ _ rfl _ _ rfl rfl ?_) | (with_reducible refine wl_max rfl _ _ _ _ rfl _ _ rfl rfl ?_) | (with_reducible refine wl_min rfl _ _ _ _ rfl _ _ rfl rfl ?_))
    go_end0
    have e1 : done m 3 s [] 0 [] = Dk.settle m (fun i => match m.wait[i]? with | some o => o.kind == 1 && o.file == f | none => false) := by
      simp only [done, hf, Option.getD_some]
      rfl
    rw [e1]
    refine ⟨rfl, h2.mono fun k hk ha => ?_, ?_⟩
    · rcases ha with ha | ha
      · exact .inl ha
      · exact .inr ⟨by omega, hk⟩
    · refine (hkW.mono fun _ _ h => h.elim).trans h3 fun k hk hs => ?_
      rcases hs with hs | hs
      · exact hs
      · omega

set_option maxRecDepth 100000 in
set_option maxHeartbeats 400000 in
theorem syncnames_any {A : Nat → Prop} {d : Nat} {m : M} (w : World) (h : DR A w d m) (hA : ∀ k, A k → k < w.heap.size) (hfit : FitW m) (hcut : m.cut ≤ 9223372036854775807) :
    Calls Tryz.prog 28 #[.pointer (some ⟨d, 0, none⟩)] w fun e w' => e = .returned (.int .i64 ((call m 6 [] [] 0 []).2 : Nat)) ∧ DR (Plus A w w') w' d (call m 6 [] [] 0 []).1 ∧ Keep A w w' := by
  go_enter Tryz.func28, Tryz.ntmps28
  go_wp2_with (first | (at_builtin; refine wl_append rfl _ _ _ _ rfl _ _ rfl rfl ?_) | (at_make; refine wl_make rfl _ _ _ rfl _ _ rfl rfl ?_) | (at_mapUpdate; refine wl_mapUpdate rfl _ _ _ _ rfl _ _ _ rfl rfl rfl ?_) | (at_lookup; refine wl_lookup rfl _ _ _ _ rfl _ _ rfl rfl ?_) | (at_delete; refine wl_delete rfl _ _ _ _ rfl _ _ rfl rfl ?_) | (with_reducible refine wl_len rfl _ _ rfl _ rfl ?_) | (with_reducible refine wl_range rfl _ _ rfl _ rfl ?_) | (with_reducible refine wl_next rfl _ rfl _ rfl ?_) | (with_reducible refine wl_copy rfl _ _ _ _ rfl _ _ rfl rfl ?_) | (with_reducible refine wl_max rfl _ _ _ _ rfl _ _ rfl rfl ?_) | (with_reducible refine wl_min rfl _ _ _ _ rfl _ _ rfl rfl ?_))
  generalize hW : w.alloc (Obj.cells #[Value.pointer (some { block := d, off := 0 })] 24) = W
  have hWs : W.heap.size = w.heap.size + 1 := by subst hW; simp
  have hkW : Keep No w W := by subst hW; exact (Keep.refl _ _).alloc _
  have hF : Blk W w.heap.size #[Value.pointer (some { block := d, off := 0 })] 24 := by subst hW; exact Blk.new _ _ _
  have hA' : ∀ k, A k → k < W.heap.size := fun k ha => by have := hA k ha; omega
  have h1 := h.keep hA hkW fun _ _ h => h
  refine (step_all (B := A) 6 [] [] 0 [] W h1 hA' (fun k ha => ha) hcut enters_syncnames1 (enters_syncnames2 _) ?_ ?_).mono ?_
  · intro _
    refine (syncnames1_any W).mono ?_
    rintro e w' ⟨rfl, rfl⟩
    exact ⟨rfl, Keep.refl _ _⟩
  · intro w1 _ h2 k2
    have n1 : ¬ A w.heap.size := fun ha => by have := hA _ ha; omega
    exact syncnames2_any w1 h2 (fun k ha => Nat.lt_of_lt_of_le (hA' k ha) k2.size) ⟨hfit.wl, hfit.sl, hfit.ul, hfit.wb⟩ ((hF.keep k2 n1).cell 0 |>.trans rfl)
  · rintro e w' ⟨rfl, h2, k2⟩
    go_wp2_with (first | (at_builtin; refine wl_append rfl _ _ _ _ rfl _ _ rfl rfl ?_) | (at_make; refine wl_make rfl _ _ _ rfl _ _ rfl rfl ?_) | (at_mapUpdate; refine wl_mapUpdate rfl _ _ _ _ rfl _ _ _ rfl rfl rfl ?_) | (at_lookup; refine wl_lookup rfl _ _ _ _ rfl _ _ rfl rfl ?_) | (at_delete; refine wl_delete rfl _ _ _ _ rfl _ _ rfl rfl ?_) | (with_reducible refine wl_len rfl _ _ rfl _ rfl ?_) | (with_reducible refine wl_range rfl _ _ rfl _ rfl ?_) | (with_reducible refine wl_next rfl _ rfl _ rfl ?_) | (with_reducible refine wl_copy rfl _ _ _ _ rfl _ _ rfl rfl ?_) | (with_reducible refine wl_max rfl _ _ _ _ rfl _ _ rfl rfl ?_) | (with_reducible refine wl_min rfl _ _ _ _ rfl _ _ rfl rfl ?_))
    go_ret
    refine ⟨rfl, h2.mono fun k hk ha => ?_, (hkW.mono fun _ _ h => h.elim).trans' k2⟩
    rcases ha with ha | ha
    · exact .inl ha
    · exact .inr ⟨by omega, hk⟩

set_option maxRecDepth 100000 in
set_option maxHeartbeats 400000 in
theorem sync_any {A : Nat → Prop} {d : Nat} {m : M} (s : List UInt8) (w : World) (h : DR A w d m) (hA : ∀ k, A k → k < w.heap.size) (hs : s.length ≤ maxLen) (hfit : FitW m) (hcut : m.cut ≤ 9223372036854775807) :
    Calls Tryz.prog 53 #[.pointer (some ⟨d, 0, none⟩), .string ⟨s.toArray⟩] w fun e w' => e = .returned (.int .i64 ((call m 3 s [] 0 []).2 : Nat)) ∧ DR (Plus A w w') w' d (call m 3 s [] 0 []).1 ∧ Keep A w w' := by
  go_enter Tryz.func53, Tryz.ntmps53
  go_wp2_with (first | (at_builtin; refine wl_append rfl _ _ _ _ rfl _ _ rfl rfl ?_) | (at_make; refine wl_make rfl _ _ _ rfl _ _ rfl rfl ?_) | (at_mapUpdate; refine wl_mapUpdate rfl _ _ _ _ rfl _ _ _ rfl rfl rfl ?_) | (at_lookup; refine wl_lookup rfl _ _ _ _ rfl _ _ rfl rfl ?_) | (at_delete; refine wl_delete rfl _ _ _ _ rfl _ _ rfl rfl ?_) | (with_reducible refine wl_len rfl _ _ rfl _ rfl ?_) | (with_reducible refine wl_range rfl _ _ rfl _ rfl ?_) | (with_reducible refine wl_next rfl _ rfl _ rfl ?_) | (with_reducible refine wl_copy rfl _ _ _ _ rfl _ _ rfl rfl ?_) | (with_reducible refine wl_max rfl _ _ _ _ rfl _ _ rfl rfl ?_) | (with_reducible refine wl_min rfl _ _ _ _ rfl _ _ rfl rfl ?_))
  generalize hW : (w.alloc (Obj.cells #[Value.pointer (some { block := d, off := 0 })] 24)).alloc (Obj.cells #[Value.string { data := s.toArray }] 9) = W
  have hWs : W.heap.size = w.heap.size + 2 := by subst hW; simp
  have hkW : Keep No w W := by subst hW; exact ((Keep.refl _ _).alloc _).alloc _
  have hF : Blk W w.heap.size #[Value.pointer (some { block := d, off := 0 })] 24 := by subst hW; exact (Blk.new _ _ _).alloc _
  have hV : Blk W (w.heap.size + 1) #[Value.string { data := s.toArray }] 9 := by
    subst hW
    have := Blk.new (w.alloc (Obj.cells #[Value.pointer (some { block := d, off := 0 })] 24)) #[Value.string { data := s.toArray }] 9
    rw [World.size_alloc] at this
    exact this
  have hA' : ∀ k, A k → k < W.heap.size := fun k ha => by have := hA k ha; omega
  have h1 := h.keep hA hkW fun _ _ h => h
  refine (step_all (B := A) 3 s [] 0 [] W h1 hA' (fun k ha => ha) hcut (enters_sync1 _ _) (enters_sync2 _ _) ?_ ?_).mono ?_
  · intro _
    obtain ⟨fb, nb, sb, wv, rows, h0⟩ := h1
    have hb := h0.blk.cell 1
    simp only [List.getElem?_toArray, List.getElem?_cons_succ, List.getElem?_cons_zero] at hb
    refine (sync1_any s W hs h0.nm hb ((hF.cell 0).trans rfl) ((hV.cell 0).trans rfl)).mono ?_
    rintro e w' ⟨rfl, rfl⟩
    exact ⟨rfl, Keep.refl _ _⟩
  · intro w1 ho h2 k2
    have n1 : ¬ A w.heap.size := fun ha => by have := hA _ ha; omega
    have n2 : ¬ A (w.heap.size + 1) := fun ha => by have := hA _ ha; omega
    obtain ⟨f, hf⟩ : ∃ f, find m.L s = some f := by
      cases hf : find m.L s with
      | none => simp [own, hf] at ho
      | some f => exact ⟨f, rfl⟩
    exact sync2_any s w1 h2 (fun k ha => Nat.lt_of_lt_of_le (hA' k ha) k2.size) ⟨hfit.wl, hfit.sl, hfit.ul, hfit.wb⟩ hs hf ((hF.keep k2 n1).cell 0 |>.trans rfl) ((hV.keep k2 n2).cell 0 |>.trans rfl)
  · rintro e w' ⟨rfl, h2, k2⟩
    go_wp2_with (first | (at_builtin; refine wl_append rfl _ _ _ _ rfl _ _ rfl rfl ?_) | (at_make; refine wl_make rfl _ _ _ rfl _ _ rfl rfl ?_) | (at_mapUpdate; refine wl_mapUpdate rfl _ _ _ _ rfl _ _ _ rfl rfl rfl ?_) | (at_lookup; refine wl_lookup rfl _ _ _ _ rfl _ _ rfl rfl ?_) | (at_delete; refine wl_delete rfl _ _ _ _ rfl _ _ rfl rfl ?_) | (with_reducible refine wl_len rfl _ _ rfl _ rfl ?_) | (with_reducible refine wl_range rfl _ _ rfl _ rfl ?_) | (with_reducible refine wl_next rfl _ rfl _ rfl ?_) | (with_reducible refine wl_copy rfl _ _ _ _ rfl _ _ rfl rfl ?_) | (with_reducible refine wl_max rfl _ _ _ _ rfl _ _ rfl rfl ?_) | (with_reducible refine wl_min rfl _ _ _ _ rfl _ _ rfl rfl ?_))
    go_ret
    refine ⟨rfl, h2.mono fun k hk ha => ?_, (hkW.mono fun _ _ h => h.elim).trans' k2⟩
    rcases ha with ha | ha
    · exact .inl ha
    · exact .inr ⟨by omega, hk⟩
end Go.Proofs.YtkmoomgmmhmaeaaGreat
namespace Go.Proofs.YtkmoomgmmhmaeaaGreat
open Go.RowKit Go.Dm Go.Dm.Dk Go.Maps

set_option maxRecDepth 100000 in
set_option maxHeartbeats 1000000 in
theorem mapsclone_any {b : Nat} {L : List (Lit × Value)} (w : World) (h : MapL Tryz.prog 9 w b L) :
    Calls Tryz.prog 33 #[.map (some b)] w fun e w' => e = .returned (.map (some w.heap.size)) ∧ MapL Tryz.prog 9 w' w.heap.size L ∧ Keep No w w' ∧ w'.heap.size = w.heap.size + 1 := by
  obtain ⟨hap, es0, hperm, es, clock, hb, F, hs, hD⟩ := h
  have hq := fun w => run_eql_map_nil_sl (P := Tryz.prog) w 57 _ _ (some b) Tryz.underlying57
  go_enter Tryz.func33, Tryz.ntmps33
  go_wp2
  rw [run_callFunc_extern Tryz.func70 (by kernel_rfl) (by kernel_rfl) (by kernel_rfl) (e := Extern.MapsClone.clone) (by kernel_rfl), run_maps_clone_sl w 57 hb]
  simp only [Result.andThen]
  rw [Oper.upon_value]
  go_wp2
  rw [run_typeAssert_map_sl _ 57 _ _ _ _ Tryz.underlying57]
  simp only [Result.andThen]
  rw [Oper.upon_value]
  go_wp2
  go_ret
  exact ⟨rfl, ⟨hap, es0, hperm, es, clock, (MapKept.heap_alloc w _).1, F, hs, hD⟩, (Keep.refl _ _).alloc _, by simp⟩
end Go.Proofs.YtkmoomgmmhmaeaaGreat
namespace Go.Proofs.YtkmoomgmmhmaeaaGreat
open Go.RowKit Go.Dm Go.Dm.Dk Go.Maps

/-- a slice of bools -/
def Bls (A : Nat → Prop) (w : World) (v : Value) (l : List Bool) : Prop := Sl A w 1 v l.length (l.map Value.bool)

theorem enters_crash1 (a b c : Value) : Enters 32 #[a, b, c] := fun w => by kernel_rfl

set_option maxRecDepth 100000 in
set_option maxHeartbeats 1000000 in
theorem crash1_any {B : Nat → Prop} {y z k : Nat} {v : Value} (keep : List Bool) (p0 p1 p2 p3 : Value) (w : World) (hy : Blk w y #[.int .i64 ((k : Int) - 1)] 3) (hz : Blk w z #[v] 32) (hv : Bls B w v keep) (hBy : ∀ j, B j → j ≠ y) (hk : k ≤ 1099511627776) :
    Calls Tryz.prog 32 #[.agg #[p0, p1, p2, p3], .pointer (some ⟨y, 0, none⟩), .pointer (some ⟨z, 0, none⟩)] w fun e w' => e = .returned (.bool (keep.getD k false)) ∧ Blk w' y #[.int .i64 (k : Int)] 3 ∧ Keep (fun j => j = y) w w' := by
  obtain ⟨a, cap, rfl, _, _⟩ := hv.shape
  have hyz : y ≠ z := by
    rintro rfl
    have e := (show w.heap[y]? = _ from hy).symm.trans hz
    cases e
  have hyl := hy.lt
  have hzl := hz.lt
  have q0 : w.cell? ⟨y, 0, none⟩ = some (.int .i64 ((k : Int) - 1)) := hy.cell 0
  have q1 : w.frozen? ⟨y, 0, none⟩ = false := hy.frozen 0
  have q2 : w.cell? ⟨z, 0, none⟩ = some (.slice a keep.length cap) := hz.cell 0
  have hx : (k : Int) - 1 + 1 = k := by omega
  have HY := Lib.hid hy
  clear hy hz
  rcases Nat.lt_or_ge k keep.length with hlt | hge
  · obtain ⟨g, off, cap', e1, hg, hgl, _, _, hc⟩ := hv.at (by omega)
    cases e1
    have c0 := hc k (.bool (keep.getD k false)) (by simp [List.getD, hlt])
    have hgy : g ≠ y := hBy g hg
    clear hc
    generalize keep.getD k false = r at *
    go_enter Tryz.func32, Tryz.ntmps32
    go_wp2_with (first | (at_builtin; refine wl_append rfl _ _ _ _ rfl _ _ rfl rfl ?_) | (at_make; refine wl_make rfl _ _ _ rfl _ _ rfl rfl ?_) | (at_mapUpdate; refine wl_mapUpdate rfl _ _ _ _ rfl _ _ _ rfl rfl rfl ?_) | (at_lookup; refine wl_lookup rfl _ _ _ _ rfl _ _ rfl rfl ?_) | (at_delete; refine wl_delete rfl _ _ _ _ rfl _ _ rfl rfl ?_) | (with_reducible refine wl_len rfl _ _ rfl _ rfl ?_) | (with_reducible refine wl_range rfl _ _ rfl _ rfl ?_) | (with_reducible refine wl_next rfl _ rfl _ rfl ?_) | (with_reducible refine wl_copy rfl _ _ _ _ rfl _ _ rfl rfl ?_) | (with_reducible refine wl_max rfl _ _ _ _ rfl _ _ rfl rfl ?_) | (with_reducible refine wl_min rfl _ _ _ _ rfl _ _ rfl rfl ?_))
    go_ret
    have h2 := HY.out.set (i := 0) (.int .i64 (k : Int))
    exact ⟨rfl, h2.alloc _, ((Keep.refl (fun j => j = y) w).setCell (p := ⟨y, 0, none⟩) (fun _ => rfl) _).alloc _⟩
  · have e2 : keep.getD k false = false := by simp [List.getD, hge]
    rw [e2]
    go_enter Tryz.func32, Tryz.ntmps32
    go_wp2_with (first | (at_builtin; refine wl_append rfl _ _ _ _ rfl _ _ rfl rfl ?_) | (at_make; refine wl_make rfl _ _ _ rfl _ _ rfl rfl ?_) | (at_mapUpdate; refine wl_mapUpdate rfl _ _ _ _ rfl _ _ _ rfl rfl rfl ?_) | (at_lookup; refine wl_lookup rfl _ _ _ _ rfl _ _ rfl rfl ?_) | (at_delete; refine wl_delete rfl _ _ _ _ rfl _ _ rfl rfl ?_) | (with_reducible refine wl_len rfl _ _ rfl _ rfl ?_) | (with_reducible refine wl_range rfl _ _ rfl _ rfl ?_) | (with_reducible refine wl_next rfl _ rfl _ rfl ?_) | (with_reducible refine wl_copy rfl _ _ _ _ rfl _ _ rfl rfl ?_) | (with_reducible refine wl_max rfl _ _ _ _ rfl _ _ rfl rfl ?_) | (with_reducible refine wl_min rfl _ _ _ _ rfl _ _ rfl rfl ?_))
    go_ret
    have h2 := HY.out.set (i := 0) (.int .i64 (k : Int))
    exact ⟨rfl, h2.alloc _, ((Keep.refl (fun j => j = y) w).setCell (p := ⟨y, 0, none⟩) (fun _ => rfl) _).alloc _⟩

/-- the names are another map -/
theorem DRep.named {A : Nat → Prop} {w : World} {d nb' : Nat} {m : M} {fb : List Nat} {nb sb : Nat} {wv : Value} {rows : List (List Value)} {L' : Names} (h : DRep A w d m fb nb sb wv rows)
    (hm : MapL Tryz.prog 9 w nb' (NL fb L')) (ha : A nb') (hne : nb' ≠ sb) (hL : ∀ i, (∃ s, (s, i) ∈ L') → Live m i) : DRep A (w.setCell ⟨d, 1, none⟩ (.map (some nb'))) d { m with L := L' } fb nb' sb wv rows := by
  have hB : ∀ k, k ≠ d → (w.setCell ⟨d, 1, none⟩ (.map (some nb'))).heap[k]? = w.heap[k]? := fun k hk => Below.heap_setCell _ _ _ _ hk
  have hT : ∀ (k : Nat) (cs : Array Value) (t : TypeId) (fr : Nat × Nat), w.heap[k]? = some (Obj.cells cs t fr) → t ≠ 60 → (w.setCell ⟨d, 1, none⟩ (.map (some nb'))).heap[k]? = w.heap[k]? := by
    intro k cs t fr hk h1
    refine hB k ?_
    rintro rfl
    rw [show w.heap[k]? = _ from h.blk] at hk; cases hk; exact h1 rfl
  have hs : w.heap.size ≤ (w.setCell ⟨d, 1, none⟩ (.map (some nb'))).heap.size := by simp
  have hLive : ∀ i, Live { m with L := L' } i → Live m i := by
    rintro i (hi | hi | hi)
    · exact hL i hi
    · exact .inr (.inl hi)
    · exact .inr (.inr hi)
  refine { blk := h.blk.set _, nm := hm.same (hB _ (hm.ne_blk h.blk)), sm := h.sm.same (hB _ (h.sm.ne_blk h.blk)), ne := hne, row := ownsRow_same h.row fun g hg => hB g fun e => by subst e; exact own_ne h.row h.blk (by decide) hg.symm, rowA := h.rowA, rlen := h.rlen, pend := ?_, fl := h.fl, sl := h.sl, nd := h.nd, fbl := fun b hb => Nat.lt_of_lt_of_le (h.fbl b hb) hs, file := ?_, Ad := h.Ad, An := ha, As := h.As }
  · intro i o ho
    obtain ⟨cs, h1, h2⟩ := h.pend i o ho
    exact ⟨cs, h1, h2.same hs fun k _ ⟨cs, fr, t, hk, ht⟩ => hT k cs t fr hk (by rcases ht with rfl | rfl | rfl <;> decide)⟩
  · intro i hi
    obtain ⟨h1, h2, h3⟩ := h.file i (hLive i hi)
    obtain ⟨v1, v2, h4, _⟩ := id h3
    exact ⟨h1, h2, h3.same hs (hT _ _ _ _ h4 (by decide)) fun k _ _ ⟨cs, fr, hk⟩ => hT k cs _ fr hk (by decide)⟩

/-- files that are not alive may be anything -/
theorem DRep.files {A : Nat → Prop} {w : World} {d : Nat} {m : M} {fb : List Nat} {nb sb : Nat} {wv : Value} {rows : List (List Value)} (h : DRep A w d m fb nb sb wv rows) (is' : List (List UInt8)) (hl : is'.length = m.is.length)
    (e : ∀ i, Live m i → is'.getD i [] = m.is.getD i []) : DRep A w d { m with is := is' } fb nb sb wv rows := by
  refine { h with fl := h.fl.trans hl.symm, sl := h.sl.trans hl.symm, file := ?_ }
  intro i hi
  obtain ⟨h1, h2, h3⟩ := h.file i hi
  refine ⟨by show i < is'.length; rw [hl]; exact h1, h2, ?_⟩
  show FileAt A w (fb.getD i 0) (is'.getD i []) (m.sure.getD i [])
  rw [e i hi]; exact h3
end Go.Proofs.YtkmoomgmmhmaeaaGreat
namespace Go.Proofs.YtkmoomgmmhmaeaaGreat
open Go.RowKit Go.Dm Go.Dm.Dk Go.Maps Go.WideMaps Go.WideElems

/-- behind the settling: nothing waits, the power is back -/
theorem DRep.woken {A : Nat → Prop} {w : World} {d : Nat} {m : M} {fb : List Nat} {nb sb : Nat} {wv : Value} {rows : List (List Value)} (h : DRep A w d m fb nb sb wv rows) :
    DRep A (((w.setCell ⟨d, 3, none⟩ (.slice none 0 0)).setCell ⟨d, 4, none⟩ (.bool false)).setCell ⟨d, 5, none⟩ (.int .i64 0)) d { m with wait := [], off := false, cut := 0 } fb nb sb (.slice none 0 0) [] := by
  have h1 := h.rewait (base := 0) (lv := .slice none 0 0) (lrows := []) (W := []) ⟨World.ownsRow_nil _ _ _ _, fun g hg => (by cases hg), rfl, fun i o ho => (by simp at ho)⟩ (fun o ho => (by cases ho))
  have h2 := h1.set (m' := { m with wait := [], off := false }) (i := 4) (.bool false) rfl rfl rfl rfl rfl rfl
  exact h2.set (m' := { m with wait := [], off := false, cut := 0 }) (i := 5) (.int .i64 0) rfl rfl rfl rfl rfl rfl

theorem pairwise_ne : ∀ {T : Names}, T.Pairwise (fun p q => p.1 ≠ q.1) → ∀ {p q : List UInt8 × Nat}, p ∈ T → q ∈ T → p ≠ q → p.1 ≠ q.1
  | [], _, _, _, h, _, _ => by cases h
  | a :: r, hp, p, q, h1, h2, hne => by
    rw [List.pairwise_cons] at hp
    rcases List.mem_cons.1 h1 with e1 | h3
    · rcases List.mem_cons.1 h2 with e2 | h4
      · exact absurd (e1.trans e2.symm) hne
      · rw [e1]; exact hp.1 q h4
    · rcases List.mem_cons.1 h2 with e2 | h4
      · rw [e2]; exact (hp.1 p h3).symm
      · exact pairwise_ne hp.2 h3 h4 hne

set_option maxRecDepth 100000 in
set_option maxHeartbeats 1000000 in
theorem crash_any {A B : Nat → Prop} {d : Nat} {m : M} {v : Value} (keep : List Bool) (w : World) (h : DR A w d m) (hA : ∀ k, A k → k < w.heap.size) (hfit : FitW m) (hv : Bls B w v keep) (hB : ∀ k, B k → ¬ A k) :
    Calls Tryz.prog 11 #[.pointer (some ⟨d, 0, none⟩), v] w fun e w' => e = .returned (.tuple #[]) ∧ DR (Plus A w w') w' d (crash m keep) ∧ Keep A w w' := by
  obtain ⟨av, cv, rfl, _, _⟩ := hv.shape
  have hwl := hfit.wl
  go_enter Tryz.func11, Tryz.ntmps11
  go_wp2_with (first | (at_builtin; refine wl_append rfl _ _ _ _ rfl _ _ rfl rfl ?_) | (at_make; refine wl_make rfl _ _ _ rfl _ _ rfl rfl ?_) | (at_mapUpdate; refine wl_mapUpdate rfl _ _ _ _ rfl _ _ _ rfl rfl rfl ?_) | (at_lookup; refine wl_lookup rfl _ _ _ _ rfl _ _ rfl rfl ?_) | (at_delete; refine wl_delete rfl _ _ _ _ rfl _ _ rfl rfl ?_) | (with_reducible refine wl_len rfl _ _ rfl _ rfl ?_) | (with_reducible refine wl_range rfl _ _ rfl _ rfl ?_) | (with_reducible refine wl_next rfl _ rfl _ rfl ?_) | (with_reducible refine wl_copy rfl _ _ _ _ rfl _ _ rfl rfl ?_) | (with_reducible refine wl_max rfl _ _ _ _ rfl _ _ rfl rfl ?_) | (with_reducible refine wl_min rfl _ _ _ _ rfl _ _ rfl rfl ?_))
  generalize hW : (w.alloc (Obj.cells #[Value.slice av keep.length cv] 32)).alloc (Obj.cells #[Value.int IntKind.i64 (-1)] 3) = W
  have hWs : W.heap.size = w.heap.size + 2 := by subst hW; simp
  have hkW : Keep No w W := by subst hW; exact ((Keep.refl _ _).alloc _).alloc _
  have hZ : Blk W w.heap.size #[Value.slice av keep.length cv] 32 := by subst hW; exact (Blk.new _ _ _).alloc _
  have hY : Blk W (w.heap.size + 1) #[Value.int IntKind.i64 (-1)] 3 := by
    subst hW
    have := Blk.new (w.alloc (Obj.cells #[Value.slice av keep.length cv] 32)) #[Value.int IntKind.i64 (-1)] 3
    rw [World.size_alloc] at this
    exact this
  clear hW
  have hA' : ∀ k, A k → k < W.heap.size := fun k ha => by have := hA k ha; omega
  obtain ⟨fb, nb, sb, wv, rows, h1⟩ := h.keep hA hkW fun _ _ h => h
  have hvW : Bls (fun k => B k ∧ k < w.heap.size) W (.slice av keep.length cv) keep := (Sl.mono (B := fun k => B k ∧ k < w.heap.size) hv fun k hk hb => ⟨hb, hk⟩).keep hkW fun _ _ _ h => h
  refine (settle_any (C := fun k => k = w.heap.size + 1 ∨ k = w.heap.size ∨ (B k ∧ k < w.heap.size)) (f := 32) (caps := #[ptrTo (w.heap.size + 1), ptrTo w.heap.size]) (fun i => keep.getD i false)
    (fun i w' => Blk w' (w.heap.size + 1) #[.int .i64 ((i : Int) - 1)] 3 ∧ ∀ j, (j = w.heap.size ∨ (B j ∧ j < w.heap.size)) → w'.heap[j]? = W.heap[j]?) W h1 hA' ?_ hfit (fun v => enters_crash1 v _ _) ⟨by simpa using hY, fun _ _ => rfl⟩ ?_ ?_).mono ?_
  · rintro k (rfl | rfl | ⟨hb, hk⟩)
    · exact ⟨by omega, fun ha => by have := hA _ ha; omega⟩
    · exact ⟨by omega, fun ha => by have := hA _ ha; omega⟩
    · exact ⟨by omega, hB k hb⟩
  · intro i w1 w2 hj _ e
    exact ⟨hj.1.same (e _ (.inl rfl)), fun j hjj => (e j (.inr hjj)).trans (hj.2 j hjj)⟩
  · intro i o p0 p1 p2 p3 w1 hj hD ho hp
    have hs1 : W.heap.size ≤ w1.heap.size := by
      have := hj.2 w.heap.size (.inl rfl)
      have h2 := hD.blk.lt
      have h3 := hj.1.lt
      omega
    have hZ1 : Blk w1 w.heap.size _ _ := hZ.same (hj.2 _ (.inl rfl))
    have hv1 := Sl.same hvW hs1 fun j _ hb => hj.2 j (.inr hb)
    have hio := (List.getElem?_eq_some_iff.1 ho).1
    refine (crash1_any (k := i) keep p0 p1 p2 p3 w1 hj.1 hZ1 hv1 (fun j hb => by omega) (by omega)).mono ?_
    rintro e w2 ⟨rfl, hy2, hk2⟩
    refine ⟨rfl, ⟨?_, fun j hjj => ?_⟩, hk2.mono fun j _ e => .inl e⟩
    · have e : ((i + 1 : Nat) : Int) - 1 = i := by omega
      rw [e]; exact hy2
    · rw [hk2.block j (by rcases hjj with hjj | hjj <;> omega) (by rcases hjj with hjj | hjj <;> omega)]
      exact hj.2 j hjj
  · rintro e w1 ⟨rfl, hR, hk1, hJ⟩
    have hk01 : Keep A w w1 := by
      refine ⟨hk1.os.trans hkW.os, hk1.tape.trans hkW.tape, hk1.output.trans hkW.output, Nat.le_trans hkW.size hk1.size, fun j hj hna => ?_⟩
      have e1 := hkW.block j hj fun h => h
      by_cases hb : B j
      · exact (hJ.2 j (.inr ⟨hb, hj⟩)).trans e1
      · exact (hk1.block j (by omega) (by rintro (h | h | h | h) <;> first | exact hna h | omega | exact hb h.1)).trans e1
    have hul := (stOk (fun i => keep.getD i false) m hfit _ (Nat.le_refl _)).ul
    rw [st_all] at hul
    have e0 : crash m keep = { Dk.settle m (fun i => keep.getD i false) with wait := [], off := false, cut := 0, L := (Dk.settle m (fun i => keep.getD i false)).S, is := (Dk.settle m (fun i => keep.getD i false)).sure } := rfl
    clear hJ hZ hY hvW
    generalize hs : Dk.settle m (fun i => keep.getD i false) = s at *
    clear hs
    have HE0 := Lib.hid e0
    clear e0
    obtain ⟨fb, nb, sb, wv, rows, hR⟩ := hR
    have q3 := hR.blk.cell 3
    have q4 := hR.blk.cell 4
    have q5 := hR.blk.cell 5
    have f3 := hR.blk.frozen 3
    have f4 := hR.blk.frozen 4
    have f5 := hR.blk.frozen 5
    have q2 := hR.blk.cell 2
    simp only [List.getElem?_toArray, List.getElem?_cons_succ, List.getElem?_cons_zero] at q2 q3 q4 q5
    have HUL := Lib.hid hul
    have HA := Lib.hid hA
    clear hul hA hA' hB h1 h
    go_wp2_with (first | (at_builtin; refine wl_append rfl _ _ _ _ rfl _ _ rfl rfl ?_) | (at_make; refine wl_make rfl _ _ _ rfl _ _ rfl rfl ?_) | (at_mapUpdate; refine wl_mapUpdate rfl _ _ _ _ rfl _ _ _ rfl rfl rfl ?_) | (at_lookup; refine wl_lookup rfl _ _ _ _ rfl _ _ rfl rfl ?_) | (at_delete; refine wl_delete rfl _ _ _ _ rfl _ _ rfl rfl ?_) | (with_reducible refine wl_len rfl _ _ rfl _ rfl ?_) | (with_reducible refine wl_range rfl _ _ rfl _ rfl ?_) | (with_reducible refine wl_next rfl _ rfl _ rfl ?_) | (with_reducible refine wl_copy rfl _ _ _ _ rfl _ _ rfl rfl ?_) | (with_reducible refine wl_max rfl _ _ _ _ rfl _ _ rfl rfl ?_) | (with_reducible refine wl_min rfl _ _ _ _ rfl _ _ rfl rfl ?_))
    have hR2 := hR.woken
    have hk2 : Keep (Plus A W w1) w1 (((w1.setCell ⟨d, 3, none⟩ (.slice none 0 0)).setCell ⟨d, 4, none⟩ (.bool false)).setCell ⟨d, 5, none⟩ (.int .i64 0)) :=
      (((Keep.refl _ _).setCell (fun _ => hR.Ad) _).setCell (fun _ => hR.Ad) _).setCell (fun _ => hR.Ad) _
    refine (mapsclone_any _ hR2.sm).mono ?_
    rintro e w3 ⟨rfl, hm3, hk3, hsz3⟩
    generalize ((w1.setCell ⟨d, 3, none⟩ (.slice none 0 0)).setCell ⟨d, 4, none⟩ (.bool false)).setCell ⟨d, 5, none⟩ (.int .i64 0) = w2 at *
    have hA2 : ∀ j, Plus A W w1 j → j < w2.heap.size := by
      intro j hj
      have h1 := hk2.size
      rcases hj with hj | hj
      · have := HA.out j hj; have := hk1.size; omega
      · omega
    have hR3 := hR2.same hk3.size fun j hj => hk3.block j (hA2 j hj) fun h => h
    have g1 := hR3.blk.cell 1
    have g2 := hR3.blk.frozen 1
    simp only [List.getElem?_toArray, List.getElem?_cons_succ, List.getElem?_cons_zero] at g1
    have hR4 := (hR3.mono (B := fun k => Plus A W w1 k ∨ k = w2.heap.size) fun k _ ha => .inl ha).named (nb' := w2.heap.size) (L' := s.S) hm3 (.inr rfl) (fun e => by have := hA2 sb hR.As; omega) (fun i hi => .inr (.inl hi))
    have hk4 : Keep (Plus A W w1) w3 (w3.setCell ⟨d, 1, none⟩ (.map (some w2.heap.size))) := (Keep.refl _ _).setCell (fun _ => hR.Ad) _
    clear q2 q3 q4 q5 f3 f4 f5
    go_wp2_with (first | (at_builtin; refine wl_append rfl _ _ _ _ rfl _ _ rfl rfl ?_) | (at_make; refine wl_make rfl _ _ _ rfl _ _ rfl rfl ?_) | (at_mapUpdate; refine wl_mapUpdate rfl _ _ _ _ rfl _ _ _ rfl rfl rfl ?_) | (at_lookup; refine wl_lookup rfl _ _ _ _ rfl _ _ rfl rfl ?_) | (at_delete; refine wl_delete rfl _ _ _ _ rfl _ _ rfl rfl ?_) | (with_reducible refine wl_len rfl _ _ rfl _ rfl ?_) | (with_reducible refine wl_range rfl _ _ rfl _ rfl ?_) | (with_reducible refine wl_next rfl _ rfl _ rfl ?_) | (with_reducible refine wl_copy rfl _ _ _ _ rfl _ _ rfl rfl ?_) | (with_reducible refine wl_max rfl _ _ _ _ rfl _ _ rfl rfl ?_) | (with_reducible refine wl_min rfl _ _ _ _ rfl _ _ rfl rfl ?_))
    have hk04 : Keep A w (w3.setCell ⟨d, 1, none⟩ (.map (some w2.heap.size))) := by
      have h1 := hk01.size
      have h2 := hk2.size
      have h3 := hk3.size
      refine ((hk01.trans hk2 fun j hj ha => ?_).trans hk3 fun j _ h => h.elim).trans hk4 fun j hj ha => ?_
      · rcases ha with ha | ha
        · exact ha
        · omega
      · rcases ha with ha | ha
        · exact ha
        · omega
    have hA4 : ∀ j, (fun k => Plus A W w1 k ∨ k = w2.heap.size) j → j < (w3.setCell ⟨d, 1, none⟩ (.map (some w2.heap.size))).heap.size := by
      intro j hj
      have h3 := hk3.size
      simp only [World.size_setCell]
      rcases hj with hj | hj
      · have := hA2 j hj; omega
      · omega
    have hApl : ∀ j, (fun k => Plus A W w1 k ∨ k = w2.heap.size) j → A j ∨ w.heap.size ≤ j := by
      intro j hj
      have h1 := hk01.size
      have h2 := hk2.size
      rcases hj with (hj | hj) | hj
      · exact .inl hj
      · exact .inr (by omega)
      · exact .inr (by omega)
    generalize (fun k => Plus A W w1 k ∨ k = w2.heap.size) = A4 at *
    generalize w3.setCell ⟨d, 1, none⟩ (.map (some w2.heap.size)) = w4 at *
    generalize w2.heap.size = nb' at *
    clear hk1 hR hk01 hR2 hk2 hA2 hm3 hk3 hsz3 hR3 g1 g2 hk4 hWs hkW
    refine rg_range hR4.nm kStr Tryz.underlying57 ?_
    intro w5 hr hk5 hsz5
    go_wp2_with (first | (at_builtin; refine wl_append rfl _ _ _ _ rfl _ _ rfl rfl ?_) | (at_make; refine wl_make rfl _ _ _ rfl _ _ rfl rfl ?_) | (at_mapUpdate; refine wl_mapUpdate rfl _ _ _ _ rfl _ _ _ rfl rfl rfl ?_) | (at_lookup; refine wl_lookup rfl _ _ _ _ rfl _ _ rfl rfl ?_) | (at_delete; refine wl_delete rfl _ _ _ _ rfl _ _ rfl rfl ?_) | (with_reducible refine wl_len rfl _ _ rfl _ rfl ?_) | (with_reducible refine wl_range rfl _ _ rfl _ rfl ?_) | (with_reducible refine wl_next rfl _ rfl _ rfl ?_) | (with_reducible refine wl_copy rfl _ _ _ _ rfl _ _ rfl rfl ?_) | (with_reducible refine wl_max rfl _ _ _ _ rfl _ _ rfl rfl ?_) | (with_reducible refine wl_min rfl _ _ _ _ rfl _ _ rfl rfl ?_))
    go_loopw [6] (fun _ wr => ∃ T is', RangeL Tryz.prog 9 wr nb' w4.heap.size (NL fb s.S) (NL fb T) ∧ T.Pairwise (fun p q => p.1 ≠ q.1) ∧ (∀ p ∈ T, p ∈ s.S) ∧
      DRep (fun k => Plus A4 w4 wr k ∧ k ≠ w4.heap.size) wr d { s with wait := [], off := false, cut := 0, L := s.S, is := is' } fb nb' sb (.slice none 0 0) [] ∧ is'.length = s.is.length ∧
      (∀ p ∈ s.S, p ∉ T → is'.getD p.2 [] = s.sure.getD p.2 []) ∧ Keep A4 w4 wr) (fun _ wr => wr.rangeLeft nb' w4.heap.size)
    case atStart =>
      refine ⟨s.S, s.is, hr, apart_names hR4.nm.apart, fun _ h => h, ?_, rfl, fun p h1 h2 => absurd h1 h2, hk5.mono fun _ _ h => h.elim⟩
      exact (hR4.same hk5.size fun j hj => hk5.block j (hA4 j hj) fun h => h).mono fun j _ hj => ⟨.inl hj, by have := hA4 j hj; omega⟩
    case round =>
      obtain ⟨T, is', hr, hT, hsub, hD, hlen, hdone, hk⟩ := hrel
      go_wp2_with (first | (at_builtin; refine wl_append rfl _ _ _ _ rfl _ _ rfl rfl ?_) | (at_make; refine wl_make rfl _ _ _ rfl _ _ rfl rfl ?_) | (at_mapUpdate; refine wl_mapUpdate rfl _ _ _ _ rfl _ _ _ rfl rfl rfl ?_) | (at_lookup; refine wl_lookup rfl _ _ _ _ rfl _ _ rfl rfl ?_) | (at_delete; refine wl_delete rfl _ _ _ _ rfl _ _ rfl rfl ?_) | (with_reducible refine wl_len rfl _ _ rfl _ rfl ?_) | (with_reducible refine wl_range rfl _ _ rfl _ rfl ?_) | (with_reducible refine wl_next rfl _ rfl _ rfl ?_) | (with_reducible refine wl_copy rfl _ _ _ _ rfl _ _ rfl rfl ?_) | (with_reducible refine wl_max rfl _ _ _ _ rfl _ _ rfl rfl ?_) | (with_reducible refine wl_min rfl _ _ _ _ rfl _ _ rfl rfl ?_))
      refine rg_next hr kStr ?_ ?_
      · intro e1
        have e2 : T = [] := by simpa [NL] using e1
        subst e2
        go_wp2_with (first | (at_builtin; refine wl_append rfl _ _ _ _ rfl _ _ rfl rfl ?_) | (at_make; refine wl_make rfl _ _ _ rfl _ _ rfl rfl ?_) | (at_mapUpdate; refine wl_mapUpdate rfl _ _ _ _ rfl _ _ _ rfl rfl rfl ?_) | (at_lookup; refine wl_lookup rfl _ _ _ _ rfl _ _ rfl rfl ?_) | (at_delete; refine wl_delete rfl _ _ _ _ rfl _ _ rfl rfl ?_) | (with_reducible refine wl_len rfl _ _ rfl _ rfl ?_) | (with_reducible refine wl_range rfl _ _ rfl _ rfl ?_) | (with_reducible refine wl_next rfl _ rfl _ rfl ?_) | (with_reducible refine wl_copy rfl _ _ _ _ rfl _ _ rfl rfl ?_) | (with_reducible refine wl_max rfl _ _ _ _ rfl _ _ rfl rfl ?_) | (with_reducible refine wl_min rfl _ _ _ _ rfl _ _ rfl rfl ?_))
        go_end0
        have hs4 := hk.size
        have hs04 := hk04.size
        refine ⟨rfl, ?_, hk04.trans hk fun j hj ha => ?_⟩
        · rw [HE0.out]
          have hsl : s.sure.length = is'.length := hD.sl
          have hfin := hD.files s.sure hsl fun i hi => by
            have : ∃ s', (s', i) ∈ s.S := by
              rcases hi with hi | hi | ⟨o, ho, _⟩
              · exact hi
              · exact hi
              · cases ho
            obtain ⟨s', hi⟩ := this
            exact (hdone _ hi (by simp)).symm
          refine ⟨fb, nb', sb, .slice none 0 0, [], hfin.mono fun j hj ha => ?_⟩
          rcases ha.1 with ha | ha
          · rcases hApl j ha with h | h
            · exact .inl h
            · exact .inr ⟨h, hj⟩
          · exact .inr ⟨by omega, hj⟩
        · rcases hApl j ha with h | h
          · exact h
          · omega
      · intro key v kl w' hkey hmem hr' hlt hk' hsz' hen
        obtain ⟨s0, i, hsi, rfl, rfl⟩ := mem_NL hmem
        rw [eraseL_NL] at hr'
        have hs4 := hk.size
        have hDA : ∀ j, (Plus A4 w4 wr j ∧ j ≠ w4.heap.size) → j < wr.heap.size := by
          intro j hj
          rcases hj.1 with h | h
          · have := hA4 j h; omega
          · exact h.2
        have hD' := hD.same hk'.size fun j hj => hk'.block j (hDA j hj) hj.2
        have hlive : Live { s with wait := [], off := false, cut := 0, L := s.S, is := is' } i := .inl ⟨s0, hsub _ hsi⟩
        obtain ⟨hil, hbA, v1, v2, hb, hv1, hv2⟩ := hD'.file i hlive
        have hsu := HUL.out i
        have hb0 := hb
        simp only [fptr, ptrTo] at hen
        obtain ⟨a2, c2, rfl, _, _⟩ := hv2.shape
        have hvv : DB (fun k => Plus A4 w4 wr k ∧ k ≠ w4.heap.size) w' (.slice a2 (s.sure.getD i []).length c2) (s.sure.getD i []) := hv2
        have hlb : Bts (fun j => j < w'.heap.size) w' (.slice a2 (s.sure.getD i []).length c2) (s.sure.getD i []) := Sl.mono hvv.bts (fun j hj _ => hj)
        have hc1 : w'.cell? ⟨fb.getD i 0, 1, none⟩ = some (.slice a2 (s.sure.getD i []).length c2) := hb.cell 1
        have hc0 : w'.cell? ⟨fb.getD i 0, 0, none⟩ = some v1 := hb.cell 0
        have hbl := hb.lt
        clear hv2
        have HVV := Lib.hid hvv
        clear hvv
        generalize hX : s.sure.getD i [] = X at *
        have HX := Lib.hid hX
        clear hX
        generalize hbb : fb.getD i 0 = b at *
        have HB := Lib.hid hbb
        clear hbb
        go_wp2_with (first | (at_builtin; refine wl_append rfl _ _ _ _ rfl _ _ rfl rfl ?_) | (at_make; refine wl_make rfl _ _ _ rfl _ _ rfl rfl ?_) | (at_mapUpdate; refine wl_mapUpdate rfl _ _ _ _ rfl _ _ _ rfl rfl rfl ?_) | (at_lookup; refine wl_lookup rfl _ _ _ _ rfl _ _ rfl rfl ?_) | (at_delete; refine wl_delete rfl _ _ _ _ rfl _ _ rfl rfl ?_) | (with_reducible refine wl_len rfl _ _ rfl _ rfl ?_) | (with_reducible refine wl_range rfl _ _ rfl _ rfl ?_) | (with_reducible refine wl_next rfl _ rfl _ rfl ?_) | (with_reducible refine wl_copy rfl _ _ _ _ rfl _ _ rfl rfl ?_) | (with_reducible refine wl_max rfl _ _ _ _ rfl _ _ rfl rfl ?_) | (with_reducible refine wl_min rfl _ _ _ _ rfl _ _ rfl rfl ?_))
        refine (clone_any _ X w' hlb hsu).mono ?_
        rintro e w6 ⟨v', rfl, hown, hk6⟩
        obtain ⟨a6, c6, rfl, _, _⟩ := (Sl.of_own hown).shape
        have hb6 := hb.keep hk6 fun h => h
        have r0 := hb6.cell 0
        have r1 := hb6.frozen 0
        simp only [List.getElem?_toArray, List.getElem?_cons_zero] at r0
        go_wp2_with (first | (at_builtin; refine wl_append rfl _ _ _ _ rfl _ _ rfl rfl ?_) | (at_make; refine wl_make rfl _ _ _ rfl _ _ rfl rfl ?_) | (at_mapUpdate; refine wl_mapUpdate rfl _ _ _ _ rfl _ _ _ rfl rfl rfl ?_) | (at_lookup; refine wl_lookup rfl _ _ _ _ rfl _ _ rfl rfl ?_) | (at_delete; refine wl_delete rfl _ _ _ _ rfl _ _ rfl rfl ?_) | (with_reducible refine wl_len rfl _ _ rfl _ rfl ?_) | (with_reducible refine wl_range rfl _ _ rfl _ rfl ?_) | (with_reducible refine wl_next rfl _ rfl _ rfl ?_) | (with_reducible refine wl_copy rfl _ _ _ _ rfl _ _ rfl rfl ?_) | (with_reducible refine wl_max rfl _ _ _ _ rfl _ _ rfl rfl ?_) | (with_reducible refine wl_min rfl _ _ _ _ rfl _ _ rfl rfl ?_))
        have hbn : b ≠ w4.heap.size := hbA.2
        have hbnb : nb' ≠ b := hD'.nm.ne_blk hb0
        have h6s := hk6.size
        have h7 : ∀ k, k < w'.heap.size → k ≠ b → (w6.setCell ⟨b, 0, none⟩ (.slice a6 X.length c6)).heap[k]? = w'.heap[k]? := fun k hk h1 => by
          rw [Below.heap_setCell _ _ _ _ h1]; exact hk6.block k hk fun h => h
        have h7s : (w6.setCell ⟨b, 0, none⟩ (.slice a6 X.length c6)).heap.size = w6.heap.size := by simp
        have hset := hb6.set (i := 0) (.slice a6 X.length c6)
        have hown7 : (w6.setCell ⟨b, 0, none⟩ (.slice a6 X.length c6)).ownsRow w'.heap.size 5 1 (.slice a6 X.length c6) X.length (X.map bv) :=
          ownsRow_same hown fun g hg => Below.heap_setCell _ _ _ _ fun e => by
            have e : g = b := e
            have := (hown.lt g hg).1
            omega
        have hv27 : DB (Plus (fun k => Plus A4 w4 wr k ∧ k ≠ w4.heap.size) w' (w6.setCell ⟨b, 0, none⟩ (.slice a6 X.length c6))) (w6.setCell ⟨b, 0, none⟩ (.slice a6 X.length c6)) (.slice a2 X.length c2) X := by
          refine (HVV.out.same (by omega) fun k hkl _ ⟨cs, fr, hkk⟩ => h7 k hkl ?_).mono fun k _ ha => .inl ha
          rintro rfl
          rw [show w'.heap[_]? = _ from hb0] at hkk; cases hkk
        have hfin := hD'.filed (m' := { s with wait := [], off := false, cut := 0, L := s.S, is := putF is' i X }) (v' := .slice a6 X.length c6) (j := 0) hk6 hil ⟨rfl, rfl, rfl, rfl, rfl, rfl⟩ (by simp [putF]) rfl
          (fun j hj => ⟨by simp [putF, List.getD, List.getElem?_set_ne (Ne.symm hj)], rfl⟩) hlive (by
            rw [HB.out]
            have hil' : i < is'.length := hil
            have e9 : (putF is' i X).getD i [] = X := by simp [putF, List.getD, hil']
            refine ⟨.slice a6 X.length c6, .slice a2 X.length c2, hset, ?_, ?_⟩
            · show DB _ _ _ ((putF is' i X).getD i [])
              rw [e9]
              exact (DB.of_own hown7).mono fun k hk hb => .inr ⟨hb, hk⟩
            · show DB _ _ _ (s.sure.getD i [])
              rw [HX.out]; exact hv27)
        rw [HB.out] at hfin
        have hr7 := hr'.same (h7 _ hr'.map.lt hbnb) (h7 _ hr'.lt hbn.symm)
        have hw's : wr.heap.size ≤ w'.heap.size := hk'.size
        have hr'l := hr'.lt
        refine ⟨⟨without T s0, putF is' i X, hr7, pairwise_without hT s0, fun p hp => hsub p (List.mem_filter.1 hp).1, hfin.mono fun k hk ha => ?_, by simp [putF, hlen], fun p hp hn => ?_, ?_⟩, ?_⟩
        · rcases ha with ha | ha
          · exact ⟨plus_le (by omega) k ha.1, ha.2⟩
          · obtain ⟨ha1, ha2⟩ := ha
            exact ⟨.inr ⟨by omega, ha2⟩, by omega⟩
        · by_cases hpi : p.2 = i
          · have hil' : i < is'.length := hil
            rw [hpi, HX.out]; simp [putF, List.getD, hil']
          · have hnT : ¬ p ∈ T := by
              intro hpT
              apply hn
              refine List.mem_filter.2 ⟨hpT, ?_⟩
              have : p.1 ≠ s0 := by
                intro e
                apply hpi
                by_cases hpe : p = (s0, i)
                · rw [hpe]
                · exact absurd e (pairwise_ne hT hpT hsi hpe)
              simpa using this
            have := hdone p hp hnT
            rw [← this]
            simp [putF, List.getD, List.getElem?_set_ne (Ne.symm hpi)]
        · have hkk : Keep A4 w4 w' := hk.trans hk' fun j hj e => absurd e (by omega)
          refine (hkk.trans hk6 fun j _ h => h.elim).setCell (fun hlt => ?_) _
          rcases hbA.1 with h | h
          · exact h
          · have h : w4.heap.size ≤ b ∧ _ := h
            have hlt : b < w4.heap.size := hlt
            omega
        · have e10 : (w6.setCell ⟨b, 0, none⟩ (.slice a6 X.length c6)).rangeLeft nb' w4.heap.size = w'.rangeLeft nb' w4.heap.size := by
            unfold World.rangeLeft
            rw [h7 _ hr'.map.lt hbnb, h7 _ hr'.lt hbn.symm]
          rw [e10]; exact hlt
end Go.Proofs.YtkmoomgmmhmaeaaGreat
