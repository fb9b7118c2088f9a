/- TagsNumbers. The document's functions on lists of pages (chapter 13), as plain lists: they make what the model makes. Laws of memory in pages, in plain lists: what is stored is loaded; all else stays. The document's find, there, may, Noughts (chapter 13). No condition. -/
import Derived.Test.YthfekjnekaecaaaDoorTg11
import Derived.Test.YthfekjnekaecaaaDoorCpuM
import Derived.Test.YthfekjnekaecaaaDoorRd
import Derived.Test.YthfekjnekaecaaaDoorVmG
set_option linter.unusedVariables false
set_option linter.unusedSimpArgs false
namespace Go.Dm.Tg
open Go Go.Dm.Vm Go.Dm.Cp
def zT : List Int := List.replicate 32 0
theorem zT_get (k : Nat) : zT.getD k 0 = 0 := by
  unfold zT
  rw [List.getD_eq_getElem?_getD, List.getElem?_replicate]
  split <;> rfl
theorem zT_set (k : Nat) : zT.set k 0 = zT := by
  apply List.ext_getElem?
  intro i
  rw [List.getElem?_set]
  split
  · rename_i h
    subst h
    unfold zT
    rw [List.getElem?_replicate, List.length_replicate]
  · rfl
/-- what comes of numbers alone -/
def Num (op a : Nat) (o : Option (List Int × Lg)) : Prop := ∀ t' L', o = some (t', L') → L'.w = [] ∧ ∃ x, t' = zT.set a x ∧ (x = 0 ∨ op = 35 ∨ op = 37 ∨ op = 38)
theorem Num.same {op a : Nat} {L : Lg} (h : L.w = []) : Num op a (some (zT, L)) := fun t' L' e => by
  cases e
  exact ⟨h, 0, (zT_set a).symm, .inl rfl⟩
theorem Num.put {op a : Nat} {L : Lg} {x : Int} (h : L.w = []) (hx : x = 0 ∨ op = 35 ∨ op = 37 ∨ op = 38) : Num op a (some (zT.set a x, L)) := fun t' L' e => by
  cases e
  exact ⟨h, x, rfl, hx⟩
theorem Num.none {op a : Nat} : Num op a Option.none := fun _ _ e => by cases e
theorem Num.ite {op a : Nat} {c : Prop} [Decidable c] {x y : Option (List Int × Lg)} (h1 : c → Num op a x) (h2 : ¬ c → Num op a y) : Num op a (if c then x else y) := by
  split
  · exact h1 (by assumption)
  · exact h2 (by assumption)
theorem tag_none {L : Lg} (h : L.w = []) (a : Nat) : tagM L a = 0 := by unfold tagM wordAt; rw [h]; rfl
theorem mark_none {L : Lg} (h : L.w = []) (a : Nat) : (markM L a 0).w = [] := by
  unfold markM
  split
  · show putW L.w a (0 : Int).toNat = []
    rw [h]; rfl
  · exact h
theorem num_mem {L : Lg} (h : L.w = []) (mo : Option V) (s : St) (i : Ins) : Num i.op i.a (memM L mo zT s i) := by
  unfold memM
  simp only [zT_get, tag_none h]
  repeat' split
  all_goals first
    | exact Num.none
    | exact Num.same h
    | exact Num.put h (.inl rfl)
    | exact Num.same (mark_none h _)
theorem num_reck {L : Lg} (s : St) (i : Ins) : (reckM L zT s i).1 = 0 := by
  unfold reckM
  simp only [zT_get]
  repeat' split
  all_goals rfl
theorem num_look {L : Lg} (h : L.w = []) (mo : Option V) (s : St) (i : Ins) (own : Int) : Num i.op i.a (lookM L mo zT s i own) := by
  unfold lookM
  split
  · exact Num.none
  · unfold lookB
    simp only [zT_get, num_reck, if_true, true_and]
    repeat' (first | exact num_mem h mo s i | refine Num.ite (fun _ => ?_) (fun _ => ?_))
    all_goals first
      | exact Num.none
      | exact Num.same h
      | exact Num.put h (.inl rfl)
      | exact num_mem h mo s i
      | exact Num.put h (.inr (by omega))
theorem num_step (mo : Option V) (s : St) (i : Ins) (may : Bool) : (tstepM awL mo zT s i may).2.1.w = [] ∧
    (((tstepM awL mo zT s i may).2.2 = 0 ∧ may = true ∧ ∃ x, (tstepM awL mo zT s i may).1 = zT.set i.a x ∧ (x = 0 ∨ i.op = 35 ∨ i.op = 37 ∨ i.op = 38)) ∨ ((tstepM awL mo zT s i may).2.2 = 50 ∧ (tstepM awL mo zT s i may).1 = zT)) := by
  unfold tstepM
  split
  · exact ⟨rfl, .inr ⟨rfl, rfl⟩⟩
  · rename_i hg
    have hmay : may = true := by
      cases may
      · exact absurd (.inr (.inl rfl)) hg
      · rfl
    have hn := num_look (L := awL) rfl mo s i (ofM awL.m s.pc + 1)
    cases hl : lookM awL mo zT s i (ofM awL.m s.pc + 1) with
    | none => exact ⟨rfl, .inr ⟨rfl, rfl⟩⟩
    | some r =>
      obtain ⟨t', L'⟩ := r
      obtain ⟨h1, h2⟩ := hn t' L' hl
      exact ⟨h1, .inl ⟨rfl, hmay, h2⟩⟩
end Go.Dm.Tg
namespace Go.Proofs.YthfekjnekaecaaaDoor
open Go.RowKit Go.Dm Go.Dm.Vm Go.Dm.Cp Go.Dm.Tg Go.Maps
theorem still_build {P : Program} {a : Act} {o : Oper} {w' : World} (t : TypeId) (ps : Array (Nat × Operand)) (ho : o.op = Op.build t ps) {cells : Array Value} (hb : P.built t (ps.map fun (i, x) => (i, a.eval x)).toList = some cells) : (execOp a.eval o).run P w' = .ok (.value (.agg cells)) w' := by
  unfold execOp
  simp only [ho, Sem.run_bind, run_build w' t _ cells hb, Result.andThen_ok, Sem.run_pure]
theorem built_st20 (v0 v1 v2 v3 v4 v5 v6 v7 v8 v9 v10 v11 v12 v13 v14 v15 v16 v17 v18 v19 v20 v21 v22 v23 v24 v25 v26 v27 v28 v29 v30 v31 : Value) (a : Int) : Tryd.prog.built 35 [(0, .agg #[v0, v1, v2, v3, v4, v5, v6, v7, v8, v9, v10, v11, v12, v13, v14, v15, v16, v17, v18, v19, v20, v21, v22, v23, v24, v25, v26, v27, v28, v29, v30, v31]), (1, .int .u64 a)] = some #[v0, v1, v2, v3, v4, v5, v6, v7, v8, v9, v10, v11, v12, v13, v14, v15, v16, v17, v18, v19, v20, v21, v22, v23, v24, v25, v26, v27, v28, v29, v30, v31, .int .u64 a, .int .u64 0] := by kernel_rfl
theorem built_st2 (l : List Value) (h : l.length = 32) (a : Int) : Tryd.prog.built 35 [(0, .agg l.toArray), (1, .int .u64 a)] = some (l ++ [Value.int .u64 a, Value.int .u64 0]).toArray :=
  match l, h with
  | [v0, v1, v2, v3, v4, v5, v6, v7, v8, v9, v10, v11, v12, v13, v14, v15, v16, v17, v18, v19, v20, v21, v22, v23, v24, v25, v26, v27, v28, v29, v30, v31], _ => built_st20 v0 v1 v2 v3 v4 v5 v6 v7 v8 v9 v10 v11 v12 v13 v14 v15 v16 v17 v18 v19 v20 v21 v22 v23 v24 v25 v26 v27 v28 v29 v30 v31 a
section
variable {w : World}
set_option maxRecDepth 100000 in
set_option maxHeartbeats 8000000 in
theorem tagsnumbers_any (r : List Nat) (pc : Nat) (op a b c imm : Int) (hrl : r.length = 32) (hr : ∀ x ∈ r, x < 18446744073709551616) (hpc : pc < 18446744073709551616) (h1 : -2147483648 ≤ imm ∧ imm ≤ 2147483647) (hT : Tabs w) : Calls Tryd.prog 3 #[.agg (r.map ru).toArray, .int .u64 (pc : Int), .int .i64 op, .int .i64 a, .int .i64 b, .int .i64 c, .int .i32 imm] w fun e w' => e = .returned (.bool true) ∧ Keep No w w' := by
  have HT := Lib.hid hT
  have hrs : (r.map ru).toArray.size = 32 := by simp [hrl]
  have hsk : StOk ⟨r, pc, 0⟩ := ⟨hrl, hr, hpc, by simp only; decide⟩
  have hns := num_step (some mem18) ⟨r, pc, 0⟩ ⟨op.toNat, a.toNat, b.toNat, c.toNat, imm⟩ (mayF op a b c imm)
  generalize hRd : tstepM awL (some mem18) zT ⟨r, pc, 0⟩ ⟨op.toNat, a.toNat, b.toNat, c.toNat, imm⟩ (mayF op a b c imm) = R at *
  have HRD := Lib.hid hRd
  have hbt := built_st2 (r.map ru) (by simp [hrl]) (pc : Int)
  have HBT := Lib.hid hbt
  have HNS := Lib.hid hns
  have haw := fun (W : World) (hk : Keep No w W) => awake18_any (HT.out.no hk)
  have HAW := Lib.hid haw
  clear hT hRd hbt hns haw
  go_enter Tryd.func3, Tryd.ntmps3
  go_wp2_with fail
  have hkw0 : Keep No w (w.alloc (.cells (r.map ru).toArray 23)) := (Keep.refl _ _).alloc _
  have hBw0 : Blk (w.alloc (.cells (r.map ru).toArray 23)) w.heap.size (r.map ru).toArray 23 := Blk.new _ _ _
  have hzw0 : (w.alloc (.cells (r.map ru).toArray 23)).heap.size = w.heap.size + 1 := World.size_alloc _ _
  generalize w.alloc (.cells (r.map ru).toArray 23) = w0 at *
  refine (HAW.out w0 hkw0).mono ?_
  rintro e w00 ⟨rfl, hk00⟩
  have hkw00 := hkw0.trans' hk00
  have bi0 := hBw0.keep hk00 fun h => h
  clear HAW hkw0 hk00 hBw0
  go_wp2_with fail
  refine (modules18_any w00).mono ?_
  rintro e w1 ⟨vm, rfl, hm1, hk1⟩
  have htn := tnew_any vm mods2 w1 hm1 mods2_ok (by decide)
  obtain ⟨am, cm, rfl, _, _⟩ := hm1.shape
  clear hm1
  go_wp2_with fail
  refine htn.mono ?_
  rintro e w2 ⟨d, v, mb, rfl, hL, hk2⟩
  have hkw2 := (hkw00.trans' hk1).trans' hk2
  have hL : LRep (fun k => w1.heap.size ≤ k ∧ k < w2.heap.size) w2 d awL v mb := hL
  have bi := (bi0.keep hk1 fun h => h).keep hk2 fun h => h
  have hw01 : w.heap.size < w1.heap.size := (bi0.keep hk1 fun h => h).lt
  clear htn hk1 hk2 bi0 hkw00
  unfold ptrTo
  go_wp2_with fail
  have htm := fun (W : World) (hk : Keep (fun j => j = mb) w W) => HT.out.keep hk (fun e => by have := tabs_lt HT.out; have h1 := hL.Am.1; have e2 : 0 = mb := e; omega)
  have HTM := Lib.hid htm
  have hA2 : ∀ k, (w1.heap.size ≤ k ∧ k < w2.heap.size) → k < w2.heap.size := fun k hk => hk.2
  have hmbw : w1.heap.size ≤ mb := hL.Am.1
  have hbm : ¬ w.heap.size = mb := fun e => by omega
  have hww2 : w.heap.size ≤ w2.heap.size := hkw2.size
  have hbl := bi.lt
  have hmb2 : mb < w2.heap.size := hL.Am.2
  obtain ⟨n2, hn2⟩ : ∃ n, n = w2.heap.size := ⟨_, rfl⟩
  have hw2 : n2 ≤ w2.heap.size := Nat.le_of_eq hn2
  rw [← hn2] at hmb2 hww2 hbl
  obtain ⟨TR, hTR⟩ : ∃ T, T = (R.1.map it).toArray := ⟨_, rfl⟩
  obtain ⟨er, her⟩ : ∃ n : Nat, n = R.2.2 := ⟨_, rfl⟩
  obtain ⟨RL, hRL⟩ : ∃ l, l = R.2.1 := ⟨_, rfl⟩
  have hst : ∀ {W : World} {dm mbm x y : Nat} {fm : Nat → Nat}, Tabs W → LRep (fun k => w1.heap.size ≤ k ∧ k < w2.heap.size) W d awL v mb → (∀ k, (w1.heap.size ≤ k ∧ k < w2.heap.size) → k < W.heap.size) → y ≤ W.heap.size → mb < x → SRep (fun k => x ≤ k ∧ k < y) W dm mem18 mbm fm →
      Calls Tryd.prog 9 #[.pointer (some ⟨d, 0, none⟩), .agg #[.int .i64 0, .int .i64 0, .int .i64 0, .int .i64 0, .int .i64 0, .int .i64 0, .int .i64 0, .int .i64 0, .int .i64 0, .int .i64 0, .int .i64 0, .int .i64 0, .int .i64 0, .int .i64 0, .int .i64 0, .int .i64 0, .int .i64 0, .int .i64 0, .int .i64 0, .int .i64 0, .int .i64 0, .int .i64 0, .int .i64 0, .int .i64 0, .int .i64 0, .int .i64 0, .int .i64 0, .int .i64 0, .int .i64 0, .int .i64 0, .int .i64 0, .int .i64 0], .agg (r.map ru ++ [Value.int .u64 (pc : Int), Value.int .u64 0]).toArray, .agg #[.int .i64 op, .int .i64 a, .int .i64 b, .int .i64 c, .int .i32 imm], .pointer (some ⟨dm, 0, none⟩)] W fun e w' => e = .returned (.tuple #[.agg TR, .int .i64 (er : Int)]) ∧ LRep (fun k => w1.heap.size ≤ k ∧ k < w2.heap.size) w' d RL v mb ∧ Keep (fun j => j = mb) W w' := by
    intro W dm mbm x y fm hT hLW hA hy hmb hS
    have h := tstep_any (w := W) zT ⟨r, pc, 0⟩ op a b c imm (some ⟨dm, 0, none⟩) (some mem18) rfl hsk h1.1 h1.2 hT ⟨dm, mbm, fm, rfl, hS⟩ (fun k hk => Nat.lt_of_lt_of_le hk.2 hy) (fun k hk e => by have := hk.1; omega) hLW hA
    rw [HRD.out] at h
    rw [hTR, her, hRL]
    exact h
  have hto : TR.size = 32 ∧ TR.all (·.oneCell') = true := by
    have hl : R.1.length = 32 := by
      rcases HNS.out.2 with ⟨_, _, x, e, _⟩ | ⟨_, e⟩
      · rw [e]; simp [zT]
      · rw [e]; simp [zT]
    rw [hTR]
    refine ⟨by simp [hl], ?_⟩
    simp only [List.all_toArray, List.all_map, List.all_eq_true]
    exact fun _ _ => rfl
  have hk : Keep (fun j => j = mb) w w2 := hkw2.mono fun _ _ h => h.elim
  have hAw := hA2
  have HTR := Lib.hid hTR
  have HER := Lib.hid her
  have HRL := Lib.hid hRL
  clear htm hTR her hRL HT
  apply joinG
  · intro HJ
    have hkd := hk.drew
    have hLd := hL.no hAw (Keep.refl No w2).drew
    have bid := bi.keep (Keep.refl No w2).drew fun h => h
    refine wp_region_tree (fun w' => Blk w' w.heap.size (r.map ru).toArray 23 ∧ True) (fun j => decide (j ≤ 99)) (.st 0 (.st 1 (.st 2 (.st 3 (.st 4 (.st 5 (.st 6 (.st 7 (.st 8 (.st 9 (.st 10 (.br 11 16 (.br 12 16 (.st 13 (.st 14 (.st 15 (.ef 16 (.ef 17 (.st 18 .nil)))))) (.ef 12 (.st 13 (.st 14 (.st 15 (.ef 17 (.st 18 .nil))))))) (.ef 11 (.ef 12 (.st 13 (.st 14 (.st 15 (.ef 17 (.st 18 .nil))))))))))))))))))) (by kernel_rfl) (by kernel_rfl) (by intro c a d v w h; cases d <;> exact h) ⟨bid, trivial⟩ ?_
    apply tr_still (o := ⟨some 27, _, _, _, _, _⟩) rfl rfl
    · intro w' hS
      obtain ⟨q1, q2⟩ := hS
      first | (go_simp; done) | (go_simp; rfl) | rfl
    go_frame
    apply tr_still (o := ⟨some 28, _, _, _, _, _⟩) rfl rfl
    · intro w' hS
      obtain ⟨q1, q2⟩ := hS
      first | (go_simp; done) | (go_simp; rfl) | rfl
    go_frame
    apply tr_still (o := ⟨some 29, _, _, _, _, _⟩) rfl rfl
    · intro w' hS
      exact run_ldoC _ _ rfl w.heap.size 0 rfl (run_loadVar_row w' w.heap.size 23 23 _ _ _ hS.1 Tryd.underlying23 rfl (by rw [hrs]; kernel_rfl))
    go_frame
    apply tr_still (o := ⟨some 30, _, _, _, _, _⟩) rfl rfl
    · intro w' hS
      obtain ⟨q1, q2⟩ := hS
      first | (go_simp; done) | (go_simp; rfl) | rfl
    go_frame
    apply tr_still (o := ⟨some 31, _, _, _, _, _⟩) rfl rfl
    · intro w' hS
      exact still_build _ _ rfl (by first | exact HBT.out | (go_simp; exact HBT.out) | (simp [Act.eval]; exact HBT.out))
    go_frame
    apply tr_still (o := ⟨some 32, _, _, _, _, _⟩) rfl rfl
    · intro w' hS
      obtain ⟨q1, q2⟩ := hS
      first | (go_simp; done) | (go_simp; rfl) | rfl
    go_frame
    apply tr_still (o := ⟨some 33, _, _, _, _, _⟩) rfl rfl
    · intro w' hS
      obtain ⟨q1, q2⟩ := hS
      first | (go_simp; done) | (go_simp; rfl) | rfl
    go_frame
    apply tr_still (o := ⟨some 34, _, _, _, _, _⟩) rfl rfl
    · intro w' hS
      obtain ⟨q1, q2⟩ := hS
      first | (go_simp; done) | (go_simp; rfl) | rfl
    go_frame
    apply tr_still (o := ⟨some 35, _, _, _, _, _⟩) rfl rfl
    · intro w' hS
      obtain ⟨q1, q2⟩ := hS
      first | (go_simp; done) | (go_simp; rfl) | rfl
    go_frame
    apply tr_still (o := ⟨some 36, _, _, _, _, _⟩) rfl rfl
    · intro w' hS
      obtain ⟨q1, q2⟩ := hS
      first | (go_simp; done) | (go_simp; rfl) | rfl
    go_frame
    apply tr_still (o := ⟨some 37, _, _, _, _, _⟩) rfl rfl
    · intro w' hS
      obtain ⟨q1, q2⟩ := hS
      first | (go_simp; done) | (go_simp; rfl) | rfl
    go_frame
    refine tr_br (o := ⟨some 38, _, _, _, _, _⟩) (o' := ⟨some 17, _, _, _, _, _⟩) rfl rfl rfl rfl (fun K hKe => ?_) (fun K hKe => ?_)
    · go_wp2_with fail
      refine (memory18_any w2.drew).mono ?_
      rintro e wm ⟨dm, mbm, fm, rfl, hSm, hkm⟩
      have bim := bid.keep hkm fun h => h
      have hLm := hLd.no hAw hkm
      have hkM : Keep (fun j => j = mb) w wm := hkd.trans hkm fun _ _ h => h.elim
      have hwz : n2 ≤ w2.drew.heap.size := hw2
      refine hKe _ _ ⟨fun _ => ⟨bim, trivial⟩, ?_⟩
      refine tr_br (o := ⟨some 39, _, _, _, _, _⟩) (o' := ⟨some 17, _, _, _, _, _⟩) rfl rfl rfl rfl (fun K hKe => ?_) (fun K hKe => ?_)
      · go_wp2_with fail
        refine (hst (HTM.out wm hkM) hLm (fun k hk => Nat.lt_of_lt_of_le (hAw k hk) hkm.size) (Nat.le_refl _) (Nat.lt_of_lt_of_le hmb2 hwz) hSm).mono ?_
        rintro e ws ⟨rfl, hLs, hks⟩
        have bis := bim.keep hks hbm
        have hkS := hkM.trans' hks
        refine hKe _ _ ⟨fun _ => ⟨bis, trivial⟩, ?_⟩
        apply tr_still (o := ⟨some 26, _, _, _, _, _⟩) rfl rfl
        · intro w' hS
          obtain ⟨q1, q2⟩ := hS
          first | (go_simp; done) | (go_simp; rfl) | rfl
        go_frame
        apply tr_still (o := ⟨some 40, _, _, _, _, _⟩) rfl rfl
        · intro w' hS
          obtain ⟨q1, q2⟩ := hS
          first | (go_simp; done) | (go_simp; rfl) | rfl
        go_frame
        apply tr_still (o := ⟨some 41, _, _, _, _, _⟩) rfl rfl
        · intro w' hS
          obtain ⟨q1, q2⟩ := hS
          first | (go_simp; done) | (go_simp; rfl) | rfl
        go_frame
        refine tr_eff (o := ⟨some 17, _, _, _, _, _⟩) rfl rfl (fun K hKe => ?_)
        go_wp2_with fail
        have hkwa : Keep No ws (ws.alloc (.cells #[.int .i64 0, .int .i64 0, .int .i64 0, .int .i64 0, .int .i64 0, .int .i64 0, .int .i64 0, .int .i64 0, .int .i64 0, .int .i64 0, .int .i64 0, .int .i64 0, .int .i64 0, .int .i64 0, .int .i64 0, .int .i64 0, .int .i64 0, .int .i64 0, .int .i64 0, .int .i64 0, .int .i64 0, .int .i64 0, .int .i64 0, .int .i64 0, .int .i64 0, .int .i64 0, .int .i64 0, .int .i64 0, .int .i64 0, .int .i64 0, .int .i64 0, .int .i64 0] 30)) := (Keep.refl _ _).alloc _
        have hBwa : Blk (ws.alloc (.cells #[.int .i64 0, .int .i64 0, .int .i64 0, .int .i64 0, .int .i64 0, .int .i64 0, .int .i64 0, .int .i64 0, .int .i64 0, .int .i64 0, .int .i64 0, .int .i64 0, .int .i64 0, .int .i64 0, .int .i64 0, .int .i64 0, .int .i64 0, .int .i64 0, .int .i64 0, .int .i64 0, .int .i64 0, .int .i64 0, .int .i64 0, .int .i64 0, .int .i64 0, .int .i64 0, .int .i64 0, .int .i64 0, .int .i64 0, .int .i64 0, .int .i64 0, .int .i64 0] 30)) ws.heap.size #[.int .i64 0, .int .i64 0, .int .i64 0, .int .i64 0, .int .i64 0, .int .i64 0, .int .i64 0, .int .i64 0, .int .i64 0, .int .i64 0, .int .i64 0, .int .i64 0, .int .i64 0, .int .i64 0, .int .i64 0, .int .i64 0, .int .i64 0, .int .i64 0, .int .i64 0, .int .i64 0, .int .i64 0, .int .i64 0, .int .i64 0, .int .i64 0, .int .i64 0, .int .i64 0, .int .i64 0, .int .i64 0, .int .i64 0, .int .i64 0, .int .i64 0, .int .i64 0] 30 := Blk.new _ _ _
        have hzwa : (ws.alloc (.cells #[.int .i64 0, .int .i64 0, .int .i64 0, .int .i64 0, .int .i64 0, .int .i64 0, .int .i64 0, .int .i64 0, .int .i64 0, .int .i64 0, .int .i64 0, .int .i64 0, .int .i64 0, .int .i64 0, .int .i64 0, .int .i64 0, .int .i64 0, .int .i64 0, .int .i64 0, .int .i64 0, .int .i64 0, .int .i64 0, .int .i64 0, .int .i64 0, .int .i64 0, .int .i64 0, .int .i64 0, .int .i64 0, .int .i64 0, .int .i64 0, .int .i64 0, .int .i64 0] 30)).heap.size = ws.heap.size + 1 := World.size_alloc _ _
        generalize ws.alloc (.cells #[.int .i64 0, .int .i64 0, .int .i64 0, .int .i64 0, .int .i64 0, .int .i64 0, .int .i64 0, .int .i64 0, .int .i64 0, .int .i64 0, .int .i64 0, .int .i64 0, .int .i64 0, .int .i64 0, .int .i64 0, .int .i64 0, .int .i64 0, .int .i64 0, .int .i64 0, .int .i64 0, .int .i64 0, .int .i64 0, .int .i64 0, .int .i64 0, .int .i64 0, .int .i64 0, .int .i64 0, .int .i64 0, .int .i64 0, .int .i64 0, .int .i64 0, .int .i64 0] 30) = wa at *
        have bi := bis.keep hkwa fun h => h
        have hL := hLs.no (fun k hk => Nat.lt_of_lt_of_le (Nat.lt_of_lt_of_le (hAw k hk) hkm.size) hks.size) hkwa
        have hk : Keep (fun j => j = mb) w wa := hkS.trans hkwa fun _ _ h => h.elim
        have hsz : n2 ≤ ws.heap.size := Nat.le_trans hwz (Nat.le_trans hkm.size hks.size)
        refine ⟨fun _ => ⟨bi, trivial⟩, ?_⟩
        refine tr_eff (o := ⟨none, _, _, _, _, _⟩) rfl rfl (fun K hKe => ?_)
        refine wo_stAgg (.tmp 17) (.tmp 40) 30 rfl _ _ rfl rfl ?_
        refine rg_stAgg hBwa (by rw [hto.1]; kernel_rfl) (by rw [hto.1]; rfl) hto.2 ?_
        intro wf hBf hkf hzf
        have bi_f := bi.keep hkf fun e => by have e2 : w.heap.size = ws.heap.size := e; omega
        have hLf := hL.keep hkf (fun j hj e => by have e2 : j = ws.heap.size := e; have := hj.2; omega) (fun j hj => by have := hj.2; have := hBwa.lt; omega)
        have hkF : Keep (fun j => j = mb) w wf := hk.trans hkf fun j hj e => absurd hj (by have e2 : j = ws.heap.size := e; omega)
        refine hKe _ _ ⟨fun _ => ⟨bi_f, trivial⟩, ?_⟩
        apply tr_still (o := ⟨some 18, _, _, _, _, _⟩) rfl rfl
        · intro w' hS
          obtain ⟨q1, q2⟩ := hS
          first | (go_simp; done) | (go_simp; rfl) | rfl
        go_frame
        apply tr_nil
        have hgl : n2 ≤ ws.heap.size := hsz
        obtain ⟨gg, hgg⟩ : ∃ g, g = ws.heap.size := ⟨_, rfl⟩
        rw [← hgg] at hBf hgl
        try rw [← hgg]
        clear hgg hkf hzf bi hL hk hSm hKe
        revert hgl hkF hLf bi_f hBf
        revert gg dm wf
        exact HJ.out
      · skip
        go_wp2_with fail
        have hkwa : Keep No wm (wm.alloc (.cells #[.int .i64 0, .int .i64 0, .int .i64 0, .int .i64 0, .int .i64 0, .int .i64 0, .int .i64 0, .int .i64 0, .int .i64 0, .int .i64 0, .int .i64 0, .int .i64 0, .int .i64 0, .int .i64 0, .int .i64 0, .int .i64 0, .int .i64 0, .int .i64 0, .int .i64 0, .int .i64 0, .int .i64 0, .int .i64 0, .int .i64 0, .int .i64 0, .int .i64 0, .int .i64 0, .int .i64 0, .int .i64 0, .int .i64 0, .int .i64 0, .int .i64 0, .int .i64 0] 30)) := (Keep.refl _ _).alloc _
        have hBwa : Blk (wm.alloc (.cells #[.int .i64 0, .int .i64 0, .int .i64 0, .int .i64 0, .int .i64 0, .int .i64 0, .int .i64 0, .int .i64 0, .int .i64 0, .int .i64 0, .int .i64 0, .int .i64 0, .int .i64 0, .int .i64 0, .int .i64 0, .int .i64 0, .int .i64 0, .int .i64 0, .int .i64 0, .int .i64 0, .int .i64 0, .int .i64 0, .int .i64 0, .int .i64 0, .int .i64 0, .int .i64 0, .int .i64 0, .int .i64 0, .int .i64 0, .int .i64 0, .int .i64 0, .int .i64 0] 30)) wm.heap.size #[.int .i64 0, .int .i64 0, .int .i64 0, .int .i64 0, .int .i64 0, .int .i64 0, .int .i64 0, .int .i64 0, .int .i64 0, .int .i64 0, .int .i64 0, .int .i64 0, .int .i64 0, .int .i64 0, .int .i64 0, .int .i64 0, .int .i64 0, .int .i64 0, .int .i64 0, .int .i64 0, .int .i64 0, .int .i64 0, .int .i64 0, .int .i64 0, .int .i64 0, .int .i64 0, .int .i64 0, .int .i64 0, .int .i64 0, .int .i64 0, .int .i64 0, .int .i64 0] 30 := Blk.new _ _ _
        have hzwa : (wm.alloc (.cells #[.int .i64 0, .int .i64 0, .int .i64 0, .int .i64 0, .int .i64 0, .int .i64 0, .int .i64 0, .int .i64 0, .int .i64 0, .int .i64 0, .int .i64 0, .int .i64 0, .int .i64 0, .int .i64 0, .int .i64 0, .int .i64 0, .int .i64 0, .int .i64 0, .int .i64 0, .int .i64 0, .int .i64 0, .int .i64 0, .int .i64 0, .int .i64 0, .int .i64 0, .int .i64 0, .int .i64 0, .int .i64 0, .int .i64 0, .int .i64 0, .int .i64 0, .int .i64 0] 30)).heap.size = wm.heap.size + 1 := World.size_alloc _ _
        generalize wm.alloc (.cells #[.int .i64 0, .int .i64 0, .int .i64 0, .int .i64 0, .int .i64 0, .int .i64 0, .int .i64 0, .int .i64 0, .int .i64 0, .int .i64 0, .int .i64 0, .int .i64 0, .int .i64 0, .int .i64 0, .int .i64 0, .int .i64 0, .int .i64 0, .int .i64 0, .int .i64 0, .int .i64 0, .int .i64 0, .int .i64 0, .int .i64 0, .int .i64 0, .int .i64 0, .int .i64 0, .int .i64 0, .int .i64 0, .int .i64 0, .int .i64 0, .int .i64 0, .int .i64 0] 30) = wa at *
        have bia := bim.keep hkwa fun h => h
        have hLa := hLm.no (fun k hk => Nat.lt_of_lt_of_le (hAw k hk) hkm.size) hkwa
        have hkA : Keep (fun j => j = mb) w wa := hkM.trans hkwa fun _ _ h => h.elim
        have hsz : n2 ≤ wm.heap.size := Nat.le_trans hwz hkm.size
        refine ⟨fun _ => ⟨bia, trivial⟩, ?_⟩
        refine tr_eff (o := ⟨some 39, _, _, _, _, _⟩) rfl rfl (fun K hKe => ?_)
        go_wp2_with fail
        refine (hst (HTM.out wa hkA) hLa (fun k hk => Nat.lt_of_lt_of_le (Nat.lt_of_lt_of_le (hAw k hk) hkm.size) hkwa.size) hkwa.size (Nat.lt_of_lt_of_le hmb2 hwz) (hSm.no (fun k hk => hk.2) hkwa)).mono ?_
        rintro e ws ⟨rfl, hL, hks⟩
        have bi := bia.keep hks hbm
        have hk := hkA.trans' hks
        have hBs := hBwa.keep hks fun e => by have e2 : wm.heap.size = mb := e; omega
        refine hKe _ _ ⟨fun _ => ⟨bi, trivial⟩, ?_⟩
        apply tr_still (o := ⟨some 26, _, _, _, _, _⟩) rfl rfl
        · intro w' hS
          obtain ⟨q1, q2⟩ := hS
          first | (go_simp; done) | (go_simp; rfl) | rfl
        go_frame
        apply tr_still (o := ⟨some 40, _, _, _, _, _⟩) rfl rfl
        · intro w' hS
          obtain ⟨q1, q2⟩ := hS
          first | (go_simp; done) | (go_simp; rfl) | rfl
        go_frame
        apply tr_still (o := ⟨some 41, _, _, _, _, _⟩) rfl rfl
        · intro w' hS
          obtain ⟨q1, q2⟩ := hS
          first | (go_simp; done) | (go_simp; rfl) | rfl
        go_frame
        refine tr_eff (o := ⟨none, _, _, _, _, _⟩) rfl rfl (fun K hKe => ?_)
        refine wo_stAgg (.tmp 17) (.tmp 40) 30 rfl _ _ rfl rfl ?_
        refine rg_stAgg hBs (by rw [hto.1]; kernel_rfl) (by rw [hto.1]; rfl) hto.2 ?_
        intro wf hBf hkf hzf
        have bi_f := bi.keep hkf fun e => by have e2 : w.heap.size = wm.heap.size := e; omega
        have hLf := hL.keep hkf (fun j hj e => by have e2 : j = wm.heap.size := e; have := hj.2; omega) (fun j hj => by have := hj.2; have := hBs.lt; omega)
        have hkF : Keep (fun j => j = mb) w wf := hk.trans hkf fun j hj e => absurd hj (by have e2 : j = wm.heap.size := e; omega)
        refine hKe _ _ ⟨fun _ => ⟨bi_f, trivial⟩, ?_⟩
        apply tr_still (o := ⟨some 18, _, _, _, _, _⟩) rfl rfl
        · intro w' hS
          obtain ⟨q1, q2⟩ := hS
          first | (go_simp; done) | (go_simp; rfl) | rfl
        go_frame
        apply tr_nil
        have hgl : n2 ≤ wm.heap.size := hsz
        obtain ⟨gg, hgg⟩ : ∃ g, g = wm.heap.size := ⟨_, rfl⟩
        rw [← hgg] at hBf hgl
        try rw [← hgg]
        clear hgg hkf hzf bi hL hk hSm hKe
        revert hgl hkF hLf bi_f hBf
        revert gg dm wf
        exact HJ.out
    · have hwz : n2 ≤ w2.drew.heap.size := hw2
      go_wp2_with fail
      have hkwa : Keep No w2.drew (w2.alloc (.cells #[.int .i64 0, .int .i64 0, .int .i64 0, .int .i64 0, .int .i64 0, .int .i64 0, .int .i64 0, .int .i64 0, .int .i64 0, .int .i64 0, .int .i64 0, .int .i64 0, .int .i64 0, .int .i64 0, .int .i64 0, .int .i64 0, .int .i64 0, .int .i64 0, .int .i64 0, .int .i64 0, .int .i64 0, .int .i64 0, .int .i64 0, .int .i64 0, .int .i64 0, .int .i64 0, .int .i64 0, .int .i64 0, .int .i64 0, .int .i64 0, .int .i64 0, .int .i64 0] 30)).drew := ((Keep.refl No w2.drew).alloc _)
      have hBwa : Blk (w2.alloc (.cells #[.int .i64 0, .int .i64 0, .int .i64 0, .int .i64 0, .int .i64 0, .int .i64 0, .int .i64 0, .int .i64 0, .int .i64 0, .int .i64 0, .int .i64 0, .int .i64 0, .int .i64 0, .int .i64 0, .int .i64 0, .int .i64 0, .int .i64 0, .int .i64 0, .int .i64 0, .int .i64 0, .int .i64 0, .int .i64 0, .int .i64 0, .int .i64 0, .int .i64 0, .int .i64 0, .int .i64 0, .int .i64 0, .int .i64 0, .int .i64 0, .int .i64 0, .int .i64 0] 30)).drew w2.heap.size #[.int .i64 0, .int .i64 0, .int .i64 0, .int .i64 0, .int .i64 0, .int .i64 0, .int .i64 0, .int .i64 0, .int .i64 0, .int .i64 0, .int .i64 0, .int .i64 0, .int .i64 0, .int .i64 0, .int .i64 0, .int .i64 0, .int .i64 0, .int .i64 0, .int .i64 0, .int .i64 0, .int .i64 0, .int .i64 0, .int .i64 0, .int .i64 0, .int .i64 0, .int .i64 0, .int .i64 0, .int .i64 0, .int .i64 0, .int .i64 0, .int .i64 0, .int .i64 0] 30 := (Blk.new w2 _ _).keep (Keep.refl No _).drew fun h => h
      generalize (w2.alloc (.cells #[.int .i64 0, .int .i64 0, .int .i64 0, .int .i64 0, .int .i64 0, .int .i64 0, .int .i64 0, .int .i64 0, .int .i64 0, .int .i64 0, .int .i64 0, .int .i64 0, .int .i64 0, .int .i64 0, .int .i64 0, .int .i64 0, .int .i64 0, .int .i64 0, .int .i64 0, .int .i64 0, .int .i64 0, .int .i64 0, .int .i64 0, .int .i64 0, .int .i64 0, .int .i64 0, .int .i64 0, .int .i64 0, .int .i64 0, .int .i64 0, .int .i64 0, .int .i64 0] 30)).drew = wa at *
      have bia := bid.keep hkwa fun h => h
      have hLa := hLd.no hAw hkwa
      have hkA : Keep (fun j => j = mb) w wa := hkd.trans hkwa fun _ _ h => h.elim
      refine ⟨fun _ => ⟨bia, trivial⟩, ?_⟩
      refine tr_eff (o := ⟨some 38, _, _, _, _, _⟩) rfl rfl (fun K hKe => ?_)
      go_wp2_with fail
      refine (memory18_any wa).mono ?_
      rintro e wm ⟨dm, mbm, fm, rfl, hSm, hkm⟩
      have bim := bia.keep hkm fun h => h
      have hLm := hLa.no (fun k hk => Nat.lt_of_lt_of_le (hAw k hk) hkwa.size) hkm
      have hkM : Keep (fun j => j = mb) w wm := hkA.trans hkm fun _ _ h => h.elim
      have hBm := hBwa.keep hkm fun h => h
      refine hKe _ _ ⟨fun _ => ⟨bim, trivial⟩, ?_⟩
      refine tr_eff (o := ⟨some 39, _, _, _, _, _⟩) rfl rfl (fun K hKe => ?_)
      go_wp2_with fail
      refine (hst (HTM.out wm hkM) hLm (fun k hk => Nat.lt_of_lt_of_le (Nat.lt_of_lt_of_le (hAw k hk) hkwa.size) hkm.size) (Nat.le_refl _) (Nat.lt_of_lt_of_le (Nat.lt_of_lt_of_le hmb2 hwz) hkwa.size) hSm).mono ?_
      rintro e ws ⟨rfl, hL, hks⟩
      have bi := bim.keep hks hbm
      have hk := hkM.trans' hks
      have hBs := hBm.keep hks fun e => by have e2 : w2.heap.size = mb := e; omega
      have hsz := hwz
      refine hKe _ _ ⟨fun _ => ⟨bi, trivial⟩, ?_⟩
      apply tr_still (o := ⟨some 26, _, _, _, _, _⟩) rfl rfl
      · intro w' hS
        obtain ⟨q1, q2⟩ := hS
        first | (go_simp; done) | (go_simp; rfl) | rfl
      go_frame
      apply tr_still (o := ⟨some 40, _, _, _, _, _⟩) rfl rfl
      · intro w' hS
        obtain ⟨q1, q2⟩ := hS
        first | (go_simp; done) | (go_simp; rfl) | rfl
      go_frame
      apply tr_still (o := ⟨some 41, _, _, _, _, _⟩) rfl rfl
      · intro w' hS
        obtain ⟨q1, q2⟩ := hS
        first | (go_simp; done) | (go_simp; rfl) | rfl
      go_frame
      refine tr_eff (o := ⟨none, _, _, _, _, _⟩) rfl rfl (fun K hKe => ?_)
      refine wo_stAgg (.tmp 17) (.tmp 40) 30 rfl _ _ rfl rfl ?_
      refine rg_stAgg hBs (by rw [hto.1]; kernel_rfl) (by rw [hto.1]; rfl) hto.2 ?_
      intro wf hBf hkf hzf
      have bi_f := bi.keep hkf fun e => by have e2 : w.heap.size = w2.heap.size := e; omega
      have hLf := hL.keep hkf (fun j hj e => by have e2 : j = w2.heap.size := e; have := hj.2; omega) (fun j hj => by have := hj.2; have := hBs.lt; omega)
      have hkF : Keep (fun j => j = mb) w wf := hk.trans hkf fun j hj e => absurd hj (by have e2 : j = w2.heap.size := e; omega)
      refine hKe _ _ ⟨fun _ => ⟨bi_f, trivial⟩, ?_⟩
      apply tr_still (o := ⟨some 18, _, _, _, _, _⟩) rfl rfl
      · intro w' hS
        obtain ⟨q1, q2⟩ := hS
        first | (go_simp; done) | (go_simp; rfl) | rfl
      go_frame
      apply tr_nil
      have hgl : n2 ≤ w2.heap.size := hsz
      obtain ⟨gg, hgg⟩ : ∃ g, g = w2.heap.size := ⟨_, rfl⟩
      rw [← hgg] at hBf hgl
      try rw [← hgg]
      clear hgg hkf hzf bi hL hk hSm hKe
      revert hgl hkF hLf bi_f hBf
      revert gg dm wf
      exact HJ.out
  intro dm0 wx gx bi2 hL2 hk2 hgl hBf
  have hlg := hBf.lt
  have hns := HNS.out
  rw [← HRL.out, ← HER.out] at hns
  have hRw := hns.1
  have HW0 := Lib.hid hRw
  have hAx : ∀ k, (w1.heap.size ≤ k ∧ k < w2.heap.size) → k < wx.heap.size := fun k hk => by omega
  have hmd := fun W (hk : Keep No wx W) => tmarked_any (w := W) (hL2.no hAx hk) (by rw [HW0.out]; decide)
  rw [show RL.w.length = 0 by rw [HW0.out]; rfl] at hmd
  have HMD := Lib.hid hmd
  have hkend : ∀ W, Keep No wx W → Keep No w W := fun W hk => (hk2.trans hk fun _ _ h => h.elim).mono fun k hk3 e => absurd hk3 (by have e2 : k = mb := e; omega)
  have HKE := Lib.hid hkend
  rcases hns.2 with ⟨he, hmy, x, hx, hx2⟩ | ⟨he, hx⟩
  · obtain rfl : er = 0 := he
    obtain ⟨ho, ha, -, -⟩ := may_op hmy
    have hop : 1 ≤ op ∧ op ≤ 41 := by
      unfold isOp at ho
      simp at ho
      omega
    have hTR : TR = ((zT.set a.toNat x).map it).toArray := by rw [HTR.out, hx]
    have hcl : ∀ i, i < 32 → wx.cell? ⟨gx, i, none⟩ = some (.int .i64 (if i = a.toNat then x else 0)) := fun i hi => by
      rw [hBf.cell, hTR, List.getElem?_toArray, List.getElem?_map, List.getElem?_set]
      unfold zT
      rw [List.length_replicate, List.getElem?_replicate, if_pos hi]
      by_cases hia : a.toNat = i
      · rw [if_pos hia, if_pos (by omega), if_pos hia.symm]; rfl
      · rw [if_neg hia, if_neg (fun e => hia e.symm)]; rfl
    have HC := Lib.hid hcl
    have hgl2 : gx < wx.heap.size := hlg
    clear hns hx hTR hmy ho hcl hmd hBf bi2 hL2 hk2 hto hkend hRw
    go_wp2_with fail
    go_loopw [19, 20] (fun iv _ wr => ∃ i : Nat, iv = .int .i64 i ∧ i ≤ 32 ∧ wr = wx) (fun iv _ _ => 32 - (intOf iv).toNat)
    case atStart => exact ⟨0, rfl, by omega, rfl⟩
    case round =>
      obtain ⟨i, rfl, hi, rfl⟩ := hrel
      rcases Nat.lt_or_ge i 32 with hlt | hge
      · have hiz : (i : Int) < 32 := by omega
        have c0 := HC.out i hlt
        by_cases hv : (if i = a.toNat then x else 0) = 0
        · rw [hv] at c0
          have ho3 : op = 38 ∨ op = 35 ∨ op = 37 ∨ (op ≠ 38 ∧ op ≠ 35 ∧ op ≠ 37) := by omega
          rcases ho3 with rfl | rfl | rfl | ⟨g1, g2, g3⟩
          any_goals
            have g1' : (op == 38) = false := by simpa using g1
            have g2' : (op == 35) = false := by simpa using g2
            have g3' : (op == 37) = false := by simpa using g3
            clear g1 g2 g3
          all_goals
            go_wp2_with fail
            go_roundw
            case rel => exact ⟨i + 1, by go_num, hlt, trivial⟩
            case measure => simp [intOf]; omega
        · have hia : i = a.toNat := Classical.byContradiction fun e => hv (if_neg e)
          rw [if_pos hia] at c0 hv
          have hxz : (x != 0) = true := by simpa using hv
          have ha0 : a = (i : Int) := by
            subst hia
            rcases hx2 with h | h
            · exact absurd h hv
            · omega
          have ho3 : op = 38 ∨ op = 35 ∨ op = 37 := by omega
          clear hia
          subst ha0
          clear hx2
          rcases ho3 with rfl | rfl | rfl
          all_goals
            go_wp2_with fail
            go_roundw
            case rel => exact ⟨i + 1, by go_num, hlt, trivial⟩
            case measure => simp [intOf]; omega
      · obtain rfl : i = 32 := Nat.le_antisymm hi hge
        have hmd := HMD.out wr (Keep.refl _ _)
        unfold ptrTo at hmd
        go_wp2_with fail
        refine hmd.mono ?_
        rintro e W ⟨v2, rfl, ho, hkk⟩
        obtain ⟨a2, c2, rfl⟩ := own_shape ho
        go_wp2_with fail
        go_ret
        exact ⟨rfl, HKE.out W hkk⟩
  · obtain rfl : er = 50 := he
    have hTRz : TR = #[.int .i64 0, .int .i64 0, .int .i64 0, .int .i64 0, .int .i64 0, .int .i64 0, .int .i64 0, .int .i64 0, .int .i64 0, .int .i64 0, .int .i64 0, .int .i64 0, .int .i64 0, .int .i64 0, .int .i64 0, .int .i64 0, .int .i64 0, .int .i64 0, .int .i64 0, .int .i64 0, .int .i64 0, .int .i64 0, .int .i64 0, .int .i64 0, .int .i64 0, .int .i64 0, .int .i64 0, .int .i64 0, .int .i64 0, .int .i64 0, .int .i64 0, .int .i64 0] := by rw [HTR.out, hx]; rfl
    rw [hTRz] at hBf
    clear hns hx hTRz hmd bi2 hL2 hk2 hto hkend hRw HTR
    go_wp2_with (first | (with_reducible refine wl_ld rfl _ 30 rfl _ rfl ?_) | (with_reducible refine wl_eqg (by with_unfolding_all rfl) _ _ 30 _ rfl _ rfl rfl ?_))
    refine rg_ld hBf Tryd.underlying30 rfl (by kernel_rfl) ?_
    go_wp2_with (first | (with_reducible refine wl_ld rfl _ 30 rfl _ rfl ?_) | (with_reducible refine wl_eqg (by with_unfolding_all rfl) _ _ 30 _ rfl _ rfl rfl ?_))
    refine ⟨by kernel_rfl, run_equalIn_ints 9998 30 3 32 .i64 Tryd.underlying30 Tryd.underlying3 (fun w => by kernel_rfl) _ _ (fun i hi => ⟨0, ?_⟩), ?_⟩
    · have e : (#[.int .i64 0, .int .i64 0, .int .i64 0, .int .i64 0, .int .i64 0, .int .i64 0, .int .i64 0, .int .i64 0, .int .i64 0, .int .i64 0, .int .i64 0, .int .i64 0, .int .i64 0, .int .i64 0, .int .i64 0, .int .i64 0, .int .i64 0, .int .i64 0, .int .i64 0, .int .i64 0, .int .i64 0, .int .i64 0, .int .i64 0, .int .i64 0, .int .i64 0, .int .i64 0, .int .i64 0, .int .i64 0, .int .i64 0, .int .i64 0, .int .i64 0, .int .i64 0] : Array Value) = (List.replicate 32 (.int .i64 0)).toArray := rfl
      rw [e, List.getElem?_toArray, List.getElem?_replicate, if_pos hi]
    have hmd := HMD.out wx (Keep.refl _ _)
    unfold ptrTo at hmd
    go_wp2_with fail
    refine hmd.mono ?_
    rintro e W ⟨v2, rfl, ho, hkk⟩
    obtain ⟨a2, c2, rfl⟩ := own_shape ho
    go_wp2_with fail
    go_ret
    exact ⟨rfl, HKE.out W hkk⟩
end
end Go.Proofs.YthfekjnekaecaaaDoor
namespace Go.Dm.Vm
open Go Go.Proofs.YthfekjnekaecaaaDoor Go.Dm.Oc

/-- a page in the place of its like, or where it belongs: the rest of the list, and whether it was put -/
def withP (p : Pg) : V → Bool → V
  | [], true => []
  | [], false => [p]
  | q :: r, put => (if !put && decide (p.addr ≤ q.addr) then [p] else []) ++ ((if q.addr ≠ p.addr then [q] else []) ++ withP p r (put || decide (p.addr ≤ q.addr)))
theorem withP_done {p : Pg} {m : V} (h : ∀ q ∈ m, q.addr ≠ p.addr) : withP p m true = m := by
  induction m with
  | nil => rfl
  | cons q r ih =>
    simp only [withP, Bool.not_true, Bool.false_and, Bool.false_eq_true, if_false, List.nil_append, Bool.true_or]
    rw [if_pos (h q (List.mem_cons_self ..)), ih fun x hx => h x (List.mem_cons_of_mem _ hx)]
    rfl
theorem withP_new {p : Pg} {m : V} (hs : m.Pairwise (fun p q => p.addr < q.addr)) (h : ∀ q ∈ m, q.addr ≠ p.addr) : withP p m false = insP p m := by
  induction m with
  | nil => rfl
  | cons q r ih =>
    rw [List.pairwise_cons] at hs
    have hq := h q (List.mem_cons_self ..)
    have hr : ∀ x ∈ r, x.addr ≠ p.addr := fun x hx => h x (List.mem_cons_of_mem _ hx)
    unfold withP insP
    rw [if_pos hq]
    by_cases hlt : p.addr < q.addr
    · have hle : p.addr ≤ q.addr := by omega
      simp only [hle, hlt, decide_true, Bool.not_false, Bool.and_self, if_true, Bool.or_true, withP_done hr]
      rfl
    · have hle : ¬ p.addr ≤ q.addr := by omega
      simp only [hle, hlt, decide_false, Bool.not_false, Bool.and_false, Bool.false_eq_true, if_false, Bool.or_false, List.nil_append, ih hs.2 hr]
      rfl
theorem withP_upd {p : Pg} {m : V} (hs : m.Pairwise (fun p q => p.addr < q.addr)) (h : ∃ q ∈ m, q.addr = p.addr) : withP p m false = upd m p.addr (fun _ => p) := by
  induction m with
  | nil => obtain ⟨_, h, _⟩ := h; cases h
  | cons q r ih =>
    rw [List.pairwise_cons] at hs
    unfold withP upd
    by_cases hq : q.addr = p.addr
    · have hr : ∀ x ∈ r, x.addr ≠ p.addr := fun x hx => by have := hs.1 x hx; omega
      have hle : p.addr ≤ q.addr := by omega
      simp only [hle, decide_true, Bool.not_false, Bool.and_self, if_true, Bool.or_true, withP_done hr, List.map_cons]
      rw [if_pos hq, if_neg (by simpa using hq)]
      show p :: r = p :: _
      congr 1
      conv => lhs; rw [← List.map_id r]
      apply List.map_congr_left
      intro x hx
      rw [if_neg (hr x hx)]
      rfl
    · obtain ⟨x, hx, ex⟩ := h
      have hxr : x ∈ r := (List.mem_cons.1 hx).resolve_left fun e => hq (e ▸ ex)
      have hle : ¬ p.addr ≤ q.addr := by have := hs.1 x hxr; omega
      have := ih hs.2 ⟨x, hxr, ex⟩
      unfold upd at this
      simp only [hle, decide_false, Bool.not_false, Bool.and_false, Bool.false_eq_true, if_false, Bool.or_false, List.nil_append, this, List.map_cons]
      rw [if_pos hq, if_neg hq]
      rfl
theorem upd_upd (m : V) (a : Nat) {g1 g2 : Pg → Pg} (h1 : ∀ p, (g1 p).addr = p.addr) : upd (upd m a g1) a g2 = upd m a (fun p => g2 (g1 p)) := by
  unfold upd
  rw [List.map_map]
  apply List.map_congr_left
  intro p _
  simp only [Function.comp]
  by_cases e : p.addr = a
  · rw [if_pos e, if_pos (by rw [h1]; exact e), if_pos e]
  · rw [if_neg e, if_neg e, if_neg e]
theorem upd_id (m : V) (a : Nat) {g : Pg → Pg} (h : ∀ p ∈ m, p.addr = a → g p = p) : upd m a g = m := by
  unfold upd
  conv => rhs; rw [← List.map_id m]
  apply List.map_congr_left
  intro p hp
  split
  · rename_i e; exact h p hp e
  · rfl
theorem setB_upd (m : V) (a : Nat) (c : UInt8) : setB m a c = upd m (pageOf a) (fun p => { p with b := p.b.set (a % 256) c }) := rfl
/-- bytes within one page -/
theorem writeB_page (m : V) (a : Nat) (c : List UInt8) (h : a % 256 + c.length ≤ 256) : writeB m a c = upd m (pageOf a) (fun p => { p with b := setR p.b (a % 256) c }) := by
  induction c generalizing m a with
  | nil => exact (upd_id m _ fun p _ _ => rfl).symm
  | cons x r ih =>
    rw [List.length_cons] at h
    unfold writeB
    cases r with
    | nil => rw [setB_upd]; rfl
    | cons y t =>
      rw [List.length_cons] at h
      have e1 : pageOf (a + 1) = pageOf a := by unfold pageOf; omega
      have e2 : (a + 1) % 256 = a % 256 + 1 := by omega
      rw [ih _ (a + 1) (by rw [e2, List.length_cons]; omega), e1, e2, setB_upd, upd_upd]
      · rfl
      · intro p; rfl
theorem writeB_append (m : V) (a : Nat) (b c : List UInt8) : writeB m a (b ++ c) = writeB (writeB m a b) (a + b.length) c := by
  induction b generalizing m a with
  | nil => rfl
  | cons x r ih =>
    show writeB (setB m a x) (a + 1) (r ++ c) = writeB (writeB (setB m a x) (a + 1) r) (a + (r.length + 1)) c
    rw [ih, show a + 1 + r.length = a + (r.length + 1) by omega]
end Go.Dm.Vm
namespace Go.Dm.Vm
open Go Go.Proofs.YthfekjnekaecaaaDoor Go.Dm.Oc

/-- all pages from lo up to hi are there, and that may be done with them -/
def Full (m : V) (lo hi prot : Nat) : Prop := ∀ x, x % 256 = 0 → lo ≤ x → x < hi → ∃ p, pageAt m x = some p ∧ p.prot = prot
theorem Full.there {m : V} {lo hi prot a n : Nat} (h : Full m lo hi prot) (hlo : lo % 256 = 0) (h1 : lo ≤ a) (h2 : a + n ≤ hi) (hn : 0 < n) : there m a n = true := by
  rw [there_take]
  intro k hk
  have := (pages_step a n k hn).2 hk
  obtain ⟨p, hp, _⟩ := h (pageOf a + 256 * k) (by unfold pageOf; omega) (by unfold pageOf; omega) (by omega)
  rw [hp]; rfl
theorem Full.held {m : V} {lo hi prot a n : Nat} (h : Full m lo hi prot) (hlo : lo % 256 = 0) (h1 : lo ≤ a) (h2 : a + n ≤ hi) (hn : 0 < n) (hh : hi ≤ top) (hs : n ≤ 131328) : heldE m a n = 0 := by
  unfold heldE
  rw [if_neg (by omega), if_pos (h.there hlo h1 h2 hn)]
theorem Full.allowed {m : V} {lo hi prot a n what : Nat} (h : Full m lo hi prot) (hlo : lo % 256 = 0) (h1 : lo ≤ a) (h2 : a + n ≤ hi) (hn : 0 < n) (hp : prot &&& what ≠ 0) : allowedE m a n what = 0 := by
  unfold allowedE
  rw [if_pos]
  unfold pagesOf
  rw [List.all_eq_true]
  intro x hx
  obtain ⟨k, hk, rfl⟩ := List.mem_map.1 hx
  have := (pages_step a n k hn).2 (List.mem_range.1 hk)
  obtain ⟨p, hpp, hpr⟩ := h (pageOf a + 256 * k) (by unfold pageOf; omega) (by unfold pageOf; omega) (by omega)
  unfold allow1E
  rw [hpp]
  simp only [hpr]
  rw [if_neg hp]
  rfl
theorem Full.num {m : V} {lo hi prot a what : Nat} {n : Int} (h : Full m lo hi prot) (hlo : lo % 256 = 0) (hw : n = 1 ∨ n = 2 ∨ n = 4 ∨ n = 8) (h1 : lo ≤ a) (h2 : a + n.toNat ≤ hi) (hh : hi ≤ top) (hp : prot &&& what ≠ 0) : numE m a n what = 0 := by
  unfold numE
  rw [if_pos hw, if_pos (h.held hlo h1 h2 (by omega) hh (by omega))]
  exact h.allowed hlo h1 h2 (by omega) hp
theorem Full.upd {m : V} {lo hi prot a : Nat} {g : Pg → Pg} (h : Full m lo hi prot) (hg : ∀ p, (g p).addr = p.addr) (hp : ∀ p, (g p).prot = p.prot) : Full (upd m a g) lo hi prot := by
  intro x h1 h2 h3
  obtain ⟨p, hpp, hpr⟩ := h x h1 h2 h3
  refine ⟨_, by rw [pageAt_upd m hg, hpp]; rfl, ?_⟩
  show (if p.addr = a then g p else p).prot = prot
  split
  · rw [hp, hpr]
  · exact hpr
theorem Full.updN {m : V} {lo hi prot a k : Nat} {g : Pg → Pg} (h : Full m lo hi prot) (hg : ∀ p, (g p).addr = p.addr) (hp : ∀ p, (g p).prot = p.prot) : Full (updN g m a k) lo hi prot := by
  induction k with
  | zero => exact h
  | succ k ih => exact ih.upd hg hp
theorem Full.write {m : V} {lo hi prot : Nat} (h : Full m lo hi prot) (a : Nat) (b : List UInt8) : Full (writeB m a b) lo hi prot := by
  induction b generalizing m a with
  | nil => exact h
  | cons c r ih => exact ih (Full.upd (g := fun p => { p with b := p.b.set (a % 256) c }) h (fun _ => rfl) (fun _ => rfl)) (a + 1)
theorem Full.store {m : V} {lo hi prot : Nat} (h : Full m lo hi prot) (a : Nat) (n : Int) (x : Nat) : Full (storeV m a n x) lo hi prot := by
  unfold storeV
  split
  · exact (h.write _ _).updN (g := dirt) (fun _ => rfl) (fun _ => rfl)
  · exact h
theorem byteAt_upd {m : V} {a y : Nat} {g : Pg → Pg} (hg : ∀ p, (g p).addr = p.addr) (hb : ∀ p, (g p).b = p.b) : byteAt (upd m a g) y = byteAt m y := by
  unfold byteAt
  rw [pageAt_upd m hg]
  cases pageAt m (pageOf y) with
  | none => rfl
  | some p =>
    simp only [Option.map_some]
    split
    · rw [hb]
    · rfl
theorem byteAt_updN {m : V} {a y k : Nat} {g : Pg → Pg} (hg : ∀ p, (g p).addr = p.addr) (hb : ∀ p, (g p).b = p.b) : byteAt (updN g m a k) y = byteAt m y := by
  induction k with
  | zero => rfl
  | succ k ih => unfold updN; rw [byteAt_upd hg hb, ih]
theorem byteAt_setB {m : V} {a y : Nat} {c : UInt8} (ho : Ok m) (hp : ∃ p, pageAt m (pageOf a) = some p) : byteAt (setB m a c) y = if y = a then c else byteAt m y := by
  unfold byteAt
  rw [pageAt_setB]
  by_cases hpg : pageOf y = pageOf a
  · obtain ⟨p, hp⟩ := hp
    rw [hpg, hp]
    obtain ⟨hpm, hpa⟩ := get_mem hp
    have hl := (ho.pg p hpm).bl
    simp only [Option.map_some]
    rw [if_pos hpa]
    simp only
    by_cases e : y = a
    · subst e
      rw [if_pos rfl, List.getD_eq_getElem?_getD, List.getElem?_set_self (by rw [hl]; exact Nat.mod_lt _ (by decide))]
      rfl
    · rw [if_neg e, List.getD_eq_getElem?_getD, List.getElem?_set_ne (by unfold pageOf at hpg; omega), List.getD_eq_getElem?_getD]
  · rw [if_neg (fun e => hpg (by rw [e]))]
    cases hq : pageAt m (pageOf y) with
    | none => rfl
    | some p =>
      simp only [Option.map_some]
      rw [if_neg (by rw [(get_mem hq).2]; exact hpg)]
theorem byteAt_writeB {m : V} (b : List UInt8) (ho : Ok m) (a y : Nat) (ht : ∀ i, i < b.length → ∃ p, pageAt m (pageOf (a + i)) = some p) : byteAt (writeB m a b) y = if a ≤ y ∧ y < a + b.length then b.getD (y - a) 0 else byteAt m y := by
  induction b generalizing m a with
  | nil => rw [if_neg (by rw [List.length_nil]; omega)]; rfl
  | cons c r ih =>
    have h0 := ht 0 (by simp)
    rw [Nat.add_zero] at h0
    show byteAt (writeB (setB m a c) (a + 1) r) y = _
    rw [ih (setB_ok ho a c) (a + 1) fun i hi => ?_, byteAt_setB ho h0]
    · rw [List.length_cons]
      by_cases e : y = a
      · subst e
        rw [if_neg (by omega), if_pos rfl, if_pos (by omega), Nat.sub_self]
        rfl
      · rw [if_neg e]
        by_cases h : a + 1 ≤ y ∧ y < a + 1 + r.length
        · rw [if_pos h, if_pos (by omega), show y - a = (y - (a + 1)) + 1 by omega]
          rfl
        · rw [if_neg h, if_neg (by omega)]
    · obtain ⟨p, hp⟩ := ht (i + 1) (by simpa using hi)
      rw [show a + 1 + i = a + (i + 1) by omega]
      exact ⟨_, by rw [pageAt_setB, hp]; rfl⟩
/-- what is stored is loaded -/
theorem read_store {m : V} (ho : Ok m) {a : Nat} {n : Int} {x : Nat} (hE : numE m a n 2 = 0) (y k : Nat) : readB (storeV m a n x) y k = (List.range k).map fun i => if a ≤ y + i ∧ y + i < a + n.toNat then (le n.toNat x).getD (y + i - a) 0 else byteAt m (y + i) := by
  unfold readB
  apply List.map_congr_left
  intro i _
  unfold storeV
  rw [if_pos hE, byteAt_updN (g := dirt) (fun _ => rfl) (fun _ => rfl), byteAt_writeB _ ho, le_len]
  intro j hj
  rw [le_len] at hj
  have hp : heldE m a n.toNat = 0 := by
    unfold numE at hE
    split at hE
    · split at hE
      · assumption
      · rename_i h; exact absurd hE h
    · cases hE
  exact there_at (held_parts hp).2.2.2 hj
theorem load_store {m : V} (ho : Ok m) {a : Nat} {n : Int} {x : Nat} (hE : numE m a n 2 = 0) (hL : numE (storeV m a n x) a n 4 = 0) : loadX (storeV m a n x) a n = x % 256 ^ n.toNat := by
  unfold loadX
  rw [if_pos (show loadE (storeV m a n x) a n = 0 from hL), read_store ho hE]
  have e : ((List.range n.toNat).map fun i => if a ≤ a + i ∧ a + i < a + n.toNat then (le n.toNat x).getD (a + i - a) 0 else byteAt m (a + i)) = le n.toNat x := by
    apply List.ext_getElem
    · rw [List.length_map, List.length_range, le_len]
    · intro i h1 h2
      rw [List.length_map, List.length_range] at h1
      rw [List.getElem_map, List.getElem_range, if_pos (by omega), Nat.add_sub_cancel_left, List.getD_eq_getElem?_getD, List.getElem?_eq_getElem h2]
      rfl
  rw [e, leN_le]
theorem dirt_ok' (p : Pg) (h : PgOk p) : PgOk (dirt p) := ⟨h.al, h.lt, h.pr, h.bl, h.ol, h.fl⟩
theorem store_ok {m : V} (ho : Ok m) (a : Nat) (n : Int) (x : Nat) : Ok (storeV m a n x) := by
  unfold storeV
  split
  · exact updN_ok (g := dirt) (writeB_ok ho _ _) (fun _ => rfl) dirt_ok' _ _
  · exact ho
theorem read_write {m : V} (ho : Ok m) {a : Nat} {b : List UInt8} (hh : heldE m a b.length = 0) : readB (writeB m a b) a b.length = b := by
  unfold readB
  apply List.ext_getElem
  · rw [List.length_map, List.length_range]
  · intro i h1 h2
    rw [List.length_map, List.length_range] at h1
    rw [List.getElem_map, List.getElem_range, byteAt_writeB b ho a (a + i) (fun j hj => there_at (held_parts hh).2.2.2 hj), if_pos (by omega), Nat.add_sub_cancel_left, List.getD_eq_getElem?_getD, List.getElem?_eq_getElem h2]
    rfl
end Go.Dm.Vm
namespace Go.Proofs.YthfekjnekaecaaaDoor
open Go.RowKit Go.Dm Go.Dm.Vm Go.Maps Go.Dm.Oc

/-- a page as the document has it -/
def encS (p : Pg) : List Value := [.int .u64 (p.addr : Int), .int .i64 (p.prot : Int), .bool p.dirty, .string ⟨p.file.toArray⟩, .int .u64 (p.off : Int), .string ⟨p.b.toArray⟩]
theorem encS_len (p : Pg) : (encS p).length = 6 := rfl
theorem encS_one (p : Pg) : ∀ u ∈ encS p, u.oneCell' = true := by
  intro u hu
  simp only [encS, List.mem_cons, List.not_mem_nil, or_false] at hu
  rcases hu with rfl | rfl | rfl | rfl | rfl | rfl <;> rfl
theorem rvP_info : (Tryd.prog.info? 103).map (fun i => (i.zero, i.size, i.bytes)) = some (some (.agg #[.int .u64 0, .int .i64 0, .bool false, .string ⟨#[]⟩, .int .u64 0, .string ⟨#[]⟩]), 6, 64) := by kernel_rfl
section
variable {α : Type} {w : World} {k : Nat} {enc : α → List Value} {v : Value} {l : List α} {base : Nat} {e : TypeId} {P : Program}
theorem rg_pushD (nd : Nat) (z : Value) (bytes : Nat) {t ty : TypeId} (ht : P.underlying t = some (.slice e)) (hi : (P.info? e).map (fun i => (i.zero, i.size, i.bytes)) = some (some z, k, bytes)) (hzs : z.cells.size = k) (hk0 : 0 < k)
    {x : α} {cs : Array Value} (hcs : cs.toList = enc x) (hx : (enc x).length = k) (hone : ∀ u ∈ enc x, u.oneCell' = true) (ho : FlO w base e k enc v l) (hlen : l.length + 1 ≤ 1099511627776) (hb : bytes ≤ 128) (hbase : base ≤ w.heap.size) {K : Value → World → Prop}
    (h : ∀ v' w', FlO w' base e k enc v' (l ++ [x]) → Keep (fun j => some j = v.ownBlock) w w' → K v' w') : AppendGoal P t t ty v (.slice (some ⟨w.heap.size, 0, none⟩) 1 1) ((w.drewN nd).alloc (.cells cs e)) K :=
  rg_push (w := w.drewN nd) z bytes ht hi hzs hk0 hcs hx hone ho hlen hb hbase fun v' w' h1 h2 _ => h v' w' h1 (((Keep.refl (fun j => some j = v.ownBlock) w).drewN nd).trans' h2)
end
section
variable {A : Nat → Prop} {w : World} {m : V} {v : Value}
set_option maxRecDepth 100000 in
set_option maxHeartbeats 2000000 in
theorem rvfind_any (a : Nat) (ha : a < 18446744073709551616) (h : Fl A w 6 encS v m) (hl : m.length ≤ 1099511627776) (hpa : ∀ p ∈ m, p.addr < 18446744073709551616) :
    Calls Tryd.prog 61 #[.agg #[v], .int .u64 (a : Int)] w fun e w' => ∃ r : Int, e = .returned (.int .i64 r) ∧ ((r = -1 ∧ ∀ p ∈ m, p.addr ≠ pageOf a) ∨ ∃ (i : Nat) (hi : i < m.length), r = i ∧ m[i].addr = pageOf a) ∧ Keep No w w' := by
  obtain ⟨av, cv, rfl, _, _⟩ := h.shape
  have hq : (a : Int).tdiv 256 = ((a / 256 : Nat) : Int) := by rw [Int.tdiv_eq_ediv_of_nonneg (by omega)]; omega
  have hpo : ((a / 256 : Nat) : Int) * 256 = ((pageOf a : Nat) : Int) := by unfold pageOf; omega
  have hpb : ((pageOf a : Nat) : Int) < 18446744073709551616 := by have := pageOf_le a; omega
  generalize a / 256 = q at *
  generalize pageOf a = pa at *
  go_enter Tryd.func61, Tryd.ntmps61
  go_wp2_with fail
  have hkW : Keep No w (w.alloc (.cells #[.slice av m.length cv] 59)) := (Keep.refl _ _).alloc _
  have hBW : Blk (w.alloc (.cells #[.slice av m.length cv] 59)) w.heap.size #[.slice av m.length cv] 59 := Blk.new _ _ _
  have hzW : (w.alloc (.cells #[.slice av m.length cv] 59)).heap.size = w.heap.size + 1 := World.size_alloc _ _
  generalize w.alloc (.cells #[.slice av m.length cv] 59) = W at *
  have q0 : W.cell? ⟨w.heap.size, 0, none⟩ = some (.slice av m.length cv) := hBW.cell 0
  go_wp2_with fail
  go_loopw [5] (fun iv wr => ∃ i : Nat, iv = .int .i64 i ∧ i ≤ m.length ∧ (∀ j (hj : j < m.length), j < i → m[j].addr ≠ pa) ∧ wr = W) (fun iv _ => m.length - (intOf iv).toNat)
  case atStart => exact ⟨0, rfl, Nat.zero_le _, fun j _ hj => absurd hj (Nat.not_lt_zero _), rfl⟩
  case round =>
    obtain ⟨i, rfl, hi, hno, rfl⟩ := hrel
    rcases Nat.lt_or_ge i m.length with hlt | hge
    · obtain ⟨g, off, cap, e, _, _, _, _, hc⟩ := (h.no hkW).at encS_len hlt
      cases e
      have c0 := hc 0 _ rfl
      rw [Nat.add_zero] at c0
      have hiz : (i : Int) < (m.length : Int) := by omega
      have hno2 : m[i].addr ≠ pa → ∀ j (hj : j < m.length), j < i + 1 → m[j].addr ≠ pa := fun h j hj hji => by
        rcases Nat.lt_or_ge j i with h2 | h2
        · exact hno j hj h2
        · obtain rfl : j = i := by omega
          exact h
      have hfin : m[i].addr = pa → ∃ (k : Nat) (hk : k < m.length), (i : Int) = k ∧ m[k].addr = pa := fun h => ⟨i, hlt, rfl, h⟩
      have HF := Lib.hid hfin
      have HN := Lib.hid hno2
      have hab := hpa m[i] (List.getElem_mem hlt)
      clear hc hno hfin hno2
      generalize m[i].addr = x at *
      by_cases e : x = pa
      · subst e
        go_wp2_with fail
        go_ret
        obtain ⟨k, hk, e1, e2⟩ := HF.out (by trivial)
        exact ⟨_, rfl, .inr ⟨k, e1, hk, e2⟩, hkW⟩
      · have i1 : ((x : Int) == (pa : Int)) = false := by simp; omega
        go_wp2_with fail
        go_roundw
        case rel => exact ⟨i + 1, by go_num, hlt, HN.out e, trivial⟩
        case measure => simp [intOf]; omega
    · obtain rfl : i = m.length := Nat.le_antisymm hi hge
      go_wp2_with fail
      go_ret
      exact ⟨_, rfl, .inl ⟨rfl, fun p hp => by obtain ⟨j, hj, rfl⟩ := List.getElem_of_mem hp; exact hno j hj hj⟩, hkW⟩
end
end Go.Proofs.YthfekjnekaecaaaDoor
