/- Encoding any fields; is one of the tags wrong; the built cells of a step. A struct of numbers is itself: ==, != of one value; guarded loads of a whole block. What an instruction makes of tags (Step). No condition. -/
import Derived.Test.YthfekjnekaecaaaDoorTg8
import Derived.Test.YthfekjnekaecaaaDoorSortK
import Derived.Laws.StructEq
import Derived.Laws.Tables
set_option linter.unusedVariables false
set_option linter.unusedSimpArgs false
namespace Go.Proofs.YthfekjnekaecaaaDoor
open Go.RowKit Go.Dm Go.Dm.Vm Go.Dm.Cp Go.Dm.Tg Go.Maps
section
variable {A B S : Nat → Prop} {w w' : World} {d mb x : Nat} {v : Value} {L : Lg}
set_option maxRecDepth 100000 in
set_option maxHeartbeats 4000000 in
theorem isaencE_any (op a b c imm : Int) (h1 : -2147483648 ≤ imm) (h2 : imm ≤ 2147483647) (hT : Tabs w) :
    Calls Tryd.prog 25 #[.agg #[.int .i64 op, .int .i64 a, .int .i64 b, .int .i64 c, .int .i32 imm]] w fun e w' => (∃ x : Int, e = .returned (.tuple #[.int .u64 x, .int .i64 ((if mayF op a b c imm then 0 else 42 : Nat) : Int)])) ∧ Keep No w w' := by
  cases hmf : mayF op a b c imm with
  | true =>
    obtain ⟨ho, ha, hb, hc⟩ := may_op hmf
    have ho2 : 1 ≤ op ∧ op ≤ 41 := by
      unfold isOp at ho
      simp at ho
      omega
    obtain ⟨op, rfl⟩ : ∃ n : Nat, op = (n : Int) := ⟨op.toNat, by omega⟩
    obtain ⟨a, rfl⟩ : ∃ n : Nat, a = (n : Int) := ⟨a.toNat, by omega⟩
    obtain ⟨b, rfl⟩ : ∃ n : Nat, b = (n : Int) := ⟨b.toNat, by omega⟩
    obtain ⟨c, rfl⟩ : ∃ n : Nat, c = (n : Int) := ⟨c.toNat, by omega⟩
    refine (isaenc_any op a b c imm (by omega) (by omega) (by omega) (by omega) h1 h2 hT).mono ?_
    rintro e w' ⟨rfl, hk⟩
    rw [hmf]
    exact ⟨⟨_, rfl⟩, hk⟩
  | false =>
    have hmy := fun (W : World) (hk : Keep No w W) => isamay_any (w := W) op a b c imm h1 h2 (hT.no hk)
    rw [hmf] at hmy
    have HM := Lib.hid hmy
    clear hmy hT hmf
    go_enter Tryd.func25, Tryd.ntmps25
    go_wp2_with fail
    have hkW : Keep No w (w.alloc (.cells #[.int .i64 op, .int .i64 a, .int .i64 b, .int .i64 c, .int .i32 imm] 37)) := (Keep.refl _ _).alloc _
    have hBW : Blk (w.alloc (.cells #[.int .i64 op, .int .i64 a, .int .i64 b, .int .i64 c, .int .i32 imm] 37)) w.heap.size #[.int .i64 op, .int .i64 a, .int .i64 b, .int .i64 c, .int .i32 imm] 37 := Blk.new _ _ _
    have hzW : (w.alloc (.cells #[.int .i64 op, .int .i64 a, .int .i64 b, .int .i64 c, .int .i32 imm] 37)).heap.size = w.heap.size + 1 := World.size_alloc _ _
    generalize w.alloc (.cells #[.int .i64 op, .int .i64 a, .int .i64 b, .int .i64 c, .int .i32 imm] 37) = W at *
    have hml := HM.out W hkW
    have q0 : W.cell? ⟨w.heap.size, 0, none⟩ = some (.int .i64 op) := hBW.cell 0
    have q1 : W.cell? ⟨w.heap.size, 1, none⟩ = some (.int .i64 a) := hBW.cell 1
    have q2 : W.cell? ⟨w.heap.size, 2, none⟩ = some (.int .i64 b) := hBW.cell 2
    have q3 : W.cell? ⟨w.heap.size, 3, none⟩ = some (.int .i64 c) := hBW.cell 3
    have q4 : W.cell? ⟨w.heap.size, 4, none⟩ = some (.int .i32 imm) := hBW.cell 4
    go_wp2_with fail
    refine hml.mono ?_
    rintro e w2 ⟨⟨x, y, z, rfl⟩, hk2⟩
    have hkw2 := hkW.trans' hk2
    clear hml q0 q1 q2 q3 q4
    go_wp2_with (with_reducible refine wl_stAgg rfl _ _ _ rfl _ _ rfl rfl ?_)
    have hka := (Keep.refl No w2).alloc (.cells #[.int .i64 0, .string ⟨#[]⟩, .string ⟨#[]⟩] 108)
    refine rg_stAgg (Blk.new _ _ _) (by kernel_rfl) (by rfl) (by simp [Value.oneCell']) ?_
    intro w3 hB3 hk3 hs3
    have hk23 : Keep No w2 w3 := hka.trans hk3 fun j hj e => absurd hj (by have e2 : j = w2.heap.size := e; omega)
    have hkw3 := hkw2.trans' hk23
    clear hka hk3 hs3
    go_wp2_with fail
    go_ret2
    exact ⟨⟨_, rfl⟩, hkw3⟩
set_option maxHeartbeats 1000000 in
theorem tstep1_any (z : Int) (y : Nat) (hy : w.cell? ⟨y, 0, none⟩ = some (ptrTo d)) (h : LRep A w d L v mb) :
    Calls Tryd.prog 24 #[.int .i64 z, .pointer (some ⟨y, 0, none⟩)] w fun e w' => e = .returned (.bool (wrongM L z)) ∧ w = w' := by
  have q0 : w.cell? ⟨d, 0, none⟩ = some v := h.blk.cell 0
  obtain ⟨ao, co, rfl, _, _⟩ := h.ms.shape
  have hw : wrongM L z = decide (z < 0 ∨ (L.m.length : Int) < z) := rfl
  rw [hw]
  clear h hw
  generalize L.m.length = n at *
  unfold ptrTo at hy
  by_cases h1 : z < 0
  · rw [decide_eq_true (.inl h1)]
    go_enter Tryd.func24, Tryd.ntmps24
    go_wp2_with fail
    go_ret
    exact ⟨rfl, rfl⟩
  · by_cases h2 : z > (n : Int)
    · rw [decide_eq_true (.inr h2)]
      go_enter Tryd.func24, Tryd.ntmps24
      go_wp2_with fail
      go_ret
      exact ⟨rfl, rfl⟩
    · rw [decide_eq_false (by omega)]
      go_enter Tryd.func24, Tryd.ntmps24
      go_wp2_with fail
      go_ret
      exact ⟨rfl, rfl⟩
set_option maxRecDepth 100000 in
set_option maxHeartbeats 4000000 in
theorem idxint_any {u : Value} (t : List Int) (y : Nat) (hl : Fl B w 1 (fun x => [it x]) u t) (hlen : t.length ≤ 1048576) (hy : w.cell? ⟨y, 0, none⟩ = some (ptrTo d)) (h : LRep A w d L v mb) :
    Calls Tryd.prog 47 #[u, .func (.func 24) #[] #[.pointer (some ⟨y, 0, none⟩)]] w fun e w' => (∃ r : Int, e = .returned (.int .i64 r) ∧ decide (r ≥ 0) = t.any (wrongM L)) ∧ w' = w := by
  have hent : ∀ a, Enters 24 (#[a] ++ #[.pointer (some ⟨y, 0, none⟩)]) := fun a w => by kernel_rfl
  unfold Enters at hent
  have HL := Lib.hid hl
  have hcal := fun z => tstep1_any (w := w) z y hy h
  have HC := Lib.hid hcal
  obtain ⟨ao, co, rfl, hc1, hc2⟩ := hl.shape
  clear hl hcal h hy
  go_enter Tryd.func47, Tryd.ntmps47
  go_wp2_with fail
  go_loopw [5, 8] (fun _ iv wr => ∃ i : Nat, iv = .int .i64 i ∧ i ≤ t.length ∧ (∀ j, j < i → ∀ z, t[j]? = some z → wrongM L z = false) ∧ wr = w) (fun _ iv _ => t.length - (intOf iv).toNat)
  case atStart => exact ⟨0, rfl, Nat.zero_le _, (fun j hj => absurd hj (Nat.not_lt_zero _)), rfl⟩
  case round =>
    obtain ⟨i, rfl, hi, hno, rfl⟩ := hrel
    rcases Nat.lt_or_ge i t.length with hlt | hge
    · obtain ⟨g, off, cap, ev, _, _, _, _, hc⟩ := HL.out.at (fun _ => rfl) hlt
      cases ev
      have hiz : (i : Int) < (t.length : Int) := by omega
      have hcall := HC.out t[i]
      have hfin : wrongM L t[i] = true → decide ((i : Int) ≥ 0) = t.any (wrongM L) := fun h => by
        rw [decide_eq_true (by omega), eq_comm, List.any_eq_true]
        exact ⟨_, List.getElem_mem hlt, h⟩
      have hno2 : wrongM L t[i] = false → ∀ j, j < i + 1 → ∀ z, t[j]? = some z → wrongM L z = false := fun h j hji z hz => by
        rcases Nat.lt_or_ge j i with h2 | h2
        · exact hno j h2 z hz
        · obtain rfl : j = i := by omega
          rw [List.getElem?_eq_getElem hlt] at hz
          cases hz
          exact h
      have HF := Lib.hid hfin
      have HN := Lib.hid hno2
      clear hno hfin hno2
      have c0 := hc 0 _ rfl
      rw [Nat.add_zero, Nat.mul_one] at c0
      unfold it at c0
      clear hc
      generalize wrongM L t[i] = b at *
      generalize t[i] = z at *
      go_wp2_with fail
      refine hcall.mono ?_
      rintro e w2 ⟨rfl, rfl⟩
      clear hcall c0
      cases b with
      | true =>
        go_wp2_with fail
        go_ret
        exact ⟨⟨_, rfl, HF.out trivial⟩, rfl⟩
      | false =>
        go_wp2_with fail
        go_roundw
        case rel => exact ⟨i + 1, by go_num, hlt, HN.out trivial, trivial⟩
        case measure => simp [intOf]; omega
    · obtain rfl : i = t.length := Nat.le_antisymm hi hge
      have hany : decide ((-1 : Int) ≥ 0) = t.any (wrongM L) := by
        rw [decide_eq_false (by decide), eq_comm, List.any_eq_false]
        intro z hz
        obtain ⟨j, hj, rfl⟩ := List.mem_iff_getElem.1 hz
        rw [hno j hj _ (List.getElem?_eq_getElem hj)]
        decide
      go_wp2_with fail
      go_ret
      exact ⟨⟨_, rfl, hany⟩, rfl⟩
set_option maxHeartbeats 1000000 in
theorem hasint_any {u : Value} (t : List Int) (y : Nat) (hl : Fl B w 1 (fun x => [it x]) u t) (hlen : t.length ≤ 1048576) (hy : w.cell? ⟨y, 0, none⟩ = some (ptrTo d)) (h : LRep A w d L v mb) :
    Calls Tryd.prog 26 #[u, .func (.func 24) #[] #[.pointer (some ⟨y, 0, none⟩)]] w fun e w' => e = .returned (.bool (t.any (wrongM L))) ∧ w' = w := by
  have hcal := idxint_any t y hl hlen hy h
  obtain ⟨ao, co, rfl, hc1, hc2⟩ := hl.shape
  clear hl hy h
  go_enter Tryd.func26, Tryd.ntmps26
  go_wp2_with fail
  refine hcal.mono ?_
  rintro e w2 ⟨⟨r, rfl, hr⟩, rfl⟩
  go_wp2_with fail
  go_ret
  rw [← hr]
  exact ⟨rfl, rfl⟩
theorem built_stp0 (v0 v1 v2 v3 v4 v5 v6 v7 v8 v9 v10 v11 v12 v13 v14 v15 v16 v17 v18 v19 v20 v21 v22 v23 v24 v25 v26 v27 v28 v29 v30 v31 y0 y1 y2 y3 y4 y5 y6 y7 y8 y9 y10 y11 y12 y13 y14 y15 y16 y17 y18 y19 y20 y21 y22 y23 y24 y25 y26 y27 y28 y29 y30 y31 y32 y33: Value) (p q : Option Addr) (op a b c imm own : Int) : Tryd.prog.built 78 [(0, .pointer p), (1, .agg #[v0, v1, v2, v3, v4, v5, v6, v7, v8, v9, v10, v11, v12, v13, v14, v15, v16, v17, v18, v19, v20, v21, v22, v23, v24, v25, v26, v27, v28, v29, v30, v31]), (2, .agg #[y0, y1, y2, y3, y4, y5, y6, y7, y8, y9, y10, y11, y12, y13, y14, y15, y16, y17, y18, y19, y20, y21, y22, y23, y24, y25, y26, y27, y28, y29, y30, y31, y32, y33]), (3, .agg #[.int .i64 op, .int .i64 a, .int .i64 b, .int .i64 c, .int .i32 imm]), (4, .int .i64 own), (5, .pointer q)] = some #[.pointer p, v0, v1, v2, v3, v4, v5, v6, v7, v8, v9, v10, v11, v12, v13, v14, v15, v16, v17, v18, v19, v20, v21, v22, v23, v24, v25, v26, v27, v28, v29, v30, v31, y0, y1, y2, y3, y4, y5, y6, y7, y8, y9, y10, y11, y12, y13, y14, y15, y16, y17, y18, y19, y20, y21, y22, y23, y24, y25, y26, y27, y28, y29, y30, y31, y32, y33, .int .i64 op, .int .i64 a, .int .i64 b, .int .i64 c, .int .i32 imm, .int .i64 own, .pointer q] := by kernel_rfl
theorem built_stp (l1 l2 : List Value) (h1 : l1.length = 32) (h2 : l2.length = 34) (p q : Option Addr) (op a b c imm own : Int) : Tryd.prog.built 78 [(0, .pointer p), (1, .agg l1.toArray), (2, .agg l2.toArray), (3, .agg #[.int .i64 op, .int .i64 a, .int .i64 b, .int .i64 c, .int .i32 imm]), (4, .int .i64 own), (5, .pointer q)] = some (.pointer p :: (l1 ++ (l2 ++ [.int .i64 op, .int .i64 a, .int .i64 b, .int .i64 c, .int .i32 imm, .int .i64 own, .pointer q]))).toArray :=
  match l1, h1 with
  | [v0, v1, v2, v3, v4, v5, v6, v7, v8, v9, v10, v11, v12, v13, v14, v15, v16, v17, v18, v19, v20, v21, v22, v23, v24, v25, v26, v27, v28, v29, v30, v31], _ => match l2, h2 with
    | y0 :: y1 :: y2 :: y3 :: y4 :: y5 :: y6 :: y7 :: y8 :: y9 :: y10 :: y11 :: y12 :: y13 :: y14 :: y15 :: y16 :: y17 :: y18 :: y19 :: y20 :: y21 :: y22 :: y23 :: y24 :: y25 :: y26 :: y27 :: y28 :: y29 :: y30 :: y31 :: y32 :: y33 :: [], _ => built_stp0 v0 v1 v2 v3 v4 v5 v6 v7 v8 v9 v10 v11 v12 v13 v14 v15 v16 v17 v18 v19 v20 v21 v22 v23 v24 v25 v26 v27 v28 v29 v30 v31 y0 y1 y2 y3 y4 y5 y6 y7 y8 y9 y10 y11 y12 y13 y14 y15 y16 y17 y18 y19 y20 y21 y22 y23 y24 y25 y26 y27 y28 y29 y30 y31 y32 y33 p q op a b c imm own
end
end Go.Proofs.YthfekjnekaecaaaDoor
namespace Go.Dm
open Go Go.RowKit
section
variable {P : Program}
theorem run_equalIn_ints (d : Nat) (t e : TypeId) (n : Nat) (k : IntKind) (ht : P.underlying t = some (.array n e)) (he : P.underlying e = some (.int k)) (hsz : ∀ w, (sizeOf e).run P w = .ok 1 w) (w : World)
    (xs : Array Value) (hx : ∀ i, i < n → ∃ z, xs[i]? = some (.int k z)) :
    (Op.equalIn (d + 2) t (.agg xs) (.agg xs)).run P w = .ok true w := by
  rw [Op.equalIn]
  simp only [Sem.run_bind, run_underlying ht, Result.andThen_ok, hsz, Std.Legacy.Range.forIn_eq_forIn_range', Std.Legacy.Range.size, Nat.sub_zero, Nat.add_sub_cancel, Nat.div_one]
  have hl : ∀ i ∈ List.range' 0 n 1, i < n := fun i hi => by simpa using (List.mem_range'_1.1 hi).2
  generalize List.range' 0 n 1 = l at hl ⊢
  induction l with
  | nil => simp
  | cons i l ih =>
    obtain ⟨z, hz⟩ := hx i (hl i (by simp))
    have px : (part e xs (i * 1)).run P w = .ok (.int k z) w := by
      simp [part, isAgg, run_underlying he, hz]
    have pe : (Op.equalIn (d + 1) e (.int k z) (.int k z)).run P w = .ok true w := by
      rw [run_equalIn_int w d e k k _ _ he]
      simp
    simp only [List.forIn_cons, Sem.run_bind, px, pe, Result.andThen_ok, Bool.not_true, Bool.false_eq_true, if_false, Sem.run_pure]
    exact ih fun j hj => hl j (by simp [hj])
theorem run_eqFields_refl (d : Nat) (xs : Array Value) (w : World) : ∀ fs : List Field, (∀ f ∈ fs, ∃ v, (part f.type xs f.offset).run P w = .ok v w ∧ (Op.equalIn d f.type v v).run P w = .ok true w) → (Op.eqFields d xs xs fs).run P w = .ok true w
  | [], _ => by simp [Op.eqFields]
  | f :: fs, h => by
    obtain ⟨v, hv, he⟩ := h f (by simp)
    have ih := run_eqFields_refl d xs w fs fun g hg => h g (by simp [hg])
    unfold Op.eqFields
    split
    · simp only [Sem.run_bind, hv, Result.andThen_ok, he, Bool.not_true, Bool.false_eq_true, if_false, ih]
    · exact ih
/-- a part of a row is loaded -/
theorem run_loadVar_sub (w : World) (g off : Nat) (ty : TypeId) (l : List Value) (d : TypeDesc) (hc : ∀ j u, l[j]? = some u → w.cell? ⟨g, off + j, none⟩ = some u)
    (hu : P.underlying ty = some d) (hd : (match d with | .struct _ | .array _ _ => true | _ => false) = true) (hi : (P.info? ty).map (·.size) = some l.length) :
    (loadVar ty ⟨g, off, none⟩).run P w = .ok (.agg l.toArray) w := by
  have hl : (loadCells ⟨g, off, none⟩ l.length).run P w = .ok l.toArray w :=
    run_loadCells_list (P := P) w ⟨g, off, none⟩ l (fun j v hv => by
      have hadd : (⟨g, off, none⟩ : Addr).add j = ⟨g, off + j, none⟩ := by unfold Addr.add; split <;> simp_all
      rw [hadd]
      exact hc j v hv)
  cases hq : P.info? ty with
  | none => simp [hq] at hi
  | some i =>
    have hs : i.size = l.length := by simpa [hq] using hi
    have hagg : (isAgg ty).run P w = .ok true w := by
      unfold isAgg
      rw [Sem.run_bind, run_underlying hu w]
      cases d <;> simp_all
    simp [loadVar, Sem.run_bind, hagg, sizeOf, typeInfo, hq, hs, hl]
theorem rg_lds {w : World} {g off : Nat} {ty : TypeId} {l : List Value} {d : TypeDesc} (hc : ∀ j u, l[j]? = some u → w.cell? ⟨g, off + j, none⟩ = some u)
    (hu : P.underlying ty = some d) (hd : (match d with | .struct _ | .array _ _ => true | _ => false) = true) (hi : (P.info? ty).map (·.size) = some l.length) {K : Value → World → Prop} (h : K (.agg l.toArray) w) : LdGoal P ty ⟨g, off, none⟩ w K := by
  refine .mk (v := .agg l.toArray) (w' := w) ?_ h
  simp only [Instr.loadAt, Instr.sureAddr, Sem.run_bind, Sem.run_pure, Result.andThen_ok, run_loadVar_sub w g off ty l d hc hu hd hi]
/-- registers, then two numbers -/
theorem run_equalIn_regs (t ta e : TypeId) (n : Nat) (hf : (P.fieldsOf t).toList.map (fun f => (f.type, f.offset)) = [(ta, 0), (e, n), (e, n + 1)]) (ht : P.underlying t = some (.struct (P.fieldsOf t))) (hp : P.stoodInHeld t = false)
    (hta : P.underlying ta = some (.array n e)) (he : P.underlying e = some (.int .u64)) (hsz : ∀ w, (sizeOf e).run P w = .ok 1 w) (hsa : ∀ w, (sizeOf ta).run P w = .ok n w) (w : World)
    (xs : Array Value) (hx : ∀ i, i < n + 2 → ∃ z, xs[i]? = some (.int .u64 z)) :
    (Op.equalIn 10000 t (.agg xs) (.agg xs)).run P w = .ok true w := by
  rw [show (10000 : Nat) = 9999 + 1 from rfl, run_equalIn_agg w 9999 t xs xs ht hp]
  refine run_eqFields_refl 9999 xs w _ fun f hfm => ?_
  have hm := List.mem_map_of_mem (f := fun f : Field => (f.type, f.offset)) hfm
  rw [hf] at hm
  have one : ∀ i, i < n + 2 → f.type = e → f.offset = i → ∃ v, (part f.type xs f.offset).run P w = .ok v w ∧ (Op.equalIn 9999 f.type v v).run P w = .ok true w := fun i hi h1 h2 => by
    obtain ⟨z, hz⟩ := hx i hi
    refine ⟨.int .u64 z, ?_, ?_⟩
    · rw [h1, h2]; simp [part, isAgg, run_underlying he, hz]
    · rw [h1, run_equalIn_int w 9998 e .u64 .u64 _ _ he]; simp
  simp only [List.mem_cons, List.not_mem_nil, or_false, Prod.mk.injEq] at hm
  rcases hm with ⟨h1, h2⟩ | ⟨h1, h2⟩ | ⟨h1, h2⟩
  · refine ⟨.agg (xs.extract 0 (0 + n)), ?_, ?_⟩
    · rw [h1, h2]; simp [part, isAgg, run_underlying hta, hsa]
    · rw [h1]
      refine run_equalIn_ints 9997 ta e n .u64 hta he hsz w _ fun i hi => ?_
      obtain ⟨z, hz⟩ := hx i (by omega)
      refine ⟨z, ?_⟩
      have hs : i < xs.size := (Array.getElem?_eq_some_iff.1 hz).1
      rw [Array.getElem?_extract, Nat.zero_add, if_pos (by omega), Nat.zero_add, hz]
  · exact one n (by omega) h1 h2
  · exact one (n + 1) (by omega) h1 h2
end
section
variable {P : Program} {w : World} {ops : Array Oper} {rest : List Oper} {o : Oper} {a : Act} {Q : Exit → Act → World → Prop}
def BuildGoal (P : Program) (t : TypeId) (parts : Array (Nat × Value)) (w : World) (K : Value → World → Prop) : Prop := RunGoal P (Instr.build t parts) w K
theorem wl_build (hgd : o.guard = none) (t : TypeId) (ps : Array (Nat × Operand)) (ho : o.op = Op.build t ps) (h : BuildGoal P t (ps.map fun (i, x) => (i, a.eval x)) w fun v w' => wpList P ops Q rest (a.put o.dst v) w') : wpList P ops Q (o :: rest) a w := by
  obtain ⟨v, w', hr, hk⟩ := h
  refine wpList_plain hgd fun K hK => ?_
  unfold Oper.wp execOp
  simp only [ho, Sem.run_bind, hr, Result.andThen_ok, Sem.run_pure]
  exact hK _ _ hk
theorem rg_build {t : TypeId} {parts : Array (Nat × Value)} {cells : Array Value} {w : World} {K : Value → World → Prop} (hb : P.built t parts.toList = some cells) (h : K (.agg cells) w) : BuildGoal P t parts w K :=
  .mk (run_build w t parts cells hb) h
theorem wl_ldg (hgd : Region.wanted o (yielded ops a.tmps) = true) (x : Operand) (ty : TypeId) (ho : o.op = Op.load ty x) (p : Addr)
    (h1 : a.eval x = .pointer (some p)) (h : LdGoal P ty p w fun v w' => wpList P ops Q rest (a.put o.dst v) w') : wpList P ops Q (o :: rest) a w := by
  obtain ⟨v, w', hr, hk⟩ := h
  unfold wpList
  rw [if_pos hgd]
  refine .inl ?_
  unfold Oper.wp execOp
  simp only [ho, h1, hr, Sem.run_bind, Sem.run_pure, Result.andThen_ok]
  exact hk
def EqRGoal (P : Program) (ty : TypeId) (cs : Array Value) (w : World) (K : Prop) : Prop := P.eqGuardType P.depth ty = false ∧ (Op.equalIn 10000 ty (.agg cs) (.agg cs)).run P w = .ok true w ∧ K
theorem wl_eqg (hgd : Region.wanted o (yielded ops a.tmps) = true) (x y : Operand) (ty ty2 : TypeId) (ho : o.op = Op.binOp .eql ty x y ty2) (cs : Array Value) (h1 : a.eval x = .agg cs) (h2 : a.eval y = .agg cs)
    (h : EqRGoal P ty cs w (wpList P ops Q rest (a.put o.dst (.bool true)) w)) : wpList P ops Q (o :: rest) a w := by
  obtain ⟨hm, hq, h⟩ := h
  unfold wpList
  rw [if_pos hgd]
  refine .inl ?_
  unfold Oper.wp execOp
  simp only [ho, h1, h2, Sem.run_bind, Sem.run_pure, Result.andThen_ok, run_eqGuard_agg w _ _ _ _ _ _ hm, run_eql_struct, hq]
  exact h
theorem wl_neg (hgd : Region.wanted o (yielded ops a.tmps) = true) (x y : Operand) (ty ty2 : TypeId) (ho : o.op = Op.binOp .neq ty x y ty2) (cs : Array Value) (h1 : a.eval x = .agg cs) (h2 : a.eval y = .agg cs)
    (h : EqRGoal P ty cs w (wpList P ops Q rest (a.put o.dst (.bool false)) w)) : wpList P ops Q (o :: rest) a w := by
  obtain ⟨hm, hq, h⟩ := h
  unfold wpList
  rw [if_pos hgd]
  refine .inl ?_
  unfold Oper.wp execOp
  simp only [ho, h1, h2, Sem.run_bind, Sem.run_pure, Result.andThen_ok, run_eqGuard_agg w _ _ _ _ _ _ hm, run_neq_struct, hq]
  exact h
end
end Go.Dm
namespace Go.Proofs.YthfekjnekaecaaaDoor
open Go.RowKit Go.Dm Go.Dm.Vm Go.Dm.Cp Go.Dm.Tg Go.Maps
theorem tregs_info : (Tryd.prog.info? 30).map (·.size) = some 32 := by kernel_rfl
section
variable {A B S : Nat → Prop} {w w' : World} {d mb x : Nat} {v : Value} {L : Lg}
set_option maxRecDepth 100000 in
set_option maxHeartbeats 8000000 in
theorem tstep_any {M : Nat → Prop} (t : List Int) (s : St) (op a b c imm : Int) (uo : Option Addr) (mo : Option V) (ht : t.length = 32) (hs : StOk s) (h1 : -2147483648 ≤ imm) (h2 : imm ≤ 2147483647) (hT : Tabs w) (hm : memV M w (.pointer uo) mo) (hM : ∀ k, M k → k < w.heap.size) (hMA : ∀ k, M k → k ≠ mb) (h : LRep A w d L v mb) (hA : ∀ k, A k → k < w.heap.size) :
    Calls Tryd.prog 9 #[ptrTo d, .agg (t.map it).toArray, .agg (cellsS s), .agg #[.int .i64 op, .int .i64 a, .int .i64 b, .int .i64 c, .int .i32 imm], .pointer uo] w fun e w' =>
      e = .returned (.tuple #[.agg ((tstepM L mo t s ⟨op.toNat, a.toNat, b.toNat, c.toNat, imm⟩ (mayF op a b c imm)).1.map it).toArray, .int .i64 ((tstepM L mo t s ⟨op.toNat, a.toNat, b.toNat, c.toNat, imm⟩ (mayF op a b c imm)).2.2 : Nat)]) ∧ LRep A w' d (tstepM L mo t s ⟨op.toNat, a.toNat, b.toNat, c.toNat, imm⟩ (mayF op a b c imm)).2.1 v mb ∧ Keep (fun j => j = mb) w w' := by
  have hR : tstepM L mo t s ⟨op.toNat, a.toNat, b.toNat, c.toNat, imm⟩ (mayF op a b c imm) = if ofM L.m s.pc < 0 ∨ mayF op a b c imm = false ∨ t.any (wrongM L) = true then (t, L, 50)
    else match lookM L mo t s ⟨op.toNat, a.toNat, b.toNat, c.toNat, imm⟩ (ofM L.m s.pc + 1) with
      | some (t', L') => (t', L', 0)
      | none => (t, L, 50) := rfl
  generalize tstepM L mo t s ⟨op.toNat, a.toNat, b.toNat, c.toNat, imm⟩ (mayF op a b c imm) = R at *
  have HR := Lib.hid hR
  have HH := Lib.hid h
  have HMM := Lib.hid hm
  have HT := Lib.hid hT
  have hcs := cellsS_size hs
  have hpc := cellsS_pc hs
  have hso := cellsS_one s
  obtain ⟨ao, co, hv, hc1, hc2⟩ := h.ms.shape
  have hln := h.ok.ln
  obtain ⟨T, hTd⟩ : ∃ T, T = (t.map it).toArray := ⟨_, rfl⟩
  obtain ⟨C, hCd⟩ : ∃ C, C = cellsS s := ⟨_, rfl⟩
  have hts : T.size = 32 := by rw [hTd]; simp [ht]
  have hto : T.all (·.oneCell') = true := by
    rw [hTd]
    simp only [List.all_toArray, List.all_map, List.all_eq_true]
    exact fun _ _ => rfl
  rw [← hCd] at hcs hpc hso ⊢
  rw [← hTd]
  have HTD := Lib.hid hTd
  have HCD := Lib.hid hCd
  have HS := Lib.hid hs
  have hdl := h.blk.lt
  clear hR h hm hT hTd hCd hs
  unfold ptrTo
  go_enter Tryd.func9, Tryd.ntmps9
  go_wp2_with fail
  have hkW1 : Keep No w (w.alloc (.cells #[.pointer (some ⟨d, 0, none⟩)] 25)) := (Keep.refl _ _).alloc _
  have hBW1 : Blk (w.alloc (.cells #[.pointer (some ⟨d, 0, none⟩)] 25)) w.heap.size #[.pointer (some ⟨d, 0, none⟩)] 25 := Blk.new _ _ _
  have hzW1 : (w.alloc (.cells #[.pointer (some ⟨d, 0, none⟩)] 25)).heap.size = w.heap.size + 1 := World.size_alloc _ _
  generalize w.alloc (.cells #[.pointer (some ⟨d, 0, none⟩)] 25) = W1 at *
  have hkW2 : Keep No W1 (W1.alloc (.cells T 30)) := (Keep.refl _ _).alloc _
  have hBW2 : Blk (W1.alloc (.cells T 30)) W1.heap.size T 30 := Blk.new _ _ _
  have hzW2 : (W1.alloc (.cells T 30)).heap.size = W1.heap.size + 1 := World.size_alloc _ _
  generalize W1.alloc (.cells T 30) = W2 at *
  have hkW3 : Keep No W2 (W2.alloc (.cells C 35)) := (Keep.refl _ _).alloc _
  have hBW3 : Blk (W2.alloc (.cells C 35)) W2.heap.size C 35 := Blk.new _ _ _
  have hzW3 : (W2.alloc (.cells C 35)).heap.size = W2.heap.size + 1 := World.size_alloc _ _
  generalize W2.alloc (.cells C 35) = W3 at *
  have hkW4 : Keep No W3 (W3.alloc (.cells #[.int .i64 op, .int .i64 a, .int .i64 b, .int .i64 c, .int .i32 imm] 37)) := (Keep.refl _ _).alloc _
  have hBW4 : Blk (W3.alloc (.cells #[.int .i64 op, .int .i64 a, .int .i64 b, .int .i64 c, .int .i32 imm] 37)) W3.heap.size #[.int .i64 op, .int .i64 a, .int .i64 b, .int .i64 c, .int .i32 imm] 37 := Blk.new _ _ _
  have hzW4 : (W3.alloc (.cells #[.int .i64 op, .int .i64 a, .int .i64 b, .int .i64 c, .int .i32 imm] 37)).heap.size = W3.heap.size + 1 := World.size_alloc _ _
  generalize W3.alloc (.cells #[.int .i64 op, .int .i64 a, .int .i64 b, .int .i64 c, .int .i32 imm] 37) = W4 at *
  have hkW5 : Keep No W4 (W4.alloc (.cells #[.int .i64 0, .int .i64 0, .int .i64 0, .int .i64 0, .int .i64 0, .int .i64 0, .int .i64 0, .int .i64 0, .int .i64 0, .int .i64 0, .int .i64 0, .int .i64 0, .int .i64 0, .int .i64 0, .int .i64 0, .int .i64 0, .int .i64 0, .int .i64 0, .int .i64 0, .int .i64 0, .int .i64 0, .int .i64 0, .int .i64 0, .int .i64 0, .int .i64 0, .int .i64 0, .int .i64 0, .int .i64 0, .int .i64 0, .int .i64 0, .int .i64 0, .int .i64 0] 30)) := (Keep.refl _ _).alloc _
  have hBW5 : Blk (W4.alloc (.cells #[.int .i64 0, .int .i64 0, .int .i64 0, .int .i64 0, .int .i64 0, .int .i64 0, .int .i64 0, .int .i64 0, .int .i64 0, .int .i64 0, .int .i64 0, .int .i64 0, .int .i64 0, .int .i64 0, .int .i64 0, .int .i64 0, .int .i64 0, .int .i64 0, .int .i64 0, .int .i64 0, .int .i64 0, .int .i64 0, .int .i64 0, .int .i64 0, .int .i64 0, .int .i64 0, .int .i64 0, .int .i64 0, .int .i64 0, .int .i64 0, .int .i64 0, .int .i64 0] 30)) W4.heap.size #[.int .i64 0, .int .i64 0, .int .i64 0, .int .i64 0, .int .i64 0, .int .i64 0, .int .i64 0, .int .i64 0, .int .i64 0, .int .i64 0, .int .i64 0, .int .i64 0, .int .i64 0, .int .i64 0, .int .i64 0, .int .i64 0, .int .i64 0, .int .i64 0, .int .i64 0, .int .i64 0, .int .i64 0, .int .i64 0, .int .i64 0, .int .i64 0, .int .i64 0, .int .i64 0, .int .i64 0, .int .i64 0, .int .i64 0, .int .i64 0, .int .i64 0, .int .i64 0] 30 := Blk.new _ _ _
  have hzW5 : (W4.alloc (.cells #[.int .i64 0, .int .i64 0, .int .i64 0, .int .i64 0, .int .i64 0, .int .i64 0, .int .i64 0, .int .i64 0, .int .i64 0, .int .i64 0, .int .i64 0, .int .i64 0, .int .i64 0, .int .i64 0, .int .i64 0, .int .i64 0, .int .i64 0, .int .i64 0, .int .i64 0, .int .i64 0, .int .i64 0, .int .i64 0, .int .i64 0, .int .i64 0, .int .i64 0, .int .i64 0, .int .i64 0, .int .i64 0, .int .i64 0, .int .i64 0, .int .i64 0, .int .i64 0] 30)).heap.size = W4.heap.size + 1 := World.size_alloc _ _
  generalize W4.alloc (.cells #[.int .i64 0, .int .i64 0, .int .i64 0, .int .i64 0, .int .i64 0, .int .i64 0, .int .i64 0, .int .i64 0, .int .i64 0, .int .i64 0, .int .i64 0, .int .i64 0, .int .i64 0, .int .i64 0, .int .i64 0, .int .i64 0, .int .i64 0, .int .i64 0, .int .i64 0, .int .i64 0, .int .i64 0, .int .i64 0, .int .i64 0, .int .i64 0, .int .i64 0, .int .i64 0, .int .i64 0, .int .i64 0, .int .i64 0, .int .i64 0, .int .i64 0, .int .i64 0] 30) = W5 at *
  rw [hzW1] at hBW2 hzW2
  rw [hzW2] at hBW3 hzW3
  rw [hzW3] at hBW4 hzW4
  rw [hzW4] at hBW5 hzW5
  have hk5 := (((hkW1.trans' hkW2).trans' hkW3).trans' hkW4).trans' hkW5
  have b5 := (((hBW1.keep hkW2 fun h => h).keep hkW3 fun h => h).keep hkW4 fun h => h).keep hkW5 fun h => h
  have b6 := ((hBW2.keep hkW3 fun h => h).keep hkW4 fun h => h).keep hkW5 fun h => h
  have b7 := (hBW3.keep hkW4 fun h => h).keep hkW5 fun h => h
  have b8 := hBW4.keep hkW5 fun h => h
  have b10 := hBW5
  clear hkW1 hkW2 hkW3 hkW4 hkW5 hBW1 hBW2 hBW3 hBW4 hBW5 hzW1 hzW2 hzW3 hzW4
  have hkd := (Keep.refl No W5).drew
  have hL := HH.out.no hA (hk5.trans' hkd)
  have r0 : W5.drew.cell? ⟨w.heap.size, 0, none⟩ = some (.pointer (some ⟨d, 0, none⟩)) := b5.cell 0
  have r1 : W5.drew.cell? ⟨d, 0, none⟩ = some (.slice ao L.m.length co) := (hL.blk.cell 0).trans (by rw [hv]; rfl)
  have r2 : W5.drew.cell? ⟨w.heap.size + 1 + 1, 32, none⟩ = some (.int .u64 (s.pc : Int)) := (b7.cell 32).trans hpc
  have hof := lof_any (w := W5.drew) L.m s.pc hL.ms
  rw [hv] at hof
  have hov := of_lt L.m s.pc
  refine wp_region_sig (fun w' => w'.cell? ⟨w.heap.size, 0, none⟩ = some (.pointer (some ⟨d, 0, none⟩)) ∧ w'.cell? ⟨d, 0, none⟩ = some (.slice ao L.m.length co) ∧ w'.cell? ⟨w.heap.size + 1 + 1, 32, none⟩ = some (.int .u64 (s.pc : Int))) (fun j => decide (j ≤ 99)) [(0, true), (1, true), (2, true), (3, true), (4, true), (5, true), (6, false), (7, true)] (by kernel_rfl) (by kernel_rfl) (by intro c a d v w h; cases d <;> exact h) ⟨r0, r1, r2⟩ ?_
  apply sig_still (o := ⟨some 20, _, _, _, _, _⟩) rfl rfl
  · intro w' hS
    obtain ⟨q1, q2, q3⟩ := hS
    first | (go_simp; done) | (go_simp; rfl) | rfl
  go_frame
  apply sig_still (o := ⟨some 21, _, _, _, _, _⟩) rfl rfl
  · intro w' hS
    obtain ⟨q1, q2, q3⟩ := hS
    first | (go_simp; done) | (go_simp; rfl) | rfl
  go_frame
  apply sig_still (o := ⟨some 22, _, _, _, _, _⟩) rfl rfl
  · intro w' hS
    obtain ⟨q1, q2, q3⟩ := hS
    first | (go_simp; done) | (go_simp; rfl) | rfl
  go_frame
  apply sig_still (o := ⟨some 23, _, _, _, _, _⟩) rfl rfl
  · intro w' hS
    obtain ⟨q1, q2, q3⟩ := hS
    first | (go_simp; done) | (go_simp; rfl) | rfl
  go_frame
  apply sig_still (o := ⟨some 24, _, _, _, _, _⟩) rfl rfl
  · intro w' hS
    obtain ⟨q1, q2, q3⟩ := hS
    first | (go_simp; done) | (go_simp; rfl) | rfl
  go_frame
  apply sig_still (o := ⟨some 25, _, _, _, _, _⟩) rfl rfl
  · intro w' hS
    obtain ⟨q1, q2, q3⟩ := hS
    first | (go_simp; done) | (go_simp; rfl) | rfl
  go_frame
  refine sig_eff (o := ⟨some 26, _, _, _, _, _⟩) rfl rfl (fun K hKe => ?_)
  go_wp2_with fail
  refine hof.mono ?_
  rintro e W6 ⟨rfl, hk6⟩
  have hl5 : w.heap.size < W5.drew.heap.size := b5.lt
  have hl7 : w.heap.size + 1 + 1 < W5.drew.heap.size := b7.lt
  have hdl5 : d < W5.drew.heap.size := Nat.lt_of_lt_of_le hdl hk5.size
  refine hKe _ _ ⟨fun _ => ⟨(hk6.cell (p := ⟨w.heap.size, 0, none⟩) hl5 fun h => h).trans r0, (hk6.cell (p := ⟨d, 0, none⟩) hdl5 fun h => h).trans r1, (hk6.cell (p := ⟨w.heap.size + 1 + 1, 32, none⟩) hl7 fun h => h).trans r2⟩, ?_⟩
  apply sig_still (o := ⟨some 12, _, _, _, _, _⟩) rfl rfl
  · intro w' hS
    obtain ⟨q1, q2, q3⟩ := hS
    first | (go_simp; done) | (go_simp; rfl) | rfl
  go_frame
  refine sig_nil ?_
  have hk56 : Keep No W5 W6 := hkd.trans' hk6
  have hkw6 := hk5.trans' hk56
  replace b5 := b5.keep hk56 fun h => h
  replace b6 := b6.keep hk56 fun h => h
  replace b7 := b7.keep hk56 fun h => h
  replace b8 := b8.keep hk56 fun h => h
  replace b10 := b10.keep hk56 fun h => h
  clear r0 r1 r2 hof hL hkd hk6 hk56 hl5 hl7 hdl5 hk5
  have q0 : W6.cell? ⟨w.heap.size + 1 + 1 + 1, 0, none⟩ = some (.int .i64 op) := b8.cell 0
  have q1 : W6.cell? ⟨w.heap.size + 1 + 1 + 1, 1, none⟩ = some (.int .i64 a) := b8.cell 1
  have q2 : W6.cell? ⟨w.heap.size + 1 + 1 + 1, 2, none⟩ = some (.int .i64 b) := b8.cell 2
  have q3 : W6.cell? ⟨w.heap.size + 1 + 1 + 1, 3, none⟩ = some (.int .i64 c) := b8.cell 3
  have q4 : W6.cell? ⟨w.heap.size + 1 + 1 + 1, 4, none⟩ = some (.int .i32 imm) := b8.cell 4
  have hen := isaencE_any (w := W6) op a b c imm h1 h2 (HT.out.no hkw6)
  go_wp2_with fail
  refine hen.mono ?_
  rintro e W7 ⟨⟨y, rfl⟩, hk7⟩
  have hkw7 := hkw6.trans' hk7
  replace b5 := b5.keep hk7 fun h => h
  replace b6 := b6.keep hk7 fun h => h
  replace b7 := b7.keep hk7 fun h => h
  replace b8 := b8.keep hk7 fun h => h
  replace b10 := b10.keep hk7 fun h => h
  clear q0 q1 q2 q3 q4 hen hk7 hkw6
  generalize hmf : mayF op a b c imm = mf at *
  generalize hofd : ofM L.m s.pc = o at *
  have HAX := Lib.hid hA
  by_cases hbad1 : o < 0
  · rw [if_pos (.inl hbad1)] at HR
    have hbz : decide (o < 0) = true := decide_eq_true hbad1
    cases mf
    all_goals
      go_wp2_with (first | (with_reducible refine wl_ld rfl _ 30 rfl _ rfl ?_) | (with_reducible refine wl_stAgg rfl _ _ _ rfl _ _ rfl rfl ?_))
      refine rg_ld b6 Tryd.underlying30 rfl (by rw [hts]; kernel_rfl) ?_
      go_wp2_with (with_reducible refine wl_stAgg rfl _ _ _ rfl _ _ rfl rfl ?_)
      refine rg_stAgg b10 (by rw [hts]; kernel_rfl) (by rw [hts]; rfl) hto ?_
      intro Wa hBa hka hza
      go_wp2_with fail
      refine ret_blk_tmp rfl rfl hBa Tryd.underlying30 rfl (by rw [hts]; kernel_rfl) rfl ?_
      have hR := HR.out
      subst hR
      have hkwa : Keep No w Wa := (hkw7).trans hka fun j hj e => by have e2 : j = w.heap.size + 1 + 1 + 1 + 1 := e; omega
      rw [HTD.out]
      exact ⟨rfl, HH.out.no hA hkwa, hkwa.mono fun _ _ h => h.elim⟩
  · have hbz : decide (o < 0) = false := decide_eq_false hbad1
    by_cases hmz : mf = false
    · subst hmz
      rw [if_pos (.inr (.inl rfl))] at HR
      go_wp2_with (first | (with_reducible refine wl_ld rfl _ 30 rfl _ rfl ?_) | (with_reducible refine wl_stAgg rfl _ _ _ rfl _ _ rfl rfl ?_))
      refine rg_ld b6 Tryd.underlying30 rfl (by rw [hts]; kernel_rfl) ?_
      go_wp2_with (with_reducible refine wl_stAgg rfl _ _ _ rfl _ _ rfl rfl ?_)
      refine rg_stAgg b10 (by rw [hts]; kernel_rfl) (by rw [hts]; rfl) hto ?_
      intro Wa hBa hka hza
      go_wp2_with fail
      refine ret_blk_tmp rfl rfl hBa Tryd.underlying30 rfl (by rw [hts]; kernel_rfl) rfl ?_
      have hR := HR.out
      subst hR
      have hkwa : Keep No w Wa := (hkw7).trans hka fun j hj e => by have e2 : j = w.heap.size + 1 + 1 + 1 + 1 := e; omega
      rw [HTD.out]
      exact ⟨rfl, HH.out.no hA hkwa, hkwa.mono fun _ _ h => h.elim⟩
    · obtain rfl : mf = true := by simpa using hmz
      have hL7 := HH.out.no hA hkw7
      have hfl : Fl (fun k => k = w.heap.size + 1) W7 1 (fun x => [it x]) (.slice (some ⟨w.heap.size + 1, 0, none⟩) 32 32) t := by
        rw [show (32 : Nat) = t.length from ht.symm]
        refine Sl.mk (by rw [← List.map_eq_flatMap]; simp) rfl b6.lt (Nat.le_refl _) (by rw [ht]; unfold maxLen; omega) fun j u hu => ?_
        rw [b6.cell, Nat.zero_add, HTD.out, List.getElem?_toArray]
        rw [← List.map_eq_flatMap] at hu
        exact hu
      have hhi := hasint_any (w := W7) t w.heap.size hfl (by rw [ht]; decide) (b5.cell 0) hL7
      generalize hbd : t.any (wrongM L) = bad at *
      clear hfl hL7
      go_wp2_with fail
      refine hhi.mono ?_
      rintro e W8 ⟨rfl, rfl⟩
      clear hhi
      cases bad with
      | true =>
        clear hbd
        rw [if_pos (.inr (.inr rfl))] at HR
        go_wp2_with (first | (with_reducible refine wl_ld rfl _ 30 rfl _ rfl ?_) | (with_reducible refine wl_stAgg rfl _ _ _ rfl _ _ rfl rfl ?_))
        refine rg_ld b6 Tryd.underlying30 rfl (by rw [hts]; kernel_rfl) ?_
        go_wp2_with (with_reducible refine wl_stAgg rfl _ _ _ rfl _ _ rfl rfl ?_)
        refine rg_stAgg b10 (by rw [hts]; kernel_rfl) (by rw [hts]; rfl) hto ?_
        intro Wa hBa hka hza
        go_wp2_with fail
        refine ret_blk_tmp rfl rfl hBa Tryd.underlying30 rfl (by rw [hts]; kernel_rfl) rfl ?_
        have hR := HR.out
        subst hR
        have hkwa : Keep No w Wa := (hkw7).trans hka fun j hj e => by have e2 : j = w.heap.size + 1 + 1 + 1 + 1 := e; omega
        rw [HTD.out]
        exact ⟨rfl, HH.out.no hA hkwa, hkwa.mono fun _ _ h => h.elim⟩
      | false =>
        rw [if_neg (by simp; omega)] at HR
        obtain ⟨ho, ha, hb, hc⟩ := may_op hmf
        have ho2 : 1 ≤ op ∧ op ≤ 41 := by
          unfold isOp at ho
          simp at ho
          omega
        obtain ⟨op, rfl⟩ : ∃ n : Nat, op = (n : Int) := ⟨op.toNat, by omega⟩
        obtain ⟨a, rfl⟩ : ∃ n : Nat, a = (n : Int) := ⟨a.toNat, by omega⟩
        obtain ⟨b, rfl⟩ : ∃ n : Nat, b = (n : Int) := ⟨b.toNat, by omega⟩
        obtain ⟨c, rfl⟩ : ∃ n : Nat, c = (n : Int) := ⟨c.toNat, by omega⟩
        simp only [Int.toNat_natCast] at HR
        have hin : InOk ⟨op, a, b, c, imm⟩ := ⟨ho, by simp only; omega, by simp only; omega, by simp only; omega, h1, h2⟩
        have hown : 0 ≤ o + 1 ∧ o + 1 ≤ (L.m.length : Int) := by omega
        have htok : TsOk L t := ⟨ht, fun k => by
          rw [List.getD_eq_getElem?_getD]
          cases hk : t[k]? with
          | none => simp only [Option.getD_none]; omega
          | some z =>
            have hz := List.any_eq_false.1 hbd z (List.mem_of_getElem? hk)
            unfold wrongM at hz
            simp at hz
            simp only [Option.getD_some]
            omega⟩
        have q0 : W8.cell? ⟨w.heap.size + 1 + 1 + 1, 0, none⟩ = some (.int .i64 (op : Int)) := b8.cell 0
        have q1 : W8.cell? ⟨w.heap.size + 1 + 1 + 1, 1, none⟩ = some (.int .i64 (a : Int)) := b8.cell 1
        have q2 : W8.cell? ⟨w.heap.size + 1 + 1 + 1, 2, none⟩ = some (.int .i64 (b : Int)) := b8.cell 2
        have q3 : W8.cell? ⟨w.heap.size + 1 + 1 + 1, 3, none⟩ = some (.int .i64 (c : Int)) := b8.cell 3
        have q4 : W8.cell? ⟨w.heap.size + 1 + 1 + 1, 4, none⟩ = some (.int .i32 imm) := b8.cell 4
        have r0 : W8.cell? ⟨w.heap.size, 0, none⟩ = some (.pointer (some ⟨d, 0, none⟩)) := b5.cell 0
        obtain ⟨X, hX⟩ : ∃ X, X = stepC d t s ⟨op, a, b, c, imm⟩ (o + 1) (.pointer uo) := ⟨_, rfl⟩
        have hbt : Tryd.prog.built 78 [(0, .pointer (some ⟨d, 0, none⟩)), (1, .agg T), (2, .agg C), (3, .agg #[.int .i64 (op : Int), .int .i64 (a : Int), .int .i64 (b : Int), .int .i64 (c : Int), .int .i32 imm]), (4, .int .i64 (o + 1)), (5, .pointer uo)] = some X := by
          rw [HTD.out, HCD.out, hX]
          have h3 := built_stp (t.map it) (s.r.map ru ++ [ru s.pc, ru s.tls]) (by simp [ht]) (by simp [HS.out.len]) (some ⟨d, 0, none⟩) uo (op : Int) (a : Int) (b : Int) (c : Int) imm (o + 1)
          unfold cellsS
          rw [h3, List.append_assoc]
          rfl
        have HX := Lib.hid hX
        have HBT := Lib.hid hbt
        have HTO := Lib.hid htok
        have HIN := Lib.hid hin
        have hxs : X.size = 74 := by rw [hX]; exact stepC_size ht HS.out
        have hwl : w.heap.size ≤ W8.heap.size := hkw7.size
        clear hX hbt htok hin ho ha hb hc ho2 hmf hbd
        go_wp2_with (first | (with_reducible refine wl_ld rfl _ 30 rfl _ rfl ?_) | (with_reducible refine wl_ld rfl _ 35 rfl _ rfl ?_) | (with_reducible refine wl_build rfl 78 _ rfl ?_))
        refine rg_ld b6 Tryd.underlying30 rfl (by rw [hts]; kernel_rfl) ?_
        go_wp2_with (first | (with_reducible refine wl_ld rfl _ 30 rfl _ rfl ?_) | (with_reducible refine wl_ld rfl _ 35 rfl _ rfl ?_) | (with_reducible refine wl_build rfl 78 _ rfl ?_))
        refine rg_ld b7 Tryd.underlying35 rfl (by rw [hcs]; kernel_rfl) ?_
        go_wp2_with (first | (with_reducible refine wl_ld rfl _ 30 rfl _ rfl ?_) | (with_reducible refine wl_ld rfl _ 35 rfl _ rfl ?_) | (with_reducible refine wl_build rfl 78 _ rfl ?_))
        refine rg_build HBT.out ?_
        go_wp2_with fail
        have hkW9 : Keep No W8 (W8.alloc (.cells X 78)) := (Keep.refl _ _).alloc _
        have hBW9 : Blk (W8.alloc (.cells X 78)) W8.heap.size X 78 := Blk.new _ _ _
        have hzW9 : (W8.alloc (.cells X 78)).heap.size = W8.heap.size + 1 := World.size_alloc _ _
        generalize W8.alloc (.cells X 78) = W9 at *
        have hB9 := hBW9
        rw [HX.out] at hB9
        have hkw9 := hkw7.trans' hkW9
        have hmb : mb < w.heap.size := hA _ HH.out.Am
        have hlk := tlook_any (w := W9) (x := W8.heap.size) t s ⟨op, a, b, c, imm⟩ (o + 1) (.pointer uo) mo hown (HMM.out.no hM hkw9) (fun k hk => Nat.lt_of_lt_of_le (hM k hk) hkw9.size) (fun k hk => ⟨fun e => by have := hM k hk; omega, hMA k hk⟩) hB9 HTO.out HS.out HIN.out (HH.out.no hA hkw9) (fun k hk => Nat.lt_of_lt_of_le (hA k hk) hkw9.size) (fun hx => by have := hA _ hx; omega)
        generalize hlm : lookM L mo t s ⟨op, a, b, c, imm⟩ (o + 1) = O at *
        have hlt5 := b5.lt
        have hlt6 := b6.lt
        have hlt10 := b10.lt
        replace b6 := b6.keep hkW9 fun h => h
        replace b10 := b10.keep hkW9 fun h => h
        unfold ptrTo at hlk
        clear q0 q1 q2 q3 q4 r0 b5 b7 b8 hBW9 hB9 hlm hkw7
        go_wp2_with fail
        refine hlk.mono ?_
        rintro e W10 ⟨t', rfl, hB', hN, hl', hL', hk'⟩
        clear hlk
        replace b6 := b6.keep hk' fun e => by omega
        replace b10 := b10.keep hk' fun e => by omega
        have hkm : Keep (fun j => j = mb) w W10 := (hkw9.mono fun _ _ h => h.elim).trans hk' fun j hj e => e.resolve_left fun e2 => by omega
        cases O with
        | none =>
          simp only at HR
          go_wp2_with (first | (with_reducible refine wl_ld rfl _ 30 rfl _ rfl ?_) | (with_reducible refine wl_stAgg rfl _ _ _ rfl _ _ rfl rfl ?_))
          refine rg_ld b6 Tryd.underlying30 rfl (by rw [hts]; kernel_rfl) ?_
          go_wp2_with (with_reducible refine wl_stAgg rfl _ _ _ rfl _ _ rfl rfl ?_)
          refine rg_stAgg b10 (by rw [hts]; kernel_rfl) (by rw [hts]; rfl) hto ?_
          intro Wa hBa hka hza
          go_wp2_with fail
          refine ret_blk_tmp rfl rfl hBa Tryd.underlying30 rfl (by rw [hts]; kernel_rfl) rfl ?_
          have hR := HR.out
          subst hR
          have hkwa := hkm.trans hka fun j hj e => absurd hj (by have e2 : j = w.heap.size + 1 + 1 + 1 + 1 := e; omega)
          rw [HTD.out]
          refine ⟨rfl, hL'.keep hka (fun j hj e => ?_) (fun j hj => ?_), hkwa⟩
          · have := hA j hj; have e2 : j = w.heap.size + 1 + 1 + 1 + 1 := e; omega
          · have := hA j hj; have := hkm.size; omega
        | some r =>
          obtain ⟨t1, L1⟩ := r
          have ht1 : t' = t1 := hN _ rfl
          subst ht1
          simp only at HR
          have hcl : ∀ j u, (t'.map it)[j]? = some u → W10.cell? ⟨W8.heap.size, 1 + j, none⟩ = some u := fun j u hu => by
            rw [hB'.cell]
            have hj : j < 32 := by have := (List.getElem?_eq_some_iff.1 hu).1; simpa [hl'] using this
            rw [stepC_t hl' hj]
            rw [List.getElem?_map, List.getElem?_eq_getElem (by omega)] at hu
            rw [List.getD_eq_getElem?_getD, List.getElem?_eq_getElem (by omega)]
            exact hu
          have HCL := Lib.hid hcl
          clear hcl
          go_wp2_with (first | (with_reducible refine wl_ld rfl _ 30 rfl _ rfl ?_) | (with_reducible refine wl_stAgg rfl _ _ _ rfl _ _ rfl rfl ?_))
          refine rg_lds HCL.out Tryd.underlying30 rfl (by simp only [List.length_map, hl']; kernel_rfl) ?_
          go_wp2_with (with_reducible refine wl_stAgg rfl _ _ _ rfl _ _ rfl rfl ?_)
          refine rg_stAgg b10 (by simp only [List.size_toArray, List.length_map, hl']; kernel_rfl) (by simp only [List.size_toArray, List.length_map, hl']; rfl) (by simp only [List.all_toArray, List.all_map, List.all_eq_true]; exact fun _ _ => rfl) ?_
          intro Wa hBa hka hza
          go_wp2_with fail
          refine ret_blk_tmp rfl rfl hBa Tryd.underlying30 rfl (by simp only [List.size_toArray, List.length_map, hl']; kernel_rfl) rfl ?_
          have hR := HR.out
          subst hR
          have hkwa := hkm.trans hka fun j hj e => absurd hj (by have e2 : j = w.heap.size + 1 + 1 + 1 + 1 := e; omega)
          refine ⟨rfl, hL'.keep hka (fun j hj e => ?_) (fun j hj => ?_), hkwa⟩
          · have := hA j hj; have e2 : j = w.heap.size + 1 + 1 + 1 + 1 := e; omega
          · have := hA j hj; have := hkm.size; omega
end
end Go.Proofs.YthfekjnekaecaaaDoor
