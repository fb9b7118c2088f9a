/- CpuStays: walked. No condition. -/
import Derived.Test.YtaoillfofiehpaaDoorCpu9
import Derived.Test.YtaoillfofiehpaaDoorCpuO
namespace Go.Dm.Cp
open Go Go.Dm.Vm Go.Dm.Oc
def awB : V := pokeV (mapV [] 256 256 7 [] 0) 256 (codeL [18446744069414584593, 803078])
def aw0 : St := ⟨List.replicate 32 0, 256, 0⟩
def aw1 : St := ⟨(List.replicate 32 0).set 1 18446744073709551615, 264, 0⟩
theorem aw0_ok : StOk aw0 := ⟨by decide, by decide, by decide, by decide⟩
theorem aw1_ok : StOk aw1 := ⟨by decide, by decide, by decide, by decide⟩
theorem aw_peek : peekE (mapV [] 256 256 7 [] 0) 256 16 = 0 := by kernel_rfl
theorem aw_1 : stepM aw0 awB = (aw1, awB, ⟨0, 0, 0⟩) := by kernel_rfl
theorem aw_2 : stepM aw1 awB = (aw1, awB, ⟨3, 43, 264⟩) := by kernel_rfl
end Go.Dm.Cp
namespace Go.Proofs.YtaoillfofiehpaaDoor
open Go.RowKit Go.Dm Go.Dm.Vm Go.Dm.Cp Go.Maps Go.Dm.Oc
section
variable {w : World}
theorem cellsS_ints {s : St} (h : StOk s) : ∀ i, i < 34 → ∃ z, (cellsS s)[i]? = some (.int .u64 z) := by
  intro i hi
  by_cases h1 : i < 32
  · exact ⟨_, cellsS_reg h h1⟩
  · by_cases h2 : i = 32
    · subst h2; exact ⟨_, cellsS_pc h⟩
    · obtain rfl : i = 33 := by omega
      exact ⟨_, cellsS_tls h⟩
theorem stN_ok {pc : Nat} (h : pc < 18446744073709551616) : StOk ⟨List.replicate 32 0, pc, 0⟩ := ⟨rfl, fun y hy => by rw [List.eq_of_mem_replicate hy]; decide, h, (by show (0 : Nat) < _; decide)⟩
theorem stC_eq {s : St} (h : StOk s) (w : World) : (Op.equalIn 10000 26 (.agg (cellsS s)) (.agg (cellsS s))).run Tryd.prog w = .ok true w :=
  run_equalIn_regs 26 23 22 32 (by kernel_rfl) (by kernel_rfl) (by kernel_rfl) Tryd.underlying23 Tryd.underlying22 (fun w => by kernel_rfl) (fun w => by kernel_rfl) w _ (cellsS_ints h)
theorem built_st0 (v0 v1 v2 v3 v4 v5 v6 v7 v8 v9 v10 v11 v12 v13 v14 v15 v16 v17 v18 v19 v20 v21 v22 v23 v24 v25 v26 v27 v28 v29 v30 v31 : Value) (a b : Int) : Tryd.prog.built 26 [(0, .agg #[v0, v1, v2, v3, v4, v5, v6, v7, v8, v9, v10, v11, v12, v13, v14, v15, v16, v17, v18, v19, v20, v21, v22, v23, v24, v25, v26, v27, v28, v29, v30, v31]), (1, .int .u64 a), (2, .int .u64 b)] = some #[v0, v1, v2, v3, v4, v5, v6, v7, v8, v9, v10, v11, v12, v13, v14, v15, v16, v17, v18, v19, v20, v21, v22, v23, v24, v25, v26, v27, v28, v29, v30, v31, .int .u64 a, .int .u64 b] := by kernel_rfl
theorem built_st (l : List Value) (h : l.length = 32) (a b : Int) : Tryd.prog.built 26 [(0, .agg l.toArray), (1, .int .u64 a), (2, .int .u64 b)] = some (l ++ [Value.int .u64 a, Value.int .u64 b]).toArray :=
  match l, h with
  | [v0, v1, v2, v3, v4, v5, v6, v7, v8, v9, v10, v11, v12, v13, v14, v15, v16, v17, v18, v19, v20, v21, v22, v23, v24, v25, v26, v27, v28, v29, v30, v31], _ => built_st0 v0 v1 v2 v3 v4 v5 v6 v7 v8 v9 v10 v11 v12 v13 v14 v15 v16 v17 v18 v19 v20 v21 v22 v23 v24 v25 v26 v27 v28 v29 v30 v31 a b
theorem built_pc (a : Int) : Tryd.prog.built 26 [(1, .int .u64 a)] = some (List.replicate 32 (Value.int .u64 0) ++ [Value.int .u64 a, Value.int .u64 0]).toArray := by kernel_rfl
theorem built_pc2 (p : Nat) : Tryd.prog.built 26 [(1, .int .u64 (p : Int))] = some (cellsS ⟨List.replicate 32 0, p, 0⟩) := by kernel_rfl
set_option maxRecDepth 100000 in
set_option maxHeartbeats 4000000 in
theorem awake14_any (hT : Tabs w) : Calls Tryd.prog 4 #[] w fun e w' => e = .returned (.bool true) ∧ Keep No w w' := by
  have HT := Lib.hid hT
  clear hT
  go_enter Tryd.func4, Tryd.ntmps4
  go_wp2_with (first | (at_builtin; refine wl_append rfl _ _ _ _ rfl _ _ rfl rfl ?_) | (at_make; refine wl_make rfl _ _ _ rfl _ _ rfl rfl ?_) | (at_mapUpdate; refine wl_mapUpdate rfl _ _ _ _ rfl _ _ _ rfl rfl rfl ?_) | (at_lookup; refine wl_lookup rfl _ _ _ _ rfl _ _ rfl rfl ?_) | (at_delete; refine wl_delete rfl _ _ _ _ rfl _ _ rfl rfl ?_) | (with_reducible refine wl_len rfl _ _ rfl _ rfl ?_) | (with_reducible refine wl_range rfl _ _ rfl _ rfl ?_) | (with_reducible refine wl_next rfl _ rfl _ rfl ?_) | (with_reducible refine wl_copy rfl _ _ _ _ rfl _ _ rfl rfl ?_) | (with_reducible refine wl_max rfl _ _ _ _ rfl _ _ rfl rfl ?_) | (with_reducible refine wl_min rfl _ _ _ _ rfl _ _ rfl rfl ?_))
  refine (r12enc_any 17 1 0 0 (-1)).mono ?_
  rintro e w1 ⟨rfl, hk1⟩
  rw [show mayB 17 1 0 0 (-1) = true by decide]
  simp only [if_true]
  rw [show encM 17 1 0 0 (-1) = 18446744069414584593 by decide]
  go_wp2_with (first | (at_builtin; refine wl_append rfl _ _ _ _ rfl _ _ rfl rfl ?_) | (at_make; refine wl_make rfl _ _ _ rfl _ _ rfl rfl ?_) | (at_mapUpdate; refine wl_mapUpdate rfl _ _ _ _ rfl _ _ _ rfl rfl rfl ?_) | (at_lookup; refine wl_lookup rfl _ _ _ _ rfl _ _ rfl rfl ?_) | (at_delete; refine wl_delete rfl _ _ _ _ rfl _ _ rfl rfl ?_) | (with_reducible refine wl_len rfl _ _ rfl _ rfl ?_) | (with_reducible refine wl_range rfl _ _ rfl _ rfl ?_) | (with_reducible refine wl_next rfl _ rfl _ rfl ?_) | (with_reducible refine wl_copy rfl _ _ _ _ rfl _ _ rfl rfl ?_) | (with_reducible refine wl_max rfl _ _ _ _ rfl _ _ rfl rfl ?_) | (with_reducible refine wl_min rfl _ _ _ _ rfl _ _ rfl rfl ?_))
  refine (r12enc_any 6 1 2 3 0).mono ?_
  rintro e w2 ⟨rfl, hk2⟩
  rw [show mayB 6 1 2 3 0 = true by decide]
  simp only [if_true]
  rw [show encM 6 1 2 3 0 = 803078 by decide]
  go_wp2_with (first | (at_builtin; refine wl_append rfl _ _ _ _ rfl _ _ rfl rfl ?_) | (at_make; refine wl_make rfl _ _ _ rfl _ _ rfl rfl ?_) | (at_mapUpdate; refine wl_mapUpdate rfl _ _ _ _ rfl _ _ _ rfl rfl rfl ?_) | (at_lookup; refine wl_lookup rfl _ _ _ _ rfl _ _ rfl rfl ?_) | (at_delete; refine wl_delete rfl _ _ _ _ rfl _ _ rfl rfl ?_) | (with_reducible refine wl_len rfl _ _ rfl _ rfl ?_) | (with_reducible refine wl_range rfl _ _ rfl _ rfl ?_) | (with_reducible refine wl_next rfl _ rfl _ rfl ?_) | (with_reducible refine wl_copy rfl _ _ _ _ rfl _ _ rfl rfl ?_) | (with_reducible refine wl_max rfl _ _ _ _ rfl _ _ rfl rfl ?_) | (with_reducible refine wl_min rfl _ _ _ _ rfl _ _ rfl rfl ?_))
  refine (vnew_any _).mono ?_
  rintro e w3 ⟨mb, d, f, rfl, hS, hk3⟩
  have hK3 := (hk1.trans' hk2).trans' hk3
  have hz3 : w.heap.size ≤ w2.heap.size := (hk1.trans' hk2).size
  unfold ptrTo
  clear hk1 hk2
  go_wp2_with (first | (at_builtin; refine wl_append rfl _ _ _ _ rfl _ _ rfl rfl ?_) | (at_make; refine wl_make rfl _ _ _ rfl _ _ rfl rfl ?_) | (at_mapUpdate; refine wl_mapUpdate rfl _ _ _ _ rfl _ _ _ rfl rfl rfl ?_) | (at_lookup; refine wl_lookup rfl _ _ _ _ rfl _ _ rfl rfl ?_) | (at_delete; refine wl_delete rfl _ _ _ _ rfl _ _ rfl rfl ?_) | (with_reducible refine wl_len rfl _ _ rfl _ rfl ?_) | (with_reducible refine wl_range rfl _ _ rfl _ rfl ?_) | (with_reducible refine wl_next rfl _ rfl _ rfl ?_) | (with_reducible refine wl_copy rfl _ _ _ _ rfl _ _ rfl rfl ?_) | (with_reducible refine wl_max rfl _ _ _ _ rfl _ _ rfl rfl ?_) | (with_reducible refine wl_min rfl _ _ _ _ rfl _ _ rfl rfl ?_))
  refine (vmap_any 256 256 0 7 [] (by omega) (by omega) (by omega) (by unfold maxLen; simp) hS (fun k hk => hk.2)).mono ?_
  rintro e w4 ⟨rfl, ⟨f2, hS2⟩, hk4⟩
  rw [show mapE [] 256 256 7 = 0 by decide]
  have hS4 : SRep (fun k => w2.heap.size ≤ k ∧ k < w4.heap.size) w4 d (mapV [] 256 256 7 [] 0) mb f2 := hS2.mono fun k hk ha => by
    rcases ha with ha | ha
    · exact ⟨ha.1, hk⟩
    · exact ⟨Nat.le_trans hk3.size ha.1, hk⟩
  have hK4 : Keep No w w4 := hK3.trans hk4 fun j hj ha => absurd ha.1 (Nat.not_le.2 (by omega))
  clear hS hS2 hk4 hK3 hk3
  go_wp2_with (first | (at_builtin; refine wl_append rfl _ _ _ _ rfl _ _ rfl rfl ?_) | (at_make; refine wl_make rfl _ _ _ rfl _ _ rfl rfl ?_) | (at_mapUpdate; refine wl_mapUpdate rfl _ _ _ _ rfl _ _ _ rfl rfl rfl ?_) | (at_lookup; refine wl_lookup rfl _ _ _ _ rfl _ _ rfl rfl ?_) | (at_delete; refine wl_delete rfl _ _ _ _ rfl _ _ rfl rfl ?_) | (with_reducible refine wl_len rfl _ _ rfl _ rfl ?_) | (with_reducible refine wl_range rfl _ _ rfl _ rfl ?_) | (with_reducible refine wl_next rfl _ rfl _ rfl ?_) | (with_reducible refine wl_copy rfl _ _ _ _ rfl _ _ rfl rfl ?_) | (with_reducible refine wl_max rfl _ _ _ _ rfl _ _ rfl rfl ?_) | (with_reducible refine wl_min rfl _ _ _ _ rfl _ _ rfl rfl ?_))
  have hkW5 : Keep No w4 (w4.alloc (.cells #[.int .u64 18446744069414584593, .int .u64 803078] 22)) := (Keep.refl _ _).alloc _
  have hBW5 : Blk (w4.alloc (.cells #[.int .u64 18446744069414584593, .int .u64 803078] 22)) w4.heap.size #[.int .u64 18446744069414584593, .int .u64 803078] 22 := Blk.new _ _ _
  have hzW5 : (w4.alloc (.cells #[.int .u64 18446744069414584593, .int .u64 803078] 22)).heap.size = w4.heap.size + 1 := World.size_alloc _ _
  generalize w4.alloc (.cells #[.int .u64 18446744069414584593, .int .u64 803078] 22) = W5 at *
  have hlU : Fl (fun k => k = w4.heap.size) W5 1 encU (.slice (some ⟨w4.heap.size, 0, none⟩) 2 2) [18446744069414584593, 803078] :=
    Sl.mk rfl rfl hBW5.lt (Nat.le_refl _) (by unfold maxLen; omega) fun j u hu => by rw [hBW5.cell, Nat.zero_add]; rw [← List.getElem?_toArray] at hu; exact hu
  refine (code14_any [18446744069414584593, 803078] (by decide) (by decide) hlU).mono ?_
  rintro e w6 ⟨v6, rfl, ho6, hk6⟩
  have hk46 : Keep No w4 w6 := hkW5.trans' hk6
  obtain ⟨a6, c6, rfl, _, _⟩ := ho6.fl.shape
  have hS6 := hS4.no (fun k hk => hk.2) hk46
  have hb6 := FlO.bts8 ho6
  have hK6 := hK4.trans' hk46
  have hA6 : ∀ k, (w2.heap.size ≤ k ∧ k < w4.heap.size) → k < w6.heap.size := fun k hk => Nat.lt_of_lt_of_le hk.2 hk46.size
  have HSZ46 := Lib.hid hk46.size
  clear hlU hS4 hK4 hkW5 hBW5 hk6 hk46 ho6
  rw [show (codeL [18446744069414584593, 803078]).length = 16 from rfl] at *
  go_wp2_with (first | (at_builtin; refine wl_append rfl _ _ _ _ rfl _ _ rfl rfl ?_) | (at_make; refine wl_make rfl _ _ _ rfl _ _ rfl rfl ?_) | (at_mapUpdate; refine wl_mapUpdate rfl _ _ _ _ rfl _ _ _ rfl rfl rfl ?_) | (at_lookup; refine wl_lookup rfl _ _ _ _ rfl _ _ rfl rfl ?_) | (at_delete; refine wl_delete rfl _ _ _ _ rfl _ _ rfl rfl ?_) | (with_reducible refine wl_len rfl _ _ rfl _ rfl ?_) | (with_reducible refine wl_range rfl _ _ rfl _ rfl ?_) | (with_reducible refine wl_next rfl _ rfl _ rfl ?_) | (with_reducible refine wl_copy rfl _ _ _ _ rfl _ _ rfl rfl ?_) | (with_reducible refine wl_max rfl _ _ _ _ rfl _ _ rfl rfl ?_) | (with_reducible refine wl_min rfl _ _ _ _ rfl _ _ rfl rfl ?_))
  have hpo := vpoke_any (w := w6) 256 (codeL [18446744069414584593, 803078]) (by omega) (by decide) hS6 hA6 hb6 (fun k hk ha => by have := hk.1; rw [hzW5] at this; omega)
  rw [show (codeL [18446744069414584593, 803078]).length = 16 from rfl, aw_peek] at hpo
  unfold ptrTo at hpo
  refine hpo.mono ?_
  rintro e w7 ⟨rfl, hS7, hk7⟩
  change SRep (fun k => w2.heap.size ≤ k ∧ k < w4.heap.size) w7 d awB mb f2 at hS7
  have hK7 : Keep No w w7 := hK6.trans hk7 fun j hj ha => absurd ha.1 (Nat.not_le.2 (by omega))
  have hA7 : ∀ k, (w2.heap.size ≤ k ∧ k < w4.heap.size) → k < w7.heap.size := fun k hk => Nat.lt_of_lt_of_le (hA6 k hk) hk7.size
  have HSZ47 := Lib.hid (show w4.heap.size ≤ w7.heap.size from Nat.le_trans HSZ46.out hk7.size)
  clear hpo hS6 hb6 hA6 hk7 hK6
  go_wp2_with (first | (at_builtin; refine wl_append rfl _ _ _ _ rfl _ _ rfl rfl ?_) | (at_make; refine wl_make rfl _ _ _ rfl _ _ rfl rfl ?_) | (at_mapUpdate; refine wl_mapUpdate rfl _ _ _ _ rfl _ _ _ rfl rfl rfl ?_) | (at_lookup; refine wl_lookup rfl _ _ _ _ rfl _ _ rfl rfl ?_) | (at_delete; refine wl_delete rfl _ _ _ _ rfl _ _ rfl rfl ?_) | (with_reducible refine wl_len rfl _ _ rfl _ rfl ?_) | (with_reducible refine wl_range rfl _ _ rfl _ rfl ?_) | (with_reducible refine wl_next rfl _ rfl _ rfl ?_) | (with_reducible refine wl_copy rfl _ _ _ _ rfl _ _ rfl rfl ?_) | (with_reducible refine wl_max rfl _ _ _ _ rfl _ _ rfl rfl ?_) | (with_reducible refine wl_min rfl _ _ _ _ rfl _ _ rfl rfl ?_) | (with_reducible refine wl_stAgg rfl _ _ _ rfl _ _ rfl rfl ?_))
  have hst := cpustep_any (w := w7) aw0 aw0_ok (HT.out.no hK7) hS7 hA7
  rw [aw_1] at hst
  unfold encO3 ptrTo at hst
  dsimp only at hst
  rw [show cellsS aw0 = #[.int .u64 0, .int .u64 0, .int .u64 0, .int .u64 0, .int .u64 0, .int .u64 0, .int .u64 0, .int .u64 0, .int .u64 0, .int .u64 0, .int .u64 0, .int .u64 0, .int .u64 0, .int .u64 0, .int .u64 0, .int .u64 0, .int .u64 0, .int .u64 0, .int .u64 0, .int .u64 0, .int .u64 0, .int .u64 0, .int .u64 0, .int .u64 0, .int .u64 0, .int .u64 0, .int .u64 0, .int .u64 0, .int .u64 0, .int .u64 0, .int .u64 0, .int .u64 0, .int .u64 256, .int .u64 0] from rfl] at hst
  refine hst.mono ?_
  rintro e w8 ⟨rfl, hS8, hk8⟩
  have hK8 : Keep No w w8 := hK7.trans hk8 fun j hj ha => absurd ha.1 (Nat.not_le.2 (by omega))
  have hA8 : ∀ k, (w2.heap.size ≤ k ∧ k < w4.heap.size) → k < w8.heap.size := fun k hk => Nat.lt_of_lt_of_le (hA7 k hk) hk8.size
  have hst2 := fun (W : World) (hk : Keep No w8 W) => cpustep_any (w := W) aw1 aw1_ok (HT.out.no (hK8.trans' hk)) (hS8.no hA8 hk) fun k hk' => Nat.lt_of_lt_of_le (hA8 k hk') hk.size
  rw [aw_2] at hst2
  have hs1 := cellsS_size aw1_ok
  have hs2 := stC_sz aw1_ok
  have hs3 := cellsS_one aw1
  have hs4 := fun W => stC_eq aw1_ok W
  have hc1 : (cellsS aw1)[1]? = some (.int .u64 18446744073709551615) := rfl
  have hc32 : (cellsS aw1)[32]? = some (.int .u64 264) := rfl
  unfold encO3 ptrTo at hst2
  dsimp only at hst2
  generalize cellsS aw1 = C1 at *
  have HS1 := Lib.hid hs1
  have HS2 := Lib.hid hs2
  have HS3 := Lib.hid hs3
  have HS4 := Lib.hid hs4
  have HC1 := Lib.hid hc1
  have HC32 := Lib.hid hc32
  have HST := Lib.hid hst2
  have hk468 := Lib.hid (show w4.heap.size ≤ w8.heap.size from Nat.le_trans HSZ47.out hk8.size)
  clear hst hS7 hA7 hK7 hk8 hs1 hs2 hs3 hs4 hc1 hc32 hst2
  go_wp2_with (first | (at_builtin; refine wl_append rfl _ _ _ _ rfl _ _ rfl rfl ?_) | (at_make; refine wl_make rfl _ _ _ rfl _ _ rfl rfl ?_) | (at_mapUpdate; refine wl_mapUpdate rfl _ _ _ _ rfl _ _ _ rfl rfl rfl ?_) | (at_lookup; refine wl_lookup rfl _ _ _ _ rfl _ _ rfl rfl ?_) | (at_delete; refine wl_delete rfl _ _ _ _ rfl _ _ rfl rfl ?_) | (with_reducible refine wl_len rfl _ _ rfl _ rfl ?_) | (with_reducible refine wl_range rfl _ _ rfl _ rfl ?_) | (with_reducible refine wl_next rfl _ rfl _ rfl ?_) | (with_reducible refine wl_copy rfl _ _ _ _ rfl _ _ rfl rfl ?_) | (with_reducible refine wl_max rfl _ _ _ _ rfl _ _ rfl rfl ?_) | (with_reducible refine wl_min rfl _ _ _ _ rfl _ _ rfl rfl ?_) | (with_reducible refine wl_build rfl 26 _ rfl ?_) | (with_reducible refine wl_stAgg rfl _ _ _ rfl _ _ rfl rfl ?_) | (with_reducible refine wl_ld rfl _ 26 rfl _ rfl ?_) | (with_reducible refine wl_ld rfl _ 23 rfl _ rfl ?_) | (with_reducible refine wl_ldg (by with_unfolding_all rfl) _ 26 rfl _ rfl ?_) | (with_reducible refine wl_eqg (by with_unfolding_all rfl) _ _ 26 _ rfl _ rfl rfl ?_) | (with_reducible refine wl_neg (by with_unfolding_all rfl) _ _ 26 _ rfl _ rfl rfl ?_))
  have hkW9 : Keep No w8 (w8.alloc (.cells #[.int .u64 0, .int .u64 0, .int .u64 0, .int .u64 0, .int .u64 0, .int .u64 0, .int .u64 0, .int .u64 0, .int .u64 0, .int .u64 0, .int .u64 0, .int .u64 0, .int .u64 0, .int .u64 0, .int .u64 0, .int .u64 0, .int .u64 0, .int .u64 0, .int .u64 0, .int .u64 0, .int .u64 0, .int .u64 0, .int .u64 0, .int .u64 0, .int .u64 0, .int .u64 0, .int .u64 0, .int .u64 0, .int .u64 0, .int .u64 0, .int .u64 0, .int .u64 0, .int .u64 0, .int .u64 0] 26)) := (Keep.refl _ _).alloc _
  have hBW9 : Blk (w8.alloc (.cells #[.int .u64 0, .int .u64 0, .int .u64 0, .int .u64 0, .int .u64 0, .int .u64 0, .int .u64 0, .int .u64 0, .int .u64 0, .int .u64 0, .int .u64 0, .int .u64 0, .int .u64 0, .int .u64 0, .int .u64 0, .int .u64 0, .int .u64 0, .int .u64 0, .int .u64 0, .int .u64 0, .int .u64 0, .int .u64 0, .int .u64 0, .int .u64 0, .int .u64 0, .int .u64 0, .int .u64 0, .int .u64 0, .int .u64 0, .int .u64 0, .int .u64 0, .int .u64 0, .int .u64 0, .int .u64 0] 26)) w8.heap.size #[.int .u64 0, .int .u64 0, .int .u64 0, .int .u64 0, .int .u64 0, .int .u64 0, .int .u64 0, .int .u64 0, .int .u64 0, .int .u64 0, .int .u64 0, .int .u64 0, .int .u64 0, .int .u64 0, .int .u64 0, .int .u64 0, .int .u64 0, .int .u64 0, .int .u64 0, .int .u64 0, .int .u64 0, .int .u64 0, .int .u64 0, .int .u64 0, .int .u64 0, .int .u64 0, .int .u64 0, .int .u64 0, .int .u64 0, .int .u64 0, .int .u64 0, .int .u64 0, .int .u64 0, .int .u64 0] 26 := Blk.new _ _ _
  have hzW9 : (w8.alloc (.cells #[.int .u64 0, .int .u64 0, .int .u64 0, .int .u64 0, .int .u64 0, .int .u64 0, .int .u64 0, .int .u64 0, .int .u64 0, .int .u64 0, .int .u64 0, .int .u64 0, .int .u64 0, .int .u64 0, .int .u64 0, .int .u64 0, .int .u64 0, .int .u64 0, .int .u64 0, .int .u64 0, .int .u64 0, .int .u64 0, .int .u64 0, .int .u64 0, .int .u64 0, .int .u64 0, .int .u64 0, .int .u64 0, .int .u64 0, .int .u64 0, .int .u64 0, .int .u64 0, .int .u64 0, .int .u64 0] 26)).heap.size = w8.heap.size + 1 := World.size_alloc _ _
  generalize w8.alloc (.cells #[.int .u64 0, .int .u64 0, .int .u64 0, .int .u64 0, .int .u64 0, .int .u64 0, .int .u64 0, .int .u64 0, .int .u64 0, .int .u64 0, .int .u64 0, .int .u64 0, .int .u64 0, .int .u64 0, .int .u64 0, .int .u64 0, .int .u64 0, .int .u64 0, .int .u64 0, .int .u64 0, .int .u64 0, .int .u64 0, .int .u64 0, .int .u64 0, .int .u64 0, .int .u64 0, .int .u64 0, .int .u64 0, .int .u64 0, .int .u64 0, .int .u64 0, .int .u64 0, .int .u64 0, .int .u64 0] 26) = W9 at *
  have hkW10 : Keep No W9 (W9.alloc (.cells #[.int .i64 0, .int .i64 0, .int .u64 0] 36)) := (Keep.refl _ _).alloc _
  have hBW10 : Blk (W9.alloc (.cells #[.int .i64 0, .int .i64 0, .int .u64 0] 36)) W9.heap.size #[.int .i64 0, .int .i64 0, .int .u64 0] 36 := Blk.new _ _ _
  have hzW10 : (W9.alloc (.cells #[.int .i64 0, .int .i64 0, .int .u64 0] 36)).heap.size = W9.heap.size + 1 := World.size_alloc _ _
  generalize W9.alloc (.cells #[.int .i64 0, .int .i64 0, .int .u64 0] 36) = W10 at *
  rw [hzW9] at hBW10 hzW10
  have b9 := hBW9.keep hkW10 fun h => h
  have hK10 := hkW9.trans' hkW10
  clear hBW9 hkW9 hkW10 hzW9
  refine rg_stAgg b9 HS2.out (by rw [HS1.out]; rfl) HS3.out ?_
  intro wa b9a hka hza
  have hKa : Keep No w8 wa := hK10.trans hka fun j hj e => by have e2 : j = w8.heap.size := e; omega
  have b10a := hBW10.keep hka fun e => by have e2 : w8.heap.size + 1 = w8.heap.size := e; omega
  go_wp2_with (first | (at_builtin; refine wl_append rfl _ _ _ _ rfl _ _ rfl rfl ?_) | (at_make; refine wl_make rfl _ _ _ rfl _ _ rfl rfl ?_) | (at_mapUpdate; refine wl_mapUpdate rfl _ _ _ _ rfl _ _ _ rfl rfl rfl ?_) | (at_lookup; refine wl_lookup rfl _ _ _ _ rfl _ _ rfl rfl ?_) | (at_delete; refine wl_delete rfl _ _ _ _ rfl _ _ rfl rfl ?_) | (with_reducible refine wl_len rfl _ _ rfl _ rfl ?_) | (with_reducible refine wl_range rfl _ _ rfl _ rfl ?_) | (with_reducible refine wl_next rfl _ rfl _ rfl ?_) | (with_reducible refine wl_copy rfl _ _ _ _ rfl _ _ rfl rfl ?_) | (with_reducible refine wl_max rfl _ _ _ _ rfl _ _ rfl rfl ?_) | (with_reducible refine wl_min rfl _ _ _ _ rfl _ _ rfl rfl ?_) | (with_reducible refine wl_build rfl 26 _ rfl ?_) | (with_reducible refine wl_stAgg rfl _ _ _ rfl _ _ rfl rfl ?_) | (with_reducible refine wl_ld rfl _ 26 rfl _ rfl ?_) | (with_reducible refine wl_ld rfl _ 23 rfl _ rfl ?_) | (with_reducible refine wl_ldg (by with_unfolding_all rfl) _ 26 rfl _ rfl ?_) | (with_reducible refine wl_eqg (by with_unfolding_all rfl) _ _ 26 _ rfl _ rfl rfl ?_) | (with_reducible refine wl_neg (by with_unfolding_all rfl) _ _ 26 _ rfl _ rfl rfl ?_))
  refine rg_stAgg b10a (by kernel_rfl) (by rfl) (by simp [Value.oneCell']) ?_
  intro wb b10 hkb hzb
  have hKb : Keep No w8 wb := hKa.trans hkb fun j hj e => by have e2 : j = w8.heap.size + 1 := e; omega
  have b9 := b9a.keep hkb fun e => by have e2 : w8.heap.size = w8.heap.size + 1 := e; omega
  have hc := HST.out wb hKb
  clear hK10 hka hza hKa b10a b9a hkb hzb hBW10 hzW10
  go_wp2_with (first | (at_builtin; refine wl_append rfl _ _ _ _ rfl _ _ rfl rfl ?_) | (at_make; refine wl_make rfl _ _ _ rfl _ _ rfl rfl ?_) | (at_mapUpdate; refine wl_mapUpdate rfl _ _ _ _ rfl _ _ _ rfl rfl rfl ?_) | (at_lookup; refine wl_lookup rfl _ _ _ _ rfl _ _ rfl rfl ?_) | (at_delete; refine wl_delete rfl _ _ _ _ rfl _ _ rfl rfl ?_) | (with_reducible refine wl_len rfl _ _ rfl _ rfl ?_) | (with_reducible refine wl_range rfl _ _ rfl _ rfl ?_) | (with_reducible refine wl_next rfl _ rfl _ rfl ?_) | (with_reducible refine wl_copy rfl _ _ _ _ rfl _ _ rfl rfl ?_) | (with_reducible refine wl_max rfl _ _ _ _ rfl _ _ rfl rfl ?_) | (with_reducible refine wl_min rfl _ _ _ _ rfl _ _ rfl rfl ?_) | (with_reducible refine wl_build rfl 26 _ rfl ?_) | (with_reducible refine wl_stAgg rfl _ _ _ rfl _ _ rfl rfl ?_) | (with_reducible refine wl_ld rfl _ 26 rfl _ rfl ?_) | (with_reducible refine wl_ld rfl _ 23 rfl _ rfl ?_) | (with_reducible refine wl_ldg (by with_unfolding_all rfl) _ 26 rfl _ rfl ?_) | (with_reducible refine wl_eqg (by with_unfolding_all rfl) _ _ 26 _ rfl _ rfl rfl ?_) | (with_reducible refine wl_neg (by with_unfolding_all rfl) _ _ 26 _ rfl _ rfl rfl ?_))
  refine rg_ld b9 Tryd.underlying26 rfl HS2.out ?_
  go_wp2_with (first | (at_builtin; refine wl_append rfl _ _ _ _ rfl _ _ rfl rfl ?_) | (at_make; refine wl_make rfl _ _ _ rfl _ _ rfl rfl ?_) | (at_mapUpdate; refine wl_mapUpdate rfl _ _ _ _ rfl _ _ _ rfl rfl rfl ?_) | (at_lookup; refine wl_lookup rfl _ _ _ _ rfl _ _ rfl rfl ?_) | (at_delete; refine wl_delete rfl _ _ _ _ rfl _ _ rfl rfl ?_) | (with_reducible refine wl_len rfl _ _ rfl _ rfl ?_) | (with_reducible refine wl_range rfl _ _ rfl _ rfl ?_) | (with_reducible refine wl_next rfl _ rfl _ rfl ?_) | (with_reducible refine wl_copy rfl _ _ _ _ rfl _ _ rfl rfl ?_) | (with_reducible refine wl_max rfl _ _ _ _ rfl _ _ rfl rfl ?_) | (with_reducible refine wl_min rfl _ _ _ _ rfl _ _ rfl rfl ?_) | (with_reducible refine wl_build rfl 26 _ rfl ?_) | (with_reducible refine wl_stAgg rfl _ _ _ rfl _ _ rfl rfl ?_) | (with_reducible refine wl_ld rfl _ 26 rfl _ rfl ?_) | (with_reducible refine wl_ld rfl _ 23 rfl _ rfl ?_) | (with_reducible refine wl_ldg (by with_unfolding_all rfl) _ 26 rfl _ rfl ?_) | (with_reducible refine wl_eqg (by with_unfolding_all rfl) _ _ 26 _ rfl _ rfl rfl ?_) | (with_reducible refine wl_neg (by with_unfolding_all rfl) _ _ 26 _ rfl _ rfl rfl ?_))
  refine hc.mono ?_
  rintro e w11 ⟨rfl, _, hk11⟩
  have hK11 : Keep No w w11 := (hK8.trans' hKb).trans hk11 fun j hj ha => absurd ha.1 (Nat.not_le.2 (by omega))
  have hg8 : w4.heap.size ≤ w8.heap.size := by have := hk468.out; exact this
  have b9 := b9.keep hk11 fun h => by omega
  have b10 := b10.keep hk11 fun h => by omega
  have hl11 := Lib.hid b10.lt
  clear hc hk11
  go_wp2_with (first | (at_builtin; refine wl_append rfl _ _ _ _ rfl _ _ rfl rfl ?_) | (at_make; refine wl_make rfl _ _ _ rfl _ _ rfl rfl ?_) | (at_mapUpdate; refine wl_mapUpdate rfl _ _ _ _ rfl _ _ _ rfl rfl rfl ?_) | (at_lookup; refine wl_lookup rfl _ _ _ _ rfl _ _ rfl rfl ?_) | (at_delete; refine wl_delete rfl _ _ _ _ rfl _ _ rfl rfl ?_) | (with_reducible refine wl_len rfl _ _ rfl _ rfl ?_) | (with_reducible refine wl_range rfl _ _ rfl _ rfl ?_) | (with_reducible refine wl_next rfl _ rfl _ rfl ?_) | (with_reducible refine wl_copy rfl _ _ _ _ rfl _ _ rfl rfl ?_) | (with_reducible refine wl_max rfl _ _ _ _ rfl _ _ rfl rfl ?_) | (with_reducible refine wl_min rfl _ _ _ _ rfl _ _ rfl rfl ?_) | (with_reducible refine wl_build rfl 26 _ rfl ?_) | (with_reducible refine wl_stAgg rfl _ _ _ rfl _ _ rfl rfl ?_) | (with_reducible refine wl_ld rfl _ 26 rfl _ rfl ?_) | (with_reducible refine wl_ld rfl _ 23 rfl _ rfl ?_) | (with_reducible refine wl_ldg (by with_unfolding_all rfl) _ 26 rfl _ rfl ?_) | (with_reducible refine wl_eqg (by with_unfolding_all rfl) _ _ 26 _ rfl _ rfl rfl ?_) | (with_reducible refine wl_neg (by with_unfolding_all rfl) _ _ 26 _ rfl _ rfl rfl ?_))
  have hkV9 : Keep No w11 (w11.alloc (.cells #[.int .u64 0, .int .u64 0, .int .u64 0, .int .u64 0, .int .u64 0, .int .u64 0, .int .u64 0, .int .u64 0, .int .u64 0, .int .u64 0, .int .u64 0, .int .u64 0, .int .u64 0, .int .u64 0, .int .u64 0, .int .u64 0, .int .u64 0, .int .u64 0, .int .u64 0, .int .u64 0, .int .u64 0, .int .u64 0, .int .u64 0, .int .u64 0, .int .u64 0, .int .u64 0, .int .u64 0, .int .u64 0, .int .u64 0, .int .u64 0, .int .u64 0, .int .u64 0, .int .u64 0, .int .u64 0] 26)) := (Keep.refl _ _).alloc _
  have hBV9 : Blk (w11.alloc (.cells #[.int .u64 0, .int .u64 0, .int .u64 0, .int .u64 0, .int .u64 0, .int .u64 0, .int .u64 0, .int .u64 0, .int .u64 0, .int .u64 0, .int .u64 0, .int .u64 0, .int .u64 0, .int .u64 0, .int .u64 0, .int .u64 0, .int .u64 0, .int .u64 0, .int .u64 0, .int .u64 0, .int .u64 0, .int .u64 0, .int .u64 0, .int .u64 0, .int .u64 0, .int .u64 0, .int .u64 0, .int .u64 0, .int .u64 0, .int .u64 0, .int .u64 0, .int .u64 0, .int .u64 0, .int .u64 0] 26)) w11.heap.size #[.int .u64 0, .int .u64 0, .int .u64 0, .int .u64 0, .int .u64 0, .int .u64 0, .int .u64 0, .int .u64 0, .int .u64 0, .int .u64 0, .int .u64 0, .int .u64 0, .int .u64 0, .int .u64 0, .int .u64 0, .int .u64 0, .int .u64 0, .int .u64 0, .int .u64 0, .int .u64 0, .int .u64 0, .int .u64 0, .int .u64 0, .int .u64 0, .int .u64 0, .int .u64 0, .int .u64 0, .int .u64 0, .int .u64 0, .int .u64 0, .int .u64 0, .int .u64 0, .int .u64 0, .int .u64 0] 26 := Blk.new _ _ _
  have hzV9 : (w11.alloc (.cells #[.int .u64 0, .int .u64 0, .int .u64 0, .int .u64 0, .int .u64 0, .int .u64 0, .int .u64 0, .int .u64 0, .int .u64 0, .int .u64 0, .int .u64 0, .int .u64 0, .int .u64 0, .int .u64 0, .int .u64 0, .int .u64 0, .int .u64 0, .int .u64 0, .int .u64 0, .int .u64 0, .int .u64 0, .int .u64 0, .int .u64 0, .int .u64 0, .int .u64 0, .int .u64 0, .int .u64 0, .int .u64 0, .int .u64 0, .int .u64 0, .int .u64 0, .int .u64 0, .int .u64 0, .int .u64 0] 26)).heap.size = w11.heap.size + 1 := World.size_alloc _ _
  generalize w11.alloc (.cells #[.int .u64 0, .int .u64 0, .int .u64 0, .int .u64 0, .int .u64 0, .int .u64 0, .int .u64 0, .int .u64 0, .int .u64 0, .int .u64 0, .int .u64 0, .int .u64 0, .int .u64 0, .int .u64 0, .int .u64 0, .int .u64 0, .int .u64 0, .int .u64 0, .int .u64 0, .int .u64 0, .int .u64 0, .int .u64 0, .int .u64 0, .int .u64 0, .int .u64 0, .int .u64 0, .int .u64 0, .int .u64 0, .int .u64 0, .int .u64 0, .int .u64 0, .int .u64 0, .int .u64 0, .int .u64 0] 26) = V9 at *
  have hkV10 : Keep No V9 (V9.alloc (.cells #[.int .i64 0, .int .i64 0, .int .u64 0] 36)) := (Keep.refl _ _).alloc _
  have hBV10 : Blk (V9.alloc (.cells #[.int .i64 0, .int .i64 0, .int .u64 0] 36)) V9.heap.size #[.int .i64 0, .int .i64 0, .int .u64 0] 36 := Blk.new _ _ _
  have hzV10 : (V9.alloc (.cells #[.int .i64 0, .int .i64 0, .int .u64 0] 36)).heap.size = V9.heap.size + 1 := World.size_alloc _ _
  generalize V9.alloc (.cells #[.int .i64 0, .int .i64 0, .int .u64 0] 36) = V10 at *
  rw [hzV9] at hBV10 hzV10
  have b9 := (b9.keep hkV9 fun h => h).keep hkV10 fun h => h
  have b10 := (b10.keep hkV9 fun h => h).keep hkV10 fun h => h
  have hl10 := b10.lt
  have c9 := hBV9.keep hkV10 fun h => h
  have hL10 := hkV9.trans' hkV10
  clear hBV9 hkV9 hkV10 hzV9
  have hlt8 : w8.heap.size + 1 < w11.heap.size := by have := hl11.out; exact this
  refine rg_stAgg c9 HS2.out (by rw [HS1.out]; rfl) HS3.out ?_
  intro va c9a hka hza
  have hLa : Keep No w11 va := hL10.trans hka fun j hj e => by have e2 : j = w11.heap.size := e; omega
  have c10a := hBV10.keep hka fun e => by have e2 : w11.heap.size + 1 = w11.heap.size := e; omega
  have b9 := b9.keep hka fun e => by have e2 : w8.heap.size = w11.heap.size := e; omega
  have b10 := b10.keep hka fun e => by have e2 : w8.heap.size + 1 = w11.heap.size := e; omega
  go_wp2_with (first | (at_builtin; refine wl_append rfl _ _ _ _ rfl _ _ rfl rfl ?_) | (at_make; refine wl_make rfl _ _ _ rfl _ _ rfl rfl ?_) | (at_mapUpdate; refine wl_mapUpdate rfl _ _ _ _ rfl _ _ _ rfl rfl rfl ?_) | (at_lookup; refine wl_lookup rfl _ _ _ _ rfl _ _ rfl rfl ?_) | (at_delete; refine wl_delete rfl _ _ _ _ rfl _ _ rfl rfl ?_) | (with_reducible refine wl_len rfl _ _ rfl _ rfl ?_) | (with_reducible refine wl_range rfl _ _ rfl _ rfl ?_) | (with_reducible refine wl_next rfl _ rfl _ rfl ?_) | (with_reducible refine wl_copy rfl _ _ _ _ rfl _ _ rfl rfl ?_) | (with_reducible refine wl_max rfl _ _ _ _ rfl _ _ rfl rfl ?_) | (with_reducible refine wl_min rfl _ _ _ _ rfl _ _ rfl rfl ?_) | (with_reducible refine wl_build rfl 26 _ rfl ?_) | (with_reducible refine wl_stAgg rfl _ _ _ rfl _ _ rfl rfl ?_) | (with_reducible refine wl_ld rfl _ 26 rfl _ rfl ?_) | (with_reducible refine wl_ld rfl _ 23 rfl _ rfl ?_) | (with_reducible refine wl_ldg (by with_unfolding_all rfl) _ 26 rfl _ rfl ?_) | (with_reducible refine wl_eqg (by with_unfolding_all rfl) _ _ 26 _ rfl _ rfl rfl ?_) | (with_reducible refine wl_neg (by with_unfolding_all rfl) _ _ 26 _ rfl _ rfl rfl ?_))
  refine rg_stAgg c10a (by kernel_rfl) (by rfl) (by simp [Value.oneCell']) ?_
  intro vb c10 hkb hzb
  have hLb : Keep No w11 vb := hLa.trans hkb fun j hj e => by have e2 : j = w11.heap.size + 1 := e; omega
  have c9 := c9a.keep hkb fun e => by have e2 : w11.heap.size = w11.heap.size + 1 := e; omega
  have b9 := b9.keep hkb fun e => by have e2 : w8.heap.size = w11.heap.size + 1 := e; omega
  have b10 := b10.keep hkb fun e => by have e2 : w8.heap.size + 1 = w11.heap.size + 1 := e; omega
  have hKK : Keep No w vb := hK11.trans' hLb
  have q1 : vb.cell? ⟨w8.heap.size, 1, none⟩ = some (.int .u64 18446744073709551615) := (b9.cell 1).trans HC1.out
  have q2 : vb.cell? ⟨w8.heap.size, 32, none⟩ = some (.int .u64 264) := (b9.cell 32).trans HC32.out
  have q3 : vb.cell? ⟨w8.heap.size + 1, 0, none⟩ = some (.int .i64 0) := b10.cell 0
  have q4 : vb.cell? ⟨w11.heap.size + 1, 0, none⟩ = some (.int .i64 3) := c10.cell 0
  have q5 : vb.cell? ⟨w11.heap.size + 1, 1, none⟩ = some (.int .i64 43) := c10.cell 1
  have q6 : vb.cell? ⟨w11.heap.size + 1, 2, none⟩ = some (.int .u64 264) := c10.cell 2
  clear hLa hka hza c10a c9a hkb hzb hBV10 hzV10 hL10 hLb hK11 hKb hK8
  go_wp2_with (first | (at_builtin; refine wl_append rfl _ _ _ _ rfl _ _ rfl rfl ?_) | (at_make; refine wl_make rfl _ _ _ rfl _ _ rfl rfl ?_) | (at_mapUpdate; refine wl_mapUpdate rfl _ _ _ _ rfl _ _ _ rfl rfl rfl ?_) | (at_lookup; refine wl_lookup rfl _ _ _ _ rfl _ _ rfl rfl ?_) | (at_delete; refine wl_delete rfl _ _ _ _ rfl _ _ rfl rfl ?_) | (with_reducible refine wl_len rfl _ _ rfl _ rfl ?_) | (with_reducible refine wl_range rfl _ _ rfl _ rfl ?_) | (with_reducible refine wl_next rfl _ rfl _ rfl ?_) | (with_reducible refine wl_copy rfl _ _ _ _ rfl _ _ rfl rfl ?_) | (with_reducible refine wl_max rfl _ _ _ _ rfl _ _ rfl rfl ?_) | (with_reducible refine wl_min rfl _ _ _ _ rfl _ _ rfl rfl ?_) | (with_reducible refine wl_build rfl 26 _ rfl ?_) | (with_reducible refine wl_stAgg rfl _ _ _ rfl _ _ rfl rfl ?_) | (with_reducible refine wl_ld rfl _ 26 rfl _ rfl ?_) | (with_reducible refine wl_ld rfl _ 23 rfl _ rfl ?_) | (with_reducible refine wl_ldg (by with_unfolding_all rfl) _ 26 rfl _ rfl ?_) | (with_reducible refine wl_eqg (by with_unfolding_all rfl) _ _ 26 _ rfl _ rfl rfl ?_) | (with_reducible refine wl_neg (by with_unfolding_all rfl) _ _ 26 _ rfl _ rfl rfl ?_))
  refine rg_ld c9 Tryd.underlying26 rfl HS2.out ?_
  go_wp2_with (first | (at_builtin; refine wl_append rfl _ _ _ _ rfl _ _ rfl rfl ?_) | (at_make; refine wl_make rfl _ _ _ rfl _ _ rfl rfl ?_) | (at_mapUpdate; refine wl_mapUpdate rfl _ _ _ _ rfl _ _ _ rfl rfl rfl ?_) | (at_lookup; refine wl_lookup rfl _ _ _ _ rfl _ _ rfl rfl ?_) | (at_delete; refine wl_delete rfl _ _ _ _ rfl _ _ rfl rfl ?_) | (with_reducible refine wl_len rfl _ _ rfl _ rfl ?_) | (with_reducible refine wl_range rfl _ _ rfl _ rfl ?_) | (with_reducible refine wl_next rfl _ rfl _ rfl ?_) | (with_reducible refine wl_copy rfl _ _ _ _ rfl _ _ rfl rfl ?_) | (with_reducible refine wl_max rfl _ _ _ _ rfl _ _ rfl rfl ?_) | (with_reducible refine wl_min rfl _ _ _ _ rfl _ _ rfl rfl ?_) | (with_reducible refine wl_build rfl 26 _ rfl ?_) | (with_reducible refine wl_stAgg rfl _ _ _ rfl _ _ rfl rfl ?_) | (with_reducible refine wl_ld rfl _ 26 rfl _ rfl ?_) | (with_reducible refine wl_ld rfl _ 23 rfl _ rfl ?_) | (with_reducible refine wl_ldg (by with_unfolding_all rfl) _ 26 rfl _ rfl ?_) | (with_reducible refine wl_eqg (by with_unfolding_all rfl) _ _ 26 _ rfl _ rfl rfl ?_) | (with_reducible refine wl_neg (by with_unfolding_all rfl) _ _ 26 _ rfl _ rfl rfl ?_))
  refine rg_ld b9 Tryd.underlying26 rfl HS2.out ?_
  go_wp2_with (first | (at_builtin; refine wl_append rfl _ _ _ _ rfl _ _ rfl rfl ?_) | (at_make; refine wl_make rfl _ _ _ rfl _ _ rfl rfl ?_) | (at_mapUpdate; refine wl_mapUpdate rfl _ _ _ _ rfl _ _ _ rfl rfl rfl ?_) | (at_lookup; refine wl_lookup rfl _ _ _ _ rfl _ _ rfl rfl ?_) | (at_delete; refine wl_delete rfl _ _ _ _ rfl _ _ rfl rfl ?_) | (with_reducible refine wl_len rfl _ _ rfl _ rfl ?_) | (with_reducible refine wl_range rfl _ _ rfl _ rfl ?_) | (with_reducible refine wl_next rfl _ rfl _ rfl ?_) | (with_reducible refine wl_copy rfl _ _ _ _ rfl _ _ rfl rfl ?_) | (with_reducible refine wl_max rfl _ _ _ _ rfl _ _ rfl rfl ?_) | (with_reducible refine wl_min rfl _ _ _ _ rfl _ _ rfl rfl ?_) | (with_reducible refine wl_build rfl 26 _ rfl ?_) | (with_reducible refine wl_stAgg rfl _ _ _ rfl _ _ rfl rfl ?_) | (with_reducible refine wl_ld rfl _ 26 rfl _ rfl ?_) | (with_reducible refine wl_ld rfl _ 23 rfl _ rfl ?_) | (with_reducible refine wl_ldg (by with_unfolding_all rfl) _ 26 rfl _ rfl ?_) | (with_reducible refine wl_eqg (by with_unfolding_all rfl) _ _ 26 _ rfl _ rfl rfl ?_) | (with_reducible refine wl_neg (by with_unfolding_all rfl) _ _ 26 _ rfl _ rfl rfl ?_))
  refine ⟨by kernel_rfl, HS4.out _, ?_⟩
  go_wp2_with (first | (at_builtin; refine wl_append rfl _ _ _ _ rfl _ _ rfl rfl ?_) | (at_make; refine wl_make rfl _ _ _ rfl _ _ rfl rfl ?_) | (at_mapUpdate; refine wl_mapUpdate rfl _ _ _ _ rfl _ _ _ rfl rfl rfl ?_) | (at_lookup; refine wl_lookup rfl _ _ _ _ rfl _ _ rfl rfl ?_) | (at_delete; refine wl_delete rfl _ _ _ _ rfl _ _ rfl rfl ?_) | (with_reducible refine wl_len rfl _ _ rfl _ rfl ?_) | (with_reducible refine wl_range rfl _ _ rfl _ rfl ?_) | (with_reducible refine wl_next rfl _ rfl _ rfl ?_) | (with_reducible refine wl_copy rfl _ _ _ _ rfl _ _ rfl rfl ?_) | (with_reducible refine wl_max rfl _ _ _ _ rfl _ _ rfl rfl ?_) | (with_reducible refine wl_min rfl _ _ _ _ rfl _ _ rfl rfl ?_) | (with_reducible refine wl_build rfl 26 _ rfl ?_) | (with_reducible refine wl_stAgg rfl _ _ _ rfl _ _ rfl rfl ?_) | (with_reducible refine wl_ld rfl _ 26 rfl _ rfl ?_) | (with_reducible refine wl_ld rfl _ 23 rfl _ rfl ?_) | (with_reducible refine wl_ldg (by with_unfolding_all rfl) _ 26 rfl _ rfl ?_) | (with_reducible refine wl_eqg (by with_unfolding_all rfl) _ _ 26 _ rfl _ rfl rfl ?_) | (with_reducible refine wl_neg (by with_unfolding_all rfl) _ _ 26 _ rfl _ rfl rfl ?_))
  go_ret
  exact ⟨rfl, hKK⟩
set_option maxRecDepth 100000 in
set_option maxHeartbeats 4000000 in
theorem cpustays_any (x tls pc : Nat) (r : List Nat) (hx : x < 18446744073709551616) (htl : tls < 18446744073709551616) (hpc : pc < 18446744073709551616) (hr : r.length = 32) (hrl : ∀ y ∈ r, y < 18446744073709551616) (hT : Tabs w) :
    Calls Tryd.prog 3 #[.int .u64 (x : Int), .agg (r.map uv).toArray, .int .u64 (tls : Int), .int .u64 (pc : Int)] w fun e w' => e = .returned (.bool true) ∧ Keep No w w' := by
  have HT := Lib.hid hT
  clear hT
  have hrz : (r.map uv).toArray.size = 32 := by simpa using hr
  have hok : StOk ⟨r, 256, tls⟩ := ⟨hr, hrl, (by show (256 : Nat) < _; decide), htl⟩
  have hbu : Tryd.prog.built 26 [(0, .agg (r.map uv).toArray), (1, .int .u64 256), (2, .int .u64 (tls : Int))] = some (cellsS ⟨r, 256, tls⟩) := built_st (r.map uv) (by simpa using hr) 256 tls
  have hrs : ∀ i, i < 32 → some (uv ((⟨r, 256, tls⟩ : St).reg i)) = (r.map uv).toArray[i]? := fun i hi => by
    have hl : i < r.length := by omega
    rw [List.getElem?_toArray, List.getElem?_map, List.getElem?_eq_getElem hl]
    unfold St.reg
    rw [List.getD_eq_getElem?_getD, List.getElem?_eq_getElem hl]
    rfl
  generalize (r.map uv).toArray = rs at *
  have HRS0 := Lib.hid hrs
  clear hrs
  have HBU := Lib.hid hbu
  clear hbu
  have HRZ := Lib.hid hrz
  clear hrz
  go_enter Tryd.func3, Tryd.ntmps3
  go_wp2_with (first | (at_builtin; refine wl_append rfl _ _ _ _ rfl _ _ rfl rfl ?_) | (at_make; refine wl_make rfl _ _ _ rfl _ _ rfl rfl ?_) | (at_mapUpdate; refine wl_mapUpdate rfl _ _ _ _ rfl _ _ _ rfl rfl rfl ?_) | (at_lookup; refine wl_lookup rfl _ _ _ _ rfl _ _ rfl rfl ?_) | (at_delete; refine wl_delete rfl _ _ _ _ rfl _ _ rfl rfl ?_) | (with_reducible refine wl_len rfl _ _ rfl _ rfl ?_) | (with_reducible refine wl_range rfl _ _ rfl _ rfl ?_) | (with_reducible refine wl_next rfl _ rfl _ rfl ?_) | (with_reducible refine wl_copy rfl _ _ _ _ rfl _ _ rfl rfl ?_) | (with_reducible refine wl_max rfl _ _ _ _ rfl _ _ rfl rfl ?_) | (with_reducible refine wl_min rfl _ _ _ _ rfl _ _ rfl rfl ?_) | (with_reducible refine wl_build rfl 26 _ rfl ?_) | (with_reducible refine wl_stAgg rfl _ _ _ rfl _ _ rfl rfl ?_) | (with_reducible refine wl_ld rfl _ 26 rfl _ rfl ?_) | (with_reducible refine wl_ld rfl _ 23 rfl _ rfl ?_) | (with_reducible refine wl_ldg (by with_unfolding_all rfl) _ 26 rfl _ rfl ?_) | (with_reducible refine wl_eqg (by with_unfolding_all rfl) _ _ 26 _ rfl _ rfl rfl ?_) | (with_reducible refine wl_neg (by with_unfolding_all rfl) _ _ 26 _ rfl _ rfl rfl ?_))
  have hkW0 : Keep No w (w.alloc (.cells rs 23)) := (Keep.refl _ _).alloc _
  have hBW0 : Blk (w.alloc (.cells rs 23)) w.heap.size rs 23 := Blk.new _ _ _
  have hzW0 : (w.alloc (.cells rs 23)).heap.size = w.heap.size + 1 := World.size_alloc _ _
  generalize w.alloc (.cells rs 23) = W0 at *
  refine (awake14_any (HT.out.no hkW0)).mono ?_
  rintro e w1 ⟨rfl, hk1⟩
  have hK1 := hkW0.trans' hk1
  have b5 := hBW0.keep hk1 fun h => h
  clear hkW0 hk1 hBW0 hzW0
  go_wp2_with (first | (at_builtin; refine wl_append rfl _ _ _ _ rfl _ _ rfl rfl ?_) | (at_make; refine wl_make rfl _ _ _ rfl _ _ rfl rfl ?_) | (at_mapUpdate; refine wl_mapUpdate rfl _ _ _ _ rfl _ _ _ rfl rfl rfl ?_) | (at_lookup; refine wl_lookup rfl _ _ _ _ rfl _ _ rfl rfl ?_) | (at_delete; refine wl_delete rfl _ _ _ _ rfl _ _ rfl rfl ?_) | (with_reducible refine wl_len rfl _ _ rfl _ rfl ?_) | (with_reducible refine wl_range rfl _ _ rfl _ rfl ?_) | (with_reducible refine wl_next rfl _ rfl _ rfl ?_) | (with_reducible refine wl_copy rfl _ _ _ _ rfl _ _ rfl rfl ?_) | (with_reducible refine wl_max rfl _ _ _ _ rfl _ _ rfl rfl ?_) | (with_reducible refine wl_min rfl _ _ _ _ rfl _ _ rfl rfl ?_) | (with_reducible refine wl_build rfl 26 _ rfl ?_) | (with_reducible refine wl_stAgg rfl _ _ _ rfl _ _ rfl rfl ?_) | (with_reducible refine wl_ld rfl _ 26 rfl _ rfl ?_) | (with_reducible refine wl_ld rfl _ 23 rfl _ rfl ?_) | (with_reducible refine wl_ldg (by with_unfolding_all rfl) _ 26 rfl _ rfl ?_) | (with_reducible refine wl_eqg (by with_unfolding_all rfl) _ _ 26 _ rfl _ rfl rfl ?_) | (with_reducible refine wl_neg (by with_unfolding_all rfl) _ _ 26 _ rfl _ rfl rfl ?_))
  refine rg_ld b5 Tryd.underlying23 rfl (by rw [HRZ.out]; kernel_rfl) ?_
  go_wp2_with (first | (at_builtin; refine wl_append rfl _ _ _ _ rfl _ _ rfl rfl ?_) | (at_make; refine wl_make rfl _ _ _ rfl _ _ rfl rfl ?_) | (at_mapUpdate; refine wl_mapUpdate rfl _ _ _ _ rfl _ _ _ rfl rfl rfl ?_) | (at_lookup; refine wl_lookup rfl _ _ _ _ rfl _ _ rfl rfl ?_) | (at_delete; refine wl_delete rfl _ _ _ _ rfl _ _ rfl rfl ?_) | (with_reducible refine wl_len rfl _ _ rfl _ rfl ?_) | (with_reducible refine wl_range rfl _ _ rfl _ rfl ?_) | (with_reducible refine wl_next rfl _ rfl _ rfl ?_) | (with_reducible refine wl_copy rfl _ _ _ _ rfl _ _ rfl rfl ?_) | (with_reducible refine wl_max rfl _ _ _ _ rfl _ _ rfl rfl ?_) | (with_reducible refine wl_min rfl _ _ _ _ rfl _ _ rfl rfl ?_) | (with_reducible refine wl_build rfl 26 _ rfl ?_) | (with_reducible refine wl_stAgg rfl _ _ _ rfl _ _ rfl rfl ?_) | (with_reducible refine wl_ld rfl _ 26 rfl _ rfl ?_) | (with_reducible refine wl_ld rfl _ 23 rfl _ rfl ?_) | (with_reducible refine wl_ldg (by with_unfolding_all rfl) _ 26 rfl _ rfl ?_) | (with_reducible refine wl_eqg (by with_unfolding_all rfl) _ _ 26 _ rfl _ rfl rfl ?_) | (with_reducible refine wl_neg (by with_unfolding_all rfl) _ _ 26 _ rfl _ rfl rfl ?_))
  refine rg_build HBU.out ?_
  go_wp2_with (first | (at_builtin; refine wl_append rfl _ _ _ _ rfl _ _ rfl rfl ?_) | (at_make; refine wl_make rfl _ _ _ rfl _ _ rfl rfl ?_) | (at_mapUpdate; refine wl_mapUpdate rfl _ _ _ _ rfl _ _ _ rfl rfl rfl ?_) | (at_lookup; refine wl_lookup rfl _ _ _ _ rfl _ _ rfl rfl ?_) | (at_delete; refine wl_delete rfl _ _ _ _ rfl _ _ rfl rfl ?_) | (with_reducible refine wl_len rfl _ _ rfl _ rfl ?_) | (with_reducible refine wl_range rfl _ _ rfl _ rfl ?_) | (with_reducible refine wl_next rfl _ rfl _ rfl ?_) | (with_reducible refine wl_copy rfl _ _ _ _ rfl _ _ rfl rfl ?_) | (with_reducible refine wl_max rfl _ _ _ _ rfl _ _ rfl rfl ?_) | (with_reducible refine wl_min rfl _ _ _ _ rfl _ _ rfl rfl ?_) | (with_reducible refine wl_build rfl 26 _ rfl ?_) | (with_reducible refine wl_stAgg rfl _ _ _ rfl _ _ rfl rfl ?_) | (with_reducible refine wl_ld rfl _ 26 rfl _ rfl ?_) | (with_reducible refine wl_ld rfl _ 23 rfl _ rfl ?_) | (with_reducible refine wl_ldg (by with_unfolding_all rfl) _ 26 rfl _ rfl ?_) | (with_reducible refine wl_eqg (by with_unfolding_all rfl) _ _ 26 _ rfl _ rfl rfl ?_) | (with_reducible refine wl_neg (by with_unfolding_all rfl) _ _ 26 _ rfl _ rfl rfl ?_))
  have hkW2 : Keep No w1 (w1.alloc (.cells #[.int .u64 0, .int .u64 0, .int .u64 0, .int .u64 0, .int .u64 0, .int .u64 0, .int .u64 0, .int .u64 0, .int .u64 0, .int .u64 0, .int .u64 0, .int .u64 0, .int .u64 0, .int .u64 0, .int .u64 0, .int .u64 0, .int .u64 0, .int .u64 0, .int .u64 0, .int .u64 0, .int .u64 0, .int .u64 0, .int .u64 0, .int .u64 0, .int .u64 0, .int .u64 0, .int .u64 0, .int .u64 0, .int .u64 0, .int .u64 0, .int .u64 0, .int .u64 0, .int .u64 0, .int .u64 0] 26)) := (Keep.refl _ _).alloc _
  have hBW2 : Blk (w1.alloc (.cells #[.int .u64 0, .int .u64 0, .int .u64 0, .int .u64 0, .int .u64 0, .int .u64 0, .int .u64 0, .int .u64 0, .int .u64 0, .int .u64 0, .int .u64 0, .int .u64 0, .int .u64 0, .int .u64 0, .int .u64 0, .int .u64 0, .int .u64 0, .int .u64 0, .int .u64 0, .int .u64 0, .int .u64 0, .int .u64 0, .int .u64 0, .int .u64 0, .int .u64 0, .int .u64 0, .int .u64 0, .int .u64 0, .int .u64 0, .int .u64 0, .int .u64 0, .int .u64 0, .int .u64 0, .int .u64 0] 26)) w1.heap.size #[.int .u64 0, .int .u64 0, .int .u64 0, .int .u64 0, .int .u64 0, .int .u64 0, .int .u64 0, .int .u64 0, .int .u64 0, .int .u64 0, .int .u64 0, .int .u64 0, .int .u64 0, .int .u64 0, .int .u64 0, .int .u64 0, .int .u64 0, .int .u64 0, .int .u64 0, .int .u64 0, .int .u64 0, .int .u64 0, .int .u64 0, .int .u64 0, .int .u64 0, .int .u64 0, .int .u64 0, .int .u64 0, .int .u64 0, .int .u64 0, .int .u64 0, .int .u64 0, .int .u64 0, .int .u64 0] 26 := Blk.new _ _ _
  have hzW2 : (w1.alloc (.cells #[.int .u64 0, .int .u64 0, .int .u64 0, .int .u64 0, .int .u64 0, .int .u64 0, .int .u64 0, .int .u64 0, .int .u64 0, .int .u64 0, .int .u64 0, .int .u64 0, .int .u64 0, .int .u64 0, .int .u64 0, .int .u64 0, .int .u64 0, .int .u64 0, .int .u64 0, .int .u64 0, .int .u64 0, .int .u64 0, .int .u64 0, .int .u64 0, .int .u64 0, .int .u64 0, .int .u64 0, .int .u64 0, .int .u64 0, .int .u64 0, .int .u64 0, .int .u64 0, .int .u64 0, .int .u64 0] 26)).heap.size = w1.heap.size + 1 := World.size_alloc _ _
  generalize w1.alloc (.cells #[.int .u64 0, .int .u64 0, .int .u64 0, .int .u64 0, .int .u64 0, .int .u64 0, .int .u64 0, .int .u64 0, .int .u64 0, .int .u64 0, .int .u64 0, .int .u64 0, .int .u64 0, .int .u64 0, .int .u64 0, .int .u64 0, .int .u64 0, .int .u64 0, .int .u64 0, .int .u64 0, .int .u64 0, .int .u64 0, .int .u64 0, .int .u64 0, .int .u64 0, .int .u64 0, .int .u64 0, .int .u64 0, .int .u64 0, .int .u64 0, .int .u64 0, .int .u64 0, .int .u64 0, .int .u64 0] 26) = W2 at *
  have hok' := hok
  obtain ⟨s0, hs0⟩ : ∃ s, s = (⟨r, 256, tls⟩ : St) := ⟨_, rfl⟩
  rw [← hs0] at hok ⊢
  have hpcs : s0.pc = 256 := by rw [hs0]
  have htls : s0.tls = tls := by rw [hs0]
  have hrs2 : ∀ i, i < 32 → some (uv (s0.reg i)) = rs[i]? := by rw [hs0]; exact HRS0.out
  have HRS := Lib.hid hrs2
  clear hrs2
  obtain ⟨w1k, w1t, w1r⟩ := step_keeps s0 hpcs x hx
  obtain ⟨hpk, _, _⟩ := laid_word x hx
  have hss := stC_sz hok
  have hsz := cellsS_size hok
  have hone := cellsS_one s0
  refine rg_stAgg hBW2 hss (by rw [hsz]; rfl) hone ?_
  intro w3 b10 hk23 hz3
  have hk13 : Keep No w1 w3 := hkW2.trans hk23 fun j hj e => absurd hj (by have e2 : j = w1.heap.size := e; omega)
  have hK3 := hK1.trans' hk13
  have b5 := b5.keep hk13 fun h => h
  clear hkW2 hk23 hz3 hBW2 hk13 hzW2
  go_wp2_with (first | (at_builtin; refine wl_append rfl _ _ _ _ rfl _ _ rfl rfl ?_) | (at_make; refine wl_make rfl _ _ _ rfl _ _ rfl rfl ?_) | (at_mapUpdate; refine wl_mapUpdate rfl _ _ _ _ rfl _ _ _ rfl rfl rfl ?_) | (at_lookup; refine wl_lookup rfl _ _ _ _ rfl _ _ rfl rfl ?_) | (at_delete; refine wl_delete rfl _ _ _ _ rfl _ _ rfl rfl ?_) | (with_reducible refine wl_len rfl _ _ rfl _ rfl ?_) | (with_reducible refine wl_range rfl _ _ rfl _ rfl ?_) | (with_reducible refine wl_next rfl _ rfl _ rfl ?_) | (with_reducible refine wl_copy rfl _ _ _ _ rfl _ _ rfl rfl ?_) | (with_reducible refine wl_max rfl _ _ _ _ rfl _ _ rfl rfl ?_) | (with_reducible refine wl_min rfl _ _ _ _ rfl _ _ rfl rfl ?_) | (with_reducible refine wl_build rfl 26 _ rfl ?_) | (with_reducible refine wl_stAgg rfl _ _ _ rfl _ _ rfl rfl ?_) | (with_reducible refine wl_ld rfl _ 26 rfl _ rfl ?_) | (with_reducible refine wl_ld rfl _ 23 rfl _ rfl ?_) | (with_reducible refine wl_ldg (by with_unfolding_all rfl) _ 26 rfl _ rfl ?_) | (with_reducible refine wl_eqg (by with_unfolding_all rfl) _ _ 26 _ rfl _ rfl rfl ?_) | (with_reducible refine wl_neg (by with_unfolding_all rfl) _ _ 26 _ rfl _ rfl rfl ?_))
  have L5 := Lib.hid b5.lt
  have L10 := Lib.hid b10.lt
  refine (vnew_any _).mono ?_
  rintro e w4 ⟨mb, d, f, rfl, hS, hk4⟩
  have hK4 := hK3.trans' hk4
  have hz3 : w.heap.size ≤ w3.heap.size := hK3.size
  have b5 := b5.keep hk4 fun h => h
  have b10 := b10.keep hk4 fun h => h
  have HL5 := Lib.hid L5.out
  have HL10 := Lib.hid L10.out
  unfold ptrTo
  clear hK3
  go_wp2_with (first | (at_builtin; refine wl_append rfl _ _ _ _ rfl _ _ rfl rfl ?_) | (at_make; refine wl_make rfl _ _ _ rfl _ _ rfl rfl ?_) | (at_mapUpdate; refine wl_mapUpdate rfl _ _ _ _ rfl _ _ _ rfl rfl rfl ?_) | (at_lookup; refine wl_lookup rfl _ _ _ _ rfl _ _ rfl rfl ?_) | (at_delete; refine wl_delete rfl _ _ _ _ rfl _ _ rfl rfl ?_) | (with_reducible refine wl_len rfl _ _ rfl _ rfl ?_) | (with_reducible refine wl_range rfl _ _ rfl _ rfl ?_) | (with_reducible refine wl_next rfl _ rfl _ rfl ?_) | (with_reducible refine wl_copy rfl _ _ _ _ rfl _ _ rfl rfl ?_) | (with_reducible refine wl_max rfl _ _ _ _ rfl _ _ rfl rfl ?_) | (with_reducible refine wl_min rfl _ _ _ _ rfl _ _ rfl rfl ?_) | (with_reducible refine wl_build rfl 26 _ rfl ?_) | (with_reducible refine wl_stAgg rfl _ _ _ rfl _ _ rfl rfl ?_) | (with_reducible refine wl_ld rfl _ 26 rfl _ rfl ?_) | (with_reducible refine wl_ld rfl _ 23 rfl _ rfl ?_) | (with_reducible refine wl_ldg (by with_unfolding_all rfl) _ 26 rfl _ rfl ?_) | (with_reducible refine wl_eqg (by with_unfolding_all rfl) _ _ 26 _ rfl _ rfl rfl ?_) | (with_reducible refine wl_neg (by with_unfolding_all rfl) _ _ 26 _ rfl _ rfl rfl ?_))
  refine (vmap_any 256 256 0 7 [] (by omega) (by omega) (by omega) (by unfold maxLen; simp) hS (fun k hk => hk.2)).mono ?_
  rintro e w5 ⟨rfl, ⟨f2, hS2⟩, hk5⟩
  rw [show mapE [] 256 256 7 = 0 by decide]
  have hS5 : SRep (fun k => w3.heap.size ≤ k ∧ k < w5.heap.size) w5 d (mapV [] 256 256 7 [] 0) mb f2 := hS2.mono fun k hk ha => by
    rcases ha with ha | ha
    · exact ⟨ha.1, hk⟩
    · exact ⟨Nat.le_trans hk4.size ha.1, hk⟩
  have hK5 : Keep No w w5 := hK4.trans hk5 fun j hj ha => absurd ha.1 (Nat.not_le.2 (by omega))
  have hl5 := HL5.out
  have hl10 := HL10.out
  have b5 := b5.keep hk5 fun h => absurd h.1 (Nat.not_le.2 hl5)
  have b10 := b10.keep hk5 fun h => absurd h.1 (Nat.not_le.2 hl10)
  clear hS hS2 hk4 hk5 hK4
  go_wp2_with (first | (at_builtin; refine wl_append rfl _ _ _ _ rfl _ _ rfl rfl ?_) | (at_make; refine wl_make rfl _ _ _ rfl _ _ rfl rfl ?_) | (at_mapUpdate; refine wl_mapUpdate rfl _ _ _ _ rfl _ _ _ rfl rfl rfl ?_) | (at_lookup; refine wl_lookup rfl _ _ _ _ rfl _ _ rfl rfl ?_) | (at_delete; refine wl_delete rfl _ _ _ _ rfl _ _ rfl rfl ?_) | (with_reducible refine wl_len rfl _ _ rfl _ rfl ?_) | (with_reducible refine wl_range rfl _ _ rfl _ rfl ?_) | (with_reducible refine wl_next rfl _ rfl _ rfl ?_) | (with_reducible refine wl_copy rfl _ _ _ _ rfl _ _ rfl rfl ?_) | (with_reducible refine wl_max rfl _ _ _ _ rfl _ _ rfl rfl ?_) | (with_reducible refine wl_min rfl _ _ _ _ rfl _ _ rfl rfl ?_) | (with_reducible refine wl_build rfl 26 _ rfl ?_) | (with_reducible refine wl_stAgg rfl _ _ _ rfl _ _ rfl rfl ?_) | (with_reducible refine wl_ld rfl _ 26 rfl _ rfl ?_) | (with_reducible refine wl_ld rfl _ 23 rfl _ rfl ?_) | (with_reducible refine wl_ldg (by with_unfolding_all rfl) _ 26 rfl _ rfl ?_) | (with_reducible refine wl_eqg (by with_unfolding_all rfl) _ _ 26 _ rfl _ rfl rfl ?_) | (with_reducible refine wl_neg (by with_unfolding_all rfl) _ _ 26 _ rfl _ rfl rfl ?_))
  have hkW6 : Keep No w5 (w5.alloc (.cells #[.int .u64 (x : Int)] 22)) := (Keep.refl _ _).alloc _
  have hBW6 : Blk (w5.alloc (.cells #[.int .u64 (x : Int)] 22)) w5.heap.size #[.int .u64 (x : Int)] 22 := Blk.new _ _ _
  have hzW6 : (w5.alloc (.cells #[.int .u64 (x : Int)] 22)).heap.size = w5.heap.size + 1 := World.size_alloc _ _
  generalize w5.alloc (.cells #[.int .u64 (x : Int)] 22) = W6 at *
  have hlU : Fl (fun k => k = w5.heap.size) W6 1 encU (.slice (some ⟨w5.heap.size, 0, none⟩) 1 1) [x] :=
    Sl.mk rfl rfl hBW6.lt (Nat.le_refl _) (by unfold maxLen; omega) fun j u hu => by rw [hBW6.cell, Nat.zero_add]; rw [← List.getElem?_toArray] at hu; exact hu
  refine (code14_any [x] (by simp) (fun y hy => by rw [List.mem_singleton] at hy; subst hy; exact hx) hlU).mono ?_
  rintro e w7 ⟨v7, rfl, ho7, hk7⟩
  have hcl : codeL [x] = le 8 x := by simp [codeL]
  rw [hcl] at ho7
  have hk57 : Keep No w5 w7 := hkW6.trans' hk7
  obtain ⟨a7, c7, rfl, _, _⟩ := ho7.fl.shape
  have hS7 := hS5.no (fun k hk => hk.2) hk57
  have hb7 := FlO.bts8 ho7
  have hK7 := hK5.trans' hk57
  have hA7 : ∀ k, (w3.heap.size ≤ k ∧ k < w5.heap.size) → k < w7.heap.size := fun k hk => Nat.lt_of_lt_of_le hk.2 hk57.size
  have b5 := b5.keep hk57 fun h => h
  have b10 := b10.keep hk57 fun h => h
  have hle8 := le_len 8 x
  have hpo := vpoke_any (w := w7) 256 (le 8 x) (by omega) (by rw [hle8]; omega) hS7 hA7 hb7 (fun k hk ha => by have := hk.1; rw [hzW6] at this; omega)
  have hsp := fun (W : World) (f : Nat → Nat) (hk : Keep No w W) (hS : SRep (fun k => w3.heap.size ≤ k ∧ k < w5.heap.size) W d (pokeV (mapV [] 256 256 7 [] 0) 256 (le 8 x)) mb f) (hA : ∀ k, (w3.heap.size ≤ k ∧ k < w5.heap.size) → k < W.heap.size) => cpustep_any (w := W) s0 hok (HT.out.no hk) hS hA
  have htok := step_ok (pokeV (mapV [] 256 256 7 [] 0) 256 (le 8 x)) hok
  rw [hpk] at hpo
  generalize pokeV (mapV [] 256 256 7 [] 0) 256 (le 8 x) = M at *
  generalize stepM s0 M = TM at *
  obtain ⟨t0, M2, kd, er, ad⟩ := TM
  dsimp only at w1k w1t w1r hsp htok
  have HLE := Lib.hid hle8
  have W1K := Lib.hid w1k
  have W1T := Lib.hid w1t
  have W1R := Lib.hid w1r
  have HS0 := Lib.hid hs0
  have HPC := Lib.hid hpcs
  have HTL := Lib.hid htls
  have HSP := Lib.hid hsp
  rw [hle8] at hpo hb7 ho7 ⊢
  unfold ptrTo at hpo
  clear hlU hS5 hK5 hkW6 hBW6 hk7 hk57 ho7 hcl hpk w1k w1t w1r hs0 hpcs htls hsp hle8
  go_wp2_with (first | (at_builtin; refine wl_append rfl _ _ _ _ rfl _ _ rfl rfl ?_) | (at_make; refine wl_make rfl _ _ _ rfl _ _ rfl rfl ?_) | (at_mapUpdate; refine wl_mapUpdate rfl _ _ _ _ rfl _ _ _ rfl rfl rfl ?_) | (at_lookup; refine wl_lookup rfl _ _ _ _ rfl _ _ rfl rfl ?_) | (at_delete; refine wl_delete rfl _ _ _ _ rfl _ _ rfl rfl ?_) | (with_reducible refine wl_len rfl _ _ rfl _ rfl ?_) | (with_reducible refine wl_range rfl _ _ rfl _ rfl ?_) | (with_reducible refine wl_next rfl _ rfl _ rfl ?_) | (with_reducible refine wl_copy rfl _ _ _ _ rfl _ _ rfl rfl ?_) | (with_reducible refine wl_max rfl _ _ _ _ rfl _ _ rfl rfl ?_) | (with_reducible refine wl_min rfl _ _ _ _ rfl _ _ rfl rfl ?_) | (with_reducible refine wl_build rfl 26 _ rfl ?_) | (with_reducible refine wl_stAgg rfl _ _ _ rfl _ _ rfl rfl ?_) | (with_reducible refine wl_ld rfl _ 26 rfl _ rfl ?_) | (with_reducible refine wl_ld rfl _ 23 rfl _ rfl ?_) | (with_reducible refine wl_ldg (by with_unfolding_all rfl) _ 26 rfl _ rfl ?_) | (with_reducible refine wl_eqg (by with_unfolding_all rfl) _ _ 26 _ rfl _ rfl rfl ?_) | (with_reducible refine wl_neg (by with_unfolding_all rfl) _ _ 26 _ rfl _ rfl rfl ?_))
  refine hpo.mono ?_
  rintro e w8 ⟨rfl, hS8, hk8⟩
  have hK8 : Keep No w w8 := hK7.trans hk8 fun j hj ha => absurd ha.1 (Nat.not_le.2 (by omega))
  have hA8 : ∀ k, (w3.heap.size ≤ k ∧ k < w5.heap.size) → k < w8.heap.size := fun k hk => Nat.lt_of_lt_of_le (hA7 k hk) hk8.size
  have b5 := b5.keep hk8 fun h => absurd h.1 (Nat.not_le.2 hl5)
  have b10 := b10.keep hk8 fun h => absurd h.1 (Nat.not_le.2 hl10)
  clear hpo hS7 hb7 hA7 hk8 hK7
  go_wp2_with (first | (at_builtin; refine wl_append rfl _ _ _ _ rfl _ _ rfl rfl ?_) | (at_make; refine wl_make rfl _ _ _ rfl _ _ rfl rfl ?_) | (at_mapUpdate; refine wl_mapUpdate rfl _ _ _ _ rfl _ _ _ rfl rfl rfl ?_) | (at_lookup; refine wl_lookup rfl _ _ _ _ rfl _ _ rfl rfl ?_) | (at_delete; refine wl_delete rfl _ _ _ _ rfl _ _ rfl rfl ?_) | (with_reducible refine wl_len rfl _ _ rfl _ rfl ?_) | (with_reducible refine wl_range rfl _ _ rfl _ rfl ?_) | (with_reducible refine wl_next rfl _ rfl _ rfl ?_) | (with_reducible refine wl_copy rfl _ _ _ _ rfl _ _ rfl rfl ?_) | (with_reducible refine wl_max rfl _ _ _ _ rfl _ _ rfl rfl ?_) | (with_reducible refine wl_min rfl _ _ _ _ rfl _ _ rfl rfl ?_) | (with_reducible refine wl_build rfl 26 _ rfl ?_) | (with_reducible refine wl_stAgg rfl _ _ _ rfl _ _ rfl rfl ?_) | (with_reducible refine wl_ld rfl _ 26 rfl _ rfl ?_) | (with_reducible refine wl_ld rfl _ 23 rfl _ rfl ?_) | (with_reducible refine wl_ldg (by with_unfolding_all rfl) _ 26 rfl _ rfl ?_) | (with_reducible refine wl_eqg (by with_unfolding_all rfl) _ _ 26 _ rfl _ rfl rfl ?_) | (with_reducible refine wl_neg (by with_unfolding_all rfl) _ _ 26 _ rfl _ rfl rfl ?_))
  refine rg_ld b10 Tryd.underlying26 rfl hss ?_
  go_wp2_with (first | (at_builtin; refine wl_append rfl _ _ _ _ rfl _ _ rfl rfl ?_) | (at_make; refine wl_make rfl _ _ _ rfl _ _ rfl rfl ?_) | (at_mapUpdate; refine wl_mapUpdate rfl _ _ _ _ rfl _ _ _ rfl rfl rfl ?_) | (at_lookup; refine wl_lookup rfl _ _ _ _ rfl _ _ rfl rfl ?_) | (at_delete; refine wl_delete rfl _ _ _ _ rfl _ _ rfl rfl ?_) | (with_reducible refine wl_len rfl _ _ rfl _ rfl ?_) | (with_reducible refine wl_range rfl _ _ rfl _ rfl ?_) | (with_reducible refine wl_next rfl _ rfl _ rfl ?_) | (with_reducible refine wl_copy rfl _ _ _ _ rfl _ _ rfl rfl ?_) | (with_reducible refine wl_max rfl _ _ _ _ rfl _ _ rfl rfl ?_) | (with_reducible refine wl_min rfl _ _ _ _ rfl _ _ rfl rfl ?_) | (with_reducible refine wl_build rfl 26 _ rfl ?_) | (with_reducible refine wl_stAgg rfl _ _ _ rfl _ _ rfl rfl ?_) | (with_reducible refine wl_ld rfl _ 26 rfl _ rfl ?_) | (with_reducible refine wl_ld rfl _ 23 rfl _ rfl ?_) | (with_reducible refine wl_ldg (by with_unfolding_all rfl) _ 26 rfl _ rfl ?_) | (with_reducible refine wl_eqg (by with_unfolding_all rfl) _ _ 26 _ rfl _ rfl rfl ?_) | (with_reducible refine wl_neg (by with_unfolding_all rfl) _ _ 26 _ rfl _ rfl rfl ?_))
  have hst := HSP.out w8 f2 hK8 hS8 hA8
  unfold ptrTo encO3 at hst
  refine hst.mono ?_
  rintro e w9 ⟨rfl, _, hk9⟩
  have hK9 : Keep No w w9 := hK8.trans hk9 fun j hj ha => absurd ha.1 (Nat.not_le.2 (by omega))
  have b5 := b5.keep hk9 fun h => absurd h.1 (Nat.not_le.2 hl5)
  have b10 := b10.keep hk9 fun h => absurd h.1 (Nat.not_le.2 hl10)
  have L59 := b5.lt
  have L109 := b10.lt
  clear hst hS8 hA8 hk9 hK8
  go_wp2_with (first | (at_builtin; refine wl_append rfl _ _ _ _ rfl _ _ rfl rfl ?_) | (at_make; refine wl_make rfl _ _ _ rfl _ _ rfl rfl ?_) | (at_mapUpdate; refine wl_mapUpdate rfl _ _ _ _ rfl _ _ _ rfl rfl rfl ?_) | (at_lookup; refine wl_lookup rfl _ _ _ _ rfl _ _ rfl rfl ?_) | (at_delete; refine wl_delete rfl _ _ _ _ rfl _ _ rfl rfl ?_) | (with_reducible refine wl_len rfl _ _ rfl _ rfl ?_) | (with_reducible refine wl_range rfl _ _ rfl _ rfl ?_) | (with_reducible refine wl_next rfl _ rfl _ rfl ?_) | (with_reducible refine wl_copy rfl _ _ _ _ rfl _ _ rfl rfl ?_) | (with_reducible refine wl_max rfl _ _ _ _ rfl _ _ rfl rfl ?_) | (with_reducible refine wl_min rfl _ _ _ _ rfl _ _ rfl rfl ?_) | (with_reducible refine wl_build rfl 26 _ rfl ?_) | (with_reducible refine wl_stAgg rfl _ _ _ rfl _ _ rfl rfl ?_) | (with_reducible refine wl_ld rfl _ 26 rfl _ rfl ?_) | (with_reducible refine wl_ld rfl _ 23 rfl _ rfl ?_) | (with_reducible refine wl_ldg (by with_unfolding_all rfl) _ 26 rfl _ rfl ?_) | (with_reducible refine wl_eqg (by with_unfolding_all rfl) _ _ 26 _ rfl _ rfl rfl ?_) | (with_reducible refine wl_neg (by with_unfolding_all rfl) _ _ 26 _ rfl _ rfl rfl ?_))
  have hkW10 : Keep No w9 (w9.alloc (.cells #[.int .u64 0, .int .u64 0, .int .u64 0, .int .u64 0, .int .u64 0, .int .u64 0, .int .u64 0, .int .u64 0, .int .u64 0, .int .u64 0, .int .u64 0, .int .u64 0, .int .u64 0, .int .u64 0, .int .u64 0, .int .u64 0, .int .u64 0, .int .u64 0, .int .u64 0, .int .u64 0, .int .u64 0, .int .u64 0, .int .u64 0, .int .u64 0, .int .u64 0, .int .u64 0, .int .u64 0, .int .u64 0, .int .u64 0, .int .u64 0, .int .u64 0, .int .u64 0, .int .u64 0, .int .u64 0] 26)) := (Keep.refl _ _).alloc _
  have hBW10 : Blk (w9.alloc (.cells #[.int .u64 0, .int .u64 0, .int .u64 0, .int .u64 0, .int .u64 0, .int .u64 0, .int .u64 0, .int .u64 0, .int .u64 0, .int .u64 0, .int .u64 0, .int .u64 0, .int .u64 0, .int .u64 0, .int .u64 0, .int .u64 0, .int .u64 0, .int .u64 0, .int .u64 0, .int .u64 0, .int .u64 0, .int .u64 0, .int .u64 0, .int .u64 0, .int .u64 0, .int .u64 0, .int .u64 0, .int .u64 0, .int .u64 0, .int .u64 0, .int .u64 0, .int .u64 0, .int .u64 0, .int .u64 0] 26)) w9.heap.size #[.int .u64 0, .int .u64 0, .int .u64 0, .int .u64 0, .int .u64 0, .int .u64 0, .int .u64 0, .int .u64 0, .int .u64 0, .int .u64 0, .int .u64 0, .int .u64 0, .int .u64 0, .int .u64 0, .int .u64 0, .int .u64 0, .int .u64 0, .int .u64 0, .int .u64 0, .int .u64 0, .int .u64 0, .int .u64 0, .int .u64 0, .int .u64 0, .int .u64 0, .int .u64 0, .int .u64 0, .int .u64 0, .int .u64 0, .int .u64 0, .int .u64 0, .int .u64 0, .int .u64 0, .int .u64 0] 26 := Blk.new _ _ _
  have hzW10 : (w9.alloc (.cells #[.int .u64 0, .int .u64 0, .int .u64 0, .int .u64 0, .int .u64 0, .int .u64 0, .int .u64 0, .int .u64 0, .int .u64 0, .int .u64 0, .int .u64 0, .int .u64 0, .int .u64 0, .int .u64 0, .int .u64 0, .int .u64 0, .int .u64 0, .int .u64 0, .int .u64 0, .int .u64 0, .int .u64 0, .int .u64 0, .int .u64 0, .int .u64 0, .int .u64 0, .int .u64 0, .int .u64 0, .int .u64 0, .int .u64 0, .int .u64 0, .int .u64 0, .int .u64 0, .int .u64 0, .int .u64 0] 26)).heap.size = w9.heap.size + 1 := World.size_alloc _ _
  generalize w9.alloc (.cells #[.int .u64 0, .int .u64 0, .int .u64 0, .int .u64 0, .int .u64 0, .int .u64 0, .int .u64 0, .int .u64 0, .int .u64 0, .int .u64 0, .int .u64 0, .int .u64 0, .int .u64 0, .int .u64 0, .int .u64 0, .int .u64 0, .int .u64 0, .int .u64 0, .int .u64 0, .int .u64 0, .int .u64 0, .int .u64 0, .int .u64 0, .int .u64 0, .int .u64 0, .int .u64 0, .int .u64 0, .int .u64 0, .int .u64 0, .int .u64 0, .int .u64 0, .int .u64 0, .int .u64 0, .int .u64 0] 26) = W10 at *
  have hkW11 : Keep No W10 (W10.alloc (.cells #[.int .i64 0, .int .i64 0, .int .u64 0] 36)) := (Keep.refl _ _).alloc _
  have hBW11 : Blk (W10.alloc (.cells #[.int .i64 0, .int .i64 0, .int .u64 0] 36)) W10.heap.size #[.int .i64 0, .int .i64 0, .int .u64 0] 36 := Blk.new _ _ _
  have hzW11 : (W10.alloc (.cells #[.int .i64 0, .int .i64 0, .int .u64 0] 36)).heap.size = W10.heap.size + 1 := World.size_alloc _ _
  generalize W10.alloc (.cells #[.int .i64 0, .int .i64 0, .int .u64 0] 36) = W11 at *
  rw [hzW10] at hBW11 hzW11
  have b12 := hBW10.keep hkW11 fun h => h
  have hK11 := hkW10.trans' hkW11
  clear hBW10 hkW10 hkW11 hzW10
  refine rg_stAgg b12 (stC_sz htok) (by rw [cellsS_size htok]; rfl) (cellsS_one _) ?_
  intro wa b12a hka hza
  have hKa : Keep No w9 wa := hK11.trans hka fun j hj e => by have e2 : j = w9.heap.size := e; omega
  have b13a := hBW11.keep hka fun e => by have e2 : w9.heap.size + 1 = w9.heap.size := e; omega
  go_wp2_with (first | (at_builtin; refine wl_append rfl _ _ _ _ rfl _ _ rfl rfl ?_) | (at_make; refine wl_make rfl _ _ _ rfl _ _ rfl rfl ?_) | (at_mapUpdate; refine wl_mapUpdate rfl _ _ _ _ rfl _ _ _ rfl rfl rfl ?_) | (at_lookup; refine wl_lookup rfl _ _ _ _ rfl _ _ rfl rfl ?_) | (at_delete; refine wl_delete rfl _ _ _ _ rfl _ _ rfl rfl ?_) | (with_reducible refine wl_len rfl _ _ rfl _ rfl ?_) | (with_reducible refine wl_range rfl _ _ rfl _ rfl ?_) | (with_reducible refine wl_next rfl _ rfl _ rfl ?_) | (with_reducible refine wl_copy rfl _ _ _ _ rfl _ _ rfl rfl ?_) | (with_reducible refine wl_max rfl _ _ _ _ rfl _ _ rfl rfl ?_) | (with_reducible refine wl_min rfl _ _ _ _ rfl _ _ rfl rfl ?_) | (with_reducible refine wl_build rfl 26 _ rfl ?_) | (with_reducible refine wl_stAgg rfl _ _ _ rfl _ _ rfl rfl ?_) | (with_reducible refine wl_ld rfl _ 26 rfl _ rfl ?_) | (with_reducible refine wl_ld rfl _ 23 rfl _ rfl ?_) | (with_reducible refine wl_ldg (by with_unfolding_all rfl) _ 26 rfl _ rfl ?_) | (with_reducible refine wl_eqg (by with_unfolding_all rfl) _ _ 26 _ rfl _ rfl rfl ?_) | (with_reducible refine wl_neg (by with_unfolding_all rfl) _ _ 26 _ rfl _ rfl rfl ?_))
  refine rg_stAgg b13a (by kernel_rfl) (by rfl) (by simp [Value.oneCell']) ?_
  intro wb b13 hkb hzb
  have hKb : Keep No w9 wb := hKa.trans hkb fun j hj e => by have e2 : j = w9.heap.size + 1 := e; omega
  have b12 := b12a.keep hkb fun e => by have e2 : w9.heap.size = w9.heap.size + 1 := e; omega
  have b5 := b5.keep hKb fun h => h
  have b10 := b10.keep hKb fun h => h
  have hKKb := hK9.trans' hKb
  have hL12 := b12.lt
  clear hK11 hka hza hKa b12a b13a hkb hzb hBW11 hzW11 hK9
  have q33 : wb.cell? ⟨w9.heap.size, 33, none⟩ = some (.int .u64 (tls : Int)) := by
    rw [b12.cell, cellsS_tls htok, W1K.out, HTL.out]; rfl
  have qk : wb.cell? ⟨w9.heap.size + 1, 0, none⟩ = some (.int .i64 (kd : Int)) := b13.cell 0
  have hcell : ∀ i, i < 32 → ∃ y z : Nat, wb.cell? ⟨w9.heap.size, i, none⟩ = some (.int .u64 (y : Int)) ∧ wb.cell? ⟨w.heap.size, i, none⟩ = some (.int .u64 (z : Int)) ∧ (i ≠ x / 256 % 32 → y = z) := fun i hi =>
    ⟨t0.reg i, s0.reg i, (b12.cell i).trans (cellsS_reg htok hi), (b5.cell i).trans (HRS.out i hi).symm, fun hne => W1R.out i hne⟩
  have HCELL := Lib.hid hcell
  have hl5b := b5.lt
  have e2 : bits .and .u64 ((x : Int) / 256) 31 = ((x / 256 % 32 : Nat) : Int) := by
    have h := u64_and_nat (x / 256) 31 (by omega) (by decide)
    rw [nat_mask5] at h
    exact h
  have hq32 : x / 256 % 32 < 32 := Nat.mod_lt _ (by decide)
  have hokN : StOk ⟨List.replicate 32 0, pc, 0⟩ := stN_ok hpc
  generalize x / 256 % 32 = xq at *
  have hw1 : IntKind.i64.wrap (xq : Int) = (xq : Int) := by simp [IntKind.wrap, IntKind.bits, IntKind.signed]; omega
  have hw2 : wrap64 (xq : Int) = (xq : Int) := by unfold wrap64; omega
  clear hcell W1R hzW6 hl5 hl10 L59 L109 HL5 HL10 L5 L10 HSP HRS HRS0 HBU
  by_cases hkd : kd = 3
  · have hk3 : ((kd : Int) == 3) = true := by simp [hkd]
    have he : t0 = s0 := W1T.out hkd
    have b12 : Blk wb w9.heap.size (cellsS s0) 26 := by rw [← he]; exact b12
    have HEQ := Lib.hid fun W => stC_eq hok W
    have HSS := Lib.hid hss
    clear hkd he hss
    generalize cellsS s0 = C0 at *
    go_wp2_with (first | (at_builtin; refine wl_append rfl _ _ _ _ rfl _ _ rfl rfl ?_) | (at_make; refine wl_make rfl _ _ _ rfl _ _ rfl rfl ?_) | (at_mapUpdate; refine wl_mapUpdate rfl _ _ _ _ rfl _ _ _ rfl rfl rfl ?_) | (at_lookup; refine wl_lookup rfl _ _ _ _ rfl _ _ rfl rfl ?_) | (at_delete; refine wl_delete rfl _ _ _ _ rfl _ _ rfl rfl ?_) | (with_reducible refine wl_len rfl _ _ rfl _ rfl ?_) | (with_reducible refine wl_range rfl _ _ rfl _ rfl ?_) | (with_reducible refine wl_next rfl _ rfl _ rfl ?_) | (with_reducible refine wl_copy rfl _ _ _ _ rfl _ _ rfl rfl ?_) | (with_reducible refine wl_max rfl _ _ _ _ rfl _ _ rfl rfl ?_) | (with_reducible refine wl_min rfl _ _ _ _ rfl _ _ rfl rfl ?_) | (with_reducible refine wl_build rfl 26 _ rfl ?_) | (with_reducible refine wl_stAgg rfl _ _ _ rfl _ _ rfl rfl ?_) | (with_reducible refine wl_ld rfl _ 26 rfl _ rfl ?_) | (with_reducible refine wl_ld rfl _ 23 rfl _ rfl ?_) | (with_reducible refine wl_ldg (by with_unfolding_all rfl) _ 26 rfl _ rfl ?_) | (with_reducible refine wl_eqg (by with_unfolding_all rfl) _ _ 26 _ rfl _ rfl rfl ?_) | (with_reducible refine wl_neg (by with_unfolding_all rfl) _ _ 26 _ rfl _ rfl rfl ?_))
    refine rg_ld b12 Tryd.underlying26 rfl HSS.out ?_
    go_wp2_with (first | (at_builtin; refine wl_append rfl _ _ _ _ rfl _ _ rfl rfl ?_) | (at_make; refine wl_make rfl _ _ _ rfl _ _ rfl rfl ?_) | (at_mapUpdate; refine wl_mapUpdate rfl _ _ _ _ rfl _ _ _ rfl rfl rfl ?_) | (at_lookup; refine wl_lookup rfl _ _ _ _ rfl _ _ rfl rfl ?_) | (at_delete; refine wl_delete rfl _ _ _ _ rfl _ _ rfl rfl ?_) | (with_reducible refine wl_len rfl _ _ rfl _ rfl ?_) | (with_reducible refine wl_range rfl _ _ rfl _ rfl ?_) | (with_reducible refine wl_next rfl _ rfl _ rfl ?_) | (with_reducible refine wl_copy rfl _ _ _ _ rfl _ _ rfl rfl ?_) | (with_reducible refine wl_max rfl _ _ _ _ rfl _ _ rfl rfl ?_) | (with_reducible refine wl_min rfl _ _ _ _ rfl _ _ rfl rfl ?_) | (with_reducible refine wl_build rfl 26 _ rfl ?_) | (with_reducible refine wl_stAgg rfl _ _ _ rfl _ _ rfl rfl ?_) | (with_reducible refine wl_ld rfl _ 26 rfl _ rfl ?_) | (with_reducible refine wl_ld rfl _ 23 rfl _ rfl ?_) | (with_reducible refine wl_ldg (by with_unfolding_all rfl) _ 26 rfl _ rfl ?_) | (with_reducible refine wl_eqg (by with_unfolding_all rfl) _ _ 26 _ rfl _ rfl rfl ?_) | (with_reducible refine wl_neg (by with_unfolding_all rfl) _ _ 26 _ rfl _ rfl rfl ?_))
    refine rg_ld b10 Tryd.underlying26 rfl HSS.out ?_
    go_wp2_with (first | (at_builtin; refine wl_append rfl _ _ _ _ rfl _ _ rfl rfl ?_) | (at_make; refine wl_make rfl _ _ _ rfl _ _ rfl rfl ?_) | (at_mapUpdate; refine wl_mapUpdate rfl _ _ _ _ rfl _ _ _ rfl rfl rfl ?_) | (at_lookup; refine wl_lookup rfl _ _ _ _ rfl _ _ rfl rfl ?_) | (at_delete; refine wl_delete rfl _ _ _ _ rfl _ _ rfl rfl ?_) | (with_reducible refine wl_len rfl _ _ rfl _ rfl ?_) | (with_reducible refine wl_range rfl _ _ rfl _ rfl ?_) | (with_reducible refine wl_next rfl _ rfl _ rfl ?_) | (with_reducible refine wl_copy rfl _ _ _ _ rfl _ _ rfl rfl ?_) | (with_reducible refine wl_max rfl _ _ _ _ rfl _ _ rfl rfl ?_) | (with_reducible refine wl_min rfl _ _ _ _ rfl _ _ rfl rfl ?_) | (with_reducible refine wl_build rfl 26 _ rfl ?_) | (with_reducible refine wl_stAgg rfl _ _ _ rfl _ _ rfl rfl ?_) | (with_reducible refine wl_ld rfl _ 26 rfl _ rfl ?_) | (with_reducible refine wl_ld rfl _ 23 rfl _ rfl ?_) | (with_reducible refine wl_ldg (by with_unfolding_all rfl) _ 26 rfl _ rfl ?_) | (with_reducible refine wl_eqg (by with_unfolding_all rfl) _ _ 26 _ rfl _ rfl rfl ?_) | (with_reducible refine wl_neg (by with_unfolding_all rfl) _ _ 26 _ rfl _ rfl rfl ?_))
    refine ⟨by kernel_rfl, HEQ.out _, ?_⟩
    clear b12 b10
    go_wp2_with (first | (at_builtin; refine wl_append rfl _ _ _ _ rfl _ _ rfl rfl ?_) | (at_make; refine wl_make rfl _ _ _ rfl _ _ rfl rfl ?_) | (at_mapUpdate; refine wl_mapUpdate rfl _ _ _ _ rfl _ _ _ rfl rfl rfl ?_) | (at_lookup; refine wl_lookup rfl _ _ _ _ rfl _ _ rfl rfl ?_) | (at_delete; refine wl_delete rfl _ _ _ _ rfl _ _ rfl rfl ?_) | (with_reducible refine wl_len rfl _ _ rfl _ rfl ?_) | (with_reducible refine wl_range rfl _ _ rfl _ rfl ?_) | (with_reducible refine wl_next rfl _ rfl _ rfl ?_) | (with_reducible refine wl_copy rfl _ _ _ _ rfl _ _ rfl rfl ?_) | (with_reducible refine wl_max rfl _ _ _ _ rfl _ _ rfl rfl ?_) | (with_reducible refine wl_min rfl _ _ _ _ rfl _ _ rfl rfl ?_) | (with_reducible refine wl_build rfl 26 _ rfl ?_) | (with_reducible refine wl_stAgg rfl _ _ _ rfl _ _ rfl rfl ?_) | (with_reducible refine wl_ld rfl _ 26 rfl _ rfl ?_) | (with_reducible refine wl_ld rfl _ 23 rfl _ rfl ?_) | (with_reducible refine wl_ldg (by with_unfolding_all rfl) _ 26 rfl _ rfl ?_) | (with_reducible refine wl_eqg (by with_unfolding_all rfl) _ _ 26 _ rfl _ rfl rfl ?_) | (with_reducible refine wl_neg (by with_unfolding_all rfl) _ _ 26 _ rfl _ rfl rfl ?_))
    clear q33 qk
    go_loopw [14] (fun iv wr => ∃ i : Nat, iv = .int .i64 (i : Int) ∧ i ≤ 32 ∧ Keep No wb wr) (fun iv _ => 32 - (intOf iv).toNat)
    case atStart => exact ⟨0, rfl, by omega, Keep.refl _ _⟩
    case round =>
      obtain ⟨i, rfl, hi, hk⟩ := hrel
      generalize wr = wz at *
      rcases Nat.lt_or_ge i 32 with hlt | hge
      · obtain ⟨y, z, c1, c2, hyz⟩ := HCELL.out i hlt
        have q1 := (hk.cell (p := ⟨w9.heap.size, i, none⟩) hL12 fun h => h).trans c1
        have q2 := (hk.cell (p := ⟨w.heap.size, i, none⟩) hl5b fun h => h).trans c2
        have hltz : (i : Int) < 32 := by omega
        clear c1 c2
        by_cases hie : i = xq
        · have hb : ((i : Int) != (xq : Int)) = false := by simp [hie]
          clear hie hyz
          go_wp2_with (first | (at_builtin; refine wl_append rfl _ _ _ _ rfl _ _ rfl rfl ?_) | (at_make; refine wl_make rfl _ _ _ rfl _ _ rfl rfl ?_) | (at_mapUpdate; refine wl_mapUpdate rfl _ _ _ _ rfl _ _ _ rfl rfl rfl ?_) | (at_lookup; refine wl_lookup rfl _ _ _ _ rfl _ _ rfl rfl ?_) | (at_delete; refine wl_delete rfl _ _ _ _ rfl _ _ rfl rfl ?_) | (with_reducible refine wl_len rfl _ _ rfl _ rfl ?_) | (with_reducible refine wl_range rfl _ _ rfl _ rfl ?_) | (with_reducible refine wl_next rfl _ rfl _ rfl ?_) | (with_reducible refine wl_copy rfl _ _ _ _ rfl _ _ rfl rfl ?_) | (with_reducible refine wl_max rfl _ _ _ _ rfl _ _ rfl rfl ?_) | (with_reducible refine wl_min rfl _ _ _ _ rfl _ _ rfl rfl ?_))
          go_quiet (fail)
          go_wp2_with (first | (at_builtin; refine wl_append rfl _ _ _ _ rfl _ _ rfl rfl ?_) | (at_make; refine wl_make rfl _ _ _ rfl _ _ rfl rfl ?_) | (at_mapUpdate; refine wl_mapUpdate rfl _ _ _ _ rfl _ _ _ rfl rfl rfl ?_) | (at_lookup; refine wl_lookup rfl _ _ _ _ rfl _ _ rfl rfl ?_) | (at_delete; refine wl_delete rfl _ _ _ _ rfl _ _ rfl rfl ?_) | (with_reducible refine wl_len rfl _ _ rfl _ rfl ?_) | (with_reducible refine wl_range rfl _ _ rfl _ rfl ?_) | (with_reducible refine wl_next rfl _ rfl _ rfl ?_) | (with_reducible refine wl_copy rfl _ _ _ _ rfl _ _ rfl rfl ?_) | (with_reducible refine wl_max rfl _ _ _ _ rfl _ _ rfl rfl ?_) | (with_reducible refine wl_min rfl _ _ _ _ rfl _ _ rfl rfl ?_))
          go_roundw
          case rel => exact ⟨i + 1, by go_num, hlt, hk.drewN nq⟩
          case measure => simp [intOf]; omega
        · have hb : ((i : Int) != (xq : Int)) = true := bne_iff_ne.2 fun h => hie (Int.ofNat_inj.1 h)
          obtain rfl := hyz hie
          have hyy : ((y : Int) != (y : Int)) = false := by simp
          clear hie hyz
          go_wp2_with (first | (at_builtin; refine wl_append rfl _ _ _ _ rfl _ _ rfl rfl ?_) | (at_make; refine wl_make rfl _ _ _ rfl _ _ rfl rfl ?_) | (at_mapUpdate; refine wl_mapUpdate rfl _ _ _ _ rfl _ _ _ rfl rfl rfl ?_) | (at_lookup; refine wl_lookup rfl _ _ _ _ rfl _ _ rfl rfl ?_) | (at_delete; refine wl_delete rfl _ _ _ _ rfl _ _ rfl rfl ?_) | (with_reducible refine wl_len rfl _ _ rfl _ rfl ?_) | (with_reducible refine wl_range rfl _ _ rfl _ rfl ?_) | (with_reducible refine wl_next rfl _ rfl _ rfl ?_) | (with_reducible refine wl_copy rfl _ _ _ _ rfl _ _ rfl rfl ?_) | (with_reducible refine wl_max rfl _ _ _ _ rfl _ _ rfl rfl ?_) | (with_reducible refine wl_min rfl _ _ _ _ rfl _ _ rfl rfl ?_))
          go_quiet (fail)
          go_wp2_with (first | (at_builtin; refine wl_append rfl _ _ _ _ rfl _ _ rfl rfl ?_) | (at_make; refine wl_make rfl _ _ _ rfl _ _ rfl rfl ?_) | (at_mapUpdate; refine wl_mapUpdate rfl _ _ _ _ rfl _ _ _ rfl rfl rfl ?_) | (at_lookup; refine wl_lookup rfl _ _ _ _ rfl _ _ rfl rfl ?_) | (at_delete; refine wl_delete rfl _ _ _ _ rfl _ _ rfl rfl ?_) | (with_reducible refine wl_len rfl _ _ rfl _ rfl ?_) | (with_reducible refine wl_range rfl _ _ rfl _ rfl ?_) | (with_reducible refine wl_next rfl _ rfl _ rfl ?_) | (with_reducible refine wl_copy rfl _ _ _ _ rfl _ _ rfl rfl ?_) | (with_reducible refine wl_max rfl _ _ _ _ rfl _ _ rfl rfl ?_) | (with_reducible refine wl_min rfl _ _ _ _ rfl _ _ rfl rfl ?_))
          go_roundw
          case rel => exact ⟨i + 1, by go_num, hlt, hk.drewN nq⟩
          case measure => simp [intOf]; omega
      · obtain rfl : i = 32 := Nat.le_antisymm hi hge
        have hKz := hKKb.trans' hk
        clear hk
        have hn1 := stC_sz hokN
        have hn2 := cellsS_size hokN
        have hn3 := cellsS_one ⟨List.replicate 32 0, pc, 0⟩
        have HNE := Lib.hid fun W => stC_eq hokN W
        have HNC := Lib.hid fun W => cpustep_nil (w := W) ⟨List.replicate 32 0, pc, 0⟩ hokN
        have HNB := Lib.hid (built_pc2 pc)
        generalize cellsS ⟨List.replicate 32 0, pc, 0⟩ = CN at *
        have HN1 := Lib.hid hn1
        have HN2 := Lib.hid hn2
        have HN3 := Lib.hid hn3
        clear hn1 hn2 hn3
        go_wp2_with (first | (at_builtin; refine wl_append rfl _ _ _ _ rfl _ _ rfl rfl ?_) | (at_make; refine wl_make rfl _ _ _ rfl _ _ rfl rfl ?_) | (at_mapUpdate; refine wl_mapUpdate rfl _ _ _ _ rfl _ _ _ rfl rfl rfl ?_) | (at_lookup; refine wl_lookup rfl _ _ _ _ rfl _ _ rfl rfl ?_) | (at_delete; refine wl_delete rfl _ _ _ _ rfl _ _ rfl rfl ?_) | (with_reducible refine wl_len rfl _ _ rfl _ rfl ?_) | (with_reducible refine wl_range rfl _ _ rfl _ rfl ?_) | (with_reducible refine wl_next rfl _ rfl _ rfl ?_) | (with_reducible refine wl_copy rfl _ _ _ _ rfl _ _ rfl rfl ?_) | (with_reducible refine wl_max rfl _ _ _ _ rfl _ _ rfl rfl ?_) | (with_reducible refine wl_min rfl _ _ _ _ rfl _ _ rfl rfl ?_) | (with_reducible refine wl_build rfl 26 _ rfl ?_) | (with_reducible refine wl_stAgg rfl _ _ _ rfl _ _ rfl rfl ?_) | (with_reducible refine wl_ld rfl _ 26 rfl _ rfl ?_) | (with_reducible refine wl_ld rfl _ 23 rfl _ rfl ?_) | (with_reducible refine wl_ldg (by with_unfolding_all rfl) _ 26 rfl _ rfl ?_) | (with_reducible refine wl_eqg (by with_unfolding_all rfl) _ _ 26 _ rfl _ rfl rfl ?_) | (with_reducible refine wl_neg (by with_unfolding_all rfl) _ _ 26 _ rfl _ rfl rfl ?_))
        refine rg_build HNB.out ?_
        go_wp2_with (first | (at_builtin; refine wl_append rfl _ _ _ _ rfl _ _ rfl rfl ?_) | (at_make; refine wl_make rfl _ _ _ rfl _ _ rfl rfl ?_) | (at_mapUpdate; refine wl_mapUpdate rfl _ _ _ _ rfl _ _ _ rfl rfl rfl ?_) | (at_lookup; refine wl_lookup rfl _ _ _ _ rfl _ _ rfl rfl ?_) | (at_delete; refine wl_delete rfl _ _ _ _ rfl _ _ rfl rfl ?_) | (with_reducible refine wl_len rfl _ _ rfl _ rfl ?_) | (with_reducible refine wl_range rfl _ _ rfl _ rfl ?_) | (with_reducible refine wl_next rfl _ rfl _ rfl ?_) | (with_reducible refine wl_copy rfl _ _ _ _ rfl _ _ rfl rfl ?_) | (with_reducible refine wl_max rfl _ _ _ _ rfl _ _ rfl rfl ?_) | (with_reducible refine wl_min rfl _ _ _ _ rfl _ _ rfl rfl ?_) | (with_reducible refine wl_build rfl 26 _ rfl ?_) | (with_reducible refine wl_stAgg rfl _ _ _ rfl _ _ rfl rfl ?_) | (with_reducible refine wl_ld rfl _ 26 rfl _ rfl ?_) | (with_reducible refine wl_ld rfl _ 23 rfl _ rfl ?_) | (with_reducible refine wl_ldg (by with_unfolding_all rfl) _ 26 rfl _ rfl ?_) | (with_reducible refine wl_eqg (by with_unfolding_all rfl) _ _ 26 _ rfl _ rfl rfl ?_) | (with_reducible refine wl_neg (by with_unfolding_all rfl) _ _ 26 _ rfl _ rfl rfl ?_))
        have hnc := HNC.out wz
        unfold encO3 at hnc
        refine hnc.mono ?_
        rintro e v9 ⟨rfl, hkn⟩
        have hKn := hKz.trans' hkn
        clear hnc hkn
        go_wp2_with (first | (at_builtin; refine wl_append rfl _ _ _ _ rfl _ _ rfl rfl ?_) | (at_make; refine wl_make rfl _ _ _ rfl _ _ rfl rfl ?_) | (at_mapUpdate; refine wl_mapUpdate rfl _ _ _ _ rfl _ _ _ rfl rfl rfl ?_) | (at_lookup; refine wl_lookup rfl _ _ _ _ rfl _ _ rfl rfl ?_) | (at_delete; refine wl_delete rfl _ _ _ _ rfl _ _ rfl rfl ?_) | (with_reducible refine wl_len rfl _ _ rfl _ rfl ?_) | (with_reducible refine wl_range rfl _ _ rfl _ rfl ?_) | (with_reducible refine wl_next rfl _ rfl _ rfl ?_) | (with_reducible refine wl_copy rfl _ _ _ _ rfl _ _ rfl rfl ?_) | (with_reducible refine wl_max rfl _ _ _ _ rfl _ _ rfl rfl ?_) | (with_reducible refine wl_min rfl _ _ _ _ rfl _ _ rfl rfl ?_) | (with_reducible refine wl_build rfl 26 _ rfl ?_) | (with_reducible refine wl_stAgg rfl _ _ _ rfl _ _ rfl rfl ?_) | (with_reducible refine wl_ld rfl _ 26 rfl _ rfl ?_) | (with_reducible refine wl_ld rfl _ 23 rfl _ rfl ?_) | (with_reducible refine wl_ldg (by with_unfolding_all rfl) _ 26 rfl _ rfl ?_) | (with_reducible refine wl_eqg (by with_unfolding_all rfl) _ _ 26 _ rfl _ rfl rfl ?_) | (with_reducible refine wl_neg (by with_unfolding_all rfl) _ _ 26 _ rfl _ rfl rfl ?_))
        have hkV10 : Keep No v9 (v9.alloc (.cells #[.int .u64 0, .int .u64 0, .int .u64 0, .int .u64 0, .int .u64 0, .int .u64 0, .int .u64 0, .int .u64 0, .int .u64 0, .int .u64 0, .int .u64 0, .int .u64 0, .int .u64 0, .int .u64 0, .int .u64 0, .int .u64 0, .int .u64 0, .int .u64 0, .int .u64 0, .int .u64 0, .int .u64 0, .int .u64 0, .int .u64 0, .int .u64 0, .int .u64 0, .int .u64 0, .int .u64 0, .int .u64 0, .int .u64 0, .int .u64 0, .int .u64 0, .int .u64 0, .int .u64 0, .int .u64 0] 26)) := (Keep.refl _ _).alloc _
        have hBV10 : Blk (v9.alloc (.cells #[.int .u64 0, .int .u64 0, .int .u64 0, .int .u64 0, .int .u64 0, .int .u64 0, .int .u64 0, .int .u64 0, .int .u64 0, .int .u64 0, .int .u64 0, .int .u64 0, .int .u64 0, .int .u64 0, .int .u64 0, .int .u64 0, .int .u64 0, .int .u64 0, .int .u64 0, .int .u64 0, .int .u64 0, .int .u64 0, .int .u64 0, .int .u64 0, .int .u64 0, .int .u64 0, .int .u64 0, .int .u64 0, .int .u64 0, .int .u64 0, .int .u64 0, .int .u64 0, .int .u64 0, .int .u64 0] 26)) v9.heap.size #[.int .u64 0, .int .u64 0, .int .u64 0, .int .u64 0, .int .u64 0, .int .u64 0, .int .u64 0, .int .u64 0, .int .u64 0, .int .u64 0, .int .u64 0, .int .u64 0, .int .u64 0, .int .u64 0, .int .u64 0, .int .u64 0, .int .u64 0, .int .u64 0, .int .u64 0, .int .u64 0, .int .u64 0, .int .u64 0, .int .u64 0, .int .u64 0, .int .u64 0, .int .u64 0, .int .u64 0, .int .u64 0, .int .u64 0, .int .u64 0, .int .u64 0, .int .u64 0, .int .u64 0, .int .u64 0] 26 := Blk.new _ _ _
        have hzV10 : (v9.alloc (.cells #[.int .u64 0, .int .u64 0, .int .u64 0, .int .u64 0, .int .u64 0, .int .u64 0, .int .u64 0, .int .u64 0, .int .u64 0, .int .u64 0, .int .u64 0, .int .u64 0, .int .u64 0, .int .u64 0, .int .u64 0, .int .u64 0, .int .u64 0, .int .u64 0, .int .u64 0, .int .u64 0, .int .u64 0, .int .u64 0, .int .u64 0, .int .u64 0, .int .u64 0, .int .u64 0, .int .u64 0, .int .u64 0, .int .u64 0, .int .u64 0, .int .u64 0, .int .u64 0, .int .u64 0, .int .u64 0] 26)).heap.size = v9.heap.size + 1 := World.size_alloc _ _
        generalize v9.alloc (.cells #[.int .u64 0, .int .u64 0, .int .u64 0, .int .u64 0, .int .u64 0, .int .u64 0, .int .u64 0, .int .u64 0, .int .u64 0, .int .u64 0, .int .u64 0, .int .u64 0, .int .u64 0, .int .u64 0, .int .u64 0, .int .u64 0, .int .u64 0, .int .u64 0, .int .u64 0, .int .u64 0, .int .u64 0, .int .u64 0, .int .u64 0, .int .u64 0, .int .u64 0, .int .u64 0, .int .u64 0, .int .u64 0, .int .u64 0, .int .u64 0, .int .u64 0, .int .u64 0, .int .u64 0, .int .u64 0] 26) = V10 at *
        have hkV11 : Keep No V10 (V10.alloc (.cells #[.int .i64 0, .int .i64 0, .int .u64 0] 36)) := (Keep.refl _ _).alloc _
        have hBV11 : Blk (V10.alloc (.cells #[.int .i64 0, .int .i64 0, .int .u64 0] 36)) V10.heap.size #[.int .i64 0, .int .i64 0, .int .u64 0] 36 := Blk.new _ _ _
        have hzV11 : (V10.alloc (.cells #[.int .i64 0, .int .i64 0, .int .u64 0] 36)).heap.size = V10.heap.size + 1 := World.size_alloc _ _
        generalize V10.alloc (.cells #[.int .i64 0, .int .i64 0, .int .u64 0] 36) = V11 at *
        rw [hzV10] at hBV11 hzV11
        have b15 := hBV10.keep hkV11 fun h => h
        have hK11 := hkV10.trans' hkV11
        clear hBV10 hkV10 hkV11 hzV10
        refine rg_stAgg b15 HN1.out (by rw [HN2.out]; rfl) HN3.out ?_
        intro va b15a hka hza
        have hKa : Keep No v9 va := hK11.trans hka fun j hj e => by have e2 : j = v9.heap.size := e; omega
        have b16a := hBV11.keep hka fun e => by have e2 : v9.heap.size + 1 = v9.heap.size := e; omega
        go_wp2_with (first | (at_builtin; refine wl_append rfl _ _ _ _ rfl _ _ rfl rfl ?_) | (at_make; refine wl_make rfl _ _ _ rfl _ _ rfl rfl ?_) | (at_mapUpdate; refine wl_mapUpdate rfl _ _ _ _ rfl _ _ _ rfl rfl rfl ?_) | (at_lookup; refine wl_lookup rfl _ _ _ _ rfl _ _ rfl rfl ?_) | (at_delete; refine wl_delete rfl _ _ _ _ rfl _ _ rfl rfl ?_) | (with_reducible refine wl_len rfl _ _ rfl _ rfl ?_) | (with_reducible refine wl_range rfl _ _ rfl _ rfl ?_) | (with_reducible refine wl_next rfl _ rfl _ rfl ?_) | (with_reducible refine wl_copy rfl _ _ _ _ rfl _ _ rfl rfl ?_) | (with_reducible refine wl_max rfl _ _ _ _ rfl _ _ rfl rfl ?_) | (with_reducible refine wl_min rfl _ _ _ _ rfl _ _ rfl rfl ?_) | (with_reducible refine wl_build rfl 26 _ rfl ?_) | (with_reducible refine wl_stAgg rfl _ _ _ rfl _ _ rfl rfl ?_) | (with_reducible refine wl_ld rfl _ 26 rfl _ rfl ?_) | (with_reducible refine wl_ld rfl _ 23 rfl _ rfl ?_) | (with_reducible refine wl_ldg (by with_unfolding_all rfl) _ 26 rfl _ rfl ?_) | (with_reducible refine wl_eqg (by with_unfolding_all rfl) _ _ 26 _ rfl _ rfl rfl ?_) | (with_reducible refine wl_neg (by with_unfolding_all rfl) _ _ 26 _ rfl _ rfl rfl ?_))
        refine rg_stAgg b16a (by kernel_rfl) (by rfl) (by simp [Value.oneCell']) ?_
        intro vb b16 hkb hzb
        have hKb : Keep No v9 vb := hKa.trans hkb fun j hj e => by have e2 : j = v9.heap.size + 1 := e; omega
        have b15 := b15a.keep hkb fun e => by have e2 : v9.heap.size = v9.heap.size + 1 := e; omega
        have hEnd := hKn.trans' hKb
        have q1 : vb.cell? ⟨v9.heap.size + 1, 0, none⟩ = some (.int .i64 3) := b16.cell 0
        have q2 : vb.cell? ⟨v9.heap.size + 1, 1, none⟩ = some (.int .i64 1) := b16.cell 1
        have q3 : vb.cell? ⟨v9.heap.size + 1, 2, none⟩ = some (.int .u64 (pc : Int)) := b16.cell 2
        clear hK11 hka hza hKa b15a b16a hkb hzb hBV11 hzV11 hKn hKb
        go_wp2_with (first | (at_builtin; refine wl_append rfl _ _ _ _ rfl _ _ rfl rfl ?_) | (at_make; refine wl_make rfl _ _ _ rfl _ _ rfl rfl ?_) | (at_mapUpdate; refine wl_mapUpdate rfl _ _ _ _ rfl _ _ _ rfl rfl rfl ?_) | (at_lookup; refine wl_lookup rfl _ _ _ _ rfl _ _ rfl rfl ?_) | (at_delete; refine wl_delete rfl _ _ _ _ rfl _ _ rfl rfl ?_) | (with_reducible refine wl_len rfl _ _ rfl _ rfl ?_) | (with_reducible refine wl_range rfl _ _ rfl _ rfl ?_) | (with_reducible refine wl_next rfl _ rfl _ rfl ?_) | (with_reducible refine wl_copy rfl _ _ _ _ rfl _ _ rfl rfl ?_) | (with_reducible refine wl_max rfl _ _ _ _ rfl _ _ rfl rfl ?_) | (with_reducible refine wl_min rfl _ _ _ _ rfl _ _ rfl rfl ?_) | (with_reducible refine wl_build rfl 26 _ rfl ?_) | (with_reducible refine wl_stAgg rfl _ _ _ rfl _ _ rfl rfl ?_) | (with_reducible refine wl_ld rfl _ 26 rfl _ rfl ?_) | (with_reducible refine wl_ld rfl _ 23 rfl _ rfl ?_) | (with_reducible refine wl_ldg (by with_unfolding_all rfl) _ 26 rfl _ rfl ?_) | (with_reducible refine wl_eqg (by with_unfolding_all rfl) _ _ 26 _ rfl _ rfl rfl ?_) | (with_reducible refine wl_neg (by with_unfolding_all rfl) _ _ 26 _ rfl _ rfl rfl ?_))
        refine rg_ld b15 Tryd.underlying26 rfl HN1.out ?_
        go_wp2_with (first | (at_builtin; refine wl_append rfl _ _ _ _ rfl _ _ rfl rfl ?_) | (at_make; refine wl_make rfl _ _ _ rfl _ _ rfl rfl ?_) | (at_mapUpdate; refine wl_mapUpdate rfl _ _ _ _ rfl _ _ _ rfl rfl rfl ?_) | (at_lookup; refine wl_lookup rfl _ _ _ _ rfl _ _ rfl rfl ?_) | (at_delete; refine wl_delete rfl _ _ _ _ rfl _ _ rfl rfl ?_) | (with_reducible refine wl_len rfl _ _ rfl _ rfl ?_) | (with_reducible refine wl_range rfl _ _ rfl _ rfl ?_) | (with_reducible refine wl_next rfl _ rfl _ rfl ?_) | (with_reducible refine wl_copy rfl _ _ _ _ rfl _ _ rfl rfl ?_) | (with_reducible refine wl_max rfl _ _ _ _ rfl _ _ rfl rfl ?_) | (with_reducible refine wl_min rfl _ _ _ _ rfl _ _ rfl rfl ?_) | (with_reducible refine wl_build rfl 26 _ rfl ?_) | (with_reducible refine wl_stAgg rfl _ _ _ rfl _ _ rfl rfl ?_) | (with_reducible refine wl_ld rfl _ 26 rfl _ rfl ?_) | (with_reducible refine wl_ld rfl _ 23 rfl _ rfl ?_) | (with_reducible refine wl_ldg (by with_unfolding_all rfl) _ 26 rfl _ rfl ?_) | (with_reducible refine wl_eqg (by with_unfolding_all rfl) _ _ 26 _ rfl _ rfl rfl ?_) | (with_reducible refine wl_neg (by with_unfolding_all rfl) _ _ 26 _ rfl _ rfl rfl ?_))
        refine rg_build HNB.out ?_
        go_wp2_with (first | (at_builtin; refine wl_append rfl _ _ _ _ rfl _ _ rfl rfl ?_) | (at_make; refine wl_make rfl _ _ _ rfl _ _ rfl rfl ?_) | (at_mapUpdate; refine wl_mapUpdate rfl _ _ _ _ rfl _ _ _ rfl rfl rfl ?_) | (at_lookup; refine wl_lookup rfl _ _ _ _ rfl _ _ rfl rfl ?_) | (at_delete; refine wl_delete rfl _ _ _ _ rfl _ _ rfl rfl ?_) | (with_reducible refine wl_len rfl _ _ rfl _ rfl ?_) | (with_reducible refine wl_range rfl _ _ rfl _ rfl ?_) | (with_reducible refine wl_next rfl _ rfl _ rfl ?_) | (with_reducible refine wl_copy rfl _ _ _ _ rfl _ _ rfl rfl ?_) | (with_reducible refine wl_max rfl _ _ _ _ rfl _ _ rfl rfl ?_) | (with_reducible refine wl_min rfl _ _ _ _ rfl _ _ rfl rfl ?_) | (with_reducible refine wl_build rfl 26 _ rfl ?_) | (with_reducible refine wl_stAgg rfl _ _ _ rfl _ _ rfl rfl ?_) | (with_reducible refine wl_ld rfl _ 26 rfl _ rfl ?_) | (with_reducible refine wl_ld rfl _ 23 rfl _ rfl ?_) | (with_reducible refine wl_ldg (by with_unfolding_all rfl) _ 26 rfl _ rfl ?_) | (with_reducible refine wl_eqg (by with_unfolding_all rfl) _ _ 26 _ rfl _ rfl rfl ?_) | (with_reducible refine wl_neg (by with_unfolding_all rfl) _ _ 26 _ rfl _ rfl rfl ?_))
        refine ⟨by kernel_rfl, HNE.out _, ?_⟩
        have hpp : ((pc : Int) == (pc : Int)) = true := by simp
        go_wp2_with (first | (at_builtin; refine wl_append rfl _ _ _ _ rfl _ _ rfl rfl ?_) | (at_make; refine wl_make rfl _ _ _ rfl _ _ rfl rfl ?_) | (at_mapUpdate; refine wl_mapUpdate rfl _ _ _ _ rfl _ _ _ rfl rfl rfl ?_) | (at_lookup; refine wl_lookup rfl _ _ _ _ rfl _ _ rfl rfl ?_) | (at_delete; refine wl_delete rfl _ _ _ _ rfl _ _ rfl rfl ?_) | (with_reducible refine wl_len rfl _ _ rfl _ rfl ?_) | (with_reducible refine wl_range rfl _ _ rfl _ rfl ?_) | (with_reducible refine wl_next rfl _ rfl _ rfl ?_) | (with_reducible refine wl_copy rfl _ _ _ _ rfl _ _ rfl rfl ?_) | (with_reducible refine wl_max rfl _ _ _ _ rfl _ _ rfl rfl ?_) | (with_reducible refine wl_min rfl _ _ _ _ rfl _ _ rfl rfl ?_) | (with_reducible refine wl_build rfl 26 _ rfl ?_) | (with_reducible refine wl_stAgg rfl _ _ _ rfl _ _ rfl rfl ?_) | (with_reducible refine wl_ld rfl _ 26 rfl _ rfl ?_) | (with_reducible refine wl_ld rfl _ 23 rfl _ rfl ?_) | (with_reducible refine wl_ldg (by with_unfolding_all rfl) _ 26 rfl _ rfl ?_) | (with_reducible refine wl_eqg (by with_unfolding_all rfl) _ _ 26 _ rfl _ rfl rfl ?_) | (with_reducible refine wl_neg (by with_unfolding_all rfl) _ _ 26 _ rfl _ rfl rfl ?_))
        go_ret
        exact ⟨rfl, hEnd⟩
  · have hk3 : ((kd : Int) == 3) = false := by simp; omega
    clear hkd hss
    clear b12 b10
    go_wp2_with (first | (at_builtin; refine wl_append rfl _ _ _ _ rfl _ _ rfl rfl ?_) | (at_make; refine wl_make rfl _ _ _ rfl _ _ rfl rfl ?_) | (at_mapUpdate; refine wl_mapUpdate rfl _ _ _ _ rfl _ _ _ rfl rfl rfl ?_) | (at_lookup; refine wl_lookup rfl _ _ _ _ rfl _ _ rfl rfl ?_) | (at_delete; refine wl_delete rfl _ _ _ _ rfl _ _ rfl rfl ?_) | (with_reducible refine wl_len rfl _ _ rfl _ rfl ?_) | (with_reducible refine wl_range rfl _ _ rfl _ rfl ?_) | (with_reducible refine wl_next rfl _ rfl _ rfl ?_) | (with_reducible refine wl_copy rfl _ _ _ _ rfl _ _ rfl rfl ?_) | (with_reducible refine wl_max rfl _ _ _ _ rfl _ _ rfl rfl ?_) | (with_reducible refine wl_min rfl _ _ _ _ rfl _ _ rfl rfl ?_) | (with_reducible refine wl_build rfl 26 _ rfl ?_) | (with_reducible refine wl_stAgg rfl _ _ _ rfl _ _ rfl rfl ?_) | (with_reducible refine wl_ld rfl _ 26 rfl _ rfl ?_) | (with_reducible refine wl_ld rfl _ 23 rfl _ rfl ?_) | (with_reducible refine wl_ldg (by with_unfolding_all rfl) _ 26 rfl _ rfl ?_) | (with_reducible refine wl_eqg (by with_unfolding_all rfl) _ _ 26 _ rfl _ rfl rfl ?_) | (with_reducible refine wl_neg (by with_unfolding_all rfl) _ _ 26 _ rfl _ rfl rfl ?_))
    clear q33 qk
    go_loopw [14] (fun iv wr => ∃ i : Nat, iv = .int .i64 (i : Int) ∧ i ≤ 32 ∧ Keep No wb wr) (fun iv _ => 32 - (intOf iv).toNat)
    case atStart => exact ⟨0, rfl, by omega, Keep.refl _ _⟩
    case round =>
      obtain ⟨i, rfl, hi, hk⟩ := hrel
      generalize wr = wz at *
      rcases Nat.lt_or_ge i 32 with hlt | hge
      · obtain ⟨y, z, c1, c2, hyz⟩ := HCELL.out i hlt
        have q1 := (hk.cell (p := ⟨w9.heap.size, i, none⟩) hL12 fun h => h).trans c1
        have q2 := (hk.cell (p := ⟨w.heap.size, i, none⟩) hl5b fun h => h).trans c2
        have hltz : (i : Int) < 32 := by omega
        clear c1 c2
        by_cases hie : i = xq
        · have hb : ((i : Int) != (xq : Int)) = false := by simp [hie]
          clear hie hyz
          go_wp2_with (first | (at_builtin; refine wl_append rfl _ _ _ _ rfl _ _ rfl rfl ?_) | (at_make; refine wl_make rfl _ _ _ rfl _ _ rfl rfl ?_) | (at_mapUpdate; refine wl_mapUpdate rfl _ _ _ _ rfl _ _ _ rfl rfl rfl ?_) | (at_lookup; refine wl_lookup rfl _ _ _ _ rfl _ _ rfl rfl ?_) | (at_delete; refine wl_delete rfl _ _ _ _ rfl _ _ rfl rfl ?_) | (with_reducible refine wl_len rfl _ _ rfl _ rfl ?_) | (with_reducible refine wl_range rfl _ _ rfl _ rfl ?_) | (with_reducible refine wl_next rfl _ rfl _ rfl ?_) | (with_reducible refine wl_copy rfl _ _ _ _ rfl _ _ rfl rfl ?_) | (with_reducible refine wl_max rfl _ _ _ _ rfl _ _ rfl rfl ?_) | (with_reducible refine wl_min rfl _ _ _ _ rfl _ _ rfl rfl ?_))
          go_quiet (fail)
          go_wp2_with (first | (at_builtin; refine wl_append rfl _ _ _ _ rfl _ _ rfl rfl ?_) | (at_make; refine wl_make rfl _ _ _ rfl _ _ rfl rfl ?_) | (at_mapUpdate; refine wl_mapUpdate rfl _ _ _ _ rfl _ _ _ rfl rfl rfl ?_) | (at_lookup; refine wl_lookup rfl _ _ _ _ rfl _ _ rfl rfl ?_) | (at_delete; refine wl_delete rfl _ _ _ _ rfl _ _ rfl rfl ?_) | (with_reducible refine wl_len rfl _ _ rfl _ rfl ?_) | (with_reducible refine wl_range rfl _ _ rfl _ rfl ?_) | (with_reducible refine wl_next rfl _ rfl _ rfl ?_) | (with_reducible refine wl_copy rfl _ _ _ _ rfl _ _ rfl rfl ?_) | (with_reducible refine wl_max rfl _ _ _ _ rfl _ _ rfl rfl ?_) | (with_reducible refine wl_min rfl _ _ _ _ rfl _ _ rfl rfl ?_))
          go_roundw
          case rel => exact ⟨i + 1, by go_num, hlt, hk.drewN nq⟩
          case measure => simp [intOf]; omega
        · have hb : ((i : Int) != (xq : Int)) = true := bne_iff_ne.2 fun h => hie (Int.ofNat_inj.1 h)
          obtain rfl := hyz hie
          have hyy : ((y : Int) != (y : Int)) = false := by simp
          clear hie hyz
          go_wp2_with (first | (at_builtin; refine wl_append rfl _ _ _ _ rfl _ _ rfl rfl ?_) | (at_make; refine wl_make rfl _ _ _ rfl _ _ rfl rfl ?_) | (at_mapUpdate; refine wl_mapUpdate rfl _ _ _ _ rfl _ _ _ rfl rfl rfl ?_) | (at_lookup; refine wl_lookup rfl _ _ _ _ rfl _ _ rfl rfl ?_) | (at_delete; refine wl_delete rfl _ _ _ _ rfl _ _ rfl rfl ?_) | (with_reducible refine wl_len rfl _ _ rfl _ rfl ?_) | (with_reducible refine wl_range rfl _ _ rfl _ rfl ?_) | (with_reducible refine wl_next rfl _ rfl _ rfl ?_) | (with_reducible refine wl_copy rfl _ _ _ _ rfl _ _ rfl rfl ?_) | (with_reducible refine wl_max rfl _ _ _ _ rfl _ _ rfl rfl ?_) | (with_reducible refine wl_min rfl _ _ _ _ rfl _ _ rfl rfl ?_))
          go_quiet (fail)
          go_wp2_with (first | (at_builtin; refine wl_append rfl _ _ _ _ rfl _ _ rfl rfl ?_) | (at_make; refine wl_make rfl _ _ _ rfl _ _ rfl rfl ?_) | (at_mapUpdate; refine wl_mapUpdate rfl _ _ _ _ rfl _ _ _ rfl rfl rfl ?_) | (at_lookup; refine wl_lookup rfl _ _ _ _ rfl _ _ rfl rfl ?_) | (at_delete; refine wl_delete rfl _ _ _ _ rfl _ _ rfl rfl ?_) | (with_reducible refine wl_len rfl _ _ rfl _ rfl ?_) | (with_reducible refine wl_range rfl _ _ rfl _ rfl ?_) | (with_reducible refine wl_next rfl _ rfl _ rfl ?_) | (with_reducible refine wl_copy rfl _ _ _ _ rfl _ _ rfl rfl ?_) | (with_reducible refine wl_max rfl _ _ _ _ rfl _ _ rfl rfl ?_) | (with_reducible refine wl_min rfl _ _ _ _ rfl _ _ rfl rfl ?_))
          go_roundw
          case rel => exact ⟨i + 1, by go_num, hlt, hk.drewN nq⟩
          case measure => simp [intOf]; omega
      · obtain rfl : i = 32 := Nat.le_antisymm hi hge
        have hKz := hKKb.trans' hk
        clear hk
        have hn1 := stC_sz hokN
        have hn2 := cellsS_size hokN
        have hn3 := cellsS_one ⟨List.replicate 32 0, pc, 0⟩
        have HNE := Lib.hid fun W => stC_eq hokN W
        have HNC := Lib.hid fun W => cpustep_nil (w := W) ⟨List.replicate 32 0, pc, 0⟩ hokN
        have HNB := Lib.hid (built_pc2 pc)
        generalize cellsS ⟨List.replicate 32 0, pc, 0⟩ = CN at *
        have HN1 := Lib.hid hn1
        have HN2 := Lib.hid hn2
        have HN3 := Lib.hid hn3
        clear hn1 hn2 hn3
        go_wp2_with (first | (at_builtin; refine wl_append rfl _ _ _ _ rfl _ _ rfl rfl ?_) | (at_make; refine wl_make rfl _ _ _ rfl _ _ rfl rfl ?_) | (at_mapUpdate; refine wl_mapUpdate rfl _ _ _ _ rfl _ _ _ rfl rfl rfl ?_) | (at_lookup; refine wl_lookup rfl _ _ _ _ rfl _ _ rfl rfl ?_) | (at_delete; refine wl_delete rfl _ _ _ _ rfl _ _ rfl rfl ?_) | (with_reducible refine wl_len rfl _ _ rfl _ rfl ?_) | (with_reducible refine wl_range rfl _ _ rfl _ rfl ?_) | (with_reducible refine wl_next rfl _ rfl _ rfl ?_) | (with_reducible refine wl_copy rfl _ _ _ _ rfl _ _ rfl rfl ?_) | (with_reducible refine wl_max rfl _ _ _ _ rfl _ _ rfl rfl ?_) | (with_reducible refine wl_min rfl _ _ _ _ rfl _ _ rfl rfl ?_) | (with_reducible refine wl_build rfl 26 _ rfl ?_) | (with_reducible refine wl_stAgg rfl _ _ _ rfl _ _ rfl rfl ?_) | (with_reducible refine wl_ld rfl _ 26 rfl _ rfl ?_) | (with_reducible refine wl_ld rfl _ 23 rfl _ rfl ?_) | (with_reducible refine wl_ldg (by with_unfolding_all rfl) _ 26 rfl _ rfl ?_) | (with_reducible refine wl_eqg (by with_unfolding_all rfl) _ _ 26 _ rfl _ rfl rfl ?_) | (with_reducible refine wl_neg (by with_unfolding_all rfl) _ _ 26 _ rfl _ rfl rfl ?_))
        refine rg_build HNB.out ?_
        go_wp2_with (first | (at_builtin; refine wl_append rfl _ _ _ _ rfl _ _ rfl rfl ?_) | (at_make; refine wl_make rfl _ _ _ rfl _ _ rfl rfl ?_) | (at_mapUpdate; refine wl_mapUpdate rfl _ _ _ _ rfl _ _ _ rfl rfl rfl ?_) | (at_lookup; refine wl_lookup rfl _ _ _ _ rfl _ _ rfl rfl ?_) | (at_delete; refine wl_delete rfl _ _ _ _ rfl _ _ rfl rfl ?_) | (with_reducible refine wl_len rfl _ _ rfl _ rfl ?_) | (with_reducible refine wl_range rfl _ _ rfl _ rfl ?_) | (with_reducible refine wl_next rfl _ rfl _ rfl ?_) | (with_reducible refine wl_copy rfl _ _ _ _ rfl _ _ rfl rfl ?_) | (with_reducible refine wl_max rfl _ _ _ _ rfl _ _ rfl rfl ?_) | (with_reducible refine wl_min rfl _ _ _ _ rfl _ _ rfl rfl ?_) | (with_reducible refine wl_build rfl 26 _ rfl ?_) | (with_reducible refine wl_stAgg rfl _ _ _ rfl _ _ rfl rfl ?_) | (with_reducible refine wl_ld rfl _ 26 rfl _ rfl ?_) | (with_reducible refine wl_ld rfl _ 23 rfl _ rfl ?_) | (with_reducible refine wl_ldg (by with_unfolding_all rfl) _ 26 rfl _ rfl ?_) | (with_reducible refine wl_eqg (by with_unfolding_all rfl) _ _ 26 _ rfl _ rfl rfl ?_) | (with_reducible refine wl_neg (by with_unfolding_all rfl) _ _ 26 _ rfl _ rfl rfl ?_))
        have hnc := HNC.out wz
        unfold encO3 at hnc
        refine hnc.mono ?_
        rintro e v9 ⟨rfl, hkn⟩
        have hKn := hKz.trans' hkn
        clear hnc hkn
        go_wp2_with (first | (at_builtin; refine wl_append rfl _ _ _ _ rfl _ _ rfl rfl ?_) | (at_make; refine wl_make rfl _ _ _ rfl _ _ rfl rfl ?_) | (at_mapUpdate; refine wl_mapUpdate rfl _ _ _ _ rfl _ _ _ rfl rfl rfl ?_) | (at_lookup; refine wl_lookup rfl _ _ _ _ rfl _ _ rfl rfl ?_) | (at_delete; refine wl_delete rfl _ _ _ _ rfl _ _ rfl rfl ?_) | (with_reducible refine wl_len rfl _ _ rfl _ rfl ?_) | (with_reducible refine wl_range rfl _ _ rfl _ rfl ?_) | (with_reducible refine wl_next rfl _ rfl _ rfl ?_) | (with_reducible refine wl_copy rfl _ _ _ _ rfl _ _ rfl rfl ?_) | (with_reducible refine wl_max rfl _ _ _ _ rfl _ _ rfl rfl ?_) | (with_reducible refine wl_min rfl _ _ _ _ rfl _ _ rfl rfl ?_) | (with_reducible refine wl_build rfl 26 _ rfl ?_) | (with_reducible refine wl_stAgg rfl _ _ _ rfl _ _ rfl rfl ?_) | (with_reducible refine wl_ld rfl _ 26 rfl _ rfl ?_) | (with_reducible refine wl_ld rfl _ 23 rfl _ rfl ?_) | (with_reducible refine wl_ldg (by with_unfolding_all rfl) _ 26 rfl _ rfl ?_) | (with_reducible refine wl_eqg (by with_unfolding_all rfl) _ _ 26 _ rfl _ rfl rfl ?_) | (with_reducible refine wl_neg (by with_unfolding_all rfl) _ _ 26 _ rfl _ rfl rfl ?_))
        have hkV10 : Keep No v9 (v9.alloc (.cells #[.int .u64 0, .int .u64 0, .int .u64 0, .int .u64 0, .int .u64 0, .int .u64 0, .int .u64 0, .int .u64 0, .int .u64 0, .int .u64 0, .int .u64 0, .int .u64 0, .int .u64 0, .int .u64 0, .int .u64 0, .int .u64 0, .int .u64 0, .int .u64 0, .int .u64 0, .int .u64 0, .int .u64 0, .int .u64 0, .int .u64 0, .int .u64 0, .int .u64 0, .int .u64 0, .int .u64 0, .int .u64 0, .int .u64 0, .int .u64 0, .int .u64 0, .int .u64 0, .int .u64 0, .int .u64 0] 26)) := (Keep.refl _ _).alloc _
        have hBV10 : Blk (v9.alloc (.cells #[.int .u64 0, .int .u64 0, .int .u64 0, .int .u64 0, .int .u64 0, .int .u64 0, .int .u64 0, .int .u64 0, .int .u64 0, .int .u64 0, .int .u64 0, .int .u64 0, .int .u64 0, .int .u64 0, .int .u64 0, .int .u64 0, .int .u64 0, .int .u64 0, .int .u64 0, .int .u64 0, .int .u64 0, .int .u64 0, .int .u64 0, .int .u64 0, .int .u64 0, .int .u64 0, .int .u64 0, .int .u64 0, .int .u64 0, .int .u64 0, .int .u64 0, .int .u64 0, .int .u64 0, .int .u64 0] 26)) v9.heap.size #[.int .u64 0, .int .u64 0, .int .u64 0, .int .u64 0, .int .u64 0, .int .u64 0, .int .u64 0, .int .u64 0, .int .u64 0, .int .u64 0, .int .u64 0, .int .u64 0, .int .u64 0, .int .u64 0, .int .u64 0, .int .u64 0, .int .u64 0, .int .u64 0, .int .u64 0, .int .u64 0, .int .u64 0, .int .u64 0, .int .u64 0, .int .u64 0, .int .u64 0, .int .u64 0, .int .u64 0, .int .u64 0, .int .u64 0, .int .u64 0, .int .u64 0, .int .u64 0, .int .u64 0, .int .u64 0] 26 := Blk.new _ _ _
        have hzV10 : (v9.alloc (.cells #[.int .u64 0, .int .u64 0, .int .u64 0, .int .u64 0, .int .u64 0, .int .u64 0, .int .u64 0, .int .u64 0, .int .u64 0, .int .u64 0, .int .u64 0, .int .u64 0, .int .u64 0, .int .u64 0, .int .u64 0, .int .u64 0, .int .u64 0, .int .u64 0, .int .u64 0, .int .u64 0, .int .u64 0, .int .u64 0, .int .u64 0, .int .u64 0, .int .u64 0, .int .u64 0, .int .u64 0, .int .u64 0, .int .u64 0, .int .u64 0, .int .u64 0, .int .u64 0, .int .u64 0, .int .u64 0] 26)).heap.size = v9.heap.size + 1 := World.size_alloc _ _
        generalize v9.alloc (.cells #[.int .u64 0, .int .u64 0, .int .u64 0, .int .u64 0, .int .u64 0, .int .u64 0, .int .u64 0, .int .u64 0, .int .u64 0, .int .u64 0, .int .u64 0, .int .u64 0, .int .u64 0, .int .u64 0, .int .u64 0, .int .u64 0, .int .u64 0, .int .u64 0, .int .u64 0, .int .u64 0, .int .u64 0, .int .u64 0, .int .u64 0, .int .u64 0, .int .u64 0, .int .u64 0, .int .u64 0, .int .u64 0, .int .u64 0, .int .u64 0, .int .u64 0, .int .u64 0, .int .u64 0, .int .u64 0] 26) = V10 at *
        have hkV11 : Keep No V10 (V10.alloc (.cells #[.int .i64 0, .int .i64 0, .int .u64 0] 36)) := (Keep.refl _ _).alloc _
        have hBV11 : Blk (V10.alloc (.cells #[.int .i64 0, .int .i64 0, .int .u64 0] 36)) V10.heap.size #[.int .i64 0, .int .i64 0, .int .u64 0] 36 := Blk.new _ _ _
        have hzV11 : (V10.alloc (.cells #[.int .i64 0, .int .i64 0, .int .u64 0] 36)).heap.size = V10.heap.size + 1 := World.size_alloc _ _
        generalize V10.alloc (.cells #[.int .i64 0, .int .i64 0, .int .u64 0] 36) = V11 at *
        rw [hzV10] at hBV11 hzV11
        have b15 := hBV10.keep hkV11 fun h => h
        have hK11 := hkV10.trans' hkV11
        clear hBV10 hkV10 hkV11 hzV10
        refine rg_stAgg b15 HN1.out (by rw [HN2.out]; rfl) HN3.out ?_
        intro va b15a hka hza
        have hKa : Keep No v9 va := hK11.trans hka fun j hj e => by have e2 : j = v9.heap.size := e; omega
        have b16a := hBV11.keep hka fun e => by have e2 : v9.heap.size + 1 = v9.heap.size := e; omega
        go_wp2_with (first | (at_builtin; refine wl_append rfl _ _ _ _ rfl _ _ rfl rfl ?_) | (at_make; refine wl_make rfl _ _ _ rfl _ _ rfl rfl ?_) | (at_mapUpdate; refine wl_mapUpdate rfl _ _ _ _ rfl _ _ _ rfl rfl rfl ?_) | (at_lookup; refine wl_lookup rfl _ _ _ _ rfl _ _ rfl rfl ?_) | (at_delete; refine wl_delete rfl _ _ _ _ rfl _ _ rfl rfl ?_) | (with_reducible refine wl_len rfl _ _ rfl _ rfl ?_) | (with_reducible refine wl_range rfl _ _ rfl _ rfl ?_) | (with_reducible refine wl_next rfl _ rfl _ rfl ?_) | (with_reducible refine wl_copy rfl _ _ _ _ rfl _ _ rfl rfl ?_) | (with_reducible refine wl_max rfl _ _ _ _ rfl _ _ rfl rfl ?_) | (with_reducible refine wl_min rfl _ _ _ _ rfl _ _ rfl rfl ?_) | (with_reducible refine wl_build rfl 26 _ rfl ?_) | (with_reducible refine wl_stAgg rfl _ _ _ rfl _ _ rfl rfl ?_) | (with_reducible refine wl_ld rfl _ 26 rfl _ rfl ?_) | (with_reducible refine wl_ld rfl _ 23 rfl _ rfl ?_) | (with_reducible refine wl_ldg (by with_unfolding_all rfl) _ 26 rfl _ rfl ?_) | (with_reducible refine wl_eqg (by with_unfolding_all rfl) _ _ 26 _ rfl _ rfl rfl ?_) | (with_reducible refine wl_neg (by with_unfolding_all rfl) _ _ 26 _ rfl _ rfl rfl ?_))
        refine rg_stAgg b16a (by kernel_rfl) (by rfl) (by simp [Value.oneCell']) ?_
        intro vb b16 hkb hzb
        have hKb : Keep No v9 vb := hKa.trans hkb fun j hj e => by have e2 : j = v9.heap.size + 1 := e; omega
        have b15 := b15a.keep hkb fun e => by have e2 : v9.heap.size = v9.heap.size + 1 := e; omega
        have hEnd := hKn.trans' hKb
        have q1 : vb.cell? ⟨v9.heap.size + 1, 0, none⟩ = some (.int .i64 3) := b16.cell 0
        have q2 : vb.cell? ⟨v9.heap.size + 1, 1, none⟩ = some (.int .i64 1) := b16.cell 1
        have q3 : vb.cell? ⟨v9.heap.size + 1, 2, none⟩ = some (.int .u64 (pc : Int)) := b16.cell 2
        clear hK11 hka hza hKa b15a b16a hkb hzb hBV11 hzV11 hKn hKb
        go_wp2_with (first | (at_builtin; refine wl_append rfl _ _ _ _ rfl _ _ rfl rfl ?_) | (at_make; refine wl_make rfl _ _ _ rfl _ _ rfl rfl ?_) | (at_mapUpdate; refine wl_mapUpdate rfl _ _ _ _ rfl _ _ _ rfl rfl rfl ?_) | (at_lookup; refine wl_lookup rfl _ _ _ _ rfl _ _ rfl rfl ?_) | (at_delete; refine wl_delete rfl _ _ _ _ rfl _ _ rfl rfl ?_) | (with_reducible refine wl_len rfl _ _ rfl _ rfl ?_) | (with_reducible refine wl_range rfl _ _ rfl _ rfl ?_) | (with_reducible refine wl_next rfl _ rfl _ rfl ?_) | (with_reducible refine wl_copy rfl _ _ _ _ rfl _ _ rfl rfl ?_) | (with_reducible refine wl_max rfl _ _ _ _ rfl _ _ rfl rfl ?_) | (with_reducible refine wl_min rfl _ _ _ _ rfl _ _ rfl rfl ?_) | (with_reducible refine wl_build rfl 26 _ rfl ?_) | (with_reducible refine wl_stAgg rfl _ _ _ rfl _ _ rfl rfl ?_) | (with_reducible refine wl_ld rfl _ 26 rfl _ rfl ?_) | (with_reducible refine wl_ld rfl _ 23 rfl _ rfl ?_) | (with_reducible refine wl_ldg (by with_unfolding_all rfl) _ 26 rfl _ rfl ?_) | (with_reducible refine wl_eqg (by with_unfolding_all rfl) _ _ 26 _ rfl _ rfl rfl ?_) | (with_reducible refine wl_neg (by with_unfolding_all rfl) _ _ 26 _ rfl _ rfl rfl ?_))
        refine rg_ld b15 Tryd.underlying26 rfl HN1.out ?_
        go_wp2_with (first | (at_builtin; refine wl_append rfl _ _ _ _ rfl _ _ rfl rfl ?_) | (at_make; refine wl_make rfl _ _ _ rfl _ _ rfl rfl ?_) | (at_mapUpdate; refine wl_mapUpdate rfl _ _ _ _ rfl _ _ _ rfl rfl rfl ?_) | (at_lookup; refine wl_lookup rfl _ _ _ _ rfl _ _ rfl rfl ?_) | (at_delete; refine wl_delete rfl _ _ _ _ rfl _ _ rfl rfl ?_) | (with_reducible refine wl_len rfl _ _ rfl _ rfl ?_) | (with_reducible refine wl_range rfl _ _ rfl _ rfl ?_) | (with_reducible refine wl_next rfl _ rfl _ rfl ?_) | (with_reducible refine wl_copy rfl _ _ _ _ rfl _ _ rfl rfl ?_) | (with_reducible refine wl_max rfl _ _ _ _ rfl _ _ rfl rfl ?_) | (with_reducible refine wl_min rfl _ _ _ _ rfl _ _ rfl rfl ?_) | (with_reducible refine wl_build rfl 26 _ rfl ?_) | (with_reducible refine wl_stAgg rfl _ _ _ rfl _ _ rfl rfl ?_) | (with_reducible refine wl_ld rfl _ 26 rfl _ rfl ?_) | (with_reducible refine wl_ld rfl _ 23 rfl _ rfl ?_) | (with_reducible refine wl_ldg (by with_unfolding_all rfl) _ 26 rfl _ rfl ?_) | (with_reducible refine wl_eqg (by with_unfolding_all rfl) _ _ 26 _ rfl _ rfl rfl ?_) | (with_reducible refine wl_neg (by with_unfolding_all rfl) _ _ 26 _ rfl _ rfl rfl ?_))
        refine rg_build HNB.out ?_
        go_wp2_with (first | (at_builtin; refine wl_append rfl _ _ _ _ rfl _ _ rfl rfl ?_) | (at_make; refine wl_make rfl _ _ _ rfl _ _ rfl rfl ?_) | (at_mapUpdate; refine wl_mapUpdate rfl _ _ _ _ rfl _ _ _ rfl rfl rfl ?_) | (at_lookup; refine wl_lookup rfl _ _ _ _ rfl _ _ rfl rfl ?_) | (at_delete; refine wl_delete rfl _ _ _ _ rfl _ _ rfl rfl ?_) | (with_reducible refine wl_len rfl _ _ rfl _ rfl ?_) | (with_reducible refine wl_range rfl _ _ rfl _ rfl ?_) | (with_reducible refine wl_next rfl _ rfl _ rfl ?_) | (with_reducible refine wl_copy rfl _ _ _ _ rfl _ _ rfl rfl ?_) | (with_reducible refine wl_max rfl _ _ _ _ rfl _ _ rfl rfl ?_) | (with_reducible refine wl_min rfl _ _ _ _ rfl _ _ rfl rfl ?_) | (with_reducible refine wl_build rfl 26 _ rfl ?_) | (with_reducible refine wl_stAgg rfl _ _ _ rfl _ _ rfl rfl ?_) | (with_reducible refine wl_ld rfl _ 26 rfl _ rfl ?_) | (with_reducible refine wl_ld rfl _ 23 rfl _ rfl ?_) | (with_reducible refine wl_ldg (by with_unfolding_all rfl) _ 26 rfl _ rfl ?_) | (with_reducible refine wl_eqg (by with_unfolding_all rfl) _ _ 26 _ rfl _ rfl rfl ?_) | (with_reducible refine wl_neg (by with_unfolding_all rfl) _ _ 26 _ rfl _ rfl rfl ?_))
        refine ⟨by kernel_rfl, HNE.out _, ?_⟩
        have hpp : ((pc : Int) == (pc : Int)) = true := by simp
        go_wp2_with (first | (at_builtin; refine wl_append rfl _ _ _ _ rfl _ _ rfl rfl ?_) | (at_make; refine wl_make rfl _ _ _ rfl _ _ rfl rfl ?_) | (at_mapUpdate; refine wl_mapUpdate rfl _ _ _ _ rfl _ _ _ rfl rfl rfl ?_) | (at_lookup; refine wl_lookup rfl _ _ _ _ rfl _ _ rfl rfl ?_) | (at_delete; refine wl_delete rfl _ _ _ _ rfl _ _ rfl rfl ?_) | (with_reducible refine wl_len rfl _ _ rfl _ rfl ?_) | (with_reducible refine wl_range rfl _ _ rfl _ rfl ?_) | (with_reducible refine wl_next rfl _ rfl _ rfl ?_) | (with_reducible refine wl_copy rfl _ _ _ _ rfl _ _ rfl rfl ?_) | (with_reducible refine wl_max rfl _ _ _ _ rfl _ _ rfl rfl ?_) | (with_reducible refine wl_min rfl _ _ _ _ rfl _ _ rfl rfl ?_) | (with_reducible refine wl_build rfl 26 _ rfl ?_) | (with_reducible refine wl_stAgg rfl _ _ _ rfl _ _ rfl rfl ?_) | (with_reducible refine wl_ld rfl _ 26 rfl _ rfl ?_) | (with_reducible refine wl_ld rfl _ 23 rfl _ rfl ?_) | (with_reducible refine wl_ldg (by with_unfolding_all rfl) _ 26 rfl _ rfl ?_) | (with_reducible refine wl_eqg (by with_unfolding_all rfl) _ _ 26 _ rfl _ rfl rfl ?_) | (with_reducible refine wl_neg (by with_unfolding_all rfl) _ _ 26 _ rfl _ rfl rfl ?_))
        go_ret
        exact ⟨rfl, hEnd⟩
end
end Go.Proofs.YtaoillfofiehpaaDoor
