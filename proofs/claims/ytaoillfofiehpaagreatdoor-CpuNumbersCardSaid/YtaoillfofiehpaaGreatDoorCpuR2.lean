/- What an instruction leaves alone; the word that is laid is the one that is done. A step leaves registers registers. The document's example of chapter 14 (awake). The document's chapter 14: below, power, of, jumps; chapter 12: Decode. The document's chapter 14: below, power, of, jumps; chapter 12: Decode. No condition. -/
import Derived.Test.YtaoillfofiehpaaGreatDoorCpu1
import Derived.Test.YtaoillfofiehpaaGreatDoorVmL
import Derived.Test.YtaoillfofiehpaaGreatDoorOct
set_option linter.unusedVariables false
set_option linter.unusedSimpArgs false
namespace Go.Dm.Cp
open Go Go.Dm.Vm Go.Dm.Oc
def Kp (s : St) (a : Nat) (n : St) : Prop := n.tls = s.tls ∧ ∀ k, k ≠ a → n.reg k = s.reg k
theorem Kp.refl (s : St) (a : Nat) : Kp s a s := ⟨rfl, fun _ _ => rfl⟩
theorem Kp.go {s n : St} {a : Nat} (h : Kp s a n) (p : Nat) : Kp s a (n.go p) := ⟨h.1, h.2⟩
theorem Kp.put {s n : St} {a : Nat} (h : Kp s a n) (x : Nat) : Kp s a (n.put a x) := ⟨h.1, fun k hk => by
  rw [← h.2 k hk]
  unfold St.reg St.put
  rw [List.getD_eq_getElem?_getD, List.getD_eq_getElem?_getD, List.getElem?_set_ne (fun e => hk e.symm)]⟩
theorem Kp.ite {s n k : St} {a : Nat} {c : Prop} [Decidable c] (h : Kp s a n) (h2 : Kp s a k) : Kp s a (if c then n else k) := by
  split
  · exact h
  · exact h2
def Kf (s : St) (a : Nat) (t : St × V × Out) : Prop := Kp s a t.1
theorem kf_ite {s : St} {x : Nat} {c : Prop} [Decidable c] {a b : St × V × Out} (h1 : Kf s x a) (h2 : Kf s x b) : Kf s x (if c then a else b) := by
  split
  · exact h1
  · exact h2
theorem do_keeps (s : St) (m : V) (i : Ins) : Kp s i.a (doM s m i).1 := by
  show Kf s i.a (doM s m i)
  unfold doM
  dsimp only
  repeat' (refine kf_ite ?_ ?_)
  all_goals
    show Kp s i.a _
    dsimp only
    first
      | exact Kp.refl _ _
      | exact (Kp.refl _ _).go _
      | exact ((Kp.refl _ _).go _).put _
      | exact (((Kp.refl _ _).go _).put _).go _
      | exact ((Kp.refl _ _).go _).go _
      | exact Kp.ite (((Kp.refl _ _).go _).go _) ((Kp.refl _ _).go _)
theorem laid_word (x : Nat) (hx : x < 18446744073709551616) : peekE (mapV [] 256 256 7 [] 0) 256 (le 8 x).length = 0 ∧ fetchE (pokeV (mapV [] 256 256 7 [] 0) 256 (le 8 x)) 256 = 0 ∧ fetchX (pokeV (mapV [] 256 256 7 [] 0) 256 (le 8 x)) 256 = x := by
  have hm : mapV [] 256 256 7 [] 0 = [newPg 256 7 [] 0 0] := rfl
  have hf : Full (mapV [] 256 256 7 [] 0) 256 512 7 := by
    rw [hm]
    intro y hy h1 h2
    obtain rfl : y = 256 := by omega
    exact ⟨_, rfl, rfl⟩
  have hok : Ok (mapV [] 256 256 7 [] 0) := by
    rw [hm]
    refine ⟨by simp, fun p hp => ?_, by simp⟩
    rw [List.mem_singleton] at hp
    subst hp
    exact ⟨rfl, by decide, by decide, noughts_len, by decide, by simp [newPg]⟩
  generalize mapV [] 256 256 7 [] 0 = m at *
  have hl := le_len 8 x
  have hh : Vm.heldE m 256 (le 8 x).length = 0 := by rw [hl]; exact hf.held (by decide) (by omega) (by omega) (by omega) (by decide) (by omega)
  have hp : peekE m 256 (le 8 x).length = 0 := by unfold peekE; rw [if_neg (by rw [hl]; omega), hh]
  have he : pokeV m 256 (le 8 x) = writeB m 256 (le 8 x) := by unfold pokeV; rw [if_pos hp]
  have hfe : fetchE (pokeV m 256 (le 8 x)) 256 = 0 := by
    rw [he]
    unfold fetchE
    rw [if_pos (by decide)]
    exact (hf.write 256 (le 8 x)).num (by decide) (by omega) (by omega) (by decide) (by decide) (by decide)
  refine ⟨hp, hfe, ?_⟩
  have hr := read_write hok hh
  rw [hl] at hr
  unfold fetchX
  rw [if_pos hfe, he, hr, leN_le]
  exact Nat.mod_eq_of_lt hx
theorem step_keeps (s : St) (hs : s.pc = 256) (x : Nat) (hx : x < 18446744073709551616) :
    (stepM s (pokeV (mapV [] 256 256 7 [] 0) 256 (le 8 x))).1.tls = s.tls ∧ ((stepM s (pokeV (mapV [] 256 256 7 [] 0) 256 (le 8 x))).2.2.kind = 3 → (stepM s (pokeV (mapV [] 256 256 7 [] 0) 256 (le 8 x))).1 = s) ∧ ∀ k, k ≠ x / 256 % 32 → (stepM s (pokeV (mapV [] 256 256 7 [] 0) 256 (le 8 x))).1.reg k = s.reg k := by
  obtain ⟨_, h1, h2⟩ := laid_word x hx
  generalize pokeV (mapV [] 256 256 7 [] 0) 256 (le 8 x) = m at *
  unfold stepM
  rw [hs, if_pos h1, h2]
  by_cases h : decE x = 0
  · rw [if_pos h]
    have hk := do_keeps s m (decI x)
    exact ⟨hk.1, do_fault, fun k hk' => hk.2 k hk'⟩
  · rw [if_neg h]
    exact ⟨rfl, fun _ => rfl, fun _ _ => rfl⟩
end Go.Dm.Cp
namespace Go.Proofs.YtaoillfofiehpaaGreatDoor
open Go.RowKit Go.Dm Go.Dm.Vm Go.Dm.Cp Go.Maps
def Sof (t : St × V × Out) : Prop := StOk t.1
theorem sof_ite {c : Prop} [Decidable c] {a b : St × V × Out} (h1 : c → Sof a) (h2 : ¬ c → Sof b) : Sof (if c then a else b) := by
  by_cases h : c
  · rw [if_pos h]; exact h1 h
  · rw [if_neg h]; exact h2 h
theorem sok_ite {c : Prop} [Decidable c] {a b : St} (h1 : StOk a) (h2 : StOk b) : StOk (if c then a else b) := by
  split
  · exact h1
  · exact h2
theorem movhi_lt (a b : Nat) : a % 4294967296 + b % 4294967296 * 4294967296 < 18446744073709551616 := by omega
theorem do_ok {s : St} (m : V) {i : Ins} (hs : StOk s) (hi : InOk i) : StOk (doM s m i).1 := by
  have hu := u64_lt hi.lo hi.hi
  show Sof (doM s m i)
  unfold doM
  dsimp only
  repeat' (refine sof_ite (fun _ => ?_) (fun _ => ?_))
  all_goals
    show StOk _
    dsimp only
    first
      | exact hs
      | exact hs.go (add_lt _ _)
      | exact (hs.go (add_lt _ _)).put _ (hs.reg _)
      | exact (hs.go (add_lt _ _)).put _ (of_lt (by assumption) (hs.reg _) (hs.reg _))
      | exact (hs.go (add_lt _ _)).put _ (add_lt _ _)
      | exact (hs.go (add_lt _ _)).put _ hu
      | exact (hs.go (add_lt _ _)).put _ (movhi_lt _ _)
      | exact (hs.go (add_lt _ _)).put _ (loadX_lt _ _ (by omega))
      | exact sok_ite ((hs.go (add_lt _ _)).go (add_lt _ _)) (hs.go (add_lt _ _))
      | exact (hs.go (add_lt _ _)).go (add_lt _ _)
      | exact (hs.go (add_lt _ _)).go (hs.reg _)
      | exact ((hs.go (add_lt _ _)).put _ (add_lt _ _)).go (add_lt _ _)
      | exact ((hs.go (add_lt _ _)).put _ (add_lt _ _)).go (hs.reg _)
theorem step_ok {s : St} (m : V) (hs : StOk s) : StOk (stepM s m).1 := by
  unfold stepM
  split
  · split
    · rename_i h
      exact do_ok m hs (dec_inok (fetchX_lt m s.pc) h)
    · exact hs
  · exact hs
end Go.Proofs.YtaoillfofiehpaaGreatDoor
namespace Go.Dm.Cp
open Go Go.Dm.Vm Go.Dm.Oc
def awB : V := pokeV (mapV [] 256 256 7 [] 0) 256 (codeL [18446744069414584593, 803078])
def aw0 : St := ⟨List.replicate 32 0, 256, 0⟩
def aw1 : St := ⟨(List.replicate 32 0).set 1 18446744073709551615, 264, 0⟩
theorem aw0_ok : StOk aw0 := ⟨by decide, by decide, by decide, by decide⟩
theorem aw1_ok : StOk aw1 := ⟨by decide, by decide, by decide, by decide⟩
theorem aw_peek : peekE (mapV [] 256 256 7 [] 0) 256 16 = 0 := by kernel_rfl
theorem aw_1 : stepM aw0 awB = (aw1, awB, ⟨0, 0, 0⟩) := by kernel_rfl
theorem aw_2 : stepM aw1 awB = (aw1, awB, ⟨3, 43, 264⟩) := by kernel_rfl
end Go.Dm.Cp
namespace Go.Proofs.YtaoillfofiehpaaGreatDoor
open Go.RowKit Go.Dm Go.Dm.Vm Go.Dm.Cp Go.Maps Go.Dm.Oc
section
variable {w : World}
theorem cellsS_ints {s : St} (h : StOk s) : ∀ i, i < 34 → ∃ z, (cellsS s)[i]? = some (.int .u64 z) := by
  intro i hi
  by_cases h1 : i < 32
  · exact ⟨_, cellsS_reg h h1⟩
  · by_cases h2 : i = 32
    · subst h2; exact ⟨_, cellsS_pc h⟩
    · obtain rfl : i = 33 := by omega
      exact ⟨_, cellsS_tls h⟩
theorem stN_ok {pc : Nat} (h : pc < 18446744073709551616) : StOk ⟨List.replicate 32 0, pc, 0⟩ := ⟨rfl, fun y hy => by rw [List.eq_of_mem_replicate hy]; decide, h, (by show (0 : Nat) < _; decide)⟩
theorem stC_eq {s : St} (h : StOk s) (w : World) : (Op.equalIn 10000 33 (.agg (cellsS s)) (.agg (cellsS s))).run Tryz.prog w = .ok true w :=
  run_equalIn_regs 33 23 22 32 (by kernel_rfl) (by kernel_rfl) (by kernel_rfl) Tryz.underlying23 Tryz.underlying22 (fun w => by kernel_rfl) (fun w => by kernel_rfl) w _ (cellsS_ints h)
theorem built_st0 (v0 v1 v2 v3 v4 v5 v6 v7 v8 v9 v10 v11 v12 v13 v14 v15 v16 v17 v18 v19 v20 v21 v22 v23 v24 v25 v26 v27 v28 v29 v30 v31 : Value) (a b : Int) : Tryz.prog.built 33 [(0, .agg #[v0, v1, v2, v3, v4, v5, v6, v7, v8, v9, v10, v11, v12, v13, v14, v15, v16, v17, v18, v19, v20, v21, v22, v23, v24, v25, v26, v27, v28, v29, v30, v31]), (1, .int .u64 a), (2, .int .u64 b)] = some #[v0, v1, v2, v3, v4, v5, v6, v7, v8, v9, v10, v11, v12, v13, v14, v15, v16, v17, v18, v19, v20, v21, v22, v23, v24, v25, v26, v27, v28, v29, v30, v31, .int .u64 a, .int .u64 b] := by kernel_rfl
theorem built_st (l : List Value) (h : l.length = 32) (a b : Int) : Tryz.prog.built 33 [(0, .agg l.toArray), (1, .int .u64 a), (2, .int .u64 b)] = some (l ++ [Value.int .u64 a, Value.int .u64 b]).toArray :=
  match l, h with
  | [v0, v1, v2, v3, v4, v5, v6, v7, v8, v9, v10, v11, v12, v13, v14, v15, v16, v17, v18, v19, v20, v21, v22, v23, v24, v25, v26, v27, v28, v29, v30, v31], _ => built_st0 v0 v1 v2 v3 v4 v5 v6 v7 v8 v9 v10 v11 v12 v13 v14 v15 v16 v17 v18 v19 v20 v21 v22 v23 v24 v25 v26 v27 v28 v29 v30 v31 a b
theorem built_pc (a : Int) : Tryz.prog.built 33 [(1, .int .u64 a)] = some (List.replicate 32 (Value.int .u64 0) ++ [Value.int .u64 a, Value.int .u64 0]).toArray := by kernel_rfl
theorem built_pc2 (p : Nat) : Tryz.prog.built 33 [(1, .int .u64 (p : Int))] = some (cellsS ⟨List.replicate 32 0, p, 0⟩) := by kernel_rfl
set_option maxRecDepth 100000 in
set_option maxHeartbeats 4000000 in
theorem awake14_any (hT : Tabs w) : Calls Tryz.prog 8 #[] w fun e w' => e = .returned (.bool true) ∧ Keep No w w' := by
  have HT := Lib.hid hT
  clear hT
  go_enter Tryz.func8, Tryz.ntmps8
  go_wp2_with fail
  refine (r12enc_any 17 1 0 0 (-1)).mono ?_
  rintro e w1 ⟨rfl, hk1⟩
  rw [show mayB 17 1 0 0 (-1) = true by decide]
  simp only [if_true]
  rw [show encM 17 1 0 0 (-1) = 18446744069414584593 by decide]
  go_wp2_with fail
  refine (r12enc_any 6 1 2 3 0).mono ?_
  rintro e w2 ⟨rfl, hk2⟩
  rw [show mayB 6 1 2 3 0 = true by decide]
  simp only [if_true]
  rw [show encM 6 1 2 3 0 = 803078 by decide]
  go_wp2_with fail
  refine (vnew_any _).mono ?_
  rintro e w3 ⟨mb, d, f, rfl, hS, hk3⟩
  have hK3 := (hk1.trans' hk2).trans' hk3
  have hz3 : w.heap.size ≤ w2.heap.size := (hk1.trans' hk2).size
  unfold ptrTo
  clear hk1 hk2
  go_wp2_with fail
  refine (vmap_any 256 256 0 7 [] (by omega) (by omega) (by omega) (by unfold maxLen; simp) hS (fun k hk => hk.2)).mono ?_
  rintro e w4 ⟨rfl, ⟨f2, hS2⟩, hk4⟩
  rw [show mapE [] 256 256 7 = 0 by decide]
  have hS4 : SRep (fun k => w2.heap.size ≤ k ∧ k < w4.heap.size) w4 d (mapV [] 256 256 7 [] 0) mb f2 := hS2.mono fun k hk ha => by
    rcases ha with ha | ha
    · exact ⟨ha.1, hk⟩
    · exact ⟨Nat.le_trans hk3.size ha.1, hk⟩
  have hK4 : Keep No w w4 := hK3.trans hk4 fun j hj ha => absurd ha.1 (Nat.not_le.2 (by omega))
  clear hS hS2 hk4 hK3 hk3
  go_wp2_with fail
  have hkW5 : Keep No w4 (w4.alloc (.cells #[.int .u64 18446744069414584593, .int .u64 803078] 22)) := (Keep.refl _ _).alloc _
  have hBW5 : Blk (w4.alloc (.cells #[.int .u64 18446744069414584593, .int .u64 803078] 22)) w4.heap.size #[.int .u64 18446744069414584593, .int .u64 803078] 22 := Blk.new _ _ _
  have hzW5 : (w4.alloc (.cells #[.int .u64 18446744069414584593, .int .u64 803078] 22)).heap.size = w4.heap.size + 1 := World.size_alloc _ _
  generalize w4.alloc (.cells #[.int .u64 18446744069414584593, .int .u64 803078] 22) = W5 at *
  have hlU : Fl (fun k => k = w4.heap.size) W5 1 encU (.slice (some ⟨w4.heap.size, 0, none⟩) 2 2) [18446744069414584593, 803078] :=
    Sl.mk rfl rfl hBW5.lt (Nat.le_refl _) (by unfold maxLen; omega) fun j u hu => by rw [hBW5.cell, Nat.zero_add]; rw [← List.getElem?_toArray] at hu; exact hu
  refine (code14_any [18446744069414584593, 803078] (by decide) (by decide) hlU).mono ?_
  rintro e w6 ⟨v6, rfl, ho6, hk6⟩
  have hk46 : Keep No w4 w6 := hkW5.trans' hk6
  obtain ⟨a6, c6, rfl, _, _⟩ := ho6.fl.shape
  have hS6 := hS4.no (fun k hk => hk.2) hk46
  have hb6 := FlO.bts8 ho6
  have hK6 := hK4.trans' hk46
  have hA6 : ∀ k, (w2.heap.size ≤ k ∧ k < w4.heap.size) → k < w6.heap.size := fun k hk => Nat.lt_of_lt_of_le hk.2 hk46.size
  have HSZ46 := Lib.hid hk46.size
  clear hlU hS4 hK4 hkW5 hBW5 hk6 hk46 ho6
  rw [show (codeL [18446744069414584593, 803078]).length = 16 from rfl] at *
  go_wp2_with fail
  have hpo := vpoke_any (w := w6) 256 (codeL [18446744069414584593, 803078]) (by omega) (by decide) hS6 hA6 hb6 (fun k hk ha => by have := hk.1; rw [hzW5] at this; omega)
  rw [show (codeL [18446744069414584593, 803078]).length = 16 from rfl, aw_peek] at hpo
  unfold ptrTo at hpo
  refine hpo.mono ?_
  rintro e w7 ⟨rfl, hS7, hk7⟩
  change SRep (fun k => w2.heap.size ≤ k ∧ k < w4.heap.size) w7 d awB mb f2 at hS7
  have hK7 : Keep No w w7 := hK6.trans hk7 fun j hj ha => absurd ha.1 (Nat.not_le.2 (by omega))
  have hA7 : ∀ k, (w2.heap.size ≤ k ∧ k < w4.heap.size) → k < w7.heap.size := fun k hk => Nat.lt_of_lt_of_le (hA6 k hk) hk7.size
  have HSZ47 := Lib.hid (show w4.heap.size ≤ w7.heap.size from Nat.le_trans HSZ46.out hk7.size)
  clear hpo hS6 hb6 hA6 hk7 hK6
  go_wp2_with fail
  have hst := cpustep_any (w := w7) aw0 aw0_ok (HT.out.no hK7) hS7 hA7
  rw [aw_1] at hst
  unfold encO3 ptrTo at hst
  dsimp only at hst
  rw [show cellsS aw0 = #[.int .u64 0, .int .u64 0, .int .u64 0, .int .u64 0, .int .u64 0, .int .u64 0, .int .u64 0, .int .u64 0, .int .u64 0, .int .u64 0, .int .u64 0, .int .u64 0, .int .u64 0, .int .u64 0, .int .u64 0, .int .u64 0, .int .u64 0, .int .u64 0, .int .u64 0, .int .u64 0, .int .u64 0, .int .u64 0, .int .u64 0, .int .u64 0, .int .u64 0, .int .u64 0, .int .u64 0, .int .u64 0, .int .u64 0, .int .u64 0, .int .u64 0, .int .u64 0, .int .u64 256, .int .u64 0] from rfl] at hst
  refine hst.mono ?_
  rintro e w8 ⟨rfl, hS8, hk8⟩
  have hK8 : Keep No w w8 := hK7.trans hk8 fun j hj ha => absurd ha.1 (Nat.not_le.2 (by omega))
  have hA8 : ∀ k, (w2.heap.size ≤ k ∧ k < w4.heap.size) → k < w8.heap.size := fun k hk => Nat.lt_of_lt_of_le (hA7 k hk) hk8.size
  have hst2 := fun (W : World) (hk : Keep No w8 W) => cpustep_any (w := W) aw1 aw1_ok (HT.out.no (hK8.trans' hk)) (hS8.no hA8 hk) fun k hk' => Nat.lt_of_lt_of_le (hA8 k hk') hk.size
  rw [aw_2] at hst2
  have hs1 := cellsS_size aw1_ok
  have hs2 := stC_sz aw1_ok
  have hs3 := cellsS_one aw1
  have hs4 := fun W => stC_eq aw1_ok W
  have hc1 : (cellsS aw1)[1]? = some (.int .u64 18446744073709551615) := rfl
  have hc32 : (cellsS aw1)[32]? = some (.int .u64 264) := rfl
  unfold encO3 ptrTo at hst2
  dsimp only at hst2
  generalize cellsS aw1 = C1 at *
  have HS1 := Lib.hid hs1
  have HS2 := Lib.hid hs2
  have HS3 := Lib.hid hs3
  have HS4 := Lib.hid hs4
  have HC1 := Lib.hid hc1
  have HC32 := Lib.hid hc32
  have HST := Lib.hid hst2
  have hk468 := Lib.hid (show w4.heap.size ≤ w8.heap.size from Nat.le_trans HSZ47.out hk8.size)
  clear hst hS7 hA7 hK7 hk8 hs1 hs2 hs3 hs4 hc1 hc32 hst2
  go_wp2_with (with_reducible refine wl_stAgg rfl _ _ _ rfl _ _ rfl rfl ?_)
  have hkW9 : Keep No w8 (w8.alloc (.cells #[.int .u64 0, .int .u64 0, .int .u64 0, .int .u64 0, .int .u64 0, .int .u64 0, .int .u64 0, .int .u64 0, .int .u64 0, .int .u64 0, .int .u64 0, .int .u64 0, .int .u64 0, .int .u64 0, .int .u64 0, .int .u64 0, .int .u64 0, .int .u64 0, .int .u64 0, .int .u64 0, .int .u64 0, .int .u64 0, .int .u64 0, .int .u64 0, .int .u64 0, .int .u64 0, .int .u64 0, .int .u64 0, .int .u64 0, .int .u64 0, .int .u64 0, .int .u64 0, .int .u64 0, .int .u64 0] 33)) := (Keep.refl _ _).alloc _
  have hBW9 : Blk (w8.alloc (.cells #[.int .u64 0, .int .u64 0, .int .u64 0, .int .u64 0, .int .u64 0, .int .u64 0, .int .u64 0, .int .u64 0, .int .u64 0, .int .u64 0, .int .u64 0, .int .u64 0, .int .u64 0, .int .u64 0, .int .u64 0, .int .u64 0, .int .u64 0, .int .u64 0, .int .u64 0, .int .u64 0, .int .u64 0, .int .u64 0, .int .u64 0, .int .u64 0, .int .u64 0, .int .u64 0, .int .u64 0, .int .u64 0, .int .u64 0, .int .u64 0, .int .u64 0, .int .u64 0, .int .u64 0, .int .u64 0] 33)) w8.heap.size #[.int .u64 0, .int .u64 0, .int .u64 0, .int .u64 0, .int .u64 0, .int .u64 0, .int .u64 0, .int .u64 0, .int .u64 0, .int .u64 0, .int .u64 0, .int .u64 0, .int .u64 0, .int .u64 0, .int .u64 0, .int .u64 0, .int .u64 0, .int .u64 0, .int .u64 0, .int .u64 0, .int .u64 0, .int .u64 0, .int .u64 0, .int .u64 0, .int .u64 0, .int .u64 0, .int .u64 0, .int .u64 0, .int .u64 0, .int .u64 0, .int .u64 0, .int .u64 0, .int .u64 0, .int .u64 0] 33 := Blk.new _ _ _
  have hzW9 : (w8.alloc (.cells #[.int .u64 0, .int .u64 0, .int .u64 0, .int .u64 0, .int .u64 0, .int .u64 0, .int .u64 0, .int .u64 0, .int .u64 0, .int .u64 0, .int .u64 0, .int .u64 0, .int .u64 0, .int .u64 0, .int .u64 0, .int .u64 0, .int .u64 0, .int .u64 0, .int .u64 0, .int .u64 0, .int .u64 0, .int .u64 0, .int .u64 0, .int .u64 0, .int .u64 0, .int .u64 0, .int .u64 0, .int .u64 0, .int .u64 0, .int .u64 0, .int .u64 0, .int .u64 0, .int .u64 0, .int .u64 0] 33)).heap.size = w8.heap.size + 1 := World.size_alloc _ _
  generalize w8.alloc (.cells #[.int .u64 0, .int .u64 0, .int .u64 0, .int .u64 0, .int .u64 0, .int .u64 0, .int .u64 0, .int .u64 0, .int .u64 0, .int .u64 0, .int .u64 0, .int .u64 0, .int .u64 0, .int .u64 0, .int .u64 0, .int .u64 0, .int .u64 0, .int .u64 0, .int .u64 0, .int .u64 0, .int .u64 0, .int .u64 0, .int .u64 0, .int .u64 0, .int .u64 0, .int .u64 0, .int .u64 0, .int .u64 0, .int .u64 0, .int .u64 0, .int .u64 0, .int .u64 0, .int .u64 0, .int .u64 0] 33) = W9 at *
  have hkW10 : Keep No W9 (W9.alloc (.cells #[.int .i64 0, .int .i64 0, .int .u64 0] 46)) := (Keep.refl _ _).alloc _
  have hBW10 : Blk (W9.alloc (.cells #[.int .i64 0, .int .i64 0, .int .u64 0] 46)) W9.heap.size #[.int .i64 0, .int .i64 0, .int .u64 0] 46 := Blk.new _ _ _
  have hzW10 : (W9.alloc (.cells #[.int .i64 0, .int .i64 0, .int .u64 0] 46)).heap.size = W9.heap.size + 1 := World.size_alloc _ _
  generalize W9.alloc (.cells #[.int .i64 0, .int .i64 0, .int .u64 0] 46) = W10 at *
  rw [hzW9] at hBW10 hzW10
  have b9 := hBW9.keep hkW10 fun h => h
  have hK10 := hkW9.trans' hkW10
  clear hBW9 hkW9 hkW10 hzW9
  refine rg_stAgg b9 HS2.out (by rw [HS1.out]; rfl) HS3.out ?_
  intro wa b9a hka hza
  have hKa : Keep No w8 wa := hK10.trans hka fun j hj e => by have e2 : j = w8.heap.size := e; omega
  have b10a := hBW10.keep hka fun e => by have e2 : w8.heap.size + 1 = w8.heap.size := e; omega
  go_wp2_with (with_reducible refine wl_stAgg rfl _ _ _ rfl _ _ rfl rfl ?_)
  refine rg_stAgg b10a (by kernel_rfl) (by rfl) (by simp [Value.oneCell']) ?_
  intro wb b10 hkb hzb
  have hKb : Keep No w8 wb := hKa.trans hkb fun j hj e => by have e2 : j = w8.heap.size + 1 := e; omega
  have b9 := b9a.keep hkb fun e => by have e2 : w8.heap.size = w8.heap.size + 1 := e; omega
  have hc := HST.out wb hKb
  clear hK10 hka hza hKa b10a b9a hkb hzb hBW10 hzW10
  go_wp2_with (with_reducible refine wl_ld rfl _ 33 rfl _ rfl ?_)
  refine rg_ld b9 Tryz.underlying33 rfl HS2.out ?_
  go_wp2_with fail
  refine hc.mono ?_
  rintro e w11 ⟨rfl, _, hk11⟩
  have hK11 : Keep No w w11 := (hK8.trans' hKb).trans hk11 fun j hj ha => absurd ha.1 (Nat.not_le.2 (by omega))
  have hg8 : w4.heap.size ≤ w8.heap.size := by have := hk468.out; exact this
  have b9 := b9.keep hk11 fun h => by omega
  have b10 := b10.keep hk11 fun h => by omega
  have hl11 := Lib.hid b10.lt
  clear hc hk11
  go_wp2_with (with_reducible refine wl_stAgg rfl _ _ _ rfl _ _ rfl rfl ?_)
  have hkV9 : Keep No w11 (w11.alloc (.cells #[.int .u64 0, .int .u64 0, .int .u64 0, .int .u64 0, .int .u64 0, .int .u64 0, .int .u64 0, .int .u64 0, .int .u64 0, .int .u64 0, .int .u64 0, .int .u64 0, .int .u64 0, .int .u64 0, .int .u64 0, .int .u64 0, .int .u64 0, .int .u64 0, .int .u64 0, .int .u64 0, .int .u64 0, .int .u64 0, .int .u64 0, .int .u64 0, .int .u64 0, .int .u64 0, .int .u64 0, .int .u64 0, .int .u64 0, .int .u64 0, .int .u64 0, .int .u64 0, .int .u64 0, .int .u64 0] 33)) := (Keep.refl _ _).alloc _
  have hBV9 : Blk (w11.alloc (.cells #[.int .u64 0, .int .u64 0, .int .u64 0, .int .u64 0, .int .u64 0, .int .u64 0, .int .u64 0, .int .u64 0, .int .u64 0, .int .u64 0, .int .u64 0, .int .u64 0, .int .u64 0, .int .u64 0, .int .u64 0, .int .u64 0, .int .u64 0, .int .u64 0, .int .u64 0, .int .u64 0, .int .u64 0, .int .u64 0, .int .u64 0, .int .u64 0, .int .u64 0, .int .u64 0, .int .u64 0, .int .u64 0, .int .u64 0, .int .u64 0, .int .u64 0, .int .u64 0, .int .u64 0, .int .u64 0] 33)) w11.heap.size #[.int .u64 0, .int .u64 0, .int .u64 0, .int .u64 0, .int .u64 0, .int .u64 0, .int .u64 0, .int .u64 0, .int .u64 0, .int .u64 0, .int .u64 0, .int .u64 0, .int .u64 0, .int .u64 0, .int .u64 0, .int .u64 0, .int .u64 0, .int .u64 0, .int .u64 0, .int .u64 0, .int .u64 0, .int .u64 0, .int .u64 0, .int .u64 0, .int .u64 0, .int .u64 0, .int .u64 0, .int .u64 0, .int .u64 0, .int .u64 0, .int .u64 0, .int .u64 0, .int .u64 0, .int .u64 0] 33 := Blk.new _ _ _
  have hzV9 : (w11.alloc (.cells #[.int .u64 0, .int .u64 0, .int .u64 0, .int .u64 0, .int .u64 0, .int .u64 0, .int .u64 0, .int .u64 0, .int .u64 0, .int .u64 0, .int .u64 0, .int .u64 0, .int .u64 0, .int .u64 0, .int .u64 0, .int .u64 0, .int .u64 0, .int .u64 0, .int .u64 0, .int .u64 0, .int .u64 0, .int .u64 0, .int .u64 0, .int .u64 0, .int .u64 0, .int .u64 0, .int .u64 0, .int .u64 0, .int .u64 0, .int .u64 0, .int .u64 0, .int .u64 0, .int .u64 0, .int .u64 0] 33)).heap.size = w11.heap.size + 1 := World.size_alloc _ _
  generalize w11.alloc (.cells #[.int .u64 0, .int .u64 0, .int .u64 0, .int .u64 0, .int .u64 0, .int .u64 0, .int .u64 0, .int .u64 0, .int .u64 0, .int .u64 0, .int .u64 0, .int .u64 0, .int .u64 0, .int .u64 0, .int .u64 0, .int .u64 0, .int .u64 0, .int .u64 0, .int .u64 0, .int .u64 0, .int .u64 0, .int .u64 0, .int .u64 0, .int .u64 0, .int .u64 0, .int .u64 0, .int .u64 0, .int .u64 0, .int .u64 0, .int .u64 0, .int .u64 0, .int .u64 0, .int .u64 0, .int .u64 0] 33) = V9 at *
  have hkV10 : Keep No V9 (V9.alloc (.cells #[.int .i64 0, .int .i64 0, .int .u64 0] 46)) := (Keep.refl _ _).alloc _
  have hBV10 : Blk (V9.alloc (.cells #[.int .i64 0, .int .i64 0, .int .u64 0] 46)) V9.heap.size #[.int .i64 0, .int .i64 0, .int .u64 0] 46 := Blk.new _ _ _
  have hzV10 : (V9.alloc (.cells #[.int .i64 0, .int .i64 0, .int .u64 0] 46)).heap.size = V9.heap.size + 1 := World.size_alloc _ _
  generalize V9.alloc (.cells #[.int .i64 0, .int .i64 0, .int .u64 0] 46) = V10 at *
  rw [hzV9] at hBV10 hzV10
  have b9 := (b9.keep hkV9 fun h => h).keep hkV10 fun h => h
  have b10 := (b10.keep hkV9 fun h => h).keep hkV10 fun h => h
  have hl10 := b10.lt
  have c9 := hBV9.keep hkV10 fun h => h
  have hL10 := hkV9.trans' hkV10
  clear hBV9 hkV9 hkV10 hzV9
  have hlt8 : w8.heap.size + 1 < w11.heap.size := by have := hl11.out; exact this
  refine rg_stAgg c9 HS2.out (by rw [HS1.out]; rfl) HS3.out ?_
  intro va c9a hka hza
  have hLa : Keep No w11 va := hL10.trans hka fun j hj e => by have e2 : j = w11.heap.size := e; omega
  have c10a := hBV10.keep hka fun e => by have e2 : w11.heap.size + 1 = w11.heap.size := e; omega
  have b9 := b9.keep hka fun e => by have e2 : w8.heap.size = w11.heap.size := e; omega
  have b10 := b10.keep hka fun e => by have e2 : w8.heap.size + 1 = w11.heap.size := e; omega
  go_wp2_with (with_reducible refine wl_stAgg rfl _ _ _ rfl _ _ rfl rfl ?_)
  refine rg_stAgg c10a (by kernel_rfl) (by rfl) (by simp [Value.oneCell']) ?_
  intro vb c10 hkb hzb
  have hLb : Keep No w11 vb := hLa.trans hkb fun j hj e => by have e2 : j = w11.heap.size + 1 := e; omega
  have c9 := c9a.keep hkb fun e => by have e2 : w11.heap.size = w11.heap.size + 1 := e; omega
  have b9 := b9.keep hkb fun e => by have e2 : w8.heap.size = w11.heap.size + 1 := e; omega
  have b10 := b10.keep hkb fun e => by have e2 : w8.heap.size + 1 = w11.heap.size + 1 := e; omega
  have hKK : Keep No w vb := hK11.trans' hLb
  have q1 : vb.cell? ⟨w8.heap.size, 1, none⟩ = some (.int .u64 18446744073709551615) := (b9.cell 1).trans HC1.out
  have q2 : vb.cell? ⟨w8.heap.size, 32, none⟩ = some (.int .u64 264) := (b9.cell 32).trans HC32.out
  have q3 : vb.cell? ⟨w8.heap.size + 1, 0, none⟩ = some (.int .i64 0) := b10.cell 0
  have q4 : vb.cell? ⟨w11.heap.size + 1, 0, none⟩ = some (.int .i64 3) := c10.cell 0
  have q5 : vb.cell? ⟨w11.heap.size + 1, 1, none⟩ = some (.int .i64 43) := c10.cell 1
  have q6 : vb.cell? ⟨w11.heap.size + 1, 2, none⟩ = some (.int .u64 264) := c10.cell 2
  clear hLa hka hza c10a c9a hkb hzb hBV10 hzV10 hL10 hLb hK11 hKb hK8
  go_wp2_with (with_reducible refine wl_ldg (by with_unfolding_all rfl) _ 33 rfl _ rfl ?_)
  refine rg_ld c9 Tryz.underlying33 rfl HS2.out ?_
  go_wp2_with (with_reducible refine wl_ldg (by with_unfolding_all rfl) _ 33 rfl _ rfl ?_)
  refine rg_ld b9 Tryz.underlying33 rfl HS2.out ?_
  go_wp2_with (with_reducible refine wl_eqg (by with_unfolding_all rfl) _ _ 33 _ rfl _ rfl rfl ?_)
  refine ⟨by kernel_rfl, HS4.out _, ?_⟩
  go_wp2_with fail
  go_ret
  exact ⟨rfl, hKK⟩
end
end Go.Proofs.YtaoillfofiehpaaGreatDoor
namespace Go.Proofs.YtaoillfofiehpaaGreatDoor
open Go.RowKit Go.Dm Go.Dm.Vm Go.Dm.Cp Go.Maps
section
variable {w : World}
set_option maxRecDepth 100000 in
set_option maxHeartbeats 1000000 in
theorem r14below_any (x y : Nat) (hx : x < 18446744073709551616) (hy : y < 18446744073709551616) (w : World) : Calls Tryz.prog 56 #[.int .u64 (x : Int), .int .u64 (y : Int)] w fun e w' => e = .returned (.bool (belowM x y)) ∧ w = w' := by
  have hb : belowM x y = if x / 9223372036854775808 ≠ y / 9223372036854775808 then x / 9223372036854775808 == 1 else decide (x < y) := rfl
  have hxq : x / 9223372036854775808 < 2 := by omega
  have hyq : y / 9223372036854775808 < 2 := by omega
  have hxe : (x : Int) / 9223372036854775808 = ((x / 9223372036854775808 : Nat) : Int) := rfl
  have hye : (y : Int) / 9223372036854775808 = ((y / 9223372036854775808 : Nat) : Int) := rfl
  generalize belowM x y = B at *
  have HB := Lib.hid hb
  clear hb
  generalize x / 9223372036854775808 = p at *
  generalize y / 9223372036854775808 = q at *
  by_cases hpq : p = q
  · have h1 : ((p : Int) != (q : Int)) = false := by simp [hpq]
    rw [if_neg (fun h => h hpq)] at HB
    clear hpq
    go_enter Tryz.func56, Tryz.ntmps56
    go_wp2_with fail
    all_goals
      go_ret
      refine ⟨?_, rfl⟩
      rw [HB.out]
      exact congrArg (fun b => Ending.returned (Value.bool b)) (by first | (rw [Bool.eq_iff_iff]; done) | (rw [Bool.eq_iff_iff]; simp; done) | (rw [Bool.eq_iff_iff]; simp; omega))
  · have h1 : ((p : Int) != (q : Int)) = true := bne_iff_ne.2 fun h => hpq (Int.ofNat_inj.1 h)
    rw [if_pos hpq] at HB
    clear hpq
    go_enter Tryz.func56, Tryz.ntmps56
    go_wp2_with fail
    all_goals
      go_ret
      refine ⟨?_, rfl⟩
      rw [HB.out]
      exact congrArg (fun b => Ending.returned (Value.bool b)) (by first | (rw [Bool.eq_iff_iff]; done) | (rw [Bool.eq_iff_iff]; simp; done) | (rw [Bool.eq_iff_iff]; simp; omega))
set_option maxRecDepth 100000 in
set_option maxHeartbeats 1000000 in
theorem r14power_any (k : Nat) (hk : k < 64) (w : World) : Calls Tryz.prog 55 #[.int .u64 (k : Int)] w fun e w' => e = .returned (.int .u64 ((2 ^ k : Nat) : Int)) ∧ w = w' := by
  obtain ⟨P, hP⟩ : ∃ P : Nat, P = 2 ^ k := ⟨_, rfl⟩
  rw [← hP]
  have HP := Lib.hid hP
  clear hP
  go_enter Tryz.func55, Tryz.ntmps55
  go_wp2_with fail
  go_loop [3, 4] (fun xv iv => ∃ i : Nat, iv = .int .u64 (i : Int) ∧ i ≤ k ∧ xv = .int .u64 ((2 ^ i : Nat) : Int)) (fun _ iv => k - (intOf iv).toNat)
  case atStart => exact ⟨0, rfl, Nat.zero_le _, rfl⟩
  case round =>
    obtain ⟨i, rfl, hi, rfl⟩ := hrel
    rcases Nat.lt_or_ge i k with hlt | hge
    · have hltz : (i : Int) < (k : Int) := by omega
      have h2 : 2 ^ (i + 1) = 2 ^ i * 2 := Nat.pow_succ ..
      have h3 : 2 ^ (i + 1) < 18446744073709551616 := Nat.lt_of_le_of_lt (Nat.pow_le_pow_right (by decide) (show i + 1 ≤ 63 by omega)) (by decide)
      rw [h2] at h3
      have H2 := Lib.hid h2
      clear h2
      generalize 2 ^ i = x at *
      go_wp2_with fail
      go_round
      case rel => exact ⟨i + 1, by go_num, hlt, by rw [H2.out]; go_num⟩
      case measure => simp [intOf]; omega
    · obtain rfl : i = k := Nat.le_antisymm hi hge
      rw [← HP.out]
      go_wp2_with fail
      go_ret
      exact ⟨rfl, rfl⟩
theorem not_nat (b : Nat) (hb : b < 18446744073709551616) : 18446744073709551615 ^^^ b = 18446744073709551615 - b := by
  have h := congrArg BitVec.toNat (BitVec.allOnes_xor (x := BitVec.ofNat 64 b))
  simpa [Nat.mod_eq_of_lt hb] using h
theorem not_bits (b : Nat) (hb : b < 18446744073709551616) : bits .xor .u64 18446744073709551615 (b : Int) = ((18446744073709551615 - b : Nat) : Int) := by
  have h := u64_xor_nat 18446744073709551615 b (by decide) hb
  rw [not_nat b hb] at h
  exact h
theorem mul_wrap (b p : Nat) : IntKind.u64.wrap ((b : Int) * (p : Int)) = ((b * p % 18446744073709551616 : Nat) : Int) := by
  rw [IntKind.wrap_u64, ← Int.natCast_mul]
  generalize b * p = q
  omega
theorem tdiv_nat (b p : Nat) : (b : Int).tdiv (p : Int) = ((b / p : Nat) : Int) := by rw [Int.tdiv_eq_ediv_of_nonneg (by omega), Int.natCast_ediv]
set_option maxRecDepth 100000 in
set_option maxHeartbeats 8000000 in
theorem r14of_any (op b c : Nat) (ho : 3 ≤ op ∧ op ≤ 15) (hb : b < 18446744073709551616) (hc : c < 18446744073709551616) (hz : ¬ ((op = 6 ∨ op = 7) ∧ c = 0)) :
    Calls Tryz.prog 37 #[.int .i64 (op : Int), .int .u64 (b : Int), .int .u64 (c : Int)] w fun e w' => e = .returned (.int .u64 ((ofM op b c : Nat) : Int)) ∧ w = w' := by
  have hk64 : c % 64 < 64 := Nat.mod_lt _ (by decide)
  have hkz : ((c % 64 : Nat) : Int) ≤ 63 := by omega
  have hmod : (c : Int).tmod 64 = ((c % 64 : Nat) : Int) := by rw [Int.tmod_eq_emod_of_nonneg (by omega)]; rfl
  have hp64 : 2 ^ (c % 64) < 18446744073709551616 := Nat.lt_of_le_of_lt (Nat.pow_le_pow_right (by decide) (show c % 64 ≤ 63 by omega)) (by decide)
  have hp0 := two_pos (c % 64)
  have hop : op = 3 ∨ op = 4 ∨ op = 5 ∨ op = 6 ∨ op = 7 ∨ op = 8 ∨ op = 9 ∨ op = 10 ∨ op = 11 ∨ op = 12 ∨ op = 13 ∨ op = 14 ∨ op = 15 := by omega
  rcases hop with rfl | rfl | rfl | rfl | rfl | rfl | rfl | rfl | rfl | rfl | rfl | rfl | rfl
  · have hres := of_3 b c
    have hp := fun (W : World) => r14power_any (c % 64) hk64 W
    generalize 2 ^ (c % 64) = P at *
    generalize ofM 3 b c = X at *
    have HP := Lib.hid hp
    clear hp
    go_enter Tryz.func37, Tryz.ntmps37
    go_wp2_with fail
    have hp := HP.out w
    refine hp.mono ?_
    rintro e w1 ⟨rfl, rfl⟩
    clear hp
    go_wp2_with fail
    go_ret
    exact ⟨rfl, rfl⟩
  · have hres := of_4 b c hb hc
    have hp := fun (W : World) => r14power_any (c % 64) hk64 W
    generalize 2 ^ (c % 64) = P at *
    generalize ofM 4 b c = X at *
    have HP := Lib.hid hp
    clear hp
    go_enter Tryz.func37, Tryz.ntmps37
    go_wp2_with fail
    have hp := HP.out w
    refine hp.mono ?_
    rintro e w1 ⟨rfl, rfl⟩
    clear hp
    go_wp2_with fail
    go_ret
    exact ⟨rfl, rfl⟩
  · have hres := of_5 b c
    have hp := fun (W : World) => r14power_any (c % 64) hk64 W
    generalize 2 ^ (c % 64) = P at *
    generalize ofM 5 b c = X at *
    have HP := Lib.hid hp
    clear hp
    go_enter Tryz.func37, Tryz.ntmps37
    go_wp2_with fail
    have hp := HP.out w
    refine hp.mono ?_
    rintro e w1 ⟨rfl, rfl⟩
    clear hp
    go_wp2_with fail
    go_ret
    exact ⟨rfl, rfl⟩
  · have hcz : c ≠ 0 := fun h => hz ⟨.inl rfl, h⟩
    have hcb : ((c : Int) == 0) = false := by simp; omega
    have hres : (b : Int).tdiv (c : Int) = ((ofM 6 b c : Nat) : Int) := by rw [of6]; exact tdiv_nat b c
    have hle : ofM 6 b c ≤ b := by rw [of6]; exact Nat.div_le_self _ _
    have hp := fun (W : World) => r14power_any (c % 64) hk64 W
    generalize 2 ^ (c % 64) = P at *
    generalize ofM 6 b c = X at *
    have HP := Lib.hid hp
    clear hp
    go_enter Tryz.func37, Tryz.ntmps37
    go_wp2_with fail
    have hp := HP.out w
    refine hp.mono ?_
    rintro e w1 ⟨rfl, rfl⟩
    clear hp
    go_wp2_with fail
    go_ret
    exact ⟨rfl, rfl⟩
  · have hcz : c ≠ 0 := fun h => hz ⟨.inr rfl, h⟩
    have hcb : ((c : Int) == 0) = false := by simp; omega
    have h1 := tdiv_nat b c
    have h2 := mul_wrap (b / c) c
    have h3 := Nat.div_mul_le_self b c
    rw [Nat.mod_eq_of_lt (by omega)] at h2
    have h4 : ((b : Int) - ((b / c * c : Nat) : Int)) = ((ofM 7 b c : Nat) : Int) := by rw [of7, ← mod_eq b c]; omega
    have hle := Nat.div_le_self b c
    generalize b / c * c = r at *
    generalize b / c = q at *
    have hp := fun (W : World) => r14power_any (c % 64) hk64 W
    generalize 2 ^ (c % 64) = P at *
    generalize ofM 7 b c = X at *
    have HP := Lib.hid hp
    clear hp
    go_enter Tryz.func37, Tryz.ntmps37
    go_wp2_with fail
    have hp := HP.out w
    refine hp.mono ?_
    rintro e w1 ⟨rfl, rfl⟩
    clear hp
    go_wp2_with fail
    go_ret
    exact ⟨rfl, rfl⟩
  · have hres := of_8 b c hb hc
    have hp := fun (W : World) => r14power_any (c % 64) hk64 W
    generalize 2 ^ (c % 64) = P at *
    generalize ofM 8 b c = X at *
    have HP := Lib.hid hp
    clear hp
    go_enter Tryz.func37, Tryz.ntmps37
    go_wp2_with fail
    have hp := HP.out w
    refine hp.mono ?_
    rintro e w1 ⟨rfl, rfl⟩
    clear hp
    go_wp2_with fail
    go_ret
    exact ⟨rfl, rfl⟩
  · have hres := of_9 b c hb hc
    have hp := fun (W : World) => r14power_any (c % 64) hk64 W
    generalize 2 ^ (c % 64) = P at *
    generalize ofM 9 b c = X at *
    have HP := Lib.hid hp
    clear hp
    go_enter Tryz.func37, Tryz.ntmps37
    go_wp2_with fail
    have hp := HP.out w
    refine hp.mono ?_
    rintro e w1 ⟨rfl, rfl⟩
    clear hp
    go_wp2_with fail
    go_ret
    exact ⟨rfl, rfl⟩
  · have hres := of_10 b c hb hc
    have hp := fun (W : World) => r14power_any (c % 64) hk64 W
    generalize 2 ^ (c % 64) = P at *
    generalize ofM 10 b c = X at *
    have HP := Lib.hid hp
    clear hp
    go_enter Tryz.func37, Tryz.ntmps37
    go_wp2_with fail
    have hp := HP.out w
    refine hp.mono ?_
    rintro e w1 ⟨rfl, rfl⟩
    clear hp
    go_wp2_with fail
    go_ret
    exact ⟨rfl, rfl⟩
  · have hres : IntKind.u64.wrap ((b : Int) * ((2 ^ (c % 64) : Nat) : Int)) = ((ofM 11 b c : Nat) : Int) := by rw [of11]; exact mul_wrap b _
    have hp := fun (W : World) => r14power_any (c % 64) hk64 W
    generalize 2 ^ (c % 64) = P at *
    generalize ofM 11 b c = X at *
    have HP := Lib.hid hp
    clear hp
    go_enter Tryz.func37, Tryz.ntmps37
    go_wp2_with fail
    have hp := HP.out w
    refine hp.mono ?_
    rintro e w1 ⟨rfl, rfl⟩
    clear hp
    go_wp2_with fail
    go_ret
    exact ⟨rfl, rfl⟩
  · have hres : (b : Int).tdiv ((2 ^ (c % 64) : Nat) : Int) = ((ofM 12 b c : Nat) : Int) := by rw [of12]; exact tdiv_nat b _
    have hpz : (((2 ^ (c % 64) : Nat) : Int) == 0) = false := by rw [beq_eq_false_iff_ne]; omega
    have hle : ofM 12 b c ≤ b := by rw [of12]; exact Nat.div_le_self _ _
    have hp := fun (W : World) => r14power_any (c % 64) hk64 W
    generalize 2 ^ (c % 64) = P at *
    generalize ofM 12 b c = X at *
    have HP := Lib.hid hp
    clear hp
    go_enter Tryz.func37, Tryz.ntmps37
    go_wp2_with fail
    have hp := HP.out w
    refine hp.mono ?_
    rintro e w1 ⟨rfl, rfl⟩
    clear hp
    go_wp2_with fail
    go_ret
    exact ⟨rfl, rfl⟩
  · have hX := of13 b c
    unfold sarM at hX
    have hpz : (((2 ^ (c % 64) : Nat) : Int) == 0) = false := by rw [beq_eq_false_iff_ne]; omega
    have hsh : (b : Int) / 9223372036854775808 = ((b / 9223372036854775808 : Nat) : Int) := rfl
    by_cases hn : b / 9223372036854775808 = 1
    · rw [if_pos hn] at hX
      have hn1 : (((b / 9223372036854775808 : Nat) : Int) == 1) = true := by rw [hn]; rfl
      clear hn
      generalize b / 9223372036854775808 = bq at *
      have hsg : IntKind.u64.signed = false := rfl
      have hmx : IntKind.u64.max = 18446744073709551615 := rfl
      have hn2 := not_bits b hb
      have hdv := tdiv_nat (18446744073709551615 - b) (2 ^ (c % 64))
      have hql : (18446744073709551615 - b) / 2 ^ (c % 64) < 18446744073709551616 := Nat.lt_of_le_of_lt (Nat.div_le_self _ _) (by omega)
      have hn3 := not_bits _ hql
      rw [← hX] at hn3
      have hnb : 18446744073709551615 - b < 18446744073709551616 := by omega
      generalize 18446744073709551615 - b = nb at *
      generalize nb / 2 ^ (c % 64) = nq at *
      have HX := Lib.hid hX
      clear hX
      have hp := fun (W : World) => r14power_any (c % 64) hk64 W
      generalize 2 ^ (c % 64) = P at *
      generalize ofM 13 b c = X at *
      have HP := Lib.hid hp
      clear hp
      go_enter Tryz.func37, Tryz.ntmps37
      go_wp2_with fail
      have hp := HP.out w
      refine hp.mono ?_
      rintro e w1 ⟨rfl, rfl⟩
      clear hp
      go_wp2_with fail
      go_ret
      exact ⟨rfl, rfl⟩
    · rw [if_neg hn] at hX
      have hn1 : (((b / 9223372036854775808 : Nat) : Int) == 1) = false := by rw [beq_eq_false_iff_ne]; omega
      have hres : (b : Int).tdiv ((2 ^ (c % 64) : Nat) : Int) = ((ofM 13 b c : Nat) : Int) := by rw [hX]; exact tdiv_nat b _
      have hle : ofM 13 b c ≤ b := by rw [hX]; exact Nat.div_le_self _ _
      clear hn hX
      generalize b / 9223372036854775808 = bq at *
      have hp := fun (W : World) => r14power_any (c % 64) hk64 W
      generalize 2 ^ (c % 64) = P at *
      generalize ofM 13 b c = X at *
      have HP := Lib.hid hp
      clear hp
      go_enter Tryz.func37, Tryz.ntmps37
      go_wp2_with fail
      have hp := HP.out w
      refine hp.mono ?_
      rintro e w1 ⟨rfl, rfl⟩
      clear hp
      go_wp2_with fail
      go_ret
      exact ⟨rfl, rfl⟩
  · have hX : ofM 14 b c = if belowM b c then 1 else 0 := of14 b c
    have HX := Lib.hid hX
    have hbl := fun (W : World) => r14below_any b c hb hc W
    clear hX
    have hp := fun (W : World) => r14power_any (c % 64) hk64 W
    generalize 2 ^ (c % 64) = P at *
    generalize ofM 14 b c = X at *
    generalize belowM b c = bl at *
    have HP := Lib.hid hp
    have HBL := Lib.hid hbl
    clear hp hbl
    go_enter Tryz.func37, Tryz.ntmps37
    go_wp2_with fail
    have hp := HP.out w
    refine hp.mono ?_
    rintro e w1 ⟨rfl, rfl⟩
    clear hp
    go_wp2_with fail
    have hp := HBL.out w
    refine hp.mono ?_
    rintro e w1 ⟨rfl, rfl⟩
    clear hp
    cases bl with
    | true =>
      go_wp2_with fail
      go_ret
      rw [HX.out]
      exact ⟨rfl, rfl⟩
    | false =>
      go_wp2_with fail
      go_ret
      rw [HX.out]
      exact ⟨rfl, rfl⟩
  · have hX : ofM 15 b c = if b < c then 1 else 0 := of15 b c
    have HX := Lib.hid hX
    clear hX
    have hp := fun (W : World) => r14power_any (c % 64) hk64 W
    generalize 2 ^ (c % 64) = P at *
    generalize ofM 15 b c = X at *
    have HP := Lib.hid hp
    clear hp
    go_enter Tryz.func37, Tryz.ntmps37
    go_wp2_with fail
    have hp := HP.out w
    refine hp.mono ?_
    rintro e w1 ⟨rfl, rfl⟩
    clear hp
    by_cases hlt : b < c
    · rw [if_pos hlt] at HX
      go_wp2_with fail
      go_ret
      rw [HX.out]
      exact ⟨rfl, rfl⟩
    · rw [if_neg hlt] at HX
      go_wp2_with fail
      go_ret
      rw [HX.out]
      exact ⟨rfl, rfl⟩
set_option maxRecDepth 100000 in
theorem r14jumps_any (op a b : Nat) (ho : 30 ≤ op ∧ op ≤ 33) (ha : a < 18446744073709551616) (hb : b < 18446744073709551616) :
    Calls Tryz.prog 40 #[.int .i64 (op : Int), .int .u64 (a : Int), .int .u64 (b : Int)] w fun e w' => e = .returned (.bool (jumpsM op a b)) ∧ w = w' := by
  have hop : op = 30 ∨ op = 31 ∨ op = 32 ∨ op = 33 := by omega
  have heq : ((a : Int) == (b : Int)) = (a == b) := by
    rw [Bool.eq_iff_iff]
    simp
    omega
  rcases hop with rfl | rfl | rfl | rfl
  · have hj : jumpsM 30 a b = (a == b) := rfl
    rw [hj]
    generalize (a == b) = bb at *
    go_enter Tryz.func40, Tryz.ntmps40
    go_wp2_with fail
    go_ret
    exact ⟨rfl, rfl⟩
  · have hj : jumpsM 31 a b = !(a == b) := rfl
    rw [hj]
    have hne : ((a : Int) != (b : Int)) = !(a == b) := by rw [← heq]; rfl
    generalize (a == b) = bb at *
    clear heq
    go_enter Tryz.func40, Tryz.ntmps40
    go_wp2_with fail
    go_ret
    exact ⟨rfl, rfl⟩
  · have hj : jumpsM 32 a b = belowM a b := rfl
    rw [hj]
    have hbl := fun (W : World) => r14below_any a b ha hb W
    generalize belowM a b = bb at *
    have HBL := Lib.hid hbl
    clear hbl heq
    go_enter Tryz.func40, Tryz.ntmps40
    go_wp2_with fail
    have hp := HBL.out w
    refine hp.mono ?_
    rintro e w1 ⟨rfl, rfl⟩
    clear hp
    go_wp2_with fail
    go_ret
    exact ⟨rfl, rfl⟩
  · have hj : jumpsM 33 a b = decide (a < b) := rfl
    rw [hj]
    clear heq
    by_cases hlt : a < b
    · have h1 : decide (a < b) = true := by simpa using hlt
      rw [h1]
      go_enter Tryz.func40, Tryz.ntmps40
      go_wp2_with fail
      go_ret
      exact ⟨rfl, rfl⟩
    · have h1 : decide (a < b) = false := by simpa using hlt
      rw [h1]
      go_enter Tryz.func40, Tryz.ntmps40
      go_wp2_with fail
      go_ret
      exact ⟨rfl, rfl⟩
end
end Go.Proofs.YtaoillfofiehpaaGreatDoor
namespace Go.Proofs.YtaoillfofiehpaaGreatDoor
open Go.RowKit Go.Dm Go.Dm.Vm Go.Dm.Cp Go.Maps
def encIR (i : Ins) : Value := .agg #[.int .i64 (i.op : Int), .int .i64 (i.a : Int), .int .i64 (i.b : Int), .int .i64 (i.c : Int), .int .i64 i.imm]
def zeroIR : Value := .agg #[.int .i64 0, .int .i64 0, .int .i64 0, .int .i64 0, .int .i64 0]
section
variable {w : World}
set_option maxRecDepth 100000 in
set_option maxHeartbeats 8000000 in
theorem r12dec_any (x : Nat) (hx : x < 18446744073709551616) :
    Calls Tryz.prog 36 #[.int .u64 (x : Int)] w fun e w' => e = .returned (.tuple #[if decE x = 0 then encIR (decI x) else zeroIR, .int .i64 (decE x : Nat)]) ∧ Keep No w w' := by
  have hen := fun (W : World) => r12enc_any (w := W) (decI x).op (decI x).a (decI x).b (decI x).c (decI x).imm
  have hE : decE x = if mayB (decI x).op (decI x).a (decI x).b (decI x).c (decI x).imm && (encM (decI x).op (decI x).a (decI x).b (decI x).c (decI x).imm == x) then 0 else 42 := rfl
  have hI : encIR (decI x) = .agg #[.int .i64 ((decI x).op : Int), .int .i64 ((decI x).a : Int), .int .i64 ((decI x).b : Int), .int .i64 ((decI x).c : Int), .int .i64 (decI x).imm] := rfl
  have e1 : (x : Int) % 256 = ((decI x).op : Int) := rfl
  have f2 : (x : Int) / 256 = ((x / 256 : Nat) : Int) := rfl
  have f3 : (x : Int) / 8192 = ((x / 8192 : Nat) : Int) := rfl
  have f4 : (x : Int) / 262144 = ((x / 262144 : Nat) : Int) := rfl
  have f5 : (x : Int) / 4294967296 = ((x / 4294967296 : Nat) : Int) := rfl
  have e2 : ((x / 256 : Nat) : Int) % 32 = ((decI x).a : Int) := rfl
  have e3 : ((x / 8192 : Nat) : Int) % 32 = ((decI x).b : Int) := rfl
  have e4 : ((x / 262144 : Nat) : Int) % 32 = ((decI x).c : Int) := rfl
  obtain ⟨d1, d2, d3, d4⟩ := dec_fits x
  have e5 : (decI x).imm = if 2147483648 ≤ x / 4294967296 then ((x / 4294967296 : Nat) : Int) - 4294967296 else ((x / 4294967296 : Nat) : Int) := rfl
  have hq : x / 4294967296 < 4294967296 := by omega
  have HI := Lib.hid hI
  have HE := Lib.hid hE
  have HEN := Lib.hid hen
  have HE5 := Lib.hid e5
  clear hI hE hen e5
  generalize decE x = E at *
  generalize encIR (decI x) = I at *
  generalize (decI x).op = op at *
  generalize (decI x).a = a at *
  generalize (decI x).b = b at *
  generalize (decI x).c = c at *
  generalize (decI x).imm = imm at *
  generalize encM op a b c imm = en at *
  generalize mayB op a b c imm = mf at *
  generalize x / 4294967296 = xi at *
  generalize x / 256 = x1 at *
  generalize x / 8192 = x2 at *
  generalize x / 262144 = x3 at *
  obtain ⟨R, hR⟩ : ∃ R, R = if E = 0 then I else zeroIR := ⟨_, rfl⟩
  rw [← hR]
  have HR := Lib.hid hR
  clear hR
  have haz : (a : Int) ≤ 31 := by omega
  have hbz : (b : Int) ≤ 31 := by omega
  have hcz : (c : Int) ≤ 31 := by omega
  have hoz : (op : Int) ≤ 255 := by omega
  have hqz : (xi : Int) ≤ 4294967295 := by omega
  clear hq hx
  by_cases hge : 2147483648 ≤ xi
  · have hg1 : (xi : Int) ≥ 2147483648 := by omega
    rw [if_pos hge] at HE5
    clear hge
    go_enter Tryz.func36, Tryz.ntmps36
    go_wp2_with (with_reducible refine wl_stAgg rfl _ _ _ rfl _ _ rfl rfl ?_)
    rw [← HE5.out]
    have hkW1 : Keep No w (w.alloc (.cells #[.int .i64 0, .int .i64 0, .int .i64 0, .int .i64 0, .int .i64 0] 30)) := (Keep.refl _ _).alloc _
    have hBW1 : Blk (w.alloc (.cells #[.int .i64 0, .int .i64 0, .int .i64 0, .int .i64 0, .int .i64 0] 30)) w.heap.size #[.int .i64 0, .int .i64 0, .int .i64 0, .int .i64 0, .int .i64 0] 30 := Blk.new _ _ _
    have hzW1 : (w.alloc (.cells #[.int .i64 0, .int .i64 0, .int .i64 0, .int .i64 0, .int .i64 0] 30)).heap.size = w.heap.size + 1 := World.size_alloc _ _
    generalize w.alloc (.cells #[.int .i64 0, .int .i64 0, .int .i64 0, .int .i64 0, .int .i64 0] 30) = W1 at *
    have hnew := Blk.new W1 #[.int .i64 0, .int .i64 0, .int .i64 0, .int .i64 0, .int .i64 0] 30
    rw [hzW1] at hnew
    refine rg_stAgg hnew (by kernel_rfl) (by rfl) (by simp [Value.oneCell']) ?_
    intro w2 hB2 hk2 _
    have hk12 : Keep No W1 w2 := ((Keep.refl No W1).alloc _).trans hk2 fun j hj e => absurd hj (by have e2 : j = w.heap.size + 1 := e; omega)
    have hkw2 := hkW1.trans' hk12
    have hB12 := hBW1.keep hk12 fun h => h
    clear hnew hk2 e1 e2 e3 e4 f2 f3 f4 f5 hk12 hBW1
    have r0 : w2.cell? ⟨w.heap.size + 1, 0, none⟩ = some (.int .i64 (op : Int)) := hB2.cell 0
    have r1 : w2.cell? ⟨w.heap.size + 1, 1, none⟩ = some (.int .i64 (a : Int)) := hB2.cell 1
    have r2 : w2.cell? ⟨w.heap.size + 1, 2, none⟩ = some (.int .i64 (b : Int)) := hB2.cell 2
    have r3 : w2.cell? ⟨w.heap.size + 1, 3, none⟩ = some (.int .i64 (c : Int)) := hB2.cell 3
    have r4 : w2.cell? ⟨w.heap.size + 1, 4, none⟩ = some (.int .i64 imm) := hB2.cell 4
    have hcall := HEN.out w2
    go_wp2_with fail
    refine hcall.mono ?_
    rintro e w3 ⟨rfl, hk3⟩
    have hkw3 := hkw2.trans' hk3
    have hB13 := hB12.keep hk3 fun h => h
    have hB23 := hB2.keep hk3 fun h => h
    clear hcall r0 r1 r2 r3 r4
    cases mf with
    | false =>
      have hE' := HE.out
      simp only [Bool.false_and, Bool.false_eq_true, if_false] at hE'
      have HE' := Lib.hid hE'
      clear hE' HE
      go_wp2_with (with_reducible refine wl_stAgg rfl _ _ _ rfl _ _ rfl rfl ?_)
      refine rg_stAgg hB13 (by kernel_rfl) (by rfl) (by simp [Value.oneCell']) ?_
      intro w5 hB5 hk5 _
      go_wp2_with fail
      refine ret_blk_tmp rfl rfl hB5 Tryz.underlying30 rfl (by kernel_rfl) rfl ?_
      refine ⟨by rw [HR.out, HE'.out]; rfl, hkw3.trans hk5 fun j hj e => ?_⟩
      have e2 : j = w.heap.size := e
      omega
    | true =>
      by_cases hen : en = x
      · subst hen
        have hE' := HE.out
        simp only [Bool.true_and, beq_self_eq_true, if_true] at hE'
        have HE' := Lib.hid hE'
        clear hE' HE
        have r0 : w3.cell? ⟨w.heap.size + 1, 0, none⟩ = some (.int .i64 (op : Int)) := hB23.cell 0
        have r1 : w3.cell? ⟨w.heap.size + 1, 1, none⟩ = some (.int .i64 (a : Int)) := hB23.cell 1
        have r2 : w3.cell? ⟨w.heap.size + 1, 2, none⟩ = some (.int .i64 (b : Int)) := hB23.cell 2
        have r3 : w3.cell? ⟨w.heap.size + 1, 3, none⟩ = some (.int .i64 (c : Int)) := hB23.cell 3
        have r4 : w3.cell? ⟨w.heap.size + 1, 4, none⟩ = some (.int .i64 imm) := hB23.cell 4
        go_wp2_with (with_reducible refine wl_stAgg rfl _ _ _ rfl _ _ rfl rfl ?_)
        refine rg_stAgg hB13 (by kernel_rfl) (by rfl) (by simp [Value.oneCell']) ?_
        intro w5 hB5 hk5 _
        go_wp2_with fail
        refine ret_blk_tmp rfl rfl hB5 Tryz.underlying30 rfl (by kernel_rfl) rfl ?_
        refine ⟨by rw [HR.out, HE'.out, HI.out]; rfl, hkw3.trans hk5 fun j hj e => ?_⟩
        have e2 : j = w.heap.size := e
        omega
      · have hE' := HE.out
        have hbx : (en == x) = false := by simpa using hen
        rw [hbx] at hE'
        simp only [Bool.and_false, Bool.false_eq_true, if_false] at hE'
        have HE' := Lib.hid hE'
        have hnz : ((en : Int) == (x : Int)) = false := beq_eq_false_iff_ne.2 fun h => hen (Int.ofNat_inj.1 h)
        clear hE' HE hbx hen
        go_wp2_with (with_reducible refine wl_stAgg rfl _ _ _ rfl _ _ rfl rfl ?_)
        refine rg_stAgg hB13 (by kernel_rfl) (by rfl) (by simp [Value.oneCell']) ?_
        intro w5 hB5 hk5 _
        go_wp2_with fail
        refine ret_blk_tmp rfl rfl hB5 Tryz.underlying30 rfl (by kernel_rfl) rfl ?_
        refine ⟨by rw [HR.out, HE'.out]; rfl, hkw3.trans hk5 fun j hj e => ?_⟩
        have e2 : j = w.heap.size := e
        omega
  · have hg1 : decide ((2147483648 : Int) ≤ (xi : Int)) = false := by simp; omega
    rw [if_neg hge] at HE5
    clear hge
    go_enter Tryz.func36, Tryz.ntmps36
    go_wp2_with (with_reducible refine wl_stAgg rfl _ _ _ rfl _ _ rfl rfl ?_)
    rw [← HE5.out]
    have hkW1 : Keep No w (w.alloc (.cells #[.int .i64 0, .int .i64 0, .int .i64 0, .int .i64 0, .int .i64 0] 30)) := (Keep.refl _ _).alloc _
    have hBW1 : Blk (w.alloc (.cells #[.int .i64 0, .int .i64 0, .int .i64 0, .int .i64 0, .int .i64 0] 30)) w.heap.size #[.int .i64 0, .int .i64 0, .int .i64 0, .int .i64 0, .int .i64 0] 30 := Blk.new _ _ _
    have hzW1 : (w.alloc (.cells #[.int .i64 0, .int .i64 0, .int .i64 0, .int .i64 0, .int .i64 0] 30)).heap.size = w.heap.size + 1 := World.size_alloc _ _
    generalize w.alloc (.cells #[.int .i64 0, .int .i64 0, .int .i64 0, .int .i64 0, .int .i64 0] 30) = W1 at *
    have hnew := Blk.new W1 #[.int .i64 0, .int .i64 0, .int .i64 0, .int .i64 0, .int .i64 0] 30
    rw [hzW1] at hnew
    refine rg_stAgg hnew (by kernel_rfl) (by rfl) (by simp [Value.oneCell']) ?_
    intro w2 hB2 hk2 _
    have hk12 : Keep No W1 w2 := ((Keep.refl No W1).alloc _).trans hk2 fun j hj e => absurd hj (by have e2 : j = w.heap.size + 1 := e; omega)
    have hkw2 := hkW1.trans' hk12
    have hB12 := hBW1.keep hk12 fun h => h
    clear hnew hk2 e1 e2 e3 e4 f2 f3 f4 f5 hk12 hBW1
    have r0 : w2.cell? ⟨w.heap.size + 1, 0, none⟩ = some (.int .i64 (op : Int)) := hB2.cell 0
    have r1 : w2.cell? ⟨w.heap.size + 1, 1, none⟩ = some (.int .i64 (a : Int)) := hB2.cell 1
    have r2 : w2.cell? ⟨w.heap.size + 1, 2, none⟩ = some (.int .i64 (b : Int)) := hB2.cell 2
    have r3 : w2.cell? ⟨w.heap.size + 1, 3, none⟩ = some (.int .i64 (c : Int)) := hB2.cell 3
    have r4 : w2.cell? ⟨w.heap.size + 1, 4, none⟩ = some (.int .i64 imm) := hB2.cell 4
    have hcall := HEN.out w2
    go_wp2_with fail
    refine hcall.mono ?_
    rintro e w3 ⟨rfl, hk3⟩
    have hkw3 := hkw2.trans' hk3
    have hB13 := hB12.keep hk3 fun h => h
    have hB23 := hB2.keep hk3 fun h => h
    clear hcall r0 r1 r2 r3 r4
    cases mf with
    | false =>
      have hE' := HE.out
      simp only [Bool.false_and, Bool.false_eq_true, if_false] at hE'
      have HE' := Lib.hid hE'
      clear hE' HE
      go_wp2_with (with_reducible refine wl_stAgg rfl _ _ _ rfl _ _ rfl rfl ?_)
      refine rg_stAgg hB13 (by kernel_rfl) (by rfl) (by simp [Value.oneCell']) ?_
      intro w5 hB5 hk5 _
      go_wp2_with fail
      refine ret_blk_tmp rfl rfl hB5 Tryz.underlying30 rfl (by kernel_rfl) rfl ?_
      refine ⟨by rw [HR.out, HE'.out]; rfl, hkw3.trans hk5 fun j hj e => ?_⟩
      have e2 : j = w.heap.size := e
      omega
    | true =>
      by_cases hen : en = x
      · subst hen
        have hE' := HE.out
        simp only [Bool.true_and, beq_self_eq_true, if_true] at hE'
        have HE' := Lib.hid hE'
        clear hE' HE
        have r0 : w3.cell? ⟨w.heap.size + 1, 0, none⟩ = some (.int .i64 (op : Int)) := hB23.cell 0
        have r1 : w3.cell? ⟨w.heap.size + 1, 1, none⟩ = some (.int .i64 (a : Int)) := hB23.cell 1
        have r2 : w3.cell? ⟨w.heap.size + 1, 2, none⟩ = some (.int .i64 (b : Int)) := hB23.cell 2
        have r3 : w3.cell? ⟨w.heap.size + 1, 3, none⟩ = some (.int .i64 (c : Int)) := hB23.cell 3
        have r4 : w3.cell? ⟨w.heap.size + 1, 4, none⟩ = some (.int .i64 imm) := hB23.cell 4
        go_wp2_with (with_reducible refine wl_stAgg rfl _ _ _ rfl _ _ rfl rfl ?_)
        refine rg_stAgg hB13 (by kernel_rfl) (by rfl) (by simp [Value.oneCell']) ?_
        intro w5 hB5 hk5 _
        go_wp2_with fail
        refine ret_blk_tmp rfl rfl hB5 Tryz.underlying30 rfl (by kernel_rfl) rfl ?_
        refine ⟨by rw [HR.out, HE'.out, HI.out]; rfl, hkw3.trans hk5 fun j hj e => ?_⟩
        have e2 : j = w.heap.size := e
        omega
      · have hE' := HE.out
        have hbx : (en == x) = false := by simpa using hen
        rw [hbx] at hE'
        simp only [Bool.and_false, Bool.false_eq_true, if_false] at hE'
        have HE' := Lib.hid hE'
        have hnz : ((en : Int) == (x : Int)) = false := beq_eq_false_iff_ne.2 fun h => hen (Int.ofNat_inj.1 h)
        clear hE' HE hbx hen
        go_wp2_with (with_reducible refine wl_stAgg rfl _ _ _ rfl _ _ rfl rfl ?_)
        refine rg_stAgg hB13 (by kernel_rfl) (by rfl) (by simp [Value.oneCell']) ?_
        intro w5 hB5 hk5 _
        go_wp2_with fail
        refine ret_blk_tmp rfl rfl hB5 Tryz.underlying30 rfl (by kernel_rfl) rfl ?_
        refine ⟨by rw [HR.out, HE'.out]; rfl, hkw3.trans hk5 fun j hj e => ?_⟩
        have e2 : j = w.heap.size := e
        omega
end
end Go.Proofs.YtaoillfofiehpaaGreatDoor
