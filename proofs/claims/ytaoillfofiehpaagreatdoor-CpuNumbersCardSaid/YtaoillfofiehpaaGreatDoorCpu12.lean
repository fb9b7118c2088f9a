/- goes: so many steps are as the document says. No condition. -/
import Derived.Test.YtaoillfofiehpaaGreatDoorCpuR2
import Derived.Test.YtaoillfofiehpaaGreatDoorGoesM
import Derived.Test.YtaoillfofiehpaaGreatDoorVmG2
import Derived.Test.YtaoillfofiehpaaGreatDoorRv6
set_option linter.unusedVariables false
set_option linter.unusedSimpArgs false
namespace Go.Proofs.YtaoillfofiehpaaGreatDoor
open Go.RowKit Go.Dm Go.Dm.Vm Go.Dm.Cp Go.Maps Go.Dm.Oc
theorem flat_raw (m : V) : (m.map rawR).flatMap encT = m.flatMap encS := by rw [List.flatMap_map]; rfl
theorem fl_raws {A : Nat → Prop} {w : World} {v : Value} {m : V} (h : Fl A w 6 encT v (m.map rawR)) : Fl A w 6 encS v m := by
  unfold Fl at h ⊢
  rw [flat_raw, List.length_map] at h
  exact h
theorem fl_raws' {A : Nat → Prop} {w : World} {v : Value} {m : V} (h : Fl A w 6 encS v m) : Fl A w 6 encT v (m.map rawR) := by
  unfold Fl at h ⊢
  rw [flat_raw, List.length_map]
  exact h
theorem run_neoC {P : Program} {a : Act} {o : Oper} {w' : World} (ty ty2 : TypeId) (x y : Operand) (ho : o.op = Op.binOp .neq ty x y ty2) (cs : Array Value) (h1 : a.eval x = .agg cs) (h2 : a.eval y = .agg cs)
    (hm : P.eqGuardType P.depth ty = false) (hq : (Op.equalIn 10000 ty (.agg cs) (.agg cs)).run P w' = .ok true w') : (execOp a.eval o).run P w' = .ok (.value (.bool false)) w' := by
  unfold execOp
  simp only [ho, h1, h2, Sem.run_bind, Sem.run_pure, Result.andThen_ok, run_eqGuard_agg w' _ _ _ _ _ _ hm, run_neq_struct, hq]
  rfl
theorem stR_eq {s : St} (h : StOk s) (w : World) : (Op.equalIn 10000 57 (.agg (cellsS s)) (.agg (cellsS s))).run Tryz.prog w = .ok true w :=
  run_equalIn_regs 57 23 22 32 (by kernel_rfl) (by kernel_rfl) (by kernel_rfl) Tryz.underlying23 Tryz.underlying22 (fun w => by kernel_rfl) (fun w => by kernel_rfl) w _ (cellsS_ints h)
section
variable {A B C : Nat → Prop} {w : World} {d mb : Nat} {f : Nat → Nat} {m : V} {vl vd : Value}
/-- memory's pages, as the model has them -/
theorem pages_model (h : SRep A w d m mb f) (hA : ∀ k, A k → k < w.heap.size) (hl : m.length ≤ 12) {K : Ending → World → Prop} (hK : ∀ v w', Fl (fun k => w.heap.size ≤ k ∧ k < w'.heap.size) w' 6 encS v m → Keep No w w' → K (.returned (.agg #[v])) w') :
    Calls Tryz.prog 18 #[ptrTo d] w fun e w1 => ∃ v, e = .returned v ∧ Keep No w w1 ∧ Calls Tryz.prog 17 #[v] w1 K := by
  refine (vpages_any h hA hl).mono ?_
  rintro e w1 ⟨v, g, rfl, hP, hk⟩
  refine ⟨v, rfl, hk, ?_⟩
  have ho : Ok m := h.ok
  obtain ⟨hFl, hBt, hRr, hmm⟩ := pgs_in hP ho.pg
  refine (model13_any (w := w1) (m.map (rawP g)) hFl hBt (fun k hk => hk.2) (fun k hk => hk.2) (by rw [List.length_map]; omega)).mono ?_
  rintro e2 w2 ⟨v2, rfl, ho2, hk2⟩
  rw [hmm] at ho2
  exact hK v2 w2 (fl_raws (ho2.fl.mono fun j hj ha => ⟨Nat.le_trans hk.size ha.1, ha.2⟩)) (hk.trans' hk2)
/-- what holds ahead of each round -/
def GoRel (A F : Nat → Prop) (w wr : World) (d mb : Nat) (f : Nat → Nat) (bx bw bk : Nat) (st : St) (m : V) (v : Value) : Prop :=
  StOk st ∧ SRep A wr d m mb f ∧ m.length = 4 ∧ Blk wr bx (cellsS st) 33 ∧ Blk wr bw (cellsS st) 57 ∧ Blk wr bk #[v] 52 ∧ Fl F wr 6 encS v m ∧ Keep No w wr
set_option maxRecDepth 100000 in
set_option maxHeartbeats 8000000 in
theorem goes14_any (s : St) (hs : StOk s) (l : List Nat) (prot : Nat) (data : List UInt8) (steps : Int) (hp : prot ≤ 7) (hl : l.length ≤ 64) (hlx : ∀ x ∈ l, x < 18446744073709551616) (hd : data.length ≤ 512) (hst : steps ≤ 31) (hT : Tabs w)
    (hfl : Fl B w 1 encU vl l) (hB : ∀ k, B k → k < w.heap.size) (hbd : Bts C w vd data) (hC : ∀ k, C k → k < w.heap.size) :
    Calls Tryz.prog 10 #[.agg (cellsS s), vl, .int .i64 (prot : Int), vd, .int .i64 steps] w fun e w' => e = .returned (.bool true) ∧ Keep No w w' := by
  obtain ⟨al, cl, rfl, _, _⟩ := hfl.shape
  obtain ⟨ad, cd, rfl, _, _⟩ := Fl.shape (enc := encB8) (k := 1) (l := data) (A := C) (w := w) (by unfold Fl; rw [encB8_map]; exact hbd)
  have hsz := cellsS_size hs
  have hss := stC_sz hs
  have hone := cellsS_one s
  obtain ⟨cs, hcs⟩ : ∃ cs, cs = cellsS s := ⟨_, rfl⟩
  have HCS := Lib.hid hcs
  rw [← hcs] at hsz hss hone ⊢
  have HT := Lib.hid hT
  have HFL := Lib.hid hfl
  have HBD := Lib.hid hbd
  have HB := Lib.hid hB
  have HC := Lib.hid hC
  have HLX := Lib.hid hlx
  clear hcs hT hfl hbd hB hC hlx
  go_enter Tryz.func10, Tryz.ntmps10
  go_wp2_with fail
  have hkW0 : Keep No w (w.alloc (.cells cs 33)) := (Keep.refl _ _).alloc _
  have hBW0 : Blk (w.alloc (.cells cs 33)) w.heap.size cs 33 := Blk.new _ _ _
  have hzW0 : (w.alloc (.cells cs 33)).heap.size = w.heap.size + 1 := World.size_alloc _ _
  generalize w.alloc (.cells cs 33) = W0 at *
  refine (vnew_any _).mono ?_
  rintro e w1 ⟨mb, d, f, rfl, hS1, hk1⟩
  have b5 := hBW0.keep hk1 fun h => h
  have hK1 := hkW0.trans' hk1
  have L0 := hBW0.lt
  unfold ptrTo
  clear hBW0 hzW0 hkW0
  go_wp2_with fail
  refine (vmap_any 256 512 0 (prot : Int) [] (by omega) (by omega) (by omega) (by unfold maxLen; simp) hS1 (fun k hk => hk.2)).mono ?_
  rintro e w2 ⟨rfl, ⟨f2, hS2⟩, hk2⟩
  rw [g_map1 prot hp]
  have hS2' : SRep (fun k => W0.heap.size ≤ k ∧ k < w2.heap.size) w2 d (gM1 prot) mb f2 := hS2.mono fun k hk ha => by
    rcases ha with ha | ha
    · exact ⟨ha.1, hk⟩
    · exact ⟨Nat.le_trans hk1.size ha.1, hk⟩
  have hK2 : Keep No w w2 := hK1.trans hk2 fun j hj ha => absurd ha.1 (by omega)
  have b5 := b5.keep hk2 fun h => absurd h.1 (by omega)
  have hz2 := hk2.size
  have hz1 := hk1.size
  clear hS1 hS2 hk2 hk1 hK1
  go_wp2_with fail
  refine (vmap_any 1024 512 0 6 [] (by omega) (by omega) (by omega) (by unfold maxLen; simp) hS2' (fun k hk => hk.2)).mono ?_
  rintro e w3 ⟨rfl, ⟨f3, hS3⟩, hk3⟩
  rw [g_map2 prot hp]
  have hS3' : SRep (fun k => W0.heap.size ≤ k ∧ k < w3.heap.size) w3 d (gM2 prot) mb f3 := hS3.mono fun k hk ha => by
    rcases ha with ha | ha
    · exact ⟨ha.1, hk⟩
    · exact ⟨by omega, hk⟩
  have hK3 : Keep No w w3 := hK2.trans hk3 fun j hj ha => absurd ha.1 (by omega)
  have b5 := b5.keep hk3 fun h => absurd h.1 (by omega)
  have hz3 := hk3.size
  clear hS2' hS3 hk3 hK2
  go_wp2_with fail
  refine (code14_any l (by omega) HLX.out (HFL.out.no hK3)).mono ?_
  rintro e w4 ⟨v4, rfl, ho4, hk4⟩
  obtain ⟨a4, c4, rfl, _, _⟩ := ho4.fl.shape
  have hb4 := FlO.bts8 ho4
  have hS4 := hS3'.no (fun k hk => hk.2) hk4
  have hK4 := hK3.trans' hk4
  have b5 := b5.keep hk4 fun h => h
  have hA4 : ∀ k, (W0.heap.size ≤ k ∧ k < w3.heap.size) → k < w4.heap.size := fun k hk => Nat.lt_of_lt_of_le hk.2 hk4.size
  have hcl := codeL_len l
  have hpo := vpoke_any (w := w4) 256 (codeL l) (by omega) (by omega) hS4 hA4 hb4 (fun k hk ha => by have := hk.1; omega)
  rw [g_poke1 prot hp l hl] at hpo
  change Calls _ _ _ _ fun e w' => _ ∧ SRep _ w' d (gM3 prot l) mb f3 ∧ _ at hpo
  have hclm : (codeL l).length ≤ 512 := by omega
  have hb4' := hb4
  generalize hcb : codeL l = cb at *
  unfold ptrTo at hpo
  have HPO := Lib.hid hpo
  clear hS3' ho4 hK3 hcl hpo hb4 hb4' hS4 hcb
  go_wp2_with fail
  refine HPO.out.mono ?_
  rintro e w5 ⟨rfl, hS5, hk5⟩
  have hK5 : Keep No w w5 := hK4.trans hk5 fun j hj ha => absurd ha.1 (by omega)
  have b5 := b5.keep hk5 fun h => absurd h.1 (by omega)
  have hA5 : ∀ k, (W0.heap.size ≤ k ∧ k < w3.heap.size) → k < w5.heap.size := fun k hk => Nat.lt_of_lt_of_le (hA4 k hk) hk5.size
  clear HPO hA4 hk4 hK4 hk5 hclm
  go_wp2_with fail
  have hpo := vpoke_any (w := w5) 1024 data (by omega) (by omega) hS5 hA5 (Sl.keep HBD.out hK5 fun _ _ _ h => h) (fun k hk ha => by have := HC.out k hk; omega)
  rw [g_poke2 prot hp l data hd] at hpo
  unfold ptrTo at hpo
  change Calls _ _ _ _ fun e w' => _ ∧ SRep _ w' d (gM prot l data) mb f3 ∧ _ at hpo
  have HPO := Lib.hid hpo
  clear hpo hS5
  go_wp2_with fail
  refine HPO.out.mono ?_
  rintro e w6 ⟨rfl, hS6, hk6⟩
  have hK6 : Keep No w w6 := hK5.trans hk6 fun j hj ha => absurd ha.1 (by omega)
  have b5 := b5.keep hk6 fun h => absurd h.1 (by omega)
  have hA6 : ∀ k, (W0.heap.size ≤ k ∧ k < w3.heap.size) → k < w6.heap.size := fun k hk => Nat.lt_of_lt_of_le (hA5 k hk) hk6.size
  have hA36 : w3.heap.size ≤ w6.heap.size := by
    rcases Nat.lt_or_ge W0.heap.size w3.heap.size with h | h
    · have := hA6 (w3.heap.size - 1) ⟨by omega, by omega⟩
      omega
    · have := hS6.blk.lt; have := hS6.Ad; omega
  clear HPO hA5 hK5 hk6
  have hgl := g_len prot hp l data
  have hok6 := hS6.ok
  generalize gM prot l data = M at *
  have hpg := pages_model hS6 hA6 (by omega) (K := fun e2 W => ∃ v2, e2 = .returned (.agg #[v2]) ∧ Fl (fun k => w6.heap.size ≤ k ∧ k < W.heap.size) W 6 encS v2 M ∧ Keep No w6 W) fun v w' h1 h2 => ⟨v, rfl, h1, h2⟩
  unfold ptrTo at hpg
  have HPG := Lib.hid hpg
  have HGL := Lib.hid hgl
  clear hpg hgl hz2 hz1 hz3
  go_wp2_with fail
  refine HPG.out.mono ?_
  rintro e w7 ⟨v7, rfl, hk7, hcm⟩
  have HCM := Lib.hid hcm
  have HK7 := Lib.hid hk7
  clear hcm hk7 HPG
  go_wp2_with fail
  refine HCM.out.mono ?_
  rintro e w8 ⟨v8, rfl, hF8, hk8⟩
  have hK8 := hK6.trans' hk8
  have hS8 := hS6.no hA6 hk8
  have hA8 : ∀ k, (W0.heap.size ≤ k ∧ k < w3.heap.size) → k < w8.heap.size := fun k hk => Nat.lt_of_lt_of_le (hA6 k hk) hk8.size
  have hA38 : w3.heap.size ≤ w8.heap.size := Nat.le_trans hA36 hk8.size
  have b5 := b5.keep hk8 fun h => h
  have hz68 := hk8.size
  obtain ⟨a8, c8, rfl, _, _⟩ := hF8.shape
  clear HCM HK7 hS6 hA6 hK6 hk8
  go_wp2_with (with_reducible refine wl_stAgg rfl _ _ _ rfl _ _ rfl rfl ?_)
  have hkW9 : Keep No w8 (w8.alloc (.cells #[.slice none 0 0] 52)) := (Keep.refl _ _).alloc _
  have hBW9 : Blk (w8.alloc (.cells #[.slice none 0 0] 52)) w8.heap.size #[.slice none 0 0] 52 := Blk.new _ _ _
  have hzW9 : (w8.alloc (.cells #[.slice none 0 0] 52)).heap.size = w8.heap.size + 1 := World.size_alloc _ _
  generalize w8.alloc (.cells #[.slice none 0 0] 52) = W9 at *
  refine rg_stAgg hBW9 (by kernel_rfl) (by rfl) (by simp [Value.oneCell']) ?_
  intro w10 hb10 hk910 hz910
  have hk810 : Keep No w8 w10 := hkW9.trans hk910 fun j hj e => by have e2 : j = w8.heap.size := e; omega
  have b5 := b5.keep hk810 fun h => h
  have hz10 : w10.heap.size = w8.heap.size + 1 := by omega
  clear hkW9 hBW9 hk910 hz910 hzW9
  go_wp2_with (with_reducible refine wl_ld rfl _ 33 rfl _ rfl ?_)
  refine rg_ld b5 Tryz.underlying33 rfl hss ?_
  go_wp2_with (with_reducible refine wl_stAgg rfl _ _ _ rfl _ _ rfl rfl ?_)
  have hkW11 : Keep No w10 (w10.alloc (.cells #[.int .u64 0, .int .u64 0, .int .u64 0, .int .u64 0, .int .u64 0, .int .u64 0, .int .u64 0, .int .u64 0, .int .u64 0, .int .u64 0, .int .u64 0, .int .u64 0, .int .u64 0, .int .u64 0, .int .u64 0, .int .u64 0, .int .u64 0, .int .u64 0, .int .u64 0, .int .u64 0, .int .u64 0, .int .u64 0, .int .u64 0, .int .u64 0, .int .u64 0, .int .u64 0, .int .u64 0, .int .u64 0, .int .u64 0, .int .u64 0, .int .u64 0, .int .u64 0, .int .u64 0, .int .u64 0] 33)) := (Keep.refl _ _).alloc _
  have hBW11 : Blk (w10.alloc (.cells #[.int .u64 0, .int .u64 0, .int .u64 0, .int .u64 0, .int .u64 0, .int .u64 0, .int .u64 0, .int .u64 0, .int .u64 0, .int .u64 0, .int .u64 0, .int .u64 0, .int .u64 0, .int .u64 0, .int .u64 0, .int .u64 0, .int .u64 0, .int .u64 0, .int .u64 0, .int .u64 0, .int .u64 0, .int .u64 0, .int .u64 0, .int .u64 0, .int .u64 0, .int .u64 0, .int .u64 0, .int .u64 0, .int .u64 0, .int .u64 0, .int .u64 0, .int .u64 0, .int .u64 0, .int .u64 0] 33)) w10.heap.size #[.int .u64 0, .int .u64 0, .int .u64 0, .int .u64 0, .int .u64 0, .int .u64 0, .int .u64 0, .int .u64 0, .int .u64 0, .int .u64 0, .int .u64 0, .int .u64 0, .int .u64 0, .int .u64 0, .int .u64 0, .int .u64 0, .int .u64 0, .int .u64 0, .int .u64 0, .int .u64 0, .int .u64 0, .int .u64 0, .int .u64 0, .int .u64 0, .int .u64 0, .int .u64 0, .int .u64 0, .int .u64 0, .int .u64 0, .int .u64 0, .int .u64 0, .int .u64 0, .int .u64 0, .int .u64 0] 33 := Blk.new _ _ _
  have hzW11 : (w10.alloc (.cells #[.int .u64 0, .int .u64 0, .int .u64 0, .int .u64 0, .int .u64 0, .int .u64 0, .int .u64 0, .int .u64 0, .int .u64 0, .int .u64 0, .int .u64 0, .int .u64 0, .int .u64 0, .int .u64 0, .int .u64 0, .int .u64 0, .int .u64 0, .int .u64 0, .int .u64 0, .int .u64 0, .int .u64 0, .int .u64 0, .int .u64 0, .int .u64 0, .int .u64 0, .int .u64 0, .int .u64 0, .int .u64 0, .int .u64 0, .int .u64 0, .int .u64 0, .int .u64 0, .int .u64 0, .int .u64 0] 33)).heap.size = w10.heap.size + 1 := World.size_alloc _ _
  generalize w10.alloc (.cells #[.int .u64 0, .int .u64 0, .int .u64 0, .int .u64 0, .int .u64 0, .int .u64 0, .int .u64 0, .int .u64 0, .int .u64 0, .int .u64 0, .int .u64 0, .int .u64 0, .int .u64 0, .int .u64 0, .int .u64 0, .int .u64 0, .int .u64 0, .int .u64 0, .int .u64 0, .int .u64 0, .int .u64 0, .int .u64 0, .int .u64 0, .int .u64 0, .int .u64 0, .int .u64 0, .int .u64 0, .int .u64 0, .int .u64 0, .int .u64 0, .int .u64 0, .int .u64 0, .int .u64 0, .int .u64 0] 33) = W11 at *
  rw [hz10] at hBW11 hzW11
  refine rg_stAgg hBW11 hss (by rw [hsz]; rfl) hone ?_
  intro w12 hb12 hk1112 hz1112
  have hk1012 : Keep No w10 w12 := hkW11.trans hk1112 fun j hj e => by have e2 : j = w8.heap.size + 1 := e; omega
  have b5 := b5.keep hk1012 fun h => h
  have hb10 := hb10.keep hk1012 fun h => h
  have hz12 : w12.heap.size = w8.heap.size + 2 := by omega
  have hk812 := hk810.trans' hk1012
  have hsr := stR_sz hs
  rw [← HCS.out] at hsr
  clear hkW11 hBW11 hk1112 hz1112 hzW11 hk810 hk1012
  have hst14 := state14_any (w := w12) s hs
  rw [← HCS.out] at hst14
  have HST := Lib.hid hst14
  have HSR := Lib.hid hsr
  clear hst14 hsr
  go_wp2_with (with_reducible refine wl_ld rfl _ 33 rfl _ rfl ?_)
  refine rg_ld b5 Tryz.underlying33 rfl hss ?_
  go_wp2_with fail
  refine HST.out.mono ?_
  rintro e w13 ⟨rfl, hk13⟩
  have hb10 := hb10.keep hk13 fun h => h
  have hb12 := hb12.keep hk13 fun h => h
  have hk813 := hk812.trans' hk13
  have hz13 := hk13.size
  clear HST hk812 hk13 b5
  go_wp2_with (with_reducible refine wl_stAgg rfl _ _ _ rfl _ _ rfl rfl ?_)
  have hkW14 : Keep No w13 (w13.alloc (.cells #[.int .u64 0, .int .u64 0, .int .u64 0, .int .u64 0, .int .u64 0, .int .u64 0, .int .u64 0, .int .u64 0, .int .u64 0, .int .u64 0, .int .u64 0, .int .u64 0, .int .u64 0, .int .u64 0, .int .u64 0, .int .u64 0, .int .u64 0, .int .u64 0, .int .u64 0, .int .u64 0, .int .u64 0, .int .u64 0, .int .u64 0, .int .u64 0, .int .u64 0, .int .u64 0, .int .u64 0, .int .u64 0, .int .u64 0, .int .u64 0, .int .u64 0, .int .u64 0, .int .u64 0, .int .u64 0] 57)) := (Keep.refl _ _).alloc _
  have hBW14 : Blk (w13.alloc (.cells #[.int .u64 0, .int .u64 0, .int .u64 0, .int .u64 0, .int .u64 0, .int .u64 0, .int .u64 0, .int .u64 0, .int .u64 0, .int .u64 0, .int .u64 0, .int .u64 0, .int .u64 0, .int .u64 0, .int .u64 0, .int .u64 0, .int .u64 0, .int .u64 0, .int .u64 0, .int .u64 0, .int .u64 0, .int .u64 0, .int .u64 0, .int .u64 0, .int .u64 0, .int .u64 0, .int .u64 0, .int .u64 0, .int .u64 0, .int .u64 0, .int .u64 0, .int .u64 0, .int .u64 0, .int .u64 0] 57)) w13.heap.size #[.int .u64 0, .int .u64 0, .int .u64 0, .int .u64 0, .int .u64 0, .int .u64 0, .int .u64 0, .int .u64 0, .int .u64 0, .int .u64 0, .int .u64 0, .int .u64 0, .int .u64 0, .int .u64 0, .int .u64 0, .int .u64 0, .int .u64 0, .int .u64 0, .int .u64 0, .int .u64 0, .int .u64 0, .int .u64 0, .int .u64 0, .int .u64 0, .int .u64 0, .int .u64 0, .int .u64 0, .int .u64 0, .int .u64 0, .int .u64 0, .int .u64 0, .int .u64 0, .int .u64 0, .int .u64 0] 57 := Blk.new _ _ _
  have hzW14 : (w13.alloc (.cells #[.int .u64 0, .int .u64 0, .int .u64 0, .int .u64 0, .int .u64 0, .int .u64 0, .int .u64 0, .int .u64 0, .int .u64 0, .int .u64 0, .int .u64 0, .int .u64 0, .int .u64 0, .int .u64 0, .int .u64 0, .int .u64 0, .int .u64 0, .int .u64 0, .int .u64 0, .int .u64 0, .int .u64 0, .int .u64 0, .int .u64 0, .int .u64 0, .int .u64 0, .int .u64 0, .int .u64 0, .int .u64 0, .int .u64 0, .int .u64 0, .int .u64 0, .int .u64 0, .int .u64 0, .int .u64 0] 57)).heap.size = w13.heap.size + 1 := World.size_alloc _ _
  generalize w13.alloc (.cells #[.int .u64 0, .int .u64 0, .int .u64 0, .int .u64 0, .int .u64 0, .int .u64 0, .int .u64 0, .int .u64 0, .int .u64 0, .int .u64 0, .int .u64 0, .int .u64 0, .int .u64 0, .int .u64 0, .int .u64 0, .int .u64 0, .int .u64 0, .int .u64 0, .int .u64 0, .int .u64 0, .int .u64 0, .int .u64 0, .int .u64 0, .int .u64 0, .int .u64 0, .int .u64 0, .int .u64 0, .int .u64 0, .int .u64 0, .int .u64 0, .int .u64 0, .int .u64 0, .int .u64 0, .int .u64 0] 57) = W14 at *
  refine rg_stAgg hBW14 HSR.out (by rw [hsz]; rfl) hone ?_
  intro w15 hb15 hk1415 hz1415
  have hk1315 : Keep No w13 w15 := hkW14.trans hk1415 fun j hj e => by have e2 : j = w13.heap.size := e; omega
  have hb10 := hb10.keep hk1315 fun h => h
  have hb12 := hb12.keep hk1315 fun h => h
  have hk815 := hk813.trans' hk1315
  have hK15 := hK8.trans' hk815
  have hS15 := hS8.no hA8 hk815
  have hF15 := hF8.no hk815
  have hz15 : w15.heap.size = w13.heap.size + 1 := by omega
  obtain ⟨bk, hbk⟩ : ∃ b, b = w8.heap.size := ⟨_, rfl⟩
  obtain ⟨bx, hbx⟩ : ∃ b, b = w8.heap.size + 1 := ⟨_, rfl⟩
  obtain ⟨bw, hbw⟩ : ∃ b, b = w13.heap.size := ⟨_, rfl⟩
  obtain ⟨F, hF⟩ : ∃ F : Nat → Prop, F = fun k => w6.heap.size ≤ k ∧ k ≠ bk ∧ k ≠ bx ∧ k ≠ bw := ⟨_, rfl⟩
  have hFF : Fl F w15 6 encS (.slice a8 M.length c8) M := hF15.mono fun j hj ha => by rw [hF]; exact ⟨ha.1, by omega, by omega, by omega⟩
  obtain ⟨A, hAd⟩ : ∃ A : Nat → Prop, A = fun k => W0.heap.size ≤ k ∧ k < w3.heap.size := ⟨_, rfl⟩
  rw [← hAd] at hS15
  have hAF : ∀ k, A k → ¬ F k := fun k h1 h2 => by rw [hAd] at h1; rw [hF] at h2; omega
  have hAb : ∀ k, A k → k < bk := fun k hk => by rw [hAd] at hk; omega
  have hFb : ∀ k, F k → k ≠ bk ∧ k ≠ bx ∧ k ≠ bw := fun k hk => by rw [hF] at hk; exact hk.2
  have hFn : ∀ k, bw < k → F k := fun k hk => by rw [hF]; exact ⟨by omega, by omega, by omega, by omega⟩
  have hAw : ∀ k, A k → w.heap.size ≤ k := fun k hk => by rw [hAd] at hk; omega
  have hkx : bk < bx := by omega
  have hxw : bx < bw := by omega
  have hbw15 : bw < w15.heap.size := by omega
  have hlw : w.heap.size ≤ bk := by have := hK8.size; omega
  rw [← hbk] at hb10 ⊢
  rw [← hbw] at hb15 ⊢
  rw [show bk + 1 = bx by omega]
  rw [← hbx] at hb12
  rw [HCS.out] at hb12 hb15
  have HREL := Lib.hid (show GoRel A F w w15 d mb f3 bx bw bk s M (.slice a8 M.length c8) from ⟨hs, hS15, HGL.out, hb12, hb15, hb10, hFF, hK15⟩)
  clear hb12 hb15 hb10 hFF hK15 hS15 hF15 hk815 hk1315 hk1415 hkW14 hBW14 hzW14 hz1415 hk813 hz13 hz15 hF hAd hbk hbx hbw hz12 hz10 hS8 hF8 hA8 hA38 hz68 hK8 HSR
  go_wp2_with fail
  go_loopw [15] (fun iv wr => ∃ (i : Nat) (st : St) (m : V) (v : Value), iv = .int .i64 (i : Int) ∧ i ≤ 31 ∧ GoRel A F w wr d mb f3 bx bw bk st m v) (fun iv _ => 31 - (intOf iv).toNat)
  case atStart => exact ⟨0, s, M, _, rfl, by omega, HREL.out⟩
  case round =>
    obtain ⟨i, st, m, v, rfl, hi, hst, hS, hml, hbX, hbW, hbK, hFl, hK⟩ := hrel
    clear HREL
    generalize wr = wz at *
    obtain ⟨av, cv, rfl, _, _⟩ := hFl.shape
    rcases Int.lt_or_le (i : Int) steps with hlt | hge
    · have hi31 : i < 31 := by omega
      have htok := step_ok m hst
      have htl := step_len st m
      have hAz : ∀ k, A k → k < wz.heap.size := fun k hk => by have := hAb k hk; have := hbK.lt; omega
      have hsp := cpustep_any (w := wz) st hst (HT.out.no hK) hS hAz
      have hrp := fun (W : World) (hk : Keep A wz W) => r14step_any (w := W) (A := fun k => F k ∧ k < wz.heap.size) st hst hS.ok (Sl.keep (Fl.mono hFl fun j hj h => ⟨h, hj⟩) hk fun j hj h1 h2 => hAF j h2 h1.1) (fun k hk2 => Nat.lt_of_lt_of_le hk2.2 hk.size)
      have hsz := stC_sz hst
      have hsr := stR_sz hst
      have hcsz := cellsS_size hst
      generalize hTM : stepM st m = TM at *
      obtain ⟨t0, m', kd, er, ad_⟩ := TM
      dsimp only at hsp hrp htok htl
      rw [hml] at htl
      unfold ptrTo encO3 at hsp
      unfold encO3 at hrp
      dsimp only at hsp hrp
      have HSP := Lib.hid hsp
      have HRP := Lib.hid hrp
      have HTL := Lib.hid htl
      have HTM := Lib.hid hTM
      have HML := Lib.hid hml
      have htz := cellsS_size htok
      have HTZ := Lib.hid htz
      have HCSZ := Lib.hid hcsz
      have HT1 := Lib.hid (stC_sz htok)
      have HT2 := Lib.hid (stR_sz htok)
      have HT3 := Lib.hid (cellsS_one t0)
      have HQ1 := Lib.hid fun W => stC_eq htok W
      have HQ2 := Lib.hid fun W => stR_eq htok W
      have HSZ := Lib.hid hsz
      have HSRZ := Lib.hid hsr
      have HS14 := Lib.hid fun W => state14_any (w := W) t0 htok
      have hnAx : ¬ A bx := fun h => by have := hAb _ h; omega
      have hnAw : ¬ A bw := fun h => by have := hAb _ h; omega
      have hnAk : ¬ A bk := fun h => by have := hAb _ h; omega
      have hlX := hbX.lt
      have hlW := hbW.lt
      have hlK := hbK.lt
      clear hsp hrp htl hTM hml htz hcsz hsz hsr
      generalize cellsS st = Cst at *
      generalize hCt : cellsS t0 = Ct0 at *
      have HCT := Lib.hid hCt
      clear hCt
      go_wp2_with (with_reducible refine wl_ld rfl _ 33 rfl _ rfl ?_)
      refine rg_ld hbX Tryz.underlying33 rfl HSZ.out ?_
      go_wp2_with fail
      refine HSP.out.mono ?_
      rintro e wa ⟨rfl, hSa, hka⟩
      have bXa := hbX.keep hka hnAx
      have bWa := hbW.keep hka hnAw
      have bKa := hbK.keep hka hnAk
      have hza := hka.size
      clear HSP hS
      go_wp2_with (with_reducible refine wl_stAgg rfl _ _ _ rfl _ _ rfl rfl ?_)
      have hkWb : Keep No wa (wa.alloc (.cells #[.int .u64 0, .int .u64 0, .int .u64 0, .int .u64 0, .int .u64 0, .int .u64 0, .int .u64 0, .int .u64 0, .int .u64 0, .int .u64 0, .int .u64 0, .int .u64 0, .int .u64 0, .int .u64 0, .int .u64 0, .int .u64 0, .int .u64 0, .int .u64 0, .int .u64 0, .int .u64 0, .int .u64 0, .int .u64 0, .int .u64 0, .int .u64 0, .int .u64 0, .int .u64 0, .int .u64 0, .int .u64 0, .int .u64 0, .int .u64 0, .int .u64 0, .int .u64 0, .int .u64 0, .int .u64 0] 33)) := (Keep.refl _ _).alloc _
      have hBWb : Blk (wa.alloc (.cells #[.int .u64 0, .int .u64 0, .int .u64 0, .int .u64 0, .int .u64 0, .int .u64 0, .int .u64 0, .int .u64 0, .int .u64 0, .int .u64 0, .int .u64 0, .int .u64 0, .int .u64 0, .int .u64 0, .int .u64 0, .int .u64 0, .int .u64 0, .int .u64 0, .int .u64 0, .int .u64 0, .int .u64 0, .int .u64 0, .int .u64 0, .int .u64 0, .int .u64 0, .int .u64 0, .int .u64 0, .int .u64 0, .int .u64 0, .int .u64 0, .int .u64 0, .int .u64 0, .int .u64 0, .int .u64 0] 33)) wa.heap.size #[.int .u64 0, .int .u64 0, .int .u64 0, .int .u64 0, .int .u64 0, .int .u64 0, .int .u64 0, .int .u64 0, .int .u64 0, .int .u64 0, .int .u64 0, .int .u64 0, .int .u64 0, .int .u64 0, .int .u64 0, .int .u64 0, .int .u64 0, .int .u64 0, .int .u64 0, .int .u64 0, .int .u64 0, .int .u64 0, .int .u64 0, .int .u64 0, .int .u64 0, .int .u64 0, .int .u64 0, .int .u64 0, .int .u64 0, .int .u64 0, .int .u64 0, .int .u64 0, .int .u64 0, .int .u64 0] 33 := Blk.new _ _ _
      have hzWb : (wa.alloc (.cells #[.int .u64 0, .int .u64 0, .int .u64 0, .int .u64 0, .int .u64 0, .int .u64 0, .int .u64 0, .int .u64 0, .int .u64 0, .int .u64 0, .int .u64 0, .int .u64 0, .int .u64 0, .int .u64 0, .int .u64 0, .int .u64 0, .int .u64 0, .int .u64 0, .int .u64 0, .int .u64 0, .int .u64 0, .int .u64 0, .int .u64 0, .int .u64 0, .int .u64 0, .int .u64 0, .int .u64 0, .int .u64 0, .int .u64 0, .int .u64 0, .int .u64 0, .int .u64 0, .int .u64 0, .int .u64 0] 33)).heap.size = wa.heap.size + 1 := World.size_alloc _ _
      generalize wa.alloc (.cells #[.int .u64 0, .int .u64 0, .int .u64 0, .int .u64 0, .int .u64 0, .int .u64 0, .int .u64 0, .int .u64 0, .int .u64 0, .int .u64 0, .int .u64 0, .int .u64 0, .int .u64 0, .int .u64 0, .int .u64 0, .int .u64 0, .int .u64 0, .int .u64 0, .int .u64 0, .int .u64 0, .int .u64 0, .int .u64 0, .int .u64 0, .int .u64 0, .int .u64 0, .int .u64 0, .int .u64 0, .int .u64 0, .int .u64 0, .int .u64 0, .int .u64 0, .int .u64 0, .int .u64 0, .int .u64 0] 33) = Wb at *
      have hkWc : Keep No Wb (Wb.alloc (.cells #[.int .i64 0, .int .i64 0, .int .u64 0] 46)) := (Keep.refl _ _).alloc _
      have hBWc : Blk (Wb.alloc (.cells #[.int .i64 0, .int .i64 0, .int .u64 0] 46)) Wb.heap.size #[.int .i64 0, .int .i64 0, .int .u64 0] 46 := Blk.new _ _ _
      have hzWc : (Wb.alloc (.cells #[.int .i64 0, .int .i64 0, .int .u64 0] 46)).heap.size = Wb.heap.size + 1 := World.size_alloc _ _
      generalize Wb.alloc (.cells #[.int .i64 0, .int .i64 0, .int .u64 0] 46) = Wc at *
      rw [hzWb] at hBWc hzWc
      have b16 := hBWb.keep hkWc fun h => h
      have hkac := hkWb.trans' hkWc
      clear hBWb hkWb hkWc hzWb
      refine rg_stAgg b16 HT1.out (by rw [HTZ.out]; rfl) HT3.out ?_
      intro wd b16d hkd hzd
      have hkad : Keep No wa wd := hkac.trans hkd fun j hj e => by have e2 : j = wa.heap.size := e; omega
      have b17d := hBWc.keep hkd fun e => by have e2 : wa.heap.size + 1 = wa.heap.size := e; omega
      go_wp2_with (with_reducible refine wl_stAgg rfl _ _ _ rfl _ _ rfl rfl ?_)
      refine rg_stAgg b17d (by kernel_rfl) (by rfl) (by simp [Value.oneCell']) ?_
      intro we b17e hke hze
      have hkae : Keep No wa we := hkad.trans hke fun j hj e => by have e2 : j = wa.heap.size + 1 := e; omega
      have b16e := b16d.keep hke fun e => by have e2 : wa.heap.size = wa.heap.size + 1 := e; omega
      have bXe := bXa.keep hkae fun h => h
      have bWe := bWa.keep hkae fun h => h
      have bKe := bKa.keep hkae fun h => h
      have hzwe : we.heap.size = wa.heap.size + 2 := by omega
      have hkze : Keep A wz we := hka.trans hkae fun _ _ h => h.elim
      clear hkac hkd hkad hke b16d b17d b16 hBWc bXa bWa bKa hzWc hzd hze
      have hcr := HRP.out we hkze
      have HCR := Lib.hid hcr
      clear HRP hcr
      go_wp2_with (with_reducible refine wl_ld rfl _ 57 rfl _ rfl ?_)
      refine rg_ld bWe Tryz.underlying57 rfl HSRZ.out ?_
      go_wp2_with (with_reducible refine wl_ld rfl _ 52 rfl _ rfl ?_)
      refine rg_ld bKe Tryz.underlying52 rfl (by kernel_rfl) ?_
      go_wp2_with fail
      refine HCR.out.mono ?_
      rintro e wf ⟨v', rfl, hFf, hkef⟩
      obtain ⟨av', cv', rfl, _, _⟩ := hFf.shape
      have bXf := bXe.keep hkef fun h => h
      have bWf := bWe.keep hkef fun h => h
      have bKf := bKe.keep hkef fun h => h
      have b16f := b16e.keep hkef fun h => h
      have b17f := b17e.keep hkef fun h => h
      have hzf := hkef.size
      have hkaf := hkae.trans' hkef
      clear HCR hkef bXe bWe bKe b16e b17e hkae
      go_wp2_with (with_reducible refine wl_stAgg rfl _ _ _ rfl _ _ rfl rfl ?_)
      have hkWg : Keep No wf (wf.alloc (.cells #[.int .u64 0, .int .u64 0, .int .u64 0, .int .u64 0, .int .u64 0, .int .u64 0, .int .u64 0, .int .u64 0, .int .u64 0, .int .u64 0, .int .u64 0, .int .u64 0, .int .u64 0, .int .u64 0, .int .u64 0, .int .u64 0, .int .u64 0, .int .u64 0, .int .u64 0, .int .u64 0, .int .u64 0, .int .u64 0, .int .u64 0, .int .u64 0, .int .u64 0, .int .u64 0, .int .u64 0, .int .u64 0, .int .u64 0, .int .u64 0, .int .u64 0, .int .u64 0, .int .u64 0, .int .u64 0] 57)) := (Keep.refl _ _).alloc _
      have hBWg : Blk (wf.alloc (.cells #[.int .u64 0, .int .u64 0, .int .u64 0, .int .u64 0, .int .u64 0, .int .u64 0, .int .u64 0, .int .u64 0, .int .u64 0, .int .u64 0, .int .u64 0, .int .u64 0, .int .u64 0, .int .u64 0, .int .u64 0, .int .u64 0, .int .u64 0, .int .u64 0, .int .u64 0, .int .u64 0, .int .u64 0, .int .u64 0, .int .u64 0, .int .u64 0, .int .u64 0, .int .u64 0, .int .u64 0, .int .u64 0, .int .u64 0, .int .u64 0, .int .u64 0, .int .u64 0, .int .u64 0, .int .u64 0] 57)) wf.heap.size #[.int .u64 0, .int .u64 0, .int .u64 0, .int .u64 0, .int .u64 0, .int .u64 0, .int .u64 0, .int .u64 0, .int .u64 0, .int .u64 0, .int .u64 0, .int .u64 0, .int .u64 0, .int .u64 0, .int .u64 0, .int .u64 0, .int .u64 0, .int .u64 0, .int .u64 0, .int .u64 0, .int .u64 0, .int .u64 0, .int .u64 0, .int .u64 0, .int .u64 0, .int .u64 0, .int .u64 0, .int .u64 0, .int .u64 0, .int .u64 0, .int .u64 0, .int .u64 0, .int .u64 0, .int .u64 0] 57 := Blk.new _ _ _
      have hzWg : (wf.alloc (.cells #[.int .u64 0, .int .u64 0, .int .u64 0, .int .u64 0, .int .u64 0, .int .u64 0, .int .u64 0, .int .u64 0, .int .u64 0, .int .u64 0, .int .u64 0, .int .u64 0, .int .u64 0, .int .u64 0, .int .u64 0, .int .u64 0, .int .u64 0, .int .u64 0, .int .u64 0, .int .u64 0, .int .u64 0, .int .u64 0, .int .u64 0, .int .u64 0, .int .u64 0, .int .u64 0, .int .u64 0, .int .u64 0, .int .u64 0, .int .u64 0, .int .u64 0, .int .u64 0, .int .u64 0, .int .u64 0] 57)).heap.size = wf.heap.size + 1 := World.size_alloc _ _
      generalize wf.alloc (.cells #[.int .u64 0, .int .u64 0, .int .u64 0, .int .u64 0, .int .u64 0, .int .u64 0, .int .u64 0, .int .u64 0, .int .u64 0, .int .u64 0, .int .u64 0, .int .u64 0, .int .u64 0, .int .u64 0, .int .u64 0, .int .u64 0, .int .u64 0, .int .u64 0, .int .u64 0, .int .u64 0, .int .u64 0, .int .u64 0, .int .u64 0, .int .u64 0, .int .u64 0, .int .u64 0, .int .u64 0, .int .u64 0, .int .u64 0, .int .u64 0, .int .u64 0, .int .u64 0, .int .u64 0, .int .u64 0] 57) = Wg at *
      have hkWh : Keep No Wg (Wg.alloc (.cells #[.slice none 0 0] 52)) := (Keep.refl _ _).alloc _
      have hBWh : Blk (Wg.alloc (.cells #[.slice none 0 0] 52)) Wg.heap.size #[.slice none 0 0] 52 := Blk.new _ _ _
      have hzWh : (Wg.alloc (.cells #[.slice none 0 0] 52)).heap.size = Wg.heap.size + 1 := World.size_alloc _ _
      generalize Wg.alloc (.cells #[.slice none 0 0] 52) = Wh at *
      have hkWi : Keep No Wh (Wh.alloc (.cells #[.int .i64 0, .int .i64 0, .int .u64 0] 59)) := (Keep.refl _ _).alloc _
      have hBWi : Blk (Wh.alloc (.cells #[.int .i64 0, .int .i64 0, .int .u64 0] 59)) Wh.heap.size #[.int .i64 0, .int .i64 0, .int .u64 0] 59 := Blk.new _ _ _
      have hzWi : (Wh.alloc (.cells #[.int .i64 0, .int .i64 0, .int .u64 0] 59)).heap.size = Wh.heap.size + 1 := World.size_alloc _ _
      generalize Wh.alloc (.cells #[.int .i64 0, .int .i64 0, .int .u64 0] 59) = Wi at *
      rw [hzWg] at hBWh hzWh
      rw [hzWh] at hBWi hzWi
      have b18 := (hBWg.keep hkWh fun h => h).keep hkWi fun h => h
      have b19 := hBWh.keep hkWi fun h => h
      have hkfi := (hkWg.trans' hkWh).trans' hkWi
      clear hBWg hBWh hkWg hkWh hkWi hzWg hzWh
      refine rg_stAgg b18 HT2.out (by rw [HTZ.out]; rfl) HT3.out ?_
      intro wj b18j hkj hzj
      have hkfj : Keep No wf wj := hkfi.trans hkj fun j hj e => by have e2 : j = wf.heap.size := e; omega
      have b19j := b19.keep hkj fun e => by have e2 : wf.heap.size + 1 = wf.heap.size := e; omega
      have b20j := hBWi.keep hkj fun e => by have e2 : wf.heap.size + 2 = wf.heap.size := e; omega
      go_wp2_with (with_reducible refine wl_stAgg rfl _ _ _ rfl _ _ rfl rfl ?_)
      refine rg_stAgg b19j (by kernel_rfl) (by rfl) (by simp [Value.oneCell']) ?_
      intro wk b19k hkk hzk
      have hkfk : Keep No wf wk := hkfj.trans hkk fun j hj e => by have e2 : j = wf.heap.size + 1 := e; omega
      have b18k := b18j.keep hkk fun e => by have e2 : wf.heap.size = wf.heap.size + 1 := e; omega
      have b20k := b20j.keep hkk fun e => by have e2 : wf.heap.size + 2 = wf.heap.size + 1 := e; omega
      go_wp2_with (with_reducible refine wl_stAgg rfl _ _ _ rfl _ _ rfl rfl ?_)
      refine rg_stAgg b20k (by kernel_rfl) (by rfl) (by simp [Value.oneCell']) ?_
      intro wl b20 hkl hzl
      have hkfl : Keep No wf wl := hkfk.trans hkl fun j hj e => by have e2 : j = wf.heap.size + 2 := e; omega
      have b18 := b18k.keep hkl fun e => by have e2 : wf.heap.size = wf.heap.size + 2 := e; omega
      have b19 := b19k.keep hkl fun e => by have e2 : wf.heap.size + 1 = wf.heap.size + 2 := e; omega
      have bX := bXf.keep hkfl fun h => h
      have bW := bWf.keep hkfl fun h => h
      have bK := bKf.keep hkfl fun h => h
      have b16 := b16f.keep hkfl fun h => h
      have b17 := b17f.keep hkfl fun h => h
      have hkal := hkaf.trans' hkfl
      have hzl' : wl.heap.size = wf.heap.size + 3 := by omega
      have hSl := hSa.no (fun k hk => Nat.lt_of_lt_of_le (hAz k hk) hza) hkal
      have hKl := (hK.trans hka fun j hj ha => absurd (hAw j ha) (by omega)).trans' hkal
      have hFl2 : Fl F wl 6 encS _ m' := (hFf.mono fun j hj ha => by
        rcases ha with ha | ha
        · exact ha.1
        · exact hFn j (by omega)).no hkfl
      have hSS : ∀ W, Keep No wl W → Blk W wa.heap.size Ct0 33 ∧ Blk W wf.heap.size Ct0 57 ∧ W.cell? ⟨wa.heap.size + 1, 0, none⟩ = some (.int .i64 (kd : Int)) ∧ W.cell? ⟨wa.heap.size + 1, 1, none⟩ = some (.int .i64 (er : Int)) ∧ W.cell? ⟨wa.heap.size + 1, 2, none⟩ = some (.int .u64 (ad_ : Int)) ∧ W.cell? ⟨wf.heap.size + 2, 0, none⟩ = some (.int .i64 (kd : Int)) ∧ W.cell? ⟨wf.heap.size + 2, 1, none⟩ = some (.int .i64 (er : Int)) ∧ W.cell? ⟨wf.heap.size + 2, 2, none⟩ = some (.int .u64 (ad_ : Int)) := fun W hk =>
        ⟨b16.keep hk fun h => h, b18.keep hk fun h => h, (b17.keep hk fun h => h).cell 0, (b17.keep hk fun h => h).cell 1, (b17.keep hk fun h => h).cell 2, (b20.keep hk fun h => h).cell 0, (b20.keep hk fun h => h).cell 1, (b20.keep hk fun h => h).cell 2⟩
      have HSS := Lib.hid hSS
      have n1 : ((kd : Int) != (kd : Int)) = false := by simp
      have n2 : ((er : Int) != (er : Int)) = false := by simp
      have n3 : ((ad_ : Int) != (ad_ : Int)) = false := by simp
      have hlt16 : wa.heap.size + 2 ≤ wf.heap.size := by omega
      have hltw : bw < wa.heap.size := by omega
      have HZL := Lib.hid hzl'
      clear hSS hkfi hkj hkk hkl hzj hzk hzl hkfj hkfk b18j b18k b19j b19k b20j b20k hBWi hzWi bXf bWf bKf b16f b17f hkaf hFf hzwe hkze hka hSa hkal hzl' hkfl hbX hbW hbK
      go_wp2_with fail
      refine wp_region_sig (fun W => Blk W wa.heap.size Ct0 33 ∧ Blk W wf.heap.size Ct0 57 ∧ W.cell? ⟨wa.heap.size + 1, 0, none⟩ = some (.int .i64 (kd : Int)) ∧ W.cell? ⟨wa.heap.size + 1, 1, none⟩ = some (.int .i64 (er : Int)) ∧ W.cell? ⟨wa.heap.size + 1, 2, none⟩ = some (.int .u64 (ad_ : Int)) ∧ W.cell? ⟨wf.heap.size + 2, 0, none⟩ = some (.int .i64 (kd : Int)) ∧ W.cell? ⟨wf.heap.size + 2, 1, none⟩ = some (.int .i64 (er : Int)) ∧ W.cell? ⟨wf.heap.size + 2, 2, none⟩ = some (.int .u64 (ad_ : Int))) (fun j => decide (j ≤ 99)) [(0, true), (2, true), (1, false), (3, true), (4, true), (5, true), (6, true), (7, true), (8, true), (9, true), (10, true), (11, true), (12, true), (13, true), (14, true), (15, true), (16, true), (17, true), (18, true), (19, true), (20, true), (21, true), (22, true), (23, true), (24, true)] (by kernel_rfl) (by kernel_rfl) (by intro c a d v w h; cases d <;> exact h) (HSS.out _ (Keep.refl _ _).drew) ?_
      apply sig_still (o := ⟨some 68, _, _, _, _, _⟩) rfl rfl
      · intro w' hS
        exact run_ldoC _ _ rfl wa.heap.size 0 rfl (run_loadVar_row w' wa.heap.size 33 33 _ _ _ hS.1 Tryz.underlying33 rfl HT1.out)
      go_frame
      apply sig_still (o := ⟨some 70, _, _, _, _, _⟩) rfl rfl
      · intro w' hS
        exact run_ldoC _ _ rfl wf.heap.size 0 rfl (run_loadVar_row w' wf.heap.size 57 57 _ _ _ hS.2.1 Tryz.underlying57 rfl HT2.out)
      go_frame
      refine sig_eff (o := ⟨some 69, _, _, _, _, _⟩) rfl rfl (fun K hKe => ?_)
      go_wp2_with fail
      refine (HS14.out _).mono ?_
      rintro e wm ⟨rfl, hkm⟩
      have hklm : Keep No wl wm := ((Keep.refl No wl).drew).trans' hkm
      clear hkm
      go_wp2_with fail
      refine ⟨fun _ => HSS.out _ hklm, ?_⟩
      apply sig_still (o := ⟨some 71, _, _, _, _, _⟩) rfl rfl
      · intro w' hS
        exact run_neoC 57 _ _ _ rfl Ct0 rfl rfl (by kernel_rfl) (HQ2.out _)
      go_frame
      apply sig_still (o := ⟨some 72, _, _, _, _, _⟩) rfl rfl
      · intro w' hS
        obtain ⟨q1, q2, q3, q4, q5, q6, q7, q8⟩ := hS
        first | (go_simp; done) | (go_simp; rfl) | rfl
      go_frame
      apply sig_guard (o := ⟨some 73, _, _, _, _, _⟩) rfl (by rfl)
      · intro w' hS
        obtain ⟨q1, q2, q3, q4, q5, q6, q7, q8⟩ := hS
        first | (go_simp; done) | (go_simp; rfl) | rfl
      go_frame
      apply sig_guard (o := ⟨some 74, _, _, _, _, _⟩) rfl (by rfl)
      · intro w' hS
        obtain ⟨q1, q2, q3, q4, q5, q6, q7, q8⟩ := hS
        first | (go_simp; done) | (go_simp; rfl) | rfl
      go_frame
      apply sig_guard (o := ⟨some 75, _, _, _, _, _⟩) rfl (by rfl)
      · intro w' hS
        obtain ⟨q1, q2, q3, q4, q5, q6, q7, q8⟩ := hS
        first | (go_simp; done) | (go_simp; rfl) | rfl
      go_frame
      apply sig_guard (o := ⟨some 76, _, _, _, _, _⟩) rfl (by rfl)
      · intro w' hS
        obtain ⟨q1, q2, q3, q4, q5, q6, q7, q8⟩ := hS
        first | (go_simp; done) | (go_simp; rfl) | rfl
      go_frame
      apply sig_guard (o := ⟨some 77, _, _, _, _, _⟩) rfl (by rfl)
      · intro w' hS
        obtain ⟨q1, q2, q3, q4, q5, q6, q7, q8⟩ := hS
        first | (go_simp; done) | (go_simp; rfl) | rfl
      go_frame
      apply sig_still (o := ⟨some 78, _, _, _, _, _⟩) rfl rfl
      · intro w' hS
        obtain ⟨q1, q2, q3, q4, q5, q6, q7, q8⟩ := hS
        first | (go_simp; done) | (go_simp; rfl) | rfl
      go_frame
      apply sig_still (o := ⟨some 79, _, _, _, _, _⟩) rfl rfl
      · intro w' hS
        obtain ⟨q1, q2, q3, q4, q5, q6, q7, q8⟩ := hS
        first | (go_simp; done) | (go_simp; rfl) | rfl
      go_frame
      apply sig_guard (o := ⟨some 80, _, _, _, _, _⟩) rfl (by rfl)
      · intro w' hS
        obtain ⟨q1, q2, q3, q4, q5, q6, q7, q8⟩ := hS
        first | (go_simp; done) | (go_simp; rfl) | rfl
      go_frame
      apply sig_guard (o := ⟨some 81, _, _, _, _, _⟩) rfl (by rfl)
      · intro w' hS
        obtain ⟨q1, q2, q3, q4, q5, q6, q7, q8⟩ := hS
        first | (go_simp; done) | (go_simp; rfl) | rfl
      go_frame
      apply sig_guard (o := ⟨some 82, _, _, _, _, _⟩) rfl (by rfl)
      · intro w' hS
        obtain ⟨q1, q2, q3, q4, q5, q6, q7, q8⟩ := hS
        first | (go_simp; done) | (go_simp; rfl) | rfl
      go_frame
      apply sig_guard (o := ⟨some 83, _, _, _, _, _⟩) rfl (by rfl)
      · intro w' hS
        obtain ⟨q1, q2, q3, q4, q5, q6, q7, q8⟩ := hS
        first | (go_simp; done) | (go_simp; rfl) | rfl
      go_frame
      apply sig_guard (o := ⟨some 84, _, _, _, _, _⟩) rfl (by rfl)
      · intro w' hS
        obtain ⟨q1, q2, q3, q4, q5, q6, q7, q8⟩ := hS
        first | (go_simp; done) | (go_simp; rfl) | rfl
      go_frame
      apply sig_still (o := ⟨some 85, _, _, _, _, _⟩) rfl rfl
      · intro w' hS
        obtain ⟨q1, q2, q3, q4, q5, q6, q7, q8⟩ := hS
        first | (go_simp; done) | (go_simp; rfl) | rfl
      go_frame
      apply sig_still (o := ⟨some 86, _, _, _, _, _⟩) rfl rfl
      · intro w' hS
        obtain ⟨q1, q2, q3, q4, q5, q6, q7, q8⟩ := hS
        first | (go_simp; done) | (go_simp; rfl) | rfl
      go_frame
      apply sig_guard (o := ⟨some 87, _, _, _, _, _⟩) rfl (by rfl)
      · intro w' hS
        obtain ⟨q1, q2, q3, q4, q5, q6, q7, q8⟩ := hS
        first | (go_simp; done) | (go_simp; rfl) | rfl
      go_frame
      apply sig_guard (o := ⟨some 88, _, _, _, _, _⟩) rfl (by rfl)
      · intro w' hS
        obtain ⟨q1, q2, q3, q4, q5, q6, q7, q8⟩ := hS
        first | (go_simp; done) | (go_simp; rfl) | rfl
      go_frame
      apply sig_guard (o := ⟨some 89, _, _, _, _, _⟩) rfl (by rfl)
      · intro w' hS
        obtain ⟨q1, q2, q3, q4, q5, q6, q7, q8⟩ := hS
        first | (go_simp; done) | (go_simp; rfl) | rfl
      go_frame
      apply sig_guard (o := ⟨some 90, _, _, _, _, _⟩) rfl (by rfl)
      · intro w' hS
        obtain ⟨q1, q2, q3, q4, q5, q6, q7, q8⟩ := hS
        first | (go_simp; done) | (go_simp; rfl) | rfl
      go_frame
      apply sig_guard (o := ⟨some 91, _, _, _, _, _⟩) rfl (by rfl)
      · intro w' hS
        obtain ⟨q1, q2, q3, q4, q5, q6, q7, q8⟩ := hS
        first | (go_simp; done) | (go_simp; rfl) | rfl
      go_frame
      apply sig_still (o := ⟨some 92, _, _, _, _, _⟩) rfl rfl
      · intro w' hS
        obtain ⟨q1, q2, q3, q4, q5, q6, q7, q8⟩ := hS
        first | (go_simp; done) | (go_simp; rfl) | rfl
      go_frame
      refine sig_nil ?_
      have b16m := b16.keep hklm fun h => h
      have b17m := b17.keep hklm fun h => h
      have b18m := b18.keep hklm fun h => h
      have b19m := b19.keep hklm fun h => h
      have bXm := bX.keep hklm fun h => h
      have bWm := bW.keep hklm fun h => h
      have bKm := bK.keep hklm fun h => h
      have hSm := hSl.no (fun k hk => by have := hAz k hk; have := HZL.out; omega) hklm
      have hFm := hFl2.no hklm
      have hKm := hKl.trans' hklm
      have hzm := hklm.size
      clear b16 b17 b18 b19 b20 bX bW bK hSl hFl2 hKl hklm HSS n1 n2 n3 hFl hK HQ1 HQ2 HS14
      go_wp2_with (with_reducible refine wl_ld rfl _ 33 rfl _ rfl ?_)
      refine rg_ld b16m Tryz.underlying33 rfl HT1.out ?_
      go_wp2_with (with_reducible refine wl_stAgg rfl _ _ _ rfl _ _ rfl rfl ?_)
      refine rg_stAgg bXm HT1.out (by rw [HTZ.out, HCSZ.out]) HT3.out ?_
      intro wn bXn hkn hzn
      have b17n := b17m.keep hkn fun e => by have e2 : wa.heap.size + 1 = bx := e; omega
      have b18n := b18m.keep hkn fun e => by have e2 : wf.heap.size = bx := e; omega
      have b19n := b19m.keep hkn fun e => by have e2 : wf.heap.size + 1 = bx := e; omega
      have bWn := bWm.keep hkn fun e => by have e2 : bw = bx := e; omega
      have bKn := bKm.keep hkn fun e => by have e2 : bk = bx := e; omega
      have hKn : Keep No w wn := hKm.trans hkn fun j hj e => by have e2 : j = bx := e; omega
      have hSn := hSm.same fun k hk => hkn.block k (by have := hAz k hk; have := HZL.out; omega) fun e => by have e2 : k = bx := e; have := hAb k hk; omega
      have hFn2 : Fl F wn 6 encS _ m' := Sl.keep hFm hkn fun j hj h1 e => (hFb j h1).2.1 e
      clear hkn b16m b17m b18m b19m bWm bKm bXm hSm hFm hKm
      go_wp2_with (with_reducible refine wl_ld rfl _ 57 rfl _ rfl ?_)
      refine rg_ld b18n Tryz.underlying57 rfl HT2.out ?_
      go_wp2_with (with_reducible refine wl_stAgg rfl _ _ _ rfl _ _ rfl rfl ?_)
      refine rg_stAgg bWn HT2.out (by rw [HTZ.out, HCSZ.out]) HT3.out ?_
      intro wo bWo hko hzo
      have b17o := b17n.keep hko fun e => by have e2 : wa.heap.size + 1 = bw := e; omega
      have b19o := b19n.keep hko fun e => by have e2 : wf.heap.size + 1 = bw := e; omega
      have bXo := bXn.keep hko fun e => by have e2 : bx = bw := e; omega
      have bKo := bKn.keep hko fun e => by have e2 : bk = bw := e; omega
      have hKo : Keep No w wo := hKn.trans hko fun j hj e => by have e2 : j = bw := e; omega
      have hSo := hSn.same fun k hk => hko.block k (by have := hAz k hk; have := HZL.out; omega) fun e => by have e2 : k = bw := e; have := hAb k hk; omega
      have hFo : Fl F wo 6 encS _ m' := Sl.keep hFn2 hko fun j hj h1 e => (hFb j h1).2.2 e
      clear hko b17n b18n b19n bWn bKn bXn hSn hFn2 hKn
      go_wp2_with (with_reducible refine wl_ld rfl _ 52 rfl _ rfl ?_)
      refine rg_ld b19o Tryz.underlying52 rfl (by kernel_rfl) ?_
      go_wp2_with (with_reducible refine wl_stAgg rfl _ _ _ rfl _ _ rfl rfl ?_)
      refine rg_stAgg bKo (by kernel_rfl) (by rfl) (by simp [Value.oneCell']) ?_
      intro wp bKp hkp hzp
      have b17p := b17o.keep hkp fun e => by have e2 : wa.heap.size + 1 = bk := e; omega
      have bXp := bXo.keep hkp fun e => by have e2 : bx = bk := e; omega
      have bWp := bWo.keep hkp fun e => by have e2 : bw = bk := e; omega
      have hKp : Keep No w wp := hKo.trans hkp fun j hj e => by have e2 : j = bk := e; omega
      have hSp := hSo.same fun k hk => hkp.block k (by have := hAz k hk; have := HZL.out; omega) fun e => by have e2 : k = bk := e; have := hAb k hk; omega
      have hFp : Fl F wp 6 encS _ m' := Sl.keep hFo hkp fun j hj h1 e => (hFb j h1).1 e
      have q17 : wp.cell? ⟨wa.heap.size + 1, 0, none⟩ = some (.int .i64 (kd : Int)) := b17p.cell 0
      clear hkp b17o b19o bXo bWo hSo hFo hKo b17p bKo
      by_cases hkd : kd = 3
      · have hk3 : ((kd : Int) == 3) = true := by simp [hkd]
        clear hkd
        go_wp2_with fail
        have hkd := (Keep.refl No wp).drew
        have hSd := (hSp).no (fun k hk => by have := hAb k hk; have := (bKp).lt; omega) hkd
        have hBd := (bKp).keep hkd fun h => h
        have hFd := (hFp).no hkd
        have hKd := (hKp).trans' hkd
        have hAd : ∀ k, A k → k < (wp).drew.heap.size := fun k hk => by have := hAb k hk; have := hBd.lt; omega
        have hok := hSd.ok
        have hpg := pages_model hSd hAd (by rw [HTL.out]; omega) (K := fun e2 W => ∃ v2, e2 = .returned (.agg #[v2]) ∧ Fl (fun k => (wp).drew.heap.size ≤ k ∧ k < W.heap.size) W 6 encS v2 _ ∧ Keep No (wp).drew W) fun v w' h1 h2 => ⟨v, rfl, h1, h2⟩
        unfold ptrTo at hpg
        have HPG := Lib.hid hpg
        have HLL := Lib.hid (HTL.out)
        clear hpg
        go_wp2_with fail
        refine wp_region_sig (fun w' => Blk w' bk #[.slice av' m'.length cv'] 52 ∧ True) (fun j => decide (j ≤ 99)) [(0, true), (3, true), (1, false), (2, false), (4, false), (5, true)] (by kernel_rfl) (by kernel_rfl) (by intro c a d v w h; cases d <;> exact h) ⟨hBd, trivial⟩ ?_
        apply sig_still (o := ⟨some 99, _, _, _, _, _⟩) rfl rfl
        · intro w' hS
          obtain ⟨q1, q2⟩ := hS
          first | (go_simp; done) | (go_simp; rfl) | rfl
        go_frame
        apply sig_still (o := ⟨some 102, _, _, _, _, _⟩) rfl rfl
        · intro w' hS
          exact run_ldoC _ _ rfl bk 0 rfl (run_loadVar_row w' bk 52 52 _ _ _ hS.1 Tryz.underlying52 rfl (by kernel_rfl))
        go_frame
        refine sig_eff (o := ⟨some 100, _, _, _, _, _⟩) rfl rfl (fun K hKe => ?_)
        go_wp2_with fail
        refine HPG.out.mono ?_
        rintro e y1 ⟨vp, rfl, hky1, hcm⟩
        have hBy1 := hBd.keep hky1 fun h => h
        have HCM := Lib.hid hcm
        clear hcm
        go_wp2_with fail
        refine ⟨fun _ => ⟨hBy1, trivial⟩, ?_⟩
        refine sig_eff (o := ⟨some 101, _, _, _, _, _⟩) rfl rfl (fun K hKe => ?_)
        go_wp2_with fail
        refine HCM.out.mono ?_
        rintro e y2 ⟨vm, rfl, hFm2, hky2⟩
        have hBy2 := hBd.keep hky2 fun h => h
        have hFy2 := hFd.no hky2
        have hKy2 := hKd.trans' hky2
        have hsa := rvsame_any (w := y2) ((m').map rawR) (fl_raws' hFm2) (fl_raws' hFy2) (by rw [List.length_map, HLL.out]; omega)
        clear HCM HPG
        go_wp2_with fail
        refine ⟨fun _ => ⟨hBy2, trivial⟩, ?_⟩
        refine sig_eff (o := ⟨some 103, _, _, _, _, _⟩) rfl rfl (fun K hKe => ?_)
        go_wp2_with fail
        refine hsa.mono ?_
        rintro e y3 ⟨rfl, hky3⟩
        have hBy3 := hBy2.keep hky3 fun h => h
        have hEnd := hKy2.trans' hky3
        clear hsa
        go_wp2_with fail
        refine ⟨fun _ => ⟨hBy3, trivial⟩, ?_⟩
        apply sig_still (o := ⟨some 10, _, _, _, _, _⟩) rfl rfl
        · intro w' hS
          obtain ⟨q1, q2⟩ := hS
          first | (go_simp; done) | (go_simp; rfl) | rfl
        go_frame
        refine sig_nil ?_
        go_wp2_with fail
        go_ret
        exact ⟨rfl, hEnd⟩
      · have hk3 : ((kd : Int) == 3) = false := by simp; omega
        clear hkd
        go_wp2_with fail
        go_roundw
        case rel => exact ⟨i + 1, t0, m', _, by go_num, by omega, htok, hSp, HTL.out, by rw [HCT.out]; exact bXp, by rw [HCT.out]; exact bWp, bKp, hFp, hKp⟩
        case measure => simp [intOf]; omega
    · have hge' : ¬ (i : Int) < steps := by omega
      have HML0 := Lib.hid hml
      clear hml
      have hkd := (Keep.refl No wz).drew
      have hSd := (hS).no (fun k hk => by have := hAb k hk; have := (hbK).lt; omega) hkd
      have hBd := (hbK).keep hkd fun h => h
      have hFd := (hFl).no hkd
      have hKd := (hK).trans' hkd
      have hAd : ∀ k, A k → k < (wz).drew.heap.size := fun k hk => by have := hAb k hk; have := hBd.lt; omega
      have hok := hSd.ok
      have hpg := pages_model hSd hAd (by rw [HML0.out]; omega) (K := fun e2 W => ∃ v2, e2 = .returned (.agg #[v2]) ∧ Fl (fun k => (wz).drew.heap.size ≤ k ∧ k < W.heap.size) W 6 encS v2 _ ∧ Keep No (wz).drew W) fun v w' h1 h2 => ⟨v, rfl, h1, h2⟩
      unfold ptrTo at hpg
      have HPG := Lib.hid hpg
      have HLL := Lib.hid (HML0.out)
      clear hpg
      go_wp2_with fail
      refine wp_region_sig (fun w' => Blk w' bk #[.slice av m.length cv] 52 ∧ True) (fun j => decide (j ≤ 99)) [(0, true), (3, true), (1, false), (2, false), (4, false), (5, true)] (by kernel_rfl) (by kernel_rfl) (by intro c a d v w h; cases d <;> exact h) ⟨hBd, trivial⟩ ?_
      apply sig_still (o := ⟨some 99, _, _, _, _, _⟩) rfl rfl
      · intro w' hS
        obtain ⟨q1, q2⟩ := hS
        first | (go_simp; done) | (go_simp; rfl) | rfl
      go_frame
      apply sig_still (o := ⟨some 102, _, _, _, _, _⟩) rfl rfl
      · intro w' hS
        exact run_ldoC _ _ rfl bk 0 rfl (run_loadVar_row w' bk 52 52 _ _ _ hS.1 Tryz.underlying52 rfl (by kernel_rfl))
      go_frame
      refine sig_eff (o := ⟨some 100, _, _, _, _, _⟩) rfl rfl (fun K hKe => ?_)
      go_wp2_with fail
      refine HPG.out.mono ?_
      rintro e y1 ⟨vp, rfl, hky1, hcm⟩
      have hBy1 := hBd.keep hky1 fun h => h
      have HCM := Lib.hid hcm
      clear hcm
      go_wp2_with fail
      refine ⟨fun _ => ⟨hBy1, trivial⟩, ?_⟩
      refine sig_eff (o := ⟨some 101, _, _, _, _, _⟩) rfl rfl (fun K hKe => ?_)
      go_wp2_with fail
      refine HCM.out.mono ?_
      rintro e y2 ⟨vm, rfl, hFm2, hky2⟩
      have hBy2 := hBd.keep hky2 fun h => h
      have hFy2 := hFd.no hky2
      have hKy2 := hKd.trans' hky2
      have hsa := rvsame_any (w := y2) ((m).map rawR) (fl_raws' hFm2) (fl_raws' hFy2) (by rw [List.length_map, HLL.out]; omega)
      clear HCM HPG
      go_wp2_with fail
      refine ⟨fun _ => ⟨hBy2, trivial⟩, ?_⟩
      refine sig_eff (o := ⟨some 103, _, _, _, _, _⟩) rfl rfl (fun K hKe => ?_)
      go_wp2_with fail
      refine hsa.mono ?_
      rintro e y3 ⟨rfl, hky3⟩
      have hBy3 := hBy2.keep hky3 fun h => h
      have hEnd := hKy2.trans' hky3
      clear hsa
      go_wp2_with fail
      refine ⟨fun _ => ⟨hBy3, trivial⟩, ?_⟩
      apply sig_still (o := ⟨some 10, _, _, _, _, _⟩) rfl rfl
      · intro w' hS
        obtain ⟨q1, q2⟩ := hS
        first | (go_simp; done) | (go_simp; rfl) | rfl
      go_frame
      refine sig_nil ?_
      go_wp2_with fail
      go_ret
      exact ⟨rfl, hEnd⟩
end
end Go.Proofs.YtaoillfofiehpaaGreatDoor
