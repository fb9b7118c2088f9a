/- cpu: do. No condition. -/
import Derived.Test.YtaoillfofiehpaaGreatDoorCpu5
set_option linter.unusedVariables false
set_option linter.unusedSimpArgs false
namespace Go.Proofs.YtaoillfofiehpaaGreatDoor
open Go.RowKit Go.Dm Go.Dm.Vm Go.Dm.Cp Go.Maps
section
variable {A : Nat → Prop} {w : World} {d mb : Nat} {f : Nat → Nat} {m : V}
set_option maxRecDepth 100000 in
set_option maxHeartbeats 8000000 in
theorem cpudo_any (s : St) (i : Ins) (hs : StOk s) (hi : InOk i) (hT : Tabs w) (h : SRep A w d m mb f) (hA : ∀ k, A k → k < w.heap.size) :
    Calls Tryz.prog 30 #[.agg (cellsS s), ptrTo d, encI i] w fun e w' => (∃ n, StOk n ∧ e = .returned (.tuple #[.agg (cellsS n), encO3 (doM s m i).2.2]) ∧ ((doM s m i).2.2.kind ≠ 3 → n = (doM s m i).1)) ∧ SRep A w' d (doM s m i).2.1 mb f ∧ Keep A w w' := by
  obtain ⟨op, a, b, c, imm⟩ := i
  obtain ⟨io, ia, ib, ic, ilo, ihi⟩ := hi
  simp only at io ia ib ic ilo ihi
  obtain ⟨D, hD⟩ : ∃ D, D = doM s m ⟨op, a, b, c, imm⟩ := ⟨_, rfl⟩
  rw [← hD]
  have HD := Lib.hid hD
  have hAX := Lib.hid hA
  have HIO := Lib.hid (op_cases io)
  have hHS := Lib.hid h
  have hHT := Lib.hid hT
  clear hD io h hT
  have hsz := cellsS_size hs
  have g1 := cellsS_reg hs ia
  have g2 := cellsS_reg hs ib
  have g3 := cellsS_reg hs ic
  have g4 := cellsS_pc hs
  unfold ru at g1 g2 g3 g4
  have haz : (a : Int) < 32 := by omega
  have hbz : (b : Int) < 32 := by omega
  have hcz : (c : Int) < 32 := by omega
  have himm := u64_wrap ilo ihi
  have himm2 := u64_wrap2 ilo ihi
  have hul := u64_lt ilo ihi
  unfold encI ptrTo
  obtain ⟨cs, hcs⟩ : ∃ cs, cs = cellsS s := ⟨_, rfl⟩
  rw [← hcs] at hsz g1 g2 g3 g4 ⊢
  have g32 : cs[32]'(by omega) = .int .u64 (s.pc : Int) := by
    have := Array.getElem?_eq_getElem (xs := cs) (i := 32) (by omega)
    rw [g4] at this
    exact (Option.some.inj this).symm
  have HCS := Lib.hid hcs
  clear hcs
  go_enter Tryz.func30, Tryz.ntmps30
  go_wp2_with fail
  have hkW1 : Keep No w (w.alloc (.cells cs 33)) := (Keep.refl _ _).alloc _
  have hBW1 : Blk (w.alloc (.cells cs 33)) w.heap.size cs 33 := Blk.new _ _ _
  have hzW1 : (w.alloc (.cells cs 33)).heap.size = w.heap.size + 1 := World.size_alloc _ _
  generalize w.alloc (.cells cs 33) = W1 at *
  have hkW2 : Keep No W1 (W1.alloc (.cells #[.int .i64 (op : Int), .int .i64 (a : Int), .int .i64 (b : Int), .int .i64 (c : Int), .int .i32 imm] 80)) := (Keep.refl _ _).alloc _
  have hBW2 : Blk (W1.alloc (.cells #[.int .i64 (op : Int), .int .i64 (a : Int), .int .i64 (b : Int), .int .i64 (c : Int), .int .i32 imm] 80)) W1.heap.size #[.int .i64 (op : Int), .int .i64 (a : Int), .int .i64 (b : Int), .int .i64 (c : Int), .int .i32 imm] 80 := Blk.new _ _ _
  have hzW2 : (W1.alloc (.cells #[.int .i64 (op : Int), .int .i64 (a : Int), .int .i64 (b : Int), .int .i64 (c : Int), .int .i32 imm] 80)).heap.size = W1.heap.size + 1 := World.size_alloc _ _
  generalize W1.alloc (.cells #[.int .i64 (op : Int), .int .i64 (a : Int), .int .i64 (b : Int), .int .i64 (c : Int), .int .i32 imm] 80) = W2 at *
  have hkW3 : Keep No W2 (W2.alloc (.cells #[.int .u64 0, .int .u64 0, .int .u64 0, .int .u64 0, .int .u64 0, .int .u64 0, .int .u64 0, .int .u64 0, .int .u64 0, .int .u64 0, .int .u64 0, .int .u64 0, .int .u64 0, .int .u64 0, .int .u64 0, .int .u64 0, .int .u64 0, .int .u64 0, .int .u64 0, .int .u64 0, .int .u64 0, .int .u64 0, .int .u64 0, .int .u64 0, .int .u64 0, .int .u64 0, .int .u64 0, .int .u64 0, .int .u64 0, .int .u64 0, .int .u64 0, .int .u64 0, .int .u64 0, .int .u64 0] 33)) := (Keep.refl _ _).alloc _
  have hBW3 : Blk (W2.alloc (.cells #[.int .u64 0, .int .u64 0, .int .u64 0, .int .u64 0, .int .u64 0, .int .u64 0, .int .u64 0, .int .u64 0, .int .u64 0, .int .u64 0, .int .u64 0, .int .u64 0, .int .u64 0, .int .u64 0, .int .u64 0, .int .u64 0, .int .u64 0, .int .u64 0, .int .u64 0, .int .u64 0, .int .u64 0, .int .u64 0, .int .u64 0, .int .u64 0, .int .u64 0, .int .u64 0, .int .u64 0, .int .u64 0, .int .u64 0, .int .u64 0, .int .u64 0, .int .u64 0, .int .u64 0, .int .u64 0] 33)) W2.heap.size #[.int .u64 0, .int .u64 0, .int .u64 0, .int .u64 0, .int .u64 0, .int .u64 0, .int .u64 0, .int .u64 0, .int .u64 0, .int .u64 0, .int .u64 0, .int .u64 0, .int .u64 0, .int .u64 0, .int .u64 0, .int .u64 0, .int .u64 0, .int .u64 0, .int .u64 0, .int .u64 0, .int .u64 0, .int .u64 0, .int .u64 0, .int .u64 0, .int .u64 0, .int .u64 0, .int .u64 0, .int .u64 0, .int .u64 0, .int .u64 0, .int .u64 0, .int .u64 0, .int .u64 0, .int .u64 0] 33 := Blk.new _ _ _
  have hzW3 : (W2.alloc (.cells #[.int .u64 0, .int .u64 0, .int .u64 0, .int .u64 0, .int .u64 0, .int .u64 0, .int .u64 0, .int .u64 0, .int .u64 0, .int .u64 0, .int .u64 0, .int .u64 0, .int .u64 0, .int .u64 0, .int .u64 0, .int .u64 0, .int .u64 0, .int .u64 0, .int .u64 0, .int .u64 0, .int .u64 0, .int .u64 0, .int .u64 0, .int .u64 0, .int .u64 0, .int .u64 0, .int .u64 0, .int .u64 0, .int .u64 0, .int .u64 0, .int .u64 0, .int .u64 0, .int .u64 0, .int .u64 0] 33)).heap.size = W2.heap.size + 1 := World.size_alloc _ _
  generalize W2.alloc (.cells #[.int .u64 0, .int .u64 0, .int .u64 0, .int .u64 0, .int .u64 0, .int .u64 0, .int .u64 0, .int .u64 0, .int .u64 0, .int .u64 0, .int .u64 0, .int .u64 0, .int .u64 0, .int .u64 0, .int .u64 0, .int .u64 0, .int .u64 0, .int .u64 0, .int .u64 0, .int .u64 0, .int .u64 0, .int .u64 0, .int .u64 0, .int .u64 0, .int .u64 0, .int .u64 0, .int .u64 0, .int .u64 0, .int .u64 0, .int .u64 0, .int .u64 0, .int .u64 0, .int .u64 0, .int .u64 0] 33) = W3 at *
  have hkW4 : Keep No W3 (W3.alloc (.cells #[.int .i64 0, .int .i64 0, .int .u64 0] 46)) := (Keep.refl _ _).alloc _
  have hBW4 : Blk (W3.alloc (.cells #[.int .i64 0, .int .i64 0, .int .u64 0] 46)) W3.heap.size #[.int .i64 0, .int .i64 0, .int .u64 0] 46 := Blk.new _ _ _
  have hzW4 : (W3.alloc (.cells #[.int .i64 0, .int .i64 0, .int .u64 0] 46)).heap.size = W3.heap.size + 1 := World.size_alloc _ _
  generalize W3.alloc (.cells #[.int .i64 0, .int .i64 0, .int .u64 0] 46) = W4 at *
  rw [hzW1] at hBW2 hzW2
  rw [hzW2] at hBW3 hzW3
  rw [hzW3] at hBW4 hzW4
  have hk4 := ((hkW1.trans' hkW2).trans' hkW3).trans' hkW4
  have b3 := ((hBW1.keep hkW2 fun h => h).keep hkW3 fun h => h).keep hkW4 fun h => h
  have b5 := (hBW2.keep hkW3 fun h => h).keep hkW4 fun h => h
  have b6 := hBW3.keep hkW4 fun h => h
  have b7 := hBW4
  clear hkW1 hkW2 hkW3 hkW4 hBW1 hBW2 hBW3 hBW4 hzW1 hzW2 hzW3
  have p1 : W4.cell? ⟨w.heap.size + 1, 1, none⟩ = some (.int .i64 (a : Int)) := b5.cell 1
  have p2 : W4.cell? ⟨w.heap.size + 1, 2, none⟩ = some (.int .i64 (b : Int)) := b5.cell 2
  have p3 : W4.cell? ⟨w.heap.size + 1, 3, none⟩ = some (.int .i64 (c : Int)) := b5.cell 3
  have r1 : W4.cell? ⟨w.heap.size, a, none⟩ = some (.int .u64 (s.reg a : Int)) := (b3.cell _).trans g1
  have r2 : W4.cell? ⟨w.heap.size, b, none⟩ = some (.int .u64 (s.reg b : Int)) := (b3.cell _).trans g2
  have r3 : W4.cell? ⟨w.heap.size, c, none⟩ = some (.int .u64 (s.reg c : Int)) := (b3.cell _).trans g3
  go_quiet (fail)
  generalize hwq : W4.drewN nq = w5
  have hk45 : Keep No W4 w5 := hwq ▸ (Keep.refl No W4).drewN nq
  have b35 := b3.keep hk45 fun h => h
  have b55 := b5.keep hk45 fun h => h
  have b65 := b6.keep hk45 fun h => h
  have b75 := b7.keep hk45 fun h => h
  have hk5 := hk4.trans' hk45
  have r4 : w5.cell? ⟨w.heap.size, 32, none⟩ = some (.int .u64 (s.pc : Int)) := (b35.cell 32).trans g4
  have hadd8 : IntKind.u64.wrap ((s.pc : Int) + 8) = (add s.pc 8 : Nat) := add_wrap s.pc 8
  clear p1 p2 p3 r1 r2 r3 hwq hk45 b3 b5 b6 b7 hk4 hzW4 g1 g2 g3 g32
  go_wp2_with (with_reducible refine wl_stInt rfl _ _ _ rfl _ _ _ rfl rfl ?_)
  refine rg_stC b35 (by omega) u64_sz ?_
  intro w6 hS6 hk6 hz6
  rw [HCS.out, cellsS_go hs] at hS6
  have hKX : Keep No w w6 := hk5.trans hk6 fun j hj e => by have e2 : j = w.heap.size := e; omega
  have b5X := b55.keep hk6 fun e => by have e2 : w.heap.size + 1 = w.heap.size := e; omega
  have b6X := b65.keep hk6 fun e => by have e2 : w.heap.size + 1 + 1 = w.heap.size := e; omega
  have b7X := b75.keep hk6 fun e => by have e2 : w.heap.size + 1 + 1 + 1 = w.heap.size := e; omega
  have hs6 := hs.go (add_lt s.pc 8)
  have p0 : w6.cell? ⟨w.heap.size + 1, 0, none⟩ = some (.int .i64 (op : Int)) := b5X.cell 0
  clear hk6 hz6 b35 b55 b65 b75 hk5 r4 g4
  have hio := HIO.out
  clear HIO
  rcases hio with rfl | rfl | hop | rfl | rfl | rfl | hop | hop | hop | rfl | rfl | rfl | rfl | rfl | rfl | rfl | rfl
  · skip
    have hKF := (hKX.mono (B := A) fun _ _ h => h.elim)
    have hSF := (hHS.out.no hAX.out hKX)
    go_wp2_with (with_reducible refine wl_ld rfl _ 33 rfl _ rfl ?_)
    refine rg_ld hS6 Tryz.underlying33 rfl (stC_sz hs6) ?_
    go_wp2_with (with_reducible refine wl_stAgg rfl _ _ _ rfl _ _ rfl rfl ?_)
    refine rg_stAgg b6X (stC_sz hs6) (by rw [cellsS_size hs6]; rfl) (cellsS_one _) ?_
    intro wa hBa hka hza
    go_wp2_with (with_reducible refine wl_stAgg rfl _ _ _ rfl _ _ rfl rfl ?_)
    refine rg_stAgg (b7X.keep hka fun e => by have e2 : w.heap.size + 1 + 1 + 1 = w.heap.size + 1 + 1 := e; omega) (by kernel_rfl) (by rfl) (by simp [Value.oneCell']) ?_
    intro wb hBb hkb hzb
    go_wp2_with fail
    have hDD := HD.out.trans (do_1 s m a b c imm)
    subst hDD
    have hka' : Keep A w wa := hKF.trans hka fun j hj e => by have e2 : j = w.heap.size + 1 + 1 := e; omega
    have hkb' : Keep A w wb := hka'.trans hkb fun j hj e => by have e2 : j = w.heap.size + 1 + 1 + 1 := e; omega
    refine ret_blk_blk rfl rfl rfl (hBa.keep hkb fun e => by have e2 : w.heap.size + 1 + 1 = w.heap.size + 1 + 1 + 1 := e; omega) hBb Tryz.underlying33 rfl (stC_sz hs6) Tryz.underlying46 rfl (by kernel_rfl) rfl ?_
    exact ⟨⟨_, hs6, rfl, fun _ => rfl⟩, (hSF.keep hka (fun j hj e => by have := hAX.out j hj; have e2 : j = w.heap.size + 1 + 1 := e; omega) (fun j hj => by have := hAX.out j hj; have := hKF.size; omega)).keep hkb (fun j hj e => by have := hAX.out j hj; have e2 : j = w.heap.size + 1 + 1 + 1 := e; omega) (fun j hj => by have := hAX.out j hj; have := hka'.size; omega), hkb'⟩
  · have hX := True.intro
    go_wp2_with (with_reducible refine wl_stInt rfl _ _ _ rfl _ _ _ rfl rfl ?_)
    refine rg_stC hS6 (by rw [cellsS_size hs6]; omega) u64_sz ?_
    intro wY hSY hkx hzx
    rw [cellsS_put hs6 ia (s.reg b)] at hSY
    have hKY : Keep No w wY := hKX.trans hkx fun j hj e => by have e2 : j = w.heap.size := e; omega
    have b6Y := b6X.keep hkx fun e => by have e2 : w.heap.size + 1 + 1 = w.heap.size := e; omega
    have b7Y := b7X.keep hkx fun e => by have e2 : w.heap.size + 1 + 1 + 1 = w.heap.size := e; omega
    clear hkx hzx hKX b6X b7X
    have hs7 := hs6.put a (x := s.reg b) (by first | exact add_lt _ _ | exact hul | exact hs.reg _)
    clear hX p0
    have hKF := (hKY.mono (B := A) fun _ _ h => h.elim)
    have hSF := (hHS.out.no hAX.out hKY)
    go_wp2_with (with_reducible refine wl_ld rfl _ 33 rfl _ rfl ?_)
    refine rg_ld hSY Tryz.underlying33 rfl (stC_sz hs7) ?_
    go_wp2_with (with_reducible refine wl_stAgg rfl _ _ _ rfl _ _ rfl rfl ?_)
    refine rg_stAgg b6Y (stC_sz hs7) (by rw [cellsS_size hs7]; rfl) (cellsS_one _) ?_
    intro wa hBa hka hza
    go_wp2_with (with_reducible refine wl_stAgg rfl _ _ _ rfl _ _ rfl rfl ?_)
    refine rg_stAgg (b7Y.keep hka fun e => by have e2 : w.heap.size + 1 + 1 + 1 = w.heap.size + 1 + 1 := e; omega) (by kernel_rfl) (by rfl) (by simp [Value.oneCell']) ?_
    intro wb hBb hkb hzb
    go_wp2_with fail
    have hDD := HD.out.trans (do_2 s m a b c imm)
    subst hDD
    have hka' : Keep A w wa := hKF.trans hka fun j hj e => by have e2 : j = w.heap.size + 1 + 1 := e; omega
    have hkb' : Keep A w wb := hka'.trans hkb fun j hj e => by have e2 : j = w.heap.size + 1 + 1 + 1 := e; omega
    refine ret_blk_blk rfl rfl rfl (hBa.keep hkb fun e => by have e2 : w.heap.size + 1 + 1 = w.heap.size + 1 + 1 + 1 := e; omega) hBb Tryz.underlying33 rfl (stC_sz hs7) Tryz.underlying46 rfl (by kernel_rfl) rfl ?_
    exact ⟨⟨_, hs7, rfl, fun _ => rfl⟩, (hSF.keep hka (fun j hj e => by have := hAX.out j hj; have e2 : j = w.heap.size + 1 + 1 := e; omega) (fun j hj => by have := hAX.out j hj; have := hKF.size; omega)).keep hkb (fun j hj e => by have := hAX.out j hj; have e2 : j = w.heap.size + 1 + 1 + 1 := e; omega) (fun j hj => by have := hAX.out j hj; have := hka'.size; omega), hkb'⟩
  · have n2 : ((op : Int) == 2) = false := by simp; omega
    have n3 : (op : Int) ≥ 3 := by omega
    have n15 : (op : Int) ≤ 15 := by omega
    by_cases hz : (op = 6 ∨ op = 7) ∧ s.reg c = 0
    · have hcall := cpureckon_zero (w := w6) op (s.reg b) hz.1
      have hz2 := hz.2
      have HDD := Lib.hid (do_rz s m op a b c imm hop hz)
      clear hz
      rw [hz2]
      go_wp2_with fail
      refine hcall.mono ?_
      rintro e w6 ⟨rfl, rfl⟩
      clear hcall
      go_wp2_with fail
      have hkd := (Keep.refl No w6).drew
      refine wp_region_sig (fun w' => Blk w' w.heap.size (cellsS (s.go (add s.pc 8))) 33 ∧ True) (fun j => decide (j ≤ 99)) [(0, true), (1, true), (2, false), (3, false), (4, false)] (by kernel_rfl) (by kernel_rfl) (by intro c a d v w h; cases d <;> exact h) ⟨hS6.keep hkd fun h => h, trivial⟩ ?_
      apply sig_still (o := ⟨some 65, _, _, _, _, _⟩) rfl rfl
      · intro w' hS
        exact run_ldoC _ _ rfl w.heap.size 0 rfl (run_loadVar_row w' w.heap.size 33 33 _ _ _ hS.1 Tryz.underlying33 rfl (stC_sz hs6))
      go_frame
      apply sig_still (o := ⟨some 66, _, _, _, _, _⟩) rfl rfl
      · intro w' hS
        obtain ⟨q1, q2⟩ := hS
        first | (go_simp; done) | (go_simp; rfl) | rfl
      go_frame
      refine sig_eff (o := ⟨some 67, _, _, _, _, _⟩) rfl rfl (fun K hKe => ?_)
      have hfa := cpufault_any 43 s.pc w6.drew
      go_wp2_with fail
      refine hfa.mono ?_
      rintro e w7 ⟨rfl, hk67⟩
      clear hfa
      unfold encO3
      replace hk67 := hkd.trans' hk67
      have hS7 := hS6.keep hk67 fun h => h
      have b67 := b6X.keep hk67 fun h => h
      have b77 := b7X.keep hk67 fun h => h
      have hK7 := hKX.trans' hk67
      go_wp2_with fail
      refine ⟨fun _ => ⟨hS7, trivial⟩, ?_⟩
      refine sig_eff (o := ⟨none, _, _, _, _, _⟩) rfl rfl (fun K hKe => ?_)
      refine wo_stAgg (.tmp 6) (.tmp 65) 33 rfl _ _ rfl rfl ?_
      refine rg_stAgg b67 (stC_sz hs6) (by rw [cellsS_size hs6]; rfl) (cellsS_one _) ?_
      intro wa hBa hka hza
      have hSa := hS7.keep hka fun e => by have e2 : w.heap.size = w.heap.size + 1 + 1 := e; omega
      refine hKe _ _ ⟨fun _ => ⟨hSa, trivial⟩, ?_⟩
      refine sig_eff (o := ⟨none, _, _, _, _, _⟩) rfl rfl (fun K hKe => ?_)
      refine wo_stAgg (.tmp 7) (.tmp 67) 46 rfl _ _ rfl rfl ?_
      refine rg_stAgg (b77.keep hka fun e => by have e2 : w.heap.size + 1 + 1 + 1 = w.heap.size + 1 + 1 := e; omega) (by kernel_rfl) (by rfl) (by simp [Value.oneCell']) ?_
      intro wb hBb hkb hzb
      refine hKe _ _ ⟨fun _ => ⟨hSa.keep hkb fun e => by have e2 : w.heap.size = w.heap.size + 1 + 1 + 1 := e; omega, trivial⟩, sig_nil ?_⟩
      have hKF : Keep A w w7 := hK7.mono fun _ _ h => h.elim
      have hSF : SRep A w7 d m mb f := hHS.out.no hAX.out hK7
      go_wp2_with fail
      have hDD := HD.out.trans (HDD.out)
      subst hDD
      have hka' : Keep A w wa := hKF.trans hka fun j hj e => by have e2 : j = w.heap.size + 1 + 1 := e; omega
      have hkb' : Keep A w wb := hka'.trans hkb fun j hj e => by have e2 : j = w.heap.size + 1 + 1 + 1 := e; omega
      refine ret_blk_blk rfl rfl rfl (hBa.keep hkb fun e => by have e2 : w.heap.size + 1 + 1 = w.heap.size + 1 + 1 + 1 := e; omega) hBb Tryz.underlying33 rfl (stC_sz hs6) Tryz.underlying46 rfl (by kernel_rfl) rfl ?_
      exact ⟨⟨_, hs6, rfl, fun h => absurd rfl h⟩, hSF.keep hka (fun j hj e => by have := hAX.out j hj; have e2 : j = w.heap.size + 1 + 1 := e; omega) (fun j hj => by have := hAX.out j hj; have := hKF.size; omega) |>.keep hkb (fun j hj e => by have := hAX.out j hj; have e2 : j = w.heap.size + 1 + 1 + 1 := e; omega) (fun j hj => by have := hAX.out j hj; have := hka'.size; omega), hkb'⟩
    · have hcall := cpureckon_any (w := w6) op (s.reg b) (s.reg c) hop (hs.reg b) (hs.reg c) hz
      have hlt := of_lt hop (hs.reg b) (hs.reg c)
      have HDD := Lib.hid (do_rk s m op a b c imm hop hz)
      clear hz
      generalize ofM op (s.reg b) (s.reg c) = X at *
      go_wp2_with fail
      refine hcall.mono ?_
      rintro e w6 ⟨rfl, rfl⟩
      clear hcall
      have HLT := Lib.hid hlt
      clear hlt
      go_wp2_with (with_reducible refine wl_stInt rfl _ _ _ rfl _ _ _ rfl rfl ?_)
      refine rg_stC hS6 (by rw [cellsS_size hs6]; omega) u64_sz ?_
      intro wY hSY hkx hzx
      rw [cellsS_put hs6 ia X] at hSY
      have hKY : Keep No w wY := hKX.trans hkx fun j hj e => by have e2 : j = w.heap.size := e; omega
      have b6Y := b6X.keep hkx fun e => by have e2 : w.heap.size + 1 + 1 = w.heap.size := e; omega
      have b7Y := b7X.keep hkx fun e => by have e2 : w.heap.size + 1 + 1 + 1 = w.heap.size := e; omega
      clear hkx hzx hKX b6X b7X
      have hs7 := hs6.put a (x := X) HLT.out
      clear p0
      have hKF := (hKY.mono (B := A) fun _ _ h => h.elim)
      have hSF := (hHS.out.no hAX.out hKY)
      go_wp2_with (with_reducible refine wl_ld rfl _ 33 rfl _ rfl ?_)
      refine rg_ld hSY Tryz.underlying33 rfl (stC_sz hs7) ?_
      go_wp2_with (with_reducible refine wl_stAgg rfl _ _ _ rfl _ _ rfl rfl ?_)
      refine rg_stAgg b6Y (stC_sz hs7) (by rw [cellsS_size hs7]; rfl) (cellsS_one _) ?_
      intro wa hBa hka hza
      go_wp2_with (with_reducible refine wl_stAgg rfl _ _ _ rfl _ _ rfl rfl ?_)
      refine rg_stAgg (b7Y.keep hka fun e => by have e2 : w.heap.size + 1 + 1 + 1 = w.heap.size + 1 + 1 := e; omega) (by kernel_rfl) (by rfl) (by simp [Value.oneCell']) ?_
      intro wb hBb hkb hzb
      go_wp2_with fail
      have hDD := HD.out.trans (HDD.out)
      subst hDD
      have hka' : Keep A w wa := hKF.trans hka fun j hj e => by have e2 : j = w.heap.size + 1 + 1 := e; omega
      have hkb' : Keep A w wb := hka'.trans hkb fun j hj e => by have e2 : j = w.heap.size + 1 + 1 + 1 := e; omega
      refine ret_blk_blk rfl rfl rfl (hBa.keep hkb fun e => by have e2 : w.heap.size + 1 + 1 = w.heap.size + 1 + 1 + 1 := e; omega) hBb Tryz.underlying33 rfl (stC_sz hs7) Tryz.underlying46 rfl (by kernel_rfl) rfl ?_
      exact ⟨⟨_, hs7, rfl, fun _ => rfl⟩, (hSF.keep hka (fun j hj e => by have := hAX.out j hj; have e2 : j = w.heap.size + 1 + 1 := e; omega) (fun j hj => by have := hAX.out j hj; have := hKF.size; omega)).keep hkb (fun j hj e => by have := hAX.out j hj; have e2 : j = w.heap.size + 1 + 1 + 1 := e; omega) (fun j hj => by have := hAX.out j hj; have := hka'.size; omega), hkb'⟩
  · have hX := add_wrap (s.reg b) (u64 imm)
    go_wp2_with (with_reducible refine wl_stInt rfl _ _ _ rfl _ _ _ rfl rfl ?_)
    refine rg_stC hS6 (by rw [cellsS_size hs6]; omega) u64_sz ?_
    intro wY hSY hkx hzx
    rw [cellsS_put hs6 ia (add (s.reg b) (u64 imm))] at hSY
    have hKY : Keep No w wY := hKX.trans hkx fun j hj e => by have e2 : j = w.heap.size := e; omega
    have b6Y := b6X.keep hkx fun e => by have e2 : w.heap.size + 1 + 1 = w.heap.size := e; omega
    have b7Y := b7X.keep hkx fun e => by have e2 : w.heap.size + 1 + 1 + 1 = w.heap.size := e; omega
    clear hkx hzx hKX b6X b7X
    have hs7 := hs6.put a (x := add (s.reg b) (u64 imm)) (by first | exact add_lt _ _ | exact hul | exact hs.reg _)
    clear hX p0
    have hKF := (hKY.mono (B := A) fun _ _ h => h.elim)
    have hSF := (hHS.out.no hAX.out hKY)
    go_wp2_with (with_reducible refine wl_ld rfl _ 33 rfl _ rfl ?_)
    refine rg_ld hSY Tryz.underlying33 rfl (stC_sz hs7) ?_
    go_wp2_with (with_reducible refine wl_stAgg rfl _ _ _ rfl _ _ rfl rfl ?_)
    refine rg_stAgg b6Y (stC_sz hs7) (by rw [cellsS_size hs7]; rfl) (cellsS_one _) ?_
    intro wa hBa hka hza
    go_wp2_with (with_reducible refine wl_stAgg rfl _ _ _ rfl _ _ rfl rfl ?_)
    refine rg_stAgg (b7Y.keep hka fun e => by have e2 : w.heap.size + 1 + 1 + 1 = w.heap.size + 1 + 1 := e; omega) (by kernel_rfl) (by rfl) (by simp [Value.oneCell']) ?_
    intro wb hBb hkb hzb
    go_wp2_with fail
    have hDD := HD.out.trans (do_16 s m a b c imm)
    subst hDD
    have hka' : Keep A w wa := hKF.trans hka fun j hj e => by have e2 : j = w.heap.size + 1 + 1 := e; omega
    have hkb' : Keep A w wb := hka'.trans hkb fun j hj e => by have e2 : j = w.heap.size + 1 + 1 + 1 := e; omega
    refine ret_blk_blk rfl rfl rfl (hBa.keep hkb fun e => by have e2 : w.heap.size + 1 + 1 = w.heap.size + 1 + 1 + 1 := e; omega) hBb Tryz.underlying33 rfl (stC_sz hs7) Tryz.underlying46 rfl (by kernel_rfl) rfl ?_
    exact ⟨⟨_, hs7, rfl, fun _ => rfl⟩, (hSF.keep hka (fun j hj e => by have := hAX.out j hj; have e2 : j = w.heap.size + 1 + 1 := e; omega) (fun j hj => by have := hAX.out j hj; have := hKF.size; omega)).keep hkb (fun j hj e => by have := hAX.out j hj; have e2 : j = w.heap.size + 1 + 1 + 1 := e; omega) (fun j hj => by have := hAX.out j hj; have := hka'.size; omega), hkb'⟩
  · have hX := True.intro
    go_wp2_with (with_reducible refine wl_stInt rfl _ _ _ rfl _ _ _ rfl rfl ?_)
    refine rg_stC hS6 (by rw [cellsS_size hs6]; omega) u64_sz ?_
    intro wY hSY hkx hzx
    rw [cellsS_put hs6 ia (u64 imm)] at hSY
    have hKY : Keep No w wY := hKX.trans hkx fun j hj e => by have e2 : j = w.heap.size := e; omega
    have b6Y := b6X.keep hkx fun e => by have e2 : w.heap.size + 1 + 1 = w.heap.size := e; omega
    have b7Y := b7X.keep hkx fun e => by have e2 : w.heap.size + 1 + 1 + 1 = w.heap.size := e; omega
    clear hkx hzx hKX b6X b7X
    have hs7 := hs6.put a (x := u64 imm) (by first | exact add_lt _ _ | exact hul | exact hs.reg _)
    clear hX p0
    have hKF := (hKY.mono (B := A) fun _ _ h => h.elim)
    have hSF := (hHS.out.no hAX.out hKY)
    go_wp2_with (with_reducible refine wl_ld rfl _ 33 rfl _ rfl ?_)
    refine rg_ld hSY Tryz.underlying33 rfl (stC_sz hs7) ?_
    go_wp2_with (with_reducible refine wl_stAgg rfl _ _ _ rfl _ _ rfl rfl ?_)
    refine rg_stAgg b6Y (stC_sz hs7) (by rw [cellsS_size hs7]; rfl) (cellsS_one _) ?_
    intro wa hBa hka hza
    go_wp2_with (with_reducible refine wl_stAgg rfl _ _ _ rfl _ _ rfl rfl ?_)
    refine rg_stAgg (b7Y.keep hka fun e => by have e2 : w.heap.size + 1 + 1 + 1 = w.heap.size + 1 + 1 := e; omega) (by kernel_rfl) (by rfl) (by simp [Value.oneCell']) ?_
    intro wb hBb hkb hzb
    go_wp2_with fail
    have hDD := HD.out.trans (do_17 s m a b c imm)
    subst hDD
    have hka' : Keep A w wa := hKF.trans hka fun j hj e => by have e2 : j = w.heap.size + 1 + 1 := e; omega
    have hkb' : Keep A w wb := hka'.trans hkb fun j hj e => by have e2 : j = w.heap.size + 1 + 1 + 1 := e; omega
    refine ret_blk_blk rfl rfl rfl (hBa.keep hkb fun e => by have e2 : w.heap.size + 1 + 1 = w.heap.size + 1 + 1 + 1 := e; omega) hBb Tryz.underlying33 rfl (stC_sz hs7) Tryz.underlying46 rfl (by kernel_rfl) rfl ?_
    exact ⟨⟨_, hs7, rfl, fun _ => rfl⟩, (hSF.keep hka (fun j hj e => by have := hAX.out j hj; have e2 : j = w.heap.size + 1 + 1 := e; omega) (fun j hj => by have := hAX.out j hj; have := hKF.size; omega)).keep hkb (fun j hj e => by have := hAX.out j hj; have e2 : j = w.heap.size + 1 + 1 + 1 := e; omega) (fun j hj => by have := hAX.out j hj; have := hka'.size; omega), hkb'⟩
  · have r1 : w6.cell? ⟨w.heap.size, a, none⟩ = some (.int .u64 (s.reg a : Int)) := (hS6.cell a).trans (cellsS_reg hs6 ia)
    have hra := hs.reg a
    have e1 : bits .and .u64 (s.reg a : Int) 4294967295 = ((s.reg a % 4294967296 : Nat) : Int) := by
      have h := u64_and_nat (s.reg a) 4294967295 hra (by decide)
      rw [nat_mask32] at h
      exact h
    have e2 : IntKind.u64.wrap ((u64 imm : Int) * 4294967296) = ((u64 imm % 4294967296 * 4294967296 : Nat) : Int) := by rw [IntKind.wrap_u64]; omega
    have e3 : bits .or .u64 ((s.reg a % 4294967296 : Nat) : Int) ((u64 imm % 4294967296 * 4294967296 : Nat) : Int) = ((s.reg a % 4294967296 + u64 imm % 4294967296 * 4294967296 : Nat) : Int) := by
      rw [u64_or_nat _ _ (by omega) (by omega), movhi_or]
    have hlt : s.reg a % 4294967296 + u64 imm % 4294967296 * 4294967296 < 18446744073709551616 := by omega
    have HDD := Lib.hid (do_18 s m a b c imm)
    clear hra hul
    generalize s.reg a % 4294967296 + u64 imm % 4294967296 * 4294967296 = X at *
    generalize s.reg a % 4294967296 = X1 at *
    generalize u64 imm % 4294967296 * 4294967296 = X2 at *
    have HLT := Lib.hid hlt
    clear hlt
    go_wp2_with (with_reducible refine wl_stInt rfl _ _ _ rfl _ _ _ rfl rfl ?_)
    refine rg_stC hS6 (by rw [cellsS_size hs6]; omega) u64_sz ?_
    intro wY hSY hkx hzx
    rw [cellsS_put hs6 ia X] at hSY
    have hKY : Keep No w wY := hKX.trans hkx fun j hj e => by have e2 : j = w.heap.size := e; omega
    have b6Y := b6X.keep hkx fun e => by have e2 : w.heap.size + 1 + 1 = w.heap.size := e; omega
    have b7Y := b7X.keep hkx fun e => by have e2 : w.heap.size + 1 + 1 + 1 = w.heap.size := e; omega
    clear hkx hzx hKX b6X b7X
    have hs7 := hs6.put a (x := X) HLT.out
    clear p0 e1 e2 e3 r1
    have hKF := (hKY.mono (B := A) fun _ _ h => h.elim)
    have hSF := (hHS.out.no hAX.out hKY)
    go_wp2_with (with_reducible refine wl_ld rfl _ 33 rfl _ rfl ?_)
    refine rg_ld hSY Tryz.underlying33 rfl (stC_sz hs7) ?_
    go_wp2_with (with_reducible refine wl_stAgg rfl _ _ _ rfl _ _ rfl rfl ?_)
    refine rg_stAgg b6Y (stC_sz hs7) (by rw [cellsS_size hs7]; rfl) (cellsS_one _) ?_
    intro wa hBa hka hza
    go_wp2_with (with_reducible refine wl_stAgg rfl _ _ _ rfl _ _ rfl rfl ?_)
    refine rg_stAgg (b7Y.keep hka fun e => by have e2 : w.heap.size + 1 + 1 + 1 = w.heap.size + 1 + 1 := e; omega) (by kernel_rfl) (by rfl) (by simp [Value.oneCell']) ?_
    intro wb hBb hkb hzb
    go_wp2_with fail
    have hDD := HD.out.trans (HDD.out)
    subst hDD
    have hka' : Keep A w wa := hKF.trans hka fun j hj e => by have e2 : j = w.heap.size + 1 + 1 := e; omega
    have hkb' : Keep A w wb := hka'.trans hkb fun j hj e => by have e2 : j = w.heap.size + 1 + 1 + 1 := e; omega
    refine ret_blk_blk rfl rfl rfl (hBa.keep hkb fun e => by have e2 : w.heap.size + 1 + 1 = w.heap.size + 1 + 1 + 1 := e; omega) hBb Tryz.underlying33 rfl (stC_sz hs7) Tryz.underlying46 rfl (by kernel_rfl) rfl ?_
    exact ⟨⟨_, hs7, rfl, fun _ => rfl⟩, (hSF.keep hka (fun j hj e => by have := hAX.out j hj; have e2 : j = w.heap.size + 1 + 1 := e; omega) (fun j hj => by have := hAX.out j hj; have := hKF.size; omega)).keep hkb (fun j hj e => by have := hAX.out j hj; have e2 : j = w.heap.size + 1 + 1 + 1 := e; omega) (fun j hj => by have := hAX.out j hj; have := hka'.size; omega), hkb'⟩
  · obtain ⟨k, rfl⟩ : ∃ k, op = 20 + k := ⟨op - 20, by omega⟩
    have hk4 : k < 4 := by omega
    have hcall := cpumem_ld (w := w6) (A := A) k a b c w.heap.size imm (s.go (add s.pc 8)) hs6 hk4 ia ib ilo ihi (hHT.out.no hKX) (hHS.out.no hAX.out hKX) (fun j hj => by have := hAX.out j hj; have := hKX.size; omega) (fun h => Nat.lt_irrefl _ (hAX.out _ h)) hS6
    have hdd := do_ld s m (20 + k) a b c imm hop
    rw [Nat.add_sub_cancel_left] at hdd
    change Calls _ _ _ _ (fun e w' => e = .returned (encO3 (if loadE m (add (s.reg b) (u64 imm)) (wid k : Nat) = 0 then ⟨0, 0, 0⟩ else ⟨3, loadE m (add (s.reg b) (u64 imm)) (wid k : Nat), add (s.reg b) (u64 imm)⟩)) ∧ Blk w' w.heap.size (cellsS (if loadE m (add (s.reg b) (u64 imm)) (wid k : Nat) = 0 then (s.go (add s.pc 8)).put a (loadX m (add (s.reg b) (u64 imm)) (wid k : Nat)) else s.go (add s.pc 8))) 33 ∧ Keep (fun j => j = w.heap.size) w6 w') at hcall
    have hlx : loadX m (add (s.reg b) (u64 imm)) (wid k : Nat) < 18446744073709551616 := loadX_lt m _ hk4
    generalize loadX m (add (s.reg b) (u64 imm)) (wid k : Nat) = X at *
    generalize loadE m (add (s.reg b) (u64 imm)) (wid k : Nat) = E at *
    generalize add (s.reg b) (u64 imm) = at_ at *
    have HLX := Lib.hid hlx
    have HDD := Lib.hid hdd
    obtain ⟨op, hopk⟩ : ∃ op, op = 20 + k := ⟨_, rfl⟩
    rw [← hopk] at hop HDD p0 b5X ⊢
    rw [← hopk] at HD
    unfold encI ptrTo at hcall
    rw [← hopk] at hcall
    have n27 : (op : Int) ≤ 27 := by omega
    have n20 : (op : Int) ≥ 20 := by omega
    have n2 : ((op : Int) == 2) = false := by simp; omega
    have n16 : ((op : Int) == 16) = false := by simp; omega
    have n17 : ((op : Int) == 17) = false := by simp; omega
    have n18 : ((op : Int) == 18) = false := by simp; omega
    have n15 : (15 : Int) < (op : Int) := by omega
    have n3 : (op : Int) ≥ 3 := by omega
    have p1 : w6.cell? ⟨w.heap.size + 1, 1, none⟩ = some (.int .i64 (a : Int)) := b5X.cell 1
    have p2 : w6.cell? ⟨w.heap.size + 1, 2, none⟩ = some (.int .i64 (b : Int)) := b5X.cell 2
    have p3 : w6.cell? ⟨w.heap.size + 1, 3, none⟩ = some (.int .i64 (c : Int)) := b5X.cell 3
    have p4 : w6.cell? ⟨w.heap.size + 1, 4, none⟩ = some (.int .i32 imm) := b5X.cell 4
    clear hlx hdd hop hopk hk4
    go_wp2_with fail
    refine hcall.mono ?_
    rintro e wM ⟨rfl, hSM, hkM⟩
    clear hcall p0 p1 p2 p3 p4
    have hkA : Keep A w wM := (hKX.mono fun _ _ h => h.elim).trans hkM fun j hj e => by have e2 : j = w.heap.size := e; omega
    have hSA : SRep A wM d m mb f := hHS.out.same fun j hj => by
      have h1 := hAX.out j hj
      exact (hkM.block j (by have := hKX.size; omega) fun e => by have e2 : j = w.heap.size := e; omega).trans (hKX.block j h1 fun h => h)
    by_cases hE : E = 0
    · subst hE
      rw [if_pos rfl] at hSM HDD ⊢
      have hs7 := hs6.put a (x := X) HLX.out
      unfold encO3
      have b6M := b6X.keep hkM (fun e => absurd (show _ = w.heap.size from e) (by omega))
      have b7M := b7X.keep hkM (fun e => absurd (show _ = w.heap.size from e) (by omega))
      go_wp2_with (with_reducible refine wl_stAgg rfl _ _ _ rfl _ _ rfl rfl ?_)
      have hka0 := (Keep.refl No wM).alloc (.cells #[.int .i64 0, .int .i64 0, .int .u64 0] 46)
      have hza0 : (wM.alloc (.cells #[.int .i64 0, .int .i64 0, .int .u64 0] 46)).heap.size = wM.heap.size + 1 := World.size_alloc _ _
      refine rg_stAgg (Blk.new _ _ _) (by kernel_rfl) (by rfl) (by simp [Value.oneCell']) ?_
      intro wN bN hkN hzN
      have hkMN : Keep No wM wN := hka0.trans hkN fun j hj e => absurd hj (by have e2 : j = wM.heap.size := e; omega)
      have hSN := hSM.keep hkMN fun h => h
      have b6N := b6M.keep hkMN fun h => h
      have b7N := b7M.keep hkMN fun h => h
      have hltM : w.heap.size + 1 + 1 + 1 < wM.heap.size := b7M.lt
      have hkd := (Keep.refl No wN).drew
      have hKF : Keep A w wN.drew := hkA.trans (hkMN.trans' hkd) fun _ _ h => h.elim
      have hSF : SRep A wN.drew d _ mb f := hSA.no (fun j hj => by have := hAX.out j hj; have := hkA.size; omega) (hkMN.trans' hkd)
      clear hka0 hza0 hkN hzN b6M b7M hSM
      go_wp2_with fail
      refine wp_region_sig (fun w' => Blk w' w.heap.size (cellsS ((s.go (add s.pc 8)).put a X)) 33 ∧ Blk w' wM.heap.size #[.int .i64 0, .int .i64 0, .int .u64 0] 46) (fun j => decide (j ≤ 99)) [(0, true), (1, true), (2, false), (3, false)] (by kernel_rfl) (by kernel_rfl) (by intro c a d v w h; cases d <;> exact h) ⟨hSN.keep hkd fun h => h, bN.keep hkd fun h => h⟩ ?_
      apply sig_still (o := ⟨some 107, _, _, _, _, _⟩) rfl rfl
      · intro w' hS
        exact run_ldoC _ _ rfl w.heap.size 0 rfl (run_loadVar_row w' w.heap.size 33 33 _ _ _ hS.1 Tryz.underlying33 rfl (stC_sz hs7))
      go_frame
      apply sig_still (o := ⟨some 108, _, _, _, _, _⟩) rfl rfl
      · intro w' hS
        exact run_ldoC _ _ rfl wM.heap.size 0 rfl (run_loadVar_row w' wM.heap.size 46 46 _ _ _ hS.2 Tryz.underlying46 rfl (by kernel_rfl))
      go_frame
      refine sig_eff (o := ⟨none, _, _, _, _, _⟩) rfl rfl (fun K hKe => ?_)
      refine wo_stAgg (.tmp 6) (.tmp 107) 33 rfl _ _ rfl rfl ?_
      refine rg_stAgg (b6N.keep hkd fun h => h) (stC_sz hs7) (by rw [cellsS_size hs7]; rfl) (cellsS_one _) ?_
      intro wa hBa hka hza
      have hSa := (hSN.keep hkd fun h => h).keep hka fun e => by have e2 : w.heap.size = w.heap.size + 1 + 1 := e; omega
      have bNa := (bN.keep hkd fun h => h).keep hka fun e => by have e2 : wM.heap.size = w.heap.size + 1 + 1 := e; omega
      refine hKe _ _ ⟨fun _ => ⟨hSa, bNa⟩, ?_⟩
      refine sig_eff (o := ⟨none, _, _, _, _, _⟩) rfl rfl (fun K hKe => ?_)
      refine wo_stAgg (.tmp 7) (.tmp 108) 46 rfl _ _ rfl rfl ?_
      refine rg_stAgg ((b7N.keep hkd fun h => h).keep hka fun e => by have e2 : w.heap.size + 1 + 1 + 1 = w.heap.size + 1 + 1 := e; omega) (by kernel_rfl) (by rfl) (by simp [Value.oneCell']) ?_
      intro wb hBb hkb hzb
      refine hKe _ _ ⟨fun _ => ⟨hSa.keep hkb fun e => by have e2 : w.heap.size = w.heap.size + 1 + 1 + 1 := e; omega, bNa.keep hkb fun e => by have e2 : wM.heap.size = w.heap.size + 1 + 1 + 1 := e; omega⟩, sig_nil ?_⟩
      go_wp2_with fail
      have hDD := HD.out.trans (HDD.out)
      subst hDD
      have hka' : Keep A w wa := hKF.trans hka fun j hj e => by have e2 : j = w.heap.size + 1 + 1 := e; omega
      have hkb' : Keep A w wb := hka'.trans hkb fun j hj e => by have e2 : j = w.heap.size + 1 + 1 + 1 := e; omega
      refine ret_blk_blk rfl rfl rfl (hBa.keep hkb fun e => by have e2 : w.heap.size + 1 + 1 = w.heap.size + 1 + 1 + 1 := e; omega) hBb Tryz.underlying33 rfl (stC_sz hs7) Tryz.underlying46 rfl (by kernel_rfl) rfl ?_
      refine ⟨⟨_, hs7, rfl, fun _ => rfl⟩, hSF.keep hka ?_ ?_ |>.keep hkb ?_ ?_, hkb'⟩
      · exact fun j hj e => by have := hAX.out j hj; have e2 : j = w.heap.size + 1 + 1 := e; omega
      · exact fun j hj => by have := hAX.out j hj; have := hKF.size; omega
      · exact fun j hj e => by have := hAX.out j hj; have e2 : j = w.heap.size + 1 + 1 + 1 := e; omega
      · exact fun j hj => by have := hAX.out j hj; have := hka'.size; omega
    · rw [if_neg hE] at hSM HDD ⊢
      unfold encO3
      have b6M := b6X.keep hkM (fun e => absurd (show _ = w.heap.size from e) (by omega))
      have b7M := b7X.keep hkM (fun e => absurd (show _ = w.heap.size from e) (by omega))
      go_wp2_with (with_reducible refine wl_stAgg rfl _ _ _ rfl _ _ rfl rfl ?_)
      have hka0 := (Keep.refl No wM).alloc (.cells #[.int .i64 0, .int .i64 0, .int .u64 0] 46)
      have hza0 : (wM.alloc (.cells #[.int .i64 0, .int .i64 0, .int .u64 0] 46)).heap.size = wM.heap.size + 1 := World.size_alloc _ _
      refine rg_stAgg (Blk.new _ _ _) (by kernel_rfl) (by rfl) (by simp [Value.oneCell']) ?_
      intro wN bN hkN hzN
      have hkMN : Keep No wM wN := hka0.trans hkN fun j hj e => absurd hj (by have e2 : j = wM.heap.size := e; omega)
      have hSN := hSM.keep hkMN fun h => h
      have b6N := b6M.keep hkMN fun h => h
      have b7N := b7M.keep hkMN fun h => h
      have hltM : w.heap.size + 1 + 1 + 1 < wM.heap.size := b7M.lt
      have hkd := (Keep.refl No wN).drew
      have hKF : Keep A w wN.drew := hkA.trans (hkMN.trans' hkd) fun _ _ h => h.elim
      have hSF : SRep A wN.drew d _ mb f := hSA.no (fun j hj => by have := hAX.out j hj; have := hkA.size; omega) (hkMN.trans' hkd)
      clear hka0 hza0 hkN hzN b6M b7M hSM
      go_wp2_with fail
      refine wp_region_sig (fun w' => Blk w' w.heap.size (cellsS (s.go (add s.pc 8))) 33 ∧ Blk w' wM.heap.size #[.int .i64 ((3 : Nat) : Int), .int .i64 (E : Int), .int .u64 (at_ : Int)] 46) (fun j => decide (j ≤ 99)) [(0, true), (1, true), (2, false), (3, false)] (by kernel_rfl) (by kernel_rfl) (by intro c a d v w h; cases d <;> exact h) ⟨hSN.keep hkd fun h => h, bN.keep hkd fun h => h⟩ ?_
      apply sig_still (o := ⟨some 107, _, _, _, _, _⟩) rfl rfl
      · intro w' hS
        exact run_ldoC _ _ rfl w.heap.size 0 rfl (run_loadVar_row w' w.heap.size 33 33 _ _ _ hS.1 Tryz.underlying33 rfl (stC_sz hs6))
      go_frame
      apply sig_still (o := ⟨some 108, _, _, _, _, _⟩) rfl rfl
      · intro w' hS
        exact run_ldoC _ _ rfl wM.heap.size 0 rfl (run_loadVar_row w' wM.heap.size 46 46 _ _ _ hS.2 Tryz.underlying46 rfl (by kernel_rfl))
      go_frame
      refine sig_eff (o := ⟨none, _, _, _, _, _⟩) rfl rfl (fun K hKe => ?_)
      refine wo_stAgg (.tmp 6) (.tmp 107) 33 rfl _ _ rfl rfl ?_
      refine rg_stAgg (b6N.keep hkd fun h => h) (stC_sz hs6) (by rw [cellsS_size hs6]; rfl) (cellsS_one _) ?_
      intro wa hBa hka hza
      have hSa := (hSN.keep hkd fun h => h).keep hka fun e => by have e2 : w.heap.size = w.heap.size + 1 + 1 := e; omega
      have bNa := (bN.keep hkd fun h => h).keep hka fun e => by have e2 : wM.heap.size = w.heap.size + 1 + 1 := e; omega
      refine hKe _ _ ⟨fun _ => ⟨hSa, bNa⟩, ?_⟩
      refine sig_eff (o := ⟨none, _, _, _, _, _⟩) rfl rfl (fun K hKe => ?_)
      refine wo_stAgg (.tmp 7) (.tmp 108) 46 rfl _ _ rfl rfl ?_
      refine rg_stAgg ((b7N.keep hkd fun h => h).keep hka fun e => by have e2 : w.heap.size + 1 + 1 + 1 = w.heap.size + 1 + 1 := e; omega) (by kernel_rfl) (by rfl) (by simp [Value.oneCell']) ?_
      intro wb hBb hkb hzb
      refine hKe _ _ ⟨fun _ => ⟨hSa.keep hkb fun e => by have e2 : w.heap.size = w.heap.size + 1 + 1 + 1 := e; omega, bNa.keep hkb fun e => by have e2 : wM.heap.size = w.heap.size + 1 + 1 + 1 := e; omega⟩, sig_nil ?_⟩
      go_wp2_with fail
      have hDD := HD.out.trans (HDD.out)
      subst hDD
      have hka' : Keep A w wa := hKF.trans hka fun j hj e => by have e2 : j = w.heap.size + 1 + 1 := e; omega
      have hkb' : Keep A w wb := hka'.trans hkb fun j hj e => by have e2 : j = w.heap.size + 1 + 1 + 1 := e; omega
      refine ret_blk_blk rfl rfl rfl (hBa.keep hkb fun e => by have e2 : w.heap.size + 1 + 1 = w.heap.size + 1 + 1 + 1 := e; omega) hBb Tryz.underlying33 rfl (stC_sz hs6) Tryz.underlying46 rfl (by kernel_rfl) rfl ?_
      refine ⟨⟨_, hs6, rfl, fun h => absurd rfl h⟩, hSF.keep hka ?_ ?_ |>.keep hkb ?_ ?_, hkb'⟩
      · exact fun j hj e => by have := hAX.out j hj; have e2 : j = w.heap.size + 1 + 1 := e; omega
      · exact fun j hj => by have := hAX.out j hj; have := hKF.size; omega
      · exact fun j hj e => by have := hAX.out j hj; have e2 : j = w.heap.size + 1 + 1 + 1 := e; omega
      · exact fun j hj => by have := hAX.out j hj; have := hka'.size; omega
  · obtain ⟨k, rfl⟩ : ∃ k, op = 24 + k := ⟨op - 24, by omega⟩
    have hk4 : k < 4 := by omega
    have hcall := cpumem_st (w := w6) (A := A) k a b c w.heap.size imm (s.go (add s.pc 8)) hs6 hk4 ia ib ilo ihi (hHT.out.no hKX) (hHS.out.no hAX.out hKX) (fun j hj => by have := hAX.out j hj; have := hKX.size; omega) (fun h => Nat.lt_irrefl _ (hAX.out _ h)) hS6
    have hdd := do_st s m (24 + k) a b c imm hop
    rw [Nat.add_sub_cancel_left] at hdd
    change Calls _ _ _ _ (fun e w' => e = .returned (encO3 (if numE m (add (s.reg b) (u64 imm)) (wid k : Nat) 2 = 0 then ⟨0, 0, 0⟩ else ⟨3, numE m (add (s.reg b) (u64 imm)) (wid k : Nat) 2, add (s.reg b) (u64 imm)⟩)) ∧ SRep A w' d (storeV m (add (s.reg b) (u64 imm)) (wid k : Nat) (s.reg a)) mb f ∧ Keep A w6 w') at hcall
    have hne : numE m (add (s.reg b) (u64 imm)) (wid k : Nat) 2 ≠ 0 → storeV m (add (s.reg b) (u64 imm)) (wid k : Nat) (s.reg a) = m := fun h => by unfold storeV; rw [if_neg h]
    generalize storeV m (add (s.reg b) (u64 imm)) (wid k : Nat) (s.reg a) = M at *
    generalize numE m (add (s.reg b) (u64 imm)) (wid k : Nat) 2 = E at *
    generalize add (s.reg b) (u64 imm) = at_ at *
    have HNE := Lib.hid hne
    have HDD := Lib.hid hdd
    obtain ⟨op, hopk⟩ : ∃ op, op = 24 + k := ⟨_, rfl⟩
    rw [← hopk] at hop HDD p0 b5X ⊢
    rw [← hopk] at HD
    unfold encI ptrTo at hcall
    rw [← hopk] at hcall
    have n27 : (op : Int) ≤ 27 := by omega
    have n20 : (op : Int) ≥ 20 := by omega
    have n2 : ((op : Int) == 2) = false := by simp; omega
    have n16 : ((op : Int) == 16) = false := by simp; omega
    have n17 : ((op : Int) == 17) = false := by simp; omega
    have n18 : ((op : Int) == 18) = false := by simp; omega
    have n15 : (15 : Int) < (op : Int) := by omega
    have n3 : (op : Int) ≥ 3 := by omega
    have p1 : w6.cell? ⟨w.heap.size + 1, 1, none⟩ = some (.int .i64 (a : Int)) := b5X.cell 1
    have p2 : w6.cell? ⟨w.heap.size + 1, 2, none⟩ = some (.int .i64 (b : Int)) := b5X.cell 2
    have p3 : w6.cell? ⟨w.heap.size + 1, 3, none⟩ = some (.int .i64 (c : Int)) := b5X.cell 3
    have p4 : w6.cell? ⟨w.heap.size + 1, 4, none⟩ = some (.int .i32 imm) := b5X.cell 4
    clear hne hdd hop hopk hk4
    go_wp2_with fail
    refine hcall.mono ?_
    rintro e wM ⟨rfl, hSA, hkM⟩
    clear hcall p0 p1 p2 p3 p4
    have hkA : Keep A w wM := (hKX.mono fun _ _ h => h.elim).trans' hkM
    have hSM := hS6.keep hkM fun h => Nat.lt_irrefl _ (hAX.out _ h)
    by_cases hE : E = 0
    · subst hE
      rw [if_pos rfl] at HDD ⊢
      unfold encO3
      have b6M := b6X.keep hkM (fun h => by have := hAX.out _ h; omega)
      have b7M := b7X.keep hkM (fun h => by have := hAX.out _ h; omega)
      go_wp2_with (with_reducible refine wl_stAgg rfl _ _ _ rfl _ _ rfl rfl ?_)
      have hka0 := (Keep.refl No wM).alloc (.cells #[.int .i64 0, .int .i64 0, .int .u64 0] 46)
      have hza0 : (wM.alloc (.cells #[.int .i64 0, .int .i64 0, .int .u64 0] 46)).heap.size = wM.heap.size + 1 := World.size_alloc _ _
      refine rg_stAgg (Blk.new _ _ _) (by kernel_rfl) (by rfl) (by simp [Value.oneCell']) ?_
      intro wN bN hkN hzN
      have hkMN : Keep No wM wN := hka0.trans hkN fun j hj e => absurd hj (by have e2 : j = wM.heap.size := e; omega)
      have hSN := hSM.keep hkMN fun h => h
      have b6N := b6M.keep hkMN fun h => h
      have b7N := b7M.keep hkMN fun h => h
      have hltM : w.heap.size + 1 + 1 + 1 < wM.heap.size := b7M.lt
      have hkd := (Keep.refl No wN).drew
      have hKF : Keep A w wN.drew := hkA.trans (hkMN.trans' hkd) fun _ _ h => h.elim
      have hSF : SRep A wN.drew d _ mb f := hSA.no (fun j hj => by have := hAX.out j hj; have := hkA.size; omega) (hkMN.trans' hkd)
      clear hka0 hza0 hkN hzN b6M b7M hSM
      go_wp2_with fail
      refine wp_region_sig (fun w' => Blk w' w.heap.size (cellsS (s.go (add s.pc 8))) 33 ∧ Blk w' wM.heap.size #[.int .i64 0, .int .i64 0, .int .u64 0] 46) (fun j => decide (j ≤ 99)) [(0, true), (1, true), (2, false), (3, false)] (by kernel_rfl) (by kernel_rfl) (by intro c a d v w h; cases d <;> exact h) ⟨hSN.keep hkd fun h => h, bN.keep hkd fun h => h⟩ ?_
      apply sig_still (o := ⟨some 107, _, _, _, _, _⟩) rfl rfl
      · intro w' hS
        exact run_ldoC _ _ rfl w.heap.size 0 rfl (run_loadVar_row w' w.heap.size 33 33 _ _ _ hS.1 Tryz.underlying33 rfl (stC_sz hs6))
      go_frame
      apply sig_still (o := ⟨some 108, _, _, _, _, _⟩) rfl rfl
      · intro w' hS
        exact run_ldoC _ _ rfl wM.heap.size 0 rfl (run_loadVar_row w' wM.heap.size 46 46 _ _ _ hS.2 Tryz.underlying46 rfl (by kernel_rfl))
      go_frame
      refine sig_eff (o := ⟨none, _, _, _, _, _⟩) rfl rfl (fun K hKe => ?_)
      refine wo_stAgg (.tmp 6) (.tmp 107) 33 rfl _ _ rfl rfl ?_
      refine rg_stAgg (b6N.keep hkd fun h => h) (stC_sz hs6) (by rw [cellsS_size hs6]; rfl) (cellsS_one _) ?_
      intro wa hBa hka hza
      have hSa := (hSN.keep hkd fun h => h).keep hka fun e => by have e2 : w.heap.size = w.heap.size + 1 + 1 := e; omega
      have bNa := (bN.keep hkd fun h => h).keep hka fun e => by have e2 : wM.heap.size = w.heap.size + 1 + 1 := e; omega
      refine hKe _ _ ⟨fun _ => ⟨hSa, bNa⟩, ?_⟩
      refine sig_eff (o := ⟨none, _, _, _, _, _⟩) rfl rfl (fun K hKe => ?_)
      refine wo_stAgg (.tmp 7) (.tmp 108) 46 rfl _ _ rfl rfl ?_
      refine rg_stAgg ((b7N.keep hkd fun h => h).keep hka fun e => by have e2 : w.heap.size + 1 + 1 + 1 = w.heap.size + 1 + 1 := e; omega) (by kernel_rfl) (by rfl) (by simp [Value.oneCell']) ?_
      intro wb hBb hkb hzb
      refine hKe _ _ ⟨fun _ => ⟨hSa.keep hkb fun e => by have e2 : w.heap.size = w.heap.size + 1 + 1 + 1 := e; omega, bNa.keep hkb fun e => by have e2 : wM.heap.size = w.heap.size + 1 + 1 + 1 := e; omega⟩, sig_nil ?_⟩
      go_wp2_with fail
      have hDD := HD.out.trans (HDD.out)
      subst hDD
      have hka' : Keep A w wa := hKF.trans hka fun j hj e => by have e2 : j = w.heap.size + 1 + 1 := e; omega
      have hkb' : Keep A w wb := hka'.trans hkb fun j hj e => by have e2 : j = w.heap.size + 1 + 1 + 1 := e; omega
      refine ret_blk_blk rfl rfl rfl (hBa.keep hkb fun e => by have e2 : w.heap.size + 1 + 1 = w.heap.size + 1 + 1 + 1 := e; omega) hBb Tryz.underlying33 rfl (stC_sz hs6) Tryz.underlying46 rfl (by kernel_rfl) rfl ?_
      refine ⟨⟨_, hs6, rfl, fun _ => rfl⟩, hSF.keep hka ?_ ?_ |>.keep hkb ?_ ?_, hkb'⟩
      · exact fun j hj e => by have := hAX.out j hj; have e2 : j = w.heap.size + 1 + 1 := e; omega
      · exact fun j hj => by have := hAX.out j hj; have := hKF.size; omega
      · exact fun j hj e => by have := hAX.out j hj; have e2 : j = w.heap.size + 1 + 1 + 1 := e; omega
      · exact fun j hj => by have := hAX.out j hj; have := hka'.size; omega
    · have hM := HNE.out hE
      subst hM
      rw [if_neg hE] at HDD ⊢
      unfold encO3
      have b6M := b6X.keep hkM (fun h => by have := hAX.out _ h; omega)
      have b7M := b7X.keep hkM (fun h => by have := hAX.out _ h; omega)
      go_wp2_with (with_reducible refine wl_stAgg rfl _ _ _ rfl _ _ rfl rfl ?_)
      have hka0 := (Keep.refl No wM).alloc (.cells #[.int .i64 0, .int .i64 0, .int .u64 0] 46)
      have hza0 : (wM.alloc (.cells #[.int .i64 0, .int .i64 0, .int .u64 0] 46)).heap.size = wM.heap.size + 1 := World.size_alloc _ _
      refine rg_stAgg (Blk.new _ _ _) (by kernel_rfl) (by rfl) (by simp [Value.oneCell']) ?_
      intro wN bN hkN hzN
      have hkMN : Keep No wM wN := hka0.trans hkN fun j hj e => absurd hj (by have e2 : j = wM.heap.size := e; omega)
      have hSN := hSM.keep hkMN fun h => h
      have b6N := b6M.keep hkMN fun h => h
      have b7N := b7M.keep hkMN fun h => h
      have hltM : w.heap.size + 1 + 1 + 1 < wM.heap.size := b7M.lt
      have hkd := (Keep.refl No wN).drew
      have hKF : Keep A w wN.drew := hkA.trans (hkMN.trans' hkd) fun _ _ h => h.elim
      have hSF : SRep A wN.drew d _ mb f := hSA.no (fun j hj => by have := hAX.out j hj; have := hkA.size; omega) (hkMN.trans' hkd)
      clear hka0 hza0 hkN hzN b6M b7M hSM
      go_wp2_with fail
      refine wp_region_sig (fun w' => Blk w' w.heap.size (cellsS (s.go (add s.pc 8))) 33 ∧ Blk w' wM.heap.size #[.int .i64 ((3 : Nat) : Int), .int .i64 (E : Int), .int .u64 (at_ : Int)] 46) (fun j => decide (j ≤ 99)) [(0, true), (1, true), (2, false), (3, false)] (by kernel_rfl) (by kernel_rfl) (by intro c a d v w h; cases d <;> exact h) ⟨hSN.keep hkd fun h => h, bN.keep hkd fun h => h⟩ ?_
      apply sig_still (o := ⟨some 107, _, _, _, _, _⟩) rfl rfl
      · intro w' hS
        exact run_ldoC _ _ rfl w.heap.size 0 rfl (run_loadVar_row w' w.heap.size 33 33 _ _ _ hS.1 Tryz.underlying33 rfl (stC_sz hs6))
      go_frame
      apply sig_still (o := ⟨some 108, _, _, _, _, _⟩) rfl rfl
      · intro w' hS
        exact run_ldoC _ _ rfl wM.heap.size 0 rfl (run_loadVar_row w' wM.heap.size 46 46 _ _ _ hS.2 Tryz.underlying46 rfl (by kernel_rfl))
      go_frame
      refine sig_eff (o := ⟨none, _, _, _, _, _⟩) rfl rfl (fun K hKe => ?_)
      refine wo_stAgg (.tmp 6) (.tmp 107) 33 rfl _ _ rfl rfl ?_
      refine rg_stAgg (b6N.keep hkd fun h => h) (stC_sz hs6) (by rw [cellsS_size hs6]; rfl) (cellsS_one _) ?_
      intro wa hBa hka hza
      have hSa := (hSN.keep hkd fun h => h).keep hka fun e => by have e2 : w.heap.size = w.heap.size + 1 + 1 := e; omega
      have bNa := (bN.keep hkd fun h => h).keep hka fun e => by have e2 : wM.heap.size = w.heap.size + 1 + 1 := e; omega
      refine hKe _ _ ⟨fun _ => ⟨hSa, bNa⟩, ?_⟩
      refine sig_eff (o := ⟨none, _, _, _, _, _⟩) rfl rfl (fun K hKe => ?_)
      refine wo_stAgg (.tmp 7) (.tmp 108) 46 rfl _ _ rfl rfl ?_
      refine rg_stAgg ((b7N.keep hkd fun h => h).keep hka fun e => by have e2 : w.heap.size + 1 + 1 + 1 = w.heap.size + 1 + 1 := e; omega) (by kernel_rfl) (by rfl) (by simp [Value.oneCell']) ?_
      intro wb hBb hkb hzb
      refine hKe _ _ ⟨fun _ => ⟨hSa.keep hkb fun e => by have e2 : w.heap.size = w.heap.size + 1 + 1 + 1 := e; omega, bNa.keep hkb fun e => by have e2 : wM.heap.size = w.heap.size + 1 + 1 + 1 := e; omega⟩, sig_nil ?_⟩
      go_wp2_with fail
      have hDD := HD.out.trans (HDD.out)
      subst hDD
      have hka' : Keep A w wa := hKF.trans hka fun j hj e => by have e2 : j = w.heap.size + 1 + 1 := e; omega
      have hkb' : Keep A w wb := hka'.trans hkb fun j hj e => by have e2 : j = w.heap.size + 1 + 1 + 1 := e; omega
      refine ret_blk_blk rfl rfl rfl (hBa.keep hkb fun e => by have e2 : w.heap.size + 1 + 1 = w.heap.size + 1 + 1 + 1 := e; omega) hBb Tryz.underlying33 rfl (stC_sz hs6) Tryz.underlying46 rfl (by kernel_rfl) rfl ?_
      refine ⟨⟨_, hs6, rfl, fun h => absurd rfl h⟩, hSF.keep hka ?_ ?_ |>.keep hkb ?_ ?_, hkb'⟩
      · exact fun j hj e => by have := hAX.out j hj; have e2 : j = w.heap.size + 1 + 1 := e; omega
      · exact fun j hj => by have := hAX.out j hj; have := hKF.size; omega
      · exact fun j hj e => by have := hAX.out j hj; have e2 : j = w.heap.size + 1 + 1 + 1 := e; omega
      · exact fun j hj => by have := hAX.out j hj; have := hka'.size; omega
  · skip
    have n2 : ((op : Int) == 2) = false := by simp; omega
    have n16 : ((op : Int) == 16) = false := by simp; omega
    have n17 : ((op : Int) == 17) = false := by simp; omega
    have n18 : ((op : Int) == 18) = false := by simp; omega
    have n15 : (15 : Int) < (op : Int) := by omega
    have n3 : (op : Int) ≥ 3 := by omega
    have n27 : (27 : Int) < (op : Int) := by omega
    have n20 : (op : Int) ≥ 20 := by omega
    have n30 : (op : Int) ≥ 30 := by omega
    have n33 : (op : Int) ≤ 33 := by omega
    have r1 : w6.cell? ⟨w.heap.size, a, none⟩ = some (.int .u64 (s.reg a : Int)) := (hS6.cell a).trans (cellsS_reg hs6 ia)
    have hcall := cpujmp_any (w := w6) op (s.reg a) (s.reg b) hop (hs.reg a) (hs.reg b)
    have HDD := Lib.hid (do_jp s m op a b c imm hop)
    generalize jumpsM op (s.reg a) (s.reg b) = jb at *
    have hX := add_wrap s.pc (u64 imm)
    go_wp2_with fail
    refine hcall.mono ?_
    rintro e w6 ⟨rfl, rfl⟩
    clear hcall r1
    cases jb with
    | true =>
      go_wp2_with (with_reducible refine wl_stInt rfl _ _ _ rfl _ _ _ rfl rfl ?_)
      refine rg_stC hS6 (by rw [cellsS_size hs6]; omega) u64_sz ?_
      intro wY hSY hkx hzx
      rw [cellsS_go hs6 (add s.pc (u64 imm))] at hSY
      have hKY : Keep No w wY := hKX.trans hkx fun j hj e => by have e2 : j = w.heap.size := e; omega
      have b6Y := b6X.keep hkx fun e => by have e2 : w.heap.size + 1 + 1 = w.heap.size := e; omega
      have b7Y := b7X.keep hkx fun e => by have e2 : w.heap.size + 1 + 1 + 1 = w.heap.size := e; omega
      clear hkx hzx hKX b6X b7X
      have hs7 := hs6.go (p := add s.pc (u64 imm)) (add_lt _ _)
      clear hX p0
      have hKF := (hKY.mono (B := A) fun _ _ h => h.elim)
      have hSF := (hHS.out.no hAX.out hKY)
      go_wp2_with (with_reducible refine wl_ld rfl _ 33 rfl _ rfl ?_)
      refine rg_ld hSY Tryz.underlying33 rfl (stC_sz hs7) ?_
      go_wp2_with (with_reducible refine wl_stAgg rfl _ _ _ rfl _ _ rfl rfl ?_)
      refine rg_stAgg b6Y (stC_sz hs7) (by rw [cellsS_size hs7]; rfl) (cellsS_one _) ?_
      intro wa hBa hka hza
      go_wp2_with (with_reducible refine wl_stAgg rfl _ _ _ rfl _ _ rfl rfl ?_)
      refine rg_stAgg (b7Y.keep hka fun e => by have e2 : w.heap.size + 1 + 1 + 1 = w.heap.size + 1 + 1 := e; omega) (by kernel_rfl) (by rfl) (by simp [Value.oneCell']) ?_
      intro wb hBb hkb hzb
      go_wp2_with fail
      have hDD := HD.out.trans (HDD.out)
      subst hDD
      have hka' : Keep A w wa := hKF.trans hka fun j hj e => by have e2 : j = w.heap.size + 1 + 1 := e; omega
      have hkb' : Keep A w wb := hka'.trans hkb fun j hj e => by have e2 : j = w.heap.size + 1 + 1 + 1 := e; omega
      refine ret_blk_blk rfl rfl rfl (hBa.keep hkb fun e => by have e2 : w.heap.size + 1 + 1 = w.heap.size + 1 + 1 + 1 := e; omega) hBb Tryz.underlying33 rfl (stC_sz hs7) Tryz.underlying46 rfl (by kernel_rfl) rfl ?_
      exact ⟨⟨_, hs7, rfl, fun _ => rfl⟩, (hSF.keep hka (fun j hj e => by have := hAX.out j hj; have e2 : j = w.heap.size + 1 + 1 := e; omega) (fun j hj => by have := hAX.out j hj; have := hKF.size; omega)).keep hkb (fun j hj e => by have := hAX.out j hj; have e2 : j = w.heap.size + 1 + 1 + 1 := e; omega) (fun j hj => by have := hAX.out j hj; have := hka'.size; omega), hkb'⟩
    | false =>
      clear hX p0
      have hKF := (hKX.mono (B := A) fun _ _ h => h.elim)
      have hSF := (hHS.out.no hAX.out hKX)
      go_wp2_with (with_reducible refine wl_ld rfl _ 33 rfl _ rfl ?_)
      refine rg_ld hS6 Tryz.underlying33 rfl (stC_sz hs6) ?_
      go_wp2_with (with_reducible refine wl_stAgg rfl _ _ _ rfl _ _ rfl rfl ?_)
      refine rg_stAgg b6X (stC_sz hs6) (by rw [cellsS_size hs6]; rfl) (cellsS_one _) ?_
      intro wa hBa hka hza
      go_wp2_with (with_reducible refine wl_stAgg rfl _ _ _ rfl _ _ rfl rfl ?_)
      refine rg_stAgg (b7X.keep hka fun e => by have e2 : w.heap.size + 1 + 1 + 1 = w.heap.size + 1 + 1 := e; omega) (by kernel_rfl) (by rfl) (by simp [Value.oneCell']) ?_
      intro wb hBb hkb hzb
      go_wp2_with fail
      have hDD := HD.out.trans (HDD.out)
      subst hDD
      have hka' : Keep A w wa := hKF.trans hka fun j hj e => by have e2 : j = w.heap.size + 1 + 1 := e; omega
      have hkb' : Keep A w wb := hka'.trans hkb fun j hj e => by have e2 : j = w.heap.size + 1 + 1 + 1 := e; omega
      refine ret_blk_blk rfl rfl rfl (hBa.keep hkb fun e => by have e2 : w.heap.size + 1 + 1 = w.heap.size + 1 + 1 + 1 := e; omega) hBb Tryz.underlying33 rfl (stC_sz hs6) Tryz.underlying46 rfl (by kernel_rfl) rfl ?_
      exact ⟨⟨_, hs6, rfl, fun _ => rfl⟩, (hSF.keep hka (fun j hj e => by have := hAX.out j hj; have e2 : j = w.heap.size + 1 + 1 := e; omega) (fun j hj => by have := hAX.out j hj; have := hKF.size; omega)).keep hkb (fun j hj e => by have := hAX.out j hj; have e2 : j = w.heap.size + 1 + 1 + 1 := e; omega) (fun j hj => by have := hAX.out j hj; have := hka'.size; omega), hkb'⟩
  · have hX := add_wrap s.pc (u64 imm)
    go_wp2_with (with_reducible refine wl_stInt rfl _ _ _ rfl _ _ _ rfl rfl ?_)
    refine rg_stC hS6 (by rw [cellsS_size hs6]; omega) u64_sz ?_
    intro wY hSY hkx hzx
    rw [cellsS_go hs6 (add s.pc (u64 imm))] at hSY
    have hKY : Keep No w wY := hKX.trans hkx fun j hj e => by have e2 : j = w.heap.size := e; omega
    have b6Y := b6X.keep hkx fun e => by have e2 : w.heap.size + 1 + 1 = w.heap.size := e; omega
    have b7Y := b7X.keep hkx fun e => by have e2 : w.heap.size + 1 + 1 + 1 = w.heap.size := e; omega
    clear hkx hzx hKX b6X b7X
    have hs7 := hs6.go (p := add s.pc (u64 imm)) (by first | exact add_lt _ _ | exact hs.reg _)
    clear hX p0
    have hKF := (hKY.mono (B := A) fun _ _ h => h.elim)
    have hSF := (hHS.out.no hAX.out hKY)
    go_wp2_with (with_reducible refine wl_ld rfl _ 33 rfl _ rfl ?_)
    refine rg_ld hSY Tryz.underlying33 rfl (stC_sz hs7) ?_
    go_wp2_with (with_reducible refine wl_stAgg rfl _ _ _ rfl _ _ rfl rfl ?_)
    refine rg_stAgg b6Y (stC_sz hs7) (by rw [cellsS_size hs7]; rfl) (cellsS_one _) ?_
    intro wa hBa hka hza
    go_wp2_with (with_reducible refine wl_stAgg rfl _ _ _ rfl _ _ rfl rfl ?_)
    refine rg_stAgg (b7Y.keep hka fun e => by have e2 : w.heap.size + 1 + 1 + 1 = w.heap.size + 1 + 1 := e; omega) (by kernel_rfl) (by rfl) (by simp [Value.oneCell']) ?_
    intro wb hBb hkb hzb
    go_wp2_with fail
    have hDD := HD.out.trans (do_34 s m a b c imm)
    subst hDD
    have hka' : Keep A w wa := hKF.trans hka fun j hj e => by have e2 : j = w.heap.size + 1 + 1 := e; omega
    have hkb' : Keep A w wb := hka'.trans hkb fun j hj e => by have e2 : j = w.heap.size + 1 + 1 + 1 := e; omega
    refine ret_blk_blk rfl rfl rfl (hBa.keep hkb fun e => by have e2 : w.heap.size + 1 + 1 = w.heap.size + 1 + 1 + 1 := e; omega) hBb Tryz.underlying33 rfl (stC_sz hs7) Tryz.underlying46 rfl (by kernel_rfl) rfl ?_
    exact ⟨⟨_, hs7, rfl, fun _ => rfl⟩, (hSF.keep hka (fun j hj e => by have := hAX.out j hj; have e2 : j = w.heap.size + 1 + 1 := e; omega) (fun j hj => by have := hAX.out j hj; have := hKF.size; omega)).keep hkb (fun j hj e => by have := hAX.out j hj; have e2 : j = w.heap.size + 1 + 1 + 1 := e; omega) (fun j hj => by have := hAX.out j hj; have := hka'.size; omega), hkb'⟩
  · have hX := add_wrap s.pc (u64 imm)
    go_wp2_with (with_reducible refine wl_stInt rfl _ _ _ rfl _ _ _ rfl rfl ?_)
    refine rg_stC hS6 (by rw [cellsS_size hs6]; omega) u64_sz ?_
    intro wY hSY hkx hzx
    rw [cellsS_put hs6 ia (add s.pc 8)] at hSY
    have hKY : Keep No w wY := hKX.trans hkx fun j hj e => by have e2 : j = w.heap.size := e; omega
    have b6Y := b6X.keep hkx fun e => by have e2 : w.heap.size + 1 + 1 = w.heap.size := e; omega
    have b7Y := b7X.keep hkx fun e => by have e2 : w.heap.size + 1 + 1 + 1 = w.heap.size := e; omega
    clear hkx hzx hKX b6X b7X
    have hs7 := hs6.put a (x := add s.pc 8) (add_lt _ _)
    go_wp2_with (with_reducible refine wl_stInt rfl _ _ _ rfl _ _ _ rfl rfl ?_)
    refine rg_stC hSY (by rw [cellsS_size hs7]; omega) u64_sz ?_
    intro wZ hSZ hkx hzx
    rw [cellsS_go hs7 (add s.pc (u64 imm))] at hSZ
    have hKZ : Keep No w wZ := hKY.trans hkx fun j hj e => by have e2 : j = w.heap.size := e; omega
    have b6Z := b6Y.keep hkx fun e => by have e2 : w.heap.size + 1 + 1 = w.heap.size := e; omega
    have b7Z := b7Y.keep hkx fun e => by have e2 : w.heap.size + 1 + 1 + 1 = w.heap.size := e; omega
    clear hkx hzx hKY b6Y b7Y
    have hs8 := hs7.go (p := add s.pc (u64 imm)) (by first | exact add_lt _ _ | exact hs.reg _)
    clear hX p0
    have hKF := (hKZ.mono (B := A) fun _ _ h => h.elim)
    have hSF := (hHS.out.no hAX.out hKZ)
    go_wp2_with (with_reducible refine wl_ld rfl _ 33 rfl _ rfl ?_)
    refine rg_ld hSZ Tryz.underlying33 rfl (stC_sz hs8) ?_
    go_wp2_with (with_reducible refine wl_stAgg rfl _ _ _ rfl _ _ rfl rfl ?_)
    refine rg_stAgg b6Z (stC_sz hs8) (by rw [cellsS_size hs8]; rfl) (cellsS_one _) ?_
    intro wa hBa hka hza
    go_wp2_with (with_reducible refine wl_stAgg rfl _ _ _ rfl _ _ rfl rfl ?_)
    refine rg_stAgg (b7Z.keep hka fun e => by have e2 : w.heap.size + 1 + 1 + 1 = w.heap.size + 1 + 1 := e; omega) (by kernel_rfl) (by rfl) (by simp [Value.oneCell']) ?_
    intro wb hBb hkb hzb
    go_wp2_with fail
    have hDD := HD.out.trans (do_35 s m a b c imm)
    subst hDD
    have hka' : Keep A w wa := hKF.trans hka fun j hj e => by have e2 : j = w.heap.size + 1 + 1 := e; omega
    have hkb' : Keep A w wb := hka'.trans hkb fun j hj e => by have e2 : j = w.heap.size + 1 + 1 + 1 := e; omega
    refine ret_blk_blk rfl rfl rfl (hBa.keep hkb fun e => by have e2 : w.heap.size + 1 + 1 = w.heap.size + 1 + 1 + 1 := e; omega) hBb Tryz.underlying33 rfl (stC_sz hs8) Tryz.underlying46 rfl (by kernel_rfl) rfl ?_
    exact ⟨⟨_, hs8, rfl, fun _ => rfl⟩, (hSF.keep hka (fun j hj e => by have := hAX.out j hj; have e2 : j = w.heap.size + 1 + 1 := e; omega) (fun j hj => by have := hAX.out j hj; have := hKF.size; omega)).keep hkb (fun j hj e => by have := hAX.out j hj; have e2 : j = w.heap.size + 1 + 1 + 1 := e; omega) (fun j hj => by have := hAX.out j hj; have := hka'.size; omega), hkb'⟩
  · have hX := True.intro
    go_wp2_with (with_reducible refine wl_stInt rfl _ _ _ rfl _ _ _ rfl rfl ?_)
    refine rg_stC hS6 (by rw [cellsS_size hs6]; omega) u64_sz ?_
    intro wY hSY hkx hzx
    rw [cellsS_go hs6 (s.reg b)] at hSY
    have hKY : Keep No w wY := hKX.trans hkx fun j hj e => by have e2 : j = w.heap.size := e; omega
    have b6Y := b6X.keep hkx fun e => by have e2 : w.heap.size + 1 + 1 = w.heap.size := e; omega
    have b7Y := b7X.keep hkx fun e => by have e2 : w.heap.size + 1 + 1 + 1 = w.heap.size := e; omega
    clear hkx hzx hKX b6X b7X
    have hs7 := hs6.go (p := s.reg b) (by first | exact add_lt _ _ | exact hs.reg _)
    clear hX p0
    have hKF := (hKY.mono (B := A) fun _ _ h => h.elim)
    have hSF := (hHS.out.no hAX.out hKY)
    go_wp2_with (with_reducible refine wl_ld rfl _ 33 rfl _ rfl ?_)
    refine rg_ld hSY Tryz.underlying33 rfl (stC_sz hs7) ?_
    go_wp2_with (with_reducible refine wl_stAgg rfl _ _ _ rfl _ _ rfl rfl ?_)
    refine rg_stAgg b6Y (stC_sz hs7) (by rw [cellsS_size hs7]; rfl) (cellsS_one _) ?_
    intro wa hBa hka hza
    go_wp2_with (with_reducible refine wl_stAgg rfl _ _ _ rfl _ _ rfl rfl ?_)
    refine rg_stAgg (b7Y.keep hka fun e => by have e2 : w.heap.size + 1 + 1 + 1 = w.heap.size + 1 + 1 := e; omega) (by kernel_rfl) (by rfl) (by simp [Value.oneCell']) ?_
    intro wb hBb hkb hzb
    go_wp2_with fail
    have hDD := HD.out.trans (do_36 s m a b c imm)
    subst hDD
    have hka' : Keep A w wa := hKF.trans hka fun j hj e => by have e2 : j = w.heap.size + 1 + 1 := e; omega
    have hkb' : Keep A w wb := hka'.trans hkb fun j hj e => by have e2 : j = w.heap.size + 1 + 1 + 1 := e; omega
    refine ret_blk_blk rfl rfl rfl (hBa.keep hkb fun e => by have e2 : w.heap.size + 1 + 1 = w.heap.size + 1 + 1 + 1 := e; omega) hBb Tryz.underlying33 rfl (stC_sz hs7) Tryz.underlying46 rfl (by kernel_rfl) rfl ?_
    exact ⟨⟨_, hs7, rfl, fun _ => rfl⟩, (hSF.keep hka (fun j hj e => by have := hAX.out j hj; have e2 : j = w.heap.size + 1 + 1 := e; omega) (fun j hj => by have := hAX.out j hj; have := hKF.size; omega)).keep hkb (fun j hj e => by have := hAX.out j hj; have e2 : j = w.heap.size + 1 + 1 + 1 := e; omega) (fun j hj => by have := hAX.out j hj; have := hka'.size; omega), hkb'⟩
  · have hX := True.intro
    go_wp2_with (with_reducible refine wl_stInt rfl _ _ _ rfl _ _ _ rfl rfl ?_)
    refine rg_stC hS6 (by rw [cellsS_size hs6]; omega) u64_sz ?_
    intro wY hSY hkx hzx
    rw [cellsS_put hs6 ia (add s.pc 8)] at hSY
    have hKY : Keep No w wY := hKX.trans hkx fun j hj e => by have e2 : j = w.heap.size := e; omega
    have b6Y := b6X.keep hkx fun e => by have e2 : w.heap.size + 1 + 1 = w.heap.size := e; omega
    have b7Y := b7X.keep hkx fun e => by have e2 : w.heap.size + 1 + 1 + 1 = w.heap.size := e; omega
    clear hkx hzx hKX b6X b7X
    have hs7 := hs6.put a (x := add s.pc 8) (add_lt _ _)
    go_wp2_with (with_reducible refine wl_stInt rfl _ _ _ rfl _ _ _ rfl rfl ?_)
    refine rg_stC hSY (by rw [cellsS_size hs7]; omega) u64_sz ?_
    intro wZ hSZ hkx hzx
    rw [cellsS_go hs7 (s.reg b)] at hSZ
    have hKZ : Keep No w wZ := hKY.trans hkx fun j hj e => by have e2 : j = w.heap.size := e; omega
    have b6Z := b6Y.keep hkx fun e => by have e2 : w.heap.size + 1 + 1 = w.heap.size := e; omega
    have b7Z := b7Y.keep hkx fun e => by have e2 : w.heap.size + 1 + 1 + 1 = w.heap.size := e; omega
    clear hkx hzx hKY b6Y b7Y
    have hs8 := hs7.go (p := s.reg b) (by first | exact add_lt _ _ | exact hs.reg _)
    clear hX p0
    have hKF := (hKZ.mono (B := A) fun _ _ h => h.elim)
    have hSF := (hHS.out.no hAX.out hKZ)
    go_wp2_with (with_reducible refine wl_ld rfl _ 33 rfl _ rfl ?_)
    refine rg_ld hSZ Tryz.underlying33 rfl (stC_sz hs8) ?_
    go_wp2_with (with_reducible refine wl_stAgg rfl _ _ _ rfl _ _ rfl rfl ?_)
    refine rg_stAgg b6Z (stC_sz hs8) (by rw [cellsS_size hs8]; rfl) (cellsS_one _) ?_
    intro wa hBa hka hza
    go_wp2_with (with_reducible refine wl_stAgg rfl _ _ _ rfl _ _ rfl rfl ?_)
    refine rg_stAgg (b7Z.keep hka fun e => by have e2 : w.heap.size + 1 + 1 + 1 = w.heap.size + 1 + 1 := e; omega) (by kernel_rfl) (by rfl) (by simp [Value.oneCell']) ?_
    intro wb hBb hkb hzb
    go_wp2_with fail
    have hDD := HD.out.trans (do_37 s m a b c imm)
    subst hDD
    have hka' : Keep A w wa := hKF.trans hka fun j hj e => by have e2 : j = w.heap.size + 1 + 1 := e; omega
    have hkb' : Keep A w wb := hka'.trans hkb fun j hj e => by have e2 : j = w.heap.size + 1 + 1 + 1 := e; omega
    refine ret_blk_blk rfl rfl rfl (hBa.keep hkb fun e => by have e2 : w.heap.size + 1 + 1 = w.heap.size + 1 + 1 + 1 := e; omega) hBb Tryz.underlying33 rfl (stC_sz hs8) Tryz.underlying46 rfl (by kernel_rfl) rfl ?_
    exact ⟨⟨_, hs8, rfl, fun _ => rfl⟩, (hSF.keep hka (fun j hj e => by have := hAX.out j hj; have e2 : j = w.heap.size + 1 + 1 := e; omega) (fun j hj => by have := hAX.out j hj; have := hKF.size; omega)).keep hkb (fun j hj e => by have := hAX.out j hj; have e2 : j = w.heap.size + 1 + 1 + 1 := e; omega) (fun j hj => by have := hAX.out j hj; have := hka'.size; omega), hkb'⟩
  · have hX := add_wrap s.pc (u64 imm)
    go_wp2_with (with_reducible refine wl_stInt rfl _ _ _ rfl _ _ _ rfl rfl ?_)
    refine rg_stC hS6 (by rw [cellsS_size hs6]; omega) u64_sz ?_
    intro wY hSY hkx hzx
    rw [cellsS_put hs6 ia (add s.pc (u64 imm))] at hSY
    have hKY : Keep No w wY := hKX.trans hkx fun j hj e => by have e2 : j = w.heap.size := e; omega
    have b6Y := b6X.keep hkx fun e => by have e2 : w.heap.size + 1 + 1 = w.heap.size := e; omega
    have b7Y := b7X.keep hkx fun e => by have e2 : w.heap.size + 1 + 1 + 1 = w.heap.size := e; omega
    clear hkx hzx hKX b6X b7X
    have hs7 := hs6.put a (x := add s.pc (u64 imm)) (by first | exact add_lt _ _ | exact hul | exact hs.reg _)
    clear hX p0
    have hKF := (hKY.mono (B := A) fun _ _ h => h.elim)
    have hSF := (hHS.out.no hAX.out hKY)
    go_wp2_with (with_reducible refine wl_ld rfl _ 33 rfl _ rfl ?_)
    refine rg_ld hSY Tryz.underlying33 rfl (stC_sz hs7) ?_
    go_wp2_with (with_reducible refine wl_stAgg rfl _ _ _ rfl _ _ rfl rfl ?_)
    refine rg_stAgg b6Y (stC_sz hs7) (by rw [cellsS_size hs7]; rfl) (cellsS_one _) ?_
    intro wa hBa hka hza
    go_wp2_with (with_reducible refine wl_stAgg rfl _ _ _ rfl _ _ rfl rfl ?_)
    refine rg_stAgg (b7Y.keep hka fun e => by have e2 : w.heap.size + 1 + 1 + 1 = w.heap.size + 1 + 1 := e; omega) (by kernel_rfl) (by rfl) (by simp [Value.oneCell']) ?_
    intro wb hBb hkb hzb
    go_wp2_with fail
    have hDD := HD.out.trans (do_38 s m a b c imm)
    subst hDD
    have hka' : Keep A w wa := hKF.trans hka fun j hj e => by have e2 : j = w.heap.size + 1 + 1 := e; omega
    have hkb' : Keep A w wb := hka'.trans hkb fun j hj e => by have e2 : j = w.heap.size + 1 + 1 + 1 := e; omega
    refine ret_blk_blk rfl rfl rfl (hBa.keep hkb fun e => by have e2 : w.heap.size + 1 + 1 = w.heap.size + 1 + 1 + 1 := e; omega) hBb Tryz.underlying33 rfl (stC_sz hs7) Tryz.underlying46 rfl (by kernel_rfl) rfl ?_
    exact ⟨⟨_, hs7, rfl, fun _ => rfl⟩, (hSF.keep hka (fun j hj e => by have := hAX.out j hj; have e2 : j = w.heap.size + 1 + 1 := e; omega) (fun j hj => by have := hAX.out j hj; have := hKF.size; omega)).keep hkb (fun j hj e => by have := hAX.out j hj; have e2 : j = w.heap.size + 1 + 1 + 1 := e; omega) (fun j hj => by have := hAX.out j hj; have := hka'.size; omega), hkb'⟩
  · have r5 : w6.cell? ⟨w.heap.size, 33, none⟩ = some (.int .u64 (s.tls : Int)) := (hS6.cell 33).trans (cellsS_tls hs6)
    have hX := add_wrap s.tls (u64 imm)
    go_wp2_with (with_reducible refine wl_stInt rfl _ _ _ rfl _ _ _ rfl rfl ?_)
    refine rg_stC hS6 (by rw [cellsS_size hs6]; omega) u64_sz ?_
    intro wY hSY hkx hzx
    rw [cellsS_put hs6 ia (add s.tls (u64 imm))] at hSY
    have hKY : Keep No w wY := hKX.trans hkx fun j hj e => by have e2 : j = w.heap.size := e; omega
    have b6Y := b6X.keep hkx fun e => by have e2 : w.heap.size + 1 + 1 = w.heap.size := e; omega
    have b7Y := b7X.keep hkx fun e => by have e2 : w.heap.size + 1 + 1 + 1 = w.heap.size := e; omega
    clear hkx hzx hKX b6X b7X
    have hs7 := hs6.put a (x := add s.tls (u64 imm)) (add_lt _ _)
    clear hX p0 r5
    have hKF := (hKY.mono (B := A) fun _ _ h => h.elim)
    have hSF := (hHS.out.no hAX.out hKY)
    go_wp2_with (with_reducible refine wl_ld rfl _ 33 rfl _ rfl ?_)
    refine rg_ld hSY Tryz.underlying33 rfl (stC_sz hs7) ?_
    go_wp2_with (with_reducible refine wl_stAgg rfl _ _ _ rfl _ _ rfl rfl ?_)
    refine rg_stAgg b6Y (stC_sz hs7) (by rw [cellsS_size hs7]; rfl) (cellsS_one _) ?_
    intro wa hBa hka hza
    go_wp2_with (with_reducible refine wl_stAgg rfl _ _ _ rfl _ _ rfl rfl ?_)
    refine rg_stAgg (b7Y.keep hka fun e => by have e2 : w.heap.size + 1 + 1 + 1 = w.heap.size + 1 + 1 := e; omega) (by kernel_rfl) (by rfl) (by simp [Value.oneCell']) ?_
    intro wb hBb hkb hzb
    go_wp2_with fail
    have hDD := HD.out.trans (do_39 s m a b c imm)
    subst hDD
    have hka' : Keep A w wa := hKF.trans hka fun j hj e => by have e2 : j = w.heap.size + 1 + 1 := e; omega
    have hkb' : Keep A w wb := hka'.trans hkb fun j hj e => by have e2 : j = w.heap.size + 1 + 1 + 1 := e; omega
    refine ret_blk_blk rfl rfl rfl (hBa.keep hkb fun e => by have e2 : w.heap.size + 1 + 1 = w.heap.size + 1 + 1 + 1 := e; omega) hBb Tryz.underlying33 rfl (stC_sz hs7) Tryz.underlying46 rfl (by kernel_rfl) rfl ?_
    exact ⟨⟨_, hs7, rfl, fun _ => rfl⟩, (hSF.keep hka (fun j hj e => by have := hAX.out j hj; have e2 : j = w.heap.size + 1 + 1 := e; omega) (fun j hj => by have := hAX.out j hj; have := hKF.size; omega)).keep hkb (fun j hj e => by have := hAX.out j hj; have e2 : j = w.heap.size + 1 + 1 + 1 := e; omega) (fun j hj => by have := hAX.out j hj; have := hka'.size; omega), hkb'⟩
  · skip
    have hKF := (hKX.mono (B := A) fun _ _ h => h.elim)
    have hSF := (hHS.out.no hAX.out hKX)
    go_wp2_with (with_reducible refine wl_ld rfl _ 33 rfl _ rfl ?_)
    refine rg_ld hS6 Tryz.underlying33 rfl (stC_sz hs6) ?_
    go_wp2_with (with_reducible refine wl_stAgg rfl _ _ _ rfl _ _ rfl rfl ?_)
    refine rg_stAgg b6X (stC_sz hs6) (by rw [cellsS_size hs6]; rfl) (cellsS_one _) ?_
    intro wa hBa hka hza
    go_wp2_with (with_reducible refine wl_stAgg rfl _ _ _ rfl _ _ rfl rfl ?_)
    refine rg_stAgg (b7X.keep hka fun e => by have e2 : w.heap.size + 1 + 1 + 1 = w.heap.size + 1 + 1 := e; omega) (by kernel_rfl) (by rfl) (by simp [Value.oneCell']) ?_
    intro wb hBb hkb hzb
    go_wp2_with fail
    have hDD := HD.out.trans (do_40 s m a b c imm)
    subst hDD
    have hka' : Keep A w wa := hKF.trans hka fun j hj e => by have e2 : j = w.heap.size + 1 + 1 := e; omega
    have hkb' : Keep A w wb := hka'.trans hkb fun j hj e => by have e2 : j = w.heap.size + 1 + 1 + 1 := e; omega
    refine ret_blk_blk rfl rfl rfl (hBa.keep hkb fun e => by have e2 : w.heap.size + 1 + 1 = w.heap.size + 1 + 1 + 1 := e; omega) hBb Tryz.underlying33 rfl (stC_sz hs6) Tryz.underlying46 rfl (by kernel_rfl) rfl ?_
    exact ⟨⟨_, hs6, rfl, fun _ => rfl⟩, (hSF.keep hka (fun j hj e => by have := hAX.out j hj; have e2 : j = w.heap.size + 1 + 1 := e; omega) (fun j hj => by have := hAX.out j hj; have := hKF.size; omega)).keep hkb (fun j hj e => by have := hAX.out j hj; have e2 : j = w.heap.size + 1 + 1 + 1 := e; omega) (fun j hj => by have := hAX.out j hj; have := hka'.size; omega), hkb'⟩
  · skip
    have hKF := (hKX.mono (B := A) fun _ _ h => h.elim)
    have hSF := (hHS.out.no hAX.out hKX)
    go_wp2_with (with_reducible refine wl_ld rfl _ 33 rfl _ rfl ?_)
    refine rg_ld hS6 Tryz.underlying33 rfl (stC_sz hs6) ?_
    go_wp2_with (with_reducible refine wl_stAgg rfl _ _ _ rfl _ _ rfl rfl ?_)
    refine rg_stAgg b6X (stC_sz hs6) (by rw [cellsS_size hs6]; rfl) (cellsS_one _) ?_
    intro wa hBa hka hza
    go_wp2_with (with_reducible refine wl_stAgg rfl _ _ _ rfl _ _ rfl rfl ?_)
    refine rg_stAgg (b7X.keep hka fun e => by have e2 : w.heap.size + 1 + 1 + 1 = w.heap.size + 1 + 1 := e; omega) (by kernel_rfl) (by rfl) (by simp [Value.oneCell']) ?_
    intro wb hBb hkb hzb
    go_wp2_with fail
    have hDD := HD.out.trans (do_41 s m a b c imm)
    subst hDD
    have hka' : Keep A w wa := hKF.trans hka fun j hj e => by have e2 : j = w.heap.size + 1 + 1 := e; omega
    have hkb' : Keep A w wb := hka'.trans hkb fun j hj e => by have e2 : j = w.heap.size + 1 + 1 + 1 := e; omega
    refine ret_blk_blk rfl rfl rfl (hBa.keep hkb fun e => by have e2 : w.heap.size + 1 + 1 = w.heap.size + 1 + 1 + 1 := e; omega) hBb Tryz.underlying33 rfl (stC_sz hs6) Tryz.underlying46 rfl (by kernel_rfl) rfl ?_
    exact ⟨⟨_, hs6, rfl, fun _ => rfl⟩, (hSF.keep hka (fun j hj e => by have := hAX.out j hj; have e2 : j = w.heap.size + 1 + 1 := e; omega) (fun j hj => by have := hAX.out j hj; have := hKF.size; omega)).keep hkb (fun j hj e => by have := hAX.out j hj; have e2 : j = w.heap.size + 1 + 1 + 1 := e; omega) (fun j hj => by have := hAX.out j hj; have := hka'.size; omega), hkb'⟩
end
end Go.Proofs.YtaoillfofiehpaaGreatDoor
