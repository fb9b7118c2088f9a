/- The document's Step: movhi, tls, jumps. No condition. -/
import Derived.Test.YtaoillfofiehpaaGreatDoorCpuR3
set_option linter.unusedVariables false
set_option linter.unusedSimpArgs false
namespace Go.Proofs.YtaoillfofiehpaaGreatDoor
open Go.RowKit Go.Dm Go.Dm.Vm Go.Dm.Cp Go.Maps
section
variable {A : Nat → Prop} {w : World} {m : V} {v : Value}
set_option maxRecDepth 100000 in
set_option maxHeartbeats 8000000 in
theorem r14step_hi (s : St) (hs : StOk s) (ho : Ok m) (h : Fl A w 6 encS v m) (hA : ∀ k, A k → k < w.heap.size) (hE0 : fetchE m s.pc = 0) (hD0 : decE (fetchX m s.pc) = 0) (hset : (decI (fetchX m s.pc)).op = 18) :
    Calls Tryz.prog 20 #[.agg (cellsS s), .agg #[v]] w fun e w' => ∃ v', e = .returned (.tuple #[.agg (cellsS (stepM s m).1), .agg #[v'], encO3 (stepM s m).2.2]) ∧ Fl (Plus A w w') w' 6 encS v' (stepM s m).2.1 ∧ Keep No w w' := by
  have HE0 := Lib.hid hE0
  have HD0 := Lib.hid hD0
  have HSET := Lib.hid hset
  clear hE0 hD0 hset
  obtain ⟨av, cv, rfl, _, _⟩ := h.shape
  have hfe := fun (W : World) (hk : Keep No w W) => rvfetch_any (w := W) s.pc hs.pc (h.no hk) ho
  have htm : stepM s m = if fetchE m s.pc = 0 then if decE (fetchX m s.pc) = 0 then doM s m (decI (fetchX m s.pc)) else (s, m, ⟨3, 42, s.pc⟩) else (s, m, ⟨3, fetchE m s.pc, s.pc⟩) := rfl
  have hxl := fetchX_lt m s.pc
  generalize stepM s m = TM at *
  generalize fetchX m s.pc = X at *
  generalize fetchE m s.pc = E at *
  have hsz := cellsS_size hs
  have hss := stR_sz hs
  have hone := cellsS_one s
  have hpc := cellsS_pc hs
  unfold ru at hpc
  obtain ⟨cs, hcs⟩ : ∃ cs, cs = cellsS s := ⟨_, rfl⟩
  have HCS := Lib.hid hcs
  rw [← hcs] at hsz hss hone hpc ⊢
  have g32 : cs[32]'(by omega) = .int .u64 (s.pc : Int) := by
    have := Array.getElem?_eq_getElem (xs := cs) (i := 32) (by omega)
    rw [hpc] at this
    exact (Option.some.inj this).symm
  have HPC := Lib.hid hpc
  have HSZ := Lib.hid hss
  have HONE := Lib.hid hone
  have hF := Lib.hid h
  have hAX := Lib.hid hA
  have HTM := Lib.hid htm
  have HFE := Lib.hid hfe
  have HXL := Lib.hid hxl
  clear hcs h hA htm hfe hss hone hxl hpc
  go_enter Tryz.func20, Tryz.ntmps20
  go_wp2_with fail
  have hkW1 : Keep No w (w.alloc (.cells cs 57)) := (Keep.refl _ _).alloc _
  have hBW1 : Blk (w.alloc (.cells cs 57)) w.heap.size cs 57 := Blk.new _ _ _
  have hzW1 : (w.alloc (.cells cs 57)).heap.size = w.heap.size + 1 := World.size_alloc _ _
  generalize w.alloc (.cells cs 57) = W1 at *
  have hkW2 : Keep No W1 (W1.alloc (.cells #[.slice av m.length cv] 52)) := (Keep.refl _ _).alloc _
  have hBW2 : Blk (W1.alloc (.cells #[.slice av m.length cv] 52)) W1.heap.size #[.slice av m.length cv] 52 := Blk.new _ _ _
  have hzW2 : (W1.alloc (.cells #[.slice av m.length cv] 52)).heap.size = W1.heap.size + 1 := World.size_alloc _ _
  generalize W1.alloc (.cells #[.slice av m.length cv] 52) = W2 at *
  have hkW3 : Keep No W2 (W2.alloc (.cells #[.int .u64 0, .int .u64 0, .int .u64 0, .int .u64 0, .int .u64 0, .int .u64 0, .int .u64 0, .int .u64 0, .int .u64 0, .int .u64 0, .int .u64 0, .int .u64 0, .int .u64 0, .int .u64 0, .int .u64 0, .int .u64 0, .int .u64 0, .int .u64 0, .int .u64 0, .int .u64 0, .int .u64 0, .int .u64 0, .int .u64 0, .int .u64 0, .int .u64 0, .int .u64 0, .int .u64 0, .int .u64 0, .int .u64 0, .int .u64 0, .int .u64 0, .int .u64 0, .int .u64 0, .int .u64 0] 57)) := (Keep.refl _ _).alloc _
  have hBW3 : Blk (W2.alloc (.cells #[.int .u64 0, .int .u64 0, .int .u64 0, .int .u64 0, .int .u64 0, .int .u64 0, .int .u64 0, .int .u64 0, .int .u64 0, .int .u64 0, .int .u64 0, .int .u64 0, .int .u64 0, .int .u64 0, .int .u64 0, .int .u64 0, .int .u64 0, .int .u64 0, .int .u64 0, .int .u64 0, .int .u64 0, .int .u64 0, .int .u64 0, .int .u64 0, .int .u64 0, .int .u64 0, .int .u64 0, .int .u64 0, .int .u64 0, .int .u64 0, .int .u64 0, .int .u64 0, .int .u64 0, .int .u64 0] 57)) W2.heap.size #[.int .u64 0, .int .u64 0, .int .u64 0, .int .u64 0, .int .u64 0, .int .u64 0, .int .u64 0, .int .u64 0, .int .u64 0, .int .u64 0, .int .u64 0, .int .u64 0, .int .u64 0, .int .u64 0, .int .u64 0, .int .u64 0, .int .u64 0, .int .u64 0, .int .u64 0, .int .u64 0, .int .u64 0, .int .u64 0, .int .u64 0, .int .u64 0, .int .u64 0, .int .u64 0, .int .u64 0, .int .u64 0, .int .u64 0, .int .u64 0, .int .u64 0, .int .u64 0, .int .u64 0, .int .u64 0] 57 := Blk.new _ _ _
  have hzW3 : (W2.alloc (.cells #[.int .u64 0, .int .u64 0, .int .u64 0, .int .u64 0, .int .u64 0, .int .u64 0, .int .u64 0, .int .u64 0, .int .u64 0, .int .u64 0, .int .u64 0, .int .u64 0, .int .u64 0, .int .u64 0, .int .u64 0, .int .u64 0, .int .u64 0, .int .u64 0, .int .u64 0, .int .u64 0, .int .u64 0, .int .u64 0, .int .u64 0, .int .u64 0, .int .u64 0, .int .u64 0, .int .u64 0, .int .u64 0, .int .u64 0, .int .u64 0, .int .u64 0, .int .u64 0, .int .u64 0, .int .u64 0] 57)).heap.size = W2.heap.size + 1 := World.size_alloc _ _
  generalize W2.alloc (.cells #[.int .u64 0, .int .u64 0, .int .u64 0, .int .u64 0, .int .u64 0, .int .u64 0, .int .u64 0, .int .u64 0, .int .u64 0, .int .u64 0, .int .u64 0, .int .u64 0, .int .u64 0, .int .u64 0, .int .u64 0, .int .u64 0, .int .u64 0, .int .u64 0, .int .u64 0, .int .u64 0, .int .u64 0, .int .u64 0, .int .u64 0, .int .u64 0, .int .u64 0, .int .u64 0, .int .u64 0, .int .u64 0, .int .u64 0, .int .u64 0, .int .u64 0, .int .u64 0, .int .u64 0, .int .u64 0] 57) = W3 at *
  have hkW4 : Keep No W3 (W3.alloc (.cells #[.slice none 0 0] 52)) := (Keep.refl _ _).alloc _
  have hBW4 : Blk (W3.alloc (.cells #[.slice none 0 0] 52)) W3.heap.size #[.slice none 0 0] 52 := Blk.new _ _ _
  have hzW4 : (W3.alloc (.cells #[.slice none 0 0] 52)).heap.size = W3.heap.size + 1 := World.size_alloc _ _
  generalize W3.alloc (.cells #[.slice none 0 0] 52) = W4 at *
  have hkW5 : Keep No W4 (W4.alloc (.cells #[.int .i64 0, .int .i64 0, .int .u64 0] 59)) := (Keep.refl _ _).alloc _
  have hBW5 : Blk (W4.alloc (.cells #[.int .i64 0, .int .i64 0, .int .u64 0] 59)) W4.heap.size #[.int .i64 0, .int .i64 0, .int .u64 0] 59 := Blk.new _ _ _
  have hzW5 : (W4.alloc (.cells #[.int .i64 0, .int .i64 0, .int .u64 0] 59)).heap.size = W4.heap.size + 1 := World.size_alloc _ _
  generalize W4.alloc (.cells #[.int .i64 0, .int .i64 0, .int .u64 0] 59) = W5 at *
  rw [hzW1] at hBW2 hzW2
  rw [hzW2] at hBW3 hzW3
  rw [hzW3] at hBW4 hzW4
  rw [hzW4] at hBW5 hzW5
  have hB : RB w W5 cs (.slice av m.length cv) :=
    ⟨(((hBW1.keep hkW2 fun h => h).keep hkW3 fun h => h).keep hkW4 fun h => h).keep hkW5 fun h => h, ((hBW2.keep hkW3 fun h => h).keep hkW4 fun h => h).keep hkW5 fun h => h, (hBW3.keep hkW4 fun h => h).keep hkW5 fun h => h, hBW4.keep hkW5 fun h => h, hBW5, (((hkW1.trans' hkW2).trans' hkW3).trans' hkW4).trans' hkW5⟩
  have hcall := HFE.out W5 hB.kw
  clear hkW1 hkW2 hkW3 hkW4 hkW5 hBW1 hBW2 hBW3 hBW4 hBW5 hzW1 hzW2 hzW3 hzW4 g32
  go_wp2_with fail
  refine hcall.mono ?_
  rintro e w6 ⟨rfl, hk6⟩
  have hB6 := hB.no hk6
  clear hcall hk6 hB
  obtain rfl : E = 0 := HE0.out
  rw [if_pos rfl] at HTM
  have hdc := r12dec_any (w := w6) X HXL.out
  have hdi := fun h => dec_inok HXL.out h
  have hd42 : decE X ≠ 0 → decE X = 42 := fun h => by
    revert h
    unfold decE
    dsimp only
    split
    · intro h; exact absurd rfl h
    · intro _; rfl
  generalize decI X = I at *
  generalize decE X = D at *
  have HDI := Lib.hid hdi
  have HD42 := Lib.hid hd42
  clear hdi hd42
  obtain rfl : D = 0 := HD0.out
  rw [if_pos rfl] at HTM hdc
  obtain ⟨io, ia, ib, ic, ilo, ihi⟩ := HDI.out rfl
  obtain ⟨op, a, b, c, imm⟩ := I
  dsimp only at io ia ib ic ilo ihi
  have HIO := Lib.hid (op_cases io)
  unfold encIR at hdc
  dsimp only at hdc
  clear io HDI HD42 HFE
  go_wp2_with fail
  refine hdc.mono ?_
  rintro e w7 ⟨rfl, hk7⟩
  have hB7 := hB6.no hk7
  clear hdc hk7 hB6
  go_wp2_with (with_reducible refine wl_stAgg rfl _ _ _ rfl _ _ rfl rfl ?_)
  have hkW8 : Keep No w7 (w7.alloc (.cells #[.int .i64 0, .int .i64 0, .int .i64 0, .int .i64 0, .int .i64 0] 30)) := (Keep.refl _ _).alloc _
  have hBW8 : Blk (w7.alloc (.cells #[.int .i64 0, .int .i64 0, .int .i64 0, .int .i64 0, .int .i64 0] 30)) w7.heap.size #[.int .i64 0, .int .i64 0, .int .i64 0, .int .i64 0, .int .i64 0] 30 := Blk.new _ _ _
  have hzW8 : (w7.alloc (.cells #[.int .i64 0, .int .i64 0, .int .i64 0, .int .i64 0, .int .i64 0] 30)).heap.size = w7.heap.size + 1 := World.size_alloc _ _
  generalize w7.alloc (.cells #[.int .i64 0, .int .i64 0, .int .i64 0, .int .i64 0, .int .i64 0] 30) = W8 at *
  refine rg_stAgg hBW8 (by kernel_rfl) (by rfl) (by simp [Value.oneCell']) ?_
  intro w8 b9 hk78 hz78
  have hlib : w.heap.size + 1 + 1 + 1 + 1 < w7.heap.size := hB7.b6.lt
  have hB8 := (hB7.no hkW8).keep hk78 fun j e => by have e2 : j = w7.heap.size := e; omega
  clear hkW8 hBW8 hk78 hz78 hB7 hzW8
  go_wp2_with (with_reducible refine wl_ld rfl _ 57 rfl _ rfl ?_)
  refine rg_ld hB8.b2 Tryz.underlying57 rfl HSZ.out ?_
  go_wp2_with (with_reducible refine wl_stAgg rfl _ _ _ rfl _ _ rfl rfl ?_)
  have hkW9 : Keep No w8 (w8.alloc (.cells #[.int .u64 0, .int .u64 0, .int .u64 0, .int .u64 0, .int .u64 0, .int .u64 0, .int .u64 0, .int .u64 0, .int .u64 0, .int .u64 0, .int .u64 0, .int .u64 0, .int .u64 0, .int .u64 0, .int .u64 0, .int .u64 0, .int .u64 0, .int .u64 0, .int .u64 0, .int .u64 0, .int .u64 0, .int .u64 0, .int .u64 0, .int .u64 0, .int .u64 0, .int .u64 0, .int .u64 0, .int .u64 0, .int .u64 0, .int .u64 0, .int .u64 0, .int .u64 0, .int .u64 0, .int .u64 0] 57)) := (Keep.refl _ _).alloc _
  have hBW9 : Blk (w8.alloc (.cells #[.int .u64 0, .int .u64 0, .int .u64 0, .int .u64 0, .int .u64 0, .int .u64 0, .int .u64 0, .int .u64 0, .int .u64 0, .int .u64 0, .int .u64 0, .int .u64 0, .int .u64 0, .int .u64 0, .int .u64 0, .int .u64 0, .int .u64 0, .int .u64 0, .int .u64 0, .int .u64 0, .int .u64 0, .int .u64 0, .int .u64 0, .int .u64 0, .int .u64 0, .int .u64 0, .int .u64 0, .int .u64 0, .int .u64 0, .int .u64 0, .int .u64 0, .int .u64 0, .int .u64 0, .int .u64 0] 57)) w8.heap.size #[.int .u64 0, .int .u64 0, .int .u64 0, .int .u64 0, .int .u64 0, .int .u64 0, .int .u64 0, .int .u64 0, .int .u64 0, .int .u64 0, .int .u64 0, .int .u64 0, .int .u64 0, .int .u64 0, .int .u64 0, .int .u64 0, .int .u64 0, .int .u64 0, .int .u64 0, .int .u64 0, .int .u64 0, .int .u64 0, .int .u64 0, .int .u64 0, .int .u64 0, .int .u64 0, .int .u64 0, .int .u64 0, .int .u64 0, .int .u64 0, .int .u64 0, .int .u64 0, .int .u64 0, .int .u64 0] 57 := Blk.new _ _ _
  have hzW9 : (w8.alloc (.cells #[.int .u64 0, .int .u64 0, .int .u64 0, .int .u64 0, .int .u64 0, .int .u64 0, .int .u64 0, .int .u64 0, .int .u64 0, .int .u64 0, .int .u64 0, .int .u64 0, .int .u64 0, .int .u64 0, .int .u64 0, .int .u64 0, .int .u64 0, .int .u64 0, .int .u64 0, .int .u64 0, .int .u64 0, .int .u64 0, .int .u64 0, .int .u64 0, .int .u64 0, .int .u64 0, .int .u64 0, .int .u64 0, .int .u64 0, .int .u64 0, .int .u64 0, .int .u64 0, .int .u64 0, .int .u64 0] 57)).heap.size = w8.heap.size + 1 := World.size_alloc _ _
  generalize w8.alloc (.cells #[.int .u64 0, .int .u64 0, .int .u64 0, .int .u64 0, .int .u64 0, .int .u64 0, .int .u64 0, .int .u64 0, .int .u64 0, .int .u64 0, .int .u64 0, .int .u64 0, .int .u64 0, .int .u64 0, .int .u64 0, .int .u64 0, .int .u64 0, .int .u64 0, .int .u64 0, .int .u64 0, .int .u64 0, .int .u64 0, .int .u64 0, .int .u64 0, .int .u64 0, .int .u64 0, .int .u64 0, .int .u64 0, .int .u64 0, .int .u64 0, .int .u64 0, .int .u64 0, .int .u64 0, .int .u64 0] 57) = W9 at *
  refine rg_stAgg hBW9 HSZ.out (by rw [hsz]; rfl) HONE.out ?_
  intro w9 bn9 hk89 hz89
  have hlnb : w7.heap.size < w8.heap.size := b9.lt
  have hB9 := (hB8.no hkW9).keep hk89 fun j e => by have e2 : j = w8.heap.size := e; omega
  have b99 := (b9.keep hkW9 fun h => h).keep hk89 fun e => by have e2 : w7.heap.size = w8.heap.size := e; omega
  clear hkW9 hBW9 hk89 hz89 hB8 hzW9 b9
  obtain ⟨ib_, hib_⟩ : ∃ x, x = w7.heap.size := ⟨_, rfl⟩
  obtain ⟨nb, hnb⟩ : ∃ x, x = w8.heap.size := ⟨_, rfl⟩
  rw [← hib_] at hlib hlnb b99 ⊢
  rw [← hnb] at hlnb bn9 ⊢
  have qpc : w9.cell? ⟨w.heap.size, 32, none⟩ = some (.int .u64 (s.pc : Int)) := (hB9.b2.cell 32).trans HPC.out
  have hadd8 : IntKind.u64.wrap ((s.pc : Int) + 8) = (add s.pc 8 : Nat) := add_wrap s.pc 8
  clear hib_ hnb
  go_wp2_with (with_reducible refine wl_stInt rfl _ _ _ rfl _ _ _ rfl rfl ?_)
  refine rg_stC bn9 (by omega) u64_sz ?_
  intro wX bnX hkX hzX
  rw [HCS.out, cellsS_go hs] at bnX
  have hBX := hB9.keep hkX fun j e => by have e2 : j = nb := e; omega
  have b9X := b99.keep hkX fun e => by have e2 : ib_ = nb := e; omega
  have hs6 := hs.go (add_lt s.pc 8)
  have haz : (a : Int) < 32 := by omega
  have hbz : (b : Int) < 32 := by omega
  have hcz : (c : Int) < 32 := by omega
  have himm2 := u64_wrap2 ilo ihi
  have hul := u64_lt ilo ihi
  have g1 := cellsS_reg hs ia
  have g2 := cellsS_reg hs ib
  have g3 := cellsS_reg hs ic
  unfold ru at g1 g2 g3
  rw [← HCS.out] at g1 g2 g3
  have p0 : wX.cell? ⟨ib_, 0, none⟩ = some (.int .i64 (op : Int)) := b9X.cell 0
  have p1X : wX.cell? ⟨ib_, 1, none⟩ = some (.int .i64 (a : Int)) := b9X.cell 1
  have p2 : wX.cell? ⟨ib_, 2, none⟩ = some (.int .i64 (b : Int)) := b9X.cell 2
  have p3 : wX.cell? ⟨ib_, 3, none⟩ = some (.int .i64 (c : Int)) := b9X.cell 3
  have p4 : wX.cell? ⟨ib_, 4, none⟩ = some (.int .i64 imm) := b9X.cell 4
  have r1 : wX.cell? ⟨w.heap.size, a, none⟩ = some (.int .u64 (s.reg a : Int)) := (hBX.b2.cell _).trans g1
  have r2 : wX.cell? ⟨w.heap.size, b, none⟩ = some (.int .u64 (s.reg b : Int)) := (hBX.b2.cell _).trans g2
  have r3 : wX.cell? ⟨w.heap.size, c, none⟩ = some (.int .u64 (s.reg c : Int)) := (hBX.b2.cell _).trans g3
  have qpX : wX.cell? ⟨w.heap.size, 32, none⟩ = some (.int .u64 (s.pc : Int)) := (hBX.b2.cell 32).trans HPC.out
  clear hkX hzX hB9 b99 bn9 qpc hadd8 g1 g2 g3
  have hio := HIO.out
  clear HIO
  have hop := HSET.out
  try dsimp only at hop
  clear HSET
  subst hop
  have hra := hs.reg a
  have e1 : (s.reg a : Int).tmod 4294967296 = ((s.reg a % 4294967296 : Nat) : Int) := by rw [Int.tmod_eq_emod_of_nonneg (by omega)]; rfl
  have e1' : (s.reg a : Int) % 4294967296 = ((s.reg a % 4294967296 : Nat) : Int) := rfl
  have e2 : IntKind.u64.wrap ((u64 imm : Int) * 4294967296) = ((u64 imm % 4294967296 * 4294967296 : Nat) : Int) := by rw [IntKind.wrap_u64]; omega
  have hlt := movhi_lt (s.reg a) (u64 imm)
  have HDD := Lib.hid (do_18 s m a b c imm)
  have hx1 : s.reg a % 4294967296 ≤ 4294967295 := by omega
  have e3 : ((s.reg a % 4294967296 : Nat) : Int) + ((u64 imm % 4294967296 * 4294967296 : Nat) : Int) = ((s.reg a % 4294967296 + u64 imm % 4294967296 * 4294967296 : Nat) : Int) := rfl
  have hle : s.reg a % 4294967296 + u64 imm % 4294967296 * 4294967296 ≤ 18446744073709551615 := by omega
  generalize hX : s.reg a % 4294967296 + u64 imm % 4294967296 * 4294967296 = X at *
  have HX := Lib.hid hX
  generalize s.reg a % 4294967296 = X1 at *
  generalize u64 imm % 4294967296 * 4294967296 = X2 at *
  have hle2 : (X1 : Int) + (X2 : Int) ≤ 18446744073709551615 := by omega
  have HLT := Lib.hid hlt
  clear hlt hra hul hX hle hx1
  go_wp2_with (with_reducible refine wl_stInt rfl _ _ _ rfl _ _ _ rfl rfl ?_)
  refine rg_stC bnX (by rw [cellsS_size (hs6)]; omega) u64_sz ?_
  intro wY bnY hkx hzx
  rw [cellsS_put hs6 ia X] at bnY
  have hBY := hBX.keep hkx fun j e => by have e2 : j = nb := e; omega
  have p1Y : wY.cell? ⟨ib_, 1, none⟩ = some (.int .i64 (a : Int)) := (hkx.cell (p := ⟨ib_, 1, none⟩) (World.block_lt_of_cell? _ _ p1X) fun e => by have e2 : ib_ = nb := e; omega).trans p1X
  have q2Y : wY.cell? ⟨w.heap.size, 32, none⟩ = some (.int .u64 (s.pc : Int)) := (hBY.b2.cell 32).trans HPC.out
  clear hkx hzx bnX
  have hs7 := hs6.put a (x := X) HLT.out
  clear e1 e1' e2 e3 hle2 p1Y q2Y
  have hszN := cellsS_size (hs7)
  have hssN := stR_sz (hs7)
  have honeN := cellsS_one ((s.go (add s.pc 8)).put a X)
  have HHN := Lib.hid (hs7)
  have hbn := bnY
  have HDD := Lib.hid (HDD.out)
  try clear p0 p1X p2 p3 p4 r1 r2 r3 qpX
  obtain ⟨CN, hCN⟩ : ∃ C, C = cellsS ((s.go (add s.pc 8)).put a X) := ⟨_, rfl⟩
  have HCN := Lib.hid hCN
  rw [← hCN] at hszN hssN honeN hbn
  clear hCN
  have HSSN := Lib.hid hssN
  have HONEN := Lib.hid honeN
  clear hssN honeN
  have hkd := (Keep.refl No wY).drew
  have hb4 := (hBY).b4.keep hkd fun h => h
  have hb5 := (hBY).b5.keep hkd fun h => h
  have hb6 := (hBY).b6.keep hkd fun h => h
  have hb2 := (hBY).b2.keep hkd fun h => h
  have hkwd := (hBY).kw.trans' hkd
  have hsb := (hbn).keep hkd fun h => h
  have hmb := ((hBY).b3).keep hkd fun h => h
  go_wp2_with fail
  refine wp_region_sig (fun w' => Blk w' (nb) (CN) 57 ∧ Blk w' (w.heap.size + 1) #[.slice av m.length cv] 52 ∧ w'.cell? ⟨w.heap.size, 32, none⟩ = some (.int .u64 (s.pc : Int))) (fun j => decide (j ≤ 99)) [(0, true), (1, true), (2, true), (3, false), (4, false), (5, false)] (by kernel_rfl) (by kernel_rfl) (by intro c a d v w h; cases d <;> exact h) ⟨hsb, hmb, (hb2.cell 32).trans HPC.out⟩ ?_
  apply sig_still (o := ⟨some 302, _, _, _, _, _⟩) rfl rfl
  · intro w' hS
    exact run_ldoC _ _ rfl (nb) 0 rfl (run_loadVar_row w' (nb) 57 57 _ _ _ hS.1 Tryz.underlying57 rfl (HSSN.out))
  go_frame
  apply sig_still (o := ⟨some 303, _, _, _, _, _⟩) rfl rfl
  · intro w' hS
    exact run_ldoC _ _ rfl (w.heap.size + 1) 0 rfl (run_loadVar_row w' (w.heap.size + 1) 52 52 _ _ _ hS.2.1 Tryz.underlying52 rfl (by kernel_rfl))
  go_frame
  apply sig_still (o := ⟨some 304, _, _, _, _, _⟩) rfl rfl
  · intro w' hS
    obtain ⟨q1, q2, q3⟩ := hS
    first | (go_simp; done) | (go_simp; rfl) | rfl
  go_frame
  refine sig_eff (o := ⟨none, _, _, _, _, _⟩) rfl rfl (fun K hKe => ?_)
  refine wo_stAgg (.tmp 4) (.tmp 302) 57 rfl _ _ rfl rfl ?_
  refine rg_stAgg hb4 (HSSN.out) (by rw [hszN]; rfl) (HONEN.out) ?_
  intro wa hBa hka hza
  have hsa := hsb.keep hka fun e => by have e2 : nb = w.heap.size + 1 + 1 := e; omega
  have hma := hmb.keep hka fun e => by have e2 : w.heap.size + 1 = w.heap.size + 1 + 1 := e; omega
  have h2a := hb2.keep hka fun e => by have e2 : w.heap.size = w.heap.size + 1 + 1 := e; omega
  have h5a := hb5.keep hka fun e => by have e2 : w.heap.size + 1 + 1 + 1 = w.heap.size + 1 + 1 := e; omega
  have h6a := hb6.keep hka fun e => by have e2 : w.heap.size + 1 + 1 + 1 + 1 = w.heap.size + 1 + 1 := e; omega
  have hKa : Keep No w wa := hkwd.trans hka fun j hj e => by have e2 : j = w.heap.size + 1 + 1 := e; omega
  refine hKe _ _ ⟨fun _ => ⟨hsa, hma, (h2a.cell 32).trans HPC.out⟩, ?_⟩
  refine sig_eff (o := ⟨none, _, _, _, _, _⟩) rfl rfl (fun K hKe => ?_)
  refine wo_stAgg (.tmp 5) (.tmp 303) 52 rfl _ _ rfl rfl ?_
  refine rg_stAgg h5a (by kernel_rfl) (by rfl) (by simp [Value.oneCell']) ?_
  intro wb hBb hkb hzb
  have hsb' := hsa.keep hkb fun e => by have e2 : nb = w.heap.size + 1 + 1 + 1 := e; omega
  have hmb' := hma.keep hkb fun e => by have e2 : w.heap.size + 1 = w.heap.size + 1 + 1 + 1 := e; omega
  have h2b := h2a.keep hkb fun e => by have e2 : w.heap.size = w.heap.size + 1 + 1 + 1 := e; omega
  have h6b := h6a.keep hkb fun e => by have e2 : w.heap.size + 1 + 1 + 1 + 1 = w.heap.size + 1 + 1 + 1 := e; omega
  have hKb : Keep No w wb := hKa.trans hkb fun j hj e => by have e2 : j = w.heap.size + 1 + 1 + 1 := e; omega
  refine hKe _ _ ⟨fun _ => ⟨hsb', hmb', (h2b.cell 32).trans HPC.out⟩, ?_⟩
  refine sig_eff (o := ⟨none, _, _, _, _, _⟩) rfl rfl (fun K hKe => ?_)
  refine wo_stAgg (.tmp 6) (.tmp 304) 59 rfl _ _ rfl rfl ?_
  refine rg_stAgg h6b (by kernel_rfl) (by rfl) (by simp [Value.oneCell']) ?_
  intro wc hBc hkc hzc
  have hsc := hsb'.keep hkc fun e => by have e2 : nb = w.heap.size + 1 + 1 + 1 + 1 := e; omega
  have hmc := hmb'.keep hkc fun e => by have e2 : w.heap.size + 1 = w.heap.size + 1 + 1 + 1 + 1 := e; omega
  have h2c := h2b.keep hkc fun e => by have e2 : w.heap.size = w.heap.size + 1 + 1 + 1 + 1 := e; omega
  have hKE : Keep No w wc := hKb.trans hkc fun j hj e => by have e2 : j = w.heap.size + 1 + 1 + 1 + 1 := e; omega
  refine hKe _ _ ⟨fun _ => ⟨hsc, hmc, (h2c.cell 32).trans HPC.out⟩, sig_nil ?_⟩
  go_wp2_with fail
  refine ret_blk3 rfl rfl rfl rfl ((hBa.keep hkb fun e => by have e2 : w.heap.size + 1 + 1 = w.heap.size + 1 + 1 + 1 := e; omega).keep hkc fun e => by have e2 : w.heap.size + 1 + 1 = w.heap.size + 1 + 1 + 1 + 1 := e; omega) (hBb.keep hkc fun e => by have e2 : w.heap.size + 1 + 1 + 1 = w.heap.size + 1 + 1 + 1 + 1 := e; omega) hBc Tryz.underlying57 rfl (HSSN.out) Tryz.underlying52 rfl (by kernel_rfl) Tryz.underlying59 rfl (by kernel_rfl) rfl ?_
  have hTM := HTM.out.trans HDD.out
  cases hTM
  exact ⟨_, by rw [HCN.out]; rfl, (hF.out.no hKE).mono fun j hj ha => .inl ha, hKE⟩
set_option maxRecDepth 100000 in
set_option maxHeartbeats 8000000 in
theorem r14step_tls (s : St) (hs : StOk s) (ho : Ok m) (h : Fl A w 6 encS v m) (hA : ∀ k, A k → k < w.heap.size) (hE0 : fetchE m s.pc = 0) (hD0 : decE (fetchX m s.pc) = 0) (hset : (decI (fetchX m s.pc)).op = 39) :
    Calls Tryz.prog 20 #[.agg (cellsS s), .agg #[v]] w fun e w' => ∃ v', e = .returned (.tuple #[.agg (cellsS (stepM s m).1), .agg #[v'], encO3 (stepM s m).2.2]) ∧ Fl (Plus A w w') w' 6 encS v' (stepM s m).2.1 ∧ Keep No w w' := by
  have HE0 := Lib.hid hE0
  have HD0 := Lib.hid hD0
  have HSET := Lib.hid hset
  clear hE0 hD0 hset
  obtain ⟨av, cv, rfl, _, _⟩ := h.shape
  have hfe := fun (W : World) (hk : Keep No w W) => rvfetch_any (w := W) s.pc hs.pc (h.no hk) ho
  have htm : stepM s m = if fetchE m s.pc = 0 then if decE (fetchX m s.pc) = 0 then doM s m (decI (fetchX m s.pc)) else (s, m, ⟨3, 42, s.pc⟩) else (s, m, ⟨3, fetchE m s.pc, s.pc⟩) := rfl
  have hxl := fetchX_lt m s.pc
  generalize stepM s m = TM at *
  generalize fetchX m s.pc = X at *
  generalize fetchE m s.pc = E at *
  have hsz := cellsS_size hs
  have hss := stR_sz hs
  have hone := cellsS_one s
  have hpc := cellsS_pc hs
  unfold ru at hpc
  obtain ⟨cs, hcs⟩ : ∃ cs, cs = cellsS s := ⟨_, rfl⟩
  have HCS := Lib.hid hcs
  rw [← hcs] at hsz hss hone hpc ⊢
  have g32 : cs[32]'(by omega) = .int .u64 (s.pc : Int) := by
    have := Array.getElem?_eq_getElem (xs := cs) (i := 32) (by omega)
    rw [hpc] at this
    exact (Option.some.inj this).symm
  have HPC := Lib.hid hpc
  have HSZ := Lib.hid hss
  have HONE := Lib.hid hone
  have hF := Lib.hid h
  have hAX := Lib.hid hA
  have HTM := Lib.hid htm
  have HFE := Lib.hid hfe
  have HXL := Lib.hid hxl
  clear hcs h hA htm hfe hss hone hxl hpc
  go_enter Tryz.func20, Tryz.ntmps20
  go_wp2_with fail
  have hkW1 : Keep No w (w.alloc (.cells cs 57)) := (Keep.refl _ _).alloc _
  have hBW1 : Blk (w.alloc (.cells cs 57)) w.heap.size cs 57 := Blk.new _ _ _
  have hzW1 : (w.alloc (.cells cs 57)).heap.size = w.heap.size + 1 := World.size_alloc _ _
  generalize w.alloc (.cells cs 57) = W1 at *
  have hkW2 : Keep No W1 (W1.alloc (.cells #[.slice av m.length cv] 52)) := (Keep.refl _ _).alloc _
  have hBW2 : Blk (W1.alloc (.cells #[.slice av m.length cv] 52)) W1.heap.size #[.slice av m.length cv] 52 := Blk.new _ _ _
  have hzW2 : (W1.alloc (.cells #[.slice av m.length cv] 52)).heap.size = W1.heap.size + 1 := World.size_alloc _ _
  generalize W1.alloc (.cells #[.slice av m.length cv] 52) = W2 at *
  have hkW3 : Keep No W2 (W2.alloc (.cells #[.int .u64 0, .int .u64 0, .int .u64 0, .int .u64 0, .int .u64 0, .int .u64 0, .int .u64 0, .int .u64 0, .int .u64 0, .int .u64 0, .int .u64 0, .int .u64 0, .int .u64 0, .int .u64 0, .int .u64 0, .int .u64 0, .int .u64 0, .int .u64 0, .int .u64 0, .int .u64 0, .int .u64 0, .int .u64 0, .int .u64 0, .int .u64 0, .int .u64 0, .int .u64 0, .int .u64 0, .int .u64 0, .int .u64 0, .int .u64 0, .int .u64 0, .int .u64 0, .int .u64 0, .int .u64 0] 57)) := (Keep.refl _ _).alloc _
  have hBW3 : Blk (W2.alloc (.cells #[.int .u64 0, .int .u64 0, .int .u64 0, .int .u64 0, .int .u64 0, .int .u64 0, .int .u64 0, .int .u64 0, .int .u64 0, .int .u64 0, .int .u64 0, .int .u64 0, .int .u64 0, .int .u64 0, .int .u64 0, .int .u64 0, .int .u64 0, .int .u64 0, .int .u64 0, .int .u64 0, .int .u64 0, .int .u64 0, .int .u64 0, .int .u64 0, .int .u64 0, .int .u64 0, .int .u64 0, .int .u64 0, .int .u64 0, .int .u64 0, .int .u64 0, .int .u64 0, .int .u64 0, .int .u64 0] 57)) W2.heap.size #[.int .u64 0, .int .u64 0, .int .u64 0, .int .u64 0, .int .u64 0, .int .u64 0, .int .u64 0, .int .u64 0, .int .u64 0, .int .u64 0, .int .u64 0, .int .u64 0, .int .u64 0, .int .u64 0, .int .u64 0, .int .u64 0, .int .u64 0, .int .u64 0, .int .u64 0, .int .u64 0, .int .u64 0, .int .u64 0, .int .u64 0, .int .u64 0, .int .u64 0, .int .u64 0, .int .u64 0, .int .u64 0, .int .u64 0, .int .u64 0, .int .u64 0, .int .u64 0, .int .u64 0, .int .u64 0] 57 := Blk.new _ _ _
  have hzW3 : (W2.alloc (.cells #[.int .u64 0, .int .u64 0, .int .u64 0, .int .u64 0, .int .u64 0, .int .u64 0, .int .u64 0, .int .u64 0, .int .u64 0, .int .u64 0, .int .u64 0, .int .u64 0, .int .u64 0, .int .u64 0, .int .u64 0, .int .u64 0, .int .u64 0, .int .u64 0, .int .u64 0, .int .u64 0, .int .u64 0, .int .u64 0, .int .u64 0, .int .u64 0, .int .u64 0, .int .u64 0, .int .u64 0, .int .u64 0, .int .u64 0, .int .u64 0, .int .u64 0, .int .u64 0, .int .u64 0, .int .u64 0] 57)).heap.size = W2.heap.size + 1 := World.size_alloc _ _
  generalize W2.alloc (.cells #[.int .u64 0, .int .u64 0, .int .u64 0, .int .u64 0, .int .u64 0, .int .u64 0, .int .u64 0, .int .u64 0, .int .u64 0, .int .u64 0, .int .u64 0, .int .u64 0, .int .u64 0, .int .u64 0, .int .u64 0, .int .u64 0, .int .u64 0, .int .u64 0, .int .u64 0, .int .u64 0, .int .u64 0, .int .u64 0, .int .u64 0, .int .u64 0, .int .u64 0, .int .u64 0, .int .u64 0, .int .u64 0, .int .u64 0, .int .u64 0, .int .u64 0, .int .u64 0, .int .u64 0, .int .u64 0] 57) = W3 at *
  have hkW4 : Keep No W3 (W3.alloc (.cells #[.slice none 0 0] 52)) := (Keep.refl _ _).alloc _
  have hBW4 : Blk (W3.alloc (.cells #[.slice none 0 0] 52)) W3.heap.size #[.slice none 0 0] 52 := Blk.new _ _ _
  have hzW4 : (W3.alloc (.cells #[.slice none 0 0] 52)).heap.size = W3.heap.size + 1 := World.size_alloc _ _
  generalize W3.alloc (.cells #[.slice none 0 0] 52) = W4 at *
  have hkW5 : Keep No W4 (W4.alloc (.cells #[.int .i64 0, .int .i64 0, .int .u64 0] 59)) := (Keep.refl _ _).alloc _
  have hBW5 : Blk (W4.alloc (.cells #[.int .i64 0, .int .i64 0, .int .u64 0] 59)) W4.heap.size #[.int .i64 0, .int .i64 0, .int .u64 0] 59 := Blk.new _ _ _
  have hzW5 : (W4.alloc (.cells #[.int .i64 0, .int .i64 0, .int .u64 0] 59)).heap.size = W4.heap.size + 1 := World.size_alloc _ _
  generalize W4.alloc (.cells #[.int .i64 0, .int .i64 0, .int .u64 0] 59) = W5 at *
  rw [hzW1] at hBW2 hzW2
  rw [hzW2] at hBW3 hzW3
  rw [hzW3] at hBW4 hzW4
  rw [hzW4] at hBW5 hzW5
  have hB : RB w W5 cs (.slice av m.length cv) :=
    ⟨(((hBW1.keep hkW2 fun h => h).keep hkW3 fun h => h).keep hkW4 fun h => h).keep hkW5 fun h => h, ((hBW2.keep hkW3 fun h => h).keep hkW4 fun h => h).keep hkW5 fun h => h, (hBW3.keep hkW4 fun h => h).keep hkW5 fun h => h, hBW4.keep hkW5 fun h => h, hBW5, (((hkW1.trans' hkW2).trans' hkW3).trans' hkW4).trans' hkW5⟩
  have hcall := HFE.out W5 hB.kw
  clear hkW1 hkW2 hkW3 hkW4 hkW5 hBW1 hBW2 hBW3 hBW4 hBW5 hzW1 hzW2 hzW3 hzW4 g32
  go_wp2_with fail
  refine hcall.mono ?_
  rintro e w6 ⟨rfl, hk6⟩
  have hB6 := hB.no hk6
  clear hcall hk6 hB
  obtain rfl : E = 0 := HE0.out
  rw [if_pos rfl] at HTM
  have hdc := r12dec_any (w := w6) X HXL.out
  have hdi := fun h => dec_inok HXL.out h
  have hd42 : decE X ≠ 0 → decE X = 42 := fun h => by
    revert h
    unfold decE
    dsimp only
    split
    · intro h; exact absurd rfl h
    · intro _; rfl
  generalize decI X = I at *
  generalize decE X = D at *
  have HDI := Lib.hid hdi
  have HD42 := Lib.hid hd42
  clear hdi hd42
  obtain rfl : D = 0 := HD0.out
  rw [if_pos rfl] at HTM hdc
  obtain ⟨io, ia, ib, ic, ilo, ihi⟩ := HDI.out rfl
  obtain ⟨op, a, b, c, imm⟩ := I
  dsimp only at io ia ib ic ilo ihi
  have HIO := Lib.hid (op_cases io)
  unfold encIR at hdc
  dsimp only at hdc
  clear io HDI HD42 HFE
  go_wp2_with fail
  refine hdc.mono ?_
  rintro e w7 ⟨rfl, hk7⟩
  have hB7 := hB6.no hk7
  clear hdc hk7 hB6
  go_wp2_with (with_reducible refine wl_stAgg rfl _ _ _ rfl _ _ rfl rfl ?_)
  have hkW8 : Keep No w7 (w7.alloc (.cells #[.int .i64 0, .int .i64 0, .int .i64 0, .int .i64 0, .int .i64 0] 30)) := (Keep.refl _ _).alloc _
  have hBW8 : Blk (w7.alloc (.cells #[.int .i64 0, .int .i64 0, .int .i64 0, .int .i64 0, .int .i64 0] 30)) w7.heap.size #[.int .i64 0, .int .i64 0, .int .i64 0, .int .i64 0, .int .i64 0] 30 := Blk.new _ _ _
  have hzW8 : (w7.alloc (.cells #[.int .i64 0, .int .i64 0, .int .i64 0, .int .i64 0, .int .i64 0] 30)).heap.size = w7.heap.size + 1 := World.size_alloc _ _
  generalize w7.alloc (.cells #[.int .i64 0, .int .i64 0, .int .i64 0, .int .i64 0, .int .i64 0] 30) = W8 at *
  refine rg_stAgg hBW8 (by kernel_rfl) (by rfl) (by simp [Value.oneCell']) ?_
  intro w8 b9 hk78 hz78
  have hlib : w.heap.size + 1 + 1 + 1 + 1 < w7.heap.size := hB7.b6.lt
  have hB8 := (hB7.no hkW8).keep hk78 fun j e => by have e2 : j = w7.heap.size := e; omega
  clear hkW8 hBW8 hk78 hz78 hB7 hzW8
  go_wp2_with (with_reducible refine wl_ld rfl _ 57 rfl _ rfl ?_)
  refine rg_ld hB8.b2 Tryz.underlying57 rfl HSZ.out ?_
  go_wp2_with (with_reducible refine wl_stAgg rfl _ _ _ rfl _ _ rfl rfl ?_)
  have hkW9 : Keep No w8 (w8.alloc (.cells #[.int .u64 0, .int .u64 0, .int .u64 0, .int .u64 0, .int .u64 0, .int .u64 0, .int .u64 0, .int .u64 0, .int .u64 0, .int .u64 0, .int .u64 0, .int .u64 0, .int .u64 0, .int .u64 0, .int .u64 0, .int .u64 0, .int .u64 0, .int .u64 0, .int .u64 0, .int .u64 0, .int .u64 0, .int .u64 0, .int .u64 0, .int .u64 0, .int .u64 0, .int .u64 0, .int .u64 0, .int .u64 0, .int .u64 0, .int .u64 0, .int .u64 0, .int .u64 0, .int .u64 0, .int .u64 0] 57)) := (Keep.refl _ _).alloc _
  have hBW9 : Blk (w8.alloc (.cells #[.int .u64 0, .int .u64 0, .int .u64 0, .int .u64 0, .int .u64 0, .int .u64 0, .int .u64 0, .int .u64 0, .int .u64 0, .int .u64 0, .int .u64 0, .int .u64 0, .int .u64 0, .int .u64 0, .int .u64 0, .int .u64 0, .int .u64 0, .int .u64 0, .int .u64 0, .int .u64 0, .int .u64 0, .int .u64 0, .int .u64 0, .int .u64 0, .int .u64 0, .int .u64 0, .int .u64 0, .int .u64 0, .int .u64 0, .int .u64 0, .int .u64 0, .int .u64 0, .int .u64 0, .int .u64 0] 57)) w8.heap.size #[.int .u64 0, .int .u64 0, .int .u64 0, .int .u64 0, .int .u64 0, .int .u64 0, .int .u64 0, .int .u64 0, .int .u64 0, .int .u64 0, .int .u64 0, .int .u64 0, .int .u64 0, .int .u64 0, .int .u64 0, .int .u64 0, .int .u64 0, .int .u64 0, .int .u64 0, .int .u64 0, .int .u64 0, .int .u64 0, .int .u64 0, .int .u64 0, .int .u64 0, .int .u64 0, .int .u64 0, .int .u64 0, .int .u64 0, .int .u64 0, .int .u64 0, .int .u64 0, .int .u64 0, .int .u64 0] 57 := Blk.new _ _ _
  have hzW9 : (w8.alloc (.cells #[.int .u64 0, .int .u64 0, .int .u64 0, .int .u64 0, .int .u64 0, .int .u64 0, .int .u64 0, .int .u64 0, .int .u64 0, .int .u64 0, .int .u64 0, .int .u64 0, .int .u64 0, .int .u64 0, .int .u64 0, .int .u64 0, .int .u64 0, .int .u64 0, .int .u64 0, .int .u64 0, .int .u64 0, .int .u64 0, .int .u64 0, .int .u64 0, .int .u64 0, .int .u64 0, .int .u64 0, .int .u64 0, .int .u64 0, .int .u64 0, .int .u64 0, .int .u64 0, .int .u64 0, .int .u64 0] 57)).heap.size = w8.heap.size + 1 := World.size_alloc _ _
  generalize w8.alloc (.cells #[.int .u64 0, .int .u64 0, .int .u64 0, .int .u64 0, .int .u64 0, .int .u64 0, .int .u64 0, .int .u64 0, .int .u64 0, .int .u64 0, .int .u64 0, .int .u64 0, .int .u64 0, .int .u64 0, .int .u64 0, .int .u64 0, .int .u64 0, .int .u64 0, .int .u64 0, .int .u64 0, .int .u64 0, .int .u64 0, .int .u64 0, .int .u64 0, .int .u64 0, .int .u64 0, .int .u64 0, .int .u64 0, .int .u64 0, .int .u64 0, .int .u64 0, .int .u64 0, .int .u64 0, .int .u64 0] 57) = W9 at *
  refine rg_stAgg hBW9 HSZ.out (by rw [hsz]; rfl) HONE.out ?_
  intro w9 bn9 hk89 hz89
  have hlnb : w7.heap.size < w8.heap.size := b9.lt
  have hB9 := (hB8.no hkW9).keep hk89 fun j e => by have e2 : j = w8.heap.size := e; omega
  have b99 := (b9.keep hkW9 fun h => h).keep hk89 fun e => by have e2 : w7.heap.size = w8.heap.size := e; omega
  clear hkW9 hBW9 hk89 hz89 hB8 hzW9 b9
  obtain ⟨ib_, hib_⟩ : ∃ x, x = w7.heap.size := ⟨_, rfl⟩
  obtain ⟨nb, hnb⟩ : ∃ x, x = w8.heap.size := ⟨_, rfl⟩
  rw [← hib_] at hlib hlnb b99 ⊢
  rw [← hnb] at hlnb bn9 ⊢
  have qpc : w9.cell? ⟨w.heap.size, 32, none⟩ = some (.int .u64 (s.pc : Int)) := (hB9.b2.cell 32).trans HPC.out
  have hadd8 : IntKind.u64.wrap ((s.pc : Int) + 8) = (add s.pc 8 : Nat) := add_wrap s.pc 8
  clear hib_ hnb
  go_wp2_with (with_reducible refine wl_stInt rfl _ _ _ rfl _ _ _ rfl rfl ?_)
  refine rg_stC bn9 (by omega) u64_sz ?_
  intro wX bnX hkX hzX
  rw [HCS.out, cellsS_go hs] at bnX
  have hBX := hB9.keep hkX fun j e => by have e2 : j = nb := e; omega
  have b9X := b99.keep hkX fun e => by have e2 : ib_ = nb := e; omega
  have hs6 := hs.go (add_lt s.pc 8)
  have haz : (a : Int) < 32 := by omega
  have hbz : (b : Int) < 32 := by omega
  have hcz : (c : Int) < 32 := by omega
  have himm2 := u64_wrap2 ilo ihi
  have hul := u64_lt ilo ihi
  have g1 := cellsS_reg hs ia
  have g2 := cellsS_reg hs ib
  have g3 := cellsS_reg hs ic
  unfold ru at g1 g2 g3
  rw [← HCS.out] at g1 g2 g3
  have p0 : wX.cell? ⟨ib_, 0, none⟩ = some (.int .i64 (op : Int)) := b9X.cell 0
  have p1X : wX.cell? ⟨ib_, 1, none⟩ = some (.int .i64 (a : Int)) := b9X.cell 1
  have p2 : wX.cell? ⟨ib_, 2, none⟩ = some (.int .i64 (b : Int)) := b9X.cell 2
  have p3 : wX.cell? ⟨ib_, 3, none⟩ = some (.int .i64 (c : Int)) := b9X.cell 3
  have p4 : wX.cell? ⟨ib_, 4, none⟩ = some (.int .i64 imm) := b9X.cell 4
  have r1 : wX.cell? ⟨w.heap.size, a, none⟩ = some (.int .u64 (s.reg a : Int)) := (hBX.b2.cell _).trans g1
  have r2 : wX.cell? ⟨w.heap.size, b, none⟩ = some (.int .u64 (s.reg b : Int)) := (hBX.b2.cell _).trans g2
  have r3 : wX.cell? ⟨w.heap.size, c, none⟩ = some (.int .u64 (s.reg c : Int)) := (hBX.b2.cell _).trans g3
  have qpX : wX.cell? ⟨w.heap.size, 32, none⟩ = some (.int .u64 (s.pc : Int)) := (hBX.b2.cell 32).trans HPC.out
  clear hkX hzX hB9 b99 bn9 qpc hadd8 g1 g2 g3
  have hio := HIO.out
  clear HIO
  have hop := HSET.out
  try dsimp only at hop
  clear HSET
  subst hop
  have r5 : wX.cell? ⟨w.heap.size, 33, none⟩ = some (.int .u64 (s.tls : Int)) := by
    rw [hBX.b2.cell, HCS.out]
    exact cellsS_tls hs
  have hX := add_wrap s.tls (u64 imm)
  go_wp2_with (with_reducible refine wl_stInt rfl _ _ _ rfl _ _ _ rfl rfl ?_)
  refine rg_stC bnX (by rw [cellsS_size (hs6)]; omega) u64_sz ?_
  intro wY bnY hkx hzx
  rw [cellsS_put hs6 ia (add s.tls (u64 imm))] at bnY
  have hBY := hBX.keep hkx fun j e => by have e2 : j = nb := e; omega
  have p1Y : wY.cell? ⟨ib_, 1, none⟩ = some (.int .i64 (a : Int)) := (hkx.cell (p := ⟨ib_, 1, none⟩) (World.block_lt_of_cell? _ _ p1X) fun e => by have e2 : ib_ = nb := e; omega).trans p1X
  have q2Y : wY.cell? ⟨w.heap.size, 32, none⟩ = some (.int .u64 (s.pc : Int)) := (hBY.b2.cell 32).trans HPC.out
  clear hkx hzx bnX
  have hs7 := hs6.put a (x := add s.tls (u64 imm)) (add_lt _ _)
  clear hX r5 p1Y q2Y
  have hszN := cellsS_size (hs7)
  have hssN := stR_sz (hs7)
  have honeN := cellsS_one ((s.go (add s.pc 8)).put a (add s.tls (u64 imm)))
  have HHN := Lib.hid (hs7)
  have hbn := bnY
  have HDD := Lib.hid (do_39 s m a b c imm)
  try clear p0 p1X p2 p3 p4 r1 r2 r3 qpX
  obtain ⟨CN, hCN⟩ : ∃ C, C = cellsS ((s.go (add s.pc 8)).put a (add s.tls (u64 imm))) := ⟨_, rfl⟩
  have HCN := Lib.hid hCN
  rw [← hCN] at hszN hssN honeN hbn
  clear hCN
  have HSSN := Lib.hid hssN
  have HONEN := Lib.hid honeN
  clear hssN honeN
  have hkd := (Keep.refl No wY).drew
  have hb4 := (hBY).b4.keep hkd fun h => h
  have hb5 := (hBY).b5.keep hkd fun h => h
  have hb6 := (hBY).b6.keep hkd fun h => h
  have hb2 := (hBY).b2.keep hkd fun h => h
  have hkwd := (hBY).kw.trans' hkd
  have hsb := (hbn).keep hkd fun h => h
  have hmb := ((hBY).b3).keep hkd fun h => h
  go_wp2_with fail
  refine wp_region_sig (fun w' => Blk w' (nb) (CN) 57 ∧ Blk w' (w.heap.size + 1) #[.slice av m.length cv] 52 ∧ w'.cell? ⟨w.heap.size, 32, none⟩ = some (.int .u64 (s.pc : Int))) (fun j => decide (j ≤ 99)) [(0, true), (1, true), (2, true), (3, false), (4, false), (5, false)] (by kernel_rfl) (by kernel_rfl) (by intro c a d v w h; cases d <;> exact h) ⟨hsb, hmb, (hb2.cell 32).trans HPC.out⟩ ?_
  apply sig_still (o := ⟨some 302, _, _, _, _, _⟩) rfl rfl
  · intro w' hS
    exact run_ldoC _ _ rfl (nb) 0 rfl (run_loadVar_row w' (nb) 57 57 _ _ _ hS.1 Tryz.underlying57 rfl (HSSN.out))
  go_frame
  apply sig_still (o := ⟨some 303, _, _, _, _, _⟩) rfl rfl
  · intro w' hS
    exact run_ldoC _ _ rfl (w.heap.size + 1) 0 rfl (run_loadVar_row w' (w.heap.size + 1) 52 52 _ _ _ hS.2.1 Tryz.underlying52 rfl (by kernel_rfl))
  go_frame
  apply sig_still (o := ⟨some 304, _, _, _, _, _⟩) rfl rfl
  · intro w' hS
    obtain ⟨q1, q2, q3⟩ := hS
    first | (go_simp; done) | (go_simp; rfl) | rfl
  go_frame
  refine sig_eff (o := ⟨none, _, _, _, _, _⟩) rfl rfl (fun K hKe => ?_)
  refine wo_stAgg (.tmp 4) (.tmp 302) 57 rfl _ _ rfl rfl ?_
  refine rg_stAgg hb4 (HSSN.out) (by rw [hszN]; rfl) (HONEN.out) ?_
  intro wa hBa hka hza
  have hsa := hsb.keep hka fun e => by have e2 : nb = w.heap.size + 1 + 1 := e; omega
  have hma := hmb.keep hka fun e => by have e2 : w.heap.size + 1 = w.heap.size + 1 + 1 := e; omega
  have h2a := hb2.keep hka fun e => by have e2 : w.heap.size = w.heap.size + 1 + 1 := e; omega
  have h5a := hb5.keep hka fun e => by have e2 : w.heap.size + 1 + 1 + 1 = w.heap.size + 1 + 1 := e; omega
  have h6a := hb6.keep hka fun e => by have e2 : w.heap.size + 1 + 1 + 1 + 1 = w.heap.size + 1 + 1 := e; omega
  have hKa : Keep No w wa := hkwd.trans hka fun j hj e => by have e2 : j = w.heap.size + 1 + 1 := e; omega
  refine hKe _ _ ⟨fun _ => ⟨hsa, hma, (h2a.cell 32).trans HPC.out⟩, ?_⟩
  refine sig_eff (o := ⟨none, _, _, _, _, _⟩) rfl rfl (fun K hKe => ?_)
  refine wo_stAgg (.tmp 5) (.tmp 303) 52 rfl _ _ rfl rfl ?_
  refine rg_stAgg h5a (by kernel_rfl) (by rfl) (by simp [Value.oneCell']) ?_
  intro wb hBb hkb hzb
  have hsb' := hsa.keep hkb fun e => by have e2 : nb = w.heap.size + 1 + 1 + 1 := e; omega
  have hmb' := hma.keep hkb fun e => by have e2 : w.heap.size + 1 = w.heap.size + 1 + 1 + 1 := e; omega
  have h2b := h2a.keep hkb fun e => by have e2 : w.heap.size = w.heap.size + 1 + 1 + 1 := e; omega
  have h6b := h6a.keep hkb fun e => by have e2 : w.heap.size + 1 + 1 + 1 + 1 = w.heap.size + 1 + 1 + 1 := e; omega
  have hKb : Keep No w wb := hKa.trans hkb fun j hj e => by have e2 : j = w.heap.size + 1 + 1 + 1 := e; omega
  refine hKe _ _ ⟨fun _ => ⟨hsb', hmb', (h2b.cell 32).trans HPC.out⟩, ?_⟩
  refine sig_eff (o := ⟨none, _, _, _, _, _⟩) rfl rfl (fun K hKe => ?_)
  refine wo_stAgg (.tmp 6) (.tmp 304) 59 rfl _ _ rfl rfl ?_
  refine rg_stAgg h6b (by kernel_rfl) (by rfl) (by simp [Value.oneCell']) ?_
  intro wc hBc hkc hzc
  have hsc := hsb'.keep hkc fun e => by have e2 : nb = w.heap.size + 1 + 1 + 1 + 1 := e; omega
  have hmc := hmb'.keep hkc fun e => by have e2 : w.heap.size + 1 = w.heap.size + 1 + 1 + 1 + 1 := e; omega
  have h2c := h2b.keep hkc fun e => by have e2 : w.heap.size = w.heap.size + 1 + 1 + 1 + 1 := e; omega
  have hKE : Keep No w wc := hKb.trans hkc fun j hj e => by have e2 : j = w.heap.size + 1 + 1 + 1 + 1 := e; omega
  refine hKe _ _ ⟨fun _ => ⟨hsc, hmc, (h2c.cell 32).trans HPC.out⟩, sig_nil ?_⟩
  go_wp2_with fail
  refine ret_blk3 rfl rfl rfl rfl ((hBa.keep hkb fun e => by have e2 : w.heap.size + 1 + 1 = w.heap.size + 1 + 1 + 1 := e; omega).keep hkc fun e => by have e2 : w.heap.size + 1 + 1 = w.heap.size + 1 + 1 + 1 + 1 := e; omega) (hBb.keep hkc fun e => by have e2 : w.heap.size + 1 + 1 + 1 = w.heap.size + 1 + 1 + 1 + 1 := e; omega) hBc Tryz.underlying57 rfl (HSSN.out) Tryz.underlying52 rfl (by kernel_rfl) Tryz.underlying59 rfl (by kernel_rfl) rfl ?_
  have hTM := HTM.out.trans HDD.out
  cases hTM
  exact ⟨_, by rw [HCN.out]; rfl, (hF.out.no hKE).mono fun j hj ha => .inl ha, hKE⟩
set_option maxRecDepth 100000 in
set_option maxHeartbeats 8000000 in
theorem r14step_jp (s : St) (hs : StOk s) (ho : Ok m) (h : Fl A w 6 encS v m) (hA : ∀ k, A k → k < w.heap.size) (hE0 : fetchE m s.pc = 0) (hD0 : decE (fetchX m s.pc) = 0) (hset : 30 ≤ (decI (fetchX m s.pc)).op ∧ (decI (fetchX m s.pc)).op ≤ 33) :
    Calls Tryz.prog 20 #[.agg (cellsS s), .agg #[v]] w fun e w' => ∃ v', e = .returned (.tuple #[.agg (cellsS (stepM s m).1), .agg #[v'], encO3 (stepM s m).2.2]) ∧ Fl (Plus A w w') w' 6 encS v' (stepM s m).2.1 ∧ Keep No w w' := by
  have HE0 := Lib.hid hE0
  have HD0 := Lib.hid hD0
  have HSET := Lib.hid hset
  clear hE0 hD0 hset
  obtain ⟨av, cv, rfl, _, _⟩ := h.shape
  have hfe := fun (W : World) (hk : Keep No w W) => rvfetch_any (w := W) s.pc hs.pc (h.no hk) ho
  have htm : stepM s m = if fetchE m s.pc = 0 then if decE (fetchX m s.pc) = 0 then doM s m (decI (fetchX m s.pc)) else (s, m, ⟨3, 42, s.pc⟩) else (s, m, ⟨3, fetchE m s.pc, s.pc⟩) := rfl
  have hxl := fetchX_lt m s.pc
  generalize stepM s m = TM at *
  generalize fetchX m s.pc = X at *
  generalize fetchE m s.pc = E at *
  have hsz := cellsS_size hs
  have hss := stR_sz hs
  have hone := cellsS_one s
  have hpc := cellsS_pc hs
  unfold ru at hpc
  obtain ⟨cs, hcs⟩ : ∃ cs, cs = cellsS s := ⟨_, rfl⟩
  have HCS := Lib.hid hcs
  rw [← hcs] at hsz hss hone hpc ⊢
  have g32 : cs[32]'(by omega) = .int .u64 (s.pc : Int) := by
    have := Array.getElem?_eq_getElem (xs := cs) (i := 32) (by omega)
    rw [hpc] at this
    exact (Option.some.inj this).symm
  have HPC := Lib.hid hpc
  have HSZ := Lib.hid hss
  have HONE := Lib.hid hone
  have hF := Lib.hid h
  have hAX := Lib.hid hA
  have HTM := Lib.hid htm
  have HFE := Lib.hid hfe
  have HXL := Lib.hid hxl
  clear hcs h hA htm hfe hss hone hxl hpc
  go_enter Tryz.func20, Tryz.ntmps20
  go_wp2_with fail
  have hkW1 : Keep No w (w.alloc (.cells cs 57)) := (Keep.refl _ _).alloc _
  have hBW1 : Blk (w.alloc (.cells cs 57)) w.heap.size cs 57 := Blk.new _ _ _
  have hzW1 : (w.alloc (.cells cs 57)).heap.size = w.heap.size + 1 := World.size_alloc _ _
  generalize w.alloc (.cells cs 57) = W1 at *
  have hkW2 : Keep No W1 (W1.alloc (.cells #[.slice av m.length cv] 52)) := (Keep.refl _ _).alloc _
  have hBW2 : Blk (W1.alloc (.cells #[.slice av m.length cv] 52)) W1.heap.size #[.slice av m.length cv] 52 := Blk.new _ _ _
  have hzW2 : (W1.alloc (.cells #[.slice av m.length cv] 52)).heap.size = W1.heap.size + 1 := World.size_alloc _ _
  generalize W1.alloc (.cells #[.slice av m.length cv] 52) = W2 at *
  have hkW3 : Keep No W2 (W2.alloc (.cells #[.int .u64 0, .int .u64 0, .int .u64 0, .int .u64 0, .int .u64 0, .int .u64 0, .int .u64 0, .int .u64 0, .int .u64 0, .int .u64 0, .int .u64 0, .int .u64 0, .int .u64 0, .int .u64 0, .int .u64 0, .int .u64 0, .int .u64 0, .int .u64 0, .int .u64 0, .int .u64 0, .int .u64 0, .int .u64 0, .int .u64 0, .int .u64 0, .int .u64 0, .int .u64 0, .int .u64 0, .int .u64 0, .int .u64 0, .int .u64 0, .int .u64 0, .int .u64 0, .int .u64 0, .int .u64 0] 57)) := (Keep.refl _ _).alloc _
  have hBW3 : Blk (W2.alloc (.cells #[.int .u64 0, .int .u64 0, .int .u64 0, .int .u64 0, .int .u64 0, .int .u64 0, .int .u64 0, .int .u64 0, .int .u64 0, .int .u64 0, .int .u64 0, .int .u64 0, .int .u64 0, .int .u64 0, .int .u64 0, .int .u64 0, .int .u64 0, .int .u64 0, .int .u64 0, .int .u64 0, .int .u64 0, .int .u64 0, .int .u64 0, .int .u64 0, .int .u64 0, .int .u64 0, .int .u64 0, .int .u64 0, .int .u64 0, .int .u64 0, .int .u64 0, .int .u64 0, .int .u64 0, .int .u64 0] 57)) W2.heap.size #[.int .u64 0, .int .u64 0, .int .u64 0, .int .u64 0, .int .u64 0, .int .u64 0, .int .u64 0, .int .u64 0, .int .u64 0, .int .u64 0, .int .u64 0, .int .u64 0, .int .u64 0, .int .u64 0, .int .u64 0, .int .u64 0, .int .u64 0, .int .u64 0, .int .u64 0, .int .u64 0, .int .u64 0, .int .u64 0, .int .u64 0, .int .u64 0, .int .u64 0, .int .u64 0, .int .u64 0, .int .u64 0, .int .u64 0, .int .u64 0, .int .u64 0, .int .u64 0, .int .u64 0, .int .u64 0] 57 := Blk.new _ _ _
  have hzW3 : (W2.alloc (.cells #[.int .u64 0, .int .u64 0, .int .u64 0, .int .u64 0, .int .u64 0, .int .u64 0, .int .u64 0, .int .u64 0, .int .u64 0, .int .u64 0, .int .u64 0, .int .u64 0, .int .u64 0, .int .u64 0, .int .u64 0, .int .u64 0, .int .u64 0, .int .u64 0, .int .u64 0, .int .u64 0, .int .u64 0, .int .u64 0, .int .u64 0, .int .u64 0, .int .u64 0, .int .u64 0, .int .u64 0, .int .u64 0, .int .u64 0, .int .u64 0, .int .u64 0, .int .u64 0, .int .u64 0, .int .u64 0] 57)).heap.size = W2.heap.size + 1 := World.size_alloc _ _
  generalize W2.alloc (.cells #[.int .u64 0, .int .u64 0, .int .u64 0, .int .u64 0, .int .u64 0, .int .u64 0, .int .u64 0, .int .u64 0, .int .u64 0, .int .u64 0, .int .u64 0, .int .u64 0, .int .u64 0, .int .u64 0, .int .u64 0, .int .u64 0, .int .u64 0, .int .u64 0, .int .u64 0, .int .u64 0, .int .u64 0, .int .u64 0, .int .u64 0, .int .u64 0, .int .u64 0, .int .u64 0, .int .u64 0, .int .u64 0, .int .u64 0, .int .u64 0, .int .u64 0, .int .u64 0, .int .u64 0, .int .u64 0] 57) = W3 at *
  have hkW4 : Keep No W3 (W3.alloc (.cells #[.slice none 0 0] 52)) := (Keep.refl _ _).alloc _
  have hBW4 : Blk (W3.alloc (.cells #[.slice none 0 0] 52)) W3.heap.size #[.slice none 0 0] 52 := Blk.new _ _ _
  have hzW4 : (W3.alloc (.cells #[.slice none 0 0] 52)).heap.size = W3.heap.size + 1 := World.size_alloc _ _
  generalize W3.alloc (.cells #[.slice none 0 0] 52) = W4 at *
  have hkW5 : Keep No W4 (W4.alloc (.cells #[.int .i64 0, .int .i64 0, .int .u64 0] 59)) := (Keep.refl _ _).alloc _
  have hBW5 : Blk (W4.alloc (.cells #[.int .i64 0, .int .i64 0, .int .u64 0] 59)) W4.heap.size #[.int .i64 0, .int .i64 0, .int .u64 0] 59 := Blk.new _ _ _
  have hzW5 : (W4.alloc (.cells #[.int .i64 0, .int .i64 0, .int .u64 0] 59)).heap.size = W4.heap.size + 1 := World.size_alloc _ _
  generalize W4.alloc (.cells #[.int .i64 0, .int .i64 0, .int .u64 0] 59) = W5 at *
  rw [hzW1] at hBW2 hzW2
  rw [hzW2] at hBW3 hzW3
  rw [hzW3] at hBW4 hzW4
  rw [hzW4] at hBW5 hzW5
  have hB : RB w W5 cs (.slice av m.length cv) :=
    ⟨(((hBW1.keep hkW2 fun h => h).keep hkW3 fun h => h).keep hkW4 fun h => h).keep hkW5 fun h => h, ((hBW2.keep hkW3 fun h => h).keep hkW4 fun h => h).keep hkW5 fun h => h, (hBW3.keep hkW4 fun h => h).keep hkW5 fun h => h, hBW4.keep hkW5 fun h => h, hBW5, (((hkW1.trans' hkW2).trans' hkW3).trans' hkW4).trans' hkW5⟩
  have hcall := HFE.out W5 hB.kw
  clear hkW1 hkW2 hkW3 hkW4 hkW5 hBW1 hBW2 hBW3 hBW4 hBW5 hzW1 hzW2 hzW3 hzW4 g32
  go_wp2_with fail
  refine hcall.mono ?_
  rintro e w6 ⟨rfl, hk6⟩
  have hB6 := hB.no hk6
  clear hcall hk6 hB
  obtain rfl : E = 0 := HE0.out
  rw [if_pos rfl] at HTM
  have hdc := r12dec_any (w := w6) X HXL.out
  have hdi := fun h => dec_inok HXL.out h
  have hd42 : decE X ≠ 0 → decE X = 42 := fun h => by
    revert h
    unfold decE
    dsimp only
    split
    · intro h; exact absurd rfl h
    · intro _; rfl
  generalize decI X = I at *
  generalize decE X = D at *
  have HDI := Lib.hid hdi
  have HD42 := Lib.hid hd42
  clear hdi hd42
  obtain rfl : D = 0 := HD0.out
  rw [if_pos rfl] at HTM hdc
  obtain ⟨io, ia, ib, ic, ilo, ihi⟩ := HDI.out rfl
  obtain ⟨op, a, b, c, imm⟩ := I
  dsimp only at io ia ib ic ilo ihi
  have HIO := Lib.hid (op_cases io)
  unfold encIR at hdc
  dsimp only at hdc
  clear io HDI HD42 HFE
  go_wp2_with fail
  refine hdc.mono ?_
  rintro e w7 ⟨rfl, hk7⟩
  have hB7 := hB6.no hk7
  clear hdc hk7 hB6
  go_wp2_with (with_reducible refine wl_stAgg rfl _ _ _ rfl _ _ rfl rfl ?_)
  have hkW8 : Keep No w7 (w7.alloc (.cells #[.int .i64 0, .int .i64 0, .int .i64 0, .int .i64 0, .int .i64 0] 30)) := (Keep.refl _ _).alloc _
  have hBW8 : Blk (w7.alloc (.cells #[.int .i64 0, .int .i64 0, .int .i64 0, .int .i64 0, .int .i64 0] 30)) w7.heap.size #[.int .i64 0, .int .i64 0, .int .i64 0, .int .i64 0, .int .i64 0] 30 := Blk.new _ _ _
  have hzW8 : (w7.alloc (.cells #[.int .i64 0, .int .i64 0, .int .i64 0, .int .i64 0, .int .i64 0] 30)).heap.size = w7.heap.size + 1 := World.size_alloc _ _
  generalize w7.alloc (.cells #[.int .i64 0, .int .i64 0, .int .i64 0, .int .i64 0, .int .i64 0] 30) = W8 at *
  refine rg_stAgg hBW8 (by kernel_rfl) (by rfl) (by simp [Value.oneCell']) ?_
  intro w8 b9 hk78 hz78
  have hlib : w.heap.size + 1 + 1 + 1 + 1 < w7.heap.size := hB7.b6.lt
  have hB8 := (hB7.no hkW8).keep hk78 fun j e => by have e2 : j = w7.heap.size := e; omega
  clear hkW8 hBW8 hk78 hz78 hB7 hzW8
  go_wp2_with (with_reducible refine wl_ld rfl _ 57 rfl _ rfl ?_)
  refine rg_ld hB8.b2 Tryz.underlying57 rfl HSZ.out ?_
  go_wp2_with (with_reducible refine wl_stAgg rfl _ _ _ rfl _ _ rfl rfl ?_)
  have hkW9 : Keep No w8 (w8.alloc (.cells #[.int .u64 0, .int .u64 0, .int .u64 0, .int .u64 0, .int .u64 0, .int .u64 0, .int .u64 0, .int .u64 0, .int .u64 0, .int .u64 0, .int .u64 0, .int .u64 0, .int .u64 0, .int .u64 0, .int .u64 0, .int .u64 0, .int .u64 0, .int .u64 0, .int .u64 0, .int .u64 0, .int .u64 0, .int .u64 0, .int .u64 0, .int .u64 0, .int .u64 0, .int .u64 0, .int .u64 0, .int .u64 0, .int .u64 0, .int .u64 0, .int .u64 0, .int .u64 0, .int .u64 0, .int .u64 0] 57)) := (Keep.refl _ _).alloc _
  have hBW9 : Blk (w8.alloc (.cells #[.int .u64 0, .int .u64 0, .int .u64 0, .int .u64 0, .int .u64 0, .int .u64 0, .int .u64 0, .int .u64 0, .int .u64 0, .int .u64 0, .int .u64 0, .int .u64 0, .int .u64 0, .int .u64 0, .int .u64 0, .int .u64 0, .int .u64 0, .int .u64 0, .int .u64 0, .int .u64 0, .int .u64 0, .int .u64 0, .int .u64 0, .int .u64 0, .int .u64 0, .int .u64 0, .int .u64 0, .int .u64 0, .int .u64 0, .int .u64 0, .int .u64 0, .int .u64 0, .int .u64 0, .int .u64 0] 57)) w8.heap.size #[.int .u64 0, .int .u64 0, .int .u64 0, .int .u64 0, .int .u64 0, .int .u64 0, .int .u64 0, .int .u64 0, .int .u64 0, .int .u64 0, .int .u64 0, .int .u64 0, .int .u64 0, .int .u64 0, .int .u64 0, .int .u64 0, .int .u64 0, .int .u64 0, .int .u64 0, .int .u64 0, .int .u64 0, .int .u64 0, .int .u64 0, .int .u64 0, .int .u64 0, .int .u64 0, .int .u64 0, .int .u64 0, .int .u64 0, .int .u64 0, .int .u64 0, .int .u64 0, .int .u64 0, .int .u64 0] 57 := Blk.new _ _ _
  have hzW9 : (w8.alloc (.cells #[.int .u64 0, .int .u64 0, .int .u64 0, .int .u64 0, .int .u64 0, .int .u64 0, .int .u64 0, .int .u64 0, .int .u64 0, .int .u64 0, .int .u64 0, .int .u64 0, .int .u64 0, .int .u64 0, .int .u64 0, .int .u64 0, .int .u64 0, .int .u64 0, .int .u64 0, .int .u64 0, .int .u64 0, .int .u64 0, .int .u64 0, .int .u64 0, .int .u64 0, .int .u64 0, .int .u64 0, .int .u64 0, .int .u64 0, .int .u64 0, .int .u64 0, .int .u64 0, .int .u64 0, .int .u64 0] 57)).heap.size = w8.heap.size + 1 := World.size_alloc _ _
  generalize w8.alloc (.cells #[.int .u64 0, .int .u64 0, .int .u64 0, .int .u64 0, .int .u64 0, .int .u64 0, .int .u64 0, .int .u64 0, .int .u64 0, .int .u64 0, .int .u64 0, .int .u64 0, .int .u64 0, .int .u64 0, .int .u64 0, .int .u64 0, .int .u64 0, .int .u64 0, .int .u64 0, .int .u64 0, .int .u64 0, .int .u64 0, .int .u64 0, .int .u64 0, .int .u64 0, .int .u64 0, .int .u64 0, .int .u64 0, .int .u64 0, .int .u64 0, .int .u64 0, .int .u64 0, .int .u64 0, .int .u64 0] 57) = W9 at *
  refine rg_stAgg hBW9 HSZ.out (by rw [hsz]; rfl) HONE.out ?_
  intro w9 bn9 hk89 hz89
  have hlnb : w7.heap.size < w8.heap.size := b9.lt
  have hB9 := (hB8.no hkW9).keep hk89 fun j e => by have e2 : j = w8.heap.size := e; omega
  have b99 := (b9.keep hkW9 fun h => h).keep hk89 fun e => by have e2 : w7.heap.size = w8.heap.size := e; omega
  clear hkW9 hBW9 hk89 hz89 hB8 hzW9 b9
  obtain ⟨ib_, hib_⟩ : ∃ x, x = w7.heap.size := ⟨_, rfl⟩
  obtain ⟨nb, hnb⟩ : ∃ x, x = w8.heap.size := ⟨_, rfl⟩
  rw [← hib_] at hlib hlnb b99 ⊢
  rw [← hnb] at hlnb bn9 ⊢
  have qpc : w9.cell? ⟨w.heap.size, 32, none⟩ = some (.int .u64 (s.pc : Int)) := (hB9.b2.cell 32).trans HPC.out
  have hadd8 : IntKind.u64.wrap ((s.pc : Int) + 8) = (add s.pc 8 : Nat) := add_wrap s.pc 8
  clear hib_ hnb
  go_wp2_with (with_reducible refine wl_stInt rfl _ _ _ rfl _ _ _ rfl rfl ?_)
  refine rg_stC bn9 (by omega) u64_sz ?_
  intro wX bnX hkX hzX
  rw [HCS.out, cellsS_go hs] at bnX
  have hBX := hB9.keep hkX fun j e => by have e2 : j = nb := e; omega
  have b9X := b99.keep hkX fun e => by have e2 : ib_ = nb := e; omega
  have hs6 := hs.go (add_lt s.pc 8)
  have haz : (a : Int) < 32 := by omega
  have hbz : (b : Int) < 32 := by omega
  have hcz : (c : Int) < 32 := by omega
  have himm2 := u64_wrap2 ilo ihi
  have hul := u64_lt ilo ihi
  have g1 := cellsS_reg hs ia
  have g2 := cellsS_reg hs ib
  have g3 := cellsS_reg hs ic
  unfold ru at g1 g2 g3
  rw [← HCS.out] at g1 g2 g3
  have p0 : wX.cell? ⟨ib_, 0, none⟩ = some (.int .i64 (op : Int)) := b9X.cell 0
  have p1X : wX.cell? ⟨ib_, 1, none⟩ = some (.int .i64 (a : Int)) := b9X.cell 1
  have p2 : wX.cell? ⟨ib_, 2, none⟩ = some (.int .i64 (b : Int)) := b9X.cell 2
  have p3 : wX.cell? ⟨ib_, 3, none⟩ = some (.int .i64 (c : Int)) := b9X.cell 3
  have p4 : wX.cell? ⟨ib_, 4, none⟩ = some (.int .i64 imm) := b9X.cell 4
  have r1 : wX.cell? ⟨w.heap.size, a, none⟩ = some (.int .u64 (s.reg a : Int)) := (hBX.b2.cell _).trans g1
  have r2 : wX.cell? ⟨w.heap.size, b, none⟩ = some (.int .u64 (s.reg b : Int)) := (hBX.b2.cell _).trans g2
  have r3 : wX.cell? ⟨w.heap.size, c, none⟩ = some (.int .u64 (s.reg c : Int)) := (hBX.b2.cell _).trans g3
  have qpX : wX.cell? ⟨w.heap.size, 32, none⟩ = some (.int .u64 (s.pc : Int)) := (hBX.b2.cell 32).trans HPC.out
  clear hkX hzX hB9 b99 bn9 qpc hadd8 g1 g2 g3
  have hio := HIO.out
  clear HIO
  have hop := HSET.out
  try dsimp only at hop
  clear HSET
  have n2 : ((op : Int) == 2) = false := by simp; omega
  have n16 : ((op : Int) == 16) = false := by simp; omega
  have n17 : ((op : Int) == 17) = false := by simp; omega
  have n18 : ((op : Int) == 18) = false := by simp; omega
  have n3 : (op : Int) ≥ 3 := by omega
  have n15 : (15 : Int) < (op : Int) := by omega
  have n23 : (23 : Int) < (op : Int) := by omega
  have n27 : (27 : Int) < (op : Int) := by omega
  have n20 : (op : Int) ≥ 20 := by omega
  have n24 : (op : Int) ≥ 24 := by omega
  have n30 : (op : Int) ≥ 30 := by omega
  have n33 : (op : Int) ≤ 33 := by omega
  have hcall := fun (W : World) => r14jumps_any (w := W) op (s.reg a) (s.reg b) hop (hs.reg a) (hs.reg b)
  have hdd := do_jp s m op a b c imm hop
  generalize jumpsM op (s.reg a) (s.reg b) = jb at *
  have HDD := Lib.hid hdd
  have HCALL := Lib.hid hcall
  have hX := add_wrap s.pc (u64 imm)
  clear hcall hdd hop
  go_wp2_with fail
  refine (HCALL.out wX).mono ?_
  rintro e w6 ⟨rfl, rfl⟩
  clear HCALL
  cases jb with
  | true =>
    go_wp2_with (with_reducible refine wl_stInt rfl _ _ _ rfl _ _ _ rfl rfl ?_)
    refine rg_stC bnX (by rw [cellsS_size (hs6)]; omega) u64_sz ?_
    intro wY bnY hkx hzx
    rw [cellsS_go hs6 (add s.pc (u64 imm))] at bnY
    have hBY := hBX.keep hkx fun j e => by have e2 : j = nb := e; omega
    have p1Y : wY.cell? ⟨ib_, 1, none⟩ = some (.int .i64 (a : Int)) := (hkx.cell (p := ⟨ib_, 1, none⟩) (World.block_lt_of_cell? _ _ p1X) fun e => by have e2 : ib_ = nb := e; omega).trans p1X
    have q2Y : wY.cell? ⟨w.heap.size, 32, none⟩ = some (.int .u64 (s.pc : Int)) := (hBY.b2.cell 32).trans HPC.out
    clear hkx hzx bnX
    have hs7 := hs6.go (p := add s.pc (u64 imm)) (add_lt _ _)
    clear hX p1Y q2Y
    have hszN := cellsS_size (hs7)
    have hssN := stR_sz (hs7)
    have honeN := cellsS_one ((s.go (add s.pc 8)).go (add s.pc (u64 imm)))
    have HHN := Lib.hid (hs7)
    have hbn := bnY
    have HDD := Lib.hid (HDD.out)
    try clear p0 p1X p2 p3 p4 r1 r2 r3 qpX
    obtain ⟨CN, hCN⟩ : ∃ C, C = cellsS ((s.go (add s.pc 8)).go (add s.pc (u64 imm))) := ⟨_, rfl⟩
    have HCN := Lib.hid hCN
    rw [← hCN] at hszN hssN honeN hbn
    clear hCN
    have HSSN := Lib.hid hssN
    have HONEN := Lib.hid honeN
    clear hssN honeN
    have hkd := (Keep.refl No wY).drew
    have hb4 := (hBY).b4.keep hkd fun h => h
    have hb5 := (hBY).b5.keep hkd fun h => h
    have hb6 := (hBY).b6.keep hkd fun h => h
    have hb2 := (hBY).b2.keep hkd fun h => h
    have hkwd := (hBY).kw.trans' hkd
    have hsb := (hbn).keep hkd fun h => h
    have hmb := ((hBY).b3).keep hkd fun h => h
    go_wp2_with fail
    refine wp_region_sig (fun w' => Blk w' (nb) (CN) 57 ∧ Blk w' (w.heap.size + 1) #[.slice av m.length cv] 52 ∧ w'.cell? ⟨w.heap.size, 32, none⟩ = some (.int .u64 (s.pc : Int))) (fun j => decide (j ≤ 99)) [(0, true), (1, true), (2, true), (3, false), (4, false), (5, false)] (by kernel_rfl) (by kernel_rfl) (by intro c a d v w h; cases d <;> exact h) ⟨hsb, hmb, (hb2.cell 32).trans HPC.out⟩ ?_
    apply sig_still (o := ⟨some 302, _, _, _, _, _⟩) rfl rfl
    · intro w' hS
      exact run_ldoC _ _ rfl (nb) 0 rfl (run_loadVar_row w' (nb) 57 57 _ _ _ hS.1 Tryz.underlying57 rfl (HSSN.out))
    go_frame
    apply sig_still (o := ⟨some 303, _, _, _, _, _⟩) rfl rfl
    · intro w' hS
      exact run_ldoC _ _ rfl (w.heap.size + 1) 0 rfl (run_loadVar_row w' (w.heap.size + 1) 52 52 _ _ _ hS.2.1 Tryz.underlying52 rfl (by kernel_rfl))
    go_frame
    apply sig_still (o := ⟨some 304, _, _, _, _, _⟩) rfl rfl
    · intro w' hS
      obtain ⟨q1, q2, q3⟩ := hS
      first | (go_simp; done) | (go_simp; rfl) | rfl
    go_frame
    refine sig_eff (o := ⟨none, _, _, _, _, _⟩) rfl rfl (fun K hKe => ?_)
    refine wo_stAgg (.tmp 4) (.tmp 302) 57 rfl _ _ rfl rfl ?_
    refine rg_stAgg hb4 (HSSN.out) (by rw [hszN]; rfl) (HONEN.out) ?_
    intro wa hBa hka hza
    have hsa := hsb.keep hka fun e => by have e2 : nb = w.heap.size + 1 + 1 := e; omega
    have hma := hmb.keep hka fun e => by have e2 : w.heap.size + 1 = w.heap.size + 1 + 1 := e; omega
    have h2a := hb2.keep hka fun e => by have e2 : w.heap.size = w.heap.size + 1 + 1 := e; omega
    have h5a := hb5.keep hka fun e => by have e2 : w.heap.size + 1 + 1 + 1 = w.heap.size + 1 + 1 := e; omega
    have h6a := hb6.keep hka fun e => by have e2 : w.heap.size + 1 + 1 + 1 + 1 = w.heap.size + 1 + 1 := e; omega
    have hKa : Keep No w wa := hkwd.trans hka fun j hj e => by have e2 : j = w.heap.size + 1 + 1 := e; omega
    refine hKe _ _ ⟨fun _ => ⟨hsa, hma, (h2a.cell 32).trans HPC.out⟩, ?_⟩
    refine sig_eff (o := ⟨none, _, _, _, _, _⟩) rfl rfl (fun K hKe => ?_)
    refine wo_stAgg (.tmp 5) (.tmp 303) 52 rfl _ _ rfl rfl ?_
    refine rg_stAgg h5a (by kernel_rfl) (by rfl) (by simp [Value.oneCell']) ?_
    intro wb hBb hkb hzb
    have hsb' := hsa.keep hkb fun e => by have e2 : nb = w.heap.size + 1 + 1 + 1 := e; omega
    have hmb' := hma.keep hkb fun e => by have e2 : w.heap.size + 1 = w.heap.size + 1 + 1 + 1 := e; omega
    have h2b := h2a.keep hkb fun e => by have e2 : w.heap.size = w.heap.size + 1 + 1 + 1 := e; omega
    have h6b := h6a.keep hkb fun e => by have e2 : w.heap.size + 1 + 1 + 1 + 1 = w.heap.size + 1 + 1 + 1 := e; omega
    have hKb : Keep No w wb := hKa.trans hkb fun j hj e => by have e2 : j = w.heap.size + 1 + 1 + 1 := e; omega
    refine hKe _ _ ⟨fun _ => ⟨hsb', hmb', (h2b.cell 32).trans HPC.out⟩, ?_⟩
    refine sig_eff (o := ⟨none, _, _, _, _, _⟩) rfl rfl (fun K hKe => ?_)
    refine wo_stAgg (.tmp 6) (.tmp 304) 59 rfl _ _ rfl rfl ?_
    refine rg_stAgg h6b (by kernel_rfl) (by rfl) (by simp [Value.oneCell']) ?_
    intro wc hBc hkc hzc
    have hsc := hsb'.keep hkc fun e => by have e2 : nb = w.heap.size + 1 + 1 + 1 + 1 := e; omega
    have hmc := hmb'.keep hkc fun e => by have e2 : w.heap.size + 1 = w.heap.size + 1 + 1 + 1 + 1 := e; omega
    have h2c := h2b.keep hkc fun e => by have e2 : w.heap.size = w.heap.size + 1 + 1 + 1 + 1 := e; omega
    have hKE : Keep No w wc := hKb.trans hkc fun j hj e => by have e2 : j = w.heap.size + 1 + 1 + 1 + 1 := e; omega
    refine hKe _ _ ⟨fun _ => ⟨hsc, hmc, (h2c.cell 32).trans HPC.out⟩, sig_nil ?_⟩
    go_wp2_with fail
    refine ret_blk3 rfl rfl rfl rfl ((hBa.keep hkb fun e => by have e2 : w.heap.size + 1 + 1 = w.heap.size + 1 + 1 + 1 := e; omega).keep hkc fun e => by have e2 : w.heap.size + 1 + 1 = w.heap.size + 1 + 1 + 1 + 1 := e; omega) (hBb.keep hkc fun e => by have e2 : w.heap.size + 1 + 1 + 1 = w.heap.size + 1 + 1 + 1 + 1 := e; omega) hBc Tryz.underlying57 rfl (HSSN.out) Tryz.underlying52 rfl (by kernel_rfl) Tryz.underlying59 rfl (by kernel_rfl) rfl ?_
    have hTM := HTM.out.trans HDD.out
    cases hTM
    exact ⟨_, by rw [HCN.out]; rfl, (hF.out.no hKE).mono fun j hj ha => .inl ha, hKE⟩
  | false =>
    clear hX
    go_wp2_with fail
    have hszN := cellsS_size (hs6)
    have hssN := stR_sz (hs6)
    have honeN := cellsS_one (s.go (add s.pc 8))
    have HHN := Lib.hid (hs6)
    have hbn := bnX
    have HDD := Lib.hid (HDD.out)
    try clear p0 p1X p2 p3 p4 r1 r2 r3 qpX
    obtain ⟨CN, hCN⟩ : ∃ C, C = cellsS (s.go (add s.pc 8)) := ⟨_, rfl⟩
    have HCN := Lib.hid hCN
    rw [← hCN] at hszN hssN honeN hbn
    clear hCN
    have HSSN := Lib.hid hssN
    have HONEN := Lib.hid honeN
    clear hssN honeN
    have hkd := (Keep.refl No wX).drew
    have hb4 := (hBX).b4.keep hkd fun h => h
    have hb5 := (hBX).b5.keep hkd fun h => h
    have hb6 := (hBX).b6.keep hkd fun h => h
    have hb2 := (hBX).b2.keep hkd fun h => h
    have hkwd := (hBX).kw.trans' hkd
    have hsb := (hbn).keep hkd fun h => h
    have hmb := ((hBX).b3).keep hkd fun h => h
    go_wp2_with fail
    refine wp_region_sig (fun w' => Blk w' (nb) (CN) 57 ∧ Blk w' (w.heap.size + 1) #[.slice av m.length cv] 52 ∧ w'.cell? ⟨w.heap.size, 32, none⟩ = some (.int .u64 (s.pc : Int))) (fun j => decide (j ≤ 99)) [(0, true), (1, true), (2, true), (3, false), (4, false), (5, false)] (by kernel_rfl) (by kernel_rfl) (by intro c a d v w h; cases d <;> exact h) ⟨hsb, hmb, (hb2.cell 32).trans HPC.out⟩ ?_
    apply sig_still (o := ⟨some 302, _, _, _, _, _⟩) rfl rfl
    · intro w' hS
      exact run_ldoC _ _ rfl (nb) 0 rfl (run_loadVar_row w' (nb) 57 57 _ _ _ hS.1 Tryz.underlying57 rfl (HSSN.out))
    go_frame
    apply sig_still (o := ⟨some 303, _, _, _, _, _⟩) rfl rfl
    · intro w' hS
      exact run_ldoC _ _ rfl (w.heap.size + 1) 0 rfl (run_loadVar_row w' (w.heap.size + 1) 52 52 _ _ _ hS.2.1 Tryz.underlying52 rfl (by kernel_rfl))
    go_frame
    apply sig_still (o := ⟨some 304, _, _, _, _, _⟩) rfl rfl
    · intro w' hS
      obtain ⟨q1, q2, q3⟩ := hS
      first | (go_simp; done) | (go_simp; rfl) | rfl
    go_frame
    refine sig_eff (o := ⟨none, _, _, _, _, _⟩) rfl rfl (fun K hKe => ?_)
    refine wo_stAgg (.tmp 4) (.tmp 302) 57 rfl _ _ rfl rfl ?_
    refine rg_stAgg hb4 (HSSN.out) (by rw [hszN]; rfl) (HONEN.out) ?_
    intro wa hBa hka hza
    have hsa := hsb.keep hka fun e => by have e2 : nb = w.heap.size + 1 + 1 := e; omega
    have hma := hmb.keep hka fun e => by have e2 : w.heap.size + 1 = w.heap.size + 1 + 1 := e; omega
    have h2a := hb2.keep hka fun e => by have e2 : w.heap.size = w.heap.size + 1 + 1 := e; omega
    have h5a := hb5.keep hka fun e => by have e2 : w.heap.size + 1 + 1 + 1 = w.heap.size + 1 + 1 := e; omega
    have h6a := hb6.keep hka fun e => by have e2 : w.heap.size + 1 + 1 + 1 + 1 = w.heap.size + 1 + 1 := e; omega
    have hKa : Keep No w wa := hkwd.trans hka fun j hj e => by have e2 : j = w.heap.size + 1 + 1 := e; omega
    refine hKe _ _ ⟨fun _ => ⟨hsa, hma, (h2a.cell 32).trans HPC.out⟩, ?_⟩
    refine sig_eff (o := ⟨none, _, _, _, _, _⟩) rfl rfl (fun K hKe => ?_)
    refine wo_stAgg (.tmp 5) (.tmp 303) 52 rfl _ _ rfl rfl ?_
    refine rg_stAgg h5a (by kernel_rfl) (by rfl) (by simp [Value.oneCell']) ?_
    intro wb hBb hkb hzb
    have hsb' := hsa.keep hkb fun e => by have e2 : nb = w.heap.size + 1 + 1 + 1 := e; omega
    have hmb' := hma.keep hkb fun e => by have e2 : w.heap.size + 1 = w.heap.size + 1 + 1 + 1 := e; omega
    have h2b := h2a.keep hkb fun e => by have e2 : w.heap.size = w.heap.size + 1 + 1 + 1 := e; omega
    have h6b := h6a.keep hkb fun e => by have e2 : w.heap.size + 1 + 1 + 1 + 1 = w.heap.size + 1 + 1 + 1 := e; omega
    have hKb : Keep No w wb := hKa.trans hkb fun j hj e => by have e2 : j = w.heap.size + 1 + 1 + 1 := e; omega
    refine hKe _ _ ⟨fun _ => ⟨hsb', hmb', (h2b.cell 32).trans HPC.out⟩, ?_⟩
    refine sig_eff (o := ⟨none, _, _, _, _, _⟩) rfl rfl (fun K hKe => ?_)
    refine wo_stAgg (.tmp 6) (.tmp 304) 59 rfl _ _ rfl rfl ?_
    refine rg_stAgg h6b (by kernel_rfl) (by rfl) (by simp [Value.oneCell']) ?_
    intro wc hBc hkc hzc
    have hsc := hsb'.keep hkc fun e => by have e2 : nb = w.heap.size + 1 + 1 + 1 + 1 := e; omega
    have hmc := hmb'.keep hkc fun e => by have e2 : w.heap.size + 1 = w.heap.size + 1 + 1 + 1 + 1 := e; omega
    have h2c := h2b.keep hkc fun e => by have e2 : w.heap.size = w.heap.size + 1 + 1 + 1 + 1 := e; omega
    have hKE : Keep No w wc := hKb.trans hkc fun j hj e => by have e2 : j = w.heap.size + 1 + 1 + 1 + 1 := e; omega
    refine hKe _ _ ⟨fun _ => ⟨hsc, hmc, (h2c.cell 32).trans HPC.out⟩, sig_nil ?_⟩
    go_wp2_with fail
    refine ret_blk3 rfl rfl rfl rfl ((hBa.keep hkb fun e => by have e2 : w.heap.size + 1 + 1 = w.heap.size + 1 + 1 + 1 := e; omega).keep hkc fun e => by have e2 : w.heap.size + 1 + 1 = w.heap.size + 1 + 1 + 1 + 1 := e; omega) (hBb.keep hkc fun e => by have e2 : w.heap.size + 1 + 1 + 1 = w.heap.size + 1 + 1 + 1 + 1 := e; omega) hBc Tryz.underlying57 rfl (HSSN.out) Tryz.underlying52 rfl (by kernel_rfl) Tryz.underlying59 rfl (by kernel_rfl) rfl ?_
    have hTM := HTM.out.trans HDD.out
    cases hTM
    exact ⟨_, by rw [HCN.out]; rfl, (hF.out.no hKE).mono fun j hj ha => .inl ha, hKE⟩
end
end Go.Proofs.YtaoillfofiehpaaGreatDoor
