/- cpu: Step. Words as bytes (code); a step without memory. A struct of numbers is itself: ==, != of one value; guarded loads of a whole block. The document's functions on lists of pages (chapter 13), as plain lists: they make what the model makes. Laws of memory in pages, in plain lists: what is stored is loaded; all else stays. No condition. -/
import Derived.Test.YtaoillfofiehpaaGreatDoorCpu6
import Derived.Test.YtaoillfofiehpaaGreatDoorVmP
import Derived.Laws.StructEq
import Derived.Laws.Tables
import Derived.Test.YtaoillfofiehpaaGreatDoorVmS
set_option linter.unusedVariables false
set_option linter.unusedSimpArgs false
namespace Go.Proofs.YtaoillfofiehpaaGreatDoor
open Go.RowKit Go.Dm Go.Dm.Vm Go.Dm.Cp Go.Maps
theorem dec_inok {x : Nat} (hx : x < 18446744073709551616) (h : decE x = 0) : InOk (decI x) := by
  obtain ⟨d1, d2, d3, d4⟩ := dec_fits x
  obtain ⟨i1, i2⟩ := dec_may_imm x hx
  refine ⟨?_, d2, d3, d4, i1, i2⟩
  unfold decE at h
  dsimp only at h
  split at h
  · rename_i hh
    rw [Bool.and_eq_true, may_eq ⟨i1, i2⟩] at hh
    exact (may_op hh.1).1
  · cases h
theorem fetchX_lt (m : V) (a : Nat) : fetchX m a < 18446744073709551616 := by
  unfold fetchX
  split
  · have h1 := Oc.leN_lt (readB m a 8)
    rw [readB_len] at h1
    have h4 : (256 : Nat) ^ 8 = 18446744073709551616 := by decide
    omega
  · decide
section
variable {A : Nat → Prop} {w : World} {d mb : Nat} {f : Nat → Nat} {m : V}
set_option maxRecDepth 100000 in
set_option maxHeartbeats 600000 in
theorem cpustep_any (s : St) (hs : StOk s) (hT : Tabs w) (h : SRep A w d m mb f) (hA : ∀ k, A k → k < w.heap.size) :
    Calls Tryz.prog 15 #[.agg (cellsS s), ptrTo d] w fun e w' => e = .returned (.tuple #[.agg (cellsS (stepM s m).1), encO3 (stepM s m).2.2]) ∧ SRep A w' d (stepM s m).2.1 mb f ∧ Keep A w w' := by
  have hfe := fun (W : World) (hk : Keep No w W) => vfetch_any (w := W) s.pc hs.pc (h.no hA hk) (fun j hj => by have := hA j hj; have := hk.size; omega)
  have htm : stepM s m = if fetchE m s.pc = 0 then if decE (fetchX m s.pc) = 0 then doM s m (decI (fetchX m s.pc)) else (s, m, ⟨3, 42, s.pc⟩) else (s, m, ⟨3, fetchE m s.pc, s.pc⟩) := rfl
  have hxl := fetchX_lt m s.pc
  generalize stepM s m = TM at *
  obtain ⟨T1, T2, kd, er, ad⟩ := TM
  generalize fetchX m s.pc = X at *
  generalize fetchE m s.pc = E at *
  have hsz := cellsS_size hs
  have hss := stC_sz hs
  have hone := cellsS_one s
  have g4 := cellsS_pc hs
  unfold ru at g4
  obtain ⟨cs, hcs⟩ : ∃ cs, cs = cellsS s := ⟨_, rfl⟩
  have HCS := Lib.hid hcs
  rw [← hcs] at hsz g4 hss hone ⊢
  have g32 : cs[32]'(by omega) = .int .u64 (s.pc : Int) := by
    have := Array.getElem?_eq_getElem (xs := cs) (i := 32) (by omega)
    rw [g4] at this
    exact (Option.some.inj this).symm
  have HSZ := Lib.hid hss
  have HONE := Lib.hid hone
  have hHS := Lib.hid h
  have hHT := Lib.hid hT
  have hAX := Lib.hid hA
  have HTM := Lib.hid htm
  unfold ptrTo at hfe ⊢
  have HFE := Lib.hid hfe
  have HXL := Lib.hid hxl
  clear hcs h hT hA htm hfe hss hone hxl
  go_enter Tryz.func15, Tryz.ntmps15
  go_wp2_with fail
  have hkW1 : Keep No w (w.alloc (.cells cs 33)) := (Keep.refl _ _).alloc _
  have hBW1 : Blk (w.alloc (.cells cs 33)) w.heap.size cs 33 := Blk.new _ _ _
  have hzW1 : (w.alloc (.cells cs 33)).heap.size = w.heap.size + 1 := World.size_alloc _ _
  generalize w.alloc (.cells cs 33) = W1 at *
  have hkW2 : Keep No W1 (W1.alloc (.cells #[.int .u64 0, .int .u64 0, .int .u64 0, .int .u64 0, .int .u64 0, .int .u64 0, .int .u64 0, .int .u64 0, .int .u64 0, .int .u64 0, .int .u64 0, .int .u64 0, .int .u64 0, .int .u64 0, .int .u64 0, .int .u64 0, .int .u64 0, .int .u64 0, .int .u64 0, .int .u64 0, .int .u64 0, .int .u64 0, .int .u64 0, .int .u64 0, .int .u64 0, .int .u64 0, .int .u64 0, .int .u64 0, .int .u64 0, .int .u64 0, .int .u64 0, .int .u64 0, .int .u64 0, .int .u64 0] 33)) := (Keep.refl _ _).alloc _
  have hBW2 : Blk (W1.alloc (.cells #[.int .u64 0, .int .u64 0, .int .u64 0, .int .u64 0, .int .u64 0, .int .u64 0, .int .u64 0, .int .u64 0, .int .u64 0, .int .u64 0, .int .u64 0, .int .u64 0, .int .u64 0, .int .u64 0, .int .u64 0, .int .u64 0, .int .u64 0, .int .u64 0, .int .u64 0, .int .u64 0, .int .u64 0, .int .u64 0, .int .u64 0, .int .u64 0, .int .u64 0, .int .u64 0, .int .u64 0, .int .u64 0, .int .u64 0, .int .u64 0, .int .u64 0, .int .u64 0, .int .u64 0, .int .u64 0] 33)) W1.heap.size #[.int .u64 0, .int .u64 0, .int .u64 0, .int .u64 0, .int .u64 0, .int .u64 0, .int .u64 0, .int .u64 0, .int .u64 0, .int .u64 0, .int .u64 0, .int .u64 0, .int .u64 0, .int .u64 0, .int .u64 0, .int .u64 0, .int .u64 0, .int .u64 0, .int .u64 0, .int .u64 0, .int .u64 0, .int .u64 0, .int .u64 0, .int .u64 0, .int .u64 0, .int .u64 0, .int .u64 0, .int .u64 0, .int .u64 0, .int .u64 0, .int .u64 0, .int .u64 0, .int .u64 0, .int .u64 0] 33 := Blk.new _ _ _
  have hzW2 : (W1.alloc (.cells #[.int .u64 0, .int .u64 0, .int .u64 0, .int .u64 0, .int .u64 0, .int .u64 0, .int .u64 0, .int .u64 0, .int .u64 0, .int .u64 0, .int .u64 0, .int .u64 0, .int .u64 0, .int .u64 0, .int .u64 0, .int .u64 0, .int .u64 0, .int .u64 0, .int .u64 0, .int .u64 0, .int .u64 0, .int .u64 0, .int .u64 0, .int .u64 0, .int .u64 0, .int .u64 0, .int .u64 0, .int .u64 0, .int .u64 0, .int .u64 0, .int .u64 0, .int .u64 0, .int .u64 0, .int .u64 0] 33)).heap.size = W1.heap.size + 1 := World.size_alloc _ _
  generalize W1.alloc (.cells #[.int .u64 0, .int .u64 0, .int .u64 0, .int .u64 0, .int .u64 0, .int .u64 0, .int .u64 0, .int .u64 0, .int .u64 0, .int .u64 0, .int .u64 0, .int .u64 0, .int .u64 0, .int .u64 0, .int .u64 0, .int .u64 0, .int .u64 0, .int .u64 0, .int .u64 0, .int .u64 0, .int .u64 0, .int .u64 0, .int .u64 0, .int .u64 0, .int .u64 0, .int .u64 0, .int .u64 0, .int .u64 0, .int .u64 0, .int .u64 0, .int .u64 0, .int .u64 0, .int .u64 0, .int .u64 0] 33) = W2 at *
  have hkW3 : Keep No W2 (W2.alloc (.cells #[.int .i64 0, .int .i64 0, .int .u64 0] 46)) := (Keep.refl _ _).alloc _
  have hBW3 : Blk (W2.alloc (.cells #[.int .i64 0, .int .i64 0, .int .u64 0] 46)) W2.heap.size #[.int .i64 0, .int .i64 0, .int .u64 0] 46 := Blk.new _ _ _
  have hzW3 : (W2.alloc (.cells #[.int .i64 0, .int .i64 0, .int .u64 0] 46)).heap.size = W2.heap.size + 1 := World.size_alloc _ _
  generalize W2.alloc (.cells #[.int .i64 0, .int .i64 0, .int .u64 0] 46) = W3 at *
  rw [hzW1] at hBW2 hzW2
  rw [hzW2] at hBW3 hzW3
  have hk3 := (hkW1.trans' hkW2).trans' hkW3
  have b2 := (hBW1.keep hkW2 fun h => h).keep hkW3 fun h => h
  have b4 := hBW2.keep hkW3 fun h => h
  have b5 := hBW3
  clear hkW1 hkW2 hkW3 hBW1 hBW2 hBW3 hzW1 hzW2
  have q32 : W3.cell? ⟨w.heap.size, 32, none⟩ = some (.int .u64 (s.pc : Int)) := (b2.cell 32).trans g4
  have hcall := HFE.out W3 hk3
  clear g32
  go_wp2_with fail
  refine hcall.mono ?_
  rintro e w4 ⟨rfl, hk34⟩
  have hkX := hk3.trans' hk34
  have b2X := b2.keep hk34 fun h => h
  have b4X := b4.keep hk34 fun h => h
  have b5X := b5.keep hk34 fun h => h
  clear hcall q32 b2 b4 b5 hk3 hk34
  by_cases hE : E = 0
  · subst hE
    rw [if_pos rfl] at HTM
    have hdc := isadec_any (w := w4) X HXL.out (hHT.out.no hkX)
    have hdi := fun h => dec_inok HXL.out h
    have hd42 : decE X ≠ 0 → decE X = 42 := fun h => by
      revert h
      unfold decE
      dsimp only
      split
      · intro h; exact absurd rfl h
      · intro _; rfl
    generalize decI X = I at *
    generalize decE X = D at *
    have HDI := Lib.hid hdi
    have HD42 := Lib.hid hd42
    clear hdi hd42
    by_cases hD : D = 0
    · subst hD
      rw [if_pos rfl] at HTM hdc
      go_wp2_with fail
      refine hdc.mono ?_
      rintro e w5 ⟨rfl, hk45⟩
      unfold encI
      have b25 := b2X.keep hk45 fun h => h
      have b45 := b4X.keep hk45 fun h => h
      have b55 := b5X.keep hk45 fun h => h
      have hk5 := hkX.trans' hk45
      clear hdc hk45 b2X b4X b5X hkX
      go_wp2_with (with_reducible refine wl_stAgg rfl _ _ _ rfl _ _ rfl rfl ?_)
      have hkW6 : Keep No w5 (w5.alloc (.cells #[.int .i64 0, .int .i64 0, .int .i64 0, .int .i64 0, .int .i32 0] 80)) := (Keep.refl _ _).alloc _
      have hBW6 : Blk (w5.alloc (.cells #[.int .i64 0, .int .i64 0, .int .i64 0, .int .i64 0, .int .i32 0] 80)) w5.heap.size #[.int .i64 0, .int .i64 0, .int .i64 0, .int .i64 0, .int .i32 0] 80 := Blk.new _ _ _
      have hzW6 : (w5.alloc (.cells #[.int .i64 0, .int .i64 0, .int .i64 0, .int .i64 0, .int .i32 0] 80)).heap.size = w5.heap.size + 1 := World.size_alloc _ _
      generalize w5.alloc (.cells #[.int .i64 0, .int .i64 0, .int .i64 0, .int .i64 0, .int .i32 0] 80) = W6 at *
      refine rg_stAgg hBW6 (by kernel_rfl) (by rfl) (by simp [Value.oneCell']) ?_
      intro w6 b66 hk66 hz66
      have hk56 : Keep No w5 w6 := hkW6.trans hk66 fun j hj e => absurd hj (by have e2 : j = w5.heap.size := e; omega)
      have b2X := b25.keep hk56 fun h => h
      have b4X := b45.keep hk56 fun h => h
      have b5X := b55.keep hk56 fun h => h
      have hk6 := hk5.trans' hk56
      have hl5 := b55.lt
      have hl6 := b66.lt
      clear hkW6 hBW6 hk66 hz66 hk56 b25 b45 b55 hk5
      have q0 : w6.cell? ⟨w5.heap.size, 0, none⟩ = some (.int .i64 (I.op : Int)) := b66.cell 0
      have q1 : w6.cell? ⟨w5.heap.size, 1, none⟩ = some (.int .i64 (I.a : Int)) := b66.cell 1
      have q2 : w6.cell? ⟨w5.heap.size, 2, none⟩ = some (.int .i64 (I.b : Int)) := b66.cell 2
      have q3 : w6.cell? ⟨w5.heap.size, 3, none⟩ = some (.int .i64 (I.c : Int)) := b66.cell 3
      have q4 : w6.cell? ⟨w5.heap.size, 4, none⟩ = some (.int .i32 I.imm) := b66.cell 4
      go_wp2_with (with_reducible refine wl_ld rfl _ 33 rfl _ rfl ?_)
      refine rg_ld b2X Tryz.underlying33 rfl HSZ.out ?_
      go_wp2_with fail
      have hdo := cpudo_any (w := w6) (A := A) s I hs (HDI.out trivial) (hHT.out.no hk6) (hHS.out.no hAX.out hk6) (fun j hj => by have := hAX.out j hj; have := hk6.size; omega)
      have hdf := do_fault (s := s) (m := m) (i := I)
      rw [← HTM.out] at hdo hdf
      rw [← HCS.out] at hdo
      unfold encI ptrTo encO3 at hdo
      dsimp only at hdo hdf
      clear q0 q1 q2 q3 q4 HDI HD42 HFE
      refine hdo.mono ?_
      rintro e w7 ⟨⟨n, hn, rfl, hnx⟩, hSX, hkX7⟩
      have HDF := Lib.hid hdf
      have HNX := Lib.hid hnx
      have b27 := b2X.keep hkX7 (fun h => absurd (hAX.out _ h) (Nat.lt_irrefl _))
      have b47 := b4X.keep hkX7 (fun h => by have := hAX.out _ h; omega)
      have b57 := b5X.keep hkX7 (fun h => by have := hAX.out _ h; omega)
      have hK7 : Keep A w w7 := (hk6.mono fun _ _ h => h.elim).trans' hkX7
      have hl7 := b57.lt
      clear hdo hdf hnx b2X b4X b5X hk6 hkX7 b66 hl5 hl6 hzW6 hzW3
      go_wp2_with (with_reducible refine wl_stAgg rfl _ _ _ rfl _ _ rfl rfl ?_)
      have hkW8 : Keep No w7 (w7.alloc (.cells #[.int .u64 0, .int .u64 0, .int .u64 0, .int .u64 0, .int .u64 0, .int .u64 0, .int .u64 0, .int .u64 0, .int .u64 0, .int .u64 0, .int .u64 0, .int .u64 0, .int .u64 0, .int .u64 0, .int .u64 0, .int .u64 0, .int .u64 0, .int .u64 0, .int .u64 0, .int .u64 0, .int .u64 0, .int .u64 0, .int .u64 0, .int .u64 0, .int .u64 0, .int .u64 0, .int .u64 0, .int .u64 0, .int .u64 0, .int .u64 0, .int .u64 0, .int .u64 0, .int .u64 0, .int .u64 0] 33)) := (Keep.refl _ _).alloc _
      have hBW8 : Blk (w7.alloc (.cells #[.int .u64 0, .int .u64 0, .int .u64 0, .int .u64 0, .int .u64 0, .int .u64 0, .int .u64 0, .int .u64 0, .int .u64 0, .int .u64 0, .int .u64 0, .int .u64 0, .int .u64 0, .int .u64 0, .int .u64 0, .int .u64 0, .int .u64 0, .int .u64 0, .int .u64 0, .int .u64 0, .int .u64 0, .int .u64 0, .int .u64 0, .int .u64 0, .int .u64 0, .int .u64 0, .int .u64 0, .int .u64 0, .int .u64 0, .int .u64 0, .int .u64 0, .int .u64 0, .int .u64 0, .int .u64 0] 33)) w7.heap.size #[.int .u64 0, .int .u64 0, .int .u64 0, .int .u64 0, .int .u64 0, .int .u64 0, .int .u64 0, .int .u64 0, .int .u64 0, .int .u64 0, .int .u64 0, .int .u64 0, .int .u64 0, .int .u64 0, .int .u64 0, .int .u64 0, .int .u64 0, .int .u64 0, .int .u64 0, .int .u64 0, .int .u64 0, .int .u64 0, .int .u64 0, .int .u64 0, .int .u64 0, .int .u64 0, .int .u64 0, .int .u64 0, .int .u64 0, .int .u64 0, .int .u64 0, .int .u64 0, .int .u64 0, .int .u64 0] 33 := Blk.new _ _ _
      have hzW8 : (w7.alloc (.cells #[.int .u64 0, .int .u64 0, .int .u64 0, .int .u64 0, .int .u64 0, .int .u64 0, .int .u64 0, .int .u64 0, .int .u64 0, .int .u64 0, .int .u64 0, .int .u64 0, .int .u64 0, .int .u64 0, .int .u64 0, .int .u64 0, .int .u64 0, .int .u64 0, .int .u64 0, .int .u64 0, .int .u64 0, .int .u64 0, .int .u64 0, .int .u64 0, .int .u64 0, .int .u64 0, .int .u64 0, .int .u64 0, .int .u64 0, .int .u64 0, .int .u64 0, .int .u64 0, .int .u64 0, .int .u64 0] 33)).heap.size = w7.heap.size + 1 := World.size_alloc _ _
      generalize w7.alloc (.cells #[.int .u64 0, .int .u64 0, .int .u64 0, .int .u64 0, .int .u64 0, .int .u64 0, .int .u64 0, .int .u64 0, .int .u64 0, .int .u64 0, .int .u64 0, .int .u64 0, .int .u64 0, .int .u64 0, .int .u64 0, .int .u64 0, .int .u64 0, .int .u64 0, .int .u64 0, .int .u64 0, .int .u64 0, .int .u64 0, .int .u64 0, .int .u64 0, .int .u64 0, .int .u64 0, .int .u64 0, .int .u64 0, .int .u64 0, .int .u64 0, .int .u64 0, .int .u64 0, .int .u64 0, .int .u64 0] 33) = W8 at *
      have hkW9 : Keep No W8 (W8.alloc (.cells #[.int .i64 0, .int .i64 0, .int .u64 0] 46)) := (Keep.refl _ _).alloc _
      have hBW9 : Blk (W8.alloc (.cells #[.int .i64 0, .int .i64 0, .int .u64 0] 46)) W8.heap.size #[.int .i64 0, .int .i64 0, .int .u64 0] 46 := Blk.new _ _ _
      have hzW9 : (W8.alloc (.cells #[.int .i64 0, .int .i64 0, .int .u64 0] 46)).heap.size = W8.heap.size + 1 := World.size_alloc _ _
      generalize W8.alloc (.cells #[.int .i64 0, .int .i64 0, .int .u64 0] 46) = W9 at *
      rw [hzW8] at hBW9 hzW9
      refine rg_stAgg (hBW8.keep hkW9 fun h => h) (stC_sz hn) (by rw [cellsS_size hn]; rfl) (cellsS_one _) ?_
      intro wX bX hkX8 hzX
      go_wp2_with (with_reducible refine wl_stAgg rfl _ _ _ rfl _ _ rfl rfl ?_)
      refine rg_stAgg (hBW9.keep hkX8 fun e => by have e2 : w7.heap.size + 1 = w7.heap.size := e; omega) (by kernel_rfl) (by rfl) (by simp [Value.oneCell']) ?_
      intro wY b8Y hkY8 hzY
      have hk7X : Keep No w7 wX := (hkW8.trans' hkW9).trans hkX8 (fun j hj e => by have e2 : j = w7.heap.size := e; omega)
      have hk7Y : Keep No w7 wY := hk7X.trans hkY8 (fun j hj e => by have e2 : j = w7.heap.size + 1 := e; omega)
      have bNY := bX.keep hkY8 (fun e => by have e2 : w7.heap.size = w7.heap.size + 1 := e; omega)
      have b2Y := b27.keep hk7Y fun h => h
      have b4Y := b47.keep hk7Y fun h => h
      have b5Y := b57.keep hk7Y fun h => h
      have hKY : Keep A w wY := hK7.trans hk7Y fun _ _ h => h.elim
      have hSY := hSX.no (fun j hj => by have := hAX.out j hj; have := hK7.size; omega) hk7Y
      have qk : wY.cell? ⟨w7.heap.size + 1, 0, none⟩ = some (.int .i64 (kd : Int)) := b8Y.cell 0
      clear hkW8 hkW9 hBW8 hBW9 hkX8 hzX hkY8 hzY bX hk7X b27 b47 b57 hzW8 hzW9
      by_cases hK : kd = 3
      · have hK2 : ((kd : Int) == 3) = true := by simp [hK]
        have HT1 := Lib.hid (HDF.out hK)
        clear hK
        have hkd := (Keep.refl No wY).drew
        go_wp2_with fail
        refine wp_region_sig (fun w' => Blk w' (w.heap.size) (cs) 33 ∧ Blk w' (w7.heap.size + 1) #[.int .i64 (kd : Int), .int .i64 (er : Int), .int .u64 (ad : Int)] 46) (fun j => decide (j ≤ 99)) [(0, true), (1, true), (2, false), (3, false)] (by kernel_rfl) (by kernel_rfl) (by intro c a d v w h; cases d <;> exact h) ⟨b2Y.keep hkd fun h => h, b8Y.keep hkd fun h => h⟩ ?_
        apply sig_still (o := ⟨some 47, _, _, _, _, _⟩) rfl rfl
        · intro w' hS
          exact run_ldoC _ _ rfl (w.heap.size) 0 rfl (run_loadVar_row w' (w.heap.size) 33 33 _ _ _ hS.1 Tryz.underlying33 rfl (HSZ.out))
        go_frame
        apply sig_still (o := ⟨some 48, _, _, _, _, _⟩) rfl rfl
        · intro w' hS
          exact run_ldoC _ _ rfl (w7.heap.size + 1) 0 rfl (run_loadVar_row w' (w7.heap.size + 1) 46 46 _ _ _ hS.2 Tryz.underlying46 rfl (by kernel_rfl))
        go_frame
        refine sig_eff (o := ⟨none, _, _, _, _, _⟩) rfl rfl (fun K hKe => ?_)
        refine wo_stAgg (.tmp 4) (.tmp 47) 33 rfl _ _ rfl rfl ?_
        refine rg_stAgg (b4Y.keep hkd fun h => h) (HSZ.out) (by rw [hsz]; rfl) (HONE.out) ?_
        intro wa hBa hka hza
        have bYa := (b2Y.keep hkd fun h => h).keep hka fun e => by have e2 : w.heap.size = w.heap.size + 1 := e; omega
        have b8a := (b8Y.keep hkd fun h => h).keep hka fun e => by have e2 : w7.heap.size + 1 = w.heap.size + 1 := e; omega
        refine hKe _ _ ⟨fun _ => ⟨bYa, b8a⟩, ?_⟩
        refine sig_eff (o := ⟨none, _, _, _, _, _⟩) rfl rfl (fun K hKe => ?_)
        refine wo_stAgg (.tmp 5) (.tmp 48) 46 rfl _ _ rfl rfl ?_
        refine rg_stAgg ((b5Y.keep hkd fun h => h).keep hka fun e => by have e2 : w.heap.size + 1 + 1 = w.heap.size + 1 := e; omega) (by kernel_rfl) (by rfl) (by simp [Value.oneCell']) ?_
        intro wb hBb hkb hzb
        refine hKe _ _ ⟨fun _ => ⟨bYa.keep hkb fun e => by have e2 : w.heap.size = w.heap.size + 1 + 1 := e; omega, b8a.keep hkb fun e => by have e2 : w7.heap.size + 1 = w.heap.size + 1 + 1 := e; omega⟩, sig_nil ?_⟩
        go_wp2_with fail
        refine ret_blk_blk rfl rfl rfl (hBa.keep hkb fun e => by have e2 : w.heap.size + 1 = w.heap.size + 1 + 1 := e; omega) hBb Tryz.underlying33 rfl (HSZ.out) Tryz.underlying46 rfl (by kernel_rfl) rfl ?_
        have hKd : Keep A w wY.drew := hKY.drew
        have hkaa : Keep A w wa := hKd.trans hka fun j hj e => by have e2 : j = w.heap.size + 1 := e; omega
        have hkbb : Keep A w wb := hkaa.trans hkb fun j hj e => by have e2 : j = w.heap.size + 1 + 1 := e; omega
        have hSd := hSY.no (fun j hj => by have := hAX.out j hj; have := hKY.size; omega) hkd
        have hSb := (hSd.keep hka (fun j hj e => by have := hAX.out j hj; have e2 : j = w.heap.size + 1 := e; omega) (fun j hj => by have := hAX.out j hj; have := hKd.size; omega)).keep hkb (fun j hj e => by have := hAX.out j hj; have e2 : j = w.heap.size + 1 + 1 := e; omega) (fun j hj => by have := hAX.out j hj; have := hkaa.size; omega)
        exact ⟨by rw [HCS.out, ← HT1.out]; rfl, hSb, hkbb⟩
      · have hK2 : ((kd : Int) == 3) = false := by simp; omega
        have HT1 := Lib.hid (HNX.out hK)
        clear hK
        have hkd := (Keep.refl No wY).drew
        go_wp2_with fail
        refine wp_region_sig (fun w' => Blk w' (w7.heap.size) (cellsS n) 33 ∧ Blk w' (w7.heap.size + 1) #[.int .i64 (kd : Int), .int .i64 (er : Int), .int .u64 (ad : Int)] 46) (fun j => decide (j ≤ 99)) [(0, true), (1, true), (2, false), (3, false)] (by kernel_rfl) (by kernel_rfl) (by intro c a d v w h; cases d <;> exact h) ⟨bNY.keep hkd fun h => h, b8Y.keep hkd fun h => h⟩ ?_
        apply sig_still (o := ⟨some 49, _, _, _, _, _⟩) rfl rfl
        · intro w' hS
          exact run_ldoC _ _ rfl (w7.heap.size) 0 rfl (run_loadVar_row w' (w7.heap.size) 33 33 _ _ _ hS.1 Tryz.underlying33 rfl (stC_sz hn))
        go_frame
        apply sig_still (o := ⟨some 50, _, _, _, _, _⟩) rfl rfl
        · intro w' hS
          exact run_ldoC _ _ rfl (w7.heap.size + 1) 0 rfl (run_loadVar_row w' (w7.heap.size + 1) 46 46 _ _ _ hS.2 Tryz.underlying46 rfl (by kernel_rfl))
        go_frame
        refine sig_eff (o := ⟨none, _, _, _, _, _⟩) rfl rfl (fun K hKe => ?_)
        refine wo_stAgg (.tmp 4) (.tmp 49) 33 rfl _ _ rfl rfl ?_
        refine rg_stAgg (b4Y.keep hkd fun h => h) (stC_sz hn) (by rw [cellsS_size hn]; rfl) (cellsS_one _) ?_
        intro wa hBa hka hza
        have bYa := (bNY.keep hkd fun h => h).keep hka fun e => by have e2 : w7.heap.size = w.heap.size + 1 := e; omega
        have b8a := (b8Y.keep hkd fun h => h).keep hka fun e => by have e2 : w7.heap.size + 1 = w.heap.size + 1 := e; omega
        refine hKe _ _ ⟨fun _ => ⟨bYa, b8a⟩, ?_⟩
        refine sig_eff (o := ⟨none, _, _, _, _, _⟩) rfl rfl (fun K hKe => ?_)
        refine wo_stAgg (.tmp 5) (.tmp 50) 46 rfl _ _ rfl rfl ?_
        refine rg_stAgg ((b5Y.keep hkd fun h => h).keep hka fun e => by have e2 : w.heap.size + 1 + 1 = w.heap.size + 1 := e; omega) (by kernel_rfl) (by rfl) (by simp [Value.oneCell']) ?_
        intro wb hBb hkb hzb
        refine hKe _ _ ⟨fun _ => ⟨bYa.keep hkb fun e => by have e2 : w7.heap.size = w.heap.size + 1 + 1 := e; omega, b8a.keep hkb fun e => by have e2 : w7.heap.size + 1 = w.heap.size + 1 + 1 := e; omega⟩, sig_nil ?_⟩
        go_wp2_with fail
        refine ret_blk_blk rfl rfl rfl (hBa.keep hkb fun e => by have e2 : w.heap.size + 1 = w.heap.size + 1 + 1 := e; omega) hBb Tryz.underlying33 rfl (stC_sz hn) Tryz.underlying46 rfl (by kernel_rfl) rfl ?_
        have hKd : Keep A w wY.drew := hKY.drew
        have hkaa : Keep A w wa := hKd.trans hka fun j hj e => by have e2 : j = w.heap.size + 1 := e; omega
        have hkbb : Keep A w wb := hkaa.trans hkb fun j hj e => by have e2 : j = w.heap.size + 1 + 1 := e; omega
        have hSd := hSY.no (fun j hj => by have := hAX.out j hj; have := hKY.size; omega) hkd
        have hSb := (hSd.keep hka (fun j hj e => by have := hAX.out j hj; have e2 : j = w.heap.size + 1 := e; omega) (fun j hj => by have := hAX.out j hj; have := hKd.size; omega)).keep hkb (fun j hj e => by have := hAX.out j hj; have e2 : j = w.heap.size + 1 + 1 := e; omega) (fun j hj => by have := hAX.out j hj; have := hkaa.size; omega)
        exact ⟨by rw [← HT1.out]; rfl, hSb, hkbb⟩
    · rw [if_neg hD] at HTM hdc
      obtain rfl := HD42.out hD
      have hz0 : zeroI = .agg #[.int .i64 0, .int .i64 0, .int .i64 0, .int .i64 0, .int .i32 0] := rfl
      rw [hz0] at hdc
      clear hD hz0 HDI HD42
      go_wp2_with fail
      refine hdc.mono ?_
      rintro e w5 ⟨rfl, hk45⟩
      have b25 := b2X.keep hk45 fun h => h
      have b45 := b4X.keep hk45 fun h => h
      have b55 := b5X.keep hk45 fun h => h
      have hk5 := hkX.trans' hk45
      clear hdc hk45 b2X b4X b5X hkX
      go_wp2_with (with_reducible refine wl_stAgg rfl _ _ _ rfl _ _ rfl rfl ?_)
      have hkW6 : Keep No w5 (w5.alloc (.cells #[.int .i64 0, .int .i64 0, .int .i64 0, .int .i64 0, .int .i32 0] 80)) := (Keep.refl _ _).alloc _
      have hBW6 : Blk (w5.alloc (.cells #[.int .i64 0, .int .i64 0, .int .i64 0, .int .i64 0, .int .i32 0] 80)) w5.heap.size #[.int .i64 0, .int .i64 0, .int .i64 0, .int .i64 0, .int .i32 0] 80 := Blk.new _ _ _
      have hzW6 : (w5.alloc (.cells #[.int .i64 0, .int .i64 0, .int .i64 0, .int .i64 0, .int .i32 0] 80)).heap.size = w5.heap.size + 1 := World.size_alloc _ _
      generalize w5.alloc (.cells #[.int .i64 0, .int .i64 0, .int .i64 0, .int .i64 0, .int .i32 0] 80) = W6 at *
      refine rg_stAgg hBW6 (by kernel_rfl) (by rfl) (by simp [Value.oneCell']) ?_
      intro w6 b66 hk66 hz66
      have hk56 : Keep No w5 w6 := hkW6.trans hk66 fun j hj e => absurd hj (by have e2 : j = w5.heap.size := e; omega)
      have b2X := b25.keep hk56 fun h => h
      have b4X := b45.keep hk56 fun h => h
      have b5X := b55.keep hk56 fun h => h
      have hk6 := hk5.trans' hk56
      have hl5 := b55.lt
      have hl6 := b66.lt
      clear hkW6 hBW6 hk66 hz66 hk56 b25 b45 b55 hk5
      have hkd := (Keep.refl No w6).drew
      have qx : w6.cell? ⟨w.heap.size, 32, none⟩ = some (.int .u64 (s.pc : Int)) := (b2X.cell 32).trans g4
      go_wp2_with fail
      refine wp_region_sig (fun w' => Blk w' w.heap.size cs 33 ∧ w'.cell? ⟨w.heap.size, 32, none⟩ = some (.int .u64 (s.pc : Int))) (fun j => decide (j ≤ 99)) [(0, true), (1, true), (2, true), (3, true), (4, false), (5, false), (6, false)] (by kernel_rfl) (by kernel_rfl) (by intro c a d v w h; cases d <;> exact h) ⟨b2X.keep hkd fun h => h, qx⟩ ?_
      apply sig_still (o := ⟨some 32, _, _, _, _, _⟩) rfl rfl
      · intro w' hS
        exact run_ldoC _ _ rfl w.heap.size 0 rfl (run_loadVar_row w' w.heap.size 33 33 _ _ _ hS.1 Tryz.underlying33 rfl HSZ.out)
      go_frame
      apply sig_still (o := ⟨some 33, _, _, _, _, _⟩) rfl rfl
      · intro w' hS
        obtain ⟨q1, q2⟩ := hS
        first | (go_simp; done) | (go_simp; rfl) | rfl
      go_frame
      apply sig_still (o := ⟨some 34, _, _, _, _, _⟩) rfl rfl
      · intro w' hS
        obtain ⟨q1, q2⟩ := hS
        first | (go_simp; done) | (go_simp; rfl) | rfl
      go_frame
      apply sig_still (o := ⟨some 35, _, _, _, _, _⟩) rfl rfl
      · intro w' hS
        obtain ⟨q1, q2⟩ := hS
        first | (go_simp; done) | (go_simp; rfl) | rfl
      go_frame
      refine sig_eff (o := ⟨some 36, _, _, _, _, _⟩) rfl rfl (fun K hKe => ?_)
      have hfa := cpufault_any 42 s.pc w6.drew
      go_wp2_with fail
      refine hfa.mono ?_
      rintro e wF ⟨rfl, hkF⟩
      clear hfa
      unfold encO3
      replace hkF := hkd.trans' hkF
      have b2F := b2X.keep hkF fun h => h
      have b4F := b4X.keep hkF fun h => h
      have b5F := b5X.keep hkF fun h => h
      go_wp2_with fail
      refine ⟨fun _ => ⟨b2F, (b2F.cell 32).trans g4⟩, ?_⟩
      refine sig_eff (o := ⟨none, _, _, _, _, _⟩) rfl rfl (fun K hKe => ?_)
      refine wo_stAgg (.tmp 4) (.tmp 32) 33 rfl _ _ rfl rfl ?_
      refine rg_stAgg b4F HSZ.out (by rw [hsz]; rfl) HONE.out ?_
      intro wa hBa hka hza
      have b2a := b2F.keep hka fun e => by have e2 : w.heap.size = w.heap.size + 1 := e; omega
      refine hKe _ _ ⟨fun _ => ⟨b2a, (b2a.cell 32).trans g4⟩, ?_⟩
      refine sig_eff (o := ⟨none, _, _, _, _, _⟩) rfl rfl (fun K hKe => ?_)
      refine wo_stAgg (.tmp 5) (.tmp 36) 46 rfl _ _ rfl rfl ?_
      refine rg_stAgg (b5F.keep hka fun e => by have e2 : w.heap.size + 1 + 1 = w.heap.size + 1 := e; omega) (by kernel_rfl) (by rfl) (by simp [Value.oneCell']) ?_
      intro wb hBb hkb hzb
      have b2b := b2a.keep hkb fun e => by have e2 : w.heap.size = w.heap.size + 1 + 1 := e; omega
      refine hKe _ _ ⟨fun _ => ⟨b2b, (b2b.cell 32).trans g4⟩, sig_nil ?_⟩
      go_wp2_with fail
      refine ret_blk_blk rfl rfl rfl (hBa.keep hkb fun e => by have e2 : w.heap.size + 1 = w.heap.size + 1 + 1 := e; omega) hBb Tryz.underlying33 rfl HSZ.out Tryz.underlying46 rfl (by kernel_rfl) rfl ?_
      have hKF := (hk6).trans' hkF
      have hkaa : Keep No w wa := hKF.trans hka fun j hj e => by have e2 : j = w.heap.size + 1 := e; omega
      have hkbb : Keep No w wb := hkaa.trans hkb fun j hj e => by have e2 : j = w.heap.size + 1 + 1 := e; omega
      have hTM := HTM.out
      have hcs := HCS.out
      cases hTM
      subst hcs
      exact ⟨rfl, hHS.out.no hAX.out hkbb, hkbb.mono fun _ _ h => h.elim⟩
  · rw [if_neg hE] at HTM
    have hE0 : ((E : Int) == 0) = false := by simpa using hE
    clear hE
    have hkd := (Keep.refl No w4).drew
    have qx : w4.cell? ⟨w.heap.size, 32, none⟩ = some (.int .u64 (s.pc : Int)) := (b2X.cell 32).trans g4
    go_wp2_with fail
    refine wp_region_sig (fun w' => Blk w' w.heap.size cs 33 ∧ w'.cell? ⟨w.heap.size, 32, none⟩ = some (.int .u64 (s.pc : Int))) (fun j => decide (j ≤ 99)) [(0, true), (1, true), (2, true), (3, true), (4, false), (5, false), (6, false)] (by kernel_rfl) (by kernel_rfl) (by intro c a d v w h; cases d <;> exact h) ⟨b2X.keep hkd fun h => h, qx⟩ ?_
    apply sig_still (o := ⟨some 20, _, _, _, _, _⟩) rfl rfl
    · intro w' hS
      exact run_ldoC _ _ rfl w.heap.size 0 rfl (run_loadVar_row w' w.heap.size 33 33 _ _ _ hS.1 Tryz.underlying33 rfl HSZ.out)
    go_frame
    apply sig_still (o := ⟨some 21, _, _, _, _, _⟩) rfl rfl
    · intro w' hS
      obtain ⟨q1, q2⟩ := hS
      first | (go_simp; done) | (go_simp; rfl) | rfl
    go_frame
    apply sig_still (o := ⟨some 22, _, _, _, _, _⟩) rfl rfl
    · intro w' hS
      obtain ⟨q1, q2⟩ := hS
      first | (go_simp; done) | (go_simp; rfl) | rfl
    go_frame
    apply sig_still (o := ⟨some 23, _, _, _, _, _⟩) rfl rfl
    · intro w' hS
      obtain ⟨q1, q2⟩ := hS
      first | (go_simp; done) | (go_simp; rfl) | rfl
    go_frame
    refine sig_eff (o := ⟨some 24, _, _, _, _, _⟩) rfl rfl (fun K hKe => ?_)
    have hfa := cpufault_any E s.pc w4.drew
    go_wp2_with fail
    refine hfa.mono ?_
    rintro e wF ⟨rfl, hkF⟩
    clear hfa
    unfold encO3
    replace hkF := hkd.trans' hkF
    have b2F := b2X.keep hkF fun h => h
    have b4F := b4X.keep hkF fun h => h
    have b5F := b5X.keep hkF fun h => h
    go_wp2_with fail
    refine ⟨fun _ => ⟨b2F, (b2F.cell 32).trans g4⟩, ?_⟩
    refine sig_eff (o := ⟨none, _, _, _, _, _⟩) rfl rfl (fun K hKe => ?_)
    refine wo_stAgg (.tmp 4) (.tmp 20) 33 rfl _ _ rfl rfl ?_
    refine rg_stAgg b4F HSZ.out (by rw [hsz]; rfl) HONE.out ?_
    intro wa hBa hka hza
    have b2a := b2F.keep hka fun e => by have e2 : w.heap.size = w.heap.size + 1 := e; omega
    refine hKe _ _ ⟨fun _ => ⟨b2a, (b2a.cell 32).trans g4⟩, ?_⟩
    refine sig_eff (o := ⟨none, _, _, _, _, _⟩) rfl rfl (fun K hKe => ?_)
    refine wo_stAgg (.tmp 5) (.tmp 24) 46 rfl _ _ rfl rfl ?_
    refine rg_stAgg (b5F.keep hka fun e => by have e2 : w.heap.size + 1 + 1 = w.heap.size + 1 := e; omega) (by kernel_rfl) (by rfl) (by simp [Value.oneCell']) ?_
    intro wb hBb hkb hzb
    have b2b := b2a.keep hkb fun e => by have e2 : w.heap.size = w.heap.size + 1 + 1 := e; omega
    refine hKe _ _ ⟨fun _ => ⟨b2b, (b2b.cell 32).trans g4⟩, sig_nil ?_⟩
    go_wp2_with fail
    refine ret_blk_blk rfl rfl rfl (hBa.keep hkb fun e => by have e2 : w.heap.size + 1 = w.heap.size + 1 + 1 := e; omega) hBb Tryz.underlying33 rfl HSZ.out Tryz.underlying46 rfl (by kernel_rfl) rfl ?_
    have hKF := (hkX).trans' hkF
    have hkaa : Keep No w wa := hKF.trans hka fun j hj e => by have e2 : j = w.heap.size + 1 := e; omega
    have hkbb : Keep No w wb := hkaa.trans hkb fun j hj e => by have e2 : j = w.heap.size + 1 + 1 := e; omega
    have hTM := HTM.out
    have hcs := HCS.out
    cases hTM
    subst hcs
    exact ⟨rfl, hHS.out.no hAX.out hkbb, hkbb.mono fun _ _ h => h.elim⟩
end
end Go.Proofs.YtaoillfofiehpaaGreatDoor
namespace Go.Dm.Cp
open Go Go.Dm.Vm Go.Dm.Oc
def codeL (l : List Nat) : List UInt8 := l.flatMap (le 8)
theorem codeL_len (l : List Nat) : (codeL l).length = 8 * l.length := by
  unfold codeL
  induction l with
  | nil => rfl
  | cons x r ih => rw [List.flatMap_cons, List.length_append, ih, le_len, List.length_cons]; omega
theorem codeL_take {l : List Nat} {i : Nat} (hi : i < l.length) : codeL (l.take (i + 1)) = codeL (l.take i) ++ le 8 l[i] := by
  unfold codeL
  rw [List.take_succ_eq_append_getElem hi, List.flatMap_append]
  simp
theorem le8_take (x k : Nat) (hk : k < 8) : (le 8 x).take (k + 1) = (le 8 x).take k ++ [UInt8.ofNat (x / 256 ^ k % 256)] := by
  rw [List.take_succ_eq_append_getElem (by rw [le_len]; exact hk), le_get 8 x k hk]
end Go.Dm.Cp
namespace Go.Proofs.YtaoillfofiehpaaGreatDoor
open Go.RowKit Go.Dm Go.Dm.Vm Go.Dm.Cp Go.Maps Go.Dm.Oc
def encU (x : Nat) : List Value := [.int .u64 (x : Int)]
theorem FlO.bts8 {w : World} {base : Nat} {v : Value} {l : List UInt8} (h : FlO w base 5 1 encB8 v l) : Bts (fun k => base ≤ k ∧ some k = v.ownBlock) w v l := by
  unfold FlO at h
  rw [encB8_map] at h
  exact Sl.of_own h
section
variable {B : Nat → Prop} {w : World}
set_option maxRecDepth 100000 in
set_option maxHeartbeats 4000000 in
theorem code14_any {v : Value} (l : List Nat) (hl : l.length ≤ 100000) (hx : ∀ x ∈ l, x < 18446744073709551616) (h : Fl B w 1 encU v l) :
    Calls Tryz.prog 14 #[v] w fun e w' => ∃ v', e = .returned v' ∧ FlO w' w.heap.size 5 1 encB8 v' (codeL l) ∧ Keep No w w' := by
  obtain ⟨av, cv, rfl, _, _⟩ := h.shape
  have HF := Lib.hid h
  have HX := Lib.hid hx
  clear h hx
  go_enter Tryz.func14, Tryz.ntmps14
  go_wp2_with fail
  go_loopw [3, 4, 5] (fun ov iv _ wr => ∃ i : Nat, iv = .int .i64 (i : Int) ∧ i ≤ l.length ∧ FlO wr w.heap.size 5 1 encB8 ov (codeL (l.take i)) ∧ Keep No w wr) (fun _ iv _ _ => l.length - (intOf iv).toNat)
  case atStart => exact ⟨0, rfl, Nat.zero_le _, FlO.nil, Keep.refl _ _⟩
  case round =>
    obtain ⟨i, rfl, hi, ho, hk⟩ := hrel
    generalize wr = wz at *
    rcases Nat.lt_or_ge i l.length with hlt | hge
    · have hltz : (i : Int) < (l.length : Int) := by omega
      have htk := codeL_take hlt
      have hlen := codeL_len (l.take i)
      rw [List.length_take_of_le hi] at hlen
      obtain ⟨g, off, cap, e, _, hgl, _, _, hc⟩ := HF.out.at (fun _ => rfl) hlt
      cases e
      have hxl := HX.out l[i] (List.getElem_mem hlt)
      have c0 := hc 0 _ rfl
      rw [Nat.mul_one, Nat.add_zero] at c0
      have c1 := (hk.cell (p := ⟨g, off + i, none⟩) hgl fun h => h).trans c0
      have C0 := Lib.hid c0
      have HTK := Lib.hid htk
      have HLEN := Lib.hid hlen
      clear htk hlen hc c0
      generalize l[i] = x at *
      generalize codeL (l.take i) = C at *
      go_wp2_with fail
      go_loopw [3, 5] (fun ov kv wr => ∃ k : Nat, kv = .int .i64 (k : Int) ∧ k ≤ 8 ∧ FlO wr w.heap.size 5 1 encB8 ov (C ++ (le 8 x).take k) ∧ Keep No w wr) (fun _ kv _ => 8 - (intOf kv).toNat)
      case atStart => exact ⟨0, rfl, by omega, by simpa using ho, hk⟩
      case round =>
        obtain ⟨k, rfl, hk8, ho2, hk2⟩ := hrel
        generalize wr = wy at *
        rcases Nat.lt_or_ge k 8 with hlt2 | hge2
        · have hltz2 : (k : Int) < 8 := by omega
          have ht8 := le8_take x k hlt2
          have hln : (C ++ (le 8 x).take k).length = 8 * i + k := by rw [List.length_append, HLEN.out, List.length_take, le_len]; omega
          have c2 := (hk2.cell (p := ⟨g, off + i, none⟩) hgl fun h => h).trans C0.out
          have hshr : (x : Int) / 2 ^ (8 * k) = ((x / 256 ^ k : Nat) : Int) := by rw [pow256]; push_cast; rfl
          have hbyte : IntKind.u8.wrap ((x / 256 ^ k : Nat) : Int) = ((UInt8.ofNat (x / 256 ^ k % 256)).toNat : Int) := by
            rw [IntKind.wrap_u8', UInt8.toNat_ofNat', Nat.mod_mod]
            omega
          obtain ⟨ao, co, rfl, _, _⟩ := ho2.fl.shape
          rw [hln] at ho2 ⊢
          have HT8 := Lib.hid ht8
          have HLN := Lib.hid hln
          have HBY := Lib.hid hbyte
          clear ht8 hln
          generalize hq : x / 256 ^ k = q at *
          have HQ := Lib.hid hq
          clear hq
          go_wp2_with (at_builtin; refine wl_append rfl _ _ _ _ rfl _ _ rfl rfl ?_)
          have hbv : Value.int .u8 ((q : Int) % 256) = bv (UInt8.ofNat (q % 256)) := by
            unfold bv
            rw [UInt8.toNat_ofNat', Nat.mod_mod]
            rfl
          rw [hbv]
          refine rg_push (w := wy) (cs := #[bv (UInt8.ofNat (q % 256))]) (enc := encB8) (x := UInt8.ofNat (q % 256)) (l := C ++ (le 8 x).take k) (base := w.heap.size) _ 1 Tryz.underlying24 info_u8 rfl (by decide) rfl rfl (b8_one _) ho2 (by rw [HLN.out]; omega) (by decide) hk2.size ?_
          intro v4 w4 ho4 hk4 hb4
          have hk4' : Keep No w w4 := hk2.own ho2 hk4
          rw [List.append_assoc, ← HT8.out] at ho4
          obtain ⟨a4, c4, rfl, _, _⟩ := ho4.fl.shape
          clear hbv
          go_wp2_with fail
          go_roundw
          case rel => exact ⟨k + 1, by go_num, hlt2, ho4, hk4'⟩
          case measure => simp [intOf]; omega
        · obtain rfl : k = 8 := Nat.le_antisymm hk8 hge2
          have hT : C ++ (le 8 x).take 8 = codeL (l.take (i + 1)) := by rw [HTK.out, List.take_of_length_le (by rw [le_len]; exact Nat.le_refl _)]
          rw [hT] at ho2
          clear hT ho hk
          go_wp2_with fail
          go_roundw
          case rel => exact ⟨i + 1, by go_num, hlt, ho2, hk2⟩
          case measure => simp [intOf]; omega
    · obtain rfl : i = l.length := Nat.le_antisymm hi hge
      rw [List.take_length] at ho
      go_wp2_with fail
      go_ret
      exact ⟨_, rfl, ho, hk⟩
end
end Go.Proofs.YtaoillfofiehpaaGreatDoor
namespace Go.Dm
open Go Go.RowKit
section
variable {P : Program}
theorem run_equalIn_ints (d : Nat) (t e : TypeId) (n : Nat) (k : IntKind) (ht : P.underlying t = some (.array n e)) (he : P.underlying e = some (.int k)) (hsz : ∀ w, (sizeOf e).run P w = .ok 1 w) (w : World)
    (xs : Array Value) (hx : ∀ i, i < n → ∃ z, xs[i]? = some (.int k z)) :
    (Op.equalIn (d + 2) t (.agg xs) (.agg xs)).run P w = .ok true w := by
  rw [Op.equalIn]
  simp only [Sem.run_bind, run_underlying ht, Result.andThen_ok, hsz, Std.Legacy.Range.forIn_eq_forIn_range', Std.Legacy.Range.size, Nat.sub_zero, Nat.add_sub_cancel, Nat.div_one]
  have hl : ∀ i ∈ List.range' 0 n 1, i < n := fun i hi => by simpa using (List.mem_range'_1.1 hi).2
  generalize List.range' 0 n 1 = l at hl ⊢
  induction l with
  | nil => simp
  | cons i l ih =>
    obtain ⟨z, hz⟩ := hx i (hl i (by simp))
    have px : (part e xs (i * 1)).run P w = .ok (.int k z) w := by
      simp [part, isAgg, run_underlying he, hz]
    have pe : (Op.equalIn (d + 1) e (.int k z) (.int k z)).run P w = .ok true w := by
      rw [run_equalIn_int w d e k k _ _ he]
      simp
    simp only [List.forIn_cons, Sem.run_bind, px, pe, Result.andThen_ok, Bool.not_true, Bool.false_eq_true, if_false, Sem.run_pure]
    exact ih fun j hj => hl j (by simp [hj])
theorem run_eqFields_refl (d : Nat) (xs : Array Value) (w : World) : ∀ fs : List Field, (∀ f ∈ fs, ∃ v, (part f.type xs f.offset).run P w = .ok v w ∧ (Op.equalIn d f.type v v).run P w = .ok true w) → (Op.eqFields d xs xs fs).run P w = .ok true w
  | [], _ => by simp [Op.eqFields]
  | f :: fs, h => by
    obtain ⟨v, hv, he⟩ := h f (by simp)
    have ih := run_eqFields_refl d xs w fs fun g hg => h g (by simp [hg])
    unfold Op.eqFields
    split
    · simp only [Sem.run_bind, hv, Result.andThen_ok, he, Bool.not_true, Bool.false_eq_true, if_false, ih]
    · exact ih
/-- a part of a row is loaded -/
theorem run_loadVar_sub (w : World) (g off : Nat) (ty : TypeId) (l : List Value) (d : TypeDesc) (hc : ∀ j u, l[j]? = some u → w.cell? ⟨g, off + j, none⟩ = some u)
    (hu : P.underlying ty = some d) (hd : (match d with | .struct _ | .array _ _ => true | _ => false) = true) (hi : (P.info? ty).map (·.size) = some l.length) :
    (loadVar ty ⟨g, off, none⟩).run P w = .ok (.agg l.toArray) w := by
  have hl : (loadCells ⟨g, off, none⟩ l.length).run P w = .ok l.toArray w :=
    run_loadCells_list (P := P) w ⟨g, off, none⟩ l (fun j v hv => by
      have hadd : (⟨g, off, none⟩ : Addr).add j = ⟨g, off + j, none⟩ := by unfold Addr.add; split <;> simp_all
      rw [hadd]
      exact hc j v hv)
  cases hq : P.info? ty with
  | none => simp [hq] at hi
  | some i =>
    have hs : i.size = l.length := by simpa [hq] using hi
    have hagg : (isAgg ty).run P w = .ok true w := by
      unfold isAgg
      rw [Sem.run_bind, run_underlying hu w]
      cases d <;> simp_all
    simp [loadVar, Sem.run_bind, hagg, sizeOf, typeInfo, hq, hs, hl]
theorem rg_lds {w : World} {g off : Nat} {ty : TypeId} {l : List Value} {d : TypeDesc} (hc : ∀ j u, l[j]? = some u → w.cell? ⟨g, off + j, none⟩ = some u)
    (hu : P.underlying ty = some d) (hd : (match d with | .struct _ | .array _ _ => true | _ => false) = true) (hi : (P.info? ty).map (·.size) = some l.length) {K : Value → World → Prop} (h : K (.agg l.toArray) w) : LdGoal P ty ⟨g, off, none⟩ w K := by
  refine .mk (v := .agg l.toArray) (w' := w) ?_ h
  simp only [Instr.loadAt, Instr.sureAddr, Sem.run_bind, Sem.run_pure, Result.andThen_ok, run_loadVar_sub w g off ty l d hc hu hd hi]
/-- registers, then two numbers -/
theorem run_equalIn_regs (t ta e : TypeId) (n : Nat) (hf : (P.fieldsOf t).toList.map (fun f => (f.type, f.offset)) = [(ta, 0), (e, n), (e, n + 1)]) (ht : P.underlying t = some (.struct (P.fieldsOf t))) (hp : P.stoodInHeld t = false)
    (hta : P.underlying ta = some (.array n e)) (he : P.underlying e = some (.int .u64)) (hsz : ∀ w, (sizeOf e).run P w = .ok 1 w) (hsa : ∀ w, (sizeOf ta).run P w = .ok n w) (w : World)
    (xs : Array Value) (hx : ∀ i, i < n + 2 → ∃ z, xs[i]? = some (.int .u64 z)) :
    (Op.equalIn 10000 t (.agg xs) (.agg xs)).run P w = .ok true w := by
  rw [show (10000 : Nat) = 9999 + 1 from rfl, run_equalIn_agg w 9999 t xs xs ht hp]
  refine run_eqFields_refl 9999 xs w _ fun f hfm => ?_
  have hm := List.mem_map_of_mem (f := fun f : Field => (f.type, f.offset)) hfm
  rw [hf] at hm
  have one : ∀ i, i < n + 2 → f.type = e → f.offset = i → ∃ v, (part f.type xs f.offset).run P w = .ok v w ∧ (Op.equalIn 9999 f.type v v).run P w = .ok true w := fun i hi h1 h2 => by
    obtain ⟨z, hz⟩ := hx i hi
    refine ⟨.int .u64 z, ?_, ?_⟩
    · rw [h1, h2]; simp [part, isAgg, run_underlying he, hz]
    · rw [h1, run_equalIn_int w 9998 e .u64 .u64 _ _ he]; simp
  simp only [List.mem_cons, List.not_mem_nil, or_false, Prod.mk.injEq] at hm
  rcases hm with ⟨h1, h2⟩ | ⟨h1, h2⟩ | ⟨h1, h2⟩
  · refine ⟨.agg (xs.extract 0 (0 + n)), ?_, ?_⟩
    · rw [h1, h2]; simp [part, isAgg, run_underlying hta, hsa]
    · rw [h1]
      refine run_equalIn_ints 9997 ta e n .u64 hta he hsz w _ fun i hi => ?_
      obtain ⟨z, hz⟩ := hx i (by omega)
      refine ⟨z, ?_⟩
      have hs : i < xs.size := (Array.getElem?_eq_some_iff.1 hz).1
      rw [Array.getElem?_extract, Nat.zero_add, if_pos (by omega), Nat.zero_add, hz]
  · exact one n (by omega) h1 h2
  · exact one (n + 1) (by omega) h1 h2
end
section
variable {P : Program} {w : World} {ops : Array Oper} {rest : List Oper} {o : Oper} {a : Act} {Q : Exit → Act → World → Prop}
def BuildGoal (P : Program) (t : TypeId) (parts : Array (Nat × Value)) (w : World) (K : Value → World → Prop) : Prop := RunGoal P (Instr.build t parts) w K
theorem wl_build (hgd : o.guard = none) (t : TypeId) (ps : Array (Nat × Operand)) (ho : o.op = Op.build t ps) (h : BuildGoal P t (ps.map fun (i, x) => (i, a.eval x)) w fun v w' => wpList P ops Q rest (a.put o.dst v) w') : wpList P ops Q (o :: rest) a w := by
  obtain ⟨v, w', hr, hk⟩ := h
  refine wpList_plain hgd fun K hK => ?_
  unfold Oper.wp execOp
  simp only [ho, Sem.run_bind, hr, Result.andThen_ok, Sem.run_pure]
  exact hK _ _ hk
theorem rg_build {t : TypeId} {parts : Array (Nat × Value)} {cells : Array Value} {w : World} {K : Value → World → Prop} (hb : P.built t parts.toList = some cells) (h : K (.agg cells) w) : BuildGoal P t parts w K :=
  .mk (run_build w t parts cells hb) h
theorem wl_ldg (hgd : Region.wanted o (yielded ops a.tmps) = true) (x : Operand) (ty : TypeId) (ho : o.op = Op.load ty x) (p : Addr)
    (h1 : a.eval x = .pointer (some p)) (h : LdGoal P ty p w fun v w' => wpList P ops Q rest (a.put o.dst v) w') : wpList P ops Q (o :: rest) a w := by
  obtain ⟨v, w', hr, hk⟩ := h
  unfold wpList
  rw [if_pos hgd]
  refine .inl ?_
  unfold Oper.wp execOp
  simp only [ho, h1, hr, Sem.run_bind, Sem.run_pure, Result.andThen_ok]
  exact hk
def EqRGoal (P : Program) (ty : TypeId) (cs : Array Value) (w : World) (K : Prop) : Prop := P.eqGuardType P.depth ty = false ∧ (Op.equalIn 10000 ty (.agg cs) (.agg cs)).run P w = .ok true w ∧ K
theorem wl_eqg (hgd : Region.wanted o (yielded ops a.tmps) = true) (x y : Operand) (ty ty2 : TypeId) (ho : o.op = Op.binOp .eql ty x y ty2) (cs : Array Value) (h1 : a.eval x = .agg cs) (h2 : a.eval y = .agg cs)
    (h : EqRGoal P ty cs w (wpList P ops Q rest (a.put o.dst (.bool true)) w)) : wpList P ops Q (o :: rest) a w := by
  obtain ⟨hm, hq, h⟩ := h
  unfold wpList
  rw [if_pos hgd]
  refine .inl ?_
  unfold Oper.wp execOp
  simp only [ho, h1, h2, Sem.run_bind, Sem.run_pure, Result.andThen_ok, run_eqGuard_agg w _ _ _ _ _ _ hm, run_eql_struct, hq]
  exact h
theorem wl_neg (hgd : Region.wanted o (yielded ops a.tmps) = true) (x y : Operand) (ty ty2 : TypeId) (ho : o.op = Op.binOp .neq ty x y ty2) (cs : Array Value) (h1 : a.eval x = .agg cs) (h2 : a.eval y = .agg cs)
    (h : EqRGoal P ty cs w (wpList P ops Q rest (a.put o.dst (.bool false)) w)) : wpList P ops Q (o :: rest) a w := by
  obtain ⟨hm, hq, h⟩ := h
  unfold wpList
  rw [if_pos hgd]
  refine .inl ?_
  unfold Oper.wp execOp
  simp only [ho, h1, h2, Sem.run_bind, Sem.run_pure, Result.andThen_ok, run_eqGuard_agg w _ _ _ _ _ _ hm, run_neq_struct, hq]
  exact h
end
end Go.Dm
namespace Go.Dm.Vm
open Go Go.Proofs.YtaoillfofiehpaaGreatDoor Go.Dm.Oc

/-- a page in the place of its like, or where it belongs: the rest of the list, and whether it was put -/
def withP (p : Pg) : V → Bool → V
  | [], true => []
  | [], false => [p]
  | q :: r, put => (if !put && decide (p.addr ≤ q.addr) then [p] else []) ++ ((if q.addr ≠ p.addr then [q] else []) ++ withP p r (put || decide (p.addr ≤ q.addr)))
theorem withP_done {p : Pg} {m : V} (h : ∀ q ∈ m, q.addr ≠ p.addr) : withP p m true = m := by
  induction m with
  | nil => rfl
  | cons q r ih =>
    simp only [withP, Bool.not_true, Bool.false_and, Bool.false_eq_true, if_false, List.nil_append, Bool.true_or]
    rw [if_pos (h q (List.mem_cons_self ..)), ih fun x hx => h x (List.mem_cons_of_mem _ hx)]
    rfl
theorem withP_new {p : Pg} {m : V} (hs : m.Pairwise (fun p q => p.addr < q.addr)) (h : ∀ q ∈ m, q.addr ≠ p.addr) : withP p m false = insP p m := by
  induction m with
  | nil => rfl
  | cons q r ih =>
    rw [List.pairwise_cons] at hs
    have hq := h q (List.mem_cons_self ..)
    have hr : ∀ x ∈ r, x.addr ≠ p.addr := fun x hx => h x (List.mem_cons_of_mem _ hx)
    unfold withP insP
    rw [if_pos hq]
    by_cases hlt : p.addr < q.addr
    · have hle : p.addr ≤ q.addr := by omega
      simp only [hle, hlt, decide_true, Bool.not_false, Bool.and_self, if_true, Bool.or_true, withP_done hr]
      rfl
    · have hle : ¬ p.addr ≤ q.addr := by omega
      simp only [hle, hlt, decide_false, Bool.not_false, Bool.and_false, Bool.false_eq_true, if_false, Bool.or_false, List.nil_append, ih hs.2 hr]
      rfl
theorem withP_upd {p : Pg} {m : V} (hs : m.Pairwise (fun p q => p.addr < q.addr)) (h : ∃ q ∈ m, q.addr = p.addr) : withP p m false = upd m p.addr (fun _ => p) := by
  induction m with
  | nil => obtain ⟨_, h, _⟩ := h; cases h
  | cons q r ih =>
    rw [List.pairwise_cons] at hs
    unfold withP upd
    by_cases hq : q.addr = p.addr
    · have hr : ∀ x ∈ r, x.addr ≠ p.addr := fun x hx => by have := hs.1 x hx; omega
      have hle : p.addr ≤ q.addr := by omega
      simp only [hle, decide_true, Bool.not_false, Bool.and_self, if_true, Bool.or_true, withP_done hr, List.map_cons]
      rw [if_pos hq, if_neg (by simpa using hq)]
      show p :: r = p :: _
      congr 1
      conv => lhs; rw [← List.map_id r]
      apply List.map_congr_left
      intro x hx
      rw [if_neg (hr x hx)]
      rfl
    · obtain ⟨x, hx, ex⟩ := h
      have hxr : x ∈ r := (List.mem_cons.1 hx).resolve_left fun e => hq (e ▸ ex)
      have hle : ¬ p.addr ≤ q.addr := by have := hs.1 x hxr; omega
      have := ih hs.2 ⟨x, hxr, ex⟩
      unfold upd at this
      simp only [hle, decide_false, Bool.not_false, Bool.and_false, Bool.false_eq_true, if_false, Bool.or_false, List.nil_append, this, List.map_cons]
      rw [if_pos hq, if_neg hq]
      rfl
theorem upd_upd (m : V) (a : Nat) {g1 g2 : Pg → Pg} (h1 : ∀ p, (g1 p).addr = p.addr) : upd (upd m a g1) a g2 = upd m a (fun p => g2 (g1 p)) := by
  unfold upd
  rw [List.map_map]
  apply List.map_congr_left
  intro p _
  simp only [Function.comp]
  by_cases e : p.addr = a
  · rw [if_pos e, if_pos (by rw [h1]; exact e), if_pos e]
  · rw [if_neg e, if_neg e, if_neg e]
theorem upd_id (m : V) (a : Nat) {g : Pg → Pg} (h : ∀ p ∈ m, p.addr = a → g p = p) : upd m a g = m := by
  unfold upd
  conv => rhs; rw [← List.map_id m]
  apply List.map_congr_left
  intro p hp
  split
  · rename_i e; exact h p hp e
  · rfl
theorem setB_upd (m : V) (a : Nat) (c : UInt8) : setB m a c = upd m (pageOf a) (fun p => { p with b := p.b.set (a % 256) c }) := rfl
/-- bytes within one page -/
theorem writeB_page (m : V) (a : Nat) (c : List UInt8) (h : a % 256 + c.length ≤ 256) : writeB m a c = upd m (pageOf a) (fun p => { p with b := setR p.b (a % 256) c }) := by
  induction c generalizing m a with
  | nil => exact (upd_id m _ fun p _ _ => rfl).symm
  | cons x r ih =>
    rw [List.length_cons] at h
    unfold writeB
    cases r with
    | nil => rw [setB_upd]; rfl
    | cons y t =>
      rw [List.length_cons] at h
      have e1 : pageOf (a + 1) = pageOf a := by unfold pageOf; omega
      have e2 : (a + 1) % 256 = a % 256 + 1 := by omega
      rw [ih _ (a + 1) (by rw [e2, List.length_cons]; omega), e1, e2, setB_upd, upd_upd]
      · rfl
      · intro p; rfl
theorem writeB_append (m : V) (a : Nat) (b c : List UInt8) : writeB m a (b ++ c) = writeB (writeB m a b) (a + b.length) c := by
  induction b generalizing m a with
  | nil => rfl
  | cons x r ih =>
    show writeB (setB m a x) (a + 1) (r ++ c) = writeB (writeB (setB m a x) (a + 1) r) (a + (r.length + 1)) c
    rw [ih, show a + 1 + r.length = a + (r.length + 1) by omega]
end Go.Dm.Vm
namespace Go.Dm.Vm
open Go Go.Proofs.YtaoillfofiehpaaGreatDoor Go.Dm.Oc

/-- all pages from lo up to hi are there, and that may be done with them -/
def Full (m : V) (lo hi prot : Nat) : Prop := ∀ x, x % 256 = 0 → lo ≤ x → x < hi → ∃ p, pageAt m x = some p ∧ p.prot = prot
theorem Full.there {m : V} {lo hi prot a n : Nat} (h : Full m lo hi prot) (hlo : lo % 256 = 0) (h1 : lo ≤ a) (h2 : a + n ≤ hi) (hn : 0 < n) : there m a n = true := by
  rw [there_take]
  intro k hk
  have := (pages_step a n k hn).2 hk
  obtain ⟨p, hp, _⟩ := h (pageOf a + 256 * k) (by unfold pageOf; omega) (by unfold pageOf; omega) (by omega)
  rw [hp]; rfl
theorem Full.held {m : V} {lo hi prot a n : Nat} (h : Full m lo hi prot) (hlo : lo % 256 = 0) (h1 : lo ≤ a) (h2 : a + n ≤ hi) (hn : 0 < n) (hh : hi ≤ top) (hs : n ≤ 131328) : heldE m a n = 0 := by
  unfold heldE
  rw [if_neg (by omega), if_pos (h.there hlo h1 h2 hn)]
theorem Full.allowed {m : V} {lo hi prot a n what : Nat} (h : Full m lo hi prot) (hlo : lo % 256 = 0) (h1 : lo ≤ a) (h2 : a + n ≤ hi) (hn : 0 < n) (hp : prot &&& what ≠ 0) : allowedE m a n what = 0 := by
  unfold allowedE
  rw [if_pos]
  unfold pagesOf
  rw [List.all_eq_true]
  intro x hx
  obtain ⟨k, hk, rfl⟩ := List.mem_map.1 hx
  have := (pages_step a n k hn).2 (List.mem_range.1 hk)
  obtain ⟨p, hpp, hpr⟩ := h (pageOf a + 256 * k) (by unfold pageOf; omega) (by unfold pageOf; omega) (by omega)
  unfold allow1E
  rw [hpp]
  simp only [hpr]
  rw [if_neg hp]
  rfl
theorem Full.num {m : V} {lo hi prot a what : Nat} {n : Int} (h : Full m lo hi prot) (hlo : lo % 256 = 0) (hw : n = 1 ∨ n = 2 ∨ n = 4 ∨ n = 8) (h1 : lo ≤ a) (h2 : a + n.toNat ≤ hi) (hh : hi ≤ top) (hp : prot &&& what ≠ 0) : numE m a n what = 0 := by
  unfold numE
  rw [if_pos hw, if_pos (h.held hlo h1 h2 (by omega) hh (by omega))]
  exact h.allowed hlo h1 h2 (by omega) hp
theorem Full.upd {m : V} {lo hi prot a : Nat} {g : Pg → Pg} (h : Full m lo hi prot) (hg : ∀ p, (g p).addr = p.addr) (hp : ∀ p, (g p).prot = p.prot) : Full (upd m a g) lo hi prot := by
  intro x h1 h2 h3
  obtain ⟨p, hpp, hpr⟩ := h x h1 h2 h3
  refine ⟨_, by rw [pageAt_upd m hg, hpp]; rfl, ?_⟩
  show (if p.addr = a then g p else p).prot = prot
  split
  · rw [hp, hpr]
  · exact hpr
theorem Full.updN {m : V} {lo hi prot a k : Nat} {g : Pg → Pg} (h : Full m lo hi prot) (hg : ∀ p, (g p).addr = p.addr) (hp : ∀ p, (g p).prot = p.prot) : Full (updN g m a k) lo hi prot := by
  induction k with
  | zero => exact h
  | succ k ih => exact ih.upd hg hp
theorem Full.write {m : V} {lo hi prot : Nat} (h : Full m lo hi prot) (a : Nat) (b : List UInt8) : Full (writeB m a b) lo hi prot := by
  induction b generalizing m a with
  | nil => exact h
  | cons c r ih => exact ih (Full.upd (g := fun p => { p with b := p.b.set (a % 256) c }) h (fun _ => rfl) (fun _ => rfl)) (a + 1)
theorem Full.store {m : V} {lo hi prot : Nat} (h : Full m lo hi prot) (a : Nat) (n : Int) (x : Nat) : Full (storeV m a n x) lo hi prot := by
  unfold storeV
  split
  · exact (h.write _ _).updN (g := dirt) (fun _ => rfl) (fun _ => rfl)
  · exact h
theorem byteAt_upd {m : V} {a y : Nat} {g : Pg → Pg} (hg : ∀ p, (g p).addr = p.addr) (hb : ∀ p, (g p).b = p.b) : byteAt (upd m a g) y = byteAt m y := by
  unfold byteAt
  rw [pageAt_upd m hg]
  cases pageAt m (pageOf y) with
  | none => rfl
  | some p =>
    simp only [Option.map_some]
    split
    · rw [hb]
    · rfl
theorem byteAt_updN {m : V} {a y k : Nat} {g : Pg → Pg} (hg : ∀ p, (g p).addr = p.addr) (hb : ∀ p, (g p).b = p.b) : byteAt (updN g m a k) y = byteAt m y := by
  induction k with
  | zero => rfl
  | succ k ih => unfold updN; rw [byteAt_upd hg hb, ih]
theorem byteAt_setB {m : V} {a y : Nat} {c : UInt8} (ho : Ok m) (hp : ∃ p, pageAt m (pageOf a) = some p) : byteAt (setB m a c) y = if y = a then c else byteAt m y := by
  unfold byteAt
  rw [pageAt_setB]
  by_cases hpg : pageOf y = pageOf a
  · obtain ⟨p, hp⟩ := hp
    rw [hpg, hp]
    obtain ⟨hpm, hpa⟩ := get_mem hp
    have hl := (ho.pg p hpm).bl
    simp only [Option.map_some]
    rw [if_pos hpa]
    simp only
    by_cases e : y = a
    · subst e
      rw [if_pos rfl, List.getD_eq_getElem?_getD, List.getElem?_set_self (by rw [hl]; exact Nat.mod_lt _ (by decide))]
      rfl
    · rw [if_neg e, List.getD_eq_getElem?_getD, List.getElem?_set_ne (by unfold pageOf at hpg; omega), List.getD_eq_getElem?_getD]
  · rw [if_neg (fun e => hpg (by rw [e]))]
    cases hq : pageAt m (pageOf y) with
    | none => rfl
    | some p =>
      simp only [Option.map_some]
      rw [if_neg (by rw [(get_mem hq).2]; exact hpg)]
theorem byteAt_writeB {m : V} (b : List UInt8) (ho : Ok m) (a y : Nat) (ht : ∀ i, i < b.length → ∃ p, pageAt m (pageOf (a + i)) = some p) : byteAt (writeB m a b) y = if a ≤ y ∧ y < a + b.length then b.getD (y - a) 0 else byteAt m y := by
  induction b generalizing m a with
  | nil => rw [if_neg (by rw [List.length_nil]; omega)]; rfl
  | cons c r ih =>
    have h0 := ht 0 (by simp)
    rw [Nat.add_zero] at h0
    show byteAt (writeB (setB m a c) (a + 1) r) y = _
    rw [ih (setB_ok ho a c) (a + 1) fun i hi => ?_, byteAt_setB ho h0]
    · rw [List.length_cons]
      by_cases e : y = a
      · subst e
        rw [if_neg (by omega), if_pos rfl, if_pos (by omega), Nat.sub_self]
        rfl
      · rw [if_neg e]
        by_cases h : a + 1 ≤ y ∧ y < a + 1 + r.length
        · rw [if_pos h, if_pos (by omega), show y - a = (y - (a + 1)) + 1 by omega]
          rfl
        · rw [if_neg h, if_neg (by omega)]
    · obtain ⟨p, hp⟩ := ht (i + 1) (by simpa using hi)
      rw [show a + 1 + i = a + (i + 1) by omega]
      exact ⟨_, by rw [pageAt_setB, hp]; rfl⟩
/-- what is stored is loaded -/
theorem read_store {m : V} (ho : Ok m) {a : Nat} {n : Int} {x : Nat} (hE : numE m a n 2 = 0) (y k : Nat) : readB (storeV m a n x) y k = (List.range k).map fun i => if a ≤ y + i ∧ y + i < a + n.toNat then (le n.toNat x).getD (y + i - a) 0 else byteAt m (y + i) := by
  unfold readB
  apply List.map_congr_left
  intro i _
  unfold storeV
  rw [if_pos hE, byteAt_updN (g := dirt) (fun _ => rfl) (fun _ => rfl), byteAt_writeB _ ho, le_len]
  intro j hj
  rw [le_len] at hj
  have hp : heldE m a n.toNat = 0 := by
    unfold numE at hE
    split at hE
    · split at hE
      · assumption
      · rename_i h; exact absurd hE h
    · cases hE
  exact there_at (held_parts hp).2.2.2 hj
theorem load_store {m : V} (ho : Ok m) {a : Nat} {n : Int} {x : Nat} (hE : numE m a n 2 = 0) (hL : numE (storeV m a n x) a n 4 = 0) : loadX (storeV m a n x) a n = x % 256 ^ n.toNat := by
  unfold loadX
  rw [if_pos (show loadE (storeV m a n x) a n = 0 from hL), read_store ho hE]
  have e : ((List.range n.toNat).map fun i => if a ≤ a + i ∧ a + i < a + n.toNat then (le n.toNat x).getD (a + i - a) 0 else byteAt m (a + i)) = le n.toNat x := by
    apply List.ext_getElem
    · rw [List.length_map, List.length_range, le_len]
    · intro i h1 h2
      rw [List.length_map, List.length_range] at h1
      rw [List.getElem_map, List.getElem_range, if_pos (by omega), Nat.add_sub_cancel_left, List.getD_eq_getElem?_getD, List.getElem?_eq_getElem h2]
      rfl
  rw [e, leN_le]
theorem dirt_ok' (p : Pg) (h : PgOk p) : PgOk (dirt p) := ⟨h.al, h.lt, h.pr, h.bl, h.ol, h.fl⟩
theorem store_ok {m : V} (ho : Ok m) (a : Nat) (n : Int) (x : Nat) : Ok (storeV m a n x) := by
  unfold storeV
  split
  · exact updN_ok (g := dirt) (writeB_ok ho _ _) (fun _ => rfl) dirt_ok' _ _
  · exact ho
theorem read_write {m : V} (ho : Ok m) {a : Nat} {b : List UInt8} (hh : heldE m a b.length = 0) : readB (writeB m a b) a b.length = b := by
  unfold readB
  apply List.ext_getElem
  · rw [List.length_map, List.length_range]
  · intro i h1 h2
    rw [List.length_map, List.length_range] at h1
    rw [List.getElem_map, List.getElem_range, byteAt_writeB b ho a (a + i) (fun j hj => there_at (held_parts hh).2.2.2 hj), if_pos (by omega), Nat.add_sub_cancel_left, List.getD_eq_getElem?_getD, List.getElem?_eq_getElem h2]
    rfl
end Go.Dm.Vm
