/- cpu: Step. No condition. -/
import Derived.Test.YtaoillfofiehpaaDoorCpu6
namespace Go.Proofs.YtaoillfofiehpaaDoor
open Go.RowKit Go.Dm Go.Dm.Vm Go.Dm.Cp Go.Maps
theorem dec_inok {x : Nat} (hx : x < 18446744073709551616) (h : decE x = 0) : InOk (decI x) := by
  obtain ⟨d1, d2, d3, d4⟩ := dec_fits x
  obtain ⟨i1, i2⟩ := dec_may_imm x hx
  refine ⟨?_, d2, d3, d4, i1, i2⟩
  unfold decE at h
  dsimp only at h
  split at h
  · rename_i hh
    rw [Bool.and_eq_true, may_eq ⟨i1, i2⟩] at hh
    exact (may_op hh.1).1
  · cases h
theorem fetchX_lt (m : V) (a : Nat) : fetchX m a < 18446744073709551616 := by
  unfold fetchX
  split
  · have h1 := Oc.leN_lt (readB m a 8)
    rw [readB_len] at h1
    have h4 : (256 : Nat) ^ 8 = 18446744073709551616 := by decide
    omega
  · decide
section
variable {A : Nat → Prop} {w : World} {d mb : Nat} {f : Nat → Nat} {m : V}
set_option maxRecDepth 100000 in
set_option maxHeartbeats 600000 in
theorem cpustep_any (s : St) (hs : StOk s) (hT : Tabs w) (h : SRep A w d m mb f) (hA : ∀ k, A k → k < w.heap.size) :
    Calls Tryd.prog 9 #[.agg (cellsS s), ptrTo d] w fun e w' => e = .returned (.tuple #[.agg (cellsS (stepM s m).1), encO3 (stepM s m).2.2]) ∧ SRep A w' d (stepM s m).2.1 mb f ∧ Keep A w w' := by
  have hfe := fun (W : World) (hk : Keep No w W) => vfetch_any (w := W) s.pc hs.pc (h.no hA hk) (fun j hj => by have := hA j hj; have := hk.size; omega)
  have htm : stepM s m = if fetchE m s.pc = 0 then if decE (fetchX m s.pc) = 0 then doM s m (decI (fetchX m s.pc)) else (s, m, ⟨3, 42, s.pc⟩) else (s, m, ⟨3, fetchE m s.pc, s.pc⟩) := rfl
  have hxl := fetchX_lt m s.pc
  generalize stepM s m = TM at *
  obtain ⟨T1, T2, kd, er, ad⟩ := TM
  generalize fetchX m s.pc = X at *
  generalize fetchE m s.pc = E at *
  have hsz := cellsS_size hs
  have hss := stC_sz hs
  have hone := cellsS_one s
  have g4 := cellsS_pc hs
  unfold uv at g4
  obtain ⟨cs, hcs⟩ : ∃ cs, cs = cellsS s := ⟨_, rfl⟩
  have HCS := Lib.hid hcs
  rw [← hcs] at hsz g4 hss hone ⊢
  have g32 : cs[32]'(by omega) = .int .u64 (s.pc : Int) := by
    have := Array.getElem?_eq_getElem (xs := cs) (i := 32) (by omega)
    rw [g4] at this
    exact (Option.some.inj this).symm
  have HSZ := Lib.hid hss
  have HONE := Lib.hid hone
  have hHS := Lib.hid h
  have hHT := Lib.hid hT
  have hAX := Lib.hid hA
  have HTM := Lib.hid htm
  unfold ptrTo at hfe ⊢
  have HFE := Lib.hid hfe
  have HXL := Lib.hid hxl
  clear hcs h hT hA htm hfe hss hone hxl
  go_enter Tryd.func9, Tryd.ntmps9
  go_wp2_with (first | (at_builtin; refine wl_append rfl _ _ _ _ rfl _ _ rfl rfl ?_) | (at_make; refine wl_make rfl _ _ _ rfl _ _ rfl rfl ?_) | (at_mapUpdate; refine wl_mapUpdate rfl _ _ _ _ rfl _ _ _ rfl rfl rfl ?_) | (at_lookup; refine wl_lookup rfl _ _ _ _ rfl _ _ rfl rfl ?_) | (at_delete; refine wl_delete rfl _ _ _ _ rfl _ _ rfl rfl ?_) | (with_reducible refine wl_len rfl _ _ rfl _ rfl ?_) | (with_reducible refine wl_range rfl _ _ rfl _ rfl ?_) | (with_reducible refine wl_next rfl _ rfl _ rfl ?_) | (with_reducible refine wl_copy rfl _ _ _ _ rfl _ _ rfl rfl ?_) | (with_reducible refine wl_max rfl _ _ _ _ rfl _ _ rfl rfl ?_) | (with_reducible refine wl_min rfl _ _ _ _ rfl _ _ rfl rfl ?_))
  have hkW1 : Keep No w (w.alloc (.cells cs 26)) := (Keep.refl _ _).alloc _
  have hBW1 : Blk (w.alloc (.cells cs 26)) w.heap.size cs 26 := Blk.new _ _ _
  have hzW1 : (w.alloc (.cells cs 26)).heap.size = w.heap.size + 1 := World.size_alloc _ _
  generalize w.alloc (.cells cs 26) = W1 at *
  have hkW2 : Keep No W1 (W1.alloc (.cells #[.int .u64 0, .int .u64 0, .int .u64 0, .int .u64 0, .int .u64 0, .int .u64 0, .int .u64 0, .int .u64 0, .int .u64 0, .int .u64 0, .int .u64 0, .int .u64 0, .int .u64 0, .int .u64 0, .int .u64 0, .int .u64 0, .int .u64 0, .int .u64 0, .int .u64 0, .int .u64 0, .int .u64 0, .int .u64 0, .int .u64 0, .int .u64 0, .int .u64 0, .int .u64 0, .int .u64 0, .int .u64 0, .int .u64 0, .int .u64 0, .int .u64 0, .int .u64 0, .int .u64 0, .int .u64 0] 26)) := (Keep.refl _ _).alloc _
  have hBW2 : Blk (W1.alloc (.cells #[.int .u64 0, .int .u64 0, .int .u64 0, .int .u64 0, .int .u64 0, .int .u64 0, .int .u64 0, .int .u64 0, .int .u64 0, .int .u64 0, .int .u64 0, .int .u64 0, .int .u64 0, .int .u64 0, .int .u64 0, .int .u64 0, .int .u64 0, .int .u64 0, .int .u64 0, .int .u64 0, .int .u64 0, .int .u64 0, .int .u64 0, .int .u64 0, .int .u64 0, .int .u64 0, .int .u64 0, .int .u64 0, .int .u64 0, .int .u64 0, .int .u64 0, .int .u64 0, .int .u64 0, .int .u64 0] 26)) W1.heap.size #[.int .u64 0, .int .u64 0, .int .u64 0, .int .u64 0, .int .u64 0, .int .u64 0, .int .u64 0, .int .u64 0, .int .u64 0, .int .u64 0, .int .u64 0, .int .u64 0, .int .u64 0, .int .u64 0, .int .u64 0, .int .u64 0, .int .u64 0, .int .u64 0, .int .u64 0, .int .u64 0, .int .u64 0, .int .u64 0, .int .u64 0, .int .u64 0, .int .u64 0, .int .u64 0, .int .u64 0, .int .u64 0, .int .u64 0, .int .u64 0, .int .u64 0, .int .u64 0, .int .u64 0, .int .u64 0] 26 := Blk.new _ _ _
  have hzW2 : (W1.alloc (.cells #[.int .u64 0, .int .u64 0, .int .u64 0, .int .u64 0, .int .u64 0, .int .u64 0, .int .u64 0, .int .u64 0, .int .u64 0, .int .u64 0, .int .u64 0, .int .u64 0, .int .u64 0, .int .u64 0, .int .u64 0, .int .u64 0, .int .u64 0, .int .u64 0, .int .u64 0, .int .u64 0, .int .u64 0, .int .u64 0, .int .u64 0, .int .u64 0, .int .u64 0, .int .u64 0, .int .u64 0, .int .u64 0, .int .u64 0, .int .u64 0, .int .u64 0, .int .u64 0, .int .u64 0, .int .u64 0] 26)).heap.size = W1.heap.size + 1 := World.size_alloc _ _
  generalize W1.alloc (.cells #[.int .u64 0, .int .u64 0, .int .u64 0, .int .u64 0, .int .u64 0, .int .u64 0, .int .u64 0, .int .u64 0, .int .u64 0, .int .u64 0, .int .u64 0, .int .u64 0, .int .u64 0, .int .u64 0, .int .u64 0, .int .u64 0, .int .u64 0, .int .u64 0, .int .u64 0, .int .u64 0, .int .u64 0, .int .u64 0, .int .u64 0, .int .u64 0, .int .u64 0, .int .u64 0, .int .u64 0, .int .u64 0, .int .u64 0, .int .u64 0, .int .u64 0, .int .u64 0, .int .u64 0, .int .u64 0] 26) = W2 at *
  have hkW3 : Keep No W2 (W2.alloc (.cells #[.int .i64 0, .int .i64 0, .int .u64 0] 36)) := (Keep.refl _ _).alloc _
  have hBW3 : Blk (W2.alloc (.cells #[.int .i64 0, .int .i64 0, .int .u64 0] 36)) W2.heap.size #[.int .i64 0, .int .i64 0, .int .u64 0] 36 := Blk.new _ _ _
  have hzW3 : (W2.alloc (.cells #[.int .i64 0, .int .i64 0, .int .u64 0] 36)).heap.size = W2.heap.size + 1 := World.size_alloc _ _
  generalize W2.alloc (.cells #[.int .i64 0, .int .i64 0, .int .u64 0] 36) = W3 at *
  rw [hzW1] at hBW2 hzW2
  rw [hzW2] at hBW3 hzW3
  have hk3 := (hkW1.trans' hkW2).trans' hkW3
  have b2 := (hBW1.keep hkW2 fun h => h).keep hkW3 fun h => h
  have b4 := hBW2.keep hkW3 fun h => h
  have b5 := hBW3
  clear hkW1 hkW2 hkW3 hBW1 hBW2 hBW3 hzW1 hzW2
  have q32 : W3.cell? ⟨w.heap.size, 32, none⟩ = some (.int .u64 (s.pc : Int)) := (b2.cell 32).trans g4
  have hcall := HFE.out W3 hk3
  clear g32
  go_wp2_with (first | (at_builtin; refine wl_append rfl _ _ _ _ rfl _ _ rfl rfl ?_) | (at_make; refine wl_make rfl _ _ _ rfl _ _ rfl rfl ?_) | (at_mapUpdate; refine wl_mapUpdate rfl _ _ _ _ rfl _ _ _ rfl rfl rfl ?_) | (at_lookup; refine wl_lookup rfl _ _ _ _ rfl _ _ rfl rfl ?_) | (at_delete; refine wl_delete rfl _ _ _ _ rfl _ _ rfl rfl ?_) | (with_reducible refine wl_len rfl _ _ rfl _ rfl ?_) | (with_reducible refine wl_range rfl _ _ rfl _ rfl ?_) | (with_reducible refine wl_next rfl _ rfl _ rfl ?_) | (with_reducible refine wl_copy rfl _ _ _ _ rfl _ _ rfl rfl ?_) | (with_reducible refine wl_max rfl _ _ _ _ rfl _ _ rfl rfl ?_) | (with_reducible refine wl_min rfl _ _ _ _ rfl _ _ rfl rfl ?_))
  refine hcall.mono ?_
  rintro e w4 ⟨rfl, hk34⟩
  have hkX := hk3.trans' hk34
  have b2X := b2.keep hk34 fun h => h
  have b4X := b4.keep hk34 fun h => h
  have b5X := b5.keep hk34 fun h => h
  clear hcall q32 b2 b4 b5 hk3 hk34
  by_cases hE : E = 0
  · subst hE
    rw [if_pos rfl] at HTM
    have hdc := isadec_any (w := w4) X HXL.out (hHT.out.no hkX)
    have hdi := fun h => dec_inok HXL.out h
    have hd42 : decE X ≠ 0 → decE X = 42 := fun h => by
      revert h
      unfold decE
      dsimp only
      split
      · intro h; exact absurd rfl h
      · intro _; rfl
    generalize decI X = I at *
    generalize decE X = D at *
    have HDI := Lib.hid hdi
    have HD42 := Lib.hid hd42
    clear hdi hd42
    by_cases hD : D = 0
    · subst hD
      rw [if_pos rfl] at HTM hdc
      go_wp2_with (first | (at_builtin; refine wl_append rfl _ _ _ _ rfl _ _ rfl rfl ?_) | (at_make; refine wl_make rfl _ _ _ rfl _ _ rfl rfl ?_) | (at_mapUpdate; refine wl_mapUpdate rfl _ _ _ _ rfl _ _ _ rfl rfl rfl ?_) | (at_lookup; refine wl_lookup rfl _ _ _ _ rfl _ _ rfl rfl ?_) | (at_delete; refine wl_delete rfl _ _ _ _ rfl _ _ rfl rfl ?_) | (with_reducible refine wl_len rfl _ _ rfl _ rfl ?_) | (with_reducible refine wl_range rfl _ _ rfl _ rfl ?_) | (with_reducible refine wl_next rfl _ rfl _ rfl ?_) | (with_reducible refine wl_copy rfl _ _ _ _ rfl _ _ rfl rfl ?_) | (with_reducible refine wl_max rfl _ _ _ _ rfl _ _ rfl rfl ?_) | (with_reducible refine wl_min rfl _ _ _ _ rfl _ _ rfl rfl ?_))
      refine hdc.mono ?_
      rintro e w5 ⟨rfl, hk45⟩
      unfold encI
      have b25 := b2X.keep hk45 fun h => h
      have b45 := b4X.keep hk45 fun h => h
      have b55 := b5X.keep hk45 fun h => h
      have hk5 := hkX.trans' hk45
      clear hdc hk45 b2X b4X b5X hkX
      go_wp2_with (first | (at_builtin; refine wl_append rfl _ _ _ _ rfl _ _ rfl rfl ?_) | (at_make; refine wl_make rfl _ _ _ rfl _ _ rfl rfl ?_) | (at_mapUpdate; refine wl_mapUpdate rfl _ _ _ _ rfl _ _ _ rfl rfl rfl ?_) | (at_lookup; refine wl_lookup rfl _ _ _ _ rfl _ _ rfl rfl ?_) | (at_delete; refine wl_delete rfl _ _ _ _ rfl _ _ rfl rfl ?_) | (with_reducible refine wl_len rfl _ _ rfl _ rfl ?_) | (with_reducible refine wl_range rfl _ _ rfl _ rfl ?_) | (with_reducible refine wl_next rfl _ rfl _ rfl ?_) | (with_reducible refine wl_copy rfl _ _ _ _ rfl _ _ rfl rfl ?_) | (with_reducible refine wl_max rfl _ _ _ _ rfl _ _ rfl rfl ?_) | (with_reducible refine wl_min rfl _ _ _ _ rfl _ _ rfl rfl ?_) | (with_reducible refine wl_stAgg rfl _ _ _ rfl _ _ rfl rfl ?_))
      have hkW6 : Keep No w5 (w5.alloc (.cells #[.int .i64 0, .int .i64 0, .int .i64 0, .int .i64 0, .int .i32 0] 61)) := (Keep.refl _ _).alloc _
      have hBW6 : Blk (w5.alloc (.cells #[.int .i64 0, .int .i64 0, .int .i64 0, .int .i64 0, .int .i32 0] 61)) w5.heap.size #[.int .i64 0, .int .i64 0, .int .i64 0, .int .i64 0, .int .i32 0] 61 := Blk.new _ _ _
      have hzW6 : (w5.alloc (.cells #[.int .i64 0, .int .i64 0, .int .i64 0, .int .i64 0, .int .i32 0] 61)).heap.size = w5.heap.size + 1 := World.size_alloc _ _
      generalize w5.alloc (.cells #[.int .i64 0, .int .i64 0, .int .i64 0, .int .i64 0, .int .i32 0] 61) = W6 at *
      refine rg_stAgg hBW6 (by kernel_rfl) (by rfl) (by simp [Value.oneCell']) ?_
      intro w6 b66 hk66 hz66
      have hk56 : Keep No w5 w6 := hkW6.trans hk66 fun j hj e => absurd hj (by have e2 : j = w5.heap.size := e; omega)
      have b2X := b25.keep hk56 fun h => h
      have b4X := b45.keep hk56 fun h => h
      have b5X := b55.keep hk56 fun h => h
      have hk6 := hk5.trans' hk56
      have hl5 := b55.lt
      have hl6 := b66.lt
      clear hkW6 hBW6 hk66 hz66 hk56 b25 b45 b55 hk5
      have q0 : w6.cell? ⟨w5.heap.size, 0, none⟩ = some (.int .i64 (I.op : Int)) := b66.cell 0
      have q1 : w6.cell? ⟨w5.heap.size, 1, none⟩ = some (.int .i64 (I.a : Int)) := b66.cell 1
      have q2 : w6.cell? ⟨w5.heap.size, 2, none⟩ = some (.int .i64 (I.b : Int)) := b66.cell 2
      have q3 : w6.cell? ⟨w5.heap.size, 3, none⟩ = some (.int .i64 (I.c : Int)) := b66.cell 3
      have q4 : w6.cell? ⟨w5.heap.size, 4, none⟩ = some (.int .i32 I.imm) := b66.cell 4
      go_wp2_with (first | (at_builtin; refine wl_append rfl _ _ _ _ rfl _ _ rfl rfl ?_) | (at_make; refine wl_make rfl _ _ _ rfl _ _ rfl rfl ?_) | (at_mapUpdate; refine wl_mapUpdate rfl _ _ _ _ rfl _ _ _ rfl rfl rfl ?_) | (at_lookup; refine wl_lookup rfl _ _ _ _ rfl _ _ rfl rfl ?_) | (at_delete; refine wl_delete rfl _ _ _ _ rfl _ _ rfl rfl ?_) | (with_reducible refine wl_len rfl _ _ rfl _ rfl ?_) | (with_reducible refine wl_range rfl _ _ rfl _ rfl ?_) | (with_reducible refine wl_next rfl _ rfl _ rfl ?_) | (with_reducible refine wl_copy rfl _ _ _ _ rfl _ _ rfl rfl ?_) | (with_reducible refine wl_max rfl _ _ _ _ rfl _ _ rfl rfl ?_) | (with_reducible refine wl_min rfl _ _ _ _ rfl _ _ rfl rfl ?_) | (with_reducible refine wl_stAgg rfl _ _ _ rfl _ _ rfl rfl ?_) | (with_reducible refine wl_ld rfl _ 26 rfl _ rfl ?_) | (with_reducible refine wl_stInt rfl _ _ _ rfl _ _ _ rfl rfl ?_))
      refine rg_ld b2X Tryd.underlying26 rfl HSZ.out ?_
      go_wp2_with (first | (at_builtin; refine wl_append rfl _ _ _ _ rfl _ _ rfl rfl ?_) | (at_make; refine wl_make rfl _ _ _ rfl _ _ rfl rfl ?_) | (at_mapUpdate; refine wl_mapUpdate rfl _ _ _ _ rfl _ _ _ rfl rfl rfl ?_) | (at_lookup; refine wl_lookup rfl _ _ _ _ rfl _ _ rfl rfl ?_) | (at_delete; refine wl_delete rfl _ _ _ _ rfl _ _ rfl rfl ?_) | (with_reducible refine wl_len rfl _ _ rfl _ rfl ?_) | (with_reducible refine wl_range rfl _ _ rfl _ rfl ?_) | (with_reducible refine wl_next rfl _ rfl _ rfl ?_) | (with_reducible refine wl_copy rfl _ _ _ _ rfl _ _ rfl rfl ?_) | (with_reducible refine wl_max rfl _ _ _ _ rfl _ _ rfl rfl ?_) | (with_reducible refine wl_min rfl _ _ _ _ rfl _ _ rfl rfl ?_) | (with_reducible refine wl_stAgg rfl _ _ _ rfl _ _ rfl rfl ?_) | (with_reducible refine wl_ld rfl _ 26 rfl _ rfl ?_) | (with_reducible refine wl_stInt rfl _ _ _ rfl _ _ _ rfl rfl ?_))
      have hdo := cpudo_any (w := w6) (A := A) s I hs (HDI.out trivial) (hHT.out.no hk6) (hHS.out.no hAX.out hk6) (fun j hj => by have := hAX.out j hj; have := hk6.size; omega)
      have hdf := do_fault (s := s) (m := m) (i := I)
      rw [← HTM.out] at hdo hdf
      rw [← HCS.out] at hdo
      unfold encI ptrTo encO3 at hdo
      dsimp only at hdo hdf
      clear q0 q1 q2 q3 q4 HDI HD42 HFE
      refine hdo.mono ?_
      rintro e w7 ⟨⟨n, hn, rfl, hnx⟩, hSX, hkX7⟩
      have HDF := Lib.hid hdf
      have HNX := Lib.hid hnx
      have b27 := b2X.keep hkX7 (fun h => absurd (hAX.out _ h) (Nat.lt_irrefl _))
      have b47 := b4X.keep hkX7 (fun h => by have := hAX.out _ h; omega)
      have b57 := b5X.keep hkX7 (fun h => by have := hAX.out _ h; omega)
      have hK7 : Keep A w w7 := (hk6.mono fun _ _ h => h.elim).trans' hkX7
      have hl7 := b57.lt
      clear hdo hdf hnx b2X b4X b5X hk6 hkX7 b66 hl5 hl6 hzW6 hzW3
      go_wp2_with (first | (at_builtin; refine wl_append rfl _ _ _ _ rfl _ _ rfl rfl ?_) | (at_make; refine wl_make rfl _ _ _ rfl _ _ rfl rfl ?_) | (at_mapUpdate; refine wl_mapUpdate rfl _ _ _ _ rfl _ _ _ rfl rfl rfl ?_) | (at_lookup; refine wl_lookup rfl _ _ _ _ rfl _ _ rfl rfl ?_) | (at_delete; refine wl_delete rfl _ _ _ _ rfl _ _ rfl rfl ?_) | (with_reducible refine wl_len rfl _ _ rfl _ rfl ?_) | (with_reducible refine wl_range rfl _ _ rfl _ rfl ?_) | (with_reducible refine wl_next rfl _ rfl _ rfl ?_) | (with_reducible refine wl_copy rfl _ _ _ _ rfl _ _ rfl rfl ?_) | (with_reducible refine wl_max rfl _ _ _ _ rfl _ _ rfl rfl ?_) | (with_reducible refine wl_min rfl _ _ _ _ rfl _ _ rfl rfl ?_) | (with_reducible refine wl_stAgg rfl _ _ _ rfl _ _ rfl rfl ?_) | (with_reducible refine wl_ld rfl _ 26 rfl _ rfl ?_) | (with_reducible refine wl_stInt rfl _ _ _ rfl _ _ _ rfl rfl ?_))
      have hkW8 : Keep No w7 (w7.alloc (.cells #[.int .u64 0, .int .u64 0, .int .u64 0, .int .u64 0, .int .u64 0, .int .u64 0, .int .u64 0, .int .u64 0, .int .u64 0, .int .u64 0, .int .u64 0, .int .u64 0, .int .u64 0, .int .u64 0, .int .u64 0, .int .u64 0, .int .u64 0, .int .u64 0, .int .u64 0, .int .u64 0, .int .u64 0, .int .u64 0, .int .u64 0, .int .u64 0, .int .u64 0, .int .u64 0, .int .u64 0, .int .u64 0, .int .u64 0, .int .u64 0, .int .u64 0, .int .u64 0, .int .u64 0, .int .u64 0] 26)) := (Keep.refl _ _).alloc _
      have hBW8 : Blk (w7.alloc (.cells #[.int .u64 0, .int .u64 0, .int .u64 0, .int .u64 0, .int .u64 0, .int .u64 0, .int .u64 0, .int .u64 0, .int .u64 0, .int .u64 0, .int .u64 0, .int .u64 0, .int .u64 0, .int .u64 0, .int .u64 0, .int .u64 0, .int .u64 0, .int .u64 0, .int .u64 0, .int .u64 0, .int .u64 0, .int .u64 0, .int .u64 0, .int .u64 0, .int .u64 0, .int .u64 0, .int .u64 0, .int .u64 0, .int .u64 0, .int .u64 0, .int .u64 0, .int .u64 0, .int .u64 0, .int .u64 0] 26)) w7.heap.size #[.int .u64 0, .int .u64 0, .int .u64 0, .int .u64 0, .int .u64 0, .int .u64 0, .int .u64 0, .int .u64 0, .int .u64 0, .int .u64 0, .int .u64 0, .int .u64 0, .int .u64 0, .int .u64 0, .int .u64 0, .int .u64 0, .int .u64 0, .int .u64 0, .int .u64 0, .int .u64 0, .int .u64 0, .int .u64 0, .int .u64 0, .int .u64 0, .int .u64 0, .int .u64 0, .int .u64 0, .int .u64 0, .int .u64 0, .int .u64 0, .int .u64 0, .int .u64 0, .int .u64 0, .int .u64 0] 26 := Blk.new _ _ _
      have hzW8 : (w7.alloc (.cells #[.int .u64 0, .int .u64 0, .int .u64 0, .int .u64 0, .int .u64 0, .int .u64 0, .int .u64 0, .int .u64 0, .int .u64 0, .int .u64 0, .int .u64 0, .int .u64 0, .int .u64 0, .int .u64 0, .int .u64 0, .int .u64 0, .int .u64 0, .int .u64 0, .int .u64 0, .int .u64 0, .int .u64 0, .int .u64 0, .int .u64 0, .int .u64 0, .int .u64 0, .int .u64 0, .int .u64 0, .int .u64 0, .int .u64 0, .int .u64 0, .int .u64 0, .int .u64 0, .int .u64 0, .int .u64 0] 26)).heap.size = w7.heap.size + 1 := World.size_alloc _ _
      generalize w7.alloc (.cells #[.int .u64 0, .int .u64 0, .int .u64 0, .int .u64 0, .int .u64 0, .int .u64 0, .int .u64 0, .int .u64 0, .int .u64 0, .int .u64 0, .int .u64 0, .int .u64 0, .int .u64 0, .int .u64 0, .int .u64 0, .int .u64 0, .int .u64 0, .int .u64 0, .int .u64 0, .int .u64 0, .int .u64 0, .int .u64 0, .int .u64 0, .int .u64 0, .int .u64 0, .int .u64 0, .int .u64 0, .int .u64 0, .int .u64 0, .int .u64 0, .int .u64 0, .int .u64 0, .int .u64 0, .int .u64 0] 26) = W8 at *
      have hkW9 : Keep No W8 (W8.alloc (.cells #[.int .i64 0, .int .i64 0, .int .u64 0] 36)) := (Keep.refl _ _).alloc _
      have hBW9 : Blk (W8.alloc (.cells #[.int .i64 0, .int .i64 0, .int .u64 0] 36)) W8.heap.size #[.int .i64 0, .int .i64 0, .int .u64 0] 36 := Blk.new _ _ _
      have hzW9 : (W8.alloc (.cells #[.int .i64 0, .int .i64 0, .int .u64 0] 36)).heap.size = W8.heap.size + 1 := World.size_alloc _ _
      generalize W8.alloc (.cells #[.int .i64 0, .int .i64 0, .int .u64 0] 36) = W9 at *
      rw [hzW8] at hBW9 hzW9
      refine rg_stAgg (hBW8.keep hkW9 fun h => h) (stC_sz hn) (by rw [cellsS_size hn]; rfl) (cellsS_one _) ?_
      intro wX bX hkX8 hzX
      go_wp2_with (first | (at_builtin; refine wl_append rfl _ _ _ _ rfl _ _ rfl rfl ?_) | (at_make; refine wl_make rfl _ _ _ rfl _ _ rfl rfl ?_) | (at_mapUpdate; refine wl_mapUpdate rfl _ _ _ _ rfl _ _ _ rfl rfl rfl ?_) | (at_lookup; refine wl_lookup rfl _ _ _ _ rfl _ _ rfl rfl ?_) | (at_delete; refine wl_delete rfl _ _ _ _ rfl _ _ rfl rfl ?_) | (with_reducible refine wl_len rfl _ _ rfl _ rfl ?_) | (with_reducible refine wl_range rfl _ _ rfl _ rfl ?_) | (with_reducible refine wl_next rfl _ rfl _ rfl ?_) | (with_reducible refine wl_copy rfl _ _ _ _ rfl _ _ rfl rfl ?_) | (with_reducible refine wl_max rfl _ _ _ _ rfl _ _ rfl rfl ?_) | (with_reducible refine wl_min rfl _ _ _ _ rfl _ _ rfl rfl ?_) | (with_reducible refine wl_stAgg rfl _ _ _ rfl _ _ rfl rfl ?_) | (with_reducible refine wl_ld rfl _ 26 rfl _ rfl ?_) | (with_reducible refine wl_stInt rfl _ _ _ rfl _ _ _ rfl rfl ?_))
      refine rg_stAgg (hBW9.keep hkX8 fun e => by have e2 : w7.heap.size + 1 = w7.heap.size := e; omega) (by kernel_rfl) (by rfl) (by simp [Value.oneCell']) ?_
      intro wY b8Y hkY8 hzY
      have hk7X : Keep No w7 wX := (hkW8.trans' hkW9).trans hkX8 (fun j hj e => by have e2 : j = w7.heap.size := e; omega)
      have hk7Y : Keep No w7 wY := hk7X.trans hkY8 (fun j hj e => by have e2 : j = w7.heap.size + 1 := e; omega)
      have bNY := bX.keep hkY8 (fun e => by have e2 : w7.heap.size = w7.heap.size + 1 := e; omega)
      have b2Y := b27.keep hk7Y fun h => h
      have b4Y := b47.keep hk7Y fun h => h
      have b5Y := b57.keep hk7Y fun h => h
      have hKY : Keep A w wY := hK7.trans hk7Y fun _ _ h => h.elim
      have hSY := hSX.no (fun j hj => by have := hAX.out j hj; have := hK7.size; omega) hk7Y
      have qk : wY.cell? ⟨w7.heap.size + 1, 0, none⟩ = some (.int .i64 (kd : Int)) := b8Y.cell 0
      clear hkW8 hkW9 hBW8 hBW9 hkX8 hzX hkY8 hzY bX hk7X b27 b47 b57 hzW8 hzW9
      by_cases hK : kd = 3
      · have hK2 : ((kd : Int) == 3) = true := by simp [hK]
        have HT1 := Lib.hid (HDF.out hK)
        clear hK
        have hkd := (Keep.refl No wY).drew
        go_wp2_with (first | (at_builtin; refine wl_append rfl _ _ _ _ rfl _ _ rfl rfl ?_) | (at_make; refine wl_make rfl _ _ _ rfl _ _ rfl rfl ?_) | (at_mapUpdate; refine wl_mapUpdate rfl _ _ _ _ rfl _ _ _ rfl rfl rfl ?_) | (at_lookup; refine wl_lookup rfl _ _ _ _ rfl _ _ rfl rfl ?_) | (at_delete; refine wl_delete rfl _ _ _ _ rfl _ _ rfl rfl ?_) | (with_reducible refine wl_len rfl _ _ rfl _ rfl ?_) | (with_reducible refine wl_range rfl _ _ rfl _ rfl ?_) | (with_reducible refine wl_next rfl _ rfl _ rfl ?_) | (with_reducible refine wl_copy rfl _ _ _ _ rfl _ _ rfl rfl ?_) | (with_reducible refine wl_max rfl _ _ _ _ rfl _ _ rfl rfl ?_) | (with_reducible refine wl_min rfl _ _ _ _ rfl _ _ rfl rfl ?_))
        refine wp_region_sig (fun w' => Blk w' (w.heap.size) (cs) 26 ∧ Blk w' (w7.heap.size + 1) #[.int .i64 (kd : Int), .int .i64 (er : Int), .int .u64 (ad : Int)] 36) (fun j => decide (j ≤ 99)) [(0, true), (1, true), (2, false), (3, false)] (by kernel_rfl) (by kernel_rfl) (by intro c a d v w h; cases d <;> exact h) ⟨b2Y.keep hkd fun h => h, b8Y.keep hkd fun h => h⟩ ?_
        apply sig_still (o := ⟨some 47, _, _, _, _, _⟩) rfl rfl
        · intro w' hS
          exact run_ldo _ _ rfl (w.heap.size) 0 rfl (run_loadVar_row w' (w.heap.size) 26 26 _ _ _ hS.1 Tryd.underlying26 rfl (HSZ.out))
        go_frame
        apply sig_still (o := ⟨some 48, _, _, _, _, _⟩) rfl rfl
        · intro w' hS
          exact run_ldo _ _ rfl (w7.heap.size + 1) 0 rfl (run_loadVar_row w' (w7.heap.size + 1) 36 36 _ _ _ hS.2 Tryd.underlying36 rfl (by kernel_rfl))
        go_frame
        refine sig_eff (o := ⟨none, _, _, _, _, _⟩) rfl rfl (fun K hKe => ?_)
        refine wo_stAgg (.tmp 4) (.tmp 47) 26 rfl _ _ rfl rfl ?_
        refine rg_stAgg (b4Y.keep hkd fun h => h) (HSZ.out) (by rw [hsz]; rfl) (HONE.out) ?_
        intro wa hBa hka hza
        have bYa := (b2Y.keep hkd fun h => h).keep hka fun e => by have e2 : w.heap.size = w.heap.size + 1 := e; omega
        have b8a := (b8Y.keep hkd fun h => h).keep hka fun e => by have e2 : w7.heap.size + 1 = w.heap.size + 1 := e; omega
        refine hKe _ _ ⟨fun _ => ⟨bYa, b8a⟩, ?_⟩
        refine sig_eff (o := ⟨none, _, _, _, _, _⟩) rfl rfl (fun K hKe => ?_)
        refine wo_stAgg (.tmp 5) (.tmp 48) 36 rfl _ _ rfl rfl ?_
        refine rg_stAgg ((b5Y.keep hkd fun h => h).keep hka fun e => by have e2 : w.heap.size + 1 + 1 = w.heap.size + 1 := e; omega) (by kernel_rfl) (by rfl) (by simp [Value.oneCell']) ?_
        intro wb hBb hkb hzb
        refine hKe _ _ ⟨fun _ => ⟨bYa.keep hkb fun e => by have e2 : w.heap.size = w.heap.size + 1 + 1 := e; omega, b8a.keep hkb fun e => by have e2 : w7.heap.size + 1 = w.heap.size + 1 + 1 := e; omega⟩, sig_nil ?_⟩
        go_wp2_with (first | (at_builtin; refine wl_append rfl _ _ _ _ rfl _ _ rfl rfl ?_) | (at_make; refine wl_make rfl _ _ _ rfl _ _ rfl rfl ?_) | (at_mapUpdate; refine wl_mapUpdate rfl _ _ _ _ rfl _ _ _ rfl rfl rfl ?_) | (at_lookup; refine wl_lookup rfl _ _ _ _ rfl _ _ rfl rfl ?_) | (at_delete; refine wl_delete rfl _ _ _ _ rfl _ _ rfl rfl ?_) | (with_reducible refine wl_len rfl _ _ rfl _ rfl ?_) | (with_reducible refine wl_range rfl _ _ rfl _ rfl ?_) | (with_reducible refine wl_next rfl _ rfl _ rfl ?_) | (with_reducible refine wl_copy rfl _ _ _ _ rfl _ _ rfl rfl ?_) | (with_reducible refine wl_max rfl _ _ _ _ rfl _ _ rfl rfl ?_) | (with_reducible refine wl_min rfl _ _ _ _ rfl _ _ rfl rfl ?_))
        refine ret_blk_blk rfl rfl rfl (hBa.keep hkb fun e => by have e2 : w.heap.size + 1 = w.heap.size + 1 + 1 := e; omega) hBb Tryd.underlying26 rfl (HSZ.out) Tryd.underlying36 rfl (by kernel_rfl) rfl ?_
        have hKd : Keep A w wY.drew := hKY.drew
        have hkaa : Keep A w wa := hKd.trans hka fun j hj e => by have e2 : j = w.heap.size + 1 := e; omega
        have hkbb : Keep A w wb := hkaa.trans hkb fun j hj e => by have e2 : j = w.heap.size + 1 + 1 := e; omega
        have hSd := hSY.no (fun j hj => by have := hAX.out j hj; have := hKY.size; omega) hkd
        have hSb := (hSd.keep hka (fun j hj e => by have := hAX.out j hj; have e2 : j = w.heap.size + 1 := e; omega) (fun j hj => by have := hAX.out j hj; have := hKd.size; omega)).keep hkb (fun j hj e => by have := hAX.out j hj; have e2 : j = w.heap.size + 1 + 1 := e; omega) (fun j hj => by have := hAX.out j hj; have := hkaa.size; omega)
        exact ⟨by rw [HCS.out, ← HT1.out]; rfl, hSb, hkbb⟩
      · have hK2 : ((kd : Int) == 3) = false := by simp; omega
        have HT1 := Lib.hid (HNX.out hK)
        clear hK
        have hkd := (Keep.refl No wY).drew
        go_wp2_with (first | (at_builtin; refine wl_append rfl _ _ _ _ rfl _ _ rfl rfl ?_) | (at_make; refine wl_make rfl _ _ _ rfl _ _ rfl rfl ?_) | (at_mapUpdate; refine wl_mapUpdate rfl _ _ _ _ rfl _ _ _ rfl rfl rfl ?_) | (at_lookup; refine wl_lookup rfl _ _ _ _ rfl _ _ rfl rfl ?_) | (at_delete; refine wl_delete rfl _ _ _ _ rfl _ _ rfl rfl ?_) | (with_reducible refine wl_len rfl _ _ rfl _ rfl ?_) | (with_reducible refine wl_range rfl _ _ rfl _ rfl ?_) | (with_reducible refine wl_next rfl _ rfl _ rfl ?_) | (with_reducible refine wl_copy rfl _ _ _ _ rfl _ _ rfl rfl ?_) | (with_reducible refine wl_max rfl _ _ _ _ rfl _ _ rfl rfl ?_) | (with_reducible refine wl_min rfl _ _ _ _ rfl _ _ rfl rfl ?_))
        refine wp_region_sig (fun w' => Blk w' (w7.heap.size) (cellsS n) 26 ∧ Blk w' (w7.heap.size + 1) #[.int .i64 (kd : Int), .int .i64 (er : Int), .int .u64 (ad : Int)] 36) (fun j => decide (j ≤ 99)) [(0, true), (1, true), (2, false), (3, false)] (by kernel_rfl) (by kernel_rfl) (by intro c a d v w h; cases d <;> exact h) ⟨bNY.keep hkd fun h => h, b8Y.keep hkd fun h => h⟩ ?_
        apply sig_still (o := ⟨some 49, _, _, _, _, _⟩) rfl rfl
        · intro w' hS
          exact run_ldo _ _ rfl (w7.heap.size) 0 rfl (run_loadVar_row w' (w7.heap.size) 26 26 _ _ _ hS.1 Tryd.underlying26 rfl (stC_sz hn))
        go_frame
        apply sig_still (o := ⟨some 50, _, _, _, _, _⟩) rfl rfl
        · intro w' hS
          exact run_ldo _ _ rfl (w7.heap.size + 1) 0 rfl (run_loadVar_row w' (w7.heap.size + 1) 36 36 _ _ _ hS.2 Tryd.underlying36 rfl (by kernel_rfl))
        go_frame
        refine sig_eff (o := ⟨none, _, _, _, _, _⟩) rfl rfl (fun K hKe => ?_)
        refine wo_stAgg (.tmp 4) (.tmp 49) 26 rfl _ _ rfl rfl ?_
        refine rg_stAgg (b4Y.keep hkd fun h => h) (stC_sz hn) (by rw [cellsS_size hn]; rfl) (cellsS_one _) ?_
        intro wa hBa hka hza
        have bYa := (bNY.keep hkd fun h => h).keep hka fun e => by have e2 : w7.heap.size = w.heap.size + 1 := e; omega
        have b8a := (b8Y.keep hkd fun h => h).keep hka fun e => by have e2 : w7.heap.size + 1 = w.heap.size + 1 := e; omega
        refine hKe _ _ ⟨fun _ => ⟨bYa, b8a⟩, ?_⟩
        refine sig_eff (o := ⟨none, _, _, _, _, _⟩) rfl rfl (fun K hKe => ?_)
        refine wo_stAgg (.tmp 5) (.tmp 50) 36 rfl _ _ rfl rfl ?_
        refine rg_stAgg ((b5Y.keep hkd fun h => h).keep hka fun e => by have e2 : w.heap.size + 1 + 1 = w.heap.size + 1 := e; omega) (by kernel_rfl) (by rfl) (by simp [Value.oneCell']) ?_
        intro wb hBb hkb hzb
        refine hKe _ _ ⟨fun _ => ⟨bYa.keep hkb fun e => by have e2 : w7.heap.size = w.heap.size + 1 + 1 := e; omega, b8a.keep hkb fun e => by have e2 : w7.heap.size + 1 = w.heap.size + 1 + 1 := e; omega⟩, sig_nil ?_⟩
        go_wp2_with (first | (at_builtin; refine wl_append rfl _ _ _ _ rfl _ _ rfl rfl ?_) | (at_make; refine wl_make rfl _ _ _ rfl _ _ rfl rfl ?_) | (at_mapUpdate; refine wl_mapUpdate rfl _ _ _ _ rfl _ _ _ rfl rfl rfl ?_) | (at_lookup; refine wl_lookup rfl _ _ _ _ rfl _ _ rfl rfl ?_) | (at_delete; refine wl_delete rfl _ _ _ _ rfl _ _ rfl rfl ?_) | (with_reducible refine wl_len rfl _ _ rfl _ rfl ?_) | (with_reducible refine wl_range rfl _ _ rfl _ rfl ?_) | (with_reducible refine wl_next rfl _ rfl _ rfl ?_) | (with_reducible refine wl_copy rfl _ _ _ _ rfl _ _ rfl rfl ?_) | (with_reducible refine wl_max rfl _ _ _ _ rfl _ _ rfl rfl ?_) | (with_reducible refine wl_min rfl _ _ _ _ rfl _ _ rfl rfl ?_))
        refine ret_blk_blk rfl rfl rfl (hBa.keep hkb fun e => by have e2 : w.heap.size + 1 = w.heap.size + 1 + 1 := e; omega) hBb Tryd.underlying26 rfl (stC_sz hn) Tryd.underlying36 rfl (by kernel_rfl) rfl ?_
        have hKd : Keep A w wY.drew := hKY.drew
        have hkaa : Keep A w wa := hKd.trans hka fun j hj e => by have e2 : j = w.heap.size + 1 := e; omega
        have hkbb : Keep A w wb := hkaa.trans hkb fun j hj e => by have e2 : j = w.heap.size + 1 + 1 := e; omega
        have hSd := hSY.no (fun j hj => by have := hAX.out j hj; have := hKY.size; omega) hkd
        have hSb := (hSd.keep hka (fun j hj e => by have := hAX.out j hj; have e2 : j = w.heap.size + 1 := e; omega) (fun j hj => by have := hAX.out j hj; have := hKd.size; omega)).keep hkb (fun j hj e => by have := hAX.out j hj; have e2 : j = w.heap.size + 1 + 1 := e; omega) (fun j hj => by have := hAX.out j hj; have := hkaa.size; omega)
        exact ⟨by rw [← HT1.out]; rfl, hSb, hkbb⟩
    · rw [if_neg hD] at HTM hdc
      obtain rfl := HD42.out hD
      have hz0 : zeroI = .agg #[.int .i64 0, .int .i64 0, .int .i64 0, .int .i64 0, .int .i32 0] := rfl
      rw [hz0] at hdc
      clear hD hz0 HDI HD42
      go_wp2_with (first | (at_builtin; refine wl_append rfl _ _ _ _ rfl _ _ rfl rfl ?_) | (at_make; refine wl_make rfl _ _ _ rfl _ _ rfl rfl ?_) | (at_mapUpdate; refine wl_mapUpdate rfl _ _ _ _ rfl _ _ _ rfl rfl rfl ?_) | (at_lookup; refine wl_lookup rfl _ _ _ _ rfl _ _ rfl rfl ?_) | (at_delete; refine wl_delete rfl _ _ _ _ rfl _ _ rfl rfl ?_) | (with_reducible refine wl_len rfl _ _ rfl _ rfl ?_) | (with_reducible refine wl_range rfl _ _ rfl _ rfl ?_) | (with_reducible refine wl_next rfl _ rfl _ rfl ?_) | (with_reducible refine wl_copy rfl _ _ _ _ rfl _ _ rfl rfl ?_) | (with_reducible refine wl_max rfl _ _ _ _ rfl _ _ rfl rfl ?_) | (with_reducible refine wl_min rfl _ _ _ _ rfl _ _ rfl rfl ?_))
      refine hdc.mono ?_
      rintro e w5 ⟨rfl, hk45⟩
      have b25 := b2X.keep hk45 fun h => h
      have b45 := b4X.keep hk45 fun h => h
      have b55 := b5X.keep hk45 fun h => h
      have hk5 := hkX.trans' hk45
      clear hdc hk45 b2X b4X b5X hkX
      go_wp2_with (first | (at_builtin; refine wl_append rfl _ _ _ _ rfl _ _ rfl rfl ?_) | (at_make; refine wl_make rfl _ _ _ rfl _ _ rfl rfl ?_) | (at_mapUpdate; refine wl_mapUpdate rfl _ _ _ _ rfl _ _ _ rfl rfl rfl ?_) | (at_lookup; refine wl_lookup rfl _ _ _ _ rfl _ _ rfl rfl ?_) | (at_delete; refine wl_delete rfl _ _ _ _ rfl _ _ rfl rfl ?_) | (with_reducible refine wl_len rfl _ _ rfl _ rfl ?_) | (with_reducible refine wl_range rfl _ _ rfl _ rfl ?_) | (with_reducible refine wl_next rfl _ rfl _ rfl ?_) | (with_reducible refine wl_copy rfl _ _ _ _ rfl _ _ rfl rfl ?_) | (with_reducible refine wl_max rfl _ _ _ _ rfl _ _ rfl rfl ?_) | (with_reducible refine wl_min rfl _ _ _ _ rfl _ _ rfl rfl ?_) | (with_reducible refine wl_stAgg rfl _ _ _ rfl _ _ rfl rfl ?_))
      have hkW6 : Keep No w5 (w5.alloc (.cells #[.int .i64 0, .int .i64 0, .int .i64 0, .int .i64 0, .int .i32 0] 61)) := (Keep.refl _ _).alloc _
      have hBW6 : Blk (w5.alloc (.cells #[.int .i64 0, .int .i64 0, .int .i64 0, .int .i64 0, .int .i32 0] 61)) w5.heap.size #[.int .i64 0, .int .i64 0, .int .i64 0, .int .i64 0, .int .i32 0] 61 := Blk.new _ _ _
      have hzW6 : (w5.alloc (.cells #[.int .i64 0, .int .i64 0, .int .i64 0, .int .i64 0, .int .i32 0] 61)).heap.size = w5.heap.size + 1 := World.size_alloc _ _
      generalize w5.alloc (.cells #[.int .i64 0, .int .i64 0, .int .i64 0, .int .i64 0, .int .i32 0] 61) = W6 at *
      refine rg_stAgg hBW6 (by kernel_rfl) (by rfl) (by simp [Value.oneCell']) ?_
      intro w6 b66 hk66 hz66
      have hk56 : Keep No w5 w6 := hkW6.trans hk66 fun j hj e => absurd hj (by have e2 : j = w5.heap.size := e; omega)
      have b2X := b25.keep hk56 fun h => h
      have b4X := b45.keep hk56 fun h => h
      have b5X := b55.keep hk56 fun h => h
      have hk6 := hk5.trans' hk56
      have hl5 := b55.lt
      have hl6 := b66.lt
      clear hkW6 hBW6 hk66 hz66 hk56 b25 b45 b55 hk5
      have hkd := (Keep.refl No w6).drew
      have qx : w6.cell? ⟨w.heap.size, 32, none⟩ = some (.int .u64 (s.pc : Int)) := (b2X.cell 32).trans g4
      go_wp2_with (first | (at_builtin; refine wl_append rfl _ _ _ _ rfl _ _ rfl rfl ?_) | (at_make; refine wl_make rfl _ _ _ rfl _ _ rfl rfl ?_) | (at_mapUpdate; refine wl_mapUpdate rfl _ _ _ _ rfl _ _ _ rfl rfl rfl ?_) | (at_lookup; refine wl_lookup rfl _ _ _ _ rfl _ _ rfl rfl ?_) | (at_delete; refine wl_delete rfl _ _ _ _ rfl _ _ rfl rfl ?_) | (with_reducible refine wl_len rfl _ _ rfl _ rfl ?_) | (with_reducible refine wl_range rfl _ _ rfl _ rfl ?_) | (with_reducible refine wl_next rfl _ rfl _ rfl ?_) | (with_reducible refine wl_copy rfl _ _ _ _ rfl _ _ rfl rfl ?_) | (with_reducible refine wl_max rfl _ _ _ _ rfl _ _ rfl rfl ?_) | (with_reducible refine wl_min rfl _ _ _ _ rfl _ _ rfl rfl ?_))
      refine wp_region_sig (fun w' => Blk w' w.heap.size cs 26 ∧ w'.cell? ⟨w.heap.size, 32, none⟩ = some (.int .u64 (s.pc : Int))) (fun j => decide (j ≤ 99)) [(0, true), (1, true), (2, true), (3, true), (4, false), (5, false), (6, false)] (by kernel_rfl) (by kernel_rfl) (by intro c a d v w h; cases d <;> exact h) ⟨b2X.keep hkd fun h => h, qx⟩ ?_
      apply sig_still (o := ⟨some 32, _, _, _, _, _⟩) rfl rfl
      · intro w' hS
        exact run_ldo _ _ rfl w.heap.size 0 rfl (run_loadVar_row w' w.heap.size 26 26 _ _ _ hS.1 Tryd.underlying26 rfl HSZ.out)
      go_frame
      apply sig_still (o := ⟨some 33, _, _, _, _, _⟩) rfl rfl
      · intro w' hS
        obtain ⟨q1, q2⟩ := hS
        first | (go_simp; done) | (go_simp; rfl) | rfl
      go_frame
      apply sig_still (o := ⟨some 34, _, _, _, _, _⟩) rfl rfl
      · intro w' hS
        obtain ⟨q1, q2⟩ := hS
        first | (go_simp; done) | (go_simp; rfl) | rfl
      go_frame
      apply sig_still (o := ⟨some 35, _, _, _, _, _⟩) rfl rfl
      · intro w' hS
        obtain ⟨q1, q2⟩ := hS
        first | (go_simp; done) | (go_simp; rfl) | rfl
      go_frame
      refine sig_eff (o := ⟨some 36, _, _, _, _, _⟩) rfl rfl (fun K hKe => ?_)
      have hfa := cpufault_any 42 s.pc w6.drew
      go_wp2_with (first | (at_builtin; refine wl_append rfl _ _ _ _ rfl _ _ rfl rfl ?_) | (at_make; refine wl_make rfl _ _ _ rfl _ _ rfl rfl ?_) | (at_mapUpdate; refine wl_mapUpdate rfl _ _ _ _ rfl _ _ _ rfl rfl rfl ?_) | (at_lookup; refine wl_lookup rfl _ _ _ _ rfl _ _ rfl rfl ?_) | (at_delete; refine wl_delete rfl _ _ _ _ rfl _ _ rfl rfl ?_) | (with_reducible refine wl_len rfl _ _ rfl _ rfl ?_) | (with_reducible refine wl_range rfl _ _ rfl _ rfl ?_) | (with_reducible refine wl_next rfl _ rfl _ rfl ?_) | (with_reducible refine wl_copy rfl _ _ _ _ rfl _ _ rfl rfl ?_) | (with_reducible refine wl_max rfl _ _ _ _ rfl _ _ rfl rfl ?_) | (with_reducible refine wl_min rfl _ _ _ _ rfl _ _ rfl rfl ?_))
      refine hfa.mono ?_
      rintro e wF ⟨rfl, hkF⟩
      clear hfa
      unfold encO3
      replace hkF := hkd.trans' hkF
      have b2F := b2X.keep hkF fun h => h
      have b4F := b4X.keep hkF fun h => h
      have b5F := b5X.keep hkF fun h => h
      go_wp2_with (first | (at_builtin; refine wl_append rfl _ _ _ _ rfl _ _ rfl rfl ?_) | (at_make; refine wl_make rfl _ _ _ rfl _ _ rfl rfl ?_) | (at_mapUpdate; refine wl_mapUpdate rfl _ _ _ _ rfl _ _ _ rfl rfl rfl ?_) | (at_lookup; refine wl_lookup rfl _ _ _ _ rfl _ _ rfl rfl ?_) | (at_delete; refine wl_delete rfl _ _ _ _ rfl _ _ rfl rfl ?_) | (with_reducible refine wl_len rfl _ _ rfl _ rfl ?_) | (with_reducible refine wl_range rfl _ _ rfl _ rfl ?_) | (with_reducible refine wl_next rfl _ rfl _ rfl ?_) | (with_reducible refine wl_copy rfl _ _ _ _ rfl _ _ rfl rfl ?_) | (with_reducible refine wl_max rfl _ _ _ _ rfl _ _ rfl rfl ?_) | (with_reducible refine wl_min rfl _ _ _ _ rfl _ _ rfl rfl ?_))
      refine ⟨fun _ => ⟨b2F, (b2F.cell 32).trans g4⟩, ?_⟩
      refine sig_eff (o := ⟨none, _, _, _, _, _⟩) rfl rfl (fun K hKe => ?_)
      refine wo_stAgg (.tmp 4) (.tmp 32) 26 rfl _ _ rfl rfl ?_
      refine rg_stAgg b4F HSZ.out (by rw [hsz]; rfl) HONE.out ?_
      intro wa hBa hka hza
      have b2a := b2F.keep hka fun e => by have e2 : w.heap.size = w.heap.size + 1 := e; omega
      refine hKe _ _ ⟨fun _ => ⟨b2a, (b2a.cell 32).trans g4⟩, ?_⟩
      refine sig_eff (o := ⟨none, _, _, _, _, _⟩) rfl rfl (fun K hKe => ?_)
      refine wo_stAgg (.tmp 5) (.tmp 36) 36 rfl _ _ rfl rfl ?_
      refine rg_stAgg (b5F.keep hka fun e => by have e2 : w.heap.size + 1 + 1 = w.heap.size + 1 := e; omega) (by kernel_rfl) (by rfl) (by simp [Value.oneCell']) ?_
      intro wb hBb hkb hzb
      have b2b := b2a.keep hkb fun e => by have e2 : w.heap.size = w.heap.size + 1 + 1 := e; omega
      refine hKe _ _ ⟨fun _ => ⟨b2b, (b2b.cell 32).trans g4⟩, sig_nil ?_⟩
      go_wp2_with (first | (at_builtin; refine wl_append rfl _ _ _ _ rfl _ _ rfl rfl ?_) | (at_make; refine wl_make rfl _ _ _ rfl _ _ rfl rfl ?_) | (at_mapUpdate; refine wl_mapUpdate rfl _ _ _ _ rfl _ _ _ rfl rfl rfl ?_) | (at_lookup; refine wl_lookup rfl _ _ _ _ rfl _ _ rfl rfl ?_) | (at_delete; refine wl_delete rfl _ _ _ _ rfl _ _ rfl rfl ?_) | (with_reducible refine wl_len rfl _ _ rfl _ rfl ?_) | (with_reducible refine wl_range rfl _ _ rfl _ rfl ?_) | (with_reducible refine wl_next rfl _ rfl _ rfl ?_) | (with_reducible refine wl_copy rfl _ _ _ _ rfl _ _ rfl rfl ?_) | (with_reducible refine wl_max rfl _ _ _ _ rfl _ _ rfl rfl ?_) | (with_reducible refine wl_min rfl _ _ _ _ rfl _ _ rfl rfl ?_))
      refine ret_blk_blk rfl rfl rfl (hBa.keep hkb fun e => by have e2 : w.heap.size + 1 = w.heap.size + 1 + 1 := e; omega) hBb Tryd.underlying26 rfl HSZ.out Tryd.underlying36 rfl (by kernel_rfl) rfl ?_
      have hKF := (hk6).trans' hkF
      have hkaa : Keep No w wa := hKF.trans hka fun j hj e => by have e2 : j = w.heap.size + 1 := e; omega
      have hkbb : Keep No w wb := hkaa.trans hkb fun j hj e => by have e2 : j = w.heap.size + 1 + 1 := e; omega
      have hTM := HTM.out
      have hcs := HCS.out
      cases hTM
      subst hcs
      exact ⟨rfl, hHS.out.no hAX.out hkbb, hkbb.mono fun _ _ h => h.elim⟩
  · rw [if_neg hE] at HTM
    have hE0 : ((E : Int) == 0) = false := by simpa using hE
    clear hE
    have hkd := (Keep.refl No w4).drew
    have qx : w4.cell? ⟨w.heap.size, 32, none⟩ = some (.int .u64 (s.pc : Int)) := (b2X.cell 32).trans g4
    go_wp2_with (first | (at_builtin; refine wl_append rfl _ _ _ _ rfl _ _ rfl rfl ?_) | (at_make; refine wl_make rfl _ _ _ rfl _ _ rfl rfl ?_) | (at_mapUpdate; refine wl_mapUpdate rfl _ _ _ _ rfl _ _ _ rfl rfl rfl ?_) | (at_lookup; refine wl_lookup rfl _ _ _ _ rfl _ _ rfl rfl ?_) | (at_delete; refine wl_delete rfl _ _ _ _ rfl _ _ rfl rfl ?_) | (with_reducible refine wl_len rfl _ _ rfl _ rfl ?_) | (with_reducible refine wl_range rfl _ _ rfl _ rfl ?_) | (with_reducible refine wl_next rfl _ rfl _ rfl ?_) | (with_reducible refine wl_copy rfl _ _ _ _ rfl _ _ rfl rfl ?_) | (with_reducible refine wl_max rfl _ _ _ _ rfl _ _ rfl rfl ?_) | (with_reducible refine wl_min rfl _ _ _ _ rfl _ _ rfl rfl ?_))
    refine wp_region_sig (fun w' => Blk w' w.heap.size cs 26 ∧ w'.cell? ⟨w.heap.size, 32, none⟩ = some (.int .u64 (s.pc : Int))) (fun j => decide (j ≤ 99)) [(0, true), (1, true), (2, true), (3, true), (4, false), (5, false), (6, false)] (by kernel_rfl) (by kernel_rfl) (by intro c a d v w h; cases d <;> exact h) ⟨b2X.keep hkd fun h => h, qx⟩ ?_
    apply sig_still (o := ⟨some 20, _, _, _, _, _⟩) rfl rfl
    · intro w' hS
      exact run_ldo _ _ rfl w.heap.size 0 rfl (run_loadVar_row w' w.heap.size 26 26 _ _ _ hS.1 Tryd.underlying26 rfl HSZ.out)
    go_frame
    apply sig_still (o := ⟨some 21, _, _, _, _, _⟩) rfl rfl
    · intro w' hS
      obtain ⟨q1, q2⟩ := hS
      first | (go_simp; done) | (go_simp; rfl) | rfl
    go_frame
    apply sig_still (o := ⟨some 22, _, _, _, _, _⟩) rfl rfl
    · intro w' hS
      obtain ⟨q1, q2⟩ := hS
      first | (go_simp; done) | (go_simp; rfl) | rfl
    go_frame
    apply sig_still (o := ⟨some 23, _, _, _, _, _⟩) rfl rfl
    · intro w' hS
      obtain ⟨q1, q2⟩ := hS
      first | (go_simp; done) | (go_simp; rfl) | rfl
    go_frame
    refine sig_eff (o := ⟨some 24, _, _, _, _, _⟩) rfl rfl (fun K hKe => ?_)
    have hfa := cpufault_any E s.pc w4.drew
    go_wp2_with (first | (at_builtin; refine wl_append rfl _ _ _ _ rfl _ _ rfl rfl ?_) | (at_make; refine wl_make rfl _ _ _ rfl _ _ rfl rfl ?_) | (at_mapUpdate; refine wl_mapUpdate rfl _ _ _ _ rfl _ _ _ rfl rfl rfl ?_) | (at_lookup; refine wl_lookup rfl _ _ _ _ rfl _ _ rfl rfl ?_) | (at_delete; refine wl_delete rfl _ _ _ _ rfl _ _ rfl rfl ?_) | (with_reducible refine wl_len rfl _ _ rfl _ rfl ?_) | (with_reducible refine wl_range rfl _ _ rfl _ rfl ?_) | (with_reducible refine wl_next rfl _ rfl _ rfl ?_) | (with_reducible refine wl_copy rfl _ _ _ _ rfl _ _ rfl rfl ?_) | (with_reducible refine wl_max rfl _ _ _ _ rfl _ _ rfl rfl ?_) | (with_reducible refine wl_min rfl _ _ _ _ rfl _ _ rfl rfl ?_))
    refine hfa.mono ?_
    rintro e wF ⟨rfl, hkF⟩
    clear hfa
    unfold encO3
    replace hkF := hkd.trans' hkF
    have b2F := b2X.keep hkF fun h => h
    have b4F := b4X.keep hkF fun h => h
    have b5F := b5X.keep hkF fun h => h
    go_wp2_with (first | (at_builtin; refine wl_append rfl _ _ _ _ rfl _ _ rfl rfl ?_) | (at_make; refine wl_make rfl _ _ _ rfl _ _ rfl rfl ?_) | (at_mapUpdate; refine wl_mapUpdate rfl _ _ _ _ rfl _ _ _ rfl rfl rfl ?_) | (at_lookup; refine wl_lookup rfl _ _ _ _ rfl _ _ rfl rfl ?_) | (at_delete; refine wl_delete rfl _ _ _ _ rfl _ _ rfl rfl ?_) | (with_reducible refine wl_len rfl _ _ rfl _ rfl ?_) | (with_reducible refine wl_range rfl _ _ rfl _ rfl ?_) | (with_reducible refine wl_next rfl _ rfl _ rfl ?_) | (with_reducible refine wl_copy rfl _ _ _ _ rfl _ _ rfl rfl ?_) | (with_reducible refine wl_max rfl _ _ _ _ rfl _ _ rfl rfl ?_) | (with_reducible refine wl_min rfl _ _ _ _ rfl _ _ rfl rfl ?_))
    refine ⟨fun _ => ⟨b2F, (b2F.cell 32).trans g4⟩, ?_⟩
    refine sig_eff (o := ⟨none, _, _, _, _, _⟩) rfl rfl (fun K hKe => ?_)
    refine wo_stAgg (.tmp 4) (.tmp 20) 26 rfl _ _ rfl rfl ?_
    refine rg_stAgg b4F HSZ.out (by rw [hsz]; rfl) HONE.out ?_
    intro wa hBa hka hza
    have b2a := b2F.keep hka fun e => by have e2 : w.heap.size = w.heap.size + 1 := e; omega
    refine hKe _ _ ⟨fun _ => ⟨b2a, (b2a.cell 32).trans g4⟩, ?_⟩
    refine sig_eff (o := ⟨none, _, _, _, _, _⟩) rfl rfl (fun K hKe => ?_)
    refine wo_stAgg (.tmp 5) (.tmp 24) 36 rfl _ _ rfl rfl ?_
    refine rg_stAgg (b5F.keep hka fun e => by have e2 : w.heap.size + 1 + 1 = w.heap.size + 1 := e; omega) (by kernel_rfl) (by rfl) (by simp [Value.oneCell']) ?_
    intro wb hBb hkb hzb
    have b2b := b2a.keep hkb fun e => by have e2 : w.heap.size = w.heap.size + 1 + 1 := e; omega
    refine hKe _ _ ⟨fun _ => ⟨b2b, (b2b.cell 32).trans g4⟩, sig_nil ?_⟩
    go_wp2_with (first | (at_builtin; refine wl_append rfl _ _ _ _ rfl _ _ rfl rfl ?_) | (at_make; refine wl_make rfl _ _ _ rfl _ _ rfl rfl ?_) | (at_mapUpdate; refine wl_mapUpdate rfl _ _ _ _ rfl _ _ _ rfl rfl rfl ?_) | (at_lookup; refine wl_lookup rfl _ _ _ _ rfl _ _ rfl rfl ?_) | (at_delete; refine wl_delete rfl _ _ _ _ rfl _ _ rfl rfl ?_) | (with_reducible refine wl_len rfl _ _ rfl _ rfl ?_) | (with_reducible refine wl_range rfl _ _ rfl _ rfl ?_) | (with_reducible refine wl_next rfl _ rfl _ rfl ?_) | (with_reducible refine wl_copy rfl _ _ _ _ rfl _ _ rfl rfl ?_) | (with_reducible refine wl_max rfl _ _ _ _ rfl _ _ rfl rfl ?_) | (with_reducible refine wl_min rfl _ _ _ _ rfl _ _ rfl rfl ?_))
    refine ret_blk_blk rfl rfl rfl (hBa.keep hkb fun e => by have e2 : w.heap.size + 1 = w.heap.size + 1 + 1 := e; omega) hBb Tryd.underlying26 rfl HSZ.out Tryd.underlying36 rfl (by kernel_rfl) rfl ?_
    have hKF := (hkX).trans' hkF
    have hkaa : Keep No w wa := hKF.trans hka fun j hj e => by have e2 : j = w.heap.size + 1 := e; omega
    have hkbb : Keep No w wb := hkaa.trans hkb fun j hj e => by have e2 : j = w.heap.size + 1 + 1 := e; omega
    have hTM := HTM.out
    have hcs := HCS.out
    cases hTM
    subst hcs
    exact ⟨rfl, hHS.out.no hAX.out hkbb, hkbb.mono fun _ _ h => h.elim⟩
set_option maxRecDepth 100000 in
set_option maxHeartbeats 4000000 in
theorem vnumber_nil (a : Nat) (n : Int) (q : Nat) : Calls Tryd.prog 24 #[.pointer none, .int .u64 (a : Int), .int .i64 n, .int .i64 (q : Int)] w fun e w' => e = .returned (.int .i64 1) ∧ w = w' := by
  go_enter Tryd.func24, Tryd.ntmps24
  go_wp2_with (first | (at_builtin; refine wl_append rfl _ _ _ _ rfl _ _ rfl rfl ?_) | (at_make; refine wl_make rfl _ _ _ rfl _ _ rfl rfl ?_) | (at_mapUpdate; refine wl_mapUpdate rfl _ _ _ _ rfl _ _ _ rfl rfl rfl ?_) | (at_lookup; refine wl_lookup rfl _ _ _ _ rfl _ _ rfl rfl ?_) | (at_delete; refine wl_delete rfl _ _ _ _ rfl _ _ rfl rfl ?_) | (with_reducible refine wl_len rfl _ _ rfl _ rfl ?_) | (with_reducible refine wl_range rfl _ _ rfl _ rfl ?_) | (with_reducible refine wl_next rfl _ rfl _ rfl ?_) | (with_reducible refine wl_copy rfl _ _ _ _ rfl _ _ rfl rfl ?_) | (with_reducible refine wl_max rfl _ _ _ _ rfl _ _ rfl rfl ?_) | (with_reducible refine wl_min rfl _ _ _ _ rfl _ _ rfl rfl ?_))
  go_ret
  exact ⟨rfl, rfl⟩
set_option maxRecDepth 100000 in
set_option maxHeartbeats 4000000 in
theorem vfetch_nil (a : Nat) (ha : a < 18446744073709551616) : Calls Tryd.prog 16 #[.pointer none, .int .u64 (a : Int)] w fun e w' => e = .returned (.tuple #[.int .u64 0, .int .i64 1]) ∧ w = w' := by
  have hr : (a : Int).tmod 8 = ((a % 8 : Nat) : Int) := by rw [Int.tmod_eq_emod_of_nonneg (by omega)]; rfl
  by_cases h : a % 8 = 0
  · have h1 : (((a % 8 : Nat) : Int) == 0) = true := by rw [h]; rfl
    have hn := fun (W : World) => vnumber_nil (w := W) a 8 1
    have HN := Lib.hid hn
    clear hn h
    generalize a % 8 = r at *
    go_enter Tryd.func16, Tryd.ntmps16
    go_wp2_with (first | (at_builtin; refine wl_append rfl _ _ _ _ rfl _ _ rfl rfl ?_) | (at_make; refine wl_make rfl _ _ _ rfl _ _ rfl rfl ?_) | (at_mapUpdate; refine wl_mapUpdate rfl _ _ _ _ rfl _ _ _ rfl rfl rfl ?_) | (at_lookup; refine wl_lookup rfl _ _ _ _ rfl _ _ rfl rfl ?_) | (at_delete; refine wl_delete rfl _ _ _ _ rfl _ _ rfl rfl ?_) | (with_reducible refine wl_len rfl _ _ rfl _ rfl ?_) | (with_reducible refine wl_range rfl _ _ rfl _ rfl ?_) | (with_reducible refine wl_next rfl _ rfl _ rfl ?_) | (with_reducible refine wl_copy rfl _ _ _ _ rfl _ _ rfl rfl ?_) | (with_reducible refine wl_max rfl _ _ _ _ rfl _ _ rfl rfl ?_) | (with_reducible refine wl_min rfl _ _ _ _ rfl _ _ rfl rfl ?_))
    have hn := HN.out w
    refine hn.mono ?_
    rintro e w' ⟨rfl, rfl⟩
    clear hn
    go_wp2_with (first | (at_builtin; refine wl_append rfl _ _ _ _ rfl _ _ rfl rfl ?_) | (at_make; refine wl_make rfl _ _ _ rfl _ _ rfl rfl ?_) | (at_mapUpdate; refine wl_mapUpdate rfl _ _ _ _ rfl _ _ _ rfl rfl rfl ?_) | (at_lookup; refine wl_lookup rfl _ _ _ _ rfl _ _ rfl rfl ?_) | (at_delete; refine wl_delete rfl _ _ _ _ rfl _ _ rfl rfl ?_) | (with_reducible refine wl_len rfl _ _ rfl _ rfl ?_) | (with_reducible refine wl_range rfl _ _ rfl _ rfl ?_) | (with_reducible refine wl_next rfl _ rfl _ rfl ?_) | (with_reducible refine wl_copy rfl _ _ _ _ rfl _ _ rfl rfl ?_) | (with_reducible refine wl_max rfl _ _ _ _ rfl _ _ rfl rfl ?_) | (with_reducible refine wl_min rfl _ _ _ _ rfl _ _ rfl rfl ?_))
    go_ret2
    exact ⟨rfl, rfl⟩
  · have h1 : (((a % 8 : Nat) : Int) == 0) = false := by simp; omega
    clear h
    generalize a % 8 = r at *
    go_enter Tryd.func16, Tryd.ntmps16
    go_wp2_with (first | (at_builtin; refine wl_append rfl _ _ _ _ rfl _ _ rfl rfl ?_) | (at_make; refine wl_make rfl _ _ _ rfl _ _ rfl rfl ?_) | (at_mapUpdate; refine wl_mapUpdate rfl _ _ _ _ rfl _ _ _ rfl rfl rfl ?_) | (at_lookup; refine wl_lookup rfl _ _ _ _ rfl _ _ rfl rfl ?_) | (at_delete; refine wl_delete rfl _ _ _ _ rfl _ _ rfl rfl ?_) | (with_reducible refine wl_len rfl _ _ rfl _ rfl ?_) | (with_reducible refine wl_range rfl _ _ rfl _ rfl ?_) | (with_reducible refine wl_next rfl _ rfl _ rfl ?_) | (with_reducible refine wl_copy rfl _ _ _ _ rfl _ _ rfl rfl ?_) | (with_reducible refine wl_max rfl _ _ _ _ rfl _ _ rfl rfl ?_) | (with_reducible refine wl_min rfl _ _ _ _ rfl _ _ rfl rfl ?_))
    go_ret2
    exact ⟨rfl, rfl⟩
set_option maxRecDepth 100000 in
set_option maxHeartbeats 8000000 in
theorem cpustep_nil (s : St) (hs : StOk s) : Calls Tryd.prog 9 #[.agg (cellsS s), .pointer none] w fun e w' => e = .returned (.tuple #[.agg (cellsS s), encO3 ⟨3, 1, s.pc⟩]) ∧ Keep No w w' := by
  have hfe := fun (W : World) => vfetch_nil (w := W) s.pc hs.pc
  have hsz := cellsS_size hs
  have hss := stC_sz hs
  have hone := cellsS_one s
  have g4 := cellsS_pc hs
  unfold uv at g4
  obtain ⟨cs, hcs⟩ : ∃ cs, cs = cellsS s := ⟨_, rfl⟩
  have HCS := Lib.hid hcs
  rw [← hcs] at hsz g4 hss hone ⊢
  have g32 : cs[32]'(by omega) = .int .u64 (s.pc : Int) := by
    have := Array.getElem?_eq_getElem (xs := cs) (i := 32) (by omega)
    rw [g4] at this
    exact (Option.some.inj this).symm
  have HSZ := Lib.hid hss
  have HONE := Lib.hid hone
  have HFE := Lib.hid hfe
  clear hcs hfe hss hone
  go_enter Tryd.func9, Tryd.ntmps9
  go_wp2_with (first | (at_builtin; refine wl_append rfl _ _ _ _ rfl _ _ rfl rfl ?_) | (at_make; refine wl_make rfl _ _ _ rfl _ _ rfl rfl ?_) | (at_mapUpdate; refine wl_mapUpdate rfl _ _ _ _ rfl _ _ _ rfl rfl rfl ?_) | (at_lookup; refine wl_lookup rfl _ _ _ _ rfl _ _ rfl rfl ?_) | (at_delete; refine wl_delete rfl _ _ _ _ rfl _ _ rfl rfl ?_) | (with_reducible refine wl_len rfl _ _ rfl _ rfl ?_) | (with_reducible refine wl_range rfl _ _ rfl _ rfl ?_) | (with_reducible refine wl_next rfl _ rfl _ rfl ?_) | (with_reducible refine wl_copy rfl _ _ _ _ rfl _ _ rfl rfl ?_) | (with_reducible refine wl_max rfl _ _ _ _ rfl _ _ rfl rfl ?_) | (with_reducible refine wl_min rfl _ _ _ _ rfl _ _ rfl rfl ?_))
  have hkW1 : Keep No w (w.alloc (.cells cs 26)) := (Keep.refl _ _).alloc _
  have hBW1 : Blk (w.alloc (.cells cs 26)) w.heap.size cs 26 := Blk.new _ _ _
  have hzW1 : (w.alloc (.cells cs 26)).heap.size = w.heap.size + 1 := World.size_alloc _ _
  generalize w.alloc (.cells cs 26) = W1 at *
  have hkW2 : Keep No W1 (W1.alloc (.cells #[.int .u64 0, .int .u64 0, .int .u64 0, .int .u64 0, .int .u64 0, .int .u64 0, .int .u64 0, .int .u64 0, .int .u64 0, .int .u64 0, .int .u64 0, .int .u64 0, .int .u64 0, .int .u64 0, .int .u64 0, .int .u64 0, .int .u64 0, .int .u64 0, .int .u64 0, .int .u64 0, .int .u64 0, .int .u64 0, .int .u64 0, .int .u64 0, .int .u64 0, .int .u64 0, .int .u64 0, .int .u64 0, .int .u64 0, .int .u64 0, .int .u64 0, .int .u64 0, .int .u64 0, .int .u64 0] 26)) := (Keep.refl _ _).alloc _
  have hBW2 : Blk (W1.alloc (.cells #[.int .u64 0, .int .u64 0, .int .u64 0, .int .u64 0, .int .u64 0, .int .u64 0, .int .u64 0, .int .u64 0, .int .u64 0, .int .u64 0, .int .u64 0, .int .u64 0, .int .u64 0, .int .u64 0, .int .u64 0, .int .u64 0, .int .u64 0, .int .u64 0, .int .u64 0, .int .u64 0, .int .u64 0, .int .u64 0, .int .u64 0, .int .u64 0, .int .u64 0, .int .u64 0, .int .u64 0, .int .u64 0, .int .u64 0, .int .u64 0, .int .u64 0, .int .u64 0, .int .u64 0, .int .u64 0] 26)) W1.heap.size #[.int .u64 0, .int .u64 0, .int .u64 0, .int .u64 0, .int .u64 0, .int .u64 0, .int .u64 0, .int .u64 0, .int .u64 0, .int .u64 0, .int .u64 0, .int .u64 0, .int .u64 0, .int .u64 0, .int .u64 0, .int .u64 0, .int .u64 0, .int .u64 0, .int .u64 0, .int .u64 0, .int .u64 0, .int .u64 0, .int .u64 0, .int .u64 0, .int .u64 0, .int .u64 0, .int .u64 0, .int .u64 0, .int .u64 0, .int .u64 0, .int .u64 0, .int .u64 0, .int .u64 0, .int .u64 0] 26 := Blk.new _ _ _
  have hzW2 : (W1.alloc (.cells #[.int .u64 0, .int .u64 0, .int .u64 0, .int .u64 0, .int .u64 0, .int .u64 0, .int .u64 0, .int .u64 0, .int .u64 0, .int .u64 0, .int .u64 0, .int .u64 0, .int .u64 0, .int .u64 0, .int .u64 0, .int .u64 0, .int .u64 0, .int .u64 0, .int .u64 0, .int .u64 0, .int .u64 0, .int .u64 0, .int .u64 0, .int .u64 0, .int .u64 0, .int .u64 0, .int .u64 0, .int .u64 0, .int .u64 0, .int .u64 0, .int .u64 0, .int .u64 0, .int .u64 0, .int .u64 0] 26)).heap.size = W1.heap.size + 1 := World.size_alloc _ _
  generalize W1.alloc (.cells #[.int .u64 0, .int .u64 0, .int .u64 0, .int .u64 0, .int .u64 0, .int .u64 0, .int .u64 0, .int .u64 0, .int .u64 0, .int .u64 0, .int .u64 0, .int .u64 0, .int .u64 0, .int .u64 0, .int .u64 0, .int .u64 0, .int .u64 0, .int .u64 0, .int .u64 0, .int .u64 0, .int .u64 0, .int .u64 0, .int .u64 0, .int .u64 0, .int .u64 0, .int .u64 0, .int .u64 0, .int .u64 0, .int .u64 0, .int .u64 0, .int .u64 0, .int .u64 0, .int .u64 0, .int .u64 0] 26) = W2 at *
  have hkW3 : Keep No W2 (W2.alloc (.cells #[.int .i64 0, .int .i64 0, .int .u64 0] 36)) := (Keep.refl _ _).alloc _
  have hBW3 : Blk (W2.alloc (.cells #[.int .i64 0, .int .i64 0, .int .u64 0] 36)) W2.heap.size #[.int .i64 0, .int .i64 0, .int .u64 0] 36 := Blk.new _ _ _
  have hzW3 : (W2.alloc (.cells #[.int .i64 0, .int .i64 0, .int .u64 0] 36)).heap.size = W2.heap.size + 1 := World.size_alloc _ _
  generalize W2.alloc (.cells #[.int .i64 0, .int .i64 0, .int .u64 0] 36) = W3 at *
  rw [hzW1] at hBW2 hzW2
  rw [hzW2] at hBW3 hzW3
  have hk3 := (hkW1.trans' hkW2).trans' hkW3
  have b2 := (hBW1.keep hkW2 fun h => h).keep hkW3 fun h => h
  have b4 := hBW2.keep hkW3 fun h => h
  have b5 := hBW3
  clear hkW1 hkW2 hkW3 hBW1 hBW2 hBW3 hzW1 hzW2
  have q32 : W3.cell? ⟨w.heap.size, 32, none⟩ = some (.int .u64 (s.pc : Int)) := (b2.cell 32).trans g4
  have hcall := HFE.out W3
  clear g32
  go_wp2_with (first | (at_builtin; refine wl_append rfl _ _ _ _ rfl _ _ rfl rfl ?_) | (at_make; refine wl_make rfl _ _ _ rfl _ _ rfl rfl ?_) | (at_mapUpdate; refine wl_mapUpdate rfl _ _ _ _ rfl _ _ _ rfl rfl rfl ?_) | (at_lookup; refine wl_lookup rfl _ _ _ _ rfl _ _ rfl rfl ?_) | (at_delete; refine wl_delete rfl _ _ _ _ rfl _ _ rfl rfl ?_) | (with_reducible refine wl_len rfl _ _ rfl _ rfl ?_) | (with_reducible refine wl_range rfl _ _ rfl _ rfl ?_) | (with_reducible refine wl_next rfl _ rfl _ rfl ?_) | (with_reducible refine wl_copy rfl _ _ _ _ rfl _ _ rfl rfl ?_) | (with_reducible refine wl_max rfl _ _ _ _ rfl _ _ rfl rfl ?_) | (with_reducible refine wl_min rfl _ _ _ _ rfl _ _ rfl rfl ?_))
  refine hcall.mono ?_
  rintro e w4 ⟨rfl, rfl⟩
  have b2X := b2
  have b4X := b4
  have b5X := b5
  clear hcall q32 b2 b4 b5
  go_wp2_with (first | (at_builtin; refine wl_append rfl _ _ _ _ rfl _ _ rfl rfl ?_) | (at_make; refine wl_make rfl _ _ _ rfl _ _ rfl rfl ?_) | (at_mapUpdate; refine wl_mapUpdate rfl _ _ _ _ rfl _ _ _ rfl rfl rfl ?_) | (at_lookup; refine wl_lookup rfl _ _ _ _ rfl _ _ rfl rfl ?_) | (at_delete; refine wl_delete rfl _ _ _ _ rfl _ _ rfl rfl ?_) | (with_reducible refine wl_len rfl _ _ rfl _ rfl ?_) | (with_reducible refine wl_range rfl _ _ rfl _ rfl ?_) | (with_reducible refine wl_next rfl _ rfl _ rfl ?_) | (with_reducible refine wl_copy rfl _ _ _ _ rfl _ _ rfl rfl ?_) | (with_reducible refine wl_max rfl _ _ _ _ rfl _ _ rfl rfl ?_) | (with_reducible refine wl_min rfl _ _ _ _ rfl _ _ rfl rfl ?_))
  have hkd := (Keep.refl No W3).drew
  have qx : W3.cell? ⟨w.heap.size, 32, none⟩ = some (.int .u64 (s.pc : Int)) := (b2X.cell 32).trans g4
  go_wp2_with (first | (at_builtin; refine wl_append rfl _ _ _ _ rfl _ _ rfl rfl ?_) | (at_make; refine wl_make rfl _ _ _ rfl _ _ rfl rfl ?_) | (at_mapUpdate; refine wl_mapUpdate rfl _ _ _ _ rfl _ _ _ rfl rfl rfl ?_) | (at_lookup; refine wl_lookup rfl _ _ _ _ rfl _ _ rfl rfl ?_) | (at_delete; refine wl_delete rfl _ _ _ _ rfl _ _ rfl rfl ?_) | (with_reducible refine wl_len rfl _ _ rfl _ rfl ?_) | (with_reducible refine wl_range rfl _ _ rfl _ rfl ?_) | (with_reducible refine wl_next rfl _ rfl _ rfl ?_) | (with_reducible refine wl_copy rfl _ _ _ _ rfl _ _ rfl rfl ?_) | (with_reducible refine wl_max rfl _ _ _ _ rfl _ _ rfl rfl ?_) | (with_reducible refine wl_min rfl _ _ _ _ rfl _ _ rfl rfl ?_))
  refine wp_region_sig (fun w' => Blk w' w.heap.size cs 26 ∧ w'.cell? ⟨w.heap.size, 32, none⟩ = some (.int .u64 (s.pc : Int))) (fun j => decide (j ≤ 99)) [(0, true), (1, true), (2, true), (3, true), (4, false), (5, false), (6, false)] (by kernel_rfl) (by kernel_rfl) (by intro c a d v w h; cases d <;> exact h) ⟨b2X.keep hkd fun h => h, qx⟩ ?_
  apply sig_still (o := ⟨some 20, _, _, _, _, _⟩) rfl rfl
  · intro w' hS
    exact run_ldo _ _ rfl w.heap.size 0 rfl (run_loadVar_row w' w.heap.size 26 26 _ _ _ hS.1 Tryd.underlying26 rfl HSZ.out)
  go_frame
  apply sig_still (o := ⟨some 21, _, _, _, _, _⟩) rfl rfl
  · intro w' hS
    obtain ⟨q1, q2⟩ := hS
    first | (go_simp; done) | (go_simp; rfl) | rfl
  go_frame
  apply sig_still (o := ⟨some 22, _, _, _, _, _⟩) rfl rfl
  · intro w' hS
    obtain ⟨q1, q2⟩ := hS
    first | (go_simp; done) | (go_simp; rfl) | rfl
  go_frame
  apply sig_still (o := ⟨some 23, _, _, _, _, _⟩) rfl rfl
  · intro w' hS
    obtain ⟨q1, q2⟩ := hS
    first | (go_simp; done) | (go_simp; rfl) | rfl
  go_frame
  refine sig_eff (o := ⟨some 24, _, _, _, _, _⟩) rfl rfl (fun K hKe => ?_)
  have hfa := cpufault_any 1 s.pc W3.drew
  go_wp2_with (first | (at_builtin; refine wl_append rfl _ _ _ _ rfl _ _ rfl rfl ?_) | (at_make; refine wl_make rfl _ _ _ rfl _ _ rfl rfl ?_) | (at_mapUpdate; refine wl_mapUpdate rfl _ _ _ _ rfl _ _ _ rfl rfl rfl ?_) | (at_lookup; refine wl_lookup rfl _ _ _ _ rfl _ _ rfl rfl ?_) | (at_delete; refine wl_delete rfl _ _ _ _ rfl _ _ rfl rfl ?_) | (with_reducible refine wl_len rfl _ _ rfl _ rfl ?_) | (with_reducible refine wl_range rfl _ _ rfl _ rfl ?_) | (with_reducible refine wl_next rfl _ rfl _ rfl ?_) | (with_reducible refine wl_copy rfl _ _ _ _ rfl _ _ rfl rfl ?_) | (with_reducible refine wl_max rfl _ _ _ _ rfl _ _ rfl rfl ?_) | (with_reducible refine wl_min rfl _ _ _ _ rfl _ _ rfl rfl ?_))
  refine hfa.mono ?_
  rintro e wF ⟨rfl, hkF⟩
  clear hfa
  unfold encO3
  replace hkF := hkd.trans' hkF
  have b2F := b2X.keep hkF fun h => h
  have b4F := b4X.keep hkF fun h => h
  have b5F := b5X.keep hkF fun h => h
  go_wp2_with (first | (at_builtin; refine wl_append rfl _ _ _ _ rfl _ _ rfl rfl ?_) | (at_make; refine wl_make rfl _ _ _ rfl _ _ rfl rfl ?_) | (at_mapUpdate; refine wl_mapUpdate rfl _ _ _ _ rfl _ _ _ rfl rfl rfl ?_) | (at_lookup; refine wl_lookup rfl _ _ _ _ rfl _ _ rfl rfl ?_) | (at_delete; refine wl_delete rfl _ _ _ _ rfl _ _ rfl rfl ?_) | (with_reducible refine wl_len rfl _ _ rfl _ rfl ?_) | (with_reducible refine wl_range rfl _ _ rfl _ rfl ?_) | (with_reducible refine wl_next rfl _ rfl _ rfl ?_) | (with_reducible refine wl_copy rfl _ _ _ _ rfl _ _ rfl rfl ?_) | (with_reducible refine wl_max rfl _ _ _ _ rfl _ _ rfl rfl ?_) | (with_reducible refine wl_min rfl _ _ _ _ rfl _ _ rfl rfl ?_))
  refine ⟨fun _ => ⟨b2F, (b2F.cell 32).trans g4⟩, ?_⟩
  refine sig_eff (o := ⟨none, _, _, _, _, _⟩) rfl rfl (fun K hKe => ?_)
  refine wo_stAgg (.tmp 4) (.tmp 20) 26 rfl _ _ rfl rfl ?_
  refine rg_stAgg b4F HSZ.out (by rw [hsz]; rfl) HONE.out ?_
  intro wa hBa hka hza
  have b2a := b2F.keep hka fun e => by have e2 : w.heap.size = w.heap.size + 1 := e; omega
  refine hKe _ _ ⟨fun _ => ⟨b2a, (b2a.cell 32).trans g4⟩, ?_⟩
  refine sig_eff (o := ⟨none, _, _, _, _, _⟩) rfl rfl (fun K hKe => ?_)
  refine wo_stAgg (.tmp 5) (.tmp 24) 36 rfl _ _ rfl rfl ?_
  refine rg_stAgg (b5F.keep hka fun e => by have e2 : w.heap.size + 1 + 1 = w.heap.size + 1 := e; omega) (by kernel_rfl) (by rfl) (by simp [Value.oneCell']) ?_
  intro wb hBb hkb hzb
  have b2b := b2a.keep hkb fun e => by have e2 : w.heap.size = w.heap.size + 1 + 1 := e; omega
  refine hKe _ _ ⟨fun _ => ⟨b2b, (b2b.cell 32).trans g4⟩, sig_nil ?_⟩
  go_wp2_with (first | (at_builtin; refine wl_append rfl _ _ _ _ rfl _ _ rfl rfl ?_) | (at_make; refine wl_make rfl _ _ _ rfl _ _ rfl rfl ?_) | (at_mapUpdate; refine wl_mapUpdate rfl _ _ _ _ rfl _ _ _ rfl rfl rfl ?_) | (at_lookup; refine wl_lookup rfl _ _ _ _ rfl _ _ rfl rfl ?_) | (at_delete; refine wl_delete rfl _ _ _ _ rfl _ _ rfl rfl ?_) | (with_reducible refine wl_len rfl _ _ rfl _ rfl ?_) | (with_reducible refine wl_range rfl _ _ rfl _ rfl ?_) | (with_reducible refine wl_next rfl _ rfl _ rfl ?_) | (with_reducible refine wl_copy rfl _ _ _ _ rfl _ _ rfl rfl ?_) | (with_reducible refine wl_max rfl _ _ _ _ rfl _ _ rfl rfl ?_) | (with_reducible refine wl_min rfl _ _ _ _ rfl _ _ rfl rfl ?_))
  refine ret_blk_blk rfl rfl rfl (hBa.keep hkb fun e => by have e2 : w.heap.size + 1 = w.heap.size + 1 + 1 := e; omega) hBb Tryd.underlying26 rfl HSZ.out Tryd.underlying36 rfl (by kernel_rfl) rfl ?_
  have hKF := (hk3).trans' hkF
  have hkaa : Keep No w wa := hKF.trans hka fun j hj e => by have e2 : j = w.heap.size + 1 := e; omega
  have hkbb : Keep No w wb := hkaa.trans hkb fun j hj e => by have e2 : j = w.heap.size + 1 + 1 := e; omega
  exact ⟨rfl, hkbb⟩
end
end Go.Proofs.YtaoillfofiehpaaDoor
