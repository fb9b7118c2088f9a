/- The document's example of chapter 18 (awake). No condition. -/
import Derived.Test.YthfekjnekaecaaaDoorTg10
import Derived.Test.YthfekjnekaecaaaDoorVmG
set_option linter.unusedVariables false
set_option linter.unusedSimpArgs false
namespace Go.Dm.Tg
open Go Go.Dm.Vm Go.Dm.Cp
def aw18 : St := ⟨List.replicate 32 0, 1024, 0⟩
def awL : Lg := ⟨mods2, []⟩
def awL2 : Lg := ⟨mods2, [(4096, 2)]⟩
def awT1 : List Int := [0, 0, 1] ++ List.replicate 29 0
def awT2 : List Int := [0, 0, 1, 1] ++ List.replicate 28 0
def awT3 : List Int := [0, 1, 1] ++ List.replicate 29 0
theorem aw18_ok : StOk aw18 := ⟨by decide, by decide, by decide, by decide⟩
theorem aw_s1 (mo : Option V) : tstepM awL mo awT1 aw18 ⟨(3 : Int).toNat, (1 : Int).toNat, (2 : Int).toNat, (3 : Int).toNat, 0⟩ (mayF 3 1 2 3 0) = (awT3, awL, 0) := by kernel_rfl
theorem aw_s2 (mo : Option V) : tstepM awL mo awT2 aw18 ⟨(3 : Int).toNat, (1 : Int).toNat, (2 : Int).toNat, (3 : Int).toNat, 0⟩ (mayF 3 1 2 3 0) = (awT2, awL, 50) := by kernel_rfl
theorem aw_mk : markE awL 4096 2 = 0 ∧ markM awL 4096 2 = awL2 := ⟨by kernel_rfl, by kernel_rfl⟩
theorem aw_tag : tagM awL2 4103 = 2 := by kernel_rfl
theorem aw_pl1 : plainM awL2 4100 8 = false := by kernel_rfl
theorem aw_pl2 : plainM awL2 4104 8 = true := by kernel_rfl
theorem aw_sp1 : spanM awL2 (some mem18) 4096 8 0 = 0 := by kernel_rfl
theorem aw_sp2 : spanM awL2 (some mem18) 1024 8 0 = 50 := by kernel_rfl
end Go.Dm.Tg
namespace Go.Proofs.YthfekjnekaecaaaDoor
open Go.RowKit Go.Dm Go.Dm.Vm Go.Dm.Cp Go.Dm.Tg Go.Maps
theorem joinG {G T : Prop} (k : Go.RowKit.Hid T → G) (t : T) : G := k t
section
variable {w : World}
set_option maxRecDepth 100000 in
theorem step_s1 {A : Nat → Prop} {d mb dm mbm x y : Nat} {v : Value} {fm : Nat → Nat} (hT : Tabs w) (hL : LRep A w d awL v mb) (hA : ∀ k, A k → k < w.heap.size) (hy : y ≤ w.heap.size) (hmb : mb < x) (hS : SRep (fun k => x ≤ k ∧ k < y) w dm mem18 mbm fm) :
    Calls Tryd.prog 9 #[.pointer (some ⟨d, 0, none⟩), .agg #[.int .i64 0, .int .i64 0, .int .i64 1, .int .i64 0, .int .i64 0, .int .i64 0, .int .i64 0, .int .i64 0, .int .i64 0, .int .i64 0, .int .i64 0, .int .i64 0, .int .i64 0, .int .i64 0, .int .i64 0, .int .i64 0, .int .i64 0, .int .i64 0, .int .i64 0, .int .i64 0, .int .i64 0, .int .i64 0, .int .i64 0, .int .i64 0, .int .i64 0, .int .i64 0, .int .i64 0, .int .i64 0, .int .i64 0, .int .i64 0, .int .i64 0, .int .i64 0], .agg #[.int .u64 0, .int .u64 0, .int .u64 0, .int .u64 0, .int .u64 0, .int .u64 0, .int .u64 0, .int .u64 0, .int .u64 0, .int .u64 0, .int .u64 0, .int .u64 0, .int .u64 0, .int .u64 0, .int .u64 0, .int .u64 0, .int .u64 0, .int .u64 0, .int .u64 0, .int .u64 0, .int .u64 0, .int .u64 0, .int .u64 0, .int .u64 0, .int .u64 0, .int .u64 0, .int .u64 0, .int .u64 0, .int .u64 0, .int .u64 0, .int .u64 0, .int .u64 0, .int .u64 1024, .int .u64 0], .agg #[.int .i64 3, .int .i64 1, .int .i64 2, .int .i64 3, .int .i32 0], .pointer (some ⟨dm, 0, none⟩)] w fun e w' => e = .returned (.tuple #[.agg #[.int .i64 0, .int .i64 1, .int .i64 1, .int .i64 0, .int .i64 0, .int .i64 0, .int .i64 0, .int .i64 0, .int .i64 0, .int .i64 0, .int .i64 0, .int .i64 0, .int .i64 0, .int .i64 0, .int .i64 0, .int .i64 0, .int .i64 0, .int .i64 0, .int .i64 0, .int .i64 0, .int .i64 0, .int .i64 0, .int .i64 0, .int .i64 0, .int .i64 0, .int .i64 0, .int .i64 0, .int .i64 0, .int .i64 0, .int .i64 0, .int .i64 0, .int .i64 0], .int .i64 0]) ∧ LRep A w' d awL v mb ∧ Keep (fun j => j = mb) w w' := by
  have h := tstep_any (w := w) awT1 aw18 3 1 2 3 0 (some ⟨dm, 0, none⟩) (some mem18) rfl aw18_ok (by decide) (by decide) hT ⟨dm, mbm, fm, rfl, hS⟩ (fun k hk => Nat.lt_of_lt_of_le hk.2 hy) (fun k hk e => by have := hk.1; omega) hL hA
  rw [aw_s1] at h
  exact h
set_option maxRecDepth 100000 in
theorem step_s2 {A : Nat → Prop} {d mb dm mbm x y : Nat} {v : Value} {fm : Nat → Nat} (hT : Tabs w) (hL : LRep A w d awL v mb) (hA : ∀ k, A k → k < w.heap.size) (hy : y ≤ w.heap.size) (hmb : mb < x) (hS : SRep (fun k => x ≤ k ∧ k < y) w dm mem18 mbm fm) :
    Calls Tryd.prog 9 #[.pointer (some ⟨d, 0, none⟩), .agg #[.int .i64 0, .int .i64 0, .int .i64 1, .int .i64 1, .int .i64 0, .int .i64 0, .int .i64 0, .int .i64 0, .int .i64 0, .int .i64 0, .int .i64 0, .int .i64 0, .int .i64 0, .int .i64 0, .int .i64 0, .int .i64 0, .int .i64 0, .int .i64 0, .int .i64 0, .int .i64 0, .int .i64 0, .int .i64 0, .int .i64 0, .int .i64 0, .int .i64 0, .int .i64 0, .int .i64 0, .int .i64 0, .int .i64 0, .int .i64 0, .int .i64 0, .int .i64 0], .agg #[.int .u64 0, .int .u64 0, .int .u64 0, .int .u64 0, .int .u64 0, .int .u64 0, .int .u64 0, .int .u64 0, .int .u64 0, .int .u64 0, .int .u64 0, .int .u64 0, .int .u64 0, .int .u64 0, .int .u64 0, .int .u64 0, .int .u64 0, .int .u64 0, .int .u64 0, .int .u64 0, .int .u64 0, .int .u64 0, .int .u64 0, .int .u64 0, .int .u64 0, .int .u64 0, .int .u64 0, .int .u64 0, .int .u64 0, .int .u64 0, .int .u64 0, .int .u64 0, .int .u64 1024, .int .u64 0], .agg #[.int .i64 3, .int .i64 1, .int .i64 2, .int .i64 3, .int .i32 0], .pointer (some ⟨dm, 0, none⟩)] w fun e w' => e = .returned (.tuple #[.agg #[.int .i64 0, .int .i64 0, .int .i64 1, .int .i64 1, .int .i64 0, .int .i64 0, .int .i64 0, .int .i64 0, .int .i64 0, .int .i64 0, .int .i64 0, .int .i64 0, .int .i64 0, .int .i64 0, .int .i64 0, .int .i64 0, .int .i64 0, .int .i64 0, .int .i64 0, .int .i64 0, .int .i64 0, .int .i64 0, .int .i64 0, .int .i64 0, .int .i64 0, .int .i64 0, .int .i64 0, .int .i64 0, .int .i64 0, .int .i64 0, .int .i64 0, .int .i64 0], .int .i64 50]) ∧ LRep A w' d awL v mb ∧ Keep (fun j => j = mb) w w' := by
  have h := tstep_any (w := w) awT2 aw18 3 1 2 3 0 (some ⟨dm, 0, none⟩) (some mem18) rfl aw18_ok (by decide) (by decide) hT ⟨dm, mbm, fm, rfl, hS⟩ (fun k hk => Nat.lt_of_lt_of_le hk.2 hy) (fun k hk e => by have := hk.1; omega) hL hA
  rw [aw_s2] at h
  exact h
theorem tabs_lt {w : World} (hT : Tabs w) : 0 < w.heap.size := by
  obtain ⟨g, off, cap, e, hg, hl, _⟩ := hT.ops.at encO_len (i := 0) (by rw [opsT_len]; decide)
  have e2 : g = 0 := hg
  rw [← e2]; exact hl
set_option maxRecDepth 100000 in
set_option maxHeartbeats 8000000 in
theorem awake18_any (hT : Tabs w) : Calls Tryd.prog 6 #[] w fun e w' => e = .returned (.bool true) ∧ Keep No w w' := by
  have HT := Lib.hid hT
  clear hT
  go_enter Tryd.func6, Tryd.ntmps6
  go_wp2_with fail
  refine (modules18_any w).mono ?_
  rintro e w1 ⟨vm, rfl, hm1, hk1⟩
  have htn := tnew_any vm mods2 w1 hm1 mods2_ok (by decide)
  obtain ⟨am, cm, rfl, _, _⟩ := hm1.shape
  clear hm1
  go_wp2_with fail
  refine htn.mono ?_
  rintro e w2 ⟨d, v, mb, rfl, hL, hk2⟩
  have hkw2 := hk1.trans' hk2
  have hL : LRep (fun k => w1.heap.size ≤ k ∧ k < w2.heap.size) w2 d awL v mb := hL
  clear htn hk2
  unfold ptrTo
  go_wp2_with (with_reducible refine wl_stAgg rfl _ _ _ rfl _ _ rfl rfl ?_)
  have hkw3 : Keep No w2 (w2.alloc (.cells #[.int .i64 0, .int .i64 0, .int .i64 0, .int .i64 0, .int .i32 0] 37)) := (Keep.refl _ _).alloc _
  have hBw3 : Blk (w2.alloc (.cells #[.int .i64 0, .int .i64 0, .int .i64 0, .int .i64 0, .int .i32 0] 37)) w2.heap.size #[.int .i64 0, .int .i64 0, .int .i64 0, .int .i64 0, .int .i32 0] 37 := Blk.new _ _ _
  have hzw3 : (w2.alloc (.cells #[.int .i64 0, .int .i64 0, .int .i64 0, .int .i64 0, .int .i32 0] 37)).heap.size = w2.heap.size + 1 := World.size_alloc _ _
  generalize w2.alloc (.cells #[.int .i64 0, .int .i64 0, .int .i64 0, .int .i64 0, .int .i32 0] 37) = w3 at *
  refine rg_stAgg hBw3 (by kernel_rfl) (by rfl) (by simp [Value.oneCell']) ?_
  intro w4 hB4 hk4 hz4
  have hk24 : Keep No w2 w4 := hkw3.trans hk4 fun j hj e => absurd hj (by have e2 : j = w2.heap.size := e; omega)
  clear hk4 hz4 hkw3 hBw3
  have hkw4 := hkw2.trans' hk24
  have hA4 : ∀ k, (w1.heap.size ≤ k ∧ k < w2.heap.size) → k < w4.heap.size := fun k hk => Nat.lt_of_lt_of_le hk.2 hk24.size
  have hL4 := hL.no (fun k hk => hk.2) hk24
  clear hL hkw2
  go_wp2_with fail
  have hk : Keep (fun j => j = mb) w w4 := hkw4.mono fun _ _ h => h.elim
  have hL := hL4
  have bi := hB4
  have hAw := hA4
  have htm := fun (W : World) (hk : Keep (fun j => j = mb) w W) => HT.out.keep hk (fun e => by have := tabs_lt HT.out; have h1 := hL4.Am.1; have h3 := hk1.size; have e2 : 0 = mb := e; omega)
  have HTM := Lib.hid htm
  have hmb4 : mb < w4.heap.size := hA4 _ hL4.Am
  have hmbw : w1.heap.size ≤ mb := hL4.Am.1
  have hbm : ¬ w2.heap.size = mb := fun e => by have := hL4.Am.2; omega
  have hw12 : w.heap.size ≤ w1.heap.size := hk1.size
  have hlt24 : w2.heap.size < w4.heap.size := hB4.lt
  have hww4 : w.heap.size ≤ w4.heap.size := hkw4.size
  obtain ⟨n4, hn4⟩ : ∃ n, n = w4.heap.size := ⟨_, rfl⟩
  have hw4 : n4 ≤ w4.heap.size := Nat.le_of_eq hn4
  rw [← hn4] at hmb4 hlt24 hww4
  apply joinG
  · intro HJ
    have hkd := hk.drew
    have hLd := hL.no hAw (Keep.refl No w4).drew
    have bid := bi.keep (Keep.refl No w4).drew fun h => h
    refine wp_region_tree (fun w' => w'.cell? ⟨w2.heap.size, 0, none⟩ = some (.int .i64 3) ∧ w'.cell? ⟨w2.heap.size, 1, none⟩ = some (.int .i64 1) ∧ w'.cell? ⟨w2.heap.size, 2, none⟩ = some (.int .i64 2) ∧ w'.cell? ⟨w2.heap.size, 3, none⟩ = some (.int .i64 3) ∧ w'.cell? ⟨w2.heap.size, 4, none⟩ = some (.int .i32 0)) (fun j => decide (j ≤ 99)) (.st 0 (.st 1 (.st 2 (.st 3 (.br 4 9 (.br 5 9 (.st 6 (.st 7 (.st 8 (.ef 9 (.ef 10 (.st 11 .nil)))))) (.ef 5 (.st 6 (.st 7 (.st 8 (.ef 10 (.st 11 .nil))))))) (.ef 4 (.ef 5 (.st 6 (.st 7 (.st 8 (.ef 10 (.st 11 .nil)))))))))))) (by kernel_rfl) (by kernel_rfl) (by intro c a d v w h; cases d <;> exact h) ⟨bid.cell 0, bid.cell 1, bid.cell 2, bid.cell 3, bid.cell 4⟩ ?_
    apply tr_still (o := ⟨some 14, _, _, _, _, _⟩) rfl rfl
    · intro w' hS
      obtain ⟨q1, q2, q3, q4, q5⟩ := hS
      first | (go_simp; done) | (go_simp; rfl) | rfl
    go_frame
    apply tr_still (o := ⟨some 15, _, _, _, _, _⟩) rfl rfl
    · intro w' hS
      obtain ⟨q1, q2, q3, q4, q5⟩ := hS
      first | (go_simp; done) | (go_simp; rfl) | rfl
    go_frame
    apply tr_still (o := ⟨some 16, _, _, _, _, _⟩) rfl rfl
    · intro w' hS
      obtain ⟨q1, q2, q3, q4, q5⟩ := hS
      first | (go_simp; done) | (go_simp; rfl) | rfl
    go_frame
    apply tr_still (o := ⟨some 17, _, _, _, _, _⟩) rfl rfl
    · intro w' hS
      obtain ⟨q1, q2, q3, q4, q5⟩ := hS
      first | (go_simp; done) | (go_simp; rfl) | rfl
    go_frame
    refine tr_br (o := ⟨some 18, _, _, _, _, _⟩) (o' := ⟨some 3, _, _, _, _, _⟩) rfl rfl rfl rfl (fun K hKe => ?_) (fun K hKe => ?_)
    · go_wp2_with fail
      refine (memory18_any w4.drew).mono ?_
      rintro e wm ⟨dm, mbm, fm, rfl, hSm, hkm⟩
      have bim := bid.keep hkm fun h => h
      have hLm := hLd.no hAw hkm
      have hkM : Keep (fun j => j = mb) w wm := hkd.trans hkm fun _ _ h => h.elim
      have hwz : n4 ≤ w4.drew.heap.size := hw4
      refine hKe _ _ ⟨fun _ => ⟨bim.cell 0, bim.cell 1, bim.cell 2, bim.cell 3, bim.cell 4⟩, ?_⟩
      refine tr_br (o := ⟨some 19, _, _, _, _, _⟩) (o' := ⟨some 3, _, _, _, _, _⟩) rfl rfl rfl rfl (fun K hKe => ?_) (fun K hKe => ?_)
      · go_wp2_with fail
        refine (step_s1 (HTM.out wm hkM) hLm (fun k hk => Nat.lt_of_lt_of_le (hAw k hk) hkm.size) (Nat.le_refl _) (Nat.lt_of_lt_of_le hmb4 hwz) hSm).mono ?_
        rintro e ws ⟨rfl, hLs, hks⟩
        have bis := bim.keep hks hbm
        have hkS := hkM.trans' hks
        refine hKe _ _ ⟨fun _ => ⟨bis.cell 0, bis.cell 1, bis.cell 2, bis.cell 3, bis.cell 4⟩, ?_⟩
        apply tr_still (o := ⟨some 13, _, _, _, _, _⟩) rfl rfl
        · intro w' hS
          obtain ⟨q1, q2, q3, q4, q5⟩ := hS
          first | (go_simp; done) | (go_simp; rfl) | rfl
        go_frame
        apply tr_still (o := ⟨some 20, _, _, _, _, _⟩) rfl rfl
        · intro w' hS
          obtain ⟨q1, q2, q3, q4, q5⟩ := hS
          first | (go_simp; done) | (go_simp; rfl) | rfl
        go_frame
        apply tr_still (o := ⟨some 21, _, _, _, _, _⟩) rfl rfl
        · intro w' hS
          obtain ⟨q1, q2, q3, q4, q5⟩ := hS
          first | (go_simp; done) | (go_simp; rfl) | rfl
        go_frame
        refine tr_eff (o := ⟨some 3, _, _, _, _, _⟩) rfl rfl (fun K hKe => ?_)
        go_wp2_with fail
        have hkwa : Keep No ws (ws.alloc (.cells #[.int .i64 0, .int .i64 0, .int .i64 0, .int .i64 0, .int .i64 0, .int .i64 0, .int .i64 0, .int .i64 0, .int .i64 0, .int .i64 0, .int .i64 0, .int .i64 0, .int .i64 0, .int .i64 0, .int .i64 0, .int .i64 0, .int .i64 0, .int .i64 0, .int .i64 0, .int .i64 0, .int .i64 0, .int .i64 0, .int .i64 0, .int .i64 0, .int .i64 0, .int .i64 0, .int .i64 0, .int .i64 0, .int .i64 0, .int .i64 0, .int .i64 0, .int .i64 0] 30)) := (Keep.refl _ _).alloc _
        have hBwa : Blk (ws.alloc (.cells #[.int .i64 0, .int .i64 0, .int .i64 0, .int .i64 0, .int .i64 0, .int .i64 0, .int .i64 0, .int .i64 0, .int .i64 0, .int .i64 0, .int .i64 0, .int .i64 0, .int .i64 0, .int .i64 0, .int .i64 0, .int .i64 0, .int .i64 0, .int .i64 0, .int .i64 0, .int .i64 0, .int .i64 0, .int .i64 0, .int .i64 0, .int .i64 0, .int .i64 0, .int .i64 0, .int .i64 0, .int .i64 0, .int .i64 0, .int .i64 0, .int .i64 0, .int .i64 0] 30)) ws.heap.size #[.int .i64 0, .int .i64 0, .int .i64 0, .int .i64 0, .int .i64 0, .int .i64 0, .int .i64 0, .int .i64 0, .int .i64 0, .int .i64 0, .int .i64 0, .int .i64 0, .int .i64 0, .int .i64 0, .int .i64 0, .int .i64 0, .int .i64 0, .int .i64 0, .int .i64 0, .int .i64 0, .int .i64 0, .int .i64 0, .int .i64 0, .int .i64 0, .int .i64 0, .int .i64 0, .int .i64 0, .int .i64 0, .int .i64 0, .int .i64 0, .int .i64 0, .int .i64 0] 30 := Blk.new _ _ _
        have hzwa : (ws.alloc (.cells #[.int .i64 0, .int .i64 0, .int .i64 0, .int .i64 0, .int .i64 0, .int .i64 0, .int .i64 0, .int .i64 0, .int .i64 0, .int .i64 0, .int .i64 0, .int .i64 0, .int .i64 0, .int .i64 0, .int .i64 0, .int .i64 0, .int .i64 0, .int .i64 0, .int .i64 0, .int .i64 0, .int .i64 0, .int .i64 0, .int .i64 0, .int .i64 0, .int .i64 0, .int .i64 0, .int .i64 0, .int .i64 0, .int .i64 0, .int .i64 0, .int .i64 0, .int .i64 0] 30)).heap.size = ws.heap.size + 1 := World.size_alloc _ _
        generalize ws.alloc (.cells #[.int .i64 0, .int .i64 0, .int .i64 0, .int .i64 0, .int .i64 0, .int .i64 0, .int .i64 0, .int .i64 0, .int .i64 0, .int .i64 0, .int .i64 0, .int .i64 0, .int .i64 0, .int .i64 0, .int .i64 0, .int .i64 0, .int .i64 0, .int .i64 0, .int .i64 0, .int .i64 0, .int .i64 0, .int .i64 0, .int .i64 0, .int .i64 0, .int .i64 0, .int .i64 0, .int .i64 0, .int .i64 0, .int .i64 0, .int .i64 0, .int .i64 0, .int .i64 0] 30) = wa at *
        have bi := bis.keep hkwa fun h => h
        have hL := hLs.no (fun k hk => Nat.lt_of_lt_of_le (Nat.lt_of_lt_of_le (hAw k hk) hkm.size) hks.size) hkwa
        have hk : Keep (fun j => j = mb) w wa := hkS.trans hkwa fun _ _ h => h.elim
        have hsz : n4 ≤ ws.heap.size := Nat.le_trans hwz (Nat.le_trans hkm.size hks.size)
        refine ⟨fun _ => ⟨bi.cell 0, bi.cell 1, bi.cell 2, bi.cell 3, bi.cell 4⟩, ?_⟩
        refine tr_eff (o := ⟨none, _, _, _, _, _⟩) rfl rfl (fun K hKe => ?_)
        refine wo_stAgg (.tmp 3) (.tmp 20) 30 rfl _ _ rfl rfl ?_
        refine rg_stAgg hBwa (by kernel_rfl) (by rfl) (by simp [Value.oneCell']) ?_
        intro wf hBf hkf hzf
        have bi_f := bi.keep hkf fun e => by have e2 : w2.heap.size = ws.heap.size := e; omega
        have hLf := hL.keep hkf (fun j hj e => by have e2 : j = ws.heap.size := e; have := hj.2; omega) (fun j hj => by have := hj.2; have := bi.lt; omega)
        have hkF : Keep (fun j => j = mb) w wf := hk.trans hkf fun j hj e => absurd hj (by have e2 : j = ws.heap.size := e; omega)
        refine hKe _ _ ⟨fun _ => ⟨bi_f.cell 0, bi_f.cell 1, bi_f.cell 2, bi_f.cell 3, bi_f.cell 4⟩, ?_⟩
        apply tr_still (o := ⟨some 4, _, _, _, _, _⟩) rfl rfl
        · intro w' hS
          obtain ⟨q1, q2, q3, q4, q5⟩ := hS
          first | (go_simp; done) | (go_simp; rfl) | rfl
        go_frame
        apply tr_nil
        have hgl : n4 ≤ ws.heap.size := hsz
        obtain ⟨gg, hgg⟩ : ∃ g, g = ws.heap.size := ⟨_, rfl⟩
        rw [← hgg] at hBf hgl
        try rw [← hgg]
        clear hgg hkf hzf bi hL hk hSm hKe
        revert hgl hkF hLf bi_f hBf
        revert gg dm wf
        exact HJ.out
      · skip
        go_wp2_with fail
        have hkwa : Keep No wm (wm.alloc (.cells #[.int .i64 0, .int .i64 0, .int .i64 0, .int .i64 0, .int .i64 0, .int .i64 0, .int .i64 0, .int .i64 0, .int .i64 0, .int .i64 0, .int .i64 0, .int .i64 0, .int .i64 0, .int .i64 0, .int .i64 0, .int .i64 0, .int .i64 0, .int .i64 0, .int .i64 0, .int .i64 0, .int .i64 0, .int .i64 0, .int .i64 0, .int .i64 0, .int .i64 0, .int .i64 0, .int .i64 0, .int .i64 0, .int .i64 0, .int .i64 0, .int .i64 0, .int .i64 0] 30)) := (Keep.refl _ _).alloc _
        have hBwa : Blk (wm.alloc (.cells #[.int .i64 0, .int .i64 0, .int .i64 0, .int .i64 0, .int .i64 0, .int .i64 0, .int .i64 0, .int .i64 0, .int .i64 0, .int .i64 0, .int .i64 0, .int .i64 0, .int .i64 0, .int .i64 0, .int .i64 0, .int .i64 0, .int .i64 0, .int .i64 0, .int .i64 0, .int .i64 0, .int .i64 0, .int .i64 0, .int .i64 0, .int .i64 0, .int .i64 0, .int .i64 0, .int .i64 0, .int .i64 0, .int .i64 0, .int .i64 0, .int .i64 0, .int .i64 0] 30)) wm.heap.size #[.int .i64 0, .int .i64 0, .int .i64 0, .int .i64 0, .int .i64 0, .int .i64 0, .int .i64 0, .int .i64 0, .int .i64 0, .int .i64 0, .int .i64 0, .int .i64 0, .int .i64 0, .int .i64 0, .int .i64 0, .int .i64 0, .int .i64 0, .int .i64 0, .int .i64 0, .int .i64 0, .int .i64 0, .int .i64 0, .int .i64 0, .int .i64 0, .int .i64 0, .int .i64 0, .int .i64 0, .int .i64 0, .int .i64 0, .int .i64 0, .int .i64 0, .int .i64 0] 30 := Blk.new _ _ _
        have hzwa : (wm.alloc (.cells #[.int .i64 0, .int .i64 0, .int .i64 0, .int .i64 0, .int .i64 0, .int .i64 0, .int .i64 0, .int .i64 0, .int .i64 0, .int .i64 0, .int .i64 0, .int .i64 0, .int .i64 0, .int .i64 0, .int .i64 0, .int .i64 0, .int .i64 0, .int .i64 0, .int .i64 0, .int .i64 0, .int .i64 0, .int .i64 0, .int .i64 0, .int .i64 0, .int .i64 0, .int .i64 0, .int .i64 0, .int .i64 0, .int .i64 0, .int .i64 0, .int .i64 0, .int .i64 0] 30)).heap.size = wm.heap.size + 1 := World.size_alloc _ _
        generalize wm.alloc (.cells #[.int .i64 0, .int .i64 0, .int .i64 0, .int .i64 0, .int .i64 0, .int .i64 0, .int .i64 0, .int .i64 0, .int .i64 0, .int .i64 0, .int .i64 0, .int .i64 0, .int .i64 0, .int .i64 0, .int .i64 0, .int .i64 0, .int .i64 0, .int .i64 0, .int .i64 0, .int .i64 0, .int .i64 0, .int .i64 0, .int .i64 0, .int .i64 0, .int .i64 0, .int .i64 0, .int .i64 0, .int .i64 0, .int .i64 0, .int .i64 0, .int .i64 0, .int .i64 0] 30) = wa at *
        have bia := bim.keep hkwa fun h => h
        have hLa := hLm.no (fun k hk => Nat.lt_of_lt_of_le (hAw k hk) hkm.size) hkwa
        have hkA : Keep (fun j => j = mb) w wa := hkM.trans hkwa fun _ _ h => h.elim
        have hsz : n4 ≤ wm.heap.size := Nat.le_trans hwz hkm.size
        refine ⟨fun _ => ⟨bia.cell 0, bia.cell 1, bia.cell 2, bia.cell 3, bia.cell 4⟩, ?_⟩
        refine tr_eff (o := ⟨some 19, _, _, _, _, _⟩) rfl rfl (fun K hKe => ?_)
        go_wp2_with fail
        refine (step_s1 (HTM.out wa hkA) hLa (fun k hk => Nat.lt_of_lt_of_le (Nat.lt_of_lt_of_le (hAw k hk) hkm.size) hkwa.size) hkwa.size (Nat.lt_of_lt_of_le hmb4 hwz) (hSm.no (fun k hk => hk.2) hkwa)).mono ?_
        rintro e ws ⟨rfl, hL, hks⟩
        have bi := bia.keep hks hbm
        have hk := hkA.trans' hks
        have hBs := hBwa.keep hks fun e => by have e2 : wm.heap.size = mb := e; omega
        refine hKe _ _ ⟨fun _ => ⟨bi.cell 0, bi.cell 1, bi.cell 2, bi.cell 3, bi.cell 4⟩, ?_⟩
        apply tr_still (o := ⟨some 13, _, _, _, _, _⟩) rfl rfl
        · intro w' hS
          obtain ⟨q1, q2, q3, q4, q5⟩ := hS
          first | (go_simp; done) | (go_simp; rfl) | rfl
        go_frame
        apply tr_still (o := ⟨some 20, _, _, _, _, _⟩) rfl rfl
        · intro w' hS
          obtain ⟨q1, q2, q3, q4, q5⟩ := hS
          first | (go_simp; done) | (go_simp; rfl) | rfl
        go_frame
        apply tr_still (o := ⟨some 21, _, _, _, _, _⟩) rfl rfl
        · intro w' hS
          obtain ⟨q1, q2, q3, q4, q5⟩ := hS
          first | (go_simp; done) | (go_simp; rfl) | rfl
        go_frame
        refine tr_eff (o := ⟨none, _, _, _, _, _⟩) rfl rfl (fun K hKe => ?_)
        refine wo_stAgg (.tmp 3) (.tmp 20) 30 rfl _ _ rfl rfl ?_
        refine rg_stAgg hBs (by kernel_rfl) (by rfl) (by simp [Value.oneCell']) ?_
        intro wf hBf hkf hzf
        have bi_f := bi.keep hkf fun e => by have e2 : w2.heap.size = wm.heap.size := e; omega
        have hLf := hL.keep hkf (fun j hj e => by have e2 : j = wm.heap.size := e; have := hj.2; omega) (fun j hj => by have := hj.2; have := bi.lt; omega)
        have hkF : Keep (fun j => j = mb) w wf := hk.trans hkf fun j hj e => absurd hj (by have e2 : j = wm.heap.size := e; omega)
        refine hKe _ _ ⟨fun _ => ⟨bi_f.cell 0, bi_f.cell 1, bi_f.cell 2, bi_f.cell 3, bi_f.cell 4⟩, ?_⟩
        apply tr_still (o := ⟨some 4, _, _, _, _, _⟩) rfl rfl
        · intro w' hS
          obtain ⟨q1, q2, q3, q4, q5⟩ := hS
          first | (go_simp; done) | (go_simp; rfl) | rfl
        go_frame
        apply tr_nil
        have hgl : n4 ≤ wm.heap.size := hsz
        obtain ⟨gg, hgg⟩ : ∃ g, g = wm.heap.size := ⟨_, rfl⟩
        rw [← hgg] at hBf hgl
        try rw [← hgg]
        clear hgg hkf hzf bi hL hk hSm hKe
        revert hgl hkF hLf bi_f hBf
        revert gg dm wf
        exact HJ.out
    · have hwz : n4 ≤ w4.drew.heap.size := hw4
      go_wp2_with fail
      have hkwa : Keep No w4.drew (w4.alloc (.cells #[.int .i64 0, .int .i64 0, .int .i64 0, .int .i64 0, .int .i64 0, .int .i64 0, .int .i64 0, .int .i64 0, .int .i64 0, .int .i64 0, .int .i64 0, .int .i64 0, .int .i64 0, .int .i64 0, .int .i64 0, .int .i64 0, .int .i64 0, .int .i64 0, .int .i64 0, .int .i64 0, .int .i64 0, .int .i64 0, .int .i64 0, .int .i64 0, .int .i64 0, .int .i64 0, .int .i64 0, .int .i64 0, .int .i64 0, .int .i64 0, .int .i64 0, .int .i64 0] 30)).drew := ((Keep.refl No w4.drew).alloc _)
      have hBwa : Blk (w4.alloc (.cells #[.int .i64 0, .int .i64 0, .int .i64 0, .int .i64 0, .int .i64 0, .int .i64 0, .int .i64 0, .int .i64 0, .int .i64 0, .int .i64 0, .int .i64 0, .int .i64 0, .int .i64 0, .int .i64 0, .int .i64 0, .int .i64 0, .int .i64 0, .int .i64 0, .int .i64 0, .int .i64 0, .int .i64 0, .int .i64 0, .int .i64 0, .int .i64 0, .int .i64 0, .int .i64 0, .int .i64 0, .int .i64 0, .int .i64 0, .int .i64 0, .int .i64 0, .int .i64 0] 30)).drew w4.heap.size #[.int .i64 0, .int .i64 0, .int .i64 0, .int .i64 0, .int .i64 0, .int .i64 0, .int .i64 0, .int .i64 0, .int .i64 0, .int .i64 0, .int .i64 0, .int .i64 0, .int .i64 0, .int .i64 0, .int .i64 0, .int .i64 0, .int .i64 0, .int .i64 0, .int .i64 0, .int .i64 0, .int .i64 0, .int .i64 0, .int .i64 0, .int .i64 0, .int .i64 0, .int .i64 0, .int .i64 0, .int .i64 0, .int .i64 0, .int .i64 0, .int .i64 0, .int .i64 0] 30 := (Blk.new w4 _ _).keep (Keep.refl No _).drew fun h => h
      generalize (w4.alloc (.cells #[.int .i64 0, .int .i64 0, .int .i64 0, .int .i64 0, .int .i64 0, .int .i64 0, .int .i64 0, .int .i64 0, .int .i64 0, .int .i64 0, .int .i64 0, .int .i64 0, .int .i64 0, .int .i64 0, .int .i64 0, .int .i64 0, .int .i64 0, .int .i64 0, .int .i64 0, .int .i64 0, .int .i64 0, .int .i64 0, .int .i64 0, .int .i64 0, .int .i64 0, .int .i64 0, .int .i64 0, .int .i64 0, .int .i64 0, .int .i64 0, .int .i64 0, .int .i64 0] 30)).drew = wa at *
      have bia := bid.keep hkwa fun h => h
      have hLa := hLd.no hAw hkwa
      have hkA : Keep (fun j => j = mb) w wa := hkd.trans hkwa fun _ _ h => h.elim
      refine ⟨fun _ => ⟨bia.cell 0, bia.cell 1, bia.cell 2, bia.cell 3, bia.cell 4⟩, ?_⟩
      refine tr_eff (o := ⟨some 18, _, _, _, _, _⟩) rfl rfl (fun K hKe => ?_)
      go_wp2_with fail
      refine (memory18_any wa).mono ?_
      rintro e wm ⟨dm, mbm, fm, rfl, hSm, hkm⟩
      have bim := bia.keep hkm fun h => h
      have hLm := hLa.no (fun k hk => Nat.lt_of_lt_of_le (hAw k hk) hkwa.size) hkm
      have hkM : Keep (fun j => j = mb) w wm := hkA.trans hkm fun _ _ h => h.elim
      have hBm := hBwa.keep hkm fun h => h
      refine hKe _ _ ⟨fun _ => ⟨bim.cell 0, bim.cell 1, bim.cell 2, bim.cell 3, bim.cell 4⟩, ?_⟩
      refine tr_eff (o := ⟨some 19, _, _, _, _, _⟩) rfl rfl (fun K hKe => ?_)
      go_wp2_with fail
      refine (step_s1 (HTM.out wm hkM) hLm (fun k hk => Nat.lt_of_lt_of_le (Nat.lt_of_lt_of_le (hAw k hk) hkwa.size) hkm.size) (Nat.le_refl _) (Nat.lt_of_lt_of_le (Nat.lt_of_lt_of_le hmb4 hwz) hkwa.size) hSm).mono ?_
      rintro e ws ⟨rfl, hL, hks⟩
      have bi := bim.keep hks hbm
      have hk := hkM.trans' hks
      have hBs := hBm.keep hks fun e => by have e2 : w4.heap.size = mb := e; omega
      have hsz := hwz
      refine hKe _ _ ⟨fun _ => ⟨bi.cell 0, bi.cell 1, bi.cell 2, bi.cell 3, bi.cell 4⟩, ?_⟩
      apply tr_still (o := ⟨some 13, _, _, _, _, _⟩) rfl rfl
      · intro w' hS
        obtain ⟨q1, q2, q3, q4, q5⟩ := hS
        first | (go_simp; done) | (go_simp; rfl) | rfl
      go_frame
      apply tr_still (o := ⟨some 20, _, _, _, _, _⟩) rfl rfl
      · intro w' hS
        obtain ⟨q1, q2, q3, q4, q5⟩ := hS
        first | (go_simp; done) | (go_simp; rfl) | rfl
      go_frame
      apply tr_still (o := ⟨some 21, _, _, _, _, _⟩) rfl rfl
      · intro w' hS
        obtain ⟨q1, q2, q3, q4, q5⟩ := hS
        first | (go_simp; done) | (go_simp; rfl) | rfl
      go_frame
      refine tr_eff (o := ⟨none, _, _, _, _, _⟩) rfl rfl (fun K hKe => ?_)
      refine wo_stAgg (.tmp 3) (.tmp 20) 30 rfl _ _ rfl rfl ?_
      refine rg_stAgg hBs (by kernel_rfl) (by rfl) (by simp [Value.oneCell']) ?_
      intro wf hBf hkf hzf
      have bi_f := bi.keep hkf fun e => by have e2 : w2.heap.size = w4.heap.size := e; omega
      have hLf := hL.keep hkf (fun j hj e => by have e2 : j = w4.heap.size := e; have := hj.2; omega) (fun j hj => by have := hj.2; have := bi.lt; omega)
      have hkF : Keep (fun j => j = mb) w wf := hk.trans hkf fun j hj e => absurd hj (by have e2 : j = w4.heap.size := e; omega)
      refine hKe _ _ ⟨fun _ => ⟨bi_f.cell 0, bi_f.cell 1, bi_f.cell 2, bi_f.cell 3, bi_f.cell 4⟩, ?_⟩
      apply tr_still (o := ⟨some 4, _, _, _, _, _⟩) rfl rfl
      · intro w' hS
        obtain ⟨q1, q2, q3, q4, q5⟩ := hS
        first | (go_simp; done) | (go_simp; rfl) | rfl
      go_frame
      apply tr_nil
      have hgl : n4 ≤ w4.heap.size := hsz
      obtain ⟨gg, hgg⟩ : ∃ g, g = w4.heap.size := ⟨_, rfl⟩
      rw [← hgg] at hBf hgl
      try rw [← hgg]
      clear hgg hkf hzf bi hL hk hSm hKe
      revert hgl hkF hLf bi_f hBf
      revert gg dm wf
      exact HJ.out
  intro dm0 wx gx bi2 hL2 hk2 hgl hBf
  have hlg := hBf.lt
  have hAwf : ∀ k, (w1.heap.size ≤ k ∧ k < w2.heap.size) → k < wx.heap.size := fun k hk => by omega
  have htm2 := fun (W : World) (hk : Keep (fun j => j = mb) wx W) => HTM.out W (hk2.trans' hk)
  have HTM2 := Lib.hid htm2
  obtain ⟨n6, hn6⟩ : ∃ n, n = wx.heap.size := ⟨_, rfl⟩
  have hw6 : n6 ≤ wx.heap.size := Nat.le_of_eq hn6
  have hww6 : wx.heap.size ≤ n6 := Nat.le_of_eq hn6.symm
  have hmb6 : mb < n6 := by omega
  have hbf : ¬ gx = mb := fun e => by omega
  clear hk hL bi hAw htm hL4 hkw4 hB4 hk24
  have hk : Keep (fun j => j = mb) wx wx := Keep.refl _ _
  have hL := hL2
  have bi := bi2
  have hAw := hAwf
  go_wp2_with fail
  apply joinG
  · intro HJ
    have hkd := hk.drew
    have hLd := hL.no hAw (Keep.refl No wx).drew
    have bid := bi.keep (Keep.refl No wx).drew fun h => h
    refine wp_region_tree (fun w' => w'.cell? ⟨w2.heap.size, 0, none⟩ = some (.int .i64 3) ∧ w'.cell? ⟨w2.heap.size, 1, none⟩ = some (.int .i64 1) ∧ w'.cell? ⟨w2.heap.size, 2, none⟩ = some (.int .i64 2) ∧ w'.cell? ⟨w2.heap.size, 3, none⟩ = some (.int .i64 3) ∧ w'.cell? ⟨w2.heap.size, 4, none⟩ = some (.int .i32 0)) (fun j => decide (j ≤ 99)) (.st 0 (.st 1 (.st 2 (.st 3 (.br 4 9 (.br 5 9 (.st 6 (.st 7 (.st 8 (.ef 9 (.ef 10 (.st 11 .nil)))))) (.ef 5 (.st 6 (.st 7 (.st 8 (.ef 10 (.st 11 .nil))))))) (.ef 4 (.ef 5 (.st 6 (.st 7 (.st 8 (.ef 10 (.st 11 .nil)))))))))))) (by kernel_rfl) (by kernel_rfl) (by intro c a d v w h; cases d <;> exact h) ⟨bid.cell 0, bid.cell 1, bid.cell 2, bid.cell 3, bid.cell 4⟩ ?_
    apply tr_still (o := ⟨some 23, _, _, _, _, _⟩) rfl rfl
    · intro w' hS
      obtain ⟨q1, q2, q3, q4, q5⟩ := hS
      first | (go_simp; done) | (go_simp; rfl) | rfl
    go_frame
    apply tr_still (o := ⟨some 24, _, _, _, _, _⟩) rfl rfl
    · intro w' hS
      obtain ⟨q1, q2, q3, q4, q5⟩ := hS
      first | (go_simp; done) | (go_simp; rfl) | rfl
    go_frame
    apply tr_still (o := ⟨some 25, _, _, _, _, _⟩) rfl rfl
    · intro w' hS
      obtain ⟨q1, q2, q3, q4, q5⟩ := hS
      first | (go_simp; done) | (go_simp; rfl) | rfl
    go_frame
    apply tr_still (o := ⟨some 26, _, _, _, _, _⟩) rfl rfl
    · intro w' hS
      obtain ⟨q1, q2, q3, q4, q5⟩ := hS
      first | (go_simp; done) | (go_simp; rfl) | rfl
    go_frame
    refine tr_br (o := ⟨some 27, _, _, _, _, _⟩) (o' := ⟨some 5, _, _, _, _, _⟩) rfl rfl rfl rfl (fun K hKe => ?_) (fun K hKe => ?_)
    · go_wp2_with fail
      refine (memory18_any wx.drew).mono ?_
      rintro e wm ⟨dm, mbm, fm, rfl, hSm, hkm⟩
      have bim := bid.keep hkm fun h => h
      have hLm := hLd.no hAw hkm
      have hkM : Keep (fun j => j = mb) wx wm := hkd.trans hkm fun _ _ h => h.elim
      have hwz : n6 ≤ wx.drew.heap.size := hw6
      refine hKe _ _ ⟨fun _ => ⟨bim.cell 0, bim.cell 1, bim.cell 2, bim.cell 3, bim.cell 4⟩, ?_⟩
      refine tr_br (o := ⟨some 28, _, _, _, _, _⟩) (o' := ⟨some 5, _, _, _, _, _⟩) rfl rfl rfl rfl (fun K hKe => ?_) (fun K hKe => ?_)
      · go_wp2_with fail
        refine (step_s2 (HTM2.out wm hkM) hLm (fun k hk => Nat.lt_of_lt_of_le (hAw k hk) hkm.size) (Nat.le_refl _) (Nat.lt_of_lt_of_le hmb6 hwz) hSm).mono ?_
        rintro e ws ⟨rfl, hLs, hks⟩
        have bis := bim.keep hks hbm
        have hkS := hkM.trans' hks
        refine hKe _ _ ⟨fun _ => ⟨bis.cell 0, bis.cell 1, bis.cell 2, bis.cell 3, bis.cell 4⟩, ?_⟩
        apply tr_still (o := ⟨some 22, _, _, _, _, _⟩) rfl rfl
        · intro w' hS
          obtain ⟨q1, q2, q3, q4, q5⟩ := hS
          first | (go_simp; done) | (go_simp; rfl) | rfl
        go_frame
        apply tr_still (o := ⟨some 29, _, _, _, _, _⟩) rfl rfl
        · intro w' hS
          obtain ⟨q1, q2, q3, q4, q5⟩ := hS
          first | (go_simp; done) | (go_simp; rfl) | rfl
        go_frame
        apply tr_still (o := ⟨some 30, _, _, _, _, _⟩) rfl rfl
        · intro w' hS
          obtain ⟨q1, q2, q3, q4, q5⟩ := hS
          first | (go_simp; done) | (go_simp; rfl) | rfl
        go_frame
        refine tr_eff (o := ⟨some 5, _, _, _, _, _⟩) rfl rfl (fun K hKe => ?_)
        go_wp2_with fail
        have hkwa : Keep No ws (ws.alloc (.cells #[.int .i64 0, .int .i64 0, .int .i64 0, .int .i64 0, .int .i64 0, .int .i64 0, .int .i64 0, .int .i64 0, .int .i64 0, .int .i64 0, .int .i64 0, .int .i64 0, .int .i64 0, .int .i64 0, .int .i64 0, .int .i64 0, .int .i64 0, .int .i64 0, .int .i64 0, .int .i64 0, .int .i64 0, .int .i64 0, .int .i64 0, .int .i64 0, .int .i64 0, .int .i64 0, .int .i64 0, .int .i64 0, .int .i64 0, .int .i64 0, .int .i64 0, .int .i64 0] 30)) := (Keep.refl _ _).alloc _
        have hBwa : Blk (ws.alloc (.cells #[.int .i64 0, .int .i64 0, .int .i64 0, .int .i64 0, .int .i64 0, .int .i64 0, .int .i64 0, .int .i64 0, .int .i64 0, .int .i64 0, .int .i64 0, .int .i64 0, .int .i64 0, .int .i64 0, .int .i64 0, .int .i64 0, .int .i64 0, .int .i64 0, .int .i64 0, .int .i64 0, .int .i64 0, .int .i64 0, .int .i64 0, .int .i64 0, .int .i64 0, .int .i64 0, .int .i64 0, .int .i64 0, .int .i64 0, .int .i64 0, .int .i64 0, .int .i64 0] 30)) ws.heap.size #[.int .i64 0, .int .i64 0, .int .i64 0, .int .i64 0, .int .i64 0, .int .i64 0, .int .i64 0, .int .i64 0, .int .i64 0, .int .i64 0, .int .i64 0, .int .i64 0, .int .i64 0, .int .i64 0, .int .i64 0, .int .i64 0, .int .i64 0, .int .i64 0, .int .i64 0, .int .i64 0, .int .i64 0, .int .i64 0, .int .i64 0, .int .i64 0, .int .i64 0, .int .i64 0, .int .i64 0, .int .i64 0, .int .i64 0, .int .i64 0, .int .i64 0, .int .i64 0] 30 := Blk.new _ _ _
        have hzwa : (ws.alloc (.cells #[.int .i64 0, .int .i64 0, .int .i64 0, .int .i64 0, .int .i64 0, .int .i64 0, .int .i64 0, .int .i64 0, .int .i64 0, .int .i64 0, .int .i64 0, .int .i64 0, .int .i64 0, .int .i64 0, .int .i64 0, .int .i64 0, .int .i64 0, .int .i64 0, .int .i64 0, .int .i64 0, .int .i64 0, .int .i64 0, .int .i64 0, .int .i64 0, .int .i64 0, .int .i64 0, .int .i64 0, .int .i64 0, .int .i64 0, .int .i64 0, .int .i64 0, .int .i64 0] 30)).heap.size = ws.heap.size + 1 := World.size_alloc _ _
        generalize ws.alloc (.cells #[.int .i64 0, .int .i64 0, .int .i64 0, .int .i64 0, .int .i64 0, .int .i64 0, .int .i64 0, .int .i64 0, .int .i64 0, .int .i64 0, .int .i64 0, .int .i64 0, .int .i64 0, .int .i64 0, .int .i64 0, .int .i64 0, .int .i64 0, .int .i64 0, .int .i64 0, .int .i64 0, .int .i64 0, .int .i64 0, .int .i64 0, .int .i64 0, .int .i64 0, .int .i64 0, .int .i64 0, .int .i64 0, .int .i64 0, .int .i64 0, .int .i64 0, .int .i64 0] 30) = wa at *
        have bi := bis.keep hkwa fun h => h
        have hL := hLs.no (fun k hk => Nat.lt_of_lt_of_le (Nat.lt_of_lt_of_le (hAw k hk) hkm.size) hks.size) hkwa
        have hk : Keep (fun j => j = mb) wx wa := hkS.trans hkwa fun _ _ h => h.elim
        have hsz : n6 ≤ ws.heap.size := Nat.le_trans hwz (Nat.le_trans hkm.size hks.size)
        refine ⟨fun _ => ⟨bi.cell 0, bi.cell 1, bi.cell 2, bi.cell 3, bi.cell 4⟩, ?_⟩
        refine tr_eff (o := ⟨none, _, _, _, _, _⟩) rfl rfl (fun K hKe => ?_)
        refine wo_stAgg (.tmp 5) (.tmp 29) 30 rfl _ _ rfl rfl ?_
        refine rg_stAgg hBwa (by kernel_rfl) (by rfl) (by simp [Value.oneCell']) ?_
        intro wf hBf hkf hzf
        have bi_f := bi.keep hkf fun e => by have e2 : w2.heap.size = ws.heap.size := e; omega
        have hLf := hL.keep hkf (fun j hj e => by have e2 : j = ws.heap.size := e; have := hj.2; omega) (fun j hj => by have := hj.2; have := bi.lt; omega)
        have hkF : Keep (fun j => j = mb) wx wf := hk.trans hkf fun j hj e => absurd hj (by have e2 : j = ws.heap.size := e; omega)
        refine hKe _ _ ⟨fun _ => ⟨bi_f.cell 0, bi_f.cell 1, bi_f.cell 2, bi_f.cell 3, bi_f.cell 4⟩, ?_⟩
        apply tr_still (o := ⟨some 6, _, _, _, _, _⟩) rfl rfl
        · intro w' hS
          obtain ⟨q1, q2, q3, q4, q5⟩ := hS
          first | (go_simp; done) | (go_simp; rfl) | rfl
        go_frame
        apply tr_nil
        have hgl : n6 ≤ ws.heap.size := hsz
        obtain ⟨gg, hgg⟩ : ∃ g, g = ws.heap.size := ⟨_, rfl⟩
        rw [← hgg] at hBf hgl
        try rw [← hgg]
        clear hgg hkf hzf bi hL hk hSm hKe
        revert hgl hkF hLf bi_f hBf
        revert gg dm wf
        exact HJ.out
      · skip
        go_wp2_with fail
        have hkwa : Keep No wm (wm.alloc (.cells #[.int .i64 0, .int .i64 0, .int .i64 0, .int .i64 0, .int .i64 0, .int .i64 0, .int .i64 0, .int .i64 0, .int .i64 0, .int .i64 0, .int .i64 0, .int .i64 0, .int .i64 0, .int .i64 0, .int .i64 0, .int .i64 0, .int .i64 0, .int .i64 0, .int .i64 0, .int .i64 0, .int .i64 0, .int .i64 0, .int .i64 0, .int .i64 0, .int .i64 0, .int .i64 0, .int .i64 0, .int .i64 0, .int .i64 0, .int .i64 0, .int .i64 0, .int .i64 0] 30)) := (Keep.refl _ _).alloc _
        have hBwa : Blk (wm.alloc (.cells #[.int .i64 0, .int .i64 0, .int .i64 0, .int .i64 0, .int .i64 0, .int .i64 0, .int .i64 0, .int .i64 0, .int .i64 0, .int .i64 0, .int .i64 0, .int .i64 0, .int .i64 0, .int .i64 0, .int .i64 0, .int .i64 0, .int .i64 0, .int .i64 0, .int .i64 0, .int .i64 0, .int .i64 0, .int .i64 0, .int .i64 0, .int .i64 0, .int .i64 0, .int .i64 0, .int .i64 0, .int .i64 0, .int .i64 0, .int .i64 0, .int .i64 0, .int .i64 0] 30)) wm.heap.size #[.int .i64 0, .int .i64 0, .int .i64 0, .int .i64 0, .int .i64 0, .int .i64 0, .int .i64 0, .int .i64 0, .int .i64 0, .int .i64 0, .int .i64 0, .int .i64 0, .int .i64 0, .int .i64 0, .int .i64 0, .int .i64 0, .int .i64 0, .int .i64 0, .int .i64 0, .int .i64 0, .int .i64 0, .int .i64 0, .int .i64 0, .int .i64 0, .int .i64 0, .int .i64 0, .int .i64 0, .int .i64 0, .int .i64 0, .int .i64 0, .int .i64 0, .int .i64 0] 30 := Blk.new _ _ _
        have hzwa : (wm.alloc (.cells #[.int .i64 0, .int .i64 0, .int .i64 0, .int .i64 0, .int .i64 0, .int .i64 0, .int .i64 0, .int .i64 0, .int .i64 0, .int .i64 0, .int .i64 0, .int .i64 0, .int .i64 0, .int .i64 0, .int .i64 0, .int .i64 0, .int .i64 0, .int .i64 0, .int .i64 0, .int .i64 0, .int .i64 0, .int .i64 0, .int .i64 0, .int .i64 0, .int .i64 0, .int .i64 0, .int .i64 0, .int .i64 0, .int .i64 0, .int .i64 0, .int .i64 0, .int .i64 0] 30)).heap.size = wm.heap.size + 1 := World.size_alloc _ _
        generalize wm.alloc (.cells #[.int .i64 0, .int .i64 0, .int .i64 0, .int .i64 0, .int .i64 0, .int .i64 0, .int .i64 0, .int .i64 0, .int .i64 0, .int .i64 0, .int .i64 0, .int .i64 0, .int .i64 0, .int .i64 0, .int .i64 0, .int .i64 0, .int .i64 0, .int .i64 0, .int .i64 0, .int .i64 0, .int .i64 0, .int .i64 0, .int .i64 0, .int .i64 0, .int .i64 0, .int .i64 0, .int .i64 0, .int .i64 0, .int .i64 0, .int .i64 0, .int .i64 0, .int .i64 0] 30) = wa at *
        have bia := bim.keep hkwa fun h => h
        have hLa := hLm.no (fun k hk => Nat.lt_of_lt_of_le (hAw k hk) hkm.size) hkwa
        have hkA : Keep (fun j => j = mb) wx wa := hkM.trans hkwa fun _ _ h => h.elim
        have hsz : n6 ≤ wm.heap.size := Nat.le_trans hwz hkm.size
        refine ⟨fun _ => ⟨bia.cell 0, bia.cell 1, bia.cell 2, bia.cell 3, bia.cell 4⟩, ?_⟩
        refine tr_eff (o := ⟨some 28, _, _, _, _, _⟩) rfl rfl (fun K hKe => ?_)
        go_wp2_with fail
        refine (step_s2 (HTM2.out wa hkA) hLa (fun k hk => Nat.lt_of_lt_of_le (Nat.lt_of_lt_of_le (hAw k hk) hkm.size) hkwa.size) hkwa.size (Nat.lt_of_lt_of_le hmb6 hwz) (hSm.no (fun k hk => hk.2) hkwa)).mono ?_
        rintro e ws ⟨rfl, hL, hks⟩
        have bi := bia.keep hks hbm
        have hk := hkA.trans' hks
        have hBs := hBwa.keep hks fun e => by have e2 : wm.heap.size = mb := e; omega
        refine hKe _ _ ⟨fun _ => ⟨bi.cell 0, bi.cell 1, bi.cell 2, bi.cell 3, bi.cell 4⟩, ?_⟩
        apply tr_still (o := ⟨some 22, _, _, _, _, _⟩) rfl rfl
        · intro w' hS
          obtain ⟨q1, q2, q3, q4, q5⟩ := hS
          first | (go_simp; done) | (go_simp; rfl) | rfl
        go_frame
        apply tr_still (o := ⟨some 29, _, _, _, _, _⟩) rfl rfl
        · intro w' hS
          obtain ⟨q1, q2, q3, q4, q5⟩ := hS
          first | (go_simp; done) | (go_simp; rfl) | rfl
        go_frame
        apply tr_still (o := ⟨some 30, _, _, _, _, _⟩) rfl rfl
        · intro w' hS
          obtain ⟨q1, q2, q3, q4, q5⟩ := hS
          first | (go_simp; done) | (go_simp; rfl) | rfl
        go_frame
        refine tr_eff (o := ⟨none, _, _, _, _, _⟩) rfl rfl (fun K hKe => ?_)
        refine wo_stAgg (.tmp 5) (.tmp 29) 30 rfl _ _ rfl rfl ?_
        refine rg_stAgg hBs (by kernel_rfl) (by rfl) (by simp [Value.oneCell']) ?_
        intro wf hBf hkf hzf
        have bi_f := bi.keep hkf fun e => by have e2 : w2.heap.size = wm.heap.size := e; omega
        have hLf := hL.keep hkf (fun j hj e => by have e2 : j = wm.heap.size := e; have := hj.2; omega) (fun j hj => by have := hj.2; have := bi.lt; omega)
        have hkF : Keep (fun j => j = mb) wx wf := hk.trans hkf fun j hj e => absurd hj (by have e2 : j = wm.heap.size := e; omega)
        refine hKe _ _ ⟨fun _ => ⟨bi_f.cell 0, bi_f.cell 1, bi_f.cell 2, bi_f.cell 3, bi_f.cell 4⟩, ?_⟩
        apply tr_still (o := ⟨some 6, _, _, _, _, _⟩) rfl rfl
        · intro w' hS
          obtain ⟨q1, q2, q3, q4, q5⟩ := hS
          first | (go_simp; done) | (go_simp; rfl) | rfl
        go_frame
        apply tr_nil
        have hgl : n6 ≤ wm.heap.size := hsz
        obtain ⟨gg, hgg⟩ : ∃ g, g = wm.heap.size := ⟨_, rfl⟩
        rw [← hgg] at hBf hgl
        try rw [← hgg]
        clear hgg hkf hzf bi hL hk hSm hKe
        revert hgl hkF hLf bi_f hBf
        revert gg dm wf
        exact HJ.out
    · have hwz : n6 ≤ wx.drew.heap.size := hw6
      go_wp2_with fail
      have hkwa : Keep No wx.drew (wx.alloc (.cells #[.int .i64 0, .int .i64 0, .int .i64 0, .int .i64 0, .int .i64 0, .int .i64 0, .int .i64 0, .int .i64 0, .int .i64 0, .int .i64 0, .int .i64 0, .int .i64 0, .int .i64 0, .int .i64 0, .int .i64 0, .int .i64 0, .int .i64 0, .int .i64 0, .int .i64 0, .int .i64 0, .int .i64 0, .int .i64 0, .int .i64 0, .int .i64 0, .int .i64 0, .int .i64 0, .int .i64 0, .int .i64 0, .int .i64 0, .int .i64 0, .int .i64 0, .int .i64 0] 30)).drew := ((Keep.refl No wx.drew).alloc _)
      have hBwa : Blk (wx.alloc (.cells #[.int .i64 0, .int .i64 0, .int .i64 0, .int .i64 0, .int .i64 0, .int .i64 0, .int .i64 0, .int .i64 0, .int .i64 0, .int .i64 0, .int .i64 0, .int .i64 0, .int .i64 0, .int .i64 0, .int .i64 0, .int .i64 0, .int .i64 0, .int .i64 0, .int .i64 0, .int .i64 0, .int .i64 0, .int .i64 0, .int .i64 0, .int .i64 0, .int .i64 0, .int .i64 0, .int .i64 0, .int .i64 0, .int .i64 0, .int .i64 0, .int .i64 0, .int .i64 0] 30)).drew wx.heap.size #[.int .i64 0, .int .i64 0, .int .i64 0, .int .i64 0, .int .i64 0, .int .i64 0, .int .i64 0, .int .i64 0, .int .i64 0, .int .i64 0, .int .i64 0, .int .i64 0, .int .i64 0, .int .i64 0, .int .i64 0, .int .i64 0, .int .i64 0, .int .i64 0, .int .i64 0, .int .i64 0, .int .i64 0, .int .i64 0, .int .i64 0, .int .i64 0, .int .i64 0, .int .i64 0, .int .i64 0, .int .i64 0, .int .i64 0, .int .i64 0, .int .i64 0, .int .i64 0] 30 := (Blk.new wx _ _).keep (Keep.refl No _).drew fun h => h
      generalize (wx.alloc (.cells #[.int .i64 0, .int .i64 0, .int .i64 0, .int .i64 0, .int .i64 0, .int .i64 0, .int .i64 0, .int .i64 0, .int .i64 0, .int .i64 0, .int .i64 0, .int .i64 0, .int .i64 0, .int .i64 0, .int .i64 0, .int .i64 0, .int .i64 0, .int .i64 0, .int .i64 0, .int .i64 0, .int .i64 0, .int .i64 0, .int .i64 0, .int .i64 0, .int .i64 0, .int .i64 0, .int .i64 0, .int .i64 0, .int .i64 0, .int .i64 0, .int .i64 0, .int .i64 0] 30)).drew = wa at *
      have bia := bid.keep hkwa fun h => h
      have hLa := hLd.no hAw hkwa
      have hkA : Keep (fun j => j = mb) wx wa := hkd.trans hkwa fun _ _ h => h.elim
      refine ⟨fun _ => ⟨bia.cell 0, bia.cell 1, bia.cell 2, bia.cell 3, bia.cell 4⟩, ?_⟩
      refine tr_eff (o := ⟨some 27, _, _, _, _, _⟩) rfl rfl (fun K hKe => ?_)
      go_wp2_with fail
      refine (memory18_any wa).mono ?_
      rintro e wm ⟨dm, mbm, fm, rfl, hSm, hkm⟩
      have bim := bia.keep hkm fun h => h
      have hLm := hLa.no (fun k hk => Nat.lt_of_lt_of_le (hAw k hk) hkwa.size) hkm
      have hkM : Keep (fun j => j = mb) wx wm := hkA.trans hkm fun _ _ h => h.elim
      have hBm := hBwa.keep hkm fun h => h
      refine hKe _ _ ⟨fun _ => ⟨bim.cell 0, bim.cell 1, bim.cell 2, bim.cell 3, bim.cell 4⟩, ?_⟩
      refine tr_eff (o := ⟨some 28, _, _, _, _, _⟩) rfl rfl (fun K hKe => ?_)
      go_wp2_with fail
      refine (step_s2 (HTM2.out wm hkM) hLm (fun k hk => Nat.lt_of_lt_of_le (Nat.lt_of_lt_of_le (hAw k hk) hkwa.size) hkm.size) (Nat.le_refl _) (Nat.lt_of_lt_of_le (Nat.lt_of_lt_of_le hmb6 hwz) hkwa.size) hSm).mono ?_
      rintro e ws ⟨rfl, hL, hks⟩
      have bi := bim.keep hks hbm
      have hk := hkM.trans' hks
      have hBs := hBm.keep hks fun e => by have e2 : wx.heap.size = mb := e; omega
      have hsz := hwz
      refine hKe _ _ ⟨fun _ => ⟨bi.cell 0, bi.cell 1, bi.cell 2, bi.cell 3, bi.cell 4⟩, ?_⟩
      apply tr_still (o := ⟨some 22, _, _, _, _, _⟩) rfl rfl
      · intro w' hS
        obtain ⟨q1, q2, q3, q4, q5⟩ := hS
        first | (go_simp; done) | (go_simp; rfl) | rfl
      go_frame
      apply tr_still (o := ⟨some 29, _, _, _, _, _⟩) rfl rfl
      · intro w' hS
        obtain ⟨q1, q2, q3, q4, q5⟩ := hS
        first | (go_simp; done) | (go_simp; rfl) | rfl
      go_frame
      apply tr_still (o := ⟨some 30, _, _, _, _, _⟩) rfl rfl
      · intro w' hS
        obtain ⟨q1, q2, q3, q4, q5⟩ := hS
        first | (go_simp; done) | (go_simp; rfl) | rfl
      go_frame
      refine tr_eff (o := ⟨none, _, _, _, _, _⟩) rfl rfl (fun K hKe => ?_)
      refine wo_stAgg (.tmp 5) (.tmp 29) 30 rfl _ _ rfl rfl ?_
      refine rg_stAgg hBs (by kernel_rfl) (by rfl) (by simp [Value.oneCell']) ?_
      intro wf hBf hkf hzf
      have bi_f := bi.keep hkf fun e => by have e2 : w2.heap.size = wx.heap.size := e; omega
      have hLf := hL.keep hkf (fun j hj e => by have e2 : j = wx.heap.size := e; have := hj.2; omega) (fun j hj => by have := hj.2; have := bi.lt; omega)
      have hkF : Keep (fun j => j = mb) wx wf := hk.trans hkf fun j hj e => absurd hj (by have e2 : j = wx.heap.size := e; omega)
      refine hKe _ _ ⟨fun _ => ⟨bi_f.cell 0, bi_f.cell 1, bi_f.cell 2, bi_f.cell 3, bi_f.cell 4⟩, ?_⟩
      apply tr_still (o := ⟨some 6, _, _, _, _, _⟩) rfl rfl
      · intro w' hS
        obtain ⟨q1, q2, q3, q4, q5⟩ := hS
        first | (go_simp; done) | (go_simp; rfl) | rfl
      go_frame
      apply tr_nil
      have hgl : n6 ≤ wx.heap.size := hsz
      obtain ⟨gg, hgg⟩ : ∃ g, g = wx.heap.size := ⟨_, rfl⟩
      rw [← hgg] at hBf hgl
      try rw [← hgg]
      clear hgg hkf hzf bi hL hk hSm hKe
      revert hgl hkF hLf bi_f hBf
      revert gg dm wf
      exact HJ.out
  intro dm2 wg g2 bi3 hL3 hk3 hgl2 hBg
  have hBf3 := hBf.keep hk3 hbf
  have hAg : ∀ k, (w1.heap.size ≤ k ∧ k < w2.heap.size) → k < wg.heap.size := fun k hk => Nat.lt_of_lt_of_le (hAwf k hk) hk3.size
  have hkg := hk2.trans' hk3
  clear hk2 hk3 hL2 bi2 hk hL bi hAw hBf hBg bi3 HTM HTM2 htm2 hAwf
  have hmk := tmark_any (w := wg) 4096 2 (by decide) hL3 hAg
  rw [aw_mk.1, aw_mk.2] at hmk
  unfold ptrTo at hmk
  go_wp2_with fail
  refine hmk.mono ?_
  rintro e wk ⟨rfl, hLk, hkk⟩
  clear hmk
  have hkW := hkg.trans' hkk
  have hAk : ∀ k, (w1.heap.size ≤ k ∧ k < w2.heap.size) → k < wk.heap.size := fun k hk => Nat.lt_of_lt_of_le (hAg k hk) hkk.size
  have q1 : wk.cell? ⟨gx, 1, none⟩ = some (.int .i64 1) := (hBf3.keep hkk hbf).cell 1
  have ht1 := ttag_any (w := wk) 4103 (by decide) hLk
  rw [aw_tag] at ht1
  unfold ptrTo at ht1
  clear hL3 hkg hkk hBf3
  go_wp2_with fail
  refine ht1.mono ?_
  rintro e wl ⟨rfl, rfl⟩
  clear ht1
  have hmd := tmarked_any (w := wk) hLk (by decide)
  unfold ptrTo at hmd
  go_wp2_with fail
  refine hmd.mono ?_
  rintro e wm ⟨vm, rfl, hom, hkm⟩
  clear hmd
  obtain ⟨a2, c2, rfl⟩ := own_shape hom
  rw [show awL2.w.length = 1 from rfl] at *
  have hLm := hLk.no hAk hkm
  have hAm : ∀ k, (w1.heap.size ≤ k ∧ k < w2.heap.size) → k < wm.heap.size := fun k hk => Nat.lt_of_lt_of_le (hAk k hk) hkm.size
  replace hkW := hkW.trans hkm fun _ _ h => h.elim
  have hp1 := tplain_any (w := wm) 4100 8 (by decide) (by decide) hLm
  have hp2 := tplain_any (w := wm) 4104 8 (by decide) (by decide) hLm
  rw [aw_pl1] at hp1
  rw [aw_pl2] at hp2
  unfold ptrTo at hp1 hp2
  clear hom hLk hAk hkm
  go_wp2_with fail
  refine hp1.mono ?_
  rintro e wl ⟨rfl, rfl⟩
  go_wp2_with fail
  refine hp2.mono ?_
  rintro e wl ⟨rfl, rfl⟩
  clear hp1 hp2
  go_wp2_with fail
  refine (memory18_any wm).mono ?_
  rintro e wn ⟨dn, mbn, fn, rfl, hSn, hkn⟩
  have hLn := hLm.no hAm hkn
  have hAn : ∀ k, (w1.heap.size ≤ k ∧ k < w2.heap.size) → k < wn.heap.size := fun k hk => Nat.lt_of_lt_of_le (hAm k hk) hkn.size
  replace hkW := hkW.trans hkn fun _ _ h => h.elim
  have hs1 := tspan_any (w := wn) 4096 8 0 (by decide) (by decide) (u := ptrTo dn) (mo := some mem18) ⟨dn, mbn, fn, rfl, hSn⟩ (fun k hk => hk.2) hLn hAn
  rw [aw_sp1] at hs1
  unfold ptrTo at hs1 ⊢
  go_wp2_with fail
  refine hs1.mono ?_
  rintro e wo ⟨rfl, hko⟩
  clear hs1 hSn hLm hAm
  have hLo := hLn.no hAn hko
  have hAo : ∀ k, (w1.heap.size ≤ k ∧ k < w2.heap.size) → k < wo.heap.size := fun k hk => Nat.lt_of_lt_of_le (hAn k hk) hko.size
  replace hkW := hkW.trans hko fun _ _ h => h.elim
  go_wp2_with fail
  refine (memory18_any wo).mono ?_
  rintro e wp ⟨dp, mbp, fp, rfl, hSp, hkp⟩
  have hLp := hLo.no hAo hkp
  have hAp : ∀ k, (w1.heap.size ≤ k ∧ k < w2.heap.size) → k < wp.heap.size := fun k hk => Nat.lt_of_lt_of_le (hAo k hk) hkp.size
  replace hkW := hkW.trans hkp fun _ _ h => h.elim
  have hs2 := tspan_any (w := wp) 1024 8 0 (by decide) (by decide) (u := ptrTo dp) (mo := some mem18) ⟨dp, mbp, fp, rfl, hSp⟩ (fun k hk => hk.2) hLp hAp
  rw [aw_sp2] at hs2
  unfold ptrTo at hs2 ⊢
  go_wp2_with fail
  refine hs2.mono ?_
  rintro e wq ⟨rfl, hkq⟩
  clear hs2 hSp hLo hAo hLn hAn
  have hLq := hLp.no hAp hkq
  have hAq : ∀ k, (w1.heap.size ≤ k ∧ k < w2.heap.size) → k < wq.heap.size := fun k hk => Nat.lt_of_lt_of_le (hAp k hk) hkq.size
  replace hkW := hkW.trans hkq fun _ _ h => h.elim
  have hcp := tcopy_any (w := wq) hLq hAq
  unfold ptrTo at hcp
  go_wp2_with fail
  refine hcp.mono ?_
  rintro e wr ⟨dr, vr, mbr, rfl, hLr, hkr⟩
  clear hcp
  replace hkW := hkW.trans hkr fun _ _ h => h.elim
  have hmd := tmarked_any (w := wr) hLr (by decide)
  unfold ptrTo at hmd
  go_wp2_with fail
  refine hmd.mono ?_
  rintro e ws ⟨vs, rfl, hos, hks⟩
  clear hmd
  obtain ⟨a3, c3, rfl⟩ := own_shape hos
  rw [show awL2.w.length = 1 from rfl] at *
  replace hkW := hkW.trans hks fun _ _ h => h.elim
  go_wp2_with fail
  go_ret
  exact ⟨rfl, hkW.mono fun k hk e => absurd hk (by have e2 : k = mb := e; omega)⟩
end
end Go.Proofs.YthfekjnekaecaaaDoor
