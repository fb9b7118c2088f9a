/- like, of the files' law: a disk and its model tell the same. No condition. -/
import Derived.Test.YtkmoomgmmhmaeaaGreatLawAwake
import Derived.Test.YtkmoomgmmhmaeaaGreatLawRoomM
namespace Go.Proofs.YtkmoomgmmhmaeaaGreat
open Go.RowKit Go.Dm Go.Dm.Dk

def NmOk' (m : M) : Prop := ∀ p ∈ m.L, p.1.length ≤ 64
set_option maxRecDepth 100000 in
set_option maxHeartbeats 8000000 in
theorem like11_any {P A : Nat → Prop} {w : World} {d : Nat} {m : M} {v1 v2 v3 v4 v5 : Value} {n N n2 : Nat} (hO : Own P w d m) (hD : DV A w v1 v2 v3 v4 v5 m) (hs : Small m n N) (hf : Files m n2) (hn : n ≤ 100000) (hN : N ≤ 1000000) (hnm : NmOk' m) :
    Calls Tryz.prog 22 #[ptrTo d, dv m v1 v2 v3 v4 v5] w fun e w' => e = .returned (.bool true) ∧ Keep No w w' := by
  have hap := DR.apart hO
  have hLl := hs.L
  have hNl : (namesOf m).length ≤ 100000 := by
    have : (namesOf m).Perm (m.L.map (·.1)) := List.mergeSort_perm _ _
    rw [this.length_eq, List.length_map]; omega
  have hNo : ∀ s ∈ namesOf m, s.length ≤ 64 := by
    intro s hs
    have h1 : (namesOf m).Perm (m.L.map (·.1)) := List.mergeSort_perm _ _
    obtain ⟨p, hp, rfl⟩ := List.mem_map.1 (h1.mem_iff.1 hs)
    exact hnm p hp
  obtain ⟨a1, d1, a2, d2, a3, d3, a4, d4, a5, d5, rfl, rfl, rfl, rfl, rfl⟩ := hD.shape
  have hkW : Keep No w (w.alloc (.cells #[.int .i64 m.room, .slice a1 m.is.length d1, .slice a2 m.sure.length d2, .slice a3 m.L.length d3, .slice a4 m.S.length d4, .slice a5 m.wait.length d5, .bool m.off, .int .i64 m.cut] 30)) := (Keep.refl _ _).alloc _
  have hBW : Blk (w.alloc (.cells #[.int .i64 m.room, .slice a1 m.is.length d1, .slice a2 m.sure.length d2, .slice a3 m.L.length d3, .slice a4 m.S.length d4, .slice a5 m.wait.length d5, .bool m.off, .int .i64 m.cut] 30)) w.heap.size #[.int .i64 m.room, .slice a1 m.is.length d1, .slice a2 m.sure.length d2, .slice a3 m.L.length d3, .slice a4 m.S.length d4, .slice a5 m.wait.length d5, .bool m.off, .int .i64 m.cut] 30 := Blk.new _ _ _
  unfold dv ptrTo
  go_enter Tryz.func22, Tryz.ntmps22
  go_wp2_with (first | (at_builtin; refine wl_append rfl _ _ _ _ rfl _ _ rfl rfl ?_) | (at_make; refine wl_make rfl _ _ _ rfl _ _ rfl rfl ?_) | (at_mapUpdate; refine wl_mapUpdate rfl _ _ _ _ rfl _ _ _ rfl rfl rfl ?_) | (at_lookup; refine wl_lookup rfl _ _ _ _ rfl _ _ rfl rfl ?_) | (at_delete; refine wl_delete rfl _ _ _ _ rfl _ _ rfl rfl ?_) | (with_reducible refine wl_len rfl _ _ rfl _ rfl ?_) | (with_reducible refine wl_range rfl _ _ rfl _ rfl ?_) | (with_reducible refine wl_next rfl _ rfl _ rfl ?_) | (with_reducible refine wl_copy rfl _ _ _ _ rfl _ _ rfl rfl ?_) | (with_reducible refine wl_max rfl _ _ _ _ rfl _ _ rfl rfl ?_) | (with_reducible refine wl_min rfl _ _ _ _ rfl _ _ rfl rfl ?_))
  generalize w.alloc (.cells #[.int .i64 m.room, .slice a1 m.is.length d1, .slice a2 m.sure.length d2, .slice a3 m.L.length d3, .slice a4 m.S.length d4, .slice a5 m.wait.length d5, .bool m.off, .int .i64 m.cut] 30) = W at *
  replace hO := hO.keep hkW fun _ _ h => h
  replace hD := hD.no hkW
  refine (names_own hO hs (by omega)).mono ?_
  rintro e x1 ⟨vl, rfl, hl, k1⟩
  replace hkW := hkW.trans' k1
  replace hBW := hBW.keep k1 fun h => h
  replace hO := hO.keep k1 fun _ _ h => h
  replace hD := hD.no k1
  clear k1
  obtain ⟨al, cl, rfl, _, _⟩ := (Sl.of_own hl).shape
  have c1 := hBW.cell
  go_wp2_with (first | (at_builtin; refine wl_append rfl _ _ _ _ rfl _ _ rfl rfl ?_) | (at_make; refine wl_make rfl _ _ _ rfl _ _ rfl rfl ?_) | (at_mapUpdate; refine wl_mapUpdate rfl _ _ _ _ rfl _ _ _ rfl rfl rfl ?_) | (at_lookup; refine wl_lookup rfl _ _ _ _ rfl _ _ rfl rfl ?_) | (at_delete; refine wl_delete rfl _ _ _ _ rfl _ _ rfl rfl ?_) | (with_reducible refine wl_len rfl _ _ rfl _ rfl ?_) | (with_reducible refine wl_range rfl _ _ rfl _ rfl ?_) | (with_reducible refine wl_next rfl _ rfl _ rfl ?_) | (with_reducible refine wl_copy rfl _ _ _ _ rfl _ _ rfl rfl ?_) | (with_reducible refine wl_max rfl _ _ _ _ rfl _ _ rfl rfl ?_) | (with_reducible refine wl_min rfl _ _ _ _ rfl _ _ rfl rfl ?_))
  refine (rnm_any hD (by omega) hap).mono ?_
  rintro e x2 ⟨vm, rfl, hm, k2⟩
  replace hkW := hkW.trans' k2
  replace hBW := hBW.keep k2 fun h => h
  replace hO := hO.keep k2 fun _ _ h => h
  replace hD := hD.no k2
  have hl2 : Sl (fun _ => True) x2 1 (.slice al (namesOf m).length cl) (namesOf m).length ((namesOf m).map encStr) := Sl.mono (Sl.keep (Sl.of_own hl) k2 fun _ _ _ h => h) fun _ _ _ => trivial
  have hm2 : Sl (fun _ => True) x2 1 vm (namesOf m).length ((namesOf m).map encStr) := by
    rw [encStr_eq]; exact Sl.mono hm fun _ _ _ => trivial
  clear k2 hl hm c1
  obtain ⟨am, cm, rfl, _, _⟩ := hm2.shape
  have c1 := hBW.cell
  go_wp2_with (first | (at_builtin; refine wl_append rfl _ _ _ _ rfl _ _ rfl rfl ?_) | (at_make; refine wl_make rfl _ _ _ rfl _ _ rfl rfl ?_) | (at_mapUpdate; refine wl_mapUpdate rfl _ _ _ _ rfl _ _ _ rfl rfl rfl ?_) | (at_lookup; refine wl_lookup rfl _ _ _ _ rfl _ _ rfl rfl ?_) | (at_delete; refine wl_delete rfl _ _ _ _ rfl _ _ rfl rfl ?_) | (with_reducible refine wl_len rfl _ _ rfl _ rfl ?_) | (with_reducible refine wl_range rfl _ _ rfl _ rfl ?_) | (with_reducible refine wl_next rfl _ rfl _ rfl ?_) | (with_reducible refine wl_copy rfl _ _ _ _ rfl _ _ rfl rfl ?_) | (with_reducible refine wl_max rfl _ _ _ _ rfl _ _ rfl rfl ?_) | (with_reducible refine wl_min rfl _ _ _ _ rfl _ _ rfl rfl ?_))
  refine wp_region_sig (fun w' => (∀ i, w'.cell? ⟨w.heap.size, i, none⟩ = #[.int .i64 m.room, .slice a1 m.is.length d1, .slice a2 m.sure.length d2, .slice a3 m.L.length d3, .slice a4 m.S.length d4, .slice a5 m.wait.length d5, .bool m.off, .int .i64 m.cut][i]?) ∧ True) (fun j => decide (j ≤ 99)) [(0, true), (1, true), (2, true), (3, true), (4, true), (5, true), (6, true), (8, true), (7, false), (9, false), (10, true), (11, true), (12, true), (13, true), (15, true), (16, true), (17, true), (14, false), (18, true), (19, true), (20, true), (21, true), (23, true), (24, true), (22, false), (25, true), (26, true)] (by kernel_rfl) (by kernel_rfl) (by intro c a d v w h; cases d <;> exact h) ⟨c1, trivial⟩ ?_
  apply sig_still (o := ⟨some 16, _, _, _, _, _⟩) rfl rfl
  · intro w' hS
    obtain ⟨q1, q2⟩ := hS
    first | (go_simp; done) | (go_simp; rfl) | rfl
  go_frame
  apply sig_still (o := ⟨some 17, _, _, _, _, _⟩) rfl rfl
  · intro w' hS
    obtain ⟨q1, q2⟩ := hS
    first | (go_simp; done) | (go_simp; rfl) | rfl
  go_frame
  apply sig_still (o := ⟨some 18, _, _, _, _, _⟩) rfl rfl
  · intro w' hS
    obtain ⟨q1, q2⟩ := hS
    first | (go_simp; done) | (go_simp; rfl) | rfl
  go_frame
  apply sig_still (o := ⟨some 19, _, _, _, _, _⟩) rfl rfl
  · intro w' hS
    obtain ⟨q1, q2⟩ := hS
    first | (go_simp; done) | (go_simp; rfl) | rfl
  go_frame
  apply sig_still (o := ⟨some 20, _, _, _, _, _⟩) rfl rfl
  · intro w' hS
    obtain ⟨q1, q2⟩ := hS
    first | (go_simp; done) | (go_simp; rfl) | rfl
  go_frame
  apply sig_still (o := ⟨some 21, _, _, _, _, _⟩) rfl rfl
  · intro w' hS
    obtain ⟨q1, q2⟩ := hS
    first | (go_simp; done) | (go_simp; rfl) | rfl
  go_frame
  apply sig_guard (o := ⟨some 22, _, _, _, _, _⟩) rfl (by rfl)
  · intro w' hS
    obtain ⟨q1, q2⟩ := hS
    first | (go_simp; done) | (go_simp; rfl) | rfl
  go_frame
  apply sig_guard (o := ⟨some 24, _, _, _, _, _⟩) rfl (by rfl)
  · intro w' hS
    obtain ⟨q1, q2⟩ := hS
    first | (go_simp; done) | (go_simp; rfl) | rfl
  go_frame
  refine sig_effg (o := ⟨some 23, _, _, _, _, _⟩) rfl (by rfl) (fun K hKe => ?_)
  go_wp2_with (first | (at_builtin; refine wl_append rfl _ _ _ _ rfl _ _ rfl rfl ?_) | (at_make; refine wl_make rfl _ _ _ rfl _ _ rfl rfl ?_) | (at_mapUpdate; refine wl_mapUpdate rfl _ _ _ _ rfl _ _ _ rfl rfl rfl ?_) | (at_lookup; refine wl_lookup rfl _ _ _ _ rfl _ _ rfl rfl ?_) | (at_delete; refine wl_delete rfl _ _ _ _ rfl _ _ rfl rfl ?_) | (with_reducible refine wl_len rfl _ _ rfl _ rfl ?_) | (with_reducible refine wl_range rfl _ _ rfl _ rfl ?_) | (with_reducible refine wl_next rfl _ rfl _ rfl ?_) | (with_reducible refine wl_copy rfl _ _ _ _ rfl _ _ rfl rfl ?_) | (with_reducible refine wl_max rfl _ _ _ _ rfl _ _ rfl rfl ?_) | (with_reducible refine wl_min rfl _ _ _ _ rfl _ _ rfl rfl ?_))
  refine (used_own (hO.keep (Keep.refl No x2).drew fun _ _ h => h) hs hn hN).mono ?_
  rintro e x3 ⟨rfl, k3⟩
  replace k3 : Keep No x2 x3 := ⟨k3.os, k3.tape, k3.output, k3.size, k3.block⟩
  replace hkW := hkW.trans' k3
  replace hBW := hBW.keep k3 fun h => h
  replace hO := hO.keep k3 fun _ _ h => h
  replace hD := hD.no k3
  replace hl2 := Sl.keep hl2 k3 fun _ _ _ h => h
  replace hm2 := Sl.keep hm2 k3 fun _ _ _ h => h
  clear k3 c1
  have c1 := hBW.cell
  go_wp2_with (first | (at_builtin; refine wl_append rfl _ _ _ _ rfl _ _ rfl rfl ?_) | (at_make; refine wl_make rfl _ _ _ rfl _ _ rfl rfl ?_) | (at_mapUpdate; refine wl_mapUpdate rfl _ _ _ _ rfl _ _ _ rfl rfl rfl ?_) | (at_lookup; refine wl_lookup rfl _ _ _ _ rfl _ _ rfl rfl ?_) | (at_delete; refine wl_delete rfl _ _ _ _ rfl _ _ rfl rfl ?_) | (with_reducible refine wl_len rfl _ _ rfl _ rfl ?_) | (with_reducible refine wl_range rfl _ _ rfl _ rfl ?_) | (with_reducible refine wl_next rfl _ rfl _ rfl ?_) | (with_reducible refine wl_copy rfl _ _ _ _ rfl _ _ rfl rfl ?_) | (with_reducible refine wl_max rfl _ _ _ _ rfl _ _ rfl rfl ?_) | (with_reducible refine wl_min rfl _ _ _ _ rfl _ _ rfl rfl ?_))
  refine ⟨fun _ => ⟨c1, trivial⟩, ?_⟩
  refine sig_effg (o := ⟨some 25, _, _, _, _, _⟩) rfl (by rfl) (fun K hKe => ?_)
  go_wp2_with (first | (at_builtin; refine wl_append rfl _ _ _ _ rfl _ _ rfl rfl ?_) | (at_make; refine wl_make rfl _ _ _ rfl _ _ rfl rfl ?_) | (at_mapUpdate; refine wl_mapUpdate rfl _ _ _ _ rfl _ _ _ rfl rfl rfl ?_) | (at_lookup; refine wl_lookup rfl _ _ _ _ rfl _ _ rfl rfl ?_) | (at_delete; refine wl_delete rfl _ _ _ _ rfl _ _ rfl rfl ?_) | (with_reducible refine wl_len rfl _ _ rfl _ rfl ?_) | (with_reducible refine wl_range rfl _ _ rfl _ rfl ?_) | (with_reducible refine wl_next rfl _ rfl _ rfl ?_) | (with_reducible refine wl_copy rfl _ _ _ _ rfl _ _ rfl rfl ?_) | (with_reducible refine wl_max rfl _ _ _ _ rfl _ _ rfl rfl ?_) | (with_reducible refine wl_min rfl _ _ _ _ rfl _ _ rfl rfl ?_))
  refine (rused_any hD hs hf hn hN).mono ?_
  rintro e x4 ⟨rfl, k3⟩
  replace hkW := hkW.trans' k3
  replace hBW := hBW.keep k3 fun h => h
  replace hO := hO.keep k3 fun _ _ h => h
  replace hD := hD.no k3
  replace hl2 := Sl.keep hl2 k3 fun _ _ _ h => h
  replace hm2 := Sl.keep hm2 k3 fun _ _ _ h => h
  clear k3 c1
  have c1 := hBW.cell
  go_wp2_with (first | (at_builtin; refine wl_append rfl _ _ _ _ rfl _ _ rfl rfl ?_) | (at_make; refine wl_make rfl _ _ _ rfl _ _ rfl rfl ?_) | (at_mapUpdate; refine wl_mapUpdate rfl _ _ _ _ rfl _ _ _ rfl rfl rfl ?_) | (at_lookup; refine wl_lookup rfl _ _ _ _ rfl _ _ rfl rfl ?_) | (at_delete; refine wl_delete rfl _ _ _ _ rfl _ _ rfl rfl ?_) | (with_reducible refine wl_len rfl _ _ rfl _ rfl ?_) | (with_reducible refine wl_range rfl _ _ rfl _ rfl ?_) | (with_reducible refine wl_next rfl _ rfl _ rfl ?_) | (with_reducible refine wl_copy rfl _ _ _ _ rfl _ _ rfl rfl ?_) | (with_reducible refine wl_max rfl _ _ _ _ rfl _ _ rfl rfl ?_) | (with_reducible refine wl_min rfl _ _ _ _ rfl _ _ rfl rfl ?_))
  refine ⟨fun _ => ⟨c1, trivial⟩, ?_⟩
  apply sig_guard (o := ⟨some 26, _, _, _, _, _⟩) rfl (by rfl)
  · intro w' hS
    obtain ⟨q1, q2⟩ := hS
    first | (go_simp; done) | (go_simp; rfl) | rfl
  go_frame
  apply sig_still (o := ⟨some 27, _, _, _, _, _⟩) rfl rfl
  · intro w' hS
    obtain ⟨q1, q2⟩ := hS
    first | (go_simp; done) | (go_simp; rfl) | rfl
  go_frame
  apply sig_still (o := ⟨some 28, _, _, _, _, _⟩) rfl rfl
  · intro w' hS
    obtain ⟨q1, q2⟩ := hS
    first | (go_simp; done) | (go_simp; rfl) | rfl
  go_frame
  apply sig_guard (o := ⟨some 29, _, _, _, _, _⟩) rfl (by rfl)
  · intro w' hS
    obtain ⟨q1, q2⟩ := hS
    first | (go_simp; done) | (go_simp; rfl) | rfl
  go_frame
  apply sig_guard (o := ⟨some 31, _, _, _, _, _⟩) rfl (by rfl)
  · intro w' hS
    obtain ⟨q1, q2⟩ := hS
    first | (go_simp; done) | (go_simp; rfl) | rfl
  go_frame
  apply sig_guard (o := ⟨some 32, _, _, _, _, _⟩) rfl (by rfl)
  · intro w' hS
    obtain ⟨q1, q2⟩ := hS
    first | (go_simp; done) | (go_simp; rfl) | rfl
  go_frame
  apply sig_guard (o := ⟨some 33, _, _, _, _, _⟩) rfl (by rfl)
  · intro w' hS
    obtain ⟨q1, q2⟩ := hS
    first | (go_simp; done) | (go_simp; rfl) | rfl
  go_frame
  refine sig_effg (o := ⟨some 30, _, _, _, _, _⟩) rfl (by rfl) (fun K hKe => ?_)
  go_wp2_with (first | (at_builtin; refine wl_append rfl _ _ _ _ rfl _ _ rfl rfl ?_) | (at_make; refine wl_make rfl _ _ _ rfl _ _ rfl rfl ?_) | (at_mapUpdate; refine wl_mapUpdate rfl _ _ _ _ rfl _ _ _ rfl rfl rfl ?_) | (at_lookup; refine wl_lookup rfl _ _ _ _ rfl _ _ rfl rfl ?_) | (at_delete; refine wl_delete rfl _ _ _ _ rfl _ _ rfl rfl ?_) | (with_reducible refine wl_len rfl _ _ rfl _ rfl ?_) | (with_reducible refine wl_range rfl _ _ rfl _ rfl ?_) | (with_reducible refine wl_next rfl _ rfl _ rfl ?_) | (with_reducible refine wl_copy rfl _ _ _ _ rfl _ _ rfl rfl ?_) | (with_reducible refine wl_max rfl _ _ _ _ rfl _ _ rfl rfl ?_) | (with_reducible refine wl_min rfl _ _ _ _ rfl _ _ rfl rfl ?_))
  refine (pending_any _ hO).mono ?_
  rintro e x5 ⟨rfl, rfl⟩
  go_wp2_with (first | (at_builtin; refine wl_append rfl _ _ _ _ rfl _ _ rfl rfl ?_) | (at_make; refine wl_make rfl _ _ _ rfl _ _ rfl rfl ?_) | (at_mapUpdate; refine wl_mapUpdate rfl _ _ _ _ rfl _ _ _ rfl rfl rfl ?_) | (at_lookup; refine wl_lookup rfl _ _ _ _ rfl _ _ rfl rfl ?_) | (at_delete; refine wl_delete rfl _ _ _ _ rfl _ _ rfl rfl ?_) | (with_reducible refine wl_len rfl _ _ rfl _ rfl ?_) | (with_reducible refine wl_range rfl _ _ rfl _ rfl ?_) | (with_reducible refine wl_next rfl _ rfl _ rfl ?_) | (with_reducible refine wl_copy rfl _ _ _ _ rfl _ _ rfl rfl ?_) | (with_reducible refine wl_max rfl _ _ _ _ rfl _ _ rfl rfl ?_) | (with_reducible refine wl_min rfl _ _ _ _ rfl _ _ rfl rfl ?_))
  refine ⟨fun _ => ⟨c1, trivial⟩, ?_⟩
  apply sig_guard (o := ⟨some 34, _, _, _, _, _⟩) rfl (by rfl)
  · intro w' hS
    obtain ⟨q1, q2⟩ := hS
    first | (go_simp; done) | (go_simp; rfl) | rfl
  go_frame
  apply sig_still (o := ⟨some 35, _, _, _, _, _⟩) rfl rfl
  · intro w' hS
    obtain ⟨q1, q2⟩ := hS
    first | (go_simp; done) | (go_simp; rfl) | rfl
  go_frame
  apply sig_still (o := ⟨some 36, _, _, _, _, _⟩) rfl rfl
  · intro w' hS
    obtain ⟨q1, q2⟩ := hS
    first | (go_simp; done) | (go_simp; rfl) | rfl
  go_frame
  apply sig_guard (o := ⟨some 37, _, _, _, _, _⟩) rfl (by rfl)
  · intro w' hS
    obtain ⟨q1, q2⟩ := hS
    first | (go_simp; done) | (go_simp; rfl) | rfl
  go_frame
  apply sig_guard (o := ⟨some 39, _, _, _, _, _⟩) rfl (by rfl)
  · intro w' hS
    obtain ⟨q1, q2⟩ := hS
    first | (go_simp; done) | (go_simp; rfl) | rfl
  go_frame
  apply sig_guard (o := ⟨some 40, _, _, _, _, _⟩) rfl (by rfl)
  · intro w' hS
    obtain ⟨q1, q2⟩ := hS
    first | (go_simp; done) | (go_simp; rfl) | rfl
  go_frame
  refine sig_effg (o := ⟨some 38, _, _, _, _, _⟩) rfl (by rfl) (fun K hKe => ?_)
  go_wp2_with (first | (at_builtin; refine wl_append rfl _ _ _ _ rfl _ _ rfl rfl ?_) | (at_make; refine wl_make rfl _ _ _ rfl _ _ rfl rfl ?_) | (at_mapUpdate; refine wl_mapUpdate rfl _ _ _ _ rfl _ _ _ rfl rfl rfl ?_) | (at_lookup; refine wl_lookup rfl _ _ _ _ rfl _ _ rfl rfl ?_) | (at_delete; refine wl_delete rfl _ _ _ _ rfl _ _ rfl rfl ?_) | (with_reducible refine wl_len rfl _ _ rfl _ rfl ?_) | (with_reducible refine wl_range rfl _ _ rfl _ rfl ?_) | (with_reducible refine wl_next rfl _ rfl _ rfl ?_) | (with_reducible refine wl_copy rfl _ _ _ _ rfl _ _ rfl rfl ?_) | (with_reducible refine wl_max rfl _ _ _ _ rfl _ _ rfl rfl ?_) | (with_reducible refine wl_min rfl _ _ _ _ rfl _ _ rfl rfl ?_))
  refine (off_any _ hO).mono ?_
  rintro e x5 ⟨rfl, rfl⟩
  go_wp2_with (first | (at_builtin; refine wl_append rfl _ _ _ _ rfl _ _ rfl rfl ?_) | (at_make; refine wl_make rfl _ _ _ rfl _ _ rfl rfl ?_) | (at_mapUpdate; refine wl_mapUpdate rfl _ _ _ _ rfl _ _ _ rfl rfl rfl ?_) | (at_lookup; refine wl_lookup rfl _ _ _ _ rfl _ _ rfl rfl ?_) | (at_delete; refine wl_delete rfl _ _ _ _ rfl _ _ rfl rfl ?_) | (with_reducible refine wl_len rfl _ _ rfl _ rfl ?_) | (with_reducible refine wl_range rfl _ _ rfl _ rfl ?_) | (with_reducible refine wl_next rfl _ rfl _ rfl ?_) | (with_reducible refine wl_copy rfl _ _ _ _ rfl _ _ rfl rfl ?_) | (with_reducible refine wl_max rfl _ _ _ _ rfl _ _ rfl rfl ?_) | (with_reducible refine wl_min rfl _ _ _ _ rfl _ _ rfl rfl ?_))
  refine ⟨fun _ => ⟨c1, trivial⟩, ?_⟩
  apply sig_guard (o := ⟨some 41, _, _, _, _, _⟩) rfl (by rfl)
  · intro w' hS
    obtain ⟨q1, q2⟩ := hS
    first | (go_simp; done) | (go_simp; rfl) | rfl
  go_frame
  apply sig_still (o := ⟨some 42, _, _, _, _, _⟩) rfl rfl
  · intro w' hS
    obtain ⟨q1, q2⟩ := hS
    first | (go_simp; done) | (go_simp; rfl) | rfl
  go_frame
  refine sig_nil ?_
  go_wp2_with (first | (at_builtin; refine wl_append rfl _ _ _ _ rfl _ _ rfl rfl ?_) | (at_make; refine wl_make rfl _ _ _ rfl _ _ rfl rfl ?_) | (at_mapUpdate; refine wl_mapUpdate rfl _ _ _ _ rfl _ _ _ rfl rfl rfl ?_) | (at_lookup; refine wl_lookup rfl _ _ _ _ rfl _ _ rfl rfl ?_) | (at_delete; refine wl_delete rfl _ _ _ _ rfl _ _ rfl rfl ?_) | (with_reducible refine wl_len rfl _ _ rfl _ rfl ?_) | (with_reducible refine wl_range rfl _ _ rfl _ rfl ?_) | (with_reducible refine wl_next rfl _ rfl _ rfl ?_) | (with_reducible refine wl_copy rfl _ _ _ _ rfl _ _ rfl rfl ?_) | (with_reducible refine wl_max rfl _ _ _ _ rfl _ _ rfl rfl ?_) | (with_reducible refine wl_min rfl _ _ _ _ rfl _ _ rfl rfl ?_))
  go_loopw [7] (fun iv wr => ∃ k : Nat, iv = .int .i64 k ∧ k ≤ (namesOf m).length ∧ Keep No x4 wr) (fun iv _ => (namesOf m).length - (intOf iv).toNat)
  case atStart => exact ⟨0, rfl, Nat.zero_le _, Keep.refl _ _⟩
  case round =>
    obtain ⟨k, rfl, hk, hKi⟩ := hrel
    replace hl2 := Sl.keep hl2 hKi fun _ _ _ h => h
    replace hm2 := Sl.keep hm2 hKi fun _ _ _ h => h
    rcases Nat.lt_or_ge k (namesOf m).length with hkl | hkl
    · obtain ⟨g1, o1, c1', e1, _, hg1, _, _, hc1⟩ := hl2.at (Nat.lt_of_le_of_lt (Nat.zero_le k) hkl)
      obtain ⟨g2, o2, c2', e2, _, _, _, _, hc2⟩ := hm2.at (Nat.lt_of_le_of_lt (Nat.zero_le k) hkl)
      cases e1
      cases e2
      have q1 : wr.cell? ⟨g1, o1 + k, none⟩ = some (.string ⟨(namesOf m)[k].toArray⟩) := hc1 k _ (by rw [List.getElem?_map, List.getElem?_eq_getElem hkl]; rfl)
      have q2 : wr.cell? ⟨g2, o2 + k, none⟩ = some (.string ⟨(namesOf m)[k].toArray⟩) := hc2 k _ (by rw [List.getElem?_map, List.getElem?_eq_getElem hkl]; rfl)
      have hkl' : (k : Int) < ((namesOf m).length : Int) := by omega
      have hnk := hNo _ (List.getElem_mem hkl)
      replace hO := hO.keep hKi fun _ _ h => h
      replace hD := hD.no hKi
      have hBi := hBW.keep hKi fun h => h
      have hgB : ∀ W, Keep No wr W → W.cell? ⟨g1, o1 + k, none⟩ = some (.string ⟨(namesOf m)[k].toArray⟩) := fun W h => (h.cell (p := ⟨g1, o1 + k, none⟩) hg1 (fun h => h)).trans q1
      have HG := Lib.hid hgB
      clear hc1 hc2 c1 hgB
      generalize (namesOf m)[k] = nk at *
      go_wp2_with (first | (at_builtin; refine wl_append rfl _ _ _ _ rfl _ _ rfl rfl ?_) | (at_make; refine wl_make rfl _ _ _ rfl _ _ rfl rfl ?_) | (at_mapUpdate; refine wl_mapUpdate rfl _ _ _ _ rfl _ _ _ rfl rfl rfl ?_) | (at_lookup; refine wl_lookup rfl _ _ _ _ rfl _ _ rfl rfl ?_) | (at_delete; refine wl_delete rfl _ _ _ _ rfl _ _ rfl rfl ?_) | (with_reducible refine wl_len rfl _ _ rfl _ rfl ?_) | (with_reducible refine wl_range rfl _ _ rfl _ rfl ?_) | (with_reducible refine wl_next rfl _ rfl _ rfl ?_) | (with_reducible refine wl_copy rfl _ _ _ _ rfl _ _ rfl rfl ?_) | (with_reducible refine wl_max rfl _ _ _ _ rfl _ _ rfl rfl ?_) | (with_reducible refine wl_min rfl _ _ _ _ rfl _ _ rfl rfl ?_))
      go_quiet (fail)
      have kq : Keep No wr (wr.drewN nq) := (Keep.refl No wr).drewN nq
      have q3 := HG.out _ kq
      replace hO := hO.keep kq fun _ _ h => h
      replace hD := hD.no kq
      replace hBi := hBi.keep kq fun h => h
      have hKq := hKi.trans' kq
      clear q1 q2 hl2 hm2
      generalize hwq : wr.drewN nq = wq at *
      go_wp2_with (first | (at_builtin; refine wl_append rfl _ _ _ _ rfl _ _ rfl rfl ?_) | (at_make; refine wl_make rfl _ _ _ rfl _ _ rfl rfl ?_) | (at_mapUpdate; refine wl_mapUpdate rfl _ _ _ _ rfl _ _ _ rfl rfl rfl ?_) | (at_lookup; refine wl_lookup rfl _ _ _ _ rfl _ _ rfl rfl ?_) | (at_delete; refine wl_delete rfl _ _ _ _ rfl _ _ rfl rfl ?_) | (with_reducible refine wl_len rfl _ _ rfl _ rfl ?_) | (with_reducible refine wl_range rfl _ _ rfl _ rfl ?_) | (with_reducible refine wl_next rfl _ rfl _ rfl ?_) | (with_reducible refine wl_copy rfl _ _ _ _ rfl _ _ rfl rfl ?_) | (with_reducible refine wl_max rfl _ _ _ _ rfl _ _ rfl rfl ?_) | (with_reducible refine wl_min rfl _ _ _ _ rfl _ _ rfl rfl ?_))
      refine (read_own nk hO hs hN (by omega)).mono ?_
      rintro e y2 ⟨v', rfl, hx, k2⟩
      replace hD := hD.no k2
      replace hBi := hBi.keep k2 fun h => h
      have q4 := HG.out _ (kq.trans' k2)
      have c1 := hBi.cell
      obtain ⟨ax, cx, rfl, _, _⟩ := (Sl.of_own hx).shape
      clear hO q3
      go_wp2_with (first | (at_builtin; refine wl_append rfl _ _ _ _ rfl _ _ rfl rfl ?_) | (at_make; refine wl_make rfl _ _ _ rfl _ _ rfl rfl ?_) | (at_mapUpdate; refine wl_mapUpdate rfl _ _ _ _ rfl _ _ _ rfl rfl rfl ?_) | (at_lookup; refine wl_lookup rfl _ _ _ _ rfl _ _ rfl rfl ?_) | (at_delete; refine wl_delete rfl _ _ _ _ rfl _ _ rfl rfl ?_) | (with_reducible refine wl_len rfl _ _ rfl _ rfl ?_) | (with_reducible refine wl_range rfl _ _ rfl _ rfl ?_) | (with_reducible refine wl_next rfl _ rfl _ rfl ?_) | (with_reducible refine wl_copy rfl _ _ _ _ rfl _ _ rfl rfl ?_) | (with_reducible refine wl_max rfl _ _ _ _ rfl _ _ rfl rfl ?_) | (with_reducible refine wl_min rfl _ _ _ _ rfl _ _ rfl rfl ?_))
      refine wp_region_sig (fun w' => (∀ i, w'.cell? ⟨w.heap.size, i, none⟩ = #[.int .i64 m.room, .slice a1 m.is.length d1, .slice a2 m.sure.length d2, .slice a3 m.L.length d3, .slice a4 m.S.length d4, .slice a5 m.wait.length d5, .bool m.off, .int .i64 m.cut][i]?) ∧ w'.cell? ⟨g1, o1 + k, none⟩ = some (.string ⟨nk.toArray⟩)) (fun j => decide (j ≤ 99)) [(0, true), (1, true), (2, true), (3, true), (4, true), (5, false), (6, true), (7, true), (8, true), (9, true), (10, true)] (by kernel_rfl) (by kernel_rfl) (by intro c a d v w h; cases d <;> exact h) ⟨c1, q4⟩ ?_
      apply sig_still (o := ⟨some 68, _, _, _, _, _⟩) rfl rfl
      · intro w' hS
        obtain ⟨q1, q2⟩ := hS
        first | (go_simp; done) | (go_simp; rfl) | rfl
      go_frame
      apply sig_still (o := ⟨some 69, _, _, _, _, _⟩) rfl rfl
      · intro w' hS
        obtain ⟨q1, q2⟩ := hS
        first | (go_simp; done) | (go_simp; rfl) | rfl
      go_frame
      apply sig_still (o := ⟨some 70, _, _, _, _, _⟩) rfl rfl
      · intro w' hS
        obtain ⟨q1, q2⟩ := hS
        first | (go_simp; done) | (go_simp; rfl) | rfl
      go_frame
      apply sig_still (o := ⟨some 71, _, _, _, _, _⟩) rfl rfl
      · intro w' hS
        obtain ⟨q1, q2⟩ := hS
        first | (go_simp; done) | (go_simp; rfl) | rfl
      go_frame
      apply sig_still (o := ⟨some 72, _, _, _, _, _⟩) rfl rfl
      · intro w' hS
        obtain ⟨q1, q2⟩ := hS
        first | (go_simp; done) | (go_simp; rfl) | rfl
      go_frame
      refine sig_eff (o := ⟨some 73, _, _, _, _, _⟩) rfl rfl (fun K hKe => ?_)
      go_wp2_with (first | (at_builtin; refine wl_append rfl _ _ _ _ rfl _ _ rfl rfl ?_) | (at_make; refine wl_make rfl _ _ _ rfl _ _ rfl rfl ?_) | (at_mapUpdate; refine wl_mapUpdate rfl _ _ _ _ rfl _ _ _ rfl rfl rfl ?_) | (at_lookup; refine wl_lookup rfl _ _ _ _ rfl _ _ rfl rfl ?_) | (at_delete; refine wl_delete rfl _ _ _ _ rfl _ _ rfl rfl ?_) | (with_reducible refine wl_len rfl _ _ rfl _ rfl ?_) | (with_reducible refine wl_range rfl _ _ rfl _ rfl ?_) | (with_reducible refine wl_next rfl _ rfl _ rfl ?_) | (with_reducible refine wl_copy rfl _ _ _ _ rfl _ _ rfl rfl ?_) | (with_reducible refine wl_max rfl _ _ _ _ rfl _ _ rfl rfl ?_) | (with_reducible refine wl_min rfl _ _ _ _ rfl _ _ rfl rfl ?_))
      refine (rread_any (n := 0) (N := 0) nk (hD.no (Keep.refl No y2).drew) hf).mono ?_
      rintro e y4 ⟨rfl, k4⟩
      replace k4 : Keep No y2 y4 := ⟨k4.os, k4.tape, k4.output, k4.size, k4.block⟩
      replace hBi := hBi.keep k4 fun h => h
      have q5 := HG.out _ ((kq.trans' k2).trans' k4)
      have c1 := hBi.cell
      have hc1 := conv_str (Sl.keep (Sl.of_own hx) k4 fun _ _ _ h => h)
      clear hD q4
      go_wp2_with (first | (at_builtin; refine wl_append rfl _ _ _ _ rfl _ _ rfl rfl ?_) | (at_make; refine wl_make rfl _ _ _ rfl _ _ rfl rfl ?_) | (at_mapUpdate; refine wl_mapUpdate rfl _ _ _ _ rfl _ _ _ rfl rfl rfl ?_) | (at_lookup; refine wl_lookup rfl _ _ _ _ rfl _ _ rfl rfl ?_) | (at_delete; refine wl_delete rfl _ _ _ _ rfl _ _ rfl rfl ?_) | (with_reducible refine wl_len rfl _ _ rfl _ rfl ?_) | (with_reducible refine wl_range rfl _ _ rfl _ rfl ?_) | (with_reducible refine wl_next rfl _ rfl _ rfl ?_) | (with_reducible refine wl_copy rfl _ _ _ _ rfl _ _ rfl rfl ?_) | (with_reducible refine wl_max rfl _ _ _ _ rfl _ _ rfl rfl ?_) | (with_reducible refine wl_min rfl _ _ _ _ rfl _ _ rfl rfl ?_))
      refine ⟨fun _ => ⟨c1, q5⟩, ?_⟩
      apply sig_still (o := ⟨some 67, _, _, _, _, _⟩) rfl rfl
      · intro w' hS
        obtain ⟨q1, q2⟩ := hS
        first | (go_simp; done) | (go_simp; rfl) | rfl
      go_frame
      apply sig_still (o := ⟨some 74, _, _, _, _, _⟩) rfl rfl
      · intro w' hS
        obtain ⟨q1, q2⟩ := hS
        first | (go_simp; done) | (go_simp; rfl) | rfl
      go_frame
      apply sig_still (o := ⟨some 75, _, _, _, _, _⟩) rfl rfl
      · intro w' hS
        obtain ⟨q1, q2⟩ := hS
        first | (go_simp; done) | (go_simp; rfl) | rfl
      go_frame
      apply sig_still (o := ⟨some 10, _, _, _, _, _⟩) rfl rfl
      · intro w' hS
        obtain ⟨q1, q2⟩ := hS
        first | (go_simp; done) | (go_simp; rfl) | rfl
      go_frame
      apply sig_still (o := ⟨some 11, _, _, _, _, _⟩) rfl rfl
      · intro w' hS
        obtain ⟨q1, q2⟩ := hS
        first | (go_simp; done) | (go_simp; rfl) | rfl
      go_frame
      refine sig_nil ?_
      go_wp2_with (first | (at_builtin; refine wl_append rfl _ _ _ _ rfl _ _ rfl rfl ?_) | (at_make; refine wl_make rfl _ _ _ rfl _ _ rfl rfl ?_) | (at_mapUpdate; refine wl_mapUpdate rfl _ _ _ _ rfl _ _ _ rfl rfl rfl ?_) | (at_lookup; refine wl_lookup rfl _ _ _ _ rfl _ _ rfl rfl ?_) | (at_delete; refine wl_delete rfl _ _ _ _ rfl _ _ rfl rfl ?_) | (with_reducible refine wl_len rfl _ _ rfl _ rfl ?_) | (with_reducible refine wl_range rfl _ _ rfl _ rfl ?_) | (with_reducible refine wl_next rfl _ rfl _ rfl ?_) | (with_reducible refine wl_copy rfl _ _ _ _ rfl _ _ rfl rfl ?_) | (with_reducible refine wl_max rfl _ _ _ _ rfl _ _ rfl rfl ?_) | (with_reducible refine wl_min rfl _ _ _ _ rfl _ _ rfl rfl ?_))
      go_roundw
      case rel => exact ⟨k + 1, by go_num, hkl, (hKq.trans' k2).trans' k4⟩
      case measure => simp [intOf]; omega
    · obtain rfl : k = (namesOf m).length := Nat.le_antisymm hk hkl
      go_wp2_with (first | (at_builtin; refine wl_append rfl _ _ _ _ rfl _ _ rfl rfl ?_) | (at_make; refine wl_make rfl _ _ _ rfl _ _ rfl rfl ?_) | (at_mapUpdate; refine wl_mapUpdate rfl _ _ _ _ rfl _ _ _ rfl rfl rfl ?_) | (at_lookup; refine wl_lookup rfl _ _ _ _ rfl _ _ rfl rfl ?_) | (at_delete; refine wl_delete rfl _ _ _ _ rfl _ _ rfl rfl ?_) | (with_reducible refine wl_len rfl _ _ rfl _ rfl ?_) | (with_reducible refine wl_range rfl _ _ rfl _ rfl ?_) | (with_reducible refine wl_next rfl _ rfl _ rfl ?_) | (with_reducible refine wl_copy rfl _ _ _ _ rfl _ _ rfl rfl ?_) | (with_reducible refine wl_max rfl _ _ _ _ rfl _ _ rfl rfl ?_) | (with_reducible refine wl_min rfl _ _ _ _ rfl _ _ rfl rfl ?_))
      go_ret
      exact ⟨rfl, hkW.trans' hKi⟩
end Go.Proofs.YtkmoomgmmhmaeaaGreat
