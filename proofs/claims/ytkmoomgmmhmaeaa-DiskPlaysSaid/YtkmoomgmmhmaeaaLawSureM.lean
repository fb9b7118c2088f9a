/- like: a disk and its model tell the same. DiskSure: the disk as lists: no program. No condition. -/
import Derived.Test.YtkmoomgmmhmaeaaLawAwake
import Derived.Test.YtkmoomgmmhmaeaaLawDid
import Derived.Test.YtkmoomgmmhmaeaaLawRoomM
namespace Go.Proofs.Ytkmoomgmmhmaeaa
open Go.RowKit Go.Dm Go.Dm.Dk

theorem DR.apart {A : Nat → Prop} {w : World} {d : Nat} {m : M} (h : DR A w d m) : m.L.Pairwise (fun p q => p.1 ≠ q.1) := by
  obtain ⟨fb, nb, sb, wv, rows, h⟩ := h
  have h1 := h.nm.apart
  unfold Apart NL at h1
  rw [List.pairwise_map] at h1
  exact h1.imp fun h e => h (by rw [e])
set_option maxRecDepth 100000 in
set_option maxHeartbeats 8000000 in
theorem like_any {w0 w : World} {d : Nat} {m : M} {R U : Nat → Prop} {v1 v2 v3 v4 v5 : Value} {n N n2 : Nat} (h : St w0 w d m R U v1 v2 v3 v4 v5 m) (hs : Small m n N) (hf : Files m n2) (hn : n ≤ 100000) (hN : N ≤ 1000000) :
    Calls Try.prog 26 #[ptrTo d, dv m v1 v2 v3 v4 v5] w fun e w' => e = .returned (.bool true) ∧ Keep No w w' := by
  obtain ⟨hO, hD, hR, hRU, hK⟩ := h
  have hap := DR.apart hO
  have hLl := hs.L
  have hNl : (namesOf m).length ≤ 100000 := by
    have : (namesOf m).Perm (m.L.map (·.1)) := List.mergeSort_perm _ _
    rw [this.length_eq, List.length_map]; omega
  clear hK hRU
  obtain ⟨a1, d1, a2, d2, a3, d3, a4, d4, a5, d5, rfl, rfl, rfl, rfl, rfl⟩ := hD.shape
  have hkW : Keep No w (w.alloc (.cells #[.int .i64 m.room, .slice a1 m.is.length d1, .slice a2 m.sure.length d2, .slice a3 m.L.length d3, .slice a4 m.S.length d4, .slice a5 m.wait.length d5, .bool m.off, .int .i64 m.cut] 47)) := (Keep.refl _ _).alloc _
  have hBW : Blk (w.alloc (.cells #[.int .i64 m.room, .slice a1 m.is.length d1, .slice a2 m.sure.length d2, .slice a3 m.L.length d3, .slice a4 m.S.length d4, .slice a5 m.wait.length d5, .bool m.off, .int .i64 m.cut] 47)) w.heap.size #[.int .i64 m.room, .slice a1 m.is.length d1, .slice a2 m.sure.length d2, .slice a3 m.L.length d3, .slice a4 m.S.length d4, .slice a5 m.wait.length d5, .bool m.off, .int .i64 m.cut] 47 := Blk.new _ _ _
  unfold dv ptrTo
  go_enter Try.func26, Try.ntmps26
  go_wp2_with (first | (at_builtin; refine wl_append rfl _ _ _ _ rfl _ _ rfl rfl ?_) | (at_make; refine wl_make rfl _ _ _ rfl _ _ rfl rfl ?_) | (at_mapUpdate; refine wl_mapUpdate rfl _ _ _ _ rfl _ _ _ rfl rfl rfl ?_) | (at_lookup; refine wl_lookup rfl _ _ _ _ rfl _ _ rfl rfl ?_) | (at_delete; refine wl_delete rfl _ _ _ _ rfl _ _ rfl rfl ?_) | (with_reducible refine wl_len rfl _ _ rfl _ rfl ?_) | (with_reducible refine wl_range rfl _ _ rfl _ rfl ?_) | (with_reducible refine wl_next rfl _ rfl _ rfl ?_) | (with_reducible refine wl_copy rfl _ _ _ _ rfl _ _ rfl rfl ?_) | (with_reducible refine wl_max rfl _ _ _ _ rfl _ _ rfl rfl ?_) | (with_reducible refine wl_min rfl _ _ _ _ rfl _ _ rfl rfl ?_))
  generalize w.alloc (.cells #[.int .i64 m.room, .slice a1 m.is.length d1, .slice a2 m.sure.length d2, .slice a3 m.L.length d3, .slice a4 m.S.length d4, .slice a5 m.wait.length d5, .bool m.off, .int .i64 m.cut] 47) = W at *
  replace hO := hO.keep hkW fun _ _ h => h
  replace hD := hD.no hkW
  refine (names_own hO hs (by omega)).mono ?_
  rintro e x1 ⟨vl, rfl, hl, k1⟩
  replace hkW := hkW.trans' k1
  replace hBW := hBW.keep k1 fun h => h
  replace hO := hO.keep k1 fun _ _ h => h
  replace hD := hD.no k1
  clear k1
  obtain ⟨al, cl, rfl, _, _⟩ := (Sl.of_own hl).shape
  have c1 := hBW.cell
  go_wp2_with (first | (at_builtin; refine wl_append rfl _ _ _ _ rfl _ _ rfl rfl ?_) | (at_make; refine wl_make rfl _ _ _ rfl _ _ rfl rfl ?_) | (at_mapUpdate; refine wl_mapUpdate rfl _ _ _ _ rfl _ _ _ rfl rfl rfl ?_) | (at_lookup; refine wl_lookup rfl _ _ _ _ rfl _ _ rfl rfl ?_) | (at_delete; refine wl_delete rfl _ _ _ _ rfl _ _ rfl rfl ?_) | (with_reducible refine wl_len rfl _ _ rfl _ rfl ?_) | (with_reducible refine wl_range rfl _ _ rfl _ rfl ?_) | (with_reducible refine wl_next rfl _ rfl _ rfl ?_) | (with_reducible refine wl_copy rfl _ _ _ _ rfl _ _ rfl rfl ?_) | (with_reducible refine wl_max rfl _ _ _ _ rfl _ _ rfl rfl ?_) | (with_reducible refine wl_min rfl _ _ _ _ rfl _ _ rfl rfl ?_))
  refine (rnm_any hD (by omega) hap).mono ?_
  rintro e x2 ⟨vm, rfl, hm, k2⟩
  replace hkW := hkW.trans' k2
  replace hBW := hBW.keep k2 fun h => h
  replace hO := hO.keep k2 fun _ _ h => h
  replace hD := hD.no k2
  have hl2 : Sl (fun _ => True) x2 1 (.slice al (namesOf m).length cl) (namesOf m).length ((namesOf m).map encStr) := Sl.mono (Sl.keep (Sl.of_own hl) k2 fun _ _ _ h => h) fun _ _ _ => trivial
  have hm2 : Sl (fun _ => True) x2 1 vm (namesOf m).length ((namesOf m).map encStr) := by
    rw [encStr_eq]; exact Sl.mono hm fun _ _ _ => trivial
  clear k2 hl hm c1
  obtain ⟨am, cm, rfl, _, _⟩ := hm2.shape
  have c1 := hBW.cell
  go_wp2_with (first | (at_builtin; refine wl_append rfl _ _ _ _ rfl _ _ rfl rfl ?_) | (at_make; refine wl_make rfl _ _ _ rfl _ _ rfl rfl ?_) | (at_mapUpdate; refine wl_mapUpdate rfl _ _ _ _ rfl _ _ _ rfl rfl rfl ?_) | (at_lookup; refine wl_lookup rfl _ _ _ _ rfl _ _ rfl rfl ?_) | (at_delete; refine wl_delete rfl _ _ _ _ rfl _ _ rfl rfl ?_) | (with_reducible refine wl_len rfl _ _ rfl _ rfl ?_) | (with_reducible refine wl_range rfl _ _ rfl _ rfl ?_) | (with_reducible refine wl_next rfl _ rfl _ rfl ?_) | (with_reducible refine wl_copy rfl _ _ _ _ rfl _ _ rfl rfl ?_) | (with_reducible refine wl_max rfl _ _ _ _ rfl _ _ rfl rfl ?_) | (with_reducible refine wl_min rfl _ _ _ _ rfl _ _ rfl rfl ?_))
  refine wp_region_sig (fun w' => (∀ i, w'.cell? ⟨w.heap.size, i, none⟩ = #[.int .i64 m.room, .slice a1 m.is.length d1, .slice a2 m.sure.length d2, .slice a3 m.L.length d3, .slice a4 m.S.length d4, .slice a5 m.wait.length d5, .bool m.off, .int .i64 m.cut][i]?) ∧ True) (fun j => decide (j ≤ 99)) [(0, true), (1, true), (2, true), (3, true), (4, true), (5, true), (6, true), (8, true), (7, false), (9, false), (10, true), (11, true), (12, true), (13, true), (15, true), (16, true), (17, true), (14, false), (18, true), (19, true), (20, true), (21, true), (23, true), (24, true), (22, false), (25, true), (26, true)] (by kernel_rfl) (by kernel_rfl) (by intro c a d v w h; cases d <;> exact h) ⟨c1, trivial⟩ ?_
  apply sig_still (o := ⟨some 17, _, _, _, _, _⟩) rfl rfl
  · intro w' hS
    obtain ⟨q1, q2⟩ := hS
    first | (go_simp; done) | (go_simp; rfl) | rfl
  go_frame
  apply sig_still (o := ⟨some 18, _, _, _, _, _⟩) rfl rfl
  · intro w' hS
    obtain ⟨q1, q2⟩ := hS
    first | (go_simp; done) | (go_simp; rfl) | rfl
  go_frame
  apply sig_still (o := ⟨some 19, _, _, _, _, _⟩) rfl rfl
  · intro w' hS
    obtain ⟨q1, q2⟩ := hS
    first | (go_simp; done) | (go_simp; rfl) | rfl
  go_frame
  apply sig_still (o := ⟨some 20, _, _, _, _, _⟩) rfl rfl
  · intro w' hS
    obtain ⟨q1, q2⟩ := hS
    first | (go_simp; done) | (go_simp; rfl) | rfl
  go_frame
  apply sig_still (o := ⟨some 21, _, _, _, _, _⟩) rfl rfl
  · intro w' hS
    obtain ⟨q1, q2⟩ := hS
    first | (go_simp; done) | (go_simp; rfl) | rfl
  go_frame
  apply sig_still (o := ⟨some 22, _, _, _, _, _⟩) rfl rfl
  · intro w' hS
    obtain ⟨q1, q2⟩ := hS
    first | (go_simp; done) | (go_simp; rfl) | rfl
  go_frame
  apply sig_guard (o := ⟨some 23, _, _, _, _, _⟩) rfl (by rfl)
  · intro w' hS
    obtain ⟨q1, q2⟩ := hS
    first | (go_simp; done) | (go_simp; rfl) | rfl
  go_frame
  apply sig_guard (o := ⟨some 25, _, _, _, _, _⟩) rfl (by rfl)
  · intro w' hS
    obtain ⟨q1, q2⟩ := hS
    first | (go_simp; done) | (go_simp; rfl) | rfl
  go_frame
  refine sig_effg (o := ⟨some 24, _, _, _, _, _⟩) rfl (by rfl) (fun K hKe => ?_)
  go_wp2_with (first | (at_builtin; refine wl_append rfl _ _ _ _ rfl _ _ rfl rfl ?_) | (at_make; refine wl_make rfl _ _ _ rfl _ _ rfl rfl ?_) | (at_mapUpdate; refine wl_mapUpdate rfl _ _ _ _ rfl _ _ _ rfl rfl rfl ?_) | (at_lookup; refine wl_lookup rfl _ _ _ _ rfl _ _ rfl rfl ?_) | (at_delete; refine wl_delete rfl _ _ _ _ rfl _ _ rfl rfl ?_) | (with_reducible refine wl_len rfl _ _ rfl _ rfl ?_) | (with_reducible refine wl_range rfl _ _ rfl _ rfl ?_) | (with_reducible refine wl_next rfl _ rfl _ rfl ?_) | (with_reducible refine wl_copy rfl _ _ _ _ rfl _ _ rfl rfl ?_) | (with_reducible refine wl_max rfl _ _ _ _ rfl _ _ rfl rfl ?_) | (with_reducible refine wl_min rfl _ _ _ _ rfl _ _ rfl rfl ?_))
  refine (used_own (hO.keep (Keep.refl No x2).drew fun _ _ h => h) hs hn hN).mono ?_
  rintro e x3 ⟨rfl, k3⟩
  replace k3 : Keep No x2 x3 := ⟨k3.os, k3.tape, k3.output, k3.size, k3.block⟩
  replace hkW := hkW.trans' k3
  replace hBW := hBW.keep k3 fun h => h
  replace hO := hO.keep k3 fun _ _ h => h
  replace hD := hD.no k3
  replace hl2 := Sl.keep hl2 k3 fun _ _ _ h => h
  replace hm2 := Sl.keep hm2 k3 fun _ _ _ h => h
  clear k3 c1
  have c1 := hBW.cell
  go_wp2_with (first | (at_builtin; refine wl_append rfl _ _ _ _ rfl _ _ rfl rfl ?_) | (at_make; refine wl_make rfl _ _ _ rfl _ _ rfl rfl ?_) | (at_mapUpdate; refine wl_mapUpdate rfl _ _ _ _ rfl _ _ _ rfl rfl rfl ?_) | (at_lookup; refine wl_lookup rfl _ _ _ _ rfl _ _ rfl rfl ?_) | (at_delete; refine wl_delete rfl _ _ _ _ rfl _ _ rfl rfl ?_) | (with_reducible refine wl_len rfl _ _ rfl _ rfl ?_) | (with_reducible refine wl_range rfl _ _ rfl _ rfl ?_) | (with_reducible refine wl_next rfl _ rfl _ rfl ?_) | (with_reducible refine wl_copy rfl _ _ _ _ rfl _ _ rfl rfl ?_) | (with_reducible refine wl_max rfl _ _ _ _ rfl _ _ rfl rfl ?_) | (with_reducible refine wl_min rfl _ _ _ _ rfl _ _ rfl rfl ?_))
  refine ⟨fun _ => ⟨c1, trivial⟩, ?_⟩
  refine sig_effg (o := ⟨some 26, _, _, _, _, _⟩) rfl (by rfl) (fun K hKe => ?_)
  go_wp2_with (first | (at_builtin; refine wl_append rfl _ _ _ _ rfl _ _ rfl rfl ?_) | (at_make; refine wl_make rfl _ _ _ rfl _ _ rfl rfl ?_) | (at_mapUpdate; refine wl_mapUpdate rfl _ _ _ _ rfl _ _ _ rfl rfl rfl ?_) | (at_lookup; refine wl_lookup rfl _ _ _ _ rfl _ _ rfl rfl ?_) | (at_delete; refine wl_delete rfl _ _ _ _ rfl _ _ rfl rfl ?_) | (with_reducible refine wl_len rfl _ _ rfl _ rfl ?_) | (with_reducible refine wl_range rfl _ _ rfl _ rfl ?_) | (with_reducible refine wl_next rfl _ rfl _ rfl ?_) | (with_reducible refine wl_copy rfl _ _ _ _ rfl _ _ rfl rfl ?_) | (with_reducible refine wl_max rfl _ _ _ _ rfl _ _ rfl rfl ?_) | (with_reducible refine wl_min rfl _ _ _ _ rfl _ _ rfl rfl ?_))
  refine (rused_any hD hs hf hn hN).mono ?_
  rintro e x4 ⟨rfl, k3⟩
  replace hkW := hkW.trans' k3
  replace hBW := hBW.keep k3 fun h => h
  replace hO := hO.keep k3 fun _ _ h => h
  replace hD := hD.no k3
  replace hl2 := Sl.keep hl2 k3 fun _ _ _ h => h
  replace hm2 := Sl.keep hm2 k3 fun _ _ _ h => h
  clear k3 c1
  have c1 := hBW.cell
  go_wp2_with (first | (at_builtin; refine wl_append rfl _ _ _ _ rfl _ _ rfl rfl ?_) | (at_make; refine wl_make rfl _ _ _ rfl _ _ rfl rfl ?_) | (at_mapUpdate; refine wl_mapUpdate rfl _ _ _ _ rfl _ _ _ rfl rfl rfl ?_) | (at_lookup; refine wl_lookup rfl _ _ _ _ rfl _ _ rfl rfl ?_) | (at_delete; refine wl_delete rfl _ _ _ _ rfl _ _ rfl rfl ?_) | (with_reducible refine wl_len rfl _ _ rfl _ rfl ?_) | (with_reducible refine wl_range rfl _ _ rfl _ rfl ?_) | (with_reducible refine wl_next rfl _ rfl _ rfl ?_) | (with_reducible refine wl_copy rfl _ _ _ _ rfl _ _ rfl rfl ?_) | (with_reducible refine wl_max rfl _ _ _ _ rfl _ _ rfl rfl ?_) | (with_reducible refine wl_min rfl _ _ _ _ rfl _ _ rfl rfl ?_))
  refine ⟨fun _ => ⟨c1, trivial⟩, ?_⟩
  apply sig_guard (o := ⟨some 27, _, _, _, _, _⟩) rfl (by rfl)
  · intro w' hS
    obtain ⟨q1, q2⟩ := hS
    first | (go_simp; done) | (go_simp; rfl) | rfl
  go_frame
  apply sig_still (o := ⟨some 28, _, _, _, _, _⟩) rfl rfl
  · intro w' hS
    obtain ⟨q1, q2⟩ := hS
    first | (go_simp; done) | (go_simp; rfl) | rfl
  go_frame
  apply sig_still (o := ⟨some 29, _, _, _, _, _⟩) rfl rfl
  · intro w' hS
    obtain ⟨q1, q2⟩ := hS
    first | (go_simp; done) | (go_simp; rfl) | rfl
  go_frame
  apply sig_guard (o := ⟨some 30, _, _, _, _, _⟩) rfl (by rfl)
  · intro w' hS
    obtain ⟨q1, q2⟩ := hS
    first | (go_simp; done) | (go_simp; rfl) | rfl
  go_frame
  apply sig_guard (o := ⟨some 32, _, _, _, _, _⟩) rfl (by rfl)
  · intro w' hS
    obtain ⟨q1, q2⟩ := hS
    first | (go_simp; done) | (go_simp; rfl) | rfl
  go_frame
  apply sig_guard (o := ⟨some 33, _, _, _, _, _⟩) rfl (by rfl)
  · intro w' hS
    obtain ⟨q1, q2⟩ := hS
    first | (go_simp; done) | (go_simp; rfl) | rfl
  go_frame
  apply sig_guard (o := ⟨some 34, _, _, _, _, _⟩) rfl (by rfl)
  · intro w' hS
    obtain ⟨q1, q2⟩ := hS
    first | (go_simp; done) | (go_simp; rfl) | rfl
  go_frame
  refine sig_effg (o := ⟨some 31, _, _, _, _, _⟩) rfl (by rfl) (fun K hKe => ?_)
  go_wp2_with (first | (at_builtin; refine wl_append rfl _ _ _ _ rfl _ _ rfl rfl ?_) | (at_make; refine wl_make rfl _ _ _ rfl _ _ rfl rfl ?_) | (at_mapUpdate; refine wl_mapUpdate rfl _ _ _ _ rfl _ _ _ rfl rfl rfl ?_) | (at_lookup; refine wl_lookup rfl _ _ _ _ rfl _ _ rfl rfl ?_) | (at_delete; refine wl_delete rfl _ _ _ _ rfl _ _ rfl rfl ?_) | (with_reducible refine wl_len rfl _ _ rfl _ rfl ?_) | (with_reducible refine wl_range rfl _ _ rfl _ rfl ?_) | (with_reducible refine wl_next rfl _ rfl _ rfl ?_) | (with_reducible refine wl_copy rfl _ _ _ _ rfl _ _ rfl rfl ?_) | (with_reducible refine wl_max rfl _ _ _ _ rfl _ _ rfl rfl ?_) | (with_reducible refine wl_min rfl _ _ _ _ rfl _ _ rfl rfl ?_))
  refine (pending_any _ hO).mono ?_
  rintro e x5 ⟨rfl, rfl⟩
  go_wp2_with (first | (at_builtin; refine wl_append rfl _ _ _ _ rfl _ _ rfl rfl ?_) | (at_make; refine wl_make rfl _ _ _ rfl _ _ rfl rfl ?_) | (at_mapUpdate; refine wl_mapUpdate rfl _ _ _ _ rfl _ _ _ rfl rfl rfl ?_) | (at_lookup; refine wl_lookup rfl _ _ _ _ rfl _ _ rfl rfl ?_) | (at_delete; refine wl_delete rfl _ _ _ _ rfl _ _ rfl rfl ?_) | (with_reducible refine wl_len rfl _ _ rfl _ rfl ?_) | (with_reducible refine wl_range rfl _ _ rfl _ rfl ?_) | (with_reducible refine wl_next rfl _ rfl _ rfl ?_) | (with_reducible refine wl_copy rfl _ _ _ _ rfl _ _ rfl rfl ?_) | (with_reducible refine wl_max rfl _ _ _ _ rfl _ _ rfl rfl ?_) | (with_reducible refine wl_min rfl _ _ _ _ rfl _ _ rfl rfl ?_))
  refine ⟨fun _ => ⟨c1, trivial⟩, ?_⟩
  apply sig_guard (o := ⟨some 35, _, _, _, _, _⟩) rfl (by rfl)
  · intro w' hS
    obtain ⟨q1, q2⟩ := hS
    first | (go_simp; done) | (go_simp; rfl) | rfl
  go_frame
  apply sig_still (o := ⟨some 36, _, _, _, _, _⟩) rfl rfl
  · intro w' hS
    obtain ⟨q1, q2⟩ := hS
    first | (go_simp; done) | (go_simp; rfl) | rfl
  go_frame
  apply sig_still (o := ⟨some 37, _, _, _, _, _⟩) rfl rfl
  · intro w' hS
    obtain ⟨q1, q2⟩ := hS
    first | (go_simp; done) | (go_simp; rfl) | rfl
  go_frame
  apply sig_guard (o := ⟨some 38, _, _, _, _, _⟩) rfl (by rfl)
  · intro w' hS
    obtain ⟨q1, q2⟩ := hS
    first | (go_simp; done) | (go_simp; rfl) | rfl
  go_frame
  apply sig_guard (o := ⟨some 40, _, _, _, _, _⟩) rfl (by rfl)
  · intro w' hS
    obtain ⟨q1, q2⟩ := hS
    first | (go_simp; done) | (go_simp; rfl) | rfl
  go_frame
  apply sig_guard (o := ⟨some 41, _, _, _, _, _⟩) rfl (by rfl)
  · intro w' hS
    obtain ⟨q1, q2⟩ := hS
    first | (go_simp; done) | (go_simp; rfl) | rfl
  go_frame
  refine sig_effg (o := ⟨some 39, _, _, _, _, _⟩) rfl (by rfl) (fun K hKe => ?_)
  go_wp2_with (first | (at_builtin; refine wl_append rfl _ _ _ _ rfl _ _ rfl rfl ?_) | (at_make; refine wl_make rfl _ _ _ rfl _ _ rfl rfl ?_) | (at_mapUpdate; refine wl_mapUpdate rfl _ _ _ _ rfl _ _ _ rfl rfl rfl ?_) | (at_lookup; refine wl_lookup rfl _ _ _ _ rfl _ _ rfl rfl ?_) | (at_delete; refine wl_delete rfl _ _ _ _ rfl _ _ rfl rfl ?_) | (with_reducible refine wl_len rfl _ _ rfl _ rfl ?_) | (with_reducible refine wl_range rfl _ _ rfl _ rfl ?_) | (with_reducible refine wl_next rfl _ rfl _ rfl ?_) | (with_reducible refine wl_copy rfl _ _ _ _ rfl _ _ rfl rfl ?_) | (with_reducible refine wl_max rfl _ _ _ _ rfl _ _ rfl rfl ?_) | (with_reducible refine wl_min rfl _ _ _ _ rfl _ _ rfl rfl ?_))
  refine (off_any _ hO).mono ?_
  rintro e x5 ⟨rfl, rfl⟩
  go_wp2_with (first | (at_builtin; refine wl_append rfl _ _ _ _ rfl _ _ rfl rfl ?_) | (at_make; refine wl_make rfl _ _ _ rfl _ _ rfl rfl ?_) | (at_mapUpdate; refine wl_mapUpdate rfl _ _ _ _ rfl _ _ _ rfl rfl rfl ?_) | (at_lookup; refine wl_lookup rfl _ _ _ _ rfl _ _ rfl rfl ?_) | (at_delete; refine wl_delete rfl _ _ _ _ rfl _ _ rfl rfl ?_) | (with_reducible refine wl_len rfl _ _ rfl _ rfl ?_) | (with_reducible refine wl_range rfl _ _ rfl _ rfl ?_) | (with_reducible refine wl_next rfl _ rfl _ rfl ?_) | (with_reducible refine wl_copy rfl _ _ _ _ rfl _ _ rfl rfl ?_) | (with_reducible refine wl_max rfl _ _ _ _ rfl _ _ rfl rfl ?_) | (with_reducible refine wl_min rfl _ _ _ _ rfl _ _ rfl rfl ?_))
  refine ⟨fun _ => ⟨c1, trivial⟩, ?_⟩
  apply sig_guard (o := ⟨some 42, _, _, _, _, _⟩) rfl (by rfl)
  · intro w' hS
    obtain ⟨q1, q2⟩ := hS
    first | (go_simp; done) | (go_simp; rfl) | rfl
  go_frame
  apply sig_still (o := ⟨some 43, _, _, _, _, _⟩) rfl rfl
  · intro w' hS
    obtain ⟨q1, q2⟩ := hS
    first | (go_simp; done) | (go_simp; rfl) | rfl
  go_frame
  refine sig_nil ?_
  go_wp2_with (first | (at_builtin; refine wl_append rfl _ _ _ _ rfl _ _ rfl rfl ?_) | (at_make; refine wl_make rfl _ _ _ rfl _ _ rfl rfl ?_) | (at_mapUpdate; refine wl_mapUpdate rfl _ _ _ _ rfl _ _ _ rfl rfl rfl ?_) | (at_lookup; refine wl_lookup rfl _ _ _ _ rfl _ _ rfl rfl ?_) | (at_delete; refine wl_delete rfl _ _ _ _ rfl _ _ rfl rfl ?_) | (with_reducible refine wl_len rfl _ _ rfl _ rfl ?_) | (with_reducible refine wl_range rfl _ _ rfl _ rfl ?_) | (with_reducible refine wl_next rfl _ rfl _ rfl ?_) | (with_reducible refine wl_copy rfl _ _ _ _ rfl _ _ rfl rfl ?_) | (with_reducible refine wl_max rfl _ _ _ _ rfl _ _ rfl rfl ?_) | (with_reducible refine wl_min rfl _ _ _ _ rfl _ _ rfl rfl ?_))
  go_loopw [7] (fun iv wr => ∃ k : Nat, iv = .int .i64 k ∧ k ≤ (namesOf m).length ∧ Keep No x4 wr) (fun iv _ => (namesOf m).length - (intOf iv).toNat)
  case atStart => exact ⟨0, rfl, Nat.zero_le _, Keep.refl _ _⟩
  case round =>
    obtain ⟨k, rfl, hk, hKi⟩ := hrel
    replace hl2 := Sl.keep hl2 hKi fun _ _ _ h => h
    replace hm2 := Sl.keep hm2 hKi fun _ _ _ h => h
    rcases Nat.lt_or_ge k (namesOf m).length with hkl | hkl
    · obtain ⟨g1, o1, c1', e1, _, _, _, _, hc1⟩ := hl2.at (Nat.lt_of_le_of_lt (Nat.zero_le k) hkl)
      obtain ⟨g2, o2, c2', e2, _, _, _, _, hc2⟩ := hm2.at (Nat.lt_of_le_of_lt (Nat.zero_le k) hkl)
      cases e1
      cases e2
      have q1 : wr.cell? ⟨g1, o1 + k, none⟩ = some (.string ⟨(namesOf m)[k].toArray⟩) := hc1 k _ (by rw [List.getElem?_map, List.getElem?_eq_getElem hkl]; rfl)
      have q2 : wr.cell? ⟨g2, o2 + k, none⟩ = some (.string ⟨(namesOf m)[k].toArray⟩) := hc2 k _ (by rw [List.getElem?_map, List.getElem?_eq_getElem hkl]; rfl)
      have hkl' : (k : Int) < ((namesOf m).length : Int) := by omega
      clear hc1 hc2
      generalize (namesOf m)[k] = nk at *
      go_wp2_with (first | (at_builtin; refine wl_append rfl _ _ _ _ rfl _ _ rfl rfl ?_) | (at_make; refine wl_make rfl _ _ _ rfl _ _ rfl rfl ?_) | (at_mapUpdate; refine wl_mapUpdate rfl _ _ _ _ rfl _ _ _ rfl rfl rfl ?_) | (at_lookup; refine wl_lookup rfl _ _ _ _ rfl _ _ rfl rfl ?_) | (at_delete; refine wl_delete rfl _ _ _ _ rfl _ _ rfl rfl ?_) | (with_reducible refine wl_len rfl _ _ rfl _ rfl ?_) | (with_reducible refine wl_range rfl _ _ rfl _ rfl ?_) | (with_reducible refine wl_next rfl _ rfl _ rfl ?_) | (with_reducible refine wl_copy rfl _ _ _ _ rfl _ _ rfl rfl ?_) | (with_reducible refine wl_max rfl _ _ _ _ rfl _ _ rfl rfl ?_) | (with_reducible refine wl_min rfl _ _ _ _ rfl _ _ rfl rfl ?_))
      go_quiet (fail)
      go_wp2_with (first | (at_builtin; refine wl_append rfl _ _ _ _ rfl _ _ rfl rfl ?_) | (at_make; refine wl_make rfl _ _ _ rfl _ _ rfl rfl ?_) | (at_mapUpdate; refine wl_mapUpdate rfl _ _ _ _ rfl _ _ _ rfl rfl rfl ?_) | (at_lookup; refine wl_lookup rfl _ _ _ _ rfl _ _ rfl rfl ?_) | (at_delete; refine wl_delete rfl _ _ _ _ rfl _ _ rfl rfl ?_) | (with_reducible refine wl_len rfl _ _ rfl _ rfl ?_) | (with_reducible refine wl_range rfl _ _ rfl _ rfl ?_) | (with_reducible refine wl_next rfl _ rfl _ rfl ?_) | (with_reducible refine wl_copy rfl _ _ _ _ rfl _ _ rfl rfl ?_) | (with_reducible refine wl_max rfl _ _ _ _ rfl _ _ rfl rfl ?_) | (with_reducible refine wl_min rfl _ _ _ _ rfl _ _ rfl rfl ?_))
      go_roundw
      case rel => exact ⟨k + 1, by go_num, hkl, hKi.drewN _⟩
      case measure => simp [intOf]; omega
    · obtain rfl : k = (namesOf m).length := Nat.le_antisymm hk hkl
      replace hkW := hkW.trans' hKi
      replace hBW := hBW.keep hKi fun h => h
      replace hO := hO.keep hKi fun _ _ h => h
      replace hD := hD.no hKi
      clear hl2 hm2 c1 hKi hk
      go_wp2_with (first | (at_builtin; refine wl_append rfl _ _ _ _ rfl _ _ rfl rfl ?_) | (at_make; refine wl_make rfl _ _ _ rfl _ _ rfl rfl ?_) | (at_mapUpdate; refine wl_mapUpdate rfl _ _ _ _ rfl _ _ _ rfl rfl rfl ?_) | (at_lookup; refine wl_lookup rfl _ _ _ _ rfl _ _ rfl rfl ?_) | (at_delete; refine wl_delete rfl _ _ _ _ rfl _ _ rfl rfl ?_) | (with_reducible refine wl_len rfl _ _ rfl _ rfl ?_) | (with_reducible refine wl_range rfl _ _ rfl _ rfl ?_) | (with_reducible refine wl_next rfl _ rfl _ rfl ?_) | (with_reducible refine wl_copy rfl _ _ _ _ rfl _ _ rfl rfl ?_) | (with_reducible refine wl_max rfl _ _ _ _ rfl _ _ rfl rfl ?_) | (with_reducible refine wl_min rfl _ _ _ _ rfl _ _ rfl rfl ?_))
      go_loopw [8] (fun iv wr2 => ∃ k : Nat, iv = .int .i64 k ∧ k ≤ 4 ∧ Keep No wr wr2) (fun iv _ => 4 - (intOf iv).toNat)
      case atStart => exact ⟨0, rfl, by omega, Keep.refl _ _⟩
      case round =>
        clear hkl
        obtain ⟨k, rfl, hk, hKi⟩ := hrel
        rcases Nat.lt_or_ge k 4 with hk4 | hk4
        · have hk4' : (k : Int) < 4 := by omega
          replace hO := hO.keep hKi fun _ _ h => h
          replace hD := hD.no hKi
          have hBi := hBW.keep hKi fun h => h
          have hnl := nm_len k
          go_wp2_with (first | (at_builtin; refine wl_append rfl _ _ _ _ rfl _ _ rfl rfl ?_) | (at_make; refine wl_make rfl _ _ _ rfl _ _ rfl rfl ?_) | (at_mapUpdate; refine wl_mapUpdate rfl _ _ _ _ rfl _ _ _ rfl rfl rfl ?_) | (at_lookup; refine wl_lookup rfl _ _ _ _ rfl _ _ rfl rfl ?_) | (at_delete; refine wl_delete rfl _ _ _ _ rfl _ _ rfl rfl ?_) | (with_reducible refine wl_len rfl _ _ rfl _ rfl ?_) | (with_reducible refine wl_range rfl _ _ rfl _ rfl ?_) | (with_reducible refine wl_next rfl _ rfl _ rfl ?_) | (with_reducible refine wl_copy rfl _ _ _ _ rfl _ _ rfl rfl ?_) | (with_reducible refine wl_max rfl _ _ _ _ rfl _ _ rfl rfl ?_) | (with_reducible refine wl_min rfl _ _ _ _ rfl _ _ rfl rfl ?_))
          refine (nm_any _ _).mono ?_
          rintro e y1 ⟨rfl, k1⟩
          go_wp2_with (first | (at_builtin; refine wl_append rfl _ _ _ _ rfl _ _ rfl rfl ?_) | (at_make; refine wl_make rfl _ _ _ rfl _ _ rfl rfl ?_) | (at_mapUpdate; refine wl_mapUpdate rfl _ _ _ _ rfl _ _ _ rfl rfl rfl ?_) | (at_lookup; refine wl_lookup rfl _ _ _ _ rfl _ _ rfl rfl ?_) | (at_delete; refine wl_delete rfl _ _ _ _ rfl _ _ rfl rfl ?_) | (with_reducible refine wl_len rfl _ _ rfl _ rfl ?_) | (with_reducible refine wl_range rfl _ _ rfl _ rfl ?_) | (with_reducible refine wl_next rfl _ rfl _ rfl ?_) | (with_reducible refine wl_copy rfl _ _ _ _ rfl _ _ rfl rfl ?_) | (with_reducible refine wl_max rfl _ _ _ _ rfl _ _ rfl rfl ?_) | (with_reducible refine wl_min rfl _ _ _ _ rfl _ _ rfl rfl ?_))
          refine (read_own (nm k) (hO.keep k1 fun _ _ h => h) hs hN (by omega)).mono ?_
          rintro e y2 ⟨v', rfl, hx, k2⟩
          replace k1 := k1.trans' k2
          replace hD := hD.no k1
          replace hBi := hBi.keep k1 fun h => h
          have c1 := hBi.cell
          obtain ⟨ax, cx, rfl, _, _⟩ := (Sl.of_own hx).shape
          clear hO k2
          go_wp2_with (first | (at_builtin; refine wl_append rfl _ _ _ _ rfl _ _ rfl rfl ?_) | (at_make; refine wl_make rfl _ _ _ rfl _ _ rfl rfl ?_) | (at_mapUpdate; refine wl_mapUpdate rfl _ _ _ _ rfl _ _ _ rfl rfl rfl ?_) | (at_lookup; refine wl_lookup rfl _ _ _ _ rfl _ _ rfl rfl ?_) | (at_delete; refine wl_delete rfl _ _ _ _ rfl _ _ rfl rfl ?_) | (with_reducible refine wl_len rfl _ _ rfl _ rfl ?_) | (with_reducible refine wl_range rfl _ _ rfl _ rfl ?_) | (with_reducible refine wl_next rfl _ rfl _ rfl ?_) | (with_reducible refine wl_copy rfl _ _ _ _ rfl _ _ rfl rfl ?_) | (with_reducible refine wl_max rfl _ _ _ _ rfl _ _ rfl rfl ?_) | (with_reducible refine wl_min rfl _ _ _ _ rfl _ _ rfl rfl ?_))
          refine wp_region_sig (fun w' => (∀ i, w'.cell? ⟨w.heap.size, i, none⟩ = #[.int .i64 m.room, .slice a1 m.is.length d1, .slice a2 m.sure.length d2, .slice a3 m.L.length d3, .slice a4 m.S.length d4, .slice a5 m.wait.length d5, .bool m.off, .int .i64 m.cut][i]?) ∧ True) (fun j => decide (j ≤ 99)) [(0, true), (1, true), (2, false), (3, false), (4, true), (5, true), (6, true), (7, true), (8, true)] (by kernel_rfl) (by kernel_rfl) (by intro c a d v w h; cases d <;> exact h) ⟨c1, trivial⟩ ?_
          apply sig_still (o := ⟨some 71, _, _, _, _, _⟩) rfl rfl
          · intro w' hS
            obtain ⟨q1, q2⟩ := hS
            first | (go_simp; done) | (go_simp; rfl) | rfl
          go_frame
          apply sig_still (o := ⟨some 72, _, _, _, _, _⟩) rfl rfl
          · intro w' hS
            obtain ⟨q1, q2⟩ := hS
            first | (go_simp; done) | (go_simp; rfl) | rfl
          go_frame
          refine sig_eff (o := ⟨some 73, _, _, _, _, _⟩) rfl rfl (fun K hKe => ?_)
          go_wp2_with (first | (at_builtin; refine wl_append rfl _ _ _ _ rfl _ _ rfl rfl ?_) | (at_make; refine wl_make rfl _ _ _ rfl _ _ rfl rfl ?_) | (at_mapUpdate; refine wl_mapUpdate rfl _ _ _ _ rfl _ _ _ rfl rfl rfl ?_) | (at_lookup; refine wl_lookup rfl _ _ _ _ rfl _ _ rfl rfl ?_) | (at_delete; refine wl_delete rfl _ _ _ _ rfl _ _ rfl rfl ?_) | (with_reducible refine wl_len rfl _ _ rfl _ rfl ?_) | (with_reducible refine wl_range rfl _ _ rfl _ rfl ?_) | (with_reducible refine wl_next rfl _ rfl _ rfl ?_) | (with_reducible refine wl_copy rfl _ _ _ _ rfl _ _ rfl rfl ?_) | (with_reducible refine wl_max rfl _ _ _ _ rfl _ _ rfl rfl ?_) | (with_reducible refine wl_min rfl _ _ _ _ rfl _ _ rfl rfl ?_))
          refine (nm_any _ _).mono ?_
          rintro e y3 ⟨rfl, k3⟩
          replace k3 : Keep No y2 y3 := ⟨k3.os, k3.tape, k3.output, k3.size, k3.block⟩
          replace hD := hD.no k3
          replace hBi := hBi.keep k3 fun h => h
          replace c1 := hBi.cell
          go_wp2_with (first | (at_builtin; refine wl_append rfl _ _ _ _ rfl _ _ rfl rfl ?_) | (at_make; refine wl_make rfl _ _ _ rfl _ _ rfl rfl ?_) | (at_mapUpdate; refine wl_mapUpdate rfl _ _ _ _ rfl _ _ _ rfl rfl rfl ?_) | (at_lookup; refine wl_lookup rfl _ _ _ _ rfl _ _ rfl rfl ?_) | (at_delete; refine wl_delete rfl _ _ _ _ rfl _ _ rfl rfl ?_) | (with_reducible refine wl_len rfl _ _ rfl _ rfl ?_) | (with_reducible refine wl_range rfl _ _ rfl _ rfl ?_) | (with_reducible refine wl_next rfl _ rfl _ rfl ?_) | (with_reducible refine wl_copy rfl _ _ _ _ rfl _ _ rfl rfl ?_) | (with_reducible refine wl_max rfl _ _ _ _ rfl _ _ rfl rfl ?_) | (with_reducible refine wl_min rfl _ _ _ _ rfl _ _ rfl rfl ?_))
          refine ⟨fun _ => ⟨c1, trivial⟩, ?_⟩
          refine sig_eff (o := ⟨some 74, _, _, _, _, _⟩) rfl rfl (fun K hKe => ?_)
          go_wp2_with (first | (at_builtin; refine wl_append rfl _ _ _ _ rfl _ _ rfl rfl ?_) | (at_make; refine wl_make rfl _ _ _ rfl _ _ rfl rfl ?_) | (at_mapUpdate; refine wl_mapUpdate rfl _ _ _ _ rfl _ _ _ rfl rfl rfl ?_) | (at_lookup; refine wl_lookup rfl _ _ _ _ rfl _ _ rfl rfl ?_) | (at_delete; refine wl_delete rfl _ _ _ _ rfl _ _ rfl rfl ?_) | (with_reducible refine wl_len rfl _ _ rfl _ rfl ?_) | (with_reducible refine wl_range rfl _ _ rfl _ rfl ?_) | (with_reducible refine wl_next rfl _ rfl _ rfl ?_) | (with_reducible refine wl_copy rfl _ _ _ _ rfl _ _ rfl rfl ?_) | (with_reducible refine wl_max rfl _ _ _ _ rfl _ _ rfl rfl ?_) | (with_reducible refine wl_min rfl _ _ _ _ rfl _ _ rfl rfl ?_))
          refine (rread_any (n := 0) (N := 0) (nm k) hD hf).mono ?_
          rintro e y4 ⟨rfl, k4⟩
          replace k3 := k3.trans' k4
          replace hBi := hBi.keep k4 fun h => h
          replace c1 := hBi.cell
          have hc1 := conv_str (Sl.keep (Sl.of_own hx) k3 fun _ _ _ h => h)
          clear hD
          go_wp2_with (first | (at_builtin; refine wl_append rfl _ _ _ _ rfl _ _ rfl rfl ?_) | (at_make; refine wl_make rfl _ _ _ rfl _ _ rfl rfl ?_) | (at_mapUpdate; refine wl_mapUpdate rfl _ _ _ _ rfl _ _ _ rfl rfl rfl ?_) | (at_lookup; refine wl_lookup rfl _ _ _ _ rfl _ _ rfl rfl ?_) | (at_delete; refine wl_delete rfl _ _ _ _ rfl _ _ rfl rfl ?_) | (with_reducible refine wl_len rfl _ _ rfl _ rfl ?_) | (with_reducible refine wl_range rfl _ _ rfl _ rfl ?_) | (with_reducible refine wl_next rfl _ rfl _ rfl ?_) | (with_reducible refine wl_copy rfl _ _ _ _ rfl _ _ rfl rfl ?_) | (with_reducible refine wl_max rfl _ _ _ _ rfl _ _ rfl rfl ?_) | (with_reducible refine wl_min rfl _ _ _ _ rfl _ _ rfl rfl ?_))
          refine ⟨fun _ => ⟨c1, trivial⟩, ?_⟩
          apply sig_still (o := ⟨some 70, _, _, _, _, _⟩) rfl rfl
          · intro w' hS
            obtain ⟨q1, q2⟩ := hS
            first | (go_simp; done) | (go_simp; rfl) | rfl
          go_frame
          apply sig_still (o := ⟨some 75, _, _, _, _, _⟩) rfl rfl
          · intro w' hS
            obtain ⟨q1, q2⟩ := hS
            first | (go_simp; done) | (go_simp; rfl) | rfl
          go_frame
          apply sig_still (o := ⟨some 76, _, _, _, _, _⟩) rfl rfl
          · intro w' hS
            obtain ⟨q1, q2⟩ := hS
            first | (go_simp; done) | (go_simp; rfl) | rfl
          go_frame
          apply sig_still (o := ⟨some 11, _, _, _, _, _⟩) rfl rfl
          · intro w' hS
            obtain ⟨q1, q2⟩ := hS
            first | (go_simp; done) | (go_simp; rfl) | rfl
          go_frame
          apply sig_still (o := ⟨some 12, _, _, _, _, _⟩) rfl rfl
          · intro w' hS
            obtain ⟨q1, q2⟩ := hS
            first | (go_simp; done) | (go_simp; rfl) | rfl
          go_frame
          refine sig_nil ?_
          go_wp2_with (first | (at_builtin; refine wl_append rfl _ _ _ _ rfl _ _ rfl rfl ?_) | (at_make; refine wl_make rfl _ _ _ rfl _ _ rfl rfl ?_) | (at_mapUpdate; refine wl_mapUpdate rfl _ _ _ _ rfl _ _ _ rfl rfl rfl ?_) | (at_lookup; refine wl_lookup rfl _ _ _ _ rfl _ _ rfl rfl ?_) | (at_delete; refine wl_delete rfl _ _ _ _ rfl _ _ rfl rfl ?_) | (with_reducible refine wl_len rfl _ _ rfl _ rfl ?_) | (with_reducible refine wl_range rfl _ _ rfl _ rfl ?_) | (with_reducible refine wl_next rfl _ rfl _ rfl ?_) | (with_reducible refine wl_copy rfl _ _ _ _ rfl _ _ rfl rfl ?_) | (with_reducible refine wl_max rfl _ _ _ _ rfl _ _ rfl rfl ?_) | (with_reducible refine wl_min rfl _ _ _ _ rfl _ _ rfl rfl ?_))
          go_roundw
          case rel => exact ⟨k + 1, by go_num, by omega, (hKi.trans' k1).trans' k3⟩
          case measure => simp [intOf]; omega
        · obtain rfl : k = 4 := by omega
          go_wp2_with (first | (at_builtin; refine wl_append rfl _ _ _ _ rfl _ _ rfl rfl ?_) | (at_make; refine wl_make rfl _ _ _ rfl _ _ rfl rfl ?_) | (at_mapUpdate; refine wl_mapUpdate rfl _ _ _ _ rfl _ _ _ rfl rfl rfl ?_) | (at_lookup; refine wl_lookup rfl _ _ _ _ rfl _ _ rfl rfl ?_) | (at_delete; refine wl_delete rfl _ _ _ _ rfl _ _ rfl rfl ?_) | (with_reducible refine wl_len rfl _ _ rfl _ rfl ?_) | (with_reducible refine wl_range rfl _ _ rfl _ rfl ?_) | (with_reducible refine wl_next rfl _ rfl _ rfl ?_) | (with_reducible refine wl_copy rfl _ _ _ _ rfl _ _ rfl rfl ?_) | (with_reducible refine wl_max rfl _ _ _ _ rfl _ _ rfl rfl ?_) | (with_reducible refine wl_min rfl _ _ _ _ rfl _ _ rfl rfl ?_))
          go_ret
          exact ⟨rfl, hkW.trans' hKi⟩
end Go.Proofs.Ytkmoomgmmhmaeaa
namespace Go.Dm.Dk

def mine : List UInt8 := [109, 105, 110, 101]
def OpOk (o : Op) : Prop := (o.kind = 1 → o.file ≠ 0) ∧ (o.kind = 2 → o.file ≠ 0) ∧ (o.kind ≠ 1 → o.frm ≠ mine ∧ o.to ≠ mine)
def Uniq (L : Names) : Prop := ∀ p ∈ L, p.2 = 0 → p.1 = mine
structure SureInv (m : M) (body : List UInt8) : Prop where
  fS : find m.S mine = some 0
  s0 : m.sure.getD 0 [] = body
  uS : Uniq m.S
  uL : Uniq m.L
  wt : ∀ o ∈ m.wait, OpOk o
  len : 0 < m.is.length
  ln : m.sure.length = m.is.length

theorem find_without {L : Names} {s t : List UInt8} (h : t ≠ s) : find (without L t) s = find L s := by
  unfold find without
  congr 1
  rw [List.find?_filter]
  congr 1
  funext p
  by_cases e : p.1 = s
  · subst e; simp [Ne.symm h]
  · simp [e]
theorem find_withN {L : Names} {s t : List UInt8} {i : Nat} (h : t ≠ s) : find (withN L t i) s = find L s := by
  unfold withN
  have h1 : find (without L t ++ [(t, i)]) s = find (without L t) s := by
    unfold find
    rw [List.find?_append]
    cases (without L t).find? (fun p => p.1 == s) with
    | some q => rfl
    | none => simp [h]
  rw [h1, find_without h]
theorem find_namesOp {L : Names} {o : Op} (h : o.frm ≠ mine ∧ o.to ≠ mine) : find (namesOp L o) mine = find L mine := by
  unfold namesOp
  split
  · exact find_withN h.2
  · split
    · exact find_without h.1
    · split
      · rfl
      · rw [find_withN h.2, find_without h.1]
theorem uniq_without {L : Names} (h : Uniq L) (s : List UInt8) : Uniq (without L s) := fun p hp => h p (List.mem_filter.1 hp).1
theorem uniq_withN {L : Names} (h : Uniq L) {s : List UInt8} {i : Nat} (hi : i ≠ 0) : Uniq (withN L s i) := by
  intro p hp
  rcases List.mem_append.1 hp with hp | hp
  · exact uniq_without h s p hp
  · simp only [List.mem_singleton] at hp; subst hp; exact fun e => absurd e hi
theorem uniq_namesOp {L : Names} {o : Op} (h : Uniq L) (ho : OpOk o) (hk : o.kind ≠ 1) : Uniq (namesOp L o) := by
  unfold namesOp
  split
  · rename_i e; exact uniq_withN h (ho.2.1 e)
  · split
    · exact uniq_without h _
    · split
      · exact h
      · rename_i f hf
        exact uniq_withN (uniq_without h _) fun e => (ho.2.2 hk).1 (h _ (find_some_mem hf) e)

theorem wt_snoc {l : List Op} {o : Op} (h : ∀ o ∈ l, OpOk o) (ho : OpOk o) : ∀ p ∈ l ++ [o], OpOk p := by
  intro p hp
  rcases List.mem_append.1 hp with hp | hp
  · exact h p hp
  · simp only [List.mem_singleton] at hp; subst hp; exact ho
theorem SureInv.settle1 {m : M} {body : List UInt8} (h : SureInv m body) {o : Op} (ho : OpOk o) (sel : Bool) : SureInv (Dk.settle1 sel o m) body := by
  unfold Dk.settle1
  split
  · exact { h with wt := wt_snoc h.wt ho }
  · split
    · rename_i hk
      refine { h with s0 := ?_, ln := by simp only [putF, List.length_set]; exact h.ln }
      have hne := ho.1 hk
      show (putF m.sure o.file _).getD 0 [] = body
      rw [putF, List.getD_eq_getElem?_getD, List.getElem?_set_ne hne, ← List.getD_eq_getElem?_getD]
      exact h.s0
    · rename_i hk
      exact { h with fS := by show find (namesOp m.S o) mine = some 0; rw [find_namesOp (ho.2.2 hk)]; exact h.fS, uS := uniq_namesOp h.uS ho hk }
theorem SureInv.go {body : List UInt8} (sel : Nat → Bool) : ∀ (l : List Op) (i : Nat) (m : M), (∀ o ∈ l, OpOk o) → SureInv m body → SureInv (settleGo sel i l m) body
  | [], _, _, _, h => h
  | o :: r, i, m, hw, h => SureInv.go sel r (i + 1) _ (fun p hp => hw p (by simp [hp])) (h.settle1 (hw o (by simp)) (sel i))
theorem SureInv.settle {m : M} {body : List UInt8} (h : SureInv m body) (sel : Nat → Bool) : SureInv (Dk.settle m sel) body :=
  SureInv.go sel m.wait 0 { m with wait := [] } h.wt { h with wt := (fun o ho => by cases ho) }
theorem SureInv.crash {m : M} {body : List UInt8} (h : SureInv m body) (keep : List Bool) : SureInv (Dk.crash m keep) body := by
  have h1 := h.settle fun i => keep.getD i false
  exact ⟨h1.fS, h1.s0, h1.uS, h1.uS, (fun o ho => by cases ho), by have := h1.len; have := h1.ln; show 0 < (Dk.settle m fun i => keep.getD i false).sure.length; omega, rfl⟩
theorem SureInv.cutD {m : M} {body : List UInt8} (h : SureInv m body) (s : Int) : SureInv (Dk.cutD m s) body := by
  unfold Dk.cutD
  split
  · exact h
  · exact ⟨h.fS, h.s0, h.uS, h.uL, h.wt, h.len, h.ln⟩
theorem SureInv.waitN {m : M} {body : List UInt8} (h : SureInv m body) {o : Op} (ho : OpOk o) (hk : o.kind ≠ 1) : SureInv (waitD m o) body := by
  unfold waitD
  rw [if_neg hk]
  exact { h with uL := uniq_namesOp h.uL ho hk, wt := wt_snoc h.wt ho }
theorem SureInv.waitW {m : M} {body : List UInt8} (h : SureInv m body) {o : Op} (ho : OpOk o) (hk : o.kind = 1) : SureInv (waitD m o) body := by
  unfold waitD
  rw [if_pos hk]
  exact { h with len := by simp only [putF, List.length_set]; exact h.len, ln := by simp only [putF, List.length_set]; exact h.ln, wt := wt_snoc h.wt ho }
theorem SureInv.done {m : M} {body : List UInt8} (h : SureInv m body) {k : Nat} {a b : List UInt8} (at_ : Int) (bd : List UInt8) (ha : a ≠ mine) (hb : b ≠ mine) (hk : 1 ≤ k ∧ k ≤ 6) (hf : k = 2 → (find m.L a).isSome = true) : SureInv (Dk.done m k a b at_ bd) body := by
  have hn : ([] : List UInt8) ≠ mine := by decide
  have hk6 : k = 1 ∨ k = 2 ∨ k = 3 ∨ k = 4 ∨ k = 5 ∨ k = 6 := by omega
  rcases hk6 with rfl | rfl | rfl | rfl | rfl | rfl
  · refine SureInv.waitN (m := { m with is := m.is ++ [[]], sure := m.sure ++ [[]] }) { h with s0 := ?_, len := by simp, ln := by simp [h.ln] } ⟨(fun e => by cases e), (fun _ => by have := h.len; show m.is.length ≠ 0; omega), fun _ => ⟨hn, ha⟩⟩ (by simp)
    have hl : 0 < m.sure.length := by have := h.len; have := h.ln; omega
    show (m.sure ++ [[]]).getD 0 [] = body
    rw [List.getD_eq_getElem?_getD, List.getElem?_append_left hl, ← List.getD_eq_getElem?_getD]; exact h.s0
  · have hs := hf rfl
    cases hfd : find m.L a with
    | none => rw [hfd] at hs; cases hs
    | some f =>
      have hne : f ≠ 0 := fun e => ha (h.uL _ (find_some_mem hfd) e)
      show SureInv (waitD m ⟨1, (find m.L a).getD 0, at_.toNat, bd, [], []⟩) body
      rw [hfd]
      exact SureInv.waitW h ⟨fun _ => hne, (fun e => by cases e), fun e => absurd rfl e⟩ rfl
  · exact h.settle _
  · exact SureInv.waitN h ⟨(fun e => by cases e), (fun e => by cases e), fun _ => ⟨ha, hb⟩⟩ (by simp)
  · exact SureInv.waitN h ⟨(fun e => by cases e), (fun e => by cases e), fun _ => ⟨ha, hn⟩⟩ (by simp)
  · exact h.settle _
theorem SureInv.call {m : M} {body : List UInt8} (h : SureInv m body) {k : Nat} {a b : List UInt8} (at_ : Int) (bd : List UInt8) (ha : a ≠ mine) (hb : b ≠ mine) (hk : 1 ≤ k ∧ k ≤ 6) : SureInv (Dk.call m k a b at_ bd).1 body := by
  unfold Dk.call
  split
  · exact h
  · split
    · exact h
    · rename_i h0
      split
      · exact ⟨h.fS, h.s0, h.uS, h.uL, h.wt, h.len, h.ln⟩
      · refine SureInv.done (m := { m with cut := m.cut - 1 }) ⟨h.fS, h.s0, h.uS, h.uL, h.wt, h.len, h.ln⟩ at_ bd ha hb hk fun e => ?_
        subst e
        unfold own at h0
        simp only at h0
        cases hfd : find m.L a with
        | none => rw [hfd] at h0; simp at h0
        | some f => rfl
theorem SureInv.read {m : M} {body : List UInt8} (h : SureInv m body) (keep : List Bool) : readB (Dk.crash m keep) mine = body ∧ readE (Dk.crash m keep) mine = 0 := by
  have h1 := h.settle fun i => keep.getD i false
  have hf : find (Dk.crash m keep).L mine = some 0 := h1.fS
  have ho : (Dk.crash m keep).off = false := rfl
  constructor
  · simp only [readB, ho, hf]; exact h1.s0
  · simp [readE, ho, hf]

def ds1 : M := ⟨1048576, [[]], [[]], [(mine, 0)], [], [⟨2, 0, 0, [], [], mine⟩], false, 0⟩
def ds2 (b : List UInt8) : M := { ds1 with is := [b], wait := ds1.wait ++ [⟨1, 0, 0, b, [], []⟩] }
def ds3 (b : List UInt8) : M := ⟨1048576, [b], [b], [(mine, 0)], [], [⟨2, 0, 0, [], [], mine⟩], false, 0⟩
def ds4 (b : List UInt8) : M := ⟨1048576, [b], [b], [(mine, 0)], [(mine, 0)], [], false, 0⟩
theorem lay_nil (a : List UInt8) : laidB [] 0 a = a := by simp [laidB, splice]
theorem ds_1 : Dk.call (Dk.new 1048576) 1 mine [] 0 [] = (ds1, 0) := by kernel_rfl
theorem ds_f : find ds1.L mine = some 0 := by kernel_rfl
theorem ds_2 (b : List UInt8) (hb : b.length ≤ 500) : Dk.call ds1 2 mine [] 0 b = (ds2 b, 0) := by
  have hu : used ds1 = 0 := by kernel_rfl
  have hfl : fileLen ds1.is 0 = 0 := by kernel_rfl
  have hown : own ds1 2 mine [] 0 b = 0 := by
    simp only [own, ds_f, hfl, hu]
    rw [if_neg (by omega), if_neg (by simp [ds1]; omega)]
  have e : Dk.done { ds1 with cut := ds1.cut - 1 } 2 mine [] 0 b = ds2 b := by
    simp only [Dk.done, waitD]
    rw [show find ({ ds1 with cut := ds1.cut - 1 } : M).L mine = some 0 from ds_f]
    simp [ds1, ds2, putF, lay_nil]
  unfold Dk.call
  rw [hown]
  rw [if_neg (by decide), if_neg (by decide), if_neg (by decide), e]
theorem ds_3 (b : List UInt8) : Dk.call (ds2 b) 3 mine [] 0 [] = (ds3 b, 0) := by
  have e : Dk.call (ds2 b) 3 mine [] 0 [] = ({ ds3 b with sure := [laidB [] 0 b] }, 0) := by rfl
  rw [e, lay_nil]; rfl
theorem ds_4 (b : List UInt8) : Dk.call (ds3 b) 6 [] [] 0 [] = (ds4 b, 0) := by rfl
theorem ds_inv (b : List UInt8) : SureInv (ds4 b) b := ⟨by kernel_rfl, rfl, (fun p hp _ => by simp [ds4] at hp; rw [hp]), (fun p hp _ => by simp [ds4] at hp; rw [hp]), (fun o ho => by cases ho), by simp [ds4], rfl⟩
theorem nm_mine (i : Int) : Go.Proofs.Ytkmoomgmmhmaeaa.nm i ≠ mine := fun e => by
  have := Go.Proofs.Ytkmoomgmmhmaeaa.nm_len i
  rw [e] at this; simp [mine] at this
end Go.Dm.Dk
