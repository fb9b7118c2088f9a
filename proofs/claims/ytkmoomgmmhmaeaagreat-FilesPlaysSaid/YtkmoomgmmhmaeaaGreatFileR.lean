/- The reference of the files: Tidy. Replace: its steps are laid, and done. No condition. -/
import Derived.Test.YtkmoomgmmhmaeaaGreatRef11
import Derived.Test.YtkmoomgmmhmaeaaGreatLawAwake
import Derived.Test.YtkmoomgmmhmaeaaGreatSigT
import Derived.Test.YtkmoomgmmhmaeaaGreatRef3
import Derived.Test.YtkmoomgmmhmaeaaGreatDiskR
namespace Go.Proofs.YtkmoomgmmhmaeaaGreat
open Go.RowKit Go.Dm Go.Dm.Dk

set_option maxRecDepth 100000 in
set_option maxHeartbeats 16000000 in
theorem rtidy_any {A : Nat → Prop} {w : World} {v1 v2 v3 v4 v5 : Value} {m : M} {n N n2 : Nat} (h : DV A w v1 v2 v3 v4 v5 m) (hap : m.L.Pairwise (fun p q => p.1 ≠ q.1)) (hsm : Small m n N) (hfl : Files m n2)
    (hn : 2 * n + 10 ≤ 16000) (hN : N + 64 * (n + 10) ≤ 1000000) (hn2 : n2 + n + 10 ≤ 100000) (hnm : ∀ p ∈ m.L, p.1.length ≤ 64) :
    Calls Tryz.prog 10 #[dv m v1 v2 v3 v4 v5] w (RetD2 A w (tidyD m).1 (.int .i64 ((tidyD m).2 : Nat))) := by
  have hNn : (namesOf m).length ≤ n := by
    have h1 : (namesOf m).Perm (m.L.map (·.1)) := List.mergeSort_perm _ _
    rw [h1.length_eq, List.length_map]; exact hsm.L
  have hNo : ∀ s ∈ namesOf m, s.length ≤ 64 := by
    intro s hs
    have h1 : (namesOf m).Perm (m.L.map (·.1)) := List.mergeSort_perm _ _
    obtain ⟨p, hp, rfl⟩ := List.mem_map.1 (h1.mem_iff.1 hs)
    exact hnm p hp
  have hT : tidyD m = if tidyS (namesOf m) = [] then (m, 0) else runS m (tidyS (namesOf m) ++ [⟨6, [], [], 0, []⟩]) := rfl
  have HT := Lib.hid hT
  clear hT
  replace h := h.mono (B := fun k => A k ∧ k < w.heap.size) fun j hj ha => ⟨ha, hj⟩
  obtain ⟨a1, d1, a2, d2, a3, d3, a4, d4, a5, d5, rfl, rfl, rfl, rfl, rfl⟩ := h.shape
  unfold dv
  go_enter Tryz.func10, Tryz.ntmps10
  go_wp2_with (first | (at_builtin; refine wl_append rfl _ _ _ _ rfl _ _ rfl rfl ?_) | (at_make; refine wl_make rfl _ _ _ rfl _ _ rfl rfl ?_) | (at_mapUpdate; refine wl_mapUpdate rfl _ _ _ _ rfl _ _ _ rfl rfl rfl ?_) | (at_lookup; refine wl_lookup rfl _ _ _ _ rfl _ _ rfl rfl ?_) | (at_delete; refine wl_delete rfl _ _ _ _ rfl _ _ rfl rfl ?_) | (with_reducible refine wl_len rfl _ _ rfl _ rfl ?_) | (with_reducible refine wl_range rfl _ _ rfl _ rfl ?_) | (with_reducible refine wl_next rfl _ rfl _ rfl ?_) | (with_reducible refine wl_copy rfl _ _ _ _ rfl _ _ rfl rfl ?_) | (with_reducible refine wl_max rfl _ _ _ _ rfl _ _ rfl rfl ?_) | (with_reducible refine wl_min rfl _ _ _ _ rfl _ _ rfl rfl ?_))
  have hkW1 : Keep No w (w.alloc (.cells #[.int .i64 m.room, .slice a1 m.is.length d1, .slice a2 m.sure.length d2, .slice a3 m.L.length d3, .slice a4 m.S.length d4, .slice a5 m.wait.length d5, .bool m.off, .int .i64 m.cut] 30)) := (Keep.refl _ _).alloc _
  have hBW1 : Blk (w.alloc (.cells #[.int .i64 m.room, .slice a1 m.is.length d1, .slice a2 m.sure.length d2, .slice a3 m.L.length d3, .slice a4 m.S.length d4, .slice a5 m.wait.length d5, .bool m.off, .int .i64 m.cut] 30)) w.heap.size #[.int .i64 m.room, .slice a1 m.is.length d1, .slice a2 m.sure.length d2, .slice a3 m.L.length d3, .slice a4 m.S.length d4, .slice a5 m.wait.length d5, .bool m.off, .int .i64 m.cut] 30 := Blk.new _ _ _
  have hzW1 : (w.alloc (.cells #[.int .i64 m.room, .slice a1 m.is.length d1, .slice a2 m.sure.length d2, .slice a3 m.L.length d3, .slice a4 m.S.length d4, .slice a5 m.wait.length d5, .bool m.off, .int .i64 m.cut] 30)).heap.size = w.heap.size + 1 := World.size_alloc _ _
  generalize w.alloc (.cells #[.int .i64 m.room, .slice a1 m.is.length d1, .slice a2 m.sure.length d2, .slice a3 m.L.length d3, .slice a4 m.S.length d4, .slice a5 m.wait.length d5, .bool m.off, .int .i64 m.cut] 30) = W1 at *
  have hkW : Keep No W1 (W1.alloc (.cells #[.int .i64 0, .slice none 0 0, .slice none 0 0, .slice none 0 0, .slice none 0 0, .slice none 0 0, .bool false, .int .i64 0] 30)) := (Keep.refl _ _).alloc _
  have hBW : Blk (W1.alloc (.cells #[.int .i64 0, .slice none 0 0, .slice none 0 0, .slice none 0 0, .slice none 0 0, .slice none 0 0, .bool false, .int .i64 0] 30)) W1.heap.size #[.int .i64 0, .slice none 0 0, .slice none 0 0, .slice none 0 0, .slice none 0 0, .slice none 0 0, .bool false, .int .i64 0] 30 := Blk.new _ _ _
  have hzW : (W1.alloc (.cells #[.int .i64 0, .slice none 0 0, .slice none 0 0, .slice none 0 0, .slice none 0 0, .slice none 0 0, .bool false, .int .i64 0] 30)).heap.size = W1.heap.size + 1 := World.size_alloc _ _
  generalize W1.alloc (.cells #[.int .i64 0, .slice none 0 0, .slice none 0 0, .slice none 0 0, .slice none 0 0, .slice none 0 0, .bool false, .int .i64 0] 30) = W at *
  rw [hzW1] at hBW
  replace hBW1 := hBW1.keep hkW fun h => h
  replace hkW := hkW1.trans' hkW
  have I : RI A w W w.heap.size (w.heap.size + 1) m _ _ _ _ _ := ⟨(h.no hkW).in2, hkW, hBW1, hBW, by omega, ⟨Nat.le_refl _, by omega⟩, ⟨by omega, by omega⟩, by omega⟩
  have hwW := I.sz
  clear hBW hBW1 hkW hkW1 hzW hzW1 h
  clear W1
  have c1 := I.B3.cell
  unfold cel at c1
  go_wp2_with (first | (at_builtin; refine wl_append rfl _ _ _ _ rfl _ _ rfl rfl ?_) | (at_make; refine wl_make rfl _ _ _ rfl _ _ rfl rfl ?_) | (at_mapUpdate; refine wl_mapUpdate rfl _ _ _ _ rfl _ _ _ rfl rfl rfl ?_) | (at_lookup; refine wl_lookup rfl _ _ _ _ rfl _ _ rfl rfl ?_) | (at_delete; refine wl_delete rfl _ _ _ _ rfl _ _ rfl rfl ?_) | (with_reducible refine wl_len rfl _ _ rfl _ rfl ?_) | (with_reducible refine wl_range rfl _ _ rfl _ rfl ?_) | (with_reducible refine wl_next rfl _ rfl _ rfl ?_) | (with_reducible refine wl_copy rfl _ _ _ _ rfl _ _ rfl rfl ?_) | (with_reducible refine wl_max rfl _ _ _ _ rfl _ _ rfl rfl ?_) | (with_reducible refine wl_min rfl _ _ _ _ rfl _ _ rfl rfl ?_))
  refine (rnm_any I.D (by have := hsm.L; omega) hap).mono ?_
  rintro e X ⟨vn, rfl, hvn, kX⟩
  replace I := I.no kX
  obtain ⟨an, cn, rfl, _, _⟩ := hvn.shape
  clear c1 kX
  go_wp2_with (first | (at_builtin; refine wl_append rfl _ _ _ _ rfl _ _ rfl rfl ?_) | (at_make; refine wl_make rfl _ _ _ rfl _ _ rfl rfl ?_) | (at_mapUpdate; refine wl_mapUpdate rfl _ _ _ _ rfl _ _ _ rfl rfl rfl ?_) | (at_lookup; refine wl_lookup rfl _ _ _ _ rfl _ _ rfl rfl ?_) | (at_delete; refine wl_delete rfl _ _ _ _ rfl _ _ rfl rfl ?_) | (with_reducible refine wl_len rfl _ _ rfl _ rfl ?_) | (with_reducible refine wl_range rfl _ _ rfl _ rfl ?_) | (with_reducible refine wl_next rfl _ rfl _ rfl ?_) | (with_reducible refine wl_copy rfl _ _ _ _ rfl _ _ rfl rfl ?_) | (with_reducible refine wl_max rfl _ _ _ _ rfl _ _ rfl rfl ?_) | (with_reducible refine wl_min rfl _ _ _ _ rfl _ _ rfl rfl ?_))
  go_loopw [5, 6] (fun sv iv wr => ∃ (k : Nat) (mk : M) (o1 o2 o3 o4 o5 : Value) (sm : Bool), sv = .bool sm ∧ iv = .int .i64 k ∧ k ≤ (namesOf m).length ∧ RI A w wr w.heap.size (w.heap.size + 1) mk o1 o2 o3 o4 o5 ∧ Keep (fun j => w.heap.size ≤ j ∧ j < w.heap.size + 2) X wr ∧
    Small mk (n + k) (N + 64 * k) ∧ Files mk (n2 + k) ∧ (sm = false → mk = m ∧ tidyS ((namesOf m).take k) = []) ∧ (sm = true → tidyS (namesOf m) ≠ []) ∧ runS m (tidyS (namesOf m) ++ [⟨6, [], [], 0, []⟩]) = runS mk (tidyS ((namesOf m).drop k) ++ [⟨6, [], [], 0, []⟩])) (fun _ iv _ => (namesOf m).length - (intOf iv).toNat)
  case atStart => exact ⟨0, m, _, _, _, _, _, false, rfl, rfl, Nat.zero_le _, I, Keep.refl _ _, hsm, hfl, fun _ => ⟨rfl, rfl⟩, (fun h => by cases h), rfl⟩
  case round =>
    clear I hsm hfl
    obtain ⟨k, mk, o1, o2, o3, o4, o5, sm, rfl, rfl, hk, I, hKX, hsm, hfl, hs0, hs1, hrun⟩ := hrel
    obtain ⟨y1, t1, y2, t2, y3, t3, y4, t4, y5, t5, rfl, rfl, rfl, rfl, rfl⟩ := I.D.shape
    have c1 := I.B3.cell
    unfold cel at c1
    rcases Nat.lt_or_ge k (namesOf m).length with hkl | hkl
    · obtain ⟨g, off, cap, e, hg, hgl, _, _, hcell⟩ := hvn.at (fun _ => rfl) hkl
      cases e
      have hg1 : W.heap.size ≤ g := hg.1
      have hgn : ¬ (w.heap.size ≤ g ∧ g < w.heap.size + 2) := by omega
      have q : wr.cell? ⟨g, off + k, none⟩ = some (.string ⟨(namesOf m)[k].toArray⟩) := by
        have h1 := (hKX.cell (p := ⟨g, off + k, none⟩) hgl hgn).trans (by have := hcell 0 _ rfl; simp only [Nat.mul_one, Nat.add_zero] at this; exact this)
        exact h1
      have hnk := hNo _ (List.getElem_mem hkl)
      have hkl' : (k : Int) < ((namesOf m).length : Int) := by omega
      have hdr : (namesOf m).drop k = (namesOf m)[k] :: (namesOf m).drop (k + 1) := List.drop_eq_getElem_cons hkl
      have htk : (namesOf m).take (k + 1) = (namesOf m).take k ++ [(namesOf m)[k]] := List.take_succ_eq_append_getElem hkl
      have hmem := List.getElem_mem hkl
      rw [hdr] at hrun
      have HRUN := Lib.hid hrun
      have HTK := Lib.hid htk
      have HS0 := Lib.hid hs0
      have HS1 := Lib.hid hs1
      have HMEM := Lib.hid hmem
      clear hcell hdr htk hrun hs0 hs1 hmem
      generalize (namesOf m)[k] = nk at *
      go_wp2_with (first | (at_builtin; refine wl_append rfl _ _ _ _ rfl _ _ rfl rfl ?_) | (at_make; refine wl_make rfl _ _ _ rfl _ _ rfl rfl ?_) | (at_mapUpdate; refine wl_mapUpdate rfl _ _ _ _ rfl _ _ _ rfl rfl rfl ?_) | (at_lookup; refine wl_lookup rfl _ _ _ _ rfl _ _ rfl rfl ?_) | (at_delete; refine wl_delete rfl _ _ _ _ rfl _ _ rfl rfl ?_) | (with_reducible refine wl_len rfl _ _ rfl _ rfl ?_) | (with_reducible refine wl_range rfl _ _ rfl _ rfl ?_) | (with_reducible refine wl_next rfl _ rfl _ rfl ?_) | (with_reducible refine wl_copy rfl _ _ _ _ rfl _ _ rfl rfl ?_) | (with_reducible refine wl_max rfl _ _ _ _ rfl _ _ rfl rfl ?_) | (with_reducible refine wl_min rfl _ _ _ _ rfl _ _ rfl rfl ?_))
      refine (rdraft_any nk _).mono ?_
      rintro e x ⟨rfl, rfl⟩
      cases hdf : isDraft nk with
      | false =>
        have h1 : tidyS ((namesOf m).take (k + 1)) = tidyS ((namesOf m).take k) := by rw [HTK.out]; unfold tidyS; rw [List.filter_append]; simp [hdf]
        have h2 : tidyS (nk :: (namesOf m).drop (k + 1)) = tidyS ((namesOf m).drop (k + 1)) := by unfold tidyS; rw [List.filter_cons_of_neg (by rw [hdf]; decide)]
        have hr := HRUN.out
        rw [h2] at hr
        have HR2 := Lib.hid hr
        have H1 := Lib.hid h1
        clear h1 h2 hr HRUN
        go_wp2_with (first | (at_builtin; refine wl_append rfl _ _ _ _ rfl _ _ rfl rfl ?_) | (at_make; refine wl_make rfl _ _ _ rfl _ _ rfl rfl ?_) | (at_mapUpdate; refine wl_mapUpdate rfl _ _ _ _ rfl _ _ _ rfl rfl rfl ?_) | (at_lookup; refine wl_lookup rfl _ _ _ _ rfl _ _ rfl rfl ?_) | (at_delete; refine wl_delete rfl _ _ _ _ rfl _ _ rfl rfl ?_) | (with_reducible refine wl_len rfl _ _ rfl _ rfl ?_) | (with_reducible refine wl_range rfl _ _ rfl _ rfl ?_) | (with_reducible refine wl_next rfl _ rfl _ rfl ?_) | (with_reducible refine wl_copy rfl _ _ _ _ rfl _ _ rfl rfl ?_) | (with_reducible refine wl_max rfl _ _ _ _ rfl _ _ rfl rfl ?_) | (with_reducible refine wl_min rfl _ _ _ _ rfl _ _ rfl rfl ?_))
        go_roundw
        case rel => exact ⟨k + 1, mk, _, _, _, _, _, sm, rfl, by go_num, hkl, I, hKX, hsm.mono (by omega) (by omega), hfl.mono (by omega), fun h => ⟨(HS0.out h).1, by rw [H1.out]; exact (HS0.out h).2⟩, HS1.out, HR2.out⟩
        case measure => simp [intOf]; omega
      | true =>
        have hne : tidyS (namesOf m) ≠ [] := fun e => by
          have h1 : (⟨5, nk, [], 0, []⟩ : Cl) ∈ tidyS (namesOf m) := List.mem_map.2 ⟨nk, List.mem_filter.2 ⟨HMEM.out, hdf⟩, rfl⟩
          rw [e] at h1; cases h1
        have hT2 : tidyD m = runS m (tidyS (namesOf m) ++ [⟨6, [], [], 0, []⟩]) := by rw [HT.out, if_neg hne]
        have h2 : tidyS (nk :: (namesOf m).drop (k + 1)) = ⟨5, nk, [], 0, []⟩ :: tidyS ((namesOf m).drop (k + 1)) := by unfold tidyS; rw [List.filter_cons_of_pos hdf]; rfl
        have hr := HRUN.out
        rw [h2, List.cons_append] at hr
        have HR2 := Lib.hid hr
        have HT2 := Lib.hid hT2
        have HNE := Lib.hid hne
        clear h2 hr HRUN hne hT2 HS0 HS1 HMEM
        go_wp2_with (first | (at_builtin; refine wl_append rfl _ _ _ _ rfl _ _ rfl rfl ?_) | (at_make; refine wl_make rfl _ _ _ rfl _ _ rfl rfl ?_) | (at_mapUpdate; refine wl_mapUpdate rfl _ _ _ _ rfl _ _ _ rfl rfl rfl ?_) | (at_lookup; refine wl_lookup rfl _ _ _ _ rfl _ _ rfl rfl ?_) | (at_delete; refine wl_delete rfl _ _ _ _ rfl _ _ rfl rfl ?_) | (with_reducible refine wl_len rfl _ _ rfl _ rfl ?_) | (with_reducible refine wl_range rfl _ _ rfl _ rfl ?_) | (with_reducible refine wl_next rfl _ rfl _ rfl ?_) | (with_reducible refine wl_copy rfl _ _ _ _ rfl _ _ rfl rfl ?_) | (with_reducible refine wl_max rfl _ _ _ _ rfl _ _ rfl rfl ?_) | (with_reducible refine wl_min rfl _ _ _ _ rfl _ _ rfl rfl ?_))
        refine wp_region_tree (fun w' => (∀ i, w'.cell? ⟨w.heap.size, i, none⟩ = #[.int .i64 mk.room, .slice y1 mk.is.length t1, .slice y2 mk.sure.length t2, .slice y3 mk.L.length t3, .slice y4 mk.S.length t4, .slice y5 mk.wait.length t5, .bool mk.off, .int .i64 mk.cut][i]?) ∧ w'.cell? ⟨g, off + k, none⟩ = some (.string ⟨nk.toArray⟩)) (fun j => decide (j ≤ 6)) (.st 0 (.st 1 (.st 2 (.st 3 (.st 4 (.ef 5 (.st 6 (.br 7 8 (.br 8 9 (.ef 9 (.ef 10 .nil)) (.ef 8 (.ef 10 .nil))) (.ef 7 (.ef 9 (.ef 10 .nil))))))))))) (by kernel_rfl) (by kernel_rfl) (by intro c a d v w h; cases d <;> exact h) ⟨c1, q⟩ ?_
        apply tr_still (o := ⟨some 25, _, _, _, _, _⟩) rfl rfl
        · intro w' hS
          obtain ⟨q1, q2⟩ := hS
          first | (go_simp; done) | (go_simp; rfl) | rfl
        go_frame
        apply tr_still (o := ⟨some 26, _, _, _, _, _⟩) rfl rfl
        · intro w' hS
          obtain ⟨q1, q2⟩ := hS
          first | (go_simp; done) | (go_simp; rfl) | rfl
        go_frame
        apply tr_still (o := ⟨some 27, _, _, _, _, _⟩) rfl rfl
        · intro w' hS
          obtain ⟨q1, q2⟩ := hS
          first | (go_simp; done) | (go_simp; rfl) | rfl
        go_frame
        apply tr_still (o := ⟨some 28, _, _, _, _, _⟩) rfl rfl
        · intro w' hS
          obtain ⟨q1, q2⟩ := hS
          first | (go_simp; done) | (go_simp; rfl) | rfl
        go_frame
        apply tr_still (o := ⟨some 29, _, _, _, _, _⟩) rfl rfl
        · intro w' hS
          obtain ⟨q1, q2⟩ := hS
          first | (go_simp; done) | (go_simp; rfl) | rfl
        go_frame
        replace I := I.no (Keep.refl No wr).drew
        refine tr_eff (o := ⟨some 30, _, _, _, _, _⟩) rfl rfl (fun K hKe => ?_)
        go_wp2_with (first | (at_builtin; refine wl_append rfl _ _ _ _ rfl _ _ rfl rfl ?_) | (at_make; refine wl_make rfl _ _ _ rfl _ _ rfl rfl ?_) | (at_mapUpdate; refine wl_mapUpdate rfl _ _ _ _ rfl _ _ _ rfl rfl rfl ?_) | (at_lookup; refine wl_lookup rfl _ _ _ _ rfl _ _ rfl rfl ?_) | (at_delete; refine wl_delete rfl _ _ _ _ rfl _ _ rfl rfl ?_) | (with_reducible refine wl_len rfl _ _ rfl _ rfl ?_) | (with_reducible refine wl_range rfl _ _ rfl _ rfl ?_) | (with_reducible refine wl_next rfl _ rfl _ rfl ?_) | (with_reducible refine wl_copy rfl _ _ _ _ rfl _ _ rfl rfl ?_) | (with_reducible refine wl_max rfl _ _ _ _ rfl _ _ rfl rfl ?_) | (with_reducible refine wl_min rfl _ _ _ _ rfl _ _ rfl rfl ?_))
        refine (rdo_cl ⟨5, nk, [], 0, []⟩ ⟨by simp, by simp⟩ I.D hsm hfl (by omega) (by omega) (by omega) (by simp)).mono ?_
        rintro e Y ⟨z1, z2, z3, z4, z5, rfl, hDY, hkY⟩
        have hsm2 := on_small hsm (s := ⟨5, nk, [], 0, []⟩) ⟨hnk, by simp, by simp⟩
        have hfl2 := hfl.on (s := ⟨5, nk, [], 0, []⟩)
        have he := HR2.out
        rw [runS_cons] at he
        generalize Cl.on ⟨5, nk, [], 0, []⟩ mk = mx at *
        obtain ⟨mq, eq⟩ := mx
        simp only at *
        have HE := Lib.hid he
        clear he
        obtain ⟨x1, s1, x2, s2, x3, s3, x4, s4, x5, s5, rfl, rfl, rfl, rfl, rfl⟩ := hDY.shape
        have hB3 := I.B3.keep hkY fun h => h
        have cY := hB3.cell
        have hkY0 : Keep No wr Y := ⟨hkY.os, hkY.tape, hkY.output, hkY.size, hkY.block⟩
        have qY : Y.cell? ⟨g, off + k, none⟩ = some (.string ⟨nk.toArray⟩) := (hkY0.cell (p := ⟨g, off + k, none⟩) (World.block_lt_of_cell? wr _ q) (fun h => h)).trans q
        have hKY := hKX.trans' (hkY0.mono fun _ _ h => h.elim)
        unfold dv
        unfold cel at hB3 cY
        go_wp2_with (first | (at_builtin; refine wl_append rfl _ _ _ _ rfl _ _ rfl rfl ?_) | (at_make; refine wl_make rfl _ _ _ rfl _ _ rfl rfl ?_) | (at_mapUpdate; refine wl_mapUpdate rfl _ _ _ _ rfl _ _ _ rfl rfl rfl ?_) | (at_lookup; refine wl_lookup rfl _ _ _ _ rfl _ _ rfl rfl ?_) | (at_delete; refine wl_delete rfl _ _ _ _ rfl _ _ rfl rfl ?_) | (with_reducible refine wl_len rfl _ _ rfl _ rfl ?_) | (with_reducible refine wl_range rfl _ _ rfl _ rfl ?_) | (with_reducible refine wl_next rfl _ rfl _ rfl ?_) | (with_reducible refine wl_copy rfl _ _ _ _ rfl _ _ rfl rfl ?_) | (with_reducible refine wl_max rfl _ _ _ _ rfl _ _ rfl rfl ?_) | (with_reducible refine wl_min rfl _ _ _ _ rfl _ _ rfl rfl ?_))
        refine ⟨fun _ => ⟨cY, qY⟩, ?_⟩
        apply tr_still (o := ⟨some 24, _, _, _, _, _⟩) rfl rfl
        · intro w' hS
          obtain ⟨q1, q2⟩ := hS
          first | (go_simp; done) | (go_simp; rfl) | rfl
        go_frame
        refine tr_br (o := ⟨some 31, _, _, _, _, _⟩) (o' := ⟨some 32, _, _, _, _, _⟩) rfl rfl rfl rfl (fun K hKe => ?_) (fun K hKe => ?_)
        · go_wp2_with (first | (at_builtin; refine wl_append rfl _ _ _ _ rfl _ _ rfl rfl ?_) | (at_make; refine wl_make rfl _ _ _ rfl _ _ rfl rfl ?_) | (at_mapUpdate; refine wl_mapUpdate rfl _ _ _ _ rfl _ _ _ rfl rfl rfl ?_) | (at_lookup; refine wl_lookup rfl _ _ _ _ rfl _ _ rfl rfl ?_) | (at_delete; refine wl_delete rfl _ _ _ _ rfl _ _ rfl rfl ?_) | (with_reducible refine wl_len rfl _ _ rfl _ rfl ?_) | (with_reducible refine wl_range rfl _ _ rfl _ rfl ?_) | (with_reducible refine wl_next rfl _ rfl _ rfl ?_) | (with_reducible refine wl_copy rfl _ _ _ _ rfl _ _ rfl rfl ?_) | (with_reducible refine wl_max rfl _ _ _ _ rfl _ _ rfl rfl ?_) | (with_reducible refine wl_min rfl _ _ _ _ rfl _ _ rfl rfl ?_))
          refine ⟨fun h => by simp at h, ?_⟩
          refine tr_br (o := ⟨some 32, _, _, _, _, _⟩) (o' := ⟨none, _, _, _, _, _⟩) rfl rfl rfl rfl (fun K hKe => ?_) (fun K hKe => ?_)
          · go_wp2_with (first | (at_builtin; refine wl_append rfl _ _ _ _ rfl _ _ rfl rfl ?_) | (at_make; refine wl_make rfl _ _ _ rfl _ _ rfl rfl ?_) | (at_mapUpdate; refine wl_mapUpdate rfl _ _ _ _ rfl _ _ _ rfl rfl rfl ?_) | (at_lookup; refine wl_lookup rfl _ _ _ _ rfl _ _ rfl rfl ?_) | (at_delete; refine wl_delete rfl _ _ _ _ rfl _ _ rfl rfl ?_) | (with_reducible refine wl_len rfl _ _ rfl _ rfl ?_) | (with_reducible refine wl_range rfl _ _ rfl _ rfl ?_) | (with_reducible refine wl_next rfl _ rfl _ rfl ?_) | (with_reducible refine wl_copy rfl _ _ _ _ rfl _ _ rfl rfl ?_) | (with_reducible refine wl_max rfl _ _ _ _ rfl _ _ rfl rfl ?_) | (with_reducible refine wl_min rfl _ _ _ _ rfl _ _ rfl rfl ?_))
            refine ⟨fun h => by simp at h, ?_⟩
            refine tr_eff (o := ⟨none, _, _, _, _, _⟩) rfl rfl (fun K hKe => ?_)
            refine wo_stAgg (.tmp 1) (.tmp 31) 30 rfl _ _ rfl rfl ?_
            refine rg_stAgg hB3 (by kernel_rfl) (by rfl) (by simp [Value.oneCell']) ?_
            intro Z hBZ hkZ _
            have hKZ := hKY.trans hkZ fun j _ e => by have e : j = w.heap.size := e; omega
            replace I := I.step hDY hkY hBZ hkZ
            refine hKe _ _ ⟨fun h => by simp at h, ?_⟩
            clear hDY hkY hkY0 hBZ hkZ hB3 hsm hfl HR2 c1 cY q qY hKX hKY
            refine tr_eff (o := ⟨some 8, _, _, _, _, _⟩) rfl rfl (fun K hKe => ?_)
            go_wp2_with (first | (at_builtin; refine wl_append rfl _ _ _ _ rfl _ _ rfl rfl ?_) | (at_make; refine wl_make rfl _ _ _ rfl _ _ rfl rfl ?_) | (at_mapUpdate; refine wl_mapUpdate rfl _ _ _ _ rfl _ _ _ rfl rfl rfl ?_) | (at_lookup; refine wl_lookup rfl _ _ _ _ rfl _ _ rfl rfl ?_) | (at_delete; refine wl_delete rfl _ _ _ _ rfl _ _ rfl rfl ?_) | (with_reducible refine wl_len rfl _ _ rfl _ rfl ?_) | (with_reducible refine wl_range rfl _ _ rfl _ rfl ?_) | (with_reducible refine wl_next rfl _ rfl _ rfl ?_) | (with_reducible refine wl_copy rfl _ _ _ _ rfl _ _ rfl rfl ?_) | (with_reducible refine wl_max rfl _ _ _ _ rfl _ _ rfl rfl ?_) | (with_reducible refine wl_min rfl _ _ _ _ rfl _ _ rfl rfl ?_))
            refine ⟨fun h => by simp at h, tr_nil ?_⟩
            have he := HE.out
            clear HE
            by_cases h0 : eq = 0
            · rw [if_pos h0] at he
              subst h0
              have HN := Lib.hid he
              clear he
              go_wp2_with (first | (at_builtin; refine wl_append rfl _ _ _ _ rfl _ _ rfl rfl ?_) | (at_make; refine wl_make rfl _ _ _ rfl _ _ rfl rfl ?_) | (at_mapUpdate; refine wl_mapUpdate rfl _ _ _ _ rfl _ _ _ rfl rfl rfl ?_) | (at_lookup; refine wl_lookup rfl _ _ _ _ rfl _ _ rfl rfl ?_) | (at_delete; refine wl_delete rfl _ _ _ _ rfl _ _ rfl rfl ?_) | (with_reducible refine wl_len rfl _ _ rfl _ rfl ?_) | (with_reducible refine wl_range rfl _ _ rfl _ rfl ?_) | (with_reducible refine wl_next rfl _ rfl _ rfl ?_) | (with_reducible refine wl_copy rfl _ _ _ _ rfl _ _ rfl rfl ?_) | (with_reducible refine wl_max rfl _ _ _ _ rfl _ _ rfl rfl ?_) | (with_reducible refine wl_min rfl _ _ _ _ rfl _ _ rfl rfl ?_))
              go_roundw
              case rel => exact ⟨k + 1, mq, _, _, _, _, _, true, rfl, by go_num, hkl, I, hKZ, hsm2.mono (by omega) (by omega), hfl2.mono (by omega), (fun h => by cases h), fun _ => HNE.out, HN.out⟩
              case measure => simp [intOf]; omega
            · rw [if_neg h0] at he
              have HR : Hid (tidyD m = (mq, eq)) := Lib.hid (HT2.out.trans he)
              have h0' : ((eq : Int) == 0) = false := by simpa using h0
              clear he HT2
              have c1 := I.B3.cell
              unfold cel at c1
              go_wp2_with (first | (at_builtin; refine wl_append rfl _ _ _ _ rfl _ _ rfl rfl ?_) | (at_make; refine wl_make rfl _ _ _ rfl _ _ rfl rfl ?_) | (at_mapUpdate; refine wl_mapUpdate rfl _ _ _ _ rfl _ _ _ rfl rfl rfl ?_) | (at_lookup; refine wl_lookup rfl _ _ _ _ rfl _ _ rfl rfl ?_) | (at_delete; refine wl_delete rfl _ _ _ _ rfl _ _ rfl rfl ?_) | (with_reducible refine wl_len rfl _ _ rfl _ rfl ?_) | (with_reducible refine wl_range rfl _ _ rfl _ rfl ?_) | (with_reducible refine wl_next rfl _ rfl _ rfl ?_) | (with_reducible refine wl_copy rfl _ _ _ _ rfl _ _ rfl rfl ?_) | (with_reducible refine wl_max rfl _ _ _ _ rfl _ _ rfl rfl ?_) | (with_reducible refine wl_min rfl _ _ _ _ rfl _ _ rfl rfl ?_) | (with_reducible refine wl_stAgg rfl _ _ _ rfl _ _ rfl rfl ?_))
              refine rg_stAgg I.B6 (by kernel_rfl) (by rfl) (by simp [Value.oneCell']) ?_
              intro Z hBZ hkZ _
              go_wp2_with (first | (at_builtin; refine wl_append rfl _ _ _ _ rfl _ _ rfl rfl ?_) | (at_make; refine wl_make rfl _ _ _ rfl _ _ rfl rfl ?_) | (at_mapUpdate; refine wl_mapUpdate rfl _ _ _ _ rfl _ _ _ rfl rfl rfl ?_) | (at_lookup; refine wl_lookup rfl _ _ _ _ rfl _ _ rfl rfl ?_) | (at_delete; refine wl_delete rfl _ _ _ _ rfl _ _ rfl rfl ?_) | (with_reducible refine wl_len rfl _ _ rfl _ rfl ?_) | (with_reducible refine wl_range rfl _ _ rfl _ rfl ?_) | (with_reducible refine wl_next rfl _ rfl _ rfl ?_) | (with_reducible refine wl_copy rfl _ _ _ _ rfl _ _ rfl rfl ?_) | (with_reducible refine wl_max rfl _ _ _ _ rfl _ _ rfl rfl ?_) | (with_reducible refine wl_min rfl _ _ _ _ rfl _ _ rfl rfl ?_) | (with_reducible refine wl_stAgg rfl _ _ _ rfl _ _ rfl rfl ?_))
              refine ret_blk_tmp rfl rfl hBZ Tryz.underlying30 rfl (by kernel_rfl) rfl ?_
              rw [HR.out]
              exact I.fin hkZ
          · skip
            refine wo_stAgg (.tmp 1) (.tmp 31) 30 rfl _ _ rfl rfl ?_
            refine rg_stAgg hB3 (by kernel_rfl) (by rfl) (by simp [Value.oneCell']) ?_
            intro Z hBZ hkZ _
            have hKZ := hKY.trans hkZ fun j _ e => by have e : j = w.heap.size := e; omega
            replace I := I.step hDY hkY hBZ hkZ
            refine hKe _ _ ⟨fun h => by simp at h, ?_⟩
            clear hDY hkY hkY0 hBZ hkZ hB3 hsm hfl HR2 c1 cY q qY hKX hKY
            refine tr_eff (o := ⟨some 32, _, _, _, _, _⟩) rfl rfl (fun K hKe => ?_)
            go_wp2_with (first | (at_builtin; refine wl_append rfl _ _ _ _ rfl _ _ rfl rfl ?_) | (at_make; refine wl_make rfl _ _ _ rfl _ _ rfl rfl ?_) | (at_mapUpdate; refine wl_mapUpdate rfl _ _ _ _ rfl _ _ _ rfl rfl rfl ?_) | (at_lookup; refine wl_lookup rfl _ _ _ _ rfl _ _ rfl rfl ?_) | (at_delete; refine wl_delete rfl _ _ _ _ rfl _ _ rfl rfl ?_) | (with_reducible refine wl_len rfl _ _ rfl _ rfl ?_) | (with_reducible refine wl_range rfl _ _ rfl _ rfl ?_) | (with_reducible refine wl_next rfl _ rfl _ rfl ?_) | (with_reducible refine wl_copy rfl _ _ _ _ rfl _ _ rfl rfl ?_) | (with_reducible refine wl_max rfl _ _ _ _ rfl _ _ rfl rfl ?_) | (with_reducible refine wl_min rfl _ _ _ _ rfl _ _ rfl rfl ?_))
            refine ⟨fun h => by simp at h, ?_⟩
            refine tr_eff (o := ⟨some 8, _, _, _, _, _⟩) rfl rfl (fun K hKe => ?_)
            go_wp2_with (first | (at_builtin; refine wl_append rfl _ _ _ _ rfl _ _ rfl rfl ?_) | (at_make; refine wl_make rfl _ _ _ rfl _ _ rfl rfl ?_) | (at_mapUpdate; refine wl_mapUpdate rfl _ _ _ _ rfl _ _ _ rfl rfl rfl ?_) | (at_lookup; refine wl_lookup rfl _ _ _ _ rfl _ _ rfl rfl ?_) | (at_delete; refine wl_delete rfl _ _ _ _ rfl _ _ rfl rfl ?_) | (with_reducible refine wl_len rfl _ _ rfl _ rfl ?_) | (with_reducible refine wl_range rfl _ _ rfl _ rfl ?_) | (with_reducible refine wl_next rfl _ rfl _ rfl ?_) | (with_reducible refine wl_copy rfl _ _ _ _ rfl _ _ rfl rfl ?_) | (with_reducible refine wl_max rfl _ _ _ _ rfl _ _ rfl rfl ?_) | (with_reducible refine wl_min rfl _ _ _ _ rfl _ _ rfl rfl ?_))
            refine ⟨fun h => by simp at h, tr_nil ?_⟩
            have he := HE.out
            clear HE
            by_cases h0 : eq = 0
            · rw [if_pos h0] at he
              subst h0
              have HN := Lib.hid he
              clear he
              go_wp2_with (first | (at_builtin; refine wl_append rfl _ _ _ _ rfl _ _ rfl rfl ?_) | (at_make; refine wl_make rfl _ _ _ rfl _ _ rfl rfl ?_) | (at_mapUpdate; refine wl_mapUpdate rfl _ _ _ _ rfl _ _ _ rfl rfl rfl ?_) | (at_lookup; refine wl_lookup rfl _ _ _ _ rfl _ _ rfl rfl ?_) | (at_delete; refine wl_delete rfl _ _ _ _ rfl _ _ rfl rfl ?_) | (with_reducible refine wl_len rfl _ _ rfl _ rfl ?_) | (with_reducible refine wl_range rfl _ _ rfl _ rfl ?_) | (with_reducible refine wl_next rfl _ rfl _ rfl ?_) | (with_reducible refine wl_copy rfl _ _ _ _ rfl _ _ rfl rfl ?_) | (with_reducible refine wl_max rfl _ _ _ _ rfl _ _ rfl rfl ?_) | (with_reducible refine wl_min rfl _ _ _ _ rfl _ _ rfl rfl ?_))
              go_roundw
              case rel => exact ⟨k + 1, mq, _, _, _, _, _, true, rfl, by go_num, hkl, I, hKZ, hsm2.mono (by omega) (by omega), hfl2.mono (by omega), (fun h => by cases h), fun _ => HNE.out, HN.out⟩
              case measure => simp [intOf]; omega
            · rw [if_neg h0] at he
              have HR : Hid (tidyD m = (mq, eq)) := Lib.hid (HT2.out.trans he)
              have h0' : ((eq : Int) == 0) = false := by simpa using h0
              clear he HT2
              have c1 := I.B3.cell
              unfold cel at c1
              go_wp2_with (first | (at_builtin; refine wl_append rfl _ _ _ _ rfl _ _ rfl rfl ?_) | (at_make; refine wl_make rfl _ _ _ rfl _ _ rfl rfl ?_) | (at_mapUpdate; refine wl_mapUpdate rfl _ _ _ _ rfl _ _ _ rfl rfl rfl ?_) | (at_lookup; refine wl_lookup rfl _ _ _ _ rfl _ _ rfl rfl ?_) | (at_delete; refine wl_delete rfl _ _ _ _ rfl _ _ rfl rfl ?_) | (with_reducible refine wl_len rfl _ _ rfl _ rfl ?_) | (with_reducible refine wl_range rfl _ _ rfl _ rfl ?_) | (with_reducible refine wl_next rfl _ rfl _ rfl ?_) | (with_reducible refine wl_copy rfl _ _ _ _ rfl _ _ rfl rfl ?_) | (with_reducible refine wl_max rfl _ _ _ _ rfl _ _ rfl rfl ?_) | (with_reducible refine wl_min rfl _ _ _ _ rfl _ _ rfl rfl ?_) | (with_reducible refine wl_stAgg rfl _ _ _ rfl _ _ rfl rfl ?_))
              refine rg_stAgg I.B6 (by kernel_rfl) (by rfl) (by simp [Value.oneCell']) ?_
              intro Z hBZ hkZ _
              go_wp2_with (first | (at_builtin; refine wl_append rfl _ _ _ _ rfl _ _ rfl rfl ?_) | (at_make; refine wl_make rfl _ _ _ rfl _ _ rfl rfl ?_) | (at_mapUpdate; refine wl_mapUpdate rfl _ _ _ _ rfl _ _ _ rfl rfl rfl ?_) | (at_lookup; refine wl_lookup rfl _ _ _ _ rfl _ _ rfl rfl ?_) | (at_delete; refine wl_delete rfl _ _ _ _ rfl _ _ rfl rfl ?_) | (with_reducible refine wl_len rfl _ _ rfl _ rfl ?_) | (with_reducible refine wl_range rfl _ _ rfl _ rfl ?_) | (with_reducible refine wl_next rfl _ rfl _ rfl ?_) | (with_reducible refine wl_copy rfl _ _ _ _ rfl _ _ rfl rfl ?_) | (with_reducible refine wl_max rfl _ _ _ _ rfl _ _ rfl rfl ?_) | (with_reducible refine wl_min rfl _ _ _ _ rfl _ _ rfl rfl ?_) | (with_reducible refine wl_stAgg rfl _ _ _ rfl _ _ rfl rfl ?_))
              refine ret_blk_tmp rfl rfl hBZ Tryz.underlying30 rfl (by kernel_rfl) rfl ?_
              rw [HR.out]
              exact I.fin hkZ
        · go_wp2_with (first | (at_builtin; refine wl_append rfl _ _ _ _ rfl _ _ rfl rfl ?_) | (at_make; refine wl_make rfl _ _ _ rfl _ _ rfl rfl ?_) | (at_mapUpdate; refine wl_mapUpdate rfl _ _ _ _ rfl _ _ _ rfl rfl rfl ?_) | (at_lookup; refine wl_lookup rfl _ _ _ _ rfl _ _ rfl rfl ?_) | (at_delete; refine wl_delete rfl _ _ _ _ rfl _ _ rfl rfl ?_) | (with_reducible refine wl_len rfl _ _ rfl _ rfl ?_) | (with_reducible refine wl_range rfl _ _ rfl _ rfl ?_) | (with_reducible refine wl_next rfl _ rfl _ rfl ?_) | (with_reducible refine wl_copy rfl _ _ _ _ rfl _ _ rfl rfl ?_) | (with_reducible refine wl_max rfl _ _ _ _ rfl _ _ rfl rfl ?_) | (with_reducible refine wl_min rfl _ _ _ _ rfl _ _ rfl rfl ?_))
          refine ⟨fun h => by simp at h, ?_⟩
          refine tr_eff (o := ⟨some 31, _, _, _, _, _⟩) rfl rfl (fun K hKe => ?_)
          go_wp2_with (first | (at_builtin; refine wl_append rfl _ _ _ _ rfl _ _ rfl rfl ?_) | (at_make; refine wl_make rfl _ _ _ rfl _ _ rfl rfl ?_) | (at_mapUpdate; refine wl_mapUpdate rfl _ _ _ _ rfl _ _ _ rfl rfl rfl ?_) | (at_lookup; refine wl_lookup rfl _ _ _ _ rfl _ _ rfl rfl ?_) | (at_delete; refine wl_delete rfl _ _ _ _ rfl _ _ rfl rfl ?_) | (with_reducible refine wl_len rfl _ _ rfl _ rfl ?_) | (with_reducible refine wl_range rfl _ _ rfl _ rfl ?_) | (with_reducible refine wl_next rfl _ rfl _ rfl ?_) | (with_reducible refine wl_copy rfl _ _ _ _ rfl _ _ rfl rfl ?_) | (with_reducible refine wl_max rfl _ _ _ _ rfl _ _ rfl rfl ?_) | (with_reducible refine wl_min rfl _ _ _ _ rfl _ _ rfl rfl ?_))
          refine ⟨fun h => by simp at h, ?_⟩
          refine tr_eff (o := ⟨none, _, _, _, _, _⟩) rfl rfl (fun K hKe => ?_)
          refine wo_stAgg (.tmp 1) (.tmp 31) 30 rfl _ _ rfl rfl ?_
          refine rg_stAgg hB3 (by kernel_rfl) (by rfl) (by simp [Value.oneCell']) ?_
          intro Z hBZ hkZ _
          have hKZ := hKY.trans hkZ fun j _ e => by have e : j = w.heap.size := e; omega
          replace I := I.step hDY hkY hBZ hkZ
          refine hKe _ _ ⟨fun h => by simp at h, ?_⟩
          clear hDY hkY hkY0 hBZ hkZ hB3 hsm hfl HR2 c1 cY q qY hKX hKY
          refine tr_eff (o := ⟨some 8, _, _, _, _, _⟩) rfl rfl (fun K hKe => ?_)
          go_wp2_with (first | (at_builtin; refine wl_append rfl _ _ _ _ rfl _ _ rfl rfl ?_) | (at_make; refine wl_make rfl _ _ _ rfl _ _ rfl rfl ?_) | (at_mapUpdate; refine wl_mapUpdate rfl _ _ _ _ rfl _ _ _ rfl rfl rfl ?_) | (at_lookup; refine wl_lookup rfl _ _ _ _ rfl _ _ rfl rfl ?_) | (at_delete; refine wl_delete rfl _ _ _ _ rfl _ _ rfl rfl ?_) | (with_reducible refine wl_len rfl _ _ rfl _ rfl ?_) | (with_reducible refine wl_range rfl _ _ rfl _ rfl ?_) | (with_reducible refine wl_next rfl _ rfl _ rfl ?_) | (with_reducible refine wl_copy rfl _ _ _ _ rfl _ _ rfl rfl ?_) | (with_reducible refine wl_max rfl _ _ _ _ rfl _ _ rfl rfl ?_) | (with_reducible refine wl_min rfl _ _ _ _ rfl _ _ rfl rfl ?_))
          refine ⟨fun h => by simp at h, tr_nil ?_⟩
          have he := HE.out
          clear HE
          by_cases h0 : eq = 0
          · rw [if_pos h0] at he
            subst h0
            have HN := Lib.hid he
            clear he
            go_wp2_with (first | (at_builtin; refine wl_append rfl _ _ _ _ rfl _ _ rfl rfl ?_) | (at_make; refine wl_make rfl _ _ _ rfl _ _ rfl rfl ?_) | (at_mapUpdate; refine wl_mapUpdate rfl _ _ _ _ rfl _ _ _ rfl rfl rfl ?_) | (at_lookup; refine wl_lookup rfl _ _ _ _ rfl _ _ rfl rfl ?_) | (at_delete; refine wl_delete rfl _ _ _ _ rfl _ _ rfl rfl ?_) | (with_reducible refine wl_len rfl _ _ rfl _ rfl ?_) | (with_reducible refine wl_range rfl _ _ rfl _ rfl ?_) | (with_reducible refine wl_next rfl _ rfl _ rfl ?_) | (with_reducible refine wl_copy rfl _ _ _ _ rfl _ _ rfl rfl ?_) | (with_reducible refine wl_max rfl _ _ _ _ rfl _ _ rfl rfl ?_) | (with_reducible refine wl_min rfl _ _ _ _ rfl _ _ rfl rfl ?_))
            go_roundw
            case rel => exact ⟨k + 1, mq, _, _, _, _, _, true, rfl, by go_num, hkl, I, hKZ, hsm2.mono (by omega) (by omega), hfl2.mono (by omega), (fun h => by cases h), fun _ => HNE.out, HN.out⟩
            case measure => simp [intOf]; omega
          · rw [if_neg h0] at he
            have HR : Hid (tidyD m = (mq, eq)) := Lib.hid (HT2.out.trans he)
            have h0' : ((eq : Int) == 0) = false := by simpa using h0
            clear he HT2
            have c1 := I.B3.cell
            unfold cel at c1
            go_wp2_with (first | (at_builtin; refine wl_append rfl _ _ _ _ rfl _ _ rfl rfl ?_) | (at_make; refine wl_make rfl _ _ _ rfl _ _ rfl rfl ?_) | (at_mapUpdate; refine wl_mapUpdate rfl _ _ _ _ rfl _ _ _ rfl rfl rfl ?_) | (at_lookup; refine wl_lookup rfl _ _ _ _ rfl _ _ rfl rfl ?_) | (at_delete; refine wl_delete rfl _ _ _ _ rfl _ _ rfl rfl ?_) | (with_reducible refine wl_len rfl _ _ rfl _ rfl ?_) | (with_reducible refine wl_range rfl _ _ rfl _ rfl ?_) | (with_reducible refine wl_next rfl _ rfl _ rfl ?_) | (with_reducible refine wl_copy rfl _ _ _ _ rfl _ _ rfl rfl ?_) | (with_reducible refine wl_max rfl _ _ _ _ rfl _ _ rfl rfl ?_) | (with_reducible refine wl_min rfl _ _ _ _ rfl _ _ rfl rfl ?_) | (with_reducible refine wl_stAgg rfl _ _ _ rfl _ _ rfl rfl ?_))
            refine rg_stAgg I.B6 (by kernel_rfl) (by rfl) (by simp [Value.oneCell']) ?_
            intro Z hBZ hkZ _
            go_wp2_with (first | (at_builtin; refine wl_append rfl _ _ _ _ rfl _ _ rfl rfl ?_) | (at_make; refine wl_make rfl _ _ _ rfl _ _ rfl rfl ?_) | (at_mapUpdate; refine wl_mapUpdate rfl _ _ _ _ rfl _ _ _ rfl rfl rfl ?_) | (at_lookup; refine wl_lookup rfl _ _ _ _ rfl _ _ rfl rfl ?_) | (at_delete; refine wl_delete rfl _ _ _ _ rfl _ _ rfl rfl ?_) | (with_reducible refine wl_len rfl _ _ rfl _ rfl ?_) | (with_reducible refine wl_range rfl _ _ rfl _ rfl ?_) | (with_reducible refine wl_next rfl _ rfl _ rfl ?_) | (with_reducible refine wl_copy rfl _ _ _ _ rfl _ _ rfl rfl ?_) | (with_reducible refine wl_max rfl _ _ _ _ rfl _ _ rfl rfl ?_) | (with_reducible refine wl_min rfl _ _ _ _ rfl _ _ rfl rfl ?_) | (with_reducible refine wl_stAgg rfl _ _ _ rfl _ _ rfl rfl ?_))
            refine ret_blk_tmp rfl rfl hBZ Tryz.underlying30 rfl (by kernel_rfl) rfl ?_
            rw [HR.out]
            exact I.fin hkZ
    · obtain rfl : k = (namesOf m).length := Nat.le_antisymm hk hkl
      rw [List.drop_length] at hrun
      rw [List.take_length] at hs0
      cases sm with
      | false =>
        obtain ⟨rfl, hnil⟩ := hs0 rfl
        have HR : Hid (tidyD mk = (mk, 0)) := Lib.hid (by rw [HT.out, if_pos hnil])
        clear hrun hs1 HT hnil
        go_wp2_with (first | (at_builtin; refine wl_append rfl _ _ _ _ rfl _ _ rfl rfl ?_) | (at_make; refine wl_make rfl _ _ _ rfl _ _ rfl rfl ?_) | (at_mapUpdate; refine wl_mapUpdate rfl _ _ _ _ rfl _ _ _ rfl rfl rfl ?_) | (at_lookup; refine wl_lookup rfl _ _ _ _ rfl _ _ rfl rfl ?_) | (at_delete; refine wl_delete rfl _ _ _ _ rfl _ _ rfl rfl ?_) | (with_reducible refine wl_len rfl _ _ rfl _ rfl ?_) | (with_reducible refine wl_range rfl _ _ rfl _ rfl ?_) | (with_reducible refine wl_next rfl _ rfl _ rfl ?_) | (with_reducible refine wl_copy rfl _ _ _ _ rfl _ _ rfl rfl ?_) | (with_reducible refine wl_max rfl _ _ _ _ rfl _ _ rfl rfl ?_) | (with_reducible refine wl_min rfl _ _ _ _ rfl _ _ rfl rfl ?_) | (with_reducible refine wl_stAgg rfl _ _ _ rfl _ _ rfl rfl ?_))
        refine rg_stAgg I.B6 (by kernel_rfl) (by rfl) (by simp [Value.oneCell']) ?_
        intro Z hBZ hkZ _
        go_wp2_with (first | (at_builtin; refine wl_append rfl _ _ _ _ rfl _ _ rfl rfl ?_) | (at_make; refine wl_make rfl _ _ _ rfl _ _ rfl rfl ?_) | (at_mapUpdate; refine wl_mapUpdate rfl _ _ _ _ rfl _ _ _ rfl rfl rfl ?_) | (at_lookup; refine wl_lookup rfl _ _ _ _ rfl _ _ rfl rfl ?_) | (at_delete; refine wl_delete rfl _ _ _ _ rfl _ _ rfl rfl ?_) | (with_reducible refine wl_len rfl _ _ rfl _ rfl ?_) | (with_reducible refine wl_range rfl _ _ rfl _ rfl ?_) | (with_reducible refine wl_next rfl _ rfl _ rfl ?_) | (with_reducible refine wl_copy rfl _ _ _ _ rfl _ _ rfl rfl ?_) | (with_reducible refine wl_max rfl _ _ _ _ rfl _ _ rfl rfl ?_) | (with_reducible refine wl_min rfl _ _ _ _ rfl _ _ rfl rfl ?_) | (with_reducible refine wl_stAgg rfl _ _ _ rfl _ _ rfl rfl ?_))
        refine ret_blk_tmp rfl rfl hBZ Tryz.underlying30 rfl (by kernel_rfl) rfl ?_
        rw [HR.out]
        exact I.fin hkZ
      | true =>
        have hT2 : tidyD m = runS mk [⟨6, [], [], 0, []⟩] := by rw [HT.out, if_neg (hs1 rfl), hrun]; rfl
        have HT2 := Lib.hid hT2
        clear hrun hs1 hs0 hT2
        go_wp2_with (first | (at_builtin; refine wl_append rfl _ _ _ _ rfl _ _ rfl rfl ?_) | (at_make; refine wl_make rfl _ _ _ rfl _ _ rfl rfl ?_) | (at_mapUpdate; refine wl_mapUpdate rfl _ _ _ _ rfl _ _ _ rfl rfl rfl ?_) | (at_lookup; refine wl_lookup rfl _ _ _ _ rfl _ _ rfl rfl ?_) | (at_delete; refine wl_delete rfl _ _ _ _ rfl _ _ rfl rfl ?_) | (with_reducible refine wl_len rfl _ _ rfl _ rfl ?_) | (with_reducible refine wl_range rfl _ _ rfl _ rfl ?_) | (with_reducible refine wl_next rfl _ rfl _ rfl ?_) | (with_reducible refine wl_copy rfl _ _ _ _ rfl _ _ rfl rfl ?_) | (with_reducible refine wl_max rfl _ _ _ _ rfl _ _ rfl rfl ?_) | (with_reducible refine wl_min rfl _ _ _ _ rfl _ _ rfl rfl ?_))
        refine (rdo_cl ⟨6, [], [], 0, []⟩ ⟨by simp, by simp⟩ I.D hsm hfl (by omega) (by omega) (by omega) (by simp)).mono ?_
        rintro e Y ⟨z1, z2, z3, z4, z5, rfl, hDY, hkY⟩
        have he := HT2.out
        rw [runS_cons] at he
        generalize Cl.on ⟨6, [], [], 0, []⟩ mk = mx at *
        obtain ⟨mq, eq⟩ := mx
        simp only at *
        have HR : Hid (tidyD m = (mq, eq)) := Lib.hid (by
          rw [he]
          by_cases h0 : eq = 0
          · subst h0; rfl
          · rw [if_neg h0])
        clear he HT2 HT
        obtain ⟨x1, s1, x2, s2, x3, s3, x4, s4, x5, s5, rfl, rfl, rfl, rfl, rfl⟩ := hDY.shape
        unfold dv
        go_wp2_with (first | (at_builtin; refine wl_append rfl _ _ _ _ rfl _ _ rfl rfl ?_) | (at_make; refine wl_make rfl _ _ _ rfl _ _ rfl rfl ?_) | (at_mapUpdate; refine wl_mapUpdate rfl _ _ _ _ rfl _ _ _ rfl rfl rfl ?_) | (at_lookup; refine wl_lookup rfl _ _ _ _ rfl _ _ rfl rfl ?_) | (at_delete; refine wl_delete rfl _ _ _ _ rfl _ _ rfl rfl ?_) | (with_reducible refine wl_len rfl _ _ rfl _ rfl ?_) | (with_reducible refine wl_range rfl _ _ rfl _ rfl ?_) | (with_reducible refine wl_next rfl _ rfl _ rfl ?_) | (with_reducible refine wl_copy rfl _ _ _ _ rfl _ _ rfl rfl ?_) | (with_reducible refine wl_max rfl _ _ _ _ rfl _ _ rfl rfl ?_) | (with_reducible refine wl_min rfl _ _ _ _ rfl _ _ rfl rfl ?_) | (with_reducible refine wl_stAgg rfl _ _ _ rfl _ _ rfl rfl ?_))
        refine rg_stAgg (I.B6.keep hkY fun h => h) (by kernel_rfl) (by rfl) (by simp [Value.oneCell']) ?_
        intro Z hBZ hkZ _
        go_wp2_with (first | (at_builtin; refine wl_append rfl _ _ _ _ rfl _ _ rfl rfl ?_) | (at_make; refine wl_make rfl _ _ _ rfl _ _ rfl rfl ?_) | (at_mapUpdate; refine wl_mapUpdate rfl _ _ _ _ rfl _ _ _ rfl rfl rfl ?_) | (at_lookup; refine wl_lookup rfl _ _ _ _ rfl _ _ rfl rfl ?_) | (at_delete; refine wl_delete rfl _ _ _ _ rfl _ _ rfl rfl ?_) | (with_reducible refine wl_len rfl _ _ rfl _ rfl ?_) | (with_reducible refine wl_range rfl _ _ rfl _ rfl ?_) | (with_reducible refine wl_next rfl _ rfl _ rfl ?_) | (with_reducible refine wl_copy rfl _ _ _ _ rfl _ _ rfl rfl ?_) | (with_reducible refine wl_max rfl _ _ _ _ rfl _ _ rfl rfl ?_) | (with_reducible refine wl_min rfl _ _ _ _ rfl _ _ rfl rfl ?_) | (with_reducible refine wl_stAgg rfl _ _ _ rfl _ _ rfl rfl ?_))
        refine ret_blk_tmp rfl rfl hBZ Tryz.underlying30 rfl (by kernel_rfl) rfl ?_
        rw [HR.out]
        have hl6 := I.l6
        exact RetD.two (RetD.fin 2 (I.K.trans' hkY) (hDY.mono fun j _ ha => by
          rcases ha with ha | ha
          · exact ha
          · have := I.sz; exact .inr (by omega)) (hkZ.mono fun j _ e => by have e : j = w.heap.size + 1 := e; omega))
end Go.Proofs.YtkmoomgmmhmaeaaGreat
namespace Go.Proofs.YtkmoomgmmhmaeaaGreat
open Go.RowKit Go.Dm Go.Dm.Dk

theorem info_step : (Tryz.prog.info? 94).map (fun i => (i.zero, i.size, i.bytes)) = some (some .nilFunc, 1, 8) := by kernel_rfl
def encV (v : Value) : List Value := [if v.oneCell' then v else .nilFunc]
theorem encV_one (v : Value) : ∀ u ∈ encV v, u.oneCell' = true := by
  intro u hu
  simp only [encV, List.mem_singleton] at hu
  subst hu
  split
  · assumption
  · rfl
theorem encV_map {vs : List Value} (h : ∀ v ∈ vs, v.oneCell' = true) : vs.flatMap encV = vs := by
  induction vs with
  | nil => rfl
  | cons v r ih =>
    rw [List.flatMap_cons, ih fun u hu => h u (by simp [hu])]
    simp [encV, h v (by simp)]
/-- memory that was given, and boxes made since w0 -/
def FB (B : Nat → Prop) (w0 w : World) : Nat → Prop := fun k => (B k ∧ k < w0.heap.size) ∨ (w0.heap.size ≤ k ∧ k < w.heap.size ∧ ∀ cs fr, w.heap[k]? ≠ some (.cells cs 94 fr))
structure Steps (B : Nat → Prop) (w0 w : World) (d : Nat) (vs : List Value) (l : List Cl) : Prop where
  len : vs.length = l.length
  at_ : ∀ (i : Nat) (v : Value) (s : Cl), vs[i]? = some v → l[i]? = some s → StepAt (FB B w0 w) w d v s
  fn : ∀ v ∈ vs, v.oneCell' = true
section
variable {B : Nat → Prop} {w0 w w' : World} {d : Nat} {vs : List Value} {l : List Cl} {v : Value} {s : Cl}
theorem StepAt.mono {F G : Nat → Prop} (h : StepAt F w d v s) (hFG : ∀ k, k < w.heap.size → F k → G k) : StepAt G w d v s := by
  rcases h with ⟨f, x, y, t, e1, e2, e3, h1, h2, h3, h4⟩ | h | ⟨x, y, t, e1, e3, h1, h2, h3, h4⟩ | ⟨x, y, p, q, t, b, k, vb, e1, e2, e2', e3, h1, h2, h3, h4, h5, h6, h7, h8, h9⟩ | ⟨x, y, t, e1, e3, h1, h2, h3, h4⟩ | ⟨x, y, z, t, u, e1, e3, h1, h2, h3, h4, h5, h6⟩
  · exact .inl ⟨f, x, y, t, e1, e2, e3, hFG _ h3.lt h1, hFG _ h4.lt h2, h3, h4⟩
  · exact .inr (.inl h)
  · exact .inr (.inr (.inl ⟨x, y, t, e1, e3, hFG _ h3.lt h1, hFG _ h4.lt h2, h3, h4⟩))
  · exact .inr (.inr (.inr (.inl ⟨x, y, p, q, t, b, k, vb, e1, e2, e2', e3, hFG _ h5.lt h1, hFG _ h6.lt h2, hFG _ h7.lt h3, hFG _ h8.lt h4, h5, h6, h7, h8, Sl.mono h9 hFG⟩)))
  · exact .inr (.inr (.inr (.inr (.inl ⟨x, y, t, e1, e3, hFG _ h3.lt h1, hFG _ h4.lt h2, h3, h4⟩))))
  · exact .inr (.inr (.inr (.inr (.inr ⟨x, y, z, t, u, e1, e3, hFG _ h4.lt h1, hFG _ h5.lt h2, hFG _ h6.lt h3, h4, h5, h6⟩))))
/-- other memory is turned -/
theorem FB.keep {S : Nat → Prop} (h0 : w0.heap.size ≤ w.heap.size) (hk : Keep S w w') (hS : ∀ k, FB B w0 w k → ¬ S k) {k : Nat} (h : FB B w0 w k) : FB B w0 w' k := by
  have hs := hS k h
  rcases h with h | ⟨h1, h2, h3⟩
  · exact .inl h
  · exact .inr ⟨h1, Nat.lt_of_lt_of_le h2 hk.size, fun cs fr e => h3 cs fr ((hk.block k h2 hs).symm.trans e)⟩
theorem Steps.keep {S : Nat → Prop} (h : Steps B w0 w d vs l) (h0 : w0.heap.size ≤ w.heap.size) (hk : Keep S w w') (hS : ∀ k, FB B w0 w k → ¬ S k) : Steps B w0 w' d vs l where
  len := h.len
  at_ := fun i v s hv hs => ((h.at_ i v s hv hs).keep hk hS).mono fun k _ hf => FB.keep h0 hk hS hf
  fn := h.fn
theorem Steps.nil : Steps B w0 w d [] [] := ⟨rfl, (fun i v s h => by simp at h), (fun v h => by simp at h)⟩
theorem Steps.append {us : List Value} {r : List Cl} (h : Steps B w0 w d vs l) (h' : Steps B w0 w d us r) : Steps B w0 w d (vs ++ us) (l ++ r) where
  len := by rw [List.length_append, List.length_append, h.len, h'.len]
  at_ := fun i v s hv hs => by
    rcases Nat.lt_or_ge i vs.length with hi | hi
    · rw [List.getElem?_append_left hi] at hv
      rw [List.getElem?_append_left (by rw [← h.len]; exact hi)] at hs
      exact h.at_ i v s hv hs
    · rw [List.getElem?_append_right hi] at hv
      rw [List.getElem?_append_right (by rw [← h.len]; exact hi), ← h.len] at hs
      exact h'.at_ _ v s hv hs
  fn := fun v hv => by
    rcases List.mem_append.1 hv with hv | hv
    · exact h.fn v hv
    · exact h'.fn v hv
theorem Steps.one (hv : StepAt (FB B w0 w) w d v s) : Steps B w0 w d [v] [s] where
  len := rfl
  at_ := fun i u t hu ht => by
    cases i with
    | zero => cases hu; cases ht; exact hv
    | succ i => simp at hu
  fn := fun u hu => by
    simp only [List.mem_singleton] at hu
    subst hu
    rcases hv with ⟨f, x, y, t, e1, e2, e3, _⟩ | ⟨_, e3⟩ | ⟨x, y, t, e1, e3, _⟩ | ⟨x, y, p, q, t, b, k, vb, e1, e2, e2', e3, _⟩ | ⟨x, y, t, e1, e3, _⟩ | ⟨x, y, z, t, u, e1, e3, _⟩ <;> rw [e3] <;> rfl
/-- the row of the steps is no box -/
theorem FB.row {base n : Nat} {ov : Value} {xs : List Value} (ho : w.ownsRow base 94 1 ov n xs) (hb : w0.heap.size ≤ base) {k : Nat} (h : FB B w0 w k) : ¬ some k = ov.ownBlock := by
  intro e
  have hlt := ho.lt k e.symm
  rcases h with h | ⟨h1, h2, h3⟩
  · omega
  · rcases ho.2 with ⟨rfl, _⟩ | ⟨g, cap, cur, rfl, _, hg, _⟩
    · cases e
    · cases e
      exact h3 _ _ hg
theorem FB.box {cs : Array Value} {t : TypeId} {x : Nat} (h : Blk w x cs t) (ht : t ≠ 94) (hx : w0.heap.size ≤ x) : FB B w0 w x := .inr ⟨hx, h.lt, fun cs' fr e => by rw [h] at e; cases e; exact ht rfl⟩
/-- steps are put behind steps -/
theorem rg_steps {base : Nat} {us : List Value} {r : List Cl} {ov : Value} {n : Nat} (hr : Steps B w0 w d us r) (h : Steps B w0 w d vs l) (ho : FlO w base 94 1 encV ov vs) (h0 : w0.heap.size ≤ base) (hbase : base ≤ w.heap.size) (hn : us.length = n) (hl : vs.length + n ≤ 1000000) {K : Value → World → Prop}
    (hK : ∀ v' w', FlO w' base 94 1 encV v' (vs ++ us) → Steps B w0 w' d (vs ++ us) (l ++ r) → Keep (fun j => base ≤ j) w w' → (∀ x cs t, Blk w x cs t → t ≠ 94 → Blk w' x cs t) → K v' w') :
    AppendGoal Tryz.prog 61 61 61 ov (.slice (some ⟨w.heap.size, 0, none⟩) n n) (w.alloc (.cells us.toArray 94)) K := by
  subst hn
  have ha : Keep No w (w.alloc (.cells us.toArray 94)) := (Keep.refl No w).alloc _
  have hs : Fl (fun j => j = w.heap.size) (w.alloc (.cells us.toArray 94)) 1 encV (.slice (some ⟨w.heap.size, 0, none⟩) us.length us.length) us := by
    have := Sl.new w us.toArray 94 (size := 1) (n := us.length) (by simp) (by unfold maxLen; omega)
    unfold Fl
    rw [encV_map hr.fn]
    exact this
  have hw : w0.heap.size ≤ w.heap.size := Nat.le_trans h0 hbase
  refine rg_cat (enc := encV) .nilFunc 8 Tryz.underlying61 info_step rfl (by decide) hs encV_one (ho.no ha) (by omega) (by decide) (Nat.le_trans hbase ha.size) ?_
  · intro v' w' ho' hk' _
    have ho1 := ho.no ha
    have hk : Keep (fun j => some j = ov.ownBlock) w w' := (ha.mono fun _ _ h => h.elim).trans' hk'
    have hst := (h.append hr).keep hw hk fun k hf => FB.row ho h0 hf
    refine hK v' w' ho' hst (hk.mono fun j _ e => (ho.lt j e.symm).1) fun x cs t hx ht => hx.keep hk (own_ne ho hx ht)
end
end Go.Proofs.YtkmoomgmmhmaeaaGreat
