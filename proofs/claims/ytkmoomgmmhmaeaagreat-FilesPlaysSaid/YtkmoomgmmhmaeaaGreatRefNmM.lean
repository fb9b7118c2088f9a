/- The reference of the disk: New, Read, Cut, Crash. Names in rising order, one behind the other: no program. No condition. -/
import Derived.Test.YtkmoomgmmhmaeaaGreatRef9
import Derived.Test.YtkmoomgmmhmaeaaGreatLawRoomM
namespace Go.Proofs.YtkmoomgmmhmaeaaGreat
open Go.RowKit Go.Dm Go.Dm.Dk

set_option maxRecDepth 100000 in
set_option maxHeartbeats 4000000 in
theorem rnew_any (room : Int) (w : World) : Calls Tryz.prog 6 #[.int .i64 room] w (RetD No w (Dk.new room)) := by
  have hD : ∀ W, DV (fun k => (No k ∧ k < w.heap.size) ∨ w.heap.size + 1 ≤ k) W (.slice none 0 0) (.slice none 0 0) (.slice none 0 0) (.slice none 0 0) (.slice none 0 0) (Dk.new room) := fun W => ⟨Fl.nil, Fl.nil, Fl.nil, Fl.nil, Fl.nil⟩
  have HD := Lib.hid hD
  clear hD
  have hsgn : room < 0 ∨ 0 ≤ room := by omega
  rcases hsgn with h | h
  · have e0 : room.toNat = 0 := by omega
    have E0 := Lib.hid e0
    clear e0
    go_enter Tryz.func6, Tryz.ntmps6
    go_wp2_with (first | (at_builtin; refine wl_append rfl _ _ _ _ rfl _ _ rfl rfl ?_) | (at_make; refine wl_make rfl _ _ _ rfl _ _ rfl rfl ?_) | (at_mapUpdate; refine wl_mapUpdate rfl _ _ _ _ rfl _ _ _ rfl rfl rfl ?_) | (at_lookup; refine wl_lookup rfl _ _ _ _ rfl _ _ rfl rfl ?_) | (at_delete; refine wl_delete rfl _ _ _ _ rfl _ _ rfl rfl ?_) | (with_reducible refine wl_len rfl _ _ rfl _ rfl ?_) | (with_reducible refine wl_range rfl _ _ rfl _ rfl ?_) | (with_reducible refine wl_next rfl _ rfl _ rfl ?_) | (with_reducible refine wl_copy rfl _ _ _ _ rfl _ _ rfl rfl ?_) | (with_reducible refine wl_max rfl _ _ _ _ rfl _ _ rfl rfl ?_) | (with_reducible refine wl_min rfl _ _ _ _ rfl _ _ rfl rfl ?_) | (with_reducible refine wl_stAgg rfl _ _ _ rfl _ _ rfl rfl ?_))
    refine rg_stAgg (Blk.new _ _ _) (by kernel_rfl) (by rfl) (by simp [Value.oneCell']) ?_
    intro Y hBY hkY _
    go_wp2_with (first | (at_builtin; refine wl_append rfl _ _ _ _ rfl _ _ rfl rfl ?_) | (at_make; refine wl_make rfl _ _ _ rfl _ _ rfl rfl ?_) | (at_mapUpdate; refine wl_mapUpdate rfl _ _ _ _ rfl _ _ _ rfl rfl rfl ?_) | (at_lookup; refine wl_lookup rfl _ _ _ _ rfl _ _ rfl rfl ?_) | (at_delete; refine wl_delete rfl _ _ _ _ rfl _ _ rfl rfl ?_) | (with_reducible refine wl_len rfl _ _ rfl _ rfl ?_) | (with_reducible refine wl_range rfl _ _ rfl _ rfl ?_) | (with_reducible refine wl_next rfl _ rfl _ rfl ?_) | (with_reducible refine wl_copy rfl _ _ _ _ rfl _ _ rfl rfl ?_) | (with_reducible refine wl_max rfl _ _ _ _ rfl _ _ rfl rfl ?_) | (with_reducible refine wl_min rfl _ _ _ _ rfl _ _ rfl rfl ?_) | (with_reducible refine wl_stAgg rfl _ _ _ rfl _ _ rfl rfl ?_))
    refine ret_blk rfl rfl hBY Tryz.underlying30 rfl (by kernel_rfl) rfl ?_
    have hfin := RetD.fin 1 (A := No) ((Keep.refl No w).alloc _) (HD.out _) (hkY.mono fun j _ e => ⟨by have e : j = w.heap.size := e; omega, by have e : j = w.heap.size := e; omega⟩)
    unfold dv Dk.new at hfin
    rw [E0.out] at hfin
    unfold Dk.new
    rw [E0.out]
    exact hfin
  · obtain ⟨r, rfl⟩ : ∃ r : Nat, room = (r : Int) := ⟨room.toNat, by omega⟩
    go_enter Tryz.func6, Tryz.ntmps6
    go_wp2_with (first | (at_builtin; refine wl_append rfl _ _ _ _ rfl _ _ rfl rfl ?_) | (at_make; refine wl_make rfl _ _ _ rfl _ _ rfl rfl ?_) | (at_mapUpdate; refine wl_mapUpdate rfl _ _ _ _ rfl _ _ _ rfl rfl rfl ?_) | (at_lookup; refine wl_lookup rfl _ _ _ _ rfl _ _ rfl rfl ?_) | (at_delete; refine wl_delete rfl _ _ _ _ rfl _ _ rfl rfl ?_) | (with_reducible refine wl_len rfl _ _ rfl _ rfl ?_) | (with_reducible refine wl_range rfl _ _ rfl _ rfl ?_) | (with_reducible refine wl_next rfl _ rfl _ rfl ?_) | (with_reducible refine wl_copy rfl _ _ _ _ rfl _ _ rfl rfl ?_) | (with_reducible refine wl_max rfl _ _ _ _ rfl _ _ rfl rfl ?_) | (with_reducible refine wl_min rfl _ _ _ _ rfl _ _ rfl rfl ?_) | (with_reducible refine wl_stAgg rfl _ _ _ rfl _ _ rfl rfl ?_))
    refine rg_stAgg (Blk.new _ _ _) (by kernel_rfl) (by rfl) (by simp [Value.oneCell']) ?_
    intro Y hBY hkY _
    go_wp2_with (first | (at_builtin; refine wl_append rfl _ _ _ _ rfl _ _ rfl rfl ?_) | (at_make; refine wl_make rfl _ _ _ rfl _ _ rfl rfl ?_) | (at_mapUpdate; refine wl_mapUpdate rfl _ _ _ _ rfl _ _ _ rfl rfl rfl ?_) | (at_lookup; refine wl_lookup rfl _ _ _ _ rfl _ _ rfl rfl ?_) | (at_delete; refine wl_delete rfl _ _ _ _ rfl _ _ rfl rfl ?_) | (with_reducible refine wl_len rfl _ _ rfl _ rfl ?_) | (with_reducible refine wl_range rfl _ _ rfl _ rfl ?_) | (with_reducible refine wl_next rfl _ rfl _ rfl ?_) | (with_reducible refine wl_copy rfl _ _ _ _ rfl _ _ rfl rfl ?_) | (with_reducible refine wl_max rfl _ _ _ _ rfl _ _ rfl rfl ?_) | (with_reducible refine wl_min rfl _ _ _ _ rfl _ _ rfl rfl ?_) | (with_reducible refine wl_stAgg rfl _ _ _ rfl _ _ rfl rfl ?_))
    refine ret_blk rfl rfl hBY Tryz.underlying30 rfl (by kernel_rfl) rfl ?_
    have hfin := RetD.fin 1 (A := No) ((Keep.refl No w).alloc _) (HD.out _) (hkY.mono fun j _ e => ⟨by have e : j = w.heap.size := e; omega, by have e : j = w.heap.size := e; omega⟩)
    unfold dv Dk.new at hfin
    rw [Int.toNat_natCast] at hfin
    unfold Dk.new
    rw [Int.toNat_natCast]
    exact hfin

set_option maxRecDepth 100000 in
set_option maxHeartbeats 4000000 in
theorem rread_any {A : Nat → Prop} {w : World} {v1 v2 v3 v4 v5 : Value} {m : M} {n N n2 : Nat} (a : List UInt8) (h : DV A w v1 v2 v3 v4 v5 m) (hf : Files m n2) :
    Calls Tryz.prog 17 #[dv m v1 v2 v3 v4 v5, .string ⟨a.toArray⟩] w fun e w' => e = .returned (.tuple #[.string ⟨(readB m a).toArray⟩, .int .i64 (readE m a : Nat)]) ∧ Keep No w w' := by
  obtain ⟨a1, d1, a2, d2, a3, d3, a4, d4, a5, d5, rfl, rfl, rfl, rfl, rfl⟩ := h.shape
  unfold dv
  cases hoff : m.off with
  | true =>
    have e1 : readB m a = [] := by simp [readB, hoff]
    have e2 : readE m a = 23 := by simp [readE, hoff]
    rw [e1, e2]
    clear e1 e2
    go_enter Tryz.func17, Tryz.ntmps17
    go_wp2_with (first | (at_builtin; refine wl_append rfl _ _ _ _ rfl _ _ rfl rfl ?_) | (at_make; refine wl_make rfl _ _ _ rfl _ _ rfl rfl ?_) | (at_mapUpdate; refine wl_mapUpdate rfl _ _ _ _ rfl _ _ _ rfl rfl rfl ?_) | (at_lookup; refine wl_lookup rfl _ _ _ _ rfl _ _ rfl rfl ?_) | (at_delete; refine wl_delete rfl _ _ _ _ rfl _ _ rfl rfl ?_) | (with_reducible refine wl_len rfl _ _ rfl _ rfl ?_) | (with_reducible refine wl_range rfl _ _ rfl _ rfl ?_) | (with_reducible refine wl_next rfl _ rfl _ rfl ?_) | (with_reducible refine wl_copy rfl _ _ _ _ rfl _ _ rfl rfl ?_) | (with_reducible refine wl_max rfl _ _ _ _ rfl _ _ rfl rfl ?_) | (with_reducible refine wl_min rfl _ _ _ _ rfl _ _ rfl rfl ?_))
    go_ret2
    exact ⟨rfl, (Keep.refl _ _).alloc _⟩
  | false =>
    have hk : Keep No w (w.alloc (.cells #[.int .i64 m.room, .slice a1 m.is.length d1, .slice a2 m.sure.length d2, .slice a3 m.L.length d3, .slice a4 m.S.length d4, .slice a5 m.wait.length d5, .bool false, .int .i64 m.cut] 30)) := (Keep.refl _ _).alloc _
    have h' := h.no hk
    cases hfd : find m.L a with
    | none =>
      have e1 : readB m a = [] := by simp [readB, hoff, hfd]
      have e2 : readE m a = 20 := by simp [readE, hoff, hfd]
      have hz : findZ m.L a = -1 := by simp [findZ, hfd]
      rw [e1, e2]
      clear e1 e2 hfd
      go_enter Tryz.func17, Tryz.ntmps17
      go_wp2_with (first | (at_builtin; refine wl_append rfl _ _ _ _ rfl _ _ rfl rfl ?_) | (at_make; refine wl_make rfl _ _ _ rfl _ _ rfl rfl ?_) | (at_mapUpdate; refine wl_mapUpdate rfl _ _ _ _ rfl _ _ _ rfl rfl rfl ?_) | (at_lookup; refine wl_lookup rfl _ _ _ _ rfl _ _ rfl rfl ?_) | (at_delete; refine wl_delete rfl _ _ _ _ rfl _ _ rfl rfl ?_) | (with_reducible refine wl_len rfl _ _ rfl _ rfl ?_) | (with_reducible refine wl_range rfl _ _ rfl _ rfl ?_) | (with_reducible refine wl_next rfl _ rfl _ rfl ?_) | (with_reducible refine wl_copy rfl _ _ _ _ rfl _ _ rfl rfl ?_) | (with_reducible refine wl_max rfl _ _ _ _ rfl _ _ rfl rfl ?_) | (with_reducible refine wl_min rfl _ _ _ _ rfl _ _ rfl rfl ?_))
      refine (rfind_any a h'.L).mono ?_
      rintro e x ⟨rfl, rfl⟩
      rw [hz]
      clear hz
      go_wp2_with (first | (at_builtin; refine wl_append rfl _ _ _ _ rfl _ _ rfl rfl ?_) | (at_make; refine wl_make rfl _ _ _ rfl _ _ rfl rfl ?_) | (at_mapUpdate; refine wl_mapUpdate rfl _ _ _ _ rfl _ _ _ rfl rfl rfl ?_) | (at_lookup; refine wl_lookup rfl _ _ _ _ rfl _ _ rfl rfl ?_) | (at_delete; refine wl_delete rfl _ _ _ _ rfl _ _ rfl rfl ?_) | (with_reducible refine wl_len rfl _ _ rfl _ rfl ?_) | (with_reducible refine wl_range rfl _ _ rfl _ rfl ?_) | (with_reducible refine wl_next rfl _ rfl _ rfl ?_) | (with_reducible refine wl_copy rfl _ _ _ _ rfl _ _ rfl rfl ?_) | (with_reducible refine wl_max rfl _ _ _ _ rfl _ _ rfl rfl ?_) | (with_reducible refine wl_min rfl _ _ _ _ rfl _ _ rfl rfl ?_))
      go_ret2
      exact ⟨rfl, hk⟩
    | some f =>
      have hfl : f < m.is.length := hf.L _ (find_some_mem hfd)
      have hXe : m.is.getD f [] = m.is[f] := by rw [List.getD_eq_getElem?_getD, List.getElem?_eq_getElem hfl, Option.getD_some]
      have e1 : readB m a = m.is[f] := by rw [← hXe]; simp [readB, hoff, hfd]
      have e2 : readE m a = 0 := by simp [readE, hoff, hfd]
      have hz : findZ m.L a = (f : Int) := by simp [findZ, hfd]
      rw [e1, e2]
      clear e1 e2 hfd
      obtain ⟨g, off, cap, e, hgA, hg, _, _, hcell⟩ := h'.is.at (fun _ => rfl) hfl
      cases e
      have q := hcell 0 _ rfl
      simp only [Nat.mul_one, Nat.add_zero] at q
      clear hcell hXe
      generalize m.is[f] = X at *
      have hfl' : (f : Int) < (m.is.length : Int) := by omega
      go_enter Tryz.func17, Tryz.ntmps17
      go_wp2_with (first | (at_builtin; refine wl_append rfl _ _ _ _ rfl _ _ rfl rfl ?_) | (at_make; refine wl_make rfl _ _ _ rfl _ _ rfl rfl ?_) | (at_mapUpdate; refine wl_mapUpdate rfl _ _ _ _ rfl _ _ _ rfl rfl rfl ?_) | (at_lookup; refine wl_lookup rfl _ _ _ _ rfl _ _ rfl rfl ?_) | (at_delete; refine wl_delete rfl _ _ _ _ rfl _ _ rfl rfl ?_) | (with_reducible refine wl_len rfl _ _ rfl _ rfl ?_) | (with_reducible refine wl_range rfl _ _ rfl _ rfl ?_) | (with_reducible refine wl_next rfl _ rfl _ rfl ?_) | (with_reducible refine wl_copy rfl _ _ _ _ rfl _ _ rfl rfl ?_) | (with_reducible refine wl_max rfl _ _ _ _ rfl _ _ rfl rfl ?_) | (with_reducible refine wl_min rfl _ _ _ _ rfl _ _ rfl rfl ?_))
      refine (rfind_any a h'.L).mono ?_
      rintro e x ⟨rfl, rfl⟩
      rw [hz]
      clear hz
      go_wp2_with (first | (at_builtin; refine wl_append rfl _ _ _ _ rfl _ _ rfl rfl ?_) | (at_make; refine wl_make rfl _ _ _ rfl _ _ rfl rfl ?_) | (at_mapUpdate; refine wl_mapUpdate rfl _ _ _ _ rfl _ _ _ rfl rfl rfl ?_) | (at_lookup; refine wl_lookup rfl _ _ _ _ rfl _ _ rfl rfl ?_) | (at_delete; refine wl_delete rfl _ _ _ _ rfl _ _ rfl rfl ?_) | (with_reducible refine wl_len rfl _ _ rfl _ rfl ?_) | (with_reducible refine wl_range rfl _ _ rfl _ rfl ?_) | (with_reducible refine wl_next rfl _ rfl _ rfl ?_) | (with_reducible refine wl_copy rfl _ _ _ _ rfl _ _ rfl rfl ?_) | (with_reducible refine wl_max rfl _ _ _ _ rfl _ _ rfl rfl ?_) | (with_reducible refine wl_min rfl _ _ _ _ rfl _ _ rfl rfl ?_))
      go_ret2
      exact ⟨rfl, hk⟩

set_option maxRecDepth 100000 in
set_option maxHeartbeats 4000000 in
theorem rcut_any {A : Nat → Prop} {w : World} {v1 v2 v3 v4 v5 : Value} {m : M} {n N n2 : Nat} (steps : Int) (h : DV A w v1 v2 v3 v4 v5 m) :
    Calls Tryz.prog 8 #[dv m v1 v2 v3 v4 v5, .int .i64 steps] w (RetD A w (cutD m steps)) := by
  replace h := h.mono (B := fun k => A k ∧ k < w.heap.size) fun j hj ha => ⟨ha, hj⟩
  obtain ⟨a1, d1, a2, d2, a3, d3, a4, d4, a5, d5, rfl, rfl, rfl, rfl, rfl⟩ := h.shape
  unfold dv
  cases hoff : m.off with
  | true =>
    have e1 : cutD m steps = m := by simp [cutD, hoff]
    rw [e1]
    clear e1
    go_enter Tryz.func8, Tryz.ntmps8
    go_wp2_with (first | (at_builtin; refine wl_append rfl _ _ _ _ rfl _ _ rfl rfl ?_) | (at_make; refine wl_make rfl _ _ _ rfl _ _ rfl rfl ?_) | (at_mapUpdate; refine wl_mapUpdate rfl _ _ _ _ rfl _ _ _ rfl rfl rfl ?_) | (at_lookup; refine wl_lookup rfl _ _ _ _ rfl _ _ rfl rfl ?_) | (at_delete; refine wl_delete rfl _ _ _ _ rfl _ _ rfl rfl ?_) | (with_reducible refine wl_len rfl _ _ rfl _ rfl ?_) | (with_reducible refine wl_range rfl _ _ rfl _ rfl ?_) | (with_reducible refine wl_next rfl _ rfl _ rfl ?_) | (with_reducible refine wl_copy rfl _ _ _ _ rfl _ _ rfl rfl ?_) | (with_reducible refine wl_max rfl _ _ _ _ rfl _ _ rfl rfl ?_) | (with_reducible refine wl_min rfl _ _ _ _ rfl _ _ rfl rfl ?_) | (with_reducible refine wl_stAgg rfl _ _ _ rfl _ _ rfl rfl ?_))
    have hkW1 : Keep No w (w.alloc (.cells #[.int .i64 m.room, .slice a1 m.is.length d1, .slice a2 m.sure.length d2, .slice a3 m.L.length d3, .slice a4 m.S.length d4, .slice a5 m.wait.length d5, .bool true, .int .i64 m.cut] 30)) := (Keep.refl _ _).alloc _
    have hBW1 : Blk (w.alloc (.cells #[.int .i64 m.room, .slice a1 m.is.length d1, .slice a2 m.sure.length d2, .slice a3 m.L.length d3, .slice a4 m.S.length d4, .slice a5 m.wait.length d5, .bool true, .int .i64 m.cut] 30)) w.heap.size #[.int .i64 m.room, .slice a1 m.is.length d1, .slice a2 m.sure.length d2, .slice a3 m.L.length d3, .slice a4 m.S.length d4, .slice a5 m.wait.length d5, .bool true, .int .i64 m.cut] 30 := Blk.new _ _ _
    have hzW1 : (w.alloc (.cells #[.int .i64 m.room, .slice a1 m.is.length d1, .slice a2 m.sure.length d2, .slice a3 m.L.length d3, .slice a4 m.S.length d4, .slice a5 m.wait.length d5, .bool true, .int .i64 m.cut] 30)).heap.size = w.heap.size + 1 := World.size_alloc _ _
    generalize w.alloc (.cells #[.int .i64 m.room, .slice a1 m.is.length d1, .slice a2 m.sure.length d2, .slice a3 m.L.length d3, .slice a4 m.S.length d4, .slice a5 m.wait.length d5, .bool true, .int .i64 m.cut] 30) = W1 at *
    have hkW : Keep No W1 (W1.alloc (.cells #[.int .i64 0, .slice none 0 0, .slice none 0 0, .slice none 0 0, .slice none 0 0, .slice none 0 0, .bool false, .int .i64 0] 30)) := (Keep.refl _ _).alloc _
    have hBW : Blk (W1.alloc (.cells #[.int .i64 0, .slice none 0 0, .slice none 0 0, .slice none 0 0, .slice none 0 0, .slice none 0 0, .bool false, .int .i64 0] 30)) W1.heap.size #[.int .i64 0, .slice none 0 0, .slice none 0 0, .slice none 0 0, .slice none 0 0, .slice none 0 0, .bool false, .int .i64 0] 30 := Blk.new _ _ _
    have hzW : (W1.alloc (.cells #[.int .i64 0, .slice none 0 0, .slice none 0 0, .slice none 0 0, .slice none 0 0, .slice none 0 0, .bool false, .int .i64 0] 30)).heap.size = W1.heap.size + 1 := World.size_alloc _ _
    generalize W1.alloc (.cells #[.int .i64 0, .slice none 0 0, .slice none 0 0, .slice none 0 0, .slice none 0 0, .slice none 0 0, .bool false, .int .i64 0] 30) = W at *
    rw [hzW1] at hBW
    refine rg_stAgg hBW (by kernel_rfl) (by rfl) (by simp [Value.oneCell']) ?_
    intro Y hBY hkY _
    go_wp2_with (first | (at_builtin; refine wl_append rfl _ _ _ _ rfl _ _ rfl rfl ?_) | (at_make; refine wl_make rfl _ _ _ rfl _ _ rfl rfl ?_) | (at_mapUpdate; refine wl_mapUpdate rfl _ _ _ _ rfl _ _ _ rfl rfl rfl ?_) | (at_lookup; refine wl_lookup rfl _ _ _ _ rfl _ _ rfl rfl ?_) | (at_delete; refine wl_delete rfl _ _ _ _ rfl _ _ rfl rfl ?_) | (with_reducible refine wl_len rfl _ _ rfl _ rfl ?_) | (with_reducible refine wl_range rfl _ _ rfl _ rfl ?_) | (with_reducible refine wl_next rfl _ rfl _ rfl ?_) | (with_reducible refine wl_copy rfl _ _ _ _ rfl _ _ rfl rfl ?_) | (with_reducible refine wl_max rfl _ _ _ _ rfl _ _ rfl rfl ?_) | (with_reducible refine wl_min rfl _ _ _ _ rfl _ _ rfl rfl ?_) | (with_reducible refine wl_stAgg rfl _ _ _ rfl _ _ rfl rfl ?_))
    refine ret_blk rfl rfl hBY Tryz.underlying30 rfl (by kernel_rfl) rfl ?_
    have hfin := RetD.fin 2 (hkW1.trans' hkW) (h.no (hkW1.trans' hkW)).in2 (hkY.mono fun j _ e => ⟨by have e : j = w.heap.size + 1 := e; omega, by have e : j = w.heap.size + 1 := e; omega⟩)
    unfold dv at hfin
    rw [hoff] at hfin
    exact hfin
  | false =>
    have hsgn : steps ≤ 0 ∨ 0 < steps := by omega
    have e1 : cutD m steps = { m with cut := steps.toNat } := by simp [cutD, hoff]
    rw [e1]
    clear e1
    rcases hsgn with hsg | hsg
    · have e0 : steps.toNat = 0 := by omega
      have E0 := Lib.hid e0
      clear e0
      go_enter Tryz.func8, Tryz.ntmps8
      go_wp2_with (first | (at_builtin; refine wl_append rfl _ _ _ _ rfl _ _ rfl rfl ?_) | (at_make; refine wl_make rfl _ _ _ rfl _ _ rfl rfl ?_) | (at_mapUpdate; refine wl_mapUpdate rfl _ _ _ _ rfl _ _ _ rfl rfl rfl ?_) | (at_lookup; refine wl_lookup rfl _ _ _ _ rfl _ _ rfl rfl ?_) | (at_delete; refine wl_delete rfl _ _ _ _ rfl _ _ rfl rfl ?_) | (with_reducible refine wl_len rfl _ _ rfl _ rfl ?_) | (with_reducible refine wl_range rfl _ _ rfl _ rfl ?_) | (with_reducible refine wl_next rfl _ rfl _ rfl ?_) | (with_reducible refine wl_copy rfl _ _ _ _ rfl _ _ rfl rfl ?_) | (with_reducible refine wl_max rfl _ _ _ _ rfl _ _ rfl rfl ?_) | (with_reducible refine wl_min rfl _ _ _ _ rfl _ _ rfl rfl ?_) | (with_reducible refine wl_stAgg rfl _ _ _ rfl _ _ rfl rfl ?_))
      have hkW1 : Keep No w (w.alloc (.cells #[.int .i64 m.room, .slice a1 m.is.length d1, .slice a2 m.sure.length d2, .slice a3 m.L.length d3, .slice a4 m.S.length d4, .slice a5 m.wait.length d5, .bool false, .int .i64 0] 30)) := (Keep.refl _ _).alloc _
      have hBW1 : Blk (w.alloc (.cells #[.int .i64 m.room, .slice a1 m.is.length d1, .slice a2 m.sure.length d2, .slice a3 m.L.length d3, .slice a4 m.S.length d4, .slice a5 m.wait.length d5, .bool false, .int .i64 0] 30)) w.heap.size #[.int .i64 m.room, .slice a1 m.is.length d1, .slice a2 m.sure.length d2, .slice a3 m.L.length d3, .slice a4 m.S.length d4, .slice a5 m.wait.length d5, .bool false, .int .i64 0] 30 := Blk.new _ _ _
      have hzW1 : (w.alloc (.cells #[.int .i64 m.room, .slice a1 m.is.length d1, .slice a2 m.sure.length d2, .slice a3 m.L.length d3, .slice a4 m.S.length d4, .slice a5 m.wait.length d5, .bool false, .int .i64 0] 30)).heap.size = w.heap.size + 1 := World.size_alloc _ _
      generalize w.alloc (.cells #[.int .i64 m.room, .slice a1 m.is.length d1, .slice a2 m.sure.length d2, .slice a3 m.L.length d3, .slice a4 m.S.length d4, .slice a5 m.wait.length d5, .bool false, .int .i64 0] 30) = W1 at *
      have hkW : Keep No W1 (W1.alloc (.cells #[.int .i64 0, .slice none 0 0, .slice none 0 0, .slice none 0 0, .slice none 0 0, .slice none 0 0, .bool false, .int .i64 0] 30)) := (Keep.refl _ _).alloc _
      have hBW : Blk (W1.alloc (.cells #[.int .i64 0, .slice none 0 0, .slice none 0 0, .slice none 0 0, .slice none 0 0, .slice none 0 0, .bool false, .int .i64 0] 30)) W1.heap.size #[.int .i64 0, .slice none 0 0, .slice none 0 0, .slice none 0 0, .slice none 0 0, .slice none 0 0, .bool false, .int .i64 0] 30 := Blk.new _ _ _
      have hzW : (W1.alloc (.cells #[.int .i64 0, .slice none 0 0, .slice none 0 0, .slice none 0 0, .slice none 0 0, .slice none 0 0, .bool false, .int .i64 0] 30)).heap.size = W1.heap.size + 1 := World.size_alloc _ _
      generalize W1.alloc (.cells #[.int .i64 0, .slice none 0 0, .slice none 0 0, .slice none 0 0, .slice none 0 0, .slice none 0 0, .bool false, .int .i64 0] 30) = W at *
      rw [hzW1] at hBW
      refine rg_stAgg hBW (by kernel_rfl) (by rfl) (by simp [Value.oneCell']) ?_
      intro Y hBY hkY _
      go_wp2_with (first | (at_builtin; refine wl_append rfl _ _ _ _ rfl _ _ rfl rfl ?_) | (at_make; refine wl_make rfl _ _ _ rfl _ _ rfl rfl ?_) | (at_mapUpdate; refine wl_mapUpdate rfl _ _ _ _ rfl _ _ _ rfl rfl rfl ?_) | (at_lookup; refine wl_lookup rfl _ _ _ _ rfl _ _ rfl rfl ?_) | (at_delete; refine wl_delete rfl _ _ _ _ rfl _ _ rfl rfl ?_) | (with_reducible refine wl_len rfl _ _ rfl _ rfl ?_) | (with_reducible refine wl_range rfl _ _ rfl _ rfl ?_) | (with_reducible refine wl_next rfl _ rfl _ rfl ?_) | (with_reducible refine wl_copy rfl _ _ _ _ rfl _ _ rfl rfl ?_) | (with_reducible refine wl_max rfl _ _ _ _ rfl _ _ rfl rfl ?_) | (with_reducible refine wl_min rfl _ _ _ _ rfl _ _ rfl rfl ?_) | (with_reducible refine wl_stAgg rfl _ _ _ rfl _ _ rfl rfl ?_))
      refine ret_blk rfl rfl hBY Tryz.underlying30 rfl (by kernel_rfl) rfl ?_
      have h2 := (h.no (hkW1.trans' hkW)).in2 (k := w.heap.size + 2)
      have hfin := RetD.fin 2 (m := { m with cut := 0 }) (hkW1.trans' hkW) ⟨h2.is, h2.sure, h2.L, h2.S, h2.W⟩ (hkY.mono fun j _ e => ⟨by have e : j = w.heap.size + 1 := e; omega, by have e : j = w.heap.size + 1 := e; omega⟩)
      unfold dv at hfin
      simp only [hoff] at hfin
      rw [E0.out]
      simp only [hoff]
      exact hfin
    · obtain ⟨c, rfl⟩ : ∃ c : Nat, steps = (c : Int) := ⟨steps.toNat, by omega⟩
      rw [Int.toNat_natCast]
      go_enter Tryz.func8, Tryz.ntmps8
      go_wp2_with (first | (at_builtin; refine wl_append rfl _ _ _ _ rfl _ _ rfl rfl ?_) | (at_make; refine wl_make rfl _ _ _ rfl _ _ rfl rfl ?_) | (at_mapUpdate; refine wl_mapUpdate rfl _ _ _ _ rfl _ _ _ rfl rfl rfl ?_) | (at_lookup; refine wl_lookup rfl _ _ _ _ rfl _ _ rfl rfl ?_) | (at_delete; refine wl_delete rfl _ _ _ _ rfl _ _ rfl rfl ?_) | (with_reducible refine wl_len rfl _ _ rfl _ rfl ?_) | (with_reducible refine wl_range rfl _ _ rfl _ rfl ?_) | (with_reducible refine wl_next rfl _ rfl _ rfl ?_) | (with_reducible refine wl_copy rfl _ _ _ _ rfl _ _ rfl rfl ?_) | (with_reducible refine wl_max rfl _ _ _ _ rfl _ _ rfl rfl ?_) | (with_reducible refine wl_min rfl _ _ _ _ rfl _ _ rfl rfl ?_) | (with_reducible refine wl_stAgg rfl _ _ _ rfl _ _ rfl rfl ?_))
      have hkW1 : Keep No w (w.alloc (.cells #[.int .i64 m.room, .slice a1 m.is.length d1, .slice a2 m.sure.length d2, .slice a3 m.L.length d3, .slice a4 m.S.length d4, .slice a5 m.wait.length d5, .bool false, .int .i64 c] 30)) := (Keep.refl _ _).alloc _
      have hBW1 : Blk (w.alloc (.cells #[.int .i64 m.room, .slice a1 m.is.length d1, .slice a2 m.sure.length d2, .slice a3 m.L.length d3, .slice a4 m.S.length d4, .slice a5 m.wait.length d5, .bool false, .int .i64 c] 30)) w.heap.size #[.int .i64 m.room, .slice a1 m.is.length d1, .slice a2 m.sure.length d2, .slice a3 m.L.length d3, .slice a4 m.S.length d4, .slice a5 m.wait.length d5, .bool false, .int .i64 c] 30 := Blk.new _ _ _
      have hzW1 : (w.alloc (.cells #[.int .i64 m.room, .slice a1 m.is.length d1, .slice a2 m.sure.length d2, .slice a3 m.L.length d3, .slice a4 m.S.length d4, .slice a5 m.wait.length d5, .bool false, .int .i64 c] 30)).heap.size = w.heap.size + 1 := World.size_alloc _ _
      generalize w.alloc (.cells #[.int .i64 m.room, .slice a1 m.is.length d1, .slice a2 m.sure.length d2, .slice a3 m.L.length d3, .slice a4 m.S.length d4, .slice a5 m.wait.length d5, .bool false, .int .i64 c] 30) = W1 at *
      have hkW : Keep No W1 (W1.alloc (.cells #[.int .i64 0, .slice none 0 0, .slice none 0 0, .slice none 0 0, .slice none 0 0, .slice none 0 0, .bool false, .int .i64 0] 30)) := (Keep.refl _ _).alloc _
      have hBW : Blk (W1.alloc (.cells #[.int .i64 0, .slice none 0 0, .slice none 0 0, .slice none 0 0, .slice none 0 0, .slice none 0 0, .bool false, .int .i64 0] 30)) W1.heap.size #[.int .i64 0, .slice none 0 0, .slice none 0 0, .slice none 0 0, .slice none 0 0, .slice none 0 0, .bool false, .int .i64 0] 30 := Blk.new _ _ _
      have hzW : (W1.alloc (.cells #[.int .i64 0, .slice none 0 0, .slice none 0 0, .slice none 0 0, .slice none 0 0, .slice none 0 0, .bool false, .int .i64 0] 30)).heap.size = W1.heap.size + 1 := World.size_alloc _ _
      generalize W1.alloc (.cells #[.int .i64 0, .slice none 0 0, .slice none 0 0, .slice none 0 0, .slice none 0 0, .slice none 0 0, .bool false, .int .i64 0] 30) = W at *
      rw [hzW1] at hBW
      refine rg_stAgg hBW (by kernel_rfl) (by rfl) (by simp [Value.oneCell']) ?_
      intro Y hBY hkY _
      go_wp2_with (first | (at_builtin; refine wl_append rfl _ _ _ _ rfl _ _ rfl rfl ?_) | (at_make; refine wl_make rfl _ _ _ rfl _ _ rfl rfl ?_) | (at_mapUpdate; refine wl_mapUpdate rfl _ _ _ _ rfl _ _ _ rfl rfl rfl ?_) | (at_lookup; refine wl_lookup rfl _ _ _ _ rfl _ _ rfl rfl ?_) | (at_delete; refine wl_delete rfl _ _ _ _ rfl _ _ rfl rfl ?_) | (with_reducible refine wl_len rfl _ _ rfl _ rfl ?_) | (with_reducible refine wl_range rfl _ _ rfl _ rfl ?_) | (with_reducible refine wl_next rfl _ rfl _ rfl ?_) | (with_reducible refine wl_copy rfl _ _ _ _ rfl _ _ rfl rfl ?_) | (with_reducible refine wl_max rfl _ _ _ _ rfl _ _ rfl rfl ?_) | (with_reducible refine wl_min rfl _ _ _ _ rfl _ _ rfl rfl ?_) | (with_reducible refine wl_stAgg rfl _ _ _ rfl _ _ rfl rfl ?_))
      refine ret_blk rfl rfl hBY Tryz.underlying30 rfl (by kernel_rfl) rfl ?_
      have h2 := (h.no (hkW1.trans' hkW)).in2 (k := w.heap.size + 2)
      have hfin := RetD.fin 2 (m := { m with cut := c }) (hkW1.trans' hkW) ⟨h2.is, h2.sure, h2.L, h2.S, h2.W⟩ (hkY.mono fun j _ e => ⟨by have e : j = w.heap.size + 1 := e; omega, by have e : j = w.heap.size + 1 := e; omega⟩)
      unfold dv at hfin
      simp only [hoff] at hfin
      simp only [hoff]
      exact hfin

set_option maxRecDepth 100000 in
set_option maxHeartbeats 4000000 in
theorem rcrash_any {A : Nat → Prop} {w : World} {v1 v2 v3 v4 v5 : Value} {m : M} {n N n2 : Nat} {B : Nat → Prop} {kv : Value} (keep : List Bool) (h : DV A w v1 v2 v3 v4 v5 m) (hkp : Fl B w 1 encB kv keep) (hs : Small m n N) (hf : Files m n2) (hn : n ≤ 100000) (hN : N ≤ 1000000) (hn2 : n2 ≤ 1000000) :
    Calls Tryz.prog 12 #[dv m v1 v2 v3 v4 v5, kv] w (RetD A w (Dk.crash m keep)) := by
  obtain ⟨ak, dk, rfl, _, hdk⟩ := hkp.shape
  replace h := h.mono (B := fun k => A k ∧ k < w.heap.size) fun j hj ha => ⟨ha, hj⟩
  obtain ⟨a1, d1, a2, d2, a3, d3, a4, d4, a5, d5, rfl, rfl, rfl, rfl, rfl⟩ := h.shape
  unfold dv
  go_enter Tryz.func12, Tryz.ntmps12
  go_wp2_with (first | (at_builtin; refine wl_append rfl _ _ _ _ rfl _ _ rfl rfl ?_) | (at_make; refine wl_make rfl _ _ _ rfl _ _ rfl rfl ?_) | (at_mapUpdate; refine wl_mapUpdate rfl _ _ _ _ rfl _ _ _ rfl rfl rfl ?_) | (at_lookup; refine wl_lookup rfl _ _ _ _ rfl _ _ rfl rfl ?_) | (at_delete; refine wl_delete rfl _ _ _ _ rfl _ _ rfl rfl ?_) | (with_reducible refine wl_len rfl _ _ rfl _ rfl ?_) | (with_reducible refine wl_range rfl _ _ rfl _ rfl ?_) | (with_reducible refine wl_next rfl _ rfl _ rfl ?_) | (with_reducible refine wl_copy rfl _ _ _ _ rfl _ _ rfl rfl ?_) | (with_reducible refine wl_max rfl _ _ _ _ rfl _ _ rfl rfl ?_) | (with_reducible refine wl_min rfl _ _ _ _ rfl _ _ rfl rfl ?_))
  have hkW1 : Keep No w (w.alloc (.cells #[.int .i64 m.room, .slice a1 m.is.length d1, .slice a2 m.sure.length d2, .slice a3 m.L.length d3, .slice a4 m.S.length d4, .slice a5 m.wait.length d5, .bool m.off, .int .i64 m.cut] 30)) := (Keep.refl _ _).alloc _
  have hBW1 : Blk (w.alloc (.cells #[.int .i64 m.room, .slice a1 m.is.length d1, .slice a2 m.sure.length d2, .slice a3 m.L.length d3, .slice a4 m.S.length d4, .slice a5 m.wait.length d5, .bool m.off, .int .i64 m.cut] 30)) w.heap.size #[.int .i64 m.room, .slice a1 m.is.length d1, .slice a2 m.sure.length d2, .slice a3 m.L.length d3, .slice a4 m.S.length d4, .slice a5 m.wait.length d5, .bool m.off, .int .i64 m.cut] 30 := Blk.new _ _ _
  have hzW1 : (w.alloc (.cells #[.int .i64 m.room, .slice a1 m.is.length d1, .slice a2 m.sure.length d2, .slice a3 m.L.length d3, .slice a4 m.S.length d4, .slice a5 m.wait.length d5, .bool m.off, .int .i64 m.cut] 30)).heap.size = w.heap.size + 1 := World.size_alloc _ _
  generalize w.alloc (.cells #[.int .i64 m.room, .slice a1 m.is.length d1, .slice a2 m.sure.length d2, .slice a3 m.L.length d3, .slice a4 m.S.length d4, .slice a5 m.wait.length d5, .bool m.off, .int .i64 m.cut] 30) = W1 at *
  have hkW : Keep No W1 (W1.alloc (.cells #[.int .i64 0, .slice none 0 0, .slice none 0 0, .slice none 0 0, .slice none 0 0, .slice none 0 0, .bool false, .int .i64 0] 30)) := (Keep.refl _ _).alloc _
  have hBW : Blk (W1.alloc (.cells #[.int .i64 0, .slice none 0 0, .slice none 0 0, .slice none 0 0, .slice none 0 0, .slice none 0 0, .bool false, .int .i64 0] 30)) W1.heap.size #[.int .i64 0, .slice none 0 0, .slice none 0 0, .slice none 0 0, .slice none 0 0, .slice none 0 0, .bool false, .int .i64 0] 30 := Blk.new _ _ _
  have hzW : (W1.alloc (.cells #[.int .i64 0, .slice none 0 0, .slice none 0 0, .slice none 0 0, .slice none 0 0, .slice none 0 0, .bool false, .int .i64 0] 30)).heap.size = W1.heap.size + 1 := World.size_alloc _ _
  generalize W1.alloc (.cells #[.int .i64 0, .slice none 0 0, .slice none 0 0, .slice none 0 0, .slice none 0 0, .slice none 0 0, .bool false, .int .i64 0] 30) = W at *
  rw [hzW1] at hBW
  replace hBW1 := hBW1.keep hkW fun h => h
  replace hkW := hkW1.trans' hkW
  have h' := h.no hkW
  have hzz : w.heap.size + 2 ≤ W.heap.size := by omega
  clear hkW1 hzW1 hzW
  clear W1
  have c1 := hBW1.cell
  have f1 := hBW1.frozen
  have hst := rsettle_any keep (h'.in2 (k := w.heap.size + 2)) (hkp.no hkW) hs hf hn hN hn2
  have hcr : Dk.crash m keep = (fun s : M => { s with wait := [], off := false, cut := 0, L := s.S, is := s.sure }) (Dk.settle m fun i => keep.getD i false) := rfl
  generalize Dk.settle m (fun i => keep.getD i false) = s at *
  have HCR := Lib.hid hcr
  clear hcr
  refine hst.mono ?_
  rintro e Y ⟨u1, u2, u3, u4, u5, rfl, hDY, hkY⟩
  obtain ⟨z1, y1, z2, y2, z3, y3, z4, y4, z5, y5, rfl, rfl, rfl, rfl, rfl⟩ := hDY.shape
  have hBY := hBW.keep hkY fun h => h
  have hB1 := hBW1.keep hkY fun h => h
  clear hst c1 f1
  unfold dv
  go_wp2_with (first | (at_builtin; refine wl_append rfl _ _ _ _ rfl _ _ rfl rfl ?_) | (at_make; refine wl_make rfl _ _ _ rfl _ _ rfl rfl ?_) | (at_mapUpdate; refine wl_mapUpdate rfl _ _ _ _ rfl _ _ _ rfl rfl rfl ?_) | (at_lookup; refine wl_lookup rfl _ _ _ _ rfl _ _ rfl rfl ?_) | (at_delete; refine wl_delete rfl _ _ _ _ rfl _ _ rfl rfl ?_) | (with_reducible refine wl_len rfl _ _ rfl _ rfl ?_) | (with_reducible refine wl_range rfl _ _ rfl _ rfl ?_) | (with_reducible refine wl_next rfl _ rfl _ rfl ?_) | (with_reducible refine wl_copy rfl _ _ _ _ rfl _ _ rfl rfl ?_) | (with_reducible refine wl_max rfl _ _ _ _ rfl _ _ rfl rfl ?_) | (with_reducible refine wl_min rfl _ _ _ _ rfl _ _ rfl rfl ?_) | (with_reducible refine wl_stAgg rfl _ _ _ rfl _ _ rfl rfl ?_))
  refine rg_stAgg hB1 (by kernel_rfl) (by rfl) (by simp [Value.oneCell']) ?_
  intro Y2 hB2 hk2 _
  have hne : w.heap.size + 1 ≠ w.heap.size := by omega
  have hBY2 := hBY.keep hk2 hne
  have c1 := hB2.cell
  have f1 := hB2.frozen
  have HNE := Lib.hid hne
  clear hne
  go_wp2_with (first | (at_builtin; refine wl_append rfl _ _ _ _ rfl _ _ rfl rfl ?_) | (at_make; refine wl_make rfl _ _ _ rfl _ _ rfl rfl ?_) | (at_mapUpdate; refine wl_mapUpdate rfl _ _ _ _ rfl _ _ _ rfl rfl rfl ?_) | (at_lookup; refine wl_lookup rfl _ _ _ _ rfl _ _ rfl rfl ?_) | (at_delete; refine wl_delete rfl _ _ _ _ rfl _ _ rfl rfl ?_) | (with_reducible refine wl_len rfl _ _ rfl _ rfl ?_) | (with_reducible refine wl_range rfl _ _ rfl _ rfl ?_) | (with_reducible refine wl_next rfl _ rfl _ rfl ?_) | (with_reducible refine wl_copy rfl _ _ _ _ rfl _ _ rfl rfl ?_) | (with_reducible refine wl_max rfl _ _ _ _ rfl _ _ rfl rfl ?_) | (with_reducible refine wl_min rfl _ _ _ _ rfl _ _ rfl rfl ?_) | (with_reducible refine wl_stAgg rfl _ _ _ rfl _ _ rfl rfl ?_))
  refine rg_stAgg (((((hBY2.set_other (a := ⟨w.heap.size, 5, none⟩) HNE.out _).set_other (a := ⟨w.heap.size, 6, none⟩) HNE.out _).set_other (a := ⟨w.heap.size, 7, none⟩) HNE.out _).set_other (a := ⟨w.heap.size, 3, none⟩) HNE.out _).set_other (a := ⟨w.heap.size, 1, none⟩) HNE.out _) (by kernel_rfl) (by rfl) (by simp [Value.oneCell']) ?_
  intro Z hBZ hkZ _
  go_wp2_with (first | (at_builtin; refine wl_append rfl _ _ _ _ rfl _ _ rfl rfl ?_) | (at_make; refine wl_make rfl _ _ _ rfl _ _ rfl rfl ?_) | (at_mapUpdate; refine wl_mapUpdate rfl _ _ _ _ rfl _ _ _ rfl rfl rfl ?_) | (at_lookup; refine wl_lookup rfl _ _ _ _ rfl _ _ rfl rfl ?_) | (at_delete; refine wl_delete rfl _ _ _ _ rfl _ _ rfl rfl ?_) | (with_reducible refine wl_len rfl _ _ rfl _ rfl ?_) | (with_reducible refine wl_range rfl _ _ rfl _ rfl ?_) | (with_reducible refine wl_next rfl _ rfl _ rfl ?_) | (with_reducible refine wl_copy rfl _ _ _ _ rfl _ _ rfl rfl ?_) | (with_reducible refine wl_max rfl _ _ _ _ rfl _ _ rfl rfl ?_) | (with_reducible refine wl_min rfl _ _ _ _ rfl _ _ rfl rfl ?_) | (with_reducible refine wl_stAgg rfl _ _ _ rfl _ _ rfl rfl ?_))
  refine ret_blk rfl rfl hBZ Tryz.underlying30 rfl (by kernel_rfl) rfl ?_
  rw [HCR.out]
  have hDX := hDY.mono (B := fun j => (A j ∧ j < w.heap.size) ∨ w.heap.size + 2 ≤ j) fun j _ ha => by
    rcases ha with ha | ha
    · exact ha
    · exact .inr (Nat.le_trans hzz ha.1)
  have hkS : Keep (fun j => w.heap.size ≤ j ∧ j < w.heap.size + 2) Y Z := by
    refine Keep.trans (B := fun j => j = w.heap.size + 1) ?_ hkZ fun j _ e => ⟨by have e : j = w.heap.size + 1 := e; omega, by have e : j = w.heap.size + 1 := e; omega⟩
    refine ((((((hk2.mono fun j _ e => ?_).setCell (p := ⟨w.heap.size, 5, none⟩) (fun _ => ?_) _).setCell (p := ⟨w.heap.size, 6, none⟩) (fun _ => ?_) _).setCell (p := ⟨w.heap.size, 7, none⟩) (fun _ => ?_) _).setCell (p := ⟨w.heap.size, 3, none⟩) (fun _ => ?_) _).setCell (p := ⟨w.heap.size, 1, none⟩) (fun _ => ?_) _)
    · have e : j = w.heap.size := e
      exact ⟨by omega, by omega⟩
    all_goals exact ⟨Nat.le_refl _, Nat.lt_add_of_pos_right (by decide)⟩
  exact RetD.fin 2 (m := { s with wait := [], off := false, cut := 0, L := s.S, is := s.sure }) (hkW.trans' hkY) ⟨hDX.sure, hDX.sure, hDX.S, hDX.S, Fl.nil⟩ hkS
end Go.Proofs.YtkmoomgmmhmaeaaGreat
namespace Go.Dm.Dk

theorem str_total (a b : List UInt8) : a ≤ b ∨ b ≤ a := List.le_total a b
theorem str_antisymm {a b : List UInt8} (h1 : a ≤ b) (h2 : b ≤ a) : a = b := List.le_antisymm h1 h2
theorem str_trans {a b c : List UInt8} (h1 : a ≤ b) (h2 : b ≤ c) : a ≤ c := List.le_trans h1 h2
theorem str_lt {a b : List UInt8} : a < b ↔ a ≤ b ∧ a ≠ b := by
  constructor
  · intro h
    exact ⟨List.le_of_lt h, fun e => by subst e; exact List.lt_irrefl _ h⟩
  · rintro ⟨h, hn⟩
    rcases Classical.em (a < b) with h1 | h1
    · exact h1
    · exact absurd (str_antisymm h (List.not_lt.1 h1)) hn
theorem sorted_strict {T : List (List UInt8)} (hn : T.Nodup) : (T.mergeSort fun x y => decide (x ≤ y)).Pairwise (· < ·) := by
  have h1 : (T.mergeSort fun x y => decide (x ≤ y)).Pairwise (fun a b => (decide (a ≤ b)) = true) := List.pairwise_mergeSort (fun a b c h1 h2 => by
      simp only [decide_eq_true_eq] at *; exact str_trans h1 h2) (fun a b => by
      simp only [Bool.or_eq_true, decide_eq_true_eq]; exact str_total a b) T
  have h2 : (T.mergeSort fun x y => decide (x ≤ y)).Nodup := (List.mergeSort_perm T _).nodup_iff.2 hn
  exact (h1.and h2).imp fun ⟨a, b⟩ => str_lt.2 ⟨by simpa using a, b⟩
/-- may a name come next, behind j names? -/
def Cand (S : List (List UInt8)) (j : Nat) (x : List UInt8) : Prop := ∀ y ∈ S.take j, y < x
theorem cand_last {S : List (List UInt8)} (hs : S.Pairwise (· < ·)) {j : Nat} (hj : j < S.length) (x : List UInt8) : Cand S (j + 1) x ↔ S[j] < x := by
  constructor
  · intro h
    refine h _ ?_
    rw [List.take_succ_eq_append_getElem hj]
    exact List.mem_append_right _ (List.mem_singleton.2 rfl)
  · intro h y hy
    rw [List.take_succ_eq_append_getElem hj] at hy
    rcases List.mem_append.1 hy with hy | hy
    · obtain ⟨i, hi, rfl⟩ := List.mem_take_iff_getElem.1 hy
      have h1 : S[i] < S[j] := List.pairwise_iff_getElem.1 hs i j (by omega) hj (by omega)
      exact List.lt_trans h1 h
    · simp only [List.mem_singleton] at hy; rw [hy]; exact h
theorem cand_zero (S : List (List UInt8)) (x : List UInt8) : Cand S 0 x := fun y hy => by simp at hy
theorem cand_at {S : List (List UInt8)} (hs : S.Pairwise (· < ·)) {j : Nat} (hj : j < S.length) : Cand S j S[j] := by
  intro y hy
  obtain ⟨i, hi, rfl⟩ := List.mem_take_iff_getElem.1 hy
  exact List.pairwise_iff_getElem.1 hs i j (by omega) hj (by omega)
theorem cand_min {S : List (List UInt8)} (hs : S.Pairwise (· < ·)) {j : Nat} (hj : j < S.length) {a : List UInt8} (ha : a ∈ S) (hc : Cand S j a) (hm : ∀ x ∈ S, Cand S j x → a ≤ x) : a = S[j] := by
  obtain ⟨k, hk, rfl⟩ := List.mem_iff_getElem.1 ha
  have h1 := hm _ (List.getElem_mem hj) (cand_at hs hj)
  rcases Nat.lt_trichotomy k j with h | h | h
  · have h2 := hc S[k] (List.mem_take_iff_getElem.2 ⟨k, by omega, rfl⟩)
    exact absurd h2 (List.lt_irrefl _)
  · subst h; rfl
  · have h2 : S[j] < S[k] := List.pairwise_iff_getElem.1 hs j k hj hk h
    exact absurd h2 (List.not_lt.2 h1)

/-- the inner loop: of the first i names of L, at the place 'at' is the least that may come next -/
def Least (L : Names) (S : List (List UInt8)) (j i : Nat) (at_ : Int) : Prop :=
  (at_ = -1 ∧ ∀ p ∈ L.take i, ¬ Cand S j p.1) ∨ ∃ a : Nat, at_ = (a : Int) ∧ a < i ∧ ∃ h : a < L.length, Cand S j L[a].1 ∧ ∀ p ∈ L.take i, Cand S j p.1 → L[a].1 ≤ p.1
theorem least_zero (L : Names) (S : List (List UInt8)) (j : Nat) : Least L S j 0 (-1) := .inl ⟨rfl, fun p hp => by simp at hp⟩
theorem least_skip {L : Names} {S : List (List UInt8)} {j i : Nat} {at_ : Int} (hi : i < L.length) (h : Least L S j i at_) (hn : ¬ Cand S j L[i].1 ∨ ∃ a : Nat, at_ = (a : Int) ∧ ∃ h : a < L.length, L[a].1 ≤ L[i].1) : Least L S j (i + 1) at_ := by
  rcases h with ⟨h1, h2⟩ | ⟨a, h1, h2, h3, h4, h5⟩
  · rcases hn with hn | ⟨a, ha, _⟩
    · refine .inl ⟨h1, fun p hp => ?_⟩
      rw [List.take_succ_eq_append_getElem hi] at hp
      rcases List.mem_append.1 hp with hp | hp
      · exact h2 p hp
      · simp only [List.mem_singleton] at hp; rw [hp]; exact hn
    · omega
  · refine .inr ⟨a, h1, by omega, h3, h4, fun p hp hc => ?_⟩
    rw [List.take_succ_eq_append_getElem hi] at hp
    rcases List.mem_append.1 hp with hp | hp
    · exact h5 p hp hc
    · simp only [List.mem_singleton] at hp
      subst hp
      rcases hn with hn | ⟨a', ha, h', hle⟩
      · exact absurd hc hn
      · obtain rfl : a' = a := by omega
        exact hle
theorem least_take {L : Names} {S : List (List UInt8)} {j i : Nat} {at_ : Int} (hi : i < L.length) (h : Least L S j i at_) (hc : Cand S j L[i].1) (hn : at_ = -1 ∨ ∃ a : Nat, at_ = (a : Int) ∧ ∃ h : a < L.length, L[i].1 < L[a].1) : Least L S j (i + 1) i := by
  refine .inr ⟨i, rfl, by omega, hi, hc, fun p hp hcp => ?_⟩
  rw [List.take_succ_eq_append_getElem hi] at hp
  rcases List.mem_append.1 hp with hp | hp
  · rcases h with ⟨h1, h2⟩ | ⟨a, h1, h2, h3, h4, h5⟩
    · exact absurd hcp (h2 p hp)
    · rcases hn with hn | ⟨a', ha, h', hlt⟩
      · omega
      · obtain rfl : a' = a := by omega
        exact str_trans (str_lt.1 hlt).1 (h5 p hp hcp)
  · simp only [List.mem_singleton] at hp; rw [hp]; exact List.le_refl _
theorem least_end {L : Names} {S : List (List UInt8)} (hp : S.Perm (L.map (·.1))) (hs : S.Pairwise (· < ·)) {j : Nat} (hj : j < S.length) {at_ : Int} (h : Least L S j L.length at_) : ∃ a : Nat, at_ = (a : Int) ∧ ∃ h : a < L.length, L[a].1 = S[j] := by
  have hmem : ∀ x, x ∈ S ↔ ∃ p ∈ L, p.1 = x := fun x => by rw [hp.mem_iff, List.mem_map]
  rcases h with ⟨h1, h2⟩ | ⟨a, h1, h2, h3, h4, h5⟩
  · rw [List.take_length] at h2
    obtain ⟨p, hpL, e⟩ := (hmem S[j]).1 (List.getElem_mem hj)
    exact absurd (by rw [e]; exact cand_at hs hj) (h2 p hpL)
  · rw [List.take_length] at h5
    refine ⟨a, h1, h3, cand_min hs hj ((hmem _).2 ⟨_, List.getElem_mem h3, rfl⟩) h4 fun x hx hc => ?_⟩
    obtain ⟨p, hpL, rfl⟩ := (hmem x).1 hx
    exact h5 p hpL hc
end Go.Dm.Dk
