/- The reference of the disk: Do. No condition. -/
import Derived.Test.YtkmoomgmmhmaeaaGreatRef7
namespace Go.Proofs.YtkmoomgmmhmaeaaGreat
open Go.RowKit Go.Dm Go.Dm.Dk

section
variable {m : M} {k : Nat} {a b body : List UInt8} {at_ : Int}
theorem call_off (ho : m.off = true) : call m k a b at_ body = (m, 23) := by simp [call, ho]
theorem call_err {c : Nat} (ho : m.off = false) (hc : own m k a b at_ body = c) (h0 : c ≠ 0) : call m k a b at_ body = (m, c) := by
  unfold call
  rw [ho, hc, if_neg (by decide), if_pos h0]
theorem pow_cut (hc : m.cut = 1) : powM m = { m with cut := 0, off := true } := by simp [powM, hc]
theorem pow_go (ho : m.off = false) (hc : m.cut ≠ 1) : powM m = { m with cut := m.cut - 1 } := by
  unfold powM
  obtain ⟨room, is, sure, L, S, wait, off, cut⟩ := m
  simp only at *
  split
  · rename_i h; subst h; rfl
  · simp [ho, hc]
theorem call_cut (ho : m.off = false) (hw : own m k a b at_ body = 0) (hc : m.cut = 1) : call m k a b at_ body = (powM m, 23) := by
  rw [pow_cut hc]
  unfold call
  rw [if_neg (by rw [ho]; decide), if_neg (by rw [hw]; decide), if_pos hc]
theorem call_go (ho : m.off = false) (hw : own m k a b at_ body = 0) (hc : m.cut ≠ 1) : call m k a b at_ body = (done (powM m) k a b at_ body, 0) := by
  rw [pow_go ho hc]
  unfold call
  rw [if_neg (by rw [ho]; decide), if_neg (by rw [hw]; decide), if_neg hc]
theorem small_pow {n N : Nat} (h : Small m n N) : Small (powM m) n N := by
  unfold powM
  split
  · exact h
  · exact { h with ct := by have := h.ct; show m.cut - 1 ≤ _; omega }
theorem files_pow {n : Nat} (h : Files m n) : Files (powM m) n := by
  unfold powM
  split
  · exact h
  · exact ⟨h.L, h.S, h.W, h.ln, h.il⟩
theorem pow_L : (powM m).L = m.L := by unfold powM; split <;> rfl
theorem pow_is : (powM m).is = m.is := by unfold powM; split <;> rfl
end

set_option maxRecDepth 100000 in
set_option maxHeartbeats 4000000 in
theorem rdo_off {A : Nat → Prop} {w : World} {v1 v2 v3 v4 v5 : Value} {m : M} {n N n2 : Nat} (k : Nat) (a b : List UInt8) (at_ : Int) (body : List UInt8) (h : DV A w v1 v2 v3 v4 v5 m) (ho : m.off = true) :
    Calls Tryz.prog 15 #[dv m v1 v2 v3 v4 v5, .int .i64 (k : Int), .string ⟨a.toArray⟩, .string ⟨b.toArray⟩, .int .i64 at_, .string ⟨body.toArray⟩] w (RetD2 A w (call m k a b at_ body).1 (.int .i64 ((call m k a b at_ body).2 : Nat))) := by
  rw [call_off ho]
  replace h := h.mono (B := fun k => A k ∧ k < w.heap.size) fun j hj ha => ⟨ha, hj⟩
  obtain ⟨a1, d1, a2, d2, a3, d3, a4, d4, a5, d5, rfl, rfl, rfl, rfl, rfl⟩ := h.shape
  unfold dv
  go_enter Tryz.func15, Tryz.ntmps15
  go_wp2_with (first | (at_builtin; refine wl_append rfl _ _ _ _ rfl _ _ rfl rfl ?_) | (at_make; refine wl_make rfl _ _ _ rfl _ _ rfl rfl ?_) | (at_mapUpdate; refine wl_mapUpdate rfl _ _ _ _ rfl _ _ _ rfl rfl rfl ?_) | (at_lookup; refine wl_lookup rfl _ _ _ _ rfl _ _ rfl rfl ?_) | (at_delete; refine wl_delete rfl _ _ _ _ rfl _ _ rfl rfl ?_) | (with_reducible refine wl_len rfl _ _ rfl _ rfl ?_) | (with_reducible refine wl_range rfl _ _ rfl _ rfl ?_) | (with_reducible refine wl_next rfl _ rfl _ rfl ?_) | (with_reducible refine wl_copy rfl _ _ _ _ rfl _ _ rfl rfl ?_) | (with_reducible refine wl_max rfl _ _ _ _ rfl _ _ rfl rfl ?_) | (with_reducible refine wl_min rfl _ _ _ _ rfl _ _ rfl rfl ?_) | (with_reducible refine wl_stAgg rfl _ _ _ rfl _ _ rfl rfl ?_))
  have hkW1 : Keep No w (w.alloc (.cells #[.int .i64 m.room, .slice a1 m.is.length d1, .slice a2 m.sure.length d2, .slice a3 m.L.length d3, .slice a4 m.S.length d4, .slice a5 m.wait.length d5, .bool true, .int .i64 m.cut] 30)) := (Keep.refl _ _).alloc _
  have hBW1 : Blk (w.alloc (.cells #[.int .i64 m.room, .slice a1 m.is.length d1, .slice a2 m.sure.length d2, .slice a3 m.L.length d3, .slice a4 m.S.length d4, .slice a5 m.wait.length d5, .bool true, .int .i64 m.cut] 30)) w.heap.size #[.int .i64 m.room, .slice a1 m.is.length d1, .slice a2 m.sure.length d2, .slice a3 m.L.length d3, .slice a4 m.S.length d4, .slice a5 m.wait.length d5, .bool true, .int .i64 m.cut] 30 := Blk.new _ _ _
  have hzW1 : (w.alloc (.cells #[.int .i64 m.room, .slice a1 m.is.length d1, .slice a2 m.sure.length d2, .slice a3 m.L.length d3, .slice a4 m.S.length d4, .slice a5 m.wait.length d5, .bool true, .int .i64 m.cut] 30)).heap.size = w.heap.size + 1 := World.size_alloc _ _
  generalize w.alloc (.cells #[.int .i64 m.room, .slice a1 m.is.length d1, .slice a2 m.sure.length d2, .slice a3 m.L.length d3, .slice a4 m.S.length d4, .slice a5 m.wait.length d5, .bool true, .int .i64 m.cut] 30) = W1 at *
  have hkW : Keep No W1 (W1.alloc (.cells #[.int .i64 0, .slice none 0 0, .slice none 0 0, .slice none 0 0, .slice none 0 0, .slice none 0 0, .bool false, .int .i64 0] 30)) := (Keep.refl _ _).alloc _
  have hBW : Blk (W1.alloc (.cells #[.int .i64 0, .slice none 0 0, .slice none 0 0, .slice none 0 0, .slice none 0 0, .slice none 0 0, .bool false, .int .i64 0] 30)) W1.heap.size #[.int .i64 0, .slice none 0 0, .slice none 0 0, .slice none 0 0, .slice none 0 0, .slice none 0 0, .bool false, .int .i64 0] 30 := Blk.new _ _ _
  have hzW : (W1.alloc (.cells #[.int .i64 0, .slice none 0 0, .slice none 0 0, .slice none 0 0, .slice none 0 0, .slice none 0 0, .bool false, .int .i64 0] 30)).heap.size = W1.heap.size + 1 := World.size_alloc _ _
  generalize W1.alloc (.cells #[.int .i64 0, .slice none 0 0, .slice none 0 0, .slice none 0 0, .slice none 0 0, .slice none 0 0, .bool false, .int .i64 0] 30) = W at *
  rw [hzW1] at hBW
  refine rg_stAgg hBW (by kernel_rfl) (by rfl) (by simp [Value.oneCell']) ?_
  intro Y hBY hkY _
  go_wp2_with (first | (at_builtin; refine wl_append rfl _ _ _ _ rfl _ _ rfl rfl ?_) | (at_make; refine wl_make rfl _ _ _ rfl _ _ rfl rfl ?_) | (at_mapUpdate; refine wl_mapUpdate rfl _ _ _ _ rfl _ _ _ rfl rfl rfl ?_) | (at_lookup; refine wl_lookup rfl _ _ _ _ rfl _ _ rfl rfl ?_) | (at_delete; refine wl_delete rfl _ _ _ _ rfl _ _ rfl rfl ?_) | (with_reducible refine wl_len rfl _ _ rfl _ rfl ?_) | (with_reducible refine wl_range rfl _ _ rfl _ rfl ?_) | (with_reducible refine wl_next rfl _ rfl _ rfl ?_) | (with_reducible refine wl_copy rfl _ _ _ _ rfl _ _ rfl rfl ?_) | (with_reducible refine wl_max rfl _ _ _ _ rfl _ _ rfl rfl ?_) | (with_reducible refine wl_min rfl _ _ _ _ rfl _ _ rfl rfl ?_) | (with_reducible refine wl_stAgg rfl _ _ _ rfl _ _ rfl rfl ?_))
  refine ret_blk_tmp rfl rfl hBY Tryz.underlying30 rfl (by kernel_rfl) rfl ?_
  have hfin := RetD.two (b := .int .i64 23) (RetD.fin 2 (hkW1.trans' hkW) (h.no (hkW1.trans' hkW)).in2 (hkY.mono fun j _ e => ⟨by have e : j = w.heap.size + 1 := e; omega, by have e : j = w.heap.size + 1 := e; omega⟩))
  unfold dv at hfin
  rw [ho] at hfin
  exact hfin

set_option maxRecDepth 100000 in
set_option maxHeartbeats 8000000 in
theorem rdo1_any {A : Nat → Prop} {w : World} {v1 v2 v3 v4 v5 : Value} {m : M} {n N n2 : Nat} (a b : List UInt8) (at_ : Int) (body : List UInt8) (h : DV A w v1 v2 v3 v4 v5 m) (hs : Small m n N) (hf : Files m n2) (hn : n < 100000) (hN : N ≤ 1000000) (hn2 : n2 < 1000000) (hoff : m.off = false) :
    Calls Tryz.prog 15 #[dv m v1 v2 v3 v4 v5, .int .i64 1, .string ⟨a.toArray⟩, .string ⟨b.toArray⟩, .int .i64 at_, .string ⟨body.toArray⟩] w (RetD2 A w (call m 1 a b at_ body).1 (.int .i64 ((call m 1 a b at_ body).2 : Nat))) := by
  replace h := h.mono (B := fun k => A k ∧ k < w.heap.size) fun j hj ha => ⟨ha, hj⟩
  obtain ⟨a1, d1, a2, d2, a3, d3, a4, d4, a5, d5, rfl, rfl, rfl, rfl, rfl⟩ := h.shape
  unfold dv
  go_enter Tryz.func15, Tryz.ntmps15
  go_wp2_with (first | (at_builtin; refine wl_append rfl _ _ _ _ rfl _ _ rfl rfl ?_) | (at_make; refine wl_make rfl _ _ _ rfl _ _ rfl rfl ?_) | (at_mapUpdate; refine wl_mapUpdate rfl _ _ _ _ rfl _ _ _ rfl rfl rfl ?_) | (at_lookup; refine wl_lookup rfl _ _ _ _ rfl _ _ rfl rfl ?_) | (at_delete; refine wl_delete rfl _ _ _ _ rfl _ _ rfl rfl ?_) | (with_reducible refine wl_len rfl _ _ rfl _ rfl ?_) | (with_reducible refine wl_range rfl _ _ rfl _ rfl ?_) | (with_reducible refine wl_next rfl _ rfl _ rfl ?_) | (with_reducible refine wl_copy rfl _ _ _ _ rfl _ _ rfl rfl ?_) | (with_reducible refine wl_max rfl _ _ _ _ rfl _ _ rfl rfl ?_) | (with_reducible refine wl_min rfl _ _ _ _ rfl _ _ rfl rfl ?_))
  have hkW1 : Keep No w (w.alloc (.cells #[.int .i64 m.room, .slice a1 m.is.length d1, .slice a2 m.sure.length d2, .slice a3 m.L.length d3, .slice a4 m.S.length d4, .slice a5 m.wait.length d5, .bool false, .int .i64 m.cut] 30)) := (Keep.refl _ _).alloc _
  have hBW1 : Blk (w.alloc (.cells #[.int .i64 m.room, .slice a1 m.is.length d1, .slice a2 m.sure.length d2, .slice a3 m.L.length d3, .slice a4 m.S.length d4, .slice a5 m.wait.length d5, .bool false, .int .i64 m.cut] 30)) w.heap.size #[.int .i64 m.room, .slice a1 m.is.length d1, .slice a2 m.sure.length d2, .slice a3 m.L.length d3, .slice a4 m.S.length d4, .slice a5 m.wait.length d5, .bool false, .int .i64 m.cut] 30 := Blk.new _ _ _
  have hzW1 : (w.alloc (.cells #[.int .i64 m.room, .slice a1 m.is.length d1, .slice a2 m.sure.length d2, .slice a3 m.L.length d3, .slice a4 m.S.length d4, .slice a5 m.wait.length d5, .bool false, .int .i64 m.cut] 30)).heap.size = w.heap.size + 1 := World.size_alloc _ _
  generalize w.alloc (.cells #[.int .i64 m.room, .slice a1 m.is.length d1, .slice a2 m.sure.length d2, .slice a3 m.L.length d3, .slice a4 m.S.length d4, .slice a5 m.wait.length d5, .bool false, .int .i64 m.cut] 30) = W1 at *
  have hkW : Keep No W1 (W1.alloc (.cells #[.int .i64 0, .slice none 0 0, .slice none 0 0, .slice none 0 0, .slice none 0 0, .slice none 0 0, .bool false, .int .i64 0] 30)) := (Keep.refl _ _).alloc _
  have hBW : Blk (W1.alloc (.cells #[.int .i64 0, .slice none 0 0, .slice none 0 0, .slice none 0 0, .slice none 0 0, .slice none 0 0, .bool false, .int .i64 0] 30)) W1.heap.size #[.int .i64 0, .slice none 0 0, .slice none 0 0, .slice none 0 0, .slice none 0 0, .slice none 0 0, .bool false, .int .i64 0] 30 := Blk.new _ _ _
  have hzW : (W1.alloc (.cells #[.int .i64 0, .slice none 0 0, .slice none 0 0, .slice none 0 0, .slice none 0 0, .slice none 0 0, .bool false, .int .i64 0] 30)).heap.size = W1.heap.size + 1 := World.size_alloc _ _
  generalize W1.alloc (.cells #[.int .i64 0, .slice none 0 0, .slice none 0 0, .slice none 0 0, .slice none 0 0, .slice none 0 0, .bool false, .int .i64 0] 30) = W at *
  rw [hzW1] at hBW
  replace hBW1 := hBW1.keep hkW fun h => h
  replace hkW := hkW1.trans' hkW
  have h' := h.no hkW
  have hzz : w.heap.size + 2 ≤ W.heap.size := by omega
  clear hkW1 hzW1 hzW
  clear W1
  replace hBW1 : Blk W w.heap.size #[.int .i64 m.room, .slice a1 m.is.length d1, .slice a2 m.sure.length d2, .slice a3 m.L.length d3, .slice a4 m.S.length d4, .slice a5 m.wait.length d5, .bool m.off, .int .i64 m.cut] 30 := by rw [hoff]; exact hBW1
  have HOFF := Lib.hid hoff
  clear hoff
  have c1 := hBW1.cell
  have f1 := hBW1.frozen
  refine (rfind_any a h'.L).mono ?_
  rintro e x0 ⟨rfl, rfl⟩
  by_cases ha : a = []
  · subst ha
    have hown : own m 1 [] b at_ body = 1 := rfl
    go_wp2_with (first | (at_builtin; refine wl_append rfl _ _ _ _ rfl _ _ rfl rfl ?_) | (at_make; refine wl_make rfl _ _ _ rfl _ _ rfl rfl ?_) | (at_mapUpdate; refine wl_mapUpdate rfl _ _ _ _ rfl _ _ _ rfl rfl rfl ?_) | (at_lookup; refine wl_lookup rfl _ _ _ _ rfl _ _ rfl rfl ?_) | (at_delete; refine wl_delete rfl _ _ _ _ rfl _ _ rfl rfl ?_) | (with_reducible refine wl_len rfl _ _ rfl _ rfl ?_) | (with_reducible refine wl_range rfl _ _ rfl _ rfl ?_) | (with_reducible refine wl_next rfl _ rfl _ rfl ?_) | (with_reducible refine wl_copy rfl _ _ _ _ rfl _ _ rfl rfl ?_) | (with_reducible refine wl_max rfl _ _ _ _ rfl _ _ rfl rfl ?_) | (with_reducible refine wl_min rfl _ _ _ _ rfl _ _ rfl rfl ?_) | (with_reducible refine wl_stAgg rfl _ _ _ rfl _ _ rfl rfl ?_))
    refine rg_stAgg hBW (by kernel_rfl) (by rfl) (by simp [Value.oneCell']) ?_
    intro Z hBZ hkZ _
    go_wp2_with (first | (at_builtin; refine wl_append rfl _ _ _ _ rfl _ _ rfl rfl ?_) | (at_make; refine wl_make rfl _ _ _ rfl _ _ rfl rfl ?_) | (at_mapUpdate; refine wl_mapUpdate rfl _ _ _ _ rfl _ _ _ rfl rfl rfl ?_) | (at_lookup; refine wl_lookup rfl _ _ _ _ rfl _ _ rfl rfl ?_) | (at_delete; refine wl_delete rfl _ _ _ _ rfl _ _ rfl rfl ?_) | (with_reducible refine wl_len rfl _ _ rfl _ rfl ?_) | (with_reducible refine wl_range rfl _ _ rfl _ rfl ?_) | (with_reducible refine wl_next rfl _ rfl _ rfl ?_) | (with_reducible refine wl_copy rfl _ _ _ _ rfl _ _ rfl rfl ?_) | (with_reducible refine wl_max rfl _ _ _ _ rfl _ _ rfl rfl ?_) | (with_reducible refine wl_min rfl _ _ _ _ rfl _ _ rfl rfl ?_) | (with_reducible refine wl_stAgg rfl _ _ _ rfl _ _ rfl rfl ?_))
    refine ret_blk_tmp rfl rfl hBZ Tryz.underlying30 rfl (by kernel_rfl) rfl ?_
    rw [call_err HOFF.out hown (by decide)]
    exact RetD.two (RetD.fin 2 hkW h'.in2 (hkZ.mono fun j _ e => ⟨by have e : j = w.heap.size + 1 := e; omega, by have e : j = w.heap.size + 1 := e; omega⟩))
  · have hae : a.isEmpty = false := by cases a <;> simp_all
    cases hfd : find m.L a with
    | some f =>
      have hown : own m 1 a b at_ body = 21 := by simp [own, ha, hfd]
      have hz : findZ m.L a = (f : Int) := by simp [findZ, hfd]
      rw [hz]
      have HO := Lib.hid hown
      clear hown
      go_wp2_with (first | (at_builtin; refine wl_append rfl _ _ _ _ rfl _ _ rfl rfl ?_) | (at_make; refine wl_make rfl _ _ _ rfl _ _ rfl rfl ?_) | (at_mapUpdate; refine wl_mapUpdate rfl _ _ _ _ rfl _ _ _ rfl rfl rfl ?_) | (at_lookup; refine wl_lookup rfl _ _ _ _ rfl _ _ rfl rfl ?_) | (at_delete; refine wl_delete rfl _ _ _ _ rfl _ _ rfl rfl ?_) | (with_reducible refine wl_len rfl _ _ rfl _ rfl ?_) | (with_reducible refine wl_range rfl _ _ rfl _ rfl ?_) | (with_reducible refine wl_next rfl _ rfl _ rfl ?_) | (with_reducible refine wl_copy rfl _ _ _ _ rfl _ _ rfl rfl ?_) | (with_reducible refine wl_max rfl _ _ _ _ rfl _ _ rfl rfl ?_) | (with_reducible refine wl_min rfl _ _ _ _ rfl _ _ rfl rfl ?_) | (with_reducible refine wl_stAgg rfl _ _ _ rfl _ _ rfl rfl ?_))
      refine rg_stAgg hBW (by kernel_rfl) (by rfl) (by simp [Value.oneCell']) ?_
      intro Z hBZ hkZ _
      go_wp2_with (first | (at_builtin; refine wl_append rfl _ _ _ _ rfl _ _ rfl rfl ?_) | (at_make; refine wl_make rfl _ _ _ rfl _ _ rfl rfl ?_) | (at_mapUpdate; refine wl_mapUpdate rfl _ _ _ _ rfl _ _ _ rfl rfl rfl ?_) | (at_lookup; refine wl_lookup rfl _ _ _ _ rfl _ _ rfl rfl ?_) | (at_delete; refine wl_delete rfl _ _ _ _ rfl _ _ rfl rfl ?_) | (with_reducible refine wl_len rfl _ _ rfl _ rfl ?_) | (with_reducible refine wl_range rfl _ _ rfl _ rfl ?_) | (with_reducible refine wl_next rfl _ rfl _ rfl ?_) | (with_reducible refine wl_copy rfl _ _ _ _ rfl _ _ rfl rfl ?_) | (with_reducible refine wl_max rfl _ _ _ _ rfl _ _ rfl rfl ?_) | (with_reducible refine wl_min rfl _ _ _ _ rfl _ _ rfl rfl ?_) | (with_reducible refine wl_stAgg rfl _ _ _ rfl _ _ rfl rfl ?_))
      refine ret_blk_tmp rfl rfl hBZ Tryz.underlying30 rfl (by kernel_rfl) rfl ?_
      rw [call_err HOFF.out HO.out (by decide)]
      exact RetD.two (RetD.fin 2 hkW h'.in2 (hkZ.mono fun j _ e => ⟨by have e : j = w.heap.size + 1 := e; omega, by have e : j = w.heap.size + 1 := e; omega⟩))
    | none =>
      have hown : own m 1 a b at_ body = 0 := by simp [own, ha, hfd]
      have hz : findZ m.L a = -1 := by simp [findZ, hfd]
      rw [hz]
      have HO := Lib.hid hown
      clear hown
      go_wp2_with (first | (at_builtin; refine wl_append rfl _ _ _ _ rfl _ _ rfl rfl ?_) | (at_make; refine wl_make rfl _ _ _ rfl _ _ rfl rfl ?_) | (at_mapUpdate; refine wl_mapUpdate rfl _ _ _ _ rfl _ _ _ rfl rfl rfl ?_) | (at_lookup; refine wl_lookup rfl _ _ _ _ rfl _ _ rfl rfl ?_) | (at_delete; refine wl_delete rfl _ _ _ _ rfl _ _ rfl rfl ?_) | (with_reducible refine wl_len rfl _ _ rfl _ rfl ?_) | (with_reducible refine wl_range rfl _ _ rfl _ rfl ?_) | (with_reducible refine wl_next rfl _ rfl _ rfl ?_) | (with_reducible refine wl_copy rfl _ _ _ _ rfl _ _ rfl rfl ?_) | (with_reducible refine wl_max rfl _ _ _ _ rfl _ _ rfl rfl ?_) | (with_reducible refine wl_min rfl _ _ _ _ rfl _ _ rfl rfl ?_))
      have hown := HO.out
      refine (rpower_any (h'.in2 (k := w.heap.size + 2)) hs.ct).mono ?_
      rintro e x1 ⟨u1, u2, u3, u4, u5, rfl, hD1, hk1⟩
      have hsp := small_pow hs
      have hfp := files_pow hf
      have hpL := pow_L (m := m)
      have hpI := pow_is (m := m)
      have hcut1 := fun hc => call_cut (a := a) (b := b) (body := body) (at_ := at_) HOFF.out hown hc
      have hgo1 := fun hc => call_go (a := a) (b := b) (body := body) (at_ := at_) HOFF.out hown hc
      generalize powM m = mp at *
      obtain ⟨z1, y1, z2, y2, z3, y3, z4, y4, z5, y5, rfl, rfl, rfl, rfl, rfl⟩ := hD1.shape
      have HC := Lib.hid hcut1
      have HG := Lib.hid hgo1
      have HPL := Lib.hid hpL
      have HPI := Lib.hid hpI
      clear hcut1 hgo1 hpL hpI hown
      unfold dv
      go_wp2_with (first | (at_builtin; refine wl_append rfl _ _ _ _ rfl _ _ rfl rfl ?_) | (at_make; refine wl_make rfl _ _ _ rfl _ _ rfl rfl ?_) | (at_mapUpdate; refine wl_mapUpdate rfl _ _ _ _ rfl _ _ _ rfl rfl rfl ?_) | (at_lookup; refine wl_lookup rfl _ _ _ _ rfl _ _ rfl rfl ?_) | (at_delete; refine wl_delete rfl _ _ _ _ rfl _ _ rfl rfl ?_) | (with_reducible refine wl_len rfl _ _ rfl _ rfl ?_) | (with_reducible refine wl_range rfl _ _ rfl _ rfl ?_) | (with_reducible refine wl_next rfl _ rfl _ rfl ?_) | (with_reducible refine wl_copy rfl _ _ _ _ rfl _ _ rfl rfl ?_) | (with_reducible refine wl_max rfl _ _ _ _ rfl _ _ rfl rfl ?_) | (with_reducible refine wl_min rfl _ _ _ _ rfl _ _ rfl rfl ?_) | (with_reducible refine wl_stAgg rfl _ _ _ rfl _ _ rfl rfl ?_))
      refine rg_stAgg (Blk.new _ _ _) (by kernel_rfl) (by rfl) (by simp [Value.oneCell']) ?_
      intro x2 hB2 hk2 _
      have hx2 : Keep No x1 x2 := ((Keep.refl No x1).alloc _).trans hk2 fun j hj e => absurd e (Nat.ne_of_lt hj)
      have hkX := (hkW.trans' hk1).trans' hx2
      have hBX := (hBW.keep hk1 fun h => h).keep hx2 fun h => h
      have hD2 := (hD1.no hx2).mono (B := fun j => (A j ∧ j < w.heap.size) ∨ w.heap.size + 2 ≤ j) fun j _ ha => by
        rcases ha with ha | ha
        · exact ha
        · exact .inr (Nat.le_trans hzz ha.1)
      have hz1 := hk1.size
      have hz2 := hx2.size
      clear c1 f1 hk2 hx2 hk1 hD1 h' hkW
      have c2 := hB2.cell
      by_cases hc1 : m.cut = 1
      · have e1 : (m.cut == 1) = true := by simp [hc1]
        go_wp2_with (first | (at_builtin; refine wl_append rfl _ _ _ _ rfl _ _ rfl rfl ?_) | (at_make; refine wl_make rfl _ _ _ rfl _ _ rfl rfl ?_) | (at_mapUpdate; refine wl_mapUpdate rfl _ _ _ _ rfl _ _ _ rfl rfl rfl ?_) | (at_lookup; refine wl_lookup rfl _ _ _ _ rfl _ _ rfl rfl ?_) | (at_delete; refine wl_delete rfl _ _ _ _ rfl _ _ rfl rfl ?_) | (with_reducible refine wl_len rfl _ _ rfl _ rfl ?_) | (with_reducible refine wl_range rfl _ _ rfl _ rfl ?_) | (with_reducible refine wl_next rfl _ rfl _ rfl ?_) | (with_reducible refine wl_copy rfl _ _ _ _ rfl _ _ rfl rfl ?_) | (with_reducible refine wl_max rfl _ _ _ _ rfl _ _ rfl rfl ?_) | (with_reducible refine wl_min rfl _ _ _ _ rfl _ _ rfl rfl ?_) | (with_reducible refine wl_stAgg rfl _ _ _ rfl _ _ rfl rfl ?_))
        refine rg_stAgg hBX (by kernel_rfl) (by rfl) (by simp [Value.oneCell']) ?_
        intro Z hBZ hkZ _
        go_wp2_with (first | (at_builtin; refine wl_append rfl _ _ _ _ rfl _ _ rfl rfl ?_) | (at_make; refine wl_make rfl _ _ _ rfl _ _ rfl rfl ?_) | (at_mapUpdate; refine wl_mapUpdate rfl _ _ _ _ rfl _ _ _ rfl rfl rfl ?_) | (at_lookup; refine wl_lookup rfl _ _ _ _ rfl _ _ rfl rfl ?_) | (at_delete; refine wl_delete rfl _ _ _ _ rfl _ _ rfl rfl ?_) | (with_reducible refine wl_len rfl _ _ rfl _ rfl ?_) | (with_reducible refine wl_range rfl _ _ rfl _ rfl ?_) | (with_reducible refine wl_next rfl _ rfl _ rfl ?_) | (with_reducible refine wl_copy rfl _ _ _ _ rfl _ _ rfl rfl ?_) | (with_reducible refine wl_max rfl _ _ _ _ rfl _ _ rfl rfl ?_) | (with_reducible refine wl_min rfl _ _ _ _ rfl _ _ rfl rfl ?_) | (with_reducible refine wl_stAgg rfl _ _ _ rfl _ _ rfl rfl ?_))
        refine ret_blk_tmp rfl rfl hBZ Tryz.underlying30 rfl (by kernel_rfl) rfl ?_
        rw [HC.out hc1]
        exact RetD.two (RetD.fin 2 hkX hD2 (hkZ.mono fun j _ e => ⟨by have e : j = w.heap.size + 1 := e; omega, by have e : j = w.heap.size + 1 := e; omega⟩))
      · have e1 : (m.cut == 1) = false := by simp [hc1]
        go_wp2_with (first | (at_builtin; refine wl_append rfl _ _ _ _ rfl _ _ rfl rfl ?_) | (at_make; refine wl_make rfl _ _ _ rfl _ _ rfl rfl ?_) | (at_mapUpdate; refine wl_mapUpdate rfl _ _ _ _ rfl _ _ _ rfl rfl rfl ?_) | (at_lookup; refine wl_lookup rfl _ _ _ _ rfl _ _ rfl rfl ?_) | (at_delete; refine wl_delete rfl _ _ _ _ rfl _ _ rfl rfl ?_) | (with_reducible refine wl_len rfl _ _ rfl _ rfl ?_) | (with_reducible refine wl_range rfl _ _ rfl _ rfl ?_) | (with_reducible refine wl_next rfl _ rfl _ rfl ?_) | (with_reducible refine wl_copy rfl _ _ _ _ rfl _ _ rfl rfl ?_) | (with_reducible refine wl_max rfl _ _ _ _ rfl _ _ rfl rfl ?_) | (with_reducible refine wl_min rfl _ _ _ _ rfl _ _ rfl rfl ?_) | (with_reducible refine wl_stAgg rfl _ _ _ rfl _ _ rfl rfl ?_))
        have hdn := rdone1_any a (-1) ⟨b.toArray⟩ ⟨body.toArray⟩ at_ hD2 hsp hfp hn hN hn2
        have hdn2 : Calls Tryz.prog 45 _ x2 (RetD _ x2 (done mp 1 a b at_ body)) := hdn
        refine hdn2.mono ?_
        rintro e Y ⟨u1, u2, u3, u4, u5, rfl, hDY, hkY⟩
        clear hdn hdn2
        generalize hmq : done mp 1 a b at_ body = mq at *
        have HMQ := Lib.hid hmq
        clear hmq
        obtain ⟨z1, y1, z2, y2, z3, y3, z4, y4, z5, y5, rfl, rfl, rfl, rfl, rfl⟩ := hDY.shape
        have hBY := hBX.keep hkY fun h => h
        unfold dv
        go_wp2_with (first | (at_builtin; refine wl_append rfl _ _ _ _ rfl _ _ rfl rfl ?_) | (at_make; refine wl_make rfl _ _ _ rfl _ _ rfl rfl ?_) | (at_mapUpdate; refine wl_mapUpdate rfl _ _ _ _ rfl _ _ _ rfl rfl rfl ?_) | (at_lookup; refine wl_lookup rfl _ _ _ _ rfl _ _ rfl rfl ?_) | (at_delete; refine wl_delete rfl _ _ _ _ rfl _ _ rfl rfl ?_) | (with_reducible refine wl_len rfl _ _ rfl _ rfl ?_) | (with_reducible refine wl_range rfl _ _ rfl _ rfl ?_) | (with_reducible refine wl_next rfl _ rfl _ rfl ?_) | (with_reducible refine wl_copy rfl _ _ _ _ rfl _ _ rfl rfl ?_) | (with_reducible refine wl_max rfl _ _ _ _ rfl _ _ rfl rfl ?_) | (with_reducible refine wl_min rfl _ _ _ _ rfl _ _ rfl rfl ?_) | (with_reducible refine wl_stAgg rfl _ _ _ rfl _ _ rfl rfl ?_))
        refine rg_stAgg hBY (by kernel_rfl) (by rfl) (by simp [Value.oneCell']) ?_
        intro Z hBZ hkZ _
        go_wp2_with (first | (at_builtin; refine wl_append rfl _ _ _ _ rfl _ _ rfl rfl ?_) | (at_make; refine wl_make rfl _ _ _ rfl _ _ rfl rfl ?_) | (at_mapUpdate; refine wl_mapUpdate rfl _ _ _ _ rfl _ _ _ rfl rfl rfl ?_) | (at_lookup; refine wl_lookup rfl _ _ _ _ rfl _ _ rfl rfl ?_) | (at_delete; refine wl_delete rfl _ _ _ _ rfl _ _ rfl rfl ?_) | (with_reducible refine wl_len rfl _ _ rfl _ rfl ?_) | (with_reducible refine wl_range rfl _ _ rfl _ rfl ?_) | (with_reducible refine wl_next rfl _ rfl _ rfl ?_) | (with_reducible refine wl_copy rfl _ _ _ _ rfl _ _ rfl rfl ?_) | (with_reducible refine wl_max rfl _ _ _ _ rfl _ _ rfl rfl ?_) | (with_reducible refine wl_min rfl _ _ _ _ rfl _ _ rfl rfl ?_) | (with_reducible refine wl_stAgg rfl _ _ _ rfl _ _ rfl rfl ?_))
        refine ret_blk_tmp rfl rfl hBZ Tryz.underlying30 rfl (by kernel_rfl) rfl ?_
        rw [HG.out hc1]
        exact RetD.two (RetD.fin 2 (hkX.trans' hkY) (hDY.mono fun j _ ha => by
          rcases ha with ha | ha
          · exact ha
          · exact .inr (by have := ha.1; omega)) (hkZ.mono fun j _ e => ⟨by have e : j = w.heap.size + 1 := e; omega, by have e : j = w.heap.size + 1 := e; omega⟩))


set_option maxRecDepth 100000 in
set_option maxHeartbeats 8000000 in
theorem rdo6_any {A : Nat → Prop} {w : World} {v1 v2 v3 v4 v5 : Value} {m : M} {n N n2 : Nat} (a b : List UInt8) (at_ : Int) (body : List UInt8) (h : DV A w v1 v2 v3 v4 v5 m) (hs : Small m n N) (hf : Files m n2) (hn : n < 100000) (hN : N ≤ 1000000) (hn2 : n2 < 1000000) (hoff : m.off = false) :
    Calls Tryz.prog 15 #[dv m v1 v2 v3 v4 v5, .int .i64 6, .string ⟨a.toArray⟩, .string ⟨b.toArray⟩, .int .i64 at_, .string ⟨body.toArray⟩] w (RetD2 A w (call m 6 a b at_ body).1 (.int .i64 ((call m 6 a b at_ body).2 : Nat))) := by
  replace h := h.mono (B := fun k => A k ∧ k < w.heap.size) fun j hj ha => ⟨ha, hj⟩
  obtain ⟨a1, d1, a2, d2, a3, d3, a4, d4, a5, d5, rfl, rfl, rfl, rfl, rfl⟩ := h.shape
  unfold dv
  go_enter Tryz.func15, Tryz.ntmps15
  go_wp2_with (first | (at_builtin; refine wl_append rfl _ _ _ _ rfl _ _ rfl rfl ?_) | (at_make; refine wl_make rfl _ _ _ rfl _ _ rfl rfl ?_) | (at_mapUpdate; refine wl_mapUpdate rfl _ _ _ _ rfl _ _ _ rfl rfl rfl ?_) | (at_lookup; refine wl_lookup rfl _ _ _ _ rfl _ _ rfl rfl ?_) | (at_delete; refine wl_delete rfl _ _ _ _ rfl _ _ rfl rfl ?_) | (with_reducible refine wl_len rfl _ _ rfl _ rfl ?_) | (with_reducible refine wl_range rfl _ _ rfl _ rfl ?_) | (with_reducible refine wl_next rfl _ rfl _ rfl ?_) | (with_reducible refine wl_copy rfl _ _ _ _ rfl _ _ rfl rfl ?_) | (with_reducible refine wl_max rfl _ _ _ _ rfl _ _ rfl rfl ?_) | (with_reducible refine wl_min rfl _ _ _ _ rfl _ _ rfl rfl ?_))
  have hkW1 : Keep No w (w.alloc (.cells #[.int .i64 m.room, .slice a1 m.is.length d1, .slice a2 m.sure.length d2, .slice a3 m.L.length d3, .slice a4 m.S.length d4, .slice a5 m.wait.length d5, .bool false, .int .i64 m.cut] 30)) := (Keep.refl _ _).alloc _
  have hBW1 : Blk (w.alloc (.cells #[.int .i64 m.room, .slice a1 m.is.length d1, .slice a2 m.sure.length d2, .slice a3 m.L.length d3, .slice a4 m.S.length d4, .slice a5 m.wait.length d5, .bool false, .int .i64 m.cut] 30)) w.heap.size #[.int .i64 m.room, .slice a1 m.is.length d1, .slice a2 m.sure.length d2, .slice a3 m.L.length d3, .slice a4 m.S.length d4, .slice a5 m.wait.length d5, .bool false, .int .i64 m.cut] 30 := Blk.new _ _ _
  have hzW1 : (w.alloc (.cells #[.int .i64 m.room, .slice a1 m.is.length d1, .slice a2 m.sure.length d2, .slice a3 m.L.length d3, .slice a4 m.S.length d4, .slice a5 m.wait.length d5, .bool false, .int .i64 m.cut] 30)).heap.size = w.heap.size + 1 := World.size_alloc _ _
  generalize w.alloc (.cells #[.int .i64 m.room, .slice a1 m.is.length d1, .slice a2 m.sure.length d2, .slice a3 m.L.length d3, .slice a4 m.S.length d4, .slice a5 m.wait.length d5, .bool false, .int .i64 m.cut] 30) = W1 at *
  have hkW : Keep No W1 (W1.alloc (.cells #[.int .i64 0, .slice none 0 0, .slice none 0 0, .slice none 0 0, .slice none 0 0, .slice none 0 0, .bool false, .int .i64 0] 30)) := (Keep.refl _ _).alloc _
  have hBW : Blk (W1.alloc (.cells #[.int .i64 0, .slice none 0 0, .slice none 0 0, .slice none 0 0, .slice none 0 0, .slice none 0 0, .bool false, .int .i64 0] 30)) W1.heap.size #[.int .i64 0, .slice none 0 0, .slice none 0 0, .slice none 0 0, .slice none 0 0, .slice none 0 0, .bool false, .int .i64 0] 30 := Blk.new _ _ _
  have hzW : (W1.alloc (.cells #[.int .i64 0, .slice none 0 0, .slice none 0 0, .slice none 0 0, .slice none 0 0, .slice none 0 0, .bool false, .int .i64 0] 30)).heap.size = W1.heap.size + 1 := World.size_alloc _ _
  generalize W1.alloc (.cells #[.int .i64 0, .slice none 0 0, .slice none 0 0, .slice none 0 0, .slice none 0 0, .slice none 0 0, .bool false, .int .i64 0] 30) = W at *
  rw [hzW1] at hBW
  replace hBW1 := hBW1.keep hkW fun h => h
  replace hkW := hkW1.trans' hkW
  have h' := h.no hkW
  have hzz : w.heap.size + 2 ≤ W.heap.size := by omega
  clear hkW1 hzW1 hzW
  clear W1
  replace hBW1 : Blk W w.heap.size #[.int .i64 m.room, .slice a1 m.is.length d1, .slice a2 m.sure.length d2, .slice a3 m.L.length d3, .slice a4 m.S.length d4, .slice a5 m.wait.length d5, .bool m.off, .int .i64 m.cut] 30 := by rw [hoff]; exact hBW1
  have HOFF := Lib.hid hoff
  clear hoff
  have c1 := hBW1.cell
  have f1 := hBW1.frozen
  refine (rfind_any a h'.L).mono ?_
  rintro e x0 ⟨rfl, rfl⟩
  have hown : own m 6 a b at_ body = 0 := rfl
  go_wp2_with (first | (at_builtin; refine wl_append rfl _ _ _ _ rfl _ _ rfl rfl ?_) | (at_make; refine wl_make rfl _ _ _ rfl _ _ rfl rfl ?_) | (at_mapUpdate; refine wl_mapUpdate rfl _ _ _ _ rfl _ _ _ rfl rfl rfl ?_) | (at_lookup; refine wl_lookup rfl _ _ _ _ rfl _ _ rfl rfl ?_) | (at_delete; refine wl_delete rfl _ _ _ _ rfl _ _ rfl rfl ?_) | (with_reducible refine wl_len rfl _ _ rfl _ rfl ?_) | (with_reducible refine wl_range rfl _ _ rfl _ rfl ?_) | (with_reducible refine wl_next rfl _ rfl _ rfl ?_) | (with_reducible refine wl_copy rfl _ _ _ _ rfl _ _ rfl rfl ?_) | (with_reducible refine wl_max rfl _ _ _ _ rfl _ _ rfl rfl ?_) | (with_reducible refine wl_min rfl _ _ _ _ rfl _ _ rfl rfl ?_))
  refine (rpower_any (h'.in2 (k := w.heap.size + 2)) hs.ct).mono ?_
  rintro e x1 ⟨u1, u2, u3, u4, u5, rfl, hD1, hk1⟩
  have hsp := small_pow hs
  have hfp := files_pow hf
  have hpL := pow_L (m := m)
  have hpI := pow_is (m := m)
  have hcut1 := fun hc => call_cut (a := a) (b := b) (body := body) (at_ := at_) HOFF.out hown hc
  have hgo1 := fun hc => call_go (a := a) (b := b) (body := body) (at_ := at_) HOFF.out hown hc
  generalize powM m = mp at *
  obtain ⟨z1, y1, z2, y2, z3, y3, z4, y4, z5, y5, rfl, rfl, rfl, rfl, rfl⟩ := hD1.shape
  have HC := Lib.hid hcut1
  have HG := Lib.hid hgo1
  have HPL := Lib.hid hpL
  have HPI := Lib.hid hpI
  clear hcut1 hgo1 hpL hpI hown
  unfold dv
  go_wp2_with (first | (at_builtin; refine wl_append rfl _ _ _ _ rfl _ _ rfl rfl ?_) | (at_make; refine wl_make rfl _ _ _ rfl _ _ rfl rfl ?_) | (at_mapUpdate; refine wl_mapUpdate rfl _ _ _ _ rfl _ _ _ rfl rfl rfl ?_) | (at_lookup; refine wl_lookup rfl _ _ _ _ rfl _ _ rfl rfl ?_) | (at_delete; refine wl_delete rfl _ _ _ _ rfl _ _ rfl rfl ?_) | (with_reducible refine wl_len rfl _ _ rfl _ rfl ?_) | (with_reducible refine wl_range rfl _ _ rfl _ rfl ?_) | (with_reducible refine wl_next rfl _ rfl _ rfl ?_) | (with_reducible refine wl_copy rfl _ _ _ _ rfl _ _ rfl rfl ?_) | (with_reducible refine wl_max rfl _ _ _ _ rfl _ _ rfl rfl ?_) | (with_reducible refine wl_min rfl _ _ _ _ rfl _ _ rfl rfl ?_) | (with_reducible refine wl_stAgg rfl _ _ _ rfl _ _ rfl rfl ?_))
  refine rg_stAgg (Blk.new _ _ _) (by kernel_rfl) (by rfl) (by simp [Value.oneCell']) ?_
  intro x2 hB2 hk2 _
  have hx2 : Keep No x1 x2 := ((Keep.refl No x1).alloc _).trans hk2 fun j hj e => absurd e (Nat.ne_of_lt hj)
  have hkX := (hkW.trans' hk1).trans' hx2
  have hBX := (hBW.keep hk1 fun h => h).keep hx2 fun h => h
  have hD2 := (hD1.no hx2).mono (B := fun j => (A j ∧ j < w.heap.size) ∨ w.heap.size + 2 ≤ j) fun j _ ha => by
    rcases ha with ha | ha
    · exact ha
    · exact .inr (Nat.le_trans hzz ha.1)
  have hz1 := hk1.size
  have hz2 := hx2.size
  clear c1 f1 hk2 hx2 hk1 hD1 h' hkW
  have c2 := hB2.cell
  by_cases hc1 : m.cut = 1
  · have e1 : (m.cut == 1) = true := by simp [hc1]
    go_wp2_with (first | (at_builtin; refine wl_append rfl _ _ _ _ rfl _ _ rfl rfl ?_) | (at_make; refine wl_make rfl _ _ _ rfl _ _ rfl rfl ?_) | (at_mapUpdate; refine wl_mapUpdate rfl _ _ _ _ rfl _ _ _ rfl rfl rfl ?_) | (at_lookup; refine wl_lookup rfl _ _ _ _ rfl _ _ rfl rfl ?_) | (at_delete; refine wl_delete rfl _ _ _ _ rfl _ _ rfl rfl ?_) | (with_reducible refine wl_len rfl _ _ rfl _ rfl ?_) | (with_reducible refine wl_range rfl _ _ rfl _ rfl ?_) | (with_reducible refine wl_next rfl _ rfl _ rfl ?_) | (with_reducible refine wl_copy rfl _ _ _ _ rfl _ _ rfl rfl ?_) | (with_reducible refine wl_max rfl _ _ _ _ rfl _ _ rfl rfl ?_) | (with_reducible refine wl_min rfl _ _ _ _ rfl _ _ rfl rfl ?_) | (with_reducible refine wl_stAgg rfl _ _ _ rfl _ _ rfl rfl ?_))
    refine rg_stAgg hBX (by kernel_rfl) (by rfl) (by simp [Value.oneCell']) ?_
    intro Z hBZ hkZ _
    go_wp2_with (first | (at_builtin; refine wl_append rfl _ _ _ _ rfl _ _ rfl rfl ?_) | (at_make; refine wl_make rfl _ _ _ rfl _ _ rfl rfl ?_) | (at_mapUpdate; refine wl_mapUpdate rfl _ _ _ _ rfl _ _ _ rfl rfl rfl ?_) | (at_lookup; refine wl_lookup rfl _ _ _ _ rfl _ _ rfl rfl ?_) | (at_delete; refine wl_delete rfl _ _ _ _ rfl _ _ rfl rfl ?_) | (with_reducible refine wl_len rfl _ _ rfl _ rfl ?_) | (with_reducible refine wl_range rfl _ _ rfl _ rfl ?_) | (with_reducible refine wl_next rfl _ rfl _ rfl ?_) | (with_reducible refine wl_copy rfl _ _ _ _ rfl _ _ rfl rfl ?_) | (with_reducible refine wl_max rfl _ _ _ _ rfl _ _ rfl rfl ?_) | (with_reducible refine wl_min rfl _ _ _ _ rfl _ _ rfl rfl ?_) | (with_reducible refine wl_stAgg rfl _ _ _ rfl _ _ rfl rfl ?_))
    refine ret_blk_tmp rfl rfl hBZ Tryz.underlying30 rfl (by kernel_rfl) rfl ?_
    rw [HC.out hc1]
    exact RetD.two (RetD.fin 2 hkX hD2 (hkZ.mono fun j _ e => ⟨by have e : j = w.heap.size + 1 := e; omega, by have e : j = w.heap.size + 1 := e; omega⟩))
  · have e1 : (m.cut == 1) = false := by simp [hc1]
    go_wp2_with (first | (at_builtin; refine wl_append rfl _ _ _ _ rfl _ _ rfl rfl ?_) | (at_make; refine wl_make rfl _ _ _ rfl _ _ rfl rfl ?_) | (at_mapUpdate; refine wl_mapUpdate rfl _ _ _ _ rfl _ _ _ rfl rfl rfl ?_) | (at_lookup; refine wl_lookup rfl _ _ _ _ rfl _ _ rfl rfl ?_) | (at_delete; refine wl_delete rfl _ _ _ _ rfl _ _ rfl rfl ?_) | (with_reducible refine wl_len rfl _ _ rfl _ rfl ?_) | (with_reducible refine wl_range rfl _ _ rfl _ rfl ?_) | (with_reducible refine wl_next rfl _ rfl _ rfl ?_) | (with_reducible refine wl_copy rfl _ _ _ _ rfl _ _ rfl rfl ?_) | (with_reducible refine wl_max rfl _ _ _ _ rfl _ _ rfl rfl ?_) | (with_reducible refine wl_min rfl _ _ _ _ rfl _ _ rfl rfl ?_) | (with_reducible refine wl_stAgg rfl _ _ _ rfl _ _ rfl rfl ?_))
    have hdn := rdone6_any ⟨a.toArray⟩ ⟨b.toArray⟩ ⟨body.toArray⟩ (findZ m.L a) at_ hD2 hsp hfp hn hN hn2
    have hdn2 : Calls Tryz.prog 45 _ x2 (RetD _ x2 (done mp 6 a b at_ body)) := hdn
    refine hdn2.mono ?_
    rintro e Y ⟨u1, u2, u3, u4, u5, rfl, hDY, hkY⟩
    clear hdn hdn2
    generalize hmq : done mp 6 a b at_ body = mq at *
    have HMQ := Lib.hid hmq
    clear hmq
    obtain ⟨z1, y1, z2, y2, z3, y3, z4, y4, z5, y5, rfl, rfl, rfl, rfl, rfl⟩ := hDY.shape
    have hBY := hBX.keep hkY fun h => h
    unfold dv
    go_wp2_with (first | (at_builtin; refine wl_append rfl _ _ _ _ rfl _ _ rfl rfl ?_) | (at_make; refine wl_make rfl _ _ _ rfl _ _ rfl rfl ?_) | (at_mapUpdate; refine wl_mapUpdate rfl _ _ _ _ rfl _ _ _ rfl rfl rfl ?_) | (at_lookup; refine wl_lookup rfl _ _ _ _ rfl _ _ rfl rfl ?_) | (at_delete; refine wl_delete rfl _ _ _ _ rfl _ _ rfl rfl ?_) | (with_reducible refine wl_len rfl _ _ rfl _ rfl ?_) | (with_reducible refine wl_range rfl _ _ rfl _ rfl ?_) | (with_reducible refine wl_next rfl _ rfl _ rfl ?_) | (with_reducible refine wl_copy rfl _ _ _ _ rfl _ _ rfl rfl ?_) | (with_reducible refine wl_max rfl _ _ _ _ rfl _ _ rfl rfl ?_) | (with_reducible refine wl_min rfl _ _ _ _ rfl _ _ rfl rfl ?_) | (with_reducible refine wl_stAgg rfl _ _ _ rfl _ _ rfl rfl ?_))
    refine rg_stAgg hBY (by kernel_rfl) (by rfl) (by simp [Value.oneCell']) ?_
    intro Z hBZ hkZ _
    go_wp2_with (first | (at_builtin; refine wl_append rfl _ _ _ _ rfl _ _ rfl rfl ?_) | (at_make; refine wl_make rfl _ _ _ rfl _ _ rfl rfl ?_) | (at_mapUpdate; refine wl_mapUpdate rfl _ _ _ _ rfl _ _ _ rfl rfl rfl ?_) | (at_lookup; refine wl_lookup rfl _ _ _ _ rfl _ _ rfl rfl ?_) | (at_delete; refine wl_delete rfl _ _ _ _ rfl _ _ rfl rfl ?_) | (with_reducible refine wl_len rfl _ _ rfl _ rfl ?_) | (with_reducible refine wl_range rfl _ _ rfl _ rfl ?_) | (with_reducible refine wl_next rfl _ rfl _ rfl ?_) | (with_reducible refine wl_copy rfl _ _ _ _ rfl _ _ rfl rfl ?_) | (with_reducible refine wl_max rfl _ _ _ _ rfl _ _ rfl rfl ?_) | (with_reducible refine wl_min rfl _ _ _ _ rfl _ _ rfl rfl ?_) | (with_reducible refine wl_stAgg rfl _ _ _ rfl _ _ rfl rfl ?_))
    refine ret_blk_tmp rfl rfl hBZ Tryz.underlying30 rfl (by kernel_rfl) rfl ?_
    rw [HG.out hc1]
    exact RetD.two (RetD.fin 2 (hkX.trans' hkY) (hDY.mono fun j _ ha => by
      rcases ha with ha | ha
      · exact ha
      · exact .inr (by have := ha.1; omega)) (hkZ.mono fun j _ e => ⟨by have e : j = w.heap.size + 1 := e; omega, by have e : j = w.heap.size + 1 := e; omega⟩))

set_option maxRecDepth 100000 in
set_option maxHeartbeats 8000000 in
theorem rdo3_any {A : Nat → Prop} {w : World} {v1 v2 v3 v4 v5 : Value} {m : M} {n N n2 : Nat} (a b : List UInt8) (at_ : Int) (body : List UInt8) (h : DV A w v1 v2 v3 v4 v5 m) (hs : Small m n N) (hf : Files m n2) (hn : n < 100000) (hN : N ≤ 1000000) (hn2 : n2 < 1000000) (hoff : m.off = false) :
    Calls Tryz.prog 15 #[dv m v1 v2 v3 v4 v5, .int .i64 3, .string ⟨a.toArray⟩, .string ⟨b.toArray⟩, .int .i64 at_, .string ⟨body.toArray⟩] w (RetD2 A w (call m 3 a b at_ body).1 (.int .i64 ((call m 3 a b at_ body).2 : Nat))) := by
  replace h := h.mono (B := fun k => A k ∧ k < w.heap.size) fun j hj ha => ⟨ha, hj⟩
  obtain ⟨a1, d1, a2, d2, a3, d3, a4, d4, a5, d5, rfl, rfl, rfl, rfl, rfl⟩ := h.shape
  unfold dv
  go_enter Tryz.func15, Tryz.ntmps15
  go_wp2_with (first | (at_builtin; refine wl_append rfl _ _ _ _ rfl _ _ rfl rfl ?_) | (at_make; refine wl_make rfl _ _ _ rfl _ _ rfl rfl ?_) | (at_mapUpdate; refine wl_mapUpdate rfl _ _ _ _ rfl _ _ _ rfl rfl rfl ?_) | (at_lookup; refine wl_lookup rfl _ _ _ _ rfl _ _ rfl rfl ?_) | (at_delete; refine wl_delete rfl _ _ _ _ rfl _ _ rfl rfl ?_) | (with_reducible refine wl_len rfl _ _ rfl _ rfl ?_) | (with_reducible refine wl_range rfl _ _ rfl _ rfl ?_) | (with_reducible refine wl_next rfl _ rfl _ rfl ?_) | (with_reducible refine wl_copy rfl _ _ _ _ rfl _ _ rfl rfl ?_) | (with_reducible refine wl_max rfl _ _ _ _ rfl _ _ rfl rfl ?_) | (with_reducible refine wl_min rfl _ _ _ _ rfl _ _ rfl rfl ?_))
  have hkW1 : Keep No w (w.alloc (.cells #[.int .i64 m.room, .slice a1 m.is.length d1, .slice a2 m.sure.length d2, .slice a3 m.L.length d3, .slice a4 m.S.length d4, .slice a5 m.wait.length d5, .bool false, .int .i64 m.cut] 30)) := (Keep.refl _ _).alloc _
  have hBW1 : Blk (w.alloc (.cells #[.int .i64 m.room, .slice a1 m.is.length d1, .slice a2 m.sure.length d2, .slice a3 m.L.length d3, .slice a4 m.S.length d4, .slice a5 m.wait.length d5, .bool false, .int .i64 m.cut] 30)) w.heap.size #[.int .i64 m.room, .slice a1 m.is.length d1, .slice a2 m.sure.length d2, .slice a3 m.L.length d3, .slice a4 m.S.length d4, .slice a5 m.wait.length d5, .bool false, .int .i64 m.cut] 30 := Blk.new _ _ _
  have hzW1 : (w.alloc (.cells #[.int .i64 m.room, .slice a1 m.is.length d1, .slice a2 m.sure.length d2, .slice a3 m.L.length d3, .slice a4 m.S.length d4, .slice a5 m.wait.length d5, .bool false, .int .i64 m.cut] 30)).heap.size = w.heap.size + 1 := World.size_alloc _ _
  generalize w.alloc (.cells #[.int .i64 m.room, .slice a1 m.is.length d1, .slice a2 m.sure.length d2, .slice a3 m.L.length d3, .slice a4 m.S.length d4, .slice a5 m.wait.length d5, .bool false, .int .i64 m.cut] 30) = W1 at *
  have hkW : Keep No W1 (W1.alloc (.cells #[.int .i64 0, .slice none 0 0, .slice none 0 0, .slice none 0 0, .slice none 0 0, .slice none 0 0, .bool false, .int .i64 0] 30)) := (Keep.refl _ _).alloc _
  have hBW : Blk (W1.alloc (.cells #[.int .i64 0, .slice none 0 0, .slice none 0 0, .slice none 0 0, .slice none 0 0, .slice none 0 0, .bool false, .int .i64 0] 30)) W1.heap.size #[.int .i64 0, .slice none 0 0, .slice none 0 0, .slice none 0 0, .slice none 0 0, .slice none 0 0, .bool false, .int .i64 0] 30 := Blk.new _ _ _
  have hzW : (W1.alloc (.cells #[.int .i64 0, .slice none 0 0, .slice none 0 0, .slice none 0 0, .slice none 0 0, .slice none 0 0, .bool false, .int .i64 0] 30)).heap.size = W1.heap.size + 1 := World.size_alloc _ _
  generalize W1.alloc (.cells #[.int .i64 0, .slice none 0 0, .slice none 0 0, .slice none 0 0, .slice none 0 0, .slice none 0 0, .bool false, .int .i64 0] 30) = W at *
  rw [hzW1] at hBW
  replace hBW1 := hBW1.keep hkW fun h => h
  replace hkW := hkW1.trans' hkW
  have h' := h.no hkW
  have hzz : w.heap.size + 2 ≤ W.heap.size := by omega
  clear hkW1 hzW1 hzW
  clear W1
  replace hBW1 : Blk W w.heap.size #[.int .i64 m.room, .slice a1 m.is.length d1, .slice a2 m.sure.length d2, .slice a3 m.L.length d3, .slice a4 m.S.length d4, .slice a5 m.wait.length d5, .bool m.off, .int .i64 m.cut] 30 := by rw [hoff]; exact hBW1
  have HOFF := Lib.hid hoff
  clear hoff
  have c1 := hBW1.cell
  have f1 := hBW1.frozen
  refine (rfind_any a h'.L).mono ?_
  rintro e x0 ⟨rfl, rfl⟩
  cases hfd : find m.L a with
  | none =>
    have hown : own m 3 a b at_ body = 20 := by simp [own, hfd]
    have hz : findZ m.L a = -1 := by simp [findZ, hfd]
    rw [hz]
    have HO := Lib.hid hown
    clear hown hz
    go_wp2_with (first | (at_builtin; refine wl_append rfl _ _ _ _ rfl _ _ rfl rfl ?_) | (at_make; refine wl_make rfl _ _ _ rfl _ _ rfl rfl ?_) | (at_mapUpdate; refine wl_mapUpdate rfl _ _ _ _ rfl _ _ _ rfl rfl rfl ?_) | (at_lookup; refine wl_lookup rfl _ _ _ _ rfl _ _ rfl rfl ?_) | (at_delete; refine wl_delete rfl _ _ _ _ rfl _ _ rfl rfl ?_) | (with_reducible refine wl_len rfl _ _ rfl _ rfl ?_) | (with_reducible refine wl_range rfl _ _ rfl _ rfl ?_) | (with_reducible refine wl_next rfl _ rfl _ rfl ?_) | (with_reducible refine wl_copy rfl _ _ _ _ rfl _ _ rfl rfl ?_) | (with_reducible refine wl_max rfl _ _ _ _ rfl _ _ rfl rfl ?_) | (with_reducible refine wl_min rfl _ _ _ _ rfl _ _ rfl rfl ?_) | (with_reducible refine wl_stAgg rfl _ _ _ rfl _ _ rfl rfl ?_))
    refine rg_stAgg hBW (by kernel_rfl) (by rfl) (by simp [Value.oneCell']) ?_
    intro Z hBZ hkZ _
    go_wp2_with (first | (at_builtin; refine wl_append rfl _ _ _ _ rfl _ _ rfl rfl ?_) | (at_make; refine wl_make rfl _ _ _ rfl _ _ rfl rfl ?_) | (at_mapUpdate; refine wl_mapUpdate rfl _ _ _ _ rfl _ _ _ rfl rfl rfl ?_) | (at_lookup; refine wl_lookup rfl _ _ _ _ rfl _ _ rfl rfl ?_) | (at_delete; refine wl_delete rfl _ _ _ _ rfl _ _ rfl rfl ?_) | (with_reducible refine wl_len rfl _ _ rfl _ rfl ?_) | (with_reducible refine wl_range rfl _ _ rfl _ rfl ?_) | (with_reducible refine wl_next rfl _ rfl _ rfl ?_) | (with_reducible refine wl_copy rfl _ _ _ _ rfl _ _ rfl rfl ?_) | (with_reducible refine wl_max rfl _ _ _ _ rfl _ _ rfl rfl ?_) | (with_reducible refine wl_min rfl _ _ _ _ rfl _ _ rfl rfl ?_) | (with_reducible refine wl_stAgg rfl _ _ _ rfl _ _ rfl rfl ?_))
    refine ret_blk_tmp rfl rfl hBZ Tryz.underlying30 rfl (by kernel_rfl) rfl ?_
    rw [call_err HOFF.out HO.out (by decide)]
    exact RetD.two (RetD.fin 2 hkW h'.in2 (hkZ.mono fun j _ e => ⟨by have e : j = w.heap.size + 1 := e; omega, by have e : j = w.heap.size + 1 := e; omega⟩))
  | some f =>
    have hown : own m 3 a b at_ body = 0 := by simp [own, hfd]
    have hz : findZ m.L a = (f : Int) := by simp [findZ, hfd]
    rw [hz]
    have HO := Lib.hid hown
    have HF := Lib.hid hfd
    clear hown hz hfd
    go_wp2_with (first | (at_builtin; refine wl_append rfl _ _ _ _ rfl _ _ rfl rfl ?_) | (at_make; refine wl_make rfl _ _ _ rfl _ _ rfl rfl ?_) | (at_mapUpdate; refine wl_mapUpdate rfl _ _ _ _ rfl _ _ _ rfl rfl rfl ?_) | (at_lookup; refine wl_lookup rfl _ _ _ _ rfl _ _ rfl rfl ?_) | (at_delete; refine wl_delete rfl _ _ _ _ rfl _ _ rfl rfl ?_) | (with_reducible refine wl_len rfl _ _ rfl _ rfl ?_) | (with_reducible refine wl_range rfl _ _ rfl _ rfl ?_) | (with_reducible refine wl_next rfl _ rfl _ rfl ?_) | (with_reducible refine wl_copy rfl _ _ _ _ rfl _ _ rfl rfl ?_) | (with_reducible refine wl_max rfl _ _ _ _ rfl _ _ rfl rfl ?_) | (with_reducible refine wl_min rfl _ _ _ _ rfl _ _ rfl rfl ?_))
    have hown := HO.out
    refine (rpower_any (h'.in2 (k := w.heap.size + 2)) hs.ct).mono ?_
    rintro e x1 ⟨u1, u2, u3, u4, u5, rfl, hD1, hk1⟩
    have hsp := small_pow hs
    have hfp := files_pow hf
    have hpL := pow_L (m := m)
    have hpI := pow_is (m := m)
    have hcut1 := fun hc => call_cut (a := a) (b := b) (body := body) (at_ := at_) HOFF.out hown hc
    have hgo1 := fun hc => call_go (a := a) (b := b) (body := body) (at_ := at_) HOFF.out hown hc
    generalize powM m = mp at *
    obtain ⟨z1, y1, z2, y2, z3, y3, z4, y4, z5, y5, rfl, rfl, rfl, rfl, rfl⟩ := hD1.shape
    have HC := Lib.hid hcut1
    have HG := Lib.hid hgo1
    have HPL := Lib.hid hpL
    have HPI := Lib.hid hpI
    clear hcut1 hgo1 hpL hpI hown
    unfold dv
    go_wp2_with (first | (at_builtin; refine wl_append rfl _ _ _ _ rfl _ _ rfl rfl ?_) | (at_make; refine wl_make rfl _ _ _ rfl _ _ rfl rfl ?_) | (at_mapUpdate; refine wl_mapUpdate rfl _ _ _ _ rfl _ _ _ rfl rfl rfl ?_) | (at_lookup; refine wl_lookup rfl _ _ _ _ rfl _ _ rfl rfl ?_) | (at_delete; refine wl_delete rfl _ _ _ _ rfl _ _ rfl rfl ?_) | (with_reducible refine wl_len rfl _ _ rfl _ rfl ?_) | (with_reducible refine wl_range rfl _ _ rfl _ rfl ?_) | (with_reducible refine wl_next rfl _ rfl _ rfl ?_) | (with_reducible refine wl_copy rfl _ _ _ _ rfl _ _ rfl rfl ?_) | (with_reducible refine wl_max rfl _ _ _ _ rfl _ _ rfl rfl ?_) | (with_reducible refine wl_min rfl _ _ _ _ rfl _ _ rfl rfl ?_) | (with_reducible refine wl_stAgg rfl _ _ _ rfl _ _ rfl rfl ?_))
    refine rg_stAgg (Blk.new _ _ _) (by kernel_rfl) (by rfl) (by simp [Value.oneCell']) ?_
    intro x2 hB2 hk2 _
    have hx2 : Keep No x1 x2 := ((Keep.refl No x1).alloc _).trans hk2 fun j hj e => absurd e (Nat.ne_of_lt hj)
    have hkX := (hkW.trans' hk1).trans' hx2
    have hBX := (hBW.keep hk1 fun h => h).keep hx2 fun h => h
    have hD2 := (hD1.no hx2).mono (B := fun j => (A j ∧ j < w.heap.size) ∨ w.heap.size + 2 ≤ j) fun j _ ha => by
      rcases ha with ha | ha
      · exact ha
      · exact .inr (Nat.le_trans hzz ha.1)
    have hz1 := hk1.size
    have hz2 := hx2.size
    clear c1 f1 hk2 hx2 hk1 hD1 h' hkW
    have c2 := hB2.cell
    by_cases hc1 : m.cut = 1
    · have e1 : (m.cut == 1) = true := by simp [hc1]
      go_wp2_with (first | (at_builtin; refine wl_append rfl _ _ _ _ rfl _ _ rfl rfl ?_) | (at_make; refine wl_make rfl _ _ _ rfl _ _ rfl rfl ?_) | (at_mapUpdate; refine wl_mapUpdate rfl _ _ _ _ rfl _ _ _ rfl rfl rfl ?_) | (at_lookup; refine wl_lookup rfl _ _ _ _ rfl _ _ rfl rfl ?_) | (at_delete; refine wl_delete rfl _ _ _ _ rfl _ _ rfl rfl ?_) | (with_reducible refine wl_len rfl _ _ rfl _ rfl ?_) | (with_reducible refine wl_range rfl _ _ rfl _ rfl ?_) | (with_reducible refine wl_next rfl _ rfl _ rfl ?_) | (with_reducible refine wl_copy rfl _ _ _ _ rfl _ _ rfl rfl ?_) | (with_reducible refine wl_max rfl _ _ _ _ rfl _ _ rfl rfl ?_) | (with_reducible refine wl_min rfl _ _ _ _ rfl _ _ rfl rfl ?_) | (with_reducible refine wl_stAgg rfl _ _ _ rfl _ _ rfl rfl ?_))
      refine rg_stAgg hBX (by kernel_rfl) (by rfl) (by simp [Value.oneCell']) ?_
      intro Z hBZ hkZ _
      go_wp2_with (first | (at_builtin; refine wl_append rfl _ _ _ _ rfl _ _ rfl rfl ?_) | (at_make; refine wl_make rfl _ _ _ rfl _ _ rfl rfl ?_) | (at_mapUpdate; refine wl_mapUpdate rfl _ _ _ _ rfl _ _ _ rfl rfl rfl ?_) | (at_lookup; refine wl_lookup rfl _ _ _ _ rfl _ _ rfl rfl ?_) | (at_delete; refine wl_delete rfl _ _ _ _ rfl _ _ rfl rfl ?_) | (with_reducible refine wl_len rfl _ _ rfl _ rfl ?_) | (with_reducible refine wl_range rfl _ _ rfl _ rfl ?_) | (with_reducible refine wl_next rfl _ rfl _ rfl ?_) | (with_reducible refine wl_copy rfl _ _ _ _ rfl _ _ rfl rfl ?_) | (with_reducible refine wl_max rfl _ _ _ _ rfl _ _ rfl rfl ?_) | (with_reducible refine wl_min rfl _ _ _ _ rfl _ _ rfl rfl ?_) | (with_reducible refine wl_stAgg rfl _ _ _ rfl _ _ rfl rfl ?_))
      refine ret_blk_tmp rfl rfl hBZ Tryz.underlying30 rfl (by kernel_rfl) rfl ?_
      rw [HC.out hc1]
      exact RetD.two (RetD.fin 2 hkX hD2 (hkZ.mono fun j _ e => ⟨by have e : j = w.heap.size + 1 := e; omega, by have e : j = w.heap.size + 1 := e; omega⟩))
    · have e1 : (m.cut == 1) = false := by simp [hc1]
      go_wp2_with (first | (at_builtin; refine wl_append rfl _ _ _ _ rfl _ _ rfl rfl ?_) | (at_make; refine wl_make rfl _ _ _ rfl _ _ rfl rfl ?_) | (at_mapUpdate; refine wl_mapUpdate rfl _ _ _ _ rfl _ _ _ rfl rfl rfl ?_) | (at_lookup; refine wl_lookup rfl _ _ _ _ rfl _ _ rfl rfl ?_) | (at_delete; refine wl_delete rfl _ _ _ _ rfl _ _ rfl rfl ?_) | (with_reducible refine wl_len rfl _ _ rfl _ rfl ?_) | (with_reducible refine wl_range rfl _ _ rfl _ rfl ?_) | (with_reducible refine wl_next rfl _ rfl _ rfl ?_) | (with_reducible refine wl_copy rfl _ _ _ _ rfl _ _ rfl rfl ?_) | (with_reducible refine wl_max rfl _ _ _ _ rfl _ _ rfl rfl ?_) | (with_reducible refine wl_min rfl _ _ _ _ rfl _ _ rfl rfl ?_) | (with_reducible refine wl_stAgg rfl _ _ _ rfl _ _ rfl rfl ?_))
      have hdn := rdone3_any a ⟨b.toArray⟩ ⟨body.toArray⟩ f at_ hD2 hsp hfp hn hN hn2 (by rw [HPL.out]; exact HF.out)
      have hdn2 : Calls Tryz.prog 45 _ x2 (RetD _ x2 (done mp 3 a b at_ body)) := hdn
      refine hdn2.mono ?_
      rintro e Y ⟨u1, u2, u3, u4, u5, rfl, hDY, hkY⟩
      clear hdn hdn2
      generalize hmq : done mp 3 a b at_ body = mq at *
      have HMQ := Lib.hid hmq
      clear hmq
      obtain ⟨z1, y1, z2, y2, z3, y3, z4, y4, z5, y5, rfl, rfl, rfl, rfl, rfl⟩ := hDY.shape
      have hBY := hBX.keep hkY fun h => h
      unfold dv
      go_wp2_with (first | (at_builtin; refine wl_append rfl _ _ _ _ rfl _ _ rfl rfl ?_) | (at_make; refine wl_make rfl _ _ _ rfl _ _ rfl rfl ?_) | (at_mapUpdate; refine wl_mapUpdate rfl _ _ _ _ rfl _ _ _ rfl rfl rfl ?_) | (at_lookup; refine wl_lookup rfl _ _ _ _ rfl _ _ rfl rfl ?_) | (at_delete; refine wl_delete rfl _ _ _ _ rfl _ _ rfl rfl ?_) | (with_reducible refine wl_len rfl _ _ rfl _ rfl ?_) | (with_reducible refine wl_range rfl _ _ rfl _ rfl ?_) | (with_reducible refine wl_next rfl _ rfl _ rfl ?_) | (with_reducible refine wl_copy rfl _ _ _ _ rfl _ _ rfl rfl ?_) | (with_reducible refine wl_max rfl _ _ _ _ rfl _ _ rfl rfl ?_) | (with_reducible refine wl_min rfl _ _ _ _ rfl _ _ rfl rfl ?_) | (with_reducible refine wl_stAgg rfl _ _ _ rfl _ _ rfl rfl ?_))
      refine rg_stAgg hBY (by kernel_rfl) (by rfl) (by simp [Value.oneCell']) ?_
      intro Z hBZ hkZ _
      go_wp2_with (first | (at_builtin; refine wl_append rfl _ _ _ _ rfl _ _ rfl rfl ?_) | (at_make; refine wl_make rfl _ _ _ rfl _ _ rfl rfl ?_) | (at_mapUpdate; refine wl_mapUpdate rfl _ _ _ _ rfl _ _ _ rfl rfl rfl ?_) | (at_lookup; refine wl_lookup rfl _ _ _ _ rfl _ _ rfl rfl ?_) | (at_delete; refine wl_delete rfl _ _ _ _ rfl _ _ rfl rfl ?_) | (with_reducible refine wl_len rfl _ _ rfl _ rfl ?_) | (with_reducible refine wl_range rfl _ _ rfl _ rfl ?_) | (with_reducible refine wl_next rfl _ rfl _ rfl ?_) | (with_reducible refine wl_copy rfl _ _ _ _ rfl _ _ rfl rfl ?_) | (with_reducible refine wl_max rfl _ _ _ _ rfl _ _ rfl rfl ?_) | (with_reducible refine wl_min rfl _ _ _ _ rfl _ _ rfl rfl ?_) | (with_reducible refine wl_stAgg rfl _ _ _ rfl _ _ rfl rfl ?_))
      refine ret_blk_tmp rfl rfl hBZ Tryz.underlying30 rfl (by kernel_rfl) rfl ?_
      rw [HG.out hc1]
      exact RetD.two (RetD.fin 2 (hkX.trans' hkY) (hDY.mono fun j _ ha => by
        rcases ha with ha | ha
        · exact ha
        · exact .inr (by have := ha.1; omega)) (hkZ.mono fun j _ e => ⟨by have e : j = w.heap.size + 1 := e; omega, by have e : j = w.heap.size + 1 := e; omega⟩))

set_option maxRecDepth 100000 in
set_option maxHeartbeats 8000000 in
theorem rdo5_any {A : Nat → Prop} {w : World} {v1 v2 v3 v4 v5 : Value} {m : M} {n N n2 : Nat} (a b : List UInt8) (at_ : Int) (body : List UInt8) (h : DV A w v1 v2 v3 v4 v5 m) (hs : Small m n N) (hf : Files m n2) (hn : n < 100000) (hN : N ≤ 1000000) (hn2 : n2 < 1000000) (hoff : m.off = false) :
    Calls Tryz.prog 15 #[dv m v1 v2 v3 v4 v5, .int .i64 5, .string ⟨a.toArray⟩, .string ⟨b.toArray⟩, .int .i64 at_, .string ⟨body.toArray⟩] w (RetD2 A w (call m 5 a b at_ body).1 (.int .i64 ((call m 5 a b at_ body).2 : Nat))) := by
  replace h := h.mono (B := fun k => A k ∧ k < w.heap.size) fun j hj ha => ⟨ha, hj⟩
  obtain ⟨a1, d1, a2, d2, a3, d3, a4, d4, a5, d5, rfl, rfl, rfl, rfl, rfl⟩ := h.shape
  unfold dv
  go_enter Tryz.func15, Tryz.ntmps15
  go_wp2_with (first | (at_builtin; refine wl_append rfl _ _ _ _ rfl _ _ rfl rfl ?_) | (at_make; refine wl_make rfl _ _ _ rfl _ _ rfl rfl ?_) | (at_mapUpdate; refine wl_mapUpdate rfl _ _ _ _ rfl _ _ _ rfl rfl rfl ?_) | (at_lookup; refine wl_lookup rfl _ _ _ _ rfl _ _ rfl rfl ?_) | (at_delete; refine wl_delete rfl _ _ _ _ rfl _ _ rfl rfl ?_) | (with_reducible refine wl_len rfl _ _ rfl _ rfl ?_) | (with_reducible refine wl_range rfl _ _ rfl _ rfl ?_) | (with_reducible refine wl_next rfl _ rfl _ rfl ?_) | (with_reducible refine wl_copy rfl _ _ _ _ rfl _ _ rfl rfl ?_) | (with_reducible refine wl_max rfl _ _ _ _ rfl _ _ rfl rfl ?_) | (with_reducible refine wl_min rfl _ _ _ _ rfl _ _ rfl rfl ?_))
  have hkW1 : Keep No w (w.alloc (.cells #[.int .i64 m.room, .slice a1 m.is.length d1, .slice a2 m.sure.length d2, .slice a3 m.L.length d3, .slice a4 m.S.length d4, .slice a5 m.wait.length d5, .bool false, .int .i64 m.cut] 30)) := (Keep.refl _ _).alloc _
  have hBW1 : Blk (w.alloc (.cells #[.int .i64 m.room, .slice a1 m.is.length d1, .slice a2 m.sure.length d2, .slice a3 m.L.length d3, .slice a4 m.S.length d4, .slice a5 m.wait.length d5, .bool false, .int .i64 m.cut] 30)) w.heap.size #[.int .i64 m.room, .slice a1 m.is.length d1, .slice a2 m.sure.length d2, .slice a3 m.L.length d3, .slice a4 m.S.length d4, .slice a5 m.wait.length d5, .bool false, .int .i64 m.cut] 30 := Blk.new _ _ _
  have hzW1 : (w.alloc (.cells #[.int .i64 m.room, .slice a1 m.is.length d1, .slice a2 m.sure.length d2, .slice a3 m.L.length d3, .slice a4 m.S.length d4, .slice a5 m.wait.length d5, .bool false, .int .i64 m.cut] 30)).heap.size = w.heap.size + 1 := World.size_alloc _ _
  generalize w.alloc (.cells #[.int .i64 m.room, .slice a1 m.is.length d1, .slice a2 m.sure.length d2, .slice a3 m.L.length d3, .slice a4 m.S.length d4, .slice a5 m.wait.length d5, .bool false, .int .i64 m.cut] 30) = W1 at *
  have hkW : Keep No W1 (W1.alloc (.cells #[.int .i64 0, .slice none 0 0, .slice none 0 0, .slice none 0 0, .slice none 0 0, .slice none 0 0, .bool false, .int .i64 0] 30)) := (Keep.refl _ _).alloc _
  have hBW : Blk (W1.alloc (.cells #[.int .i64 0, .slice none 0 0, .slice none 0 0, .slice none 0 0, .slice none 0 0, .slice none 0 0, .bool false, .int .i64 0] 30)) W1.heap.size #[.int .i64 0, .slice none 0 0, .slice none 0 0, .slice none 0 0, .slice none 0 0, .slice none 0 0, .bool false, .int .i64 0] 30 := Blk.new _ _ _
  have hzW : (W1.alloc (.cells #[.int .i64 0, .slice none 0 0, .slice none 0 0, .slice none 0 0, .slice none 0 0, .slice none 0 0, .bool false, .int .i64 0] 30)).heap.size = W1.heap.size + 1 := World.size_alloc _ _
  generalize W1.alloc (.cells #[.int .i64 0, .slice none 0 0, .slice none 0 0, .slice none 0 0, .slice none 0 0, .slice none 0 0, .bool false, .int .i64 0] 30) = W at *
  rw [hzW1] at hBW
  replace hBW1 := hBW1.keep hkW fun h => h
  replace hkW := hkW1.trans' hkW
  have h' := h.no hkW
  have hzz : w.heap.size + 2 ≤ W.heap.size := by omega
  clear hkW1 hzW1 hzW
  clear W1
  replace hBW1 : Blk W w.heap.size #[.int .i64 m.room, .slice a1 m.is.length d1, .slice a2 m.sure.length d2, .slice a3 m.L.length d3, .slice a4 m.S.length d4, .slice a5 m.wait.length d5, .bool m.off, .int .i64 m.cut] 30 := by rw [hoff]; exact hBW1
  have HOFF := Lib.hid hoff
  clear hoff
  have c1 := hBW1.cell
  have f1 := hBW1.frozen
  refine (rfind_any a h'.L).mono ?_
  rintro e x0 ⟨rfl, rfl⟩
  cases hfd : find m.L a with
  | none =>
    have hown : own m 5 a b at_ body = 20 := by simp [own, hfd]
    have hz : findZ m.L a = -1 := by simp [findZ, hfd]
    rw [hz]
    have HO := Lib.hid hown
    clear hown hz
    go_wp2_with (first | (at_builtin; refine wl_append rfl _ _ _ _ rfl _ _ rfl rfl ?_) | (at_make; refine wl_make rfl _ _ _ rfl _ _ rfl rfl ?_) | (at_mapUpdate; refine wl_mapUpdate rfl _ _ _ _ rfl _ _ _ rfl rfl rfl ?_) | (at_lookup; refine wl_lookup rfl _ _ _ _ rfl _ _ rfl rfl ?_) | (at_delete; refine wl_delete rfl _ _ _ _ rfl _ _ rfl rfl ?_) | (with_reducible refine wl_len rfl _ _ rfl _ rfl ?_) | (with_reducible refine wl_range rfl _ _ rfl _ rfl ?_) | (with_reducible refine wl_next rfl _ rfl _ rfl ?_) | (with_reducible refine wl_copy rfl _ _ _ _ rfl _ _ rfl rfl ?_) | (with_reducible refine wl_max rfl _ _ _ _ rfl _ _ rfl rfl ?_) | (with_reducible refine wl_min rfl _ _ _ _ rfl _ _ rfl rfl ?_) | (with_reducible refine wl_stAgg rfl _ _ _ rfl _ _ rfl rfl ?_))
    refine rg_stAgg hBW (by kernel_rfl) (by rfl) (by simp [Value.oneCell']) ?_
    intro Z hBZ hkZ _
    go_wp2_with (first | (at_builtin; refine wl_append rfl _ _ _ _ rfl _ _ rfl rfl ?_) | (at_make; refine wl_make rfl _ _ _ rfl _ _ rfl rfl ?_) | (at_mapUpdate; refine wl_mapUpdate rfl _ _ _ _ rfl _ _ _ rfl rfl rfl ?_) | (at_lookup; refine wl_lookup rfl _ _ _ _ rfl _ _ rfl rfl ?_) | (at_delete; refine wl_delete rfl _ _ _ _ rfl _ _ rfl rfl ?_) | (with_reducible refine wl_len rfl _ _ rfl _ rfl ?_) | (with_reducible refine wl_range rfl _ _ rfl _ rfl ?_) | (with_reducible refine wl_next rfl _ rfl _ rfl ?_) | (with_reducible refine wl_copy rfl _ _ _ _ rfl _ _ rfl rfl ?_) | (with_reducible refine wl_max rfl _ _ _ _ rfl _ _ rfl rfl ?_) | (with_reducible refine wl_min rfl _ _ _ _ rfl _ _ rfl rfl ?_) | (with_reducible refine wl_stAgg rfl _ _ _ rfl _ _ rfl rfl ?_))
    refine ret_blk_tmp rfl rfl hBZ Tryz.underlying30 rfl (by kernel_rfl) rfl ?_
    rw [call_err HOFF.out HO.out (by decide)]
    exact RetD.two (RetD.fin 2 hkW h'.in2 (hkZ.mono fun j _ e => ⟨by have e : j = w.heap.size + 1 := e; omega, by have e : j = w.heap.size + 1 := e; omega⟩))
  | some f =>
    have hown : own m 5 a b at_ body = 0 := by simp [own, hfd]
    have hz : findZ m.L a = (f : Int) := by simp [findZ, hfd]
    rw [hz]
    have HO := Lib.hid hown
    clear hown hz hfd
    go_wp2_with (first | (at_builtin; refine wl_append rfl _ _ _ _ rfl _ _ rfl rfl ?_) | (at_make; refine wl_make rfl _ _ _ rfl _ _ rfl rfl ?_) | (at_mapUpdate; refine wl_mapUpdate rfl _ _ _ _ rfl _ _ _ rfl rfl rfl ?_) | (at_lookup; refine wl_lookup rfl _ _ _ _ rfl _ _ rfl rfl ?_) | (at_delete; refine wl_delete rfl _ _ _ _ rfl _ _ rfl rfl ?_) | (with_reducible refine wl_len rfl _ _ rfl _ rfl ?_) | (with_reducible refine wl_range rfl _ _ rfl _ rfl ?_) | (with_reducible refine wl_next rfl _ rfl _ rfl ?_) | (with_reducible refine wl_copy rfl _ _ _ _ rfl _ _ rfl rfl ?_) | (with_reducible refine wl_max rfl _ _ _ _ rfl _ _ rfl rfl ?_) | (with_reducible refine wl_min rfl _ _ _ _ rfl _ _ rfl rfl ?_))
    have hown := HO.out
    refine (rpower_any (h'.in2 (k := w.heap.size + 2)) hs.ct).mono ?_
    rintro e x1 ⟨u1, u2, u3, u4, u5, rfl, hD1, hk1⟩
    have hsp := small_pow hs
    have hfp := files_pow hf
    have hpL := pow_L (m := m)
    have hpI := pow_is (m := m)
    have hcut1 := fun hc => call_cut (a := a) (b := b) (body := body) (at_ := at_) HOFF.out hown hc
    have hgo1 := fun hc => call_go (a := a) (b := b) (body := body) (at_ := at_) HOFF.out hown hc
    generalize powM m = mp at *
    obtain ⟨z1, y1, z2, y2, z3, y3, z4, y4, z5, y5, rfl, rfl, rfl, rfl, rfl⟩ := hD1.shape
    have HC := Lib.hid hcut1
    have HG := Lib.hid hgo1
    have HPL := Lib.hid hpL
    have HPI := Lib.hid hpI
    clear hcut1 hgo1 hpL hpI hown
    unfold dv
    go_wp2_with (first | (at_builtin; refine wl_append rfl _ _ _ _ rfl _ _ rfl rfl ?_) | (at_make; refine wl_make rfl _ _ _ rfl _ _ rfl rfl ?_) | (at_mapUpdate; refine wl_mapUpdate rfl _ _ _ _ rfl _ _ _ rfl rfl rfl ?_) | (at_lookup; refine wl_lookup rfl _ _ _ _ rfl _ _ rfl rfl ?_) | (at_delete; refine wl_delete rfl _ _ _ _ rfl _ _ rfl rfl ?_) | (with_reducible refine wl_len rfl _ _ rfl _ rfl ?_) | (with_reducible refine wl_range rfl _ _ rfl _ rfl ?_) | (with_reducible refine wl_next rfl _ rfl _ rfl ?_) | (with_reducible refine wl_copy rfl _ _ _ _ rfl _ _ rfl rfl ?_) | (with_reducible refine wl_max rfl _ _ _ _ rfl _ _ rfl rfl ?_) | (with_reducible refine wl_min rfl _ _ _ _ rfl _ _ rfl rfl ?_) | (with_reducible refine wl_stAgg rfl _ _ _ rfl _ _ rfl rfl ?_))
    refine rg_stAgg (Blk.new _ _ _) (by kernel_rfl) (by rfl) (by simp [Value.oneCell']) ?_
    intro x2 hB2 hk2 _
    have hx2 : Keep No x1 x2 := ((Keep.refl No x1).alloc _).trans hk2 fun j hj e => absurd e (Nat.ne_of_lt hj)
    have hkX := (hkW.trans' hk1).trans' hx2
    have hBX := (hBW.keep hk1 fun h => h).keep hx2 fun h => h
    have hD2 := (hD1.no hx2).mono (B := fun j => (A j ∧ j < w.heap.size) ∨ w.heap.size + 2 ≤ j) fun j _ ha => by
      rcases ha with ha | ha
      · exact ha
      · exact .inr (Nat.le_trans hzz ha.1)
    have hz1 := hk1.size
    have hz2 := hx2.size
    clear c1 f1 hk2 hx2 hk1 hD1 h' hkW
    have c2 := hB2.cell
    by_cases hc1 : m.cut = 1
    · have e1 : (m.cut == 1) = true := by simp [hc1]
      go_wp2_with (first | (at_builtin; refine wl_append rfl _ _ _ _ rfl _ _ rfl rfl ?_) | (at_make; refine wl_make rfl _ _ _ rfl _ _ rfl rfl ?_) | (at_mapUpdate; refine wl_mapUpdate rfl _ _ _ _ rfl _ _ _ rfl rfl rfl ?_) | (at_lookup; refine wl_lookup rfl _ _ _ _ rfl _ _ rfl rfl ?_) | (at_delete; refine wl_delete rfl _ _ _ _ rfl _ _ rfl rfl ?_) | (with_reducible refine wl_len rfl _ _ rfl _ rfl ?_) | (with_reducible refine wl_range rfl _ _ rfl _ rfl ?_) | (with_reducible refine wl_next rfl _ rfl _ rfl ?_) | (with_reducible refine wl_copy rfl _ _ _ _ rfl _ _ rfl rfl ?_) | (with_reducible refine wl_max rfl _ _ _ _ rfl _ _ rfl rfl ?_) | (with_reducible refine wl_min rfl _ _ _ _ rfl _ _ rfl rfl ?_) | (with_reducible refine wl_stAgg rfl _ _ _ rfl _ _ rfl rfl ?_))
      refine rg_stAgg hBX (by kernel_rfl) (by rfl) (by simp [Value.oneCell']) ?_
      intro Z hBZ hkZ _
      go_wp2_with (first | (at_builtin; refine wl_append rfl _ _ _ _ rfl _ _ rfl rfl ?_) | (at_make; refine wl_make rfl _ _ _ rfl _ _ rfl rfl ?_) | (at_mapUpdate; refine wl_mapUpdate rfl _ _ _ _ rfl _ _ _ rfl rfl rfl ?_) | (at_lookup; refine wl_lookup rfl _ _ _ _ rfl _ _ rfl rfl ?_) | (at_delete; refine wl_delete rfl _ _ _ _ rfl _ _ rfl rfl ?_) | (with_reducible refine wl_len rfl _ _ rfl _ rfl ?_) | (with_reducible refine wl_range rfl _ _ rfl _ rfl ?_) | (with_reducible refine wl_next rfl _ rfl _ rfl ?_) | (with_reducible refine wl_copy rfl _ _ _ _ rfl _ _ rfl rfl ?_) | (with_reducible refine wl_max rfl _ _ _ _ rfl _ _ rfl rfl ?_) | (with_reducible refine wl_min rfl _ _ _ _ rfl _ _ rfl rfl ?_) | (with_reducible refine wl_stAgg rfl _ _ _ rfl _ _ rfl rfl ?_))
      refine ret_blk_tmp rfl rfl hBZ Tryz.underlying30 rfl (by kernel_rfl) rfl ?_
      rw [HC.out hc1]
      exact RetD.two (RetD.fin 2 hkX hD2 (hkZ.mono fun j _ e => ⟨by have e : j = w.heap.size + 1 := e; omega, by have e : j = w.heap.size + 1 := e; omega⟩))
    · have e1 : (m.cut == 1) = false := by simp [hc1]
      go_wp2_with (first | (at_builtin; refine wl_append rfl _ _ _ _ rfl _ _ rfl rfl ?_) | (at_make; refine wl_make rfl _ _ _ rfl _ _ rfl rfl ?_) | (at_mapUpdate; refine wl_mapUpdate rfl _ _ _ _ rfl _ _ _ rfl rfl rfl ?_) | (at_lookup; refine wl_lookup rfl _ _ _ _ rfl _ _ rfl rfl ?_) | (at_delete; refine wl_delete rfl _ _ _ _ rfl _ _ rfl rfl ?_) | (with_reducible refine wl_len rfl _ _ rfl _ rfl ?_) | (with_reducible refine wl_range rfl _ _ rfl _ rfl ?_) | (with_reducible refine wl_next rfl _ rfl _ rfl ?_) | (with_reducible refine wl_copy rfl _ _ _ _ rfl _ _ rfl rfl ?_) | (with_reducible refine wl_max rfl _ _ _ _ rfl _ _ rfl rfl ?_) | (with_reducible refine wl_min rfl _ _ _ _ rfl _ _ rfl rfl ?_) | (with_reducible refine wl_stAgg rfl _ _ _ rfl _ _ rfl rfl ?_))
      have hdn := rdone5_any a ⟨b.toArray⟩ (f : Int) at_ ⟨body.toArray⟩ hD2 hsp hfp hn hN hn2
      have hdn2 : Calls Tryz.prog 45 _ x2 (RetD _ x2 (done mp 5 a b at_ body)) := hdn
      refine hdn2.mono ?_
      rintro e Y ⟨u1, u2, u3, u4, u5, rfl, hDY, hkY⟩
      clear hdn hdn2
      generalize hmq : done mp 5 a b at_ body = mq at *
      have HMQ := Lib.hid hmq
      clear hmq
      obtain ⟨z1, y1, z2, y2, z3, y3, z4, y4, z5, y5, rfl, rfl, rfl, rfl, rfl⟩ := hDY.shape
      have hBY := hBX.keep hkY fun h => h
      unfold dv
      go_wp2_with (first | (at_builtin; refine wl_append rfl _ _ _ _ rfl _ _ rfl rfl ?_) | (at_make; refine wl_make rfl _ _ _ rfl _ _ rfl rfl ?_) | (at_mapUpdate; refine wl_mapUpdate rfl _ _ _ _ rfl _ _ _ rfl rfl rfl ?_) | (at_lookup; refine wl_lookup rfl _ _ _ _ rfl _ _ rfl rfl ?_) | (at_delete; refine wl_delete rfl _ _ _ _ rfl _ _ rfl rfl ?_) | (with_reducible refine wl_len rfl _ _ rfl _ rfl ?_) | (with_reducible refine wl_range rfl _ _ rfl _ rfl ?_) | (with_reducible refine wl_next rfl _ rfl _ rfl ?_) | (with_reducible refine wl_copy rfl _ _ _ _ rfl _ _ rfl rfl ?_) | (with_reducible refine wl_max rfl _ _ _ _ rfl _ _ rfl rfl ?_) | (with_reducible refine wl_min rfl _ _ _ _ rfl _ _ rfl rfl ?_) | (with_reducible refine wl_stAgg rfl _ _ _ rfl _ _ rfl rfl ?_))
      refine rg_stAgg hBY (by kernel_rfl) (by rfl) (by simp [Value.oneCell']) ?_
      intro Z hBZ hkZ _
      go_wp2_with (first | (at_builtin; refine wl_append rfl _ _ _ _ rfl _ _ rfl rfl ?_) | (at_make; refine wl_make rfl _ _ _ rfl _ _ rfl rfl ?_) | (at_mapUpdate; refine wl_mapUpdate rfl _ _ _ _ rfl _ _ _ rfl rfl rfl ?_) | (at_lookup; refine wl_lookup rfl _ _ _ _ rfl _ _ rfl rfl ?_) | (at_delete; refine wl_delete rfl _ _ _ _ rfl _ _ rfl rfl ?_) | (with_reducible refine wl_len rfl _ _ rfl _ rfl ?_) | (with_reducible refine wl_range rfl _ _ rfl _ rfl ?_) | (with_reducible refine wl_next rfl _ rfl _ rfl ?_) | (with_reducible refine wl_copy rfl _ _ _ _ rfl _ _ rfl rfl ?_) | (with_reducible refine wl_max rfl _ _ _ _ rfl _ _ rfl rfl ?_) | (with_reducible refine wl_min rfl _ _ _ _ rfl _ _ rfl rfl ?_) | (with_reducible refine wl_stAgg rfl _ _ _ rfl _ _ rfl rfl ?_))
      refine ret_blk_tmp rfl rfl hBZ Tryz.underlying30 rfl (by kernel_rfl) rfl ?_
      rw [HG.out hc1]
      exact RetD.two (RetD.fin 2 (hkX.trans' hkY) (hDY.mono fun j _ ha => by
        rcases ha with ha | ha
        · exact ha
        · exact .inr (by have := ha.1; omega)) (hkZ.mono fun j _ e => ⟨by have e : j = w.heap.size + 1 := e; omega, by have e : j = w.heap.size + 1 := e; omega⟩))

set_option maxRecDepth 100000 in
set_option maxHeartbeats 8000000 in
theorem rdo4_any {A : Nat → Prop} {w : World} {v1 v2 v3 v4 v5 : Value} {m : M} {n N n2 : Nat} (a b : List UInt8) (at_ : Int) (body : List UInt8) (h : DV A w v1 v2 v3 v4 v5 m) (hs : Small m n N) (hf : Files m n2) (hn : n < 100000) (hN : N ≤ 1000000) (hn2 : n2 < 1000000) (hoff : m.off = false) :
    Calls Tryz.prog 15 #[dv m v1 v2 v3 v4 v5, .int .i64 4, .string ⟨a.toArray⟩, .string ⟨b.toArray⟩, .int .i64 at_, .string ⟨body.toArray⟩] w (RetD2 A w (call m 4 a b at_ body).1 (.int .i64 ((call m 4 a b at_ body).2 : Nat))) := by
  replace h := h.mono (B := fun k => A k ∧ k < w.heap.size) fun j hj ha => ⟨ha, hj⟩
  obtain ⟨a1, d1, a2, d2, a3, d3, a4, d4, a5, d5, rfl, rfl, rfl, rfl, rfl⟩ := h.shape
  unfold dv
  go_enter Tryz.func15, Tryz.ntmps15
  go_wp2_with (first | (at_builtin; refine wl_append rfl _ _ _ _ rfl _ _ rfl rfl ?_) | (at_make; refine wl_make rfl _ _ _ rfl _ _ rfl rfl ?_) | (at_mapUpdate; refine wl_mapUpdate rfl _ _ _ _ rfl _ _ _ rfl rfl rfl ?_) | (at_lookup; refine wl_lookup rfl _ _ _ _ rfl _ _ rfl rfl ?_) | (at_delete; refine wl_delete rfl _ _ _ _ rfl _ _ rfl rfl ?_) | (with_reducible refine wl_len rfl _ _ rfl _ rfl ?_) | (with_reducible refine wl_range rfl _ _ rfl _ rfl ?_) | (with_reducible refine wl_next rfl _ rfl _ rfl ?_) | (with_reducible refine wl_copy rfl _ _ _ _ rfl _ _ rfl rfl ?_) | (with_reducible refine wl_max rfl _ _ _ _ rfl _ _ rfl rfl ?_) | (with_reducible refine wl_min rfl _ _ _ _ rfl _ _ rfl rfl ?_))
  have hkW1 : Keep No w (w.alloc (.cells #[.int .i64 m.room, .slice a1 m.is.length d1, .slice a2 m.sure.length d2, .slice a3 m.L.length d3, .slice a4 m.S.length d4, .slice a5 m.wait.length d5, .bool false, .int .i64 m.cut] 30)) := (Keep.refl _ _).alloc _
  have hBW1 : Blk (w.alloc (.cells #[.int .i64 m.room, .slice a1 m.is.length d1, .slice a2 m.sure.length d2, .slice a3 m.L.length d3, .slice a4 m.S.length d4, .slice a5 m.wait.length d5, .bool false, .int .i64 m.cut] 30)) w.heap.size #[.int .i64 m.room, .slice a1 m.is.length d1, .slice a2 m.sure.length d2, .slice a3 m.L.length d3, .slice a4 m.S.length d4, .slice a5 m.wait.length d5, .bool false, .int .i64 m.cut] 30 := Blk.new _ _ _
  have hzW1 : (w.alloc (.cells #[.int .i64 m.room, .slice a1 m.is.length d1, .slice a2 m.sure.length d2, .slice a3 m.L.length d3, .slice a4 m.S.length d4, .slice a5 m.wait.length d5, .bool false, .int .i64 m.cut] 30)).heap.size = w.heap.size + 1 := World.size_alloc _ _
  generalize w.alloc (.cells #[.int .i64 m.room, .slice a1 m.is.length d1, .slice a2 m.sure.length d2, .slice a3 m.L.length d3, .slice a4 m.S.length d4, .slice a5 m.wait.length d5, .bool false, .int .i64 m.cut] 30) = W1 at *
  have hkW : Keep No W1 (W1.alloc (.cells #[.int .i64 0, .slice none 0 0, .slice none 0 0, .slice none 0 0, .slice none 0 0, .slice none 0 0, .bool false, .int .i64 0] 30)) := (Keep.refl _ _).alloc _
  have hBW : Blk (W1.alloc (.cells #[.int .i64 0, .slice none 0 0, .slice none 0 0, .slice none 0 0, .slice none 0 0, .slice none 0 0, .bool false, .int .i64 0] 30)) W1.heap.size #[.int .i64 0, .slice none 0 0, .slice none 0 0, .slice none 0 0, .slice none 0 0, .slice none 0 0, .bool false, .int .i64 0] 30 := Blk.new _ _ _
  have hzW : (W1.alloc (.cells #[.int .i64 0, .slice none 0 0, .slice none 0 0, .slice none 0 0, .slice none 0 0, .slice none 0 0, .bool false, .int .i64 0] 30)).heap.size = W1.heap.size + 1 := World.size_alloc _ _
  generalize W1.alloc (.cells #[.int .i64 0, .slice none 0 0, .slice none 0 0, .slice none 0 0, .slice none 0 0, .slice none 0 0, .bool false, .int .i64 0] 30) = W at *
  rw [hzW1] at hBW
  replace hBW1 := hBW1.keep hkW fun h => h
  replace hkW := hkW1.trans' hkW
  have h' := h.no hkW
  have hzz : w.heap.size + 2 ≤ W.heap.size := by omega
  clear hkW1 hzW1 hzW
  clear W1
  replace hBW1 : Blk W w.heap.size #[.int .i64 m.room, .slice a1 m.is.length d1, .slice a2 m.sure.length d2, .slice a3 m.L.length d3, .slice a4 m.S.length d4, .slice a5 m.wait.length d5, .bool m.off, .int .i64 m.cut] 30 := by rw [hoff]; exact hBW1
  have HOFF := Lib.hid hoff
  clear hoff
  have c1 := hBW1.cell
  have f1 := hBW1.frozen
  refine (rfind_any a h'.L).mono ?_
  rintro e x0 ⟨rfl, rfl⟩
  cases hfd : find m.L a with
  | none =>
    have hown : own m 4 a b at_ body = 20 := by simp [own, hfd]
    have hz : findZ m.L a = -1 := by simp [findZ, hfd]
    rw [hz]
    have HO := Lib.hid hown
    clear hown hz
    go_wp2_with (first | (at_builtin; refine wl_append rfl _ _ _ _ rfl _ _ rfl rfl ?_) | (at_make; refine wl_make rfl _ _ _ rfl _ _ rfl rfl ?_) | (at_mapUpdate; refine wl_mapUpdate rfl _ _ _ _ rfl _ _ _ rfl rfl rfl ?_) | (at_lookup; refine wl_lookup rfl _ _ _ _ rfl _ _ rfl rfl ?_) | (at_delete; refine wl_delete rfl _ _ _ _ rfl _ _ rfl rfl ?_) | (with_reducible refine wl_len rfl _ _ rfl _ rfl ?_) | (with_reducible refine wl_range rfl _ _ rfl _ rfl ?_) | (with_reducible refine wl_next rfl _ rfl _ rfl ?_) | (with_reducible refine wl_copy rfl _ _ _ _ rfl _ _ rfl rfl ?_) | (with_reducible refine wl_max rfl _ _ _ _ rfl _ _ rfl rfl ?_) | (with_reducible refine wl_min rfl _ _ _ _ rfl _ _ rfl rfl ?_) | (with_reducible refine wl_stAgg rfl _ _ _ rfl _ _ rfl rfl ?_))
    refine rg_stAgg hBW (by kernel_rfl) (by rfl) (by simp [Value.oneCell']) ?_
    intro Z hBZ hkZ _
    go_wp2_with (first | (at_builtin; refine wl_append rfl _ _ _ _ rfl _ _ rfl rfl ?_) | (at_make; refine wl_make rfl _ _ _ rfl _ _ rfl rfl ?_) | (at_mapUpdate; refine wl_mapUpdate rfl _ _ _ _ rfl _ _ _ rfl rfl rfl ?_) | (at_lookup; refine wl_lookup rfl _ _ _ _ rfl _ _ rfl rfl ?_) | (at_delete; refine wl_delete rfl _ _ _ _ rfl _ _ rfl rfl ?_) | (with_reducible refine wl_len rfl _ _ rfl _ rfl ?_) | (with_reducible refine wl_range rfl _ _ rfl _ rfl ?_) | (with_reducible refine wl_next rfl _ rfl _ rfl ?_) | (with_reducible refine wl_copy rfl _ _ _ _ rfl _ _ rfl rfl ?_) | (with_reducible refine wl_max rfl _ _ _ _ rfl _ _ rfl rfl ?_) | (with_reducible refine wl_min rfl _ _ _ _ rfl _ _ rfl rfl ?_) | (with_reducible refine wl_stAgg rfl _ _ _ rfl _ _ rfl rfl ?_))
    refine ret_blk_tmp rfl rfl hBZ Tryz.underlying30 rfl (by kernel_rfl) rfl ?_
    rw [call_err HOFF.out HO.out (by decide)]
    exact RetD.two (RetD.fin 2 hkW h'.in2 (hkZ.mono fun j _ e => ⟨by have e : j = w.heap.size + 1 := e; omega, by have e : j = w.heap.size + 1 := e; omega⟩))
  | some f =>
    have hz : findZ m.L a = (f : Int) := by simp [findZ, hfd]
    rw [hz]
    by_cases hb0 : b = []
    · have hown : own m 4 a b at_ body = 1 := by simp [own, hfd, hb0]
      have HO := Lib.hid hown
      subst hb0
      clear hown hz hfd
      go_wp2_with (first | (at_builtin; refine wl_append rfl _ _ _ _ rfl _ _ rfl rfl ?_) | (at_make; refine wl_make rfl _ _ _ rfl _ _ rfl rfl ?_) | (at_mapUpdate; refine wl_mapUpdate rfl _ _ _ _ rfl _ _ _ rfl rfl rfl ?_) | (at_lookup; refine wl_lookup rfl _ _ _ _ rfl _ _ rfl rfl ?_) | (at_delete; refine wl_delete rfl _ _ _ _ rfl _ _ rfl rfl ?_) | (with_reducible refine wl_len rfl _ _ rfl _ rfl ?_) | (with_reducible refine wl_range rfl _ _ rfl _ rfl ?_) | (with_reducible refine wl_next rfl _ rfl _ rfl ?_) | (with_reducible refine wl_copy rfl _ _ _ _ rfl _ _ rfl rfl ?_) | (with_reducible refine wl_max rfl _ _ _ _ rfl _ _ rfl rfl ?_) | (with_reducible refine wl_min rfl _ _ _ _ rfl _ _ rfl rfl ?_) | (with_reducible refine wl_stAgg rfl _ _ _ rfl _ _ rfl rfl ?_))
      refine rg_stAgg hBW (by kernel_rfl) (by rfl) (by simp [Value.oneCell']) ?_
      intro Z hBZ hkZ _
      go_wp2_with (first | (at_builtin; refine wl_append rfl _ _ _ _ rfl _ _ rfl rfl ?_) | (at_make; refine wl_make rfl _ _ _ rfl _ _ rfl rfl ?_) | (at_mapUpdate; refine wl_mapUpdate rfl _ _ _ _ rfl _ _ _ rfl rfl rfl ?_) | (at_lookup; refine wl_lookup rfl _ _ _ _ rfl _ _ rfl rfl ?_) | (at_delete; refine wl_delete rfl _ _ _ _ rfl _ _ rfl rfl ?_) | (with_reducible refine wl_len rfl _ _ rfl _ rfl ?_) | (with_reducible refine wl_range rfl _ _ rfl _ rfl ?_) | (with_reducible refine wl_next rfl _ rfl _ rfl ?_) | (with_reducible refine wl_copy rfl _ _ _ _ rfl _ _ rfl rfl ?_) | (with_reducible refine wl_max rfl _ _ _ _ rfl _ _ rfl rfl ?_) | (with_reducible refine wl_min rfl _ _ _ _ rfl _ _ rfl rfl ?_) | (with_reducible refine wl_stAgg rfl _ _ _ rfl _ _ rfl rfl ?_))
      refine ret_blk_tmp rfl rfl hBZ Tryz.underlying30 rfl (by kernel_rfl) rfl ?_
      rw [call_err HOFF.out HO.out (by decide)]
      exact RetD.two (RetD.fin 2 hkW h'.in2 (hkZ.mono fun j _ e => ⟨by have e : j = w.heap.size + 1 := e; omega, by have e : j = w.heap.size + 1 := e; omega⟩))
    · have hown : own m 4 a b at_ body = 0 := by simp [own, hfd, hb0]
      have HO := Lib.hid hown
      have hbe : b.isEmpty = false := by cases b <;> simp_all
      clear hown hz hfd
      go_wp2_with (first | (at_builtin; refine wl_append rfl _ _ _ _ rfl _ _ rfl rfl ?_) | (at_make; refine wl_make rfl _ _ _ rfl _ _ rfl rfl ?_) | (at_mapUpdate; refine wl_mapUpdate rfl _ _ _ _ rfl _ _ _ rfl rfl rfl ?_) | (at_lookup; refine wl_lookup rfl _ _ _ _ rfl _ _ rfl rfl ?_) | (at_delete; refine wl_delete rfl _ _ _ _ rfl _ _ rfl rfl ?_) | (with_reducible refine wl_len rfl _ _ rfl _ rfl ?_) | (with_reducible refine wl_range rfl _ _ rfl _ rfl ?_) | (with_reducible refine wl_next rfl _ rfl _ rfl ?_) | (with_reducible refine wl_copy rfl _ _ _ _ rfl _ _ rfl rfl ?_) | (with_reducible refine wl_max rfl _ _ _ _ rfl _ _ rfl rfl ?_) | (with_reducible refine wl_min rfl _ _ _ _ rfl _ _ rfl rfl ?_))
      have hown := HO.out
      refine (rpower_any (h'.in2 (k := w.heap.size + 2)) hs.ct).mono ?_
      rintro e x1 ⟨u1, u2, u3, u4, u5, rfl, hD1, hk1⟩
      have hsp := small_pow hs
      have hfp := files_pow hf
      have hpL := pow_L (m := m)
      have hpI := pow_is (m := m)
      have hcut1 := fun hc => call_cut (a := a) (b := b) (body := body) (at_ := at_) HOFF.out hown hc
      have hgo1 := fun hc => call_go (a := a) (b := b) (body := body) (at_ := at_) HOFF.out hown hc
      generalize powM m = mp at *
      obtain ⟨z1, y1, z2, y2, z3, y3, z4, y4, z5, y5, rfl, rfl, rfl, rfl, rfl⟩ := hD1.shape
      have HC := Lib.hid hcut1
      have HG := Lib.hid hgo1
      have HPL := Lib.hid hpL
      have HPI := Lib.hid hpI
      clear hcut1 hgo1 hpL hpI hown
      unfold dv
      go_wp2_with (first | (at_builtin; refine wl_append rfl _ _ _ _ rfl _ _ rfl rfl ?_) | (at_make; refine wl_make rfl _ _ _ rfl _ _ rfl rfl ?_) | (at_mapUpdate; refine wl_mapUpdate rfl _ _ _ _ rfl _ _ _ rfl rfl rfl ?_) | (at_lookup; refine wl_lookup rfl _ _ _ _ rfl _ _ rfl rfl ?_) | (at_delete; refine wl_delete rfl _ _ _ _ rfl _ _ rfl rfl ?_) | (with_reducible refine wl_len rfl _ _ rfl _ rfl ?_) | (with_reducible refine wl_range rfl _ _ rfl _ rfl ?_) | (with_reducible refine wl_next rfl _ rfl _ rfl ?_) | (with_reducible refine wl_copy rfl _ _ _ _ rfl _ _ rfl rfl ?_) | (with_reducible refine wl_max rfl _ _ _ _ rfl _ _ rfl rfl ?_) | (with_reducible refine wl_min rfl _ _ _ _ rfl _ _ rfl rfl ?_) | (with_reducible refine wl_stAgg rfl _ _ _ rfl _ _ rfl rfl ?_))
      refine rg_stAgg (Blk.new _ _ _) (by kernel_rfl) (by rfl) (by simp [Value.oneCell']) ?_
      intro x2 hB2 hk2 _
      have hx2 : Keep No x1 x2 := ((Keep.refl No x1).alloc _).trans hk2 fun j hj e => absurd e (Nat.ne_of_lt hj)
      have hkX := (hkW.trans' hk1).trans' hx2
      have hBX := (hBW.keep hk1 fun h => h).keep hx2 fun h => h
      have hD2 := (hD1.no hx2).mono (B := fun j => (A j ∧ j < w.heap.size) ∨ w.heap.size + 2 ≤ j) fun j _ ha => by
        rcases ha with ha | ha
        · exact ha
        · exact .inr (Nat.le_trans hzz ha.1)
      have hz1 := hk1.size
      have hz2 := hx2.size
      clear c1 f1 hk2 hx2 hk1 hD1 h' hkW
      have c2 := hB2.cell
      by_cases hc1 : m.cut = 1
      · have e1 : (m.cut == 1) = true := by simp [hc1]
        go_wp2_with (first | (at_builtin; refine wl_append rfl _ _ _ _ rfl _ _ rfl rfl ?_) | (at_make; refine wl_make rfl _ _ _ rfl _ _ rfl rfl ?_) | (at_mapUpdate; refine wl_mapUpdate rfl _ _ _ _ rfl _ _ _ rfl rfl rfl ?_) | (at_lookup; refine wl_lookup rfl _ _ _ _ rfl _ _ rfl rfl ?_) | (at_delete; refine wl_delete rfl _ _ _ _ rfl _ _ rfl rfl ?_) | (with_reducible refine wl_len rfl _ _ rfl _ rfl ?_) | (with_reducible refine wl_range rfl _ _ rfl _ rfl ?_) | (with_reducible refine wl_next rfl _ rfl _ rfl ?_) | (with_reducible refine wl_copy rfl _ _ _ _ rfl _ _ rfl rfl ?_) | (with_reducible refine wl_max rfl _ _ _ _ rfl _ _ rfl rfl ?_) | (with_reducible refine wl_min rfl _ _ _ _ rfl _ _ rfl rfl ?_) | (with_reducible refine wl_stAgg rfl _ _ _ rfl _ _ rfl rfl ?_))
        refine rg_stAgg hBX (by kernel_rfl) (by rfl) (by simp [Value.oneCell']) ?_
        intro Z hBZ hkZ _
        go_wp2_with (first | (at_builtin; refine wl_append rfl _ _ _ _ rfl _ _ rfl rfl ?_) | (at_make; refine wl_make rfl _ _ _ rfl _ _ rfl rfl ?_) | (at_mapUpdate; refine wl_mapUpdate rfl _ _ _ _ rfl _ _ _ rfl rfl rfl ?_) | (at_lookup; refine wl_lookup rfl _ _ _ _ rfl _ _ rfl rfl ?_) | (at_delete; refine wl_delete rfl _ _ _ _ rfl _ _ rfl rfl ?_) | (with_reducible refine wl_len rfl _ _ rfl _ rfl ?_) | (with_reducible refine wl_range rfl _ _ rfl _ rfl ?_) | (with_reducible refine wl_next rfl _ rfl _ rfl ?_) | (with_reducible refine wl_copy rfl _ _ _ _ rfl _ _ rfl rfl ?_) | (with_reducible refine wl_max rfl _ _ _ _ rfl _ _ rfl rfl ?_) | (with_reducible refine wl_min rfl _ _ _ _ rfl _ _ rfl rfl ?_) | (with_reducible refine wl_stAgg rfl _ _ _ rfl _ _ rfl rfl ?_))
        refine ret_blk_tmp rfl rfl hBZ Tryz.underlying30 rfl (by kernel_rfl) rfl ?_
        rw [HC.out hc1]
        exact RetD.two (RetD.fin 2 hkX hD2 (hkZ.mono fun j _ e => ⟨by have e : j = w.heap.size + 1 := e; omega, by have e : j = w.heap.size + 1 := e; omega⟩))
      · have e1 : (m.cut == 1) = false := by simp [hc1]
        go_wp2_with (first | (at_builtin; refine wl_append rfl _ _ _ _ rfl _ _ rfl rfl ?_) | (at_make; refine wl_make rfl _ _ _ rfl _ _ rfl rfl ?_) | (at_mapUpdate; refine wl_mapUpdate rfl _ _ _ _ rfl _ _ _ rfl rfl rfl ?_) | (at_lookup; refine wl_lookup rfl _ _ _ _ rfl _ _ rfl rfl ?_) | (at_delete; refine wl_delete rfl _ _ _ _ rfl _ _ rfl rfl ?_) | (with_reducible refine wl_len rfl _ _ rfl _ rfl ?_) | (with_reducible refine wl_range rfl _ _ rfl _ rfl ?_) | (with_reducible refine wl_next rfl _ rfl _ rfl ?_) | (with_reducible refine wl_copy rfl _ _ _ _ rfl _ _ rfl rfl ?_) | (with_reducible refine wl_max rfl _ _ _ _ rfl _ _ rfl rfl ?_) | (with_reducible refine wl_min rfl _ _ _ _ rfl _ _ rfl rfl ?_) | (with_reducible refine wl_stAgg rfl _ _ _ rfl _ _ rfl rfl ?_))
        have hdn := rdone4_any a b (f : Int) at_ ⟨body.toArray⟩ hD2 hsp hfp hn hN hn2
        have hdn2 : Calls Tryz.prog 45 _ x2 (RetD _ x2 (done mp 4 a b at_ body)) := hdn
        refine hdn2.mono ?_
        rintro e Y ⟨u1, u2, u3, u4, u5, rfl, hDY, hkY⟩
        clear hdn hdn2
        generalize hmq : done mp 4 a b at_ body = mq at *
        have HMQ := Lib.hid hmq
        clear hmq
        obtain ⟨z1, y1, z2, y2, z3, y3, z4, y4, z5, y5, rfl, rfl, rfl, rfl, rfl⟩ := hDY.shape
        have hBY := hBX.keep hkY fun h => h
        unfold dv
        go_wp2_with (first | (at_builtin; refine wl_append rfl _ _ _ _ rfl _ _ rfl rfl ?_) | (at_make; refine wl_make rfl _ _ _ rfl _ _ rfl rfl ?_) | (at_mapUpdate; refine wl_mapUpdate rfl _ _ _ _ rfl _ _ _ rfl rfl rfl ?_) | (at_lookup; refine wl_lookup rfl _ _ _ _ rfl _ _ rfl rfl ?_) | (at_delete; refine wl_delete rfl _ _ _ _ rfl _ _ rfl rfl ?_) | (with_reducible refine wl_len rfl _ _ rfl _ rfl ?_) | (with_reducible refine wl_range rfl _ _ rfl _ rfl ?_) | (with_reducible refine wl_next rfl _ rfl _ rfl ?_) | (with_reducible refine wl_copy rfl _ _ _ _ rfl _ _ rfl rfl ?_) | (with_reducible refine wl_max rfl _ _ _ _ rfl _ _ rfl rfl ?_) | (with_reducible refine wl_min rfl _ _ _ _ rfl _ _ rfl rfl ?_) | (with_reducible refine wl_stAgg rfl _ _ _ rfl _ _ rfl rfl ?_))
        refine rg_stAgg hBY (by kernel_rfl) (by rfl) (by simp [Value.oneCell']) ?_
        intro Z hBZ hkZ _
        go_wp2_with (first | (at_builtin; refine wl_append rfl _ _ _ _ rfl _ _ rfl rfl ?_) | (at_make; refine wl_make rfl _ _ _ rfl _ _ rfl rfl ?_) | (at_mapUpdate; refine wl_mapUpdate rfl _ _ _ _ rfl _ _ _ rfl rfl rfl ?_) | (at_lookup; refine wl_lookup rfl _ _ _ _ rfl _ _ rfl rfl ?_) | (at_delete; refine wl_delete rfl _ _ _ _ rfl _ _ rfl rfl ?_) | (with_reducible refine wl_len rfl _ _ rfl _ rfl ?_) | (with_reducible refine wl_range rfl _ _ rfl _ rfl ?_) | (with_reducible refine wl_next rfl _ rfl _ rfl ?_) | (with_reducible refine wl_copy rfl _ _ _ _ rfl _ _ rfl rfl ?_) | (with_reducible refine wl_max rfl _ _ _ _ rfl _ _ rfl rfl ?_) | (with_reducible refine wl_min rfl _ _ _ _ rfl _ _ rfl rfl ?_) | (with_reducible refine wl_stAgg rfl _ _ _ rfl _ _ rfl rfl ?_))
        refine ret_blk_tmp rfl rfl hBZ Tryz.underlying30 rfl (by kernel_rfl) rfl ?_
        rw [HG.out hc1]
        exact RetD.two (RetD.fin 2 (hkX.trans' hkY) (hDY.mono fun j _ ha => by
          rcases ha with ha | ha
          · exact ha
          · exact .inr (by have := ha.1; omega)) (hkZ.mono fun j _ e => ⟨by have e : j = w.heap.size + 1 := e; omega, by have e : j = w.heap.size + 1 := e; omega⟩))
end Go.Proofs.YtkmoomgmmhmaeaaGreat
