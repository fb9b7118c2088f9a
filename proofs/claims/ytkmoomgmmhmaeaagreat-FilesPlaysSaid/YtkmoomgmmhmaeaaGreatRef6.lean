/- The reference of the disk: power, done. No condition. -/
import Derived.Test.YtkmoomgmmhmaeaaGreatRef5
namespace Go.Proofs.YtkmoomgmmhmaeaaGreat
open Go.RowKit Go.Dm Go.Dm.Dk

/-- a disk and something else are what is told -/
def RetD2 (A : Nat → Prop) (w : World) (m : M) (b : Value) (e : Ending) (w' : World) : Prop := ∃ u1 u2 u3 u4 u5, e = .returned (.tuple #[dv m u1 u2 u3 u4 u5, b]) ∧ DV (Plus A w w') w' u1 u2 u3 u4 u5 m ∧ Keep No w w'
theorem RetD.two {A : Nat → Prop} {w Y : World} {u1 u2 u3 u4 u5 b : Value} {m : M} (h : RetD A w m (.returned (dv m u1 u2 u3 u4 u5)) Y) : RetD2 A w m b (.returned (.tuple #[dv m u1 u2 u3 u4 u5, b])) Y := by
  obtain ⟨x1, x2, x3, x4, x5, e, hD, hk⟩ := h
  simp only [dv, Ending.returned.injEq, Value.agg.injEq, Array.mk.injEq, List.cons.injEq, true_and, and_true] at e
  obtain ⟨rfl, rfl, rfl, rfl, rfl⟩ := e
  exact ⟨_, _, _, _, _, rfl, hD, hk⟩
theorem DV.in2 {A : Nat → Prop} {W : World} {v1 v2 v3 v4 v5 : Value} {m : M} {n : Nat} (h : DV (fun k => A k ∧ k < n) W v1 v2 v3 v4 v5 m) {k : Nat} : DV (fun j => (A j ∧ j < n) ∨ k ≤ j) W v1 v2 v3 v4 v5 m := h.mono fun _ _ h => .inl h
/-- the power of an operation -/
def powM (m : M) : M := if m.cut = 0 then m else { m with cut := m.cut - 1, off := m.cut == 1 }

set_option maxRecDepth 100000 in
set_option maxHeartbeats 2000000 in
theorem rpower_any {A : Nat → Prop} {w : World} {v1 v2 v3 v4 v5 : Value} {m : M} (h : DV A w v1 v2 v3 v4 v5 m) (hct : m.cut ≤ 9223372036854775807) :
    Calls Tryz.prog 44 #[dv m v1 v2 v3 v4 v5] w (RetD2 A w (powM m) (.bool (m.cut == 1))) := by
  rcases Nat.eq_zero_or_pos m.cut with h0 | h0
  · have e1 : powM m = m := by unfold powM; rw [if_pos h0]
    have e2 : (m.cut == 1) = false := by rw [h0]; rfl
    rw [e1, e2]
    have h0i : ((m.cut : Int) == 0) = true := by simp [h0]
    clear e1 e2 h0
    replace h := h.mono (B := fun k => A k ∧ k < w.heap.size) fun j hj ha => ⟨ha, hj⟩
    obtain ⟨a1, d1, a2, d2, a3, d3, a4, d4, a5, d5, rfl, rfl, rfl, rfl, rfl⟩ := h.shape
    unfold dv
    go_enter Tryz.func44, Tryz.ntmps44
    go_wp2_with (first | (at_builtin; refine wl_append rfl _ _ _ _ rfl _ _ rfl rfl ?_) | (at_make; refine wl_make rfl _ _ _ rfl _ _ rfl rfl ?_) | (at_mapUpdate; refine wl_mapUpdate rfl _ _ _ _ rfl _ _ _ rfl rfl rfl ?_) | (at_lookup; refine wl_lookup rfl _ _ _ _ rfl _ _ rfl rfl ?_) | (at_delete; refine wl_delete rfl _ _ _ _ rfl _ _ rfl rfl ?_) | (with_reducible refine wl_len rfl _ _ rfl _ rfl ?_) | (with_reducible refine wl_range rfl _ _ rfl _ rfl ?_) | (with_reducible refine wl_next rfl _ rfl _ rfl ?_) | (with_reducible refine wl_copy rfl _ _ _ _ rfl _ _ rfl rfl ?_) | (with_reducible refine wl_max rfl _ _ _ _ rfl _ _ rfl rfl ?_) | (with_reducible refine wl_min rfl _ _ _ _ rfl _ _ rfl rfl ?_) | (with_reducible refine wl_stAgg rfl _ _ _ rfl _ _ rfl rfl ?_))
    have hkW1 : Keep No w (w.alloc (.cells #[.int .i64 m.room, .slice a1 m.is.length d1, .slice a2 m.sure.length d2, .slice a3 m.L.length d3, .slice a4 m.S.length d4, .slice a5 m.wait.length d5, .bool m.off, .int .i64 m.cut] 30)) := (Keep.refl _ _).alloc _
    have hBW1 : Blk (w.alloc (.cells #[.int .i64 m.room, .slice a1 m.is.length d1, .slice a2 m.sure.length d2, .slice a3 m.L.length d3, .slice a4 m.S.length d4, .slice a5 m.wait.length d5, .bool m.off, .int .i64 m.cut] 30)) w.heap.size #[.int .i64 m.room, .slice a1 m.is.length d1, .slice a2 m.sure.length d2, .slice a3 m.L.length d3, .slice a4 m.S.length d4, .slice a5 m.wait.length d5, .bool m.off, .int .i64 m.cut] 30 := Blk.new _ _ _
    have hzW1 : (w.alloc (.cells #[.int .i64 m.room, .slice a1 m.is.length d1, .slice a2 m.sure.length d2, .slice a3 m.L.length d3, .slice a4 m.S.length d4, .slice a5 m.wait.length d5, .bool m.off, .int .i64 m.cut] 30)).heap.size = w.heap.size + 1 := World.size_alloc _ _
    generalize w.alloc (.cells #[.int .i64 m.room, .slice a1 m.is.length d1, .slice a2 m.sure.length d2, .slice a3 m.L.length d3, .slice a4 m.S.length d4, .slice a5 m.wait.length d5, .bool m.off, .int .i64 m.cut] 30) = W1 at *
    have hkW : Keep No W1 (W1.alloc (.cells #[.int .i64 0, .slice none 0 0, .slice none 0 0, .slice none 0 0, .slice none 0 0, .slice none 0 0, .bool false, .int .i64 0] 30)) := (Keep.refl _ _).alloc _
    have hBW : Blk (W1.alloc (.cells #[.int .i64 0, .slice none 0 0, .slice none 0 0, .slice none 0 0, .slice none 0 0, .slice none 0 0, .bool false, .int .i64 0] 30)) W1.heap.size #[.int .i64 0, .slice none 0 0, .slice none 0 0, .slice none 0 0, .slice none 0 0, .slice none 0 0, .bool false, .int .i64 0] 30 := Blk.new _ _ _
    have hzW : (W1.alloc (.cells #[.int .i64 0, .slice none 0 0, .slice none 0 0, .slice none 0 0, .slice none 0 0, .slice none 0 0, .bool false, .int .i64 0] 30)).heap.size = W1.heap.size + 1 := World.size_alloc _ _
    generalize W1.alloc (.cells #[.int .i64 0, .slice none 0 0, .slice none 0 0, .slice none 0 0, .slice none 0 0, .slice none 0 0, .bool false, .int .i64 0] 30) = W at *
    rw [hzW1] at hBW
    refine rg_stAgg hBW (by kernel_rfl) (by rfl) (by simp [Value.oneCell']) ?_
    intro Y hBY hkY _
    go_wp2_with (first | (at_builtin; refine wl_append rfl _ _ _ _ rfl _ _ rfl rfl ?_) | (at_make; refine wl_make rfl _ _ _ rfl _ _ rfl rfl ?_) | (at_mapUpdate; refine wl_mapUpdate rfl _ _ _ _ rfl _ _ _ rfl rfl rfl ?_) | (at_lookup; refine wl_lookup rfl _ _ _ _ rfl _ _ rfl rfl ?_) | (at_delete; refine wl_delete rfl _ _ _ _ rfl _ _ rfl rfl ?_) | (with_reducible refine wl_len rfl _ _ rfl _ rfl ?_) | (with_reducible refine wl_range rfl _ _ rfl _ rfl ?_) | (with_reducible refine wl_next rfl _ rfl _ rfl ?_) | (with_reducible refine wl_copy rfl _ _ _ _ rfl _ _ rfl rfl ?_) | (with_reducible refine wl_max rfl _ _ _ _ rfl _ _ rfl rfl ?_) | (with_reducible refine wl_min rfl _ _ _ _ rfl _ _ rfl rfl ?_) | (with_reducible refine wl_stAgg rfl _ _ _ rfl _ _ rfl rfl ?_))
    refine ret_blk_tmp rfl rfl hBY Tryz.underlying30 rfl (by kernel_rfl) rfl ?_
    exact RetD.two (RetD.fin 2 (hkW1.trans' hkW) (h.no (hkW1.trans' hkW)).in2 (hkY.mono fun j _ e => ⟨by have e : j = w.heap.size + 1 := e; omega, by have e : j = w.heap.size + 1 := e; omega⟩))
  · have e1 : powM m = { m with cut := m.cut - 1, off := m.cut == 1 } := by unfold powM; rw [if_neg (by omega)]
    rw [e1]
    have h0i : ((m.cut : Int) == 0) = false := by simp; omega
    have e4 : (((m.cut : Int) - 1) == 0) = (m.cut == 1) := by rw [Bool.eq_iff_iff]; simp; omega
    clear e1
    generalize hq : (m.cut == 1) = q at *
    have HQ := Lib.hid hq
    clear hq
    replace h := h.mono (B := fun k => A k ∧ k < w.heap.size) fun j hj ha => ⟨ha, hj⟩
    obtain ⟨a1, d1, a2, d2, a3, d3, a4, d4, a5, d5, rfl, rfl, rfl, rfl, rfl⟩ := h.shape
    unfold dv
    go_enter Tryz.func44, Tryz.ntmps44
    go_wp2_with (first | (at_builtin; refine wl_append rfl _ _ _ _ rfl _ _ rfl rfl ?_) | (at_make; refine wl_make rfl _ _ _ rfl _ _ rfl rfl ?_) | (at_mapUpdate; refine wl_mapUpdate rfl _ _ _ _ rfl _ _ _ rfl rfl rfl ?_) | (at_lookup; refine wl_lookup rfl _ _ _ _ rfl _ _ rfl rfl ?_) | (at_delete; refine wl_delete rfl _ _ _ _ rfl _ _ rfl rfl ?_) | (with_reducible refine wl_len rfl _ _ rfl _ rfl ?_) | (with_reducible refine wl_range rfl _ _ rfl _ rfl ?_) | (with_reducible refine wl_next rfl _ rfl _ rfl ?_) | (with_reducible refine wl_copy rfl _ _ _ _ rfl _ _ rfl rfl ?_) | (with_reducible refine wl_max rfl _ _ _ _ rfl _ _ rfl rfl ?_) | (with_reducible refine wl_min rfl _ _ _ _ rfl _ _ rfl rfl ?_) | (with_reducible refine wl_stAgg rfl _ _ _ rfl _ _ rfl rfl ?_))
    have hkW1 : Keep No w (w.alloc (.cells #[.int .i64 m.room, .slice a1 m.is.length d1, .slice a2 m.sure.length d2, .slice a3 m.L.length d3, .slice a4 m.S.length d4, .slice a5 m.wait.length d5, .bool q, .int .i64 ((m.cut : Int) - 1)] 30)) := (Keep.refl _ _).alloc _
    have hBW1 : Blk (w.alloc (.cells #[.int .i64 m.room, .slice a1 m.is.length d1, .slice a2 m.sure.length d2, .slice a3 m.L.length d3, .slice a4 m.S.length d4, .slice a5 m.wait.length d5, .bool q, .int .i64 ((m.cut : Int) - 1)] 30)) w.heap.size #[.int .i64 m.room, .slice a1 m.is.length d1, .slice a2 m.sure.length d2, .slice a3 m.L.length d3, .slice a4 m.S.length d4, .slice a5 m.wait.length d5, .bool q, .int .i64 ((m.cut : Int) - 1)] 30 := Blk.new _ _ _
    have hzW1 : (w.alloc (.cells #[.int .i64 m.room, .slice a1 m.is.length d1, .slice a2 m.sure.length d2, .slice a3 m.L.length d3, .slice a4 m.S.length d4, .slice a5 m.wait.length d5, .bool q, .int .i64 ((m.cut : Int) - 1)] 30)).heap.size = w.heap.size + 1 := World.size_alloc _ _
    generalize w.alloc (.cells #[.int .i64 m.room, .slice a1 m.is.length d1, .slice a2 m.sure.length d2, .slice a3 m.L.length d3, .slice a4 m.S.length d4, .slice a5 m.wait.length d5, .bool q, .int .i64 ((m.cut : Int) - 1)] 30) = W1 at *
    have hkW : Keep No W1 (W1.alloc (.cells #[.int .i64 0, .slice none 0 0, .slice none 0 0, .slice none 0 0, .slice none 0 0, .slice none 0 0, .bool false, .int .i64 0] 30)) := (Keep.refl _ _).alloc _
    have hBW : Blk (W1.alloc (.cells #[.int .i64 0, .slice none 0 0, .slice none 0 0, .slice none 0 0, .slice none 0 0, .slice none 0 0, .bool false, .int .i64 0] 30)) W1.heap.size #[.int .i64 0, .slice none 0 0, .slice none 0 0, .slice none 0 0, .slice none 0 0, .slice none 0 0, .bool false, .int .i64 0] 30 := Blk.new _ _ _
    have hzW : (W1.alloc (.cells #[.int .i64 0, .slice none 0 0, .slice none 0 0, .slice none 0 0, .slice none 0 0, .slice none 0 0, .bool false, .int .i64 0] 30)).heap.size = W1.heap.size + 1 := World.size_alloc _ _
    generalize W1.alloc (.cells #[.int .i64 0, .slice none 0 0, .slice none 0 0, .slice none 0 0, .slice none 0 0, .slice none 0 0, .bool false, .int .i64 0] 30) = W at *
    rw [hzW1] at hBW
    replace hBW1 := hBW1.keep hkW fun h => h
    have c1 := hBW1.cell
    have e5 : (m.cut : Int) - 1 = ((m.cut - 1 : Nat) : Int) := by omega
    have E5 := Lib.hid e5
    clear e5
    refine wp_region_sig (fun w' => (∀ i, w'.cell? ⟨w.heap.size, i, none⟩ = #[.int .i64 m.room, .slice a1 m.is.length d1, .slice a2 m.sure.length d2, .slice a3 m.L.length d3, .slice a4 m.S.length d4, .slice a5 m.wait.length d5, .bool q, .int .i64 ((m.cut : Int) - 1)][i]?) ∧ True) (fun j => decide (j ≤ 99)) [(0, true), (1, true), (2, true), (3, false), (4, false)] (by kernel_rfl) (by kernel_rfl) (by intro c a d v w h; cases d <;> exact h) ⟨c1, trivial⟩ ?_
    apply sig_still (o := ⟨some 16, _, _, _, _, _⟩) rfl rfl
    · intro w' hS
      obtain ⟨q1, q2⟩ := hS
      first | (go_simp; done) | (go_simp; rfl) | rfl
    go_frame
    apply sig_still (o := ⟨some 17, _, _, _, _, _⟩) rfl rfl
    · intro w' hS
      obtain ⟨q1, q2⟩ := hS
      first | (go_simp; done) | (go_simp; rfl) | rfl
    go_frame
    apply sig_still (o := ⟨some 18, _, _, _, _, _⟩) rfl rfl
    · intro w' hS
      obtain ⟨q1, q2⟩ := hS
      first | (go_simp; done) | (go_simp; rfl) | rfl
    go_frame
    refine sig_eff (o := ⟨none, _, _, _, _, _⟩) rfl rfl (fun K hKe => ?_)
    refine wo_stAgg (.tmp 2) (.tmp 16) 30 rfl _ _ rfl rfl ?_
    refine rg_stAgg (w := W.drew) (by exact hBW) (by kernel_rfl) (by rfl) (by simp [Value.oneCell']) ?_
    intro Y hBY hkY _
    replace hkY : Keep (fun j => j = w.heap.size + 1) W Y := ⟨hkY.os, hkY.tape, hkY.output, hkY.size, hkY.block⟩
    have c2 := (hBW1.keep hkY fun e => by have e : w.heap.size = w.heap.size + 1 := e; omega).cell
    refine hKe _ _ ⟨fun _ => ⟨c2, trivial⟩, ?_⟩
    refine sig_eff (o := ⟨some 3, _, _, _, _, _⟩) rfl rfl (fun K hKe => ?_)
    go_wp2_with (first | (at_builtin; refine wl_append rfl _ _ _ _ rfl _ _ rfl rfl ?_) | (at_make; refine wl_make rfl _ _ _ rfl _ _ rfl rfl ?_) | (at_mapUpdate; refine wl_mapUpdate rfl _ _ _ _ rfl _ _ _ rfl rfl rfl ?_) | (at_lookup; refine wl_lookup rfl _ _ _ _ rfl _ _ rfl rfl ?_) | (at_delete; refine wl_delete rfl _ _ _ _ rfl _ _ rfl rfl ?_) | (with_reducible refine wl_len rfl _ _ rfl _ rfl ?_) | (with_reducible refine wl_range rfl _ _ rfl _ rfl ?_) | (with_reducible refine wl_next rfl _ rfl _ rfl ?_) | (with_reducible refine wl_copy rfl _ _ _ _ rfl _ _ rfl rfl ?_) | (with_reducible refine wl_max rfl _ _ _ _ rfl _ _ rfl rfl ?_) | (with_reducible refine wl_min rfl _ _ _ _ rfl _ _ rfl rfl ?_))
    refine ⟨fun _ => ⟨c2, trivial⟩, sig_nil ?_⟩
    go_wp2_with (first | (at_builtin; refine wl_append rfl _ _ _ _ rfl _ _ rfl rfl ?_) | (at_make; refine wl_make rfl _ _ _ rfl _ _ rfl rfl ?_) | (at_mapUpdate; refine wl_mapUpdate rfl _ _ _ _ rfl _ _ _ rfl rfl rfl ?_) | (at_lookup; refine wl_lookup rfl _ _ _ _ rfl _ _ rfl rfl ?_) | (at_delete; refine wl_delete rfl _ _ _ _ rfl _ _ rfl rfl ?_) | (with_reducible refine wl_len rfl _ _ rfl _ rfl ?_) | (with_reducible refine wl_range rfl _ _ rfl _ rfl ?_) | (with_reducible refine wl_next rfl _ rfl _ rfl ?_) | (with_reducible refine wl_copy rfl _ _ _ _ rfl _ _ rfl rfl ?_) | (with_reducible refine wl_max rfl _ _ _ _ rfl _ _ rfl rfl ?_) | (with_reducible refine wl_min rfl _ _ _ _ rfl _ _ rfl rfl ?_) | (with_reducible refine wl_stAgg rfl _ _ _ rfl _ _ rfl rfl ?_))
    refine ret_blk_tmp rfl rfl hBY Tryz.underlying30 rfl (by kernel_rfl) rfl ?_
    have h2 := (h.no (hkW1.trans' hkW)).in2 (k := w.heap.size + 2)
    have hfin := RetD.fin 2 (A := A) (w := w) (x := W) (Y := Y) (u1 := .slice a1 m.is.length d1) (u2 := .slice a2 m.sure.length d2) (u3 := .slice a3 m.L.length d3) (u4 := .slice a4 m.S.length d4) (u5 := .slice a5 m.wait.length d5) (m := { m with cut := m.cut - 1, off := q }) (hkW1.trans' hkW) ⟨h2.is, h2.sure, h2.L, h2.S, h2.W⟩ (hkY.mono fun j _ e => ⟨by have e : j = w.heap.size + 1 := e; omega, by have e : j = w.heap.size + 1 := e; omega⟩)
    have hfin2 := RetD.two (b := .bool q) hfin
    unfold dv at hfin2
    rw [E5.out]
    exact hfin2

theorem Files.len {m : M} {n : Nat} (h : Files m n) : m.sure.length ≤ n := by have := h.ln; have := h.il; omega

set_option maxRecDepth 100000 in
set_option maxHeartbeats 4000000 in
theorem rdone1_any {A : Nat → Prop} {w : World} {v1 v2 v3 v4 v5 : Value} {m : M} {n N n2 : Nat} (a : List UInt8) (f : Int) (b body : ByteArray) (at_ : Int) (h : DV A w v1 v2 v3 v4 v5 m) (hs : Small m n N) (hf : Files m n2) (hn : n < 100000) (hN : N ≤ 1000000) (hn2 : n2 < 1000000) :
    Calls Tryz.prog 45 #[dv m v1 v2 v3 v4 v5, .int .i64 1, .string ⟨a.toArray⟩, .string b, .int .i64 at_, .string body, .int .i64 f] w (RetD A w (done m 1 a [] 0 [])) := by
  have hil := hf.il
  have hsl := hf.len
  have hdone : done m 1 a [] 0 [] = waitD { m with is := m.is ++ [[]], sure := m.sure ++ [[]] } ⟨2, m.is.length, 0, [], [], a⟩ := rfl
  rw [hdone]
  clear hdone
  replace h := h.mono (B := fun k => A k ∧ k < w.heap.size) fun j hj ha => ⟨ha, hj⟩
  obtain ⟨a1, d1, a2, d2, a3, d3, a4, d4, a5, d5, rfl, rfl, rfl, rfl, rfl⟩ := h.shape
  unfold dv
  go_enter Tryz.func45, Tryz.ntmps45
  go_wp2_with (first | (at_builtin; refine wl_append rfl _ _ _ _ rfl _ _ rfl rfl ?_) | (at_make; refine wl_make rfl _ _ _ rfl _ _ rfl rfl ?_) | (at_mapUpdate; refine wl_mapUpdate rfl _ _ _ _ rfl _ _ _ rfl rfl rfl ?_) | (at_lookup; refine wl_lookup rfl _ _ _ _ rfl _ _ rfl rfl ?_) | (at_delete; refine wl_delete rfl _ _ _ _ rfl _ _ rfl rfl ?_) | (with_reducible refine wl_len rfl _ _ rfl _ rfl ?_) | (with_reducible refine wl_range rfl _ _ rfl _ rfl ?_) | (with_reducible refine wl_next rfl _ rfl _ rfl ?_) | (with_reducible refine wl_copy rfl _ _ _ _ rfl _ _ rfl rfl ?_) | (with_reducible refine wl_max rfl _ _ _ _ rfl _ _ rfl rfl ?_) | (with_reducible refine wl_min rfl _ _ _ _ rfl _ _ rfl rfl ?_))
  have hkW1 : Keep No w (w.alloc (.cells #[.int .i64 m.room, .slice a1 m.is.length d1, .slice a2 m.sure.length d2, .slice a3 m.L.length d3, .slice a4 m.S.length d4, .slice a5 m.wait.length d5, .bool m.off, .int .i64 m.cut] 30)) := (Keep.refl _ _).alloc _
  have hBW1 : Blk (w.alloc (.cells #[.int .i64 m.room, .slice a1 m.is.length d1, .slice a2 m.sure.length d2, .slice a3 m.L.length d3, .slice a4 m.S.length d4, .slice a5 m.wait.length d5, .bool m.off, .int .i64 m.cut] 30)) w.heap.size #[.int .i64 m.room, .slice a1 m.is.length d1, .slice a2 m.sure.length d2, .slice a3 m.L.length d3, .slice a4 m.S.length d4, .slice a5 m.wait.length d5, .bool m.off, .int .i64 m.cut] 30 := Blk.new _ _ _
  have hzW1 : (w.alloc (.cells #[.int .i64 m.room, .slice a1 m.is.length d1, .slice a2 m.sure.length d2, .slice a3 m.L.length d3, .slice a4 m.S.length d4, .slice a5 m.wait.length d5, .bool m.off, .int .i64 m.cut] 30)).heap.size = w.heap.size + 1 := World.size_alloc _ _
  generalize w.alloc (.cells #[.int .i64 m.room, .slice a1 m.is.length d1, .slice a2 m.sure.length d2, .slice a3 m.L.length d3, .slice a4 m.S.length d4, .slice a5 m.wait.length d5, .bool m.off, .int .i64 m.cut] 30) = W1 at *
  have hkW : Keep No W1 (W1.alloc (.cells #[.int .i64 0, .slice none 0 0, .slice none 0 0, .slice none 0 0, .slice none 0 0, .slice none 0 0, .bool false, .int .i64 0] 30)) := (Keep.refl _ _).alloc _
  have hBW : Blk (W1.alloc (.cells #[.int .i64 0, .slice none 0 0, .slice none 0 0, .slice none 0 0, .slice none 0 0, .slice none 0 0, .bool false, .int .i64 0] 30)) W1.heap.size #[.int .i64 0, .slice none 0 0, .slice none 0 0, .slice none 0 0, .slice none 0 0, .slice none 0 0, .bool false, .int .i64 0] 30 := Blk.new _ _ _
  have hzW : (W1.alloc (.cells #[.int .i64 0, .slice none 0 0, .slice none 0 0, .slice none 0 0, .slice none 0 0, .slice none 0 0, .bool false, .int .i64 0] 30)).heap.size = W1.heap.size + 1 := World.size_alloc _ _
  generalize W1.alloc (.cells #[.int .i64 0, .slice none 0 0, .slice none 0 0, .slice none 0 0, .slice none 0 0, .slice none 0 0, .bool false, .int .i64 0] 30) = W at *
  rw [hzW1] at hBW
  replace hBW1 := hBW1.keep hkW fun h => h
  replace hkW := hkW1.trans' hkW
  have h' := h.no hkW
  have hzz : w.heap.size + 2 ≤ W.heap.size := by omega
  clear hkW1 hzW1 hzW
  clear W1
  have c1 := hBW1.cell
  have f1 := hBW1.frozen
  refine rg_cat _ 16 Tryz.underlying26 info_str rfl (by decide) h'.is (fun x => s_one x) (FlO.nil (base := W.heap.size)) (by simpa using Nat.le_trans hil (Nat.le_trans (Nat.le_of_lt hn2) (by decide))) (by decide) (Nat.le_refl _) ?_
  intro v' x1 ho1 hk1 _
  rw [List.nil_append] at ho1
  replace hk1 : Keep No W x1 := hk1.mono fun j _ h => by cases h
  replace hBW := hBW.keep hk1 fun h => h
  replace hBW1 := hBW1.keep hk1 fun h => h
  replace h' := h'.no hk1
  replace hkW := hkW.trans' hk1
  have hz1 := hk1.size
  obtain ⟨b1, e1, rfl, _, _⟩ := ho1.fl.shape
  clear c1 f1 hk1
  have c1 := hBW1.cell
  go_wp2_with (first | (at_builtin; refine wl_append rfl _ _ _ _ rfl _ _ rfl rfl ?_) | (at_make; refine wl_make rfl _ _ _ rfl _ _ rfl rfl ?_) | (at_mapUpdate; refine wl_mapUpdate rfl _ _ _ _ rfl _ _ _ rfl rfl rfl ?_) | (at_lookup; refine wl_lookup rfl _ _ _ _ rfl _ _ rfl rfl ?_) | (at_delete; refine wl_delete rfl _ _ _ _ rfl _ _ rfl rfl ?_) | (with_reducible refine wl_len rfl _ _ rfl _ rfl ?_) | (with_reducible refine wl_range rfl _ _ rfl _ rfl ?_) | (with_reducible refine wl_next rfl _ rfl _ rfl ?_) | (with_reducible refine wl_copy rfl _ _ _ _ rfl _ _ rfl rfl ?_) | (with_reducible refine wl_max rfl _ _ _ _ rfl _ _ rfl rfl ?_) | (with_reducible refine wl_min rfl _ _ _ _ rfl _ _ rfl rfl ?_))
  refine rg_cat _ 16 Tryz.underlying26 info_str rfl (by decide) h'.sure (fun x => s_one x) (FlO.nil (base := x1.heap.size)) (by simpa using Nat.le_trans hsl (Nat.le_trans (Nat.le_of_lt hn2) (by decide))) (by decide) (Nat.le_refl _) ?_
  intro v' x2 ho2 hk2 _
  rw [List.nil_append] at ho2
  replace hk2 : Keep No x1 x2 := hk2.mono fun j _ h => by cases h
  have hlo1 := fun j e => (World.ownsRow.lt ho1 j e)
  replace hBW := hBW.keep hk2 fun h => h
  replace hBW1 := hBW1.keep hk2 fun h => h
  replace h' := h'.no hk2
  replace hkW := hkW.trans' hk2
  replace ho1 := ho1.no hk2
  have hz2 := hk2.size
  obtain ⟨b2, e2, rfl, _, _⟩ := ho2.fl.shape
  have hl2x := fun j e => (World.ownsRow.lt ho2 j e).2
  have HL2X := Lib.hid hl2x
  clear c1 hk2 hl2x
  have HLO := Lib.hid hlo1
  clear hlo1
  go_wp2_with (first | (at_builtin; refine wl_append rfl _ _ _ _ rfl _ _ rfl rfl ?_) | (at_make; refine wl_make rfl _ _ _ rfl _ _ rfl rfl ?_) | (at_mapUpdate; refine wl_mapUpdate rfl _ _ _ _ rfl _ _ _ rfl rfl rfl ?_) | (at_lookup; refine wl_lookup rfl _ _ _ _ rfl _ _ rfl rfl ?_) | (at_delete; refine wl_delete rfl _ _ _ _ rfl _ _ rfl rfl ?_) | (with_reducible refine wl_len rfl _ _ rfl _ rfl ?_) | (with_reducible refine wl_range rfl _ _ rfl _ rfl ?_) | (with_reducible refine wl_next rfl _ rfl _ rfl ?_) | (with_reducible refine wl_copy rfl _ _ _ _ rfl _ _ rfl rfl ?_) | (with_reducible refine wl_max rfl _ _ _ _ rfl _ _ rfl rfl ?_) | (with_reducible refine wl_min rfl _ _ _ _ rfl _ _ rfl rfl ?_))
  refine rg_push _ 16 Tryz.underlying26 info_str rfl (by decide) (enc := encS) (x := ([] : List UInt8)) rfl rfl (s_one _) ho1 (by omega) (by decide) (by omega) ?_
  intro v' x3 ho3 hk3 hnb
  replace hBW := hBW.own ho1 hk3 (by omega)
  replace hBW1 := hBW1.own ho1 hk3 (by omega)
  replace h' := h'.keep hk3 fun j _ ha e => by have := ha.2; have := (HLO.out j e.symm).1; omega
  replace ho2 := ho2.same (w' := x3) fun g hg => hk3.block g (World.ownsRow.lt ho2 g hg).2 fun e => by have := (World.ownsRow.lt ho2 g hg).1; have := (HLO.out g e.symm).2; omega
  have hkW3 : Keep No w x3 := hkW.trans hk3 fun j hj e => by have := (HLO.out j e.symm).1; omega
  obtain ⟨b3, e3, ee, _, _⟩ := ho3.fl.shape
  rw [List.length_append, List.length_singleton] at ee
  subst ee
  have hz3 := hk3.size
  have f1 := hBW1.frozen
  have c1 := hBW1.cell
  go_wp2_with (first | (at_builtin; refine wl_append rfl _ _ _ _ rfl _ _ rfl rfl ?_) | (at_make; refine wl_make rfl _ _ _ rfl _ _ rfl rfl ?_) | (at_mapUpdate; refine wl_mapUpdate rfl _ _ _ _ rfl _ _ _ rfl rfl rfl ?_) | (at_lookup; refine wl_lookup rfl _ _ _ _ rfl _ _ rfl rfl ?_) | (at_delete; refine wl_delete rfl _ _ _ _ rfl _ _ rfl rfl ?_) | (with_reducible refine wl_len rfl _ _ rfl _ rfl ?_) | (with_reducible refine wl_range rfl _ _ rfl _ rfl ?_) | (with_reducible refine wl_next rfl _ rfl _ rfl ?_) | (with_reducible refine wl_copy rfl _ _ _ _ rfl _ _ rfl rfl ?_) | (with_reducible refine wl_max rfl _ _ _ _ rfl _ _ rfl rfl ?_) | (with_reducible refine wl_min rfl _ _ _ _ rfl _ _ rfl rfl ?_))
  have hkS : Keep (fun j => j = w.heap.size) x3 (x3.setCell ⟨w.heap.size, 1, none⟩ (.slice b3 (m.is.length + 1) e3)) := Keep.setCell (A := fun j => j = w.heap.size) (Keep.refl _ _) (p := ⟨w.heap.size, 1, none⟩) (fun _ => rfl) _
  replace hBW1 : Blk (x3.setCell ⟨w.heap.size, 1, none⟩ (.slice b3 (m.is.length + 1) e3)) w.heap.size #[.int .i64 m.room, (.slice b3 (m.is.length + 1) e3), .slice a2 m.sure.length d2, .slice a3 m.L.length d3, .slice a4 m.S.length d4, .slice a5 m.wait.length d5, .bool m.off, .int .i64 m.cut] 30 := hBW1.set (i := 1) _
  replace hBW := hBW.keep hkS fun e => by have e : w.heap.size + 1 = w.heap.size := e; omega
  replace h' := h'.keep hkS fun j _ ha e => by have e : j = w.heap.size := e; have := ha.2; omega
  replace ho2 := ho2.same (w' := x3.setCell ⟨w.heap.size, 1, none⟩ (.slice b3 (m.is.length + 1) e3)) fun g hg => hkS.block g (World.ownsRow.lt ho2 g hg).2 fun e => by have e : g = w.heap.size := e; have := (World.ownsRow.lt ho2 g hg).1; omega
  have hlo3 := fun j e => (World.ownsRow.lt ho3 j e)
  replace ho3 := ho3.same (w' := x3.setCell ⟨w.heap.size, 1, none⟩ (.slice b3 (m.is.length + 1) e3)) fun g hg => hkS.block g (World.ownsRow.lt ho3 g hg).2 fun e => by have e : g = w.heap.size := e; have := (World.ownsRow.lt ho3 g hg).1; omega
  replace hkW3 := hkW3.trans hkS fun j hj e => by have e : j = w.heap.size := e; omega
  have hz4 := hkS.size
  have hzE : (x3.setCell ⟨w.heap.size, 1, none⟩ (.slice b3 (m.is.length + 1) e3)).heap.size = x3.heap.size := World.size_setCell _ _ _
  rw [← hzE]
  clear hzE c1 f1 hkS hk3 hkW
  generalize x3.setCell ⟨w.heap.size, 1, none⟩ (.slice b3 (m.is.length + 1) e3) = x4 at *
  refine rg_push _ 16 Tryz.underlying26 info_str rfl (by decide) (enc := encS) (x := ([] : List UInt8)) rfl rfl (s_one _) ho2 (by omega) (by decide) (by omega) ?_
  intro v' x5 ho5 hk5 _
  have hlo2 := fun j e => (World.ownsRow.lt ho2 j e)
  replace hBW := hBW.own ho2 hk5 (by omega)
  replace hBW1 := hBW1.own ho2 hk5 (by omega)
  replace h' := h'.keep hk5 fun j _ ha e => by have := ha.2; have := (hlo2 j e.symm).1; omega
  replace ho3 := ho3.same (w' := x5) fun g hg => hk5.block g (World.ownsRow.lt ho3 g hg).2 fun e => by
    have h1 := (hlo2 g e.symm).1
    rcases hnb with hnb | hnb
    · rw [hnb] at hg; have := (HLO.out g hg).2; omega
    · rw [hnb] at hg; cases hg
      have := HL2X.out _ e.symm; omega
  replace hkW3 := hkW3.trans hk5 fun j hj e => by have := (hlo2 j e.symm).1; omega
  obtain ⟨b5, e5, ee, _, _⟩ := ho5.fl.shape
  rw [List.length_append, List.length_singleton] at ee
  subst ee
  have hz5 := hk5.size
  have f1 := hBW1.frozen
  have c1 := hBW1.cell
  have HLO3 := Lib.hid hlo3
  have HLO2 := Lib.hid hlo2
  clear hlo2 hlo3
  go_wp2_with (first | (at_builtin; refine wl_append rfl _ _ _ _ rfl _ _ rfl rfl ?_) | (at_make; refine wl_make rfl _ _ _ rfl _ _ rfl rfl ?_) | (at_mapUpdate; refine wl_mapUpdate rfl _ _ _ _ rfl _ _ _ rfl rfl rfl ?_) | (at_lookup; refine wl_lookup rfl _ _ _ _ rfl _ _ rfl rfl ?_) | (at_delete; refine wl_delete rfl _ _ _ _ rfl _ _ rfl rfl ?_) | (with_reducible refine wl_len rfl _ _ rfl _ rfl ?_) | (with_reducible refine wl_range rfl _ _ rfl _ rfl ?_) | (with_reducible refine wl_next rfl _ rfl _ rfl ?_) | (with_reducible refine wl_copy rfl _ _ _ _ rfl _ _ rfl rfl ?_) | (with_reducible refine wl_max rfl _ _ _ _ rfl _ _ rfl rfl ?_) | (with_reducible refine wl_min rfl _ _ _ _ rfl _ _ rfl rfl ?_))
  have hkS : Keep (fun j => j = w.heap.size) x5 (x5.setCell ⟨w.heap.size, 2, none⟩ (.slice b5 (m.sure.length + 1) e5)) := Keep.setCell (A := fun j => j = w.heap.size) (Keep.refl _ _) (p := ⟨w.heap.size, 2, none⟩) (fun _ => rfl) _
  replace hBW := hBW.keep hkS fun e => by have e : w.heap.size + 1 = w.heap.size := e; omega
  replace h' := h'.keep hkS fun j _ ha e => by have e : j = w.heap.size := e; have := ha.2; omega
  have hlo5 := fun j e => (World.ownsRow.lt ho5 j e)
  have hlo3 := fun j e => (World.ownsRow.lt ho3 j e)
  replace ho5 := ho5.same (w' := x5.setCell ⟨w.heap.size, 2, none⟩ (.slice b5 (m.sure.length + 1) e5)) fun g hg => hkS.block g (hlo5 g hg).2 fun e => by have e : g = w.heap.size := e; have := (hlo5 g hg).1; omega
  replace ho3 := ho3.same (w' := x5.setCell ⟨w.heap.size, 2, none⟩ (.slice b5 (m.sure.length + 1) e5)) fun g hg => hkS.block g (hlo3 g hg).2 fun e => by have e : g = w.heap.size := e; have := (hlo3 g hg).1; omega
  replace hkW3 := hkW3.trans hkS fun j hj e => by have e : j = w.heap.size := e; omega
  have hz6 := hkS.size
  clear c1 f1 hkS hk5 hlo5 hlo3
  generalize x5.setCell ⟨w.heap.size, 2, none⟩ (.slice b5 (m.sure.length + 1) e5) = x6 at *
  have hzz6 : w.heap.size + 2 ≤ x6.heap.size := by omega
  have e1 : (m.is ++ [[]]).length = m.is.length + 1 := by simp
  have e2 : (m.sure ++ [[]]).length = m.sure.length + 1 := by simp
  have hD6 : DV (fun j => (A j ∧ j < w.heap.size) ∨ w.heap.size + 2 ≤ j) x6 (.slice b3 (m.is.length + 1) e3) (.slice b5 (m.sure.length + 1) e5) (.slice a3 m.L.length d3) (.slice a4 m.S.length d4) (.slice a5 m.wait.length d5) { m with is := m.is ++ [[]], sure := m.sure ++ [[]] } := by
    have h2 := h'.in2 (k := w.heap.size + 2)
    refine ⟨?_, ?_, h2.L, h2.S, h2.W⟩
    · have := ho3.fl
      unfold Fl at this ⊢
      rw [e1] at this ⊢
      exact Sl.mono this fun j _ ha => .inr (by have := ha.1; omega)
    · have := ho5.fl
      unfold Fl at this ⊢
      rw [e2] at this ⊢
      exact Sl.mono this fun j _ ha => .inr (by have := ha.1; omega)
  have hs6 : Small { m with is := m.is ++ [[]], sure := m.sure ++ [[]] } n N := { hs with is := fun f => by show ((m.is ++ [[]]).getD f []).length ≤ N; rw [getD_snoc_nil]; exact hs.is f, sure := fun f => by show ((m.sure ++ [[]]).getD f []).length ≤ N; rw [getD_snoc_nil]; exact hs.sure f }
  have hf6 : Files { m with is := m.is ++ [[]], sure := m.sure ++ [[]] } (n2 + 1) := by
    refine ⟨fun p hp => ?_, fun p hp => ?_, fun o ho hk => ?_, ?_, ?_⟩
    · have := hf.L p hp; show p.2 < (m.is ++ [[]]).length; omega
    · have := hf.S p hp; show p.2 < (m.is ++ [[]]).length; omega
    · have := hf.W o ho hk; show o.file < (m.is ++ [[]]).length; omega
    · have := hf.ln; show (m.sure ++ [[]]).length = (m.is ++ [[]]).length; omega
    · show (m.is ++ [[]]).length ≤ n2 + 1; omega
  refine (rwait_any ⟨2, m.is.length, 0, [], [], a⟩ hD6 hs6 hf6 (by omega) hN (by omega) (fun e => by cases e)).mono ?_
  rintro e Y ⟨u1, u2, u3, u4, u5, rfl, hDY, hkY⟩
  obtain ⟨z1, y1, z2, y2, z3, y3, z4, y4, z5, y5, rfl, rfl, rfl, rfl, rfl⟩ := hDY.shape
  have hBY := hBW.keep hkY fun h => h
  unfold dv
  go_wp2_with (first | (at_builtin; refine wl_append rfl _ _ _ _ rfl _ _ rfl rfl ?_) | (at_make; refine wl_make rfl _ _ _ rfl _ _ rfl rfl ?_) | (at_mapUpdate; refine wl_mapUpdate rfl _ _ _ _ rfl _ _ _ rfl rfl rfl ?_) | (at_lookup; refine wl_lookup rfl _ _ _ _ rfl _ _ rfl rfl ?_) | (at_delete; refine wl_delete rfl _ _ _ _ rfl _ _ rfl rfl ?_) | (with_reducible refine wl_len rfl _ _ rfl _ rfl ?_) | (with_reducible refine wl_range rfl _ _ rfl _ rfl ?_) | (with_reducible refine wl_next rfl _ rfl _ rfl ?_) | (with_reducible refine wl_copy rfl _ _ _ _ rfl _ _ rfl rfl ?_) | (with_reducible refine wl_max rfl _ _ _ _ rfl _ _ rfl rfl ?_) | (with_reducible refine wl_min rfl _ _ _ _ rfl _ _ rfl rfl ?_) | (with_reducible refine wl_stAgg rfl _ _ _ rfl _ _ rfl rfl ?_))
  refine rg_stAgg hBY (by kernel_rfl) (by rfl) (by simp [Value.oneCell']) ?_
  intro Z hBZ hkZ _
  go_wp2_with (first | (at_builtin; refine wl_append rfl _ _ _ _ rfl _ _ rfl rfl ?_) | (at_make; refine wl_make rfl _ _ _ rfl _ _ rfl rfl ?_) | (at_mapUpdate; refine wl_mapUpdate rfl _ _ _ _ rfl _ _ _ rfl rfl rfl ?_) | (at_lookup; refine wl_lookup rfl _ _ _ _ rfl _ _ rfl rfl ?_) | (at_delete; refine wl_delete rfl _ _ _ _ rfl _ _ rfl rfl ?_) | (with_reducible refine wl_len rfl _ _ rfl _ rfl ?_) | (with_reducible refine wl_range rfl _ _ rfl _ rfl ?_) | (with_reducible refine wl_next rfl _ rfl _ rfl ?_) | (with_reducible refine wl_copy rfl _ _ _ _ rfl _ _ rfl rfl ?_) | (with_reducible refine wl_max rfl _ _ _ _ rfl _ _ rfl rfl ?_) | (with_reducible refine wl_min rfl _ _ _ _ rfl _ _ rfl rfl ?_) | (with_reducible refine wl_stAgg rfl _ _ _ rfl _ _ rfl rfl ?_))
  refine ret_blk rfl rfl hBZ Tryz.underlying30 rfl (by kernel_rfl) rfl ?_
  exact RetD.fin 2 (hkW3.trans' hkY) (hDY.mono fun j _ ha => by
    rcases ha with ha | ha
    · exact ha
    · exact .inr (Nat.le_trans hzz6 ha.1)) (hkZ.mono fun j _ e => ⟨by have e : j = w.heap.size + 1 := e; omega, by have e : j = w.heap.size + 1 := e; omega⟩)
end Go.Proofs.YtkmoomgmmhmaeaaGreat
