/- The reference of the disk: wait. No condition. -/
import Derived.Test.YtkmoomgmmhmaeaaGreatRef3
namespace Go.Proofs.YtkmoomgmmhmaeaaGreat
open Go.RowKit Go.Dm Go.Dm.Dk

theorem DV.no {A : Nat → Prop} {w w' : World} {v1 v2 v3 v4 v5 : Value} {m : M} (h : DV A w v1 v2 v3 v4 v5 m) (k : Keep No w w') : DV A w' v1 v2 v3 v4 v5 m :=
  ⟨h.is.no k, h.sure.no k, h.L.no k, h.S.no k, h.W.no k⟩
theorem DV.keep {A S : Nat → Prop} {w w' : World} {v1 v2 v3 v4 v5 : Value} {m : M} (h : DV A w v1 v2 v3 v4 v5 m) (k : Keep S w w') (hS : ∀ j, j < w.heap.size → A j → ¬ S j) : DV A w' v1 v2 v3 v4 v5 m :=
  ⟨h.is.keep k hS, h.sure.keep k hS, h.L.keep k hS, h.S.keep k hS, h.W.keep k hS⟩
theorem DV.mono {A B : Nat → Prop} {w : World} {v1 v2 v3 v4 v5 : Value} {m : M} (h : DV A w v1 v2 v3 v4 v5 m) (hab : ∀ j, j < w.heap.size → A j → B j) : DV B w v1 v2 v3 v4 v5 m :=
  ⟨h.is.mono hab, h.sure.mono hab, h.L.mono hab, h.S.mono hab, h.W.mono hab⟩
theorem DV.shape {A : Nat → Prop} {w : World} {v1 v2 v3 v4 v5 : Value} {m : M} (h : DV A w v1 v2 v3 v4 v5 m) :
    ∃ a1 d1 a2 d2 a3 d3 a4 d4 a5 d5, v1 = .slice a1 m.is.length d1 ∧ v2 = .slice a2 m.sure.length d2 ∧ v3 = .slice a3 m.L.length d3 ∧ v4 = .slice a4 m.S.length d4 ∧ v5 = .slice a5 m.wait.length d5 := by
  obtain ⟨a1, d1, e1, _⟩ := h.is.shape
  obtain ⟨a2, d2, e2, _⟩ := h.sure.shape
  obtain ⟨a3, d3, e3, _⟩ := h.L.shape
  obtain ⟨a4, d4, e4, _⟩ := h.S.shape
  obtain ⟨a5, d5, e5, _⟩ := h.W.shape
  exact ⟨a1, d1, a2, d2, a3, d3, a4, d4, a5, d5, e1, e2, e3, e4, e5⟩

/-- a disk of the reference is what is told -/
def RetD (A : Nat → Prop) (w : World) (m : M) (e : Ending) (w' : World) : Prop := ∃ u1 u2 u3 u4 u5, e = .returned (dv m u1 u2 u3 u4 u5) ∧ DV (Plus A w w') w' u1 u2 u3 u4 u5 m ∧ Keep No w w'
theorem RetD.fin (n : Nat) {A : Nat → Prop} {w x Y : World} {u1 u2 u3 u4 u5 : Value} {m : M} (hx : Keep No w x) (hD : DV (fun k => (A k ∧ k < w.heap.size) ∨ w.heap.size + n ≤ k) x u1 u2 u3 u4 u5 m) (hk : Keep (fun k => w.heap.size ≤ k ∧ k < w.heap.size + n) x Y) :
    RetD A w m (.returned (dv m u1 u2 u3 u4 u5)) Y := by
  refine ⟨u1, u2, u3, u4, u5, rfl, ?_, hx.trans hk fun j hj h => absurd h.1 (Nat.not_le.2 hj)⟩
  refine (hD.keep hk fun j _ ha hs => ?_).mono fun j hj ha => ?_
  · rcases ha with ha | ha
    · exact absurd hs.1 (Nat.not_le.2 ha.2)
    · exact absurd hs.2 (Nat.not_lt.2 ha)
  · rcases ha with ha | ha
    · exact .inl ha.1
    · exact .inr ⟨by omega, hj⟩

set_option maxRecDepth 100000 in
set_option maxHeartbeats 2000000 in
theorem rwait_any {A : Nat → Prop} {w : World} {v1 v2 v3 v4 v5 : Value} {m : M} {n N n2 : Nat} (o : Dk.Op) (h : DV A w v1 v2 v3 v4 v5 m) (hs : Small m n N) (hf : Files m n2) (hn : n ≤ 100000) (hN : N ≤ 1000000) (hn2 : n2 ≤ 1000000)
    (hk1 : o.kind = 1 → o.file < m.is.length ∧ o.at_ ≤ 1000000 ∧ o.b.length ≤ 1000000) :
    Calls Tryz.prog 74 #[dv m v1 v2 v3 v4 v5, opV o] w (RetD A w (waitD m o)) := by
  replace h := h.mono (B := fun k => A k ∧ k < w.heap.size) fun j hj ha => ⟨ha, hj⟩
  have hwl : m.wait.length ≤ 100000 := by have := hs.S; omega
  have hLl : m.L.length ≤ 100000 := by have := hs.L; omega
  obtain ⟨kind, file, at_, b, frm, to⟩ := o
  obtain ⟨a1, d1, a2, d2, a3, d3, a4, d4, a5, d5, rfl, rfl, rfl, rfl, rfl⟩ := h.shape
  unfold opV dv
  simp only at *
  go_enter Tryz.func74, Tryz.ntmps74
  go_wp2_with (first | (at_builtin; refine wl_append rfl _ _ _ _ rfl _ _ rfl rfl ?_) | (at_make; refine wl_make rfl _ _ _ rfl _ _ rfl rfl ?_) | (at_mapUpdate; refine wl_mapUpdate rfl _ _ _ _ rfl _ _ _ rfl rfl rfl ?_) | (at_lookup; refine wl_lookup rfl _ _ _ _ rfl _ _ rfl rfl ?_) | (at_delete; refine wl_delete rfl _ _ _ _ rfl _ _ rfl rfl ?_) | (with_reducible refine wl_len rfl _ _ rfl _ rfl ?_) | (with_reducible refine wl_range rfl _ _ rfl _ rfl ?_) | (with_reducible refine wl_next rfl _ rfl _ rfl ?_) | (with_reducible refine wl_copy rfl _ _ _ _ rfl _ _ rfl rfl ?_) | (with_reducible refine wl_max rfl _ _ _ _ rfl _ _ rfl rfl ?_) | (with_reducible refine wl_min rfl _ _ _ _ rfl _ _ rfl rfl ?_))
  have hkW1 : Keep No w (w.alloc (.cells #[.int .i64 m.room, .slice a1 m.is.length d1, .slice a2 m.sure.length d2, .slice a3 m.L.length d3, .slice a4 m.S.length d4, .slice a5 m.wait.length d5, .bool m.off, .int .i64 m.cut] 30)) := (Keep.refl _ _).alloc _
  have hBW1 : Blk (w.alloc (.cells #[.int .i64 m.room, .slice a1 m.is.length d1, .slice a2 m.sure.length d2, .slice a3 m.L.length d3, .slice a4 m.S.length d4, .slice a5 m.wait.length d5, .bool m.off, .int .i64 m.cut] 30)) w.heap.size #[.int .i64 m.room, .slice a1 m.is.length d1, .slice a2 m.sure.length d2, .slice a3 m.L.length d3, .slice a4 m.S.length d4, .slice a5 m.wait.length d5, .bool m.off, .int .i64 m.cut] 30 := Blk.new _ _ _
  have hzW1 : (w.alloc (.cells #[.int .i64 m.room, .slice a1 m.is.length d1, .slice a2 m.sure.length d2, .slice a3 m.L.length d3, .slice a4 m.S.length d4, .slice a5 m.wait.length d5, .bool m.off, .int .i64 m.cut] 30)).heap.size = w.heap.size + 1 := World.size_alloc _ _
  generalize w.alloc (.cells #[.int .i64 m.room, .slice a1 m.is.length d1, .slice a2 m.sure.length d2, .slice a3 m.L.length d3, .slice a4 m.S.length d4, .slice a5 m.wait.length d5, .bool m.off, .int .i64 m.cut] 30) = W1 at *
  have hkW2 : Keep No W1 (W1.alloc (.cells #[.int .i64 kind, .int .i64 file, .int .i64 at_, .string ⟨b.toArray⟩, .string ⟨frm.toArray⟩, .string ⟨to.toArray⟩] 100)) := (Keep.refl _ _).alloc _
  have hBW2 : Blk (W1.alloc (.cells #[.int .i64 kind, .int .i64 file, .int .i64 at_, .string ⟨b.toArray⟩, .string ⟨frm.toArray⟩, .string ⟨to.toArray⟩] 100)) W1.heap.size #[.int .i64 kind, .int .i64 file, .int .i64 at_, .string ⟨b.toArray⟩, .string ⟨frm.toArray⟩, .string ⟨to.toArray⟩] 100 := Blk.new _ _ _
  have hzW2 : (W1.alloc (.cells #[.int .i64 kind, .int .i64 file, .int .i64 at_, .string ⟨b.toArray⟩, .string ⟨frm.toArray⟩, .string ⟨to.toArray⟩] 100)).heap.size = W1.heap.size + 1 := World.size_alloc _ _
  generalize W1.alloc (.cells #[.int .i64 kind, .int .i64 file, .int .i64 at_, .string ⟨b.toArray⟩, .string ⟨frm.toArray⟩, .string ⟨to.toArray⟩] 100) = W2 at *
  have hkW : Keep No W2 (W2.alloc (.cells #[.int .i64 0, .slice none 0 0, .slice none 0 0, .slice none 0 0, .slice none 0 0, .slice none 0 0, .bool false, .int .i64 0] 30)) := (Keep.refl _ _).alloc _
  have hBW : Blk (W2.alloc (.cells #[.int .i64 0, .slice none 0 0, .slice none 0 0, .slice none 0 0, .slice none 0 0, .slice none 0 0, .bool false, .int .i64 0] 30)) W2.heap.size #[.int .i64 0, .slice none 0 0, .slice none 0 0, .slice none 0 0, .slice none 0 0, .slice none 0 0, .bool false, .int .i64 0] 30 := Blk.new _ _ _
  have hzW : (W2.alloc (.cells #[.int .i64 0, .slice none 0 0, .slice none 0 0, .slice none 0 0, .slice none 0 0, .slice none 0 0, .bool false, .int .i64 0] 30)).heap.size = W2.heap.size + 1 := World.size_alloc _ _
  generalize W2.alloc (.cells #[.int .i64 0, .slice none 0 0, .slice none 0 0, .slice none 0 0, .slice none 0 0, .slice none 0 0, .bool false, .int .i64 0] 30) = W at *
  rw [hzW1] at hBW2
  rw [hzW2, hzW1] at hBW
  have hkW2' := hkW1.trans' hkW2
  replace hBW1 := (hBW1.keep hkW2 fun h => h).keep hkW fun h => h
  replace hBW2 := hBW2.keep hkW fun h => h
  replace hkW := hkW2'.trans' hkW
  have h' := h.no hkW
  have hzz : W.heap.size = w.heap.size + 3 := by omega
  clear hkW1 hkW2 hkW2' hzW1 hzW2 hzW
  clear W1 W2
  refine rg_cat _ 72 Tryz.underlying28 info_op rfl (by decide) h'.W (fun x => op_one x) (FlO.nil (base := W.heap.size)) (by simpa using Nat.le_trans hwl (by decide)) (by decide) (Nat.le_refl _) ?_
  intro v' x1 ho hk _
  rw [List.nil_append] at ho
  replace hk : Keep No W x1 := hk.mono fun j _ h => by cases h
  replace hBW := hBW.keep hk fun h => h
  replace hBW1 := hBW1.keep hk fun h => h
  replace hBW2 := hBW2.keep hk fun h => h
  have c1 := hBW2.cell
  obtain ⟨b5, cc5, rfl, _, _⟩ := ho.fl.shape
  go_wp2_with (first | (at_builtin; refine wl_append rfl _ _ _ _ rfl _ _ rfl rfl ?_) | (at_make; refine wl_make rfl _ _ _ rfl _ _ rfl rfl ?_) | (at_mapUpdate; refine wl_mapUpdate rfl _ _ _ _ rfl _ _ _ rfl rfl rfl ?_) | (at_lookup; refine wl_lookup rfl _ _ _ _ rfl _ _ rfl rfl ?_) | (at_delete; refine wl_delete rfl _ _ _ _ rfl _ _ rfl rfl ?_) | (with_reducible refine wl_len rfl _ _ rfl _ rfl ?_) | (with_reducible refine wl_range rfl _ _ rfl _ rfl ?_) | (with_reducible refine wl_next rfl _ rfl _ rfl ?_) | (with_reducible refine wl_copy rfl _ _ _ _ rfl _ _ rfl rfl ?_) | (with_reducible refine wl_max rfl _ _ _ _ rfl _ _ rfl rfl ?_) | (with_reducible refine wl_min rfl _ _ _ _ rfl _ _ rfl rfl ?_))
  refine rg_push _ 72 Tryz.underlying28 info_op rfl (by decide) (enc := encOp) (x := (⟨kind, file, at_, b, frm, to⟩ : Dk.Op)) rfl rfl (op_one _) ho (by omega) (by decide) hk.size ?_
  intro v' x2 ho2 hk2 _
  obtain ⟨b6, cc6, e6, _, _⟩ := ho2.fl.shape
  rw [List.length_append, List.length_singleton] at e6
  subst e6
  replace hBW := hBW.own ho hk2 (by omega)
  replace hBW1 := hBW1.own ho hk2 (by omega)
  replace hBW2 := hBW2.own ho hk2 (by omega)
  replace hk := hk.own ho hk2
  clear hk2 ho c1
  have c1 := hBW1.cell
  have f1 := hBW1.frozen
  have c2 := hBW2.cell
  have c3 := hBW.cell
  have f3 := hBW.frozen
  have hkx := hkW.trans' hk
  have h2 := h'.no hk
  by_cases hkd : kind = 1
  · subst hkd
    obtain ⟨hfl, hat, hbl⟩ := hk1 rfl
    obtain ⟨g, off, cap, e, hgA, hg, _, _, hcell⟩ := h2.is.at (fun _ => rfl) hfl
    cases e
    have q := hcell 0 _ rfl
    simp only [Nat.mul_one, Nat.add_zero] at q
    have hsl : m.is[file].length ≤ 1000000 := by have := hs.is file; rw [List.getD_eq_getElem?_getD, List.getElem?_eq_getElem hfl, Option.getD_some] at this; omega
    have hXe : m.is.getD file [] = m.is[file] := by rw [List.getD_eq_getElem?_getD, List.getElem?_eq_getElem hfl, Option.getD_some]
    generalize m.is[file] = X at *
    clear hcell hk1
    have hw : waitD m ⟨1, file, at_, b, frm, to⟩ = { m with wait := m.wait ++ [⟨1, file, at_, b, frm, to⟩], is := putF m.is file (laidB X at_ b) } := by simp only [waitD, if_true, hXe]
    have HW := Lib.hid hw
    have hxs := hkx.size
    have hxs2 := hk.size
    clear hw hXe
    go_wp2_with (first | (at_builtin; refine wl_append rfl _ _ _ _ rfl _ _ rfl rfl ?_) | (at_make; refine wl_make rfl _ _ _ rfl _ _ rfl rfl ?_) | (at_mapUpdate; refine wl_mapUpdate rfl _ _ _ _ rfl _ _ _ rfl rfl rfl ?_) | (at_lookup; refine wl_lookup rfl _ _ _ _ rfl _ _ rfl rfl ?_) | (at_delete; refine wl_delete rfl _ _ _ _ rfl _ _ rfl rfl ?_) | (with_reducible refine wl_len rfl _ _ rfl _ rfl ?_) | (with_reducible refine wl_range rfl _ _ rfl _ rfl ?_) | (with_reducible refine wl_next rfl _ rfl _ rfl ?_) | (with_reducible refine wl_copy rfl _ _ _ _ rfl _ _ rfl rfl ?_) | (with_reducible refine wl_max rfl _ _ _ _ rfl _ _ rfl rfl ?_) | (with_reducible refine wl_min rfl _ _ _ _ rfl _ _ rfl rfl ?_))
    have hk3 : Keep (fun k => w.heap.size ≤ k ∧ k < w.heap.size + 3) x2 (x2.setCell ⟨w.heap.size, 5, none⟩ (.slice b6 (m.wait.length + 1) cc6)) := (Keep.refl _ _).setCell (p := ⟨w.heap.size, 5, none⟩) (fun _ => ⟨Nat.le_refl _, Nat.lt_add_of_pos_right (by decide)⟩) _
    replace hBW1 : Blk (x2.setCell ⟨w.heap.size, 5, none⟩ (.slice b6 (m.wait.length + 1) cc6)) w.heap.size #[.int .i64 m.room, .slice (some ⟨g, off, none⟩) m.is.length d1, .slice a2 m.sure.length d2, .slice a3 m.L.length d3, .slice a4 m.S.length d4, (.slice b6 (m.wait.length + 1) cc6), .bool m.off, .int .i64 m.cut] 30 := hBW1.set (i := 5) _
    replace hBW := hBW.set_other (a := ⟨w.heap.size, 5, none⟩) (by show w.heap.size + 1 + 1 ≠ w.heap.size; omega) (.slice b6 (m.wait.length + 1) cc6)
    replace hBW2 := hBW2.set_other (a := ⟨w.heap.size, 5, none⟩) (by show w.heap.size + 1 ≠ w.heap.size; omega) (.slice b6 (m.wait.length + 1) cc6)
    have h3 := h2.keep hk3 fun j _ ha hs => by have := ha.2; have := hs.1; omega
    replace ho2 := ho2.same (w' := x2.setCell ⟨w.heap.size, 5, none⟩ (.slice b6 (m.wait.length + 1) cc6)) fun g hg => hk3.block g (World.ownsRow.lt ho2 g hg).2 fun e => by have := (World.ownsRow.lt ho2 g hg).1; have := e.2; omega
    replace hkx := hkx.new (p := ⟨w.heap.size, 5, none⟩) (Nat.le_refl _) (.slice b6 (m.wait.length + 1) cc6)
    replace q : (x2.setCell ⟨w.heap.size, 5, none⟩ (.slice b6 (m.wait.length + 1) cc6)).cell? ⟨g, off + file, none⟩ = some (.string ⟨X.toArray⟩) := (hk3.cell (p := ⟨g, off + file, none⟩) hg fun h => by have := hgA.2; have := h.1; simp at this; omega).trans q
    replace hg : g < (x2.setCell ⟨w.heap.size, 5, none⟩ (.slice b6 (m.wait.length + 1) cc6)).heap.size := Nat.lt_of_lt_of_le hg hk3.size
    have hz3 := hk3.size
    clear c1 c2 c3 f1 f3 h2 hk hk3 hkW h h'
    generalize x2.setCell ⟨w.heap.size, 5, none⟩ (.slice b6 (m.wait.length + 1) cc6) = x3 at *
    have c1 := hBW1.cell
    have c2 := hBW2.cell
    have hfl' : (file : Int) < (m.is.length : Int) := by omega
    refine wp_region_sig (fun w' => (∀ i, w'.cell? ⟨w.heap.size, i, none⟩ = #[.int .i64 m.room, .slice (some ⟨g, off, none⟩) m.is.length d1, .slice a2 m.sure.length d2, .slice a3 m.L.length d3, .slice a4 m.S.length d4, (.slice b6 (m.wait.length + 1) cc6), .bool m.off, .int .i64 m.cut][i]?) ∧ (∀ i, w'.cell? ⟨w.heap.size + 1, i, none⟩ = #[.int .i64 (1 : Nat), .int .i64 file, .int .i64 at_, .string ⟨b.toArray⟩, .string ⟨frm.toArray⟩, .string ⟨to.toArray⟩][i]?) ∧ w'.cell? ⟨g, off + file, none⟩ = some (.string ⟨X.toArray⟩)) (fun j => decide (j ≤ 16)) [(0, true), (1, true), (2, true), (3, true), (4, true), (5, true), (6, true), (7, true), (8, true), (9, true), (10, true), (11, true), (12, true), (13, true), (14, false), (15, false), (16, false), (17, false)] (by kernel_rfl) (by kernel_rfl) (by intro c a d v w h; cases d <;> exact h) ⟨c1, c2, q⟩ ?_
    apply sig_still (o := ⟨some 18, _, _, _, _, _⟩) rfl rfl
    · intro w' hS
      obtain ⟨q1, q2, q3⟩ := hS
      first | (go_simp; done) | (go_simp; rfl) | rfl
    go_frame
    apply sig_still (o := ⟨some 19, _, _, _, _, _⟩) rfl rfl
    · intro w' hS
      obtain ⟨q1, q2, q3⟩ := hS
      first | (go_simp; done) | (go_simp; rfl) | rfl
    go_frame
    apply sig_still (o := ⟨some 20, _, _, _, _, _⟩) rfl rfl
    · intro w' hS
      obtain ⟨q1, q2, q3⟩ := hS
      first | (go_simp; done) | (go_simp; rfl) | rfl
    go_frame
    apply sig_still (o := ⟨some 21, _, _, _, _, _⟩) rfl rfl
    · intro w' hS
      obtain ⟨q1, q2, q3⟩ := hS
      first | (go_simp; done) | (go_simp; rfl) | rfl
    go_frame
    apply sig_still (o := ⟨some 22, _, _, _, _, _⟩) rfl rfl
    · intro w' hS
      obtain ⟨q1, q2, q3⟩ := hS
      first | (go_simp; done) | (go_simp; rfl) | rfl
    go_frame
    apply sig_still (o := ⟨some 23, _, _, _, _, _⟩) rfl rfl
    · intro w' hS
      obtain ⟨q1, q2, q3⟩ := hS
      first | (go_simp; done) | (go_simp; rfl) | rfl
    go_frame
    apply sig_still (o := ⟨some 24, _, _, _, _, _⟩) rfl rfl
    · intro w' hS
      obtain ⟨q1, q2, q3⟩ := hS
      first | (go_simp; done) | (go_simp; rfl) | rfl
    go_frame
    apply sig_still (o := ⟨some 25, _, _, _, _, _⟩) rfl rfl
    · intro w' hS
      obtain ⟨q1, q2, q3⟩ := hS
      first | (go_simp; done) | (go_simp; rfl) | rfl
    go_frame
    apply sig_still (o := ⟨some 26, _, _, _, _, _⟩) rfl rfl
    · intro w' hS
      obtain ⟨q1, q2, q3⟩ := hS
      first | (go_simp; done) | (go_simp; rfl) | rfl
    go_frame
    apply sig_still (o := ⟨some 27, _, _, _, _, _⟩) rfl rfl
    · intro w' hS
      obtain ⟨q1, q2, q3⟩ := hS
      first | (go_simp; done) | (go_simp; rfl) | rfl
    go_frame
    apply sig_still (o := ⟨some 28, _, _, _, _, _⟩) rfl rfl
    · intro w' hS
      obtain ⟨q1, q2, q3⟩ := hS
      first | (go_simp; done) | (go_simp; rfl) | rfl
    go_frame
    apply sig_still (o := ⟨some 29, _, _, _, _, _⟩) rfl rfl
    · intro w' hS
      obtain ⟨q1, q2, q3⟩ := hS
      first | (go_simp; done) | (go_simp; rfl) | rfl
    go_frame
    apply sig_still (o := ⟨some 30, _, _, _, _, _⟩) rfl rfl
    · intro w' hS
      obtain ⟨q1, q2, q3⟩ := hS
      first | (go_simp; done) | (go_simp; rfl) | rfl
    go_frame
    apply sig_still (o := ⟨some 31, _, _, _, _, _⟩) rfl rfl
    · intro w' hS
      obtain ⟨q1, q2, q3⟩ := hS
      first | (go_simp; done) | (go_simp; rfl) | rfl
    go_frame
    refine sig_eff (o := ⟨some 32, _, _, _, _, _⟩) rfl rfl (fun K hKe => ?_)
    go_wp2_with (first | (at_builtin; refine wl_append rfl _ _ _ _ rfl _ _ rfl rfl ?_) | (at_make; refine wl_make rfl _ _ _ rfl _ _ rfl rfl ?_) | (at_mapUpdate; refine wl_mapUpdate rfl _ _ _ _ rfl _ _ _ rfl rfl rfl ?_) | (at_lookup; refine wl_lookup rfl _ _ _ _ rfl _ _ rfl rfl ?_) | (at_delete; refine wl_delete rfl _ _ _ _ rfl _ _ rfl rfl ?_) | (with_reducible refine wl_len rfl _ _ rfl _ rfl ?_) | (with_reducible refine wl_range rfl _ _ rfl _ rfl ?_) | (with_reducible refine wl_next rfl _ rfl _ rfl ?_) | (with_reducible refine wl_copy rfl _ _ _ _ rfl _ _ rfl rfl ?_) | (with_reducible refine wl_max rfl _ _ _ _ rfl _ _ rfl rfl ?_) | (with_reducible refine wl_min rfl _ _ _ _ rfl _ _ rfl rfl ?_))
    refine (rlaid_any X at_ b hsl hat hbl).mono ?_
    rintro e x4 ⟨rfl, hk4⟩
    replace hk4 : Keep No x3 x4 := ⟨hk4.os, hk4.tape, hk4.output, hk4.size, hk4.block⟩
    go_wp2_with (first | (at_builtin; refine wl_append rfl _ _ _ _ rfl _ _ rfl rfl ?_) | (at_make; refine wl_make rfl _ _ _ rfl _ _ rfl rfl ?_) | (at_mapUpdate; refine wl_mapUpdate rfl _ _ _ _ rfl _ _ _ rfl rfl rfl ?_) | (at_lookup; refine wl_lookup rfl _ _ _ _ rfl _ _ rfl rfl ?_) | (at_delete; refine wl_delete rfl _ _ _ _ rfl _ _ rfl rfl ?_) | (with_reducible refine wl_len rfl _ _ rfl _ rfl ?_) | (with_reducible refine wl_range rfl _ _ rfl _ rfl ?_) | (with_reducible refine wl_next rfl _ rfl _ rfl ?_) | (with_reducible refine wl_copy rfl _ _ _ _ rfl _ _ rfl rfl ?_) | (with_reducible refine wl_max rfl _ _ _ _ rfl _ _ rfl rfl ?_) | (with_reducible refine wl_min rfl _ _ _ _ rfl _ _ rfl rfl ?_))
    refine ⟨fun _ => ⟨(hBW1.keep hk4 fun h => h).cell, (hBW2.keep hk4 fun h => h).cell, (hk4.cell (p := ⟨g, off + file, none⟩) hg fun h => h).trans q⟩, ?_⟩
    refine sig_eff (o := ⟨some 33, _, _, _, _, _⟩) rfl rfl (fun K hKe => ?_)
    go_wp2_with (first | (at_builtin; refine wl_append rfl _ _ _ _ rfl _ _ rfl rfl ?_) | (at_make; refine wl_make rfl _ _ _ rfl _ _ rfl rfl ?_) | (at_mapUpdate; refine wl_mapUpdate rfl _ _ _ _ rfl _ _ _ rfl rfl rfl ?_) | (at_lookup; refine wl_lookup rfl _ _ _ _ rfl _ _ rfl rfl ?_) | (at_delete; refine wl_delete rfl _ _ _ _ rfl _ _ rfl rfl ?_) | (with_reducible refine wl_len rfl _ _ rfl _ rfl ?_) | (with_reducible refine wl_range rfl _ _ rfl _ rfl ?_) | (with_reducible refine wl_next rfl _ rfl _ rfl ?_) | (with_reducible refine wl_copy rfl _ _ _ _ rfl _ _ rfl rfl ?_) | (with_reducible refine wl_max rfl _ _ _ _ rfl _ _ rfl rfl ?_) | (with_reducible refine wl_min rfl _ _ _ _ rfl _ _ rfl rfl ?_))
    refine (rput_any file (laidB X at_ b) (h3.no hk4).is (by have := hf.il; omega) hfl).mono ?_
    rintro e x5 ⟨v', rfl, hpt, hk5⟩
    obtain ⟨b7, cc7, e7, _, _⟩ := hpt.fl.shape
    rw [putF, List.length_set] at e7
    subst e7
    replace hBW1 := (hBW1.keep hk4 fun h => h).keep hk5 fun h => h
    replace hBW2 := (hBW2.keep hk4 fun h => h).keep hk5 fun h => h
    replace hBW := (hBW.keep hk4 fun h => h).keep hk5 fun h => h
    have q5 := ((hk4.trans' hk5).cell (p := ⟨g, off + file, none⟩) hg fun h => h).trans q
    have c1 := hBW1.cell
    have c2 := hBW2.cell
    have c3 := hBW.cell
    have f1 := hBW1.frozen
    have f3 := hBW.frozen
    have h5 := h3.no (hk4.trans' hk5)
    replace ho2 := ho2.no (hk4.trans' hk5)
    replace hkx := hkx.trans' (hk4.trans' hk5)
    have hz4 := hk4.size
    go_wp2_with (first | (at_builtin; refine wl_append rfl _ _ _ _ rfl _ _ rfl rfl ?_) | (at_make; refine wl_make rfl _ _ _ rfl _ _ rfl rfl ?_) | (at_mapUpdate; refine wl_mapUpdate rfl _ _ _ _ rfl _ _ _ rfl rfl rfl ?_) | (at_lookup; refine wl_lookup rfl _ _ _ _ rfl _ _ rfl rfl ?_) | (at_delete; refine wl_delete rfl _ _ _ _ rfl _ _ rfl rfl ?_) | (with_reducible refine wl_len rfl _ _ rfl _ rfl ?_) | (with_reducible refine wl_range rfl _ _ rfl _ rfl ?_) | (with_reducible refine wl_next rfl _ rfl _ rfl ?_) | (with_reducible refine wl_copy rfl _ _ _ _ rfl _ _ rfl rfl ?_) | (with_reducible refine wl_max rfl _ _ _ _ rfl _ _ rfl rfl ?_) | (with_reducible refine wl_min rfl _ _ _ _ rfl _ _ rfl rfl ?_))
    refine ⟨fun _ => ⟨c1, c2, q5⟩, ?_⟩
    refine sig_eff (o := ⟨some 34, _, _, _, _, _⟩) rfl rfl (fun K hKe => ?_)
    go_wp2_with (first | (at_builtin; refine wl_append rfl _ _ _ _ rfl _ _ rfl rfl ?_) | (at_make; refine wl_make rfl _ _ _ rfl _ _ rfl rfl ?_) | (at_mapUpdate; refine wl_mapUpdate rfl _ _ _ _ rfl _ _ _ rfl rfl rfl ?_) | (at_lookup; refine wl_lookup rfl _ _ _ _ rfl _ _ rfl rfl ?_) | (at_delete; refine wl_delete rfl _ _ _ _ rfl _ _ rfl rfl ?_) | (with_reducible refine wl_len rfl _ _ rfl _ rfl ?_) | (with_reducible refine wl_range rfl _ _ rfl _ rfl ?_) | (with_reducible refine wl_next rfl _ rfl _ rfl ?_) | (with_reducible refine wl_copy rfl _ _ _ _ rfl _ _ rfl rfl ?_) | (with_reducible refine wl_max rfl _ _ _ _ rfl _ _ rfl rfl ?_) | (with_reducible refine wl_min rfl _ _ _ _ rfl _ _ rfl rfl ?_))
    refine ⟨fun _ => ⟨c1, c2, q5⟩, ?_⟩
    refine sig_eff (o := ⟨none, _, _, _, _, _⟩) rfl rfl (fun K hKe => ?_)
    go_wp2_with (first | (at_builtin; refine wl_append rfl _ _ _ _ rfl _ _ rfl rfl ?_) | (at_make; refine wl_make rfl _ _ _ rfl _ _ rfl rfl ?_) | (at_mapUpdate; refine wl_mapUpdate rfl _ _ _ _ rfl _ _ _ rfl rfl rfl ?_) | (at_lookup; refine wl_lookup rfl _ _ _ _ rfl _ _ rfl rfl ?_) | (at_delete; refine wl_delete rfl _ _ _ _ rfl _ _ rfl rfl ?_) | (with_reducible refine wl_len rfl _ _ rfl _ rfl ?_) | (with_reducible refine wl_range rfl _ _ rfl _ rfl ?_) | (with_reducible refine wl_next rfl _ rfl _ rfl ?_) | (with_reducible refine wl_copy rfl _ _ _ _ rfl _ _ rfl rfl ?_) | (with_reducible refine wl_max rfl _ _ _ _ rfl _ _ rfl rfl ?_) | (with_reducible refine wl_min rfl _ _ _ _ rfl _ _ rfl rfl ?_))
    refine ⟨fun h => (by cases h), sig_nil ?_⟩
    go_wp2_with (first | (at_builtin; refine wl_append rfl _ _ _ _ rfl _ _ rfl rfl ?_) | (at_make; refine wl_make rfl _ _ _ rfl _ _ rfl rfl ?_) | (at_mapUpdate; refine wl_mapUpdate rfl _ _ _ _ rfl _ _ _ rfl rfl rfl ?_) | (at_lookup; refine wl_lookup rfl _ _ _ _ rfl _ _ rfl rfl ?_) | (at_delete; refine wl_delete rfl _ _ _ _ rfl _ _ rfl rfl ?_) | (with_reducible refine wl_len rfl _ _ rfl _ rfl ?_) | (with_reducible refine wl_range rfl _ _ rfl _ rfl ?_) | (with_reducible refine wl_next rfl _ rfl _ rfl ?_) | (with_reducible refine wl_copy rfl _ _ _ _ rfl _ _ rfl rfl ?_) | (with_reducible refine wl_max rfl _ _ _ _ rfl _ _ rfl rfl ?_) | (with_reducible refine wl_min rfl _ _ _ _ rfl _ _ rfl rfl ?_) | (with_reducible refine wl_stAgg rfl _ _ _ rfl _ _ rfl rfl ?_))
    have hk6 : Keep (fun k => w.heap.size ≤ k ∧ k < w.heap.size + 3) x5 (x5.setCell ⟨w.heap.size, 1, none⟩ (.slice b7 m.is.length cc7)) := (Keep.refl _ _).setCell (p := ⟨w.heap.size, 1, none⟩) (fun _ => ⟨Nat.le_refl _, Nat.lt_add_of_pos_right (by decide)⟩) _
    replace hBW := hBW.set_other (a := ⟨w.heap.size, 1, none⟩) (by show w.heap.size + 1 + 1 ≠ w.heap.size; omega) (.slice b7 m.is.length cc7)
    refine rg_stAgg hBW (by kernel_rfl) (by rfl) (by simp [Value.oneCell']) ?_
    intro x6 hB6 hk7 _
    go_wp2_with (first | (at_builtin; refine wl_append rfl _ _ _ _ rfl _ _ rfl rfl ?_) | (at_make; refine wl_make rfl _ _ _ rfl _ _ rfl rfl ?_) | (at_mapUpdate; refine wl_mapUpdate rfl _ _ _ _ rfl _ _ _ rfl rfl rfl ?_) | (at_lookup; refine wl_lookup rfl _ _ _ _ rfl _ _ rfl rfl ?_) | (at_delete; refine wl_delete rfl _ _ _ _ rfl _ _ rfl rfl ?_) | (with_reducible refine wl_len rfl _ _ rfl _ rfl ?_) | (with_reducible refine wl_range rfl _ _ rfl _ rfl ?_) | (with_reducible refine wl_next rfl _ rfl _ rfl ?_) | (with_reducible refine wl_copy rfl _ _ _ _ rfl _ _ rfl rfl ?_) | (with_reducible refine wl_max rfl _ _ _ _ rfl _ _ rfl rfl ?_) | (with_reducible refine wl_min rfl _ _ _ _ rfl _ _ rfl rfl ?_) | (with_reducible refine wl_stAgg rfl _ _ _ rfl _ _ rfl rfl ?_))
    refine ret_blk rfl rfl hB6 Tryz.underlying30 rfl (by kernel_rfl) rfl ?_
    rw [HW.out]
    refine RetD.fin 3 (m := { m with wait := m.wait ++ [(⟨1, file, at_, b, frm, to⟩ : Dk.Op)], is := putF m.is file (laidB X at_ b) }) hkx ⟨?_, h5.sure.mono fun _ _ h => .inl h, h5.L.mono fun _ _ h => .inl h, h5.S.mono fun _ _ h => .inl h, ?_⟩ (hk6.trans hk7 fun j _ e => ⟨by omega, by omega⟩)
    · have := hpt.fl
      unfold Fl putF at this ⊢
      rw [List.length_set] at this ⊢
      exact Sl.mono this fun j _ h => .inr (by have := h.1; omega)
    · have := ho2.fl
      unfold Fl at this ⊢
      rw [List.length_append] at this ⊢
      exact Sl.mono this fun j _ h => .inr (by have := h.1; omega)
  · have b1 : ((kind : Int) == 1) = false := by simp; omega
    have hw : waitD m ⟨kind, file, at_, b, frm, to⟩ = { m with wait := m.wait ++ [⟨kind, file, at_, b, frm, to⟩], L := namesOp m.L ⟨kind, file, at_, b, frm, to⟩ } := by simp [waitD, hkd]
    have HW := Lib.hid hw
    have hxs := hkx.size
    have hxs2 := hk.size
    clear hk1 hw
    go_wp2_with (first | (at_builtin; refine wl_append rfl _ _ _ _ rfl _ _ rfl rfl ?_) | (at_make; refine wl_make rfl _ _ _ rfl _ _ rfl rfl ?_) | (at_mapUpdate; refine wl_mapUpdate rfl _ _ _ _ rfl _ _ _ rfl rfl rfl ?_) | (at_lookup; refine wl_lookup rfl _ _ _ _ rfl _ _ rfl rfl ?_) | (at_delete; refine wl_delete rfl _ _ _ _ rfl _ _ rfl rfl ?_) | (with_reducible refine wl_len rfl _ _ rfl _ rfl ?_) | (with_reducible refine wl_range rfl _ _ rfl _ rfl ?_) | (with_reducible refine wl_next rfl _ rfl _ rfl ?_) | (with_reducible refine wl_copy rfl _ _ _ _ rfl _ _ rfl rfl ?_) | (with_reducible refine wl_max rfl _ _ _ _ rfl _ _ rfl rfl ?_) | (with_reducible refine wl_min rfl _ _ _ _ rfl _ _ rfl rfl ?_))
    have hk3 : Keep (fun k => w.heap.size ≤ k ∧ k < w.heap.size + 3) x2 (x2.setCell ⟨w.heap.size, 5, none⟩ (.slice b6 (m.wait.length + 1) cc6)) := (Keep.refl _ _).setCell (p := ⟨w.heap.size, 5, none⟩) (fun _ => ⟨Nat.le_refl _, Nat.lt_add_of_pos_right (by decide)⟩) _
    replace hBW1 : Blk (x2.setCell ⟨w.heap.size, 5, none⟩ (.slice b6 (m.wait.length + 1) cc6)) w.heap.size #[.int .i64 m.room, .slice a1 m.is.length d1, .slice a2 m.sure.length d2, .slice a3 m.L.length d3, .slice a4 m.S.length d4, (.slice b6 (m.wait.length + 1) cc6), .bool m.off, .int .i64 m.cut] 30 := hBW1.set (i := 5) _
    replace hBW := hBW.set_other (a := ⟨w.heap.size, 5, none⟩) (by show w.heap.size + 1 + 1 ≠ w.heap.size; omega) (.slice b6 (m.wait.length + 1) cc6)
    have h3 := h2.keep hk3 fun j _ ha hs => by have := ha.2; have := hs.1; omega
    replace ho2 := ho2.same (w' := x2.setCell ⟨w.heap.size, 5, none⟩ (.slice b6 (m.wait.length + 1) cc6)) fun g hg => hk3.block g (World.ownsRow.lt ho2 g hg).2 fun e => by have := (World.ownsRow.lt ho2 g hg).1; have := e.2; omega
    replace hkx := hkx.new (p := ⟨w.heap.size, 5, none⟩) (Nat.le_refl _) (.slice b6 (m.wait.length + 1) cc6)
    have hz3 := hk3.size
    clear c1 c2 c3 f1 f3 hBW2 h2 hk hk3 hkW h h'
    generalize x2.setCell ⟨w.heap.size, 5, none⟩ (.slice b6 (m.wait.length + 1) cc6) = x3 at *
    refine (rnames_any ⟨kind, file, at_, b, frm, to⟩ h3.L (by omega)).mono ?_
    rintro e x4 ⟨v', rfl, hnm, hk4⟩
    obtain ⟨b7, cc7, rfl, _, _⟩ := hnm.shape
    replace hBW1 := hBW1.keep hk4 fun h => h
    replace hBW := hBW.keep hk4 fun h => h
    have c1 := hBW1.cell
    have f1 := hBW1.frozen
    have c3 := hBW.cell
    have f3 := hBW.frozen
    have hxs := hkx.size
    have h4 := h3.no hk4
    replace ho2 := ho2.no hk4
    go_wp2_with (first | (at_builtin; refine wl_append rfl _ _ _ _ rfl _ _ rfl rfl ?_) | (at_make; refine wl_make rfl _ _ _ rfl _ _ rfl rfl ?_) | (at_mapUpdate; refine wl_mapUpdate rfl _ _ _ _ rfl _ _ _ rfl rfl rfl ?_) | (at_lookup; refine wl_lookup rfl _ _ _ _ rfl _ _ rfl rfl ?_) | (at_delete; refine wl_delete rfl _ _ _ _ rfl _ _ rfl rfl ?_) | (with_reducible refine wl_len rfl _ _ rfl _ rfl ?_) | (with_reducible refine wl_range rfl _ _ rfl _ rfl ?_) | (with_reducible refine wl_next rfl _ rfl _ rfl ?_) | (with_reducible refine wl_copy rfl _ _ _ _ rfl _ _ rfl rfl ?_) | (with_reducible refine wl_max rfl _ _ _ _ rfl _ _ rfl rfl ?_) | (with_reducible refine wl_min rfl _ _ _ _ rfl _ _ rfl rfl ?_) | (with_reducible refine wl_stAgg rfl _ _ _ rfl _ _ rfl rfl ?_))
    have hk5 : Keep (fun k => w.heap.size ≤ k ∧ k < w.heap.size + 3) x4 (x4.setCell ⟨w.heap.size, 3, none⟩ (.slice b7 (namesOp m.L ⟨kind, file, at_, b, frm, to⟩).length cc7)) := (Keep.refl _ _).setCell (p := ⟨w.heap.size, 3, none⟩) (fun _ => ⟨Nat.le_refl _, Nat.lt_add_of_pos_right (by decide)⟩) _
    replace hBW := hBW.set_other (a := ⟨w.heap.size, 3, none⟩) (by show w.heap.size + 1 + 1 ≠ w.heap.size; omega) (.slice b7 (namesOp m.L ⟨kind, file, at_, b, frm, to⟩).length cc7)
    refine rg_stAgg hBW (by kernel_rfl) (by rfl) (by simp [Value.oneCell']) ?_
    intro x5 hB5 hk6 _
    go_wp2_with (first | (at_builtin; refine wl_append rfl _ _ _ _ rfl _ _ rfl rfl ?_) | (at_make; refine wl_make rfl _ _ _ rfl _ _ rfl rfl ?_) | (at_mapUpdate; refine wl_mapUpdate rfl _ _ _ _ rfl _ _ _ rfl rfl rfl ?_) | (at_lookup; refine wl_lookup rfl _ _ _ _ rfl _ _ rfl rfl ?_) | (at_delete; refine wl_delete rfl _ _ _ _ rfl _ _ rfl rfl ?_) | (with_reducible refine wl_len rfl _ _ rfl _ rfl ?_) | (with_reducible refine wl_range rfl _ _ rfl _ rfl ?_) | (with_reducible refine wl_next rfl _ rfl _ rfl ?_) | (with_reducible refine wl_copy rfl _ _ _ _ rfl _ _ rfl rfl ?_) | (with_reducible refine wl_max rfl _ _ _ _ rfl _ _ rfl rfl ?_) | (with_reducible refine wl_min rfl _ _ _ _ rfl _ _ rfl rfl ?_) | (with_reducible refine wl_stAgg rfl _ _ _ rfl _ _ rfl rfl ?_))
    refine ret_blk rfl rfl hB5 Tryz.underlying30 rfl (by kernel_rfl) rfl ?_
    rw [HW.out]
    refine RetD.fin 3 (m := { m with wait := m.wait ++ [(⟨kind, file, at_, b, frm, to⟩ : Dk.Op)], L := namesOp m.L ⟨kind, file, at_, b, frm, to⟩ }) (hkx.trans' hk4) ⟨h4.is.mono fun _ _ h => .inl h, h4.sure.mono fun _ _ h => .inl h, hnm.mono fun j _ h => ?_, h4.S.mono fun _ _ h => .inl h, ?_⟩ (hk5.trans hk6 fun j _ e => ⟨by omega, by omega⟩)
    · rcases h with h | h
      · exact .inl h
      · exact .inr (by omega)
    · have := ho2.fl
      unfold Fl at this ⊢
      rw [List.length_append] at this ⊢
      exact Sl.mono this fun j _ h => .inr (by have := h.1; omega)
end Go.Proofs.YtkmoomgmmhmaeaaGreat
