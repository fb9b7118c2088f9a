/- image.reader: at, loaded. image.reader: shape. image.reader: named. No condition. -/
import Derived.Test.YtbnahidopemkiaaGreatSg5
import Derived.Test.YtbnahidopemkiaaGreatSy2
import Derived.Test.YtbnahidopemkiaaGreatDy1
import Derived.Test.YtbnahidopemkiaaGreatSy3
import Derived.Test.YtbnahidopemkiaaGreatRl2
set_option linter.unusedVariables false
set_option linter.unusedSimpArgs false
namespace Go.Proofs.YtbnahidopemkiaaGreat
open Go.RowKit Go.Dm Go.Dm.Oc Go.Dm.Ld
/-- a reader's cells -/
def rdB (h : Hd) (vs : Value) (so : BS) (vn vm vy vr vb vi : Value) (d0 d1 d2 d3 d4 d5 d6 : Nat) (vt : Value) : Array Value :=
  #[.int .i64 (h.kind : Int), .int .u64 (h.entry : Int), .int .u64 (h.segs : Int), .int .i64 (h.count : Int), vs, .string ⟨so.toArray⟩, vn, vm, vy, vr, vb, vi,
    .int .u64 (d0 : Int), .int .u64 (d1 : Int), .int .u64 (d2 : Int), .int .u64 (d3 : Int), .int .u64 (d4 : Int), .int .u64 (d5 : Int), .int .u64 (d6 : Int), vt]
section
variable {A : Nat → Prop} {w : World} {R : Nat} {h : Hd} {vs vn vm vy vr vb vi vt : Value} {so : BS} {d0 d1 d2 d3 d4 d5 d6 : Nat}
theorem place_ok (l : List Sg) (addr size : Nat) (n : Nat) (h2 : ∀ x ∈ l, x.ty = 1 → x.off + x.fi < n) (hn : 0 < n) : (placeM l addr size).2 < n := by
  induction l with
  | nil => exact hn
  | cons s r ih =>
    rw [placeM_cons]
    split
    · rename_i hh
      simp only [holdsB, decide_eq_true_eq] at hh
      have := h2 s (List.mem_cons_self ..) hh.2.1
      dsimp only
      omega
    · exact ih fun x hx => h2 x (List.mem_cons_of_mem _ hx)
set_option maxRecDepth 100000 in
set_option maxHeartbeats 4000000 in
theorem imat_any (l : List Sg) (b : BS) (addr size : Nat) (hB : Blk w R (rdB h vs so vn vm vy vr vb vi d0 d1 d2 d3 d4 d5 d6 vt) 147) (hl : Fl A w 7 encSg vs l) (hb : Bts A w vb b) (hbl : b.length ≤ 1099511627776)
    (hok : ∀ x ∈ l, SgOk x) (hok2 : ∀ x ∈ l, x.ty = 1 → x.off + x.fi < 18446744073709551616) (ha : addr < 18446744073709551616) (hz : size < 18446744073709551616) :
    Calls Tryz.prog 85 #[.pointer (some ⟨R, 0, none⟩), .int .u64 (addr : Int), .int .u64 (size : Int)] w fun e w' => ∃ v', e = .returned (.tuple #[v', .int .i64 ((atI b l addr size).1 : Nat)]) ∧ w'.ownsRow w.heap.size 5 1 v' (atI b l addr size).2.length ((atI b l addr size).2.map bv) ∧ Keep No w w' := by
  have c4 : w.cell? ⟨R, 4, none⟩ = some vs := hB.cell 4
  have hpl := sgplace_any (w := w) l addr size hl hok hok2 ha hz
  have hp2 := place_ok l addr size _ hok2 (by decide)
  have hH : atI b l addr size = if (placeM l addr size).1 = 0 then cutM b (placeM l addr size).2 size else ((placeM l addr size).1, []) := rfl
  have hcut : ∀ W, Keep No w W → Calls Tryz.prog 83 #[vb, .int .u64 ((placeM l addr size).2 : Int), .int .u64 (size : Int)] W fun e w' => ∃ v', e = .returned (.tuple #[v', .int .i64 ((cutM b (placeM l addr size).2 size).1 : Int)]) ∧ w'.ownsRow W.heap.size 5 1 v' (cutM b (placeM l addr size).2 size).2.length ((cutM b (placeM l addr size).2 size).2.map bv) ∧ Keep No W w' := fun W hk =>
    ocut_any b _ size (Sl.keep hb hk fun _ _ _ h => h) hbl hp2 hz
  generalize atI b l addr size = res at *
  generalize placeM l addr size = pl at *
  obtain ⟨pe, pp⟩ := pl
  dsimp only at *
  by_cases h0 : pe = 0
  · subst h0
    rw [if_pos rfl] at hH
    subst hH
    obtain ⟨ab, cb, rfl, _, _⟩ := hb.shape
    obtain ⟨az, cs, rfl, _, _⟩ := hl.shape
    have HC := Lib.hid hcut
    clear hcut
    go_enter Tryz.func85, Tryz.ntmps85
    go_wp2_with fail
    refine hpl.mono ?_
    clear hpl
    rintro e w1 ⟨rfl, hk1⟩
    have hB1 := hB.keep hk1 fun h => h
    have d10 : w1.cell? ⟨R, 10, none⟩ = some (.slice ab b.length cb) := hB1.cell 10
    go_wp2_with fail
    refine (HC.out w1 hk1).mono ?_
    rintro e w2 ⟨v', rfl, ho, hk2⟩
    go_wp2_with fail
    go_ret2
    exact ⟨_, rfl, own_base ho hk1.size, hk1.trans' hk2⟩
  · rw [if_neg h0] at hH
    subst hH
    obtain ⟨az, cs, rfl, _, _⟩ := hl.shape
    have h0i : ((pe : Int) == 0) = false := by rw [beq_eq_false_iff_ne]; omega
    go_enter Tryz.func85, Tryz.ntmps85
    go_wp2_with fail
    refine hpl.mono ?_
    rintro e w1 ⟨rfl, hk1⟩
    go_wp2_with fail
    go_ret2
    exact ⟨_, rfl, World.ownsRow_nil _ _ _ _, hk1⟩
set_option maxRecDepth 100000 in
set_option maxHeartbeats 4000000 in
theorem imloaded1_any (s : Sg) (a q : Nat) (hs : SgOk s) (ha : a < 18446744073709551616) (hq : w.cell? ⟨q, 0, none⟩ = some (.int .u64 (a : Int))) (hql : q < w.heap.size) :
    Calls Tryz.prog 124 #[.agg (encSg s).toArray, .pointer (some ⟨q, 0, none⟩)] w fun e w' => e = .returned (.bool (decide (s.ty = 1 ∧ s.va ≤ a ∧ a - s.va ≤ s.me ∧ 8 ≤ s.me - (a - s.va)))) ∧ Keep No w w' := by
  have hne : q ≠ w.heap.size := Nat.ne_of_lt hql
  obtain ⟨x0, x1, x2, x3, x4, x5, x6⟩ := s
  obtain ⟨o0, o1, o2, o3, o4, o5, o6⟩ := hs
  unfold encSg
  dsimp only at *
  go_enter Tryz.func124, Tryz.ntmps124
  go_wp2_with fail
  all_goals
    go_ret
    refine ⟨congrArg (fun b => Ending.returned (Value.bool b)) ?_, (Keep.refl _ _).alloc _⟩
    clear hq
    rw [Bool.eq_iff_iff]
    simp only [Bool.and_eq_true, decide_eq_true_eq, beq_iff_eq, Bool.false_eq_true, false_iff, true_iff, not_and] at *
    omega
set_option maxRecDepth 100000 in
set_option maxHeartbeats 4000000 in
theorem imloaded_any (l : List Sg) (a : Nat) (hB : Blk w R (rdB h vs so vn vm vy vr vb vi d0 d1 d2 d3 d4 d5 d6 vt) 147) (hl : Fl A w 7 encSg vs l) (hok : ∀ x ∈ l, SgOk x) (ha : a < 18446744073709551616) :
    Calls Tryz.prog 92 #[.pointer (some ⟨R, 0, none⟩), .int .u64 (a : Int)] w fun e w' => e = .returned (.bool (loadedB l a)) ∧ Keep No w w' := by
  have HL := Lib.hid hl
  have HH : Hid (loadedB l a = l.any fun s => decide (s.ty = 1 ∧ s.va ≤ a ∧ a - s.va ≤ s.me ∧ 8 ≤ s.me - (a - s.va))) := Lib.hid rfl
  obtain ⟨az, cs, rfl, _, _⟩ := hl.shape
  clear hl
  have hlt := hB.lt
  have hne : R ≠ w.heap.size := Nat.ne_of_lt hlt
  have c4 : w.cell? ⟨R, 4, none⟩ = some (.slice az l.length cs) := hB.cell 4
  go_enter Tryz.func92, Tryz.ntmps92
  go_wp2_with fail
  have hkW : Keep No w (w.alloc (.cells #[.int .u64 (a : Int)] 44)) := (Keep.refl _ _).alloc _
  have hBW : Blk (w.alloc (.cells #[.int .u64 (a : Int)] 44)) w.heap.size #[.int .u64 (a : Int)] 44 := Blk.new _ _ _
  have hzW : (w.alloc (.cells #[.int .u64 (a : Int)] 44)).heap.size = w.heap.size + 1 := World.size_alloc _ _
  generalize w.alloc (.cells #[.int .u64 (a : Int)] 44) = W at *
  have hqc := hBW.cell 0
  have hql := hBW.lt
  refine (hasSg_any (w := W) l 124 #[.pointer (some ⟨w.heap.size, 0, none⟩)] _ (HL.out.no hkW) (fun a w => by kernel_rfl) (fun s hs wr hk => imloaded1_any s a w.heap.size (hok s hs) ha ((hk.cell (p := ⟨w.heap.size, 0, none⟩) hql fun h => h).trans hqc) (Nat.lt_of_lt_of_le hql hk.size))).mono ?_
  rintro e w2 ⟨rfl, hk2⟩
  rw [← HH.out]
  go_wp2_with fail
  go_ret
  exact ⟨rfl, hkW.trans' hk2⟩
end
end Go.Proofs.YtbnahidopemkiaaGreat
namespace Go.Dm.Ld
open Go Go.Dm.Oc
theorem headM_ok (b : BS) : (headM b).2.kind < 65536 ∧ (headM b).2.entry < 18446744073709551616 ∧ (headM b).2.segs < 18446744073709551616 ∧ (headM b).2.count < 65536 := by
  have h0 : getX b 16 2 < 65536 := Go.Proofs.YtbnahidopemkiaaGreat.getX_lt b 16 2
  have h1 : getX b 24 8 < 18446744073709551616 := Go.Proofs.YtbnahidopemkiaaGreat.getX_lt b 24 8
  have h2 : getX b 32 8 < 18446744073709551616 := Go.Proofs.YtbnahidopemkiaaGreat.getX_lt b 32 8
  have h3 : getX b 56 2 < 65536 := Go.Proofs.YtbnahidopemkiaaGreat.getX_lt b 56 2
  unfold headM
  split
  · decide
  · split
    · exact ⟨h0, h1, h2, h3⟩
    · decide
theorem chkA_ok {size : Nat} : ∀ (l pre : List Sg) (bh : Nat), chkA size pre bh l = 0 → ∀ s ∈ l, s.ty ≠ 0 → oneE s size = 0
  | [], _, _, _, s, hs, _ => by cases hs
  | x :: r, pre, bh, h, s, hs, h0 => by
    unfold chkA at h
    split at h
    · rename_i h1
      exact absurd h h1
    · rename_i h1
      split at h
      · cases h
      · rcases List.mem_cons.1 hs with rfl | hs
        · exact Decidable.not_not.1 h1
        · split at h
          · split at h
            · cases h
            · exact chkA_ok r _ _ h s hs h0
          · exact chkA_ok r _ _ h s hs h0
theorem chkE_ok {l : List Sg} {size : Nat} (h : chkE l size = 0) : ∀ s ∈ l, s.ty ≠ 0 → oneE s size = 0 := by
  unfold chkE at h
  split at h
  · rename_i h1
    exact absurd h h1
  · rename_i h1
    exact chkA_ok l [] 0 (Decidable.not_not.1 h1)
end Go.Dm.Ld
namespace Go.Proofs.YtbnahidopemkiaaGreat
open Go.RowKit Go.Dm Go.Dm.Oc Go.Dm.Ld
section
variable {A : Nat → Prop} {w : World} {R : Nat} {h : Hd} {vs vn vm vy vr vb vi vt : Value} {so : BS} {d0 d1 d2 d3 d4 d5 d6 : Nat}
set_option maxRecDepth 100000 in
set_option maxHeartbeats 8000000 in
theorem imshape_any {B : Nat → Prop} (hNe : ∀ k, B k → k ≠ R) (hNw : ∀ k, w.heap.size ≤ k → B k) (b : BS) (hB : Blk w R (rdB h vs so vn vm vy vr vb vi d0 d1 d2 d3 d4 d5 d6 vt) 147) (hb : Bts B w vb b) (hbl : b.length ≤ 1099511627776) :
    Calls Tryz.prog 54 #[.pointer (some ⟨R, 0, none⟩)] w fun e w' => e = .returned (.int .i64 ((shapeM b).1 : Nat)) ∧ Keep (fun j => j = R) w w' ∧ ((shapeM b).1 = 0 → ∃ vs', Blk w' R (rdB (shapeM b).2.1 vs' so vn vm vy vr vb vi d0 d1 d2 d3 d4 d5 d6 vt) 147 ∧ Fl B w' 7 encSg vs' (shapeM b).2.2) := by
  have c10 : w.cell? ⟨R, 10, none⟩ = some vb := hB.cell 10
  have hget := hget_any b hb hbl
  have hH : shapeM b = if (headM b).1 ≠ 0 then ((headM b).1, hd0, [])
      else if (headM b).2.kind = 4 then (11, hd0, [])
      else if (sgTab b (headM b).2.segs (headM b).2.count).1 ≠ 0 then ((sgTab b (headM b).2.segs (headM b).2.count).1, hd0, [])
      else if chkE (sgTab b (headM b).2.segs (headM b).2.count).2 b.length ≠ 0 then (chkE (sgTab b (headM b).2.segs (headM b).2.count).2 b.length, hd0, [])
      else if findM (sgTab b (headM b).2.segs (headM b).2.count).2 1 = none then (11, hd0, [])
      else (0, (headM b).2, (sgTab b (headM b).2.segs (headM b).2.count).2) := rfl
  obtain ⟨o0, o1, o2, o3⟩ := headM_ok b
  have hcs : (encHd (headM b).2).toArray = #[.int .i64 ((headM b).2.kind : Int), .int .u64 ((headM b).2.entry : Int), .int .u64 ((headM b).2.segs : Int), .int .i64 ((headM b).2.count : Int)] := rfl
  rw [hcs] at hget
  have htab : ∀ W, Keep (fun j => j = R) w W → Calls Tryz.prog 81 #[vb, .int .u64 ((headM b).2.segs : Int), .int .i64 ((headM b).2.count : Int)] W fun e w' => ∃ v', e = .returned (.tuple #[v', .int .i64 ((sgTab b (headM b).2.segs (headM b).2.count).1 : Nat)]) ∧ FlO w' W.heap.size 113 7 encSg v' (sgTab b (headM b).2.segs (headM b).2.count).2 ∧ Keep No W w' := fun W hk =>
    sgtable_any b _ _ (Sl.keep hb hk fun j _ h1 h2 => hNe j h1 h2) hbl o2 o3
  have htok := sgTab_ok b (headM b).2.segs (headM b).2.count
  generalize sgTab b (headM b).2.segs (headM b).2.count = tb at *
  generalize headM b = hm at *
  obtain ⟨he, ⟨x0, x1, x2, x3⟩⟩ := hm
  obtain ⟨te, l⟩ := tb
  dsimp only at *
  generalize shapeM b = res at *
  have HT := Lib.hid htab
  clear htab hcs
  obtain ⟨ab, cb, rfl, hcb1, hcb2⟩ := hb.shape
  have hfr : ∀ i, w.frozen? ⟨R, i, none⟩ = false := fun i => hB.frozen i
  go_enter Tryz.func54, Tryz.ntmps54
  go_wp2_with fail
  refine hget.mono ?_
  clear hget
  rintro e w1 ⟨rfl, hk1⟩
  have hB1 := hB.keep hk1 fun h => h
  have e0 : w1.cell? ⟨R, 0, none⟩ = some (.int .i64 (h.kind : Int)) := hB1.cell 0
  have e1 : w1.cell? ⟨R, 1, none⟩ = some (.int .u64 (h.entry : Int)) := hB1.cell 1
  have e2 : w1.cell? ⟨R, 2, none⟩ = some (.int .u64 (h.segs : Int)) := hB1.cell 2
  have e3 : w1.cell? ⟨R, 3, none⟩ = some (.int .i64 (h.count : Int)) := hB1.cell 3
  have f0 := hB1.frozen 0
  have f1 := hB1.frozen 1
  have f2 := hB1.frozen 2
  have f3 := hB1.frozen 3
  have hkS : Keep (fun j => j = R) w ((((w1.setCell ⟨R, 0, none⟩ (.int .i64 (x0 : Int))).setCell ⟨R, 1, none⟩ (.int .u64 (x1 : Int))).setCell ⟨R, 2, none⟩ (.int .u64 (x2 : Int))).setCell ⟨R, 3, none⟩ (.int .i64 (x3 : Int))) :=
    ((((hk1.mono (fun _ _ h => h.elim) : Keep (fun j => j = R) w w1).setCell (p := ⟨R, 0, none⟩) (fun _ => rfl) _).setCell (p := ⟨R, 1, none⟩) (fun _ => rfl) _).setCell (p := ⟨R, 2, none⟩) (fun _ => rfl) _).setCell (p := ⟨R, 3, none⟩) (fun _ => rfl) _
  have hBS : Blk ((((w1.setCell ⟨R, 0, none⟩ (.int .i64 (x0 : Int))).setCell ⟨R, 1, none⟩ (.int .u64 (x1 : Int))).setCell ⟨R, 2, none⟩ (.int .u64 (x2 : Int))).setCell ⟨R, 3, none⟩ (.int .i64 (x3 : Int))) R (rdB ⟨x0, x1, x2, x3⟩ vs so vn vm vy vr (.slice ab b.length cb) vi d0 d1 d2 d3 d4 d5 d6 vt) 147 :=
    (((hB1.set (i := 0) _).set (i := 1) _).set (i := 2) _).set (i := 3) _
  by_cases hz : he = 0
  · subst hz
    rw [if_neg (by decide)] at hH
    by_cases hx4 : x0 = 4
    · rw [if_pos hx4] at hH
      subst hH
      have hx4i : ((x0 : Int) == 4) = true := by rw [beq_iff_eq]; omega
      go_wp2_with fail
      subst hx4
      go_ret
      exact ⟨rfl, hkS⟩
    · rw [if_neg hx4] at hH
      have hx4i : ((x0 : Int) == 4) = false := by rw [beq_eq_false_iff_ne]; omega
      go_wp2_with fail
      generalize (((w1.setCell ⟨R, 0, none⟩ (.int .i64 (x0 : Int))).setCell ⟨R, 1, none⟩ (.int .u64 (x1 : Int))).setCell ⟨R, 2, none⟩ (.int .u64 (x2 : Int))).setCell ⟨R, 3, none⟩ (.int .i64 (x3 : Int)) = ws at *
      clear e0 e1 e2 e3 f0 f1 f2 f3 hB1 hB hk1 c10 hx4 hx4i hfr
      have q0 : ws.cell? ⟨R, 2, none⟩ = some (.int .u64 (x2 : Int)) := hBS.cell 2
      have q1 : ws.cell? ⟨R, 3, none⟩ = some (.int .i64 (x3 : Int)) := hBS.cell 3
      have q2 : ws.cell? ⟨R, 10, none⟩ = some (.slice ab b.length cb) := hBS.cell 10
      refine wp_region_sig (fun w' => w'.cell? ⟨R, 2, none⟩ = some (.int .u64 (x2 : Int)) ∧ w'.cell? ⟨R, 3, none⟩ = some (.int .i64 (x3 : Int)) ∧ w'.cell? ⟨R, 10, none⟩ = some (.slice ab b.length cb)) (fun j => decide (j ≤ 99)) [(0, true), (1, true), (2, true), (3, true), (4, true), (5, true), (6, true), (7, true), (8, true), (9, true), (10, true), (11, true), (12, true), (13, true), (14, true), (15, true), (16, true), (17, true), (18, false), (19, true), (20, true), (21, true), (22, true), (23, true), (24, true), (25, false), (26, true)] (by kernel_rfl) (by kernel_rfl) (by intro c a d v w h; cases d <;> exact h) ⟨q0, q1, q2⟩ ?_
      apply sig_still (o := ⟨some 30, _, _, _, _, _⟩) rfl rfl
      · intro w' hS
        obtain ⟨q1, q2, q3⟩ := hS
        first | (go_simp; done) | (go_simp; rfl) | rfl
      go_frame
      apply sig_still (o := ⟨some 31, _, _, _, _, _⟩) rfl rfl
      · intro w' hS
        obtain ⟨q1, q2, q3⟩ := hS
        first | (go_simp; done) | (go_simp; rfl) | rfl
      go_frame
      apply sig_still (o := ⟨some 32, _, _, _, _, _⟩) rfl rfl
      · intro w' hS
        obtain ⟨q1, q2, q3⟩ := hS
        first | (go_simp; done) | (go_simp; rfl) | rfl
      go_frame
      apply sig_still (o := ⟨some 33, _, _, _, _, _⟩) rfl rfl
      · intro w' hS
        obtain ⟨q1, q2, q3⟩ := hS
        first | (go_simp; done) | (go_simp; rfl) | rfl
      go_frame
      apply sig_still (o := ⟨some 34, _, _, _, _, _⟩) rfl rfl
      · intro w' hS
        obtain ⟨q1, q2, q3⟩ := hS
        first | (go_simp; done) | (go_simp; rfl) | rfl
      go_frame
      apply sig_still (o := ⟨some 35, _, _, _, _, _⟩) rfl rfl
      · intro w' hS
        obtain ⟨q1, q2, q3⟩ := hS
        first | (go_simp; done) | (go_simp; rfl) | rfl
      go_frame
      apply sig_still (o := ⟨some 36, _, _, _, _, _⟩) rfl rfl
      · intro w' hS
        obtain ⟨q1, q2, q3⟩ := hS
        first | (go_simp; done) | (go_simp; rfl) | rfl
      go_frame
      apply sig_still (o := ⟨some 37, _, _, _, _, _⟩) rfl rfl
      · intro w' hS
        obtain ⟨q1, q2, q3⟩ := hS
        first | (go_simp; done) | (go_simp; rfl) | rfl
      go_frame
      apply sig_still (o := ⟨some 38, _, _, _, _, _⟩) rfl rfl
      · intro w' hS
        obtain ⟨q1, q2, q3⟩ := hS
        first | (go_simp; done) | (go_simp; rfl) | rfl
      go_frame
      apply sig_still (o := ⟨some 39, _, _, _, _, _⟩) rfl rfl
      · intro w' hS
        obtain ⟨q1, q2, q3⟩ := hS
        first | (go_simp; done) | (go_simp; rfl) | rfl
      go_frame
      apply sig_still (o := ⟨some 40, _, _, _, _, _⟩) rfl rfl
      · intro w' hS
        obtain ⟨q1, q2, q3⟩ := hS
        first | (go_simp; done) | (go_simp; rfl) | rfl
      go_frame
      apply sig_still (o := ⟨some 41, _, _, _, _, _⟩) rfl rfl
      · intro w' hS
        obtain ⟨q1, q2, q3⟩ := hS
        first | (go_simp; done) | (go_simp; rfl) | rfl
      go_frame
      apply sig_still (o := ⟨some 42, _, _, _, _, _⟩) rfl rfl
      · intro w' hS
        obtain ⟨q1, q2, q3⟩ := hS
        first | (go_simp; done) | (go_simp; rfl) | rfl
      go_frame
      apply sig_still (o := ⟨some 43, _, _, _, _, _⟩) rfl rfl
      · intro w' hS
        obtain ⟨q1, q2, q3⟩ := hS
        first | (go_simp; done) | (go_simp; rfl) | rfl
      go_frame
      apply sig_still (o := ⟨some 44, _, _, _, _, _⟩) rfl rfl
      · intro w' hS
        obtain ⟨q1, q2, q3⟩ := hS
        first | (go_simp; done) | (go_simp; rfl) | rfl
      go_frame
      apply sig_still (o := ⟨some 45, _, _, _, _, _⟩) rfl rfl
      · intro w' hS
        obtain ⟨q1, q2, q3⟩ := hS
        first | (go_simp; done) | (go_simp; rfl) | rfl
      go_frame
      apply sig_still (o := ⟨some 46, _, _, _, _, _⟩) rfl rfl
      · intro w' hS
        obtain ⟨q1, q2, q3⟩ := hS
        first | (go_simp; done) | (go_simp; rfl) | rfl
      go_frame
      apply sig_still (o := ⟨some 47, _, _, _, _, _⟩) rfl rfl
      · intro w' hS
        obtain ⟨q1, q2, q3⟩ := hS
        first | (go_simp; done) | (go_simp; rfl) | rfl
      go_frame
      refine sig_eff (o := ⟨some 48, _, _, _, _, _⟩) rfl rfl (fun K hKe => ?_)
      go_wp2_with fail
      refine (HT.out _ hkS.drew).mono ?_
      rintro e w2 ⟨v2, rfl, ho2, hk2⟩
      have hk2' : Keep No ws w2 := (Keep.refl No ws).drew.trans' hk2
      have hB2 := hBS.keep hk2' fun h => h
      refine hKe _ _ ⟨fun _ => ⟨hB2.cell 2, hB2.cell 3, hB2.cell 10⟩, ?_⟩
      clear hKe
      have hsl := ho2.fl
      obtain ⟨av, cv, rfl, _, _⟩ := hsl.shape
      apply sig_still (o := ⟨some 29, _, _, _, _, _⟩) rfl rfl
      · intro w' hS
        obtain ⟨q1, q2, q3⟩ := hS
        first | (go_simp; done) | (go_simp; rfl) | rfl
      go_frame
      apply sig_still (o := ⟨some 49, _, _, _, _, _⟩) rfl rfl
      · intro w' hS
        obtain ⟨q1, q2, q3⟩ := hS
        first | (go_simp; done) | (go_simp; rfl) | rfl
      go_frame
      apply sig_still (o := ⟨some 50, _, _, _, _, _⟩) rfl rfl
      · intro w' hS
        obtain ⟨q1, q2, q3⟩ := hS
        first | (go_simp; done) | (go_simp; rfl) | rfl
      go_frame
      apply sig_still (o := ⟨some 51, _, _, _, _, _⟩) rfl rfl
      · intro w' hS
        obtain ⟨q1, q2, q3⟩ := hS
        first | (go_simp; done) | (go_simp; rfl) | rfl
      go_frame
      apply sig_still (o := ⟨some 52, _, _, _, _, _⟩) rfl rfl
      · intro w' hS
        obtain ⟨q1, q2, q3⟩ := hS
        first | (go_simp; done) | (go_simp; rfl) | rfl
      go_frame
      apply sig_still (o := ⟨some 53, _, _, _, _, _⟩) rfl rfl
      · intro w' hS
        obtain ⟨q1, q2, q3⟩ := hS
        first | (go_simp; done) | (go_simp; rfl) | rfl
      go_frame
      refine sig_eff (o := ⟨none, _, _, _, _, _⟩) rfl rfl (fun K hKe => ?_)
      have g4 : w2.cell? ⟨R, 4, none⟩ = some vs := hB2.cell 4
      have fr4 := hB2.frozen 4
      go_wp2_with fail
      have hB3 : Blk (w2.setCell ⟨R, 4, none⟩ (.slice av l.length cv)) R (rdB ⟨x0, x1, x2, x3⟩ (.slice av l.length cv) so vn vm vy vr (.slice ab b.length cb) vi d0 d1 d2 d3 d4 d5 d6 vt) 147 := hB2.set (i := 4) _
      have hk3 : Keep (fun j => j = R) w2 (w2.setCell ⟨R, 4, none⟩ (.slice av l.length cv)) := (Keep.refl (fun j => j = R) w2).setCell (p := ⟨R, 4, none⟩) (fun _ => rfl) _
      generalize w2.setCell ⟨R, 4, none⟩ (.slice av l.length cv) = w3 at *
      refine ⟨fun _ => ⟨hB3.cell 2, hB3.cell 3, hB3.cell 10⟩, ?_⟩
      apply sig_still (o := ⟨some 3, _, _, _, _, _⟩) rfl rfl
      · intro w' hS
        obtain ⟨q1, q2, q3⟩ := hS
        first | (go_simp; done) | (go_simp; rfl) | rfl
      go_frame
      refine sig_nil ?_
      have hsl3 : Fl B w3 7 encSg (.slice av l.length cv) l := (hsl.keep hk3 fun j hj h e => by
        have e2 : j = R := e
        have := hBS.lt
        have h1 : ws.heap.size ≤ j := h.1
        omega).mono fun j _ h => hNw j (Nat.le_trans hkS.size h.1)
      have hkw3 : Keep (fun j => j = R) w w3 := (hkS.trans hk2' fun _ _ h => h.elim).trans' hk3
      clear hsl ho2 hk2 hk2' hk3 hB2 g4 fr4 q0 q1 q2 hBS
      by_cases ht : te = 0
      · subst ht
        rw [if_neg (by decide)] at hH
        have hchk : ∀ W, Keep No w3 W → Calls Tryz.prog 82 #[.slice av l.length cv, .int .u64 (b.length : Int)] W fun e w' => e = .returned (.int .i64 (chkE l b.length : Nat)) ∧ Keep No W w' := fun W hk => sgcheck_any l b.length (hsl3.no hk) htok (by omega)
        have hfind : ∀ W, Keep No w3 W → Calls Tryz.prog 47 #[.slice av l.length cv, .int .u32 1] W fun e w' => e = .returned (.tuple #[.agg (encSg (sgD (findM l 1))).toArray, .bool (findM l 1).isSome]) ∧ Keep No W w' := fun W hk => sgfind_any l 1 (hsl3.no hk)
        have hfs : (findM l 1 = none) ↔ (findM l 1).isSome = false := by cases findM l 1 <;> simp
        generalize chkE l b.length = ce at *
        have g4 : w3.cell? ⟨R, 4, none⟩ = some (.slice av l.length cv) := hB3.cell 4
        have g10 : w3.cell? ⟨R, 10, none⟩ = some (.slice ab b.length cb) := hB3.cell 10
        go_wp2_with fail
        refine wp_region_sig (fun w' => w'.cell? ⟨R, 4, none⟩ = some (.slice av l.length cv) ∧ w'.cell? ⟨R, 10, none⟩ = some (.slice ab b.length cb)) (fun j => decide (j ≤ 99)) [(0, true), (1, true), (2, true), (3, true), (4, true), (5, true), (6, true), (7, true), (8, true), (9, true), (10, true), (11, true), (12, false), (13, true)] (by kernel_rfl) (by kernel_rfl) (by intro c a d v w h; cases d <;> exact h) ⟨g4, g10⟩ ?_
        apply sig_still (o := ⟨some 57, _, _, _, _, _⟩) rfl rfl
        · intro w' hS
          obtain ⟨q1, q2⟩ := hS
          first | (go_simp; done) | (go_simp; rfl) | rfl
        go_frame
        apply sig_still (o := ⟨some 58, _, _, _, _, _⟩) rfl rfl
        · intro w' hS
          obtain ⟨q1, q2⟩ := hS
          first | (go_simp; done) | (go_simp; rfl) | rfl
        go_frame
        apply sig_still (o := ⟨some 59, _, _, _, _, _⟩) rfl rfl
        · intro w' hS
          obtain ⟨q1, q2⟩ := hS
          first | (go_simp; done) | (go_simp; rfl) | rfl
        go_frame
        apply sig_still (o := ⟨some 60, _, _, _, _, _⟩) rfl rfl
        · intro w' hS
          obtain ⟨q1, q2⟩ := hS
          first | (go_simp; done) | (go_simp; rfl) | rfl
        go_frame
        apply sig_still (o := ⟨some 61, _, _, _, _, _⟩) rfl rfl
        · intro w' hS
          obtain ⟨q1, q2⟩ := hS
          first | (go_simp; done) | (go_simp; rfl) | rfl
        go_frame
        apply sig_still (o := ⟨some 62, _, _, _, _, _⟩) rfl rfl
        · intro w' hS
          obtain ⟨q1, q2⟩ := hS
          first | (go_simp; done) | (go_simp; rfl) | rfl
        go_frame
        apply sig_still (o := ⟨some 63, _, _, _, _, _⟩) rfl rfl
        · intro w' hS
          obtain ⟨q1, q2⟩ := hS
          first | (go_simp; done) | (go_simp; rfl) | rfl
        go_frame
        apply sig_still (o := ⟨some 64, _, _, _, _, _⟩) rfl rfl
        · intro w' hS
          obtain ⟨q1, q2⟩ := hS
          first | (go_simp; done) | (go_simp; rfl) | rfl
        go_frame
        apply sig_still (o := ⟨some 65, _, _, _, _, _⟩) rfl rfl
        · intro w' hS
          obtain ⟨q1, q2⟩ := hS
          first | (go_simp; done) | (go_simp; rfl) | rfl
        go_frame
        apply sig_still (o := ⟨some 66, _, _, _, _, _⟩) rfl rfl
        · intro w' hS
          obtain ⟨q1, q2⟩ := hS
          first | (go_simp; done) | (go_simp; rfl) | rfl
        go_frame
        apply sig_still (o := ⟨some 67, _, _, _, _, _⟩) rfl rfl
        · intro w' hS
          obtain ⟨q1, q2⟩ := hS
          first | (go_simp; done) | (go_simp; rfl) | rfl
        go_frame
        apply sig_still (o := ⟨some 68, _, _, _, _, _⟩) rfl rfl
        · intro w' hS
          obtain ⟨q1, q2⟩ := hS
          first | (go_simp; done) | (go_simp; rfl) | rfl
        go_frame
        refine sig_eff (o := ⟨some 69, _, _, _, _, _⟩) rfl rfl (fun K hKe => ?_)
        go_wp2_with fail
        refine (hchk _ (Keep.refl No w3).drew).mono ?_
        rintro e w4 ⟨rfl, hk4⟩
        have hk4' : Keep No w3 w4 := (Keep.refl No w3).drew.trans' hk4
        have hB4 := hB3.keep hk4' fun h => h
        refine hKe _ _ ⟨fun _ => ⟨hB4.cell 4, hB4.cell 10⟩, ?_⟩
        clear hKe hchk
        apply sig_still (o := ⟨some 3, _, _, _, _, _⟩) rfl rfl
        · intro w' hS
          obtain ⟨q1, q2⟩ := hS
          first | (go_simp; done) | (go_simp; rfl) | rfl
        go_frame
        refine sig_nil ?_
        have hkw4 : Keep (fun j => j = R) w w4 := hkw3.trans hk4' fun _ _ h => h.elim
        have hfind4 := hfind w4 hk4'
        have hsl4 := hsl3.no hk4'
        have g44 : w4.cell? ⟨R, 4, none⟩ = some (.slice av l.length cv) := hB4.cell 4
        clear hfind hk4 hB3 g4 g10 hsl3
        by_cases hc : ce = 0
        · subst hc
          rw [if_neg (by decide)] at hH
          have hcc : (encSg (sgD (findM l 1))).toArray = #[.int .u32 ((sgD (findM l 1)).ty : Int), .int .u32 ((sgD (findM l 1)).fl : Int), .int .u64 ((sgD (findM l 1)).off : Int), .int .u64 ((sgD (findM l 1)).va : Int), .int .u64 ((sgD (findM l 1)).fi : Int), .int .u64 ((sgD (findM l 1)).me : Int), .int .u64 ((sgD (findM l 1)).al : Int)] := rfl
          rw [hcc] at hfind4
          clear hcc
          generalize sgD (findM l 1) = sd at *
          cases hfb : (findM l 1).isSome with
          | false =>
            rw [hfb] at hfind4
            rw [if_pos (hfs.2 hfb)] at hH
            subst hH
            go_wp2_with fail
            refine hfind4.mono ?_
            rintro e w5 ⟨rfl, hk5⟩
            go_wp2_with fail
            go_ret
            exact ⟨rfl, (hkw4.trans hk5 fun _ _ h => h.elim).alloc _⟩
          | true =>
            rw [hfb] at hfind4
            rw [if_neg (fun h => by rw [hfs.1 h] at hfb; cases hfb)] at hH
            subst hH
            go_wp2_with fail
            refine hfind4.mono ?_
            rintro e w5 ⟨rfl, hk5⟩
            go_wp2_with fail
            go_ret
            have hk5' : ∀ o, Keep No w4 (w5.alloc o) := fun o => hk5.alloc o
            refine ⟨rfl, (hkw4.trans hk5 fun _ _ h => h.elim).alloc _, ?_⟩
            first
              | exact ⟨_, hB4.keep (hk5' _) fun h => h, hsl4.no (hk5' _)⟩
              | exact fun _ => ⟨_, hB4.keep (hk5' _) fun h => h, hsl4.no (hk5' _)⟩
        · have hci : ((ce : Int) == 0) = false := by rw [beq_eq_false_iff_ne]; omega
          rw [if_pos hc] at hH
          subst hH
          go_wp2_with fail
          go_ret
          first
            | exact ⟨rfl, hkw4⟩
            | exact ⟨rfl, hkw4, fun h0 => absurd h0 hc⟩
      · have hti : ((te : Int) == 0) = false := by rw [beq_eq_false_iff_ne]; omega
        rw [if_pos ht] at hH
        subst hH
        go_wp2_with fail
        go_ret
        first
          | exact ⟨rfl, hkw3⟩
          | exact ⟨rfl, hkw3, fun h0 => absurd h0 ht⟩
  · have hzi : ((he : Int) == 0) = false := by rw [beq_eq_false_iff_ne]; omega
    rw [if_pos hz] at hH
    subst hH
    go_wp2_with fail
    go_ret
    first
      | exact ⟨rfl, hkS⟩
      | exact ⟨rfl, hkS, fun h0 => absurd h0 hz⟩
end
end Go.Proofs.YtbnahidopemkiaaGreat
namespace Go.Dm.Ld
open Go Go.Dm.Oc
theorem dyGo_ok (b : BS) : ∀ (f at_ : Nat) (x : Dy) (seen : List Bool), x.v.length = 7 → (∀ n ∈ x.v, n < 18446744073709551616) → (∀ n ∈ x.need, n < 18446744073709551616) →
    (dyGo b f at_ x seen).2.v.length = 7 ∧ (∀ n ∈ (dyGo b f at_ x seen).2.v, n < 18446744073709551616) ∧ (∀ n ∈ (dyGo b f at_ x seen).2.need, n < 18446744073709551616) ∧ (dyGo b f at_ x seen).2.need.length ≤ x.need.length + f := by
  have h0 : dy0.v.length = 7 ∧ (∀ n ∈ dy0.v, n < 18446744073709551616) ∧ (∀ n ∈ dy0.need, n < 18446744073709551616) ∧ ∀ k, dy0.need.length ≤ k := by
    refine ⟨rfl, by decide, by decide, fun k => Nat.zero_le _⟩
  intro f
  induction f with
  | zero => intro at_ x seen _ _ _; exact ⟨h0.1, h0.2.1, h0.2.2.1, h0.2.2.2 _⟩
  | succ f ih =>
    intro at_ x seen h1 h2 h3
    unfold dyGo
    have hx : getX b (at_ + 8) 8 < 18446744073709551616 := Go.Proofs.YtbnahidopemkiaaGreat.getX_lt b (at_ + 8) 8
    split
    · exact ⟨h0.1, h0.2.1, h0.2.2.1, h0.2.2.2 _⟩
    · split
      · split
        · exact ⟨h1, h2, h3, Nat.le_add_right _ _⟩
        · exact ⟨h0.1, h0.2.1, h0.2.2.1, h0.2.2.2 _⟩
      · split
        · obtain ⟨a1, a2, a3, a4⟩ := ih (at_ + 16) { x with need := x.need ++ [getX b (at_ + 8) 8] } seen h1 h2 (by
            intro n hn
            rcases List.mem_append.1 hn with h | h
            · exact h3 n h
            · rw [List.mem_singleton.1 h]; exact hx)
          refine ⟨a1, a2, a3, ?_⟩
          simp only [List.length_append, List.length_singleton] at a4
          omega
        · split
          · exact ⟨h0.1, h0.2.1, h0.2.2.1, h0.2.2.2 _⟩
          · split
            · exact ⟨h0.1, h0.2.1, h0.2.2.1, h0.2.2.2 _⟩
            · rename_i k _ _
              obtain ⟨a1, a2, a3, a4⟩ := ih (at_ + 16) { x with v := x.v.set k (getX b (at_ + 8) 8) } (seen.set k true) (by rw [List.length_set]; exact h1) (by
                intro n hn
                rcases List.mem_or_eq_of_mem_set hn with h | h
                · exact h2 n h
                · rw [h]; exact hx) h3
              refine ⟨a1, a2, a3, ?_⟩
              dsimp only at a4
              omega
theorem dyM_ok (b : BS) : (dyM b).2.v.length = 7 ∧ (∀ n ∈ (dyM b).2.v, n < 18446744073709551616) ∧ (∀ n ∈ (dyM b).2.need, n < 18446744073709551616) ∧ (dyM b).2.need.length ≤ b.length / 16 + 1 := by
  have h := dyGo_ok b (b.length / 16 + 1) 0 dy0 [false, false, false, false, false, false, false] rfl (by decide) (by decide)
  refine ⟨h.1, h.2.1, h.2.2.1, ?_⟩
  have h4 := h.2.2.2
  have e : dy0.need.length = 0 := rfl
  rw [e] at h4
  unfold dyM
  omega
theorem cutM_lt (b : BS) (a n : Nat) : (cutM b a n).2.length ≤ b.length := by
  unfold cutM
  split
  · rw [List.length_take, List.length_drop]; omega
  · exact Nat.zero_le _
theorem atI_lt (b : BS) (l : List Sg) (a n : Nat) : (atI b l a n).2.length ≤ b.length := by
  unfold atI
  split
  · exact cutM_lt b _ _
  · exact Nat.zero_le _
theorem shapeM_ok {b : BS} (h : (shapeM b).1 = 0) : (∀ s ∈ (shapeM b).2.2, SgOk s) ∧ (∀ s ∈ (shapeM b).2.2, s.ty ≠ 0 → oneE s b.length = 0) := by
  have ht := Go.Proofs.YtbnahidopemkiaaGreat.sgTab_ok b (headM b).2.segs (headM b).2.count
  unfold shapeM at h ⊢
  split at h
  · rename_i h1; exact absurd h h1
  · rename_i h1
    rw [if_neg h1]
    split at h
    · cases h
    · rename_i h2
      rw [if_neg h2]
      split at h
      · rename_i h3; exact absurd h h3
      · rename_i h3
        rw [if_neg h3]
        split at h
        · rename_i h4; exact absurd h h4
        · rename_i h4
          rw [if_neg h4]
          split at h
          · cases h
          · rename_i h5
            rw [if_neg h5]
            exact ⟨ht, chkE_ok (Decidable.not_not.1 h4)⟩
end Go.Dm.Ld
