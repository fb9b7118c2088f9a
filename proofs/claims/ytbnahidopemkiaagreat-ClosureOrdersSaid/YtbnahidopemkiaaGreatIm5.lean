/- image.reader: named. image.reader: symbols. No condition. -/
import Derived.Test.YtbnahidopemkiaaGreatIm3
import Derived.Test.YtbnahidopemkiaaGreatLdS
import Derived.Lib.Hide
import Derived.Lib.Bytealg
set_option linter.unusedVariables false
set_option linter.unusedSimpArgs false
namespace Go.Proofs.YtbnahidopemkiaaGreat
open Go.RowKit Go.Dm Go.Dm.Oc Go.Dm.Ld
def encS (s : BS) : List Value := [.string ⟨s.toArray⟩]
theorem encS_len (s : BS) : (encS s).length = 1 := rfl
theorem str_info : (Tryz.prog.info? 9).map (fun i => (i.zero, i.size, i.bytes)) = some (some (.string ⟨#[]⟩), 1, 16) := by kernel_rfl
theorem needGo_cons (t : BS) (p : Nat) (r : List Nat) (acc : List BS) : needGo t (p :: r) acc = if (atM t p).1 ≠ 0 then ((atM t p).1, []) else if (atM t p).2 = [] then (11, []) else needGo t r (acc ++ [(atM t p).2]) := rfl
section
variable {A : Nat → Prop} {w : World} {R : Nat} {h : Hd} {vs vn vm vy vr vb vi vt : Value} {so : BS} {d0 d1 d2 d3 d4 d5 d6 : Nat}
def NamedP (B : Nat → Prop) (R : Nat) (w : World) (h : Hd) (vs vm vy vr vb : Value) (r : Nat × Nd) (w' : World) : Prop :=
  Keep (fun j => j = R) w w' ∧ (r.1 = 0 → ∃ vn' vi' vt' e0 e1 e2 e3 e4 e5 e6, r.2.info.v = [e0, e1, e2, e3, e4, e5, e6] ∧ Blk w' R (rdB h vs r.2.so vn' vm vy vr vb vi' e0 e1 e2 e3 e4 e5 e6 vt') 147 ∧ Bts B w' vt' r.2.table ∧ Fl B w' 1 encS vn' r.2.need)
set_option maxRecDepth 100000 in
set_option maxHeartbeats 8000000 in
theorem imnamed_any {B : Nat → Prop} (hNe : ∀ k, B k → k ≠ R) (hNw : ∀ k, w.heap.size ≤ k → B k) (l : List Sg) (b : BS) (s : Sg) (hB : Blk w R (rdB h vs [] (.slice none 0 0) vm vy vr vb vi d0 d1 d2 d3 d4 d5 d6 vt) 147) (hl : Fl B w 7 encSg vs l) (hb : Bts B w vb b) (hbl : b.length ≤ 65536)
    (hok : ∀ x ∈ l, SgOk x) (hok2 : ∀ x ∈ l, x.ty = 1 → x.off + x.fi < 18446744073709551616) (hs : SgOk s) :
    Calls Tryz.prog 56 #[.pointer (some ⟨R, 0, none⟩), .agg (encSg s).toArray] w fun e w' => e = .returned (.int .i64 ((namedM b l s).1 : Nat)) ∧ NamedP B R w h vs vm vy vr vb (namedM b l s) w' := by
  have hRw := hB.lt
  have hcut : ∀ W, Keep No w W → Calls Tryz.prog 83 #[vb, .int .u64 (s.off : Int), .int .u64 (s.fi : Int)] W fun e w' => ∃ v', e = .returned (.tuple #[v', .int .i64 ((cutM b s.off s.fi).1 : Int)]) ∧ w'.ownsRow W.heap.size 5 1 v' (cutM b s.off s.fi).2.length ((cutM b s.off s.fi).2.map bv) ∧ Keep No W w' := fun W hk =>
    ocut_any b _ _ (Sl.keep hb hk fun _ _ _ h => h) (by omega) hs.2.2.1 hs.2.2.2.2.1
  have hclt := cutM_lt b s.off s.fi
  have hH : Hid (namedM b l s = if (cutM b s.off s.fi).1 ≠ 0 then ((cutM b s.off s.fi).1, nd0)
    else if (dyM (cutM b s.off s.fi).2).1 ≠ 0 then ((dyM (cutM b s.off s.fi).2).1, nd0)
    else
      let d := (dyM (cutM b s.off s.fi).2).2
      if (atI b l (d.v.getD 1 0) (d.v.getD 2 0)).1 ≠ 0 then ((atI b l (d.v.getD 1 0) (d.v.getD 2 0)).1, nd0)
      else
        let t := (atI b l (d.v.getD 1 0) (d.v.getD 2 0)).2
        if chkN t ≠ 0 then (chkN t, nd0)
        else if (soM t (d.v.getD 0 0)).1 ≠ 0 then ((soM t (d.v.getD 0 0)).1, nd0)
        else if (needGo t d.need []).1 ≠ 0 then ((needGo t d.need []).1, nd0)
        else (0, ⟨d, t, (soM t (d.v.getD 0 0)).2, (needGo t d.need []).2⟩)) := Lib.hid rfl
  generalize cutM b s.off s.fi = c at *
  obtain ⟨ce, cb⟩ := c
  dsimp only at hcut hclt hH
  generalize namedM b l s = res at *
  generalize hg0 : (dyM cb).2.v.getD 0 0 = u0 at *
  generalize hg1 : (dyM cb).2.v.getD 1 0 = u1 at *
  generalize hg2 : (dyM cb).2.v.getD 2 0 = u2 at *
  obtain ⟨ab, qb, rfl, hcb1, hcb2⟩ := hb.shape
  have g10 : w.cell? ⟨R, 10, none⟩ = some (.slice ab b.length qb) := hB.cell 10
  have HC := Lib.hid hcut
  clear hcut
  obtain ⟨s0, s1, s2, s3, s4, s5, s6⟩ := s
  dsimp only at HC
  unfold encSg
  dsimp only
  have hne : R ≠ w.heap.size := Nat.ne_of_lt hRw
  go_enter Tryz.func56, Tryz.ntmps56
  go_wp2_with fail
  have hkW : Keep No w (w.alloc (.cells #[.int .u32 (s0 : Int), .int .u32 (s1 : Int), .int .u64 (s2 : Int), .int .u64 (s3 : Int), .int .u64 (s4 : Int), .int .u64 (s5 : Int), .int .u64 (s6 : Int)] 113)) := (Keep.refl _ _).alloc _
  have hBW : Blk (w.alloc (.cells #[.int .u32 (s0 : Int), .int .u32 (s1 : Int), .int .u64 (s2 : Int), .int .u64 (s3 : Int), .int .u64 (s4 : Int), .int .u64 (s5 : Int), .int .u64 (s6 : Int)] 113)) w.heap.size #[.int .u32 (s0 : Int), .int .u32 (s1 : Int), .int .u64 (s2 : Int), .int .u64 (s3 : Int), .int .u64 (s4 : Int), .int .u64 (s5 : Int), .int .u64 (s6 : Int)] 113 := Blk.new _ _ _
  have hzW : (w.alloc (.cells #[.int .u32 (s0 : Int), .int .u32 (s1 : Int), .int .u64 (s2 : Int), .int .u64 (s3 : Int), .int .u64 (s4 : Int), .int .u64 (s5 : Int), .int .u64 (s6 : Int)] 113)).heap.size = w.heap.size + 1 := World.size_alloc _ _
  generalize w.alloc (.cells #[.int .u32 (s0 : Int), .int .u32 (s1 : Int), .int .u64 (s2 : Int), .int .u64 (s3 : Int), .int .u64 (s4 : Int), .int .u64 (s5 : Int), .int .u64 (s6 : Int)] 113) = W at *
  have hB1 := hB.keep hkW fun h => h
  have q0 : W.cell? ⟨R, 10, none⟩ = some (.slice ab b.length qb) := hB1.cell 10
  have q1 : W.cell? ⟨w.heap.size, 2, none⟩ = some (.int .u64 (s2 : Int)) := hBW.cell 2
  have q2 : W.cell? ⟨w.heap.size, 4, none⟩ = some (.int .u64 (s4 : Int)) := hBW.cell 4
  refine wp_region_sig (fun w' => w'.cell? ⟨R, 10, none⟩ = some (.slice ab b.length qb) ∧ w'.cell? ⟨w.heap.size, 2, none⟩ = some (.int .u64 (s2 : Int)) ∧ w'.cell? ⟨w.heap.size, 4, none⟩ = some (.int .u64 (s4 : Int))) (fun j => decide (j ≤ 99)) [(0, true), (1, true), (2, true), (3, true), (4, true), (5, true), (6, true), (7, true), (8, true), (9, false), (10, true), (11, true), (12, true), (13, true), (14, true)] (by kernel_rfl) (by kernel_rfl) (by intro c a d v w h; cases d <;> exact h) ⟨q0, q1, q2⟩ ?_
  apply sig_still (o := ⟨some 12, _, _, _, _, _⟩) rfl rfl
  · intro w' hS
    obtain ⟨q1, q2, q3⟩ := hS
    first | (go_simp; done) | (go_simp; rfl) | rfl
  go_frame
  apply sig_still (o := ⟨some 13, _, _, _, _, _⟩) rfl rfl
  · intro w' hS
    obtain ⟨q1, q2, q3⟩ := hS
    first | (go_simp; done) | (go_simp; rfl) | rfl
  go_frame
  apply sig_still (o := ⟨some 14, _, _, _, _, _⟩) rfl rfl
  · intro w' hS
    obtain ⟨q1, q2, q3⟩ := hS
    first | (go_simp; done) | (go_simp; rfl) | rfl
  go_frame
  apply sig_still (o := ⟨some 15, _, _, _, _, _⟩) rfl rfl
  · intro w' hS
    obtain ⟨q1, q2, q3⟩ := hS
    first | (go_simp; done) | (go_simp; rfl) | rfl
  go_frame
  apply sig_still (o := ⟨some 16, _, _, _, _, _⟩) rfl rfl
  · intro w' hS
    obtain ⟨q1, q2, q3⟩ := hS
    first | (go_simp; done) | (go_simp; rfl) | rfl
  go_frame
  apply sig_still (o := ⟨some 17, _, _, _, _, _⟩) rfl rfl
  · intro w' hS
    obtain ⟨q1, q2, q3⟩ := hS
    first | (go_simp; done) | (go_simp; rfl) | rfl
  go_frame
  apply sig_still (o := ⟨some 18, _, _, _, _, _⟩) rfl rfl
  · intro w' hS
    obtain ⟨q1, q2, q3⟩ := hS
    first | (go_simp; done) | (go_simp; rfl) | rfl
  go_frame
  apply sig_still (o := ⟨some 19, _, _, _, _, _⟩) rfl rfl
  · intro w' hS
    obtain ⟨q1, q2, q3⟩ := hS
    first | (go_simp; done) | (go_simp; rfl) | rfl
  go_frame
  apply sig_still (o := ⟨some 20, _, _, _, _, _⟩) rfl rfl
  · intro w' hS
    obtain ⟨q1, q2, q3⟩ := hS
    first | (go_simp; done) | (go_simp; rfl) | rfl
  go_frame
  refine sig_eff (o := ⟨some 21, _, _, _, _, _⟩) rfl rfl (fun K hKe => ?_)
  go_wp2_with fail
  refine (HC.out _ hkW.drew).mono ?_
  rintro e w2 ⟨vc, rfl, hoc, hk2⟩
  have hk2' : Keep No W w2 := (Keep.refl No W).drew.trans' hk2
  have hBB := hBW.keep hk2' fun h => h
  have hB2 := hB1.keep hk2' fun h => h
  refine hKe _ _ ⟨fun _ => ⟨hB2.cell 10, hBB.cell 2, hBB.cell 4⟩, ?_⟩
  apply sig_still (o := ⟨some 11, _, _, _, _, _⟩) rfl rfl
  · intro w' hS
    obtain ⟨q1, q2, q3⟩ := hS
    first | (go_simp; done) | (go_simp; rfl) | rfl
  go_frame
  apply sig_still (o := ⟨some 22, _, _, _, _, _⟩) rfl rfl
  · intro w' hS
    obtain ⟨q1, q2, q3⟩ := hS
    first | (go_simp; done) | (go_simp; rfl) | rfl
  go_frame
  apply sig_still (o := ⟨some 23, _, _, _, _, _⟩) rfl rfl
  · intro w' hS
    obtain ⟨q1, q2, q3⟩ := hS
    first | (go_simp; done) | (go_simp; rfl) | rfl
  go_frame
  apply sig_still (o := ⟨some 5, _, _, _, _, _⟩) rfl rfl
  · intro w' hS
    obtain ⟨q1, q2, q3⟩ := hS
    first | (go_simp; done) | (go_simp; rfl) | rfl
  go_frame
  apply sig_still (o := ⟨some 6, _, _, _, _, _⟩) rfl rfl
  · intro w' hS
    obtain ⟨q1, q2, q3⟩ := hS
    first | (go_simp; done) | (go_simp; rfl) | rfl
  go_frame
  refine sig_nil ?_
  have hkw2 : Keep No w w2 := hkW.trans' hk2'
  have hbc := bts_own hoc
  obtain ⟨ac, qc, rfl, hqc1, hqc2⟩ := hbc.shape
  clear hKe hBB hBW q0 q1 q2 hB1 hk2 hk2' hkW hzW HC g10
  by_cases hce : ce = 0
  · subst hce
    have hH2 := Lib.hid (hH.out.trans (if_neg (by decide)))
    clear hH
    have hdy := dyget_any cb hbc (by omega)
    obtain ⟨k1, k2, k3, k4⟩ := dyM_ok cb
    generalize dyM cb = dd at *
    obtain ⟨de, ⟨x, dv⟩⟩ := dd
    dsimp only at hdy hH2 k1 k2 k3 k4 hg0 hg1 hg2
    obtain ⟨v0, v1, v2, v3, v4, v5, v6, rfl⟩ : ∃ v0 v1 v2 v3 v4 v5 v6, dv = [v0, v1, v2, v3, v4, v5, v6] := by
      match dv, k1 with
      | [v0, v1, v2, v3, v4, v5, v6], _ => exact ⟨_, _, _, _, _, _, _, rfl⟩
    have hg0 : v0 = u0 := hg0
    have hg1 : v1 = u1 := hg1
    have hg2 : v2 = u2 := hg2
    subst hg0
    subst hg1
    subst hg2
    have o0 := k2 v0 (by simp)
    have o1 := k2 v1 (by simp)
    have o2 := k2 v2 (by simp)
    have o3 := k2 v3 (by simp)
    have o4 := k2 v4 (by simp)
    have o5 := k2 v5 (by simp)
    have o6 := k2 v6 (by simp)
    simp only [List.map_cons, List.map_nil] at hdy
    clear k1 k2
    go_wp2_with fail
    refine hdy.mono ?_
    clear hdy
    rintro e w3 ⟨vi', rfl, hoi, hk3⟩
    have hkw3 := hkw2.trans' hk3
    have hB3 := hB2.keep hk3 fun h => h
    have hfi := hoi.fl
    obtain ⟨ai, ci, rfl, _, _⟩ := hfi.shape
    have hkw3m : Keep (fun j => j = R) w w3 := hkw3.mono fun _ _ h => h.elim
    go_wp2_with (with_reducible refine wl_st rfl _ _ _ rfl _ _ _ rfl rfl ?_)
    refine rg_stN hB3 (by kernel_rfl) (by show 11 + 8 ≤ 20; decide) (by simp [Value.oneCell']) ?_
    intro w4 hB4' hk4 _
    have hB4 : Blk w4 R (rdB h vs [] (.slice none 0 0) vm vy vr (.slice ab b.length qb) (.slice ai x.length ci) v0 v1 v2 v3 v4 v5 v6 vt) 147 := hB4'
    have hkw4 := hkw3m.trans' hk4
    clear hB4' hB3
    by_cases hde : de = 0
    · subst hde
      have hH3 := Lib.hid (hH2.out.trans (if_neg (by decide)))
      clear hH2
      have q13 : w4.cell? ⟨R, 13, none⟩ = some (.int .u64 (v1 : Int)) := hB4.cell 13
      have q14 : w4.cell? ⟨R, 14, none⟩ = some (.int .u64 (v2 : Int)) := hB4.cell 14
      have hfi4 : Fl B w4 1 encN (.slice ai x.length ci) x := (hfi.keep hk4 fun j hj h e => by
        have e2 : j = R := e
        have h1 : w2.heap.size ≤ j := h.1
        have h2 := hkw2.size
        omega).mono fun j _ h => hNw j (Nat.le_trans hkw2.size h.1)
      have hl4 := hl.keep hkw4 fun j _ h1 h2 => hNe j h1 h2
      have hb4 : Bts B w4 (.slice ab b.length qb) b := Sl.keep hb hkw4 fun j _ h1 h2 => hNe j h1 h2
      have hat : ∀ W, Keep No w4 W → Calls Tryz.prog 85 #[.pointer (some ⟨R, 0, none⟩), .int .u64 (v1 : Int), .int .u64 (v2 : Int)] W fun e w' => ∃ v', e = .returned (.tuple #[v', .int .i64 ((atI b l v1 v2).1 : Nat)]) ∧ w'.ownsRow W.heap.size 5 1 v' (atI b l v1 v2).2.length ((atI b l v1 v2).2.map bv) ∧ Keep No W w' := fun W hk =>
        imat_any l b v1 v2 (hB4.keep hk fun h => h) (hl4.no hk) (Sl.keep hb4 hk fun _ _ _ h => h) (by omega) hok hok2 o1 o2
      have htl := atI_lt b l v1 v2
      generalize atI b l v1 v2 = ta at *
      obtain ⟨te, tb⟩ := ta
      dsimp only at hat htl hH3
      have HAt := Lib.hid hat
      clear hat
      go_wp2_with fail
      refine wp_region_sig (fun w' => w'.cell? ⟨R, 13, none⟩ = some (.int .u64 (v1 : Int)) ∧ w'.cell? ⟨R, 14, none⟩ = some (.int .u64 (v2 : Int))) (fun j => decide (j ≤ 99)) [(0, true), (1, true), (2, true), (3, true), (4, true), (5, true), (6, true), (7, true), (8, true), (9, true), (10, true), (11, true), (12, false), (13, true), (14, true), (15, true), (16, true), (17, true), (18, false), (19, true)] (by kernel_rfl) (by kernel_rfl) (by intro c a d v w h; cases d <;> exact h) ⟨q13, q14⟩ ?_
      apply sig_still (o := ⟨some 39, _, _, _, _, _⟩) rfl rfl
      · intro w' hS
        obtain ⟨q1, q2⟩ := hS
        first | (go_simp; done) | (go_simp; rfl) | rfl
      go_frame
      apply sig_still (o := ⟨some 40, _, _, _, _, _⟩) rfl rfl
      · intro w' hS
        obtain ⟨q1, q2⟩ := hS
        first | (go_simp; done) | (go_simp; rfl) | rfl
      go_frame
      apply sig_still (o := ⟨some 41, _, _, _, _, _⟩) rfl rfl
      · intro w' hS
        obtain ⟨q1, q2⟩ := hS
        first | (go_simp; done) | (go_simp; rfl) | rfl
      go_frame
      apply sig_still (o := ⟨some 42, _, _, _, _, _⟩) rfl rfl
      · intro w' hS
        obtain ⟨q1, q2⟩ := hS
        first | (go_simp; done) | (go_simp; rfl) | rfl
      go_frame
      apply sig_still (o := ⟨some 43, _, _, _, _, _⟩) rfl rfl
      · intro w' hS
        obtain ⟨q1, q2⟩ := hS
        first | (go_simp; done) | (go_simp; rfl) | rfl
      go_frame
      apply sig_still (o := ⟨some 44, _, _, _, _, _⟩) rfl rfl
      · intro w' hS
        obtain ⟨q1, q2⟩ := hS
        first | (go_simp; done) | (go_simp; rfl) | rfl
      go_frame
      apply sig_still (o := ⟨some 45, _, _, _, _, _⟩) rfl rfl
      · intro w' hS
        obtain ⟨q1, q2⟩ := hS
        first | (go_simp; done) | (go_simp; rfl) | rfl
      go_frame
      apply sig_still (o := ⟨some 46, _, _, _, _, _⟩) rfl rfl
      · intro w' hS
        obtain ⟨q1, q2⟩ := hS
        first | (go_simp; done) | (go_simp; rfl) | rfl
      go_frame
      apply sig_still (o := ⟨some 47, _, _, _, _, _⟩) rfl rfl
      · intro w' hS
        obtain ⟨q1, q2⟩ := hS
        first | (go_simp; done) | (go_simp; rfl) | rfl
      go_frame
      apply sig_still (o := ⟨some 48, _, _, _, _, _⟩) rfl rfl
      · intro w' hS
        obtain ⟨q1, q2⟩ := hS
        first | (go_simp; done) | (go_simp; rfl) | rfl
      go_frame
      apply sig_still (o := ⟨some 49, _, _, _, _, _⟩) rfl rfl
      · intro w' hS
        obtain ⟨q1, q2⟩ := hS
        first | (go_simp; done) | (go_simp; rfl) | rfl
      go_frame
      apply sig_still (o := ⟨some 50, _, _, _, _, _⟩) rfl rfl
      · intro w' hS
        obtain ⟨q1, q2⟩ := hS
        first | (go_simp; done) | (go_simp; rfl) | rfl
      go_frame
      refine sig_eff (o := ⟨some 51, _, _, _, _, _⟩) rfl rfl (fun K hKe => ?_)
      go_wp2_with fail
      refine (HAt.out _ (Keep.refl No w4).drew).mono ?_
      rintro e w5 ⟨vt', rfl, hot, hk5⟩
      have hk5' : Keep No w4 w5 := (Keep.refl No w4).drew.trans' hk5
      have hB5 := hB4.keep hk5' fun h => h
      refine hKe _ _ ⟨fun _ => ⟨hB5.cell 13, hB5.cell 14⟩, ?_⟩
      clear hKe HAt
      have hbt := bts_own hot
      obtain ⟨at_, qt, rfl, _, _⟩ := hbt.shape
      apply sig_still (o := ⟨some 38, _, _, _, _, _⟩) rfl rfl
      · intro w' hS
        obtain ⟨q1, q2⟩ := hS
        first | (go_simp; done) | (go_simp; rfl) | rfl
      go_frame
      apply sig_still (o := ⟨some 52, _, _, _, _, _⟩) rfl rfl
      · intro w' hS
        obtain ⟨q1, q2⟩ := hS
        first | (go_simp; done) | (go_simp; rfl) | rfl
      go_frame
      apply sig_still (o := ⟨some 53, _, _, _, _, _⟩) rfl rfl
      · intro w' hS
        obtain ⟨q1, q2⟩ := hS
        first | (go_simp; done) | (go_simp; rfl) | rfl
      go_frame
      apply sig_still (o := ⟨some 54, _, _, _, _, _⟩) rfl rfl
      · intro w' hS
        obtain ⟨q1, q2⟩ := hS
        first | (go_simp; done) | (go_simp; rfl) | rfl
      go_frame
      apply sig_still (o := ⟨some 55, _, _, _, _, _⟩) rfl rfl
      · intro w' hS
        obtain ⟨q1, q2⟩ := hS
        first | (go_simp; done) | (go_simp; rfl) | rfl
      go_frame
      refine sig_eff (o := ⟨none, _, _, _, _, _⟩) rfl rfl (fun K hKe => ?_)
      refine wo_st (.tmp 55) (.tmp 52) 24 rfl _ _ _ rfl rfl ?_
      refine rg_st1 hB5 (by kernel_rfl) (by show 19 < 20; decide) rfl rfl ?_
      intro w6 hB6' hk6 _
      have hB6 : Blk w6 R (rdB h vs [] (.slice none 0 0) vm vy vr (.slice ab b.length qb) (.slice ai x.length ci) v0 v1 v2 v3 v4 v5 v6 (.slice at_ tb.length qt)) 147 := hB6'
      refine hKe _ _ ⟨fun _ => ⟨hB6.cell 13, hB6.cell 14⟩, ?_⟩
      apply sig_still (o := ⟨some 6, _, _, _, _, _⟩) rfl rfl
      · intro w' hS
        obtain ⟨q1, q2⟩ := hS
        first | (go_simp; done) | (go_simp; rfl) | rfl
      go_frame
      refine sig_nil ?_
      have hbt6 : Bts B w6 (.slice at_ tb.length qt) tb := (hbt.keep hk6 fun j hj h e => by
        have e2 : j = R := e
        have h1 : w4.heap.size ≤ j := h.1
        have h2 := hB4.lt
        omega).mono fun j _ h => hNw j (Nat.le_trans hkw4.size h.1)
      have hfi6 := (hfi4.no hk5').keep hk6 fun j _ h1 h2 => hNe j h1 h2
      have hkw6 := (hkw4.trans hk5' fun _ _ h => h.elim).trans' hk6
      clear hKe hbt hot hB6' hk5 hk5' hk6 hB5 hB4 hfi4 hl4 hb4 q13 q14 hfi hoi hk3 hkw3 hbc hoc hkw3m hkw4 hk4
      by_cases hte : te = 0
      · subst hte
        have hH4 := Lib.hid (hH3.out.trans (if_neg (by decide)))
        clear hH3
        have hchk : ∀ W, Keep No w6 W → Calls Tryz.prog 86 #[.slice at_ tb.length qt] W fun e w' => e = .returned (.int .i64 (chkN tb : Nat)) ∧ W = w' := fun W hk => nchk_any tb (Sl.keep hbt6 hk fun _ _ _ h => h) (by omega)
        have q19 : w6.cell? ⟨R, 19, none⟩ = some (.slice at_ tb.length qt) := hB6.cell 19
        have hchk6 := hchk w6 (Keep.refl _ _)
        generalize chkN tb = ck at *
        go_wp2_with fail
        refine hchk6.mono ?_
        rintro e w7 ⟨rfl, rfl⟩
        clear hchk hchk6
        by_cases hck : ck = 0
        · subst hck
          have hH5 := Lib.hid (hH4.out.trans (if_neg (by decide)))
          clear hH4
          have q12 : w6.cell? ⟨R, 12, none⟩ = some (.int .u64 (v0 : Int)) := hB6.cell 12
          by_cases hv0 : v0 = 0
          · have hv0i : ((v0 : Int) != 0) = false := by rw [bne_eq_false_iff_eq]; omega
            have hso : soM tb v0 = (0, []) := by unfold soM; rw [if_pos hv0]
            have hHL := hH5.out
            rw [hso, if_neg (by decide)] at hHL
            have hHL := Lib.hid hHL
            clear hH5 hso hv0
            have hBL := hB6
            have hbtL := hbt6
            have hfiL := hfi6
            have hkwL := hkw6
            clear hB6 hbt6 hfi6 hkw6
            have qL11 : w6.cell? ⟨R, 11, none⟩ = some (.slice ai x.length ci) := hBL.cell 11
            go_wp2_with fail
            clear hv0i
            go_loopw [99] (fun iv wr => ∃ (i : Nat) (acc : List BS) (vn' : Value), iv = .int .i64 i ∧ i ≤ x.length ∧ acc.length = i ∧ needGo tb (x.drop i) acc = needGo tb x [] ∧ Blk wr R (rdB h vs [] vn' vm vy vr (.slice ab b.length qb) (.slice ai x.length ci) v0 v1 v2 v3 v4 v5 v6 (.slice at_ tb.length qt)) 147 ∧ FlO wr w6.heap.size 9 1 encS vn' acc ∧ Keep (fun j => j = R) w6 wr) (fun iv _ => x.length - (intOf iv).toNat)
            case atStart => exact ⟨0, [], _, rfl, Nat.zero_le _, rfl, rfl, hBL, FlO.nil, Keep.refl _ _⟩
            case round =>
              obtain ⟨i, acc, vn', rfl, hi, hacc, hgo, hBr, hO, hK⟩ := hrel
              generalize wr = wz at *
              have hRL := hBL.lt
              rcases Nat.lt_or_ge i x.length with hlt | hge
              · obtain ⟨g1, off, cap, ev, _, hg1, _, _, hc⟩ := (hfiL.keep hK fun j _ h1 h2 => hNe j h1 h2).at (fun _ => rfl) hlt
                cases ev
                have hiz : (i : Int) < (x.length : Int) := by omega
                rw [List.drop_eq_getElem_cons hlt, needGo_cons] at hgo
                have hx := k3 x[i] (List.getElem_mem hlt)
                have hat := nat_any tb x[i] (Sl.keep hbtL hK fun j _ h1 h2 => hNe j h1 h2) (by omega) hx
                have c0 := hc 0 _ rfl
                rw [Nat.add_zero, Nat.mul_one] at c0
                clear hc
                generalize atM tb x[i] = nm at *
                generalize x[i] = xi at *
                obtain ⟨ne, n⟩ := nm
                dsimp only at hat hgo
                have r19 : wz.cell? ⟨R, 19, none⟩ = some (.slice at_ tb.length qt) := hBr.cell 19
                have r6 : wz.cell? ⟨R, 6, none⟩ = some vn' := hBr.cell 6
                have HGo := Lib.hid hgo
                clear hgo
                by_cases hne0 : ne = 0
                · subst hne0
                  have HG2 := Lib.hid ((if_neg (by decide)).symm.trans HGo.out)
                  clear HGo
                  have ht : (⟨n.toArray⟩ : ByteArray).toList = n := by rw [Lib.toList_data]
                  have he : (⟨#[]⟩ : ByteArray).toList = [] := by rw [Lib.toList_data]
                  cases n with
                  | nil =>
                    have HG3 := Lib.hid ((if_pos rfl).symm.trans HG2.out)
                    clear HG2 ht he
                    have hHf := hHL.out
                    rw [← HG3.out, if_pos (by decide)] at hHf
                    have HHf := Lib.hid hHf
                    clear hHf
                    go_wp2_with fail
                    refine hat.mono ?_
                    rintro e w9 ⟨rfl, rfl⟩
                    go_wp2_with fail
                    go_ret
                    rw [HHf.out]
                    exact ⟨rfl, hkwL.trans' hK, fun h => absurd h (by decide)⟩
                  | cons c r =>
                    have HG3 := Lib.hid ((if_neg (by simp)).symm.trans HG2.out)
                    clear HG2
                    have hs : ∃ bs : ByteArray, bs = ⟨(c :: r).toArray⟩ := ⟨_, rfl⟩
                    obtain ⟨bs, hbs⟩ := hs
                    rw [← hbs] at hat ht
                    have HBS := Lib.hid hbs
                    clear hbs
                    go_wp2_with fail
                    refine hat.mono ?_
                    clear hat
                    rintro e w9 ⟨rfl, rfl⟩
                    go_wp2_with (at_builtin; refine wl_append rfl _ _ _ _ rfl _ _ rfl rfl ?_)
                    refine rg_push (P := Tryz.prog) (enc := encS) (x := c :: r) _ _ Tryz.underlying37 str_info (by rfl) (by decide) (by rw [HBS.out]; rfl) (by rfl) (by intro u hu; rw [List.mem_singleton.1 hu]; rfl) hO (by omega) (by decide) hK.size ?_
                    intro v4 w4_ ho4 hk4 _
                    have hBr4 := hBr.own hO hk4 hRL
                    have hf4 := ho4.fl
                    obtain ⟨n4, a4, q4, ev4⟩ : ∃ n a c, v4 = .slice a n c := by
                      obtain ⟨a, c, e, _⟩ := hf4.shape
                      exact ⟨_, _, _, e⟩
                    subst ev4
                    have hK4 : Keep (fun j => j = R) w6 w4_ := hK.trans hk4 fun j hj e => absurd (World.ownsRow.lt hO _ e.symm).1 (Nat.not_le.2 hj)
                    clear hO hBr hk4 c0 r19 r6
                    go_wp2_with (with_reducible refine wl_st rfl _ _ _ rfl _ _ _ rfl rfl ?_)
                    refine rg_st1 hBr4 (by kernel_rfl) (by show 6 < 20; decide) rfl rfl ?_
                    intro w5_ hB5' hk5 _
                    have hB5 : Blk w5_ R (rdB h vs [] (.slice a4 n4 q4) vm vy vr (.slice ab b.length qb) (.slice (some ⟨g1, off, none⟩) x.length ci) v0 v1 v2 v3 v4 v5 v6 (.slice at_ tb.length qt)) 147 := hB5'
                    go_wp2_with fail
                    go_roundw
                    case rel => exact ⟨i + 1, acc ++ [c :: r], _, by go_num, hlt, by rw [List.length_append, hacc]; rfl, HG3.out, hB5, own_keep ho4 hk5 (fun j hj e => by have e2 : j = R := e; omega), hK4.trans' hk5⟩
                    case measure => simp [intOf]; omega
                · have hnei : ((ne : Int) == 0) = false := by rw [beq_eq_false_iff_ne]; omega
                  have HG2 := Lib.hid ((if_pos hne0).symm.trans HGo.out)
                  have hHf := hHL.out
                  rw [← HG2.out, if_pos hne0] at hHf
                  have HHf := Lib.hid hHf
                  clear hHf HGo
                  generalize (⟨n.toArray⟩ : ByteArray) = bs at *
                  go_wp2_with fail
                  refine hat.mono ?_
                  rintro e w9 ⟨rfl, rfl⟩
                  go_wp2_with fail
                  go_ret
                  rw [HHf.out]
                  exact ⟨rfl, hkwL.trans' hK, fun h => absurd h hne0⟩
              · obtain rfl : i = x.length := Nat.le_antisymm hi hge
                rw [List.drop_length] at hgo
                have hHf := hHL.out
                rw [← hgo] at hHf
                have HHf : Hid (res = (0, ⟨⟨x, [v0, v1, v2, v3, v4, v5, v6]⟩, tb, [], acc⟩)) := Lib.hid hHf
                clear hHf hgo
                go_wp2_with fail
                go_ret
                rw [HHf.out]
                refine ⟨rfl, hkwL.trans' hK, fun _ => ⟨_, _, _, _, _, _, _, _, _, _, rfl, hBr, Sl.keep hbtL hK fun j _ h1 h2 => hNe j h1 h2, hO.fl.mono fun j _ hj => hNw j (Nat.le_trans hkwL.size hj.1)⟩⟩
          · have hv0i : ((v0 : Int) != 0) = true := by rw [bne_iff_ne]; omega
            have hso : soM tb v0 = atM tb v0 := by unfold soM; rw [if_neg hv0]
            have hat0 := fun W (hk : Keep No w6 W) => nat_any (w := W) tb v0 (Sl.keep hbt6 hk fun _ _ _ h => h) (by omega) o0
            have hH6 := hH5.out
            rw [hso] at hH6
            clear hH5 hso hv0
            generalize atM tb v0 = sm at *
            obtain ⟨se, sn⟩ := sm
            dsimp only at hat0 hH6
            have HH6 := Lib.hid hH6
            clear hH6
            have hs : ∃ bs : ByteArray, bs = ⟨sn.toArray⟩ := ⟨_, rfl⟩
            obtain ⟨bs, hbs⟩ := hs
            rw [← hbs] at hat0
            have HBS := Lib.hid hbs
            have HA0 := Lib.hid hat0
            clear hbs hat0
            go_wp2_with fail
            refine wp_region_sig (fun w' => w'.cell? ⟨R, 19, none⟩ = some (.slice at_ tb.length qt) ∧ w'.cell? ⟨R, 12, none⟩ = some (.int .u64 (v0 : Int))) (fun j => decide (j ≤ 99)) [(0, true), (1, true), (2, true), (3, true), (4, true), (5, true), (6, true), (7, true), (8, true), (9, true), (10, false), (11, true), (12, true), (13, true), (14, true), (15, true), (16, true), (17, false), (18, true)] (by kernel_rfl) (by kernel_rfl) (by intro c a d v w h; cases d <;> exact h) ⟨q19, q12⟩ ?_
            apply sig_still (o := ⟨some 74, _, _, _, _, _⟩) rfl rfl
            · intro w' hS
              obtain ⟨q1, q2⟩ := hS
              first | (go_simp; done) | (go_simp; rfl) | rfl
            go_frame
            apply sig_still (o := ⟨some 75, _, _, _, _, _⟩) rfl rfl
            · intro w' hS
              obtain ⟨q1, q2⟩ := hS
              first | (go_simp; done) | (go_simp; rfl) | rfl
            go_frame
            apply sig_still (o := ⟨some 76, _, _, _, _, _⟩) rfl rfl
            · intro w' hS
              obtain ⟨q1, q2⟩ := hS
              first | (go_simp; done) | (go_simp; rfl) | rfl
            go_frame
            apply sig_still (o := ⟨some 77, _, _, _, _, _⟩) rfl rfl
            · intro w' hS
              obtain ⟨q1, q2⟩ := hS
              first | (go_simp; done) | (go_simp; rfl) | rfl
            go_frame
            apply sig_still (o := ⟨some 78, _, _, _, _, _⟩) rfl rfl
            · intro w' hS
              obtain ⟨q1, q2⟩ := hS
              first | (go_simp; done) | (go_simp; rfl) | rfl
            go_frame
            apply sig_still (o := ⟨some 79, _, _, _, _, _⟩) rfl rfl
            · intro w' hS
              obtain ⟨q1, q2⟩ := hS
              first | (go_simp; done) | (go_simp; rfl) | rfl
            go_frame
            apply sig_still (o := ⟨some 80, _, _, _, _, _⟩) rfl rfl
            · intro w' hS
              obtain ⟨q1, q2⟩ := hS
              first | (go_simp; done) | (go_simp; rfl) | rfl
            go_frame
            apply sig_still (o := ⟨some 81, _, _, _, _, _⟩) rfl rfl
            · intro w' hS
              obtain ⟨q1, q2⟩ := hS
              first | (go_simp; done) | (go_simp; rfl) | rfl
            go_frame
            apply sig_still (o := ⟨some 82, _, _, _, _, _⟩) rfl rfl
            · intro w' hS
              obtain ⟨q1, q2⟩ := hS
              first | (go_simp; done) | (go_simp; rfl) | rfl
            go_frame
            apply sig_still (o := ⟨some 83, _, _, _, _, _⟩) rfl rfl
            · intro w' hS
              obtain ⟨q1, q2⟩ := hS
              first | (go_simp; done) | (go_simp; rfl) | rfl
            go_frame
            refine sig_eff (o := ⟨some 84, _, _, _, _, _⟩) rfl rfl (fun K hKe => ?_)
            go_wp2_with fail
            refine (HA0.out _ (Keep.refl No w6).drew).mono ?_
            rintro e w7 ⟨rfl, rfl⟩
            refine hKe _ _ ⟨fun _ => ⟨q19, q12⟩, ?_⟩
            clear hKe HA0
            apply sig_still (o := ⟨some 73, _, _, _, _, _⟩) rfl rfl
            · intro w' hS
              obtain ⟨q1, q2⟩ := hS
              first | (go_simp; done) | (go_simp; rfl) | rfl
            go_frame
            apply sig_still (o := ⟨some 85, _, _, _, _, _⟩) rfl rfl
            · intro w' hS
              obtain ⟨q1, q2⟩ := hS
              first | (go_simp; done) | (go_simp; rfl) | rfl
            go_frame
            apply sig_still (o := ⟨some 86, _, _, _, _, _⟩) rfl rfl
            · intro w' hS
              obtain ⟨q1, q2⟩ := hS
              first | (go_simp; done) | (go_simp; rfl) | rfl
            go_frame
            apply sig_still (o := ⟨some 87, _, _, _, _, _⟩) rfl rfl
            · intro w' hS
              obtain ⟨q1, q2⟩ := hS
              first | (go_simp; done) | (go_simp; rfl) | rfl
            go_frame
            apply sig_still (o := ⟨some 88, _, _, _, _, _⟩) rfl rfl
            · intro w' hS
              obtain ⟨q1, q2⟩ := hS
              first | (go_simp; done) | (go_simp; rfl) | rfl
            go_frame
            apply sig_still (o := ⟨some 89, _, _, _, _, _⟩) rfl rfl
            · intro w' hS
              obtain ⟨q1, q2⟩ := hS
              first | (go_simp; done) | (go_simp; rfl) | rfl
            go_frame
            refine sig_eff (o := ⟨none, _, _, _, _, _⟩) rfl rfl (fun K hKe => ?_)
            have hB6d : Blk w6.drew R (rdB h vs [] (.slice none 0 0) vm vy vr (.slice ab b.length qb) (.slice ai x.length ci) v0 v1 v2 v3 v4 v5 v6 (.slice at_ tb.length qt)) 147 := hB6
            refine wo_st (.tmp 89) (.tmp 85) 9 rfl _ _ _ rfl rfl ?_
            refine rg_st1 hB6d (by kernel_rfl) (by show 5 < 20; decide) rfl rfl ?_
            intro w8 hB8' hk8 _
            have hB8 : Blk w8 R (rdB h vs sn (.slice none 0 0) vm vy vr (.slice ab b.length qb) (.slice ai x.length ci) v0 v1 v2 v3 v4 v5 v6 (.slice at_ tb.length qt)) 147 := by
              have e := hB8'
              rw [HBS.out] at e
              exact e
            refine hKe _ _ ⟨fun _ => ⟨hB8.cell 19, hB8.cell 12⟩, ?_⟩
            apply sig_still (o := ⟨some 6, _, _, _, _, _⟩) rfl rfl
            · intro w' hS
              obtain ⟨q1, q2⟩ := hS
              first | (go_simp; done) | (go_simp; rfl) | rfl
            go_frame
            refine sig_nil ?_
            have hk8' : Keep (fun j => j = R) w6 w8 := (Keep.refl (fun j => j = R) w6).drew.trans' hk8
            have hbtL := Sl.keep hbt6 hk8' fun j _ h1 h2 => hNe j h1 h2
            have hfiL := hfi6.keep hk8' fun j _ h1 h2 => hNe j h1 h2
            have hkwL := hkw6.trans' hk8'
            clear hKe hB8' hk8 hk8' hB6d hB6 hbt6 hfi6 hkw6 q19 q12
            by_cases hse : se = 0
            · subst hse
              rw [show ((0 : Nat) : Int) = 0 from rfl]
              have hHL := Lib.hid (HH6.out.trans (if_neg (by decide)))
              have hBL := hB8
              clear HH6 hB8
              have qL11 : w8.cell? ⟨R, 11, none⟩ = some (.slice ai x.length ci) := hBL.cell 11
              go_wp2_with fail
              clear hv0i
              go_loopw [99] (fun iv wr => ∃ (i : Nat) (acc : List BS) (vn' : Value), iv = .int .i64 i ∧ i ≤ x.length ∧ acc.length = i ∧ needGo tb (x.drop i) acc = needGo tb x [] ∧ Blk wr R (rdB h vs sn vn' vm vy vr (.slice ab b.length qb) (.slice ai x.length ci) v0 v1 v2 v3 v4 v5 v6 (.slice at_ tb.length qt)) 147 ∧ FlO wr w8.heap.size 9 1 encS vn' acc ∧ Keep (fun j => j = R) w8 wr) (fun iv _ => x.length - (intOf iv).toNat)
              case atStart => exact ⟨0, [], _, rfl, Nat.zero_le _, rfl, rfl, hBL, FlO.nil, Keep.refl _ _⟩
              case round =>
                obtain ⟨i, acc, vn', rfl, hi, hacc, hgo, hBr, hO, hK⟩ := hrel
                generalize wr = wz at *
                have hRL := hBL.lt
                rcases Nat.lt_or_ge i x.length with hlt | hge
                · obtain ⟨g1, off, cap, ev, _, hg1, _, _, hc⟩ := (hfiL.keep hK fun j _ h1 h2 => hNe j h1 h2).at (fun _ => rfl) hlt
                  cases ev
                  have hiz : (i : Int) < (x.length : Int) := by omega
                  rw [List.drop_eq_getElem_cons hlt, needGo_cons] at hgo
                  have hx := k3 x[i] (List.getElem_mem hlt)
                  have hat := nat_any tb x[i] (Sl.keep hbtL hK fun j _ h1 h2 => hNe j h1 h2) (by omega) hx
                  have c0 := hc 0 _ rfl
                  rw [Nat.add_zero, Nat.mul_one] at c0
                  clear hc
                  generalize atM tb x[i] = nm at *
                  generalize x[i] = xi at *
                  obtain ⟨ne, n⟩ := nm
                  dsimp only at hat hgo
                  have r19 : wz.cell? ⟨R, 19, none⟩ = some (.slice at_ tb.length qt) := hBr.cell 19
                  have r6 : wz.cell? ⟨R, 6, none⟩ = some vn' := hBr.cell 6
                  have HGo := Lib.hid hgo
                  clear hgo
                  by_cases hne0 : ne = 0
                  · subst hne0
                    have HG2 := Lib.hid ((if_neg (by decide)).symm.trans HGo.out)
                    clear HGo
                    have ht : (⟨n.toArray⟩ : ByteArray).toList = n := by rw [Lib.toList_data]
                    have he : (⟨#[]⟩ : ByteArray).toList = [] := by rw [Lib.toList_data]
                    cases n with
                    | nil =>
                      have HG3 := Lib.hid ((if_pos rfl).symm.trans HG2.out)
                      clear HG2 ht he
                      have hHf := hHL.out
                      rw [← HG3.out, if_pos (by decide)] at hHf
                      have HHf := Lib.hid hHf
                      clear hHf
                      go_wp2_with fail
                      refine hat.mono ?_
                      rintro e w9 ⟨rfl, rfl⟩
                      go_wp2_with fail
                      go_ret
                      rw [HHf.out]
                      exact ⟨rfl, hkwL.trans' hK, fun h => absurd h (by decide)⟩
                    | cons c r =>
                      have HG3 := Lib.hid ((if_neg (by simp)).symm.trans HG2.out)
                      clear HG2
                      have hs : ∃ bs : ByteArray, bs = ⟨(c :: r).toArray⟩ := ⟨_, rfl⟩
                      obtain ⟨bs, hbs⟩ := hs
                      rw [← hbs] at hat ht
                      have HBS := Lib.hid hbs
                      clear hbs
                      go_wp2_with fail
                      refine hat.mono ?_
                      clear hat
                      rintro e w9 ⟨rfl, rfl⟩
                      go_wp2_with (at_builtin; refine wl_append rfl _ _ _ _ rfl _ _ rfl rfl ?_)
                      refine rg_push (P := Tryz.prog) (enc := encS) (x := c :: r) _ _ Tryz.underlying37 str_info (by rfl) (by decide) (by rw [HBS.out]; rfl) (by rfl) (by intro u hu; rw [List.mem_singleton.1 hu]; rfl) hO (by omega) (by decide) hK.size ?_
                      intro v4 w4_ ho4 hk4 _
                      have hBr4 := hBr.own hO hk4 hRL
                      have hf4 := ho4.fl
                      obtain ⟨n4, a4, q4, ev4⟩ : ∃ n a c, v4 = .slice a n c := by
                        obtain ⟨a, c, e, _⟩ := hf4.shape
                        exact ⟨_, _, _, e⟩
                      subst ev4
                      have hK4 : Keep (fun j => j = R) w8 w4_ := hK.trans hk4 fun j hj e => absurd (World.ownsRow.lt hO _ e.symm).1 (Nat.not_le.2 hj)
                      clear hO hBr hk4 c0 r19 r6
                      go_wp2_with (with_reducible refine wl_st rfl _ _ _ rfl _ _ _ rfl rfl ?_)
                      refine rg_st1 hBr4 (by kernel_rfl) (by show 6 < 20; decide) rfl rfl ?_
                      intro w5_ hB5' hk5 _
                      have hB5 : Blk w5_ R (rdB h vs sn (.slice a4 n4 q4) vm vy vr (.slice ab b.length qb) (.slice (some ⟨g1, off, none⟩) x.length ci) v0 v1 v2 v3 v4 v5 v6 (.slice at_ tb.length qt)) 147 := hB5'
                      go_wp2_with fail
                      go_roundw
                      case rel => exact ⟨i + 1, acc ++ [c :: r], _, by go_num, hlt, by rw [List.length_append, hacc]; rfl, HG3.out, hB5, own_keep ho4 hk5 (fun j hj e => by have e2 : j = R := e; omega), hK4.trans' hk5⟩
                      case measure => simp [intOf]; omega
                  · have hnei : ((ne : Int) == 0) = false := by rw [beq_eq_false_iff_ne]; omega
                    have HG2 := Lib.hid ((if_pos hne0).symm.trans HGo.out)
                    have hHf := hHL.out
                    rw [← HG2.out, if_pos hne0] at hHf
                    have HHf := Lib.hid hHf
                    clear hHf HGo
                    generalize (⟨n.toArray⟩ : ByteArray) = bs at *
                    go_wp2_with fail
                    refine hat.mono ?_
                    rintro e w9 ⟨rfl, rfl⟩
                    go_wp2_with fail
                    go_ret
                    rw [HHf.out]
                    exact ⟨rfl, hkwL.trans' hK, fun h => absurd h hne0⟩
                · obtain rfl : i = x.length := Nat.le_antisymm hi hge
                  rw [List.drop_length] at hgo
                  have hHf := hHL.out
                  rw [← hgo] at hHf
                  have HHf : Hid (res = (0, ⟨⟨x, [v0, v1, v2, v3, v4, v5, v6]⟩, tb, sn, acc⟩)) := Lib.hid hHf
                  clear hHf hgo
                  go_wp2_with fail
                  go_ret
                  rw [HHf.out]
                  refine ⟨rfl, hkwL.trans' hK, fun _ => ⟨_, _, _, _, _, _, _, _, _, _, rfl, hBr, Sl.keep hbtL hK fun j _ h1 h2 => hNe j h1 h2, hO.fl.mono fun j _ hj => hNw j (Nat.le_trans hkwL.size hj.1)⟩⟩
            · have hsei : ((se : Int) == 0) = false := by rw [beq_eq_false_iff_ne]; omega
              have hH7 := HH6.out.trans (if_pos hse)
              subst hH7
              clear hv0i HBS hB8 hfiL HH6
              go_wp2_with fail
              go_ret
              exact ⟨rfl, hkwL, fun h => absurd h hse⟩
        · have hcki : ((ck : Int) == 0) = false := by rw [beq_eq_false_iff_ne]; omega
          have hH5 := hH4.out.trans (if_pos hck)
          subst hH5
          go_wp2_with fail
          go_ret
          exact ⟨rfl, hkw6, fun h => absurd h hck⟩
      · have htei : ((te : Int) == 0) = false := by rw [beq_eq_false_iff_ne]; omega
        have hH4 := hH3.out.trans (if_pos hte)
        subst hH4
        go_wp2_with fail
        go_ret
        exact ⟨rfl, hkw6, fun h => absurd h hte⟩
    · have hdei : ((de : Int) == 0) = false := by rw [beq_eq_false_iff_ne]; omega
      have hH3 := hH2.out.trans (if_pos hde)
      subst hH3
      go_wp2_with fail
      go_ret
      exact ⟨rfl, hkw4, fun h => absurd h hde⟩
  · have hcei : ((ce : Int) == 0) = false := by rw [beq_eq_false_iff_ne]; omega
    have hH2 := hH.out.trans (if_pos hce)
    subst hH2
    go_wp2_with fail
    go_ret
    exact ⟨rfl, hkw2.mono (fun _ _ h => h.elim), fun h => absurd h hce⟩
end
end Go.Proofs.YtbnahidopemkiaaGreat
namespace Go.Dm.Ld
open Go Go.Dm.Oc
theorem nmGo_cons (t : BS) (s : Sy) (r : List Sy) (acc : List BS) : nmGo t (s :: r) acc = if (atM t s.nm).1 ≠ 0 then ((atM t s.nm).1, []) else nmGo t r (acc ++ [(atM t s.nm).2]) := rfl
theorem syTab_len (b : BS) : (syTab b).2.length ≤ b.length := by
  unfold syTab
  split
  · rw [List.length_map, List.length_range]; omega
  · exact Nat.zero_le _
end Go.Dm.Ld
namespace Go.Proofs.YtbnahidopemkiaaGreat
open Go.RowKit Go.Dm Go.Dm.Oc Go.Dm.Ld
section
variable {A : Nat → Prop} {w : World} {R : Nat} {h : Hd} {vs vn vm vy vr vb vi vt : Value} {so : BS} {d0 d1 d2 d3 d4 d5 d6 : Nat}
def SymsP (B : Nat → Prop) (R : Nat) (w : World) (h : Hd) (vs : Value) (so : BS) (vn vr vb vi : Value) (d0 d1 d2 d3 d4 d5 d6 : Nat) (vt : Value) (r : Nat × List Sy × List BS) (w' : World) : Prop :=
  Keep (fun j => j = R) w w' ∧ (r.1 = 0 → ∃ vm' vy', Blk w' R (rdB h vs so vn vm' vy' vr vb vi d0 d1 d2 d3 d4 d5 d6 vt) 147 ∧ Fl B w' 6 encSy vy' r.2.1 ∧ Fl B w' 1 encS vm' r.2.2)
set_option maxRecDepth 100000 in
set_option maxHeartbeats 8000000 in
theorem imsyms_any {B : Nat → Prop} (hNe : ∀ k, B k → k ≠ R) (hNw : ∀ k, w.heap.size ≤ k → B k) (l : List Sg) (b tb : BS) (d : Dy) (hd : d.v = [d0, d1, d2, d3, d4, d5, d6]) (hB : Blk w R (rdB h vs so vn (.slice none 0 0) (.slice none 0 0) vr vb vi d0 d1 d2 d3 d4 d5 d6 vt) 147) (hl : Fl B w 7 encSg vs l) (hb : Bts B w vb b) (hbl : b.length ≤ 65536)
    (hok : ∀ x ∈ l, SgOk x) (hok2 : ∀ x ∈ l, x.ty = 1 → x.off + x.fi < 18446744073709551616) (ht : Bts B w vt tb) (htl : tb.length ≤ 65536) (o3 : d3 < 18446744073709551616) (o4 : d4 < 18446744073709551616) :
    Calls Tryz.prog 57 #[.pointer (some ⟨R, 0, none⟩)] w fun e w' => e = .returned (.int .i64 ((symsM b l d tb).1 : Nat)) ∧ SymsP B R w h vs so vn vr vb vi d0 d1 d2 d3 d4 d5 d6 vt (symsM b l d tb) w' := by
  have hH : Hid (symsM b l d tb = if 1024 < d.v.getD 4 0 then (13, [], [])
    else if d.v.getD 4 0 = 0 then (0, [], [])
    else
      let c := atI b l (d.v.getD 3 0) (24 * d.v.getD 4 0)
      if c.1 ≠ 0 then (c.1, [], [])
      else if chkS (syTab c.2).2 ≠ 0 then (chkS (syTab c.2).2, [], [])
      else if (nmGo tb (syTab c.2).2 []).1 ≠ 0 then ((nmGo tb (syTab c.2).2 []).1, [], [])
      else (0, (syTab c.2).2, (nmGo tb (syTab c.2).2 []).2)) := Lib.hid rfl
  generalize symsM b l d tb = res at *
  rw [hd] at hH
  have e4 : [d0, d1, d2, d3, d4, d5, d6].getD 4 0 = d4 := rfl
  have e3 : [d0, d1, d2, d3, d4, d5, d6].getD 3 0 = d3 := rfl
  rw [e4, e3] at hH
  clear e4 e3 hd
  dsimp only at hH
  have c16 : w.cell? ⟨R, 16, none⟩ = some (.int .u64 (d4 : Int)) := hB.cell 16
  have c15 : w.cell? ⟨R, 15, none⟩ = some (.int .u64 (d3 : Int)) := hB.cell 15
  by_cases h1 : 1024 < d4
  · have hH2 := hH.out.trans (if_pos h1)
    subst hH2
    have h1i : (1024 : Int) < (d4 : Int) := by omega
    clear hH
    go_enter Tryz.func57, Tryz.ntmps57
    go_wp2_with fail
    go_ret
    exact ⟨rfl, Keep.refl _ _, fun h => absurd h (by decide)⟩
  · have hH2 := Lib.hid (hH.out.trans (if_neg h1))
    have h1i : ¬ ((1024 : Int) < (d4 : Int)) := by omega
    clear hH
    by_cases h0 : d4 = 0
    · have hH3 := hH2.out.trans (if_pos h0)
      subst hH3
      have h0i : ((d4 : Int) == 0) = true := by rw [beq_iff_eq]; omega
      clear hH2 h0
      go_enter Tryz.func57, Tryz.ntmps57
      go_wp2_with fail
      go_ret
      exact ⟨rfl, Keep.refl _ _, fun _ => ⟨_, _, hB, Fl.nil, Fl.nil⟩⟩
    · have hH3 := Lib.hid (hH2.out.trans (if_neg h0))
      have h0i : ((d4 : Int) == 0) = false := by rw [beq_eq_false_iff_ne]; omega
      clear hH2
      have hat := imat_any l b d3 (24 * d4) hB hl hb (by omega) hok hok2 o3 (by omega)
      have hal := atI_lt b l d3 (24 * d4)
      rw [Int.natCast_mul] at hat
      generalize atI b l d3 (24 * d4) = c at *
      obtain ⟨ce, cb⟩ := c
      dsimp only at hat hal hH3
      have HAt := Lib.hid hat
      clear hat
      go_enter Tryz.func57, Tryz.ntmps57
      go_wp2_with fail
      refine HAt.out.mono ?_
      clear HAt
      rintro e w1 ⟨vc, rfl, hoc, hk1⟩
      have hB1 := hB.keep hk1 fun h => h
      have hbc := bts_own hoc
      by_cases hce : ce = 0
      · subst hce
        have hH4 := Lib.hid (hH3.out.trans (if_neg (by decide)))
        clear hH3
        have htab := sytable_any cb hbc (by omega)
        have hslen := syTab_len cb
        have hsok := syTab_ok cb
        generalize syTab cb = st at *
        obtain ⟨se, sl⟩ := st
        dsimp only at htab hslen hsok hH4
        obtain ⟨ac, qc, rfl, _, _⟩ := hbc.shape
        go_wp2_with fail
        refine htab.mono ?_
        clear htab
        rintro e w2 ⟨vy', rfl, hoy, hk2⟩
        have hB2 := hB1.keep hk2 fun h => h
        have hfy := hoy.fl
        obtain ⟨ay, qy, rfl, _, _⟩ := hfy.shape
        go_wp2_with (with_reducible refine wl_st rfl _ _ _ rfl _ _ _ rfl rfl ?_)
        refine rg_st1 hB2 (by kernel_rfl) (by show 8 < 20; decide) rfl rfl ?_
        intro w3 hB3' hk3 _
        have hB3 : Blk w3 R (rdB h vs so vn (.slice none 0 0) (.slice ay sl.length qy) vr vb vi d0 d1 d2 d3 d4 d5 d6 vt) 147 := hB3'
        have hfy3 : Fl B w3 6 encSy (.slice ay sl.length qy) sl := (hfy.keep hk3 fun j hj hh e => by
          have e2 : j = R := e
          have h1 : w1.heap.size ≤ j := hh.1
          have h2 := hB1.lt
          omega).mono fun j _ hh => hNw j (Nat.le_trans hk1.size hh.1)
        have hkw3 : Keep (fun j => j = R) w w3 := ((hk1.trans' hk2).mono (fun _ _ h => h.elim)).trans' hk3
        have hchk := sycheck_any sl hfy3 hsok
        have s8 : w3.cell? ⟨R, 8, none⟩ = some (.slice ay sl.length qy) := hB3.cell 8
        clear hB1 hB2 hB3' hk1 hk2 hk3 hbc hoc hoy hfy
        generalize hcs : chkS sl = cs at *
        go_wp2_with fail
        refine hchk.mono ?_
        clear hchk
        rintro e w4 ⟨rfl, hk4⟩
        have hB4 := hB3.keep hk4 fun h => h
        have hfy4 := hfy3.no hk4
        have hkw4 : Keep (fun j => j = R) w w4 := hkw3.trans hk4 fun _ _ h => h.elim
        have s8 : w4.cell? ⟨R, 8, none⟩ = some (.slice ay sl.length qy) := hB4.cell 8
        clear hB3 hfy3 hkw3 hk4
        by_cases hcs0 : cs = 0
        · have hH5 := Lib.hid (hH4.out.trans (if_neg (by omega)))
          clear hH4 hcs
          subst hcs0
          rw [show ((0 : Nat) : Int) = 0 from rfl]
          clear h0i h1i h0 h1
          go_wp2_with fail
          go_loopw [58] (fun iv wr => ∃ (i : Nat) (acc : List BS) (vm' : Value), iv = .int .i64 i ∧ i ≤ sl.length ∧ Hid (acc.length = i) ∧ nmGo tb (sl.drop i) acc = nmGo tb sl [] ∧ Blk wr R (rdB h vs so vn vm' (.slice ay sl.length qy) vr vb vi d0 d1 d2 d3 d4 d5 d6 vt) 147 ∧ FlO wr w4.heap.size 9 1 encS vm' acc ∧ Keep (fun j => j = R) w4 wr) (fun iv _ => sl.length - (intOf iv).toNat)
          case atStart => exact ⟨0, [], _, rfl, Nat.zero_le _, Lib.hid rfl, rfl, hB4, FlO.nil, Keep.refl _ _⟩
          case round =>
            obtain ⟨i, acc, vm', rfl, hi, hacc, hgo, hBr, hO, hK⟩ := hrel
            generalize wr = wz at *
            have hRL := hB4.lt
            rcases Nat.lt_or_ge i sl.length with hlt | hge
            · obtain ⟨g1, off, cap, ev, _, hg1, _, _, hc⟩ := (hfy4.keep hK fun j _ h1 h2 => hNe j h1 h2).at encSy_len hlt
              cases ev
              have hiz : (i : Int) < (sl.length : Int) := by omega
              rw [List.drop_eq_getElem_cons hlt, nmGo_cons] at hgo
              obtain ⟨o0, _, _, _, _, _⟩ := hsok sl[i] (List.getElem_mem hlt)
              have hat := fun W (hk : Keep No wz W) => nat_any (w := W) tb sl[i].nm (Sl.keep (Sl.keep (Sl.keep ht hkw4 fun j _ h1 h2 => hNe j h1 h2) hK fun j _ h1 h2 => hNe j h1 h2) hk fun _ _ _ h => h) (by omega) (by omega)
              have c0 := hc 0 _ rfl
              have c1 := hc 1 _ rfl
              have c2 := hc 2 _ rfl
              have c3 := hc 3 _ rfl
              have c4 := hc 4 _ rfl
              have c5 := hc 5 _ rfl
              rw [Nat.add_zero] at c0
              clear hc
              generalize atM tb sl[i].nm = nm at *
              obtain ⟨ne, n⟩ := nm
              dsimp only at hat hgo
              generalize sl[i].nm = x0 at *
              generalize sl[i].inf = x1 at *
              generalize sl[i].oth = x2 at *
              generalize sl[i].sec = x3 at *
              generalize sl[i].val = x4 at *
              generalize sl[i].sz = x5 at *
              have HGo := Lib.hid hgo
              have hs : ∃ bs : ByteArray, bs = ⟨n.toArray⟩ := ⟨_, rfl⟩
              obtain ⟨bs, hbs⟩ := hs
              rw [← hbs] at hat
              have HBS := Lib.hid hbs
              have HA := Lib.hid hat
              clear hgo hbs hat
              obtain ⟨at_, qt, evt, _, _⟩ := ht.shape
              subst evt
              go_wp2_with fail
              have hkW : Keep No wz (wz.alloc (.cells #[.int .u32 (x0 : Int), .int .u8 (x1 : Int), .int .u8 (x2 : Int), .int .u16 (x3 : Int), .int .u64 (x4 : Int), .int .u64 (x5 : Int)] 46)) := (Keep.refl _ _).alloc _
              have hBW : Blk (wz.alloc (.cells #[.int .u32 (x0 : Int), .int .u8 (x1 : Int), .int .u8 (x2 : Int), .int .u16 (x3 : Int), .int .u64 (x4 : Int), .int .u64 (x5 : Int)] 46)) wz.heap.size #[.int .u32 (x0 : Int), .int .u8 (x1 : Int), .int .u8 (x2 : Int), .int .u16 (x3 : Int), .int .u64 (x4 : Int), .int .u64 (x5 : Int)] 46 := Blk.new _ _ _
              have hzW : (wz.alloc (.cells #[.int .u32 (x0 : Int), .int .u8 (x1 : Int), .int .u8 (x2 : Int), .int .u16 (x3 : Int), .int .u64 (x4 : Int), .int .u64 (x5 : Int)] 46)).heap.size = wz.heap.size + 1 := World.size_alloc _ _
              generalize wz.alloc (.cells #[.int .u32 (x0 : Int), .int .u8 (x1 : Int), .int .u8 (x2 : Int), .int .u16 (x3 : Int), .int .u64 (x4 : Int), .int .u64 (x5 : Int)] 46) = W at *
              have hBrW := hBr.keep hkW fun h => h
              have q0 : W.cell? ⟨R, 19, none⟩ = some (.slice at_ tb.length qt) := hBrW.cell 19
              have q1 : W.cell? ⟨wz.heap.size, 0, none⟩ = some (.int .u32 (x0 : Int)) := hBW.cell 0
              clear c0 c1 c2 c3 c4 c5
              refine wp_region_sig (fun w' => w'.cell? ⟨R, 19, none⟩ = some (.slice at_ tb.length qt) ∧ w'.cell? ⟨wz.heap.size, 0, none⟩ = some (.int .u32 (x0 : Int))) (fun j => decide (j ≤ 99)) [(0, true), (1, true), (2, true), (3, true), (4, true), (5, true), (6, true), (7, false), (8, true), (9, true), (10, true), (11, true), (12, true)] (by kernel_rfl) (by kernel_rfl) (by intro c a d v w h; cases d <;> exact h) ⟨q0, q1⟩ ?_
              apply sig_still (o := ⟨some 63, _, _, _, _, _⟩) rfl rfl
              · intro w' hS
                obtain ⟨q1, q2⟩ := hS
                first | (go_simp; done) | (go_simp; rfl) | rfl
              go_frame
              apply sig_still (o := ⟨some 64, _, _, _, _, _⟩) rfl rfl
              · intro w' hS
                obtain ⟨q1, q2⟩ := hS
                first | (go_simp; done) | (go_simp; rfl) | rfl
              go_frame
              apply sig_still (o := ⟨some 65, _, _, _, _, _⟩) rfl rfl
              · intro w' hS
                obtain ⟨q1, q2⟩ := hS
                first | (go_simp; done) | (go_simp; rfl) | rfl
              go_frame
              apply sig_still (o := ⟨some 66, _, _, _, _, _⟩) rfl rfl
              · intro w' hS
                obtain ⟨q1, q2⟩ := hS
                first | (go_simp; done) | (go_simp; rfl) | rfl
              go_frame
              apply sig_still (o := ⟨some 67, _, _, _, _, _⟩) rfl rfl
              · intro w' hS
                obtain ⟨q1, q2⟩ := hS
                first | (go_simp; done) | (go_simp; rfl) | rfl
              go_frame
              apply sig_still (o := ⟨some 68, _, _, _, _, _⟩) rfl rfl
              · intro w' hS
                obtain ⟨q1, q2⟩ := hS
                first | (go_simp; done) | (go_simp; rfl) | rfl
              go_frame
              apply sig_still (o := ⟨some 69, _, _, _, _, _⟩) rfl rfl
              · intro w' hS
                obtain ⟨q1, q2⟩ := hS
                first | (go_simp; done) | (go_simp; rfl) | rfl
              go_frame
              refine sig_eff (o := ⟨some 70, _, _, _, _, _⟩) rfl rfl (fun K hKe => ?_)
              go_wp2_with fail
              refine (HA.out _ hkW.drew).mono ?_
              rintro e w9 ⟨rfl, rfl⟩
              refine hKe _ _ ⟨fun _ => ⟨q0, q1⟩, ?_⟩
              clear hKe HA
              apply sig_still (o := ⟨some 62, _, _, _, _, _⟩) rfl rfl
              · intro w' hS
                obtain ⟨q1, q2⟩ := hS
                first | (go_simp; done) | (go_simp; rfl) | rfl
              go_frame
              apply sig_still (o := ⟨some 71, _, _, _, _, _⟩) rfl rfl
              · intro w' hS
                obtain ⟨q1, q2⟩ := hS
                first | (go_simp; done) | (go_simp; rfl) | rfl
              go_frame
              apply sig_still (o := ⟨some 72, _, _, _, _, _⟩) rfl rfl
              · intro w' hS
                obtain ⟨q1, q2⟩ := hS
                first | (go_simp; done) | (go_simp; rfl) | rfl
              go_frame
              apply sig_still (o := ⟨some 8, _, _, _, _, _⟩) rfl rfl
              · intro w' hS
                obtain ⟨q1, q2⟩ := hS
                first | (go_simp; done) | (go_simp; rfl) | rfl
              go_frame
              apply sig_still (o := ⟨some 9, _, _, _, _, _⟩) rfl rfl
              · intro w' hS
                obtain ⟨q1, q2⟩ := hS
                first | (go_simp; done) | (go_simp; rfl) | rfl
              go_frame
              refine sig_nil ?_
              have hkd : Keep No wz W.drew := hkW.drew
              have hBd : Blk W.drew R (rdB h vs so vn vm' (.slice (some ⟨g1, off, none⟩) sl.length qy) vr vb vi d0 d1 d2 d3 d4 d5 d6 (.slice at_ tb.length qt)) 147 := hBrW
              have hOd := own_no hO hkd
              generalize W.drew = wd at *
              clear hBrW hBW hzW hkW q0 q1 hBr hO
              by_cases hne0 : ne = 0
              · have HG2 := Lib.hid ((if_neg (by omega)).symm.trans HGo.out)
                clear HGo
                subst hne0
                rw [show ((0 : Nat) : Int) = 0 from rfl]
                have g7 : wd.cell? ⟨R, 7, none⟩ = some vm' := hBd.cell 7
                go_wp2_with (at_builtin; refine wl_append rfl _ _ _ _ rfl _ _ rfl rfl ?_)
                have HAc := hacc
                refine rg_push (P := Tryz.prog) (enc := encS) (x := n) _ _ Tryz.underlying37 str_info (by rfl) (by decide) (by rw [HBS.out]; rfl) (by rfl) (by intro u hu; rw [List.mem_singleton.1 hu]; rfl) hOd (by have := HAc.out; omega) (by decide) (Nat.le_trans hK.size hkd.size) ?_
                intro v4 w4_ ho4 hk4 _
                have hBr4 := hBd.own hOd hk4 hRL
                have hf4 := ho4.fl
                obtain ⟨n4, a4, q4, ev4⟩ : ∃ n a c, v4 = .slice a n c := by
                  obtain ⟨a, c, e, _⟩ := hf4.shape
                  exact ⟨_, _, _, e⟩
                subst ev4
                have hK4 : Keep (fun j => j = R) w4 w4_ := (hK.trans hkd fun _ _ h => h.elim).trans hk4 fun j hj e => absurd (World.ownsRow.lt hOd _ e.symm).1 (Nat.not_le.2 hj)
                clear hOd hBd hk4 g7 hf4
                go_wp2_with (with_reducible refine wl_st rfl _ _ _ rfl _ _ _ rfl rfl ?_)
                refine rg_st1 hBr4 (by kernel_rfl) (by show 7 < 20; decide) rfl rfl ?_
                intro w5_ hB5' hk5 _
                have hB5 : Blk w5_ R (rdB h vs so vn (.slice a4 n4 q4) (.slice (some ⟨g1, off, none⟩) sl.length qy) vr vb vi d0 d1 d2 d3 d4 d5 d6 (.slice at_ tb.length qt)) 147 := hB5'
                clear hB5'
                go_wp2_with fail
                go_roundw
                case rel => exact ⟨i + 1, acc ++ [n], _, by go_num, hlt, Lib.hid (by rw [List.length_append, HAc.out]; rfl), HG2.out, hB5, own_keep ho4 hk5 (fun j hj e => by have e2 : j = R := e; omega), hK4.trans' hk5⟩
                case measure => simp [intOf]; omega
              · have hnei : ((ne : Int) == 0) = false := by rw [beq_eq_false_iff_ne]; omega
                have HG2 := Lib.hid ((if_pos hne0).symm.trans HGo.out)
                have hHf := hH5.out
                rw [← HG2.out, if_pos hne0] at hHf
                have HHf := Lib.hid hHf
                clear hHf HGo
                go_wp2_with fail
                go_ret
                rw [HHf.out]
                exact ⟨rfl, (hkw4.trans' hK).trans hkd fun _ _ h => h.elim, fun h => absurd h hne0⟩
            · obtain rfl : i = sl.length := Nat.le_antisymm hi hge
              rw [List.drop_length] at hgo
              have hHf := hH5.out
              rw [← hgo] at hHf
              have HHf : Hid (res = (0, sl, acc)) := Lib.hid hHf
              clear hHf hgo
              go_wp2_with fail
              go_ret
              rw [HHf.out]
              refine ⟨rfl, hkw4.trans' hK, fun _ => ⟨_, _, hBr, hfy4.keep hK fun j _ h1 h2 => hNe j h1 h2, hO.fl.mono fun j _ hj => hNw j (Nat.le_trans hkw4.size hj.1)⟩⟩
        · have hcsi : ((cs : Int) == 0) = false := by rw [beq_eq_false_iff_ne]; omega
          have hH5 := hH4.out.trans (if_pos hcs0)
          subst hH5
          go_wp2_with fail
          go_ret
          exact ⟨rfl, hkw4, fun h => absurd h hcs0⟩
      · have hcei : ((ce : Int) == 0) = false := by rw [beq_eq_false_iff_ne]; omega
        have hH4 := hH3.out.trans (if_pos hce)
        subst hH4
        go_wp2_with fail
        go_ret
        exact ⟨rfl, hk1.mono (fun _ _ h => h.elim), fun h => absurd h hce⟩
end
end Go.Proofs.YtbnahidopemkiaaGreat
