/- DiskPlays. No condition. -/
import Derived.Test.YtkmoomgmmhmaeaaLawSureM
import Derived.Test.YtkmoomgmmhmaeaaSigT
namespace Go.Dm.Dk
theorem settle1_sure (b : Bool) (o : Op) (m : M) : (settle1 b o m).sure.length = m.sure.length ∧ (settle1 b o m).is = m.is := by
  unfold settle1
  split
  · exact ⟨rfl, rfl⟩
  · split
    · exact ⟨by simp [putF], rfl⟩
    · exact ⟨rfl, rfl⟩
theorem settleGo_sure (sel : Nat → Bool) : ∀ (l : List Op) (i : Nat) (m : M), (settleGo sel i l m).sure.length = m.sure.length ∧ (settleGo sel i l m).is = m.is
  | [], _, _ => ⟨rfl, rfl⟩
  | o :: r, i, m => by
    obtain ⟨h1, h2⟩ := settleGo_sure sel r (i + 1) (settle1 (sel i) o m)
    obtain ⟨h3, h4⟩ := settle1_sure (sel i) o m
    exact ⟨h1.trans h3, h2.trans h4⟩
theorem settle_sure (m : M) (sel : Nat → Bool) : (settle m sel).sure.length = m.sure.length ∧ (settle m sel).is = m.is := settleGo_sure sel m.wait 0 { m with wait := [] }
theorem wait_is (m : M) (o : Op) : (waitD m o).is.length = m.is.length := by
  unfold waitD
  split
  · simp [putF]
  · rfl
theorem done_is (m : M) (k : Nat) (a b : List UInt8) (at_ : Int) (body : List UInt8) : (done m k a b at_ body).is.length ≤ m.is.length + 1 := by
  unfold done
  split
  · rw [wait_is]; simp
  · rw [wait_is]; omega
  · rw [(settle_sure _ _).2]; omega
  · rw [wait_is]; omega
  · rw [wait_is]; omega
  · rw [(settle_sure _ _).2]; omega
theorem call_is (m : M) (k : Nat) (a b : List UInt8) (at_ : Int) (body : List UInt8) : (call m k a b at_ body).1.is.length ≤ m.is.length + 1 := by
  unfold call
  split
  · exact Nat.le_succ _
  · split
    · exact Nat.le_succ _
    · split
      · exact Nat.le_succ _
      · exact done_is _ _ _ _ _ _
theorem cut_is (m : M) (s : Int) : (cutD m s).is = m.is := by
  unfold cutD
  split <;> rfl
theorem crash_is {m : M} (keep : List Bool) (h : m.sure.length = m.is.length) : (crash m keep).is.length = m.is.length := by
  show (settle m fun i => keep.getD i false).sure.length = m.is.length
  rw [(settle_sure _ _).1, h]
end Go.Dm.Dk
namespace Go.Proofs.Ytkmoomgmmhmaeaa
open Go.RowKit Go.Dm Go.Dm.Dk Go.Maps Go.ChangeShapes Go.WideShapes

theorem didM_is {m : M} (h : m.sure.length = m.is.length) (y : ActH.Ty) : (didM m y).is.length ≤ m.is.length + 1 := by
  unfold didM
  split
  · rw [cut_is]; omega
  · split
    · rw [crash_is _ h]; omega
    · exact call_is _ _ _ _ _ _
theorem DR.files {A : Nat → Prop} {w : World} {d n : Nat} {m : M} (h : DR A w d m) (hn : m.is.length ≤ n) : Files m n := by
  obtain ⟨fb, nb, sb, wv, rows, h⟩ := h
  exact ⟨fun p hp => (h.file p.2 (.inl ⟨p.1, hp⟩)).1, fun p hp => (h.file p.2 (.inr (.inl ⟨p.1, hp⟩))).1, fun o ho hk => (h.file o.file (.inr (.inr ⟨o, ho, hk, rfl⟩))).1, h.sl, hn⟩
section
variable {w0 w w' Y Z : World} {d b : Nat} {m m2 : M} {R U : Nat → Prop} {v1 v2 v3 v4 v5 : Value}
/-- a box is nobody's -/
theorem St.box (h : St w0 Y d m R U v1 v2 v3 v4 v5 m2) (hk : Keep No Y Z) (hb : Y.heap.size ≤ b) (hz : b < Z.heap.size) : St w0 Z d m R (fun k => U k ∨ k = b) v1 v2 v3 v4 v5 m2 where
  own := by
    have h1 : DR (fun k => (w0.heap.size ≤ k ∧ ¬ U k) ∧ k < Y.heap.size) Y d m := h.own
    exact (DR.keep h1 (fun k hk => hk.2) hk fun _ _ h => h).mono fun k hk ha => ⟨⟨ha.1.1, fun hr => by
      rcases hr with hr | hr
      · exact ha.1.2 hr
      · have := ha.2; omega⟩, hk⟩
  ref := h.ref.no hk
  lt := fun k hu => by
    rcases hu with hu | hu
    · have := h.lt k hu; have := hk.size; omega
    · omega
  sub := fun k hr => .inl (h.sub k hr)
  keep := h.keep.trans' (hk.mono fun _ _ h => h.elim)
theorem St.no (h : St w0 Y d m R U v1 v2 v3 v4 v5 m2) (hk : Keep No Y Z) : St w0 Z d m R U v1 v2 v3 v4 v5 m2 where
  own := h.own.keep hk fun _ _ h => h
  ref := h.ref.no hk
  lt := fun k hu => Nat.lt_of_lt_of_le (h.lt k hu) hk.size
  sub := h.sub
  keep := h.keep.trans' (hk.mono fun _ _ h => h.elim)
/-- what is written into a box is nobody's -/
theorem St.write (h : St w0 Y d m R U v1 v2 v3 v4 v5 m2) (hk : Keep (fun j => j = b) Y Z) (hU : U b) (hR : ¬ R b) (hb : w0.heap.size ≤ b) : St w0 Z d m R U v1 v2 v3 v4 v5 m2 where
  own := by
    have h1 : DR (fun k => (w0.heap.size ≤ k ∧ ¬ U k) ∧ k < Y.heap.size) Y d m := h.own
    exact (DR.keep h1 (fun k hk => hk.2) hk fun k ha e => by have e : k = b := e; subst e; exact ha.1.2 hU).mono fun k hl ha => ⟨ha.1, hl⟩
  ref := h.ref.keep hk fun j _ ha e => by have e : j = b := e; subst e; exact hR ha
  lt := fun k hu => Nat.lt_of_lt_of_le (h.lt k hu) hk.size
  sub := h.sub
  keep := h.keep.trans hk fun j hj e => by have e : j = b := e; show w0.heap.size ≤ j; omega
end
def cellsD (m : M) (v1 v2 v3 v4 v5 : Value) : Array Value := #[.int .i64 m.room, v1, v2, v3, v4, v5, .bool m.off, .int .i64 m.cut]
set_option maxRecDepth 100000 in
set_option maxHeartbeats 8000000 in
theorem diskplays_any (room : Int) (hroom : room ≤ 9223372036854775807) (v : Value) (l : List ActH.Ty) (w : World) (hl : Rd (fun k => k < w.heap.size) w (.slice ActH) [v] l) :
    Calls Try.prog 6 #[.int .i64 room, v] w fun e w' => e = .returned (.bool true) ∧ Keep No w w' := by
  obtain ⟨va, vc, rfl, hvc, hvm⟩ := hl.shape
  go_enter Try.func6, Try.ntmps6
  go_wp2_with (first | (at_builtin; refine wl_append rfl _ _ _ _ rfl _ _ rfl rfl ?_) | (at_make; refine wl_make rfl _ _ _ rfl _ _ rfl rfl ?_) | (at_mapUpdate; refine wl_mapUpdate rfl _ _ _ _ rfl _ _ _ rfl rfl rfl ?_) | (at_lookup; refine wl_lookup rfl _ _ _ _ rfl _ _ rfl rfl ?_) | (at_delete; refine wl_delete rfl _ _ _ _ rfl _ _ rfl rfl ?_) | (with_reducible refine wl_len rfl _ _ rfl _ rfl ?_) | (with_reducible refine wl_range rfl _ _ rfl _ rfl ?_) | (with_reducible refine wl_next rfl _ rfl _ rfl ?_) | (with_reducible refine wl_copy rfl _ _ _ _ rfl _ _ rfl rfl ?_) | (with_reducible refine wl_max rfl _ _ _ _ rfl _ _ rfl rfl ?_) | (with_reducible refine wl_min rfl _ _ _ _ rfl _ _ rfl rfl ?_))
  refine (awake_any w).mono ?_
  rintro e x0 ⟨rfl, k0⟩
  go_wp2_with (first | (at_builtin; refine wl_append rfl _ _ _ _ rfl _ _ rfl rfl ?_) | (at_make; refine wl_make rfl _ _ _ rfl _ _ rfl rfl ?_) | (at_mapUpdate; refine wl_mapUpdate rfl _ _ _ _ rfl _ _ _ rfl rfl rfl ?_) | (at_lookup; refine wl_lookup rfl _ _ _ _ rfl _ _ rfl rfl ?_) | (at_delete; refine wl_delete rfl _ _ _ _ rfl _ _ rfl rfl ?_) | (with_reducible refine wl_len rfl _ _ rfl _ rfl ?_) | (with_reducible refine wl_range rfl _ _ rfl _ rfl ?_) | (with_reducible refine wl_next rfl _ rfl _ rfl ?_) | (with_reducible refine wl_copy rfl _ _ _ _ rfl _ _ rfl rfl ?_) | (with_reducible refine wl_max rfl _ _ _ _ rfl _ _ rfl rfl ?_) | (with_reducible refine wl_min rfl _ _ _ _ rfl _ _ rfl rfl ?_))
  refine (new_own room x0 (fun k => w.heap.size ≤ k) (fun _ h => Nat.le_trans k0.size h)).mono ?_
  rintro e x1 ⟨d, rfl, h1, k1⟩
  have hK1 : Keep (fun k => w.heap.size ≤ k) w x1 := (k0.trans' k1).mono fun _ _ h => h.elim
  clear k0 k1
  unfold ptrTo
  go_wp2_with (first | (at_builtin; refine wl_append rfl _ _ _ _ rfl _ _ rfl rfl ?_) | (at_make; refine wl_make rfl _ _ _ rfl _ _ rfl rfl ?_) | (at_mapUpdate; refine wl_mapUpdate rfl _ _ _ _ rfl _ _ _ rfl rfl rfl ?_) | (at_lookup; refine wl_lookup rfl _ _ _ _ rfl _ _ rfl rfl ?_) | (at_delete; refine wl_delete rfl _ _ _ _ rfl _ _ rfl rfl ?_) | (with_reducible refine wl_len rfl _ _ rfl _ rfl ?_) | (with_reducible refine wl_range rfl _ _ rfl _ rfl ?_) | (with_reducible refine wl_next rfl _ rfl _ rfl ?_) | (with_reducible refine wl_copy rfl _ _ _ _ rfl _ _ rfl rfl ?_) | (with_reducible refine wl_max rfl _ _ _ _ rfl _ _ rfl rfl ?_) | (with_reducible refine wl_min rfl _ _ _ _ rfl _ _ rfl rfl ?_))
  refine (rnew_any room _).mono ?_
  rintro e x2 ⟨u1, u2, u3, u4, u5, rfl, hD, kx⟩
  have hSt := St.new h1 hK1 (Keep.refl No x1) kx hD
  have hsm := Small.new room hroom
  have his : (Dk.new room).is.length ≤ 0 := Nat.le_refl _
  generalize Dk.new room = m at *
  have hx2 := hSt.keep.size
  clear h1 hK1 kx hD
  obtain ⟨s1, t1, s2, t2, s3, t3, s4, t4, s5, t5, rfl, rfl, rfl, rfl, rfl⟩ := hSt.ref.shape
  unfold dv
  go_wp2_with (first | (at_builtin; refine wl_append rfl _ _ _ _ rfl _ _ rfl rfl ?_) | (at_make; refine wl_make rfl _ _ _ rfl _ _ rfl rfl ?_) | (at_mapUpdate; refine wl_mapUpdate rfl _ _ _ _ rfl _ _ _ rfl rfl rfl ?_) | (at_lookup; refine wl_lookup rfl _ _ _ _ rfl _ _ rfl rfl ?_) | (at_delete; refine wl_delete rfl _ _ _ _ rfl _ _ rfl rfl ?_) | (with_reducible refine wl_len rfl _ _ rfl _ rfl ?_) | (with_reducible refine wl_range rfl _ _ rfl _ rfl ?_) | (with_reducible refine wl_next rfl _ rfl _ rfl ?_) | (with_reducible refine wl_copy rfl _ _ _ _ rfl _ _ rfl rfl ?_) | (with_reducible refine wl_max rfl _ _ _ _ rfl _ _ rfl rfl ?_) | (with_reducible refine wl_min rfl _ _ _ _ rfl _ _ rfl rfl ?_) | (with_reducible refine wl_stAgg rfl _ _ _ rfl _ _ rfl rfl ?_))
  refine rg_stAgg (Blk.new _ _ _) (by kernel_rfl) (by rfl) (by simp [Value.oneCell']) ?_
  intro x3 hB3 k3 hz3
  have k3' : Keep No x2 x3 := ((Keep.refl No x2).alloc _).trans k3 fun j hj e => by have e : j = x2.heap.size := e; omega
  have hz3' : x2.heap.size < x3.heap.size := by rw [hz3, World.size_alloc]; omega
  replace hSt := hSt.box k3' (Nat.le_refl _) hz3'
  generalize x2.heap.size = b7 at *
  clear k3 k3' hz3
  replace hSt : ∃ R U : Nat → Prop, St w x3 d m R U _ _ _ _ _ m ∧ U b7 ∧ ¬ R b7 := ⟨_, _, hSt, .inr rfl, fun h => by have := h.2; omega⟩
  go_wp2_with (first | (at_builtin; refine wl_append rfl _ _ _ _ rfl _ _ rfl rfl ?_) | (at_make; refine wl_make rfl _ _ _ rfl _ _ rfl rfl ?_) | (at_mapUpdate; refine wl_mapUpdate rfl _ _ _ _ rfl _ _ _ rfl rfl rfl ?_) | (at_lookup; refine wl_lookup rfl _ _ _ _ rfl _ _ rfl rfl ?_) | (at_delete; refine wl_delete rfl _ _ _ _ rfl _ _ rfl rfl ?_) | (with_reducible refine wl_len rfl _ _ rfl _ rfl ?_) | (with_reducible refine wl_range rfl _ _ rfl _ rfl ?_) | (with_reducible refine wl_next rfl _ rfl _ rfl ?_) | (with_reducible refine wl_copy rfl _ _ _ _ rfl _ _ rfl rfl ?_) | (with_reducible refine wl_max rfl _ _ _ _ rfl _ _ rfl rfl ?_) | (with_reducible refine wl_min rfl _ _ _ _ rfl _ _ rfl rfl ?_))
  go_loopw [8] (fun iv wr => ∃ (i : Nat) (m : M) (R U : Nat → Prop) (u1 u2 u3 u4 u5 : Value), iv = .int .i64 i ∧ i ≤ 40 ∧ St w wr d m R U u1 u2 u3 u4 u5 m ∧ U b7 ∧ ¬ R b7 ∧ Blk wr b7 (cellsD m u1 u2 u3 u4 u5) 47 ∧ Small m i (300 * i) ∧ m.is.length ≤ i) (fun iv _ => 40 - (intOf iv).toNat)
  case atStart =>
    obtain ⟨R, U, hSt, hU, hR⟩ := hSt
    exact ⟨0, m, R, U, _, _, _, _, _, rfl, by omega, hSt, hU, hR, hB3, hsm, by omega⟩
  case round =>
    clear hSt hB3 hsm his
    obtain ⟨i, m, R, U, u1, u2, u3, u4, u5, rfl, hi, hSt, hU, hR, hB7, hs, his⟩ := hrel
    have hend : i < l.length ∧ i < 40 ∨ ¬ (i < l.length ∧ i < 40) := by omega
    rcases hend with ⟨hil, hi4⟩ | hend
    · obtain ⟨g, off, b1, b2, k1, k2, e1, hg1, hwf, hvb, hvk, hQ⟩ := act_at2 hl hil
      cases e1
      generalize l[i] = y at *
      obtain ⟨kd, ia, ib, at_, bd, kp, _⟩ := y
      obtain ⟨q0, q1, q2, q3, q4, q5⟩ := hQ _ hSt.keep
      have HQ := Lib.hid hQ
      clear hQ
      simp only at *
      have hbd : 300 < bd.length ∨ bd.length ≤ 300 := by omega
      rcases hbd with hbd | hbd
      · have hbd' : (300 : Int) < (bd.length : Int) := by omega
        go_wp2_with (first | (at_builtin; refine wl_append rfl _ _ _ _ rfl _ _ rfl rfl ?_) | (at_make; refine wl_make rfl _ _ _ rfl _ _ rfl rfl ?_) | (at_mapUpdate; refine wl_mapUpdate rfl _ _ _ _ rfl _ _ _ rfl rfl rfl ?_) | (at_lookup; refine wl_lookup rfl _ _ _ _ rfl _ _ rfl rfl ?_) | (at_delete; refine wl_delete rfl _ _ _ _ rfl _ _ rfl rfl ?_) | (with_reducible refine wl_len rfl _ _ rfl _ rfl ?_) | (with_reducible refine wl_range rfl _ _ rfl _ rfl ?_) | (with_reducible refine wl_next rfl _ rfl _ rfl ?_) | (with_reducible refine wl_copy rfl _ _ _ _ rfl _ _ rfl rfl ?_) | (with_reducible refine wl_max rfl _ _ _ _ rfl _ _ rfl rfl ?_) | (with_reducible refine wl_min rfl _ _ _ _ rfl _ _ rfl rfl ?_))
        go_ret
        exact ⟨rfl, hSt.keep.os, hSt.keep.tape, hSt.keep.output, hSt.keep.size, fun j hj _ => hSt.keep.block j hj (by omega)⟩
      have hbd' : (bd.length : Int) ≤ 300 := by omega
      have hkp : 100 < kp.length ∨ kp.length ≤ 100 := by omega
      rcases hkp with hkp | hkp
      · have hkp' : (100 : Int) < (kp.length : Int) := by omega
        go_wp2_with (first | (at_builtin; refine wl_append rfl _ _ _ _ rfl _ _ rfl rfl ?_) | (at_make; refine wl_make rfl _ _ _ rfl _ _ rfl rfl ?_) | (at_mapUpdate; refine wl_mapUpdate rfl _ _ _ _ rfl _ _ _ rfl rfl rfl ?_) | (at_lookup; refine wl_lookup rfl _ _ _ _ rfl _ _ rfl rfl ?_) | (at_delete; refine wl_delete rfl _ _ _ _ rfl _ _ rfl rfl ?_) | (with_reducible refine wl_len rfl _ _ rfl _ rfl ?_) | (with_reducible refine wl_range rfl _ _ rfl _ rfl ?_) | (with_reducible refine wl_next rfl _ rfl _ rfl ?_) | (with_reducible refine wl_copy rfl _ _ _ _ rfl _ _ rfl rfl ?_) | (with_reducible refine wl_max rfl _ _ _ _ rfl _ _ rfl rfl ?_) | (with_reducible refine wl_min rfl _ _ _ _ rfl _ _ rfl rfl ?_))
        go_ret
        exact ⟨rfl, hSt.keep.os, hSt.keep.tape, hSt.keep.output, hSt.keep.size, fun j hj _ => hSt.keep.block j hj (by omega)⟩
      have hkp' : (kp.length : Int) ≤ 100 := by omega
      have hat := bounds_i64 hwf
      obtain ⟨a1, d1, a2, d2, a3, d3, a4, d4, a5, d5, rfl, rfl, rfl, rfl, rfl⟩ := hSt.ref.shape
      unfold cellsD at hB7
      have c7 := hB7.cell
      have hfl := DR.files hSt.own his
      go_wp2_with (first | (at_builtin; refine wl_append rfl _ _ _ _ rfl _ _ rfl rfl ?_) | (at_make; refine wl_make rfl _ _ _ rfl _ _ rfl rfl ?_) | (at_mapUpdate; refine wl_mapUpdate rfl _ _ _ _ rfl _ _ _ rfl rfl rfl ?_) | (at_lookup; refine wl_lookup rfl _ _ _ _ rfl _ _ rfl rfl ?_) | (at_delete; refine wl_delete rfl _ _ _ _ rfl _ _ rfl rfl ?_) | (with_reducible refine wl_len rfl _ _ rfl _ rfl ?_) | (with_reducible refine wl_range rfl _ _ rfl _ rfl ?_) | (with_reducible refine wl_next rfl _ rfl _ rfl ?_) | (with_reducible refine wl_copy rfl _ _ _ _ rfl _ _ rfl rfl ?_) | (with_reducible refine wl_max rfl _ _ _ _ rfl _ _ rfl rfl ?_) | (with_reducible refine wl_min rfl _ _ _ _ rfl _ _ rfl rfl ?_))
      refine wp_region_tree (fun w' => (∀ i, w'.cell? ⟨b7, i, none⟩ = #[.int .i64 m.room, .slice a1 m.is.length d1, .slice a2 m.sure.length d2, .slice a3 m.L.length d3, .slice a4 m.S.length d4, .slice a5 m.wait.length d5, .bool m.off, .int .i64 m.cut][i]?) ∧ w'.cell? ⟨g, off + i * 6, none⟩ = some (.int .i64 kd) ∧ w'.cell? ⟨g, off + i * 6 + 1, none⟩ = some (.int .i64 ia) ∧ w'.cell? ⟨g, off + i * 6 + 2, none⟩ = some (.int .i64 ib) ∧ w'.cell? ⟨g, off + i * 6 + 3, none⟩ = some (.int .i64 at_) ∧ w'.cell? ⟨g, off + i * 6 + 4, none⟩ = some (.slice b1 bd.length b2) ∧ w'.cell? ⟨g, off + i * 6 + 5, none⟩ = some (.slice k1 kp.length k2)) (fun j => decide (j ≤ 99)) (.st 0 (.st 1 (.st 2 (.st 3 (.st 4 (.st 5 (.br 6 10 (.st 7 (.st 8 (.st 9 (.ef 10 (.ef 11 (.st 12 .nil)))))) (.ef 6 (.st 7 (.st 8 (.st 9 (.ef 11 (.st 12 .nil))))))))))))) (by kernel_rfl) (by kernel_rfl) (by intro c a d v w h; cases d <;> exact h) ⟨c7, q0, q1, q2, q3, q4, q5⟩ ?_
      apply tr_still (o := ⟨some 45, _, _, _, _, _⟩) rfl rfl
      · intro w' hS
        obtain ⟨q1, q2, q3, q4, q5, q6, q7⟩ := hS
        first | (go_simp; done) | (go_simp; rfl) | rfl
      go_frame
      apply tr_still (o := ⟨some 46, _, _, _, _, _⟩) rfl rfl
      · intro w' hS
        obtain ⟨q1, q2, q3, q4, q5, q6, q7⟩ := hS
        first | (go_simp; done) | (go_simp; rfl) | rfl
      go_frame
      apply tr_still (o := ⟨some 47, _, _, _, _, _⟩) rfl rfl
      · intro w' hS
        obtain ⟨q1, q2, q3, q4, q5, q6, q7⟩ := hS
        first | (go_simp; done) | (go_simp; rfl) | rfl
      go_frame
      apply tr_still (o := ⟨some 48, _, _, _, _, _⟩) rfl rfl
      · intro w' hS
        obtain ⟨q1, q2, q3, q4, q5, q6, q7⟩ := hS
        first | (go_simp; done) | (go_simp; rfl) | rfl
      go_frame
      apply tr_still (o := ⟨some 49, _, _, _, _, _⟩) rfl rfl
      · intro w' hS
        obtain ⟨q1, q2, q3, q4, q5, q6, q7⟩ := hS
        first | (go_simp; done) | (go_simp; rfl) | rfl
      go_frame
      apply tr_still (o := ⟨some 50, _, _, _, _, _⟩) rfl rfl
      · intro w' hS
        obtain ⟨q1, q2, q3, q4, q5, q6, q7⟩ := hS
        first | (go_simp; done) | (go_simp; rfl) | rfl
      go_frame
      have hdr : Keep No wr wr.drew := (Keep.refl No wr).drew
      replace hSt := hSt.no hdr
      replace hB7 := hB7.keep hdr fun h => h
      have hb7 := hx2
      have hbl : b7 < wr.drew.heap.size := hSt.lt _ hU
      clear q0 q1 q2 q3 q4 q5 hdr
      refine tr_br (o := ⟨some 51, _, _, _, _, _⟩) (o' := ⟨some 9, _, _, _, _, _⟩) rfl rfl rfl rfl (fun K hKe => ?_) (fun K hKe => ?_)
      · go_wp2_with (first | (at_builtin; refine wl_append rfl _ _ _ _ rfl _ _ rfl rfl ?_) | (at_make; refine wl_make rfl _ _ _ rfl _ _ rfl rfl ?_) | (at_mapUpdate; refine wl_mapUpdate rfl _ _ _ _ rfl _ _ _ rfl rfl rfl ?_) | (at_lookup; refine wl_lookup rfl _ _ _ _ rfl _ _ rfl rfl ?_) | (at_delete; refine wl_delete rfl _ _ _ _ rfl _ _ rfl rfl ?_) | (with_reducible refine wl_len rfl _ _ rfl _ rfl ?_) | (with_reducible refine wl_range rfl _ _ rfl _ rfl ?_) | (with_reducible refine wl_next rfl _ rfl _ rfl ?_) | (with_reducible refine wl_copy rfl _ _ _ _ rfl _ _ rfl rfl ?_) | (with_reducible refine wl_max rfl _ _ _ _ rfl _ _ rfl rfl ?_) | (with_reducible refine wl_min rfl _ _ _ _ rfl _ _ rfl rfl ?_))
        refine (did_any (n3 := i) kd ia ib at_ bd kp hSt hs (by omega) (by omega) hs hfl (by omega) (by omega) (by omega) hvb hvk hbd hat.1).mono ?_
        rintro e y1 ⟨R3, U3, o1, o2, o3, o4, o5, rfl, hSt3, hk2, hUU, hRR⟩
        have q := HQ.out _ hSt3.keep
        replace hB7 := hB7.keep hk2 fun h => h.2 hU
        clear c7
        have c7 := hB7.cell
        have hU3 := hUU _ hU
        have hR3 : ¬ R3 b7 := fun h => by
          rcases hRR _ h with h | h
          · exact hR h
          · omega
        clear hSt hk2 hUU hRR
        obtain ⟨z1, y1', z2', y2', z3', y3', z4', y4', z5', y5', rfl, rfl, rfl, rfl, rfl⟩ := hSt3.ref.shape
        unfold dv
        go_wp2_with (first | (at_builtin; refine wl_append rfl _ _ _ _ rfl _ _ rfl rfl ?_) | (at_make; refine wl_make rfl _ _ _ rfl _ _ rfl rfl ?_) | (at_mapUpdate; refine wl_mapUpdate rfl _ _ _ _ rfl _ _ _ rfl rfl rfl ?_) | (at_lookup; refine wl_lookup rfl _ _ _ _ rfl _ _ rfl rfl ?_) | (at_delete; refine wl_delete rfl _ _ _ _ rfl _ _ rfl rfl ?_) | (with_reducible refine wl_len rfl _ _ rfl _ rfl ?_) | (with_reducible refine wl_range rfl _ _ rfl _ rfl ?_) | (with_reducible refine wl_next rfl _ rfl _ rfl ?_) | (with_reducible refine wl_copy rfl _ _ _ _ rfl _ _ rfl rfl ?_) | (with_reducible refine wl_max rfl _ _ _ _ rfl _ _ rfl rfl ?_) | (with_reducible refine wl_min rfl _ _ _ _ rfl _ _ rfl rfl ?_))
        refine ⟨fun _ => ⟨c7, q⟩, ?_⟩
        apply tr_still (o := ⟨some 44, _, _, _, _, _⟩) rfl rfl
        · intro w' hS
          obtain ⟨q1, q2, q3, q4, q5, q6, q7⟩ := hS
          first | (go_simp; done) | (go_simp; rfl) | rfl
        go_frame
        apply tr_still (o := ⟨some 52, _, _, _, _, _⟩) rfl rfl
        · intro w' hS
          obtain ⟨q1, q2, q3, q4, q5, q6, q7⟩ := hS
          first | (go_simp; done) | (go_simp; rfl) | rfl
        go_frame
        apply tr_still (o := ⟨some 53, _, _, _, _, _⟩) rfl rfl
        · intro w' hS
          obtain ⟨q1, q2, q3, q4, q5, q6, q7⟩ := hS
          first | (go_simp; done) | (go_simp; rfl) | rfl
        go_frame
        refine tr_eff (o := ⟨some 9, _, _, _, _, _⟩) rfl rfl (fun K hKe => ?_)
        have hka : Keep No y1 (y1.alloc (.cells #[.int .i64 0, .slice none 0 0, .slice none 0 0, .slice none 0 0, .slice none 0 0, .slice none 0 0, .bool false, .int .i64 0] 47)) := (Keep.refl No y1).alloc _
        have hBa : Blk (y1.alloc (.cells #[.int .i64 0, .slice none 0 0, .slice none 0 0, .slice none 0 0, .slice none 0 0, .slice none 0 0, .bool false, .int .i64 0] 47)) y1.heap.size #[.int .i64 0, .slice none 0 0, .slice none 0 0, .slice none 0 0, .slice none 0 0, .slice none 0 0, .bool false, .int .i64 0] 47 := Blk.new _ _ _
        have hza : y1.heap.size < (y1.alloc (.cells #[.int .i64 0, .slice none 0 0, .slice none 0 0, .slice none 0 0, .slice none 0 0, .slice none 0 0, .bool false, .int .i64 0] 47)).heap.size := by rw [World.size_alloc]; omega
        have qa := HQ.out _ (hSt3.no hka).keep
        have c7a := (hB7.keep hka fun h => h).cell
        go_wp2_with (first | (at_builtin; refine wl_append rfl _ _ _ _ rfl _ _ rfl rfl ?_) | (at_make; refine wl_make rfl _ _ _ rfl _ _ rfl rfl ?_) | (at_mapUpdate; refine wl_mapUpdate rfl _ _ _ _ rfl _ _ _ rfl rfl rfl ?_) | (at_lookup; refine wl_lookup rfl _ _ _ _ rfl _ _ rfl rfl ?_) | (at_delete; refine wl_delete rfl _ _ _ _ rfl _ _ rfl rfl ?_) | (with_reducible refine wl_len rfl _ _ rfl _ rfl ?_) | (with_reducible refine wl_range rfl _ _ rfl _ rfl ?_) | (with_reducible refine wl_next rfl _ rfl _ rfl ?_) | (with_reducible refine wl_copy rfl _ _ _ _ rfl _ _ rfl rfl ?_) | (with_reducible refine wl_max rfl _ _ _ _ rfl _ _ rfl rfl ?_) | (with_reducible refine wl_min rfl _ _ _ _ rfl _ _ rfl rfl ?_))
        refine ⟨fun _ => ⟨c7a, qa⟩, ?_⟩
        refine tr_eff (o := ⟨none, _, _, _, _, _⟩) rfl rfl (fun K hKe => ?_)
        refine wo_stAgg (.tmp 9) (.tmp 52) 47 rfl _ _ rfl rfl ?_
        refine rg_stAgg hBa (by kernel_rfl) (by rfl) (by simp [Value.oneCell']) ?_
        intro Z hB9 k9 hz9
        have kZ : Keep No y1 Z := hka.trans k9 fun j hj e => by have e : j = y1.heap.size := e; omega
        replace hSt3 := hSt3.box kZ (Nat.le_refl _) (by rw [hz9]; exact hza)
        replace hB7 := hB7.keep kZ fun h => h
        have qz := HQ.out _ hSt3.keep
        have c7z := hB7.cell
        replace hSt3 : ∃ U' : Nat → Prop, St w Z d (didM m (kd, ia, ib, at_, bd, kp, ())) R3 U' _ _ _ _ _ (didM m (kd, ia, ib, at_, bd, kp, ())) ∧ U' b7 := ⟨_, hSt3, .inl hU3⟩
        clear hU3
        obtain ⟨U3, hSt3, hU3⟩ := hSt3
        refine hKe _ _ ⟨fun _ => ⟨c7z, qz⟩, ?_⟩
        clear hka hBa hza qa c7a k9 hz9 kZ q c7
        have c7 := c7z
        apply tr_still (o := ⟨some 10, _, _, _, _, _⟩) rfl rfl
        · intro w' hS
          obtain ⟨q1, q2, q3, q4, q5, q6, q7⟩ := hS
          first | (go_simp; done) | (go_simp; rfl) | rfl
        go_frame
        refine tr_nil ?_
        have c9 := hB9.cell
        have hsN : Small (didM m (kd, ia, ib, at_, bd, kp, ())) (i + 1) (300 * (i + 1)) := (didM_small hs (kd, ia, ib, at_, bd, kp, ()) hbd hat.2).mono (by omega) (by omega)
        have hiN : (didM m (kd, ia, ib, at_, bd, kp, ())).is.length ≤ i + 1 := Nat.le_trans (didM_is hfl.ln (kd, ia, ib, at_, bd, kp, ())) (by omega)
        have hflN := DR.files hSt3.own hiN
        clear c7
        have c7 := hB7.cell
        generalize didM m (kd, ia, ib, at_, bd, kp, ()) = mN at *
        go_wp2_with (first | (at_builtin; refine wl_append rfl _ _ _ _ rfl _ _ rfl rfl ?_) | (at_make; refine wl_make rfl _ _ _ rfl _ _ rfl rfl ?_) | (at_mapUpdate; refine wl_mapUpdate rfl _ _ _ _ rfl _ _ _ rfl rfl rfl ?_) | (at_lookup; refine wl_lookup rfl _ _ _ _ rfl _ _ rfl rfl ?_) | (at_delete; refine wl_delete rfl _ _ _ _ rfl _ _ rfl rfl ?_) | (with_reducible refine wl_len rfl _ _ rfl _ rfl ?_) | (with_reducible refine wl_range rfl _ _ rfl _ rfl ?_) | (with_reducible refine wl_next rfl _ rfl _ rfl ?_) | (with_reducible refine wl_copy rfl _ _ _ _ rfl _ _ rfl rfl ?_) | (with_reducible refine wl_max rfl _ _ _ _ rfl _ _ rfl rfl ?_) | (with_reducible refine wl_min rfl _ _ _ _ rfl _ _ rfl rfl ?_))
        refine (like_any hSt3 hsN hflN (by omega) (by omega)).mono ?_
        rintro e z2 ⟨rfl, kl⟩
        replace hSt3 := hSt3.no kl
        replace hB7 := hB7.keep kl fun h => h
        replace hB9 := hB9.keep kl fun h => h
        have c9 := hB9.cell
        clear c7
        go_wp2_with (first | (at_builtin; refine wl_append rfl _ _ _ _ rfl _ _ rfl rfl ?_) | (at_make; refine wl_make rfl _ _ _ rfl _ _ rfl rfl ?_) | (at_mapUpdate; refine wl_mapUpdate rfl _ _ _ _ rfl _ _ _ rfl rfl rfl ?_) | (at_lookup; refine wl_lookup rfl _ _ _ _ rfl _ _ rfl rfl ?_) | (at_delete; refine wl_delete rfl _ _ _ _ rfl _ _ rfl rfl ?_) | (with_reducible refine wl_len rfl _ _ rfl _ rfl ?_) | (with_reducible refine wl_range rfl _ _ rfl _ rfl ?_) | (with_reducible refine wl_next rfl _ rfl _ rfl ?_) | (with_reducible refine wl_copy rfl _ _ _ _ rfl _ _ rfl rfl ?_) | (with_reducible refine wl_max rfl _ _ _ _ rfl _ _ rfl rfl ?_) | (with_reducible refine wl_min rfl _ _ _ _ rfl _ _ rfl rfl ?_) | (with_reducible refine wl_stAgg rfl _ _ _ rfl _ _ rfl rfl ?_))
        refine rg_stAgg hB7 (by kernel_rfl) (by rfl) (by simp [Value.oneCell']) ?_
        intro z3 hB7n k7 _
        replace hSt3 := hSt3.write k7 hU3 hR3 hb7
        go_wp2_with (first | (at_builtin; refine wl_append rfl _ _ _ _ rfl _ _ rfl rfl ?_) | (at_make; refine wl_make rfl _ _ _ rfl _ _ rfl rfl ?_) | (at_mapUpdate; refine wl_mapUpdate rfl _ _ _ _ rfl _ _ _ rfl rfl rfl ?_) | (at_lookup; refine wl_lookup rfl _ _ _ _ rfl _ _ rfl rfl ?_) | (at_delete; refine wl_delete rfl _ _ _ _ rfl _ _ rfl rfl ?_) | (with_reducible refine wl_len rfl _ _ rfl _ rfl ?_) | (with_reducible refine wl_range rfl _ _ rfl _ rfl ?_) | (with_reducible refine wl_next rfl _ rfl _ rfl ?_) | (with_reducible refine wl_copy rfl _ _ _ _ rfl _ _ rfl rfl ?_) | (with_reducible refine wl_max rfl _ _ _ _ rfl _ _ rfl rfl ?_) | (with_reducible refine wl_min rfl _ _ _ _ rfl _ _ rfl rfl ?_))
        go_roundw
        case rel => exact ⟨i + 1, mN, R3, U3, _, _, _, _, _, by simp, by omega, hSt3, hU3, hR3, hB7n, hsN, hiN⟩
        case measure => simp [intOf]; omega
      · have hka : Keep No wr.drew (wr.drew.alloc (.cells #[.int .i64 0, .slice none 0 0, .slice none 0 0, .slice none 0 0, .slice none 0 0, .slice none 0 0, .bool false, .int .i64 0] 47)) := (Keep.refl No wr.drew).alloc _
        have hBa : Blk (wr.drew.alloc (.cells #[.int .i64 0, .slice none 0 0, .slice none 0 0, .slice none 0 0, .slice none 0 0, .slice none 0 0, .bool false, .int .i64 0] 47)) wr.heap.size #[.int .i64 0, .slice none 0 0, .slice none 0 0, .slice none 0 0, .slice none 0 0, .slice none 0 0, .bool false, .int .i64 0] 47 := Blk.new _ _ _
        have hza : (wr.drew.alloc (.cells #[.int .i64 0, .slice none 0 0, .slice none 0 0, .slice none 0 0, .slice none 0 0, .slice none 0 0, .bool false, .int .i64 0] 47)).heap.size = wr.heap.size + 1 := World.size_alloc _ _
        have hRlt : ∀ k, R k → k < wr.heap.size := fun k h => hSt.lt k (hSt.sub k h)
        replace hSt := hSt.box (b := wr.heap.size) hka (Nat.le_refl _) (by rw [hza]; omega)
        replace hbl : b7 < wr.heap.size := hbl
        replace hB7 := hB7.keep hka fun h => h
        have qa := HQ.out _ hSt.keep
        have c7a := hB7.cell
        generalize hxx : wr.drew.alloc (.cells #[.int .i64 0, .slice none 0 0, .slice none 0 0, .slice none 0 0, .slice none 0 0, .slice none 0 0, .bool false, .int .i64 0] 47) = X at *
        go_wp2_with (first | (at_builtin; refine wl_append rfl _ _ _ _ rfl _ _ rfl rfl ?_) | (at_make; refine wl_make rfl _ _ _ rfl _ _ rfl rfl ?_) | (at_mapUpdate; refine wl_mapUpdate rfl _ _ _ _ rfl _ _ _ rfl rfl rfl ?_) | (at_lookup; refine wl_lookup rfl _ _ _ _ rfl _ _ rfl rfl ?_) | (at_delete; refine wl_delete rfl _ _ _ _ rfl _ _ rfl rfl ?_) | (with_reducible refine wl_len rfl _ _ rfl _ rfl ?_) | (with_reducible refine wl_range rfl _ _ rfl _ rfl ?_) | (with_reducible refine wl_next rfl _ rfl _ rfl ?_) | (with_reducible refine wl_copy rfl _ _ _ _ rfl _ _ rfl rfl ?_) | (with_reducible refine wl_max rfl _ _ _ _ rfl _ _ rfl rfl ?_) | (with_reducible refine wl_min rfl _ _ _ _ rfl _ _ rfl rfl ?_))
        refine ⟨fun _ => ⟨c7a, qa⟩, ?_⟩
        have hUx : (fun k => U k ∨ k = wr.heap.size) b7 := .inl hU
        have hU9 : (fun k => U k ∨ k = wr.heap.size) wr.heap.size := .inr rfl
        have h9w : w.heap.size ≤ wr.heap.size := by omega
        have h9n : ¬ R wr.heap.size := fun h => Nat.lt_irrefl _ (hRlt _ h)
        have h79 : b7 ≠ wr.heap.size := by omega
        replace hSt : ∃ U' : Nat → Prop, St w X d m R U' _ _ _ _ _ m ∧ U' b7 ∧ U' wr.heap.size := ⟨_, hSt, hUx, hU9⟩
        clear hUx hU9 hU c7
        obtain ⟨U, hSt, hU, hU9⟩ := hSt
        generalize wr.heap.size = b9 at *
        refine tr_eff (o := ⟨some 51, _, _, _, _, _⟩) rfl rfl (fun K hKe => ?_)
        go_wp2_with (first | (at_builtin; refine wl_append rfl _ _ _ _ rfl _ _ rfl rfl ?_) | (at_make; refine wl_make rfl _ _ _ rfl _ _ rfl rfl ?_) | (at_mapUpdate; refine wl_mapUpdate rfl _ _ _ _ rfl _ _ _ rfl rfl rfl ?_) | (at_lookup; refine wl_lookup rfl _ _ _ _ rfl _ _ rfl rfl ?_) | (at_delete; refine wl_delete rfl _ _ _ _ rfl _ _ rfl rfl ?_) | (with_reducible refine wl_len rfl _ _ rfl _ rfl ?_) | (with_reducible refine wl_range rfl _ _ rfl _ rfl ?_) | (with_reducible refine wl_next rfl _ rfl _ rfl ?_) | (with_reducible refine wl_copy rfl _ _ _ _ rfl _ _ rfl rfl ?_) | (with_reducible refine wl_max rfl _ _ _ _ rfl _ _ rfl rfl ?_) | (with_reducible refine wl_min rfl _ _ _ _ rfl _ _ rfl rfl ?_))
        refine (did_any (n3 := i) kd ia ib at_ bd kp hSt hs (by omega) (by omega) hs hfl (by omega) (by omega) (by omega) hvb hvk hbd hat.1).mono ?_
        rintro e y1 ⟨R3, U3, o1, o2, o3, o4, o5, rfl, hSt3, hk2, hUU, hRR⟩
        have q := HQ.out _ hSt3.keep
        replace hB7 := hB7.keep hk2 fun h => h.2 hU
        replace hBa := hBa.keep hk2 fun h => h.2 hU9
        have c7 := hB7.cell
        have hU3 := hUU _ hU
        replace hU9 := hUU _ hU9
        have hR3 : ¬ R3 b7 := fun h => by
          rcases hRR _ h with h | h
          · exact hR h
          · omega
        have hR9 : ¬ R3 b9 := fun h => by
          rcases hRR _ h with h | h
          · exact h9n h
          · omega
        clear hSt hk2 hUU hRR qa c7a
        obtain ⟨z1, y1', z2', y2', z3', y3', z4', y4', z5', y5', rfl, rfl, rfl, rfl, rfl⟩ := hSt3.ref.shape
        unfold dv
        go_wp2_with (first | (at_builtin; refine wl_append rfl _ _ _ _ rfl _ _ rfl rfl ?_) | (at_make; refine wl_make rfl _ _ _ rfl _ _ rfl rfl ?_) | (at_mapUpdate; refine wl_mapUpdate rfl _ _ _ _ rfl _ _ _ rfl rfl rfl ?_) | (at_lookup; refine wl_lookup rfl _ _ _ _ rfl _ _ rfl rfl ?_) | (at_delete; refine wl_delete rfl _ _ _ _ rfl _ _ rfl rfl ?_) | (with_reducible refine wl_len rfl _ _ rfl _ rfl ?_) | (with_reducible refine wl_range rfl _ _ rfl _ rfl ?_) | (with_reducible refine wl_next rfl _ rfl _ rfl ?_) | (with_reducible refine wl_copy rfl _ _ _ _ rfl _ _ rfl rfl ?_) | (with_reducible refine wl_max rfl _ _ _ _ rfl _ _ rfl rfl ?_) | (with_reducible refine wl_min rfl _ _ _ _ rfl _ _ rfl rfl ?_))
        refine ⟨fun _ => ⟨c7, q⟩, ?_⟩
        apply tr_still (o := ⟨some 44, _, _, _, _, _⟩) rfl rfl
        · intro w' hS
          obtain ⟨q1, q2, q3, q4, q5, q6, q7⟩ := hS
          first | (go_simp; done) | (go_simp; rfl) | rfl
        go_frame
        apply tr_still (o := ⟨some 52, _, _, _, _, _⟩) rfl rfl
        · intro w' hS
          obtain ⟨q1, q2, q3, q4, q5, q6, q7⟩ := hS
          first | (go_simp; done) | (go_simp; rfl) | rfl
        go_frame
        apply tr_still (o := ⟨some 53, _, _, _, _, _⟩) rfl rfl
        · intro w' hS
          obtain ⟨q1, q2, q3, q4, q5, q6, q7⟩ := hS
          first | (go_simp; done) | (go_simp; rfl) | rfl
        go_frame
        refine tr_eff (o := ⟨none, _, _, _, _, _⟩) rfl rfl (fun K hKe => ?_)
        refine wo_stAgg (.tmp 9) (.tmp 52) 47 rfl _ _ rfl rfl ?_
        refine rg_stAgg hBa (by kernel_rfl) (by rfl) (by simp [Value.oneCell']) ?_
        intro Z hB9 k9 hz9
        replace hSt3 := hSt3.write k9 hU9 hR9 h9w
        replace hB7 := hB7.keep k9 h79
        have qz := HQ.out _ hSt3.keep
        have c7z := hB7.cell
        refine hKe _ _ ⟨fun _ => ⟨c7z, qz⟩, ?_⟩
        clear hka hBa hza k9 hz9 q c7
        have c7 := c7z
        apply tr_still (o := ⟨some 10, _, _, _, _, _⟩) rfl rfl
        · intro w' hS
          obtain ⟨q1, q2, q3, q4, q5, q6, q7⟩ := hS
          first | (go_simp; done) | (go_simp; rfl) | rfl
        go_frame
        refine tr_nil ?_
        have c9 := hB9.cell
        have hsN : Small (didM m (kd, ia, ib, at_, bd, kp, ())) (i + 1) (300 * (i + 1)) := (didM_small hs (kd, ia, ib, at_, bd, kp, ()) hbd hat.2).mono (by omega) (by omega)
        have hiN : (didM m (kd, ia, ib, at_, bd, kp, ())).is.length ≤ i + 1 := Nat.le_trans (didM_is hfl.ln (kd, ia, ib, at_, bd, kp, ())) (by omega)
        have hflN := DR.files hSt3.own hiN
        clear c7
        have c7 := hB7.cell
        generalize didM m (kd, ia, ib, at_, bd, kp, ()) = mN at *
        go_wp2_with (first | (at_builtin; refine wl_append rfl _ _ _ _ rfl _ _ rfl rfl ?_) | (at_make; refine wl_make rfl _ _ _ rfl _ _ rfl rfl ?_) | (at_mapUpdate; refine wl_mapUpdate rfl _ _ _ _ rfl _ _ _ rfl rfl rfl ?_) | (at_lookup; refine wl_lookup rfl _ _ _ _ rfl _ _ rfl rfl ?_) | (at_delete; refine wl_delete rfl _ _ _ _ rfl _ _ rfl rfl ?_) | (with_reducible refine wl_len rfl _ _ rfl _ rfl ?_) | (with_reducible refine wl_range rfl _ _ rfl _ rfl ?_) | (with_reducible refine wl_next rfl _ rfl _ rfl ?_) | (with_reducible refine wl_copy rfl _ _ _ _ rfl _ _ rfl rfl ?_) | (with_reducible refine wl_max rfl _ _ _ _ rfl _ _ rfl rfl ?_) | (with_reducible refine wl_min rfl _ _ _ _ rfl _ _ rfl rfl ?_))
        refine (like_any hSt3 hsN hflN (by omega) (by omega)).mono ?_
        rintro e z2 ⟨rfl, kl⟩
        replace hSt3 := hSt3.no kl
        replace hB7 := hB7.keep kl fun h => h
        replace hB9 := hB9.keep kl fun h => h
        have c9 := hB9.cell
        clear c7
        go_wp2_with (first | (at_builtin; refine wl_append rfl _ _ _ _ rfl _ _ rfl rfl ?_) | (at_make; refine wl_make rfl _ _ _ rfl _ _ rfl rfl ?_) | (at_mapUpdate; refine wl_mapUpdate rfl _ _ _ _ rfl _ _ _ rfl rfl rfl ?_) | (at_lookup; refine wl_lookup rfl _ _ _ _ rfl _ _ rfl rfl ?_) | (at_delete; refine wl_delete rfl _ _ _ _ rfl _ _ rfl rfl ?_) | (with_reducible refine wl_len rfl _ _ rfl _ rfl ?_) | (with_reducible refine wl_range rfl _ _ rfl _ rfl ?_) | (with_reducible refine wl_next rfl _ rfl _ rfl ?_) | (with_reducible refine wl_copy rfl _ _ _ _ rfl _ _ rfl rfl ?_) | (with_reducible refine wl_max rfl _ _ _ _ rfl _ _ rfl rfl ?_) | (with_reducible refine wl_min rfl _ _ _ _ rfl _ _ rfl rfl ?_) | (with_reducible refine wl_stAgg rfl _ _ _ rfl _ _ rfl rfl ?_))
        refine rg_stAgg hB7 (by kernel_rfl) (by rfl) (by simp [Value.oneCell']) ?_
        intro z3 hB7n k7 _
        replace hSt3 := hSt3.write k7 hU3 hR3 hb7
        go_wp2_with (first | (at_builtin; refine wl_append rfl _ _ _ _ rfl _ _ rfl rfl ?_) | (at_make; refine wl_make rfl _ _ _ rfl _ _ rfl rfl ?_) | (at_mapUpdate; refine wl_mapUpdate rfl _ _ _ _ rfl _ _ _ rfl rfl rfl ?_) | (at_lookup; refine wl_lookup rfl _ _ _ _ rfl _ _ rfl rfl ?_) | (at_delete; refine wl_delete rfl _ _ _ _ rfl _ _ rfl rfl ?_) | (with_reducible refine wl_len rfl _ _ rfl _ rfl ?_) | (with_reducible refine wl_range rfl _ _ rfl _ rfl ?_) | (with_reducible refine wl_next rfl _ rfl _ rfl ?_) | (with_reducible refine wl_copy rfl _ _ _ _ rfl _ _ rfl rfl ?_) | (with_reducible refine wl_max rfl _ _ _ _ rfl _ _ rfl rfl ?_) | (with_reducible refine wl_min rfl _ _ _ _ rfl _ _ rfl rfl ?_))
        go_roundw
        case rel => exact ⟨i + 1, mN, R3, U3, _, _, _, _, _, by simp, by omega, hSt3, hU3, hR3, hB7n, hsN, hiN⟩
        case measure => simp [intOf]; omega
    · have hend2 : l.length ≤ i ∨ (i < l.length ∧ i = 40) := by omega
      rcases hend2 with hend2 | ⟨hil, rfl⟩
      · go_wp2_with (first | (at_builtin; refine wl_append rfl _ _ _ _ rfl _ _ rfl rfl ?_) | (at_make; refine wl_make rfl _ _ _ rfl _ _ rfl rfl ?_) | (at_mapUpdate; refine wl_mapUpdate rfl _ _ _ _ rfl _ _ _ rfl rfl rfl ?_) | (at_lookup; refine wl_lookup rfl _ _ _ _ rfl _ _ rfl rfl ?_) | (at_delete; refine wl_delete rfl _ _ _ _ rfl _ _ rfl rfl ?_) | (with_reducible refine wl_len rfl _ _ rfl _ rfl ?_) | (with_reducible refine wl_range rfl _ _ rfl _ rfl ?_) | (with_reducible refine wl_next rfl _ rfl _ rfl ?_) | (with_reducible refine wl_copy rfl _ _ _ _ rfl _ _ rfl rfl ?_) | (with_reducible refine wl_max rfl _ _ _ _ rfl _ _ rfl rfl ?_) | (with_reducible refine wl_min rfl _ _ _ _ rfl _ _ rfl rfl ?_))
        go_ret
        exact ⟨rfl, hSt.keep.os, hSt.keep.tape, hSt.keep.output, hSt.keep.size, fun j hj _ => hSt.keep.block j hj (by omega)⟩
      · have hil' : (40 : Int) < (l.length : Int) := by omega
        go_wp2_with (first | (at_builtin; refine wl_append rfl _ _ _ _ rfl _ _ rfl rfl ?_) | (at_make; refine wl_make rfl _ _ _ rfl _ _ rfl rfl ?_) | (at_mapUpdate; refine wl_mapUpdate rfl _ _ _ _ rfl _ _ _ rfl rfl rfl ?_) | (at_lookup; refine wl_lookup rfl _ _ _ _ rfl _ _ rfl rfl ?_) | (at_delete; refine wl_delete rfl _ _ _ _ rfl _ _ rfl rfl ?_) | (with_reducible refine wl_len rfl _ _ rfl _ rfl ?_) | (with_reducible refine wl_range rfl _ _ rfl _ rfl ?_) | (with_reducible refine wl_next rfl _ rfl _ rfl ?_) | (with_reducible refine wl_copy rfl _ _ _ _ rfl _ _ rfl rfl ?_) | (with_reducible refine wl_max rfl _ _ _ _ rfl _ _ rfl rfl ?_) | (with_reducible refine wl_min rfl _ _ _ _ rfl _ _ rfl rfl ?_))
        go_ret
        exact ⟨rfl, hSt.keep.os, hSt.keep.tape, hSt.keep.output, hSt.keep.size, fun j hj _ => hSt.keep.block j hj (by omega)⟩
end Go.Proofs.Ytkmoomgmmhmaeaa
