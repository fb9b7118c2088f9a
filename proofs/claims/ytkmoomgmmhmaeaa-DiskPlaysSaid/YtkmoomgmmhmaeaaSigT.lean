/- DiskSure. A region that draws its order, walked in orders that are given as a tree: where two operations that turn memory may both come next, both ways are shown. No condition. -/
import Derived.Test.YtkmoomgmmhmaeaaLawSureM
import Derived.Test.YtkmoomgmmhmaeaaDiskR
namespace Go.Proofs.Ytkmoomgmmhmaeaa
open Go.RowKit Go.Dm Go.Dm.Dk Go.Maps Go.ChangeShapes Go.WideShapes

theorem act_cells2 {A : Nat → Prop} {w : World} {c : List Value} {y : ActH.Ty} (h : Rd A w ActH c y) :
    ∃ vb vk, c = [.int .i64 y.1, .int .i64 y.2.1, .int .i64 y.2.2.1, .int .i64 y.2.2.2.1, vb, vk] ∧ Bts A w vb y.2.2.2.2.1 ∧ Bls A w vk y.2.2.2.2.2.1 ∧ (Lit.int .i64 y.2.2.2.1).wf = true := by
  obtain ⟨_, _, rfl, ⟨rfl, _⟩, _, _, rfl, ⟨rfl, _⟩, _, _, rfl, ⟨rfl, _⟩, _, _, rfl, ⟨rfl, hwf⟩, _, _, rfl, h5, _, _, rfl, h6, h7⟩ := h
  have h5' := h5
  have h6' := h6
  obtain ⟨vb, _, rfl, _⟩ := h5'
  obtain ⟨vk, _, rfl, _⟩ := h6'
  obtain rfl := h7
  exact ⟨vb, vk, rfl, h5.bts, h6.bools, hwf⟩
theorem act_at2 {w : World} {va : Option Addr} {vc : Nat} {l : List ActH.Ty} (hl : Rd (fun k => k < w.heap.size) w (.slice ActH) [.slice va l.length vc] l) {i : Nat} (hi : i < l.length) :
    ∃ g off b1 b2 k1 k2, va = some ⟨g, off, none⟩ ∧ g < w.heap.size ∧ (Lit.int .i64 l[i].2.2.2.1).wf = true ∧ Bts (fun k => k < w.heap.size) w (.slice b1 l[i].2.2.2.2.1.length b2) l[i].2.2.2.2.1 ∧ Bls (fun k => k < w.heap.size) w (.slice k1 l[i].2.2.2.2.2.1.length k2) l[i].2.2.2.2.2.1 ∧ ∀ W, Keep (fun j => w.heap.size ≤ j) w W →
      W.cell? ⟨g, off + i * 6, none⟩ = some (.int .i64 l[i].1) ∧ W.cell? ⟨g, off + i * 6 + 1, none⟩ = some (.int .i64 l[i].2.1) ∧ W.cell? ⟨g, off + i * 6 + 2, none⟩ = some (.int .i64 l[i].2.2.1) ∧ W.cell? ⟨g, off + i * 6 + 3, none⟩ = some (.int .i64 l[i].2.2.2.1) ∧
      W.cell? ⟨g, off + i * 6 + 4, none⟩ = some (.slice b1 l[i].2.2.2.2.1.length b2) ∧ W.cell? ⟨g, off + i * 6 + 5, none⟩ = some (.slice k1 l[i].2.2.2.2.2.1.length k2) := by
  obtain ⟨g, off, cap, e1, hg1, hg2, _, _, c, hc, hcell⟩ := hl.at (n := 6) rfl hi
  cases e1
  obtain ⟨vb, vk, rfl, hvb, hvk, hwf⟩ := act_cells2 hc
  obtain ⟨b1, b2, rfl, hb3, hb4⟩ := hvb.shape
  obtain ⟨k1, k2, rfl, hk3, hk4⟩ := hvk.shape
  refine ⟨g, off, b1, b2, k1, k2, rfl, hg1, hwf, hvb, hvk, fun W hK => ?_⟩
  have hL : ∀ (o : Nat) (u : Value), w.cell? ⟨g, o, none⟩ = some u → W.cell? ⟨g, o, none⟩ = some u := fun o u h => (hK.cell (p := ⟨g, o, none⟩) hg1 (fun h => absurd hg1 (Nat.not_lt.2 h))).trans h
  exact ⟨hL _ _ (hcell 0 _ rfl), hL _ _ (hcell 1 _ rfl), hL _ _ (hcell 2 _ rfl), hL _ _ (hcell 3 _ rfl), hL _ _ (hcell 4 _ rfl), hL _ _ (hcell 5 _ rfl)⟩
theorem St.weak {w0 w : World} {d : Nat} {m m2 : M} {R U : Nat → Prop} {v1 v2 v3 v4 v5 : Value} (h : St w0 w d m R U v1 v2 v3 v4 v5 m2) : Own (fun k => w0.heap.size ≤ k) w d m := h.own.mono fun _ _ ha => ⟨ha.1.1, ha.2⟩
theorem St.new {w0 w X Y : World} {d : Nat} {m m2 : M} {v1 v2 v3 v4 v5 : Value} (hO : Own (fun k => w0.heap.size ≤ k) w d m) (hK : Keep (fun k => w0.heap.size ≤ k) w0 w) (hwX : Keep No w X) (hk : Keep No X Y) (hD : DV (Plus No X Y) Y v1 v2 v3 v4 v5 m2) :
    St w0 Y d m (fun k => X.heap.size ≤ k ∧ k < Y.heap.size) (fun k => X.heap.size ≤ k ∧ k < Y.heap.size) v1 v2 v3 v4 v5 m2 := by
  have hwY := hwX.trans' hk
  refine ⟨?_, hD.mono fun j hj ha => ?_, fun k hk => hk.2, fun k hk => hk, hK.trans' (hwY.mono fun _ _ h => h.elim)⟩
  · exact (DR.keep hO (fun k hk => hk.2) hwY fun _ _ h => h).mono fun k hk ha => ⟨⟨ha.1, fun hr => by have := ha.2; have := hwX.size; omega⟩, hk⟩
  · rcases ha with ha | ha
    · exact ha.elim
    · exact ha
theorem didM_inv {m : M} {body : List UInt8} (h : SureInv m body) (y : ActH.Ty) : SureInv (didM m y) body := by
  unfold didM
  split
  · exact h.cutD _
  · split
    · exact h.crash _
    · rename_i h1 h2
      have hr := mask_le y.1 15
      have ht := tab_at (mask y.1 15) (by omega)
      exact h.call _ _ (nm_mine _) (nm_mine _) ht.2
theorem didM_small {m : M} {n N : Nat} (h : Small m n N) (y : ActH.Ty) (hb : y.2.2.2.2.1.length ≤ 300) (ha : (y.2.2.2.1 : Int) ≤ 9223372036854775807) : Small (didM m y) (n + 1) (N + 300) := by
  have h1 := nm_len y.2.1
  have h2 := nm_len y.2.2.1
  unfold didM
  split
  · exact (h.cutD _ ha).mono (by omega) (by omega)
  · split
    · exact (h.crash _).mono (by omega) (by omega)
    · exact h.call _ _ _ _ _ (by omega) (by omega) hb

set_option maxRecDepth 100000 in
set_option maxHeartbeats 8000000 in
theorem disksure_any (body : List UInt8) (vb v vk : Value) (l : List ActH.Ty) (keep : List Bool) (w : World) (hb : Bts (fun k => k < w.heap.size) w vb body) (hl : Rd (fun k => k < w.heap.size) w (.slice ActH) [v] l) (hk : Bls (fun k => k < w.heap.size) w vk keep) :
    Calls Try.prog 5 #[vb, v, vk] w fun e w' => e = .returned (.bool true) ∧ Keep No w w' := by
  obtain ⟨va, vc, rfl, hvc, hvm⟩ := hl.shape
  obtain ⟨ba, bc, rfl, hbc, hbm⟩ := hb.shape
  obtain ⟨ka, kc, rfl, hkc, hkm⟩ := hk.shape
  unfold maxLen at hbm
  go_enter Try.func5, Try.ntmps5
  go_wp2_with (first | (at_builtin; refine wl_append rfl _ _ _ _ rfl _ _ rfl rfl ?_) | (at_make; refine wl_make rfl _ _ _ rfl _ _ rfl rfl ?_) | (at_mapUpdate; refine wl_mapUpdate rfl _ _ _ _ rfl _ _ _ rfl rfl rfl ?_) | (at_lookup; refine wl_lookup rfl _ _ _ _ rfl _ _ rfl rfl ?_) | (at_delete; refine wl_delete rfl _ _ _ _ rfl _ _ rfl rfl ?_) | (with_reducible refine wl_len rfl _ _ rfl _ rfl ?_) | (with_reducible refine wl_range rfl _ _ rfl _ rfl ?_) | (with_reducible refine wl_next rfl _ rfl _ rfl ?_) | (with_reducible refine wl_copy rfl _ _ _ _ rfl _ _ rfl rfl ?_) | (with_reducible refine wl_max rfl _ _ _ _ rfl _ _ rfl rfl ?_) | (with_reducible refine wl_min rfl _ _ _ _ rfl _ _ rfl rfl ?_))
  refine (awake_any w).mono ?_
  rintro e w0 ⟨rfl, k0⟩
  have hlb : 500 < body.length ∨ body.length ≤ 500 := by omega
  rcases hlb with hlb | hlb
  · have hlb' : (500 : Int) < (body.length : Int) := by omega
    go_wp2_with (first | (at_builtin; refine wl_append rfl _ _ _ _ rfl _ _ rfl rfl ?_) | (at_make; refine wl_make rfl _ _ _ rfl _ _ rfl rfl ?_) | (at_mapUpdate; refine wl_mapUpdate rfl _ _ _ _ rfl _ _ _ rfl rfl rfl ?_) | (at_lookup; refine wl_lookup rfl _ _ _ _ rfl _ _ rfl rfl ?_) | (at_delete; refine wl_delete rfl _ _ _ _ rfl _ _ rfl rfl ?_) | (with_reducible refine wl_len rfl _ _ rfl _ rfl ?_) | (with_reducible refine wl_range rfl _ _ rfl _ rfl ?_) | (with_reducible refine wl_next rfl _ rfl _ rfl ?_) | (with_reducible refine wl_copy rfl _ _ _ _ rfl _ _ rfl rfl ?_) | (with_reducible refine wl_max rfl _ _ _ _ rfl _ _ rfl rfl ?_) | (with_reducible refine wl_min rfl _ _ _ _ rfl _ _ rfl rfl ?_))
    go_ret
    exact ⟨rfl, k0⟩
  have hlb' : (body.length : Int) ≤ 500 := by omega
  go_wp2_with (first | (at_builtin; refine wl_append rfl _ _ _ _ rfl _ _ rfl rfl ?_) | (at_make; refine wl_make rfl _ _ _ rfl _ _ rfl rfl ?_) | (at_mapUpdate; refine wl_mapUpdate rfl _ _ _ _ rfl _ _ _ rfl rfl rfl ?_) | (at_lookup; refine wl_lookup rfl _ _ _ _ rfl _ _ rfl rfl ?_) | (at_delete; refine wl_delete rfl _ _ _ _ rfl _ _ rfl rfl ?_) | (with_reducible refine wl_len rfl _ _ rfl _ rfl ?_) | (with_reducible refine wl_range rfl _ _ rfl _ rfl ?_) | (with_reducible refine wl_next rfl _ rfl _ rfl ?_) | (with_reducible refine wl_copy rfl _ _ _ _ rfl _ _ rfl rfl ?_) | (with_reducible refine wl_max rfl _ _ _ _ rfl _ _ rfl rfl ?_) | (with_reducible refine wl_min rfl _ _ _ _ rfl _ _ rfl rfl ?_))
  refine (new_own 1048576 w0 (fun k => w.heap.size ≤ k) (fun _ h => Nat.le_trans k0.size h)).mono ?_
  rintro e w1 ⟨d, rfl, h1, k1⟩
  have hK1 : Keep (fun k => w.heap.size ≤ k) w w1 := (k0.trans' k1).mono fun _ _ h => h.elim
  clear k0 k1
  unfold ptrTo
  have hs0 : Small (Dk.new 1048576) 0 0 := Small.new 1048576 (by omega)
  have hs1 := hs0.call (b := 4) 1 mine [] 0 [] (by decide) (by decide) (by decide)
  rw [ds_1] at hs1
  have hs2 := hs1.call (b := 500) 2 mine [] 0 body (by decide) (by decide) hlb
  rw [ds_2 body hlb] at hs2
  have hs3 := hs2.call (b := 4) 3 mine [] 0 [] (by decide) (by decide) (by decide)
  rw [ds_3] at hs3
  have hs4 := hs3.call (b := 4) 6 [] [] 0 [] (by decide) (by decide) (by decide)
  rw [ds_4] at hs4
  go_wp2_with (first | (at_builtin; refine wl_append rfl _ _ _ _ rfl _ _ rfl rfl ?_) | (at_make; refine wl_make rfl _ _ _ rfl _ _ rfl rfl ?_) | (at_mapUpdate; refine wl_mapUpdate rfl _ _ _ _ rfl _ _ _ rfl rfl rfl ?_) | (at_lookup; refine wl_lookup rfl _ _ _ _ rfl _ _ rfl rfl ?_) | (at_delete; refine wl_delete rfl _ _ _ _ rfl _ _ rfl rfl ?_) | (with_reducible refine wl_len rfl _ _ rfl _ rfl ?_) | (with_reducible refine wl_range rfl _ _ rfl _ rfl ?_) | (with_reducible refine wl_next rfl _ rfl _ rfl ?_) | (with_reducible refine wl_copy rfl _ _ _ _ rfl _ _ rfl rfl ?_) | (with_reducible refine wl_max rfl _ _ _ _ rfl _ _ rfl rfl ?_) | (with_reducible refine wl_min rfl _ _ _ _ rfl _ _ rfl rfl ?_))
  refine (create_own mine h1 (fun k hk => Nat.le_trans hK1.size hk) hs0 (by omega) (by omega) (by decide)).mono ?_
  rintro e w2 ⟨rfl, h2, k2⟩
  rw [ds_1] at h2 ⊢
  have hK2 := hK1.trans' k2
  clear h1 k2 hK1
  go_wp2_with (first | (at_builtin; refine wl_append rfl _ _ _ _ rfl _ _ rfl rfl ?_) | (at_make; refine wl_make rfl _ _ _ rfl _ _ rfl rfl ?_) | (at_mapUpdate; refine wl_mapUpdate rfl _ _ _ _ rfl _ _ _ rfl rfl rfl ?_) | (at_lookup; refine wl_lookup rfl _ _ _ _ rfl _ _ rfl rfl ?_) | (at_delete; refine wl_delete rfl _ _ _ _ rfl _ _ rfl rfl ?_) | (with_reducible refine wl_len rfl _ _ rfl _ rfl ?_) | (with_reducible refine wl_range rfl _ _ rfl _ rfl ?_) | (with_reducible refine wl_next rfl _ rfl _ rfl ?_) | (with_reducible refine wl_copy rfl _ _ _ _ rfl _ _ rfl rfl ?_) | (with_reducible refine wl_max rfl _ _ _ _ rfl _ _ rfl rfl ?_) | (with_reducible refine wl_min rfl _ _ _ _ rfl _ _ rfl rfl ?_))
  have hb2 : Bts (fun k => k < w.heap.size) w2 (.slice ba body.length bc) body := Sl.keep hb hK2 fun j hj _ h => absurd h (Nat.not_le.2 hj)
  refine (write_own (P := fun k => w.heap.size ≤ k) mine body 0 h2 (fun k hk => hk) (fun k hk => Nat.le_trans hK2.size hk) hs1 (by omega) (by omega) (by decide) (by omega) hb2 (fun k hk ha => absurd hk (Nat.not_lt.2 ha.1))).mono ?_
  rintro e w3 ⟨rfl, h3, k3⟩
  rw [ds_2 body hlb] at h3 ⊢
  have hK3 := hK2.trans k3 fun j _ h => h.1
  clear h2 k3 hK2 hb2
  go_wp2_with (first | (at_builtin; refine wl_append rfl _ _ _ _ rfl _ _ rfl rfl ?_) | (at_make; refine wl_make rfl _ _ _ rfl _ _ rfl rfl ?_) | (at_mapUpdate; refine wl_mapUpdate rfl _ _ _ _ rfl _ _ _ rfl rfl rfl ?_) | (at_lookup; refine wl_lookup rfl _ _ _ _ rfl _ _ rfl rfl ?_) | (at_delete; refine wl_delete rfl _ _ _ _ rfl _ _ rfl rfl ?_) | (with_reducible refine wl_len rfl _ _ rfl _ rfl ?_) | (with_reducible refine wl_range rfl _ _ rfl _ rfl ?_) | (with_reducible refine wl_next rfl _ rfl _ rfl ?_) | (with_reducible refine wl_copy rfl _ _ _ _ rfl _ _ rfl rfl ?_) | (with_reducible refine wl_max rfl _ _ _ _ rfl _ _ rfl rfl ?_) | (with_reducible refine wl_min rfl _ _ _ _ rfl _ _ rfl rfl ?_))
  refine (sync_own mine h3 (fun k hk => Nat.le_trans hK3.size hk) hs2 (by omega) (by omega) (by decide)).mono ?_
  rintro e w4 ⟨rfl, h4, k4⟩
  rw [ds_3] at h4 ⊢
  have hK4 := hK3.trans' k4
  clear h3 k4 hK3
  go_wp2_with (first | (at_builtin; refine wl_append rfl _ _ _ _ rfl _ _ rfl rfl ?_) | (at_make; refine wl_make rfl _ _ _ rfl _ _ rfl rfl ?_) | (at_mapUpdate; refine wl_mapUpdate rfl _ _ _ _ rfl _ _ _ rfl rfl rfl ?_) | (at_lookup; refine wl_lookup rfl _ _ _ _ rfl _ _ rfl rfl ?_) | (at_delete; refine wl_delete rfl _ _ _ _ rfl _ _ rfl rfl ?_) | (with_reducible refine wl_len rfl _ _ rfl _ rfl ?_) | (with_reducible refine wl_range rfl _ _ rfl _ rfl ?_) | (with_reducible refine wl_next rfl _ rfl _ rfl ?_) | (with_reducible refine wl_copy rfl _ _ _ _ rfl _ _ rfl rfl ?_) | (with_reducible refine wl_max rfl _ _ _ _ rfl _ _ rfl rfl ?_) | (with_reducible refine wl_min rfl _ _ _ _ rfl _ _ rfl rfl ?_))
  refine (syncnames_own h4 (fun k hk => Nat.le_trans hK4.size hk) hs3 (by omega) (by omega)).mono ?_
  rintro e w5 ⟨rfl, h5, k5⟩
  rw [ds_4] at h5 ⊢
  have hK5 := hK4.trans' k5
  clear h4 k5 hK4 hs0 hs1 hs2 hs3
  have hinv := ds_inv body
  generalize ds4 body = m0 at *
  go_wp2_with (first | (at_builtin; refine wl_append rfl _ _ _ _ rfl _ _ rfl rfl ?_) | (at_make; refine wl_make rfl _ _ _ rfl _ _ rfl rfl ?_) | (at_mapUpdate; refine wl_mapUpdate rfl _ _ _ _ rfl _ _ _ rfl rfl rfl ?_) | (at_lookup; refine wl_lookup rfl _ _ _ _ rfl _ _ rfl rfl ?_) | (at_delete; refine wl_delete rfl _ _ _ _ rfl _ _ rfl rfl ?_) | (with_reducible refine wl_len rfl _ _ rfl _ rfl ?_) | (with_reducible refine wl_range rfl _ _ rfl _ rfl ?_) | (with_reducible refine wl_next rfl _ rfl _ rfl ?_) | (with_reducible refine wl_copy rfl _ _ _ _ rfl _ _ rfl rfl ?_) | (with_reducible refine wl_max rfl _ _ _ _ rfl _ _ rfl rfl ?_) | (with_reducible refine wl_min rfl _ _ _ _ rfl _ _ rfl rfl ?_))
  go_loopw [9] (fun iv wr => ∃ (i : Nat) (m : M), iv = .int .i64 i ∧ i ≤ 30 ∧ SureInv m body ∧ Small m (10 + i) (1000 + 300 * i) ∧ Own (fun j => w.heap.size ≤ j) wr d m ∧ Keep (fun j => w.heap.size ≤ j) w wr) (fun iv _ => 30 - (intOf iv).toNat)
  case atStart => exact ⟨0, m0, rfl, by omega, hinv, hs4.mono (by omega) (by omega), h5, hK5⟩
  case round =>
    clear hinv hs4 h5 hK5
    obtain ⟨i, m, rfl, hi, hinv, hs, hO, hK⟩ := hrel
    have hend : i < l.length ∧ i < 30 ∨ ¬ (i < l.length ∧ i < 30) := by omega
    rcases hend with ⟨hil, hi3⟩ | hend
    · obtain ⟨g, off, b1, b2, k1, k2, e1, hg1, hwf, hvb, hvk, hQ⟩ := act_at2 hl hil
      cases e1
      generalize l[i] = y at *
      obtain ⟨kd, ia, ib, at_, bd, kp, _⟩ := y
      obtain ⟨q0, q1, q2, q3, q4, q5⟩ := hQ _ hK
      have HQ := Lib.hid hQ
      clear hQ
      simp only at *
      have hbd : 300 < bd.length ∨ bd.length ≤ 300 := by omega
      rcases hbd with hbd | hbd
      · have hbd' : (300 : Int) < (bd.length : Int) := by omega
        go_wp2_with (first | (at_builtin; refine wl_append rfl _ _ _ _ rfl _ _ rfl rfl ?_) | (at_make; refine wl_make rfl _ _ _ rfl _ _ rfl rfl ?_) | (at_mapUpdate; refine wl_mapUpdate rfl _ _ _ _ rfl _ _ _ rfl rfl rfl ?_) | (at_lookup; refine wl_lookup rfl _ _ _ _ rfl _ _ rfl rfl ?_) | (at_delete; refine wl_delete rfl _ _ _ _ rfl _ _ rfl rfl ?_) | (with_reducible refine wl_len rfl _ _ rfl _ rfl ?_) | (with_reducible refine wl_range rfl _ _ rfl _ rfl ?_) | (with_reducible refine wl_next rfl _ rfl _ rfl ?_) | (with_reducible refine wl_copy rfl _ _ _ _ rfl _ _ rfl rfl ?_) | (with_reducible refine wl_max rfl _ _ _ _ rfl _ _ rfl rfl ?_) | (with_reducible refine wl_min rfl _ _ _ _ rfl _ _ rfl rfl ?_))
        go_ret
        exact ⟨rfl, hK.os, hK.tape, hK.output, hK.size, fun j hj _ => hK.block j hj (by omega)⟩
      have hbd' : (bd.length : Int) ≤ 300 := by omega
      have hat := bounds_i64 hwf
      go_wp2_with (first | (at_builtin; refine wl_append rfl _ _ _ _ rfl _ _ rfl rfl ?_) | (at_make; refine wl_make rfl _ _ _ rfl _ _ rfl rfl ?_) | (at_mapUpdate; refine wl_mapUpdate rfl _ _ _ _ rfl _ _ _ rfl rfl rfl ?_) | (at_lookup; refine wl_lookup rfl _ _ _ _ rfl _ _ rfl rfl ?_) | (at_delete; refine wl_delete rfl _ _ _ _ rfl _ _ rfl rfl ?_) | (with_reducible refine wl_len rfl _ _ rfl _ rfl ?_) | (with_reducible refine wl_range rfl _ _ rfl _ rfl ?_) | (with_reducible refine wl_next rfl _ rfl _ rfl ?_) | (with_reducible refine wl_copy rfl _ _ _ _ rfl _ _ rfl rfl ?_) | (with_reducible refine wl_max rfl _ _ _ _ rfl _ _ rfl rfl ?_) | (with_reducible refine wl_min rfl _ _ _ _ rfl _ _ rfl rfl ?_))
      refine wp_region_sig (fun w' => w'.cell? ⟨g, off + i * 6, none⟩ = some (.int .i64 kd) ∧ w'.cell? ⟨g, off + i * 6 + 1, none⟩ = some (.int .i64 ia) ∧ w'.cell? ⟨g, off + i * 6 + 2, none⟩ = some (.int .i64 ib) ∧ w'.cell? ⟨g, off + i * 6 + 3, none⟩ = some (.int .i64 at_) ∧ w'.cell? ⟨g, off + i * 6 + 4, none⟩ = some (.slice b1 bd.length b2) ∧ w'.cell? ⟨g, off + i * 6 + 5, none⟩ = some (.slice k1 kp.length k2)) (fun j => decide (j ≤ 99)) [(0, true), (2, true), (3, true), (4, true), (5, true), (1, false), (6, false), (7, false), (8, true), (9, true)] (by kernel_rfl) (by kernel_rfl) (by intro c a d v w h; cases d <;> exact h) ⟨q0, q1, q2, q3, q4, q5⟩ ?_
      apply sig_still (o := ⟨some 56, _, _, _, _, _⟩) rfl rfl
      · intro w' hS
        obtain ⟨q1, q2, q3, q4, q5, q6⟩ := hS
        first | (go_simp; done) | (go_simp; rfl) | rfl
      go_frame
      apply sig_still (o := ⟨some 58, _, _, _, _, _⟩) rfl rfl
      · intro w' hS
        obtain ⟨q1, q2, q3, q4, q5, q6⟩ := hS
        first | (go_simp; done) | (go_simp; rfl) | rfl
      go_frame
      apply sig_still (o := ⟨some 59, _, _, _, _, _⟩) rfl rfl
      · intro w' hS
        obtain ⟨q1, q2, q3, q4, q5, q6⟩ := hS
        first | (go_simp; done) | (go_simp; rfl) | rfl
      go_frame
      apply sig_still (o := ⟨some 60, _, _, _, _, _⟩) rfl rfl
      · intro w' hS
        obtain ⟨q1, q2, q3, q4, q5, q6⟩ := hS
        first | (go_simp; done) | (go_simp; rfl) | rfl
      go_frame
      apply sig_still (o := ⟨some 61, _, _, _, _, _⟩) rfl rfl
      · intro w' hS
        obtain ⟨q1, q2, q3, q4, q5, q6⟩ := hS
        first | (go_simp; done) | (go_simp; rfl) | rfl
      go_frame
      refine sig_eff (o := ⟨some 57, _, _, _, _, _⟩) rfl rfl (fun K hKe => ?_)
      go_wp2_with (first | (at_builtin; refine wl_append rfl _ _ _ _ rfl _ _ rfl rfl ?_) | (at_make; refine wl_make rfl _ _ _ rfl _ _ rfl rfl ?_) | (at_mapUpdate; refine wl_mapUpdate rfl _ _ _ _ rfl _ _ _ rfl rfl rfl ?_) | (at_lookup; refine wl_lookup rfl _ _ _ _ rfl _ _ rfl rfl ?_) | (at_delete; refine wl_delete rfl _ _ _ _ rfl _ _ rfl rfl ?_) | (with_reducible refine wl_len rfl _ _ rfl _ rfl ?_) | (with_reducible refine wl_range rfl _ _ rfl _ rfl ?_) | (with_reducible refine wl_next rfl _ rfl _ rfl ?_) | (with_reducible refine wl_copy rfl _ _ _ _ rfl _ _ rfl rfl ?_) | (with_reducible refine wl_max rfl _ _ _ _ rfl _ _ rfl rfl ?_) | (with_reducible refine wl_min rfl _ _ _ _ rfl _ _ rfl rfl ?_))
      refine (rnew_any 0 _).mono ?_
      rintro e x1 ⟨u1, u2, u3, u4, u5, rfl, hD, kx⟩
      have hwd : Keep No wr wr.drew := (Keep.refl No wr).drew
      have hSt := St.new hO hK hwd kx hD
      have q := HQ.out _ hSt.keep
      clear hO hK kx hD
      unfold dv
      go_wp2_with (first | (at_builtin; refine wl_append rfl _ _ _ _ rfl _ _ rfl rfl ?_) | (at_make; refine wl_make rfl _ _ _ rfl _ _ rfl rfl ?_) | (at_mapUpdate; refine wl_mapUpdate rfl _ _ _ _ rfl _ _ _ rfl rfl rfl ?_) | (at_lookup; refine wl_lookup rfl _ _ _ _ rfl _ _ rfl rfl ?_) | (at_delete; refine wl_delete rfl _ _ _ _ rfl _ _ rfl rfl ?_) | (with_reducible refine wl_len rfl _ _ rfl _ rfl ?_) | (with_reducible refine wl_range rfl _ _ rfl _ rfl ?_) | (with_reducible refine wl_next rfl _ rfl _ rfl ?_) | (with_reducible refine wl_copy rfl _ _ _ _ rfl _ _ rfl rfl ?_) | (with_reducible refine wl_max rfl _ _ _ _ rfl _ _ rfl rfl ?_) | (with_reducible refine wl_min rfl _ _ _ _ rfl _ _ rfl rfl ?_))
      refine ⟨fun _ => q, ?_⟩
      refine sig_eff (o := ⟨some 62, _, _, _, _, _⟩) rfl rfl (fun K hKe => ?_)
      go_wp2_with (first | (at_builtin; refine wl_append rfl _ _ _ _ rfl _ _ rfl rfl ?_) | (at_make; refine wl_make rfl _ _ _ rfl _ _ rfl rfl ?_) | (at_mapUpdate; refine wl_mapUpdate rfl _ _ _ _ rfl _ _ _ rfl rfl rfl ?_) | (at_lookup; refine wl_lookup rfl _ _ _ _ rfl _ _ rfl rfl ?_) | (at_delete; refine wl_delete rfl _ _ _ _ rfl _ _ rfl rfl ?_) | (with_reducible refine wl_len rfl _ _ rfl _ rfl ?_) | (with_reducible refine wl_range rfl _ _ rfl _ rfl ?_) | (with_reducible refine wl_next rfl _ rfl _ rfl ?_) | (with_reducible refine wl_copy rfl _ _ _ _ rfl _ _ rfl rfl ?_) | (with_reducible refine wl_max rfl _ _ _ _ rfl _ _ rfl rfl ?_) | (with_reducible refine wl_min rfl _ _ _ _ rfl _ _ rfl rfl ?_))
      refine (did_any (n3 := 0) kd ia ib at_ bd kp hSt hs (by omega) (by omega) (Small.new 0 (by omega)) ⟨fun p hp => (by cases hp), fun p hp => (by cases hp), fun o ho => (by cases ho), rfl, Nat.le_refl _⟩ (by omega) (by omega) (by omega) hvb hvk hbd hat.1).mono ?_
      rintro e x2 ⟨R, U, z1, z2, z3, z4, z5, rfl, hSt2, _⟩
      have q' := HQ.out _ hSt2.keep
      go_wp2_with (first | (at_builtin; refine wl_append rfl _ _ _ _ rfl _ _ rfl rfl ?_) | (at_make; refine wl_make rfl _ _ _ rfl _ _ rfl rfl ?_) | (at_mapUpdate; refine wl_mapUpdate rfl _ _ _ _ rfl _ _ _ rfl rfl rfl ?_) | (at_lookup; refine wl_lookup rfl _ _ _ _ rfl _ _ rfl rfl ?_) | (at_delete; refine wl_delete rfl _ _ _ _ rfl _ _ rfl rfl ?_) | (with_reducible refine wl_len rfl _ _ rfl _ rfl ?_) | (with_reducible refine wl_range rfl _ _ rfl _ rfl ?_) | (with_reducible refine wl_next rfl _ rfl _ rfl ?_) | (with_reducible refine wl_copy rfl _ _ _ _ rfl _ _ rfl rfl ?_) | (with_reducible refine wl_max rfl _ _ _ _ rfl _ _ rfl rfl ?_) | (with_reducible refine wl_min rfl _ _ _ _ rfl _ _ rfl rfl ?_))
      refine ⟨fun _ => q', ?_⟩
      refine sig_eff (o := ⟨some 55, _, _, _, _, _⟩) rfl rfl (fun K hKe => ?_)
      go_wp2_with (first | (at_builtin; refine wl_append rfl _ _ _ _ rfl _ _ rfl rfl ?_) | (at_make; refine wl_make rfl _ _ _ rfl _ _ rfl rfl ?_) | (at_mapUpdate; refine wl_mapUpdate rfl _ _ _ _ rfl _ _ _ rfl rfl rfl ?_) | (at_lookup; refine wl_lookup rfl _ _ _ _ rfl _ _ rfl rfl ?_) | (at_delete; refine wl_delete rfl _ _ _ _ rfl _ _ rfl rfl ?_) | (with_reducible refine wl_len rfl _ _ rfl _ rfl ?_) | (with_reducible refine wl_range rfl _ _ rfl _ rfl ?_) | (with_reducible refine wl_next rfl _ rfl _ rfl ?_) | (with_reducible refine wl_copy rfl _ _ _ _ rfl _ _ rfl rfl ?_) | (with_reducible refine wl_max rfl _ _ _ _ rfl _ _ rfl rfl ?_) | (with_reducible refine wl_min rfl _ _ _ _ rfl _ _ rfl rfl ?_))
      refine ⟨fun _ => q', ?_⟩
      apply sig_still (o := ⟨some 63, _, _, _, _, _⟩) rfl rfl
      · intro w' hS
        obtain ⟨q1, q2, q3, q4, q5, q6⟩ := hS
        first | (go_simp; done) | (go_simp; rfl) | rfl
      go_frame
      apply sig_still (o := ⟨some 64, _, _, _, _, _⟩) rfl rfl
      · intro w' hS
        obtain ⟨q1, q2, q3, q4, q5, q6⟩ := hS
        first | (go_simp; done) | (go_simp; rfl) | rfl
      go_frame
      refine sig_nil ?_
      go_wp2_with (first | (at_builtin; refine wl_append rfl _ _ _ _ rfl _ _ rfl rfl ?_) | (at_make; refine wl_make rfl _ _ _ rfl _ _ rfl rfl ?_) | (at_mapUpdate; refine wl_mapUpdate rfl _ _ _ _ rfl _ _ _ rfl rfl rfl ?_) | (at_lookup; refine wl_lookup rfl _ _ _ _ rfl _ _ rfl rfl ?_) | (at_delete; refine wl_delete rfl _ _ _ _ rfl _ _ rfl rfl ?_) | (with_reducible refine wl_len rfl _ _ rfl _ rfl ?_) | (with_reducible refine wl_range rfl _ _ rfl _ rfl ?_) | (with_reducible refine wl_next rfl _ rfl _ rfl ?_) | (with_reducible refine wl_copy rfl _ _ _ _ rfl _ _ rfl rfl ?_) | (with_reducible refine wl_max rfl _ _ _ _ rfl _ _ rfl rfl ?_) | (with_reducible refine wl_min rfl _ _ _ _ rfl _ _ rfl rfl ?_))
      go_roundw
      case rel => exact ⟨i + 1, _, by simp, by omega, didM_inv hinv _, (didM_small hs _ hbd hat.2).mono (by omega) (by omega), hSt2.weak, hSt2.keep⟩
      case measure => simp [intOf]; omega
    · have hend2 : l.length ≤ i ∨ i = 30 := by omega
      have hk' : Bls (fun k => k < w.heap.size) wr (.slice ka keep.length kc) keep := Sl.keep hk hK fun j hj _ h => absurd h (Nat.not_le.2 hj)
      obtain ⟨hrB, hrE⟩ := hinv.read keep
      have HB := Lib.hid hrB
      have HE := Lib.hid hrE
      have hsc := hs.crash keep
      clear hrB hrE hinv
      rcases hend2 with hend2 | hend2
      · go_wp2_with (first | (at_builtin; refine wl_append rfl _ _ _ _ rfl _ _ rfl rfl ?_) | (at_make; refine wl_make rfl _ _ _ rfl _ _ rfl rfl ?_) | (at_mapUpdate; refine wl_mapUpdate rfl _ _ _ _ rfl _ _ _ rfl rfl rfl ?_) | (at_lookup; refine wl_lookup rfl _ _ _ _ rfl _ _ rfl rfl ?_) | (at_delete; refine wl_delete rfl _ _ _ _ rfl _ _ rfl rfl ?_) | (with_reducible refine wl_len rfl _ _ rfl _ rfl ?_) | (with_reducible refine wl_range rfl _ _ rfl _ rfl ?_) | (with_reducible refine wl_next rfl _ rfl _ rfl ?_) | (with_reducible refine wl_copy rfl _ _ _ _ rfl _ _ rfl rfl ?_) | (with_reducible refine wl_max rfl _ _ _ _ rfl _ _ rfl rfl ?_) | (with_reducible refine wl_min rfl _ _ _ _ rfl _ _ rfl rfl ?_))
        refine (crash_own (P := fun k => w.heap.size ≤ k) keep hO (fun k hk => hk) (fun k hk => Nat.le_trans hK.size hk) hs (by omega) (by omega) hk' (fun k hk ha => absurd hk (Nat.not_lt.2 ha.1))).mono ?_
        rintro e x1 ⟨rfl, hOc, kc⟩
        have hKc := hK.trans kc fun j _ h => h.1
        generalize Dk.crash m keep = mc at *
        clear hO kc hK
        go_wp2_with (first | (at_builtin; refine wl_append rfl _ _ _ _ rfl _ _ rfl rfl ?_) | (at_make; refine wl_make rfl _ _ _ rfl _ _ rfl rfl ?_) | (at_mapUpdate; refine wl_mapUpdate rfl _ _ _ _ rfl _ _ _ rfl rfl rfl ?_) | (at_lookup; refine wl_lookup rfl _ _ _ _ rfl _ _ rfl rfl ?_) | (at_delete; refine wl_delete rfl _ _ _ _ rfl _ _ rfl rfl ?_) | (with_reducible refine wl_len rfl _ _ rfl _ rfl ?_) | (with_reducible refine wl_range rfl _ _ rfl _ rfl ?_) | (with_reducible refine wl_next rfl _ rfl _ rfl ?_) | (with_reducible refine wl_copy rfl _ _ _ _ rfl _ _ rfl rfl ?_) | (with_reducible refine wl_max rfl _ _ _ _ rfl _ _ rfl rfl ?_) | (with_reducible refine wl_min rfl _ _ _ _ rfl _ _ rfl rfl ?_))
        refine (read_own mine hOc hsc (by omega) (by decide)).mono ?_
        rintro e x2 ⟨v', rfl, hx, kx⟩
        rw [HB.out] at hx
        rw [HE.out]
        obtain ⟨ax, cx, rfl, _, _⟩ := (Sl.of_own hx).shape
        have hKx := hKc.trans' (kx.mono fun _ _ h => h.elim)
        have hc1 := conv_str (Sl.of_own hx)
        have hc2 := conv_str (Sl.keep hb hKx fun j hj _ h => absurd h (Nat.not_le.2 hj))
        clear hOc hKc kx
        go_wp2_with (first | (at_builtin; refine wl_append rfl _ _ _ _ rfl _ _ rfl rfl ?_) | (at_make; refine wl_make rfl _ _ _ rfl _ _ rfl rfl ?_) | (at_mapUpdate; refine wl_mapUpdate rfl _ _ _ _ rfl _ _ _ rfl rfl rfl ?_) | (at_lookup; refine wl_lookup rfl _ _ _ _ rfl _ _ rfl rfl ?_) | (at_delete; refine wl_delete rfl _ _ _ _ rfl _ _ rfl rfl ?_) | (with_reducible refine wl_len rfl _ _ rfl _ rfl ?_) | (with_reducible refine wl_range rfl _ _ rfl _ rfl ?_) | (with_reducible refine wl_next rfl _ rfl _ rfl ?_) | (with_reducible refine wl_copy rfl _ _ _ _ rfl _ _ rfl rfl ?_) | (with_reducible refine wl_max rfl _ _ _ _ rfl _ _ rfl rfl ?_) | (with_reducible refine wl_min rfl _ _ _ _ rfl _ _ rfl rfl ?_))
        go_ret
        exact ⟨rfl, hKx.os, hKx.tape, hKx.output, hKx.size, fun j hj _ => hKx.block j hj (by omega)⟩
      · subst hend2
        by_cases hl30 : 30 < l.length
        · go_wp2_with (first | (at_builtin; refine wl_append rfl _ _ _ _ rfl _ _ rfl rfl ?_) | (at_make; refine wl_make rfl _ _ _ rfl _ _ rfl rfl ?_) | (at_mapUpdate; refine wl_mapUpdate rfl _ _ _ _ rfl _ _ _ rfl rfl rfl ?_) | (at_lookup; refine wl_lookup rfl _ _ _ _ rfl _ _ rfl rfl ?_) | (at_delete; refine wl_delete rfl _ _ _ _ rfl _ _ rfl rfl ?_) | (with_reducible refine wl_len rfl _ _ rfl _ rfl ?_) | (with_reducible refine wl_range rfl _ _ rfl _ rfl ?_) | (with_reducible refine wl_next rfl _ rfl _ rfl ?_) | (with_reducible refine wl_copy rfl _ _ _ _ rfl _ _ rfl rfl ?_) | (with_reducible refine wl_max rfl _ _ _ _ rfl _ _ rfl rfl ?_) | (with_reducible refine wl_min rfl _ _ _ _ rfl _ _ rfl rfl ?_))
          refine (crash_own (P := fun k => w.heap.size ≤ k) keep hO (fun k hk => hk) (fun k hk => Nat.le_trans hK.size hk) hs (by omega) (by omega) hk' (fun k hk ha => absurd hk (Nat.not_lt.2 ha.1))).mono ?_
          rintro e x1 ⟨rfl, hOc, kc⟩
          have hKc := hK.trans kc fun j _ h => h.1
          generalize Dk.crash m keep = mc at *
          clear hO kc hK
          go_wp2_with (first | (at_builtin; refine wl_append rfl _ _ _ _ rfl _ _ rfl rfl ?_) | (at_make; refine wl_make rfl _ _ _ rfl _ _ rfl rfl ?_) | (at_mapUpdate; refine wl_mapUpdate rfl _ _ _ _ rfl _ _ _ rfl rfl rfl ?_) | (at_lookup; refine wl_lookup rfl _ _ _ _ rfl _ _ rfl rfl ?_) | (at_delete; refine wl_delete rfl _ _ _ _ rfl _ _ rfl rfl ?_) | (with_reducible refine wl_len rfl _ _ rfl _ rfl ?_) | (with_reducible refine wl_range rfl _ _ rfl _ rfl ?_) | (with_reducible refine wl_next rfl _ rfl _ rfl ?_) | (with_reducible refine wl_copy rfl _ _ _ _ rfl _ _ rfl rfl ?_) | (with_reducible refine wl_max rfl _ _ _ _ rfl _ _ rfl rfl ?_) | (with_reducible refine wl_min rfl _ _ _ _ rfl _ _ rfl rfl ?_))
          refine (read_own mine hOc hsc (by omega) (by decide)).mono ?_
          rintro e x2 ⟨v', rfl, hx, kx⟩
          rw [HB.out] at hx
          rw [HE.out]
          obtain ⟨ax, cx, rfl, _, _⟩ := (Sl.of_own hx).shape
          have hKx := hKc.trans' (kx.mono fun _ _ h => h.elim)
          have hc1 := conv_str (Sl.of_own hx)
          have hc2 := conv_str (Sl.keep hb hKx fun j hj _ h => absurd h (Nat.not_le.2 hj))
          clear hOc hKc kx
          go_wp2_with (first | (at_builtin; refine wl_append rfl _ _ _ _ rfl _ _ rfl rfl ?_) | (at_make; refine wl_make rfl _ _ _ rfl _ _ rfl rfl ?_) | (at_mapUpdate; refine wl_mapUpdate rfl _ _ _ _ rfl _ _ _ rfl rfl rfl ?_) | (at_lookup; refine wl_lookup rfl _ _ _ _ rfl _ _ rfl rfl ?_) | (at_delete; refine wl_delete rfl _ _ _ _ rfl _ _ rfl rfl ?_) | (with_reducible refine wl_len rfl _ _ rfl _ rfl ?_) | (with_reducible refine wl_range rfl _ _ rfl _ rfl ?_) | (with_reducible refine wl_next rfl _ rfl _ rfl ?_) | (with_reducible refine wl_copy rfl _ _ _ _ rfl _ _ rfl rfl ?_) | (with_reducible refine wl_max rfl _ _ _ _ rfl _ _ rfl rfl ?_) | (with_reducible refine wl_min rfl _ _ _ _ rfl _ _ rfl rfl ?_))
          go_ret
          exact ⟨rfl, hKx.os, hKx.tape, hKx.output, hKx.size, fun j hj _ => hKx.block j hj (by omega)⟩
        · go_wp2_with (first | (at_builtin; refine wl_append rfl _ _ _ _ rfl _ _ rfl rfl ?_) | (at_make; refine wl_make rfl _ _ _ rfl _ _ rfl rfl ?_) | (at_mapUpdate; refine wl_mapUpdate rfl _ _ _ _ rfl _ _ _ rfl rfl rfl ?_) | (at_lookup; refine wl_lookup rfl _ _ _ _ rfl _ _ rfl rfl ?_) | (at_delete; refine wl_delete rfl _ _ _ _ rfl _ _ rfl rfl ?_) | (with_reducible refine wl_len rfl _ _ rfl _ rfl ?_) | (with_reducible refine wl_range rfl _ _ rfl _ rfl ?_) | (with_reducible refine wl_next rfl _ rfl _ rfl ?_) | (with_reducible refine wl_copy rfl _ _ _ _ rfl _ _ rfl rfl ?_) | (with_reducible refine wl_max rfl _ _ _ _ rfl _ _ rfl rfl ?_) | (with_reducible refine wl_min rfl _ _ _ _ rfl _ _ rfl rfl ?_))
          refine (crash_own (P := fun k => w.heap.size ≤ k) keep hO (fun k hk => hk) (fun k hk => Nat.le_trans hK.size hk) hs (by omega) (by omega) hk' (fun k hk ha => absurd hk (Nat.not_lt.2 ha.1))).mono ?_
          rintro e x1 ⟨rfl, hOc, kc⟩
          have hKc := hK.trans kc fun j _ h => h.1
          generalize Dk.crash m keep = mc at *
          clear hO kc hK
          go_wp2_with (first | (at_builtin; refine wl_append rfl _ _ _ _ rfl _ _ rfl rfl ?_) | (at_make; refine wl_make rfl _ _ _ rfl _ _ rfl rfl ?_) | (at_mapUpdate; refine wl_mapUpdate rfl _ _ _ _ rfl _ _ _ rfl rfl rfl ?_) | (at_lookup; refine wl_lookup rfl _ _ _ _ rfl _ _ rfl rfl ?_) | (at_delete; refine wl_delete rfl _ _ _ _ rfl _ _ rfl rfl ?_) | (with_reducible refine wl_len rfl _ _ rfl _ rfl ?_) | (with_reducible refine wl_range rfl _ _ rfl _ rfl ?_) | (with_reducible refine wl_next rfl _ rfl _ rfl ?_) | (with_reducible refine wl_copy rfl _ _ _ _ rfl _ _ rfl rfl ?_) | (with_reducible refine wl_max rfl _ _ _ _ rfl _ _ rfl rfl ?_) | (with_reducible refine wl_min rfl _ _ _ _ rfl _ _ rfl rfl ?_))
          refine (read_own mine hOc hsc (by omega) (by decide)).mono ?_
          rintro e x2 ⟨v', rfl, hx, kx⟩
          rw [HB.out] at hx
          rw [HE.out]
          obtain ⟨ax, cx, rfl, _, _⟩ := (Sl.of_own hx).shape
          have hKx := hKc.trans' (kx.mono fun _ _ h => h.elim)
          have hc1 := conv_str (Sl.of_own hx)
          have hc2 := conv_str (Sl.keep hb hKx fun j hj _ h => absurd h (Nat.not_le.2 hj))
          clear hOc hKc kx
          go_wp2_with (first | (at_builtin; refine wl_append rfl _ _ _ _ rfl _ _ rfl rfl ?_) | (at_make; refine wl_make rfl _ _ _ rfl _ _ rfl rfl ?_) | (at_mapUpdate; refine wl_mapUpdate rfl _ _ _ _ rfl _ _ _ rfl rfl rfl ?_) | (at_lookup; refine wl_lookup rfl _ _ _ _ rfl _ _ rfl rfl ?_) | (at_delete; refine wl_delete rfl _ _ _ _ rfl _ _ rfl rfl ?_) | (with_reducible refine wl_len rfl _ _ rfl _ rfl ?_) | (with_reducible refine wl_range rfl _ _ rfl _ rfl ?_) | (with_reducible refine wl_next rfl _ rfl _ rfl ?_) | (with_reducible refine wl_copy rfl _ _ _ _ rfl _ _ rfl rfl ?_) | (with_reducible refine wl_max rfl _ _ _ _ rfl _ _ rfl rfl ?_) | (with_reducible refine wl_min rfl _ _ _ _ rfl _ _ rfl rfl ?_))
          go_ret
          exact ⟨rfl, hKx.os, hKx.tape, hKx.output, hKx.size, fun j hj _ => hKx.block j hj (by omega)⟩
end Go.Proofs.Ytkmoomgmmhmaeaa
namespace Go.Dm
open Go

/-- st: it yields the same in every world of S; ef: the only one that may come; br: i or j may come -/
inductive Tr where
  | nil
  | st (i : Nat) (r : Tr)
  | ef (i : Nat) (r : Tr)
  | br (i j : Nat) (l r : Tr)
def Tr.len : Tr → Nat
  | .nil => 0 | .st _ r => r.len + 1 | .ef _ r => r.len + 1 | .br _ _ l _ => l.len + 1

section
variable {P : Program} {ops : Array Oper} {Q : Exit → Act → World → Prop} {md : Region.Mode} {S : World → Prop} {kb : Nat → Bool}

def treeB (md : Region.Mode) (ops : Array Oper) (kb : Nat → Bool) : Tr → Array Bool → Bool → Bool
  | .nil, listed, _ => (Region.ready md ops listed).isEmpty
  | .st i r, listed, s => s && (Region.ready md ops listed).contains i && freeK md ops kb listed i && treeB md ops kb r (listed.setIfInBounds i true) s
  | .ef i r, listed, s => (Region.ready md ops listed == [i]) && treeB md ops kb r (listed.setIfInBounds i true) (s && kb i)
  | .br i j l r, listed, s => (Region.ready md ops listed == [i, j]) && (l.len == r.len) && treeB md ops kb l (listed.setIfInBounds i true) (s && kb i) && treeB md ops kb r (listed.setIfInBounds j true) (s && kb j)

def wpTree (P : Program) (ops : Array Oper) (Q : Exit → Act → World → Prop) (S : World → Prop) (kb : Nat → Bool) : Tr → Act → World → Prop
  | .nil, a, w => Q .normal a w
  | .st i r, a, w => ∃ o v, ops[i]? = some o ∧ YieldsIf P ops S o v a ∧ wpTree P ops Q S kb r (a.put o.dst v) w
  | .ef i r, a, w => wpOp P ops Q i (fun a' w' => (kb i = true → S w') ∧ wpTree P ops Q S kb r a' w') a w
  | .br i j l r, a, w => wpOp P ops Q i (fun a' w' => (kb i = true → S w') ∧ wpTree P ops Q S kb l a' w') a w ∧ wpOp P ops Q j (fun a' w' => (kb j = true → S w') ∧ wpTree P ops Q S kb r a' w') a w

theorem wpTree_sound (hs : Region.noSelect ops = true) (hQ : ∀ c a d v w, Q (.panic c) (a.put d v) w → Q (.panic c) a w) :
    ∀ (l : Tr) (listed : Array Bool) (s : Bool) (a : Act) (w : World), treeB md ops kb l listed s = true → Closed md ops listed → (s = true → S w) → wpTree P ops Q S kb l a w → wpAnyK P md ops Q S kb l.len listed a w
  | .nil, listed, s, a, w, h, _, _, hq => by
    have : Region.ready md ops listed = [] := by simpa [treeB] using h
    exact ⟨this, hq⟩
  | .st i r, listed, s, a, w, h, hcl, hS, ⟨o, v, ho, hy, hq⟩ => by
    simp only [treeB, Bool.and_eq_true] at h
    obtain ⟨⟨⟨h1, h2⟩, h3⟩, h4⟩ := h
    exact wpAnyK_first ho (Region.noSelect_spec hs) (fun c a w => hQ c a _ _ w) r.len listed a w (freeK_spec ho h3) hcl (by simpa using h2) hy (hS h1)
      (wpTree_sound hs hQ r _ s _ w h4 (hcl.step (by simpa using h2)) hS hq)
  | .ef i r, listed, s, a, w, h, hcl, hS, hq => by
    simp only [treeB, Bool.and_eq_true, beq_iff_eq] at h
    refine ⟨fun h0 => (by rw [h.1] at h0; cases h0), fun j hj => ?_⟩
    rw [h.1] at hj
    obtain rfl : j = i := by simpa using hj
    exact wpOp_mono (fun a' w' h' => ⟨h'.1, wpTree_sound hs hQ r _ (s && kb j) a' w' h.2 (hcl.step (by rw [h.1]; simp)) (fun hsk => h'.1 (Bool.and_eq_true_iff.1 hsk).2) h'.2⟩) hq
  | .br i j l r, listed, s, a, w, h, hcl, hS, hq => by
    simp only [treeB, Bool.and_eq_true, beq_iff_eq] at h
    obtain ⟨⟨⟨h1, h2⟩, h3⟩, h4⟩ := h
    refine ⟨fun h0 => (by rw [h1] at h0; cases h0), fun k hk => ?_⟩
    have hk0 := hk
    rw [h1] at hk
    rcases (by simpa using hk : k = i ∨ k = j) with rfl | rfl
    · exact wpOp_mono (fun a' w' h' => ⟨h'.1, wpTree_sound hs hQ l _ (s && kb k) a' w' h3 (hcl.step hk0) (fun hsk => h'.1 (Bool.and_eq_true_iff.1 hsk).2) h'.2⟩) hq.1
    · show wpOp P ops Q k (fun a' w' => (kb k = true → S w') ∧ wpAnyK P md ops Q S kb l.len _ a' w') a w
      rw [h2]
      exact wpOp_mono (fun a' w' h' => ⟨h'.1, wpTree_sound hs hQ r _ (s && kb k) a' w' h4 (hcl.step hk0) (fun hsk => h'.1 (Bool.and_eq_true_iff.1 hsk).2) h'.2⟩) hq.2

theorem wp_region_tree {id : Nat} {a : Act} {w : World} (S : World → Prop) (kb : Nat → Bool) (l : Tr) {o : List Oper} (hm : P.follows .mixedOrders = true)
    (hB : (Region.noSelect o.toArray && treeB .any o.toArray kb l (Array.replicate o.toArray.size false) true && (l.len == o.toArray.size)) = true)
    (hQ : ∀ c a d v w, Q (.panic c) (a.put d v) w → Q (.panic c) a w) (hS : S w.drew)
    (h : wpTree P o.toArray Q S kb l a w.drew) : (Code.region id o.toArray true).wp P Q a w := by
  simp only [Bool.and_eq_true, beq_iff_eq] at hB
  refine wp_region_any hm (wpAny_of_K (S := S) (kb := kb) _ _ _ _ ?_)
  have h2 := wpTree_sound (md := .any) hB.1.1 hQ l _ true a _ hB.1.2 (fun k ok _ hl => by rw [Array.getD_eq_getD_getElem?, Array.getElem?_replicate] at hl; split at hl <;> cases hl) (fun _ => hS) h
  rw [hB.2] at h2
  exact h2

theorem tr_nil {a : Act} {w : World} (h : Q .normal a w) : wpTree P ops Q S kb .nil a w := h
theorem tr_still {i : Nat} {r : Tr} {a : Act} {w : World} {o : Oper} {v : Value} (ho : ops[i]? = some o) (hg : o.guard = none)
    (hy : ∀ w', S w' → (execOp a.eval o).run P w' = .ok (.value v) w') (h : wpTree P ops Q S kb r (a.put o.dst v) w) : wpTree P ops Q S kb (.st i r) a w :=
  ⟨o, v, ho, .inl ⟨by simp [Region.wanted, hg], hy⟩, h⟩
theorem tr_guard {i : Nat} {r : Tr} {a : Act} {w : World} {o : Oper} {v : Value} (ho : ops[i]? = some o) (hg : Region.wanted o (yielded ops a.tmps) = true)
    (hy : ∀ w', S w' → (execOp a.eval o).run P w' = .ok (.value v) w') (h : wpTree P ops Q S kb r (a.put o.dst v) w) : wpTree P ops Q S kb (.st i r) a w :=
  ⟨o, v, ho, .inl ⟨hg, hy⟩, h⟩
theorem tr_skip {i : Nat} {r : Tr} {a : Act} {w : World} {o : Oper} (ho : ops[i]? = some o) (hg : Region.wanted o (yielded ops a.tmps) = false)
    (h : wpTree P ops Q S kb r (a.put o.dst undef) w) : wpTree P ops Q S kb (.st i r) a w :=
  ⟨o, undef, ho, .inr ⟨hg, rfl⟩, h⟩
theorem wo_eff {i : Nat} {a : Act} {w : World} {o : Oper} {R : Act → World → Prop} (ho : ops[i]? = some o) (hg : o.guard = none)
    (h : ∀ K : Act → World → Prop, (∀ a' w', R a' w' → K a' w') → o.wp P a w K Q) : wpOp P ops Q i R a w := by
  unfold wpOp
  simp only [ho, Region.wanted, hg, if_true]
  exact .inl (h _ fun _ _ h => h)
theorem tr_eff {i : Nat} {r : Tr} {a : Act} {w : World} {o : Oper} (ho : ops[i]? = some o) (hg : o.guard = none)
    (h : ∀ K : Act → World → Prop, (∀ a' w', ((kb i = true → S w') ∧ wpTree P ops Q S kb r a' w') → K a' w') → o.wp P a w K Q) : wpTree P ops Q S kb (.ef i r) a w := wo_eff ho hg h
theorem tr_br {i j : Nat} {l r : Tr} {a : Act} {w : World} {o o' : Oper} (ho : ops[i]? = some o) (hg : o.guard = none) (ho' : ops[j]? = some o') (hg' : o'.guard = none)
    (h : ∀ K : Act → World → Prop, (∀ a' w', ((kb i = true → S w') ∧ wpTree P ops Q S kb l a' w') → K a' w') → o.wp P a w K Q)
    (h' : ∀ K : Act → World → Prop, (∀ a' w', ((kb j = true → S w') ∧ wpTree P ops Q S kb r a' w') → K a' w') → o'.wp P a w K Q) : wpTree P ops Q S kb (.br i j l r) a w := ⟨wo_eff ho hg h, wo_eff ho' hg' h'⟩
end
end Go.Dm
