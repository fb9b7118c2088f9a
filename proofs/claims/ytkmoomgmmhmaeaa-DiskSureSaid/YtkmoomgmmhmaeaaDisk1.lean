import Derived.Test.YtkmoomgmmhmaeaaProg
import Derived.Test.YtkmoomgmmhmaeaaMem
namespace Go.Proofs.Ytkmoomgmmhmaeaa
open Go.RowKit Go.Dm

theorem info_u8 : (Try.prog.info? 5).map (fun i => (i.zero, i.size, i.bytes)) = some (some (.int .u8 0), 1, 1) := by kernel_rfl
theorem size_u8 : (Try.prog.info? 5).map (·.size) = some 1 := by kernel_rfl

set_option maxRecDepth 100000 in
set_option maxHeartbeats 400000 in
theorem laid_any {A : Nat → Prop} (v1 v2 : Value) (xs ys : List UInt8) (i : Nat) (w : World) (h1 : Bts A w v1 xs) (h2 : Bts A w v2 ys) (b1 : xs.length ≤ 1099511627776) (b2 : ys.length ≤ 1099511627776) (b3 : i ≤ 1099511627776) :
    Calls Try.prog 40 #[v1, .int .i64 i, v2] w fun e w' => e = .returned (.slice (some ⟨w.heap.size, 0, none⟩) (laidB xs i ys).length (laidB xs i ys).length) ∧ Blk w' w.heap.size ((laidB xs i ys).map bv).toArray 5 ∧ Keep No w w' := by
  obtain ⟨a1, c1, rfl, k1, k1'⟩ := h1.shape
  obtain ⟨a2, c2, rfl, k2, k2'⟩ := h2.shape
  have HL := Lib.hid (length_laidB xs i ys)
  go_enter Try.func40, Try.ntmps40
  go_wp2_with (first | (at_builtin; refine wl_append rfl _ _ _ _ rfl _ _ rfl rfl ?_) | (at_make; refine wl_make rfl _ _ _ rfl _ _ rfl rfl ?_) | (at_mapUpdate; refine wl_mapUpdate rfl _ _ _ _ rfl _ _ _ rfl rfl rfl ?_) | (at_lookup; refine wl_lookup rfl _ _ _ _ rfl _ _ rfl rfl ?_) | (at_delete; refine wl_delete rfl _ _ _ _ rfl _ _ rfl rfl ?_) | (with_reducible refine wl_len rfl _ _ rfl _ rfl ?_) | (with_reducible refine wl_range rfl _ _ rfl _ rfl ?_) | (with_reducible refine wl_next rfl _ rfl _ rfl ?_) | (with_reducible refine wl_copy rfl _ _ _ _ rfl _ _ rfl rfl ?_) | (with_reducible refine wl_max rfl _ _ _ _ rfl _ _ rfl rfl ?_) | (with_reducible refine wl_min rfl _ _ _ _ rfl _ _ rfl rfl ?_))
  refine rg_max2 ?_
  have e : max (xs.length : Int) ((i : Int) + ys.length) = ((max xs.length (i + ys.length) : Nat) : Int) := by omega
  rw [e]; clear e
  generalize hN : max xs.length (i + ys.length) = N at *
  have hN1 : xs.length ≤ N := by omega
  have hN2 : i + ys.length ≤ N := by omega
  have hN3 : N ≤ 2199023255552 := by omega
  have HNe := Lib.hid hN
  clear hN
  go_wp2_with (first | (at_builtin; refine wl_append rfl _ _ _ _ rfl _ _ rfl rfl ?_) | (at_make; refine wl_make rfl _ _ _ rfl _ _ rfl rfl ?_) | (at_mapUpdate; refine wl_mapUpdate rfl _ _ _ _ rfl _ _ _ rfl rfl rfl ?_) | (at_lookup; refine wl_lookup rfl _ _ _ _ rfl _ _ rfl rfl ?_) | (at_delete; refine wl_delete rfl _ _ _ _ rfl _ _ rfl rfl ?_) | (with_reducible refine wl_len rfl _ _ rfl _ rfl ?_) | (with_reducible refine wl_range rfl _ _ rfl _ rfl ?_) | (with_reducible refine wl_next rfl _ rfl _ rfl ?_) | (with_reducible refine wl_copy rfl _ _ _ _ rfl _ _ rfl rfl ?_) | (with_reducible refine wl_max rfl _ _ _ _ rfl _ _ rfl rfl ?_) | (with_reducible refine wl_min rfl _ _ _ _ rfl _ _ rfl rfl ?_))
  refine rg_make 5 (.int .u8 0) 1 1 Try.underlying29 info_u8 (by omega) (by unfold maxLen; omega) ?_
  intro w1 hb1 hk1
  rw [madeCells_u8] at hb1
  go_wp2_with (first | (at_builtin; refine wl_append rfl _ _ _ _ rfl _ _ rfl rfl ?_) | (at_make; refine wl_make rfl _ _ _ rfl _ _ rfl rfl ?_) | (at_mapUpdate; refine wl_mapUpdate rfl _ _ _ _ rfl _ _ _ rfl rfl rfl ?_) | (at_lookup; refine wl_lookup rfl _ _ _ _ rfl _ _ rfl rfl ?_) | (at_delete; refine wl_delete rfl _ _ _ _ rfl _ _ rfl rfl ?_) | (with_reducible refine wl_len rfl _ _ rfl _ rfl ?_) | (with_reducible refine wl_range rfl _ _ rfl _ rfl ?_) | (with_reducible refine wl_next rfl _ rfl _ rfl ?_) | (with_reducible refine wl_copy rfl _ _ _ _ rfl _ _ rfl rfl ?_) | (with_reducible refine wl_max rfl _ _ _ _ rfl _ _ rfl rfl ?_) | (with_reducible refine wl_min rfl _ _ _ _ rfl _ _ rfl rfl ?_))
  refine rg_copy (off := 0) 5 5 Try.underlying29 size_u8 hb1 (h1.keep hk1 fun _ _ _ h => h) (fun _ => rfl) (by simp; omega) (bv_one _) ?_
  intro w2 hb2 hk2
  rw [List.take_of_length_le (by simpa using hN1), List.toList_toArray, splice_map] at hb2
  have h2' : Bts (fun k => A k ∧ k ≠ w.heap.size) w1 (.slice a2 ys.length c2) ys := (h2.mono (B := fun k => A k ∧ k ≠ w.heap.size) (fun k hk ha => ⟨ha, by omega⟩)).keep hk1 fun _ _ _ h => h
  have h3 : Bts (fun k => A k ∧ k ≠ w.heap.size) w2 (.slice a2 ys.length c2) ys := h2'.keep hk2 fun j _ ha e => ha.2 e
  have hl2 : (splice (List.replicate N (0 : UInt8)) 0 xs).length = N := by rw [length_splice _ _ _ (by simp; omega)]; simp
  have HL2 := Lib.hid hl2
  clear hl2
  go_wp2_with (first | (at_builtin; refine wl_append rfl _ _ _ _ rfl _ _ rfl rfl ?_) | (at_make; refine wl_make rfl _ _ _ rfl _ _ rfl rfl ?_) | (at_mapUpdate; refine wl_mapUpdate rfl _ _ _ _ rfl _ _ _ rfl rfl rfl ?_) | (at_lookup; refine wl_lookup rfl _ _ _ _ rfl _ _ rfl rfl ?_) | (at_delete; refine wl_delete rfl _ _ _ _ rfl _ _ rfl rfl ?_) | (with_reducible refine wl_len rfl _ _ rfl _ rfl ?_) | (with_reducible refine wl_range rfl _ _ rfl _ rfl ?_) | (with_reducible refine wl_next rfl _ rfl _ rfl ?_) | (with_reducible refine wl_copy rfl _ _ _ _ rfl _ _ rfl rfl ?_) | (with_reducible refine wl_max rfl _ _ _ _ rfl _ _ rfl rfl ?_) | (with_reducible refine wl_min rfl _ _ _ _ rfl _ _ rfl rfl ?_))
  all_goals
    refine rg_copy (off := i) 5 5 Try.underlying29 size_u8 hb2 h3 (by intro hp; first | rfl | (exfalso; simp at hp)) (by simp [HL2.out]; omega) (bv_one _) ?_
    intro w3 hb3 hk3
    rw [List.take_of_length_le (by rw [List.length_map]; omega), List.toList_toArray, splice_map] at hb3
    go_wp2_with (first | (at_builtin; refine wl_append rfl _ _ _ _ rfl _ _ rfl rfl ?_) | (at_make; refine wl_make rfl _ _ _ rfl _ _ rfl rfl ?_) | (at_mapUpdate; refine wl_mapUpdate rfl _ _ _ _ rfl _ _ _ rfl rfl rfl ?_) | (at_lookup; refine wl_lookup rfl _ _ _ _ rfl _ _ rfl rfl ?_) | (at_delete; refine wl_delete rfl _ _ _ _ rfl _ _ rfl rfl ?_) | (with_reducible refine wl_len rfl _ _ rfl _ rfl ?_) | (with_reducible refine wl_range rfl _ _ rfl _ rfl ?_) | (with_reducible refine wl_next rfl _ rfl _ rfl ?_) | (with_reducible refine wl_copy rfl _ _ _ _ rfl _ _ rfl rfl ?_) | (with_reducible refine wl_max rfl _ _ _ _ rfl _ _ rfl rfl ?_) | (with_reducible refine wl_min rfl _ _ _ _ rfl _ _ rfl rfl ?_))
    go_ret
    have hb4 : Blk w3 w.heap.size ((laidB xs i ys).map bv).toArray 5 := by
      unfold laidB; rw [HNe.out]; exact hb3
    have hk := ((hk1.trans hk2 (fun j hj e => absurd e (by omega)))).trans hk3 (fun j hj e => absurd e (by omega))
    have hN4 := HL.out
    first | (rw [hN4]; exact ⟨rfl, hb4, hk⟩) | (subst h; rw [hN4]; exact ⟨rfl, hb4, hk⟩)

set_option maxRecDepth 100000 in
set_option maxHeartbeats 400000 in
theorem clone_any {A : Nat → Prop} (v : Value) (xs : List UInt8) (w : World) (h : Bts A w v xs) (b1 : xs.length ≤ 1099511627776) :
    Calls Try.prog 41 #[v] w fun e w' => ∃ v', e = .returned v' ∧ w'.ownsRow w.heap.size 5 1 v' xs.length (xs.map bv) ∧ Keep No w w' := by
  obtain ⟨a, c, rfl, hc, hc2⟩ := h.shape
  have qT := fun (w : World) (a : Option Addr) (n c n' c' : Nat) => Lib.run_eql_slice_nil (P := Try.prog) w _ _ a n c n' c' Try.underlying29
  cases a with
  | none =>
    have e0 : xs.length = 0 := by
      obtain ⟨_, a', cap, e, c1, _, c2, _⟩ := h
      cases e
      have := c2 rfl
      omega
    obtain rfl : xs = [] := List.eq_nil_of_length_eq_zero e0
    go_enter Try.func41, Try.ntmps41
    go_wp2_with (first | (at_builtin; refine wl_append rfl _ _ _ _ rfl _ _ rfl rfl ?_) | (at_make; refine wl_make rfl _ _ _ rfl _ _ rfl rfl ?_) | (at_mapUpdate; refine wl_mapUpdate rfl _ _ _ _ rfl _ _ _ rfl rfl rfl ?_) | (at_lookup; refine wl_lookup rfl _ _ _ _ rfl _ _ rfl rfl ?_) | (at_delete; refine wl_delete rfl _ _ _ _ rfl _ _ rfl rfl ?_) | (with_reducible refine wl_len rfl _ _ rfl _ rfl ?_) | (with_reducible refine wl_range rfl _ _ rfl _ rfl ?_) | (with_reducible refine wl_next rfl _ rfl _ rfl ?_) | (with_reducible refine wl_copy rfl _ _ _ _ rfl _ _ rfl rfl ?_) | (with_reducible refine wl_max rfl _ _ _ _ rfl _ _ rfl rfl ?_) | (with_reducible refine wl_min rfl _ _ _ _ rfl _ _ rfl rfl ?_))
    go_ret
    exact ⟨_, rfl, World.ownsRow_nil _ _ _ _, Keep.refl _ _⟩
  | some a =>
    go_enter Try.func41, Try.ntmps41
    go_wp2_with (first | (at_builtin; refine wl_append rfl _ _ _ _ rfl _ _ rfl rfl ?_) | (at_make; refine wl_make rfl _ _ _ rfl _ _ rfl rfl ?_) | (at_mapUpdate; refine wl_mapUpdate rfl _ _ _ _ rfl _ _ _ rfl rfl rfl ?_) | (at_lookup; refine wl_lookup rfl _ _ _ _ rfl _ _ rfl rfl ?_) | (at_delete; refine wl_delete rfl _ _ _ _ rfl _ _ rfl rfl ?_) | (with_reducible refine wl_len rfl _ _ rfl _ rfl ?_) | (with_reducible refine wl_range rfl _ _ rfl _ rfl ?_) | (with_reducible refine wl_next rfl _ rfl _ rfl ?_) | (with_reducible refine wl_copy rfl _ _ _ _ rfl _ _ rfl rfl ?_) | (with_reducible refine wl_max rfl _ _ _ _ rfl _ _ rfl rfl ?_) | (with_reducible refine wl_min rfl _ _ _ _ rfl _ _ rfl rfl ?_))
    have hown : (w.alloc (.cells #[] 5)).ownsRow w.heap.size 5 1 (.slice (some ⟨w.heap.size, 0, none⟩) 0 0) 0 [] := World.ownsRow_made w #[] 0 (Nat.le_refl _) (Nat.zero_le _) rfl
    refine rg_append w.heap.size 5 _ 1 1 Try.underlying29 info_u8 rfl (by decide) hown (h.keep ((Keep.refl No w).alloc _) fun _ _ _ h => h) (bv_one _) (by unfold maxLen; omega) (by omega) (by simp) ?_
    intro v' w2 ho hk _ _
    simp only [Nat.zero_add, List.nil_append] at ho
    go_wp2_with (first | (at_builtin; refine wl_append rfl _ _ _ _ rfl _ _ rfl rfl ?_) | (at_make; refine wl_make rfl _ _ _ rfl _ _ rfl rfl ?_) | (at_mapUpdate; refine wl_mapUpdate rfl _ _ _ _ rfl _ _ _ rfl rfl rfl ?_) | (at_lookup; refine wl_lookup rfl _ _ _ _ rfl _ _ rfl rfl ?_) | (at_delete; refine wl_delete rfl _ _ _ _ rfl _ _ rfl rfl ?_) | (with_reducible refine wl_len rfl _ _ rfl _ rfl ?_) | (with_reducible refine wl_range rfl _ _ rfl _ rfl ?_) | (with_reducible refine wl_next rfl _ rfl _ rfl ?_) | (with_reducible refine wl_copy rfl _ _ _ _ rfl _ _ rfl rfl ?_) | (with_reducible refine wl_max rfl _ _ _ _ rfl _ _ rfl rfl ?_) | (with_reducible refine wl_min rfl _ _ _ _ rfl _ _ rfl rfl ?_))
    go_ret
    exact ⟨_, rfl, ho, ((Keep.refl No w).alloc _).trans hk fun j hj e => by
      simp only [Value.ownBlock, Option.some.injEq] at e; omega⟩
end Go.Proofs.Ytkmoomgmmhmaeaa
