/- New. No condition. -/
import Derived.Test.YtkmoomgmmhmaeaaDiskO
namespace Go.Proofs.Ytkmoomgmmhmaeaa
open Go.RowKit Go.Dm Go.Dm.Dk Go.Maps Go.WideMaps Go.WideElems

set_option maxRecDepth 100000 in
set_option maxHeartbeats 1000000 in
theorem new_any (room : Int) (w : World) :
    Calls Try.prog 10 #[.int .i64 room] w fun e w' => ∃ d, e = .returned (ptrTo d) ∧ DR (fun k => w.heap.size ≤ k ∧ k < w'.heap.size) w' d (Dk.new room) ∧ Keep No w w' := by
  obtain ⟨n, hn⟩ : ∃ n : Nat, n = room.toNat := ⟨_, rfl⟩
  have e1 : Dk.new room = ⟨n, [], [], [], [], [], false, 0⟩ := by simp [Dk.new, hn]
  rw [e1]
  have e2 : max room 0 = (n : Int) := by omega
  have HE := Lib.hid e2
  clear e1 e2 hn
  have hmm := @run_makeMap
  go_enter Try.func10, Try.ntmps10
  go_wp2_with (first | (at_builtin; refine wl_append rfl _ _ _ _ rfl _ _ rfl rfl ?_) | (at_make; refine wl_make rfl _ _ _ rfl _ _ rfl rfl ?_) | (at_mapUpdate; refine wl_mapUpdate rfl _ _ _ _ rfl _ _ _ rfl rfl rfl ?_) | (at_lookup; refine wl_lookup rfl _ _ _ _ rfl _ _ rfl rfl ?_) | (at_delete; refine wl_delete rfl _ _ _ _ rfl _ _ rfl rfl ?_) | (with_reducible refine wl_len rfl _ _ rfl _ rfl ?_) | (with_reducible refine wl_range rfl _ _ rfl _ rfl ?_) | (with_reducible refine wl_next rfl _ rfl _ rfl ?_) | (with_reducible refine wl_copy rfl _ _ _ _ rfl _ _ rfl rfl ?_) | (with_reducible refine wl_max rfl _ _ _ _ rfl _ _ rfl rfl ?_) | (with_reducible refine wl_min rfl _ _ _ _ rfl _ _ rfl rfl ?_))
  refine rg_max2 ?_
  rw [HE.out]
  go_wp2_with (first | (at_builtin; refine wl_append rfl _ _ _ _ rfl _ _ rfl rfl ?_) | (at_make; refine wl_make rfl _ _ _ rfl _ _ rfl rfl ?_) | (at_mapUpdate; refine wl_mapUpdate rfl _ _ _ _ rfl _ _ _ rfl rfl rfl ?_) | (at_lookup; refine wl_lookup rfl _ _ _ _ rfl _ _ rfl rfl ?_) | (at_delete; refine wl_delete rfl _ _ _ _ rfl _ _ rfl rfl ?_) | (with_reducible refine wl_len rfl _ _ rfl _ rfl ?_) | (with_reducible refine wl_range rfl _ _ rfl _ rfl ?_) | (with_reducible refine wl_next rfl _ rfl _ rfl ?_) | (with_reducible refine wl_copy rfl _ _ _ _ rfl _ _ rfl rfl ?_) | (with_reducible refine wl_max rfl _ _ _ _ rfl _ _ rfl rfl ?_) | (with_reducible refine wl_min rfl _ _ _ _ rfl _ _ rfl rfl ?_))
  go_ret
  refine ⟨w.heap.size + 1 + 1, rfl, ⟨[], w.heap.size, w.heap.size + 1, .slice none 0 0, [], ?_⟩, (((Keep.refl _ _).alloc _).alloc _).alloc _⟩
  have m1 := MapL.made Try.prog 9 w
  have m2 := MapL.made Try.prog 9 (w.alloc (.map #[] 0))
  rw [World.size_alloc] at m2
  have b3 := Blk.new ((w.alloc (.map #[] 0)).alloc (.map #[] 0)) #[.int .i64 n, .map (some w.heap.size), .map (some (w.heap.size + 1)), .slice none 0 0, .bool false, .int .i64 0] 62
  simp only [World.size_alloc] at b3
  refine { blk := b3, nm := ?_, sm := ?_, ne := by omega, row := World.ownsRow_nil _ _ _ _, rowA := fun g hg => (by cases hg), rlen := rfl, pend := fun i o ho => (by simp at ho), fl := rfl, sl := rfl, nd := List.nodup_nil, fbl := fun b hb => (by cases hb), file := ?_, Ad := ⟨by omega, by simp⟩, An := ⟨by omega, by simp; omega⟩, As := ⟨by omega, by simp⟩ }
  · exact (m1.same (Below.heap_alloc _ _ _ (by simp))).same (Below.heap_alloc _ _ _ (by simp; omega))
  · exact m2.same (Below.heap_alloc _ _ _ (by simp))
  · rintro i (⟨s, hi⟩ | ⟨s, hi⟩ | ⟨o, ho, _⟩)
    · cases hi
    · cases hi
    · cases ho
end Go.Proofs.Ytkmoomgmmhmaeaa
