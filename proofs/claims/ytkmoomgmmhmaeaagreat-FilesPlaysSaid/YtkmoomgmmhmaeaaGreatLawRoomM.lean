/- New, Read, Off, Pending, Cut. New. slices.Sorted(maps.Keys(m)) at this seat, and Names. Names. Bounds of a disk under calls (no program), and the disk's contracts for a caller that owns its memory. DiskRoom: the disk as lists, as long as nothing is removed: no program. No condition. -/
import Derived.Test.YtkmoomgmmhmaeaaGreatDiskN
import Derived.Test.YtkmoomgmmhmaeaaGreatLays
import Derived.Sort.KeysCollected
namespace Go.Proofs.YtkmoomgmmhmaeaaGreat
open Go.RowKit Go.Dm Go.Dm.Dk Go.Maps Go.WideMaps Go.WideElems

set_option maxRecDepth 100000 in
set_option maxHeartbeats 1000000 in
theorem read_any {A : Nat → Prop} {d : Nat} {m : M} (s : List UInt8) (w : World) (h : DR A w d m) (hs : s.length ≤ maxLen) (hil : ∀ f, (m.is.getD f []).length ≤ 1099511627776) :
    Calls Tryz.prog 47 #[.pointer (some ⟨d, 0, none⟩), .string ⟨s.toArray⟩] w fun e w' => ∃ v', e = .returned (.tuple #[v', .int .i64 (readE m s : Nat)]) ∧ w'.ownsRow w.heap.size 5 1 v' (readB m s).length ((readB m s).map bv) ∧ Keep No w w' := by
  obtain ⟨fb, nb, sb, wv, rows, h⟩ := h
  have hd := h.blk.cell 1
  have h4 := h.blk.cell 4
  simp only [List.getElem?_toArray, List.getElem?_cons_succ, List.getElem?_cons_zero] at hd h4
  by_cases hoff : m.off = true
  · have e1 : readE m s = 23 := by simp [readE, hoff]
    have e2 : readB m s = [] := by simp [readB, hoff]
    rw [e1, e2]
    rw [hoff] at h4
    go_enter Tryz.func47, Tryz.ntmps47
    go_wp2_with (first | (at_builtin; refine wl_append rfl _ _ _ _ rfl _ _ rfl rfl ?_) | (at_make; refine wl_make rfl _ _ _ rfl _ _ rfl rfl ?_) | (at_mapUpdate; refine wl_mapUpdate rfl _ _ _ _ rfl _ _ _ rfl rfl rfl ?_) | (at_lookup; refine wl_lookup rfl _ _ _ _ rfl _ _ rfl rfl ?_) | (at_delete; refine wl_delete rfl _ _ _ _ rfl _ _ rfl rfl ?_) | (with_reducible refine wl_len rfl _ _ rfl _ rfl ?_) | (with_reducible refine wl_range rfl _ _ rfl _ rfl ?_) | (with_reducible refine wl_next rfl _ rfl _ rfl ?_) | (with_reducible refine wl_copy rfl _ _ _ _ rfl _ _ rfl rfl ?_) | (with_reducible refine wl_max rfl _ _ _ _ rfl _ _ rfl rfl ?_) | (with_reducible refine wl_min rfl _ _ _ _ rfl _ _ rfl rfl ?_))
    refine (of_any d s _ hs h.nm hd).mono ?_
    rintro e w1 ⟨rfl, rfl⟩
    go_wp2_with (first | (at_builtin; refine wl_append rfl _ _ _ _ rfl _ _ rfl rfl ?_) | (at_make; refine wl_make rfl _ _ _ rfl _ _ rfl rfl ?_) | (at_mapUpdate; refine wl_mapUpdate rfl _ _ _ _ rfl _ _ _ rfl rfl rfl ?_) | (at_lookup; refine wl_lookup rfl _ _ _ _ rfl _ _ rfl rfl ?_) | (at_delete; refine wl_delete rfl _ _ _ _ rfl _ _ rfl rfl ?_) | (with_reducible refine wl_len rfl _ _ rfl _ rfl ?_) | (with_reducible refine wl_range rfl _ _ rfl _ rfl ?_) | (with_reducible refine wl_next rfl _ rfl _ rfl ?_) | (with_reducible refine wl_copy rfl _ _ _ _ rfl _ _ rfl rfl ?_) | (with_reducible refine wl_max rfl _ _ _ _ rfl _ _ rfl rfl ?_) | (with_reducible refine wl_min rfl _ _ _ _ rfl _ _ rfl rfl ?_))
    go_ret2
    exact ⟨_, rfl, World.ownsRow_nil _ _ _ _, Keep.refl _ _⟩
  · have hoff : m.off = false := by simpa using hoff
    rw [hoff] at h4
    cases hf : find m.L s with
    | none =>
      have e1 : readE m s = 20 := by simp [readE, hoff, hf]
      have e2 : readB m s = [] := by simp [readB, hoff, hf]
      rw [e1, e2]
      clear e1 e2
      go_enter Tryz.func47, Tryz.ntmps47
      go_wp2_with (first | (at_builtin; refine wl_append rfl _ _ _ _ rfl _ _ rfl rfl ?_) | (at_make; refine wl_make rfl _ _ _ rfl _ _ rfl rfl ?_) | (at_mapUpdate; refine wl_mapUpdate rfl _ _ _ _ rfl _ _ _ rfl rfl rfl ?_) | (at_lookup; refine wl_lookup rfl _ _ _ _ rfl _ _ rfl rfl ?_) | (at_delete; refine wl_delete rfl _ _ _ _ rfl _ _ rfl rfl ?_) | (with_reducible refine wl_len rfl _ _ rfl _ rfl ?_) | (with_reducible refine wl_range rfl _ _ rfl _ rfl ?_) | (with_reducible refine wl_next rfl _ rfl _ rfl ?_) | (with_reducible refine wl_copy rfl _ _ _ _ rfl _ _ rfl rfl ?_) | (with_reducible refine wl_max rfl _ _ _ _ rfl _ _ rfl rfl ?_) | (with_reducible refine wl_min rfl _ _ _ _ rfl _ _ rfl rfl ?_))
      refine (of_any d s _ hs h.nm hd).mono ?_
      rintro e w1 ⟨rfl, rfl⟩
      simp only [ofV, hf, Option.map_none, Option.getD_none]
      go_wp2_with (first | (at_builtin; refine wl_append rfl _ _ _ _ rfl _ _ rfl rfl ?_) | (at_make; refine wl_make rfl _ _ _ rfl _ _ rfl rfl ?_) | (at_mapUpdate; refine wl_mapUpdate rfl _ _ _ _ rfl _ _ _ rfl rfl rfl ?_) | (at_lookup; refine wl_lookup rfl _ _ _ _ rfl _ _ rfl rfl ?_) | (at_delete; refine wl_delete rfl _ _ _ _ rfl _ _ rfl rfl ?_) | (with_reducible refine wl_len rfl _ _ rfl _ rfl ?_) | (with_reducible refine wl_range rfl _ _ rfl _ rfl ?_) | (with_reducible refine wl_next rfl _ rfl _ rfl ?_) | (with_reducible refine wl_copy rfl _ _ _ _ rfl _ _ rfl rfl ?_) | (with_reducible refine wl_max rfl _ _ _ _ rfl _ _ rfl rfl ?_) | (with_reducible refine wl_min rfl _ _ _ _ rfl _ _ rfl rfl ?_))
      go_ret2
      exact ⟨_, rfl, World.ownsRow_nil _ _ _ _, Keep.refl _ _⟩
    | some f =>
      have e1 : readE m s = 0 := by simp [readE, hoff, hf]
      have e2 : readB m s = m.is.getD f [] := by simp [readB, hoff, hf]
      rw [e1, e2]
      clear e1 e2
      obtain ⟨_, _, v1, v2, hb, hv1, _⟩ := h.file f (.inl ⟨s, find_mem hf⟩)
      have hn := hil f
      have hc := hb.cell 0
      simp only [List.getElem?_toArray, List.getElem?_cons_zero] at hc
      generalize m.is.getD f [] = X at *
      obtain ⟨a, c, rfl, _, _⟩ := hv1.shape
      go_enter Tryz.func47, Tryz.ntmps47
      go_wp2_with (first | (at_builtin; refine wl_append rfl _ _ _ _ rfl _ _ rfl rfl ?_) | (at_make; refine wl_make rfl _ _ _ rfl _ _ rfl rfl ?_) | (at_mapUpdate; refine wl_mapUpdate rfl _ _ _ _ rfl _ _ _ rfl rfl rfl ?_) | (at_lookup; refine wl_lookup rfl _ _ _ _ rfl _ _ rfl rfl ?_) | (at_delete; refine wl_delete rfl _ _ _ _ rfl _ _ rfl rfl ?_) | (with_reducible refine wl_len rfl _ _ rfl _ rfl ?_) | (with_reducible refine wl_range rfl _ _ rfl _ rfl ?_) | (with_reducible refine wl_next rfl _ rfl _ rfl ?_) | (with_reducible refine wl_copy rfl _ _ _ _ rfl _ _ rfl rfl ?_) | (with_reducible refine wl_max rfl _ _ _ _ rfl _ _ rfl rfl ?_) | (with_reducible refine wl_min rfl _ _ _ _ rfl _ _ rfl rfl ?_))
      refine (of_any d s _ hs h.nm hd).mono ?_
      rintro e w1 ⟨rfl, rfl⟩
      simp only [ofV, hf, Option.map_some, Option.getD_some, fptr, ptrTo]
      generalize fb.getD f 0 = b at *
      go_wp2_with (first | (at_builtin; refine wl_append rfl _ _ _ _ rfl _ _ rfl rfl ?_) | (at_make; refine wl_make rfl _ _ _ rfl _ _ rfl rfl ?_) | (at_mapUpdate; refine wl_mapUpdate rfl _ _ _ _ rfl _ _ _ rfl rfl rfl ?_) | (at_lookup; refine wl_lookup rfl _ _ _ _ rfl _ _ rfl rfl ?_) | (at_delete; refine wl_delete rfl _ _ _ _ rfl _ _ rfl rfl ?_) | (with_reducible refine wl_len rfl _ _ rfl _ rfl ?_) | (with_reducible refine wl_range rfl _ _ rfl _ rfl ?_) | (with_reducible refine wl_next rfl _ rfl _ rfl ?_) | (with_reducible refine wl_copy rfl _ _ _ _ rfl _ _ rfl rfl ?_) | (with_reducible refine wl_max rfl _ _ _ _ rfl _ _ rfl rfl ?_) | (with_reducible refine wl_min rfl _ _ _ _ rfl _ _ rfl rfl ?_))
      refine (clone_any (A := A) _ X _ hv1.bts hn).mono ?_
      rintro e w1 ⟨v', rfl, hown, hk⟩
      go_wp2_with (first | (at_builtin; refine wl_append rfl _ _ _ _ rfl _ _ rfl rfl ?_) | (at_make; refine wl_make rfl _ _ _ rfl _ _ rfl rfl ?_) | (at_mapUpdate; refine wl_mapUpdate rfl _ _ _ _ rfl _ _ _ rfl rfl rfl ?_) | (at_lookup; refine wl_lookup rfl _ _ _ _ rfl _ _ rfl rfl ?_) | (at_delete; refine wl_delete rfl _ _ _ _ rfl _ _ rfl rfl ?_) | (with_reducible refine wl_len rfl _ _ rfl _ rfl ?_) | (with_reducible refine wl_range rfl _ _ rfl _ rfl ?_) | (with_reducible refine wl_next rfl _ rfl _ rfl ?_) | (with_reducible refine wl_copy rfl _ _ _ _ rfl _ _ rfl rfl ?_) | (with_reducible refine wl_max rfl _ _ _ _ rfl _ _ rfl rfl ?_) | (with_reducible refine wl_min rfl _ _ _ _ rfl _ _ rfl rfl ?_))
      go_ret2
      exact ⟨_, rfl, hown, hk⟩

set_option maxRecDepth 100000 in
theorem off_any {A : Nat → Prop} {d : Nat} {m : M} (w : World) (h : DR A w d m) :
    Calls Tryz.prog 58 #[.pointer (some ⟨d, 0, none⟩)] w fun e w' => e = .returned (.bool m.off) ∧ w = w' := by
  obtain ⟨fb, nb, sb, wv, rows, h⟩ := h
  have h4 := h.blk.cell 4
  simp only [List.getElem?_toArray, List.getElem?_cons_succ, List.getElem?_cons_zero] at h4
  generalize m.off = b at *
  go_enter Tryz.func58, Tryz.ntmps58
  go_wp2_with (first | (at_builtin; refine wl_append rfl _ _ _ _ rfl _ _ rfl rfl ?_) | (at_make; refine wl_make rfl _ _ _ rfl _ _ rfl rfl ?_) | (at_mapUpdate; refine wl_mapUpdate rfl _ _ _ _ rfl _ _ _ rfl rfl rfl ?_) | (at_lookup; refine wl_lookup rfl _ _ _ _ rfl _ _ rfl rfl ?_) | (at_delete; refine wl_delete rfl _ _ _ _ rfl _ _ rfl rfl ?_) | (with_reducible refine wl_len rfl _ _ rfl _ rfl ?_) | (with_reducible refine wl_range rfl _ _ rfl _ rfl ?_) | (with_reducible refine wl_next rfl _ rfl _ rfl ?_) | (with_reducible refine wl_copy rfl _ _ _ _ rfl _ _ rfl rfl ?_) | (with_reducible refine wl_max rfl _ _ _ _ rfl _ _ rfl rfl ?_) | (with_reducible refine wl_min rfl _ _ _ _ rfl _ _ rfl rfl ?_))
  go_ret
  exact ⟨rfl, rfl⟩

set_option maxRecDepth 100000 in
theorem pending_any {A : Nat → Prop} {d : Nat} {m : M} (w : World) (h : DR A w d m) :
    Calls Tryz.prog 57 #[.pointer (some ⟨d, 0, none⟩)] w fun e w' => e = .returned (.int .i64 m.wait.length) ∧ w = w' := by
  obtain ⟨fb, nb, sb, wv, rows, h⟩ := h
  obtain ⟨a, c, rfl, _, _⟩ := (Sl.of_own h.row).shape
  have h4 := h.blk.cell 3
  simp only [List.getElem?_toArray, List.getElem?_cons_succ, List.getElem?_cons_zero] at h4
  go_enter Tryz.func57, Tryz.ntmps57
  go_wp2_with (first | (at_builtin; refine wl_append rfl _ _ _ _ rfl _ _ rfl rfl ?_) | (at_make; refine wl_make rfl _ _ _ rfl _ _ rfl rfl ?_) | (at_mapUpdate; refine wl_mapUpdate rfl _ _ _ _ rfl _ _ _ rfl rfl rfl ?_) | (at_lookup; refine wl_lookup rfl _ _ _ _ rfl _ _ rfl rfl ?_) | (at_delete; refine wl_delete rfl _ _ _ _ rfl _ _ rfl rfl ?_) | (with_reducible refine wl_len rfl _ _ rfl _ rfl ?_) | (with_reducible refine wl_range rfl _ _ rfl _ rfl ?_) | (with_reducible refine wl_next rfl _ rfl _ rfl ?_) | (with_reducible refine wl_copy rfl _ _ _ _ rfl _ _ rfl rfl ?_) | (with_reducible refine wl_max rfl _ _ _ _ rfl _ _ rfl rfl ?_) | (with_reducible refine wl_min rfl _ _ _ _ rfl _ _ rfl rfl ?_))
  go_ret
  exact ⟨rfl, rfl⟩

set_option maxRecDepth 100000 in
set_option maxHeartbeats 1000000 in
theorem cut_any {A : Nat → Prop} {d : Nat} {m : M} (steps : Int) (w : World) (h : DR A w d m) :
    Calls Tryz.prog 7 #[.pointer (some ⟨d, 0, none⟩), .int .i64 steps] w fun e w' => e = .returned (.tuple #[]) ∧ DR A w' d (cutD m steps) ∧ Keep A w w' := by
  obtain ⟨fb, nb, sb, wv, rows, h⟩ := h
  have h4 := h.blk.cell 4
  have h5 := h.blk.cell 5
  have f5 := h.blk.frozen 5
  simp only [List.getElem?_toArray, List.getElem?_cons_succ, List.getElem?_cons_zero] at h4 h5
  by_cases hoff : m.off = true
  · have e1 : cutD m steps = m := by simp [cutD, hoff]
    rw [e1]
    rw [hoff] at h4
    go_enter Tryz.func7, Tryz.ntmps7
    go_wp2_with (first | (at_builtin; refine wl_append rfl _ _ _ _ rfl _ _ rfl rfl ?_) | (at_make; refine wl_make rfl _ _ _ rfl _ _ rfl rfl ?_) | (at_mapUpdate; refine wl_mapUpdate rfl _ _ _ _ rfl _ _ _ rfl rfl rfl ?_) | (at_lookup; refine wl_lookup rfl _ _ _ _ rfl _ _ rfl rfl ?_) | (at_delete; refine wl_delete rfl _ _ _ _ rfl _ _ rfl rfl ?_) | (with_reducible refine wl_len rfl _ _ rfl _ rfl ?_) | (with_reducible refine wl_range rfl _ _ rfl _ rfl ?_) | (with_reducible refine wl_next rfl _ rfl _ rfl ?_) | (with_reducible refine wl_copy rfl _ _ _ _ rfl _ _ rfl rfl ?_) | (with_reducible refine wl_max rfl _ _ _ _ rfl _ _ rfl rfl ?_) | (with_reducible refine wl_min rfl _ _ _ _ rfl _ _ rfl rfl ?_))
    go_end0
    exact ⟨rfl, ⟨fb, nb, sb, wv, rows, h⟩, Keep.refl _ _⟩
  · have hoff : m.off = false := by simpa using hoff
    obtain ⟨n, hn⟩ : ∃ n : Nat, n = steps.toNat := ⟨_, rfl⟩
    have e1 : cutD m steps = { m with cut := n } := by simp [cutD, hoff, hn]
    rw [e1]
    have e2 : max steps 0 = (n : Int) := by omega
    have HE := Lib.hid e2
    clear e1 e2 hn
    rw [hoff] at h4
    go_enter Tryz.func7, Tryz.ntmps7
    go_wp2_with (first | (at_builtin; refine wl_append rfl _ _ _ _ rfl _ _ rfl rfl ?_) | (at_make; refine wl_make rfl _ _ _ rfl _ _ rfl rfl ?_) | (at_mapUpdate; refine wl_mapUpdate rfl _ _ _ _ rfl _ _ _ rfl rfl rfl ?_) | (at_lookup; refine wl_lookup rfl _ _ _ _ rfl _ _ rfl rfl ?_) | (at_delete; refine wl_delete rfl _ _ _ _ rfl _ _ rfl rfl ?_) | (with_reducible refine wl_len rfl _ _ rfl _ rfl ?_) | (with_reducible refine wl_range rfl _ _ rfl _ rfl ?_) | (with_reducible refine wl_next rfl _ rfl _ rfl ?_) | (with_reducible refine wl_copy rfl _ _ _ _ rfl _ _ rfl rfl ?_) | (with_reducible refine wl_max rfl _ _ _ _ rfl _ _ rfl rfl ?_) | (with_reducible refine wl_min rfl _ _ _ _ rfl _ _ rfl rfl ?_))
    refine rg_max2 ?_
    rw [HE.out]
    go_wp2_with (first | (at_builtin; refine wl_append rfl _ _ _ _ rfl _ _ rfl rfl ?_) | (at_make; refine wl_make rfl _ _ _ rfl _ _ rfl rfl ?_) | (at_mapUpdate; refine wl_mapUpdate rfl _ _ _ _ rfl _ _ _ rfl rfl rfl ?_) | (at_lookup; refine wl_lookup rfl _ _ _ _ rfl _ _ rfl rfl ?_) | (at_delete; refine wl_delete rfl _ _ _ _ rfl _ _ rfl rfl ?_) | (with_reducible refine wl_len rfl _ _ rfl _ rfl ?_) | (with_reducible refine wl_range rfl _ _ rfl _ rfl ?_) | (with_reducible refine wl_next rfl _ rfl _ rfl ?_) | (with_reducible refine wl_copy rfl _ _ _ _ rfl _ _ rfl rfl ?_) | (with_reducible refine wl_max rfl _ _ _ _ rfl _ _ rfl rfl ?_) | (with_reducible refine wl_min rfl _ _ _ _ rfl _ _ rfl rfl ?_))
    go_end0
    exact ⟨rfl, ⟨fb, nb, sb, wv, rows, h.set _ rfl rfl rfl rfl rfl rfl⟩, (Keep.refl _ _).setCell (fun _ => h.Ad) _⟩
end Go.Proofs.YtkmoomgmmhmaeaaGreat
namespace Go.Proofs.YtkmoomgmmhmaeaaGreat
open Go.RowKit Go.Dm Go.Dm.Dk Go.Maps Go.WideMaps Go.WideElems

set_option maxRecDepth 100000 in
set_option maxHeartbeats 1000000 in
theorem new_any (room : Int) (w : World) :
    Calls Tryz.prog 5 #[.int .i64 room] w fun e w' => ∃ d, e = .returned (ptrTo d) ∧ DR (fun k => w.heap.size ≤ k ∧ k < w'.heap.size) w' d (Dk.new room) ∧ Keep No w w' := by
  obtain ⟨n, hn⟩ : ∃ n : Nat, n = room.toNat := ⟨_, rfl⟩
  have e1 : Dk.new room = ⟨n, [], [], [], [], [], false, 0⟩ := by simp [Dk.new, hn]
  rw [e1]
  have e2 : max room 0 = (n : Int) := by omega
  have HE := Lib.hid e2
  clear e1 e2 hn
  have hmm := @run_makeMap
  go_enter Tryz.func5, Tryz.ntmps5
  go_wp2_with (first | (at_builtin; refine wl_append rfl _ _ _ _ rfl _ _ rfl rfl ?_) | (at_make; refine wl_make rfl _ _ _ rfl _ _ rfl rfl ?_) | (at_mapUpdate; refine wl_mapUpdate rfl _ _ _ _ rfl _ _ _ rfl rfl rfl ?_) | (at_lookup; refine wl_lookup rfl _ _ _ _ rfl _ _ rfl rfl ?_) | (at_delete; refine wl_delete rfl _ _ _ _ rfl _ _ rfl rfl ?_) | (with_reducible refine wl_len rfl _ _ rfl _ rfl ?_) | (with_reducible refine wl_range rfl _ _ rfl _ rfl ?_) | (with_reducible refine wl_next rfl _ rfl _ rfl ?_) | (with_reducible refine wl_copy rfl _ _ _ _ rfl _ _ rfl rfl ?_) | (with_reducible refine wl_max rfl _ _ _ _ rfl _ _ rfl rfl ?_) | (with_reducible refine wl_min rfl _ _ _ _ rfl _ _ rfl rfl ?_))
  refine rg_max2 ?_
  rw [HE.out]
  go_wp2_with (first | (at_builtin; refine wl_append rfl _ _ _ _ rfl _ _ rfl rfl ?_) | (at_make; refine wl_make rfl _ _ _ rfl _ _ rfl rfl ?_) | (at_mapUpdate; refine wl_mapUpdate rfl _ _ _ _ rfl _ _ _ rfl rfl rfl ?_) | (at_lookup; refine wl_lookup rfl _ _ _ _ rfl _ _ rfl rfl ?_) | (at_delete; refine wl_delete rfl _ _ _ _ rfl _ _ rfl rfl ?_) | (with_reducible refine wl_len rfl _ _ rfl _ rfl ?_) | (with_reducible refine wl_range rfl _ _ rfl _ rfl ?_) | (with_reducible refine wl_next rfl _ rfl _ rfl ?_) | (with_reducible refine wl_copy rfl _ _ _ _ rfl _ _ rfl rfl ?_) | (with_reducible refine wl_max rfl _ _ _ _ rfl _ _ rfl rfl ?_) | (with_reducible refine wl_min rfl _ _ _ _ rfl _ _ rfl rfl ?_))
  go_ret
  refine ⟨w.heap.size + 1 + 1, rfl, ⟨[], w.heap.size, w.heap.size + 1, .slice none 0 0, [], ?_⟩, (((Keep.refl _ _).alloc _).alloc _).alloc _⟩
  have m1 := MapL.made Tryz.prog 9 w
  have m2 := MapL.made Tryz.prog 9 (w.alloc (.map #[] 0))
  rw [World.size_alloc] at m2
  have b3 := Blk.new ((w.alloc (.map #[] 0)).alloc (.map #[] 0)) #[.int .i64 n, .map (some w.heap.size), .map (some (w.heap.size + 1)), .slice none 0 0, .bool false, .int .i64 0] 60
  simp only [World.size_alloc] at b3
  refine { blk := b3, nm := ?_, sm := ?_, ne := by omega, row := World.ownsRow_nil _ _ _ _, rowA := fun g hg => (by cases hg), rlen := rfl, pend := fun i o ho => (by simp at ho), fl := rfl, sl := rfl, nd := List.nodup_nil, fbl := fun b hb => (by cases hb), file := ?_, Ad := ⟨by omega, by simp⟩, An := ⟨by omega, by simp; omega⟩, As := ⟨by omega, by simp⟩ }
  · exact (m1.same (Below.heap_alloc _ _ _ (by simp))).same (Below.heap_alloc _ _ _ (by simp; omega))
  · exact m2.same (Below.heap_alloc _ _ _ (by simp))
  · rintro i (⟨s, hi⟩ | ⟨s, hi⟩ | ⟨o, ho, _⟩)
    · cases hi
    · cases hi
    · cases ho
end Go.Proofs.YtkmoomgmmhmaeaaGreat
namespace Go.Proofs
open Go.RowKit Go.Maps Go.Sort Go.Shelf

theorem Tryz.sortsN (m : Nat) : AnyZ.SortsIn Tryz.prog Tryz.sortedN_ren Fence.wide m :=
  ⟨fun blk off cap ss W hH hblk hsz => callsIn_wide.2 (AnyM.slices_Sort_string Tryz.sortN blk off cap ss W hH hblk hsz),
   fun p cap W => callsIn_wide.2 (AnyM.slices_Sort_string_none Tryz.sortN p cap W)⟩

theorem Tryz.keysAny (mb : Option Nat) (W : World) : Calls Tryz.prog 60 #[.map mb] W fun e w' => e = .returned (.func (.func 85) #[] #[.pointer (some ⟨W.heap.size, 0, none⟩)]) ∧ w' = W.alloc (.cells #[.map mb] 57) :=
  callsIn_wide.1 (AnyZ.keys_in Tryz.keysN Fence.wide 5 trivial rfl mb W)

set_option maxHeartbeats 1000000 in
theorem Tryz.sortedAny {H : Type} (b nn : Nat) (D0 : DataW H) (R : Value → Option (DataW H × List MemPlace)) (w : World) (hown : w.ownsMap Tryz.prog 9 R b nn D0) (hmax : Maps.size D0 ≤ maxLen) (hbytes : Maps.size D0 * 16 ≤ 140737488355328) :
    Calls Tryz.prog 59 #[.func (.func 85) #[] #[.pointer (some ⟨w.heap.size, 0, none⟩)]] (w.alloc (.cells #[.map (some b)] 57)) fun e w' => ∃ (v : Value) (ss : List (List UInt8)), e = .returned v ∧ ss.Perm (strKeys D0) ∧
      w'.ownsRow (w.alloc (.cells #[.map (some b)] 57)).heap.size 9 1 v ss.length ((ss.mergeSort (fun x y => decide (x ≤ y))).map encStr) ∧ (v = .slice none 0 0 ↔ ss = []) ∧ Below (w.alloc (.cells #[.map (some b)] 57)).heap.size (w.alloc (.cells #[.map (some b)] 57)) w' := by
  have hbl := hown.lt
  have hseq : SeqGives Fence.wide 2 Tryz.prog 85 #[.pointer (some ⟨w.heap.size, 0, none⟩)] encStr (fun ss => ss.Perm (strKeys D0)) (Maps.size D0) (w.alloc (.cells #[.map (some b)] 57)) :=
    AnyZ.keys_gives (ρ := Tryz.keysN_ren) { Tryz.keysN with } Fence.wide _ trivial rfl (by omega) w.heap.size b nn D0 _ (by simp) (by simp) (by
      obtain ⟨es, clock, hb, Ft, hs, hD⟩ := hown
      exact ⟨es, clock, (Below.heap_alloc _ _ b hbl).trans hb, Ft, hs, hD⟩)
  exact callsIn_wide.1 (AnyZ.sorted_in Tryz.sortedN Fence.wide 5 trivial trivial trivial trivial rfl (by omega) (Tryz.sortsN _) (enters_of Tryz.func84 (by kernel_rfl) rfl) 85 #[.pointer (some ⟨w.heap.size, 0, none⟩)] trivial (enters_of Tryz.func85 (by kernel_rfl) rfl) _ _ hmax hbytes _ hseq)
end Go.Proofs
namespace Go.Dm.Dk
/-- the names, rising -/
def namesOf (m : M) : List (List UInt8) := (m.L.map (·.1)).mergeSort (fun x y => decide (x ≤ y))
end Go.Dm.Dk
namespace Go.Proofs.YtkmoomgmmhmaeaaGreat
open Go.RowKit Go.Dm Go.Dm.Dk Go.Maps

theorem strKeys_NL {fb : List Nat} {L : Names} {es : List (Lit × DataW Value)} (h : es.Perm ((NL fb L).map hd)) : (strKeys (.map es)).Perm (L.map (·.1)) := by
  have h1 : (es.map fun p => strOf p.1).Perm (((NL fb L).map hd).map fun p => strOf p.1) := h.map _
  have h2 : (((NL fb L).map hd).map fun p => strOf p.1) = L.map (·.1) := by
    unfold NL
    rw [List.map_map, List.map_map]
    rfl
  rw [h2] at h1
  exact h1

set_option maxRecDepth 100000 in
set_option maxHeartbeats 1000000 in
theorem names_any {A : Nat → Prop} {d : Nat} {m : M} (w : World) (h : DR A w d m) (hl : m.L.length ≤ 1099511627776) :
    Calls Tryz.prog 23 #[.pointer (some ⟨d, 0, none⟩)] w fun e w' => ∃ v, e = .returned v ∧ w'.ownsRow w.heap.size 9 1 v (namesOf m).length ((namesOf m).map encStr) ∧ Keep No w w' := by
  obtain ⟨fb, nb, sb, wv, rows, h⟩ := h
  have hd := h.blk.cell 1
  simp only [List.getElem?_toArray, List.getElem?_cons_succ, List.getElem?_cons_zero] at hd
  obtain ⟨_, es, hperm, hown⟩ := h.nm
  have hsz : Maps.size (.map es) = m.L.length := by rw [Maps.size_eq, hperm.length_eq, List.length_map]; simp [NL]
  have hsr := Tryz.sortedAny nb _ (.map es) heldE w hown (by rw [hsz]; unfold maxLen; omega) (by rw [hsz]; omega)
  have HS := Lib.hid hsr
  have HSZ := Lib.hid hsz
  have HO := Lib.hid hown
  clear hsr hsz hown
  go_enter Tryz.func23, Tryz.ntmps23
  go_wp2_with (first | (at_builtin; refine wl_append rfl _ _ _ _ rfl _ _ rfl rfl ?_) | (at_make; refine wl_make rfl _ _ _ rfl _ _ rfl rfl ?_) | (at_mapUpdate; refine wl_mapUpdate rfl _ _ _ _ rfl _ _ _ rfl rfl rfl ?_) | (at_lookup; refine wl_lookup rfl _ _ _ _ rfl _ _ rfl rfl ?_) | (at_delete; refine wl_delete rfl _ _ _ _ rfl _ _ rfl rfl ?_) | (with_reducible refine wl_len rfl _ _ rfl _ rfl ?_) | (with_reducible refine wl_range rfl _ _ rfl _ rfl ?_) | (with_reducible refine wl_next rfl _ rfl _ rfl ?_) | (with_reducible refine wl_copy rfl _ _ _ _ rfl _ _ rfl rfl ?_) | (with_reducible refine wl_max rfl _ _ _ _ rfl _ _ rfl rfl ?_) | (with_reducible refine wl_min rfl _ _ _ _ rfl _ _ rfl rfl ?_))
  refine (Tryz.keysAny _ _).mono ?_
  rintro e w1 ⟨rfl, rfl⟩
  go_wp2_with (first | (at_builtin; refine wl_append rfl _ _ _ _ rfl _ _ rfl rfl ?_) | (at_make; refine wl_make rfl _ _ _ rfl _ _ rfl rfl ?_) | (at_mapUpdate; refine wl_mapUpdate rfl _ _ _ _ rfl _ _ _ rfl rfl rfl ?_) | (at_lookup; refine wl_lookup rfl _ _ _ _ rfl _ _ rfl rfl ?_) | (at_delete; refine wl_delete rfl _ _ _ _ rfl _ _ rfl rfl ?_) | (with_reducible refine wl_len rfl _ _ rfl _ rfl ?_) | (with_reducible refine wl_range rfl _ _ rfl _ rfl ?_) | (with_reducible refine wl_next rfl _ rfl _ rfl ?_) | (with_reducible refine wl_copy rfl _ _ _ _ rfl _ _ rfl rfl ?_) | (with_reducible refine wl_max rfl _ _ _ _ rfl _ _ rfl rfl ?_) | (with_reducible refine wl_min rfl _ _ _ _ rfl _ _ rfl rfl ?_))
  refine HS.out.mono ?_
  rintro e w2 ⟨v, ss, rfl, hp, hrow, _, hb⟩
  go_wp2_with (first | (at_builtin; refine wl_append rfl _ _ _ _ rfl _ _ rfl rfl ?_) | (at_make; refine wl_make rfl _ _ _ rfl _ _ rfl rfl ?_) | (at_mapUpdate; refine wl_mapUpdate rfl _ _ _ _ rfl _ _ _ rfl rfl rfl ?_) | (at_lookup; refine wl_lookup rfl _ _ _ _ rfl _ _ rfl rfl ?_) | (at_delete; refine wl_delete rfl _ _ _ _ rfl _ _ rfl rfl ?_) | (with_reducible refine wl_len rfl _ _ rfl _ rfl ?_) | (with_reducible refine wl_range rfl _ _ rfl _ rfl ?_) | (with_reducible refine wl_next rfl _ rfl _ rfl ?_) | (with_reducible refine wl_copy rfl _ _ _ _ rfl _ _ rfl rfl ?_) | (with_reducible refine wl_max rfl _ _ _ _ rfl _ _ rfl rfl ?_) | (with_reducible refine wl_min rfl _ _ _ _ rfl _ _ rfl rfl ?_))
  go_ret
  have e1 : ss.mergeSort (fun x y => decide (x ≤ y)) = namesOf m := mergeSort_of_perm (hp.trans (strKeys_NL hperm))
  have e2 : ss.length = (namesOf m).length := by rw [← e1, List.length_mergeSort]
  rw [e1, e2] at hrow
  refine ⟨v, rfl, ⟨hrow.1, hrow.2.imp id ?_⟩, ((Keep.refl _ _).alloc _).trans' (Keep.of_below hb)⟩
  rintro ⟨g, cap, cur, e3, hg, r⟩
  exact ⟨g, cap, cur, e3, by simp at hg; omega, r⟩
end Go.Proofs.YtkmoomgmmhmaeaaGreat
namespace Go.Dm.Dk

structure Small (m : M) (n N : Nat) : Prop where
  L : m.L.length ≤ n
  S : m.S.length + m.wait.length ≤ n
  is : ∀ f, (m.is.getD f []).length ≤ N
  sure : ∀ f, (m.sure.getD f []).length ≤ N
  wb : ∀ o ∈ m.wait, o.at_ + o.b.length ≤ N ∧ o.frm.length ≤ N ∧ o.to.length ≤ N
  rm : m.room ≤ 9223372036854775807
  ct : m.cut ≤ 9223372036854775807

theorem Small.mono {m : M} {n N n' N' : Nat} (h : Small m n N) (h1 : n ≤ n') (h2 : N ≤ N') : Small m n' N' :=
  ⟨Nat.le_trans h.L h1, Nat.le_trans h.S h1, fun f => Nat.le_trans (h.is f) h2, fun f => Nat.le_trans (h.sure f) h2, fun o ho => ⟨Nat.le_trans (h.wb o ho).1 h2, Nat.le_trans (h.wb o ho).2.1 h2, Nat.le_trans (h.wb o ho).2.2 h2⟩, h.rm, h.ct⟩
theorem Small.new (room : Int) (hr : room ≤ 9223372036854775807) : Small (Dk.new room) 0 0 := by
  refine ⟨Nat.le_refl _, Nat.le_refl _, fun f => by simp [Dk.new], fun f => by simp [Dk.new], fun o ho => (by cases ho), ?_, Nat.zero_le _⟩
  show room.toNat ≤ _
  omega
theorem used_le (m : M) (N : Nat) (h : ∀ f, (m.is.getD f []).length ≤ N) : used m ≤ m.L.length * N := by
  unfold used
  generalize m.L = L
  induction L with
  | nil => simp
  | cons p r ih =>
    have := h p.2
    simp only [List.map_cons, List.sum_cons, List.length_cons, fileLen, Nat.succ_mul] at *
    omega
theorem Small.fit {m : M} {n N : Nat} (h : Small m n N) (h1 : n ≤ 100000) (h2 : N ≤ 1000000) : Fit m := by
  have h3 := h.L
  have h4 := h.S
  refine ⟨by omega, by omega, by omega, fun f => by have := h.is f; omega, fun f => by have := h.sure f; omega, ?_, h.rm, h.ct⟩
  have h5 := used_le m N h.is
  have h6 : m.L.length * N ≤ 100000 * 1000000 := Nat.mul_le_mul (by omega) h2
  omega
theorem Small.fitW {m : M} {n N : Nat} (h : Small m n N) (h1 : n ≤ 100000) (h2 : N ≤ 1000000) : FitW m := by
  have h4 := h.S
  refine ⟨by omega, by omega, fun f => by have := h.sure f; omega, fun o ho => ?_⟩
  obtain ⟨a, b, c⟩ := h.wb o ho
  unfold maxLen
  exact ⟨by omega, by omega, by omega⟩

theorem getD_putF (l : List (List UInt8)) (i f : Nat) (s : List UInt8) : (putF l i s).getD f [] = s ∨ (putF l i s).getD f [] = l.getD f [] := by
  by_cases h : i = f
  · subst h
    by_cases hl : i < l.length
    · exact .inl (by simp [putF, List.getD, hl])
    · exact .inr (by rw [show putF l i s = l from List.set_eq_of_length_le (Nat.not_lt.1 hl)])
  · exact .inr (by simp [putF, List.getD, List.getElem?_set_ne h])
theorem settle1_small {m : M} {n N : Nat} (sel : Bool) (o : Op) (h : Small m n N) (hn : m.S.length + m.wait.length + 1 ≤ n) (ho : o.at_ + o.b.length ≤ N ∧ o.frm.length ≤ N ∧ o.to.length ≤ N) :
    Small (settle1 sel o m) n N ∧ (settle1 sel o m).S.length + (settle1 sel o m).wait.length ≤ m.S.length + m.wait.length + 1 := by
  unfold settle1
  split
  · refine ⟨{ h with S := ?_, wb := ?_ }, ?_⟩
    · simp; omega
    · intro p hp
      rcases List.mem_append.1 hp with hp | hp
      · exact h.wb p hp
      · simp at hp; subst hp; exact ho
    · simp; omega
  · split
    · refine ⟨{ h with sure := fun f => ?_ }, by show m.S.length + m.wait.length ≤ _; omega⟩
      rcases getD_putF m.sure o.file f (laidB (m.sure.getD o.file []) o.at_ o.b) with e | e
      · show ((putF _ _ _).getD f []).length ≤ N
        rw [e, length_laidB]
        have := h.sure o.file
        omega
      · show ((putF _ _ _).getD f []).length ≤ N
        rw [e]; exact h.sure f
    · have h1 := length_namesOp m.S o
      refine ⟨{ h with S := ?_ }, ?_⟩
      · show (namesOp m.S o).length + m.wait.length ≤ n; omega
      · show (namesOp m.S o).length + m.wait.length ≤ _; omega
theorem settleGo_small (sel : Nat → Bool) : ∀ (l : List Op) (i : Nat) (m : M) (n N : Nat), Small m n N → m.S.length + m.wait.length + l.length ≤ n → (∀ o ∈ l, o.at_ + o.b.length ≤ N ∧ o.frm.length ≤ N ∧ o.to.length ≤ N) → Small (settleGo sel i l m) n N
  | [], _, _, _, _, h, _, _ => h
  | o :: r, i, m, n, N, h, hn, hb => by
    simp only [List.length_cons] at hn
    obtain ⟨h1, h2⟩ := settle1_small (sel i) o h (by omega) (hb o (by simp))
    exact settleGo_small sel r (i + 1) _ n N h1 (by omega) fun p hp => hb p (by simp [hp])
theorem Small.settle {m : M} {n N : Nat} (h : Small m n N) (sel : Nat → Bool) : Small (Dk.settle m sel) n N := by
  have hS := h.S
  refine settleGo_small sel m.wait 0 { m with wait := [] } n N { h with S := ?_, wb := fun o ho => (by cases ho) } ?_ h.wb
  · show m.S.length + 0 ≤ n; omega
  · show m.S.length + 0 + m.wait.length ≤ n; omega
theorem Small.crash {m : M} {n N : Nat} (h : Small m n N) (keep : List Bool) : Small (Dk.crash m keep) n N := by
  have h1 := h.settle fun i => keep.getD i false
  have h2 := h1.S
  refine ⟨?_, ?_, h1.sure, h1.sure, fun o ho => (by cases ho), h1.rm, Nat.zero_le _⟩
  · show (Dk.settle m fun i => keep.getD i false).S.length ≤ n; omega
  · show (Dk.settle m fun i => keep.getD i false).S.length + 0 ≤ n; omega
theorem Small.cutD {m : M} {n N : Nat} (h : Small m n N) (steps : Int) (hs : steps ≤ 9223372036854775807) : Small (Dk.cutD m steps) n N := by
  unfold Dk.cutD
  split
  · exact h
  · exact { h with ct := by show steps.toNat ≤ _; omega }
theorem getD_snoc_nil (l : List (List UInt8)) (f : Nat) : (l ++ [[]]).getD f [] = l.getD f [] := by
  rcases Nat.lt_or_ge f l.length with h | h
  · simp [List.getD, List.getElem?_append_left h]
  · rw [List.getD_eq_getElem?_getD, List.getD_eq_getElem?_getD, List.getElem?_append_right h, List.getElem?_eq_none h]
    rcases Nat.eq_zero_or_pos (f - l.length) with e | e
    · simp [e]
    · rw [List.getElem?_eq_none (by simp; omega)]
theorem Small.waitD {m : M} {n N : Nat} (h : Small m n N) (o : Op) (ho : o.at_ + o.b.length ≤ N ∧ o.frm.length ≤ N ∧ o.to.length ≤ N) : Small (Dk.waitD m o) (n + 1) N := by
  have hS := h.S
  have hL := h.L
  have hwb : ∀ p ∈ m.wait ++ [o], p.at_ + p.b.length ≤ N ∧ p.frm.length ≤ N ∧ p.to.length ≤ N := by
    intro p hp
    rcases List.mem_append.1 hp with hp | hp
    · exact h.wb p hp
    · simp at hp; subst hp; exact ho
  unfold Dk.waitD
  split
  · refine ⟨by show m.L.length ≤ _; omega, by simp; omega, fun f => ?_, h.sure, hwb, h.rm, h.ct⟩
    rcases getD_putF m.is o.file f (laidB (m.is.getD o.file []) o.at_ o.b) with e | e
    · show ((putF _ _ _).getD f []).length ≤ N
      rw [e, length_laidB]
      have := h.is o.file
      omega
    · show ((putF _ _ _).getD f []).length ≤ N
      rw [e]; exact h.is f
  · have := length_namesOp m.L o
    exact ⟨by show (namesOp m.L o).length ≤ _; omega, by simp; omega, h.is, h.sure, hwb, h.rm, h.ct⟩
/-- a call, of a body of so many bytes -/
theorem Small.call {m : M} {n N b : Nat} (h : Small m n N) (kind : Nat) (s t : List UInt8) (at_ : Int) (body : List UInt8) (hs : s.length ≤ b) (ht : t.length ≤ b) (hb : body.length ≤ b) : Small (Dk.call m kind s t at_ body).1 (n + 1) (N + b) := by
  have hM : Small m (n + 1) (N + b) := h.mono (by omega) (by omega)
  unfold Dk.call
  split
  · exact hM
  · split
    · exact hM
    · next ho =>
      split
      · exact { hM with ct := Nat.zero_le _ }
      · have hc : Small { m with cut := m.cut - 1 } n (N + b) := { h.mono (Nat.le_refl n) (Nat.le_add_right N b) with ct := by have := h.ct; show m.cut - 1 ≤ _; omega }
        have hown : own m kind s t at_ body = 0 := by simpa using ho
        match kind, hown with
        | 1, _ => exact Small.waitD (m := { m with is := m.is ++ [[]], sure := m.sure ++ [[]], cut := m.cut - 1 }) { hc with is := fun f => by show ((m.is ++ [[]]).getD f []).length ≤ _; rw [getD_snoc_nil]; exact hc.is f, sure := fun f => by show ((m.sure ++ [[]]).getD f []).length ≤ _; rw [getD_snoc_nil]; exact hc.sure f } ⟨2, m.is.length, 0, [], [], s⟩ ⟨Nat.zero_le _, Nat.zero_le _, by show s.length ≤ _; omega⟩
        | 2, hown =>
          refine Small.waitD hc ⟨1, (find m.L s).getD 0, at_.toNat, body, [], []⟩ ⟨?_, Nat.zero_le _, Nat.zero_le _⟩
          show at_.toNat + body.length ≤ N + b
          cases hf : find m.L s with
          | none => simp [own, hf] at hown
          | some f =>
            simp only [own, hf] at hown
            split at hown
            · cases hown
            · next h1 =>
              have := h.is f
              simp only [fileLen] at h1
              omega
        | 3, _ => exact (hc.settle _).mono (by omega) (Nat.le_refl _)
        | 4, _ => exact Small.waitD hc ⟨3, 0, 0, [], s, t⟩ ⟨Nat.zero_le _, by show s.length ≤ _; omega, by show t.length ≤ _; omega⟩
        | 5, _ => exact Small.waitD hc ⟨4, 0, 0, [], s, []⟩ ⟨Nat.zero_le _, by show s.length ≤ _; omega, Nat.zero_le _⟩
        | 0, _ => exact (hc.settle _).mono (by omega) (Nat.le_refl _)
        | k + 6, _ => exact (hc.settle _).mono (by omega) (Nat.le_refl _)
end Go.Dm.Dk
namespace Go.Dm.Dk

theorem sum_sub (f : (List UInt8 × Nat) → Nat) : ∀ (l m : Names), l.Nodup → (∀ x ∈ l, x ∈ m) → (l.map f).sum ≤ (m.map f).sum
  | [], _, _, _ => by simp
  | a :: r, m, hn, hs => by
    have ha := hs a (by simp)
    have hp := List.perm_cons_erase ha
    rw [List.nodup_cons] at hn
    have h2 := sum_sub f r (m.erase a) hn.2 fun x hx => (List.mem_erase_of_ne (by rintro rfl; exact hn.1 hx)).2 (hs x (by simp [hx]))
    have h3 := (hp.map f).sum_nat
    simp only [List.map_cons, List.sum_cons] at h3 ⊢
    omega
theorem sum_le_sum (f g : (List UInt8 × Nat) → Nat) : ∀ (l : Names), (∀ x ∈ l, f x ≤ g x) → (l.map f).sum ≤ (l.map g).sum
  | [], _ => by simp
  | a :: r, h => by
    have h1 := h a (by simp)
    have h2 := sum_le_sum f g r fun x hx => h x (by simp [hx])
    simp only [List.map_cons, List.sum_cons]; omega
theorem sum_one (f g : (List UInt8 × Nat) → Nat) (d : Nat) : ∀ (l : Names), l.Nodup → (∃ a, ∀ x ∈ l, x ≠ a → g x ≤ f x) → (∀ x ∈ l, g x ≤ f x + d) → (l.map g).sum ≤ (l.map f).sum + d
  | [], _, _, _ => by simp
  | b :: r, hn, ⟨a, ha⟩, h => by
    rw [List.nodup_cons] at hn
    simp only [List.map_cons, List.sum_cons]
    by_cases e : b = a
    · have h1 := h b (by simp)
      have h2 := sum_le_sum g f r fun x hx => ha x (by simp [hx]) fun ex => hn.1 (e ▸ ex ▸ hx)
      omega
    · have h1 := ha b (by simp) e
      have h2 := sum_one f g d r hn.2 ⟨a, fun x hx => ha x (by simp [hx])⟩ fun x hx => h x (by simp [hx])
      omega
theorem find_some_mem {L : Names} {s : List UInt8} {f : Nat} (h : find L s = some f) : (s, f) ∈ L := by
  unfold find at h
  cases hq : L.find? (fun p => p.1 == s) with
  | none => rw [hq] at h; cases h
  | some q =>
    rw [hq] at h
    have h1 := List.mem_of_find?_eq_some hq
    have h2 := List.find?_some hq
    simp only [beq_iff_eq] at h2
    cases h
    rw [← h2]; exact h1
theorem find_none_mem {L : Names} {s : List UInt8} (h : find L s = none) : ∀ p ∈ L, p.1 ≠ s := by
  intro p hp e
  unfold find at h
  rw [Option.map_eq_none_iff, List.find?_eq_none] at h
  exact h p hp (by simp [e])
theorem fileLen_put (l : List (List UInt8)) (i f : Nat) (s : List UInt8) : fileLen (putF l i s) f = if i = f ∧ i < l.length then s.length else fileLen l f := by
  unfold fileLen putF
  by_cases h : i = f
  · subst h
    by_cases hl : i < l.length
    · simp [List.getD, hl]
    · rw [List.set_eq_of_length_le (Nat.not_lt.1 hl)]; simp [hl]
  · simp [List.getD, List.getElem?_set_ne h, h]

structure RoomInv (m : M) : Prop where
  off : m.off = false
  cut : m.cut = 0
  ap : m.L.Pairwise (fun p q => p.1 ≠ q.1 ∧ p.2 ≠ q.2)
  sap : m.S.Pairwise (fun p q => p.1 ≠ q.1)
  sub : ∀ p ∈ m.S, p ∈ m.L
  lt : ∀ p ∈ m.L, p.2 < m.is.length
  ln : m.sure.length = m.is.length
  le : ∀ f, fileLen m.sure f ≤ fileLen m.is f
  wt : ∀ o ∈ m.wait, (o.kind = 1 ∧ o.at_ + o.b.length ≤ fileLen m.is o.file) ∨ (o.kind = 2 ∧ (o.to, o.file) ∈ m.L)
  us : used m ≤ m.room

theorem RoomInv.new (room : Int) : RoomInv (Dk.new room) :=
  ⟨rfl, rfl, List.Pairwise.nil, List.Pairwise.nil, fun p h => (by cases h), fun p h => (by cases h), rfl, fun f => Nat.le_refl _, fun o h => (by cases h), Nat.zero_le _⟩
theorem pw_nodup {l : Names} (h : l.Pairwise (fun p q => p.1 ≠ q.1)) : l.Nodup := h.imp fun h e => h (by rw [e])
theorem RoomInv.nodup {m : M} (h : RoomInv m) : m.L.Nodup := pw_nodup (h.ap.imp fun h => h.1)
theorem pw_inj {l : Names} (h : l.Pairwise (fun p q => p.1 ≠ q.1 ∧ p.2 ≠ q.2)) : ∀ p ∈ l, ∀ q ∈ l, (p.1 = q.1 ∨ p.2 = q.2) → p = q := by
  induction l with
  | nil => intro p hp; cases hp
  | cons a r ih =>
    rw [List.pairwise_cons] at h
    intro p hp q hq e
    rcases List.mem_cons.1 hp with hp | hp <;> rcases List.mem_cons.1 hq with hq | hq
    · rw [hp, hq]
    · subst hp
      have := h.1 q ‹q ∈ r›; rcases e with e | e
      · exact absurd e this.1
      · exact absurd e this.2
    · subst hq
      have := h.1 p ‹p ∈ r›; rcases e with e | e
      · exact absurd e.symm this.1
      · exact absurd e.symm this.2
    · exact ih h.2 p hp q hq e

theorem RoomInv.create {m : M} (h : RoomInv m) (s : List UInt8) : RoomInv (call m 1 s [] 0 []).1 ∧ (call m 1 s [] 0 []).2 ≠ 23 ∧ (call m 1 s [] 0 []).1.room = m.room := by
  unfold call
  have hoff := h.off
  have hcut := h.cut
  rw [if_neg (by rw [hoff]; decide)]
  split
  · rename_i h0
    refine ⟨h, ?_, rfl⟩
    unfold own
    simp only
    split
    · decide
    · split <;> decide
  · rename_i h0
    rw [if_neg (by omega)]
    refine ⟨?_, by simp, rfl⟩
    have hn : find m.L s = none := by
      unfold own at h0
      simp only at h0
      split at h0
      · simp at h0
      · split at h0
        · simp at h0
        · rename_i h2
          cases hf : find m.L s with
          | none => rfl
          | some f => rw [hf] at h2; simp at h2
    have hne := find_none_mem hn
    have hw : without m.L s = m.L := List.filter_eq_self.2 fun p hp => by simpa using hne p hp
    have hg : ∀ f, fileLen (m.is ++ [[]]) f = fileLen m.is f := by
      intro f
      unfold fileLen
      rcases Nat.lt_or_ge f m.is.length with hl | hl
      · simp [List.getD, List.getElem?_append_left hl]
      · rcases Nat.eq_or_lt_of_le hl with e | hl
        · simp [List.getD, ← e]
        · simp [List.getD, List.getElem?_append_right (by omega : m.is.length ≤ f), List.getElem?_eq_none (by omega : m.is.length ≤ f), List.getElem?_eq_none (by simp; omega : ([[]] : List (List UInt8)).length ≤ f - m.is.length)]
    have hgs : ∀ f, fileLen (m.sure ++ [[]]) f = fileLen m.sure f := by
      intro f
      unfold fileLen
      rcases Nat.lt_or_ge f m.sure.length with hl | hl
      · simp [List.getD, List.getElem?_append_left hl]
      · rcases Nat.eq_or_lt_of_le hl with e | hl
        · simp [List.getD, ← e]
        · simp [List.getD, List.getElem?_append_right (by omega : m.sure.length ≤ f), List.getElem?_eq_none (by omega : m.sure.length ≤ f), List.getElem?_eq_none (by simp; omega : ([[]] : List (List UInt8)).length ≤ f - m.sure.length)]
    have e : done { m with cut := m.cut - 1 } 1 s [] 0 [] = { m with cut := m.cut - 1, is := m.is ++ [[]], sure := m.sure ++ [[]], L := m.L ++ [(s, m.is.length)], wait := m.wait ++ [⟨2, m.is.length, 0, [], [], s⟩] } := by
      simp [done, waitD, namesOp, withN, hw]
    have e : done { m with cut := m.cut - 1 } 1 s [] 0 [] = { m with cut := m.cut - 1, is := m.is ++ [[]], sure := m.sure ++ [[]], L := m.L ++ [(s, m.is.length)], wait := m.wait ++ [⟨2, m.is.length, 0, [], [], s⟩] } := e
    show RoomInv (done { m with cut := m.cut - 1 } 1 s [] 0 [])
    rw [e]
    refine ⟨h.off, by show m.cut - 1 = 0; omega, ?_, h.sap, fun p hp => List.mem_append_left _ (h.sub p hp), ?_, by simp [h.ln], fun f => by simp only [hg, hgs]; exact h.le f, ?_, ?_⟩
    · rw [List.pairwise_append]
      refine ⟨h.ap, List.pairwise_singleton _ _, fun p hp q hq => ?_⟩
      simp only [List.mem_singleton] at hq
      subst hq
      exact ⟨hne p hp, by have := h.lt p hp; show p.2 ≠ m.is.length; omega⟩
    · intro p hp
      show p.2 < (m.is ++ [[]]).length
      rw [List.length_append]
      rcases List.mem_append.1 hp with hp | hp
      · have := h.lt p hp; omega
      · simp only [List.mem_singleton] at hp; subst hp; simp
    · intro o ho
      rcases List.mem_append.1 ho with ho | ho
      · rcases h.wt o ho with ⟨a, b⟩ | ⟨a, b⟩
        · exact .inl ⟨a, by simp only [hg]; exact b⟩
        · exact .inr ⟨a, List.mem_append_left _ b⟩
      · simp only [List.mem_singleton] at ho; subst ho
        exact .inr ⟨rfl, by simp⟩
    · have h1 := h.us
      unfold used at h1 ⊢
      simp only [hg, List.map_append, List.sum_append, List.map_cons, List.map_nil, List.sum_cons, List.sum_nil]
      have h2 : fileLen m.is m.is.length = 0 := by simp [fileLen, List.getD]
      omega

theorem RoomInv.write {m : M} (h : RoomInv m) (s : List UInt8) (at_ : Int) (b : List UInt8) : RoomInv (call m 2 s [] at_ b).1 ∧ (call m 2 s [] at_ b).1.room = m.room ∧
    ((call m 2 s [] at_ b).2 = 0 → 0 ≤ at_ ∧ ∃ old, at_.toNat ≤ old.length ∧ readB (call m 2 s [] at_ b).1 s = laidB old at_.toNat b ∧ readE (call m 2 s [] at_ b).1 s = 0) := by
  unfold call
  have hoff := h.off
  have hcut := h.cut
  rw [if_neg (by rw [hoff]; decide)]
  split
  · rename_i h0
    exact ⟨h, rfl, fun e => absurd e h0⟩
  · rename_i h0
    rw [if_neg (by omega)]
    cases hf : find m.L s with
    | none => unfold own at h0; simp [hf] at h0
    | some f =>
      have hmem := find_some_mem hf
      have hlt := h.lt _ hmem
      have hlt : f < m.is.length := hlt
      unfold own at h0
      simp only [hf] at h0
      split at h0
      · simp at h0
      rename_i h1
      split at h0
      · simp at h0
      rename_i h2
      have ha : 0 ≤ at_ ∧ at_ ≤ fileLen m.is f := by omega
      obtain ⟨i, rfl⟩ : ∃ i : Nat, at_ = i := ⟨at_.toNat, by omega⟩
      simp only [Int.toNat_natCast] at *
      have e : done { m with cut := m.cut - 1 } 2 s [] i b = { m with cut := m.cut - 1, is := putF m.is f (laidB (m.is.getD f []) i b), wait := m.wait ++ [⟨1, f, i, b, [], []⟩] } := by
        simp [done, waitD, hf]
      have hfl : ∀ g, fileLen (putF m.is f (laidB (m.is.getD f []) i b)) g = if f = g then max (fileLen m.is f) (i + b.length) else fileLen m.is g := by
        intro g
        rw [fileLen_put, length_laidB]
        simp [hlt, fileLen]
      have hge : ∀ g, fileLen m.is g ≤ fileLen (putF m.is f (laidB (m.is.getD f []) i b)) g := by
        intro g; rw [hfl]; split
        · rename_i e; subst e; omega
        · exact Nat.le_refl _
      show RoomInv (done { m with cut := m.cut - 1 } 2 s [] i b) ∧ (done { m with cut := m.cut - 1 } 2 s [] i b).room = m.room ∧ (_ → _ ∧ ∃ old : List UInt8, _ ∧ readB (done { m with cut := m.cut - 1 } 2 s [] i b) s = _ ∧ readE (done { m with cut := m.cut - 1 } 2 s [] i b) s = 0)
      rw [e]
      refine ⟨⟨h.off, by show m.cut - 1 = 0; omega, h.ap, h.sap, h.sub, fun p hp => ?_, ?_, fun g => Nat.le_trans (h.le g) (hge g), ?_, ?_⟩, rfl, fun _ => ⟨by omega, m.is.getD f [], by unfold fileLen at ha; omega, ?_, ?_⟩⟩
      · simp only [putF, List.length_set]; exact h.lt p hp
      · simp only [putF, List.length_set]; exact h.ln
      · intro o ho
        rcases List.mem_append.1 ho with ho | ho
        · rcases h.wt o ho with ⟨a, b⟩ | ⟨a, b⟩
          · exact .inl ⟨a, Nat.le_trans b (hge _)⟩
          · exact .inr ⟨a, b⟩
        · simp only [List.mem_singleton] at ho; subst ho
          refine .inl ⟨rfl, ?_⟩
          simp only [hfl, if_true]; omega
      · have h1 := h.us
        have hd : max (fileLen m.is f) (i + b.length) ≤ fileLen m.is f + (m.room - used m) := by omega
        have h3 := sum_one (fun p => fileLen m.is p.2) (fun p => fileLen (putF m.is f (laidB (m.is.getD f []) i b)) p.2) (m.room - used m) m.L h.nodup ⟨(s, f), fun x hx hne => by
            simp only [hfl]
            rw [if_neg fun e => hne (pw_inj h.ap x hx _ hmem (.inr e.symm))]; exact Nat.le_refl _⟩ fun x hx => by
            simp only [hfl]; split
            · rename_i e; rw [← e]; exact hd
            · omega
        have h4 : used m = (m.L.map fun p => fileLen m.is p.2).sum := rfl
        show (m.L.map fun p => fileLen (putF m.is f (laidB (m.is.getD f []) i b)) p.2).sum ≤ m.room
        omega
      · simp only [readB, h.off, hf]
        simp [putF, List.getD, hlt]
      · simp [readE, h.off, hf]

structure RoomS (m0 m : M) : Prop where
  is : m.is = m0.is
  L : m.L = m0.L
  sap : m.S.Pairwise (fun p q => p.1 ≠ q.1)
  sub : ∀ p ∈ m.S, p ∈ m.L
  ln : m.sure.length = m.is.length
  le : ∀ f, fileLen m.sure f ≤ fileLen m.is f
  rm : m.room = m0.room
theorem RoomS.go {m0 : M} (sel : Nat → Bool) : ∀ (l : List Op) (i : Nat) (m : M), (∀ o ∈ l, (o.kind = 1 ∧ o.at_ + o.b.length ≤ fileLen m0.is o.file) ∨ (o.kind = 2 ∧ (o.to, o.file) ∈ m0.L)) → RoomS m0 m → RoomS m0 (settleGo sel i l m)
  | [], _, _, _, h => h
  | o :: r, i, m, hw, h => by
    refine RoomS.go sel r (i + 1) _ (fun o ho => hw o (by simp [ho])) ?_
    unfold settle1
    split
    · exact ⟨h.is, h.L, h.sap, h.sub, h.ln, h.le, h.rm⟩
    · split
      · rename_i hk
        rcases hw o (by simp) with ⟨_, ho⟩ | ⟨e, _⟩
        · refine ⟨h.is, h.L, h.sap, h.sub, by simp only [putF, List.length_set]; exact h.ln, fun f => ?_, h.rm⟩
          simp only
          rw [fileLen_put]
          split
          · rename_i e
            rw [length_laidB]
            have h1 := h.le o.file
            have h2 := h.is
            unfold fileLen at h1 ho ⊢
            rw [← e.1]
            rw [h2] at h1 ⊢
            exact Nat.max_le.2 ⟨h1, ho⟩
          · exact h.le f
        · rw [hk] at e; cases e
      · rename_i hk
        rcases hw o (by simp) with ⟨e, _⟩ | ⟨e, hm⟩
        · exact absurd e hk
        · refine ⟨h.is, h.L, ?_, ?_, h.ln, h.le, h.rm⟩
          · simp only [namesOp, e, if_true, withN]
            rw [List.pairwise_append]
            refine ⟨h.sap.filter _, List.pairwise_singleton _ _, fun p hp q hq => ?_⟩
            simp only [List.mem_singleton] at hq
            subst hq
            have := (List.mem_filter.1 hp).2
            simpa using this
          · simp only [namesOp, e, if_true, withN]
            intro p hp
            rcases List.mem_append.1 hp with hp | hp
            · exact h.sub p (List.mem_filter.1 hp).1
            · simp only [List.mem_singleton] at hp; subst hp; rw [h.L]; exact hm
theorem RoomInv.crash {m : M} (h : RoomInv m) (keep : List Bool) : RoomInv (Dk.crash m keep) ∧ (Dk.crash m keep).room = m.room := by
  have h1 : RoomS m (settle m fun i => keep.getD i false) := RoomS.go _ m.wait 0 { m with wait := [] } h.wt ⟨rfl, rfl, h.sap, h.sub, h.ln, h.le, rfl⟩
  unfold Dk.crash
  generalize settle m (fun i => keep.getD i false) = s at h1
  have hsL : ∀ p ∈ s.S, p ∈ m.L := fun p hp => by have := h1.sub p hp; rwa [h1.L] at this
  refine ⟨⟨rfl, rfl, ?_, h1.sap, fun p hp => hp, fun p hp => ?_, rfl, fun f => Nat.le_refl _, fun o ho => (by cases ho), ?_⟩, h1.rm⟩
  · have : ∀ l : Names, l.Pairwise (fun p q => p.1 ≠ q.1) → (∀ p ∈ l, p ∈ m.L) → l.Pairwise (fun p q => p.1 ≠ q.1 ∧ p.2 ≠ q.2) := by
      intro l; induction l with
      | nil => intro _ _; exact List.Pairwise.nil
      | cons a r ih =>
        intro hp hs
        rw [List.pairwise_cons] at hp ⊢
        refine ⟨fun q hq => ⟨hp.1 q hq, fun e => hp.1 q hq ?_⟩, ih hp.2 fun p hp => hs p (by simp [hp])⟩
        have := pw_inj h.ap a (hs a (by simp)) q (hs q (by simp [hq])) (.inr e)
        rw [this]
    exact this s.S h1.sap hsL
  · show p.2 < s.sure.length
    rw [h1.ln, h1.is]; exact h.lt p (hsL p hp)
  · have h2 := sum_le_sum (fun p => fileLen s.sure p.2) (fun p => fileLen m.is p.2) s.S fun x _ => by have := h1.le x.2; rw [h1.is] at this; exact this
    have h3 := sum_sub (fun p => fileLen m.is p.2) s.S m.L (pw_nodup h1.sap) hsL
    have h4 := h.us
    show (s.S.map fun p => fileLen s.sure p.2).sum ≤ s.room
    rw [h1.rm]
    have h5 : used m = (m.L.map fun p => fileLen m.is p.2).sum := rfl
    omega
theorem laid_read (old b : List UInt8) (i : Nat) (h : i ≤ old.length) : i + b.length ≤ (laidB old i b).length ∧ ((laidB old i b).drop i).take b.length = b := by
  rw [length_laidB]
  refine ⟨by omega, ?_⟩
  unfold laidB
  have hl : (splice (List.replicate (max old.length (i + b.length)) (0 : UInt8)) 0 old).length = max old.length (i + b.length) := by rw [length_splice _ _ _ (by simp; omega)]; simp
  generalize splice (List.replicate (max old.length (i + b.length)) (0 : UInt8)) 0 old = L at hl
  unfold splice
  rw [List.drop_left' (by rw [List.length_take]; omega), List.take_left' rfl]
end Go.Dm.Dk
