/-  The small functions of the disk and its step. The step of a disk's operations. An operation of the disk, out of what its two closures do. The disk behind a store into a file's cell, and behind the append of a pending write. No condition. -/
import Derived.Test.YtkmoomgmmhmaeaaGreatProg
import Derived.Test.YtkmoomgmmhmaeaaGreatRd
import Derived.Test.YtkmoomgmmhmaeaaGreatDiskR
namespace Go.Proofs.YtkmoomgmmhmaeaaGreat
open Go.RowKit Go.Dm

theorem info_u8 : (Tryz.prog.info? 5).map (fun i => (i.zero, i.size, i.bytes)) = some (some (.int .u8 0), 1, 1) := by kernel_rfl
theorem size_u8 : (Tryz.prog.info? 5).map (·.size) = some 1 := by kernel_rfl

set_option maxRecDepth 100000 in
set_option maxHeartbeats 400000 in
theorem laid_any {A : Nat → Prop} (v1 v2 : Value) (xs ys : List UInt8) (i : Nat) (w : World) (h1 : Bts A w v1 xs) (h2 : Bts A w v2 ys) (b1 : xs.length ≤ 1099511627776) (b2 : ys.length ≤ 1099511627776) (b3 : i ≤ 1099511627776) :
    Calls Tryz.prog 69 #[v1, .int .i64 i, v2] w fun e w' => e = .returned (.slice (some ⟨w.heap.size, 0, none⟩) (laidB xs i ys).length (laidB xs i ys).length) ∧ Blk w' w.heap.size ((laidB xs i ys).map bv).toArray 5 ∧ Keep No w w' := by
  obtain ⟨a1, c1, rfl, k1, k1'⟩ := h1.shape
  obtain ⟨a2, c2, rfl, k2, k2'⟩ := h2.shape
  have HL := Lib.hid (length_laidB xs i ys)
  go_enter Tryz.func69, Tryz.ntmps69
  go_wp2_with (first | (at_builtin; refine wl_append rfl _ _ _ _ rfl _ _ rfl rfl ?_) | (at_make; refine wl_make rfl _ _ _ rfl _ _ rfl rfl ?_) | (at_mapUpdate; refine wl_mapUpdate rfl _ _ _ _ rfl _ _ _ rfl rfl rfl ?_) | (at_lookup; refine wl_lookup rfl _ _ _ _ rfl _ _ rfl rfl ?_) | (at_delete; refine wl_delete rfl _ _ _ _ rfl _ _ rfl rfl ?_) | (with_reducible refine wl_len rfl _ _ rfl _ rfl ?_) | (with_reducible refine wl_range rfl _ _ rfl _ rfl ?_) | (with_reducible refine wl_next rfl _ rfl _ rfl ?_) | (with_reducible refine wl_copy rfl _ _ _ _ rfl _ _ rfl rfl ?_) | (with_reducible refine wl_max rfl _ _ _ _ rfl _ _ rfl rfl ?_) | (with_reducible refine wl_min rfl _ _ _ _ rfl _ _ rfl rfl ?_))
  refine rg_max2 ?_
  have e : max (xs.length : Int) ((i : Int) + ys.length) = ((max xs.length (i + ys.length) : Nat) : Int) := by omega
  rw [e]; clear e
  generalize hN : max xs.length (i + ys.length) = N at *
  have hN1 : xs.length ≤ N := by omega
  have hN2 : i + ys.length ≤ N := by omega
  have hN3 : N ≤ 2199023255552 := by omega
  have HNe := Lib.hid hN
  clear hN
  go_wp2_with (first | (at_builtin; refine wl_append rfl _ _ _ _ rfl _ _ rfl rfl ?_) | (at_make; refine wl_make rfl _ _ _ rfl _ _ rfl rfl ?_) | (at_mapUpdate; refine wl_mapUpdate rfl _ _ _ _ rfl _ _ _ rfl rfl rfl ?_) | (at_lookup; refine wl_lookup rfl _ _ _ _ rfl _ _ rfl rfl ?_) | (at_delete; refine wl_delete rfl _ _ _ _ rfl _ _ rfl rfl ?_) | (with_reducible refine wl_len rfl _ _ rfl _ rfl ?_) | (with_reducible refine wl_range rfl _ _ rfl _ rfl ?_) | (with_reducible refine wl_next rfl _ rfl _ rfl ?_) | (with_reducible refine wl_copy rfl _ _ _ _ rfl _ _ rfl rfl ?_) | (with_reducible refine wl_max rfl _ _ _ _ rfl _ _ rfl rfl ?_) | (with_reducible refine wl_min rfl _ _ _ _ rfl _ _ rfl rfl ?_))
  refine rg_make 5 (.int .u8 0) 1 1 Tryz.underlying46 info_u8 (by omega) (by unfold maxLen; omega) ?_
  intro w1 hb1 hk1
  rw [madeCells_u8] at hb1
  go_wp2_with (first | (at_builtin; refine wl_append rfl _ _ _ _ rfl _ _ rfl rfl ?_) | (at_make; refine wl_make rfl _ _ _ rfl _ _ rfl rfl ?_) | (at_mapUpdate; refine wl_mapUpdate rfl _ _ _ _ rfl _ _ _ rfl rfl rfl ?_) | (at_lookup; refine wl_lookup rfl _ _ _ _ rfl _ _ rfl rfl ?_) | (at_delete; refine wl_delete rfl _ _ _ _ rfl _ _ rfl rfl ?_) | (with_reducible refine wl_len rfl _ _ rfl _ rfl ?_) | (with_reducible refine wl_range rfl _ _ rfl _ rfl ?_) | (with_reducible refine wl_next rfl _ rfl _ rfl ?_) | (with_reducible refine wl_copy rfl _ _ _ _ rfl _ _ rfl rfl ?_) | (with_reducible refine wl_max rfl _ _ _ _ rfl _ _ rfl rfl ?_) | (with_reducible refine wl_min rfl _ _ _ _ rfl _ _ rfl rfl ?_))
  refine rg_copy (off := 0) 5 5 Tryz.underlying46 size_u8 hb1 (h1.keep hk1 fun _ _ _ h => h) (fun _ => rfl) (by simp; omega) (bv_one _) ?_
  intro w2 hb2 hk2
  rw [List.take_of_length_le (by simpa using hN1), List.toList_toArray, splice_map] at hb2
  have h2' : Bts (fun k => A k ∧ k ≠ w.heap.size) w1 (.slice a2 ys.length c2) ys := (h2.mono (B := fun k => A k ∧ k ≠ w.heap.size) (fun k hk ha => ⟨ha, by omega⟩)).keep hk1 fun _ _ _ h => h
  have h3 : Bts (fun k => A k ∧ k ≠ w.heap.size) w2 (.slice a2 ys.length c2) ys := h2'.keep hk2 fun j _ ha e => ha.2 e
  have hl2 : (splice (List.replicate N (0 : UInt8)) 0 xs).length = N := by rw [length_splice _ _ _ (by simp; omega)]; simp
  have HL2 := Lib.hid hl2
  clear hl2
  go_wp2_with (first | (at_builtin; refine wl_append rfl _ _ _ _ rfl _ _ rfl rfl ?_) | (at_make; refine wl_make rfl _ _ _ rfl _ _ rfl rfl ?_) | (at_mapUpdate; refine wl_mapUpdate rfl _ _ _ _ rfl _ _ _ rfl rfl rfl ?_) | (at_lookup; refine wl_lookup rfl _ _ _ _ rfl _ _ rfl rfl ?_) | (at_delete; refine wl_delete rfl _ _ _ _ rfl _ _ rfl rfl ?_) | (with_reducible refine wl_len rfl _ _ rfl _ rfl ?_) | (with_reducible refine wl_range rfl _ _ rfl _ rfl ?_) | (with_reducible refine wl_next rfl _ rfl _ rfl ?_) | (with_reducible refine wl_copy rfl _ _ _ _ rfl _ _ rfl rfl ?_) | (with_reducible refine wl_max rfl _ _ _ _ rfl _ _ rfl rfl ?_) | (with_reducible refine wl_min rfl _ _ _ _ rfl _ _ rfl rfl ?_))
  all_goals
    refine rg_copy (off := i) 5 5 Tryz.underlying46 size_u8 hb2 h3 (by intro hp; first | rfl | (exfalso; simp at hp)) (by simp [HL2.out]; omega) (bv_one _) ?_
    intro w3 hb3 hk3
    rw [List.take_of_length_le (by rw [List.length_map]; omega), List.toList_toArray, splice_map] at hb3
    go_wp2_with (first | (at_builtin; refine wl_append rfl _ _ _ _ rfl _ _ rfl rfl ?_) | (at_make; refine wl_make rfl _ _ _ rfl _ _ rfl rfl ?_) | (at_mapUpdate; refine wl_mapUpdate rfl _ _ _ _ rfl _ _ _ rfl rfl rfl ?_) | (at_lookup; refine wl_lookup rfl _ _ _ _ rfl _ _ rfl rfl ?_) | (at_delete; refine wl_delete rfl _ _ _ _ rfl _ _ rfl rfl ?_) | (with_reducible refine wl_len rfl _ _ rfl _ rfl ?_) | (with_reducible refine wl_range rfl _ _ rfl _ rfl ?_) | (with_reducible refine wl_next rfl _ rfl _ rfl ?_) | (with_reducible refine wl_copy rfl _ _ _ _ rfl _ _ rfl rfl ?_) | (with_reducible refine wl_max rfl _ _ _ _ rfl _ _ rfl rfl ?_) | (with_reducible refine wl_min rfl _ _ _ _ rfl _ _ rfl rfl ?_))
    go_ret
    have hb4 : Blk w3 w.heap.size ((laidB xs i ys).map bv).toArray 5 := by
      unfold laidB; rw [HNe.out]; exact hb3
    have hk := ((hk1.trans hk2 (fun j hj e => absurd e (by omega)))).trans hk3 (fun j hj e => absurd e (by omega))
    have hN4 := HL.out
    first | (rw [hN4]; exact ⟨rfl, hb4, hk⟩) | (subst h; rw [hN4]; exact ⟨rfl, hb4, hk⟩)

set_option maxRecDepth 100000 in
set_option maxHeartbeats 400000 in
theorem clone_any {A : Nat → Prop} (v : Value) (xs : List UInt8) (w : World) (h : Bts A w v xs) (b1 : xs.length ≤ 1099511627776) :
    Calls Tryz.prog 34 #[v] w fun e w' => ∃ v', e = .returned v' ∧ w'.ownsRow w.heap.size 5 1 v' xs.length (xs.map bv) ∧ Keep No w w' := by
  obtain ⟨a, c, rfl, hc, hc2⟩ := h.shape
  have qT := fun (w : World) (a : Option Addr) (n c n' c' : Nat) => Lib.run_eql_slice_nil (P := Tryz.prog) w _ _ a n c n' c' Tryz.underlying46
  cases a with
  | none =>
    have e0 : xs.length = 0 := by
      obtain ⟨_, a', cap, e, c1, _, c2, _⟩ := h
      cases e
      have := c2 rfl
      omega
    obtain rfl : xs = [] := List.eq_nil_of_length_eq_zero e0
    go_enter Tryz.func34, Tryz.ntmps34
    go_wp2_with (first | (at_builtin; refine wl_append rfl _ _ _ _ rfl _ _ rfl rfl ?_) | (at_make; refine wl_make rfl _ _ _ rfl _ _ rfl rfl ?_) | (at_mapUpdate; refine wl_mapUpdate rfl _ _ _ _ rfl _ _ _ rfl rfl rfl ?_) | (at_lookup; refine wl_lookup rfl _ _ _ _ rfl _ _ rfl rfl ?_) | (at_delete; refine wl_delete rfl _ _ _ _ rfl _ _ rfl rfl ?_) | (with_reducible refine wl_len rfl _ _ rfl _ rfl ?_) | (with_reducible refine wl_range rfl _ _ rfl _ rfl ?_) | (with_reducible refine wl_next rfl _ rfl _ rfl ?_) | (with_reducible refine wl_copy rfl _ _ _ _ rfl _ _ rfl rfl ?_) | (with_reducible refine wl_max rfl _ _ _ _ rfl _ _ rfl rfl ?_) | (with_reducible refine wl_min rfl _ _ _ _ rfl _ _ rfl rfl ?_))
    go_ret
    exact ⟨_, rfl, World.ownsRow_nil _ _ _ _, Keep.refl _ _⟩
  | some a =>
    go_enter Tryz.func34, Tryz.ntmps34
    go_wp2_with (first | (at_builtin; refine wl_append rfl _ _ _ _ rfl _ _ rfl rfl ?_) | (at_make; refine wl_make rfl _ _ _ rfl _ _ rfl rfl ?_) | (at_mapUpdate; refine wl_mapUpdate rfl _ _ _ _ rfl _ _ _ rfl rfl rfl ?_) | (at_lookup; refine wl_lookup rfl _ _ _ _ rfl _ _ rfl rfl ?_) | (at_delete; refine wl_delete rfl _ _ _ _ rfl _ _ rfl rfl ?_) | (with_reducible refine wl_len rfl _ _ rfl _ rfl ?_) | (with_reducible refine wl_range rfl _ _ rfl _ rfl ?_) | (with_reducible refine wl_next rfl _ rfl _ rfl ?_) | (with_reducible refine wl_copy rfl _ _ _ _ rfl _ _ rfl rfl ?_) | (with_reducible refine wl_max rfl _ _ _ _ rfl _ _ rfl rfl ?_) | (with_reducible refine wl_min rfl _ _ _ _ rfl _ _ rfl rfl ?_))
    have hown : (w.alloc (.cells #[] 5)).ownsRow w.heap.size 5 1 (.slice (some ⟨w.heap.size, 0, none⟩) 0 0) 0 [] := World.ownsRow_made w #[] 0 (Nat.le_refl _) (Nat.zero_le _) rfl
    refine rg_append w.heap.size 5 _ 1 1 Tryz.underlying46 info_u8 rfl (by decide) hown (h.keep ((Keep.refl No w).alloc _) fun _ _ _ h => h) (bv_one _) (by unfold maxLen; omega) (by omega) (by simp) ?_
    intro v' w2 ho hk _ _
    simp only [Nat.zero_add, List.nil_append] at ho
    go_wp2_with (first | (at_builtin; refine wl_append rfl _ _ _ _ rfl _ _ rfl rfl ?_) | (at_make; refine wl_make rfl _ _ _ rfl _ _ rfl rfl ?_) | (at_mapUpdate; refine wl_mapUpdate rfl _ _ _ _ rfl _ _ _ rfl rfl rfl ?_) | (at_lookup; refine wl_lookup rfl _ _ _ _ rfl _ _ rfl rfl ?_) | (at_delete; refine wl_delete rfl _ _ _ _ rfl _ _ rfl rfl ?_) | (with_reducible refine wl_len rfl _ _ rfl _ rfl ?_) | (with_reducible refine wl_range rfl _ _ rfl _ rfl ?_) | (with_reducible refine wl_next rfl _ rfl _ rfl ?_) | (with_reducible refine wl_copy rfl _ _ _ _ rfl _ _ rfl rfl ?_) | (with_reducible refine wl_max rfl _ _ _ _ rfl _ _ rfl rfl ?_) | (with_reducible refine wl_min rfl _ _ _ _ rfl _ _ rfl rfl ?_))
    go_ret
    exact ⟨_, rfl, ho, ((Keep.refl No w).alloc _).trans hk fun j hj e => by
      simp only [Value.ownBlock, Option.some.injEq] at e; omega⟩
end Go.Proofs.YtkmoomgmmhmaeaaGreat
namespace Go.Proofs.YtkmoomgmmhmaeaaGreat
open Go.RowKit Go.Dm Go.Dm.Dk Go.Maps Go.WideMaps Go.WideElems

theorem zFile (w : World) : (zeroValue 68).run Tryz.prog w = .ok (.pointer none) w := by kernel_rfl
theorem kStr : Keyed Tryz.prog 9 := string_keyed Tryz.underlying9
theorem kOf {s : List UInt8} (h : s.length ≤ maxLen) : keyOf Tryz.prog 9 (.string ⟨s.toArray⟩) = some (.string s) := by
  have := keyOf_string_mk (s := ⟨s.toArray⟩) Tryz.underlying9 (by show s.toArray.size ≤ maxLen; simpa using h)
  simpa using this

def ofV (fb : List Nat) (L : Names) (s : List UInt8) : Value := ((find L s).map (fptr fb)).getD (.pointer none)

set_option maxHeartbeats 400000 in
theorem of_any {nb : Nat} {fb : List Nat} {L : Names} (d : Nat) (s : List UInt8) (w : World) (hs : s.length ≤ maxLen) (hn : MapL Tryz.prog 9 w nb (NL fb L)) (hd : w.cell? ⟨d, 1, none⟩ = some (.map (some nb))) :
    Calls Tryz.prog 38 #[.pointer (some ⟨d, 0, none⟩), .string ⟨s.toArray⟩] w fun e w' => e = .returned (ofV fb L s) ∧ w = w' := by
  go_enter Tryz.func38, Tryz.ntmps38
  go_wp2_with (first | (at_builtin; refine wl_append rfl _ _ _ _ rfl _ _ rfl rfl ?_) | (at_make; refine wl_make rfl _ _ _ rfl _ _ rfl rfl ?_) | (at_mapUpdate; refine wl_mapUpdate rfl _ _ _ _ rfl _ _ _ rfl rfl rfl ?_) | (at_lookup; refine wl_lookup rfl _ _ _ _ rfl _ _ rfl rfl ?_) | (at_delete; refine wl_delete rfl _ _ _ _ rfl _ _ rfl rfl ?_) | (with_reducible refine wl_len rfl _ _ rfl _ rfl ?_) | (with_reducible refine wl_range rfl _ _ rfl _ rfl ?_) | (with_reducible refine wl_next rfl _ rfl _ rfl ?_) | (with_reducible refine wl_copy rfl _ _ _ _ rfl _ _ rfl rfl ?_) | (with_reducible refine wl_max rfl _ _ _ _ rfl _ _ rfl rfl ?_) | (with_reducible refine wl_min rfl _ _ _ _ rfl _ _ rfl rfl ?_))
  refine rg_lookup hn kStr Tryz.underlying57 (zFile w) (kOf hs) ?_
  rw [findL_NL]
  go_wp2_with (first | (at_builtin; refine wl_append rfl _ _ _ _ rfl _ _ rfl rfl ?_) | (at_make; refine wl_make rfl _ _ _ rfl _ _ rfl rfl ?_) | (at_mapUpdate; refine wl_mapUpdate rfl _ _ _ _ rfl _ _ _ rfl rfl rfl ?_) | (at_lookup; refine wl_lookup rfl _ _ _ _ rfl _ _ rfl rfl ?_) | (at_delete; refine wl_delete rfl _ _ _ _ rfl _ _ rfl rfl ?_) | (with_reducible refine wl_len rfl _ _ rfl _ rfl ?_) | (with_reducible refine wl_range rfl _ _ rfl _ rfl ?_) | (with_reducible refine wl_next rfl _ rfl _ rfl ?_) | (with_reducible refine wl_copy rfl _ _ _ _ rfl _ _ rfl rfl ?_) | (with_reducible refine wl_max rfl _ _ _ _ rfl _ _ rfl rfl ?_) | (with_reducible refine wl_min rfl _ _ _ _ rfl _ _ rfl rfl ?_))
  go_ret
  exact ⟨rfl, rfl⟩

set_option maxHeartbeats 400000 in
theorem of_nil (s : Value) (w : World) : Calls Tryz.prog 38 #[.pointer none, s] w fun e w' => e = .returned (.pointer none) ∧ w = w' := by
  go_enter Tryz.func38, Tryz.ntmps38
  go_wp2_with (first | (at_builtin; refine wl_append rfl _ _ _ _ rfl _ _ rfl rfl ?_) | (at_make; refine wl_make rfl _ _ _ rfl _ _ rfl rfl ?_) | (at_mapUpdate; refine wl_mapUpdate rfl _ _ _ _ rfl _ _ _ rfl rfl rfl ?_) | (at_lookup; refine wl_lookup rfl _ _ _ _ rfl _ _ rfl rfl ?_) | (at_delete; refine wl_delete rfl _ _ _ _ rfl _ _ rfl rfl ?_) | (with_reducible refine wl_len rfl _ _ rfl _ rfl ?_) | (with_reducible refine wl_range rfl _ _ rfl _ rfl ?_) | (with_reducible refine wl_next rfl _ rfl _ rfl ?_) | (with_reducible refine wl_copy rfl _ _ _ _ rfl _ _ rfl rfl ?_) | (with_reducible refine wl_max rfl _ _ _ _ rfl _ _ rfl rfl ?_) | (with_reducible refine wl_min rfl _ _ _ _ rfl _ _ rfl rfl ?_))
  go_ret
  exact ⟨rfl, rfl⟩


/-- the call of a function value enters it -/
def Enters (f : Nat) (c : Array Value) : Prop := ∀ w : World, (callFunc f c).run Tryz.prog w = .ok (.enter f c) w

end Go.Proofs.YtkmoomgmmhmaeaaGreat
namespace Go.Proofs.YtkmoomgmmhmaeaaGreat
open Go.RowKit Go.Dm Go.Dm.Dk Go.Maps

set_option maxRecDepth 100000 in
set_option maxHeartbeats 1000000 in
theorem step_off {d : Nat} (own do_ : Value) (w : World) (h4 : w.cell? ⟨d, 4, none⟩ = some (.bool true)) :
    Calls Tryz.prog 36 #[.pointer (some ⟨d, 0, none⟩), own, do_] w fun e w' => e = .returned (.int .i64 23) ∧ w = w' := by
  go_enter Tryz.func36, Tryz.ntmps36
  go_wp2_with (first | (at_builtin; refine wl_append rfl _ _ _ _ rfl _ _ rfl rfl ?_) | (at_make; refine wl_make rfl _ _ _ rfl _ _ rfl rfl ?_) | (at_mapUpdate; refine wl_mapUpdate rfl _ _ _ _ rfl _ _ _ rfl rfl rfl ?_) | (at_lookup; refine wl_lookup rfl _ _ _ _ rfl _ _ rfl rfl ?_) | (at_delete; refine wl_delete rfl _ _ _ _ rfl _ _ rfl rfl ?_) | (with_reducible refine wl_len rfl _ _ rfl _ rfl ?_) | (with_reducible refine wl_range rfl _ _ rfl _ rfl ?_) | (with_reducible refine wl_next rfl _ rfl _ rfl ?_) | (with_reducible refine wl_copy rfl _ _ _ _ rfl _ _ rfl rfl ?_) | (with_reducible refine wl_max rfl _ _ _ _ rfl _ _ rfl rfl ?_) | (with_reducible refine wl_min rfl _ _ _ _ rfl _ _ rfl rfl ?_))
  go_ret
  exact ⟨rfl, rfl⟩

set_option maxRecDepth 100000 in
set_option maxHeartbeats 1000000 in
theorem step_own {d f1 : Nat} {c1 : Array Value} (do_ : Value) (w : World) (e0 : Int) (h4 : w.cell? ⟨d, 4, none⟩ = some (.bool false)) (hf1 : Enters f1 c1)
    (hown : Calls Tryz.prog f1 c1 w fun e w' => e = .returned (.int .i64 e0) ∧ Keep No w w') (he : e0 ≠ 0) :
    Calls Tryz.prog 36 #[.pointer (some ⟨d, 0, none⟩), .func (.func f1) #[] c1, do_] w fun e w' => e = .returned (.int .i64 e0) ∧ Keep No w w' := by
  have hb : (e0 == 0) = false := by simpa using he
  have hb' : (e0 != 0) = true := by simpa using he
  have H := Lib.hid hown
  clear hown
  unfold Enters at hf1
  go_enter Tryz.func36, Tryz.ntmps36
  go_wp2_with (first | (at_builtin; refine wl_append rfl _ _ _ _ rfl _ _ rfl rfl ?_) | (at_make; refine wl_make rfl _ _ _ rfl _ _ rfl rfl ?_) | (at_mapUpdate; refine wl_mapUpdate rfl _ _ _ _ rfl _ _ _ rfl rfl rfl ?_) | (at_lookup; refine wl_lookup rfl _ _ _ _ rfl _ _ rfl rfl ?_) | (at_delete; refine wl_delete rfl _ _ _ _ rfl _ _ rfl rfl ?_) | (with_reducible refine wl_len rfl _ _ rfl _ rfl ?_) | (with_reducible refine wl_range rfl _ _ rfl _ rfl ?_) | (with_reducible refine wl_next rfl _ rfl _ rfl ?_) | (with_reducible refine wl_copy rfl _ _ _ _ rfl _ _ rfl rfl ?_) | (with_reducible refine wl_max rfl _ _ _ _ rfl _ _ rfl rfl ?_) | (with_reducible refine wl_min rfl _ _ _ _ rfl _ _ rfl rfl ?_))
  refine H.out.mono ?_
  rintro e w1 ⟨rfl, hk⟩
  go_wp2_with (first | (at_builtin; refine wl_append rfl _ _ _ _ rfl _ _ rfl rfl ?_) | (at_make; refine wl_make rfl _ _ _ rfl _ _ rfl rfl ?_) | (at_mapUpdate; refine wl_mapUpdate rfl _ _ _ _ rfl _ _ _ rfl rfl rfl ?_) | (at_lookup; refine wl_lookup rfl _ _ _ _ rfl _ _ rfl rfl ?_) | (at_delete; refine wl_delete rfl _ _ _ _ rfl _ _ rfl rfl ?_) | (with_reducible refine wl_len rfl _ _ rfl _ rfl ?_) | (with_reducible refine wl_range rfl _ _ rfl _ rfl ?_) | (with_reducible refine wl_next rfl _ rfl _ rfl ?_) | (with_reducible refine wl_copy rfl _ _ _ _ rfl _ _ rfl rfl ?_) | (with_reducible refine wl_max rfl _ _ _ _ rfl _ _ rfl rfl ?_) | (with_reducible refine wl_min rfl _ _ _ _ rfl _ _ rfl rfl ?_))
  go_ret
  exact ⟨rfl, hk⟩

set_option maxRecDepth 100000 in
set_option maxHeartbeats 1000000 in
theorem step_cut {d f1 : Nat} {c1 cs : Array Value} {t : TypeId} (do_ : Value) (w : World) (hd : Blk w d cs t) (hc4 : cs[4]? = some (.bool false)) (hc5 : cs[5]? = some (.int .i64 1)) (hf1 : Enters f1 c1)
    (hown : Calls Tryz.prog f1 c1 w fun e w' => e = .returned (.int .i64 0) ∧ Keep No w w') :
    Calls Tryz.prog 36 #[.pointer (some ⟨d, 0, none⟩), .func (.func f1) #[] c1, do_] w fun e w' => e = .returned (.int .i64 23) ∧ ∃ w1, Keep No w w1 ∧ w' = (w1.setCell ⟨d, 5, none⟩ (.int .i64 0)).setCell ⟨d, 4, none⟩ (.bool true) := by
  have h4 := (hd.cell 4).trans hc4
  have h5 := (hd.cell 5).trans hc5
  have H := Lib.hid hown
  clear hown
  unfold Enters at hf1
  go_enter Tryz.func36, Tryz.ntmps36
  go_wp2_with (first | (at_builtin; refine wl_append rfl _ _ _ _ rfl _ _ rfl rfl ?_) | (at_make; refine wl_make rfl _ _ _ rfl _ _ rfl rfl ?_) | (at_mapUpdate; refine wl_mapUpdate rfl _ _ _ _ rfl _ _ _ rfl rfl rfl ?_) | (at_lookup; refine wl_lookup rfl _ _ _ _ rfl _ _ rfl rfl ?_) | (at_delete; refine wl_delete rfl _ _ _ _ rfl _ _ rfl rfl ?_) | (with_reducible refine wl_len rfl _ _ rfl _ rfl ?_) | (with_reducible refine wl_range rfl _ _ rfl _ rfl ?_) | (with_reducible refine wl_next rfl _ rfl _ rfl ?_) | (with_reducible refine wl_copy rfl _ _ _ _ rfl _ _ rfl rfl ?_) | (with_reducible refine wl_max rfl _ _ _ _ rfl _ _ rfl rfl ?_) | (with_reducible refine wl_min rfl _ _ _ _ rfl _ _ rfl rfl ?_))
  refine H.out.mono ?_
  rintro e w1 ⟨rfl, hk⟩
  have hd1 := hd.keep hk fun h => h
  have h4' := (hd1.cell 4).trans hc4
  have h5' := (hd1.cell 5).trans hc5
  have f4 := hd1.frozen 4
  have f5 := hd1.frozen 5
  go_wp2_with (first | (at_builtin; refine wl_append rfl _ _ _ _ rfl _ _ rfl rfl ?_) | (at_make; refine wl_make rfl _ _ _ rfl _ _ rfl rfl ?_) | (at_mapUpdate; refine wl_mapUpdate rfl _ _ _ _ rfl _ _ _ rfl rfl rfl ?_) | (at_lookup; refine wl_lookup rfl _ _ _ _ rfl _ _ rfl rfl ?_) | (at_delete; refine wl_delete rfl _ _ _ _ rfl _ _ rfl rfl ?_) | (with_reducible refine wl_len rfl _ _ rfl _ rfl ?_) | (with_reducible refine wl_range rfl _ _ rfl _ rfl ?_) | (with_reducible refine wl_next rfl _ rfl _ rfl ?_) | (with_reducible refine wl_copy rfl _ _ _ _ rfl _ _ rfl rfl ?_) | (with_reducible refine wl_max rfl _ _ _ _ rfl _ _ rfl rfl ?_) | (with_reducible refine wl_min rfl _ _ _ _ rfl _ _ rfl rfl ?_))
  go_ret
  exact ⟨rfl, w1, hk, rfl⟩

set_option maxRecDepth 100000 in
set_option maxHeartbeats 1000000 in
theorem step_do0 {d f1 f2 : Nat} {c1 c2 cs : Array Value} {t : TypeId} (w : World) (R : World → World → Prop) (hd : Blk w d cs t) (hc4 : cs[4]? = some (.bool false)) (hc5 : cs[5]? = some (.int .i64 0)) (hf1 : Enters f1 c1) (hf2 : Enters f2 c2)
    (hown : Calls Tryz.prog f1 c1 w fun e w' => e = .returned (.int .i64 0) ∧ Keep No w w')
    (hdo : ∀ w1, Keep No w w1 → Calls Tryz.prog f2 c2 w1 fun e w' => e = .returned (.tuple #[]) ∧ R w1 w') :
    Calls Tryz.prog 36 #[.pointer (some ⟨d, 0, none⟩), .func (.func f1) #[] c1, .func (.func f2) #[] c2] w fun e w' => e = .returned (.int .i64 0) ∧ ∃ w1, Keep No w w1 ∧ R w1 w' := by
  have h4 := (hd.cell 4).trans hc4
  have h5 := (hd.cell 5).trans hc5
  have H := Lib.hid hown
  have H2 := Lib.hid hdo
  clear hown hdo
  unfold Enters at hf1 hf2
  go_enter Tryz.func36, Tryz.ntmps36
  go_wp2_with (first | (at_builtin; refine wl_append rfl _ _ _ _ rfl _ _ rfl rfl ?_) | (at_make; refine wl_make rfl _ _ _ rfl _ _ rfl rfl ?_) | (at_mapUpdate; refine wl_mapUpdate rfl _ _ _ _ rfl _ _ _ rfl rfl rfl ?_) | (at_lookup; refine wl_lookup rfl _ _ _ _ rfl _ _ rfl rfl ?_) | (at_delete; refine wl_delete rfl _ _ _ _ rfl _ _ rfl rfl ?_) | (with_reducible refine wl_len rfl _ _ rfl _ rfl ?_) | (with_reducible refine wl_range rfl _ _ rfl _ rfl ?_) | (with_reducible refine wl_next rfl _ rfl _ rfl ?_) | (with_reducible refine wl_copy rfl _ _ _ _ rfl _ _ rfl rfl ?_) | (with_reducible refine wl_max rfl _ _ _ _ rfl _ _ rfl rfl ?_) | (with_reducible refine wl_min rfl _ _ _ _ rfl _ _ rfl rfl ?_))
  refine H.out.mono ?_
  rintro e w1 ⟨rfl, hk⟩
  have hd1 := hd.keep hk fun h => h
  have h4' := (hd1.cell 4).trans hc4
  have h5' := (hd1.cell 5).trans hc5
  go_wp2_with (first | (at_builtin; refine wl_append rfl _ _ _ _ rfl _ _ rfl rfl ?_) | (at_make; refine wl_make rfl _ _ _ rfl _ _ rfl rfl ?_) | (at_mapUpdate; refine wl_mapUpdate rfl _ _ _ _ rfl _ _ _ rfl rfl rfl ?_) | (at_lookup; refine wl_lookup rfl _ _ _ _ rfl _ _ rfl rfl ?_) | (at_delete; refine wl_delete rfl _ _ _ _ rfl _ _ rfl rfl ?_) | (with_reducible refine wl_len rfl _ _ rfl _ rfl ?_) | (with_reducible refine wl_range rfl _ _ rfl _ rfl ?_) | (with_reducible refine wl_next rfl _ rfl _ rfl ?_) | (with_reducible refine wl_copy rfl _ _ _ _ rfl _ _ rfl rfl ?_) | (with_reducible refine wl_max rfl _ _ _ _ rfl _ _ rfl rfl ?_) | (with_reducible refine wl_min rfl _ _ _ _ rfl _ _ rfl rfl ?_))
  refine (H2.out w1 hk).mono ?_
  rintro e w2 ⟨rfl, hr⟩
  go_wp2_with (first | (at_builtin; refine wl_append rfl _ _ _ _ rfl _ _ rfl rfl ?_) | (at_make; refine wl_make rfl _ _ _ rfl _ _ rfl rfl ?_) | (at_mapUpdate; refine wl_mapUpdate rfl _ _ _ _ rfl _ _ _ rfl rfl rfl ?_) | (at_lookup; refine wl_lookup rfl _ _ _ _ rfl _ _ rfl rfl ?_) | (at_delete; refine wl_delete rfl _ _ _ _ rfl _ _ rfl rfl ?_) | (with_reducible refine wl_len rfl _ _ rfl _ rfl ?_) | (with_reducible refine wl_range rfl _ _ rfl _ rfl ?_) | (with_reducible refine wl_next rfl _ rfl _ rfl ?_) | (with_reducible refine wl_copy rfl _ _ _ _ rfl _ _ rfl rfl ?_) | (with_reducible refine wl_max rfl _ _ _ _ rfl _ _ rfl rfl ?_) | (with_reducible refine wl_min rfl _ _ _ _ rfl _ _ rfl rfl ?_))
  go_ret
  exact ⟨rfl, w1, hk, hr⟩

set_option maxRecDepth 100000 in
set_option maxHeartbeats 1000000 in
theorem step_do1 {d f1 f2 : Nat} {c1 c2 cs : Array Value} {t : TypeId} (k : Int) (w : World) (R : World → World → Prop) (hd : Blk w d cs t) (hc4 : cs[4]? = some (.bool false)) (hc5 : cs[5]? = some (.int .i64 k)) (h1k : 1 < k) (hk2 : k ≤ 9223372036854775807)
    (hf1 : Enters f1 c1) (hf2 : Enters f2 c2)
    (hown : Calls Tryz.prog f1 c1 w fun e w' => e = .returned (.int .i64 0) ∧ Keep No w w')
    (hdo : ∀ w1, Keep No w w1 → Calls Tryz.prog f2 c2 (w1.setCell ⟨d, 5, none⟩ (.int .i64 (k - 1))) fun e w' => e = .returned (.tuple #[]) ∧ R w1 w') :
    Calls Tryz.prog 36 #[.pointer (some ⟨d, 0, none⟩), .func (.func f1) #[] c1, .func (.func f2) #[] c2] w fun e w' => e = .returned (.int .i64 0) ∧ ∃ w1, Keep No w w1 ∧ R w1 w' := by
  have h4 := (hd.cell 4).trans hc4
  have h5 := (hd.cell 5).trans hc5
  have H := Lib.hid hown
  have H2 := Lib.hid hdo
  clear hown hdo
  unfold Enters at hf1 hf2
  have hne : ((k - 1) == 0) = false := by simp; omega
  go_enter Tryz.func36, Tryz.ntmps36
  go_wp2_with (first | (at_builtin; refine wl_append rfl _ _ _ _ rfl _ _ rfl rfl ?_) | (at_make; refine wl_make rfl _ _ _ rfl _ _ rfl rfl ?_) | (at_mapUpdate; refine wl_mapUpdate rfl _ _ _ _ rfl _ _ _ rfl rfl rfl ?_) | (at_lookup; refine wl_lookup rfl _ _ _ _ rfl _ _ rfl rfl ?_) | (at_delete; refine wl_delete rfl _ _ _ _ rfl _ _ rfl rfl ?_) | (with_reducible refine wl_len rfl _ _ rfl _ rfl ?_) | (with_reducible refine wl_range rfl _ _ rfl _ rfl ?_) | (with_reducible refine wl_next rfl _ rfl _ rfl ?_) | (with_reducible refine wl_copy rfl _ _ _ _ rfl _ _ rfl rfl ?_) | (with_reducible refine wl_max rfl _ _ _ _ rfl _ _ rfl rfl ?_) | (with_reducible refine wl_min rfl _ _ _ _ rfl _ _ rfl rfl ?_))
  refine H.out.mono ?_
  rintro e w1 ⟨rfl, hk⟩
  have hd1 := hd.keep hk fun h => h
  have h4' := (hd1.cell 4).trans hc4
  have h5' := (hd1.cell 5).trans hc5
  have f4 := hd1.frozen 4
  have f5 := hd1.frozen 5
  go_wp2_with (first | (at_builtin; refine wl_append rfl _ _ _ _ rfl _ _ rfl rfl ?_) | (at_make; refine wl_make rfl _ _ _ rfl _ _ rfl rfl ?_) | (at_mapUpdate; refine wl_mapUpdate rfl _ _ _ _ rfl _ _ _ rfl rfl rfl ?_) | (at_lookup; refine wl_lookup rfl _ _ _ _ rfl _ _ rfl rfl ?_) | (at_delete; refine wl_delete rfl _ _ _ _ rfl _ _ rfl rfl ?_) | (with_reducible refine wl_len rfl _ _ rfl _ rfl ?_) | (with_reducible refine wl_range rfl _ _ rfl _ rfl ?_) | (with_reducible refine wl_next rfl _ rfl _ rfl ?_) | (with_reducible refine wl_copy rfl _ _ _ _ rfl _ _ rfl rfl ?_) | (with_reducible refine wl_max rfl _ _ _ _ rfl _ _ rfl rfl ?_) | (with_reducible refine wl_min rfl _ _ _ _ rfl _ _ rfl rfl ?_))
  refine (H2.out w1 hk).mono ?_
  rintro e w2 ⟨rfl, hr⟩
  go_wp2_with (first | (at_builtin; refine wl_append rfl _ _ _ _ rfl _ _ rfl rfl ?_) | (at_make; refine wl_make rfl _ _ _ rfl _ _ rfl rfl ?_) | (at_mapUpdate; refine wl_mapUpdate rfl _ _ _ _ rfl _ _ _ rfl rfl rfl ?_) | (at_lookup; refine wl_lookup rfl _ _ _ _ rfl _ _ rfl rfl ?_) | (at_delete; refine wl_delete rfl _ _ _ _ rfl _ _ rfl rfl ?_) | (with_reducible refine wl_len rfl _ _ rfl _ rfl ?_) | (with_reducible refine wl_range rfl _ _ rfl _ rfl ?_) | (with_reducible refine wl_next rfl _ rfl _ rfl ?_) | (with_reducible refine wl_copy rfl _ _ _ _ rfl _ _ rfl rfl ?_) | (with_reducible refine wl_max rfl _ _ _ _ rfl _ _ rfl rfl ?_) | (with_reducible refine wl_min rfl _ _ _ _ rfl _ _ rfl rfl ?_))
  go_ret
  exact ⟨rfl, w1, hk, hr⟩
end Go.Proofs.YtkmoomgmmhmaeaaGreat
namespace Go.Proofs.YtkmoomgmmhmaeaaGreat
open Go.RowKit Go.Dm Go.Dm.Dk Go.Maps

/-- one of the disk's own cells (cut, off) is written -/
theorem DRep.set {A : Nat → Prop} {d i : Nat} {m m' : M} {fb : List Nat} {nb sb : Nat} {wv : Value} {rows : List (List Value)} {w : World} (v : Value) (h : DRep A w d m fb nb sb wv rows)
    (e : (#[.int .i64 m.room, .map (some nb), .map (some sb), wv, .bool m.off, .int .i64 m.cut] : Array Value).setIfInBounds i v = #[.int .i64 m'.room, .map (some nb), .map (some sb), wv, .bool m'.off, .int .i64 m'.cut])
    (e1 : m'.is = m.is) (e2 : m'.sure = m.sure) (e3 : m'.L = m.L) (e4 : m'.S = m.S) (e5 : m'.wait = m.wait) : DRep A (w.setCell ⟨d, i, none⟩ v) d m' fb nb sb wv rows := by
  have hW : ∀ k, k ≠ d → (w.setCell ⟨d, i, none⟩ v).heap[k]? = w.heap[k]? := fun k hk => Below.heap_setCell _ _ _ _ hk
  have hT : ∀ (k : Nat) (cs : Array Value) (t : TypeId) (fr : Nat × Nat), w.heap[k]? = some (Obj.cells cs t fr) → t ≠ 60 → (w.setCell ⟨d, i, none⟩ v).heap[k]? = w.heap[k]? := by
    intro k cs t fr hk h1
    refine hW k ?_
    rintro rfl
    rw [show w.heap[k]? = _ from h.blk] at hk; cases hk; exact h1 rfl
  have hle : w.heap.size ≤ (w.setCell ⟨d, i, none⟩ v).heap.size := by simp
  have hL : ∀ j, Live m' j → Live m j := by
    intro j hj
    unfold Live at hj ⊢
    rw [e3, e4, e5] at hj
    exact hj
  refine { blk := ?_, nm := by rw [e3]; exact h.nm.same (hW _ (h.nm.ne_blk h.blk)), sm := by rw [e4]; exact h.sm.same (hW _ (h.sm.ne_blk h.blk)), ne := h.ne, row := ?_, rowA := h.rowA, rlen := by rw [e5]; exact h.rlen, pend := ?_, fl := by rw [e1]; exact h.fl, sl := by rw [e1, e2]; exact h.sl, nd := h.nd, fbl := by simpa using h.fbl, file := ?_, Ad := h.Ad, An := h.An, As := h.As }
  · have := h.blk.set (i := i) v
    rw [e] at this
    exact this
  · rw [e5]
    exact ownsRow_same h.row fun g hg => hW g fun e => by subst e; exact own_ne h.row h.blk (by decide) hg.symm
  · intro j o ho
    rw [e5] at ho
    obtain ⟨cs, h1, h2⟩ := h.pend j o ho
    exact ⟨cs, h1, h2.same hle fun k _ ⟨cs, fr, t, hk, ht⟩ => hT k cs t fr hk (by rcases ht with rfl | rfl | rfl <;> decide)⟩
  · intro j hj
    obtain ⟨h1, h2, h3⟩ := h.file j (hL j hj)
    obtain ⟨v1, v2, h4, _⟩ := id h3
    rw [e1, e2]
    exact ⟨h1, h2, h3.same hle (hT _ _ _ _ h4 (by decide)) fun k _ _ ⟨cs, fr, hk⟩ => hT k cs _ fr hk (by decide)⟩

theorem DR.lt {A : Nat → Prop} {d : Nat} {m : M} {w : World} (h : DR A w d m) : A d ∧ d < w.heap.size := by
  obtain ⟨fb, nb, sb, wv, rows, h⟩ := h
  exact ⟨h.Ad, h.blk.lt⟩
theorem DR.setCut {A : Nat → Prop} {d : Nat} {m : M} {w : World} (h : DR A w d m) (k : Nat) : DR A (w.setCell ⟨d, 5, none⟩ (.int .i64 k)) d { m with cut := k } := by
  obtain ⟨fb, nb, sb, wv, rows, h⟩ := h
  exact ⟨fb, nb, sb, wv, rows, h.set _ rfl rfl rfl rfl rfl rfl⟩
theorem DR.setOff {A : Nat → Prop} {d : Nat} {m : M} {w : World} (h : DR A w d m) (b : Bool) : DR A (w.setCell ⟨d, 4, none⟩ (.bool b)) d { m with off := b } := by
  obtain ⟨fb, nb, sb, wv, rows, h⟩ := h
  exact ⟨fb, nb, sb, wv, rows, h.set _ rfl rfl rfl rfl rfl rfl⟩

theorem step_all {A B : Nat → Prop} {d f1 f2 : Nat} {c1 c2 : Array Value} {m : M} (kind : Nat) (a b : List UInt8) (at_ : Int) (body : List UInt8) (w : World) (h : DR A w d m) (hA : ∀ k, A k → k < w.heap.size) (hAB : ∀ k, A k → B k)
    (hcut : m.cut ≤ 9223372036854775807) (hf1 : Enters f1 c1) (hf2 : Enters f2 c2)
    (hown : m.off = false → Calls Tryz.prog f1 c1 w fun e w' => e = .returned (.int .i64 (own m kind a b at_ body : Nat)) ∧ Keep No w w')
    (hdo : ∀ w1, own m kind a b at_ body = 0 → DR A w1 d { m with cut := m.cut - 1 } → Keep A w w1 → Calls Tryz.prog f2 c2 w1 fun e w' => e = .returned (.tuple #[]) ∧ DR (Plus B w1 w') w' d (done { m with cut := m.cut - 1 } kind a b at_ body) ∧ Keep A w1 w') :
    Calls Tryz.prog 36 #[.pointer (some ⟨d, 0, none⟩), .func (.func f1) #[] c1, .func (.func f2) #[] c2] w fun e w' =>
      e = .returned (.int .i64 ((call m kind a b at_ body).2 : Nat)) ∧ DR (Plus B w w') w' d (call m kind a b at_ body).1 ∧ Keep A w w' := by
  obtain ⟨fb, nb, sb, wv, rows, h0⟩ := id h
  have hl := h.lt
  by_cases hoff : m.off = true
  · have h4 := h0.blk.cell 4
    simp only [hoff, List.getElem?_toArray, List.getElem?_cons_succ, List.getElem?_cons_zero] at h4
    refine (step_off _ _ w h4).mono ?_
    rintro e w' ⟨rfl, rfl⟩
    refine ⟨by simp [call, hoff], ?_, Keep.refl _ _⟩
    have : (call m kind a b at_ body).1 = m := by simp [call, hoff]
    rw [this]
    exact h.mono fun k _ ha => .inl (hAB k ha)
  · have hoff : m.off = false := by simpa using hoff
    have h4 := h0.blk.cell 4
    simp only [hoff, List.getElem?_toArray, List.getElem?_cons_succ, List.getElem?_cons_zero] at h4
    have hc4 : (#[.int .i64 m.room, .map (some nb), .map (some sb), wv, .bool m.off, .int .i64 m.cut] : Array Value)[4]? = some (.bool false) := by rw [hoff]; rfl
    by_cases ho : own m kind a b at_ body = 0
    · rw [ho] at hown
      have e1 : ∀ {x y : M × Nat}, call m kind a b at_ body = (if m.cut = 1 then x else y) → True := fun _ => trivial
      by_cases hc1 : m.cut = 1
      · have e2 : call m kind a b at_ body = ({ m with cut := 0, off := true }, 23) := by simp [call, hoff, ho, hc1]
        refine (step_cut _ w h0.blk hc4 (by rw [hc1]; rfl) hf1 (hown hoff)).mono ?_
        rintro e w' ⟨rfl, w1, hk, rfl⟩
        rw [e2]
        have h1 := h.keep hA hk fun _ _ h => h
        refine ⟨rfl, ((h1.setCut 0).setOff true).mono fun k _ ha => .inl (hAB k ha), ?_⟩
        exact ((hk.mono fun _ _ h => h.elim).setCell (fun _ => hl.1) _).setCell (fun _ => hl.1) _
      · have e2 : call m kind a b at_ body = (done { m with cut := m.cut - 1 } kind a b at_ body, 0) := by simp [call, hoff, ho, hc1]
        rw [e2]
        have fin : ∀ w1 w', Keep A w w1 → DR (Plus B w1 w') w' d (done { m with cut := m.cut - 1 } kind a b at_ body) → Keep A w1 w' →
            DR (Plus B w w') w' d (done { m with cut := m.cut - 1 } kind a b at_ body) ∧ Keep A w w' := by
          intro w1 w' k1 h2 k2
          refine ⟨h2.mono fun k _ ha => ?_, k1.trans' k2⟩
          rcases ha with ha | ⟨ha, hb⟩
          · exact .inl ha
          · exact .inr ⟨Nat.le_trans k1.size ha, hb⟩
        by_cases hc0 : m.cut = 0
        · have e3 : ({ m with cut := m.cut - 1 } : M) = m := by cases m; simp at hc0 ⊢; omega
          refine (step_do0 w (fun w1 w' => DR (Plus B w1 w') w' d (done { m with cut := m.cut - 1 } kind a b at_ body) ∧ Keep A w1 w') h0.blk hc4 (by rw [hc0]; rfl) hf1 hf2 (hown hoff) ?_).mono ?_
          · intro w1 hk
            have hk' : Keep A w w1 := hk.mono fun _ _ h => h.elim
            exact hdo w1 ho (by rw [e3]; exact h.keep hA hk fun _ _ h => h) hk'
          · rintro e w' ⟨rfl, w1, hk, h2, k2⟩
            obtain ⟨r1, r2⟩ := fin w1 w' (hk.mono fun _ _ h => h.elim) h2 k2
            exact ⟨rfl, r1, r2⟩
        · have e4 : ((m.cut - 1 : Nat) : Int) = (m.cut : Int) - 1 := by omega
          refine (step_do1 (m.cut : Int) w (fun w1 w' => DR (Plus B (w1.setCell ⟨d, 5, none⟩ (.int .i64 ((m.cut : Int) - 1))) w') w' d (done { m with cut := m.cut - 1 } kind a b at_ body) ∧ Keep A (w1.setCell ⟨d, 5, none⟩ (.int .i64 ((m.cut : Int) - 1))) w') h0.blk hc4 rfl (by omega) (by omega) hf1 hf2 (hown hoff) ?_).mono ?_
          · intro w1 hk
            have hk' : Keep A w (w1.setCell ⟨d, 5, none⟩ (.int .i64 ((m.cut : Int) - 1))) := (hk.mono fun _ _ h => h.elim).setCell (fun _ => hl.1) _
            refine hdo _ ho ?_ hk'
            have := (h.keep hA hk fun _ _ h => h).setCut (m.cut - 1)
            rw [e4] at this
            exact this
          · rintro e w' ⟨rfl, w1, hk, h2, k2⟩
            obtain ⟨r1, r2⟩ := fin _ w' ((hk.mono fun _ _ h => h.elim).setCell (fun _ => hl.1) _) h2 k2
            exact ⟨rfl, r1, r2⟩
    · refine (step_own _ w (own m kind a b at_ body : Nat) h4 hf1 (hown hoff) (by omega)).mono ?_
      rintro e w' ⟨rfl, hk⟩
      have e2 : call m kind a b at_ body = (m, own m kind a b at_ body) := by simp [call, hoff, ho]
      rw [e2]
      exact ⟨rfl, (h.keep hA hk fun _ _ h => h).mono fun k _ ha => .inl (hAB k ha), hk.mono fun _ _ h => h.elim⟩
end Go.Proofs.YtkmoomgmmhmaeaaGreat
namespace Go.Proofs.YtkmoomgmmhmaeaaGreat
open Go.RowKit Go.Dm Go.Dm.Dk Go.Maps

theorem nodup_getD {fb : List Nat} (h : fb.Nodup) {i j : Nat} (hi : i < fb.length) (hj : j < fb.length) (e : fb.getD i 0 = fb.getD j 0) : i = j := by
  rw [List.getD_eq_getElem?_getD, List.getD_eq_getElem?_getD, List.getElem?_eq_getElem hi, List.getElem?_eq_getElem hj] at e
  exact (List.getElem_inj h).1 e

theorem DB.of_own {w : World} {base : Nat} {v : Value} {l : List UInt8} (h : w.ownsRow base 5 1 v l.length (l.map bv)) : DB (fun k => base ≤ k) w v l := by
  refine Sl.mono (Sl.of_own h) fun k _ ⟨h1, h2⟩ => ?_
  rcases h.2 with ⟨rfl, _⟩ | ⟨g, cap, cur, rfl, hb, hg, _⟩
  · cases h2
  · cases h2
    exact ⟨h1, cur, (0, 0), hg⟩

/-- one of a file's two cells is written, behind new memory -/
theorem DRep.filed {A : Nat → Prop} {d f j : Nat} {m m' : M} {fb : List Nat} {nb sb : Nat} {wv : Value} {rows : List (List Value)} {w w1 : World} {v' : Value} (h : DRep A w d m fb nb sb wv rows) (k1 : Keep No w w1)
    (hf : f < m.is.length) (e0 : m'.room = m.room ∧ m'.L = m.L ∧ m'.S = m.S ∧ m'.wait = m.wait ∧ m'.off = m.off ∧ m'.cut = m.cut) (e1 : m'.is.length = m.is.length) (e2 : m'.sure.length = m.sure.length)
    (e3 : ∀ i, i ≠ f → m'.is.getD i [] = m.is.getD i [] ∧ m'.sure.getD i [] = m.sure.getD i [])
    (hl : Live m f) (hfile : FileAt (Plus A w (w1.setCell ⟨fb.getD f 0, j, none⟩ v')) (w1.setCell ⟨fb.getD f 0, j, none⟩ v') (fb.getD f 0) (m'.is.getD f []) (m'.sure.getD f [])) :
    DRep (Plus A w (w1.setCell ⟨fb.getD f 0, j, none⟩ v')) (w1.setCell ⟨fb.getD f 0, j, none⟩ v') d m' fb nb sb wv rows := by
  obtain ⟨q0, q1, q2, q3, q4, q5⟩ := e0
  obtain ⟨_, hfA, x1, x2, hfb, _⟩ := h.file f hl
  have hW : ∀ k, k < w.heap.size → k ≠ fb.getD f 0 → (w1.setCell ⟨fb.getD f 0, j, none⟩ v').heap[k]? = w.heap[k]? := fun k hk h1 => by
    rw [Below.heap_setCell _ _ _ _ h1]; exact k1.block k hk fun h => h
  have hT : ∀ (k : Nat) (cs : Array Value) (t : TypeId) (fr : Nat × Nat), w.heap[k]? = some (Obj.cells cs t fr) → t ≠ 76 → (w1.setCell ⟨fb.getD f 0, j, none⟩ v').heap[k]? = w.heap[k]? := by
    intro k cs t fr hk h1
    refine hW k (Array.getElem?_eq_some_iff.1 hk).1 ?_
    rintro rfl
    rw [show w.heap[_]? = _ from hfb] at hk; cases hk; exact h1 rfl
  have hle : w.heap.size ≤ (w1.setCell ⟨fb.getD f 0, j, none⟩ v').heap.size := by have := k1.size; simpa using this
  have hP : ∀ k, k < (w1.setCell ⟨fb.getD f 0, j, none⟩ v').heap.size → A k → Plus A w (w1.setCell ⟨fb.getD f 0, j, none⟩ v') k := fun k _ a => .inl a
  have hmap : ∀ {b : Nat} {L : List (Lit × Value)}, MapL Tryz.prog 9 w b L → b ≠ fb.getD f 0 := fun hm => hm.ne_blk hfb
  have hL : ∀ i, Live m' i → Live m i := by
    intro i hi; unfold Live at hi ⊢; rw [q1, q2, q3] at hi; exact hi
  refine { blk := ?_, nm := by rw [q1]; exact h.nm.same (hW _ h.nm.lt (hmap h.nm)), sm := by rw [q2]; exact h.sm.same (hW _ h.sm.lt (hmap h.sm)), ne := h.ne, row := ?_, rowA := fun g hg => .inl (h.rowA g hg), rlen := by rw [q3]; exact h.rlen, pend := ?_, fl := by rw [e1]; exact h.fl, sl := by rw [e1, e2]; exact h.sl, nd := h.nd, fbl := fun b hb => Nat.lt_of_lt_of_le (h.fbl b hb) hle, file := ?_, Ad := .inl h.Ad, An := .inl h.An, As := .inl h.As }
  · rw [q0, q4, q5]; exact h.blk.same (hT _ _ _ _ h.blk (by decide))
  · rw [q3]
    exact ownsRow_same h.row fun g hg => hW g (h.row.lt g hg).2 fun e => by rw [e] at hg; exact own_ne h.row hfb (by decide) hg.symm
  · intro i o ho
    rw [q3] at ho
    obtain ⟨cs, h1, h2⟩ := h.pend i o ho
    exact ⟨cs, h1, (h2.same hle fun k _ ⟨cs, fr, t, hk, ht⟩ => hT k cs t fr hk (by rcases ht with rfl | rfl | rfl <;> decide)).mono hP⟩
  · intro i hi
    obtain ⟨h1, h2, h3⟩ := h.file i (hL i hi)
    by_cases hif : i = f
    · subst hif
      exact ⟨by rw [e1]; exact h1, .inl h2, hfile⟩
    · obtain ⟨v1, v2, h4, _⟩ := id h3
      rw [(e3 i hif).1, (e3 i hif).2]
      have hne : fb.getD i 0 ≠ fb.getD f 0 := fun e => hif (nodup_getD h.nd (by rw [h.fl]; exact h1) (by rw [h.fl]; exact hf) e)
      exact ⟨by rw [e1]; exact h1, .inl h2, (h3.same hle (hW _ h4.lt hne) fun k _ _ ⟨cs, fr, hk⟩ => hT k cs _ fr hk (by decide)).mono hP⟩

/-- one pending operation more -/
theorem DRep.pushed {A : Nat → Prop} {d : Nat} {m : M} {fb : List Nat} {nb sb : Nat} {wv : Value} {rows : List (List Value)} {w w1 w2 : World} {v' : Value} (h : DRep A w d m fb nb sb wv rows) {o : Dk.Op} {cs : List Value}
    (k1 : Keep No w w1) (hp : PendAt (Plus A w w1) w1 fb o cs) (hlive : (o.kind = 1 ∨ o.kind = 2) → Live m o.file)
    (hrow : w2.ownsRow 0 71 4 v' (m.wait.length + 1) (rows.flatten ++ cs)) (k2 : Keep (fun k => some k = wv.ownBlock) w1 w2) (hloc : v'.ownBlock = wv.ownBlock ∨ v'.ownBlock = some w1.heap.size) :
    DRep (Plus A w (w2.setCell ⟨d, 3, none⟩ v')) (w2.setCell ⟨d, 3, none⟩ v') d { m with wait := m.wait ++ [o] } fb nb sb v' (rows ++ [cs]) ∧ Keep (fun k => k = d ∨ some k = wv.ownBlock) w (w2.setCell ⟨d, 3, none⟩ v') := by
  have hdw : ¬ some d = wv.ownBlock := own_ne h.row h.blk (by decide)
  have hnw : ¬ wv.ownBlock = some nb := own_ne_map h.row h.nm
  have hsw : ¬ wv.ownBlock = some sb := own_ne_map h.row h.sm
  have hne : d ≠ nb := fun e => h.nm.ne_blk h.blk e.symm
  have hne2 : d ≠ sb := fun e => h.sm.ne_blk h.blk e.symm
  have hs1 : w.heap.size ≤ w1.heap.size := k1.size
  have hsz : w1.heap.size ≤ (w2.setCell ⟨d, 3, none⟩ v').heap.size := by have := k2.size; simpa using this
  have hW1 : ∀ k, k < w1.heap.size → k ≠ d → ¬ some k = wv.ownBlock → (w2.setCell ⟨d, 3, none⟩ v').heap[k]? = w1.heap[k]? := by
    intro k hk h2 h3
    rw [Below.heap_setCell _ _ _ _ h2, k2.block k hk h3]
  have hW : ∀ k, k < w.heap.size → k ≠ d → ¬ some k = wv.ownBlock → (w2.setCell ⟨d, 3, none⟩ v').heap[k]? = w.heap[k]? := by
    intro k hk h2 h3
    rw [hW1 k (by omega) h2 h3]; exact k1.block k hk fun h => h
  have hd1 := h.blk.keep k1 fun h => h
  have hrow1 := ownsRow_same (w' := w1) h.row fun g hg => k1.block g (h.row.lt g hg).2 fun h => h
  have hT1 : ∀ (k : Nat) (cs : Array Value) (t : TypeId) (fr : Nat × Nat), w1.heap[k]? = some (Obj.cells cs t fr) → t ≠ 60 → t ≠ 71 → (w2.setCell ⟨d, 3, none⟩ v').heap[k]? = w1.heap[k]? := by
    intro k cs t fr hk h1 h2
    refine hW1 k (Array.getElem?_eq_some_iff.1 hk).1 ?_ ?_
    · rintro rfl
      rw [show w1.heap[k]? = _ from hd1] at hk; cases hk; exact h1 rfl
    · intro e
      rcases hrow1.2 with ⟨rfl, _⟩ | ⟨g, cap, cur, rfl, _, hb, _⟩
      · cases e
      · cases e
        rw [hk] at hb; cases hb; exact h2 rfl
  have hT : ∀ (k : Nat) (cs : Array Value) (t : TypeId) (fr : Nat × Nat), w.heap[k]? = some (Obj.cells cs t fr) → t ≠ 60 → t ≠ 71 → (w2.setCell ⟨d, 3, none⟩ v').heap[k]? = w.heap[k]? := by
    intro k cs t fr hk h1 h2
    have e := k1.block k (Array.getElem?_eq_some_iff.1 hk).1 fun h => h
    rw [← e]
    exact hT1 k cs t fr (e.trans hk) h1 h2
  have hle : w.heap.size ≤ (w2.setCell ⟨d, 3, none⟩ v').heap.size := by omega
  have hP : ∀ k, k < (w2.setCell ⟨d, 3, none⟩ v').heap.size → A k → Plus A w (w2.setCell ⟨d, 3, none⟩ v') k := fun k _ a => .inl a
  have hd2 : Blk w2 d _ _ := hd1.keep k2 hdw
  refine ⟨{ blk := hd2.set v', nm := h.nm.same (hW nb h.nm.lt hne.symm (fun e => hnw e.symm)), sm := h.sm.same (hW sb h.sm.lt hne2.symm (fun e => hsw e.symm)), ne := h.ne, row := ?_, rowA := ?_, rlen := ?_, pend := ?_, fl := h.fl, sl := h.sl, nd := h.nd, fbl := fun b hb => Nat.lt_of_lt_of_le (h.fbl b hb) hle, file := ?_, Ad := .inl h.Ad, An := .inl h.An, As := .inl h.As }, ?_⟩
  · have := ownsRow_same (w' := w2.setCell ⟨d, 3, none⟩ v') hrow fun g hg => Below.heap_setCell _ _ _ _ fun e => by
      have e : g = d := e
      subst e
      exact own_ne hrow hd2 (by decide) hg.symm
    simpa [List.flatten_append] using this
  · intro g hg
    rcases hloc with e | e
    · exact .inl (h.rowA g (e.symm.trans hg))
    · rw [e] at hg; cases hg
      refine .inr ⟨by omega, ?_⟩
      have := (hrow.lt _ e).2
      simpa using this
  · simp [h.rlen]
  · intro i o' ho'
    rcases Nat.lt_or_ge i m.wait.length with hi | hi
    · have ho2 : m.wait[i]? = some o' := by
        rw [← ho']; exact (List.getElem?_append_left hi).symm
      obtain ⟨cs, h1, h2⟩ := h.pend i o' ho2
      refine ⟨cs, ?_, (h2.same hle fun k _ ⟨cs, fr, t, hk, ht⟩ => hT k cs t fr hk (by rcases ht with rfl | rfl | rfl <;> decide) (by rcases ht with rfl | rfl | rfl <;> decide)).mono hP⟩
      rw [List.getElem?_append_left (by rw [h.rlen]; exact hi)]; exact h1
    · have hi2 : i = m.wait.length := by
        have := (List.getElem?_eq_some_iff.1 ho').1
        simp at this; omega
      subst hi2
      simp at ho'
      subst ho'
      refine ⟨cs, by rw [List.getElem?_append_right (by rw [h.rlen]; exact Nat.le_refl _), h.rlen]; simp, ?_⟩
      refine (hp.same hsz fun k _ ⟨cs, fr, t, hk, ht⟩ => hT1 k cs t fr hk (by rcases ht with rfl | rfl | rfl <;> decide) (by rcases ht with rfl | rfl | rfl <;> decide)).mono fun k _ ha => ?_
      rcases ha with ha | ha
      · exact .inl ha
      · exact .inr ⟨ha.1, by omega⟩
  · intro i hi
    have hi' : Live m i := by
      rcases hi with hi | hi | ⟨o', ho', hk, rfl⟩
      · exact .inl hi
      · exact .inr (.inl hi)
      · rcases List.mem_append.1 ho' with ho' | ho'
        · exact .inr (.inr ⟨o', ho', hk, rfl⟩)
        · simp at ho'; subst ho'; exact hlive hk
    obtain ⟨h1, h2, h3⟩ := h.file i hi'
    obtain ⟨v1, v2, h4, _⟩ := id h3
    exact ⟨h1, .inl h2, (h3.same hle (hT _ _ _ _ h4 (by decide) (by decide)) fun k _ _ ⟨cs, fr, hk⟩ => hT k cs _ fr hk (by decide) (by decide)).mono hP⟩
  · exact ⟨k2.os.trans k1.os, k2.tape.trans k1.tape, k2.output.trans k1.output, hle, fun k hk hA' => hW k hk (fun e => hA' (.inl e)) fun e => hA' (.inr e)⟩
end Go.Proofs.YtkmoomgmmhmaeaaGreat
