/- Write's first closure: its own errors. Write's second closure: the write is done. Write, whole. No condition. -/
import Derived.Test.YtkmoomgmmhmaeaaGreatDiskU
import Derived.Deep.RegionHeld3
import Derived.Test.YtkmoomgmmhmaeaaGreatDiskF
import Derived.Test.YtkmoomgmmhmaeaaGreatDiskR
namespace Go.Proofs.YtkmoomgmmhmaeaaGreat
open Go.RowKit Go.Dm Go.Dm.Dk Go.Maps Go.WideMaps Go.WideElems

set_option maxRecDepth 100000 in
set_option maxHeartbeats 1000000 in
theorem write1_none {d x y z u : Nat} {fb : List Nat} {L : Names} {nb : Nat} (s : List UInt8) (w : World) (hs : s.length ≤ maxLen) (hn : MapL Tryz.prog 9 w nb (NL fb L)) (hd : w.cell? ⟨d, 1, none⟩ = some (.map (some nb)))
    (hx : w.cell? ⟨x, 0, none⟩ = some (.pointer (some ⟨d, 0, none⟩))) (hy : w.cell? ⟨y, 0, none⟩ = some (.string ⟨s.toArray⟩)) (hf : find L s = none) :
    Calls Tryz.prog 75 #[.pointer (some ⟨x, 0, none⟩), .pointer (some ⟨y, 0, none⟩), .pointer (some ⟨z, 0, none⟩), .pointer (some ⟨u, 0, none⟩)] w fun e w' => e = .returned (.int .i64 20) ∧ w = w' := by
  go_enter Tryz.func75, Tryz.ntmps75
  go_wp2_with (first | (at_builtin; refine wl_append rfl _ _ _ _ rfl _ _ rfl rfl ?_) | (at_make; refine wl_make rfl _ _ _ rfl _ _ rfl rfl ?_) | (at_mapUpdate; refine wl_mapUpdate rfl _ _ _ _ rfl _ _ _ rfl rfl rfl ?_) | (at_lookup; refine wl_lookup rfl _ _ _ _ rfl _ _ rfl rfl ?_) | (at_delete; refine wl_delete rfl _ _ _ _ rfl _ _ rfl rfl ?_) | (with_reducible refine wl_len rfl _ _ rfl _ rfl ?_) | (with_reducible refine wl_range rfl _ _ rfl _ rfl ?_) | (with_reducible refine wl_next rfl _ rfl _ rfl ?_) | (with_reducible refine wl_copy rfl _ _ _ _ rfl _ _ rfl rfl ?_) | (with_reducible refine wl_max rfl _ _ _ _ rfl _ _ rfl rfl ?_) | (with_reducible refine wl_min rfl _ _ _ _ rfl _ _ rfl rfl ?_))
  refine (of_any d s _ hs hn hd).mono ?_
  rintro e w1 ⟨rfl, rfl⟩
  simp only [ofV, hf, Option.map_none, Option.getD_none]
  go_wp2_with (first | (at_builtin; refine wl_append rfl _ _ _ _ rfl _ _ rfl rfl ?_) | (at_make; refine wl_make rfl _ _ _ rfl _ _ rfl rfl ?_) | (at_mapUpdate; refine wl_mapUpdate rfl _ _ _ _ rfl _ _ _ rfl rfl rfl ?_) | (at_lookup; refine wl_lookup rfl _ _ _ _ rfl _ _ rfl rfl ?_) | (at_delete; refine wl_delete rfl _ _ _ _ rfl _ _ rfl rfl ?_) | (with_reducible refine wl_len rfl _ _ rfl _ rfl ?_) | (with_reducible refine wl_range rfl _ _ rfl _ rfl ?_) | (with_reducible refine wl_next rfl _ rfl _ rfl ?_) | (with_reducible refine wl_copy rfl _ _ _ _ rfl _ _ rfl rfl ?_) | (with_reducible refine wl_max rfl _ _ _ _ rfl _ _ rfl rfl ?_) | (with_reducible refine wl_min rfl _ _ _ _ rfl _ _ rfl rfl ?_))
  go_ret
  exact ⟨rfl, rfl⟩

set_option maxRecDepth 100000 in
set_option maxHeartbeats 1000000 in
theorem write1_arg {d x y z u b f n cap : Nat} {a : Option Addr} {fb : List Nat} {L : Names} {nb : Nat} (s : List UInt8) (i : Int) (w : World) (hs : s.length ≤ maxLen) (hn : MapL Tryz.prog 9 w nb (NL fb L)) (hd : w.cell? ⟨d, 1, none⟩ = some (.map (some nb)))
    (hx : w.cell? ⟨x, 0, none⟩ = some (.pointer (some ⟨d, 0, none⟩))) (hy : w.cell? ⟨y, 0, none⟩ = some (.string ⟨s.toArray⟩)) (hz : w.cell? ⟨z, 0, none⟩ = some (.int .i64 i)) (hf : find L s = some f) (hb : fb.getD f 0 = b)
    (hc : w.cell? ⟨b, 0, none⟩ = some (.slice a n cap)) (hi : i < 0 ∨ n < i) :
    Calls Tryz.prog 75 #[.pointer (some ⟨x, 0, none⟩), .pointer (some ⟨y, 0, none⟩), .pointer (some ⟨z, 0, none⟩), .pointer (some ⟨u, 0, none⟩)] w fun e w' => e = .returned (.int .i64 1) ∧ Keep No w w' := by
  have HI := Lib.hid hi
  clear hi
  by_cases h0 : i < 0
  · have h0' : decide (i < 0) = true := by simpa using h0
    go_enter Tryz.func75, Tryz.ntmps75
    go_wp2_with (first | (at_builtin; refine wl_append rfl _ _ _ _ rfl _ _ rfl rfl ?_) | (at_make; refine wl_make rfl _ _ _ rfl _ _ rfl rfl ?_) | (at_mapUpdate; refine wl_mapUpdate rfl _ _ _ _ rfl _ _ _ rfl rfl rfl ?_) | (at_lookup; refine wl_lookup rfl _ _ _ _ rfl _ _ rfl rfl ?_) | (at_delete; refine wl_delete rfl _ _ _ _ rfl _ _ rfl rfl ?_) | (with_reducible refine wl_len rfl _ _ rfl _ rfl ?_) | (with_reducible refine wl_range rfl _ _ rfl _ rfl ?_) | (with_reducible refine wl_next rfl _ rfl _ rfl ?_) | (with_reducible refine wl_copy rfl _ _ _ _ rfl _ _ rfl rfl ?_) | (with_reducible refine wl_max rfl _ _ _ _ rfl _ _ rfl rfl ?_) | (with_reducible refine wl_min rfl _ _ _ _ rfl _ _ rfl rfl ?_))
    refine (of_any d s _ hs hn hd).mono ?_
    rintro e w1 ⟨rfl, rfl⟩
    simp only [ofV, hf, Option.map_some, Option.getD_some, fptr, ptrTo, hb]
    go_wp2_with (first | (at_builtin; refine wl_append rfl _ _ _ _ rfl _ _ rfl rfl ?_) | (at_make; refine wl_make rfl _ _ _ rfl _ _ rfl rfl ?_) | (at_mapUpdate; refine wl_mapUpdate rfl _ _ _ _ rfl _ _ _ rfl rfl rfl ?_) | (at_lookup; refine wl_lookup rfl _ _ _ _ rfl _ _ rfl rfl ?_) | (at_delete; refine wl_delete rfl _ _ _ _ rfl _ _ rfl rfl ?_) | (with_reducible refine wl_len rfl _ _ rfl _ rfl ?_) | (with_reducible refine wl_range rfl _ _ rfl _ rfl ?_) | (with_reducible refine wl_next rfl _ rfl _ rfl ?_) | (with_reducible refine wl_copy rfl _ _ _ _ rfl _ _ rfl rfl ?_) | (with_reducible refine wl_max rfl _ _ _ _ rfl _ _ rfl rfl ?_) | (with_reducible refine wl_min rfl _ _ _ _ rfl _ _ rfl rfl ?_))
    go_quiet (fail)
    go_wp2_with (first | (at_builtin; refine wl_append rfl _ _ _ _ rfl _ _ rfl rfl ?_) | (at_make; refine wl_make rfl _ _ _ rfl _ _ rfl rfl ?_) | (at_mapUpdate; refine wl_mapUpdate rfl _ _ _ _ rfl _ _ _ rfl rfl rfl ?_) | (at_lookup; refine wl_lookup rfl _ _ _ _ rfl _ _ rfl rfl ?_) | (at_delete; refine wl_delete rfl _ _ _ _ rfl _ _ rfl rfl ?_) | (with_reducible refine wl_len rfl _ _ rfl _ rfl ?_) | (with_reducible refine wl_range rfl _ _ rfl _ rfl ?_) | (with_reducible refine wl_next rfl _ rfl _ rfl ?_) | (with_reducible refine wl_copy rfl _ _ _ _ rfl _ _ rfl rfl ?_) | (with_reducible refine wl_max rfl _ _ _ _ rfl _ _ rfl rfl ?_) | (with_reducible refine wl_min rfl _ _ _ _ rfl _ _ rfl rfl ?_))
    go_ret
    exact ⟨rfl, (Keep.refl _ _).drewN _⟩
  · have h0' : decide (i < 0) = false := by simpa using h0
    have h1 : (n : Int) < i := HI.out.resolve_left h0
    go_enter Tryz.func75, Tryz.ntmps75
    go_wp2_with (first | (at_builtin; refine wl_append rfl _ _ _ _ rfl _ _ rfl rfl ?_) | (at_make; refine wl_make rfl _ _ _ rfl _ _ rfl rfl ?_) | (at_mapUpdate; refine wl_mapUpdate rfl _ _ _ _ rfl _ _ _ rfl rfl rfl ?_) | (at_lookup; refine wl_lookup rfl _ _ _ _ rfl _ _ rfl rfl ?_) | (at_delete; refine wl_delete rfl _ _ _ _ rfl _ _ rfl rfl ?_) | (with_reducible refine wl_len rfl _ _ rfl _ rfl ?_) | (with_reducible refine wl_range rfl _ _ rfl _ rfl ?_) | (with_reducible refine wl_next rfl _ rfl _ rfl ?_) | (with_reducible refine wl_copy rfl _ _ _ _ rfl _ _ rfl rfl ?_) | (with_reducible refine wl_max rfl _ _ _ _ rfl _ _ rfl rfl ?_) | (with_reducible refine wl_min rfl _ _ _ _ rfl _ _ rfl rfl ?_))
    refine (of_any d s _ hs hn hd).mono ?_
    rintro e w1 ⟨rfl, rfl⟩
    simp only [ofV, hf, Option.map_some, Option.getD_some, fptr, ptrTo, hb]
    go_wp2_with (first | (at_builtin; refine wl_append rfl _ _ _ _ rfl _ _ rfl rfl ?_) | (at_make; refine wl_make rfl _ _ _ rfl _ _ rfl rfl ?_) | (at_mapUpdate; refine wl_mapUpdate rfl _ _ _ _ rfl _ _ _ rfl rfl rfl ?_) | (at_lookup; refine wl_lookup rfl _ _ _ _ rfl _ _ rfl rfl ?_) | (at_delete; refine wl_delete rfl _ _ _ _ rfl _ _ rfl rfl ?_) | (with_reducible refine wl_len rfl _ _ rfl _ rfl ?_) | (with_reducible refine wl_range rfl _ _ rfl _ rfl ?_) | (with_reducible refine wl_next rfl _ rfl _ rfl ?_) | (with_reducible refine wl_copy rfl _ _ _ _ rfl _ _ rfl rfl ?_) | (with_reducible refine wl_max rfl _ _ _ _ rfl _ _ rfl rfl ?_) | (with_reducible refine wl_min rfl _ _ _ _ rfl _ _ rfl rfl ?_))
    go_quiet (fail)
    go_wp2_with (first | (at_builtin; refine wl_append rfl _ _ _ _ rfl _ _ rfl rfl ?_) | (at_make; refine wl_make rfl _ _ _ rfl _ _ rfl rfl ?_) | (at_mapUpdate; refine wl_mapUpdate rfl _ _ _ _ rfl _ _ _ rfl rfl rfl ?_) | (at_lookup; refine wl_lookup rfl _ _ _ _ rfl _ _ rfl rfl ?_) | (at_delete; refine wl_delete rfl _ _ _ _ rfl _ _ rfl rfl ?_) | (with_reducible refine wl_len rfl _ _ rfl _ rfl ?_) | (with_reducible refine wl_range rfl _ _ rfl _ rfl ?_) | (with_reducible refine wl_next rfl _ rfl _ rfl ?_) | (with_reducible refine wl_copy rfl _ _ _ _ rfl _ _ rfl rfl ?_) | (with_reducible refine wl_max rfl _ _ _ _ rfl _ _ rfl rfl ?_) | (with_reducible refine wl_min rfl _ _ _ _ rfl _ _ rfl rfl ?_))
    go_ret
    exact ⟨rfl, (Keep.refl _ _).drewN _⟩

set_option maxRecDepth 100000 in
set_option maxHeartbeats 1000000 in
theorem write1_fits {d x y z u b f n l cap cl i : Nat} {a al : Option Addr} {fb : List Nat} {L : Names} {nb : Nat} (s : List UInt8) (w : World) (hs : s.length ≤ maxLen) (hn : MapL Tryz.prog 9 w nb (NL fb L)) (hd : w.cell? ⟨d, 1, none⟩ = some (.map (some nb)))
    (hx : w.cell? ⟨x, 0, none⟩ = some (.pointer (some ⟨d, 0, none⟩))) (hy : w.cell? ⟨y, 0, none⟩ = some (.string ⟨s.toArray⟩)) (hz : w.cell? ⟨z, 0, none⟩ = some (.int .i64 i)) (hu : w.cell? ⟨u, 0, none⟩ = some (.slice al l cl)) (hf : find L s = some f) (hb : fb.getD f 0 = b)
    (hc : w.cell? ⟨b, 0, none⟩ = some (.slice a n cap)) (hi : i ≤ n) (hn1 : n ≤ 1099511627776) (hl1 : l ≤ 1099511627776) (hg : i + l ≤ n) :
    Calls Tryz.prog 75 #[.pointer (some ⟨x, 0, none⟩), .pointer (some ⟨y, 0, none⟩), .pointer (some ⟨z, 0, none⟩), .pointer (some ⟨u, 0, none⟩)] w fun e w' => e = .returned (.int .i64 0) ∧ Keep No w w' := by
  have h0' : decide ((i : Int) < 0) = false := by simp
  have h1' : decide ((n : Int) < (i : Int)) = false := by simp; omega
  have h2' : decide ((n : Int) < (i : Int) + l) = false := by simp; omega
  have h3' : decide (n < i) = false := by simp; omega
  go_enter Tryz.func75, Tryz.ntmps75
  go_wp2_with (first | (at_builtin; refine wl_append rfl _ _ _ _ rfl _ _ rfl rfl ?_) | (at_make; refine wl_make rfl _ _ _ rfl _ _ rfl rfl ?_) | (at_mapUpdate; refine wl_mapUpdate rfl _ _ _ _ rfl _ _ _ rfl rfl rfl ?_) | (at_lookup; refine wl_lookup rfl _ _ _ _ rfl _ _ rfl rfl ?_) | (at_delete; refine wl_delete rfl _ _ _ _ rfl _ _ rfl rfl ?_) | (with_reducible refine wl_len rfl _ _ rfl _ rfl ?_) | (with_reducible refine wl_range rfl _ _ rfl _ rfl ?_) | (with_reducible refine wl_next rfl _ rfl _ rfl ?_) | (with_reducible refine wl_copy rfl _ _ _ _ rfl _ _ rfl rfl ?_) | (with_reducible refine wl_max rfl _ _ _ _ rfl _ _ rfl rfl ?_) | (with_reducible refine wl_min rfl _ _ _ _ rfl _ _ rfl rfl ?_))
  refine (of_any d s _ hs hn hd).mono ?_
  rintro e w1 ⟨rfl, rfl⟩
  simp only [ofV, hf, Option.map_some, Option.getD_some, fptr, ptrTo, hb]
  go_wp2_with (first | (at_builtin; refine wl_append rfl _ _ _ _ rfl _ _ rfl rfl ?_) | (at_make; refine wl_make rfl _ _ _ rfl _ _ rfl rfl ?_) | (at_mapUpdate; refine wl_mapUpdate rfl _ _ _ _ rfl _ _ _ rfl rfl rfl ?_) | (at_lookup; refine wl_lookup rfl _ _ _ _ rfl _ _ rfl rfl ?_) | (at_delete; refine wl_delete rfl _ _ _ _ rfl _ _ rfl rfl ?_) | (with_reducible refine wl_len rfl _ _ rfl _ rfl ?_) | (with_reducible refine wl_range rfl _ _ rfl _ rfl ?_) | (with_reducible refine wl_next rfl _ rfl _ rfl ?_) | (with_reducible refine wl_copy rfl _ _ _ _ rfl _ _ rfl rfl ?_) | (with_reducible refine wl_max rfl _ _ _ _ rfl _ _ rfl rfl ?_) | (with_reducible refine wl_min rfl _ _ _ _ rfl _ _ rfl rfl ?_))
  go_quiet (fail)
  go_wp2_with (first | (at_builtin; refine wl_append rfl _ _ _ _ rfl _ _ rfl rfl ?_) | (at_make; refine wl_make rfl _ _ _ rfl _ _ rfl rfl ?_) | (at_mapUpdate; refine wl_mapUpdate rfl _ _ _ _ rfl _ _ _ rfl rfl rfl ?_) | (at_lookup; refine wl_lookup rfl _ _ _ _ rfl _ _ rfl rfl ?_) | (at_delete; refine wl_delete rfl _ _ _ _ rfl _ _ rfl rfl ?_) | (with_reducible refine wl_len rfl _ _ rfl _ rfl ?_) | (with_reducible refine wl_range rfl _ _ rfl _ rfl ?_) | (with_reducible refine wl_next rfl _ rfl _ rfl ?_) | (with_reducible refine wl_copy rfl _ _ _ _ rfl _ _ rfl rfl ?_) | (with_reducible refine wl_max rfl _ _ _ _ rfl _ _ rfl rfl ?_) | (with_reducible refine wl_min rfl _ _ _ _ rfl _ _ rfl rfl ?_))
  go_quiet (fail)
  go_wp2_with (first | (at_builtin; refine wl_append rfl _ _ _ _ rfl _ _ rfl rfl ?_) | (at_make; refine wl_make rfl _ _ _ rfl _ _ rfl rfl ?_) | (at_mapUpdate; refine wl_mapUpdate rfl _ _ _ _ rfl _ _ _ rfl rfl rfl ?_) | (at_lookup; refine wl_lookup rfl _ _ _ _ rfl _ _ rfl rfl ?_) | (at_delete; refine wl_delete rfl _ _ _ _ rfl _ _ rfl rfl ?_) | (with_reducible refine wl_len rfl _ _ rfl _ rfl ?_) | (with_reducible refine wl_range rfl _ _ rfl _ rfl ?_) | (with_reducible refine wl_next rfl _ rfl _ rfl ?_) | (with_reducible refine wl_copy rfl _ _ _ _ rfl _ _ rfl rfl ?_) | (with_reducible refine wl_max rfl _ _ _ _ rfl _ _ rfl rfl ?_) | (with_reducible refine wl_min rfl _ _ _ _ rfl _ _ rfl rfl ?_))
  go_quiet (fail)
  go_wp2_with (first | (at_builtin; refine wl_append rfl _ _ _ _ rfl _ _ rfl rfl ?_) | (at_make; refine wl_make rfl _ _ _ rfl _ _ rfl rfl ?_) | (at_mapUpdate; refine wl_mapUpdate rfl _ _ _ _ rfl _ _ _ rfl rfl rfl ?_) | (at_lookup; refine wl_lookup rfl _ _ _ _ rfl _ _ rfl rfl ?_) | (at_delete; refine wl_delete rfl _ _ _ _ rfl _ _ rfl rfl ?_) | (with_reducible refine wl_len rfl _ _ rfl _ rfl ?_) | (with_reducible refine wl_range rfl _ _ rfl _ rfl ?_) | (with_reducible refine wl_next rfl _ rfl _ rfl ?_) | (with_reducible refine wl_copy rfl _ _ _ _ rfl _ _ rfl rfl ?_) | (with_reducible refine wl_max rfl _ _ _ _ rfl _ _ rfl rfl ?_) | (with_reducible refine wl_min rfl _ _ _ _ rfl _ _ rfl rfl ?_))
  go_ret
  exact ⟨rfl, (((Keep.refl _ _).drewN _).drewN _).drewN _⟩

set_option maxRecDepth 100000 in
set_option maxHeartbeats 1000000 in
theorem write1_room {A : Nat → Prop} {d x y z u b f n l cap cl i : Nat} {m : M} {a al : Option Addr} {fb : List Nat} {nb sb : Nat} {wv : Value} {rows : List (List Value)} (s : List UInt8) (w : World) (h : DRep A w d m fb nb sb wv rows) (hus : used m ≤ 4611686018427387904) (hrm : m.room ≤ 9223372036854775807) (hs : s.length ≤ maxLen)
    (hx : w.cell? ⟨x, 0, none⟩ = some (.pointer (some ⟨d, 0, none⟩))) (hy : w.cell? ⟨y, 0, none⟩ = some (.string ⟨s.toArray⟩)) (hz : w.cell? ⟨z, 0, none⟩ = some (.int .i64 i)) (hu : w.cell? ⟨u, 0, none⟩ = some (.slice al l cl)) (hf : find m.L s = some f) (hb : fb.getD f 0 = b)
    (hc : w.cell? ⟨b, 0, none⟩ = some (.slice a n cap)) (hi : i ≤ n) (hn1 : n ≤ 1099511627776) (hl1 : l ≤ 1099511627776) (hg : n < i + l) (r : Int) (hr : ((m.room : Int) - used m < (i : Int) + l - n ∧ r = 22) ∨ ((i : Int) + l - n ≤ (m.room : Int) - used m ∧ r = 0)) :
    Calls Tryz.prog 75 #[.pointer (some ⟨x, 0, none⟩), .pointer (some ⟨y, 0, none⟩), .pointer (some ⟨z, 0, none⟩), .pointer (some ⟨u, 0, none⟩)] w fun e w' => e = .returned (.int .i64 r) ∧ Keep No w w' := by
  have h0' : decide ((i : Int) < 0) = false := by simp
  have h1' : decide ((n : Int) < (i : Int)) = false := by simp; omega
  have h2' : decide ((n : Int) < (i : Int) + l) = true := by simp; omega
  have h3' : decide (n < i) = false := by simp; omega
  have hd := h.blk.cell 1
  have hdl := h.blk.lt
  have hxl : x < w.heap.size := World.block_lt_of_cell? w _ hx
  simp only [List.getElem?_toArray, List.getElem?_cons_succ, List.getElem?_cons_zero] at hd
  have hd0 := h.blk.cell 0
  simp only [List.getElem?_toArray, List.getElem?_cons_zero] at hd0
  have hw : IntKind.i64.wrap ((m.room : Int) - (used m : Int)) = (m.room : Int) - (used m : Int) := by rw [IntKind.wrap_i64]; omega
  rcases hr with ⟨hr, rfl⟩ | ⟨hr, rfl⟩
  · have hr' : decide ((m.room : Int) - used m < (i : Int) + l - n) = true := by simpa using hr
    go_enter Tryz.func75, Tryz.ntmps75
    go_wp2_with (first | (at_builtin; refine wl_append rfl _ _ _ _ rfl _ _ rfl rfl ?_) | (at_make; refine wl_make rfl _ _ _ rfl _ _ rfl rfl ?_) | (at_mapUpdate; refine wl_mapUpdate rfl _ _ _ _ rfl _ _ _ rfl rfl rfl ?_) | (at_lookup; refine wl_lookup rfl _ _ _ _ rfl _ _ rfl rfl ?_) | (at_delete; refine wl_delete rfl _ _ _ _ rfl _ _ rfl rfl ?_) | (with_reducible refine wl_len rfl _ _ rfl _ rfl ?_) | (with_reducible refine wl_range rfl _ _ rfl _ rfl ?_) | (with_reducible refine wl_next rfl _ rfl _ rfl ?_) | (with_reducible refine wl_copy rfl _ _ _ _ rfl _ _ rfl rfl ?_) | (with_reducible refine wl_max rfl _ _ _ _ rfl _ _ rfl rfl ?_) | (with_reducible refine wl_min rfl _ _ _ _ rfl _ _ rfl rfl ?_))
    refine (of_any d s _ hs h.nm hd).mono ?_
    rintro e w1 ⟨rfl, rfl⟩
    simp only [ofV, hf, Option.map_some, Option.getD_some, fptr, ptrTo, hb]
    go_wp2_with (first | (at_builtin; refine wl_append rfl _ _ _ _ rfl _ _ rfl rfl ?_) | (at_make; refine wl_make rfl _ _ _ rfl _ _ rfl rfl ?_) | (at_mapUpdate; refine wl_mapUpdate rfl _ _ _ _ rfl _ _ _ rfl rfl rfl ?_) | (at_lookup; refine wl_lookup rfl _ _ _ _ rfl _ _ rfl rfl ?_) | (at_delete; refine wl_delete rfl _ _ _ _ rfl _ _ rfl rfl ?_) | (with_reducible refine wl_len rfl _ _ rfl _ rfl ?_) | (with_reducible refine wl_range rfl _ _ rfl _ rfl ?_) | (with_reducible refine wl_next rfl _ rfl _ rfl ?_) | (with_reducible refine wl_copy rfl _ _ _ _ rfl _ _ rfl rfl ?_) | (with_reducible refine wl_max rfl _ _ _ _ rfl _ _ rfl rfl ?_) | (with_reducible refine wl_min rfl _ _ _ _ rfl _ _ rfl rfl ?_))
    go_quiet (fail)
    go_wp2_with (first | (at_builtin; refine wl_append rfl _ _ _ _ rfl _ _ rfl rfl ?_) | (at_make; refine wl_make rfl _ _ _ rfl _ _ rfl rfl ?_) | (at_mapUpdate; refine wl_mapUpdate rfl _ _ _ _ rfl _ _ _ rfl rfl rfl ?_) | (at_lookup; refine wl_lookup rfl _ _ _ _ rfl _ _ rfl rfl ?_) | (at_delete; refine wl_delete rfl _ _ _ _ rfl _ _ rfl rfl ?_) | (with_reducible refine wl_len rfl _ _ rfl _ rfl ?_) | (with_reducible refine wl_range rfl _ _ rfl _ rfl ?_) | (with_reducible refine wl_next rfl _ rfl _ rfl ?_) | (with_reducible refine wl_copy rfl _ _ _ _ rfl _ _ rfl rfl ?_) | (with_reducible refine wl_max rfl _ _ _ _ rfl _ _ rfl rfl ?_) | (with_reducible refine wl_min rfl _ _ _ _ rfl _ _ rfl rfl ?_))
    go_quiet (fail)
    go_wp2_with (first | (at_builtin; refine wl_append rfl _ _ _ _ rfl _ _ rfl rfl ?_) | (at_make; refine wl_make rfl _ _ _ rfl _ _ rfl rfl ?_) | (at_mapUpdate; refine wl_mapUpdate rfl _ _ _ _ rfl _ _ _ rfl rfl rfl ?_) | (at_lookup; refine wl_lookup rfl _ _ _ _ rfl _ _ rfl rfl ?_) | (at_delete; refine wl_delete rfl _ _ _ _ rfl _ _ rfl rfl ?_) | (with_reducible refine wl_len rfl _ _ rfl _ rfl ?_) | (with_reducible refine wl_range rfl _ _ rfl _ rfl ?_) | (with_reducible refine wl_next rfl _ rfl _ rfl ?_) | (with_reducible refine wl_copy rfl _ _ _ _ rfl _ _ rfl rfl ?_) | (with_reducible refine wl_max rfl _ _ _ _ rfl _ _ rfl rfl ?_) | (with_reducible refine wl_min rfl _ _ _ _ rfl _ _ rfl rfl ?_))
    go_region_held3 (fun w' => w'.cell? ⟨x, 0, none⟩ = some (.pointer (some ⟨d, 0, none⟩)) ∧ w'.cell? ⟨d, 0, none⟩ = some (.int .i64 m.room)) (go_keep)
      (first | (go_at_call 56; refine (used_any (A := A) _ (by exact DR.same ⟨fb, nb, sb, wv, rows, h⟩ (Nat.le_refl _) fun _ _ => rfl) hus).mono ?_; rintro e w1 ⟨rfl, hk⟩; have q1 : w1.cell? ⟨x, 0, none⟩ = _ := (hk.cell (p := ⟨x, 0, none⟩) hxl (fun h => h)).trans hx; have q2 : w1.cell? ⟨d, 0, none⟩ = _ := (hk.cell (p := ⟨d, 0, none⟩) hdl (fun h => h)).trans hd0))
    go_wp2_with (first | (at_builtin; refine wl_append rfl _ _ _ _ rfl _ _ rfl rfl ?_) | (at_make; refine wl_make rfl _ _ _ rfl _ _ rfl rfl ?_) | (at_mapUpdate; refine wl_mapUpdate rfl _ _ _ _ rfl _ _ _ rfl rfl rfl ?_) | (at_lookup; refine wl_lookup rfl _ _ _ _ rfl _ _ rfl rfl ?_) | (at_delete; refine wl_delete rfl _ _ _ _ rfl _ _ rfl rfl ?_) | (with_reducible refine wl_len rfl _ _ rfl _ rfl ?_) | (with_reducible refine wl_range rfl _ _ rfl _ rfl ?_) | (with_reducible refine wl_next rfl _ rfl _ rfl ?_) | (with_reducible refine wl_copy rfl _ _ _ _ rfl _ _ rfl rfl ?_) | (with_reducible refine wl_max rfl _ _ _ _ rfl _ _ rfl rfl ?_) | (with_reducible refine wl_min rfl _ _ _ _ rfl _ _ rfl rfl ?_))
    go_ret
    exact ⟨rfl, hk.os, hk.tape, hk.output, hk.size, hk.block⟩
  · have hr' : decide ((m.room : Int) - used m < (i : Int) + l - n) = false := by simpa using hr
    go_enter Tryz.func75, Tryz.ntmps75
    go_wp2_with (first | (at_builtin; refine wl_append rfl _ _ _ _ rfl _ _ rfl rfl ?_) | (at_make; refine wl_make rfl _ _ _ rfl _ _ rfl rfl ?_) | (at_mapUpdate; refine wl_mapUpdate rfl _ _ _ _ rfl _ _ _ rfl rfl rfl ?_) | (at_lookup; refine wl_lookup rfl _ _ _ _ rfl _ _ rfl rfl ?_) | (at_delete; refine wl_delete rfl _ _ _ _ rfl _ _ rfl rfl ?_) | (with_reducible refine wl_len rfl _ _ rfl _ rfl ?_) | (with_reducible refine wl_range rfl _ _ rfl _ rfl ?_) | (with_reducible refine wl_next rfl _ rfl _ rfl ?_) | (with_reducible refine wl_copy rfl _ _ _ _ rfl _ _ rfl rfl ?_) | (with_reducible refine wl_max rfl _ _ _ _ rfl _ _ rfl rfl ?_) | (with_reducible refine wl_min rfl _ _ _ _ rfl _ _ rfl rfl ?_))
    refine (of_any d s _ hs h.nm hd).mono ?_
    rintro e w1 ⟨rfl, rfl⟩
    simp only [ofV, hf, Option.map_some, Option.getD_some, fptr, ptrTo, hb]
    go_wp2_with (first | (at_builtin; refine wl_append rfl _ _ _ _ rfl _ _ rfl rfl ?_) | (at_make; refine wl_make rfl _ _ _ rfl _ _ rfl rfl ?_) | (at_mapUpdate; refine wl_mapUpdate rfl _ _ _ _ rfl _ _ _ rfl rfl rfl ?_) | (at_lookup; refine wl_lookup rfl _ _ _ _ rfl _ _ rfl rfl ?_) | (at_delete; refine wl_delete rfl _ _ _ _ rfl _ _ rfl rfl ?_) | (with_reducible refine wl_len rfl _ _ rfl _ rfl ?_) | (with_reducible refine wl_range rfl _ _ rfl _ rfl ?_) | (with_reducible refine wl_next rfl _ rfl _ rfl ?_) | (with_reducible refine wl_copy rfl _ _ _ _ rfl _ _ rfl rfl ?_) | (with_reducible refine wl_max rfl _ _ _ _ rfl _ _ rfl rfl ?_) | (with_reducible refine wl_min rfl _ _ _ _ rfl _ _ rfl rfl ?_))
    go_quiet (fail)
    go_wp2_with (first | (at_builtin; refine wl_append rfl _ _ _ _ rfl _ _ rfl rfl ?_) | (at_make; refine wl_make rfl _ _ _ rfl _ _ rfl rfl ?_) | (at_mapUpdate; refine wl_mapUpdate rfl _ _ _ _ rfl _ _ _ rfl rfl rfl ?_) | (at_lookup; refine wl_lookup rfl _ _ _ _ rfl _ _ rfl rfl ?_) | (at_delete; refine wl_delete rfl _ _ _ _ rfl _ _ rfl rfl ?_) | (with_reducible refine wl_len rfl _ _ rfl _ rfl ?_) | (with_reducible refine wl_range rfl _ _ rfl _ rfl ?_) | (with_reducible refine wl_next rfl _ rfl _ rfl ?_) | (with_reducible refine wl_copy rfl _ _ _ _ rfl _ _ rfl rfl ?_) | (with_reducible refine wl_max rfl _ _ _ _ rfl _ _ rfl rfl ?_) | (with_reducible refine wl_min rfl _ _ _ _ rfl _ _ rfl rfl ?_))
    go_quiet (fail)
    go_wp2_with (first | (at_builtin; refine wl_append rfl _ _ _ _ rfl _ _ rfl rfl ?_) | (at_make; refine wl_make rfl _ _ _ rfl _ _ rfl rfl ?_) | (at_mapUpdate; refine wl_mapUpdate rfl _ _ _ _ rfl _ _ _ rfl rfl rfl ?_) | (at_lookup; refine wl_lookup rfl _ _ _ _ rfl _ _ rfl rfl ?_) | (at_delete; refine wl_delete rfl _ _ _ _ rfl _ _ rfl rfl ?_) | (with_reducible refine wl_len rfl _ _ rfl _ rfl ?_) | (with_reducible refine wl_range rfl _ _ rfl _ rfl ?_) | (with_reducible refine wl_next rfl _ rfl _ rfl ?_) | (with_reducible refine wl_copy rfl _ _ _ _ rfl _ _ rfl rfl ?_) | (with_reducible refine wl_max rfl _ _ _ _ rfl _ _ rfl rfl ?_) | (with_reducible refine wl_min rfl _ _ _ _ rfl _ _ rfl rfl ?_))
    go_region_held3 (fun w' => w'.cell? ⟨x, 0, none⟩ = some (.pointer (some ⟨d, 0, none⟩)) ∧ w'.cell? ⟨d, 0, none⟩ = some (.int .i64 m.room)) (go_keep)
      (first | (go_at_call 56; refine (used_any (A := A) _ (by exact DR.same ⟨fb, nb, sb, wv, rows, h⟩ (Nat.le_refl _) fun _ _ => rfl) hus).mono ?_; rintro e w1 ⟨rfl, hk⟩; have q1 : w1.cell? ⟨x, 0, none⟩ = _ := (hk.cell (p := ⟨x, 0, none⟩) hxl (fun h => h)).trans hx; have q2 : w1.cell? ⟨d, 0, none⟩ = _ := (hk.cell (p := ⟨d, 0, none⟩) hdl (fun h => h)).trans hd0))
    go_wp2_with (first | (at_builtin; refine wl_append rfl _ _ _ _ rfl _ _ rfl rfl ?_) | (at_make; refine wl_make rfl _ _ _ rfl _ _ rfl rfl ?_) | (at_mapUpdate; refine wl_mapUpdate rfl _ _ _ _ rfl _ _ _ rfl rfl rfl ?_) | (at_lookup; refine wl_lookup rfl _ _ _ _ rfl _ _ rfl rfl ?_) | (at_delete; refine wl_delete rfl _ _ _ _ rfl _ _ rfl rfl ?_) | (with_reducible refine wl_len rfl _ _ rfl _ rfl ?_) | (with_reducible refine wl_range rfl _ _ rfl _ rfl ?_) | (with_reducible refine wl_next rfl _ rfl _ rfl ?_) | (with_reducible refine wl_copy rfl _ _ _ _ rfl _ _ rfl rfl ?_) | (with_reducible refine wl_max rfl _ _ _ _ rfl _ _ rfl rfl ?_) | (with_reducible refine wl_min rfl _ _ _ _ rfl _ _ rfl rfl ?_))
    go_ret
    exact ⟨rfl, hk.os, hk.tape, hk.output, hk.size, hk.block⟩
end Go.Proofs.YtkmoomgmmhmaeaaGreat
namespace Go.Proofs.YtkmoomgmmhmaeaaGreat
open Go.RowKit Go.Dm Go.Dm.Dk Go.Maps Go.WideMaps Go.WideElems

set_option maxRecDepth 100000 in
set_option maxHeartbeats 1000000 in
theorem write2_any {A B : Nat → Prop} {d x y z u f i : Nat} {m : M} {vb : Value} {fb : List Nat} {nb sb : Nat} {wv : Value} {rows : List (List Value)} (s body : List UInt8) (w : World) (h : DRep A w d m fb nb sb wv rows) (hs : s.length ≤ maxLen)
    (hwl : m.wait.length ≤ 1099511627776) (hx : w.cell? ⟨x, 0, none⟩ = some (.pointer (some ⟨d, 0, none⟩))) (hy : w.cell? ⟨y, 0, none⟩ = some (.string ⟨s.toArray⟩)) (hz : w.cell? ⟨z, 0, none⟩ = some (.int .i64 i)) (hu : w.cell? ⟨u, 0, none⟩ = some vb)
    (hf : find m.L s = some f) (hvb : Bts B w vb body) (hB : ∀ k, B k → k < w.heap.size) (hBA : ∀ k, B k → ¬ A k) (xA : ¬ A x) (zA : ¬ A z) (uA : ¬ A u) (hi : i ≤ 1099511627776) (hl : body.length ≤ 1099511627776) (hn : (m.is.getD f []).length ≤ 1099511627776) :
    Calls Tryz.prog 76 #[.pointer (some ⟨x, 0, none⟩), .pointer (some ⟨y, 0, none⟩), .pointer (some ⟨z, 0, none⟩), .pointer (some ⟨u, 0, none⟩)] w fun e w' => e = .returned (.tuple #[]) ∧ DR (Plus A w w') w' d (done m 2 s [] i body) ∧ Keep A w w' := by
  have hmem : ∃ s', (s', f) ∈ m.L := by
    unfold find at hf
    obtain ⟨p, hp, rfl⟩ := Option.map_eq_some_iff.1 hf
    exact ⟨p.1, List.mem_of_find?_eq_some hp⟩
  obtain ⟨hfl, hfA, v1, v2, hblk, hv1, hv2⟩ := h.file f (.inl hmem)
  have hd := h.blk.cell 1
  simp only [List.getElem?_toArray, List.getElem?_cons_succ, List.getElem?_cons_zero] at hd
  have hxl : x < w.heap.size := World.block_lt_of_cell? w _ hx
  have hzl : z < w.heap.size := World.block_lt_of_cell? w _ hz
  have hul : u < w.heap.size := World.block_lt_of_cell? w _ hu
  generalize hb : fb.getD f 0 = b at *
  generalize hX : m.is.getD f [] = X at *
  have HX := Lib.hid hX
  clear hX
  have hbl := hblk.lt
  obtain ⟨a1, c1, rfl, _, hc1⟩ := hv1.shape
  obtain ⟨a2, c2, rfl, _, hc2⟩ := hvb.shape
  have hc := hblk.cell 0
  have hfz := hblk.frozen 0
  simp only [List.getElem?_toArray, List.getElem?_cons_zero] at hc
  have hrows := h.row
  go_enter Tryz.func76, Tryz.ntmps76
  go_wp2_with (first | (at_builtin; refine wl_append rfl _ _ _ _ rfl _ _ rfl rfl ?_) | (at_make; refine wl_make rfl _ _ _ rfl _ _ rfl rfl ?_) | (at_mapUpdate; refine wl_mapUpdate rfl _ _ _ _ rfl _ _ _ rfl rfl rfl ?_) | (at_lookup; refine wl_lookup rfl _ _ _ _ rfl _ _ rfl rfl ?_) | (at_delete; refine wl_delete rfl _ _ _ _ rfl _ _ rfl rfl ?_) | (with_reducible refine wl_len rfl _ _ rfl _ rfl ?_) | (with_reducible refine wl_range rfl _ _ rfl _ rfl ?_) | (with_reducible refine wl_next rfl _ rfl _ rfl ?_) | (with_reducible refine wl_copy rfl _ _ _ _ rfl _ _ rfl rfl ?_) | (with_reducible refine wl_max rfl _ _ _ _ rfl _ _ rfl rfl ?_) | (with_reducible refine wl_min rfl _ _ _ _ rfl _ _ rfl rfl ?_))
  refine (of_any d s _ hs h.nm hd).mono ?_
  rintro e w1 ⟨rfl, rfl⟩
  simp only [ofV, hf, Option.map_some, Option.getD_some, fptr, ptrTo, hb]
  go_wp2_with (first | (at_builtin; refine wl_append rfl _ _ _ _ rfl _ _ rfl rfl ?_) | (at_make; refine wl_make rfl _ _ _ rfl _ _ rfl rfl ?_) | (at_mapUpdate; refine wl_mapUpdate rfl _ _ _ _ rfl _ _ _ rfl rfl rfl ?_) | (at_lookup; refine wl_lookup rfl _ _ _ _ rfl _ _ rfl rfl ?_) | (at_delete; refine wl_delete rfl _ _ _ _ rfl _ _ rfl rfl ?_) | (with_reducible refine wl_len rfl _ _ rfl _ rfl ?_) | (with_reducible refine wl_range rfl _ _ rfl _ rfl ?_) | (with_reducible refine wl_next rfl _ rfl _ rfl ?_) | (with_reducible refine wl_copy rfl _ _ _ _ rfl _ _ rfl rfl ?_) | (with_reducible refine wl_max rfl _ _ _ _ rfl _ _ rfl rfl ?_) | (with_reducible refine wl_min rfl _ _ _ _ rfl _ _ rfl rfl ?_))
  have hlb : Bts (fun k => k < w.heap.size) w (.slice a1 X.length c1) X := Sl.mono hv1.bts (fun k hk _ => hk)
  have hvb2 : Bts (fun k => k < w.heap.size) w (.slice a2 body.length c2) body := Sl.mono hvb (fun k hk _ => hk)
  refine wp_region_sig (fun w' => w'.cell? ⟨b, 0, none⟩ = some (.slice a1 X.length c1) ∧ w'.cell? ⟨z, 0, none⟩ = some (.int .i64 i) ∧ w'.cell? ⟨u, 0, none⟩ = some (.slice a2 body.length c2)) (fun j => decide (j ≤ 7))
    [(0, true), (1, true), (2, true), (3, true), (4, true), (5, true), (6, true), (7, false), (8, false), (9, false), (10, false)] (by kernel_rfl) (by kernel_rfl) (by intro c a d v w h; cases d <;> exact h) ⟨hc, hz, hu⟩ ?_
  apply sig_still (o := ⟨some 8, _, _, _, _, _⟩) rfl rfl
  · intro w' hS
    obtain ⟨q1, q2, q3⟩ := hS
    first | (go_simp; done) | (go_simp; rfl) | rfl
  go_frame
  apply sig_still (o := ⟨some 9, _, _, _, _, _⟩) rfl rfl
  · intro w' hS
    obtain ⟨q1, q2, q3⟩ := hS
    first | (go_simp; done) | (go_simp; rfl) | rfl
  go_frame
  apply sig_still (o := ⟨some 10, _, _, _, _, _⟩) rfl rfl
  · intro w' hS
    obtain ⟨q1, q2, q3⟩ := hS
    first | (go_simp; done) | (go_simp; rfl) | rfl
  go_frame
  apply sig_still (o := ⟨some 11, _, _, _, _, _⟩) rfl rfl
  · intro w' hS
    obtain ⟨q1, q2, q3⟩ := hS
    first | (go_simp; done) | (go_simp; rfl) | rfl
  go_frame
  apply sig_still (o := ⟨some 12, _, _, _, _, _⟩) rfl rfl
  · intro w' hS
    obtain ⟨q1, q2, q3⟩ := hS
    first | (go_simp; done) | (go_simp; rfl) | rfl
  go_frame
  apply sig_still (o := ⟨some 13, _, _, _, _, _⟩) rfl rfl
  · intro w' hS
    obtain ⟨q1, q2, q3⟩ := hS
    first | (go_simp; done) | (go_simp; rfl) | rfl
  go_frame
  apply sig_still (o := ⟨some 14, _, _, _, _, _⟩) rfl rfl
  · intro w' hS
    obtain ⟨q1, q2, q3⟩ := hS
    first | (go_simp; done) | (go_simp; rfl) | rfl
  go_frame
  refine sig_eff (o := ⟨some 15, _, _, _, _, _⟩) rfl rfl (fun K hK => ?_)
  go_wp2_with (first | (at_builtin; refine wl_append rfl _ _ _ _ rfl _ _ rfl rfl ?_) | (at_make; refine wl_make rfl _ _ _ rfl _ _ rfl rfl ?_) | (at_mapUpdate; refine wl_mapUpdate rfl _ _ _ _ rfl _ _ _ rfl rfl rfl ?_) | (at_lookup; refine wl_lookup rfl _ _ _ _ rfl _ _ rfl rfl ?_) | (at_delete; refine wl_delete rfl _ _ _ _ rfl _ _ rfl rfl ?_) | (with_reducible refine wl_len rfl _ _ rfl _ rfl ?_) | (with_reducible refine wl_range rfl _ _ rfl _ rfl ?_) | (with_reducible refine wl_next rfl _ rfl _ rfl ?_) | (with_reducible refine wl_copy rfl _ _ _ _ rfl _ _ rfl rfl ?_) | (with_reducible refine wl_max rfl _ _ _ _ rfl _ _ rfl rfl ?_) | (with_reducible refine wl_min rfl _ _ _ _ rfl _ _ rfl rfl ?_))
  refine (laid_any (A := fun k => k < w.heap.size) _ _ X body i _ (by exact hlb) (by exact hvb2) hn hl hi).mono ?_
  rintro e w1 ⟨rfl, hb1, hk⟩
  have q1 : w1.cell? ⟨b, 0, none⟩ = _ := (hk.cell (p := ⟨b, 0, none⟩) hbl (fun h => h)).trans hc
  have q2 : w1.cell? ⟨z, 0, none⟩ = _ := (hk.cell (p := ⟨z, 0, none⟩) hzl (fun h => h)).trans hz
  have q3 : w1.cell? ⟨u, 0, none⟩ = _ := (hk.cell (p := ⟨u, 0, none⟩) hul (fun h => h)).trans hu
  have q4 : w1.frozen? ⟨b, 0, none⟩ = _ := (hk.frozen (p := ⟨b, 0, none⟩) hbl (fun h => h)).trans hfz
  go_wp2_with (first | (at_builtin; refine wl_append rfl _ _ _ _ rfl _ _ rfl rfl ?_) | (at_make; refine wl_make rfl _ _ _ rfl _ _ rfl rfl ?_) | (at_mapUpdate; refine wl_mapUpdate rfl _ _ _ _ rfl _ _ _ rfl rfl rfl ?_) | (at_lookup; refine wl_lookup rfl _ _ _ _ rfl _ _ rfl rfl ?_) | (at_delete; refine wl_delete rfl _ _ _ _ rfl _ _ rfl rfl ?_) | (with_reducible refine wl_len rfl _ _ rfl _ rfl ?_) | (with_reducible refine wl_range rfl _ _ rfl _ rfl ?_) | (with_reducible refine wl_next rfl _ rfl _ rfl ?_) | (with_reducible refine wl_copy rfl _ _ _ _ rfl _ _ rfl rfl ?_) | (with_reducible refine wl_max rfl _ _ _ _ rfl _ _ rfl rfl ?_) | (with_reducible refine wl_min rfl _ _ _ _ rfl _ _ rfl rfl ?_))
  refine ⟨fun _ => ⟨q1, q2, q3⟩, ?_⟩
  refine sig_eff (o := ⟨some 16, _, _, _, _, _⟩) rfl rfl (fun K hK => ?_)
  go_wp2_with (first | (at_builtin; refine wl_append rfl _ _ _ _ rfl _ _ rfl rfl ?_) | (at_make; refine wl_make rfl _ _ _ rfl _ _ rfl rfl ?_) | (at_mapUpdate; refine wl_mapUpdate rfl _ _ _ _ rfl _ _ _ rfl rfl rfl ?_) | (at_lookup; refine wl_lookup rfl _ _ _ _ rfl _ _ rfl rfl ?_) | (at_delete; refine wl_delete rfl _ _ _ _ rfl _ _ rfl rfl ?_) | (with_reducible refine wl_len rfl _ _ rfl _ rfl ?_) | (with_reducible refine wl_range rfl _ _ rfl _ rfl ?_) | (with_reducible refine wl_next rfl _ rfl _ rfl ?_) | (with_reducible refine wl_copy rfl _ _ _ _ rfl _ _ rfl rfl ?_) | (with_reducible refine wl_max rfl _ _ _ _ rfl _ _ rfl rfl ?_) | (with_reducible refine wl_min rfl _ _ _ _ rfl _ _ rfl rfl ?_))
  refine ⟨fun h => (by cases h), ?_⟩
  refine sig_eff (o := ⟨some 17, _, _, _, _, _⟩) rfl rfl (fun K hK => ?_)
  go_wp2_with (first | (at_builtin; refine wl_append rfl _ _ _ _ rfl _ _ rfl rfl ?_) | (at_make; refine wl_make rfl _ _ _ rfl _ _ rfl rfl ?_) | (at_mapUpdate; refine wl_mapUpdate rfl _ _ _ _ rfl _ _ _ rfl rfl rfl ?_) | (at_lookup; refine wl_lookup rfl _ _ _ _ rfl _ _ rfl rfl ?_) | (at_delete; refine wl_delete rfl _ _ _ _ rfl _ _ rfl rfl ?_) | (with_reducible refine wl_len rfl _ _ rfl _ rfl ?_) | (with_reducible refine wl_range rfl _ _ rfl _ rfl ?_) | (with_reducible refine wl_next rfl _ rfl _ rfl ?_) | (with_reducible refine wl_copy rfl _ _ _ _ rfl _ _ rfl rfl ?_) | (with_reducible refine wl_max rfl _ _ _ _ rfl _ _ rfl rfl ?_) | (with_reducible refine wl_min rfl _ _ _ _ rfl _ _ rfl rfl ?_))
  refine ⟨fun h => (by cases h), ?_⟩
  refine sig_eff (o := ⟨none, _, _, _, _, _⟩) rfl rfl (fun K hK => ?_)
  go_wp2_with (first | (at_builtin; refine wl_append rfl _ _ _ _ rfl _ _ rfl rfl ?_) | (at_make; refine wl_make rfl _ _ _ rfl _ _ rfl rfl ?_) | (at_mapUpdate; refine wl_mapUpdate rfl _ _ _ _ rfl _ _ _ rfl rfl rfl ?_) | (at_lookup; refine wl_lookup rfl _ _ _ _ rfl _ _ rfl rfl ?_) | (at_delete; refine wl_delete rfl _ _ _ _ rfl _ _ rfl rfl ?_) | (with_reducible refine wl_len rfl _ _ rfl _ rfl ?_) | (with_reducible refine wl_range rfl _ _ rfl _ rfl ?_) | (with_reducible refine wl_next rfl _ rfl _ rfl ?_) | (with_reducible refine wl_copy rfl _ _ _ _ rfl _ _ rfl rfl ?_) | (with_reducible refine wl_max rfl _ _ _ _ rfl _ _ rfl rfl ?_) | (with_reducible refine wl_min rfl _ _ _ _ rfl _ _ rfl rfl ?_))
  refine ⟨fun h => (by cases h), sig_nil ?_⟩
  go_wp2_with (first | (at_builtin; refine wl_append rfl _ _ _ _ rfl _ _ rfl rfl ?_) | (at_make; refine wl_make rfl _ _ _ rfl _ _ rfl rfl ?_) | (at_mapUpdate; refine wl_mapUpdate rfl _ _ _ _ rfl _ _ _ rfl rfl rfl ?_) | (at_lookup; refine wl_lookup rfl _ _ _ _ rfl _ _ rfl rfl ?_) | (at_delete; refine wl_delete rfl _ _ _ _ rfl _ _ rfl rfl ?_) | (with_reducible refine wl_len rfl _ _ rfl _ rfl ?_) | (with_reducible refine wl_range rfl _ _ rfl _ rfl ?_) | (with_reducible refine wl_next rfl _ rfl _ rfl ?_) | (with_reducible refine wl_copy rfl _ _ _ _ rfl _ _ rfl rfl ?_) | (with_reducible refine wl_max rfl _ _ _ _ rfl _ _ rfl rfl ?_) | (with_reducible refine wl_min rfl _ _ _ _ rfl _ _ rfl rfl ?_))
  have hb1' : Blk w1 w.heap.size ((laidB X i body).map bv).toArray 5 := hb1
  have hlen := length_laidB X i body
  have hll : (laidB X i body).length ≤ maxLen := by unfold maxLen; omega
  have hk1 : Keep No w w1 := ⟨hk.os, hk.tape, hk.output, hk.size, hk.block⟩
  have hb2 := hblk.keep hk1 (fun h => h)
  subst hb
  have hset := hb2.set (i := 0) (.slice (some ⟨w.heap.size, 0, none⟩) (laidB X i body).length (laidB X i body).length)
  have hmemL : Live m f := .inl hmem
  have hne : w.heap.size ≠ fb.getD f 0 := by omega
  have hDB : DB (Plus A w (w1.setCell ⟨fb.getD f 0, 0, none⟩ (.slice (some ⟨w.heap.size, 0, none⟩) (laidB X i body).length (laidB X i body).length))) (w1.setCell ⟨fb.getD f 0, 0, none⟩ (.slice (some ⟨w.heap.size, 0, none⟩) (laidB X i body).length (laidB X i body).length))
      (.slice (some ⟨w.heap.size, 0, none⟩) (laidB X i body).length (laidB X i body).length) (laidB X i body) := by
    refine (DB.blk (hb1'.set_other hne _) hll).mono fun k hk e => ?_
    have e : k = w.heap.size := e
    subst e
    exact .inr ⟨Nat.le_refl _, hk⟩
  have hv2' : DB (Plus A w (w1.setCell ⟨fb.getD f 0, 0, none⟩ (.slice (some ⟨w.heap.size, 0, none⟩) (laidB X i body).length (laidB X i body).length))) (w1.setCell ⟨fb.getD f 0, 0, none⟩ (.slice (some ⟨w.heap.size, 0, none⟩) (laidB X i body).length (laidB X i body).length))
      v2 (m.sure.getD f []) := by
    refine (hv2.same (by simpa using hk1.size) fun k hkl _ ⟨cs, fr, hkk⟩ => ?_).mono fun k _ ha => .inl ha
    rw [Below.heap_setCell _ _ _ _ (fun e => by have e : k = fb.getD f 0 := e; subst e; rw [show w.heap[_]? = _ from hblk] at hkk; cases hkk)]
    exact hk1.block k hkl fun h => h
  have hD := h.filed (m' := { m with is := putF m.is f (laidB X i body) }) (v' := .slice (some ⟨w.heap.size, 0, none⟩) (laidB X i body).length (laidB X i body).length) (j := 0) hk1 hfl ⟨rfl, rfl, rfl, rfl, rfl, rfl⟩ (by simp [putF]) rfl
    (fun j hj => ⟨by simp [putF, List.getD, List.getElem?_set_ne (Ne.symm hj)], rfl⟩) hmemL ⟨_, v2, hset, by simpa [putF, List.getD, hfl] using hDB, hv2'⟩
  have hkA : Keep A w (w1.setCell ⟨fb.getD f 0, 0, none⟩ (.slice (some ⟨w.heap.size, 0, none⟩) (laidB X i body).length (laidB X i body).length)) :=
    (hk1.mono fun _ _ h => h.elim).setCell (fun _ => hfA) _
  clear q1 q2 q3 q4 hset hDB hv2' hb1' hb2
  generalize w1.setCell ⟨fb.getD f 0, 0, none⟩ (.slice (some ⟨w.heap.size, 0, none⟩) (laidB X i body).length (laidB X i body).length) = W1 at *
  have qx : W1.cell? ⟨x, 0, none⟩ = _ := (hkA.cell (p := ⟨x, 0, none⟩) hxl xA).trans hx
  have qz : W1.cell? ⟨z, 0, none⟩ = _ := (hkA.cell (p := ⟨z, 0, none⟩) hzl zA).trans hz
  have qu : W1.cell? ⟨u, 0, none⟩ = _ := (hkA.cell (p := ⟨u, 0, none⟩) hul uA).trans hu
  have q3 := hD.blk.cell 3
  simp only [List.getElem?_toArray, List.getElem?_cons_succ, List.getElem?_cons_zero] at q3
  have hbody : Bts (fun k => k < w.heap.size) W1 (.slice a2 body.length c2) body := (Sl.keep hvb hkA fun j _ hb => hBA j hb).mono fun k hk hb => by exact hB k hb
  obtain ⟨b, hb⟩ : ∃ b, b = fb.getD f 0 := ⟨_, rfl⟩
  rw [← hb]
  have HB := Lib.hid hb
  clear hb
  refine wp_region_sig (fun w' => w'.cell? ⟨x, 0, none⟩ = some (.pointer (some ⟨d, 0, none⟩)) ∧ w'.cell? ⟨z, 0, none⟩ = some (.int .i64 i) ∧ w'.cell? ⟨u, 0, none⟩ = some (.slice a2 body.length c2) ∧ w'.cell? ⟨d, 3, none⟩ = some wv) (fun j => decide (j ≤ 11))
    [(0, true), (1, true), (2, true), (3, true), (4, true), (5, true), (6, true), (7, true), (8, false), (9, false), (10, false), (11, false), (12, false), (13, false), (14, false)] (by kernel_rfl) (by kernel_rfl) (by intro c a d v w h; cases d <;> exact h) ⟨qx, qz, qu, q3⟩ ?_
  apply sig_still (o := ⟨some 18, _, _, _, _, _⟩) rfl rfl
  · intro w' hS
    obtain ⟨q1, q2, q3, q4⟩ := hS
    first | (go_simp; done) | (go_simp; rfl) | rfl
  go_frame
  apply sig_still (o := ⟨some 19, _, _, _, _, _⟩) rfl rfl
  · intro w' hS
    obtain ⟨q1, q2, q3, q4⟩ := hS
    first | (go_simp; done) | (go_simp; rfl) | rfl
  go_frame
  apply sig_still (o := ⟨some 20, _, _, _, _, _⟩) rfl rfl
  · intro w' hS
    obtain ⟨q1, q2, q3, q4⟩ := hS
    first | (go_simp; done) | (go_simp; rfl) | rfl
  go_frame
  apply sig_still (o := ⟨some 21, _, _, _, _, _⟩) rfl rfl
  · intro w' hS
    obtain ⟨q1, q2, q3, q4⟩ := hS
    first | (go_simp; done) | (go_simp; rfl) | rfl
  go_frame
  apply sig_still (o := ⟨some 22, _, _, _, _, _⟩) rfl rfl
  · intro w' hS
    obtain ⟨q1, q2, q3, q4⟩ := hS
    first | (go_simp; done) | (go_simp; rfl) | rfl
  go_frame
  apply sig_still (o := ⟨some 23, _, _, _, _, _⟩) rfl rfl
  · intro w' hS
    obtain ⟨q1, q2, q3, q4⟩ := hS
    first | (go_simp; done) | (go_simp; rfl) | rfl
  go_frame
  apply sig_still (o := ⟨some 24, _, _, _, _, _⟩) rfl rfl
  · intro w' hS
    obtain ⟨q1, q2, q3, q4⟩ := hS
    first | (go_simp; done) | (go_simp; rfl) | rfl
  go_frame
  apply sig_still (o := ⟨some 25, _, _, _, _, _⟩) rfl rfl
  · intro w' hS
    obtain ⟨q1, q2, q3, q4⟩ := hS
    first | (go_simp; done) | (go_simp; rfl) | rfl
  go_frame
  refine sig_eff (o := ⟨some 26, _, _, _, _, _⟩) rfl rfl (fun K hK => ?_)
  go_wp2_with (first | (at_builtin; refine wl_append rfl _ _ _ _ rfl _ _ rfl rfl ?_) | (at_make; refine wl_make rfl _ _ _ rfl _ _ rfl rfl ?_) | (at_mapUpdate; refine wl_mapUpdate rfl _ _ _ _ rfl _ _ _ rfl rfl rfl ?_) | (at_lookup; refine wl_lookup rfl _ _ _ _ rfl _ _ rfl rfl ?_) | (at_delete; refine wl_delete rfl _ _ _ _ rfl _ _ rfl rfl ?_) | (with_reducible refine wl_len rfl _ _ rfl _ rfl ?_) | (with_reducible refine wl_range rfl _ _ rfl _ rfl ?_) | (with_reducible refine wl_next rfl _ rfl _ rfl ?_) | (with_reducible refine wl_copy rfl _ _ _ _ rfl _ _ rfl rfl ?_) | (with_reducible refine wl_max rfl _ _ _ _ rfl _ _ rfl rfl ?_) | (with_reducible refine wl_min rfl _ _ _ _ rfl _ _ rfl rfl ?_))
  refine (clone_any (A := fun k => k < w.heap.size) _ body _ (by exact hbody) hl).mono ?_
  rintro e w2 ⟨v', rfl, hown, hk2⟩
  obtain ⟨a', c', rfl, _, _⟩ := (Sl.of_own hown).shape
  have hxW : x < W1.heap.size := World.block_lt_of_cell? W1 _ qx
  have hzW : z < W1.heap.size := World.block_lt_of_cell? W1 _ qz
  have huW : u < W1.heap.size := World.block_lt_of_cell? W1 _ qu
  have hdW : d < W1.heap.size := hD.blk.lt
  have hk2' : Keep No W1 w2 := ⟨hk2.os, hk2.tape, hk2.output, hk2.size, hk2.block⟩
  have hown' : w2.ownsRow W1.heap.size 5 1 (.slice a' body.length c') body.length (body.map bv) := hown
  clear hown hk2
  have r1 : w2.cell? ⟨x, 0, none⟩ = _ := (hk2'.cell (p := ⟨x, 0, none⟩) hxW (fun h => h)).trans qx
  have r2 : w2.cell? ⟨z, 0, none⟩ = _ := (hk2'.cell (p := ⟨z, 0, none⟩) hzW (fun h => h)).trans qz
  have r3 : w2.cell? ⟨u, 0, none⟩ = _ := (hk2'.cell (p := ⟨u, 0, none⟩) huW (fun h => h)).trans qu
  have r4 : w2.cell? ⟨d, 3, none⟩ = _ := (hk2'.cell (p := ⟨d, 3, none⟩) hdW (fun h => h)).trans q3
  go_wp2_with (first | (at_builtin; refine wl_append rfl _ _ _ _ rfl _ _ rfl rfl ?_) | (at_make; refine wl_make rfl _ _ _ rfl _ _ rfl rfl ?_) | (at_mapUpdate; refine wl_mapUpdate rfl _ _ _ _ rfl _ _ _ rfl rfl rfl ?_) | (at_lookup; refine wl_lookup rfl _ _ _ _ rfl _ _ rfl rfl ?_) | (at_delete; refine wl_delete rfl _ _ _ _ rfl _ _ rfl rfl ?_) | (with_reducible refine wl_len rfl _ _ rfl _ rfl ?_) | (with_reducible refine wl_range rfl _ _ rfl _ rfl ?_) | (with_reducible refine wl_next rfl _ rfl _ rfl ?_) | (with_reducible refine wl_copy rfl _ _ _ _ rfl _ _ rfl rfl ?_) | (with_reducible refine wl_max rfl _ _ _ _ rfl _ _ rfl rfl ?_) | (with_reducible refine wl_min rfl _ _ _ _ rfl _ _ rfl rfl ?_))
  refine ⟨fun _ => ⟨r1, r2, r3, r4⟩, ?_⟩
  refine sig_eff (o := ⟨some 27, _, _, _, _, _⟩) rfl rfl (fun K hK => ?_)
  go_wp2_with (first | (at_builtin; refine wl_append rfl _ _ _ _ rfl _ _ rfl rfl ?_) | (at_make; refine wl_make rfl _ _ _ rfl _ _ rfl rfl ?_) | (at_mapUpdate; refine wl_mapUpdate rfl _ _ _ _ rfl _ _ _ rfl rfl rfl ?_) | (at_lookup; refine wl_lookup rfl _ _ _ _ rfl _ _ rfl rfl ?_) | (at_delete; refine wl_delete rfl _ _ _ _ rfl _ _ rfl rfl ?_) | (with_reducible refine wl_len rfl _ _ rfl _ rfl ?_) | (with_reducible refine wl_range rfl _ _ rfl _ rfl ?_) | (with_reducible refine wl_next rfl _ rfl _ rfl ?_) | (with_reducible refine wl_copy rfl _ _ _ _ rfl _ _ rfl rfl ?_) | (with_reducible refine wl_max rfl _ _ _ _ rfl _ _ rfl rfl ?_) | (with_reducible refine wl_min rfl _ _ _ _ rfl _ _ rfl rfl ?_))
  refine ⟨fun _ => ⟨r1, r2, r3, r4⟩, ?_⟩
  refine sig_eff (o := ⟨some 28, _, _, _, _, _⟩) rfl rfl (fun K hK => ?_)
  go_wp2_with (first | (at_builtin; refine wl_append rfl _ _ _ _ rfl _ _ rfl rfl ?_) | (at_make; refine wl_make rfl _ _ _ rfl _ _ rfl rfl ?_) | (at_mapUpdate; refine wl_mapUpdate rfl _ _ _ _ rfl _ _ _ rfl rfl rfl ?_) | (at_lookup; refine wl_lookup rfl _ _ _ _ rfl _ _ rfl rfl ?_) | (at_delete; refine wl_delete rfl _ _ _ _ rfl _ _ rfl rfl ?_) | (with_reducible refine wl_len rfl _ _ rfl _ rfl ?_) | (with_reducible refine wl_range rfl _ _ rfl _ rfl ?_) | (with_reducible refine wl_next rfl _ rfl _ rfl ?_) | (with_reducible refine wl_copy rfl _ _ _ _ rfl _ _ rfl rfl ?_) | (with_reducible refine wl_max rfl _ _ _ _ rfl _ _ rfl rfl ?_) | (with_reducible refine wl_min rfl _ _ _ _ rfl _ _ rfl rfl ?_))
  have hrow2 : (w2.alloc (.cells #[.pointer (some ⟨b, 0, none⟩), .int .i64 i, .slice a' body.length c', .nilFunc] 71)).ownsRow 0 71 4 wv m.wait.length rows.flatten :=
    (ownsRow_same hD.row fun g hg => hk2'.block g (hD.row.lt g hg).2 fun h => h).alloc _
  have hsl := Sl.new w2 #[.pointer (some ⟨b, 0, none⟩), .int .i64 i, .slice a' body.length c', .nilFunc] 71 (size := 4) (n := 1) rfl (by unfold maxLen; omega)
  have hk3 : Keep No W1 (w2.alloc (.cells #[.pointer (some ⟨b, 0, none⟩), .int .i64 i, .slice a' body.length c', .nilFunc] 71)) := hk2'.alloc _
  have hown3 := hown'.alloc (.cells #[.pointer (some ⟨b, 0, none⟩), .int .i64 i, .slice a' body.length c', .nilFunc] 71)
  generalize w2.alloc (.cells #[.pointer (some ⟨b, 0, none⟩), .int .i64 i, .slice a' body.length c', .nilFunc] 71) = W3 at *
  have s1 : W3.cell? ⟨x, 0, none⟩ = _ := (hk3.cell (p := ⟨x, 0, none⟩) hxW (fun h => h)).trans qx
  have s2 : W3.cell? ⟨z, 0, none⟩ = _ := (hk3.cell (p := ⟨z, 0, none⟩) hzW (fun h => h)).trans qz
  have s3 : W3.cell? ⟨u, 0, none⟩ = _ := (hk3.cell (p := ⟨u, 0, none⟩) huW (fun h => h)).trans qu
  have s4 : W3.cell? ⟨d, 3, none⟩ = _ := (hk3.cell (p := ⟨d, 3, none⟩) hdW (fun h => h)).trans q3
  refine ⟨fun _ => ⟨s1, s2, s3, s4⟩, ?_⟩
  refine sig_eff (o := ⟨some 29, _, _, _, _, _⟩) rfl rfl (fun K hK => ?_)
  refine wo_append _ _ _ _ rfl _ _ rfl rfl ?_
  refine rg_append 0 71 _ 4 48 Tryz.underlying58 info_pend rfl (by decide) hrow2 hsl (by simp [Value.oneCell']) (by unfold maxLen; omega) (by omega) (Nat.zero_le _) ?_
  intro v' w4 hro4 hk4 _ hloc
  have hW : ∀ g, some g = wv.ownBlock → A g := fun g hg => h.rowA g hg.symm
  have hd3 : Blk W3 d _ _ := hD.blk.keep hk3 (fun h => h)
  have hd4 := hd3.keep hk4 (own_ne hrow2 hd3 (by decide))
  have t1 : w4.cell? ⟨x, 0, none⟩ = _ := (hk4.cell (p := ⟨x, 0, none⟩) (World.block_lt_of_cell? W3 _ s1) (fun e => xA (hW _ e))).trans s1
  have t2 : w4.cell? ⟨z, 0, none⟩ = _ := (hk4.cell (p := ⟨z, 0, none⟩) (World.block_lt_of_cell? W3 _ s2) (fun e => zA (hW _ e))).trans s2
  have t3 : w4.cell? ⟨u, 0, none⟩ = _ := (hk4.cell (p := ⟨u, 0, none⟩) (World.block_lt_of_cell? W3 _ s3) (fun e => uA (hW _ e))).trans s3
  have t4 : w4.cell? ⟨d, 3, none⟩ = some wv := hd4.cell 3
  have t5 := hd4.frozen 3
  obtain ⟨a4, c4, rfl, _, _⟩ := (Sl.of_own hro4).shape
  refine hK _ _ ⟨fun _ => ⟨t1, t2, t3, t4⟩, ?_⟩
  go_frame
  refine sig_eff (o := ⟨some 30, .nilCheck (.tmp 18), _, _, _, none⟩) rfl rfl (fun K hK => ?_)
  go_simp
  refine hK _ _ ⟨fun h => (by cases h), ?_⟩
  refine sig_eff (o := ⟨some 31, .fieldAddr 60 (.tmp 30) 3, _, _, _, none⟩) rfl rfl (fun K hK => ?_)
  go_simp
  refine hK _ _ ⟨fun h => (by cases h), ?_⟩
  refine sig_eff (o := ⟨none, .store 58 (.tmp 31) (.tmp 29), _, _, _, none⟩) rfl rfl (fun K hK => ?_)
  go_simp
  refine hK _ _ ⟨fun h => (by cases h), sig_nil ?_⟩
  go_wp2_with (first | (at_builtin; refine wl_append rfl _ _ _ _ rfl _ _ rfl rfl ?_) | (at_make; refine wl_make rfl _ _ _ rfl _ _ rfl rfl ?_) | (at_mapUpdate; refine wl_mapUpdate rfl _ _ _ _ rfl _ _ _ rfl rfl rfl ?_) | (at_lookup; refine wl_lookup rfl _ _ _ _ rfl _ _ rfl rfl ?_) | (at_delete; refine wl_delete rfl _ _ _ _ rfl _ _ rfl rfl ?_) | (with_reducible refine wl_len rfl _ _ rfl _ rfl ?_) | (with_reducible refine wl_range rfl _ _ rfl _ rfl ?_) | (with_reducible refine wl_next rfl _ rfl _ rfl ?_) | (with_reducible refine wl_copy rfl _ _ _ _ rfl _ _ rfl rfl ?_) | (with_reducible refine wl_max rfl _ _ _ _ rfl _ _ rfl rfl ?_) | (with_reducible refine wl_min rfl _ _ _ _ rfl _ _ rfl rfl ?_))
  go_end0
  have hfp : fptr fb f = .pointer (some ⟨b, 0, none⟩) := by unfold fptr ptrTo; rw [HB.out]
  have hp : PendAt (Plus (Plus A w W1) W1 W3) W3 fb ⟨1, f, i, body, [], []⟩ [.pointer (some ⟨b, 0, none⟩), .int .i64 i, .slice a' body.length c', .nilFunc] := by
    refine .inl ⟨rfl, _, by rw [hfp], (DB.of_own hown3).mono fun k hk hb => .inr ⟨hb, hk⟩⟩
  obtain ⟨r1, r2⟩ := hD.pushed hk3 hp (fun _ => hmemL) hro4 hk4 hloc
  have e3 : done m 2 s [] i body = { m with is := putF m.is f (laidB X i body), wait := m.wait ++ [⟨1, f, i, body, [], []⟩] } := by
    have hX := HX.out
    have e4 : (i : Int).toNat = i := by omega
    unfold done waitD
    simp only [hf, Option.getD_some, if_true, e4, hX]
  refine ⟨rfl, ?_, ?_⟩
  · rw [e3]
    refine ⟨fb, nb, sb, _, _, r1.mono fun k hk ha => ?_⟩
    have hs1 := hkA.size
    have hs2 := r2.size
    rcases ha with (ha | ⟨ha, hb⟩) | ⟨ha, hb⟩
    · exact .inl ha
    · exact .inr ⟨ha, by omega⟩
    · exact .inr ⟨by omega, hb⟩
  · refine hkA.trans r2 fun k hk hs => ?_
    rcases hs with rfl | hs
    · exact h.Ad
    · exact h.rowA k hs.symm
end Go.Proofs.YtkmoomgmmhmaeaaGreat
namespace Go.Proofs.YtkmoomgmmhmaeaaGreat
open Go.RowKit Go.Dm Go.Dm.Dk Go.Maps

theorem enters_write1 (a b c d : Value) : Enters 75 #[a, b, c, d] := fun w => by kernel_rfl
theorem enters_write2 (a b c d : Value) : Enters 76 #[a, b, c, d] := fun w => by kernel_rfl

theorem find_mem {L : Names} {s : List UInt8} {f : Nat} (hf : find L s = some f) : (s, f) ∈ L := by
  unfold find at hf
  obtain ⟨p, hp, rfl⟩ := Option.map_eq_some_iff.1 hf
  have h1 := List.mem_of_find?_eq_some hp
  have h2 := List.find?_some hp
  have h3 : p.1 = s := by simpa using h2
  rw [← h3]; exact h1

set_option maxRecDepth 100000 in
theorem write1_all {A : Nat → Prop} {d x y z u : Nat} {m : M} {vb : Value} {B : Nat → Prop} (s body : List UInt8) (i : Int) (w : World) (h : DR A w d m) (hfit : Fit m) (hs : s.length ≤ maxLen) (hvb : Bts B w vb body) (hl : body.length ≤ 1099511627776)
    (hx : w.cell? ⟨x, 0, none⟩ = some (.pointer (some ⟨d, 0, none⟩))) (hy : w.cell? ⟨y, 0, none⟩ = some (.string ⟨s.toArray⟩)) (hz : w.cell? ⟨z, 0, none⟩ = some (.int .i64 i)) (hu : w.cell? ⟨u, 0, none⟩ = some vb) :
    Calls Tryz.prog 75 #[.pointer (some ⟨x, 0, none⟩), .pointer (some ⟨y, 0, none⟩), .pointer (some ⟨z, 0, none⟩), .pointer (some ⟨u, 0, none⟩)] w fun e w' => e = .returned (.int .i64 (own m 2 s [] i body : Nat)) ∧ Keep No w w' := by
  obtain ⟨fb, nb, sb, wv, rows, h0⟩ := h
  have hd := h0.blk.cell 1
  simp only [List.getElem?_toArray, List.getElem?_cons_succ, List.getElem?_cons_zero] at hd
  cases hf : find m.L s with
  | none =>
    have e : own m 2 s [] i body = 20 := by simp [own, hf]
    rw [e]
    refine (write1_none s w hs h0.nm hd hx hy hf).mono ?_
    rintro e w' ⟨rfl, rfl⟩
    exact ⟨rfl, Keep.refl _ _⟩
  | some f =>
    obtain ⟨hfl, hfA, v1, v2, hblk, hv1, hv2⟩ := h0.file f (.inl ⟨s, find_mem hf⟩)
    obtain ⟨a1, c1, rfl, _, hc1⟩ := hv1.shape
    obtain ⟨a2, c2, rfl, _, hc2⟩ := hvb.shape
    have hc : w.cell? ⟨fb.getD f 0, 0, none⟩ = some (.slice a1 (m.is.getD f []).length c1) := hblk.cell 0
    have hn := hfit.il f
    by_cases hi : i < 0 ∨ i > fileLen m.is f
    · have e : own m 2 s [] i body = 1 := by simp only [own, hf]; rw [if_pos hi]
      rw [e]
      exact write1_arg s i w hs h0.nm hd hx hy hz hf rfl hc (hi.imp id (fun h => h))
    · obtain ⟨k, rfl⟩ : ∃ k : Nat, i = k := ⟨i.toNat, by omega⟩
      have hk : k ≤ (m.is.getD f []).length := by
        have : ¬ ((k : Int) > fileLen m.is f) := fun h => hi (.inr h)
        unfold fileLen at this; omega
      have e2 : (k : Int).toNat = k := by omega
      by_cases hg : (m.is.getD f []).length < k + body.length
      · by_cases hr : ((k + body.length - fileLen m.is f : Nat) : Int) > (m.room : Int) - used m
        · have e : own m 2 s [] k body = 22 := by
            simp only [own, hf]; rw [if_neg hi, if_pos ⟨by rw [e2]; exact hg, by rw [e2]; exact hr⟩]
          rw [e]
          exact write1_room s w h0 hfit.us hfit.rm hs hx hy hz hu hf rfl hc hk hn hl hg 22 (.inl ⟨by unfold fileLen at hr; omega, rfl⟩)
        · have e : own m 2 s [] k body = 0 := by
            simp only [own, hf]; rw [if_neg hi, if_neg (by rw [e2]; exact fun h => hr h.2)]
          rw [e]
          exact write1_room s w h0 hfit.us hfit.rm hs hx hy hz hu hf rfl hc hk hn hl hg 0 (.inr ⟨by unfold fileLen at hr; omega, rfl⟩)
      · have e : own m 2 s [] k body = 0 := by
          simp only [own, hf]; rw [if_neg hi, if_neg (by rw [e2]; exact fun h => hg h.1)]
        rw [e]
        exact write1_fits s w hs h0.nm hd hx hy hz hu hf rfl hc hk hn hl (by omega)

set_option maxRecDepth 100000 in
set_option maxHeartbeats 1000000 in
theorem write_any {A B : Nat → Prop} {d : Nat} {m : M} {vb : Value} (s body : List UInt8) (i : Int) (w : World) (h : DR A w d m) (hA : ∀ k, A k → k < w.heap.size) (hfit : Fit m) (hs : s.length ≤ maxLen) (hvb : Bts B w vb body) (hBA : ∀ k, B k → ¬ A k) (hl : body.length ≤ 1099511627776) :
    Calls Tryz.prog 51 #[.pointer (some ⟨d, 0, none⟩), .string ⟨s.toArray⟩, .int .i64 i, vb] w fun e w' => e = .returned (.int .i64 ((call m 2 s [] i body).2 : Nat)) ∧ DR (Plus A w w') w' d (call m 2 s [] i body).1 ∧ Keep A w w' := by
  obtain ⟨ab, cb, rfl, _, _⟩ := hvb.shape
  go_enter Tryz.func51, Tryz.ntmps51
  go_wp2_with (first | (at_builtin; refine wl_append rfl _ _ _ _ rfl _ _ rfl rfl ?_) | (at_make; refine wl_make rfl _ _ _ rfl _ _ rfl rfl ?_) | (at_mapUpdate; refine wl_mapUpdate rfl _ _ _ _ rfl _ _ _ rfl rfl rfl ?_) | (at_lookup; refine wl_lookup rfl _ _ _ _ rfl _ _ rfl rfl ?_) | (at_delete; refine wl_delete rfl _ _ _ _ rfl _ _ rfl rfl ?_) | (with_reducible refine wl_len rfl _ _ rfl _ rfl ?_) | (with_reducible refine wl_range rfl _ _ rfl _ rfl ?_) | (with_reducible refine wl_next rfl _ rfl _ rfl ?_) | (with_reducible refine wl_copy rfl _ _ _ _ rfl _ _ rfl rfl ?_) | (with_reducible refine wl_max rfl _ _ _ _ rfl _ _ rfl rfl ?_) | (with_reducible refine wl_min rfl _ _ _ _ rfl _ _ rfl rfl ?_))
  generalize hW : (((w.alloc (Obj.cells #[Value.pointer (some { block := d, off := 0 })] 24)).alloc (Obj.cells #[Value.string { data := s.toArray }] 9)).alloc (Obj.cells #[Value.int IntKind.i64 i] 3)).alloc (Obj.cells #[Value.slice ab body.length cb] 46) = W
  have hWs : W.heap.size = w.heap.size + 4 := by subst hW; simp
  have hkW : Keep No w W := by subst hW; exact ((((Keep.refl _ _).alloc _).alloc _).alloc _).alloc _
  have hF : Blk W w.heap.size #[Value.pointer (some { block := d, off := 0 })] 24 := by subst hW; exact (((Blk.new _ _ _).alloc _).alloc _).alloc _
  have hV : Blk W (w.heap.size + 1) #[Value.string { data := s.toArray }] 9 := by
    subst hW
    have := Blk.new (w.alloc (Obj.cells #[Value.pointer (some { block := d, off := 0 })] 24)) #[Value.string { data := s.toArray }] 9
    simp only [World.size_alloc] at this
    exact (this.alloc _).alloc _
  have hI : Blk W (w.heap.size + 1 + 1) #[Value.int IntKind.i64 i] 3 := by
    subst hW
    have := Blk.new ((w.alloc (Obj.cells #[Value.pointer (some { block := d, off := 0 })] 24)).alloc (Obj.cells #[Value.string { data := s.toArray }] 9)) #[Value.int IntKind.i64 i] 3
    simp only [World.size_alloc] at this
    exact this.alloc _
  have hU : Blk W (w.heap.size + 1 + 1 + 1) #[Value.slice ab body.length cb] 46 := by
    subst hW
    have := Blk.new (((w.alloc (Obj.cells #[Value.pointer (some { block := d, off := 0 })] 24)).alloc (Obj.cells #[Value.string { data := s.toArray }] 9)).alloc (Obj.cells #[Value.int IntKind.i64 i] 3)) #[Value.slice ab body.length cb] 46
    simp only [World.size_alloc] at this
    exact this
  have hA' : ∀ k, A k → k < W.heap.size := fun k ha => by have := hA k ha; omega
  have h1 := h.keep hA hkW fun _ _ h => h
  have hvb1 : Bts (fun k => B k ∧ k < w.heap.size) w (.slice ab body.length cb) body := hvb.mono fun k hk hb => ⟨hb, hk⟩
  have hvb2 : Bts (fun k => B k ∧ k < w.heap.size) W (.slice ab body.length cb) body := hvb1.keep hkW fun _ _ _ h => h
  have nA : ∀ j, w.heap.size ≤ j → ¬ A j := fun j hj ha => by have := hA _ ha; omega
  refine (step_all (B := A) 2 s [] i body W h1 hA' (fun k ha => ha) hfit.ct (enters_write1 _ _ _ _) (enters_write2 _ _ _ _) ?_ ?_).mono ?_
  · intro _
    exact write1_all s body i W h1 hfit hs hvb2 hl ((hF.cell 0).trans rfl) ((hV.cell 0).trans rfl) ((hI.cell 0).trans rfl) ((hU.cell 0).trans rfl)
  · intro w1 ho h2 k2
    obtain ⟨fb, nb, sb, wv, rows, h0⟩ := h2
    have hfn : ∃ f, find m.L s = some f ∧ 0 ≤ i ∧ i ≤ fileLen m.is f := by
      unfold own at ho
      cases hf : find m.L s with
      | none => rw [hf] at ho; cases ho
      | some f =>
        simp only [hf] at ho
        by_cases hi : i < 0 ∨ i > fileLen m.is f
        · rw [if_pos hi] at ho; cases ho
        · exact ⟨f, rfl, by omega, by omega⟩
    obtain ⟨f, hf, hi0, hi1⟩ := hfn
    obtain ⟨k, rfl⟩ : ∃ k : Nat, i = k := ⟨i.toNat, by omega⟩
    have hn := hfit.il f
    unfold fileLen at hi1
    exact write2_any (B := fun k => B k ∧ k < w.heap.size) s body w1 h0 hs hfit.wl ((hF.keep k2 (nA _ (by omega))).cell 0 |>.trans rfl) ((hV.keep k2 (nA _ (by omega))).cell 0 |>.trans rfl) ((hI.keep k2 (nA _ (by omega))).cell 0 |>.trans rfl) ((hU.keep k2 (nA _ (by omega))).cell 0 |>.trans rfl)
      hf (hvb2.keep k2 fun j _ hb => hBA j hb.1) (fun k hb => by have := k2.size; omega) (fun k hb => hBA k hb.1) (nA _ (by omega)) (nA _ (by omega)) (nA _ (by omega)) (by omega) hl hn
  · rintro e w' ⟨rfl, h2, k2⟩
    go_wp2_with (first | (at_builtin; refine wl_append rfl _ _ _ _ rfl _ _ rfl rfl ?_) | (at_make; refine wl_make rfl _ _ _ rfl _ _ rfl rfl ?_) | (at_mapUpdate; refine wl_mapUpdate rfl _ _ _ _ rfl _ _ _ rfl rfl rfl ?_) | (at_lookup; refine wl_lookup rfl _ _ _ _ rfl _ _ rfl rfl ?_) | (at_delete; refine wl_delete rfl _ _ _ _ rfl _ _ rfl rfl ?_) | (with_reducible refine wl_len rfl _ _ rfl _ rfl ?_) | (with_reducible refine wl_range rfl _ _ rfl _ rfl ?_) | (with_reducible refine wl_next rfl _ rfl _ rfl ?_) | (with_reducible refine wl_copy rfl _ _ _ _ rfl _ _ rfl rfl ?_) | (with_reducible refine wl_max rfl _ _ _ _ rfl _ _ rfl rfl ?_) | (with_reducible refine wl_min rfl _ _ _ _ rfl _ _ rfl rfl ?_))
    go_ret
    refine ⟨rfl, h2.mono fun k hk ha => ?_, (hkW.mono fun _ _ h => h.elim).trans' k2⟩
    rcases ha with ha | ha
    · exact .inl ha
    · exact .inr ⟨by omega, hk⟩
end Go.Proofs.YtkmoomgmmhmaeaaGreat
