/- Rename and Remove. Settling: what it is step by step (no program), and what each step leaves of the disk in memory. What holds ahead of each round of settle, and that each kind of round leaves it. No condition. -/
import Derived.Test.YtkmoomgmmhmaeaaGreatDiskU
import Derived.Test.YtkmoomgmmhmaeaaGreatDiskX
import Derived.Test.YtkmoomgmmhmaeaaGreatDiskF
namespace Go.Proofs.YtkmoomgmmhmaeaaGreat
open Go.RowKit Go.Dm Go.Dm.Dk Go.Maps

theorem enters_rename1 (a b c : Value) : Enters 80 #[a, b, c] := fun w => by kernel_rfl
theorem enters_rename2 (a b c : Value) : Enters 81 #[a, b, c] := fun w => by kernel_rfl
theorem enters_rename21 (a b c : Value) : Enters 82 #[a, b, c] := fun w => by kernel_rfl
theorem enters_remove1 (a b : Value) : Enters 62 #[a, b] := fun w => by kernel_rfl
theorem enters_remove2 (a b : Value) : Enters 64 #[a, b] := fun w => by kernel_rfl
theorem enters_remove21 (a b : Value) : Enters 65 #[a, b] := fun w => by kernel_rfl

def thereN (L : Names) (s : List UInt8) : Nat := if (find L s).isSome then 0 else 20

set_option maxRecDepth 100000 in
set_option maxHeartbeats 400000 in
theorem there_any {nb d : Nat} {fb : List Nat} {L : Names} (s : List UInt8) (w : World) (hs : s.length ≤ maxLen) (hn : MapL Tryz.prog 9 w nb (NL fb L)) (hd : w.cell? ⟨d, 1, none⟩ = some (.map (some nb))) :
    Calls Tryz.prog 63 #[.pointer (some ⟨d, 0, none⟩), .string ⟨s.toArray⟩] w fun e w' => e = .returned (.int .i64 (thereN L s : Nat)) ∧ w = w' := by
  cases hf : find L s with
  | none =>
    have e : thereN L s = 20 := by simp [thereN, hf]
    rw [e]
    go_enter Tryz.func63, Tryz.ntmps63
    go_wp2_with (first | (at_builtin; refine wl_append rfl _ _ _ _ rfl _ _ rfl rfl ?_) | (at_make; refine wl_make rfl _ _ _ rfl _ _ rfl rfl ?_) | (at_mapUpdate; refine wl_mapUpdate rfl _ _ _ _ rfl _ _ _ rfl rfl rfl ?_) | (at_lookup; refine wl_lookup rfl _ _ _ _ rfl _ _ rfl rfl ?_) | (at_delete; refine wl_delete rfl _ _ _ _ rfl _ _ rfl rfl ?_) | (with_reducible refine wl_len rfl _ _ rfl _ rfl ?_) | (with_reducible refine wl_range rfl _ _ rfl _ rfl ?_) | (with_reducible refine wl_next rfl _ rfl _ rfl ?_) | (with_reducible refine wl_copy rfl _ _ _ _ rfl _ _ rfl rfl ?_) | (with_reducible refine wl_max rfl _ _ _ _ rfl _ _ rfl rfl ?_) | (with_reducible refine wl_min rfl _ _ _ _ rfl _ _ rfl rfl ?_))
    refine (of_any d s _ hs hn hd).mono ?_
    rintro e w1 ⟨rfl, rfl⟩
    simp only [ofV, hf, Option.map_none, Option.getD_none]
    go_wp2_with (first | (at_builtin; refine wl_append rfl _ _ _ _ rfl _ _ rfl rfl ?_) | (at_make; refine wl_make rfl _ _ _ rfl _ _ rfl rfl ?_) | (at_mapUpdate; refine wl_mapUpdate rfl _ _ _ _ rfl _ _ _ rfl rfl rfl ?_) | (at_lookup; refine wl_lookup rfl _ _ _ _ rfl _ _ rfl rfl ?_) | (at_delete; refine wl_delete rfl _ _ _ _ rfl _ _ rfl rfl ?_) | (with_reducible refine wl_len rfl _ _ rfl _ rfl ?_) | (with_reducible refine wl_range rfl _ _ rfl _ rfl ?_) | (with_reducible refine wl_next rfl _ rfl _ rfl ?_) | (with_reducible refine wl_copy rfl _ _ _ _ rfl _ _ rfl rfl ?_) | (with_reducible refine wl_max rfl _ _ _ _ rfl _ _ rfl rfl ?_) | (with_reducible refine wl_min rfl _ _ _ _ rfl _ _ rfl rfl ?_))
    go_ret
    exact ⟨rfl, rfl⟩
  | some i =>
    have e : thereN L s = 0 := by simp [thereN, hf]
    rw [e]
    go_enter Tryz.func63, Tryz.ntmps63
    go_wp2_with (first | (at_builtin; refine wl_append rfl _ _ _ _ rfl _ _ rfl rfl ?_) | (at_make; refine wl_make rfl _ _ _ rfl _ _ rfl rfl ?_) | (at_mapUpdate; refine wl_mapUpdate rfl _ _ _ _ rfl _ _ _ rfl rfl rfl ?_) | (at_lookup; refine wl_lookup rfl _ _ _ _ rfl _ _ rfl rfl ?_) | (at_delete; refine wl_delete rfl _ _ _ _ rfl _ _ rfl rfl ?_) | (with_reducible refine wl_len rfl _ _ rfl _ rfl ?_) | (with_reducible refine wl_range rfl _ _ rfl _ rfl ?_) | (with_reducible refine wl_next rfl _ rfl _ rfl ?_) | (with_reducible refine wl_copy rfl _ _ _ _ rfl _ _ rfl rfl ?_) | (with_reducible refine wl_max rfl _ _ _ _ rfl _ _ rfl rfl ?_) | (with_reducible refine wl_min rfl _ _ _ _ rfl _ _ rfl rfl ?_))
    refine (of_any d s _ hs hn hd).mono ?_
    rintro e w1 ⟨rfl, rfl⟩
    simp only [ofV, hf, Option.map_some, Option.getD_some, fptr, ptrTo]
    go_wp2_with (first | (at_builtin; refine wl_append rfl _ _ _ _ rfl _ _ rfl rfl ?_) | (at_make; refine wl_make rfl _ _ _ rfl _ _ rfl rfl ?_) | (at_mapUpdate; refine wl_mapUpdate rfl _ _ _ _ rfl _ _ _ rfl rfl rfl ?_) | (at_lookup; refine wl_lookup rfl _ _ _ _ rfl _ _ rfl rfl ?_) | (at_delete; refine wl_delete rfl _ _ _ _ rfl _ _ rfl rfl ?_) | (with_reducible refine wl_len rfl _ _ rfl _ rfl ?_) | (with_reducible refine wl_range rfl _ _ rfl _ rfl ?_) | (with_reducible refine wl_next rfl _ rfl _ rfl ?_) | (with_reducible refine wl_copy rfl _ _ _ _ rfl _ _ rfl rfl ?_) | (with_reducible refine wl_max rfl _ _ _ _ rfl _ _ rfl rfl ?_) | (with_reducible refine wl_min rfl _ _ _ _ rfl _ _ rfl rfl ?_))
    go_ret
    exact ⟨rfl, rfl⟩

set_option maxRecDepth 100000 in
set_option maxHeartbeats 400000 in
theorem remove1_any {nb x y d : Nat} {fb : List Nat} {L : Names} (s : List UInt8) (w : World) (hs : s.length ≤ maxLen) (hn : MapL Tryz.prog 9 w nb (NL fb L)) (hd : w.cell? ⟨d, 1, none⟩ = some (.map (some nb)))
    (hx : w.cell? ⟨x, 0, none⟩ = some (.pointer (some ⟨d, 0, none⟩))) (hy : w.cell? ⟨y, 0, none⟩ = some (.string ⟨s.toArray⟩)) :
    Calls Tryz.prog 62 #[.pointer (some ⟨x, 0, none⟩), .pointer (some ⟨y, 0, none⟩)] w fun e w' => e = .returned (.int .i64 (thereN L s : Nat)) ∧ w = w' := by
  go_enter Tryz.func62, Tryz.ntmps62
  go_wp2_with (first | (at_builtin; refine wl_append rfl _ _ _ _ rfl _ _ rfl rfl ?_) | (at_make; refine wl_make rfl _ _ _ rfl _ _ rfl rfl ?_) | (at_mapUpdate; refine wl_mapUpdate rfl _ _ _ _ rfl _ _ _ rfl rfl rfl ?_) | (at_lookup; refine wl_lookup rfl _ _ _ _ rfl _ _ rfl rfl ?_) | (at_delete; refine wl_delete rfl _ _ _ _ rfl _ _ rfl rfl ?_) | (with_reducible refine wl_len rfl _ _ rfl _ rfl ?_) | (with_reducible refine wl_range rfl _ _ rfl _ rfl ?_) | (with_reducible refine wl_next rfl _ rfl _ rfl ?_) | (with_reducible refine wl_copy rfl _ _ _ _ rfl _ _ rfl rfl ?_) | (with_reducible refine wl_max rfl _ _ _ _ rfl _ _ rfl rfl ?_) | (with_reducible refine wl_min rfl _ _ _ _ rfl _ _ rfl rfl ?_))
  refine (there_any s _ hs hn hd).mono ?_
  rintro e w1 ⟨rfl, rfl⟩
  go_wp2_with (first | (at_builtin; refine wl_append rfl _ _ _ _ rfl _ _ rfl rfl ?_) | (at_make; refine wl_make rfl _ _ _ rfl _ _ rfl rfl ?_) | (at_mapUpdate; refine wl_mapUpdate rfl _ _ _ _ rfl _ _ _ rfl rfl rfl ?_) | (at_lookup; refine wl_lookup rfl _ _ _ _ rfl _ _ rfl rfl ?_) | (at_delete; refine wl_delete rfl _ _ _ _ rfl _ _ rfl rfl ?_) | (with_reducible refine wl_len rfl _ _ rfl _ rfl ?_) | (with_reducible refine wl_range rfl _ _ rfl _ rfl ?_) | (with_reducible refine wl_next rfl _ rfl _ rfl ?_) | (with_reducible refine wl_copy rfl _ _ _ _ rfl _ _ rfl rfl ?_) | (with_reducible refine wl_max rfl _ _ _ _ rfl _ _ rfl rfl ?_) | (with_reducible refine wl_min rfl _ _ _ _ rfl _ _ rfl rfl ?_))
  go_ret
  exact ⟨rfl, rfl⟩

set_option maxRecDepth 100000 in
set_option maxHeartbeats 400000 in
theorem rename1_any {nb x y z d : Nat} {fb : List Nat} {L : Names} (s t : List UInt8) (w : World) (hs : s.length ≤ maxLen) (hn : MapL Tryz.prog 9 w nb (NL fb L)) (hd : w.cell? ⟨d, 1, none⟩ = some (.map (some nb)))
    (hx : w.cell? ⟨x, 0, none⟩ = some (.pointer (some ⟨d, 0, none⟩))) (hy : w.cell? ⟨y, 0, none⟩ = some (.string ⟨s.toArray⟩)) (hz : w.cell? ⟨z, 0, none⟩ = some (.string ⟨t.toArray⟩)) :
    Calls Tryz.prog 80 #[.pointer (some ⟨x, 0, none⟩), .pointer (some ⟨y, 0, none⟩), .pointer (some ⟨z, 0, none⟩)] w fun e w' => e = .returned (.int .i64 ((if (find L s).isSome then (if t = [] then 1 else 0) else 20 : Nat) : Nat)) ∧ w = w' := by
  cases hf : find L s with
  | none =>
    have e1 : thereN L s = 20 := by simp [thereN, hf]
    have HE := Lib.hid e1; clear e1
    go_enter Tryz.func80, Tryz.ntmps80
    go_wp2_with (first | (at_builtin; refine wl_append rfl _ _ _ _ rfl _ _ rfl rfl ?_) | (at_make; refine wl_make rfl _ _ _ rfl _ _ rfl rfl ?_) | (at_mapUpdate; refine wl_mapUpdate rfl _ _ _ _ rfl _ _ _ rfl rfl rfl ?_) | (at_lookup; refine wl_lookup rfl _ _ _ _ rfl _ _ rfl rfl ?_) | (at_delete; refine wl_delete rfl _ _ _ _ rfl _ _ rfl rfl ?_) | (with_reducible refine wl_len rfl _ _ rfl _ rfl ?_) | (with_reducible refine wl_range rfl _ _ rfl _ rfl ?_) | (with_reducible refine wl_next rfl _ rfl _ rfl ?_) | (with_reducible refine wl_copy rfl _ _ _ _ rfl _ _ rfl rfl ?_) | (with_reducible refine wl_max rfl _ _ _ _ rfl _ _ rfl rfl ?_) | (with_reducible refine wl_min rfl _ _ _ _ rfl _ _ rfl rfl ?_))
    refine (there_any s _ hs hn hd).mono ?_
    rintro e w1 ⟨rfl, rfl⟩
    rw [HE.out]
    go_wp2_with (first | (at_builtin; refine wl_append rfl _ _ _ _ rfl _ _ rfl rfl ?_) | (at_make; refine wl_make rfl _ _ _ rfl _ _ rfl rfl ?_) | (at_mapUpdate; refine wl_mapUpdate rfl _ _ _ _ rfl _ _ _ rfl rfl rfl ?_) | (at_lookup; refine wl_lookup rfl _ _ _ _ rfl _ _ rfl rfl ?_) | (at_delete; refine wl_delete rfl _ _ _ _ rfl _ _ rfl rfl ?_) | (with_reducible refine wl_len rfl _ _ rfl _ rfl ?_) | (with_reducible refine wl_range rfl _ _ rfl _ rfl ?_) | (with_reducible refine wl_next rfl _ rfl _ rfl ?_) | (with_reducible refine wl_copy rfl _ _ _ _ rfl _ _ rfl rfl ?_) | (with_reducible refine wl_max rfl _ _ _ _ rfl _ _ rfl rfl ?_) | (with_reducible refine wl_min rfl _ _ _ _ rfl _ _ rfl rfl ?_))
    go_ret
    exact ⟨rfl, rfl⟩
  | some i =>
    have e1 : thereN L s = 0 := by simp [thereN, hf]
    have HE := Lib.hid e1; clear e1
    by_cases h0 : t = []
    · subst h0
      go_enter Tryz.func80, Tryz.ntmps80
      go_wp2_with (first | (at_builtin; refine wl_append rfl _ _ _ _ rfl _ _ rfl rfl ?_) | (at_make; refine wl_make rfl _ _ _ rfl _ _ rfl rfl ?_) | (at_mapUpdate; refine wl_mapUpdate rfl _ _ _ _ rfl _ _ _ rfl rfl rfl ?_) | (at_lookup; refine wl_lookup rfl _ _ _ _ rfl _ _ rfl rfl ?_) | (at_delete; refine wl_delete rfl _ _ _ _ rfl _ _ rfl rfl ?_) | (with_reducible refine wl_len rfl _ _ rfl _ rfl ?_) | (with_reducible refine wl_range rfl _ _ rfl _ rfl ?_) | (with_reducible refine wl_next rfl _ rfl _ rfl ?_) | (with_reducible refine wl_copy rfl _ _ _ _ rfl _ _ rfl rfl ?_) | (with_reducible refine wl_max rfl _ _ _ _ rfl _ _ rfl rfl ?_) | (with_reducible refine wl_min rfl _ _ _ _ rfl _ _ rfl rfl ?_))
      refine (there_any s _ hs hn hd).mono ?_
      rintro e w1 ⟨rfl, rfl⟩
      rw [HE.out]
      go_wp2_with (first | (at_builtin; refine wl_append rfl _ _ _ _ rfl _ _ rfl rfl ?_) | (at_make; refine wl_make rfl _ _ _ rfl _ _ rfl rfl ?_) | (at_mapUpdate; refine wl_mapUpdate rfl _ _ _ _ rfl _ _ _ rfl rfl rfl ?_) | (at_lookup; refine wl_lookup rfl _ _ _ _ rfl _ _ rfl rfl ?_) | (at_delete; refine wl_delete rfl _ _ _ _ rfl _ _ rfl rfl ?_) | (with_reducible refine wl_len rfl _ _ rfl _ rfl ?_) | (with_reducible refine wl_range rfl _ _ rfl _ rfl ?_) | (with_reducible refine wl_next rfl _ rfl _ rfl ?_) | (with_reducible refine wl_copy rfl _ _ _ _ rfl _ _ rfl rfl ?_) | (with_reducible refine wl_max rfl _ _ _ _ rfl _ _ rfl rfl ?_) | (with_reducible refine wl_min rfl _ _ _ _ rfl _ _ rfl rfl ?_))
      go_ret
      exact ⟨rfl, rfl⟩
    · have h1 : t.isEmpty = false := by cases t <;> simp_all
      have e2 : (if (some i).isSome = true then (if t = [] then 1 else 0) else 20 : Nat) = 0 := by simp [h0]
      rw [e2]
      go_enter Tryz.func80, Tryz.ntmps80
      go_wp2_with (first | (at_builtin; refine wl_append rfl _ _ _ _ rfl _ _ rfl rfl ?_) | (at_make; refine wl_make rfl _ _ _ rfl _ _ rfl rfl ?_) | (at_mapUpdate; refine wl_mapUpdate rfl _ _ _ _ rfl _ _ _ rfl rfl rfl ?_) | (at_lookup; refine wl_lookup rfl _ _ _ _ rfl _ _ rfl rfl ?_) | (at_delete; refine wl_delete rfl _ _ _ _ rfl _ _ rfl rfl ?_) | (with_reducible refine wl_len rfl _ _ rfl _ rfl ?_) | (with_reducible refine wl_range rfl _ _ rfl _ rfl ?_) | (with_reducible refine wl_next rfl _ rfl _ rfl ?_) | (with_reducible refine wl_copy rfl _ _ _ _ rfl _ _ rfl rfl ?_) | (with_reducible refine wl_max rfl _ _ _ _ rfl _ _ rfl rfl ?_) | (with_reducible refine wl_min rfl _ _ _ _ rfl _ _ rfl rfl ?_))
      refine (there_any s _ hs hn hd).mono ?_
      rintro e w1 ⟨rfl, rfl⟩
      rw [HE.out]
      go_wp2_with (first | (at_builtin; refine wl_append rfl _ _ _ _ rfl _ _ rfl rfl ?_) | (at_make; refine wl_make rfl _ _ _ rfl _ _ rfl rfl ?_) | (at_mapUpdate; refine wl_mapUpdate rfl _ _ _ _ rfl _ _ _ rfl rfl rfl ?_) | (at_lookup; refine wl_lookup rfl _ _ _ _ rfl _ _ rfl rfl ?_) | (at_delete; refine wl_delete rfl _ _ _ _ rfl _ _ rfl rfl ?_) | (with_reducible refine wl_len rfl _ _ rfl _ rfl ?_) | (with_reducible refine wl_range rfl _ _ rfl _ rfl ?_) | (with_reducible refine wl_next rfl _ rfl _ rfl ?_) | (with_reducible refine wl_copy rfl _ _ _ _ rfl _ _ rfl rfl ?_) | (with_reducible refine wl_max rfl _ _ _ _ rfl _ _ rfl rfl ?_) | (with_reducible refine wl_min rfl _ _ _ _ rfl _ _ rfl rfl ?_))
      go_ret
      exact ⟨rfl, rfl⟩

set_option maxHeartbeats 400000 in
theorem remove21_any {nb x : Nat} {fb : List Nat} {L : Names} (s : List UInt8) (w : World) (hs : s.length ≤ maxLen) (hn : MapL Tryz.prog 9 w nb (NL fb L))
    (hx : w.cell? ⟨x, 0, none⟩ = some (.string ⟨s.toArray⟩)) :
    Calls Tryz.prog 65 #[.map (some nb), .pointer (some ⟨x, 0, none⟩)] w fun e w' => e = .returned (.tuple #[]) ∧ MapL Tryz.prog 9 w' nb (NL fb (without L s)) ∧ Keep (fun k => k = nb) w w' := by
  go_enter Tryz.func65, Tryz.ntmps65
  go_wp2_with (first | (at_builtin; refine wl_append rfl _ _ _ _ rfl _ _ rfl rfl ?_) | (at_make; refine wl_make rfl _ _ _ rfl _ _ rfl rfl ?_) | (at_mapUpdate; refine wl_mapUpdate rfl _ _ _ _ rfl _ _ _ rfl rfl rfl ?_) | (at_lookup; refine wl_lookup rfl _ _ _ _ rfl _ _ rfl rfl ?_) | (at_delete; refine wl_delete rfl _ _ _ _ rfl _ _ rfl rfl ?_) | (with_reducible refine wl_len rfl _ _ rfl _ rfl ?_) | (with_reducible refine wl_range rfl _ _ rfl _ rfl ?_) | (with_reducible refine wl_next rfl _ rfl _ rfl ?_) | (with_reducible refine wl_copy rfl _ _ _ _ rfl _ _ rfl rfl ?_) | (with_reducible refine wl_max rfl _ _ _ _ rfl _ _ rfl rfl ?_) | (with_reducible refine wl_min rfl _ _ _ _ rfl _ _ rfl rfl ?_))
  refine rg_delete hn kStr Tryz.underlying57 (kOf hs) ?_
  intro w' h1 h2 _
  rw [eraseL_NL] at h1
  go_wp2_with (first | (at_builtin; refine wl_append rfl _ _ _ _ rfl _ _ rfl rfl ?_) | (at_make; refine wl_make rfl _ _ _ rfl _ _ rfl rfl ?_) | (at_mapUpdate; refine wl_mapUpdate rfl _ _ _ _ rfl _ _ _ rfl rfl rfl ?_) | (at_lookup; refine wl_lookup rfl _ _ _ _ rfl _ _ rfl rfl ?_) | (at_delete; refine wl_delete rfl _ _ _ _ rfl _ _ rfl rfl ?_) | (with_reducible refine wl_len rfl _ _ rfl _ rfl ?_) | (with_reducible refine wl_range rfl _ _ rfl _ rfl ?_) | (with_reducible refine wl_next rfl _ rfl _ rfl ?_) | (with_reducible refine wl_copy rfl _ _ _ _ rfl _ _ rfl rfl ?_) | (with_reducible refine wl_max rfl _ _ _ _ rfl _ _ rfl rfl ?_) | (with_reducible refine wl_min rfl _ _ _ _ rfl _ _ rfl rfl ?_))
  go_end0
  exact ⟨rfl, h1, h2⟩

def renamed (L : Names) (s t : List UInt8) : Names :=
  match find L s with
  | none => L
  | some f => withN (without L s) t f

set_option maxRecDepth 100000 in
set_option maxHeartbeats 400000 in
theorem rename21_any {nb x y : Nat} {fb : List Nat} {L : Names} (s t : List UInt8) (w : World) (hs : s.length ≤ maxLen) (ht : t.length ≤ maxLen) (hL : L.length ≤ 1099511627776) (hn : MapL Tryz.prog 9 w nb (NL fb L))
    (hx : Blk w x #[.string ⟨s.toArray⟩] 9) (hy : Blk w y #[.string ⟨t.toArray⟩] 9) :
    Calls Tryz.prog 82 #[.map (some nb), .pointer (some ⟨x, 0, none⟩), .pointer (some ⟨y, 0, none⟩)] w fun e w' => e = .returned (.tuple #[]) ∧ MapL Tryz.prog 9 w' nb (NL fb (renamed L s t)) ∧ Keep (fun k => k = nb) w w' := by
  have qx : w.cell? ⟨x, 0, none⟩ = some (.string ⟨s.toArray⟩) := hx.cell 0
  cases hf : find L s with
  | none =>
    have e1 : renamed L s t = L := by simp [renamed, hf]
    rw [e1]
    go_enter Tryz.func82, Tryz.ntmps82
    go_wp2_with (first | (at_builtin; refine wl_append rfl _ _ _ _ rfl _ _ rfl rfl ?_) | (at_make; refine wl_make rfl _ _ _ rfl _ _ rfl rfl ?_) | (at_mapUpdate; refine wl_mapUpdate rfl _ _ _ _ rfl _ _ _ rfl rfl rfl ?_) | (at_lookup; refine wl_lookup rfl _ _ _ _ rfl _ _ rfl rfl ?_) | (at_delete; refine wl_delete rfl _ _ _ _ rfl _ _ rfl rfl ?_) | (with_reducible refine wl_len rfl _ _ rfl _ rfl ?_) | (with_reducible refine wl_range rfl _ _ rfl _ rfl ?_) | (with_reducible refine wl_next rfl _ rfl _ rfl ?_) | (with_reducible refine wl_copy rfl _ _ _ _ rfl _ _ rfl rfl ?_) | (with_reducible refine wl_max rfl _ _ _ _ rfl _ _ rfl rfl ?_) | (with_reducible refine wl_min rfl _ _ _ _ rfl _ _ rfl rfl ?_))
    refine rg_lookup hn kStr Tryz.underlying57 (zFile w) (kOf hs) ?_
    rw [findL_NL, hf]
    simp only [Option.map_none, Option.getD_none]
    go_wp2_with (first | (at_builtin; refine wl_append rfl _ _ _ _ rfl _ _ rfl rfl ?_) | (at_make; refine wl_make rfl _ _ _ rfl _ _ rfl rfl ?_) | (at_mapUpdate; refine wl_mapUpdate rfl _ _ _ _ rfl _ _ _ rfl rfl rfl ?_) | (at_lookup; refine wl_lookup rfl _ _ _ _ rfl _ _ rfl rfl ?_) | (at_delete; refine wl_delete rfl _ _ _ _ rfl _ _ rfl rfl ?_) | (with_reducible refine wl_len rfl _ _ rfl _ rfl ?_) | (with_reducible refine wl_range rfl _ _ rfl _ rfl ?_) | (with_reducible refine wl_next rfl _ rfl _ rfl ?_) | (with_reducible refine wl_copy rfl _ _ _ _ rfl _ _ rfl rfl ?_) | (with_reducible refine wl_max rfl _ _ _ _ rfl _ _ rfl rfl ?_) | (with_reducible refine wl_min rfl _ _ _ _ rfl _ _ rfl rfl ?_))
    go_end0
    exact ⟨rfl, hn, Keep.refl _ _⟩
  | some i =>
    have e1 : renamed L s t = withN (without L s) t i := by simp [renamed, hf]
    rw [e1]
    have hl2 : (without L s).length ≤ 1099511627776 := Nat.le_trans (List.length_filter_le _ _) hL
    go_enter Tryz.func82, Tryz.ntmps82
    go_wp2_with (first | (at_builtin; refine wl_append rfl _ _ _ _ rfl _ _ rfl rfl ?_) | (at_make; refine wl_make rfl _ _ _ rfl _ _ rfl rfl ?_) | (at_mapUpdate; refine wl_mapUpdate rfl _ _ _ _ rfl _ _ _ rfl rfl rfl ?_) | (at_lookup; refine wl_lookup rfl _ _ _ _ rfl _ _ rfl rfl ?_) | (at_delete; refine wl_delete rfl _ _ _ _ rfl _ _ rfl rfl ?_) | (with_reducible refine wl_len rfl _ _ rfl _ rfl ?_) | (with_reducible refine wl_range rfl _ _ rfl _ rfl ?_) | (with_reducible refine wl_next rfl _ rfl _ rfl ?_) | (with_reducible refine wl_copy rfl _ _ _ _ rfl _ _ rfl rfl ?_) | (with_reducible refine wl_max rfl _ _ _ _ rfl _ _ rfl rfl ?_) | (with_reducible refine wl_min rfl _ _ _ _ rfl _ _ rfl rfl ?_))
    refine rg_lookup hn kStr Tryz.underlying57 (zFile w) (kOf hs) ?_
    rw [findL_NL, hf]
    simp only [Option.map_some, Option.getD_some, fptr, ptrTo]
    go_wp2_with (first | (at_builtin; refine wl_append rfl _ _ _ _ rfl _ _ rfl rfl ?_) | (at_make; refine wl_make rfl _ _ _ rfl _ _ rfl rfl ?_) | (at_mapUpdate; refine wl_mapUpdate rfl _ _ _ _ rfl _ _ _ rfl rfl rfl ?_) | (at_lookup; refine wl_lookup rfl _ _ _ _ rfl _ _ rfl rfl ?_) | (at_delete; refine wl_delete rfl _ _ _ _ rfl _ _ rfl rfl ?_) | (with_reducible refine wl_len rfl _ _ rfl _ rfl ?_) | (with_reducible refine wl_range rfl _ _ rfl _ rfl ?_) | (with_reducible refine wl_next rfl _ rfl _ rfl ?_) | (with_reducible refine wl_copy rfl _ _ _ _ rfl _ _ rfl rfl ?_) | (with_reducible refine wl_max rfl _ _ _ _ rfl _ _ rfl rfl ?_) | (with_reducible refine wl_min rfl _ _ _ _ rfl _ _ rfl rfl ?_))
    refine rg_delete hn kStr Tryz.underlying57 (kOf hs) ?_
    intro w1 h1 k1 _
    rw [eraseL_NL] at h1
    have hy1 : w1.cell? ⟨y, 0, none⟩ = some (.string ⟨t.toArray⟩) := (hy.keep k1 (fun e => hn.ne_blk hy e.symm)).cell 0
    go_wp2_with (first | (at_builtin; refine wl_append rfl _ _ _ _ rfl _ _ rfl rfl ?_) | (at_make; refine wl_make rfl _ _ _ rfl _ _ rfl rfl ?_) | (at_mapUpdate; refine wl_mapUpdate rfl _ _ _ _ rfl _ _ _ rfl rfl rfl ?_) | (at_lookup; refine wl_lookup rfl _ _ _ _ rfl _ _ rfl rfl ?_) | (at_delete; refine wl_delete rfl _ _ _ _ rfl _ _ rfl rfl ?_) | (with_reducible refine wl_len rfl _ _ rfl _ rfl ?_) | (with_reducible refine wl_range rfl _ _ rfl _ rfl ?_) | (with_reducible refine wl_next rfl _ rfl _ rfl ?_) | (with_reducible refine wl_copy rfl _ _ _ _ rfl _ _ rfl rfl ?_) | (with_reducible refine wl_max rfl _ _ _ _ rfl _ _ rfl rfl ?_) | (with_reducible refine wl_min rfl _ _ _ _ rfl _ _ rfl rfl ?_))
    refine rg_store h1 kStr Tryz.underlying57 (by unfold NL maxLen; rw [List.length_map]; omega) (kOf ht) ?_
    intro w2 h2 k2 _
    go_wp2_with (first | (at_builtin; refine wl_append rfl _ _ _ _ rfl _ _ rfl rfl ?_) | (at_make; refine wl_make rfl _ _ _ rfl _ _ rfl rfl ?_) | (at_mapUpdate; refine wl_mapUpdate rfl _ _ _ _ rfl _ _ _ rfl rfl rfl ?_) | (at_lookup; refine wl_lookup rfl _ _ _ _ rfl _ _ rfl rfl ?_) | (at_delete; refine wl_delete rfl _ _ _ _ rfl _ _ rfl rfl ?_) | (with_reducible refine wl_len rfl _ _ rfl _ rfl ?_) | (with_reducible refine wl_range rfl _ _ rfl _ rfl ?_) | (with_reducible refine wl_next rfl _ rfl _ rfl ?_) | (with_reducible refine wl_copy rfl _ _ _ _ rfl _ _ rfl rfl ?_) | (with_reducible refine wl_max rfl _ _ _ _ rfl _ _ rfl rfl ?_) | (with_reducible refine wl_min rfl _ _ _ _ rfl _ _ rfl rfl ?_))
    go_end0
    exact ⟨rfl, h2.perm (putL_NL fb _ t i), k1.trans' k2⟩
theorem mem_renamed {L : Names} {s t s' : List UInt8} {i : Nat} (h : (s', i) ∈ renamed L s t) : ∃ s'', (s'', i) ∈ L := by
  unfold renamed at h
  split at h
  · exact ⟨_, h⟩
  · next f hf =>
    rcases List.mem_append.1 h with h | h
    · exact ⟨s', (List.mem_filter.1 (List.mem_filter.1 h).1).1⟩
    · simp at h
      rw [h.2]
      exact ⟨s, find_mem hf⟩
end Go.Proofs.YtkmoomgmmhmaeaaGreat
namespace Go.Dm.Dk

theorem settleGo_snoc (sel : Nat → Bool) (o : Op) : ∀ (l : List Op) (i : Nat) (m : M), settleGo sel i (l ++ [o]) m = settle1 (sel (i + l.length)) o (settleGo sel i l m)
  | [], i, m => by simp [settleGo]
  | p :: r, i, m => by
    simp only [List.cons_append, settleGo, List.length_cons]
    rw [settleGo_snoc sel o r]
    congr 2; omega
def st (sel : Nat → Bool) (m : M) (k : Nat) : M := settleGo sel 0 (m.wait.take k) { m with wait := [] }
theorem st_zero (sel : Nat → Bool) (m : M) : st sel m 0 = { m with wait := [] } := rfl
theorem st_succ (sel : Nat → Bool) (m : M) {k : Nat} {o : Op} (h : m.wait[k]? = some o) : st sel m (k + 1) = settle1 (sel k) o (st sel m k) := by
  unfold st
  have hk := (List.getElem?_eq_some_iff.1 h).1
  rw [List.take_add_one, h, Option.toList_some, settleGo_snoc]
  congr 2
  rw [List.length_take]; omega
theorem st_all (sel : Nat → Bool) (m : M) : st sel m m.wait.length = settle m sel := by
  unfold st settle; rw [List.take_length]

/-- no number of what is settled is too great -/
structure FitW (m : M) : Prop where
  wl : m.wait.length ≤ 1099511627776
  sl : m.S.length + m.wait.length ≤ 1099511627776
  ul : ∀ f, (m.sure.getD f []).length ≤ 1099511627776
  wb : ∀ o ∈ m.wait, o.at_ + o.b.length ≤ 1099511627776 ∧ o.frm.length ≤ maxLen ∧ o.to.length ≤ maxLen

structure StOk (m s : M) (k : Nat) : Prop where
  room : s.room = m.room
  is : s.is = m.is
  L : s.L = m.L
  off : s.off = m.off
  cut : s.cut = m.cut
  sl : s.sure.length = m.sure.length
  sub : ∀ o ∈ s.wait, o ∈ m.wait
  wl : s.wait.length ≤ k
  S : s.S.length ≤ m.S.length + k
  ul : ∀ f, (s.sure.getD f []).length ≤ 1099511627776

theorem length_withN (L : Names) (s : List UInt8) (i : Nat) : (withN L s i).length ≤ L.length + 1 := by
  unfold withN without
  rw [List.length_append]
  have := List.length_filter_le (fun p : List UInt8 × Nat => p.1 != s) L
  simp; omega
theorem length_without (L : Names) (s : List UInt8) : (without L s).length ≤ L.length := List.length_filter_le _ _
theorem length_namesOp (L : Names) (o : Op) : (namesOp L o).length ≤ L.length + 1 := by
  unfold namesOp
  split
  · exact length_withN _ _ _
  · split
    · have := length_without L o.frm; omega
    · split
      · omega
      · next f _ =>
        have h1 := length_withN (without L o.frm) o.to f
        have h2 := length_without L o.frm
        omega

theorem stOk (sel : Nat → Bool) (m : M) (hf : FitW m) : ∀ k, k ≤ m.wait.length → StOk m (st sel m k) k
  | 0, _ => by rw [st_zero]; exact ⟨rfl, rfl, rfl, rfl, rfl, rfl, fun o h => (by cases h), Nat.le_refl _, Nat.le_refl _, hf.ul⟩
  | k + 1, hk => by
    have ih := stOk sel m hf k (by omega)
    obtain ⟨o, ho⟩ : ∃ o, m.wait[k]? = some o := ⟨_, List.getElem?_eq_getElem (by omega)⟩
    have hm : o ∈ m.wait := List.mem_of_getElem? ho
    rw [st_succ sel m ho]
    unfold settle1
    split
    · refine { ih with sub := fun p hp => ?_, wl := ?_, S := ?_ }
      · rcases List.mem_append.1 hp with hp | hp
        · exact ih.sub p hp
        · simp at hp; subst hp; exact hm
      · have := ih.wl; simp; omega
      · have := ih.S; show (st sel m k).S.length ≤ m.S.length + (k + 1); omega
    · split
      · refine { ih with sl := ?_, wl := ?_, S := ?_, ul := ?_ }
        · simp [putF, ih.sl]
        · have := ih.wl; show (st sel m k).wait.length ≤ k + 1; omega
        · have := ih.S; show (st sel m k).S.length ≤ m.S.length + (k + 1); omega
        · intro f
          have h1 := ih.ul f
          have h2 := (hf.wb o hm).1
          simp only [putF, List.getD, List.getElem?_set]
          split
          · next e =>
            subst e
            split
            · have h3 := ih.ul o.file
              simp only [List.getD] at h3
              rw [Option.getD_some, length_laidB]; omega
            · simp
          · exact h1
      · refine { ih with wl := ?_, S := ?_ }
        · have := ih.wl; show (st sel m k).wait.length ≤ k + 1; omega
        · have := ih.S
          have h1 := length_namesOp (st sel m k).S o
          show (namesOp (st sel m k).S o).length ≤ m.S.length + (k + 1); omega
end Go.Dm.Dk

namespace Go.Proofs.YtkmoomgmmhmaeaaGreat
open Go.RowKit Go.Dm Go.Dm.Dk Go.Maps

/-- rows of waiting operations that don't belong to the disk (yet) -/
structure LeftAt (A : Nat → Prop) (w : World) (base : Nat) (fb : List Nat) (lv : Value) (W : List Dk.Op) (lrows : List (List Value)) : Prop where
  row : w.ownsRow base 71 4 lv W.length lrows.flatten
  rowA : ∀ g, lv.ownBlock = some g → A g
  rlen : lrows.length = W.length
  pend : ∀ (i : Nat) (o : Dk.Op), W[i]? = some o → ∃ cs : List Value, lrows[i]? = some cs ∧ PendAt A w fb o cs

theorem LeftAt.same {A : Nat → Prop} {w w' : World} {base : Nat} {fb : List Nat} {lv : Value} {W : List Dk.Op} {lrows : List (List Value)} (h : LeftAt A w base fb lv W lrows) (hs : w.heap.size ≤ w'.heap.size)
    (e : ∀ k, A k → (∃ cs fr t, w.heap[k]? = some (.cells cs t fr) ∧ (t = 68 ∨ t = 9 ∨ t = 5 ∨ t = 71)) → w'.heap[k]? = w.heap[k]?) : LeftAt A w' base fb lv W lrows where
  row := by
    refine ownsRow_same h.row fun g hg => ?_
    rcases h.row.2 with ⟨rfl, _⟩ | ⟨g', cap, cur, rfl, _, hb, _⟩
    · cases hg
    · cases hg; exact e _ (h.rowA _ rfl) ⟨_, _, _, hb, by simp⟩
  rowA := h.rowA
  rlen := h.rlen
  pend := fun i o ho => by
    obtain ⟨cs, h1, h2⟩ := h.pend i o ho
    refine ⟨cs, h1, h2.same hs fun k ha ⟨cs, fr, t, hk, ht⟩ => e k ha ⟨cs, fr, t, hk, ?_⟩⟩
    rcases ht with h | h | h <;> simp [h]
theorem LeftAt.mono {A B : Nat → Prop} {w : World} {base : Nat} {fb : List Nat} {lv : Value} {W : List Dk.Op} {lrows : List (List Value)} (h : LeftAt A w base fb lv W lrows) (hab : ∀ k, k < w.heap.size → A k → B k) : LeftAt B w base fb lv W lrows where
  row := h.row
  rowA := fun g hg => hab g (h.row.lt g hg).2 (h.rowA g hg)
  rlen := h.rlen
  pend := fun i o ho => by
    obtain ⟨cs, h1, h2⟩ := h.pend i o ho
    exact ⟨cs, h1, h2.mono hab⟩

/-- other rows of waiting operations are written -/
theorem DRep.tags {A : Nat → Prop} {w w' : World} {d : Nat} {m : M} {fb : List Nat} {nb sb : Nat} {wv : Value} {rows : List (List Value)} (h : DRep A w d m fb nb sb wv rows) (hs : w.heap.size ≤ w'.heap.size)
    (e : ∀ k, A k → (∃ cs fr, w.heap[k]? = some (.cells cs 71 fr) ∧ ¬ wv.ownBlock = some k) ∨ w'.heap[k]? = w.heap[k]?) : DRep A w' d m fb nb sb wv rows := by
  have hT : ∀ (k : Nat) (cs : Array Value) (t : TypeId) (fr : Nat × Nat), A k → w.heap[k]? = some (Obj.cells cs t fr) → t ≠ 71 → w'.heap[k]? = w.heap[k]? := by
    intro k cs t fr ha hk h1
    rcases e k ha with ⟨cs', fr', h2, _⟩ | h2
    · rw [hk] at h2; cases h2; exact absurd rfl h1
    · exact h2
  have hM : ∀ {b : Nat} {L : List (Lit × Value)}, A b → MapL Tryz.prog 9 w b L → w'.heap[b]? = w.heap[b]? := by
    intro b L ha hm
    rcases e b ha with ⟨cs', fr', h2, _⟩ | h2
    · obtain ⟨es, c, h3⟩ := hm.obj
      rw [h3] at h2; cases h2
    · exact h2
  refine { blk := h.blk.same (hT _ _ _ _ h.Ad h.blk (by decide)), nm := h.nm.same (hM h.An h.nm), sm := h.sm.same (hM h.As h.sm), ne := h.ne, row := ownsRow_same h.row fun g hg => ?_, rowA := h.rowA, rlen := h.rlen, pend := ?_, fl := h.fl, sl := h.sl, nd := h.nd, fbl := fun b hb => Nat.lt_of_lt_of_le (h.fbl b hb) hs, file := ?_, Ad := h.Ad, An := h.An, As := h.As }
  · rcases e g (h.rowA g hg) with ⟨_, _, _, h2⟩ | h2
    · exact absurd hg h2
    · exact h2
  · intro i o ho
    obtain ⟨cs, h1, h2⟩ := h.pend i o ho
    exact ⟨cs, h1, h2.same hs fun k ha ⟨cs, fr, t, hk, ht⟩ => hT k cs t fr ha hk (by rcases ht with rfl | rfl | rfl <;> decide)⟩
  · intro i hi
    obtain ⟨h1, h2, h3⟩ := h.file i hi
    obtain ⟨v1, v2, h4, _⟩ := id h3
    exact ⟨h1, h2, h3.same hs (hT _ _ _ _ h2 h4 (by decide)) fun k _ ha ⟨cs, fr, hk⟩ => hT k cs _ fr ha hk (by decide)⟩

/-- the map of sure names is another one -/
theorem DRep.smapped {A : Nat → Prop} {w w' : World} {d : Nat} {m : M} {fb : List Nat} {nb sb : Nat} {wv : Value} {rows : List (List Value)} {S' : Names} (h : DRep A w d m fb nb sb wv rows) (hk : Keep (fun k => k = sb) w w')
    (hm : MapL Tryz.prog 9 w' sb (NL fb S')) (hS : ∀ i, (∃ s, (s, i) ∈ S') → Live m i) : DRep A w' d { m with S := S' } fb nb sb wv rows := by
  have hT : ∀ (k : Nat) (cs : Array Value) (t : TypeId) (fr : Nat × Nat), w.heap[k]? = some (Obj.cells cs t fr) → w'.heap[k]? = w.heap[k]? := by
    intro k cs t fr hk2
    refine hk.block k (Array.getElem?_eq_some_iff.1 hk2).1 ?_
    rintro rfl
    obtain ⟨es, c, e⟩ := h.sm.obj
    rw [e] at hk2; cases hk2
  have hL : ∀ i, Live { m with S := S' } i → Live m i := by
    rintro i (hi | hi | hi)
    · exact .inl hi
    · exact hS i hi
    · exact .inr (.inr hi)
  refine { blk := h.blk.same (hT _ _ _ _ h.blk), nm := h.nm.keep hk h.ne, sm := hm, ne := h.ne, row := ownsRow_same h.row fun g hg => ?_, rowA := h.rowA, rlen := h.rlen, pend := ?_, fl := h.fl, sl := h.sl, nd := h.nd, fbl := fun b hb => Nat.lt_of_lt_of_le (h.fbl b hb) hk.size, file := ?_, Ad := h.Ad, An := h.An, As := h.As }
  · rcases h.row.2 with ⟨e, _⟩ | ⟨g', cap, cur, e, _, hb, _⟩
    · subst e; cases hg
    · subst e; cases hg; exact hT _ _ _ _ hb
  · intro i o ho
    obtain ⟨cs, h1, h2⟩ := h.pend i o ho
    exact ⟨cs, h1, h2.same hk.size fun k _ ⟨cs, fr, t, hk, _⟩ => hT k cs t fr hk⟩
  · intro i hi
    obtain ⟨h1, h2, h3⟩ := h.file i (hL i hi)
    obtain ⟨v1, v2, h4, _⟩ := id h3
    exact ⟨h1, h2, h3.same hk.size (hT _ _ _ _ h4) fun k _ _ ⟨cs, fr, hk⟩ => hT k cs _ fr hk⟩

/-- other rows are the disk's from now on -/
theorem DRep.rewait {A : Nat → Prop} {w : World} {d base : Nat} {m : M} {fb : List Nat} {nb sb : Nat} {wv lv : Value} {rows lrows : List (List Value)} {W : List Dk.Op} (h : DRep A w d m fb nb sb wv rows) (hl : LeftAt A w base fb lv W lrows)
    (hW : ∀ o ∈ W, o ∈ m.wait) : DRep A (w.setCell ⟨d, 3, none⟩ lv) d { m with wait := W } fb nb sb lv lrows := by
  have hB : ∀ k, k ≠ d → (w.setCell ⟨d, 3, none⟩ lv).heap[k]? = w.heap[k]? := fun k hk => Below.heap_setCell _ _ _ _ hk
  have hT : ∀ (k : Nat) (cs : Array Value) (t : TypeId) (fr : Nat × Nat), w.heap[k]? = some (Obj.cells cs t fr) → t ≠ 60 → (w.setCell ⟨d, 3, none⟩ lv).heap[k]? = w.heap[k]? := by
    intro k cs t fr hk h1
    refine hB k ?_
    rintro rfl
    rw [show w.heap[k]? = _ from h.blk] at hk; cases hk; exact h1 rfl
  have hs : w.heap.size ≤ (w.setCell ⟨d, 3, none⟩ lv).heap.size := by simp
  have hl2 : LeftAt A (w.setCell ⟨d, 3, none⟩ lv) base fb lv W lrows := hl.same hs fun k _ ⟨cs, fr, t, hk, ht⟩ => hT k cs t fr hk (by rcases ht with rfl | rfl | rfl | rfl <;> decide)
  have hL : ∀ i, Live { m with wait := W } i → Live m i := by
    rintro i (hi | hi | ⟨o, ho, h2⟩)
    · exact .inl hi
    · exact .inr (.inl hi)
    · exact .inr (.inr ⟨o, hW o ho, h2⟩)
  refine { blk := h.blk.set _, nm := h.nm.same (hB _ (h.nm.ne_blk h.blk)), sm := h.sm.same (hB _ (h.sm.ne_blk h.blk)), ne := h.ne, row := ⟨hl2.row.1, hl2.row.2.imp id ?_⟩, rowA := hl.rowA, rlen := hl.rlen, pend := hl2.pend, fl := h.fl, sl := h.sl, nd := h.nd, fbl := fun b hb => Nat.lt_of_lt_of_le (h.fbl b hb) hs, file := ?_, Ad := h.Ad, An := h.An, As := h.As }
  · rintro ⟨g, cap, cur, e, _, r⟩
    exact ⟨g, cap, cur, e, Nat.zero_le _, r⟩
  · intro i hi
    obtain ⟨h1, h2, h3⟩ := h.file i (hL i hi)
    obtain ⟨v1, v2, h4, _⟩ := id h3
    exact ⟨h1, h2, h3.same hs (hT _ _ _ _ h4 (by decide)) fun k _ _ ⟨cs, fr, hk⟩ => hT k cs _ fr hk (by decide)⟩

/-- the closure of a change of names, called with a map of names -/
theorem name_any {A : Nat → Prop} {sb : Nat} {fb : List Nat} {S : Names} {o : Dk.Op} {c : Value} (w : World) (h : NameFn A w fb o c) (hf : o.frm.length ≤ maxLen) (ht : o.to.length ≤ maxLen) (hS : S.length ≤ 1099511627776) (hm : MapL Tryz.prog 9 w sb (NL fb S)) :
    ∃ f caps, c = .func (.func f) #[] caps ∧ Enters f (#[.map (some sb)] ++ caps) ∧ Calls Tryz.prog f (#[.map (some sb)] ++ caps) w fun e w' => e = .returned (.tuple #[]) ∧ MapL Tryz.prog 9 w' sb (NL fb (namesOp S o)) ∧ Keep (fun k => k = sb) w w' := by
  obtain ⟨x, y, ax, ay, h⟩ := h
  rcases h with ⟨hk, hc, hx, hy⟩ | ⟨hk, hc, hx, hy⟩ | ⟨hk, hc, hx⟩
  · have e : namesOp S o = withN S o.to o.file := by simp [namesOp, hk]
    rw [e]
    exact ⟨_, _, hc, enters_create21 _ _ _, create21_any o.to w ht hS hm ((hx.cell 0).trans rfl) ((hy.cell 0).trans rfl)⟩
  · have e : namesOp S o = renamed S o.frm o.to := by simp only [namesOp, hk, renamed]; cases find S o.frm <;> rfl
    rw [e]
    exact ⟨_, _, hc, enters_rename21 _ _ _, rename21_any o.frm o.to w hf ht hS hm hx hy⟩
  · have e : namesOp S o = without S o.frm := by simp [namesOp, hk]
    rw [e]
    exact ⟨_, _, hc, enters_remove21 _ _, remove21_any o.frm w hf hm ((hx.cell 0).trans rfl)⟩
theorem mem_namesOp {S : Names} {o : Dk.Op} {s : List UInt8} {i : Nat} (h : (s, i) ∈ namesOp S o) : (∃ s, (s, i) ∈ S) ∨ (o.kind = 2 ∧ o.file = i) := by
  unfold namesOp at h
  split at h
  · next hk =>
    rcases List.mem_append.1 h with h | h
    · exact .inl ⟨s, (List.mem_filter.1 h).1⟩
    · simp at h; exact .inr ⟨hk, h.2.symm⟩
  · split at h
    · exact .inl ⟨s, (List.mem_filter.1 h).1⟩
    · exact .inl (mem_renamed (s := o.frm) (t := o.to) (by unfold renamed; exact h))
end Go.Proofs.YtkmoomgmmhmaeaaGreat
namespace Go.Proofs.YtkmoomgmmhmaeaaGreat
open Go.RowKit Go.Dm Go.Dm.Dk Go.Maps

/-- what holds ahead of the k-th round -/
structure SInv (A C : Nat → Prop) (w : World) (d : Nat) (m : M) (sel : Nat → Bool) (fb : List Nat) (nb sb : Nat) (wv : Value) (rows : List (List Value)) (k : Nat) (lv : Value) (wr : World) : Prop where
  rep : DRep (Plus A w wr) wr d { st sel m k with wait := m.wait } fb nb sb wv rows
  left : ∃ lrows, LeftAt (Plus A w wr) wr w.heap.size fb lv (st sel m k).wait lrows
  keep : Keep (fun j => A j ∨ C j) w wr

theorem flat_at : ∀ (rows : List (List Value)), (∀ r ∈ rows, r.length = 4) → ∀ (k : Nat) (cs : List Value), rows[k]? = some cs → ∀ j, j < 4 → rows.flatten[k * 4 + j]? = cs[j]?
  | [], _, k, cs, h, _, _ => by simp at h
  | r :: t, h4, 0, cs, h, j, hj => by
    simp at h; subst h
    have := h4 r (by simp)
    rw [List.flatten_cons, List.getElem?_append_left (by omega), Nat.zero_mul, Nat.zero_add]
  | r :: t, h4, k + 1, cs, h, j, hj => by
    have h5 := h4 r (by simp)
    rw [List.flatten_cons, List.getElem?_append_right (by rw [h5]; omega), h5, show (k + 1) * 4 + j - 4 = k * 4 + j by omega]
    exact flat_at t (fun r hr => h4 r (by simp [hr])) k cs (by simpa using h) j hj
theorem PendAt.four {A : Nat → Prop} {w : World} {fb : List Nat} {o : Dk.Op} {cs : List Value} (h : PendAt A w fb o cs) : ∃ p0 p1 p2 p3, cs = [p0, p1, p2, p3] ∧ ((o.kind = 1 ∧ p0 = fptr fb o.file ∧ p1 = .int .i64 o.at_ ∧ p3 = .nilFunc ∧ DB A w p2 o.b) ∨ (o.kind ≠ 1 ∧ p0 = .pointer none ∧ p1 = .int .i64 0 ∧ p2 = .slice none 0 0 ∧ NameFn A w fb o p3)) := by
  rcases h with ⟨hk, v, rfl, hb⟩ | ⟨c, rfl, hn⟩
  · exact ⟨_, _, _, _, rfl, .inl ⟨hk, rfl, rfl, rfl, hb⟩⟩
  · refine ⟨_, _, _, _, rfl, .inr ⟨?_, rfl, rfl, rfl, hn⟩⟩
    obtain ⟨x, y, _, _, ⟨h, _⟩ | ⟨h, _⟩ | ⟨h, _⟩⟩ := hn <;> omega
theorem DRep.rows4 {A : Nat → Prop} {w : World} {d : Nat} {m : M} {fb : List Nat} {nb sb : Nat} {wv : Value} {rows : List (List Value)} (h : DRep A w d m fb nb sb wv rows) : ∀ r ∈ rows, r.length = 4 := by
  intro r hr
  obtain ⟨i, hi⟩ := List.getElem?_of_mem hr
  have hl := (List.getElem?_eq_some_iff.1 hi).1
  obtain ⟨cs, h1, h2⟩ := h.pend i _ (List.getElem?_eq_getElem (by rw [← h.rlen]; exact hl))
  obtain ⟨p0, p1, p2, p3, rfl, _⟩ := h2.four
  rw [hi] at h1; cases h1; rfl


section
variable {A C : Nat → Prop} {w wr w3 : World} {d : Nat} {m : M} {sel : Nat → Bool} {fb : List Nat} {nb sb : Nat} {wv lv : Value} {rows : List (List Value)} {k : Nat}

theorem SInv.lt (hI : SInv A C w d m sel fb nb sb wv rows k lv wr) (hA : ∀ k, A k → k < w.heap.size) {j : Nat} (hj : Plus A w wr j) : j < wr.heap.size := by
  have h1 := hI.keep.size
  rcases hj with hj | hj
  · have := hA j hj; omega
  · exact hj.2
theorem SInv.notC (hC : ∀ k, C k → k < w.heap.size ∧ ¬ A k) {j : Nat} (hj : Plus A w wr j) : ¬ C j := by
  intro hc
  have := hC j hc
  rcases hj with hj | hj
  · exact this.2 hj
  · omega
theorem plus_le {A : Nat → Prop} {w a b : World} (h : a.heap.size ≤ b.heap.size) : ∀ j, Plus A w a j → Plus A w b j := fun j hj => hj.imp id fun hj => ⟨hj.1, by omega⟩

/-- other memory is turned, or new -/
theorem SInv.carry (hI : SInv A C w d m sel fb nb sb wv rows k lv wr) (hA : ∀ k, A k → k < w.heap.size) (hC : ∀ k, C k → k < w.heap.size ∧ ¬ A k) (hk : Keep C wr w3) : SInv A C w d m sel fb nb sb wv rows k lv w3 := by
  have e : ∀ j, Plus A w wr j → w3.heap[j]? = wr.heap[j]? := fun j hj => hk.block j (hI.lt hA hj) (SInv.notC hC hj)
  obtain ⟨lrows, hl⟩ := hI.left
  exact ⟨(hI.rep.same hk.size e).mono fun j _ => plus_le hk.size j, ⟨lrows, (hl.same hk.size fun j hj _ => e j hj).mono fun j _ => plus_le hk.size j⟩, hI.keep.trans hk fun j _ hc => .inr hc⟩

/-- one operation is left -/
theorem SInv.pushed {w4 w5 : World} {v' p0 p1 p2 p3 : Value} {o : Dk.Op} {lrows : List (List Value)} (hI : SInv A C w d m sel fb nb sb wv rows k lv w3) (hA : ∀ k, A k → k < w.heap.size) (hwv : ∀ g, wv.ownBlock = some g → g < w.heap.size)
    (ho : m.wait[k]? = some o) (hs : sel k = false) (hl : LeftAt (Plus A w w3) w3 w.heap.size fb lv (st sel m k).wait lrows) (hp : PendAt (Plus A w w3) w3 fb o [p0, p1, p2, p3]) (k4 : Keep No w3 w4)
    (hrow : w5.ownsRow w.heap.size 71 4 v' ((st sel m k).wait.length + 1) (lrows.flatten ++ [p0, p1, p2, p3])) (k5 : Keep (fun j => some j = lv.ownBlock) w4 w5) (hloc : v'.ownBlock = lv.ownBlock ∨ v'.ownBlock = some w4.heap.size) :
    SInv A C w d m sel fb nb sb wv rows (k + 1) v' w5 ∧ Keep (fun j => w.heap.size ≤ j) w3 w5 := by
  have hst : st sel m (k + 1) = { st sel m k with wait := (st sel m k).wait ++ [o] } := by rw [st_succ sel m ho]; simp [settle1, hs]
  have hsz : w3.heap.size ≤ w5.heap.size := Nat.le_trans k4.size k5.size
  have hlg : ∀ j, some j = lv.ownBlock → w.heap.size ≤ j := fun j hj => (hl.row.lt j hj.symm).1
  have hB : ∀ j, j < w3.heap.size → ¬ some j = lv.ownBlock → w5.heap[j]? = w3.heap[j]? := fun j hj h1 => by
    rw [k5.block j (Nat.lt_of_lt_of_le hj k4.size) h1]; exact k4.block j hj fun h => h
  have hK : Keep (fun j => w.heap.size ≤ j) w3 w5 := (k4.mono fun _ _ h => h.elim).trans k5 fun j _ hj => hlg j hj
  have hT : ∀ (j : Nat) (cs : Array Value) (t : TypeId) (fr : Nat × Nat), w3.heap[j]? = some (Obj.cells cs t fr) → t ≠ 71 → w5.heap[j]? = w3.heap[j]? := by
    intro j cs t fr hk h1
    refine hB j (Array.getElem?_eq_some_iff.1 hk).1 ?_
    intro e
    rcases hl.row.2 with ⟨rfl, _⟩ | ⟨g, cap, cur, rfl, _, hb, _⟩
    · cases e
    · cases e
      rw [hk] at hb; cases hb; exact h1 rfl
  have hrep : DRep (Plus A w w3) w5 d { st sel m k with wait := m.wait } fb nb sb wv rows := by
    refine hI.rep.tags hsz fun j hj => ?_
    by_cases e : some j = lv.ownBlock
    · refine .inl ?_
      rcases hl.row.2 with ⟨rfl, _⟩ | ⟨g, cap, cur, rfl, hg, hb, _⟩
      · cases e
      · cases e
        exact ⟨_, _, hb, fun h => absurd (hwv _ h) (Nat.not_lt.2 hg)⟩
    · exact .inr (hB j (hI.lt hA hj) e)
  have hleft : LeftAt (Plus A w w5) w5 w.heap.size fb v' ((st sel m k).wait ++ [o]) (lrows ++ [[p0, p1, p2, p3]]) := by
    refine ⟨by simpa [List.flatten_append] using hrow, ?_, by simp [hl.rlen], ?_⟩
    · intro g hg
      rcases hloc with e | e
      · exact plus_le hsz g (hl.rowA g (e.symm.trans hg))
      · rw [e] at hg; cases hg
        exact .inr (hrow.lt _ e)
    · intro i o' ho'
      rcases Nat.lt_or_ge i (st sel m k).wait.length with hi | hi
      · rw [List.getElem?_append_left hi] at ho'
        obtain ⟨cs, h1, h2⟩ := hl.pend i o' ho'
        exact ⟨cs, by rw [List.getElem?_append_left (by rw [hl.rlen]; exact hi)]; exact h1,
          (h2.same hsz fun j _ ⟨cs, fr, t, hk, ht⟩ => hT j cs t fr hk (by rcases ht with rfl | rfl | rfl <;> decide)).mono fun j _ => plus_le hsz j⟩
      · have hi2 : i = (st sel m k).wait.length := by
          have := (List.getElem?_eq_some_iff.1 ho').1
          simp at this; omega
        subst hi2
        simp at ho'
        subst ho'
        exact ⟨_, by rw [List.getElem?_append_right (by rw [hl.rlen]; exact Nat.le_refl _), hl.rlen]; simp,
          (hp.same hsz fun j _ ⟨cs, fr, t, hk, ht⟩ => hT j cs t fr hk (by rcases ht with rfl | rfl | rfl <;> decide)).mono fun j _ => plus_le hsz j⟩
  refine ⟨⟨?_, ⟨lrows ++ [[p0, p1, p2, p3]], ?_⟩, hI.keep.trans hK fun j hj h => absurd hj (by omega)⟩, hK⟩
  · rw [hst]; exact hrep.mono fun j _ => plus_le hsz j
  · rw [hst]; exact hleft

/-- a write is made sure -/
theorem SInv.filed {w4 : World} {o : Dk.Op} (hI : SInv A C w d m sel fb nb sb wv rows k lv w3) (ho : m.wait[k]? = some o) (hs : sel k = true) (hk1 : o.kind = 1) (k4 : Keep No w3 w4)
    (hb : Blk w4 w3.heap.size ((laidB ((st sel m k).sure.getD o.file []) o.at_ o.b).map bv).toArray 5) (hll : (laidB ((st sel m k).sure.getD o.file []) o.at_ o.b).length ≤ maxLen) {nv : Value}
    (hnv : nv = .slice (some ⟨w3.heap.size, 0, none⟩) (laidB ((st sel m k).sure.getD o.file []) o.at_ o.b).length (laidB ((st sel m k).sure.getD o.file []) o.at_ o.b).length) :
    SInv A C w d m sel fb nb sb wv rows (k + 1) lv (w4.setCell ⟨fb.getD o.file 0, 1, none⟩ nv) ∧ Keep (Plus A w w3) w3 (w4.setCell ⟨fb.getD o.file 0, 1, none⟩ nv) := by
  have hm : o ∈ m.wait := List.mem_of_getElem? ho
  have hlive : Live { st sel m k with wait := m.wait } o.file := .inr (.inr ⟨o, hm, .inl hk1, rfl⟩)
  obtain ⟨hfl, hfA, v1, v2, hblk, hv1, hv2⟩ := hI.rep.file o.file hlive
  have hbl := hblk.lt
  have hblk4 := hblk.keep k4 fun h => h
  have hst : st sel m (k + 1) = { st sel m k with sure := putF (st sel m k).sure o.file (laidB ((st sel m k).sure.getD o.file []) o.at_ o.b) } := by rw [st_succ sel m ho]; simp [settle1, hs, hk1]
  have hset := hblk4.set (i := 1) nv
  generalize hw5 : w4.setCell ⟨fb.getD o.file 0, 1, none⟩ nv = w5 at *
  have hB : ∀ j, j < w3.heap.size → j ≠ fb.getD o.file 0 → w5.heap[j]? = w3.heap[j]? := fun j hj h1 => by
    rw [← hw5, Below.heap_setCell _ _ _ _ h1]; exact k4.block j hj fun h => h
  have hsz4 : w4.heap.size = w5.heap.size := by rw [← hw5]; simp
  have hsz : w3.heap.size ≤ w5.heap.size := by rw [← hsz4]; exact k4.size
  have hT : ∀ (j : Nat) (cs : Array Value) (t : TypeId) (fr : Nat × Nat), w3.heap[j]? = some (Obj.cells cs t fr) → t ≠ 76 → w5.heap[j]? = w3.heap[j]? := by
    intro j cs t fr hk h1
    refine hB j (Array.getElem?_eq_some_iff.1 hk).1 ?_
    rintro rfl
    rw [show w3.heap[_]? = _ from hblk] at hk; cases hk; exact h1 rfl
  have hne : w3.heap.size ≠ fb.getD o.file 0 := by omega
  have hDB : DB (Plus (Plus A w w3) w3 w5) w5 nv (laidB ((st sel m k).sure.getD o.file []) o.at_ o.b) := by
    have hb5 := hb.set_other (a := ⟨fb.getD o.file 0, 1, none⟩) hne nv
    rw [hw5] at hb5
    rw [hnv]
    refine (DB.blk hb5 hll).mono fun j hj e => ?_
    have e : j = w3.heap.size := e
    subst e
    exact .inr ⟨Nat.le_refl _, hj⟩
  have hv1' : DB (Plus (Plus A w w3) w3 w5) w5 v1 ((st sel m k).is.getD o.file []) :=
    (hv1.same hsz fun j _ _ ⟨cs, fr, hk⟩ => hT j cs _ fr hk (by decide)).mono fun j _ ha => .inl ha
  have hfl2 : o.file < (st sel m k).sure.length := by rw [hI.rep.sl]; exact hfl
  have hD := hI.rep.filed (m' := { st sel m k with sure := putF (st sel m k).sure o.file (laidB ((st sel m k).sure.getD o.file []) o.at_ o.b), wait := m.wait }) (v' := nv) (j := 1) k4 hfl ⟨rfl, rfl, rfl, rfl, rfl, rfl⟩ rfl (by simp [putF])
    (fun j hj => ⟨rfl, by simp [putF, List.getD, List.getElem?_set_ne (Ne.symm hj)]⟩) hlive (by
      rw [hw5]
      exact ⟨v1, _, hset, hv1', by simpa [putF, List.getD, hfl2] using hDB⟩)
  rw [hw5] at hD
  have hP : ∀ j, Plus (Plus A w w3) w3 w5 j → Plus A w w5 j := by
    have := hI.keep.size
    intro j hj
    rcases hj with hj | hj
    · exact plus_le hsz j hj
    · exact .inr ⟨by omega, hj.2⟩
  have hK : Keep (Plus A w w3) w3 w5 := by
    rw [← hw5]
    exact (k4.mono fun _ _ h => h.elim).setCell (fun _ => hfA) _
  obtain ⟨lrows, hl⟩ := hI.left
  refine ⟨⟨?_, ⟨lrows, ?_⟩, hI.keep.trans hK fun j hj h => ?_⟩, hK⟩
  · rw [hst]; exact hD.mono fun j _ => hP j
  · rw [hst]
    exact (hl.same hsz fun j _ ⟨cs, fr, t, hk, ht⟩ => hT j cs t fr hk (by rcases ht with rfl | rfl | rfl | rfl <;> decide)).mono fun j _ => plus_le hsz j
  · rcases h with h | h
    · exact .inl h
    · omega

/-- a change of names is made sure -/
theorem SInv.named {w4 : World} {o : Dk.Op} (hI : SInv A C w d m sel fb nb sb wv rows k lv w3) (ho : m.wait[k]? = some o) (hs : sel k = true) (hk1 : o.kind ≠ 1) (k4 : Keep (fun j => j = sb) w3 w4)
    (hm : MapL Tryz.prog 9 w4 sb (NL fb (namesOp (st sel m k).S o))) :
    SInv A C w d m sel fb nb sb wv rows (k + 1) lv w4 ∧ Keep (Plus A w w3) w3 w4 := by
  have hmem : o ∈ m.wait := List.mem_of_getElem? ho
  have hst : st sel m (k + 1) = { st sel m k with S := namesOp (st sel m k).S o } := by rw [st_succ sel m ho]; simp [settle1, hs, hk1]
  have hD := hI.rep.smapped (S' := namesOp (st sel m k).S o) k4 hm fun i ⟨s, hi⟩ => by
    rcases mem_namesOp hi with hi | ⟨h2, rfl⟩
    · exact .inr (.inl hi)
    · exact .inr (.inr ⟨o, hmem, .inr h2, rfl⟩)
  obtain ⟨lrows, hl⟩ := hI.left
  have hK : Keep (Plus A w w3) w3 w4 := k4.mono fun j _ e => by subst e; exact hI.rep.As
  refine ⟨⟨?_, ⟨lrows, ?_⟩, hI.keep.trans hK fun j hj h => ?_⟩, hK⟩
  · rw [hst]; exact hD.mono fun j _ => plus_le k4.size j
  · rw [hst]
    refine (hl.same k4.size fun j _ ⟨cs, fr, t, hk, ht⟩ => k4.block j (Array.getElem?_eq_some_iff.1 hk).1 ?_).mono fun j _ => plus_le k4.size j
    rintro rfl
    obtain ⟨es, c, e⟩ := hI.rep.sm.obj
    rw [e] at hk; cases hk
  · rcases h with h | h
    · exact .inl h
    · omega
end
end Go.Proofs.YtkmoomgmmhmaeaaGreat
