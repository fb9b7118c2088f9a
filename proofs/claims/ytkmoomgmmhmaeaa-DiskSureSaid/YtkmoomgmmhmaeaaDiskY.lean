/- Rename and Remove. No condition. -/
import Derived.Test.YtkmoomgmmhmaeaaDiskD
import Derived.Test.YtkmoomgmmhmaeaaDiskX
namespace Go.Proofs.Ytkmoomgmmhmaeaa
open Go.RowKit Go.Dm Go.Dm.Dk Go.Maps

theorem enters_rename1 (a b c : Value) : Enters 50 #[a, b, c] := fun w => by kernel_rfl
theorem enters_rename2 (a b c : Value) : Enters 52 #[a, b, c] := fun w => by kernel_rfl
theorem enters_rename21 (a b c : Value) : Enters 53 #[a, b, c] := fun w => by kernel_rfl
theorem enters_remove1 (a b : Value) : Enters 54 #[a, b] := fun w => by kernel_rfl
theorem enters_remove2 (a b : Value) : Enters 55 #[a, b] := fun w => by kernel_rfl
theorem enters_remove21 (a b : Value) : Enters 56 #[a, b] := fun w => by kernel_rfl

def thereN (L : Names) (s : List UInt8) : Nat := if (find L s).isSome then 0 else 20

set_option maxRecDepth 100000 in
set_option maxHeartbeats 400000 in
theorem there_any {nb d : Nat} {fb : List Nat} {L : Names} (s : List UInt8) (w : World) (hs : s.length ≤ maxLen) (hn : MapL Try.prog 9 w nb (NL fb L)) (hd : w.cell? ⟨d, 1, none⟩ = some (.map (some nb))) :
    Calls Try.prog 51 #[.pointer (some ⟨d, 0, none⟩), .string ⟨s.toArray⟩] w fun e w' => e = .returned (.int .i64 (thereN L s : Nat)) ∧ w = w' := by
  cases hf : find L s with
  | none =>
    have e : thereN L s = 20 := by simp [thereN, hf]
    rw [e]
    go_enter Try.func51, Try.ntmps51
    go_wp2_with (first | (at_builtin; refine wl_append rfl _ _ _ _ rfl _ _ rfl rfl ?_) | (at_make; refine wl_make rfl _ _ _ rfl _ _ rfl rfl ?_) | (at_mapUpdate; refine wl_mapUpdate rfl _ _ _ _ rfl _ _ _ rfl rfl rfl ?_) | (at_lookup; refine wl_lookup rfl _ _ _ _ rfl _ _ rfl rfl ?_) | (at_delete; refine wl_delete rfl _ _ _ _ rfl _ _ rfl rfl ?_) | (with_reducible refine wl_len rfl _ _ rfl _ rfl ?_) | (with_reducible refine wl_range rfl _ _ rfl _ rfl ?_) | (with_reducible refine wl_next rfl _ rfl _ rfl ?_) | (with_reducible refine wl_copy rfl _ _ _ _ rfl _ _ rfl rfl ?_) | (with_reducible refine wl_max rfl _ _ _ _ rfl _ _ rfl rfl ?_) | (with_reducible refine wl_min rfl _ _ _ _ rfl _ _ rfl rfl ?_))
    refine (of_any d s _ hs hn hd).mono ?_
    rintro e w1 ⟨rfl, rfl⟩
    simp only [ofV, hf, Option.map_none, Option.getD_none]
    go_wp2_with (first | (at_builtin; refine wl_append rfl _ _ _ _ rfl _ _ rfl rfl ?_) | (at_make; refine wl_make rfl _ _ _ rfl _ _ rfl rfl ?_) | (at_mapUpdate; refine wl_mapUpdate rfl _ _ _ _ rfl _ _ _ rfl rfl rfl ?_) | (at_lookup; refine wl_lookup rfl _ _ _ _ rfl _ _ rfl rfl ?_) | (at_delete; refine wl_delete rfl _ _ _ _ rfl _ _ rfl rfl ?_) | (with_reducible refine wl_len rfl _ _ rfl _ rfl ?_) | (with_reducible refine wl_range rfl _ _ rfl _ rfl ?_) | (with_reducible refine wl_next rfl _ rfl _ rfl ?_) | (with_reducible refine wl_copy rfl _ _ _ _ rfl _ _ rfl rfl ?_) | (with_reducible refine wl_max rfl _ _ _ _ rfl _ _ rfl rfl ?_) | (with_reducible refine wl_min rfl _ _ _ _ rfl _ _ rfl rfl ?_))
    go_ret
    exact ⟨rfl, rfl⟩
  | some i =>
    have e : thereN L s = 0 := by simp [thereN, hf]
    rw [e]
    go_enter Try.func51, Try.ntmps51
    go_wp2_with (first | (at_builtin; refine wl_append rfl _ _ _ _ rfl _ _ rfl rfl ?_) | (at_make; refine wl_make rfl _ _ _ rfl _ _ rfl rfl ?_) | (at_mapUpdate; refine wl_mapUpdate rfl _ _ _ _ rfl _ _ _ rfl rfl rfl ?_) | (at_lookup; refine wl_lookup rfl _ _ _ _ rfl _ _ rfl rfl ?_) | (at_delete; refine wl_delete rfl _ _ _ _ rfl _ _ rfl rfl ?_) | (with_reducible refine wl_len rfl _ _ rfl _ rfl ?_) | (with_reducible refine wl_range rfl _ _ rfl _ rfl ?_) | (with_reducible refine wl_next rfl _ rfl _ rfl ?_) | (with_reducible refine wl_copy rfl _ _ _ _ rfl _ _ rfl rfl ?_) | (with_reducible refine wl_max rfl _ _ _ _ rfl _ _ rfl rfl ?_) | (with_reducible refine wl_min rfl _ _ _ _ rfl _ _ rfl rfl ?_))
    refine (of_any d s _ hs hn hd).mono ?_
    rintro e w1 ⟨rfl, rfl⟩
    simp only [ofV, hf, Option.map_some, Option.getD_some, fptr, ptrTo]
    go_wp2_with (first | (at_builtin; refine wl_append rfl _ _ _ _ rfl _ _ rfl rfl ?_) | (at_make; refine wl_make rfl _ _ _ rfl _ _ rfl rfl ?_) | (at_mapUpdate; refine wl_mapUpdate rfl _ _ _ _ rfl _ _ _ rfl rfl rfl ?_) | (at_lookup; refine wl_lookup rfl _ _ _ _ rfl _ _ rfl rfl ?_) | (at_delete; refine wl_delete rfl _ _ _ _ rfl _ _ rfl rfl ?_) | (with_reducible refine wl_len rfl _ _ rfl _ rfl ?_) | (with_reducible refine wl_range rfl _ _ rfl _ rfl ?_) | (with_reducible refine wl_next rfl _ rfl _ rfl ?_) | (with_reducible refine wl_copy rfl _ _ _ _ rfl _ _ rfl rfl ?_) | (with_reducible refine wl_max rfl _ _ _ _ rfl _ _ rfl rfl ?_) | (with_reducible refine wl_min rfl _ _ _ _ rfl _ _ rfl rfl ?_))
    go_ret
    exact ⟨rfl, rfl⟩

set_option maxRecDepth 100000 in
set_option maxHeartbeats 400000 in
theorem remove1_any {nb x y d : Nat} {fb : List Nat} {L : Names} (s : List UInt8) (w : World) (hs : s.length ≤ maxLen) (hn : MapL Try.prog 9 w nb (NL fb L)) (hd : w.cell? ⟨d, 1, none⟩ = some (.map (some nb)))
    (hx : w.cell? ⟨x, 0, none⟩ = some (.pointer (some ⟨d, 0, none⟩))) (hy : w.cell? ⟨y, 0, none⟩ = some (.string ⟨s.toArray⟩)) :
    Calls Try.prog 54 #[.pointer (some ⟨x, 0, none⟩), .pointer (some ⟨y, 0, none⟩)] w fun e w' => e = .returned (.int .i64 (thereN L s : Nat)) ∧ w = w' := by
  go_enter Try.func54, Try.ntmps54
  go_wp2_with (first | (at_builtin; refine wl_append rfl _ _ _ _ rfl _ _ rfl rfl ?_) | (at_make; refine wl_make rfl _ _ _ rfl _ _ rfl rfl ?_) | (at_mapUpdate; refine wl_mapUpdate rfl _ _ _ _ rfl _ _ _ rfl rfl rfl ?_) | (at_lookup; refine wl_lookup rfl _ _ _ _ rfl _ _ rfl rfl ?_) | (at_delete; refine wl_delete rfl _ _ _ _ rfl _ _ rfl rfl ?_) | (with_reducible refine wl_len rfl _ _ rfl _ rfl ?_) | (with_reducible refine wl_range rfl _ _ rfl _ rfl ?_) | (with_reducible refine wl_next rfl _ rfl _ rfl ?_) | (with_reducible refine wl_copy rfl _ _ _ _ rfl _ _ rfl rfl ?_) | (with_reducible refine wl_max rfl _ _ _ _ rfl _ _ rfl rfl ?_) | (with_reducible refine wl_min rfl _ _ _ _ rfl _ _ rfl rfl ?_))
  refine (there_any s _ hs hn hd).mono ?_
  rintro e w1 ⟨rfl, rfl⟩
  go_wp2_with (first | (at_builtin; refine wl_append rfl _ _ _ _ rfl _ _ rfl rfl ?_) | (at_make; refine wl_make rfl _ _ _ rfl _ _ rfl rfl ?_) | (at_mapUpdate; refine wl_mapUpdate rfl _ _ _ _ rfl _ _ _ rfl rfl rfl ?_) | (at_lookup; refine wl_lookup rfl _ _ _ _ rfl _ _ rfl rfl ?_) | (at_delete; refine wl_delete rfl _ _ _ _ rfl _ _ rfl rfl ?_) | (with_reducible refine wl_len rfl _ _ rfl _ rfl ?_) | (with_reducible refine wl_range rfl _ _ rfl _ rfl ?_) | (with_reducible refine wl_next rfl _ rfl _ rfl ?_) | (with_reducible refine wl_copy rfl _ _ _ _ rfl _ _ rfl rfl ?_) | (with_reducible refine wl_max rfl _ _ _ _ rfl _ _ rfl rfl ?_) | (with_reducible refine wl_min rfl _ _ _ _ rfl _ _ rfl rfl ?_))
  go_ret
  exact ⟨rfl, rfl⟩

set_option maxRecDepth 100000 in
set_option maxHeartbeats 400000 in
theorem rename1_any {nb x y z d : Nat} {fb : List Nat} {L : Names} (s t : List UInt8) (w : World) (hs : s.length ≤ maxLen) (hn : MapL Try.prog 9 w nb (NL fb L)) (hd : w.cell? ⟨d, 1, none⟩ = some (.map (some nb)))
    (hx : w.cell? ⟨x, 0, none⟩ = some (.pointer (some ⟨d, 0, none⟩))) (hy : w.cell? ⟨y, 0, none⟩ = some (.string ⟨s.toArray⟩)) (hz : w.cell? ⟨z, 0, none⟩ = some (.string ⟨t.toArray⟩)) :
    Calls Try.prog 50 #[.pointer (some ⟨x, 0, none⟩), .pointer (some ⟨y, 0, none⟩), .pointer (some ⟨z, 0, none⟩)] w fun e w' => e = .returned (.int .i64 ((if (find L s).isSome then (if t = [] then 1 else 0) else 20 : Nat) : Nat)) ∧ w = w' := by
  cases hf : find L s with
  | none =>
    have e1 : thereN L s = 20 := by simp [thereN, hf]
    have HE := Lib.hid e1; clear e1
    go_enter Try.func50, Try.ntmps50
    go_wp2_with (first | (at_builtin; refine wl_append rfl _ _ _ _ rfl _ _ rfl rfl ?_) | (at_make; refine wl_make rfl _ _ _ rfl _ _ rfl rfl ?_) | (at_mapUpdate; refine wl_mapUpdate rfl _ _ _ _ rfl _ _ _ rfl rfl rfl ?_) | (at_lookup; refine wl_lookup rfl _ _ _ _ rfl _ _ rfl rfl ?_) | (at_delete; refine wl_delete rfl _ _ _ _ rfl _ _ rfl rfl ?_) | (with_reducible refine wl_len rfl _ _ rfl _ rfl ?_) | (with_reducible refine wl_range rfl _ _ rfl _ rfl ?_) | (with_reducible refine wl_next rfl _ rfl _ rfl ?_) | (with_reducible refine wl_copy rfl _ _ _ _ rfl _ _ rfl rfl ?_) | (with_reducible refine wl_max rfl _ _ _ _ rfl _ _ rfl rfl ?_) | (with_reducible refine wl_min rfl _ _ _ _ rfl _ _ rfl rfl ?_))
    refine (there_any s _ hs hn hd).mono ?_
    rintro e w1 ⟨rfl, rfl⟩
    rw [HE.out]
    go_wp2_with (first | (at_builtin; refine wl_append rfl _ _ _ _ rfl _ _ rfl rfl ?_) | (at_make; refine wl_make rfl _ _ _ rfl _ _ rfl rfl ?_) | (at_mapUpdate; refine wl_mapUpdate rfl _ _ _ _ rfl _ _ _ rfl rfl rfl ?_) | (at_lookup; refine wl_lookup rfl _ _ _ _ rfl _ _ rfl rfl ?_) | (at_delete; refine wl_delete rfl _ _ _ _ rfl _ _ rfl rfl ?_) | (with_reducible refine wl_len rfl _ _ rfl _ rfl ?_) | (with_reducible refine wl_range rfl _ _ rfl _ rfl ?_) | (with_reducible refine wl_next rfl _ rfl _ rfl ?_) | (with_reducible refine wl_copy rfl _ _ _ _ rfl _ _ rfl rfl ?_) | (with_reducible refine wl_max rfl _ _ _ _ rfl _ _ rfl rfl ?_) | (with_reducible refine wl_min rfl _ _ _ _ rfl _ _ rfl rfl ?_))
    go_ret
    exact ⟨rfl, rfl⟩
  | some i =>
    have e1 : thereN L s = 0 := by simp [thereN, hf]
    have HE := Lib.hid e1; clear e1
    by_cases h0 : t = []
    · subst h0
      go_enter Try.func50, Try.ntmps50
      go_wp2_with (first | (at_builtin; refine wl_append rfl _ _ _ _ rfl _ _ rfl rfl ?_) | (at_make; refine wl_make rfl _ _ _ rfl _ _ rfl rfl ?_) | (at_mapUpdate; refine wl_mapUpdate rfl _ _ _ _ rfl _ _ _ rfl rfl rfl ?_) | (at_lookup; refine wl_lookup rfl _ _ _ _ rfl _ _ rfl rfl ?_) | (at_delete; refine wl_delete rfl _ _ _ _ rfl _ _ rfl rfl ?_) | (with_reducible refine wl_len rfl _ _ rfl _ rfl ?_) | (with_reducible refine wl_range rfl _ _ rfl _ rfl ?_) | (with_reducible refine wl_next rfl _ rfl _ rfl ?_) | (with_reducible refine wl_copy rfl _ _ _ _ rfl _ _ rfl rfl ?_) | (with_reducible refine wl_max rfl _ _ _ _ rfl _ _ rfl rfl ?_) | (with_reducible refine wl_min rfl _ _ _ _ rfl _ _ rfl rfl ?_))
      refine (there_any s _ hs hn hd).mono ?_
      rintro e w1 ⟨rfl, rfl⟩
      rw [HE.out]
      go_wp2_with (first | (at_builtin; refine wl_append rfl _ _ _ _ rfl _ _ rfl rfl ?_) | (at_make; refine wl_make rfl _ _ _ rfl _ _ rfl rfl ?_) | (at_mapUpdate; refine wl_mapUpdate rfl _ _ _ _ rfl _ _ _ rfl rfl rfl ?_) | (at_lookup; refine wl_lookup rfl _ _ _ _ rfl _ _ rfl rfl ?_) | (at_delete; refine wl_delete rfl _ _ _ _ rfl _ _ rfl rfl ?_) | (with_reducible refine wl_len rfl _ _ rfl _ rfl ?_) | (with_reducible refine wl_range rfl _ _ rfl _ rfl ?_) | (with_reducible refine wl_next rfl _ rfl _ rfl ?_) | (with_reducible refine wl_copy rfl _ _ _ _ rfl _ _ rfl rfl ?_) | (with_reducible refine wl_max rfl _ _ _ _ rfl _ _ rfl rfl ?_) | (with_reducible refine wl_min rfl _ _ _ _ rfl _ _ rfl rfl ?_))
      go_ret
      exact ⟨rfl, rfl⟩
    · have h1 : t.isEmpty = false := by cases t <;> simp_all
      have e2 : (if (some i).isSome = true then (if t = [] then 1 else 0) else 20 : Nat) = 0 := by simp [h0]
      rw [e2]
      go_enter Try.func50, Try.ntmps50
      go_wp2_with (first | (at_builtin; refine wl_append rfl _ _ _ _ rfl _ _ rfl rfl ?_) | (at_make; refine wl_make rfl _ _ _ rfl _ _ rfl rfl ?_) | (at_mapUpdate; refine wl_mapUpdate rfl _ _ _ _ rfl _ _ _ rfl rfl rfl ?_) | (at_lookup; refine wl_lookup rfl _ _ _ _ rfl _ _ rfl rfl ?_) | (at_delete; refine wl_delete rfl _ _ _ _ rfl _ _ rfl rfl ?_) | (with_reducible refine wl_len rfl _ _ rfl _ rfl ?_) | (with_reducible refine wl_range rfl _ _ rfl _ rfl ?_) | (with_reducible refine wl_next rfl _ rfl _ rfl ?_) | (with_reducible refine wl_copy rfl _ _ _ _ rfl _ _ rfl rfl ?_) | (with_reducible refine wl_max rfl _ _ _ _ rfl _ _ rfl rfl ?_) | (with_reducible refine wl_min rfl _ _ _ _ rfl _ _ rfl rfl ?_))
      refine (there_any s _ hs hn hd).mono ?_
      rintro e w1 ⟨rfl, rfl⟩
      rw [HE.out]
      go_wp2_with (first | (at_builtin; refine wl_append rfl _ _ _ _ rfl _ _ rfl rfl ?_) | (at_make; refine wl_make rfl _ _ _ rfl _ _ rfl rfl ?_) | (at_mapUpdate; refine wl_mapUpdate rfl _ _ _ _ rfl _ _ _ rfl rfl rfl ?_) | (at_lookup; refine wl_lookup rfl _ _ _ _ rfl _ _ rfl rfl ?_) | (at_delete; refine wl_delete rfl _ _ _ _ rfl _ _ rfl rfl ?_) | (with_reducible refine wl_len rfl _ _ rfl _ rfl ?_) | (with_reducible refine wl_range rfl _ _ rfl _ rfl ?_) | (with_reducible refine wl_next rfl _ rfl _ rfl ?_) | (with_reducible refine wl_copy rfl _ _ _ _ rfl _ _ rfl rfl ?_) | (with_reducible refine wl_max rfl _ _ _ _ rfl _ _ rfl rfl ?_) | (with_reducible refine wl_min rfl _ _ _ _ rfl _ _ rfl rfl ?_))
      go_ret
      exact ⟨rfl, rfl⟩

set_option maxHeartbeats 400000 in
theorem remove21_any {nb x : Nat} {fb : List Nat} {L : Names} (s : List UInt8) (w : World) (hs : s.length ≤ maxLen) (hn : MapL Try.prog 9 w nb (NL fb L))
    (hx : w.cell? ⟨x, 0, none⟩ = some (.string ⟨s.toArray⟩)) :
    Calls Try.prog 56 #[.map (some nb), .pointer (some ⟨x, 0, none⟩)] w fun e w' => e = .returned (.tuple #[]) ∧ MapL Try.prog 9 w' nb (NL fb (without L s)) ∧ Keep (fun k => k = nb) w w' := by
  go_enter Try.func56, Try.ntmps56
  go_wp2_with (first | (at_builtin; refine wl_append rfl _ _ _ _ rfl _ _ rfl rfl ?_) | (at_make; refine wl_make rfl _ _ _ rfl _ _ rfl rfl ?_) | (at_mapUpdate; refine wl_mapUpdate rfl _ _ _ _ rfl _ _ _ rfl rfl rfl ?_) | (at_lookup; refine wl_lookup rfl _ _ _ _ rfl _ _ rfl rfl ?_) | (at_delete; refine wl_delete rfl _ _ _ _ rfl _ _ rfl rfl ?_) | (with_reducible refine wl_len rfl _ _ rfl _ rfl ?_) | (with_reducible refine wl_range rfl _ _ rfl _ rfl ?_) | (with_reducible refine wl_next rfl _ rfl _ rfl ?_) | (with_reducible refine wl_copy rfl _ _ _ _ rfl _ _ rfl rfl ?_) | (with_reducible refine wl_max rfl _ _ _ _ rfl _ _ rfl rfl ?_) | (with_reducible refine wl_min rfl _ _ _ _ rfl _ _ rfl rfl ?_))
  refine rg_delete hn kStr Try.underlying59 (kOf hs) ?_
  intro w' h1 h2 _
  rw [eraseL_NL] at h1
  go_wp2_with (first | (at_builtin; refine wl_append rfl _ _ _ _ rfl _ _ rfl rfl ?_) | (at_make; refine wl_make rfl _ _ _ rfl _ _ rfl rfl ?_) | (at_mapUpdate; refine wl_mapUpdate rfl _ _ _ _ rfl _ _ _ rfl rfl rfl ?_) | (at_lookup; refine wl_lookup rfl _ _ _ _ rfl _ _ rfl rfl ?_) | (at_delete; refine wl_delete rfl _ _ _ _ rfl _ _ rfl rfl ?_) | (with_reducible refine wl_len rfl _ _ rfl _ rfl ?_) | (with_reducible refine wl_range rfl _ _ rfl _ rfl ?_) | (with_reducible refine wl_next rfl _ rfl _ rfl ?_) | (with_reducible refine wl_copy rfl _ _ _ _ rfl _ _ rfl rfl ?_) | (with_reducible refine wl_max rfl _ _ _ _ rfl _ _ rfl rfl ?_) | (with_reducible refine wl_min rfl _ _ _ _ rfl _ _ rfl rfl ?_))
  go_end0
  exact ⟨rfl, h1, h2⟩

def renamed (L : Names) (s t : List UInt8) : Names :=
  match find L s with
  | none => L
  | some f => withN (without L s) t f

set_option maxRecDepth 100000 in
set_option maxHeartbeats 400000 in
theorem rename21_any {nb x y : Nat} {fb : List Nat} {L : Names} (s t : List UInt8) (w : World) (hs : s.length ≤ maxLen) (ht : t.length ≤ maxLen) (hL : L.length ≤ 1099511627776) (hn : MapL Try.prog 9 w nb (NL fb L))
    (hx : Blk w x #[.string ⟨s.toArray⟩] 9) (hy : Blk w y #[.string ⟨t.toArray⟩] 9) :
    Calls Try.prog 53 #[.map (some nb), .pointer (some ⟨x, 0, none⟩), .pointer (some ⟨y, 0, none⟩)] w fun e w' => e = .returned (.tuple #[]) ∧ MapL Try.prog 9 w' nb (NL fb (renamed L s t)) ∧ Keep (fun k => k = nb) w w' := by
  have qx : w.cell? ⟨x, 0, none⟩ = some (.string ⟨s.toArray⟩) := hx.cell 0
  cases hf : find L s with
  | none =>
    have e1 : renamed L s t = L := by simp [renamed, hf]
    rw [e1]
    go_enter Try.func53, Try.ntmps53
    go_wp2_with (first | (at_builtin; refine wl_append rfl _ _ _ _ rfl _ _ rfl rfl ?_) | (at_make; refine wl_make rfl _ _ _ rfl _ _ rfl rfl ?_) | (at_mapUpdate; refine wl_mapUpdate rfl _ _ _ _ rfl _ _ _ rfl rfl rfl ?_) | (at_lookup; refine wl_lookup rfl _ _ _ _ rfl _ _ rfl rfl ?_) | (at_delete; refine wl_delete rfl _ _ _ _ rfl _ _ rfl rfl ?_) | (with_reducible refine wl_len rfl _ _ rfl _ rfl ?_) | (with_reducible refine wl_range rfl _ _ rfl _ rfl ?_) | (with_reducible refine wl_next rfl _ rfl _ rfl ?_) | (with_reducible refine wl_copy rfl _ _ _ _ rfl _ _ rfl rfl ?_) | (with_reducible refine wl_max rfl _ _ _ _ rfl _ _ rfl rfl ?_) | (with_reducible refine wl_min rfl _ _ _ _ rfl _ _ rfl rfl ?_))
    refine rg_lookup hn kStr Try.underlying59 (zFile w) (kOf hs) ?_
    rw [findL_NL, hf]
    simp only [Option.map_none, Option.getD_none]
    go_wp2_with (first | (at_builtin; refine wl_append rfl _ _ _ _ rfl _ _ rfl rfl ?_) | (at_make; refine wl_make rfl _ _ _ rfl _ _ rfl rfl ?_) | (at_mapUpdate; refine wl_mapUpdate rfl _ _ _ _ rfl _ _ _ rfl rfl rfl ?_) | (at_lookup; refine wl_lookup rfl _ _ _ _ rfl _ _ rfl rfl ?_) | (at_delete; refine wl_delete rfl _ _ _ _ rfl _ _ rfl rfl ?_) | (with_reducible refine wl_len rfl _ _ rfl _ rfl ?_) | (with_reducible refine wl_range rfl _ _ rfl _ rfl ?_) | (with_reducible refine wl_next rfl _ rfl _ rfl ?_) | (with_reducible refine wl_copy rfl _ _ _ _ rfl _ _ rfl rfl ?_) | (with_reducible refine wl_max rfl _ _ _ _ rfl _ _ rfl rfl ?_) | (with_reducible refine wl_min rfl _ _ _ _ rfl _ _ rfl rfl ?_))
    go_end0
    exact ⟨rfl, hn, Keep.refl _ _⟩
  | some i =>
    have e1 : renamed L s t = withN (without L s) t i := by simp [renamed, hf]
    rw [e1]
    have hl2 : (without L s).length ≤ 1099511627776 := Nat.le_trans (List.length_filter_le _ _) hL
    go_enter Try.func53, Try.ntmps53
    go_wp2_with (first | (at_builtin; refine wl_append rfl _ _ _ _ rfl _ _ rfl rfl ?_) | (at_make; refine wl_make rfl _ _ _ rfl _ _ rfl rfl ?_) | (at_mapUpdate; refine wl_mapUpdate rfl _ _ _ _ rfl _ _ _ rfl rfl rfl ?_) | (at_lookup; refine wl_lookup rfl _ _ _ _ rfl _ _ rfl rfl ?_) | (at_delete; refine wl_delete rfl _ _ _ _ rfl _ _ rfl rfl ?_) | (with_reducible refine wl_len rfl _ _ rfl _ rfl ?_) | (with_reducible refine wl_range rfl _ _ rfl _ rfl ?_) | (with_reducible refine wl_next rfl _ rfl _ rfl ?_) | (with_reducible refine wl_copy rfl _ _ _ _ rfl _ _ rfl rfl ?_) | (with_reducible refine wl_max rfl _ _ _ _ rfl _ _ rfl rfl ?_) | (with_reducible refine wl_min rfl _ _ _ _ rfl _ _ rfl rfl ?_))
    refine rg_lookup hn kStr Try.underlying59 (zFile w) (kOf hs) ?_
    rw [findL_NL, hf]
    simp only [Option.map_some, Option.getD_some, fptr, ptrTo]
    go_wp2_with (first | (at_builtin; refine wl_append rfl _ _ _ _ rfl _ _ rfl rfl ?_) | (at_make; refine wl_make rfl _ _ _ rfl _ _ rfl rfl ?_) | (at_mapUpdate; refine wl_mapUpdate rfl _ _ _ _ rfl _ _ _ rfl rfl rfl ?_) | (at_lookup; refine wl_lookup rfl _ _ _ _ rfl _ _ rfl rfl ?_) | (at_delete; refine wl_delete rfl _ _ _ _ rfl _ _ rfl rfl ?_) | (with_reducible refine wl_len rfl _ _ rfl _ rfl ?_) | (with_reducible refine wl_range rfl _ _ rfl _ rfl ?_) | (with_reducible refine wl_next rfl _ rfl _ rfl ?_) | (with_reducible refine wl_copy rfl _ _ _ _ rfl _ _ rfl rfl ?_) | (with_reducible refine wl_max rfl _ _ _ _ rfl _ _ rfl rfl ?_) | (with_reducible refine wl_min rfl _ _ _ _ rfl _ _ rfl rfl ?_))
    refine rg_delete hn kStr Try.underlying59 (kOf hs) ?_
    intro w1 h1 k1 _
    rw [eraseL_NL] at h1
    have hy1 : w1.cell? ⟨y, 0, none⟩ = some (.string ⟨t.toArray⟩) := (hy.keep k1 (fun e => hn.ne_blk hy e.symm)).cell 0
    go_wp2_with (first | (at_builtin; refine wl_append rfl _ _ _ _ rfl _ _ rfl rfl ?_) | (at_make; refine wl_make rfl _ _ _ rfl _ _ rfl rfl ?_) | (at_mapUpdate; refine wl_mapUpdate rfl _ _ _ _ rfl _ _ _ rfl rfl rfl ?_) | (at_lookup; refine wl_lookup rfl _ _ _ _ rfl _ _ rfl rfl ?_) | (at_delete; refine wl_delete rfl _ _ _ _ rfl _ _ rfl rfl ?_) | (with_reducible refine wl_len rfl _ _ rfl _ rfl ?_) | (with_reducible refine wl_range rfl _ _ rfl _ rfl ?_) | (with_reducible refine wl_next rfl _ rfl _ rfl ?_) | (with_reducible refine wl_copy rfl _ _ _ _ rfl _ _ rfl rfl ?_) | (with_reducible refine wl_max rfl _ _ _ _ rfl _ _ rfl rfl ?_) | (with_reducible refine wl_min rfl _ _ _ _ rfl _ _ rfl rfl ?_))
    refine rg_store h1 kStr Try.underlying59 (by unfold NL maxLen; rw [List.length_map]; omega) (kOf ht) ?_
    intro w2 h2 k2 _
    go_wp2_with (first | (at_builtin; refine wl_append rfl _ _ _ _ rfl _ _ rfl rfl ?_) | (at_make; refine wl_make rfl _ _ _ rfl _ _ rfl rfl ?_) | (at_mapUpdate; refine wl_mapUpdate rfl _ _ _ _ rfl _ _ _ rfl rfl rfl ?_) | (at_lookup; refine wl_lookup rfl _ _ _ _ rfl _ _ rfl rfl ?_) | (at_delete; refine wl_delete rfl _ _ _ _ rfl _ _ rfl rfl ?_) | (with_reducible refine wl_len rfl _ _ rfl _ rfl ?_) | (with_reducible refine wl_range rfl _ _ rfl _ rfl ?_) | (with_reducible refine wl_next rfl _ rfl _ rfl ?_) | (with_reducible refine wl_copy rfl _ _ _ _ rfl _ _ rfl rfl ?_) | (with_reducible refine wl_max rfl _ _ _ _ rfl _ _ rfl rfl ?_) | (with_reducible refine wl_min rfl _ _ _ _ rfl _ _ rfl rfl ?_))
    go_end0
    exact ⟨rfl, h2.perm (putL_NL fb _ t i), k1.trans' k2⟩
theorem mem_renamed {L : Names} {s t s' : List UInt8} {i : Nat} (h : (s', i) ∈ renamed L s t) : ∃ s'', (s'', i) ∈ L := by
  unfold renamed at h
  split at h
  · exact ⟨_, h⟩
  · next f hf =>
    rcases List.mem_append.1 h with h | h
    · exact ⟨s', (List.mem_filter.1 (List.mem_filter.1 h).1).1⟩
    · simp at h
      rw [h.2]
      exact ⟨s, find_mem hf⟩
end Go.Proofs.Ytkmoomgmmhmaeaa
