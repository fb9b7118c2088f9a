/- The small functions of the disk and its step. No condition. -/
import Derived.Test.YtkmoomgmmhmaeaaDiskR
import Derived.Test.YtkmoomgmmhmaeaaDisk1
namespace Go.Proofs.Ytkmoomgmmhmaeaa
open Go.RowKit Go.Dm Go.Dm.Dk Go.Maps Go.WideMaps Go.WideElems

theorem zFile (w : World) : (zeroValue 64).run Try.prog w = .ok (.pointer none) w := by kernel_rfl
theorem kStr : Keyed Try.prog 9 := string_keyed Try.underlying9
theorem kOf {s : List UInt8} (h : s.length ≤ maxLen) : keyOf Try.prog 9 (.string ⟨s.toArray⟩) = some (.string s) := by
  have := keyOf_string_mk (s := ⟨s.toArray⟩) Try.underlying9 (by show s.toArray.size ≤ maxLen; simpa using h)
  simpa using this

def ofV (fb : List Nat) (L : Names) (s : List UInt8) : Value := ((find L s).map (fptr fb)).getD (.pointer none)

set_option maxHeartbeats 400000 in
theorem of_any {nb : Nat} {fb : List Nat} {L : Names} (d : Nat) (s : List UInt8) (w : World) (hs : s.length ≤ maxLen) (hn : MapL Try.prog 9 w nb (NL fb L)) (hd : w.cell? ⟨d, 1, none⟩ = some (.map (some nb))) :
    Calls Try.prog 34 #[.pointer (some ⟨d, 0, none⟩), .string ⟨s.toArray⟩] w fun e w' => e = .returned (ofV fb L s) ∧ w = w' := by
  go_enter Try.func34, Try.ntmps34
  go_wp2_with (first | (at_builtin; refine wl_append rfl _ _ _ _ rfl _ _ rfl rfl ?_) | (at_make; refine wl_make rfl _ _ _ rfl _ _ rfl rfl ?_) | (at_mapUpdate; refine wl_mapUpdate rfl _ _ _ _ rfl _ _ _ rfl rfl rfl ?_) | (at_lookup; refine wl_lookup rfl _ _ _ _ rfl _ _ rfl rfl ?_) | (at_delete; refine wl_delete rfl _ _ _ _ rfl _ _ rfl rfl ?_) | (with_reducible refine wl_len rfl _ _ rfl _ rfl ?_) | (with_reducible refine wl_range rfl _ _ rfl _ rfl ?_) | (with_reducible refine wl_next rfl _ rfl _ rfl ?_) | (with_reducible refine wl_copy rfl _ _ _ _ rfl _ _ rfl rfl ?_) | (with_reducible refine wl_max rfl _ _ _ _ rfl _ _ rfl rfl ?_) | (with_reducible refine wl_min rfl _ _ _ _ rfl _ _ rfl rfl ?_))
  refine rg_lookup hn kStr Try.underlying59 (zFile w) (kOf hs) ?_
  rw [findL_NL]
  go_wp2_with (first | (at_builtin; refine wl_append rfl _ _ _ _ rfl _ _ rfl rfl ?_) | (at_make; refine wl_make rfl _ _ _ rfl _ _ rfl rfl ?_) | (at_mapUpdate; refine wl_mapUpdate rfl _ _ _ _ rfl _ _ _ rfl rfl rfl ?_) | (at_lookup; refine wl_lookup rfl _ _ _ _ rfl _ _ rfl rfl ?_) | (at_delete; refine wl_delete rfl _ _ _ _ rfl _ _ rfl rfl ?_) | (with_reducible refine wl_len rfl _ _ rfl _ rfl ?_) | (with_reducible refine wl_range rfl _ _ rfl _ rfl ?_) | (with_reducible refine wl_next rfl _ rfl _ rfl ?_) | (with_reducible refine wl_copy rfl _ _ _ _ rfl _ _ rfl rfl ?_) | (with_reducible refine wl_max rfl _ _ _ _ rfl _ _ rfl rfl ?_) | (with_reducible refine wl_min rfl _ _ _ _ rfl _ _ rfl rfl ?_))
  go_ret
  exact ⟨rfl, rfl⟩

set_option maxHeartbeats 400000 in
theorem of_nil (s : Value) (w : World) : Calls Try.prog 34 #[.pointer none, s] w fun e w' => e = .returned (.pointer none) ∧ w = w' := by
  go_enter Try.func34, Try.ntmps34
  go_wp2_with (first | (at_builtin; refine wl_append rfl _ _ _ _ rfl _ _ rfl rfl ?_) | (at_make; refine wl_make rfl _ _ _ rfl _ _ rfl rfl ?_) | (at_mapUpdate; refine wl_mapUpdate rfl _ _ _ _ rfl _ _ _ rfl rfl rfl ?_) | (at_lookup; refine wl_lookup rfl _ _ _ _ rfl _ _ rfl rfl ?_) | (at_delete; refine wl_delete rfl _ _ _ _ rfl _ _ rfl rfl ?_) | (with_reducible refine wl_len rfl _ _ rfl _ rfl ?_) | (with_reducible refine wl_range rfl _ _ rfl _ rfl ?_) | (with_reducible refine wl_next rfl _ rfl _ rfl ?_) | (with_reducible refine wl_copy rfl _ _ _ _ rfl _ _ rfl rfl ?_) | (with_reducible refine wl_max rfl _ _ _ _ rfl _ _ rfl rfl ?_) | (with_reducible refine wl_min rfl _ _ _ _ rfl _ _ rfl rfl ?_))
  go_ret
  exact ⟨rfl, rfl⟩


/-- the call of a function value enters it -/
def Enters (f : Nat) (c : Array Value) : Prop := ∀ w : World, (callFunc f c).run Try.prog w = .ok (.enter f c) w

end Go.Proofs.Ytkmoomgmmhmaeaa
