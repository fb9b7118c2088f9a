/- maps.Clone at the disk's type. No condition. -/
import Derived.Test.YtkmoomgmmhmaeaaDiskS
import Derived.Shelf.SlMaps.Clone
namespace Go.Proofs.Ytkmoomgmmhmaeaa
open Go.RowKit Go.Dm Go.Dm.Dk Go.Maps

set_option maxRecDepth 100000 in
set_option maxHeartbeats 1000000 in
theorem mapsclone_any {b : Nat} {L : List (Lit × Value)} (w : World) (h : MapL Try.prog 9 w b L) :
    Calls Try.prog 47 #[.map (some b)] w fun e w' => e = .returned (.map (some w.heap.size)) ∧ MapL Try.prog 9 w' w.heap.size L ∧ Keep No w w' ∧ w'.heap.size = w.heap.size + 1 := by
  obtain ⟨hap, es0, hperm, es, clock, hb, F, hs, hD⟩ := h
  have hq := fun w => run_eql_map_nil_sl (P := Try.prog) w 59 _ _ (some b) Try.underlying59
  go_enter Try.func47, Try.ntmps47
  go_wp2
  rw [run_callFunc_extern Try.func75 (by kernel_rfl) (by kernel_rfl) (by kernel_rfl) (e := Extern.MapsClone.clone) (by kernel_rfl), run_maps_clone_sl w 59 hb]
  simp only [Result.andThen]
  rw [Oper.upon_value]
  go_wp2
  rw [run_typeAssert_map_sl _ 59 _ _ _ _ Try.underlying59]
  simp only [Result.andThen]
  rw [Oper.upon_value]
  go_wp2
  go_ret
  exact ⟨rfl, ⟨hap, es0, hperm, es, clock, (MapKept.heap_alloc w _).1, F, hs, hD⟩, (Keep.refl _ _).alloc _, by simp⟩
end Go.Proofs.Ytkmoomgmmhmaeaa
