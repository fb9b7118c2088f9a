/- A slice of bytes that came in: its bytes, as the walks of this seat hold them. No condition. -/
import Derived.Test.YtkmoomgmmhmaeaaDisk1
import Derived.WalkKit
import Derived.ProofKit
import Derived.OpenShut
namespace Go.Proofs.Ytkmoomgmmhmaeaa
open Go.Dm Go.ChangeShapes Go.WideShapes Go.ChangeAt Go.RowKit

theorem arg_cells5 : Try.prog.cellsOf 5 = 1 := by kernel_rfl
set_option maxRecDepth 100000 in
theorem open_bts {H : Type} {enc : TypeId × Value → H} {W : World} {base : Nat} {v : Value} {d : DataW H} {p : List MemPlace} (hval : Value.okWide Try.prog W .any base 29 v) (h : DataW.Trod enc Try.prog W 0 (fun _ => true) true 29 v d p) :
    ∃ l : List UInt8, Bts (fun k => k < W.heap.size) W v l := by
  obtain ⟨a1, len, cap, rfl⟩ := okWide_slice Try.underlying29 hval
  obtain ⟨fuel, hf⟩ := h
  rcases open_ints Try.underlying29 Try.underlying5 arg_cells5 hf with ⟨hcs, _⟩ | ⟨a, len', cap', zs, hcs, _, hl, hm, hz, _, hcell, hwz⟩
  · simp [Value.cells] at hcs
    obtain ⟨rfl, rfl, rfl⟩ := hcs
    exact ⟨[], Sl.nil _ _ _⟩
  · simp [Value.cells] at hcs
    obtain ⟨rfl, rfl, rfl⟩ := hcs
    simp only [if_true] at hz
    rcases Nat.eq_zero_or_pos len with h0 | h0
    · obtain ⟨ab, ao, spot⟩ := a
      have hu := Try.underlying29
      have hv : Cell.ok Try.prog W .any base 29 (.slice (some ⟨ab, ao, spot⟩) len cap) := by
        unfold Value.okWide at hval
        rw [hu] at hval
        unfold Cell.okWide at hval
        rw [hu] at hval
        exact hval
      unfold Cell.ok at hv
      rw [hu] at hv
      obtain ⟨_, _, _, hsp, row, cells, hsh, _⟩ := hv
      have hsp : spot = none := hsp
      subst hsp
      have hlt : ab < W.heap.size := by
        unfold World.shape? at hsh
        rcases Nat.lt_or_ge ab W.heap.size with h | h
        · exact h
        · rw [Array.getElem?_eq_none h] at hsh; cases hsh
      subst h0
      exact ⟨[], Sl.empty _ _ _ _ hm⟩
    · obtain ⟨ab, ao, spot⟩ := a
      have hc0 := hcell 0 (by omega)
      have hspot : spot = none := by simpa [Addr.add] using World.cell?_spot hc0
      subst hspot
      have hlen : ((zs.take len).map fun n => UInt8.ofNat n.toNat).length = len := by simp; omega
      refine ⟨(zs.take len).map fun n => UInt8.ofNat n.toNat, ?_⟩
      show Sl _ _ _ _ _ _
      rw [hlen]
      refine Sl.mk (by simp; omega) (World.block_lt_of_cell? W _ hc0) (World.block_lt_of_cell? W _ hc0) hl hm fun j u hu => ?_
      have hj := (List.getElem?_eq_some_iff.1 hu).1
      rw [List.length_map, hlen] at hj
      have hcj := hcell j (by omega)
      rw [Addr.add_lit] at hcj
      rw [hcj, ← hu]
      have hjz : j < zs.length := by omega
      have hb := range_u8 hwz j
      rw [List.getElem?_eq_getElem hjz, Option.getD_some] at hb
      simp only [List.getElem?_map, List.getElem?_take, List.getElem?_eq_getElem hjz, hj, if_true, Option.map_some, List.getD_eq_getElem?_getD, Option.getD_some, bv]
      congr 2
      simp only [UInt8.toNat_ofNat']
      omega
end Go.Proofs.Ytkmoomgmmhmaeaa
