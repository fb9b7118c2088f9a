/- Names. No condition. -/
import Derived.Test.YtkmoomgmmhmaeaaDiskQ
import Derived.Sort.KeysCollected
namespace Go.Dm.Dk
/-- the names, rising -/
def namesOf (m : M) : List (List UInt8) := (m.L.map (·.1)).mergeSort (fun x y => decide (x ≤ y))
end Go.Dm.Dk
namespace Go.Proofs.Ytkmoomgmmhmaeaa
open Go.RowKit Go.Dm Go.Dm.Dk Go.Maps

theorem strKeys_NL {fb : List Nat} {L : Names} {es : List (Lit × DataW Value)} (h : es.Perm ((NL fb L).map hd)) : (strKeys (.map es)).Perm (L.map (·.1)) := by
  have h1 : (es.map fun p => strOf p.1).Perm (((NL fb L).map hd).map fun p => strOf p.1) := h.map _
  have h2 : (((NL fb L).map hd).map fun p => strOf p.1) = L.map (·.1) := by
    unfold NL
    rw [List.map_map, List.map_map]
    rfl
  rw [h2] at h1
  exact h1

set_option maxRecDepth 100000 in
set_option maxHeartbeats 1000000 in
theorem names_any {A : Nat → Prop} {d : Nat} {m : M} (w : World) (h : DR A w d m) (hl : m.L.length ≤ 1099511627776) :
    Calls Try.prog 20 #[.pointer (some ⟨d, 0, none⟩)] w fun e w' => ∃ v, e = .returned v ∧ w'.ownsRow w.heap.size 9 1 v (namesOf m).length ((namesOf m).map encStr) ∧ Keep No w w' := by
  obtain ⟨fb, nb, sb, wv, rows, h⟩ := h
  have hd := h.blk.cell 1
  simp only [List.getElem?_toArray, List.getElem?_cons_succ, List.getElem?_cons_zero] at hd
  obtain ⟨_, es, hperm, hown⟩ := h.nm
  have hsz : Maps.size (.map es) = m.L.length := by rw [Maps.size_eq, hperm.length_eq, List.length_map]; simp [NL]
  have hsr := Try.sortedAny nb _ (.map es) heldE w hown (by rw [hsz]; unfold maxLen; omega) (by rw [hsz]; omega)
  have HS := Lib.hid hsr
  have HSZ := Lib.hid hsz
  have HO := Lib.hid hown
  clear hsr hsz hown
  go_enter Try.func20, Try.ntmps20
  go_wp2_with (first | (at_builtin; refine wl_append rfl _ _ _ _ rfl _ _ rfl rfl ?_) | (at_make; refine wl_make rfl _ _ _ rfl _ _ rfl rfl ?_) | (at_mapUpdate; refine wl_mapUpdate rfl _ _ _ _ rfl _ _ _ rfl rfl rfl ?_) | (at_lookup; refine wl_lookup rfl _ _ _ _ rfl _ _ rfl rfl ?_) | (at_delete; refine wl_delete rfl _ _ _ _ rfl _ _ rfl rfl ?_) | (with_reducible refine wl_len rfl _ _ rfl _ rfl ?_) | (with_reducible refine wl_range rfl _ _ rfl _ rfl ?_) | (with_reducible refine wl_next rfl _ rfl _ rfl ?_) | (with_reducible refine wl_copy rfl _ _ _ _ rfl _ _ rfl rfl ?_) | (with_reducible refine wl_max rfl _ _ _ _ rfl _ _ rfl rfl ?_) | (with_reducible refine wl_min rfl _ _ _ _ rfl _ _ rfl rfl ?_))
  refine (Try.keysAny _ _).mono ?_
  rintro e w1 ⟨rfl, rfl⟩
  go_wp2_with (first | (at_builtin; refine wl_append rfl _ _ _ _ rfl _ _ rfl rfl ?_) | (at_make; refine wl_make rfl _ _ _ rfl _ _ rfl rfl ?_) | (at_mapUpdate; refine wl_mapUpdate rfl _ _ _ _ rfl _ _ _ rfl rfl rfl ?_) | (at_lookup; refine wl_lookup rfl _ _ _ _ rfl _ _ rfl rfl ?_) | (at_delete; refine wl_delete rfl _ _ _ _ rfl _ _ rfl rfl ?_) | (with_reducible refine wl_len rfl _ _ rfl _ rfl ?_) | (with_reducible refine wl_range rfl _ _ rfl _ rfl ?_) | (with_reducible refine wl_next rfl _ rfl _ rfl ?_) | (with_reducible refine wl_copy rfl _ _ _ _ rfl _ _ rfl rfl ?_) | (with_reducible refine wl_max rfl _ _ _ _ rfl _ _ rfl rfl ?_) | (with_reducible refine wl_min rfl _ _ _ _ rfl _ _ rfl rfl ?_))
  refine HS.out.mono ?_
  rintro e w2 ⟨v, ss, rfl, hp, hrow, _, hb⟩
  go_wp2_with (first | (at_builtin; refine wl_append rfl _ _ _ _ rfl _ _ rfl rfl ?_) | (at_make; refine wl_make rfl _ _ _ rfl _ _ rfl rfl ?_) | (at_mapUpdate; refine wl_mapUpdate rfl _ _ _ _ rfl _ _ _ rfl rfl rfl ?_) | (at_lookup; refine wl_lookup rfl _ _ _ _ rfl _ _ rfl rfl ?_) | (at_delete; refine wl_delete rfl _ _ _ _ rfl _ _ rfl rfl ?_) | (with_reducible refine wl_len rfl _ _ rfl _ rfl ?_) | (with_reducible refine wl_range rfl _ _ rfl _ rfl ?_) | (with_reducible refine wl_next rfl _ rfl _ rfl ?_) | (with_reducible refine wl_copy rfl _ _ _ _ rfl _ _ rfl rfl ?_) | (with_reducible refine wl_max rfl _ _ _ _ rfl _ _ rfl rfl ?_) | (with_reducible refine wl_min rfl _ _ _ _ rfl _ _ rfl rfl ?_))
  go_ret
  have e1 : ss.mergeSort (fun x y => decide (x ≤ y)) = namesOf m := mergeSort_of_perm (hp.trans (strKeys_NL hperm))
  have e2 : ss.length = (namesOf m).length := by rw [← e1, List.length_mergeSort]
  rw [e1, e2] at hrow
  refine ⟨v, rfl, ⟨hrow.1, hrow.2.imp id ?_⟩, ((Keep.refl _ _).alloc _).trans' (Keep.of_below hb)⟩
  rintro ⟨g, cap, cur, e3, hg, r⟩
  exact ⟨g, cap, cur, e3, by simp at hg; omega, r⟩
end Go.Proofs.Ytkmoomgmmhmaeaa
