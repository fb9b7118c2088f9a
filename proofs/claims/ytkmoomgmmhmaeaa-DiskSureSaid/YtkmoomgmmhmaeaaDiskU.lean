/- Used, Pending, Off, Cut. No condition. -/
import Derived.Test.YtkmoomgmmhmaeaaDiskE
namespace Go.Proofs.Ytkmoomgmmhmaeaa
open Go.RowKit Go.Dm Go.Dm.Dk Go.Maps Go.WideMaps Go.WideElems

def usedOf (is : List (List UInt8)) (T : Names) : Nat := (T.map fun p => fileLen is p.2).sum
theorem usedOf_without (is : List (List UInt8)) (s : List UInt8) (i : Nat) : ∀ T : Names, T.Pairwise (fun p q => p.1 ≠ q.1) → (s, i) ∈ T → usedOf is T = fileLen is i + usedOf is (without T s)
  | [], _, h => by cases h
  | q :: r, hp, h => by
    rw [List.pairwise_cons] at hp
    rcases List.mem_cons.1 h with e | h
    · subst e
      have e1 : without ((s, i) :: r) s = r := by
        unfold without
        rw [List.filter_cons_of_neg (by simp)]
        exact List.filter_eq_self.2 fun p hp' => by simpa using fun e => (hp.1 p hp') e.symm
      rw [e1]; simp [usedOf]
    · have hne : q.1 ≠ s := fun e => hp.1 _ h e
      have e1 : without (q :: r) s = q :: without r s := by
        unfold without
        rw [List.filter_cons_of_pos (by simpa using hne)]
      have ih := usedOf_without is s i r hp.2 h
      rw [e1]
      simp only [usedOf, List.map_cons, List.sum_cons] at ih ⊢
      omega
theorem mem_NL {fb : List Nat} {T : Names} {kl : Lit} {v : Value} (h : (kl, v) ∈ NL fb T) : ∃ s i, (s, i) ∈ T ∧ kl = .string s ∧ v = fptr fb i := by
  obtain ⟨p, hp, e⟩ := List.mem_map.1 h
  cases e
  exact ⟨p.1, p.2, hp, rfl, rfl⟩
theorem pairwise_without {T : Names} (h : T.Pairwise (fun p q => p.1 ≠ q.1)) (s : List UInt8) : (without T s).Pairwise (fun p q => p.1 ≠ q.1) := h.filter _

set_option maxRecDepth 100000 in
set_option maxHeartbeats 1000000 in
theorem used_any {A : Nat → Prop} {d : Nat} {m : M} (w : World) (h : DR A w d m) (hu : used m ≤ 4611686018427387904) :
    Calls Try.prog 17 #[.pointer (some ⟨d, 0, none⟩)] w fun e w' => e = .returned (.int .i64 (used m)) ∧ Keep No w w' := by
  obtain ⟨fb, nb, sb, wv, rows, h⟩ := h
  have h1 := h.blk.cell 1
  simp only [List.getElem?_toArray, List.getElem?_cons_succ, List.getElem?_cons_zero] at h1
  have hu0 : usedOf m.is m.L = used m := rfl
  have HU := Lib.hid hu0; clear hu0
  go_enter Try.func17, Try.ntmps17
  go_wp2_with (first | (at_builtin; refine wl_append rfl _ _ _ _ rfl _ _ rfl rfl ?_) | (at_make; refine wl_make rfl _ _ _ rfl _ _ rfl rfl ?_) | (at_mapUpdate; refine wl_mapUpdate rfl _ _ _ _ rfl _ _ _ rfl rfl rfl ?_) | (at_lookup; refine wl_lookup rfl _ _ _ _ rfl _ _ rfl rfl ?_) | (at_delete; refine wl_delete rfl _ _ _ _ rfl _ _ rfl rfl ?_) | (with_reducible refine wl_len rfl _ _ rfl _ rfl ?_) | (with_reducible refine wl_range rfl _ _ rfl _ rfl ?_) | (with_reducible refine wl_next rfl _ rfl _ rfl ?_) | (with_reducible refine wl_copy rfl _ _ _ _ rfl _ _ rfl rfl ?_) | (with_reducible refine wl_max rfl _ _ _ _ rfl _ _ rfl rfl ?_) | (with_reducible refine wl_min rfl _ _ _ _ rfl _ _ rfl rfl ?_))
  refine rg_range h.nm kStr Try.underlying59 ?_
  intro w1 hr hk1 _
  go_wp2_with (first | (at_builtin; refine wl_append rfl _ _ _ _ rfl _ _ rfl rfl ?_) | (at_make; refine wl_make rfl _ _ _ rfl _ _ rfl rfl ?_) | (at_mapUpdate; refine wl_mapUpdate rfl _ _ _ _ rfl _ _ _ rfl rfl rfl ?_) | (at_lookup; refine wl_lookup rfl _ _ _ _ rfl _ _ rfl rfl ?_) | (at_delete; refine wl_delete rfl _ _ _ _ rfl _ _ rfl rfl ?_) | (with_reducible refine wl_len rfl _ _ rfl _ rfl ?_) | (with_reducible refine wl_range rfl _ _ rfl _ rfl ?_) | (with_reducible refine wl_next rfl _ rfl _ rfl ?_) | (with_reducible refine wl_copy rfl _ _ _ _ rfl _ _ rfl rfl ?_) | (with_reducible refine wl_max rfl _ _ _ _ rfl _ _ rfl rfl ?_) | (with_reducible refine wl_min rfl _ _ _ _ rfl _ _ rfl rfl ?_))
  go_loopw [3] (fun n wr => ∃ T, RangeL Try.prog 9 wr nb w.heap.size (NL fb m.L) (NL fb T) ∧ T.Pairwise (fun p q => p.1 ≠ q.1) ∧ (∀ p ∈ T, p ∈ m.L) ∧ usedOf m.is T ≤ used m ∧ n = .int .i64 ((used m : Int) - usedOf m.is T) ∧ Keep No w wr) (fun _ wr => wr.rangeLeft nb w.heap.size)
  case atStart => exact ⟨m.L, hr, apart_names h.nm.apart, fun _ h => h, by rw [HU.out]; exact Nat.le_refl _, by rw [HU.out]; simp, hk1⟩
  case round =>
    obtain ⟨T, hr, hT, hsub, hle, rfl, hk⟩ := hrel
    go_wp2_with (first | (at_builtin; refine wl_append rfl _ _ _ _ rfl _ _ rfl rfl ?_) | (at_make; refine wl_make rfl _ _ _ rfl _ _ rfl rfl ?_) | (at_mapUpdate; refine wl_mapUpdate rfl _ _ _ _ rfl _ _ _ rfl rfl rfl ?_) | (at_lookup; refine wl_lookup rfl _ _ _ _ rfl _ _ rfl rfl ?_) | (at_delete; refine wl_delete rfl _ _ _ _ rfl _ _ rfl rfl ?_) | (with_reducible refine wl_len rfl _ _ rfl _ rfl ?_) | (with_reducible refine wl_range rfl _ _ rfl _ rfl ?_) | (with_reducible refine wl_next rfl _ rfl _ rfl ?_) | (with_reducible refine wl_copy rfl _ _ _ _ rfl _ _ rfl rfl ?_) | (with_reducible refine wl_max rfl _ _ _ _ rfl _ _ rfl rfl ?_) | (with_reducible refine wl_min rfl _ _ _ _ rfl _ _ rfl rfl ?_))
    refine rg_next hr kStr ?_ ?_
    · intro e0
      have e1 : T = [] := by simpa [NL] using e0
      subst e1
      go_wp2_with (first | (at_builtin; refine wl_append rfl _ _ _ _ rfl _ _ rfl rfl ?_) | (at_make; refine wl_make rfl _ _ _ rfl _ _ rfl rfl ?_) | (at_mapUpdate; refine wl_mapUpdate rfl _ _ _ _ rfl _ _ _ rfl rfl rfl ?_) | (at_lookup; refine wl_lookup rfl _ _ _ _ rfl _ _ rfl rfl ?_) | (at_delete; refine wl_delete rfl _ _ _ _ rfl _ _ rfl rfl ?_) | (with_reducible refine wl_len rfl _ _ rfl _ rfl ?_) | (with_reducible refine wl_range rfl _ _ rfl _ rfl ?_) | (with_reducible refine wl_next rfl _ rfl _ rfl ?_) | (with_reducible refine wl_copy rfl _ _ _ _ rfl _ _ rfl rfl ?_) | (with_reducible refine wl_max rfl _ _ _ _ rfl _ _ rfl rfl ?_) | (with_reducible refine wl_min rfl _ _ _ _ rfl _ _ rfl rfl ?_))
      go_ret
      exact ⟨by simp [usedOf], hk⟩
    · intro key v kl w' hkey hmem hr' hlt hk' hs hen
      obtain ⟨s, i, hsi, rfl, rfl⟩ := mem_NL hmem
      rw [eraseL_NL] at hr'
      obtain ⟨_, _, v1, v2, hb, hv1, _⟩ := h.file i (.inl ⟨s, hsub _ hsi⟩)
      have hne : ¬ fb.getD i 0 = w.heap.size := fun e => by have := hb.lt; omega
      have hk2 : Keep (fun j => j = w.heap.size) w w' := (hk.mono fun _ _ h => h.elim).trans' hk'
      have hc := (hb.keep hk2 hne).cell 0
      simp only [fptr, ptrTo] at hen
      generalize fb.getD i 0 = b at *
      obtain ⟨a, cap, rfl, _, hcm⟩ := hv1.shape
      have hc' : w'.cell? ⟨b, 0, none⟩ = some (.slice a (m.is.getD i []).length cap) := hc
      have hw := usedOf_without m.is s i T hT hsi
      have hl : fileLen m.is i = (m.is.getD i []).length := rfl
      generalize (m.is.getD i []).length = n at *
      have HW := Lib.hid hw
      have HL := Lib.hid hl
      have hx : (used m : Int) - usedOf m.is T + n = (used m : Int) - usedOf m.is (without T s) := by omega
      have hb1 : (0 : Int) ≤ (used m : Int) - usedOf m.is T := by omega
      have hb2 : (used m : Int) - usedOf m.is T + n ≤ 4611686018427387904 := by omega
      have HX := Lib.hid hx
      clear hx hw hl hc
      go_wp2_with (first | (at_builtin; refine wl_append rfl _ _ _ _ rfl _ _ rfl rfl ?_) | (at_make; refine wl_make rfl _ _ _ rfl _ _ rfl rfl ?_) | (at_mapUpdate; refine wl_mapUpdate rfl _ _ _ _ rfl _ _ _ rfl rfl rfl ?_) | (at_lookup; refine wl_lookup rfl _ _ _ _ rfl _ _ rfl rfl ?_) | (at_delete; refine wl_delete rfl _ _ _ _ rfl _ _ rfl rfl ?_) | (with_reducible refine wl_len rfl _ _ rfl _ rfl ?_) | (with_reducible refine wl_range rfl _ _ rfl _ rfl ?_) | (with_reducible refine wl_next rfl _ rfl _ rfl ?_) | (with_reducible refine wl_copy rfl _ _ _ _ rfl _ _ rfl rfl ?_) | (with_reducible refine wl_max rfl _ _ _ _ rfl _ _ rfl rfl ?_) | (with_reducible refine wl_min rfl _ _ _ _ rfl _ _ rfl rfl ?_))
      go_roundw
      case rel =>
        refine ⟨without T s, hr', pairwise_without hT s, fun p hp => hsub p (List.mem_filter.1 hp).1, ?_, ?_, ?_⟩
        · have := HW.out; omega
        · rw [← HX.out]
        · exact (hk.trans hk' (fun j hj e => absurd e (by omega)))
      case measure => exact hlt
end Go.Proofs.Ytkmoomgmmhmaeaa
