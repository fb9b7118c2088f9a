/- The reference of the disk: put, laid, Used. No condition. -/
import Derived.Test.YtkmoomgmmhmaeaaRef1
import Derived.IntWalk
namespace Go.Proofs.Ytkmoomgmmhmaeaa
open Go.RowKit Go.Dm Go.Dm.Dk

theorem encS_map (l : List (List UInt8)) : l.flatMap encS = l.map fun s => .string ⟨s.toArray⟩ := List.map_eq_flatMap.symm

set_option maxRecDepth 100000 in
set_option maxHeartbeats 1000000 in
theorem rput_any {A : Nat → Prop} {w : World} {v : Value} {l : List (List UInt8)} (i : Nat) (s : List UInt8) (h : Fl A w 1 encS v l) (hl : l.length ≤ 1000000) (hi : i < l.length) :
    Calls Try.prog 87 #[v, .int .i64 (i : Int), .string ⟨s.toArray⟩] w fun e w' => ∃ v', e = .returned v' ∧ FlO w' w.heap.size 9 1 encS v' (putF l i s) ∧ Keep No w w' := by
  obtain ⟨a, c, rfl, hc, hm⟩ := h.shape
  go_enter Try.func87, Try.ntmps87
  go_wp2_with (first | (at_builtin; refine wl_append rfl _ _ _ _ rfl _ _ rfl rfl ?_) | (at_make; refine wl_make rfl _ _ _ rfl _ _ rfl rfl ?_) | (at_mapUpdate; refine wl_mapUpdate rfl _ _ _ _ rfl _ _ _ rfl rfl rfl ?_) | (at_lookup; refine wl_lookup rfl _ _ _ _ rfl _ _ rfl rfl ?_) | (at_delete; refine wl_delete rfl _ _ _ _ rfl _ _ rfl rfl ?_) | (with_reducible refine wl_len rfl _ _ rfl _ rfl ?_) | (with_reducible refine wl_range rfl _ _ rfl _ rfl ?_) | (with_reducible refine wl_next rfl _ rfl _ rfl ?_) | (with_reducible refine wl_copy rfl _ _ _ _ rfl _ _ rfl rfl ?_) | (with_reducible refine wl_max rfl _ _ _ _ rfl _ _ rfl rfl ?_) | (with_reducible refine wl_min rfl _ _ _ _ rfl _ _ rfl rfl ?_))
  refine rg_cat _ 16 Try.underlying35 info_str rfl (by decide) h (fun x => s_one x) (FlO.nil (base := w.heap.size)) (by simpa using Nat.le_trans hl (by decide)) (by decide) (Nat.le_refl _) ?_
  intro v' w1 ho hk _
  rw [List.nil_append] at ho
  replace hk : Keep No w w1 := hk.mono fun j _ h => by cases h
  obtain ⟨g, cap, rfl⟩ : ∃ g cap, v' = .slice (some ⟨g, 0, none⟩) l.length cap := by
    rcases ho.2 with ⟨_, h⟩ | ⟨g, cap, _, e, _⟩
    · omega
    · exact ⟨g, cap, e⟩
  have ho' : w1.ownsRow w.heap.size 9 1 (.slice (some ⟨g, 0, none⟩) l.length cap) l.length (l.flatMap encS) := ho
  have f1 := ho'.frozenAt i
  have hst := (ho'.stored i (.string ⟨s.toArray⟩)).1
  have c1 := ho'.cellAt i (by omega)
  rw [encS_map, List.getElem?_map, List.getElem?_eq_getElem hi, Option.map_some] at c1
  go_wp2_with (first | (at_builtin; refine wl_append rfl _ _ _ _ rfl _ _ rfl rfl ?_) | (at_make; refine wl_make rfl _ _ _ rfl _ _ rfl rfl ?_) | (at_mapUpdate; refine wl_mapUpdate rfl _ _ _ _ rfl _ _ _ rfl rfl rfl ?_) | (at_lookup; refine wl_lookup rfl _ _ _ _ rfl _ _ rfl rfl ?_) | (at_delete; refine wl_delete rfl _ _ _ _ rfl _ _ rfl rfl ?_) | (with_reducible refine wl_len rfl _ _ rfl _ rfl ?_) | (with_reducible refine wl_range rfl _ _ rfl _ rfl ?_) | (with_reducible refine wl_next rfl _ rfl _ rfl ?_) | (with_reducible refine wl_copy rfl _ _ _ _ rfl _ _ rfl rfl ?_) | (with_reducible refine wl_max rfl _ _ _ _ rfl _ _ rfl rfl ?_) | (with_reducible refine wl_min rfl _ _ _ _ rfl _ _ rfl rfl ?_))
  go_ret
  refine ⟨_, rfl, ?_, hk.setCell (p := ⟨g, i, none⟩) (fun h => absurd (ho'.lt g rfl).1 (Nat.not_le.2 h)) _⟩
  unfold FlO putF
  rw [List.length_set]
  rw [encS_map, ← List.map_set, ← encS_map] at hst
  exact hst

theorem used_step {L : Names} (is : List (List UInt8)) {k : Nat} (hk : k < L.length) : ((L.take (k + 1)).map fun p => fileLen is p.2).sum = ((L.take k).map fun p => fileLen is p.2).sum + fileLen is L[k].2 := by
  rw [List.take_succ_eq_append_getElem hk, List.map_append, List.sum_append]; simp only [List.map_cons, List.map_nil, List.sum_cons, List.sum_nil, Nat.add_zero]
theorem used_take {L : Names} (is : List (List UInt8)) {N : Nat} (h : ∀ f, fileLen is f ≤ N) : ∀ k, ((L.take k).map fun p => fileLen is p.2).sum ≤ k * N
  | 0 => by simp
  | k + 1 => by
    have ih := used_take (L := L) is h k
    rcases Nat.lt_or_ge k L.length with hk | hk
    · rw [used_step is hk, Nat.succ_mul]; have := h L[k].2; omega
    · rw [List.take_of_length_le (by omega)]; rw [List.take_of_length_le hk] at ih; rw [Nat.succ_mul]; omega

def dv (m : M) (v1 v2 v3 v4 v5 : Value) : Value := .agg #[.int .i64 m.room, v1, v2, v3, v4, v5, .bool m.off, .int .i64 m.cut]
structure DV (A : Nat → Prop) (w : World) (v1 v2 v3 v4 v5 : Value) (m : M) : Prop where
  is : Fl A w 1 encS v1 m.is
  sure : Fl A w 1 encS v2 m.sure
  L : Fl A w 2 encNm v3 m.L
  S : Fl A w 2 encNm v4 m.S
  W : Fl A w 6 encOp v5 m.wait
/-- files that are named are there -/
structure Files (m : M) (n : Nat) : Prop where
  L : ∀ p ∈ m.L, p.2 < m.is.length
  S : ∀ p ∈ m.S, p.2 < m.is.length
  W : ∀ o ∈ m.wait, o.kind = 1 ∨ o.kind = 2 → o.file < m.is.length
  ln : m.sure.length = m.is.length
  il : m.is.length ≤ n

set_option maxRecDepth 100000 in
set_option maxHeartbeats 1000000 in
theorem rused_any {A : Nat → Prop} {w : World} {v1 v2 v3 v4 v5 : Value} {m : M} {n N n2 : Nat} (h : DV A w v1 v2 v3 v4 v5 m) (hs : Small m n N) (hf : Files m n2) (hn : n ≤ 100000) (hN : N ≤ 1000000) :
    Calls Try.prog 64 #[dv m v1 v2 v3 v4 v5] w fun e w' => e = .returned (.int .i64 (used m)) ∧ Keep No w w' := by
  obtain ⟨a1, c1, rfl, hc1, hm1⟩ := h.is.shape
  obtain ⟨a3, c3, rfl, hc3, hm3⟩ := h.L.shape
  have hN2 : ∀ f, fileLen m.is f ≤ N := hs.is
  have hLn := hs.L
  unfold dv
  go_enter Try.func64, Try.ntmps64
  go_wp2_with (first | (at_builtin; refine wl_append rfl _ _ _ _ rfl _ _ rfl rfl ?_) | (at_make; refine wl_make rfl _ _ _ rfl _ _ rfl rfl ?_) | (at_mapUpdate; refine wl_mapUpdate rfl _ _ _ _ rfl _ _ _ rfl rfl rfl ?_) | (at_lookup; refine wl_lookup rfl _ _ _ _ rfl _ _ rfl rfl ?_) | (at_delete; refine wl_delete rfl _ _ _ _ rfl _ _ rfl rfl ?_) | (with_reducible refine wl_len rfl _ _ rfl _ rfl ?_) | (with_reducible refine wl_range rfl _ _ rfl _ rfl ?_) | (with_reducible refine wl_next rfl _ rfl _ rfl ?_) | (with_reducible refine wl_copy rfl _ _ _ _ rfl _ _ rfl rfl ?_) | (with_reducible refine wl_max rfl _ _ _ _ rfl _ _ rfl rfl ?_) | (with_reducible refine wl_min rfl _ _ _ _ rfl _ _ rfl rfl ?_))
  have hkW : Keep No w (w.alloc (.cells #[.int .i64 m.room, .slice a1 m.is.length c1, v2, .slice a3 m.L.length c3, v4, v5, .bool m.off, .int .i64 m.cut] 47)) := (Keep.refl _ _).alloc _
  have hB : Blk (w.alloc (.cells #[.int .i64 m.room, .slice a1 m.is.length c1, v2, .slice a3 m.L.length c3, v4, v5, .bool m.off, .int .i64 m.cut] 47)) w.heap.size #[.int .i64 m.room, .slice a1 m.is.length c1, v2, .slice a3 m.L.length c3, v4, v5, .bool m.off, .int .i64 m.cut] 47 := Blk.new _ _ _
  generalize w.alloc (.cells #[.int .i64 m.room, .slice a1 m.is.length c1, v2, .slice a3 m.L.length c3, v4, v5, .bool m.off, .int .i64 m.cut] 47) = W at *
  have q1 := hB.cell 1
  have q3 := hB.cell 3
  simp only [List.getElem?_toArray, List.getElem?_cons_succ, List.getElem?_cons_zero] at q1 q3
  have hWl := hB.lt
  go_loopw [3, 4] (fun nv iv wr => ∃ (k : Nat), iv = .int .i64 k ∧ k ≤ m.L.length ∧ nv = .int .i64 ((((m.L.take k).map fun p => fileLen m.is p.2).sum : Nat) : Int) ∧ Keep No W wr) (fun _ iv _ => m.L.length - (intOf iv).toNat)
  case atStart => exact ⟨0, rfl, Nat.zero_le _, rfl, Keep.refl _ _⟩
  case round =>
    obtain ⟨k, rfl, hk, rfl, hK⟩ := hrel
    have r1 : wr.cell? ⟨w.heap.size, 1, none⟩ = _ := (hK.cell (p := ⟨w.heap.size, 1, none⟩) hWl (fun h => h)).trans q1
    have r3 : wr.cell? ⟨w.heap.size, 3, none⟩ = _ := (hK.cell (p := ⟨w.heap.size, 3, none⟩) hWl (fun h => h)).trans q3
    rcases Nat.lt_or_ge k m.L.length with hkl | hkl
    · obtain ⟨g, off, cap, e, _, hg, _, _, hcell⟩ := (h.L.no (hkW.trans' hK)).at (fun _ => rfl) hkl
      cases e
      have hfl := hf.L _ (List.getElem_mem hkl)
      have x1 := hcell 1 _ rfl
      obtain ⟨g2, off2, cap2, e, _, hg2, _, _, hcell2⟩ := (h.is.no (hkW.trans' hK)).at (fun _ => rfl) hfl
      cases e
      have x2 := hcell2 0 _ rfl
      simp only [Nat.mul_one, Nat.add_zero] at x2
      have hst := used_step m.is hkl
      have hb := used_take (L := m.L) m.is hN2 k
      have hfe : fileLen m.is m.L[k].2 = m.is[m.L[k].2].length := by unfold fileLen; rw [List.getD_eq_getElem?_getD, List.getElem?_eq_getElem hfl, Option.getD_some]
      have hfN := hN2 m.L[k].2
      have hkN : k * N ≤ 100000 * 1000000 := Nat.mul_le_mul (by omega) hN
      rw [hfe] at hst hfN
      have HS := Lib.hid hst
      clear hcell hcell2 hst hfe hN2
      generalize ((m.L.take k).map fun p => fileLen m.is p.2).sum = U at *
      generalize m.is[m.L[k].2] = S at *
      generalize m.L[k].2 = F at *
      have hkl' : (k : Int) < (m.L.length : Int) := by omega
      have hfl' : (F : Int) < (m.is.length : Int) := by omega
      go_wp2_with (first | (at_builtin; refine wl_append rfl _ _ _ _ rfl _ _ rfl rfl ?_) | (at_make; refine wl_make rfl _ _ _ rfl _ _ rfl rfl ?_) | (at_mapUpdate; refine wl_mapUpdate rfl _ _ _ _ rfl _ _ _ rfl rfl rfl ?_) | (at_lookup; refine wl_lookup rfl _ _ _ _ rfl _ _ rfl rfl ?_) | (at_delete; refine wl_delete rfl _ _ _ _ rfl _ _ rfl rfl ?_) | (with_reducible refine wl_len rfl _ _ rfl _ rfl ?_) | (with_reducible refine wl_range rfl _ _ rfl _ rfl ?_) | (with_reducible refine wl_next rfl _ rfl _ rfl ?_) | (with_reducible refine wl_copy rfl _ _ _ _ rfl _ _ rfl rfl ?_) | (with_reducible refine wl_max rfl _ _ _ _ rfl _ _ rfl rfl ?_) | (with_reducible refine wl_min rfl _ _ _ _ rfl _ _ rfl rfl ?_))
      go_quiet (fail)
      go_wp2_with (first | (at_builtin; refine wl_append rfl _ _ _ _ rfl _ _ rfl rfl ?_) | (at_make; refine wl_make rfl _ _ _ rfl _ _ rfl rfl ?_) | (at_mapUpdate; refine wl_mapUpdate rfl _ _ _ _ rfl _ _ _ rfl rfl rfl ?_) | (at_lookup; refine wl_lookup rfl _ _ _ _ rfl _ _ rfl rfl ?_) | (at_delete; refine wl_delete rfl _ _ _ _ rfl _ _ rfl rfl ?_) | (with_reducible refine wl_len rfl _ _ rfl _ rfl ?_) | (with_reducible refine wl_range rfl _ _ rfl _ rfl ?_) | (with_reducible refine wl_next rfl _ rfl _ rfl ?_) | (with_reducible refine wl_copy rfl _ _ _ _ rfl _ _ rfl rfl ?_) | (with_reducible refine wl_max rfl _ _ _ _ rfl _ _ rfl rfl ?_) | (with_reducible refine wl_min rfl _ _ _ _ rfl _ _ rfl rfl ?_))
      go_roundw
      case rel => exact ⟨k + 1, by go_num, by omega, by rw [HS.out]; go_num, hK.drewN _⟩
      case measure => simp [intOf]; omega
    · obtain rfl : k = m.L.length := by omega
      go_wp2_with (first | (at_builtin; refine wl_append rfl _ _ _ _ rfl _ _ rfl rfl ?_) | (at_make; refine wl_make rfl _ _ _ rfl _ _ rfl rfl ?_) | (at_mapUpdate; refine wl_mapUpdate rfl _ _ _ _ rfl _ _ _ rfl rfl rfl ?_) | (at_lookup; refine wl_lookup rfl _ _ _ _ rfl _ _ rfl rfl ?_) | (at_delete; refine wl_delete rfl _ _ _ _ rfl _ _ rfl rfl ?_) | (with_reducible refine wl_len rfl _ _ rfl _ rfl ?_) | (with_reducible refine wl_range rfl _ _ rfl _ rfl ?_) | (with_reducible refine wl_next rfl _ rfl _ rfl ?_) | (with_reducible refine wl_copy rfl _ _ _ _ rfl _ _ rfl rfl ?_) | (with_reducible refine wl_max rfl _ _ _ _ rfl _ _ rfl rfl ?_) | (with_reducible refine wl_min rfl _ _ _ _ rfl _ _ rfl rfl ?_))
      go_ret
      exact ⟨by rw [List.take_length]; rfl, hkW.trans' hK⟩
end Go.Proofs.Ytkmoomgmmhmaeaa
