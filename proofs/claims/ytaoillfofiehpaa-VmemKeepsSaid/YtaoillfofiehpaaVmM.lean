/- cmp.Less, insertionSortOrdered at uint64. A map as an association list (MapL), and a range over it (RangeL): lookups, stores, deletes, len, range, said once for all walks of this seat. Memory in pages, as lists: no program in sight (the document's chapter 13 as Lean functions). No condition. -/
import Derived.Test.YtaoillfofiehpaaSigT
import Derived.Test.YtaoillfofiehpaaFl
import Derived.Test.YtaoillfofiehpaaProg
import Derived.Sort.LotA
import Derived.Laws.OwnMore
import Derived.Laws.BitsAllLaws
namespace Go.Proofs.Ytaoillfofiehpaa
open Go.RowKit Go.Dm

def uv (x : Nat) : Value := .int .u64 (x : Int)
def ltN (a b : Nat) : Bool := decide (a < b)
theorem nan_any (a : Nat) (w : World) : Calls Try.prog 81 #[uv a] w fun e w' => e = .returned (.bool false) ∧ w = w' := by
  unfold uv
  go_enter Try.func81, Try.ntmps81
  go_wp2_with (first | (at_builtin; refine wl_append rfl _ _ _ _ rfl _ _ rfl rfl ?_) | (at_make; refine wl_make rfl _ _ _ rfl _ _ rfl rfl ?_) | (at_mapUpdate; refine wl_mapUpdate rfl _ _ _ _ rfl _ _ _ rfl rfl rfl ?_) | (at_lookup; refine wl_lookup rfl _ _ _ _ rfl _ _ rfl rfl ?_) | (at_delete; refine wl_delete rfl _ _ _ _ rfl _ _ rfl rfl ?_) | (with_reducible refine wl_len rfl _ _ rfl _ rfl ?_) | (with_reducible refine wl_range rfl _ _ rfl _ rfl ?_) | (with_reducible refine wl_next rfl _ rfl _ rfl ?_) | (with_reducible refine wl_copy rfl _ _ _ _ rfl _ _ rfl rfl ?_) | (with_reducible refine wl_max rfl _ _ _ _ rfl _ _ rfl rfl ?_) | (with_reducible refine wl_min rfl _ _ _ _ rfl _ _ rfl rfl ?_))
  go_ret
  exact ⟨rfl, rfl⟩
theorem less_any (a b : Nat) (w : World) : Calls Try.prog 71 #[uv a, uv b] w fun e w' => e = .returned (.bool (ltN a b)) ∧ w = w' := by
  have h1 := nan_any a w
  unfold uv at *
  have e : decide ((a : Int) < (b : Int)) = ltN a b := by unfold ltN; rw [Bool.eq_iff_iff, decide_eq_true_iff, decide_eq_true_iff]; omega
  go_enter Try.func71, Try.ntmps71
  go_wp2_with (first | (at_builtin; refine wl_append rfl _ _ _ _ rfl _ _ rfl rfl ?_) | (at_make; refine wl_make rfl _ _ _ rfl _ _ rfl rfl ?_) | (at_mapUpdate; refine wl_mapUpdate rfl _ _ _ _ rfl _ _ _ rfl rfl rfl ?_) | (at_lookup; refine wl_lookup rfl _ _ _ _ rfl _ _ rfl rfl ?_) | (at_delete; refine wl_delete rfl _ _ _ _ rfl _ _ rfl rfl ?_) | (with_reducible refine wl_len rfl _ _ rfl _ rfl ?_) | (with_reducible refine wl_range rfl _ _ rfl _ rfl ?_) | (with_reducible refine wl_next rfl _ rfl _ rfl ?_) | (with_reducible refine wl_copy rfl _ _ _ _ rfl _ _ rfl rfl ?_) | (with_reducible refine wl_max rfl _ _ _ _ rfl _ _ rfl rfl ?_) | (with_reducible refine wl_min rfl _ _ _ _ rfl _ _ rfl rfl ?_))
  refine h1.mono ?_
  rintro e2 x ⟨rfl, rfl⟩
  by_cases hl : a < b
  · have hz : (a : Int) < (b : Int) := by omega
    have HE := Lib.hid (show ltN a b = true by unfold ltN; simpa using hl)
    clear e
    go_wp2_with (first | (at_builtin; refine wl_append rfl _ _ _ _ rfl _ _ rfl rfl ?_) | (at_make; refine wl_make rfl _ _ _ rfl _ _ rfl rfl ?_) | (at_mapUpdate; refine wl_mapUpdate rfl _ _ _ _ rfl _ _ _ rfl rfl rfl ?_) | (at_lookup; refine wl_lookup rfl _ _ _ _ rfl _ _ rfl rfl ?_) | (at_delete; refine wl_delete rfl _ _ _ _ rfl _ _ rfl rfl ?_) | (with_reducible refine wl_len rfl _ _ rfl _ rfl ?_) | (with_reducible refine wl_range rfl _ _ rfl _ rfl ?_) | (with_reducible refine wl_next rfl _ rfl _ rfl ?_) | (with_reducible refine wl_copy rfl _ _ _ _ rfl _ _ rfl rfl ?_) | (with_reducible refine wl_max rfl _ _ _ _ rfl _ _ rfl rfl ?_) | (with_reducible refine wl_min rfl _ _ _ _ rfl _ _ rfl rfl ?_))
    go_ret
    rw [HE.out]
    exact ⟨rfl, rfl⟩
  · have hz : (b : Int) ≤ (a : Int) := by omega
    have HE := Lib.hid (show ltN a b = false by unfold ltN; simpa using hl)
    clear e
    go_wp2_with (first | (at_builtin; refine wl_append rfl _ _ _ _ rfl _ _ rfl rfl ?_) | (at_make; refine wl_make rfl _ _ _ rfl _ _ rfl rfl ?_) | (at_mapUpdate; refine wl_mapUpdate rfl _ _ _ _ rfl _ _ _ rfl rfl rfl ?_) | (at_lookup; refine wl_lookup rfl _ _ _ _ rfl _ _ rfl rfl ?_) | (at_delete; refine wl_delete rfl _ _ _ _ rfl _ _ rfl rfl ?_) | (with_reducible refine wl_len rfl _ _ rfl _ rfl ?_) | (with_reducible refine wl_range rfl _ _ rfl _ rfl ?_) | (with_reducible refine wl_next rfl _ rfl _ rfl ?_) | (with_reducible refine wl_copy rfl _ _ _ _ rfl _ _ rfl rfl ?_) | (with_reducible refine wl_max rfl _ _ _ _ rfl _ _ rfl rfl ?_) | (with_reducible refine wl_min rfl _ _ _ _ rfl _ _ rfl rfl ?_))
    go_ret
    rw [HE.out]
    exact ⟨rfl, rfl⟩
section
variable {w : World}
/-- a row of one's own with these numbers -/
def Nums (w : World) (base g cap : Nat) (D : Array Nat) : Prop := w.ownsRow base 24 1 (.slice (some ⟨g, 0, none⟩) D.size cap) D.size (D.toList.map uv)
theorem Nums.cell {base g cap : Nat} {D : Array Nat} (h : Nums w base g cap D) {i : Nat} (hi : i < D.size) : w.cell? ⟨g, i, none⟩ = some (uv D[i]!) := by
  rw [h.cellAt i (by omega), List.getElem?_map, Array.getElem?_toList, Array.getElem?_eq_getElem hi, getElem!_pos D i hi]
  rfl
theorem Nums.frozen {base g cap : Nat} {D : Array Nat} (h : Nums w base g cap D) (i : Nat) : w.frozen? ⟨g, i, none⟩ = false := h.frozenAt i
theorem Nums.set {base g cap : Nat} {D : Array Nat} (h : Nums w base g cap D) (i x : Nat) : Nums (w.setCell ⟨g, i, none⟩ (uv x)) base g cap (D.setIfInBounds i x) := by
  have h1 := (h.stored i (uv x)).1
  unfold Nums
  rw [Array.size_setIfInBounds, Array.toList_setIfInBounds, List.map_set]
  exact h1
theorem Nums.base {base g cap : Nat} {D : Array Nat} (h : Nums w base g cap D) : base ≤ g := (World.ownsRow.lt h g rfl).1
theorem Nums.lt {base g cap : Nat} {D : Array Nat} (h : Nums w base g cap D) : g < w.heap.size := (World.ownsRow.lt h g rfl).2
set_option maxRecDepth 100000 in
set_option maxHeartbeats 4000000 in
theorem ins_any {base g cap : Nat} {D : Array Nat} (h : Nums w base g cap D) (hn : D.size ≤ 1099511627776) :
    Calls Try.prog 65 #[.slice (some ⟨g, 0, none⟩) D.size cap, .int .i64 0, .int .i64 (D.size : Int)] w fun e w' => e = .returned (.tuple #[]) ∧ Nums w' base g cap (Sort.insertionSort ltN D 0 D.size) ∧ Keep (fun j => j = g) w w' ∧ w'.heap.size = w.heap.size := by
  generalize hR : Sort.insertionSort ltN D 0 D.size = R
  generalize hN : D.size = n at *
  have hR2 : Sort.insOuter ltN 0 n 1 D = R := hR
  go_enter Try.func65, Try.ntmps65
  go_wp2_with (first | (at_builtin; refine wl_append rfl _ _ _ _ rfl _ _ rfl rfl ?_) | (at_make; refine wl_make rfl _ _ _ rfl _ _ rfl rfl ?_) | (at_mapUpdate; refine wl_mapUpdate rfl _ _ _ _ rfl _ _ _ rfl rfl rfl ?_) | (at_lookup; refine wl_lookup rfl _ _ _ _ rfl _ _ rfl rfl ?_) | (at_delete; refine wl_delete rfl _ _ _ _ rfl _ _ rfl rfl ?_) | (with_reducible refine wl_len rfl _ _ rfl _ rfl ?_) | (with_reducible refine wl_range rfl _ _ rfl _ rfl ?_) | (with_reducible refine wl_next rfl _ rfl _ rfl ?_) | (with_reducible refine wl_copy rfl _ _ _ _ rfl _ _ rfl rfl ?_) | (with_reducible refine wl_max rfl _ _ _ _ rfl _ _ rfl rfl ?_) | (with_reducible refine wl_min rfl _ _ _ _ rfl _ _ rfl rfl ?_))
  go_loopw [6] (fun iv wr => ∃ i E, iv = .int .i64 ((i : Nat) : Int) ∧ 1 ≤ i ∧ Sort.insOuter ltN 0 n i E = R ∧ E.size = n ∧ Nums wr base g cap E ∧ Keep (fun j => j = g) w wr ∧ wr.heap.size = w.heap.size) (fun iv _ => n - (intOf iv).toNat)
  case atStart => exact ⟨1, D, rfl, Nat.le_refl _, hR2, hN, h, Keep.refl _ _, rfl⟩
  case round =>
    clear h hR hR2 hN
    obtain ⟨i, E, rfl, hi1, hE, hEs, hO, hk, hsz⟩ := hrel
    rw [Sort.insOuter] at hE
    rcases Nat.lt_or_ge i n with hlt | hge
    · rw [if_pos hlt] at hE
      have hiz : (i : Int) < (n : Int) := by omega
      have i1z : (1 : Int) ≤ (i : Int) := by omega
      generalize hT : Sort.insInner ltN 0 i E = T at hE
      go_wp2_with (first | (at_builtin; refine wl_append rfl _ _ _ _ rfl _ _ rfl rfl ?_) | (at_make; refine wl_make rfl _ _ _ rfl _ _ rfl rfl ?_) | (at_mapUpdate; refine wl_mapUpdate rfl _ _ _ _ rfl _ _ _ rfl rfl rfl ?_) | (at_lookup; refine wl_lookup rfl _ _ _ _ rfl _ _ rfl rfl ?_) | (at_delete; refine wl_delete rfl _ _ _ _ rfl _ _ rfl rfl ?_) | (with_reducible refine wl_len rfl _ _ rfl _ rfl ?_) | (with_reducible refine wl_range rfl _ _ rfl _ rfl ?_) | (with_reducible refine wl_next rfl _ rfl _ rfl ?_) | (with_reducible refine wl_copy rfl _ _ _ _ rfl _ _ rfl rfl ?_) | (with_reducible refine wl_max rfl _ _ _ _ rfl _ _ rfl rfl ?_) | (with_reducible refine wl_min rfl _ _ _ _ rfl _ _ rfl rfl ?_))
      go_loopw [7] (fun jv wr => ∃ j F, jv = .int .i64 ((j : Nat) : Int) ∧ j ≤ i ∧ Sort.insInner ltN 0 j F = T ∧ F.size = n ∧ Nums wr base g cap F ∧ Keep (fun j => j = g) w wr ∧ wr.heap.size = w.heap.size) (fun jv _ => (intOf jv).toNat)
      case atStart => exact ⟨i, E, rfl, Nat.le_refl _, hT, hEs, hO, hk, hsz⟩
      case round =>
        clear hO hk hsz hT hEs
        obtain ⟨j, F, rfl, hji, hT, hFs, hO, hk, hsz⟩ := hrel
        have hjn : j < n := by omega
        have hc0 := hO.cell (i := j) (by omega)
        cases j with
        | zero =>
          rw [Sort.insInner] at hT
          subst hT
          go_wp2_with (first | (at_builtin; refine wl_append rfl _ _ _ _ rfl _ _ rfl rfl ?_) | (at_make; refine wl_make rfl _ _ _ rfl _ _ rfl rfl ?_) | (at_mapUpdate; refine wl_mapUpdate rfl _ _ _ _ rfl _ _ _ rfl rfl rfl ?_) | (at_lookup; refine wl_lookup rfl _ _ _ _ rfl _ _ rfl rfl ?_) | (at_delete; refine wl_delete rfl _ _ _ _ rfl _ _ rfl rfl ?_) | (with_reducible refine wl_len rfl _ _ rfl _ rfl ?_) | (with_reducible refine wl_range rfl _ _ rfl _ rfl ?_) | (with_reducible refine wl_next rfl _ rfl _ rfl ?_) | (with_reducible refine wl_copy rfl _ _ _ _ rfl _ _ rfl rfl ?_) | (with_reducible refine wl_max rfl _ _ _ _ rfl _ _ rfl rfl ?_) | (with_reducible refine wl_min rfl _ _ _ _ rfl _ _ rfl rfl ?_))
          refine wp_region_sig (fun w' => True) (fun j => decide (j ≤ 99)) [(0, true), (1, true), (2, true), (3, true), (4, true), (5, true), (6, true), (7, true), (8, true), (9, true), (10, true), (11, true), (12, true), (13, true), (14, true)] (by kernel_rfl) (by kernel_rfl) (by intro c a d v w h; cases d <;> exact h) trivial ?_
          apply sig_still (o := ⟨some 16, _, _, _, _, _⟩) rfl rfl
          · intro w' hS
            first | (go_simp; done) | (go_simp; rfl) | rfl
          go_frame
          apply sig_still (o := ⟨some 17, _, _, _, _, _⟩) rfl rfl
          · intro w' hS
            first | (go_simp; done) | (go_simp; rfl) | rfl
          go_frame
          apply sig_still (o := ⟨some 18, _, _, _, _, _⟩) rfl rfl
          · intro w' hS
            first | (go_simp; done) | (go_simp; rfl) | rfl
          go_frame
          apply sig_still (o := ⟨some 19, _, _, _, _, _⟩) rfl rfl
          · intro w' hS
            first | (go_simp; done) | (go_simp; rfl) | rfl
          go_frame
          refine sig_skip (o := ⟨some 20, _, _, _, _, _⟩) rfl (by rfl) ?_
          go_frame
          refine sig_skip (o := ⟨some 21, _, _, _, _, _⟩) rfl (by rfl) ?_
          go_frame
          refine sig_skip (o := ⟨some 22, _, _, _, _, _⟩) rfl (by rfl) ?_
          go_frame
          refine sig_skip (o := ⟨some 23, _, _, _, _, _⟩) rfl (by rfl) ?_
          go_frame
          refine sig_skip (o := ⟨some 24, _, _, _, _, _⟩) rfl (by rfl) ?_
          go_frame
          refine sig_skip (o := ⟨some 25, _, _, _, _, _⟩) rfl (by rfl) ?_
          go_frame
          refine sig_skip (o := ⟨some 26, _, _, _, _, _⟩) rfl (by rfl) ?_
          go_frame
          refine sig_skip (o := ⟨some 27, _, _, _, _, _⟩) rfl (by rfl) ?_
          go_frame
          refine sig_skip (o := ⟨some 28, _, _, _, _, _⟩) rfl (by rfl) ?_
          go_frame
          refine sig_skip (o := ⟨some 29, _, _, _, _, _⟩) rfl (by rfl) ?_
          go_frame
          apply sig_still (o := ⟨some 30, _, _, _, _, _⟩) rfl rfl
          · intro w' hS
            first | (go_simp; done) | (go_simp; rfl) | rfl
          go_frame
          refine sig_nil ?_
          go_wp2_with (first | (at_builtin; refine wl_append rfl _ _ _ _ rfl _ _ rfl rfl ?_) | (at_make; refine wl_make rfl _ _ _ rfl _ _ rfl rfl ?_) | (at_mapUpdate; refine wl_mapUpdate rfl _ _ _ _ rfl _ _ _ rfl rfl rfl ?_) | (at_lookup; refine wl_lookup rfl _ _ _ _ rfl _ _ rfl rfl ?_) | (at_delete; refine wl_delete rfl _ _ _ _ rfl _ _ rfl rfl ?_) | (with_reducible refine wl_len rfl _ _ rfl _ rfl ?_) | (with_reducible refine wl_range rfl _ _ rfl _ rfl ?_) | (with_reducible refine wl_next rfl _ rfl _ rfl ?_) | (with_reducible refine wl_copy rfl _ _ _ _ rfl _ _ rfl rfl ?_) | (with_reducible refine wl_max rfl _ _ _ _ rfl _ _ rfl rfl ?_) | (with_reducible refine wl_min rfl _ _ _ _ rfl _ _ rfl rfl ?_))
          go_roundw
          case rel => exact ⟨i + 1, F, by go_num, by omega, hE, hFs, hO, hk.drew, hsz⟩
          case measure => simp [intOf]; omega
        | succ j =>
          have hc1 := hO.cell (i := j) (by omega)
          rw [Sort.insInner] at hT
          have hless := less_any F[j + 1]! F[j]!
          have hsw : Nums ((wr.setCell ⟨g, j + 1, none⟩ (uv F[j]!)).setCell ⟨g, j, none⟩ (uv F[j + 1]!)) base g cap (Sort.swp F (j + 1) j) := (hO.set (j + 1) F[j]!).set j F[j + 1]!
          have hkw : Keep (fun j => j = g) w ((wr.setCell ⟨g, j + 1, none⟩ (uv F[j]!)).setCell ⟨g, j, none⟩ (uv F[j + 1]!)) := (hk.setCell (p := ⟨g, j + 1, none⟩) (fun _ => rfl) _).setCell (p := ⟨g, j, none⟩) (fun _ => rfl) _
          have hsz2 : ((wr.setCell ⟨g, j + 1, none⟩ (uv F[j]!)).setCell ⟨g, j, none⟩ (uv F[j + 1]!)).heap.size = w.heap.size := by simpa using hsz
          have hss := Sort.size_swp F (j + 1) j
          have hf0 := hO.frozen (j + 1)
          have hf1 := hO.frozen j
          simp only [gt_iff_lt, Nat.zero_lt_succ, decide_true, Bool.true_and] at hT
          have HT := Lib.hid hT
          clear hT
          unfold uv at hc0 hc1 hless hsw hkw hsz2
          generalize F[j + 1]! = x at *
          generalize F[j]! = y at *
          obtain ⟨k, hkj⟩ : ∃ k, k = j + 1 := ⟨_, rfl⟩
          rw [← hkj] at hc0 hf0 hjn hsw hkw hsz2 hss HT ⊢
          have hjz : decide ((0 : Int) < (k : Int)) = true := by simp; omega
          have hjn : decide (0 < k) = true := by simp; omega
          have hj1 : (k : Int) - 1 = (j : Int) := by omega
          have hjlt : (k : Int) < (n : Int) := by omega
          have hjl : (j : Int) < (n : Int) := by omega
          have hjb : (j : Int) < 9223372036854775808 := by omega
          have hwj : IntKind.i64.wrap (j : Int) = (j : Int) := by rw [IntKind.wrap_i64]; omega
          have hjw : IntKind.i64.wrap ((k : Int) - 1) = (j : Int) := by rw [hj1, IntKind.wrap_i64]; omega
          have hne : k ≠ j := by omega
          have hki : j ≤ i := by omega
          have HKJ := Lib.hid hkj
          have HO := Lib.hid hO
          have HK := Lib.hid hk
          clear hkj hO hk
          go_wp2_with (first | (at_builtin; refine wl_append rfl _ _ _ _ rfl _ _ rfl rfl ?_) | (at_make; refine wl_make rfl _ _ _ rfl _ _ rfl rfl ?_) | (at_mapUpdate; refine wl_mapUpdate rfl _ _ _ _ rfl _ _ _ rfl rfl rfl ?_) | (at_lookup; refine wl_lookup rfl _ _ _ _ rfl _ _ rfl rfl ?_) | (at_delete; refine wl_delete rfl _ _ _ _ rfl _ _ rfl rfl ?_) | (with_reducible refine wl_len rfl _ _ rfl _ rfl ?_) | (with_reducible refine wl_range rfl _ _ rfl _ rfl ?_) | (with_reducible refine wl_next rfl _ rfl _ rfl ?_) | (with_reducible refine wl_copy rfl _ _ _ _ rfl _ _ rfl rfl ?_) | (with_reducible refine wl_max rfl _ _ _ _ rfl _ _ rfl rfl ?_) | (with_reducible refine wl_min rfl _ _ _ _ rfl _ _ rfl rfl ?_))
          refine wp_region_sig (fun w' => w'.cell? ⟨g, k, none⟩ = some (.int .u64 (x : Int)) ∧ w'.cell? ⟨g, j, none⟩ = some (.int .u64 (y : Int))) (fun j => decide (j ≤ 99)) [(0, true), (1, true), (2, true), (3, true), (4, true), (5, true), (6, true), (7, true), (8, true), (9, true), (10, true), (11, true), (12, true), (13, false), (14, true)] (by kernel_rfl) (by kernel_rfl) (by intro c a d v w h; cases d <;> exact h) ⟨hc0, hc1⟩ ?_
          apply sig_still (o := ⟨some 16, _, _, _, _, _⟩) rfl rfl
          · intro w' hS
            obtain ⟨q1, q2⟩ := hS
            first | (go_simp; done) | (go_simp; rfl) | rfl
          go_frame
          apply sig_still (o := ⟨some 17, _, _, _, _, _⟩) rfl rfl
          · intro w' hS
            obtain ⟨q1, q2⟩ := hS
            first | (go_simp; done) | (go_simp; rfl) | rfl
          go_frame
          apply sig_still (o := ⟨some 18, _, _, _, _, _⟩) rfl rfl
          · intro w' hS
            obtain ⟨q1, q2⟩ := hS
            first | (go_simp; done) | (go_simp; rfl) | rfl
          go_frame
          apply sig_still (o := ⟨some 19, _, _, _, _, _⟩) rfl rfl
          · intro w' hS
            obtain ⟨q1, q2⟩ := hS
            first | (go_simp; done) | (go_simp; rfl) | rfl
          go_frame
          apply sig_guard (o := ⟨some 20, _, _, _, _, _⟩) rfl (by rfl)
          · intro w' hS
            obtain ⟨q1, q2⟩ := hS
            first | (go_simp; done) | (go_simp; rfl) | rfl
          go_frame
          apply sig_guard (o := ⟨some 21, _, _, _, _, _⟩) rfl (by rfl)
          · intro w' hS
            obtain ⟨q1, q2⟩ := hS
            first | (go_simp; done) | (go_simp; rfl) | rfl
          go_frame
          apply sig_guard (o := ⟨some 22, _, _, _, _, _⟩) rfl (by rfl)
          · intro w' hS
            obtain ⟨q1, q2⟩ := hS
            first | (go_simp; done) | (go_simp; rfl) | rfl
          go_frame
          apply sig_guard (o := ⟨some 23, _, _, _, _, _⟩) rfl (by rfl)
          · intro w' hS
            obtain ⟨q1, q2⟩ := hS
            first | (go_simp; done) | (go_simp; rfl) | rfl
          go_frame
          apply sig_guard (o := ⟨some 24, _, _, _, _, _⟩) rfl (by rfl)
          · intro w' hS
            obtain ⟨q1, q2⟩ := hS
            first | (go_simp; done) | (go_simp; rfl) | rfl
          go_frame
          apply sig_guard (o := ⟨some 25, _, _, _, _, _⟩) rfl (by rfl)
          · intro w' hS
            obtain ⟨q1, q2⟩ := hS
            first | (go_simp; done) | (go_simp; rfl) | rfl
          go_frame
          apply sig_guard (o := ⟨some 26, _, _, _, _, _⟩) rfl (by rfl)
          · intro w' hS
            obtain ⟨q1, q2⟩ := hS
            first | (go_simp; done) | (go_simp; rfl) | rfl
          go_frame
          apply sig_guard (o := ⟨some 27, _, _, _, _, _⟩) rfl (by rfl)
          · intro w' hS
            obtain ⟨q1, q2⟩ := hS
            first | (go_simp; done) | (go_simp; rfl) | rfl
          go_frame
          apply sig_guard (o := ⟨some 28, _, _, _, _, _⟩) rfl (by rfl)
          · intro w' hS
            obtain ⟨q1, q2⟩ := hS
            first | (go_simp; done) | (go_simp; rfl) | rfl
          go_frame
          refine sig_effg (o := ⟨some 29, _, _, _, _, _⟩) rfl (by rfl) (fun K hKe => ?_)
          go_wp2_with (first | (at_builtin; refine wl_append rfl _ _ _ _ rfl _ _ rfl rfl ?_) | (at_make; refine wl_make rfl _ _ _ rfl _ _ rfl rfl ?_) | (at_mapUpdate; refine wl_mapUpdate rfl _ _ _ _ rfl _ _ _ rfl rfl rfl ?_) | (at_lookup; refine wl_lookup rfl _ _ _ _ rfl _ _ rfl rfl ?_) | (at_delete; refine wl_delete rfl _ _ _ _ rfl _ _ rfl rfl ?_) | (with_reducible refine wl_len rfl _ _ rfl _ rfl ?_) | (with_reducible refine wl_range rfl _ _ rfl _ rfl ?_) | (with_reducible refine wl_next rfl _ rfl _ rfl ?_) | (with_reducible refine wl_copy rfl _ _ _ _ rfl _ _ rfl rfl ?_) | (with_reducible refine wl_max rfl _ _ _ _ rfl _ _ rfl rfl ?_) | (with_reducible refine wl_min rfl _ _ _ _ rfl _ _ rfl rfl ?_))
          refine (hless _).mono ?_
          rintro e X ⟨rfl, rfl⟩
          go_wp2_with (first | (at_builtin; refine wl_append rfl _ _ _ _ rfl _ _ rfl rfl ?_) | (at_make; refine wl_make rfl _ _ _ rfl _ _ rfl rfl ?_) | (at_mapUpdate; refine wl_mapUpdate rfl _ _ _ _ rfl _ _ _ rfl rfl rfl ?_) | (at_lookup; refine wl_lookup rfl _ _ _ _ rfl _ _ rfl rfl ?_) | (at_delete; refine wl_delete rfl _ _ _ _ rfl _ _ rfl rfl ?_) | (with_reducible refine wl_len rfl _ _ rfl _ rfl ?_) | (with_reducible refine wl_range rfl _ _ rfl _ rfl ?_) | (with_reducible refine wl_next rfl _ rfl _ rfl ?_) | (with_reducible refine wl_copy rfl _ _ _ _ rfl _ _ rfl rfl ?_) | (with_reducible refine wl_max rfl _ _ _ _ rfl _ _ rfl rfl ?_) | (with_reducible refine wl_min rfl _ _ _ _ rfl _ _ rfl rfl ?_))
          refine ⟨fun _ => ⟨hc0, hc1⟩, ?_⟩
          apply sig_still (o := ⟨some 30, _, _, _, _, _⟩) rfl rfl
          · intro w' hS
            obtain ⟨q1, q2⟩ := hS
            first | (go_simp; done) | (go_simp; rfl) | rfl
          go_frame
          refine sig_nil ?_
          cases hl : ltN x y with
          | false =>
            rw [hl] at HT
            have hT := HT.out
            simp only [Bool.false_eq_true, if_false] at hT
            subst hT
            go_wp2_with (first | (at_builtin; refine wl_append rfl _ _ _ _ rfl _ _ rfl rfl ?_) | (at_make; refine wl_make rfl _ _ _ rfl _ _ rfl rfl ?_) | (at_mapUpdate; refine wl_mapUpdate rfl _ _ _ _ rfl _ _ _ rfl rfl rfl ?_) | (at_lookup; refine wl_lookup rfl _ _ _ _ rfl _ _ rfl rfl ?_) | (at_delete; refine wl_delete rfl _ _ _ _ rfl _ _ rfl rfl ?_) | (with_reducible refine wl_len rfl _ _ rfl _ rfl ?_) | (with_reducible refine wl_range rfl _ _ rfl _ rfl ?_) | (with_reducible refine wl_next rfl _ rfl _ rfl ?_) | (with_reducible refine wl_copy rfl _ _ _ _ rfl _ _ rfl rfl ?_) | (with_reducible refine wl_max rfl _ _ _ _ rfl _ _ rfl rfl ?_) | (with_reducible refine wl_min rfl _ _ _ _ rfl _ _ rfl rfl ?_))
            go_roundw
            case rel => exact ⟨i + 1, F, by go_num, by omega, hE, hFs, HO.out, HK.out.drew, hsz⟩
            case measure => simp [intOf]; omega
          | true =>
            rw [hl, if_pos rfl] at HT
            go_wp2_with (first | (at_builtin; refine wl_append rfl _ _ _ _ rfl _ _ rfl rfl ?_) | (at_make; refine wl_make rfl _ _ _ rfl _ _ rfl rfl ?_) | (at_mapUpdate; refine wl_mapUpdate rfl _ _ _ _ rfl _ _ _ rfl rfl rfl ?_) | (at_lookup; refine wl_lookup rfl _ _ _ _ rfl _ _ rfl rfl ?_) | (at_delete; refine wl_delete rfl _ _ _ _ rfl _ _ rfl rfl ?_) | (with_reducible refine wl_len rfl _ _ rfl _ rfl ?_) | (with_reducible refine wl_range rfl _ _ rfl _ rfl ?_) | (with_reducible refine wl_next rfl _ rfl _ rfl ?_) | (with_reducible refine wl_copy rfl _ _ _ _ rfl _ _ rfl rfl ?_) | (with_reducible refine wl_max rfl _ _ _ _ rfl _ _ rfl rfl ?_) | (with_reducible refine wl_min rfl _ _ _ _ rfl _ _ rfl rfl ?_))
            refine wp_region_tree (fun _ => True) (fun j => decide (j ≤ 99)) (.st 0 (.st 1 (.st 2 (.st 3 (.st 4 (.st 5 (.st 6 (.st 7 (.st 8 (.st 10 (.st 11 (.st 12 (.br 9 13 (.ef 13 (.st 14 (.ef 15 (.st 16 (.ef 17 .nil))))) (.ef 9 (.st 14 (.ef 15 (.st 16 (.ef 17 .nil)))))))))))))))))) (by kernel_rfl) (by kernel_rfl) (by intro c a d v w h; cases d <;> exact h) trivial ?_
            apply tr_still (o := ⟨some 33, _, _, _, _, _⟩) rfl rfl
            · intro w' hS
              first | (go_simp; done) | (go_simp; rfl) | rfl
            go_frame
            apply tr_still (o := ⟨some 34, _, _, _, _, _⟩) rfl rfl
            · intro w' hS
              first | (go_simp; done) | (go_simp; rfl) | rfl
            go_frame
            apply tr_still (o := ⟨some 35, _, _, _, _, _⟩) rfl rfl
            · intro w' hS
              first | (go_simp; done) | (go_simp; rfl) | rfl
            go_frame
            apply tr_still (o := ⟨some 36, _, _, _, _, _⟩) rfl rfl
            · intro w' hS
              first | (go_simp; done) | (go_simp; rfl) | rfl
            go_frame
            apply tr_still (o := ⟨some 37, _, _, _, _, _⟩) rfl rfl
            · intro w' hS
              first | (go_simp; done) | (go_simp; rfl) | rfl
            go_frame
            apply tr_still (o := ⟨some 38, _, _, _, _, _⟩) rfl rfl
            · intro w' hS
              first | (go_simp; done) | (go_simp; rfl) | rfl
            go_frame
            apply tr_still (o := ⟨some 39, _, _, _, _, _⟩) rfl rfl
            · intro w' hS
              first | (go_simp; done) | (go_simp; rfl) | rfl
            go_frame
            apply tr_still (o := ⟨some 40, _, _, _, _, _⟩) rfl rfl
            · intro w' hS
              first | (go_simp; done) | (go_simp; rfl) | rfl
            go_frame
            apply tr_still (o := ⟨some 41, _, _, _, _, _⟩) rfl rfl
            · intro w' hS
              first | (go_simp; done) | (go_simp; rfl) | rfl
            go_frame
            apply tr_still (o := ⟨some 43, _, _, _, _, _⟩) rfl rfl
            · intro w' hS
              first | (go_simp; done) | (go_simp; rfl) | rfl
            go_frame
            apply tr_still (o := ⟨some 44, _, _, _, _, _⟩) rfl rfl
            · intro w' hS
              first | (go_simp; done) | (go_simp; rfl) | rfl
            go_frame
            apply tr_still (o := ⟨some 45, _, _, _, _, _⟩) rfl rfl
            · intro w' hS
              first | (go_simp; done) | (go_simp; rfl) | rfl
            go_frame
            refine tr_br (o := ⟨some 42, _, _, _, _, _⟩) (o' := ⟨some 46, _, _, _, _, _⟩) rfl rfl rfl rfl (fun K hKe => ?_) (fun K hKe => ?_)
            · go_wp2_with (first | (at_builtin; refine wl_append rfl _ _ _ _ rfl _ _ rfl rfl ?_) | (at_make; refine wl_make rfl _ _ _ rfl _ _ rfl rfl ?_) | (at_mapUpdate; refine wl_mapUpdate rfl _ _ _ _ rfl _ _ _ rfl rfl rfl ?_) | (at_lookup; refine wl_lookup rfl _ _ _ _ rfl _ _ rfl rfl ?_) | (at_delete; refine wl_delete rfl _ _ _ _ rfl _ _ rfl rfl ?_) | (with_reducible refine wl_len rfl _ _ rfl _ rfl ?_) | (with_reducible refine wl_range rfl _ _ rfl _ rfl ?_) | (with_reducible refine wl_next rfl _ rfl _ rfl ?_) | (with_reducible refine wl_copy rfl _ _ _ _ rfl _ _ rfl rfl ?_) | (with_reducible refine wl_max rfl _ _ _ _ rfl _ _ rfl rfl ?_) | (with_reducible refine wl_min rfl _ _ _ _ rfl _ _ rfl rfl ?_))
              refine ⟨fun _ => trivial, ?_⟩
              refine tr_eff (o := ⟨some 46, _, _, _, _, _⟩) rfl rfl (fun K hKe => ?_)
              go_wp2_with (first | (at_builtin; refine wl_append rfl _ _ _ _ rfl _ _ rfl rfl ?_) | (at_make; refine wl_make rfl _ _ _ rfl _ _ rfl rfl ?_) | (at_mapUpdate; refine wl_mapUpdate rfl _ _ _ _ rfl _ _ _ rfl rfl rfl ?_) | (at_lookup; refine wl_lookup rfl _ _ _ _ rfl _ _ rfl rfl ?_) | (at_delete; refine wl_delete rfl _ _ _ _ rfl _ _ rfl rfl ?_) | (with_reducible refine wl_len rfl _ _ rfl _ rfl ?_) | (with_reducible refine wl_range rfl _ _ rfl _ rfl ?_) | (with_reducible refine wl_next rfl _ rfl _ rfl ?_) | (with_reducible refine wl_copy rfl _ _ _ _ rfl _ _ rfl rfl ?_) | (with_reducible refine wl_max rfl _ _ _ _ rfl _ _ rfl rfl ?_) | (with_reducible refine wl_min rfl _ _ _ _ rfl _ _ rfl rfl ?_))
              refine ⟨fun _ => trivial, ?_⟩
              apply tr_still (o := ⟨some 47, _, _, _, _, _⟩) rfl rfl
              · intro w' hS
                first | (go_simp; done) | (go_simp; rfl) | rfl
              go_frame
              refine tr_eff (o := ⟨none, _, _, _, _, _⟩) rfl rfl (fun K hKe => ?_)
              go_wp2_with (first | (at_builtin; refine wl_append rfl _ _ _ _ rfl _ _ rfl rfl ?_) | (at_make; refine wl_make rfl _ _ _ rfl _ _ rfl rfl ?_) | (at_mapUpdate; refine wl_mapUpdate rfl _ _ _ _ rfl _ _ _ rfl rfl rfl ?_) | (at_lookup; refine wl_lookup rfl _ _ _ _ rfl _ _ rfl rfl ?_) | (at_delete; refine wl_delete rfl _ _ _ _ rfl _ _ rfl rfl ?_) | (with_reducible refine wl_len rfl _ _ rfl _ rfl ?_) | (with_reducible refine wl_range rfl _ _ rfl _ rfl ?_) | (with_reducible refine wl_next rfl _ rfl _ rfl ?_) | (with_reducible refine wl_copy rfl _ _ _ _ rfl _ _ rfl rfl ?_) | (with_reducible refine wl_max rfl _ _ _ _ rfl _ _ rfl rfl ?_) | (with_reducible refine wl_min rfl _ _ _ _ rfl _ _ rfl rfl ?_))
              refine ⟨fun _ => trivial, ?_⟩
              apply tr_still (o := ⟨some 48, _, _, _, _, _⟩) rfl rfl
              · intro w' hS
                first | (go_simp; done) | (go_simp; rfl) | rfl
              go_frame
              have hc1' : (wr.setCell ⟨g, k, none⟩ (.int .u64 (y : Int))).cell? ⟨g, j, none⟩ = some (.int .u64 (y : Int)) := (World.cell?_setCell_other wr ⟨g, k, none⟩ ⟨g, j, none⟩ _ (fun e => hne (congrArg Addr.off e))).trans hc1
              refine tr_eff (o := ⟨none, _, _, _, _, _⟩) rfl rfl (fun K hKe => ?_)
              go_wp2_with (first | (at_builtin; refine wl_append rfl _ _ _ _ rfl _ _ rfl rfl ?_) | (at_make; refine wl_make rfl _ _ _ rfl _ _ rfl rfl ?_) | (at_mapUpdate; refine wl_mapUpdate rfl _ _ _ _ rfl _ _ _ rfl rfl rfl ?_) | (at_lookup; refine wl_lookup rfl _ _ _ _ rfl _ _ rfl rfl ?_) | (at_delete; refine wl_delete rfl _ _ _ _ rfl _ _ rfl rfl ?_) | (with_reducible refine wl_len rfl _ _ rfl _ rfl ?_) | (with_reducible refine wl_range rfl _ _ rfl _ rfl ?_) | (with_reducible refine wl_next rfl _ rfl _ rfl ?_) | (with_reducible refine wl_copy rfl _ _ _ _ rfl _ _ rfl rfl ?_) | (with_reducible refine wl_max rfl _ _ _ _ rfl _ _ rfl rfl ?_) | (with_reducible refine wl_min rfl _ _ _ _ rfl _ _ rfl rfl ?_))
              refine ⟨fun _ => trivial, tr_nil ?_⟩
              go_wp2_with (first | (at_builtin; refine wl_append rfl _ _ _ _ rfl _ _ rfl rfl ?_) | (at_make; refine wl_make rfl _ _ _ rfl _ _ rfl rfl ?_) | (at_mapUpdate; refine wl_mapUpdate rfl _ _ _ _ rfl _ _ _ rfl rfl rfl ?_) | (at_lookup; refine wl_lookup rfl _ _ _ _ rfl _ _ rfl rfl ?_) | (at_delete; refine wl_delete rfl _ _ _ _ rfl _ _ rfl rfl ?_) | (with_reducible refine wl_len rfl _ _ rfl _ rfl ?_) | (with_reducible refine wl_range rfl _ _ rfl _ rfl ?_) | (with_reducible refine wl_next rfl _ rfl _ rfl ?_) | (with_reducible refine wl_copy rfl _ _ _ _ rfl _ _ rfl rfl ?_) | (with_reducible refine wl_max rfl _ _ _ _ rfl _ _ rfl rfl ?_) | (with_reducible refine wl_min rfl _ _ _ _ rfl _ _ rfl rfl ?_))
              go_roundw
              case rel => exact ⟨j, _, by go_num, hki, HT.out, hss.trans hFs, hsw, hkw.drew.drew, hsz2⟩
              case measure => simp [intOf]; omega
            · go_wp2_with (first | (at_builtin; refine wl_append rfl _ _ _ _ rfl _ _ rfl rfl ?_) | (at_make; refine wl_make rfl _ _ _ rfl _ _ rfl rfl ?_) | (at_mapUpdate; refine wl_mapUpdate rfl _ _ _ _ rfl _ _ _ rfl rfl rfl ?_) | (at_lookup; refine wl_lookup rfl _ _ _ _ rfl _ _ rfl rfl ?_) | (at_delete; refine wl_delete rfl _ _ _ _ rfl _ _ rfl rfl ?_) | (with_reducible refine wl_len rfl _ _ rfl _ rfl ?_) | (with_reducible refine wl_range rfl _ _ rfl _ rfl ?_) | (with_reducible refine wl_next rfl _ rfl _ rfl ?_) | (with_reducible refine wl_copy rfl _ _ _ _ rfl _ _ rfl rfl ?_) | (with_reducible refine wl_max rfl _ _ _ _ rfl _ _ rfl rfl ?_) | (with_reducible refine wl_min rfl _ _ _ _ rfl _ _ rfl rfl ?_))
              refine ⟨fun _ => trivial, ?_⟩
              refine tr_eff (o := ⟨some 42, _, _, _, _, _⟩) rfl rfl (fun K hKe => ?_)
              go_wp2_with (first | (at_builtin; refine wl_append rfl _ _ _ _ rfl _ _ rfl rfl ?_) | (at_make; refine wl_make rfl _ _ _ rfl _ _ rfl rfl ?_) | (at_mapUpdate; refine wl_mapUpdate rfl _ _ _ _ rfl _ _ _ rfl rfl rfl ?_) | (at_lookup; refine wl_lookup rfl _ _ _ _ rfl _ _ rfl rfl ?_) | (at_delete; refine wl_delete rfl _ _ _ _ rfl _ _ rfl rfl ?_) | (with_reducible refine wl_len rfl _ _ rfl _ rfl ?_) | (with_reducible refine wl_range rfl _ _ rfl _ rfl ?_) | (with_reducible refine wl_next rfl _ rfl _ rfl ?_) | (with_reducible refine wl_copy rfl _ _ _ _ rfl _ _ rfl rfl ?_) | (with_reducible refine wl_max rfl _ _ _ _ rfl _ _ rfl rfl ?_) | (with_reducible refine wl_min rfl _ _ _ _ rfl _ _ rfl rfl ?_))
              refine ⟨fun _ => trivial, ?_⟩
              apply tr_still (o := ⟨some 47, _, _, _, _, _⟩) rfl rfl
              · intro w' hS
                first | (go_simp; done) | (go_simp; rfl) | rfl
              go_frame
              refine tr_eff (o := ⟨none, _, _, _, _, _⟩) rfl rfl (fun K hKe => ?_)
              go_wp2_with (first | (at_builtin; refine wl_append rfl _ _ _ _ rfl _ _ rfl rfl ?_) | (at_make; refine wl_make rfl _ _ _ rfl _ _ rfl rfl ?_) | (at_mapUpdate; refine wl_mapUpdate rfl _ _ _ _ rfl _ _ _ rfl rfl rfl ?_) | (at_lookup; refine wl_lookup rfl _ _ _ _ rfl _ _ rfl rfl ?_) | (at_delete; refine wl_delete rfl _ _ _ _ rfl _ _ rfl rfl ?_) | (with_reducible refine wl_len rfl _ _ rfl _ rfl ?_) | (with_reducible refine wl_range rfl _ _ rfl _ rfl ?_) | (with_reducible refine wl_next rfl _ rfl _ rfl ?_) | (with_reducible refine wl_copy rfl _ _ _ _ rfl _ _ rfl rfl ?_) | (with_reducible refine wl_max rfl _ _ _ _ rfl _ _ rfl rfl ?_) | (with_reducible refine wl_min rfl _ _ _ _ rfl _ _ rfl rfl ?_))
              refine ⟨fun _ => trivial, ?_⟩
              apply tr_still (o := ⟨some 48, _, _, _, _, _⟩) rfl rfl
              · intro w' hS
                first | (go_simp; done) | (go_simp; rfl) | rfl
              go_frame
              have hc1' : (wr.setCell ⟨g, k, none⟩ (.int .u64 (y : Int))).cell? ⟨g, j, none⟩ = some (.int .u64 (y : Int)) := (World.cell?_setCell_other wr ⟨g, k, none⟩ ⟨g, j, none⟩ _ (fun e => hne (congrArg Addr.off e))).trans hc1
              refine tr_eff (o := ⟨none, _, _, _, _, _⟩) rfl rfl (fun K hKe => ?_)
              go_wp2_with (first | (at_builtin; refine wl_append rfl _ _ _ _ rfl _ _ rfl rfl ?_) | (at_make; refine wl_make rfl _ _ _ rfl _ _ rfl rfl ?_) | (at_mapUpdate; refine wl_mapUpdate rfl _ _ _ _ rfl _ _ _ rfl rfl rfl ?_) | (at_lookup; refine wl_lookup rfl _ _ _ _ rfl _ _ rfl rfl ?_) | (at_delete; refine wl_delete rfl _ _ _ _ rfl _ _ rfl rfl ?_) | (with_reducible refine wl_len rfl _ _ rfl _ rfl ?_) | (with_reducible refine wl_range rfl _ _ rfl _ rfl ?_) | (with_reducible refine wl_next rfl _ rfl _ rfl ?_) | (with_reducible refine wl_copy rfl _ _ _ _ rfl _ _ rfl rfl ?_) | (with_reducible refine wl_max rfl _ _ _ _ rfl _ _ rfl rfl ?_) | (with_reducible refine wl_min rfl _ _ _ _ rfl _ _ rfl rfl ?_))
              refine ⟨fun _ => trivial, tr_nil ?_⟩
              go_wp2_with (first | (at_builtin; refine wl_append rfl _ _ _ _ rfl _ _ rfl rfl ?_) | (at_make; refine wl_make rfl _ _ _ rfl _ _ rfl rfl ?_) | (at_mapUpdate; refine wl_mapUpdate rfl _ _ _ _ rfl _ _ _ rfl rfl rfl ?_) | (at_lookup; refine wl_lookup rfl _ _ _ _ rfl _ _ rfl rfl ?_) | (at_delete; refine wl_delete rfl _ _ _ _ rfl _ _ rfl rfl ?_) | (with_reducible refine wl_len rfl _ _ rfl _ rfl ?_) | (with_reducible refine wl_range rfl _ _ rfl _ rfl ?_) | (with_reducible refine wl_next rfl _ rfl _ rfl ?_) | (with_reducible refine wl_copy rfl _ _ _ _ rfl _ _ rfl rfl ?_) | (with_reducible refine wl_max rfl _ _ _ _ rfl _ _ rfl rfl ?_) | (with_reducible refine wl_min rfl _ _ _ _ rfl _ _ rfl rfl ?_))
              go_roundw
              case rel => exact ⟨j, _, by go_num, hki, HT.out, hss.trans hFs, hsw, hkw.drew.drew, hsz2⟩
              case measure => simp [intOf]; omega
    · rw [if_neg (by omega)] at hE
      subst hE
      have hiz : (n : Int) ≤ (i : Int) := by omega
      go_wp2_with (first | (at_builtin; refine wl_append rfl _ _ _ _ rfl _ _ rfl rfl ?_) | (at_make; refine wl_make rfl _ _ _ rfl _ _ rfl rfl ?_) | (at_mapUpdate; refine wl_mapUpdate rfl _ _ _ _ rfl _ _ _ rfl rfl rfl ?_) | (at_lookup; refine wl_lookup rfl _ _ _ _ rfl _ _ rfl rfl ?_) | (at_delete; refine wl_delete rfl _ _ _ _ rfl _ _ rfl rfl ?_) | (with_reducible refine wl_len rfl _ _ rfl _ rfl ?_) | (with_reducible refine wl_range rfl _ _ rfl _ rfl ?_) | (with_reducible refine wl_next rfl _ rfl _ rfl ?_) | (with_reducible refine wl_copy rfl _ _ _ _ rfl _ _ rfl rfl ?_) | (with_reducible refine wl_max rfl _ _ _ _ rfl _ _ rfl rfl ?_) | (with_reducible refine wl_min rfl _ _ _ _ rfl _ _ rfl rfl ?_))
      go_end0
      exact ⟨rfl, hO, hk, hsz⟩
end
end Go.Proofs.Ytaoillfofiehpaa
namespace Go.Dm
open Go Go.RowKit Go.Maps Go.ChangeMaps

/-- an element reads as itself -/
def heldE (v : Value) : Option (DataW Value × List MemPlace) := some (.held v, [])
def hd (p : Lit × Value) : Lit × DataW Value := (p.1, .held p.2)
def Apart (L : List (Lit × Value)) : Prop := L.Pairwise (fun p q => p.1 ≠ q.1)
def findL (L : List (Lit × Value)) (k : Lit) : Option Value := (L.find? (fun p => p.1.sameKey k)).map (·.2)
def eraseL (L : List (Lit × Value)) (k : Lit) : List (Lit × Value) := L.filter (fun p => !p.1.sameKey k)

theorem sameKey_true {a b : Lit} (hb : WideAt.IsKeyLit b) : a.sameKey b = true ↔ a = b :=
  ⟨WideAt.sameKey_eq, fun h => by subst h; exact WideAt.sameKey_self hb⟩

theorem find_some {α : Type} {L : List (Lit × α)} (hp : L.Pairwise (fun p q => p.1 ≠ q.1)) {k : Lit} (hk : WideAt.IsKeyLit k) (p : Lit × α) : L.find? (fun p => p.1.sameKey k) = some p ↔ p ∈ L ∧ p.1 = k := by
  induction L with
  | nil => simp
  | cons q r ih =>
    rw [List.pairwise_cons] at hp
    by_cases hq : q.1.sameKey k = true
    · have hqk := (sameKey_true hk).1 hq
      simp only [List.find?_cons, hq]
      constructor
      · intro h; cases h; exact ⟨by simp, hqk⟩
      · rintro ⟨h, e⟩
        rcases List.mem_cons.1 h with rfl | h
        · rfl
        · exact absurd (hqk.trans e.symm) (hp.1 p h)
    · have hq' : q.1.sameKey k = false := by simpa using hq
      simp only [List.find?_cons, hq', ih hp.2]
      constructor
      · rintro ⟨h, e⟩; exact ⟨by simp [h], e⟩
      · rintro ⟨h, e⟩
        rcases List.mem_cons.1 h with rfl | h
        · exact absurd ((sameKey_true hk).2 e) hq
        · exact ⟨h, e⟩

theorem apart_perm {α : Type} {L L' : List (Lit × α)} (h : L.Perm L') (hp : L.Pairwise (fun p q => p.1 ≠ q.1)) : L'.Pairwise (fun p q => p.1 ≠ q.1) :=
  (h.pairwise_iff fun h => Ne.symm h).1 hp

theorem find_perm {α : Type} {L L' : List (Lit × α)} (h : L.Perm L') (hp : L.Pairwise (fun p q => p.1 ≠ q.1)) {k : Lit} (hk : WideAt.IsKeyLit k) : L.find? (fun p => p.1.sameKey k) = L'.find? (fun p => p.1.sameKey k) := by
  apply Option.ext
  intro p
  rw [find_some hp hk, find_some (apart_perm h hp) hk, h.mem_iff]

theorem apart_map {L : List (Lit × Value)} : (L.map hd).Pairwise (fun p q => p.1 ≠ q.1) ↔ Apart L := by
  unfold Apart; rw [List.pairwise_map]; rfl

theorem find_map (L : List (Lit × Value)) (k : Lit) : (L.map hd).find? (fun p => p.1.sameKey k) = (L.find? (fun p => p.1.sameKey k)).map hd := by
  rw [List.find?_map]; rfl

theorem findL_perm {L L' : List (Lit × Value)} (h : L.Perm L') (hp : Apart L) {k : Lit} (hk : WideAt.IsKeyLit k) : findL L k = findL L' k := by unfold findL; rw [find_perm h hp hk]
theorem findL_some {L : List (Lit × Value)} (hp : Apart L) {k : Lit} (hk : WideAt.IsKeyLit k) (v : Value) : findL L k = some v ↔ (k, v) ∈ L := by
  unfold findL
  rw [Option.map_eq_some_iff]
  constructor
  · rintro ⟨p, h, rfl⟩
    obtain ⟨h, e⟩ := (find_some hp hk p).1 h
    rw [← e]; exact h
  · intro h; exact ⟨_, (find_some hp hk _).2 ⟨h, rfl⟩, rfl⟩
theorem apart_erase {L : List (Lit × Value)} (h : Apart L) (k : Lit) : Apart (eraseL L k) := List.Pairwise.filter _ h
theorem eraseL_perm {L L' : List (Lit × Value)} (h : L.Perm L') (k : Lit) : (eraseL L k).Perm (eraseL L' k) := h.filter _
theorem mem_erase {L : List (Lit × Value)} {k : Lit} (hk : WideAt.IsKeyLit k) {p : Lit × Value} : p ∈ eraseL L k ↔ p ∈ L ∧ p.1 ≠ k := by
  unfold eraseL
  rw [List.mem_filter]
  cases h : p.1.sameKey k
  · simp only [Bool.not_false, and_true]
    exact ⟨fun hm => ⟨hm, fun e => by rw [(sameKey_true hk).2 e] at h; cases h⟩, fun h => h.1⟩
  · simp only [Bool.not_true, Bool.false_eq_true, and_false, false_iff]
    exact fun hm => hm.2 ((sameKey_true hk).1 h)
theorem apart_put {L : List (Lit × Value)} (h : Apart L) {k : Lit} (hk : WideAt.IsKeyLit k) (v : Value) : Apart ((k, v) :: eraseL L k) := by
  unfold Apart
  rw [List.pairwise_cons]
  exact ⟨fun p hp => fun e => ((mem_erase hk).1 hp).2 e.symm, apart_erase h k⟩
theorem length_erase_le (L : List (Lit × Value)) (k : Lit) : (eraseL L k).length ≤ L.length := List.length_filter_le _ _

/-- Block b of w is a map (of keys of type k) with just the entries of L. -/
def MapL (P : Program) (k : TypeId) (w : World) (b : Nat) (L : List (Lit × Value)) : Prop :=
  Apart L ∧ ∃ es, es.Perm (L.map hd) ∧ w.ownsMap P k heldE b L.length (.map es)

section
variable {P : Program} {k : TypeId} {w : World} {b : Nat} {L : List (Lit × Value)}

theorem MapL.apart (h : MapL P k w b L) : Apart L := h.1
theorem MapL.perm (h : MapL P k w b L) {L' : List (Lit × Value)} (hp : L.Perm L') : MapL P k w b L' := by
  obtain ⟨ha, es, he, ho⟩ := h
  exact ⟨apart_perm hp ha, es, he.trans (hp.map hd), by rw [← hp.length_eq]; exact ho⟩
theorem MapL.lt (h : MapL P k w b L) : b < w.heap.size := by obtain ⟨_, es, _, ho⟩ := h; exact ho.lt
theorem MapL.obj (h : MapL P k w b L) : ∃ es c, w.heap[b]? = some (.map es c) := by obtain ⟨_, es, _, e, c, hb, _⟩ := h; exact ⟨e, c, hb⟩
theorem MapL.ne_blk (h : MapL P k w b L) {b' : Nat} {cs : Array Value} {t : TypeId} (hb : Blk w b' cs t) : b ≠ b' := by
  rintro rfl
  obtain ⟨es, c, e⟩ := h.obj
  rw [hb] at e; cases e
theorem MapL.same {w' : World} (h : MapL P k w b L) (e : w'.heap[b]? = w.heap[b]?) : MapL P k w' b L := by
  obtain ⟨ha, es, he, e1, c, hb, r⟩ := h
  exact ⟨ha, es, he, e1, c, e.trans hb, r⟩
theorem MapL.keep {A : Nat → Prop} {w' : World} (h : MapL P k w b L) (hk : Keep A w w') (hA : ¬ A b) : MapL P k w' b L := h.same (hk.block b h.lt hA)
theorem MapL.keys (h : MapL P k w b L) (K : Keyed P k) : ∀ p ∈ L, WideAt.IsKeyLit p.1 := by
  obtain ⟨ha, es, he, ho⟩ := h
  obtain ⟨es', e1, _, hk⟩ := ho.entries K
  cases e1
  intro p hp
  exact hk (hd p) (he.mem_iff.2 (List.mem_map_of_mem hp))
theorem MapL.made (P : Program) (k : TypeId) (w : World) : MapL P k (w.alloc (.map #[] 0)) w.heap.size [] :=
  ⟨List.Pairwise.nil, [], List.Perm.refl _, World.ownsMap_made _ _ _ _⟩

theorem keyLit_of {key : Value} {kl : Lit} (K : Keyed P k) (h : keyOf P k key = some kl) : WideAt.IsKeyLit kl := K.key h

theorem MapL.at (h : MapL P k w b L) {kl : Lit} (hk : WideAt.IsKeyLit kl) : ∃ es, w.ownsMap P k heldE b L.length (.map es) ∧ es.Perm (L.map hd) ∧ (∀ z : Value, (DataW.map es).atKey kl (.held z) = .held ((findL L kl).getD z)) ∧ Maps.has (.map es) kl = (findL L kl).isSome := by
  obtain ⟨ha, es, he, ho⟩ := h
  have e1 : es.find? (fun p => p.1.sameKey kl) = (L.find? (fun p => p.1.sameKey kl)).map hd := by
    rw [← find_map]; exact find_perm he (apart_perm he.symm (apart_map.2 ha)) hk
  refine ⟨es, ho, he, fun z => ?_, ?_⟩
  · unfold DataW.atKey findL
    simp only [e1]
    cases L.find? (fun p => p.1.sameKey kl) <;> simp [hd]
  · have e2 : es.any (fun p => p.1.sameKey kl) = (es.find? (fun p => p.1.sameKey kl)).isSome := by
      rw [Bool.eq_iff_iff, List.find?_isSome, List.any_eq_true]
    rw [Maps.has_eq, e2, e1]
    unfold findL
    cases L.find? (fun p => p.1.sameKey kl) <;> simp

/-- m[k] -/
theorem MapL.lookup {t e : TypeId} (h : MapL P k w b L) (K : Keyed P k) (ht : P.underlying t = some (.map k e)) {z : Value} (hz : (zeroValue e).run P w = .ok z w) {key : Value} {kl : Lit} (hkey : keyOf P k key = some kl) :
    (Instr.lookup t (.map (some b)) key false).run P w = .ok ((findL L kl).getD z) w := by
  obtain ⟨es, ho, _, hat, _⟩ := h.at (keyLit_of K hkey)
  obtain ⟨v, ps, hrun, hv⟩ := ho.lookup K ht hz (zd := .held z) (zp := []) rfl hkey
  rw [hat z] at hv
  cases hv
  exact hrun
/-- v, ok := m[k] -/
theorem MapL.lookup_ok {t e : TypeId} (h : MapL P k w b L) (K : Keyed P k) (ht : P.underlying t = some (.map k e)) {z : Value} (hz : (zeroValue e).run P w = .ok z w) {key : Value} {kl : Lit} (hkey : keyOf P k key = some kl) :
    (Instr.lookup t (.map (some b)) key true).run P w = .ok (.tuple #[(findL L kl).getD z, .bool (findL L kl).isSome]) w := by
  obtain ⟨es, ho, _, hat, hhas⟩ := h.at (keyLit_of K hkey)
  obtain ⟨v, ps, hrun, hv⟩ := ho.look_ok K ht hz (zd := .held z) (zp := []) rfl hkey
  rw [hat z] at hv
  cases hv
  rw [← hhas]
  exact hrun
/-- m[k] = v -/
theorem MapL.store {t e : TypeId} (h : MapL P k w b L) (K : Keyed P k) (ht : P.underlying t = some (.map k e)) (hn : L.length < maxLen) {key v : Value} {kl : Lit} (hkey : keyOf P k key = some kl) :
    ∃ w', (Instr.mapUpdate t (.map (some b)) key v).run P w = .ok () w' ∧ MapL P k w' b ((kl, v) :: eraseL L kl) ∧ Keep (fun j => j = b) w w' ∧ w'.heap.size = w.heap.size := by
  have hkl := keyLit_of K hkey
  obtain ⟨ha, es, he, ho⟩ := h
  obtain ⟨w', hrun, ho', ht'⟩ := ho.store K ht hn hkey (d := .held v) (ps := []) rfl
  have hp : (DataW.insert (kl, .held v) (es.filter fun p => !p.1.sameKey kl)).Perm (((kl, v) :: eraseL L kl).map hd) := by
    refine (WideShapes.insert_perm _ _).trans ?_
    refine List.Perm.cons _ ?_
    have := he.filter (fun p : Lit × DataW Value => !p.1.sameKey kl)
    rw [List.filter_map] at this
    exact this
  have hg := ht'.grown
  refine ⟨w', hrun, ⟨apart_put ha hkl v, _, hp, ?_⟩, (Keep.of_grown hg).mono (fun j _ e => by cases e; rfl), ?_⟩
  · have hs := ho'.size_le
    obtain ⟨es2, c2, hb2, F2, _, e2⟩ := ho'
    refine ⟨es2, c2, hb2, F2, ?_, e2⟩
    have e3 := hp.length_eq
    have e4 : (DataW.insert (kl, DataW.held v) (es.filter fun p => !p.1.sameKey kl)).length = es2.size := by
      have := congrArg (fun D : DataW Value => Maps.size D) e2
      simp only [DataW.put, Maps.size, length_sorted, List.length_map, Array.length_toList] at this
      exact this
    rw [List.length_map] at e3
    omega
  · obtain ⟨es1, c1, es2, c2, _, rfl⟩ := ht'
    simp [setBlock]
/-- delete(m, k) -/
theorem MapL.drop {t e : TypeId} (h : MapL P k w b L) (K : Keyed P k) (ht : P.underlying t = some (.map k e)) {key : Value} {kl : Lit} (hkey : keyOf P k key = some kl) (ty : TypeId) :
    ∃ w', (Builtin.delete_ #[t, k] ty #[.map (some b), key]).run P w = .ok (.tuple #[]) w' ∧ MapL P k w' b (eraseL L kl) ∧ Keep (fun j => j = b) w w' ∧ w'.heap.size = w.heap.size := by
  obtain ⟨ha, es, he, ho⟩ := h
  obtain ⟨w', hrun, ho', ht'⟩ := ho.drop K ht hkey ty
  have hp : (es.filter fun p => !p.1.sameKey kl).Perm ((eraseL L kl).map hd) := by
    have := he.filter (fun p : Lit × DataW Value => !p.1.sameKey kl)
    rw [List.filter_map] at this
    exact this
  have hg := ht'.grown
  refine ⟨w', hrun, ⟨apart_erase ha kl, _, hp, ?_⟩, (Keep.of_grown hg).mono (fun j _ e => by cases e; rfl), ?_⟩
  · obtain ⟨es2, c2, hb2, F2, _, e2⟩ := ho'
    refine ⟨es2, c2, hb2, F2, ?_, e2⟩
    have e3 := hp.length_eq
    have e4 : (es.filter fun p => !p.1.sameKey kl).length = es2.size := by
      have := congrArg (fun D : DataW Value => Maps.size D) e2
      simp only [DataW.del, Maps.size, length_sorted, List.length_map, Array.length_toList] at this
      exact this
    rw [List.length_map] at e3
    omega
  · obtain ⟨es1, c1, es2, c2, _, rfl⟩ := ht'
    simp [setBlock]
theorem MapL.size (h : MapL P k w b L) : ∃ es, w.ownsMap P k heldE b L.length (.map es) ∧ es.Perm (L.map hd) ∧ Maps.size (.map es) = L.length := by
  obtain ⟨_, es, he, ho⟩ := h
  exact ⟨es, ho, he, by rw [Maps.size_eq, he.length_eq, List.length_map]⟩
/-- len(m) -/
theorem MapL.len {t e : TypeId} (h : MapL P k w b L) (ht : P.underlying t = some (.map k e)) (ty : TypeId) : (Builtin.len_ #[t] ty #[.map (some b)]).run P w = .ok (.int .i64 L.length) w := by
  obtain ⟨es, ho, _, hs⟩ := h.size
  rw [ho.len ht ty, hs]

/-- An iterator (block r) over the map of block b; 'todo' is still to come. -/
def RangeL (P : Program) (k : TypeId) (w : World) (b r : Nat) (L todo : List (Lit × Value)) : Prop :=
  Apart L ∧ (∀ p ∈ todo, p ∈ L) ∧ Apart todo ∧ ∃ es left cnt, es.Perm (L.map hd) ∧ w.ranges P k heldE b r L.length (.map es) left cnt ∧ ∀ kl, left kl = true ↔ ∃ v, (kl, v) ∈ todo

theorem RangeL.map {r : Nat} {todo : List (Lit × Value)} (h : RangeL P k w b r L todo) : MapL P k w b L := by
  obtain ⟨ha, _, _, es, left, cnt, he, hr, _⟩ := h
  exact ⟨ha, es, he, hr.owns⟩
theorem RangeL.same {w' : World} {r : Nat} {todo : List (Lit × Value)} (h : RangeL P k w b r L todo) (eb : w'.heap[b]? = w.heap[b]?) (er : w'.heap[r]? = w.heap[r]?) : RangeL P k w' b r L todo := by
  obtain ⟨ha, h1, h2, es, left, cnt, he, hr, h3⟩ := h
  refine ⟨ha, h1, h2, es, left, cnt, he, ?_, h3⟩
  obtain ⟨es1, clock, since, seen, c0, hb, F, hs, e, hrr, rest⟩ := hr
  exact ⟨es1, clock, since, seen, c0, eb.trans hb, F, hs, e, er.trans hrr, rest⟩
theorem RangeL.lt {r : Nat} {todo : List (Lit × Value)} (h : RangeL P k w b r L todo) : r < w.heap.size := by
  obtain ⟨_, _, _, es, left, cnt, _, hr, _⟩ := h; exact hr.lt
theorem RangeL.keep {A : Nat → Prop} {w' : World} {r : Nat} {todo : List (Lit × Value)} (h : RangeL P k w b r L todo) (hk : Keep A w w') (hb : ¬ A b) (hr : ¬ A r) : RangeL P k w' b r L todo :=
  h.same (hk.block b h.map.lt hb) (hk.block r h.lt hr)
/-- range m -/
theorem MapL.range {t e : TypeId} (h : MapL P k w b L) (K : Keyed P k) (ht : P.underlying t = some (.map k e)) :
    ∃ w', (Instr.range t (.map (some b))).run P w = .ok (.pointer (some ⟨w.heap.size, 0, none⟩)) w' ∧ RangeL P k w' b w.heap.size L L ∧ Keep No w w' ∧ w'.heap.size = w.heap.size + 1 := by
  have hkeys := h.keys K
  obtain ⟨ha, es, he, ho⟩ := h
  obtain ⟨w', hrun, hr, hg, hs⟩ := ho.range K ht
  refine ⟨w', hrun, ⟨ha, fun _ h => h, ha, es, _, _, he, hr, fun kl => ?_⟩, (Keep.of_grown hg).mono (fun j _ e => by cases e), hs⟩
  rw [Maps.has_eq, List.any_eq_true]
  constructor
  · rintro ⟨p, hp, hs⟩
    obtain ⟨q, hq, rfl⟩ := List.mem_map.1 (he.mem_iff.1 hp)
    have := WideAt.sameKey_eq hs
    simp only [hd] at this
    subst this
    exact ⟨q.2, hq⟩
  · rintro ⟨v, hv⟩
    exact ⟨hd (kl, v), he.mem_iff.2 (List.mem_map_of_mem hv), WideAt.sameKey_self (hkeys _ hv)⟩
/-- the next entry -/
theorem RangeL.next {r : Nat} {todo : List (Lit × Value)} (h : RangeL P k w b r L todo) (K : Keyed P k) (ty : TypeId) :
    (todo = [] ∧ (Instr.next (.pointer (some ⟨r, 0, none⟩)) false ty).run P w = .ok (.tuple #[.bool false]) w) ∨
    ∃ key v kl w', keyOf P k key = some kl ∧ (kl, v) ∈ todo ∧ (Instr.next (.pointer (some ⟨r, 0, none⟩)) false ty).run P w = .ok (.tuple #[.bool true, key, v]) w' ∧
      RangeL P k w' b r L (eraseL todo kl) ∧ w'.rangeLeft b r < w.rangeLeft b r ∧ Keep (fun j => j = r) w w' ∧ w'.heap.size = w.heap.size ∧ (Instr.entry (.pointer (some ⟨r, 0, none⟩))).run P w' = .ok (.tuple #[key, v]) w' := by
  have hkeys := h.map.keys K
  obtain ⟨ha, h1, h2, es, left, cnt, he, hr, h3⟩ := h
  rcases hr.next K ty with ⟨h0, hl, hrun⟩ | ⟨key, v, kl, y, w', cnt', hkey, hlk, hRv, hat, hrun, hr', hlt, hg, hs, hen⟩
  · refine .inl ⟨?_, hrun⟩
    cases todo with
    | nil => rfl
    | cons p r =>
      have := (h3 p.1).2 ⟨p.2, by simp⟩
      rw [hl] at this; cases this
  · refine .inr ⟨key, v, kl, w', hkey, ?_⟩
    cases hRv
    have hkl := keyLit_of K hkey
    obtain ⟨v', hv'⟩ := (h3 kl).1 hlk
    have hm := h1 _ hv'
    have hfind : es.find? (fun p => p.1.sameKey kl) = some (hd (kl, v')) :=
      (find_some (apart_perm he.symm (apart_map.2 ha)) hkl _).2 ⟨he.mem_iff.2 (List.mem_map_of_mem hm), rfl⟩
    have := hat (.held (.bool false))
    unfold DataW.atKey at this
    simp only [hfind, hd] at this
    cases this
    refine ⟨hv', hrun, ⟨ha, fun p hp => h1 p ((mem_erase hkl).1 hp).1, apart_erase h2 kl, es, _, _, he, hr', fun kl' => ?_⟩, by rw [hr'.left_eq, hr.left_eq]; exact hlt, (Keep.of_grown hg).mono (fun j _ e => by cases e; rfl), hs, hen⟩
    rw [Bool.and_eq_true, h3]
    constructor
    · rintro ⟨⟨v2, hv2⟩, hne⟩
      refine ⟨v2, (mem_erase hkl).2 ⟨hv2, fun e => ?_⟩⟩
      simp only at e
      subst e
      rw [WideAt.sameKey_self hkl] at hne; cases hne
    · rintro ⟨v2, hv2⟩
      obtain ⟨h4, h5⟩ := (mem_erase hkl).1 hv2
      exact ⟨⟨v2, h4⟩, by rw [Maps.sameKey_ne h5]; rfl⟩

theorem rg_lookup {t e : TypeId} (h : MapL P k w b L) (K : Keyed P k) (ht : P.underlying t = some (.map k e)) {z : Value} (hz : (zeroValue e).run P w = .ok z w) {key : Value} {kl : Lit} (hkey : keyOf P k key = some kl) {G : Value → World → Prop}
    (hk : G ((findL L kl).getD z) w) : LookupGoal P t (.map (some b)) key false w G := .mk (h.lookup K ht hz hkey) hk
theorem rg_lookup_ok {t e : TypeId} (h : MapL P k w b L) (K : Keyed P k) (ht : P.underlying t = some (.map k e)) {z : Value} (hz : (zeroValue e).run P w = .ok z w) {key : Value} {kl : Lit} (hkey : keyOf P k key = some kl) {G : Value → World → Prop}
    (hk : G (.tuple #[(findL L kl).getD z, .bool (findL L kl).isSome]) w) : LookupGoal P t (.map (some b)) key true w G := .mk (h.lookup_ok K ht hz hkey) hk
theorem rg_store {t e : TypeId} (h : MapL P k w b L) (K : Keyed P k) (ht : P.underlying t = some (.map k e)) (hn : L.length < maxLen) {key v : Value} {kl : Lit} (hkey : keyOf P k key = some kl) {G : World → Prop}
    (hk : ∀ w', MapL P k w' b ((kl, v) :: eraseL L kl) → Keep (fun j => j = b) w w' → w'.heap.size = w.heap.size → G w') : UpdateGoal P t (.map (some b)) key v w G := by
  obtain ⟨w', hr, h1, h2, h3⟩ := h.store K ht hn (v := v) hkey
  exact .mk hr (hk w' h1 h2 h3)
theorem rg_delete {t e : TypeId} (h : MapL P k w b L) (K : Keyed P k) (ht : P.underlying t = some (.map k e)) {key : Value} {kl : Lit} (hkey : keyOf P k key = some kl) {ty : TypeId} {G : Value → World → Prop}
    (hk : ∀ w', MapL P k w' b (eraseL L kl) → Keep (fun j => j = b) w w' → w'.heap.size = w.heap.size → G (.tuple #[]) w') : DeleteGoal P t k ty (.map (some b)) key w G := by
  obtain ⟨w', hr, h1, h2, h3⟩ := h.drop K ht hkey ty
  exact .mk hr (hk w' h1 h2 h3)
theorem rg_len {t e : TypeId} (h : MapL P k w b L) (ht : P.underlying t = some (.map k e)) {ty : TypeId} {G : Value → World → Prop} (hk : G (.int .i64 L.length) w) : LenGoal P t ty (.map (some b)) w G := .mk (h.len ht ty) hk
theorem rg_range {t e : TypeId} (h : MapL P k w b L) (K : Keyed P k) (ht : P.underlying t = some (.map k e)) {G : Value → World → Prop}
    (hk : ∀ w', RangeL P k w' b w.heap.size L L → Keep No w w' → w'.heap.size = w.heap.size + 1 → G (.pointer (some ⟨w.heap.size, 0, none⟩)) w') : RangeGoal P t (.map (some b)) w G := by
  obtain ⟨w', hr, h1, h2, h3⟩ := h.range K ht
  exact .mk hr (hk w' h1 h2 h3)
theorem rg_next {r : Nat} {todo : List (Lit × Value)} (h : RangeL P k w b r L todo) (K : Keyed P k) {ty : TypeId} {G : Value → World → Prop}
    (h0 : todo = [] → G (.tuple #[.bool false]) w)
    (h1 : ∀ key v kl w', keyOf P k key = some kl → (kl, v) ∈ todo → RangeL P k w' b r L (eraseL todo kl) → w'.rangeLeft b r < w.rangeLeft b r → Keep (fun j => j = r) w w' → w'.heap.size = w.heap.size →
      (Instr.entry (.pointer (some ⟨r, 0, none⟩))).run P w' = .ok (.tuple #[key, v]) w' → G (.tuple #[.bool true, key, v]) w') : NextGoal P (.pointer (some ⟨r, 0, none⟩)) false ty w G := by
  rcases h.next K ty with ⟨e, hr⟩ | ⟨key, v, kl, w', a1, a2, a3, a4, a5, a6, a7, a8⟩
  · exact .mk hr (h0 e)
  · exact .mk a3 (h1 key v kl w' a1 a2 a4 a5 a6 a7 a8)
end
end Go.Dm
namespace Go.Dm.Vm
open Go

structure Pg where
  addr : Nat
  prot : Nat
  dirty : Bool
  file : List UInt8
  off : Nat
  b : List UInt8
abbrev V := List Pg
def top : Nat := 4294967296
def pageOf (a : Nat) : Nat := a / 256 * 256
/-- the page of a page's address -/
def pageAt (m : V) (a : Nat) : Option Pg := m.find? (fun p => p.addr == a)
structure PgOk (p : Pg) : Prop where
  al : p.addr % 256 = 0
  lt : p.addr < top
  pr : p.prot ≤ 7
  bl : p.b.length = 256
  ol : p.off < 18446744073709551616
  fl : p.file.length ≤ maxLen
structure Ok (m : V) : Prop where
  srt : m.Pairwise (fun p q => p.addr < q.addr)
  pg : ∀ p ∈ m, PgOk p
  len : m.length ≤ 512
def may (addr size : Nat) (prot : Int) : Bool := addr % 256 == 0 && size % 256 == 0 && decide (0 < size) && decide (addr ≤ top) && decide (size ≤ top - addr) && decide (0 ≤ prot) && decide (prot ≤ 7)
/-- how many pages a span has a part of -/
def pagesN (addr size : Nat) : Nat := (addr % 256 + size + 255) / 256
def pagesOf (addr size : Nat) : List Nat := (List.range (pagesN addr size)).map fun k => pageOf addr + 256 * k
def there (m : V) (addr size : Nat) : Bool := (pagesOf addr size).all fun a => (pageAt m a).isSome
/-- the error of a span some of whose pages aren't there -/
def heldE (m : V) (addr size : Nat) : Nat := if addr > top ∨ size > top - addr ∨ size > 131328 then 40 else if there m addr size then 0 else 40

theorem get_mem {m : V} {a : Nat} {p : Pg} (h : pageAt m a = some p) : p ∈ m ∧ p.addr = a := by
  unfold pageAt at h
  exact ⟨List.mem_of_find?_eq_some h, by simpa using List.find?_some h⟩
theorem get_of_mem {m : V} (hs : m.Pairwise (fun p q => p.addr < q.addr)) {p : Pg} (h : p ∈ m) : pageAt m p.addr = some p := by
  induction m with
  | nil => cases h
  | cons q r ih =>
    rw [List.pairwise_cons] at hs
    unfold pageAt
    rcases List.mem_cons.1 h with rfl | h
    · simp
    · have := hs.1 p h
      rw [List.find?_cons_of_neg (by simp; omega)]
      exact ih hs.2 h

theorem mask_hi (a : Nat) (h : a < 18446744073709551616) : a &&& 18446744073709551360 = a / 256 * 256 := by
  have e1 : (18446744073709551360 : Nat) = (2 ^ 56 - 1) <<< 8 := by decide
  have e2 : a / 256 * 256 = (a >>> 8) <<< 8 := by rw [Nat.shiftLeft_eq, Nat.shiftRight_eq_div_pow]
  rw [e1, e2]
  apply Nat.eq_of_testBit_eq
  intro i
  rw [Nat.testBit_and, Nat.testBit_shiftLeft, Nat.testBit_shiftLeft, Nat.testBit_shiftRight, Nat.testBit_two_pow_sub_one]
  by_cases h8 : 8 ≤ i
  · simp only [ge_iff_le, h8, decide_true, Bool.true_and]
    rw [show 8 + (i - 8) = i by omega]
    by_cases h64 : i - 8 < 56
    · simp [h64]
    · have : a.testBit i = false := Nat.testBit_lt_two_pow (Nat.lt_of_lt_of_le h (Nat.pow_le_pow_right (n := 2) (by decide) (show 64 ≤ i by omega)))
      simp [this]
  · simp [h8]
theorem andNot_255 (a : Nat) (h : a < 18446744073709551616) : bits .andNot .u64 (a : Int) 255 = ((pageOf a : Nat) : Int) := by
  have := u64_andNot_nat a 255 h (by decide)
  rw [show ((255 : Nat) : Int) = 255 from rfl] at this
  rw [this]
  unfold pageOf
  rw [← mask_hi a h]
theorem pageOf_le (a : Nat) : pageOf a ≤ a := by unfold pageOf; omega
theorem pageOf_pageOf (a k : Nat) : pageOf (pageOf a + 256 * k) = pageOf a + 256 * k := by unfold pageOf; omega
/-- the loop over a span's pages -/
theorem pages_step (addr size k : Nat) (hs : 0 < size) : pageOf addr + 256 * k < addr + size ↔ k < pagesN addr size := by
  unfold pageOf pagesN; omega
end Go.Dm.Vm
