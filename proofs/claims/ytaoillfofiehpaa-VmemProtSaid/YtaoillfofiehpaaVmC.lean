/- cmp.Less, insertionSortOrdered at uint64. Copy. No condition. -/
import Derived.Test.YtaoillfofiehpaaSigT
import Derived.Test.YtaoillfofiehpaaFl
import Derived.Test.YtaoillfofiehpaaProg
import Derived.Sort.LotA
import Derived.Laws.OwnMore
import Derived.Test.YtaoillfofiehpaaRv2
namespace Go.Proofs.Ytaoillfofiehpaa
open Go.RowKit Go.Dm

def uv (x : Nat) : Value := .int .u64 (x : Int)
def ltN (a b : Nat) : Bool := decide (a < b)
theorem nan_any (a : Nat) (w : World) : Calls Try.prog 81 #[uv a] w fun e w' => e = .returned (.bool false) ∧ w = w' := by
  unfold uv
  go_enter Try.func81, Try.ntmps81
  go_wp2_with (first | (at_builtin; refine wl_append rfl _ _ _ _ rfl _ _ rfl rfl ?_) | (at_make; refine wl_make rfl _ _ _ rfl _ _ rfl rfl ?_) | (at_mapUpdate; refine wl_mapUpdate rfl _ _ _ _ rfl _ _ _ rfl rfl rfl ?_) | (at_lookup; refine wl_lookup rfl _ _ _ _ rfl _ _ rfl rfl ?_) | (at_delete; refine wl_delete rfl _ _ _ _ rfl _ _ rfl rfl ?_) | (with_reducible refine wl_len rfl _ _ rfl _ rfl ?_) | (with_reducible refine wl_range rfl _ _ rfl _ rfl ?_) | (with_reducible refine wl_next rfl _ rfl _ rfl ?_) | (with_reducible refine wl_copy rfl _ _ _ _ rfl _ _ rfl rfl ?_) | (with_reducible refine wl_max rfl _ _ _ _ rfl _ _ rfl rfl ?_) | (with_reducible refine wl_min rfl _ _ _ _ rfl _ _ rfl rfl ?_))
  go_ret
  exact ⟨rfl, rfl⟩
theorem less_any (a b : Nat) (w : World) : Calls Try.prog 71 #[uv a, uv b] w fun e w' => e = .returned (.bool (ltN a b)) ∧ w = w' := by
  have h1 := nan_any a w
  unfold uv at *
  have e : decide ((a : Int) < (b : Int)) = ltN a b := by unfold ltN; rw [Bool.eq_iff_iff, decide_eq_true_iff, decide_eq_true_iff]; omega
  go_enter Try.func71, Try.ntmps71
  go_wp2_with (first | (at_builtin; refine wl_append rfl _ _ _ _ rfl _ _ rfl rfl ?_) | (at_make; refine wl_make rfl _ _ _ rfl _ _ rfl rfl ?_) | (at_mapUpdate; refine wl_mapUpdate rfl _ _ _ _ rfl _ _ _ rfl rfl rfl ?_) | (at_lookup; refine wl_lookup rfl _ _ _ _ rfl _ _ rfl rfl ?_) | (at_delete; refine wl_delete rfl _ _ _ _ rfl _ _ rfl rfl ?_) | (with_reducible refine wl_len rfl _ _ rfl _ rfl ?_) | (with_reducible refine wl_range rfl _ _ rfl _ rfl ?_) | (with_reducible refine wl_next rfl _ rfl _ rfl ?_) | (with_reducible refine wl_copy rfl _ _ _ _ rfl _ _ rfl rfl ?_) | (with_reducible refine wl_max rfl _ _ _ _ rfl _ _ rfl rfl ?_) | (with_reducible refine wl_min rfl _ _ _ _ rfl _ _ rfl rfl ?_))
  refine h1.mono ?_
  rintro e2 x ⟨rfl, rfl⟩
  by_cases hl : a < b
  · have hz : (a : Int) < (b : Int) := by omega
    have HE := Lib.hid (show ltN a b = true by unfold ltN; simpa using hl)
    clear e
    go_wp2_with (first | (at_builtin; refine wl_append rfl _ _ _ _ rfl _ _ rfl rfl ?_) | (at_make; refine wl_make rfl _ _ _ rfl _ _ rfl rfl ?_) | (at_mapUpdate; refine wl_mapUpdate rfl _ _ _ _ rfl _ _ _ rfl rfl rfl ?_) | (at_lookup; refine wl_lookup rfl _ _ _ _ rfl _ _ rfl rfl ?_) | (at_delete; refine wl_delete rfl _ _ _ _ rfl _ _ rfl rfl ?_) | (with_reducible refine wl_len rfl _ _ rfl _ rfl ?_) | (with_reducible refine wl_range rfl _ _ rfl _ rfl ?_) | (with_reducible refine wl_next rfl _ rfl _ rfl ?_) | (with_reducible refine wl_copy rfl _ _ _ _ rfl _ _ rfl rfl ?_) | (with_reducible refine wl_max rfl _ _ _ _ rfl _ _ rfl rfl ?_) | (with_reducible refine wl_min rfl _ _ _ _ rfl _ _ rfl rfl ?_))
    go_ret
    rw [HE.out]
    exact ⟨rfl, rfl⟩
  · have hz : (b : Int) ≤ (a : Int) := by omega
    have HE := Lib.hid (show ltN a b = false by unfold ltN; simpa using hl)
    clear e
    go_wp2_with (first | (at_builtin; refine wl_append rfl _ _ _ _ rfl _ _ rfl rfl ?_) | (at_make; refine wl_make rfl _ _ _ rfl _ _ rfl rfl ?_) | (at_mapUpdate; refine wl_mapUpdate rfl _ _ _ _ rfl _ _ _ rfl rfl rfl ?_) | (at_lookup; refine wl_lookup rfl _ _ _ _ rfl _ _ rfl rfl ?_) | (at_delete; refine wl_delete rfl _ _ _ _ rfl _ _ rfl rfl ?_) | (with_reducible refine wl_len rfl _ _ rfl _ rfl ?_) | (with_reducible refine wl_range rfl _ _ rfl _ rfl ?_) | (with_reducible refine wl_next rfl _ rfl _ rfl ?_) | (with_reducible refine wl_copy rfl _ _ _ _ rfl _ _ rfl rfl ?_) | (with_reducible refine wl_max rfl _ _ _ _ rfl _ _ rfl rfl ?_) | (with_reducible refine wl_min rfl _ _ _ _ rfl _ _ rfl rfl ?_))
    go_ret
    rw [HE.out]
    exact ⟨rfl, rfl⟩
section
variable {w : World}
/-- a row of one's own with these numbers -/
def Nums (w : World) (base g cap : Nat) (D : Array Nat) : Prop := w.ownsRow base 24 1 (.slice (some ⟨g, 0, none⟩) D.size cap) D.size (D.toList.map uv)
theorem Nums.cell {base g cap : Nat} {D : Array Nat} (h : Nums w base g cap D) {i : Nat} (hi : i < D.size) : w.cell? ⟨g, i, none⟩ = some (uv D[i]!) := by
  rw [h.cellAt i (by omega), List.getElem?_map, Array.getElem?_toList, Array.getElem?_eq_getElem hi, getElem!_pos D i hi]
  rfl
theorem Nums.frozen {base g cap : Nat} {D : Array Nat} (h : Nums w base g cap D) (i : Nat) : w.frozen? ⟨g, i, none⟩ = false := h.frozenAt i
theorem Nums.set {base g cap : Nat} {D : Array Nat} (h : Nums w base g cap D) (i x : Nat) : Nums (w.setCell ⟨g, i, none⟩ (uv x)) base g cap (D.setIfInBounds i x) := by
  have h1 := (h.stored i (uv x)).1
  unfold Nums
  rw [Array.size_setIfInBounds, Array.toList_setIfInBounds, List.map_set]
  exact h1
theorem Nums.base {base g cap : Nat} {D : Array Nat} (h : Nums w base g cap D) : base ≤ g := (World.ownsRow.lt h g rfl).1
theorem Nums.lt {base g cap : Nat} {D : Array Nat} (h : Nums w base g cap D) : g < w.heap.size := (World.ownsRow.lt h g rfl).2
set_option maxRecDepth 100000 in
set_option maxHeartbeats 4000000 in
theorem ins_any {base g cap : Nat} {D : Array Nat} (h : Nums w base g cap D) (hn : D.size ≤ 1099511627776) :
    Calls Try.prog 65 #[.slice (some ⟨g, 0, none⟩) D.size cap, .int .i64 0, .int .i64 (D.size : Int)] w fun e w' => e = .returned (.tuple #[]) ∧ Nums w' base g cap (Sort.insertionSort ltN D 0 D.size) ∧ Keep (fun j => j = g) w w' ∧ w'.heap.size = w.heap.size := by
  generalize hR : Sort.insertionSort ltN D 0 D.size = R
  generalize hN : D.size = n at *
  have hR2 : Sort.insOuter ltN 0 n 1 D = R := hR
  go_enter Try.func65, Try.ntmps65
  go_wp2_with (first | (at_builtin; refine wl_append rfl _ _ _ _ rfl _ _ rfl rfl ?_) | (at_make; refine wl_make rfl _ _ _ rfl _ _ rfl rfl ?_) | (at_mapUpdate; refine wl_mapUpdate rfl _ _ _ _ rfl _ _ _ rfl rfl rfl ?_) | (at_lookup; refine wl_lookup rfl _ _ _ _ rfl _ _ rfl rfl ?_) | (at_delete; refine wl_delete rfl _ _ _ _ rfl _ _ rfl rfl ?_) | (with_reducible refine wl_len rfl _ _ rfl _ rfl ?_) | (with_reducible refine wl_range rfl _ _ rfl _ rfl ?_) | (with_reducible refine wl_next rfl _ rfl _ rfl ?_) | (with_reducible refine wl_copy rfl _ _ _ _ rfl _ _ rfl rfl ?_) | (with_reducible refine wl_max rfl _ _ _ _ rfl _ _ rfl rfl ?_) | (with_reducible refine wl_min rfl _ _ _ _ rfl _ _ rfl rfl ?_))
  go_loopw [6] (fun iv wr => ∃ i E, iv = .int .i64 ((i : Nat) : Int) ∧ 1 ≤ i ∧ Sort.insOuter ltN 0 n i E = R ∧ E.size = n ∧ Nums wr base g cap E ∧ Keep (fun j => j = g) w wr ∧ wr.heap.size = w.heap.size) (fun iv _ => n - (intOf iv).toNat)
  case atStart => exact ⟨1, D, rfl, Nat.le_refl _, hR2, hN, h, Keep.refl _ _, rfl⟩
  case round =>
    clear h hR hR2 hN
    obtain ⟨i, E, rfl, hi1, hE, hEs, hO, hk, hsz⟩ := hrel
    rw [Sort.insOuter] at hE
    rcases Nat.lt_or_ge i n with hlt | hge
    · rw [if_pos hlt] at hE
      have hiz : (i : Int) < (n : Int) := by omega
      have i1z : (1 : Int) ≤ (i : Int) := by omega
      generalize hT : Sort.insInner ltN 0 i E = T at hE
      go_wp2_with (first | (at_builtin; refine wl_append rfl _ _ _ _ rfl _ _ rfl rfl ?_) | (at_make; refine wl_make rfl _ _ _ rfl _ _ rfl rfl ?_) | (at_mapUpdate; refine wl_mapUpdate rfl _ _ _ _ rfl _ _ _ rfl rfl rfl ?_) | (at_lookup; refine wl_lookup rfl _ _ _ _ rfl _ _ rfl rfl ?_) | (at_delete; refine wl_delete rfl _ _ _ _ rfl _ _ rfl rfl ?_) | (with_reducible refine wl_len rfl _ _ rfl _ rfl ?_) | (with_reducible refine wl_range rfl _ _ rfl _ rfl ?_) | (with_reducible refine wl_next rfl _ rfl _ rfl ?_) | (with_reducible refine wl_copy rfl _ _ _ _ rfl _ _ rfl rfl ?_) | (with_reducible refine wl_max rfl _ _ _ _ rfl _ _ rfl rfl ?_) | (with_reducible refine wl_min rfl _ _ _ _ rfl _ _ rfl rfl ?_))
      go_loopw [7] (fun jv wr => ∃ j F, jv = .int .i64 ((j : Nat) : Int) ∧ j ≤ i ∧ Sort.insInner ltN 0 j F = T ∧ F.size = n ∧ Nums wr base g cap F ∧ Keep (fun j => j = g) w wr ∧ wr.heap.size = w.heap.size) (fun jv _ => (intOf jv).toNat)
      case atStart => exact ⟨i, E, rfl, Nat.le_refl _, hT, hEs, hO, hk, hsz⟩
      case round =>
        clear hO hk hsz hT hEs
        obtain ⟨j, F, rfl, hji, hT, hFs, hO, hk, hsz⟩ := hrel
        have hjn : j < n := by omega
        have hc0 := hO.cell (i := j) (by omega)
        cases j with
        | zero =>
          rw [Sort.insInner] at hT
          subst hT
          go_wp2_with (first | (at_builtin; refine wl_append rfl _ _ _ _ rfl _ _ rfl rfl ?_) | (at_make; refine wl_make rfl _ _ _ rfl _ _ rfl rfl ?_) | (at_mapUpdate; refine wl_mapUpdate rfl _ _ _ _ rfl _ _ _ rfl rfl rfl ?_) | (at_lookup; refine wl_lookup rfl _ _ _ _ rfl _ _ rfl rfl ?_) | (at_delete; refine wl_delete rfl _ _ _ _ rfl _ _ rfl rfl ?_) | (with_reducible refine wl_len rfl _ _ rfl _ rfl ?_) | (with_reducible refine wl_range rfl _ _ rfl _ rfl ?_) | (with_reducible refine wl_next rfl _ rfl _ rfl ?_) | (with_reducible refine wl_copy rfl _ _ _ _ rfl _ _ rfl rfl ?_) | (with_reducible refine wl_max rfl _ _ _ _ rfl _ _ rfl rfl ?_) | (with_reducible refine wl_min rfl _ _ _ _ rfl _ _ rfl rfl ?_))
          refine wp_region_sig (fun w' => True) (fun j => decide (j ≤ 99)) [(0, true), (1, true), (2, true), (3, true), (4, true), (5, true), (6, true), (7, true), (8, true), (9, true), (10, true), (11, true), (12, true), (13, true), (14, true)] (by kernel_rfl) (by kernel_rfl) (by intro c a d v w h; cases d <;> exact h) trivial ?_
          apply sig_still (o := ⟨some 16, _, _, _, _, _⟩) rfl rfl
          · intro w' hS
            first | (go_simp; done) | (go_simp; rfl) | rfl
          go_frame
          apply sig_still (o := ⟨some 17, _, _, _, _, _⟩) rfl rfl
          · intro w' hS
            first | (go_simp; done) | (go_simp; rfl) | rfl
          go_frame
          apply sig_still (o := ⟨some 18, _, _, _, _, _⟩) rfl rfl
          · intro w' hS
            first | (go_simp; done) | (go_simp; rfl) | rfl
          go_frame
          apply sig_still (o := ⟨some 19, _, _, _, _, _⟩) rfl rfl
          · intro w' hS
            first | (go_simp; done) | (go_simp; rfl) | rfl
          go_frame
          refine sig_skip (o := ⟨some 20, _, _, _, _, _⟩) rfl (by rfl) ?_
          go_frame
          refine sig_skip (o := ⟨some 21, _, _, _, _, _⟩) rfl (by rfl) ?_
          go_frame
          refine sig_skip (o := ⟨some 22, _, _, _, _, _⟩) rfl (by rfl) ?_
          go_frame
          refine sig_skip (o := ⟨some 23, _, _, _, _, _⟩) rfl (by rfl) ?_
          go_frame
          refine sig_skip (o := ⟨some 24, _, _, _, _, _⟩) rfl (by rfl) ?_
          go_frame
          refine sig_skip (o := ⟨some 25, _, _, _, _, _⟩) rfl (by rfl) ?_
          go_frame
          refine sig_skip (o := ⟨some 26, _, _, _, _, _⟩) rfl (by rfl) ?_
          go_frame
          refine sig_skip (o := ⟨some 27, _, _, _, _, _⟩) rfl (by rfl) ?_
          go_frame
          refine sig_skip (o := ⟨some 28, _, _, _, _, _⟩) rfl (by rfl) ?_
          go_frame
          refine sig_skip (o := ⟨some 29, _, _, _, _, _⟩) rfl (by rfl) ?_
          go_frame
          apply sig_still (o := ⟨some 30, _, _, _, _, _⟩) rfl rfl
          · intro w' hS
            first | (go_simp; done) | (go_simp; rfl) | rfl
          go_frame
          refine sig_nil ?_
          go_wp2_with (first | (at_builtin; refine wl_append rfl _ _ _ _ rfl _ _ rfl rfl ?_) | (at_make; refine wl_make rfl _ _ _ rfl _ _ rfl rfl ?_) | (at_mapUpdate; refine wl_mapUpdate rfl _ _ _ _ rfl _ _ _ rfl rfl rfl ?_) | (at_lookup; refine wl_lookup rfl _ _ _ _ rfl _ _ rfl rfl ?_) | (at_delete; refine wl_delete rfl _ _ _ _ rfl _ _ rfl rfl ?_) | (with_reducible refine wl_len rfl _ _ rfl _ rfl ?_) | (with_reducible refine wl_range rfl _ _ rfl _ rfl ?_) | (with_reducible refine wl_next rfl _ rfl _ rfl ?_) | (with_reducible refine wl_copy rfl _ _ _ _ rfl _ _ rfl rfl ?_) | (with_reducible refine wl_max rfl _ _ _ _ rfl _ _ rfl rfl ?_) | (with_reducible refine wl_min rfl _ _ _ _ rfl _ _ rfl rfl ?_))
          go_roundw
          case rel => exact ⟨i + 1, F, by go_num, by omega, hE, hFs, hO, hk.drew, hsz⟩
          case measure => simp [intOf]; omega
        | succ j =>
          have hc1 := hO.cell (i := j) (by omega)
          rw [Sort.insInner] at hT
          have hless := less_any F[j + 1]! F[j]!
          have hsw : Nums ((wr.setCell ⟨g, j + 1, none⟩ (uv F[j]!)).setCell ⟨g, j, none⟩ (uv F[j + 1]!)) base g cap (Sort.swp F (j + 1) j) := (hO.set (j + 1) F[j]!).set j F[j + 1]!
          have hkw : Keep (fun j => j = g) w ((wr.setCell ⟨g, j + 1, none⟩ (uv F[j]!)).setCell ⟨g, j, none⟩ (uv F[j + 1]!)) := (hk.setCell (p := ⟨g, j + 1, none⟩) (fun _ => rfl) _).setCell (p := ⟨g, j, none⟩) (fun _ => rfl) _
          have hsz2 : ((wr.setCell ⟨g, j + 1, none⟩ (uv F[j]!)).setCell ⟨g, j, none⟩ (uv F[j + 1]!)).heap.size = w.heap.size := by simpa using hsz
          have hss := Sort.size_swp F (j + 1) j
          have hf0 := hO.frozen (j + 1)
          have hf1 := hO.frozen j
          simp only [gt_iff_lt, Nat.zero_lt_succ, decide_true, Bool.true_and] at hT
          have HT := Lib.hid hT
          clear hT
          unfold uv at hc0 hc1 hless hsw hkw hsz2
          generalize F[j + 1]! = x at *
          generalize F[j]! = y at *
          obtain ⟨k, hkj⟩ : ∃ k, k = j + 1 := ⟨_, rfl⟩
          rw [← hkj] at hc0 hf0 hjn hsw hkw hsz2 hss HT ⊢
          have hjz : decide ((0 : Int) < (k : Int)) = true := by simp; omega
          have hjn : decide (0 < k) = true := by simp; omega
          have hj1 : (k : Int) - 1 = (j : Int) := by omega
          have hjlt : (k : Int) < (n : Int) := by omega
          have hjl : (j : Int) < (n : Int) := by omega
          have hjb : (j : Int) < 9223372036854775808 := by omega
          have hwj : IntKind.i64.wrap (j : Int) = (j : Int) := by rw [IntKind.wrap_i64]; omega
          have hjw : IntKind.i64.wrap ((k : Int) - 1) = (j : Int) := by rw [hj1, IntKind.wrap_i64]; omega
          have hne : k ≠ j := by omega
          have hki : j ≤ i := by omega
          have HKJ := Lib.hid hkj
          have HO := Lib.hid hO
          have HK := Lib.hid hk
          clear hkj hO hk
          go_wp2_with (first | (at_builtin; refine wl_append rfl _ _ _ _ rfl _ _ rfl rfl ?_) | (at_make; refine wl_make rfl _ _ _ rfl _ _ rfl rfl ?_) | (at_mapUpdate; refine wl_mapUpdate rfl _ _ _ _ rfl _ _ _ rfl rfl rfl ?_) | (at_lookup; refine wl_lookup rfl _ _ _ _ rfl _ _ rfl rfl ?_) | (at_delete; refine wl_delete rfl _ _ _ _ rfl _ _ rfl rfl ?_) | (with_reducible refine wl_len rfl _ _ rfl _ rfl ?_) | (with_reducible refine wl_range rfl _ _ rfl _ rfl ?_) | (with_reducible refine wl_next rfl _ rfl _ rfl ?_) | (with_reducible refine wl_copy rfl _ _ _ _ rfl _ _ rfl rfl ?_) | (with_reducible refine wl_max rfl _ _ _ _ rfl _ _ rfl rfl ?_) | (with_reducible refine wl_min rfl _ _ _ _ rfl _ _ rfl rfl ?_))
          refine wp_region_sig (fun w' => w'.cell? ⟨g, k, none⟩ = some (.int .u64 (x : Int)) ∧ w'.cell? ⟨g, j, none⟩ = some (.int .u64 (y : Int))) (fun j => decide (j ≤ 99)) [(0, true), (1, true), (2, true), (3, true), (4, true), (5, true), (6, true), (7, true), (8, true), (9, true), (10, true), (11, true), (12, true), (13, false), (14, true)] (by kernel_rfl) (by kernel_rfl) (by intro c a d v w h; cases d <;> exact h) ⟨hc0, hc1⟩ ?_
          apply sig_still (o := ⟨some 16, _, _, _, _, _⟩) rfl rfl
          · intro w' hS
            obtain ⟨q1, q2⟩ := hS
            first | (go_simp; done) | (go_simp; rfl) | rfl
          go_frame
          apply sig_still (o := ⟨some 17, _, _, _, _, _⟩) rfl rfl
          · intro w' hS
            obtain ⟨q1, q2⟩ := hS
            first | (go_simp; done) | (go_simp; rfl) | rfl
          go_frame
          apply sig_still (o := ⟨some 18, _, _, _, _, _⟩) rfl rfl
          · intro w' hS
            obtain ⟨q1, q2⟩ := hS
            first | (go_simp; done) | (go_simp; rfl) | rfl
          go_frame
          apply sig_still (o := ⟨some 19, _, _, _, _, _⟩) rfl rfl
          · intro w' hS
            obtain ⟨q1, q2⟩ := hS
            first | (go_simp; done) | (go_simp; rfl) | rfl
          go_frame
          apply sig_guard (o := ⟨some 20, _, _, _, _, _⟩) rfl (by rfl)
          · intro w' hS
            obtain ⟨q1, q2⟩ := hS
            first | (go_simp; done) | (go_simp; rfl) | rfl
          go_frame
          apply sig_guard (o := ⟨some 21, _, _, _, _, _⟩) rfl (by rfl)
          · intro w' hS
            obtain ⟨q1, q2⟩ := hS
            first | (go_simp; done) | (go_simp; rfl) | rfl
          go_frame
          apply sig_guard (o := ⟨some 22, _, _, _, _, _⟩) rfl (by rfl)
          · intro w' hS
            obtain ⟨q1, q2⟩ := hS
            first | (go_simp; done) | (go_simp; rfl) | rfl
          go_frame
          apply sig_guard (o := ⟨some 23, _, _, _, _, _⟩) rfl (by rfl)
          · intro w' hS
            obtain ⟨q1, q2⟩ := hS
            first | (go_simp; done) | (go_simp; rfl) | rfl
          go_frame
          apply sig_guard (o := ⟨some 24, _, _, _, _, _⟩) rfl (by rfl)
          · intro w' hS
            obtain ⟨q1, q2⟩ := hS
            first | (go_simp; done) | (go_simp; rfl) | rfl
          go_frame
          apply sig_guard (o := ⟨some 25, _, _, _, _, _⟩) rfl (by rfl)
          · intro w' hS
            obtain ⟨q1, q2⟩ := hS
            first | (go_simp; done) | (go_simp; rfl) | rfl
          go_frame
          apply sig_guard (o := ⟨some 26, _, _, _, _, _⟩) rfl (by rfl)
          · intro w' hS
            obtain ⟨q1, q2⟩ := hS
            first | (go_simp; done) | (go_simp; rfl) | rfl
          go_frame
          apply sig_guard (o := ⟨some 27, _, _, _, _, _⟩) rfl (by rfl)
          · intro w' hS
            obtain ⟨q1, q2⟩ := hS
            first | (go_simp; done) | (go_simp; rfl) | rfl
          go_frame
          apply sig_guard (o := ⟨some 28, _, _, _, _, _⟩) rfl (by rfl)
          · intro w' hS
            obtain ⟨q1, q2⟩ := hS
            first | (go_simp; done) | (go_simp; rfl) | rfl
          go_frame
          refine sig_effg (o := ⟨some 29, _, _, _, _, _⟩) rfl (by rfl) (fun K hKe => ?_)
          go_wp2_with (first | (at_builtin; refine wl_append rfl _ _ _ _ rfl _ _ rfl rfl ?_) | (at_make; refine wl_make rfl _ _ _ rfl _ _ rfl rfl ?_) | (at_mapUpdate; refine wl_mapUpdate rfl _ _ _ _ rfl _ _ _ rfl rfl rfl ?_) | (at_lookup; refine wl_lookup rfl _ _ _ _ rfl _ _ rfl rfl ?_) | (at_delete; refine wl_delete rfl _ _ _ _ rfl _ _ rfl rfl ?_) | (with_reducible refine wl_len rfl _ _ rfl _ rfl ?_) | (with_reducible refine wl_range rfl _ _ rfl _ rfl ?_) | (with_reducible refine wl_next rfl _ rfl _ rfl ?_) | (with_reducible refine wl_copy rfl _ _ _ _ rfl _ _ rfl rfl ?_) | (with_reducible refine wl_max rfl _ _ _ _ rfl _ _ rfl rfl ?_) | (with_reducible refine wl_min rfl _ _ _ _ rfl _ _ rfl rfl ?_))
          refine (hless _).mono ?_
          rintro e X ⟨rfl, rfl⟩
          go_wp2_with (first | (at_builtin; refine wl_append rfl _ _ _ _ rfl _ _ rfl rfl ?_) | (at_make; refine wl_make rfl _ _ _ rfl _ _ rfl rfl ?_) | (at_mapUpdate; refine wl_mapUpdate rfl _ _ _ _ rfl _ _ _ rfl rfl rfl ?_) | (at_lookup; refine wl_lookup rfl _ _ _ _ rfl _ _ rfl rfl ?_) | (at_delete; refine wl_delete rfl _ _ _ _ rfl _ _ rfl rfl ?_) | (with_reducible refine wl_len rfl _ _ rfl _ rfl ?_) | (with_reducible refine wl_range rfl _ _ rfl _ rfl ?_) | (with_reducible refine wl_next rfl _ rfl _ rfl ?_) | (with_reducible refine wl_copy rfl _ _ _ _ rfl _ _ rfl rfl ?_) | (with_reducible refine wl_max rfl _ _ _ _ rfl _ _ rfl rfl ?_) | (with_reducible refine wl_min rfl _ _ _ _ rfl _ _ rfl rfl ?_))
          refine ⟨fun _ => ⟨hc0, hc1⟩, ?_⟩
          apply sig_still (o := ⟨some 30, _, _, _, _, _⟩) rfl rfl
          · intro w' hS
            obtain ⟨q1, q2⟩ := hS
            first | (go_simp; done) | (go_simp; rfl) | rfl
          go_frame
          refine sig_nil ?_
          cases hl : ltN x y with
          | false =>
            rw [hl] at HT
            have hT := HT.out
            simp only [Bool.false_eq_true, if_false] at hT
            subst hT
            go_wp2_with (first | (at_builtin; refine wl_append rfl _ _ _ _ rfl _ _ rfl rfl ?_) | (at_make; refine wl_make rfl _ _ _ rfl _ _ rfl rfl ?_) | (at_mapUpdate; refine wl_mapUpdate rfl _ _ _ _ rfl _ _ _ rfl rfl rfl ?_) | (at_lookup; refine wl_lookup rfl _ _ _ _ rfl _ _ rfl rfl ?_) | (at_delete; refine wl_delete rfl _ _ _ _ rfl _ _ rfl rfl ?_) | (with_reducible refine wl_len rfl _ _ rfl _ rfl ?_) | (with_reducible refine wl_range rfl _ _ rfl _ rfl ?_) | (with_reducible refine wl_next rfl _ rfl _ rfl ?_) | (with_reducible refine wl_copy rfl _ _ _ _ rfl _ _ rfl rfl ?_) | (with_reducible refine wl_max rfl _ _ _ _ rfl _ _ rfl rfl ?_) | (with_reducible refine wl_min rfl _ _ _ _ rfl _ _ rfl rfl ?_))
            go_roundw
            case rel => exact ⟨i + 1, F, by go_num, by omega, hE, hFs, HO.out, HK.out.drew, hsz⟩
            case measure => simp [intOf]; omega
          | true =>
            rw [hl, if_pos rfl] at HT
            go_wp2_with (first | (at_builtin; refine wl_append rfl _ _ _ _ rfl _ _ rfl rfl ?_) | (at_make; refine wl_make rfl _ _ _ rfl _ _ rfl rfl ?_) | (at_mapUpdate; refine wl_mapUpdate rfl _ _ _ _ rfl _ _ _ rfl rfl rfl ?_) | (at_lookup; refine wl_lookup rfl _ _ _ _ rfl _ _ rfl rfl ?_) | (at_delete; refine wl_delete rfl _ _ _ _ rfl _ _ rfl rfl ?_) | (with_reducible refine wl_len rfl _ _ rfl _ rfl ?_) | (with_reducible refine wl_range rfl _ _ rfl _ rfl ?_) | (with_reducible refine wl_next rfl _ rfl _ rfl ?_) | (with_reducible refine wl_copy rfl _ _ _ _ rfl _ _ rfl rfl ?_) | (with_reducible refine wl_max rfl _ _ _ _ rfl _ _ rfl rfl ?_) | (with_reducible refine wl_min rfl _ _ _ _ rfl _ _ rfl rfl ?_))
            refine wp_region_tree (fun _ => True) (fun j => decide (j ≤ 99)) (.st 0 (.st 1 (.st 2 (.st 3 (.st 4 (.st 5 (.st 6 (.st 7 (.st 8 (.st 10 (.st 11 (.st 12 (.br 9 13 (.ef 13 (.st 14 (.ef 15 (.st 16 (.ef 17 .nil))))) (.ef 9 (.st 14 (.ef 15 (.st 16 (.ef 17 .nil)))))))))))))))))) (by kernel_rfl) (by kernel_rfl) (by intro c a d v w h; cases d <;> exact h) trivial ?_
            apply tr_still (o := ⟨some 33, _, _, _, _, _⟩) rfl rfl
            · intro w' hS
              first | (go_simp; done) | (go_simp; rfl) | rfl
            go_frame
            apply tr_still (o := ⟨some 34, _, _, _, _, _⟩) rfl rfl
            · intro w' hS
              first | (go_simp; done) | (go_simp; rfl) | rfl
            go_frame
            apply tr_still (o := ⟨some 35, _, _, _, _, _⟩) rfl rfl
            · intro w' hS
              first | (go_simp; done) | (go_simp; rfl) | rfl
            go_frame
            apply tr_still (o := ⟨some 36, _, _, _, _, _⟩) rfl rfl
            · intro w' hS
              first | (go_simp; done) | (go_simp; rfl) | rfl
            go_frame
            apply tr_still (o := ⟨some 37, _, _, _, _, _⟩) rfl rfl
            · intro w' hS
              first | (go_simp; done) | (go_simp; rfl) | rfl
            go_frame
            apply tr_still (o := ⟨some 38, _, _, _, _, _⟩) rfl rfl
            · intro w' hS
              first | (go_simp; done) | (go_simp; rfl) | rfl
            go_frame
            apply tr_still (o := ⟨some 39, _, _, _, _, _⟩) rfl rfl
            · intro w' hS
              first | (go_simp; done) | (go_simp; rfl) | rfl
            go_frame
            apply tr_still (o := ⟨some 40, _, _, _, _, _⟩) rfl rfl
            · intro w' hS
              first | (go_simp; done) | (go_simp; rfl) | rfl
            go_frame
            apply tr_still (o := ⟨some 41, _, _, _, _, _⟩) rfl rfl
            · intro w' hS
              first | (go_simp; done) | (go_simp; rfl) | rfl
            go_frame
            apply tr_still (o := ⟨some 43, _, _, _, _, _⟩) rfl rfl
            · intro w' hS
              first | (go_simp; done) | (go_simp; rfl) | rfl
            go_frame
            apply tr_still (o := ⟨some 44, _, _, _, _, _⟩) rfl rfl
            · intro w' hS
              first | (go_simp; done) | (go_simp; rfl) | rfl
            go_frame
            apply tr_still (o := ⟨some 45, _, _, _, _, _⟩) rfl rfl
            · intro w' hS
              first | (go_simp; done) | (go_simp; rfl) | rfl
            go_frame
            refine tr_br (o := ⟨some 42, _, _, _, _, _⟩) (o' := ⟨some 46, _, _, _, _, _⟩) rfl rfl rfl rfl (fun K hKe => ?_) (fun K hKe => ?_)
            · go_wp2_with (first | (at_builtin; refine wl_append rfl _ _ _ _ rfl _ _ rfl rfl ?_) | (at_make; refine wl_make rfl _ _ _ rfl _ _ rfl rfl ?_) | (at_mapUpdate; refine wl_mapUpdate rfl _ _ _ _ rfl _ _ _ rfl rfl rfl ?_) | (at_lookup; refine wl_lookup rfl _ _ _ _ rfl _ _ rfl rfl ?_) | (at_delete; refine wl_delete rfl _ _ _ _ rfl _ _ rfl rfl ?_) | (with_reducible refine wl_len rfl _ _ rfl _ rfl ?_) | (with_reducible refine wl_range rfl _ _ rfl _ rfl ?_) | (with_reducible refine wl_next rfl _ rfl _ rfl ?_) | (with_reducible refine wl_copy rfl _ _ _ _ rfl _ _ rfl rfl ?_) | (with_reducible refine wl_max rfl _ _ _ _ rfl _ _ rfl rfl ?_) | (with_reducible refine wl_min rfl _ _ _ _ rfl _ _ rfl rfl ?_))
              refine ⟨fun _ => trivial, ?_⟩
              refine tr_eff (o := ⟨some 46, _, _, _, _, _⟩) rfl rfl (fun K hKe => ?_)
              go_wp2_with (first | (at_builtin; refine wl_append rfl _ _ _ _ rfl _ _ rfl rfl ?_) | (at_make; refine wl_make rfl _ _ _ rfl _ _ rfl rfl ?_) | (at_mapUpdate; refine wl_mapUpdate rfl _ _ _ _ rfl _ _ _ rfl rfl rfl ?_) | (at_lookup; refine wl_lookup rfl _ _ _ _ rfl _ _ rfl rfl ?_) | (at_delete; refine wl_delete rfl _ _ _ _ rfl _ _ rfl rfl ?_) | (with_reducible refine wl_len rfl _ _ rfl _ rfl ?_) | (with_reducible refine wl_range rfl _ _ rfl _ rfl ?_) | (with_reducible refine wl_next rfl _ rfl _ rfl ?_) | (with_reducible refine wl_copy rfl _ _ _ _ rfl _ _ rfl rfl ?_) | (with_reducible refine wl_max rfl _ _ _ _ rfl _ _ rfl rfl ?_) | (with_reducible refine wl_min rfl _ _ _ _ rfl _ _ rfl rfl ?_))
              refine ⟨fun _ => trivial, ?_⟩
              apply tr_still (o := ⟨some 47, _, _, _, _, _⟩) rfl rfl
              · intro w' hS
                first | (go_simp; done) | (go_simp; rfl) | rfl
              go_frame
              refine tr_eff (o := ⟨none, _, _, _, _, _⟩) rfl rfl (fun K hKe => ?_)
              go_wp2_with (first | (at_builtin; refine wl_append rfl _ _ _ _ rfl _ _ rfl rfl ?_) | (at_make; refine wl_make rfl _ _ _ rfl _ _ rfl rfl ?_) | (at_mapUpdate; refine wl_mapUpdate rfl _ _ _ _ rfl _ _ _ rfl rfl rfl ?_) | (at_lookup; refine wl_lookup rfl _ _ _ _ rfl _ _ rfl rfl ?_) | (at_delete; refine wl_delete rfl _ _ _ _ rfl _ _ rfl rfl ?_) | (with_reducible refine wl_len rfl _ _ rfl _ rfl ?_) | (with_reducible refine wl_range rfl _ _ rfl _ rfl ?_) | (with_reducible refine wl_next rfl _ rfl _ rfl ?_) | (with_reducible refine wl_copy rfl _ _ _ _ rfl _ _ rfl rfl ?_) | (with_reducible refine wl_max rfl _ _ _ _ rfl _ _ rfl rfl ?_) | (with_reducible refine wl_min rfl _ _ _ _ rfl _ _ rfl rfl ?_))
              refine ⟨fun _ => trivial, ?_⟩
              apply tr_still (o := ⟨some 48, _, _, _, _, _⟩) rfl rfl
              · intro w' hS
                first | (go_simp; done) | (go_simp; rfl) | rfl
              go_frame
              have hc1' : (wr.setCell ⟨g, k, none⟩ (.int .u64 (y : Int))).cell? ⟨g, j, none⟩ = some (.int .u64 (y : Int)) := (World.cell?_setCell_other wr ⟨g, k, none⟩ ⟨g, j, none⟩ _ (fun e => hne (congrArg Addr.off e))).trans hc1
              refine tr_eff (o := ⟨none, _, _, _, _, _⟩) rfl rfl (fun K hKe => ?_)
              go_wp2_with (first | (at_builtin; refine wl_append rfl _ _ _ _ rfl _ _ rfl rfl ?_) | (at_make; refine wl_make rfl _ _ _ rfl _ _ rfl rfl ?_) | (at_mapUpdate; refine wl_mapUpdate rfl _ _ _ _ rfl _ _ _ rfl rfl rfl ?_) | (at_lookup; refine wl_lookup rfl _ _ _ _ rfl _ _ rfl rfl ?_) | (at_delete; refine wl_delete rfl _ _ _ _ rfl _ _ rfl rfl ?_) | (with_reducible refine wl_len rfl _ _ rfl _ rfl ?_) | (with_reducible refine wl_range rfl _ _ rfl _ rfl ?_) | (with_reducible refine wl_next rfl _ rfl _ rfl ?_) | (with_reducible refine wl_copy rfl _ _ _ _ rfl _ _ rfl rfl ?_) | (with_reducible refine wl_max rfl _ _ _ _ rfl _ _ rfl rfl ?_) | (with_reducible refine wl_min rfl _ _ _ _ rfl _ _ rfl rfl ?_))
              refine ⟨fun _ => trivial, tr_nil ?_⟩
              go_wp2_with (first | (at_builtin; refine wl_append rfl _ _ _ _ rfl _ _ rfl rfl ?_) | (at_make; refine wl_make rfl _ _ _ rfl _ _ rfl rfl ?_) | (at_mapUpdate; refine wl_mapUpdate rfl _ _ _ _ rfl _ _ _ rfl rfl rfl ?_) | (at_lookup; refine wl_lookup rfl _ _ _ _ rfl _ _ rfl rfl ?_) | (at_delete; refine wl_delete rfl _ _ _ _ rfl _ _ rfl rfl ?_) | (with_reducible refine wl_len rfl _ _ rfl _ rfl ?_) | (with_reducible refine wl_range rfl _ _ rfl _ rfl ?_) | (with_reducible refine wl_next rfl _ rfl _ rfl ?_) | (with_reducible refine wl_copy rfl _ _ _ _ rfl _ _ rfl rfl ?_) | (with_reducible refine wl_max rfl _ _ _ _ rfl _ _ rfl rfl ?_) | (with_reducible refine wl_min rfl _ _ _ _ rfl _ _ rfl rfl ?_))
              go_roundw
              case rel => exact ⟨j, _, by go_num, hki, HT.out, hss.trans hFs, hsw, hkw.drew.drew, hsz2⟩
              case measure => simp [intOf]; omega
            · go_wp2_with (first | (at_builtin; refine wl_append rfl _ _ _ _ rfl _ _ rfl rfl ?_) | (at_make; refine wl_make rfl _ _ _ rfl _ _ rfl rfl ?_) | (at_mapUpdate; refine wl_mapUpdate rfl _ _ _ _ rfl _ _ _ rfl rfl rfl ?_) | (at_lookup; refine wl_lookup rfl _ _ _ _ rfl _ _ rfl rfl ?_) | (at_delete; refine wl_delete rfl _ _ _ _ rfl _ _ rfl rfl ?_) | (with_reducible refine wl_len rfl _ _ rfl _ rfl ?_) | (with_reducible refine wl_range rfl _ _ rfl _ rfl ?_) | (with_reducible refine wl_next rfl _ rfl _ rfl ?_) | (with_reducible refine wl_copy rfl _ _ _ _ rfl _ _ rfl rfl ?_) | (with_reducible refine wl_max rfl _ _ _ _ rfl _ _ rfl rfl ?_) | (with_reducible refine wl_min rfl _ _ _ _ rfl _ _ rfl rfl ?_))
              refine ⟨fun _ => trivial, ?_⟩
              refine tr_eff (o := ⟨some 42, _, _, _, _, _⟩) rfl rfl (fun K hKe => ?_)
              go_wp2_with (first | (at_builtin; refine wl_append rfl _ _ _ _ rfl _ _ rfl rfl ?_) | (at_make; refine wl_make rfl _ _ _ rfl _ _ rfl rfl ?_) | (at_mapUpdate; refine wl_mapUpdate rfl _ _ _ _ rfl _ _ _ rfl rfl rfl ?_) | (at_lookup; refine wl_lookup rfl _ _ _ _ rfl _ _ rfl rfl ?_) | (at_delete; refine wl_delete rfl _ _ _ _ rfl _ _ rfl rfl ?_) | (with_reducible refine wl_len rfl _ _ rfl _ rfl ?_) | (with_reducible refine wl_range rfl _ _ rfl _ rfl ?_) | (with_reducible refine wl_next rfl _ rfl _ rfl ?_) | (with_reducible refine wl_copy rfl _ _ _ _ rfl _ _ rfl rfl ?_) | (with_reducible refine wl_max rfl _ _ _ _ rfl _ _ rfl rfl ?_) | (with_reducible refine wl_min rfl _ _ _ _ rfl _ _ rfl rfl ?_))
              refine ⟨fun _ => trivial, ?_⟩
              apply tr_still (o := ⟨some 47, _, _, _, _, _⟩) rfl rfl
              · intro w' hS
                first | (go_simp; done) | (go_simp; rfl) | rfl
              go_frame
              refine tr_eff (o := ⟨none, _, _, _, _, _⟩) rfl rfl (fun K hKe => ?_)
              go_wp2_with (first | (at_builtin; refine wl_append rfl _ _ _ _ rfl _ _ rfl rfl ?_) | (at_make; refine wl_make rfl _ _ _ rfl _ _ rfl rfl ?_) | (at_mapUpdate; refine wl_mapUpdate rfl _ _ _ _ rfl _ _ _ rfl rfl rfl ?_) | (at_lookup; refine wl_lookup rfl _ _ _ _ rfl _ _ rfl rfl ?_) | (at_delete; refine wl_delete rfl _ _ _ _ rfl _ _ rfl rfl ?_) | (with_reducible refine wl_len rfl _ _ rfl _ rfl ?_) | (with_reducible refine wl_range rfl _ _ rfl _ rfl ?_) | (with_reducible refine wl_next rfl _ rfl _ rfl ?_) | (with_reducible refine wl_copy rfl _ _ _ _ rfl _ _ rfl rfl ?_) | (with_reducible refine wl_max rfl _ _ _ _ rfl _ _ rfl rfl ?_) | (with_reducible refine wl_min rfl _ _ _ _ rfl _ _ rfl rfl ?_))
              refine ⟨fun _ => trivial, ?_⟩
              apply tr_still (o := ⟨some 48, _, _, _, _, _⟩) rfl rfl
              · intro w' hS
                first | (go_simp; done) | (go_simp; rfl) | rfl
              go_frame
              have hc1' : (wr.setCell ⟨g, k, none⟩ (.int .u64 (y : Int))).cell? ⟨g, j, none⟩ = some (.int .u64 (y : Int)) := (World.cell?_setCell_other wr ⟨g, k, none⟩ ⟨g, j, none⟩ _ (fun e => hne (congrArg Addr.off e))).trans hc1
              refine tr_eff (o := ⟨none, _, _, _, _, _⟩) rfl rfl (fun K hKe => ?_)
              go_wp2_with (first | (at_builtin; refine wl_append rfl _ _ _ _ rfl _ _ rfl rfl ?_) | (at_make; refine wl_make rfl _ _ _ rfl _ _ rfl rfl ?_) | (at_mapUpdate; refine wl_mapUpdate rfl _ _ _ _ rfl _ _ _ rfl rfl rfl ?_) | (at_lookup; refine wl_lookup rfl _ _ _ _ rfl _ _ rfl rfl ?_) | (at_delete; refine wl_delete rfl _ _ _ _ rfl _ _ rfl rfl ?_) | (with_reducible refine wl_len rfl _ _ rfl _ rfl ?_) | (with_reducible refine wl_range rfl _ _ rfl _ rfl ?_) | (with_reducible refine wl_next rfl _ rfl _ rfl ?_) | (with_reducible refine wl_copy rfl _ _ _ _ rfl _ _ rfl rfl ?_) | (with_reducible refine wl_max rfl _ _ _ _ rfl _ _ rfl rfl ?_) | (with_reducible refine wl_min rfl _ _ _ _ rfl _ _ rfl rfl ?_))
              refine ⟨fun _ => trivial, tr_nil ?_⟩
              go_wp2_with (first | (at_builtin; refine wl_append rfl _ _ _ _ rfl _ _ rfl rfl ?_) | (at_make; refine wl_make rfl _ _ _ rfl _ _ rfl rfl ?_) | (at_mapUpdate; refine wl_mapUpdate rfl _ _ _ _ rfl _ _ _ rfl rfl rfl ?_) | (at_lookup; refine wl_lookup rfl _ _ _ _ rfl _ _ rfl rfl ?_) | (at_delete; refine wl_delete rfl _ _ _ _ rfl _ _ rfl rfl ?_) | (with_reducible refine wl_len rfl _ _ rfl _ rfl ?_) | (with_reducible refine wl_range rfl _ _ rfl _ rfl ?_) | (with_reducible refine wl_next rfl _ rfl _ rfl ?_) | (with_reducible refine wl_copy rfl _ _ _ _ rfl _ _ rfl rfl ?_) | (with_reducible refine wl_max rfl _ _ _ _ rfl _ _ rfl rfl ?_) | (with_reducible refine wl_min rfl _ _ _ _ rfl _ _ rfl rfl ?_))
              go_roundw
              case rel => exact ⟨j, _, by go_num, hki, HT.out, hss.trans hFs, hsw, hkw.drew.drew, hsz2⟩
              case measure => simp [intOf]; omega
    · rw [if_neg (by omega)] at hE
      subst hE
      have hiz : (n : Int) ≤ (i : Int) := by omega
      go_wp2_with (first | (at_builtin; refine wl_append rfl _ _ _ _ rfl _ _ rfl rfl ?_) | (at_make; refine wl_make rfl _ _ _ rfl _ _ rfl rfl ?_) | (at_mapUpdate; refine wl_mapUpdate rfl _ _ _ _ rfl _ _ _ rfl rfl rfl ?_) | (at_lookup; refine wl_lookup rfl _ _ _ _ rfl _ _ rfl rfl ?_) | (at_delete; refine wl_delete rfl _ _ _ _ rfl _ _ rfl rfl ?_) | (with_reducible refine wl_len rfl _ _ rfl _ rfl ?_) | (with_reducible refine wl_range rfl _ _ rfl _ rfl ?_) | (with_reducible refine wl_next rfl _ rfl _ rfl ?_) | (with_reducible refine wl_copy rfl _ _ _ _ rfl _ _ rfl rfl ?_) | (with_reducible refine wl_max rfl _ _ _ _ rfl _ _ rfl rfl ?_) | (with_reducible refine wl_min rfl _ _ _ _ rfl _ _ rfl rfl ?_))
      go_end0
      exact ⟨rfl, hO, hk, hsz⟩
end
end Go.Proofs.Ytaoillfofiehpaa
namespace Go.Proofs.Ytaoillfofiehpaa
open Go.RowKit Go.Dm Go.Dm.Vm Go.Maps Go.Dm.Oc Go.WideMaps Go.WideElems

theorem pgC_one (p : Pg) : (pgC p).all (·.oneCell') = true := by
  unfold pgC
  rw [List.all_toArray]
  simp [Value.oneCell', bv]
theorem srt_eq : ∀ {m t : V}, m.Pairwise (fun p q => p.addr < q.addr) → t.Pairwise (fun p q => p.addr < q.addr) → m.Perm t → m = t
  | [], t, _, _, h => h.nil_eq
  | p :: r, [], _, _, h => absurd h.length_eq (by simp)
  | p :: r, q :: t, h1, h2, h => by
    rw [List.pairwise_cons] at h1 h2
    by_cases e : p = q
    · subst e
      rw [srt_eq h1.2 h2.2 h.cons_inv]
    · have hp : p ∈ t := (List.mem_cons.1 (h.mem_iff.1 (List.mem_cons_self ..))).resolve_left e
      have hq : q ∈ r := (List.mem_cons.1 (h.mem_iff.2 (List.mem_cons_self ..))).resolve_left fun e2 => e e2.symm
      have := h1.1 q hq
      have := h2.1 p hp
      omega
theorem delP_perm {T : V} (hT : T.Pairwise (fun p q => p.addr ≠ q.addr)) {p : Pg} (hp : p ∈ T) : T.Perm (p :: delP T p.addr) := by
  induction T with
  | nil => cases hp
  | cons q r ih =>
    rw [List.pairwise_cons] at hT
    by_cases e : q.addr = p.addr
    · have eq : q = p := by
        rcases List.mem_cons.1 hp with h | h
        · exact h.symm
        · exact absurd e (hT.1 p h)
      subst eq
      have hd : delP (q :: r) q.addr = r := by
        unfold delP
        rw [List.filter_cons_of_neg (by simp), List.filter_eq_self]
        intro x hx
        simpa using fun e => hT.1 x hx e.symm
      rw [hd]
    · have hpr : p ∈ r := (List.mem_cons.1 hp).resolve_left fun e2 => e (by rw [e2])
      have hd : delP (q :: r) p.addr = q :: delP r p.addr := by
        unfold delP
        rw [List.filter_cons_of_pos (by simpa using e)]
      rw [hd]
      exact ((ih hT.2 hpr).cons q).trans (List.Perm.swap p q _)
theorem rangeLeft_same {w w' : World} {b r : Nat} (eb : w'.heap[b]? = w.heap[b]?) (er : w'.heap[r]? = w.heap[r]?) : w'.rangeLeft b r = w.rangeLeft b r := by
  unfold World.rangeLeft
  rw [eb, er]
section
variable {A : Nat → Prop} {w : World} {d mb x y z u v : Nat} {f : Nat → Nat} {m : V}
set_option maxRecDepth 100000 in
set_option maxHeartbeats 4000000 in
theorem vcopy_any (h : SRep A w d m mb f) (hA : ∀ k, A k → k < w.heap.size) :
    Calls Try.prog 23 #[ptrTo d] w fun e w' => ∃ d' mb' f', e = .returned (ptrTo d') ∧ SRep (fun k => w.heap.size ≤ k ∧ k < w'.heap.size) w' d' m mb' f' ∧ Keep No w w' := by
  unfold ptrTo
  go_enter Try.func23, Try.ntmps23
  go_wp2_with (first | (at_builtin; refine wl_append rfl _ _ _ _ rfl _ _ rfl rfl ?_) | (at_make; refine wl_make rfl _ _ _ rfl _ _ rfl rfl ?_) | (at_mapUpdate; refine wl_mapUpdate rfl _ _ _ _ rfl _ _ _ rfl rfl rfl ?_) | (at_lookup; refine wl_lookup rfl _ _ _ _ rfl _ _ rfl rfl ?_) | (at_delete; refine wl_delete rfl _ _ _ _ rfl _ _ rfl rfl ?_) | (with_reducible refine wl_len rfl _ _ rfl _ rfl ?_) | (with_reducible refine wl_range rfl _ _ rfl _ rfl ?_) | (with_reducible refine wl_next rfl _ rfl _ rfl ?_) | (with_reducible refine wl_copy rfl _ _ _ _ rfl _ _ rfl rfl ?_) | (with_reducible refine wl_max rfl _ _ _ _ rfl _ _ rfl rfl ?_) | (with_reducible refine wl_min rfl _ _ _ _ rfl _ _ rfl rfl ?_))
  refine (vnew_any _).mono ?_
  rintro e W ⟨mb', d', f0, rfl, hN, hk0⟩
  have h' := h.no hA hk0
  have qd : W.cell? ⟨d, 0, none⟩ = some (.map (some mb)) := h'.blk.cell 0
  unfold ptrTo
  go_wp2_with (first | (at_builtin; refine wl_append rfl _ _ _ _ rfl _ _ rfl rfl ?_) | (at_make; refine wl_make rfl _ _ _ rfl _ _ rfl rfl ?_) | (at_mapUpdate; refine wl_mapUpdate rfl _ _ _ _ rfl _ _ _ rfl rfl rfl ?_) | (at_lookup; refine wl_lookup rfl _ _ _ _ rfl _ _ rfl rfl ?_) | (at_delete; refine wl_delete rfl _ _ _ _ rfl _ _ rfl rfl ?_) | (with_reducible refine wl_len rfl _ _ rfl _ rfl ?_) | (with_reducible refine wl_range rfl _ _ rfl _ rfl ?_) | (with_reducible refine wl_next rfl _ rfl _ rfl ?_) | (with_reducible refine wl_copy rfl _ _ _ _ rfl _ _ rfl rfl ?_) | (with_reducible refine wl_max rfl _ _ _ _ rfl _ _ rfl rfl ?_) | (with_reducible refine wl_min rfl _ _ _ _ rfl _ _ rfl rfl ?_))
  refine rg_range h'.mp kU64 Try.underlying68 ?_
  intro W1 hr hk1 hs1
  have hAd : w.heap.size ≤ d' := hN.Ad.1
  have HS1 := Lib.hid hs1
  clear hs1
  go_wp2_with (first | (at_builtin; refine wl_append rfl _ _ _ _ rfl _ _ rfl rfl ?_) | (at_make; refine wl_make rfl _ _ _ rfl _ _ rfl rfl ?_) | (at_mapUpdate; refine wl_mapUpdate rfl _ _ _ _ rfl _ _ _ rfl rfl rfl ?_) | (at_lookup; refine wl_lookup rfl _ _ _ _ rfl _ _ rfl rfl ?_) | (at_delete; refine wl_delete rfl _ _ _ _ rfl _ _ rfl rfl ?_) | (with_reducible refine wl_len rfl _ _ rfl _ rfl ?_) | (with_reducible refine wl_range rfl _ _ rfl _ rfl ?_) | (with_reducible refine wl_next rfl _ rfl _ rfl ?_) | (with_reducible refine wl_copy rfl _ _ _ _ rfl _ _ rfl rfl ?_) | (with_reducible refine wl_max rfl _ _ _ _ rfl _ _ rfl rfl ?_) | (with_reducible refine wl_min rfl _ _ _ _ rfl _ _ rfl rfl ?_))
  go_loopw [] (fun wr => ∃ T m' f', RangeL Try.prog 24 wr mb W.heap.size (VL f m) (VL f T) ∧ (∀ p ∈ T, p ∈ m) ∧ T.Pairwise (fun p q => p.addr ≠ q.addr) ∧ SRep (fun k => w.heap.size ≤ k ∧ k < wr.heap.size ∧ k ≠ W.heap.size) wr d' m' mb' f' ∧ (m' ++ T).Perm m ∧ Keep No w wr ∧ W.heap.size < wr.heap.size) (fun wr => wr.rangeLeft mb W.heap.size)
  case atStart =>
    refine ⟨m, [], f0, hr, fun _ h => h, h.ok.srt.imp fun h => Nat.ne_of_lt h, ?_, List.Perm.refl _, hk0.trans' hk1, by rw [HS1.out]; omega⟩
    exact (hN.no (fun k hk => hk.2) hk1).mono fun k hk ha => ⟨ha.1, hk, Nat.ne_of_lt ha.2⟩
  case round =>
    clear hr hk1 HS1 hN
    obtain ⟨T, m', f', hr, hsub, hT, hN, hperm, hk, hWl⟩ := hrel
    go_wp2_with (first | (at_builtin; refine wl_append rfl _ _ _ _ rfl _ _ rfl rfl ?_) | (at_make; refine wl_make rfl _ _ _ rfl _ _ rfl rfl ?_) | (at_mapUpdate; refine wl_mapUpdate rfl _ _ _ _ rfl _ _ _ rfl rfl rfl ?_) | (at_lookup; refine wl_lookup rfl _ _ _ _ rfl _ _ rfl rfl ?_) | (at_delete; refine wl_delete rfl _ _ _ _ rfl _ _ rfl rfl ?_) | (with_reducible refine wl_len rfl _ _ rfl _ rfl ?_) | (with_reducible refine wl_range rfl _ _ rfl _ rfl ?_) | (with_reducible refine wl_next rfl _ rfl _ rfl ?_) | (with_reducible refine wl_copy rfl _ _ _ _ rfl _ _ rfl rfl ?_) | (with_reducible refine wl_max rfl _ _ _ _ rfl _ _ rfl rfl ?_) | (with_reducible refine wl_min rfl _ _ _ _ rfl _ _ rfl rfl ?_))
    refine rg_next hr kU64 ?_ ?_
    · intro e0
      have e1 : T = [] := by simpa [VL] using e0
      subst e1
      go_wp2_with (first | (at_builtin; refine wl_append rfl _ _ _ _ rfl _ _ rfl rfl ?_) | (at_make; refine wl_make rfl _ _ _ rfl _ _ rfl rfl ?_) | (at_mapUpdate; refine wl_mapUpdate rfl _ _ _ _ rfl _ _ _ rfl rfl rfl ?_) | (at_lookup; refine wl_lookup rfl _ _ _ _ rfl _ _ rfl rfl ?_) | (at_delete; refine wl_delete rfl _ _ _ _ rfl _ _ rfl rfl ?_) | (with_reducible refine wl_len rfl _ _ rfl _ rfl ?_) | (with_reducible refine wl_range rfl _ _ rfl _ rfl ?_) | (with_reducible refine wl_next rfl _ rfl _ rfl ?_) | (with_reducible refine wl_copy rfl _ _ _ _ rfl _ _ rfl rfl ?_) | (with_reducible refine wl_max rfl _ _ _ _ rfl _ _ rfl rfl ?_) | (with_reducible refine wl_min rfl _ _ _ _ rfl _ _ rfl rfl ?_))
      go_ret
      rw [List.append_nil] at hperm
      have hmm : m' = m := srt_eq hN.ok.srt h.ok.srt hperm
      subst hmm
      exact ⟨d', mb', f', rfl, hN.mono fun k hk ha => ⟨ha.1, hk⟩, hk⟩
    · intro key v kl w' hkey hmem hr' hlt hk' hs hen
      obtain ⟨p, hpT, rfl, rfl⟩ := mem_VL hmem
      obtain rfl := key_u64 hkey
      rw [eraseL_VL] at hr'
      have hkw' : Keep No w w' := hk.trans hk' (fun j hj e => by have e2 : j = W.heap.size := e; have := hk0.size; omega)
      have hpm := hsub p hpT
      have hB : Blk w' (f p.addr) (pgC p) 67 := (h.pg p hpm).2.keep hkw' fun h => h
      have hpok := h.ok.pg p hpm
      have hsz := pgC_size hpok.bl
      have h1 := pgC_one p
      have hN2 : SRep (fun k => w.heap.size ≤ k ∧ k < w'.heap.size ∧ k ≠ W.heap.size) w' d' m' mb' f' := (hN.keep hk' (fun k ha e => ha.2.2 e) fun k ha => ha.2.1).mono fun k hk ha => ⟨ha.1, hk, ha.2.2⟩
      have hpw : (m' ++ T).Pairwise (fun p q => p.addr ≠ q.addr) := (hperm.pairwise_iff fun h e => h e.symm).2 (h.ok.srt.imp fun h => Nat.ne_of_lt h)
      have hfree : ∀ q ∈ m', q.addr ≠ p.addr := fun q hq => (List.pairwise_append.1 hpw).2.2 q hq p hpT
      have hlen := hperm.length_eq
      rw [List.length_append] at hlen
      have hTl : 0 < T.length := List.length_pos_of_mem hpT
      have hml := h.ok.len
      have hl512 : m'.length < 512 := by omega
      have hTp := delP_perm hT hpT
      have hperm2 : (insP p m' ++ delP T p.addr).Perm m := by
        refine List.Perm.trans ?_ hperm
        refine ((insP_perm p m').append_right _).trans ?_
        refine List.Perm.trans ?_ (hTp.symm.append_left m')
        exact List.perm_middle.symm
      have hT2 : (delP T p.addr).Pairwise (fun p q => p.addr ≠ q.addr) := hT.filter _
      have hsub2 : ∀ q ∈ delP T p.addr, q ∈ m := fun q hq => hsub q (delP_sub hq)
      have hmb' := hN.Am
      have hWl2 : W.heap.size < w'.heap.size := by rw [hs]; exact hWl
      clear hperm hTp hpw hlen hTl hsub hT hml hN hs
      unfold ptrTo at hen
      generalize hC : pgC p = C at *
      have HC := Lib.hid hC
      clear hC
      have HO := Lib.hid hpok
      clear hpok
      generalize f p.addr = g at *
      have hi : (Try.prog.info? 67).map (·.size) = some C.size := by rw [hsz]; kernel_rfl
      have hz0 : Try.zeroCells67.size = C.size := by rw [hsz]; kernel_rfl
      go_wp2_with (first | (at_builtin; refine wl_append rfl _ _ _ _ rfl _ _ rfl rfl ?_) | (at_make; refine wl_make rfl _ _ _ rfl _ _ rfl rfl ?_) | (at_mapUpdate; refine wl_mapUpdate rfl _ _ _ _ rfl _ _ _ rfl rfl rfl ?_) | (at_lookup; refine wl_lookup rfl _ _ _ _ rfl _ _ rfl rfl ?_) | (at_delete; refine wl_delete rfl _ _ _ _ rfl _ _ rfl rfl ?_) | (with_reducible refine wl_len rfl _ _ rfl _ rfl ?_) | (with_reducible refine wl_range rfl _ _ rfl _ rfl ?_) | (with_reducible refine wl_next rfl _ rfl _ rfl ?_) | (with_reducible refine wl_copy rfl _ _ _ _ rfl _ _ rfl rfl ?_) | (with_reducible refine wl_max rfl _ _ _ _ rfl _ _ rfl rfl ?_) | (with_reducible refine wl_min rfl _ _ _ _ rfl _ _ rfl rfl ?_) | (with_reducible refine wl_stAgg rfl _ _ _ rfl _ _ rfl rfl ?_) | (with_reducible refine wl_ld rfl _ 67 rfl _ rfl ?_))
      refine rg_ld hB Try.underlying67 rfl hi ?_
      go_wp2_with (first | (at_builtin; refine wl_append rfl _ _ _ _ rfl _ _ rfl rfl ?_) | (at_make; refine wl_make rfl _ _ _ rfl _ _ rfl rfl ?_) | (at_mapUpdate; refine wl_mapUpdate rfl _ _ _ _ rfl _ _ _ rfl rfl rfl ?_) | (at_lookup; refine wl_lookup rfl _ _ _ _ rfl _ _ rfl rfl ?_) | (at_delete; refine wl_delete rfl _ _ _ _ rfl _ _ rfl rfl ?_) | (with_reducible refine wl_len rfl _ _ rfl _ rfl ?_) | (with_reducible refine wl_range rfl _ _ rfl _ rfl ?_) | (with_reducible refine wl_next rfl _ rfl _ rfl ?_) | (with_reducible refine wl_copy rfl _ _ _ _ rfl _ _ rfl rfl ?_) | (with_reducible refine wl_max rfl _ _ _ _ rfl _ _ rfl rfl ?_) | (with_reducible refine wl_min rfl _ _ _ _ rfl _ _ rfl rfl ?_) | (with_reducible refine wl_stAgg rfl _ _ _ rfl _ _ rfl rfl ?_) | (with_reducible refine wl_ld rfl _ 67 rfl _ rfl ?_))
      refine rg_stAgg (Blk.new w' _ _) hi hz0 h1 ?_
      intro w2 hb2 hk2 hs2
      have hka : Keep No w' (w'.alloc (.cells Try.zeroCells67 67)) := (Keep.refl _ _).alloc _
      have hk2' : Keep No w' w2 := hka.trans hk2 fun j hj e => by have e2 : j = w'.heap.size := e; omega
      have hN3 := hN2.no (fun k hk => hk.2.1) hk2'
      have qd' : w2.cell? ⟨d', 0, none⟩ = some (.map (some mb')) := hN3.blk.cell 0
      have hr2 := hr'.keep hk2' (fun h => h) fun h => h
      have hkw2 := hkw'.trans' hk2'
      have hlt2 : w2.rangeLeft mb W.heap.size < wr.rangeLeft mb W.heap.size := by
        rw [rangeLeft_same (w := w') (hk2'.block _ hr'.map.lt fun h => h) (hk2'.block _ hr'.lt fun h => h)]
        exact hlt
      clear hk2 hs2 hka
      go_wp2_with (first | (at_builtin; refine wl_append rfl _ _ _ _ rfl _ _ rfl rfl ?_) | (at_make; refine wl_make rfl _ _ _ rfl _ _ rfl rfl ?_) | (at_mapUpdate; refine wl_mapUpdate rfl _ _ _ _ rfl _ _ _ rfl rfl rfl ?_) | (at_lookup; refine wl_lookup rfl _ _ _ _ rfl _ _ rfl rfl ?_) | (at_delete; refine wl_delete rfl _ _ _ _ rfl _ _ rfl rfl ?_) | (with_reducible refine wl_len rfl _ _ rfl _ rfl ?_) | (with_reducible refine wl_range rfl _ _ rfl _ rfl ?_) | (with_reducible refine wl_next rfl _ rfl _ rfl ?_) | (with_reducible refine wl_copy rfl _ _ _ _ rfl _ _ rfl rfl ?_) | (with_reducible refine wl_max rfl _ _ _ _ rfl _ _ rfl rfl ?_) | (with_reducible refine wl_min rfl _ _ _ _ rfl _ _ rfl rfl ?_))
      refine rg_store hN3.mp kU64 Try.underlying68 (by rw [VL_len]; have := hN3.ok.len; unfold maxLen; omega) (kOf (by have := HO.out.lt; unfold top at this; omega)) ?_
      intro w3 hm3 hk3 hs3
      rw [← HC.out] at hb2
      have hmne : ¬ mb = mb' := fun e => by have := h.mp.lt; omega
      have hWne : ¬ W.heap.size = mb' := fun e => hmb'.2.2 e.symm
      have hres := SRep.put (w0 := w') hN3 (fun k hk => hk.2.1) HO.out hfree hl512 hm3 hk3 (Nat.le_refl _) hb2
      have hr3 := hr2.keep hk3 hmne hWne
      have hkw3 : Keep No w w3 := hkw2.trans hk3 fun j hj e => by have e2 : j = mb' := e; have := hmb'.1; omega
      have hres2 : SRep (fun k => w.heap.size ≤ k ∧ k < w3.heap.size ∧ k ≠ W.heap.size) w3 d' (insP p m') mb' (fun x => if x = p.addr then w'.heap.size else f' x) := hres.mono fun k hk ha => by
        rcases ha with ha | ha
        · exact ⟨ha.1, hk, ha.2.2⟩
        · exact ⟨Nat.le_trans hkw'.size ha.1, hk, fun e => by have := ha.1; omega⟩
      have hWl3 : W.heap.size < w3.heap.size := Nat.lt_of_lt_of_le hWl2 (Nat.le_trans hk2'.size hk3.size)
      go_wp2_with (first | (at_builtin; refine wl_append rfl _ _ _ _ rfl _ _ rfl rfl ?_) | (at_make; refine wl_make rfl _ _ _ rfl _ _ rfl rfl ?_) | (at_mapUpdate; refine wl_mapUpdate rfl _ _ _ _ rfl _ _ _ rfl rfl rfl ?_) | (at_lookup; refine wl_lookup rfl _ _ _ _ rfl _ _ rfl rfl ?_) | (at_delete; refine wl_delete rfl _ _ _ _ rfl _ _ rfl rfl ?_) | (with_reducible refine wl_len rfl _ _ rfl _ rfl ?_) | (with_reducible refine wl_range rfl _ _ rfl _ rfl ?_) | (with_reducible refine wl_next rfl _ rfl _ rfl ?_) | (with_reducible refine wl_copy rfl _ _ _ _ rfl _ _ rfl rfl ?_) | (with_reducible refine wl_max rfl _ _ _ _ rfl _ _ rfl rfl ?_) | (with_reducible refine wl_min rfl _ _ _ _ rfl _ _ rfl rfl ?_))
      go_roundw
      case rel => exact ⟨_, _, _, hr3, hsub2, hT2, hres2, hperm2, hkw3, hWl3⟩
      case measure =>
        rw [rangeLeft_same (w := w2) (hk3.block _ hr2.map.lt hmne) (hk3.block _ hr2.lt hWne)]
        exact hlt2
end
end Go.Proofs.Ytaoillfofiehpaa
