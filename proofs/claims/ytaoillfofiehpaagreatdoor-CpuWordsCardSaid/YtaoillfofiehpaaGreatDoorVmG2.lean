/- cmp.Less, insertionSortOrdered at uint64. Copy. pdqsortOrdered of up to twelve, Sort, Collect, Sorted at uint64. maps.Keys at the pages' map: its iterator gives each address once; slices.AppendSeq, Collect over it. Pages, of up to twelve. No condition. -/
import Derived.Test.YtaoillfofiehpaaGreatDoorSigT
import Derived.Test.YtaoillfofiehpaaGreatDoorBits
import Derived.Test.YtaoillfofiehpaaGreatDoorProg
import Derived.Sort.LotA
import Derived.Laws.OwnMore
import Derived.Test.YtaoillfofiehpaaGreatDoorVmP
import Derived.RangeFuncFrom
import Derived.RangeFuncBox
import Derived.RangeFuncBound
import Derived.Sort.LotD7
import Derived.Shelf.AbstractIn
import Derived.Shelf.RegionOpen
import Derived.Sort.MapsRangeIn
import Derived.Sort.KeysCollected
import Derived.OwnWalkIn
import Derived.TacticsInMore
import Derived.RegionIn
import Derived.LoopNIn
import Derived.LoopIn
set_option linter.unusedVariables false
set_option linter.unusedSimpArgs false
namespace Go.Proofs.YtaoillfofiehpaaGreatDoor
open Go.RowKit Go.Dm

def uv (x : Nat) : Value := .int .u64 (x : Int)
def ltN (a b : Nat) : Bool := decide (a < b)
theorem nan_any (a : Nat) (w : World) : Calls Tryz.prog 99 #[uv a] w fun e w' => e = .returned (.bool false) ∧ w = w' := by
  unfold uv
  go_enter Tryz.func99, Tryz.ntmps99
  go_wp2_with fail
  go_ret
  exact ⟨rfl, rfl⟩
theorem less_any (a b : Nat) (w : World) : Calls Tryz.prog 86 #[uv a, uv b] w fun e w' => e = .returned (.bool (ltN a b)) ∧ w = w' := by
  have h1 := nan_any a w
  unfold uv at *
  have e : decide ((a : Int) < (b : Int)) = ltN a b := by unfold ltN; rw [Bool.eq_iff_iff, decide_eq_true_iff, decide_eq_true_iff]; omega
  go_enter Tryz.func86, Tryz.ntmps86
  go_wp2_with fail
  refine h1.mono ?_
  rintro e2 x ⟨rfl, rfl⟩
  by_cases hl : a < b
  · have hz : (a : Int) < (b : Int) := by omega
    have HE := Lib.hid (show ltN a b = true by unfold ltN; simpa using hl)
    clear e
    go_wp2_with fail
    go_ret
    rw [HE.out]
    exact ⟨rfl, rfl⟩
  · have hz : (b : Int) ≤ (a : Int) := by omega
    have HE := Lib.hid (show ltN a b = false by unfold ltN; simpa using hl)
    clear e
    go_wp2_with fail
    go_ret
    rw [HE.out]
    exact ⟨rfl, rfl⟩
section
variable {w : World}
/-- a row of one's own with these numbers -/
def Nums (w : World) (base g cap : Nat) (D : Array Nat) : Prop := w.ownsRow base 22 1 (.slice (some ⟨g, 0, none⟩) D.size cap) D.size (D.toList.map uv)
theorem Nums.cell {base g cap : Nat} {D : Array Nat} (h : Nums w base g cap D) {i : Nat} (hi : i < D.size) : w.cell? ⟨g, i, none⟩ = some (uv D[i]!) := by
  rw [h.cellAt i (by omega), List.getElem?_map, Array.getElem?_toList, Array.getElem?_eq_getElem hi, getElem!_pos D i hi]
  rfl
theorem Nums.frozen {base g cap : Nat} {D : Array Nat} (h : Nums w base g cap D) (i : Nat) : w.frozen? ⟨g, i, none⟩ = false := h.frozenAt i
theorem Nums.set {base g cap : Nat} {D : Array Nat} (h : Nums w base g cap D) (i x : Nat) : Nums (w.setCell ⟨g, i, none⟩ (uv x)) base g cap (D.setIfInBounds i x) := by
  have h1 := (h.stored i (uv x)).1
  unfold Nums
  rw [Array.size_setIfInBounds, Array.toList_setIfInBounds, List.map_set]
  exact h1
theorem Nums.base {base g cap : Nat} {D : Array Nat} (h : Nums w base g cap D) : base ≤ g := (World.ownsRow.lt h g rfl).1
theorem Nums.lt {base g cap : Nat} {D : Array Nat} (h : Nums w base g cap D) : g < w.heap.size := (World.ownsRow.lt h g rfl).2
set_option maxRecDepth 100000 in
set_option maxHeartbeats 4000000 in
theorem ins_any {base g cap : Nat} {D : Array Nat} (h : Nums w base g cap D) (hn : D.size ≤ 1099511627776) :
    Calls Tryz.prog 80 #[.slice (some ⟨g, 0, none⟩) D.size cap, .int .i64 0, .int .i64 (D.size : Int)] w fun e w' => e = .returned (.tuple #[]) ∧ Nums w' base g cap (Sort.insertionSort ltN D 0 D.size) ∧ Keep (fun j => j = g) w w' ∧ w'.heap.size = w.heap.size := by
  generalize hR : Sort.insertionSort ltN D 0 D.size = R
  generalize hN : D.size = n at *
  have hR2 : Sort.insOuter ltN 0 n 1 D = R := hR
  go_enter Tryz.func80, Tryz.ntmps80
  go_wp2_with fail
  go_loopw [6] (fun iv wr => ∃ i E, iv = .int .i64 ((i : Nat) : Int) ∧ 1 ≤ i ∧ Sort.insOuter ltN 0 n i E = R ∧ E.size = n ∧ Nums wr base g cap E ∧ Keep (fun j => j = g) w wr ∧ wr.heap.size = w.heap.size) (fun iv _ => n - (intOf iv).toNat)
  case atStart => exact ⟨1, D, rfl, Nat.le_refl _, hR2, hN, h, Keep.refl _ _, rfl⟩
  case round =>
    clear h hR hR2 hN
    obtain ⟨i, E, rfl, hi1, hE, hEs, hO, hk, hsz⟩ := hrel
    rw [Sort.insOuter] at hE
    rcases Nat.lt_or_ge i n with hlt | hge
    · rw [if_pos hlt] at hE
      have hiz : (i : Int) < (n : Int) := by omega
      have i1z : (1 : Int) ≤ (i : Int) := by omega
      generalize hT : Sort.insInner ltN 0 i E = T at hE
      go_wp2_with fail
      go_loopw [7] (fun jv wr => ∃ j F, jv = .int .i64 ((j : Nat) : Int) ∧ j ≤ i ∧ Sort.insInner ltN 0 j F = T ∧ F.size = n ∧ Nums wr base g cap F ∧ Keep (fun j => j = g) w wr ∧ wr.heap.size = w.heap.size) (fun jv _ => (intOf jv).toNat)
      case atStart => exact ⟨i, E, rfl, Nat.le_refl _, hT, hEs, hO, hk, hsz⟩
      case round =>
        clear hO hk hsz hT hEs
        obtain ⟨j, F, rfl, hji, hT, hFs, hO, hk, hsz⟩ := hrel
        have hjn : j < n := by omega
        have hc0 := hO.cell (i := j) (by omega)
        cases j with
        | zero =>
          rw [Sort.insInner] at hT
          subst hT
          go_wp2_with fail
          refine wp_region_sig (fun w' => True) (fun j => decide (j ≤ 99)) [(0, true), (1, true), (2, true), (3, true), (4, true), (5, true), (6, true), (7, true), (8, true), (9, true), (10, true), (11, true), (12, true), (13, true), (14, true)] (by kernel_rfl) (by kernel_rfl) (by intro c a d v w h; cases d <;> exact h) trivial ?_
          apply sig_still (o := ⟨some 16, _, _, _, _, _⟩) rfl rfl
          · intro w' hS
            first | (go_simp; done) | (go_simp; rfl) | rfl
          go_frame
          apply sig_still (o := ⟨some 17, _, _, _, _, _⟩) rfl rfl
          · intro w' hS
            first | (go_simp; done) | (go_simp; rfl) | rfl
          go_frame
          apply sig_still (o := ⟨some 18, _, _, _, _, _⟩) rfl rfl
          · intro w' hS
            first | (go_simp; done) | (go_simp; rfl) | rfl
          go_frame
          apply sig_still (o := ⟨some 19, _, _, _, _, _⟩) rfl rfl
          · intro w' hS
            first | (go_simp; done) | (go_simp; rfl) | rfl
          go_frame
          refine sig_skip (o := ⟨some 20, _, _, _, _, _⟩) rfl (by rfl) ?_
          go_frame
          refine sig_skip (o := ⟨some 21, _, _, _, _, _⟩) rfl (by rfl) ?_
          go_frame
          refine sig_skip (o := ⟨some 22, _, _, _, _, _⟩) rfl (by rfl) ?_
          go_frame
          refine sig_skip (o := ⟨some 23, _, _, _, _, _⟩) rfl (by rfl) ?_
          go_frame
          refine sig_skip (o := ⟨some 24, _, _, _, _, _⟩) rfl (by rfl) ?_
          go_frame
          refine sig_skip (o := ⟨some 25, _, _, _, _, _⟩) rfl (by rfl) ?_
          go_frame
          refine sig_skip (o := ⟨some 26, _, _, _, _, _⟩) rfl (by rfl) ?_
          go_frame
          refine sig_skip (o := ⟨some 27, _, _, _, _, _⟩) rfl (by rfl) ?_
          go_frame
          refine sig_skip (o := ⟨some 28, _, _, _, _, _⟩) rfl (by rfl) ?_
          go_frame
          refine sig_skip (o := ⟨some 29, _, _, _, _, _⟩) rfl (by rfl) ?_
          go_frame
          apply sig_still (o := ⟨some 30, _, _, _, _, _⟩) rfl rfl
          · intro w' hS
            first | (go_simp; done) | (go_simp; rfl) | rfl
          go_frame
          refine sig_nil ?_
          go_wp2_with fail
          go_roundw
          case rel => exact ⟨i + 1, F, by go_num, by omega, hE, hFs, hO, hk.drew, hsz⟩
          case measure => simp [intOf]; omega
        | succ j =>
          have hc1 := hO.cell (i := j) (by omega)
          rw [Sort.insInner] at hT
          have hless := less_any F[j + 1]! F[j]!
          have hsw : Nums ((wr.setCell ⟨g, j + 1, none⟩ (uv F[j]!)).setCell ⟨g, j, none⟩ (uv F[j + 1]!)) base g cap (Sort.swp F (j + 1) j) := (hO.set (j + 1) F[j]!).set j F[j + 1]!
          have hkw : Keep (fun j => j = g) w ((wr.setCell ⟨g, j + 1, none⟩ (uv F[j]!)).setCell ⟨g, j, none⟩ (uv F[j + 1]!)) := (hk.setCell (p := ⟨g, j + 1, none⟩) (fun _ => rfl) _).setCell (p := ⟨g, j, none⟩) (fun _ => rfl) _
          have hsz2 : ((wr.setCell ⟨g, j + 1, none⟩ (uv F[j]!)).setCell ⟨g, j, none⟩ (uv F[j + 1]!)).heap.size = w.heap.size := by simpa using hsz
          have hss := Sort.size_swp F (j + 1) j
          have hf0 := hO.frozen (j + 1)
          have hf1 := hO.frozen j
          simp only [gt_iff_lt, Nat.zero_lt_succ, decide_true, Bool.true_and] at hT
          have HT := Lib.hid hT
          clear hT
          unfold uv at hc0 hc1 hless hsw hkw hsz2
          generalize F[j + 1]! = x at *
          generalize F[j]! = y at *
          obtain ⟨k, hkj⟩ : ∃ k, k = j + 1 := ⟨_, rfl⟩
          rw [← hkj] at hc0 hf0 hjn hsw hkw hsz2 hss HT ⊢
          have hjz : decide ((0 : Int) < (k : Int)) = true := by simp; omega
          have hjn : decide (0 < k) = true := by simp; omega
          have hj1 : (k : Int) - 1 = (j : Int) := by omega
          have hjlt : (k : Int) < (n : Int) := by omega
          have hjl : (j : Int) < (n : Int) := by omega
          have hjb : (j : Int) < 9223372036854775808 := by omega
          have hwj : IntKind.i64.wrap (j : Int) = (j : Int) := by rw [IntKind.wrap_i64]; omega
          have hjw : IntKind.i64.wrap ((k : Int) - 1) = (j : Int) := by rw [hj1, IntKind.wrap_i64]; omega
          have hne : k ≠ j := by omega
          have hki : j ≤ i := by omega
          have HKJ := Lib.hid hkj
          have HO := Lib.hid hO
          have HK := Lib.hid hk
          clear hkj hO hk
          go_wp2_with fail
          refine wp_region_sig (fun w' => w'.cell? ⟨g, k, none⟩ = some (.int .u64 (x : Int)) ∧ w'.cell? ⟨g, j, none⟩ = some (.int .u64 (y : Int))) (fun j => decide (j ≤ 99)) [(0, true), (1, true), (2, true), (3, true), (4, true), (5, true), (6, true), (7, true), (8, true), (9, true), (10, true), (11, true), (12, true), (13, false), (14, true)] (by kernel_rfl) (by kernel_rfl) (by intro c a d v w h; cases d <;> exact h) ⟨hc0, hc1⟩ ?_
          apply sig_still (o := ⟨some 16, _, _, _, _, _⟩) rfl rfl
          · intro w' hS
            obtain ⟨q1, q2⟩ := hS
            first | (go_simp; done) | (go_simp; rfl) | rfl
          go_frame
          apply sig_still (o := ⟨some 17, _, _, _, _, _⟩) rfl rfl
          · intro w' hS
            obtain ⟨q1, q2⟩ := hS
            first | (go_simp; done) | (go_simp; rfl) | rfl
          go_frame
          apply sig_still (o := ⟨some 18, _, _, _, _, _⟩) rfl rfl
          · intro w' hS
            obtain ⟨q1, q2⟩ := hS
            first | (go_simp; done) | (go_simp; rfl) | rfl
          go_frame
          apply sig_still (o := ⟨some 19, _, _, _, _, _⟩) rfl rfl
          · intro w' hS
            obtain ⟨q1, q2⟩ := hS
            first | (go_simp; done) | (go_simp; rfl) | rfl
          go_frame
          apply sig_guard (o := ⟨some 20, _, _, _, _, _⟩) rfl (by rfl)
          · intro w' hS
            obtain ⟨q1, q2⟩ := hS
            first | (go_simp; done) | (go_simp; rfl) | rfl
          go_frame
          apply sig_guard (o := ⟨some 21, _, _, _, _, _⟩) rfl (by rfl)
          · intro w' hS
            obtain ⟨q1, q2⟩ := hS
            first | (go_simp; done) | (go_simp; rfl) | rfl
          go_frame
          apply sig_guard (o := ⟨some 22, _, _, _, _, _⟩) rfl (by rfl)
          · intro w' hS
            obtain ⟨q1, q2⟩ := hS
            first | (go_simp; done) | (go_simp; rfl) | rfl
          go_frame
          apply sig_guard (o := ⟨some 23, _, _, _, _, _⟩) rfl (by rfl)
          · intro w' hS
            obtain ⟨q1, q2⟩ := hS
            first | (go_simp; done) | (go_simp; rfl) | rfl
          go_frame
          apply sig_guard (o := ⟨some 24, _, _, _, _, _⟩) rfl (by rfl)
          · intro w' hS
            obtain ⟨q1, q2⟩ := hS
            first | (go_simp; done) | (go_simp; rfl) | rfl
          go_frame
          apply sig_guard (o := ⟨some 25, _, _, _, _, _⟩) rfl (by rfl)
          · intro w' hS
            obtain ⟨q1, q2⟩ := hS
            first | (go_simp; done) | (go_simp; rfl) | rfl
          go_frame
          apply sig_guard (o := ⟨some 26, _, _, _, _, _⟩) rfl (by rfl)
          · intro w' hS
            obtain ⟨q1, q2⟩ := hS
            first | (go_simp; done) | (go_simp; rfl) | rfl
          go_frame
          apply sig_guard (o := ⟨some 27, _, _, _, _, _⟩) rfl (by rfl)
          · intro w' hS
            obtain ⟨q1, q2⟩ := hS
            first | (go_simp; done) | (go_simp; rfl) | rfl
          go_frame
          apply sig_guard (o := ⟨some 28, _, _, _, _, _⟩) rfl (by rfl)
          · intro w' hS
            obtain ⟨q1, q2⟩ := hS
            first | (go_simp; done) | (go_simp; rfl) | rfl
          go_frame
          refine sig_effg (o := ⟨some 29, _, _, _, _, _⟩) rfl (by rfl) (fun K hKe => ?_)
          go_wp2_with fail
          refine (hless _).mono ?_
          rintro e X ⟨rfl, rfl⟩
          go_wp2_with fail
          refine ⟨fun _ => ⟨hc0, hc1⟩, ?_⟩
          apply sig_still (o := ⟨some 30, _, _, _, _, _⟩) rfl rfl
          · intro w' hS
            obtain ⟨q1, q2⟩ := hS
            first | (go_simp; done) | (go_simp; rfl) | rfl
          go_frame
          refine sig_nil ?_
          cases hl : ltN x y with
          | false =>
            rw [hl] at HT
            have hT := HT.out
            simp only [Bool.false_eq_true, if_false] at hT
            subst hT
            go_wp2_with fail
            go_roundw
            case rel => exact ⟨i + 1, F, by go_num, by omega, hE, hFs, HO.out, HK.out.drew, hsz⟩
            case measure => simp [intOf]; omega
          | true =>
            rw [hl, if_pos rfl] at HT
            go_wp2_with fail
            refine wp_region_tree (fun _ => True) (fun j => decide (j ≤ 99)) (.st 0 (.st 1 (.st 2 (.st 3 (.st 4 (.st 5 (.st 6 (.st 7 (.st 8 (.st 10 (.st 11 (.st 12 (.br 9 13 (.ef 13 (.st 14 (.ef 15 (.st 16 (.ef 17 .nil))))) (.ef 9 (.st 14 (.ef 15 (.st 16 (.ef 17 .nil)))))))))))))))))) (by kernel_rfl) (by kernel_rfl) (by intro c a d v w h; cases d <;> exact h) trivial ?_
            apply tr_still (o := ⟨some 33, _, _, _, _, _⟩) rfl rfl
            · intro w' hS
              first | (go_simp; done) | (go_simp; rfl) | rfl
            go_frame
            apply tr_still (o := ⟨some 34, _, _, _, _, _⟩) rfl rfl
            · intro w' hS
              first | (go_simp; done) | (go_simp; rfl) | rfl
            go_frame
            apply tr_still (o := ⟨some 35, _, _, _, _, _⟩) rfl rfl
            · intro w' hS
              first | (go_simp; done) | (go_simp; rfl) | rfl
            go_frame
            apply tr_still (o := ⟨some 36, _, _, _, _, _⟩) rfl rfl
            · intro w' hS
              first | (go_simp; done) | (go_simp; rfl) | rfl
            go_frame
            apply tr_still (o := ⟨some 37, _, _, _, _, _⟩) rfl rfl
            · intro w' hS
              first | (go_simp; done) | (go_simp; rfl) | rfl
            go_frame
            apply tr_still (o := ⟨some 38, _, _, _, _, _⟩) rfl rfl
            · intro w' hS
              first | (go_simp; done) | (go_simp; rfl) | rfl
            go_frame
            apply tr_still (o := ⟨some 39, _, _, _, _, _⟩) rfl rfl
            · intro w' hS
              first | (go_simp; done) | (go_simp; rfl) | rfl
            go_frame
            apply tr_still (o := ⟨some 40, _, _, _, _, _⟩) rfl rfl
            · intro w' hS
              first | (go_simp; done) | (go_simp; rfl) | rfl
            go_frame
            apply tr_still (o := ⟨some 41, _, _, _, _, _⟩) rfl rfl
            · intro w' hS
              first | (go_simp; done) | (go_simp; rfl) | rfl
            go_frame
            apply tr_still (o := ⟨some 43, _, _, _, _, _⟩) rfl rfl
            · intro w' hS
              first | (go_simp; done) | (go_simp; rfl) | rfl
            go_frame
            apply tr_still (o := ⟨some 44, _, _, _, _, _⟩) rfl rfl
            · intro w' hS
              first | (go_simp; done) | (go_simp; rfl) | rfl
            go_frame
            apply tr_still (o := ⟨some 45, _, _, _, _, _⟩) rfl rfl
            · intro w' hS
              first | (go_simp; done) | (go_simp; rfl) | rfl
            go_frame
            refine tr_br (o := ⟨some 42, _, _, _, _, _⟩) (o' := ⟨some 46, _, _, _, _, _⟩) rfl rfl rfl rfl (fun K hKe => ?_) (fun K hKe => ?_)
            · go_wp2_with fail
              refine ⟨fun _ => trivial, ?_⟩
              refine tr_eff (o := ⟨some 46, _, _, _, _, _⟩) rfl rfl (fun K hKe => ?_)
              go_wp2_with fail
              refine ⟨fun _ => trivial, ?_⟩
              apply tr_still (o := ⟨some 47, _, _, _, _, _⟩) rfl rfl
              · intro w' hS
                first | (go_simp; done) | (go_simp; rfl) | rfl
              go_frame
              refine tr_eff (o := ⟨none, _, _, _, _, _⟩) rfl rfl (fun K hKe => ?_)
              go_wp2_with fail
              refine ⟨fun _ => trivial, ?_⟩
              apply tr_still (o := ⟨some 48, _, _, _, _, _⟩) rfl rfl
              · intro w' hS
                first | (go_simp; done) | (go_simp; rfl) | rfl
              go_frame
              have hc1' : (wr.setCell ⟨g, k, none⟩ (.int .u64 (y : Int))).cell? ⟨g, j, none⟩ = some (.int .u64 (y : Int)) := (World.cell?_setCell_other wr ⟨g, k, none⟩ ⟨g, j, none⟩ _ (fun e => hne (congrArg Addr.off e))).trans hc1
              refine tr_eff (o := ⟨none, _, _, _, _, _⟩) rfl rfl (fun K hKe => ?_)
              go_wp2_with fail
              refine ⟨fun _ => trivial, tr_nil ?_⟩
              go_wp2_with fail
              go_roundw
              case rel => exact ⟨j, _, by go_num, hki, HT.out, hss.trans hFs, hsw, hkw.drew.drew, hsz2⟩
              case measure => simp [intOf]; omega
            · go_wp2_with fail
              refine ⟨fun _ => trivial, ?_⟩
              refine tr_eff (o := ⟨some 42, _, _, _, _, _⟩) rfl rfl (fun K hKe => ?_)
              go_wp2_with fail
              refine ⟨fun _ => trivial, ?_⟩
              apply tr_still (o := ⟨some 47, _, _, _, _, _⟩) rfl rfl
              · intro w' hS
                first | (go_simp; done) | (go_simp; rfl) | rfl
              go_frame
              refine tr_eff (o := ⟨none, _, _, _, _, _⟩) rfl rfl (fun K hKe => ?_)
              go_wp2_with fail
              refine ⟨fun _ => trivial, ?_⟩
              apply tr_still (o := ⟨some 48, _, _, _, _, _⟩) rfl rfl
              · intro w' hS
                first | (go_simp; done) | (go_simp; rfl) | rfl
              go_frame
              have hc1' : (wr.setCell ⟨g, k, none⟩ (.int .u64 (y : Int))).cell? ⟨g, j, none⟩ = some (.int .u64 (y : Int)) := (World.cell?_setCell_other wr ⟨g, k, none⟩ ⟨g, j, none⟩ _ (fun e => hne (congrArg Addr.off e))).trans hc1
              refine tr_eff (o := ⟨none, _, _, _, _, _⟩) rfl rfl (fun K hKe => ?_)
              go_wp2_with fail
              refine ⟨fun _ => trivial, tr_nil ?_⟩
              go_wp2_with fail
              go_roundw
              case rel => exact ⟨j, _, by go_num, hki, HT.out, hss.trans hFs, hsw, hkw.drew.drew, hsz2⟩
              case measure => simp [intOf]; omega
    · rw [if_neg (by omega)] at hE
      subst hE
      have hiz : (n : Int) ≤ (i : Int) := by omega
      go_wp2_with fail
      go_end0
      exact ⟨rfl, hO, hk, hsz⟩
end
end Go.Proofs.YtaoillfofiehpaaGreatDoor
namespace Go.Proofs.YtaoillfofiehpaaGreatDoor
open Go.RowKit Go.Dm Go.Dm.Vm Go.Maps Go.Dm.Oc Go.WideMaps Go.WideElems

theorem pgC_one (p : Pg) : (pgC p).all (·.oneCell') = true := by
  unfold pgC
  rw [List.all_toArray]
  simp [Value.oneCell', bv]
theorem srt_eq : ∀ {m t : V}, m.Pairwise (fun p q => p.addr < q.addr) → t.Pairwise (fun p q => p.addr < q.addr) → m.Perm t → m = t
  | [], t, _, _, h => h.nil_eq
  | p :: r, [], _, _, h => absurd h.length_eq (by simp)
  | p :: r, q :: t, h1, h2, h => by
    rw [List.pairwise_cons] at h1 h2
    by_cases e : p = q
    · subst e
      rw [srt_eq h1.2 h2.2 h.cons_inv]
    · have hp : p ∈ t := (List.mem_cons.1 (h.mem_iff.1 (List.mem_cons_self ..))).resolve_left e
      have hq : q ∈ r := (List.mem_cons.1 (h.mem_iff.2 (List.mem_cons_self ..))).resolve_left fun e2 => e e2.symm
      have := h1.1 q hq
      have := h2.1 p hp
      omega
theorem delP_perm {T : V} (hT : T.Pairwise (fun p q => p.addr ≠ q.addr)) {p : Pg} (hp : p ∈ T) : T.Perm (p :: delP T p.addr) := by
  induction T with
  | nil => cases hp
  | cons q r ih =>
    rw [List.pairwise_cons] at hT
    by_cases e : q.addr = p.addr
    · have eq : q = p := by
        rcases List.mem_cons.1 hp with h | h
        · exact h.symm
        · exact absurd e (hT.1 p h)
      subst eq
      have hd : delP (q :: r) q.addr = r := by
        unfold delP
        rw [List.filter_cons_of_neg (by simp), List.filter_eq_self]
        intro x hx
        simpa using fun e => hT.1 x hx e.symm
      rw [hd]
    · have hpr : p ∈ r := (List.mem_cons.1 hp).resolve_left fun e2 => e (by rw [e2])
      have hd : delP (q :: r) p.addr = q :: delP r p.addr := by
        unfold delP
        rw [List.filter_cons_of_pos (by simpa using e)]
      rw [hd]
      exact ((ih hT.2 hpr).cons q).trans (List.Perm.swap p q _)
theorem rangeLeft_same {w w' : World} {b r : Nat} (eb : w'.heap[b]? = w.heap[b]?) (er : w'.heap[r]? = w.heap[r]?) : w'.rangeLeft b r = w.rangeLeft b r := by
  unfold World.rangeLeft
  rw [eb, er]
section
variable {A : Nat → Prop} {w : World} {d mb x y z u v : Nat} {f : Nat → Nat} {m : V}
end
end Go.Proofs.YtaoillfofiehpaaGreatDoor
namespace Go.Proofs.YtaoillfofiehpaaGreatDoor
open Go.RowKit Go.Dm Go.Dm.Vm Go.Maps

theorem swoN : Sort.SWO ltN where
  irrefl x := by simp [ltN]
  trans x y z h1 h2 := by simp only [ltN, decide_eq_true_eq] at *; omega
  ntrans x y z h1 h2 := by simp only [ltN, decide_eq_false_iff_not] at *; omega
section
variable {w : World}
set_option maxRecDepth 100000 in
set_option maxHeartbeats 4000000 in
theorem pdq_small {base g cap : Nat} {D : Array Nat} (l : Int) (h : Nums w base g cap D) (hn : D.size ≤ 12) :
    Calls Tryz.prog 66 #[.slice (some ⟨g, 0, none⟩) D.size cap, .int .i64 0, .int .i64 (D.size : Int), .int .i64 l] w fun e w' => e = .returned (.tuple #[]) ∧ Nums w' base g cap (Sort.insertionSort ltN D 0 D.size) ∧ Keep (fun j => j = g) w w' ∧ w'.heap.size = w.heap.size := by
  have hi := ins_any h (by omega)
  have hz : (D.size : Int) ≤ 12 := by omega
  generalize Sort.insertionSort ltN D 0 D.size = R at *
  generalize D.size = n at *
  go_enter Tryz.func66, Tryz.ntmps66
  go_wp2_with fail
  go_loopw [1, 2] (fun av bw wr => av = .int .i64 0 ∧ bw = .int .i64 (n : Int) ∧ wr = w) (fun _ _ _ => 0)
  case atStart => exact ⟨rfl, rfl, rfl⟩
  case round =>
    obtain ⟨rfl, rfl, rfl⟩ := hrel
    go_wp2_with fail
    refine hi.mono ?_
    rintro e W ⟨rfl, h1, h2, h3⟩
    go_wp2_with fail
    refine bodyPost_ret (results_none rfl _ _ _) rfl ?_
    exact ⟨rfl, h1, h2, h3⟩
set_option maxRecDepth 100000 in
theorem len_small (n : Nat) (hn : n ≤ 12) (w : World) : Calls Tryz.prog 67 #[.int .u64 (n : Int)] w fun e w' => (∃ l : Int, e = .returned (.int .i64 l)) ∧ w = w' := by
  have h : n = 0 ∨ n = 1 ∨ n = 2 ∨ n = 3 ∨ n = 4 ∨ n = 5 ∨ n = 6 ∨ n = 7 ∨ n = 8 ∨ n = 9 ∨ n = 10 ∨ n = 11 ∨ n = 12 := by omega
  have h64 : Calls Tryz.prog 90 #[.int .u64 (n : Int)] w fun e w' => (∃ l : Int, e = .returned (.int .i64 l)) ∧ w = w' := by
    rcases h with rfl | rfl | rfl | rfl | rfl | rfl | rfl | rfl | rfl | rfl | rfl | rfl | rfl
    all_goals
      go_enter Tryz.func90, Tryz.ntmps90
      go_wp2_with fail
      go_ret
      exact ⟨⟨_, rfl⟩, rfl⟩
  go_enter Tryz.func67, Tryz.ntmps67
  go_wp2_with fail
  refine h64.mono ?_
  rintro e W ⟨⟨l, rfl⟩, rfl⟩
  go_wp2_with fail
  go_ret
  exact ⟨⟨_, rfl⟩, rfl⟩
theorem pdq_nil (l : Int) (w : World) : Calls Tryz.prog 66 #[.slice none 0 0, .int .i64 0, .int .i64 0, .int .i64 l] w fun e w' => e = .returned (.tuple #[]) ∧ w = w' := by
  have hi : Calls Tryz.prog 80 #[.slice none 0 0, .int .i64 0, .int .i64 0] w fun e w' => e = .returned (.tuple #[]) ∧ w = w' := by
    go_enter Tryz.func80, Tryz.ntmps80
    go_wp2_with fail
    go_loopw [6] (fun iv wr => iv = .int .i64 1 ∧ wr = w) (fun _ _ => 0)
    case atStart => exact ⟨rfl, rfl⟩
    case round =>
      obtain ⟨rfl, rfl⟩ := hrel
      go_wp2_with fail
      go_end0
      exact ⟨rfl, rfl⟩
  go_enter Tryz.func66, Tryz.ntmps66
  go_wp2_with fail
  go_loopw [1, 2] (fun av bw wr => av = .int .i64 0 ∧ bw = .int .i64 0 ∧ wr = w) (fun _ _ _ => 0)
  case atStart => exact ⟨rfl, rfl, rfl⟩
  case round =>
    obtain ⟨rfl, rfl, rfl⟩ := hrel
    go_wp2_with fail
    refine hi.mono ?_
    rintro e W ⟨rfl, rfl⟩
    go_wp2_with fail
    refine bodyPost_ret (results_none rfl _ _ _) rfl ?_
    exact ⟨rfl, rfl⟩
set_option maxHeartbeats 4000000 in
/-- slices.Sort at up to twelve: the numbers, sorted -/
theorem sort_small {base : Nat} {v : Value} {D : Array Nat} (h : w.ownsRow base 22 1 v D.size (D.toList.map uv)) (hn : D.size ≤ 12) :
    Calls Tryz.prog 51 #[v] w fun e w' => e = .returned (.tuple #[]) ∧ w'.ownsRow base 22 1 v D.size ((Sort.insertionSort ltN D 0 D.size).toList.map uv) ∧ Keep (fun j => some j = v.ownBlock) w w' ∧ w'.heap.size = w.heap.size := by
  have hss : (Sort.insertionSort ltN D 0 D.size).size = D.size := (Sort.insertionSort_holds swoN D 0 D.size (Nat.zero_le _) (Nat.le_refl _)).1.1
  have hlen := fun w => len_small D.size hn w
  have hz : (D.size : Int) ≤ 12 := by omega
  rcases h.2 with ⟨rfl, h0⟩ | ⟨g, cap, cur, rfl, _⟩
  · have hD : D = #[] := Array.eq_empty_of_size_eq_zero h0
    subst hD
    go_enter Tryz.func51, Tryz.ntmps51
    have hlen0 := hlen
    simp only [List.size_toArray, List.length_nil] at hlen
    go_wp2_with fail
    refine (hlen _).mono ?_
    rintro e W ⟨⟨l, rfl⟩, rfl⟩
    go_wp2_with fail
    refine (pdq_nil l _).mono ?_
    rintro e W ⟨rfl, rfl⟩
    go_wp2_with fail
    go_end0
    have hE := Array.eq_empty_of_size_eq_zero hss
    rw [show Sort.insertionSort ltN #[] 0 0 = #[] from hE]
    exact ⟨rfl, h, Keep.refl _ _, rfl⟩
  · have hp := fun l => pdq_small (w := w) (cap := cap) l h hn
    generalize Sort.insertionSort ltN D 0 D.size = R at *
    generalize D.size = n at *
    go_enter Tryz.func51, Tryz.ntmps51
    go_wp2_with fail
    refine (hlen _).mono ?_
    rintro e W ⟨⟨l, rfl⟩, rfl⟩
    go_wp2_with fail
    refine (hp l).mono ?_
    rintro e W ⟨rfl, h1, h2, h3⟩
    go_wp2_with fail
    go_end0
    unfold Nums at h1
    rw [hss] at h1
    exact ⟨rfl, h1, h2.mono fun j _ e => by rw [e]; rfl, h3⟩
end
end Go.Proofs.YtaoillfofiehpaaGreatDoor
namespace Go.Proofs.YtaoillfofiehpaaGreatDoor
open Go.RowKit Go.Dm Go.Dm.Vm Go.Maps Go.Shelf

attribute [local go_sem] Oper.semAt_some
section
variable {w : World} {f : Nat → Nat} {m : V} {b : Nat}
theorem has_VL {es : List (Lit × DataW Value)} (h : es.Perm ((VL f m).map hd)) (x : Nat) : Maps.has (DataW.map es) (.int .u64 (x : Int)) = true ↔ ∃ p ∈ m, p.addr = x := by
  rw [Maps.has_eq, List.any_eq_true]
  constructor
  · rintro ⟨q, hq, hs⟩
    obtain ⟨q', hq', rfl⟩ := List.mem_map.1 (h.mem_iff.1 hq)
    obtain ⟨p, hp, rfl⟩ := List.mem_map.1 hq'
    have := WideAt.sameKey_eq hs
    simp only [hd, Lit.int.injEq, true_and] at this
    exact ⟨p, hp, by omega⟩
  · rintro ⟨p, hp, rfl⟩
    refine ⟨hd (.int .u64 (p.addr : Int), ptrTo (f p.addr)), h.mem_iff.2 (List.mem_map_of_mem (List.mem_map.2 ⟨p, hp, rfl⟩)), ?_⟩
    simp [hd, Lit.sameKey]
theorem u64_info : (Tryz.prog.info? 22).map (fun i => (i.zero, i.size, i.bytes)) = some (some (.int .u64 0), 1, 8) := by kernel_rfl
def addrs (m : V) : List Nat := m.map (·.addr)
set_option maxRecDepth 100000 in
set_option maxHeartbeats 2000000 in
theorem keysU1_in (n : Nat) (hn : 1 ≤ n) (l Bm : Nat) (J Jx : List Nat → World → Prop) (hnd : (addrs m).Nodup)
    (hY : ∀ pre x W, J pre W → pre.length < m.length → YieldAt Fence.wide (n - 1) Tryz.prog l #[uv x] W fun e W' =>
      (e = .returned (.bool true) ∧ J (pre ++ [x]) W' ∧ KeepsWalks W W') ∨ (e = .returned (.bool false) ∧ Jx (pre ++ [x]) W'))
    (W : World) (hJ : AbidesFrom W.heap.size J) (hm : W.cell? ⟨Bm, 0, none⟩ = some (.map (some b))) (hown : MapL Tryz.prog 22 W b (VL f m)) (h0 : J [] W) :
    CallsIn Fence.wide n Tryz.prog 52 #[.func (.yield l) #[] #[], .pointer (some ⟨Bm, 0, none⟩)] W fun e W' => (∃ v, e = .returned v) ∧ ((∃ ss : List Nat, ss.Perm (addrs m) ∧ J ss W') ∨ ∃ pre : List Nat, True ∧ Jx pre W') := by
  obtain ⟨es, ho, hes, hsz⟩ := hown.size
  have hhas := fun x => has_VL (f := f) (m := m) hes x
  rw [VL_len] at ho hsz
  refine callsIn_of_wp Tryz.func52 rfl trivial ?_ rfl
  simp only [Tryz.ntmps52, List.size_toArray, List.length_cons, List.length_nil, Nat.reduceAdd, Nat.reduceSub, Array.replicate_succ, Array.replicate_zero, List.push_toArray, List.append_toArray, List.nil_append, List.cons_append]
  gi_wp2_with (first
    | (gi_at_range; refine wpListIn_range_own _ rfl _ 63 rfl 22 68 (int_keyed Tryz.underlying22) Tryz.underlying63 _ b m.length _ rfl ho ?_; intro w0 hrg0 hg0 hs0)
    | gi_in)
  go_frame
  gi_loopw [3] (fun _ wr => ∃ (left : Lit → Bool) (cnt : Nat) (ss : List Nat), wr.ranges Tryz.prog 22 Go.Dm.heldE b W.heap.size m.length (.map es) left cnt ∧ ss.length + cnt ≤ m.length ∧ (ss.Nodup ∧ ∀ x, x ∈ ss ↔ ((∃ p ∈ m, p.addr = x) ∧ left (.int .u64 (x : Int)) = false)) ∧ J ss wr)
    (fun _ wr => wr.rangeLeft b W.heap.size)
  case atStart =>
    refine ⟨_, _, [], hrg0, by rw [hsz]; simp, ⟨List.nodup_nil, fun x => ?_⟩, hJ [] W w0 none h0 hg0 (fun r e => by cases e)⟩
    simp only [List.not_mem_nil, false_iff, not_and]
    intro hx
    rw [(hhas x).2 hx]
    simp
  case round =>
    obtain ⟨left, cnt, ss, hrg, hcs, hC, hJs⟩ := hrel
    gi_wp2_with (first
      | (gi_at_next; refine wpListIn_next_ranges (α := Int) (β := Value) _ rfl _ rfl 22 (int_keyed Tryz.underlying22) Go.Dm.heldE (Value.int .u64) id (fun key kl hk => by obtain ⟨x, hx, _⟩ := Maps.keyOf_int_inv Tryz.underlying22 hk; exact ⟨x, hx⟩) (fun v _ _ => ⟨v, rfl⟩) b W.heap.size m.length _ _ _ rfl hrg ?_ ?_)
      | gi_in)
    · intro hc0 hl0
      gi_wp2
      go_end0
      refine ⟨⟨_, rfl⟩, .inl ⟨ss, ?_, hJs⟩⟩
      refine (List.perm_ext_iff_of_nodup hC.1 hnd).2 fun x => ?_
      rw [hC.2 x, hl0]
      simp only [and_true]
      exact ⟨fun ⟨p, hp, e⟩ => List.mem_map.2 ⟨p, hp, e⟩, fun h => by obtain ⟨p, hp, e⟩ := List.mem_map.1 h; exact ⟨p, hp, e⟩⟩
    · intro x c kl yd yp w2 cnt2 hkey hlk hv hat hrg2 hlt hg2 hs2 hen
      obtain ⟨x', ex, rfl, _⟩ := Maps.keyOf_int_inv Tryz.underlying22 hkey
      obtain rfl : x = x' := by simpa using ex
      have hh : Maps.has (DataW.map es) (.int .u64 x) = true := Maps.has_true_of_atKey hat
      obtain ⟨a, ha⟩ : ∃ a : Nat, x = (a : Int) := by
        rw [Maps.has_eq, List.any_eq_true] at hh
        obtain ⟨q, hq, hs⟩ := hh
        obtain ⟨q', hq', rfl⟩ := List.mem_map.1 (hes.mem_iff.1 hq)
        obtain ⟨p, hp, rfl⟩ := List.mem_map.1 hq'
        have := WideAt.sameKey_eq hs
        simp only [hd, Lit.int.injEq, true_and] at this
        exact ⟨p.addr, this.symm⟩
      subst ha
      have hex := (hhas a).1 hh
      have hnew : a ∉ ss := fun ha => by rw [((hC.2 a).1 ha).2] at hlk; cases hlk
      have hC2 : (ss ++ [a]).Nodup ∧ ∀ z, z ∈ ss ++ [a] ↔ ((∃ p ∈ m, p.addr = z) ∧ (left (.int .u64 (z : Int)) && !(Lit.int .u64 (z : Int)).sameKey (.int .u64 (a : Int))) = false) := by
        refine ⟨List.nodup_append.2 ⟨hC.1, by simp, fun x hx y hy e => by simp at hy; subst hy; exact hnew (e ▸ hx)⟩, fun z => ?_⟩
        by_cases hz : z = a
        · subst hz
          simp only [List.mem_append, List.mem_singleton, or_true, true_iff]
          exact ⟨hex, by simp [Lit.sameKey]⟩
        · have hk2 : (Lit.int .u64 (z : Int)).sameKey (.int .u64 (a : Int)) = false := by
            simp [Lit.sameKey]
            omega
          rw [hk2]
          simp only [List.mem_append, List.mem_singleton, hz, or_false, Bool.not_false, Bool.and_true]
          exact hC.2 z
      have hJ2 : J ss w2 := hJ ss wr w2 (some W.heap.size) hJs hg2 (fun r e => by cases e; exact ⟨Nat.le_refl _, hrg.iter_walk⟩)
      obtain ⟨fn, tmps, assign, body, hy, hR⟩ := hY ss a w2 hJ2 (by omega)
      unfold uv at hy
      clear hs2 hh hex hnew
      gi_wp2
      refine hR.mono ?_
      rintro e W3 (⟨rfl, hJ3, hk3⟩ | ⟨rfl, hJx3⟩)
      · gi_wp2
        have hrg3 := hrg2.of_walks hk3
        go_roundw
        case rel => exact ⟨_, cnt2, ss ++ [a], hrg3, by simp; omega, hC2, hJ3⟩
        case measure => rw [hrg3.left_eq, hrg.left_eq]; exact hlt
      · gi_wp2
        refine bodyPost_ret (results_none rfl _ _ _) rfl ?_
        exact ⟨⟨_, rfl⟩, .inr ⟨ss ++ [a], trivial, hJx3⟩⟩
theorem keysU_stops (n : Nat) (hn : 1 ≤ n) (Bm : Nat) (hnd : (addrs m).Nodup) (w : World) (hBm : Bm < w.heap.size) (hm : w.cell? ⟨Bm, 0, none⟩ = some (.map (some b))) (hown : MapL Tryz.prog 22 w b (VL f m)) :
    SeqStops Fence.wide n Tryz.prog 52 #[.pointer (some ⟨Bm, 0, none⟩)] uv (fun ss => ss.Perm (addrs m)) (fun _ => True) m.length w := fun l J Jx W hW hJ _ hY h0 =>
  keysU1_in n hn l Bm J Jx hnd hY W hJ ((hW.cell (p := ⟨Bm, 0, none⟩) hBm).trans hm) (hown.same (hW.block b hown.lt)) h0
set_option maxRecDepth 100000 in
set_option maxHeartbeats 4000000 in
theorem appendseqU_in (n : Nat) (hn : 3 ≤ n) (Bm : Nat) (hnd : (addrs m).Nodup) (w : World) (hBm : Bm < w.heap.size) (hm : w.cell? ⟨Bm, 0, none⟩ = some (.map (some b))) (hown : MapL Tryz.prog 22 w b (VL f m)) (hlen : m.length ≤ 512) :
    CallsIn Fence.wide n Tryz.prog 65 #[.slice none 0 0, .func (.func 52) #[] #[.pointer (some ⟨Bm, 0, none⟩)]] w fun e W' => ∃ (v : Value) (ss : List Nat), e = .returned v ∧ ss.Perm (addrs m) ∧ W'.ownsRow w.heap.size 22 1 v ss.length (ss.map uv) ∧ Below w.heap.size w W' := by
  have h1 : 1 ≤ n := by omega
  have hro : Fence.wide.round = none := rfl
  refine callsIn_of_wp_marks Tryz.func65 rfl trivial ?_ hro
  simp only [Tryz.ntmps65, List.size_toArray, List.length_cons, List.length_nil, Nat.reduceAdd, Nat.reduceSub, Array.replicate_succ, Array.replicate_zero, List.push_toArray, List.append_toArray, List.nil_append, List.cons_append]
  gi_wp2
  have hi := u64_info
  obtain ⟨i0, hi, hz0, hz1, hz2⟩ := info_parts hi
  have bO := Boxed.new w 34 (.slice none 0 0)
  have hB0 : Below w.heap.size w (w.alloc (.cells #[.slice none 0 0] 34)) := (Below.refl _ w).alloc (Nat.le_refl _) _
  refine wpIn_rangeFunc_ownF hro h1 (gf := 52) (lb := #[.pointer (some ⟨Bm, 0, none⟩)]) rfl trivial (enters_of Tryz.func52 (by kernel_rfl) rfl)
    (keysU_stops (n - 1) (by omega) Bm hnd _ (by rw [World.size_alloc]; omega) ((World.cell?_of_block (w := w) (Below.heap_alloc _ _ _ hBm)).trans hm) (hown.same (Below.heap_alloc _ _ _ hown.lt))) walksK_t (walksK_b) (Below.refl _ _) (fun _ => rfl)
    (fun (pre : List Nat) W => (∃ v, Boxed W w.heap.size 34 v ∧ W.ownsRow w.heap.size 22 1 v pre.length (pre.map uv) ∧ True) ∧ Below w.heap.size w W)
    (fun _ _ _ => False)
    (OwnFrom.and (Own.from (holdsRow_own w.heap.size w.heap.size 34 22 1 (fun pre : List Nat => pre.length) (fun pre => pre.map uv) (fun _ _ => True)) _) (ownFrom_below (Nat.le_refl _) (by simp)))
    (fun _ _ _ _ _ hs _ _ => hs)
    ⟨⟨_, bO, World.ownsRow_nil _ _ _ _, trivial⟩, hB0⟩
    (fun x => { tmps := #[.slice none 0 0, .func (.func 52) #[] #[.pointer (some ⟨Bm, 0, none⟩)], .pointer (some ⟨w.heap.size, 0, none⟩), undef, .slice none 0 0, uv x, .func (.func 52) #[] #[.pointer (some ⟨Bm, 0, none⟩)], uv x, undef, undef, undef, undef, undef], defers := [] }) ?assign ?body ?done ?stop
  case assign =>
    intro l x W K hK
    gi_wp2
    exact hK
  case body =>
    rintro l pre x W ⟨⟨v, hv, hrow, _⟩, hB⟩ hlt
    have hc := hv.cell
    unfold uv
    gi_wp2_with (gi_at_builtin; refine wpListIn_append_own _ rfl _ _ 34 rfl w.heap.size 22 i0 (.int .u64 0) 1 8 Tryz.underlying34 hi hz0 hz1 hz2 rfl (by decide) _ _ _ rfl (hrow.alloc _) ⟨W.heap.size, 0, none⟩ 1 1 [.int .u64 (x : Int)] rfl rfl (cell_one_new _ _ _) (by simp [Value.oneCell']) (by unfold maxLen; omega) (by omega) (by have := hB.size; simp; omega) ?_; intro v' w1 hown' hgrow _; obtain ⟨g', cap', rfl⟩ := ownsRow_succ hown'; obtain ⟨hv1, hv2, hr2, hk2, hb2⟩ := hv.appended (by decide) hrow hB.size (Nat.le_refl _) hown' hgrow; have hc1 := hv1.cell; have hf1 := hv1.frozen)
    exact ⟨hk2, hk2.walks, ⟨_, hv2, by rw [List.length_append, List.map_append]; exact hr2, trivial⟩, hB.trans hb2⟩
  case done =>
    rintro D ys W hD hS ⟨⟨v, hv, hrow, _⟩, hB⟩ hK
    have hc := hv.cell
    gi_wp2
    refine ⟨by simp, .inl ⟨_, _, rfl, run_takeDeferred hK, ?_⟩⟩
    exact ⟨_, results_tmp rfl _ _ _, v, ys, rfl, hS, ownsRow_putObj hrow _ hK rfl, hB.trans (belowK_b (w := w) (Nat.le_refl _) W D _ _ (by simp at hD; omega) hK rfl rfl)⟩
  case stop =>
    rintro D c pre W _ _ h _
    exact h.elim
theorem appendseqU_any (Bm : Nat) (hnd : (addrs m).Nodup) (w : World) (hBm : Bm < w.heap.size) (hm : w.cell? ⟨Bm, 0, none⟩ = some (.map (some b))) (hown : MapL Tryz.prog 22 w b (VL f m)) (hlen : m.length ≤ 512) :
    Calls Tryz.prog 65 #[.slice none 0 0, .func (.func 52) #[] #[.pointer (some ⟨Bm, 0, none⟩)]] w fun e W' => ∃ (v : Value) (ss : List Nat), e = .returned v ∧ ss.Perm (addrs m) ∧ W'.ownsRow w.heap.size 22 1 v ss.length (ss.map uv) ∧ Below w.heap.size w W' :=
  callsIn_wide.1 (appendseqU_in 3 (Nat.le_refl _) Bm hnd w hBm hm hown hlen)
theorem sorted_eq (ss : List Nat) (l : List Nat) (hp : ss.Perm l) (hl : l.Pairwise (· < ·)) : (Sort.insertionSort ltN ss.toArray 0 ss.toArray.size).toList = l := by
  have h := Sort.insertionSort_holds swoN ss.toArray 0 ss.toArray.size (Nat.zero_le _) (Nat.le_refl _)
  have h2 := Sort.sorted_unique_holds swoN (fun x y h1 h2 => by simp only [ltN, decide_eq_false_iff_not] at h1 h2; omega) ss.toArray _ h.1 h.2
  rw [h2]
  have e : (fun x y => !ltN y x) = fun x y => decide (x ≤ y) := by
    funext x y
    unfold ltN
    rw [Bool.eq_iff_iff]
    simp
  rw [e]
  refine List.Perm.eq_of_pairwise (le := fun a b : Nat => a ≤ b) (fun a b _ _ h1 h2 => Nat.le_antisymm h1 h2) ?_ (hl.imp fun h => Nat.le_of_lt h) ((List.mergeSort_perm _ _).trans hp)
  have := List.pairwise_mergeSort (le := fun x y : Nat => decide (x ≤ y)) (by simp; omega) (by simp; omega) ss
  simpa using this
set_option maxHeartbeats 2000000 in
theorem keysU_any (b : Nat) (w : World) : Calls Tryz.prog 34 #[.map (some b)] w fun e w' => e = .returned (.func (.func 52) #[] #[.pointer (some ⟨w.heap.size, 0, none⟩)]) ∧ w' = w.alloc (.cells #[.map (some b)] 63) := by
  go_enter Tryz.func34, Tryz.ntmps34
  go_wp2_with fail
  go_ret
  exact ⟨rfl, rfl⟩
theorem own_shape {base : Nat} {e : TypeId} {k n : Nat} {v : Value} {xs : List Value} (h : w.ownsRow base e k v n xs) : ∃ a2 c2, v = .slice a2 n c2 := by
  rcases h.2 with ⟨rfl, e0⟩ | ⟨g, cap, cur, rfl, _⟩
  · exact ⟨none, 0, by rw [e0]⟩
  · exact ⟨_, _, rfl⟩
set_option maxHeartbeats 1000000 in
theorem collectU_any (Bm : Nat) (hnd : (addrs m).Nodup) (w : World) (hBm : Bm < w.heap.size) (hm : w.cell? ⟨Bm, 0, none⟩ = some (.map (some b))) (hown : MapL Tryz.prog 22 w b (VL f m)) (hlen : m.length ≤ 512) :
    Calls Tryz.prog 50 #[.func (.func 52) #[] #[.pointer (some ⟨Bm, 0, none⟩)]] w fun e W' => ∃ (v : Value) (ss : List Nat), e = .returned v ∧ ss.Perm (addrs m) ∧ W'.ownsRow w.heap.size 22 1 v ss.length (ss.map uv) ∧ Below w.heap.size w W' := by
  have hap := appendseqU_any Bm hnd w hBm hm hown hlen
  go_enter Tryz.func50, Tryz.ntmps50
  go_wp2_with fail
  refine hap.mono ?_
  rintro e W ⟨v, ss, rfl, h1, h2, h3⟩
  obtain ⟨a2, c2, rfl⟩ := own_shape h2
  go_wp2_with fail
  go_ret
  exact ⟨_, ss, rfl, h1, h2, h3⟩
/-- sorting what came: the addresses -/
theorem sort_addrs {v : Value} {base : Nat} (ss : List Nat) (hp : ss.Perm (addrs m)) (hsrt : (addrs m).Pairwise (· < ·)) (hlen : m.length ≤ 12) (ho : w.ownsRow base 22 1 v m.length (ss.map uv)) :
    Calls Tryz.prog 51 #[v] w fun e w' => e = .returned (.tuple #[]) ∧ w'.ownsRow base 22 1 v m.length ((addrs m).map uv) ∧ Keep (fun j => some j = v.ownBlock) w w' ∧ w'.heap.size = w.heap.size := by
  have hsl : m.length = ss.toArray.size := by rw [List.size_toArray, hp.length_eq]; simp [addrs]
  have hse := sorted_eq ss (addrs m) hp hsrt
  rw [hsl] at ho hlen ⊢
  refine (sort_small (w := w) (D := ss.toArray) (v := v) ho hlen).mono ?_
  rintro e W ⟨h1, h2, h3, h4⟩
  rw [hse] at h2
  exact ⟨h1, h2, h3, h4⟩
set_option maxHeartbeats 1000000 in
/-- slices.Sorted(maps.Keys(m)), of up to twelve pages -/
theorem sortedU_any (Bm : Nat) (hsrt : (addrs m).Pairwise (· < ·)) (w : World) (hBm : Bm < w.heap.size) (hm : w.cell? ⟨Bm, 0, none⟩ = some (.map (some b))) (hown : MapL Tryz.prog 22 w b (VL f m)) (hlen : m.length ≤ 12) :
    Calls Tryz.prog 33 #[.func (.func 52) #[] #[.pointer (some ⟨Bm, 0, none⟩)]] w fun e W' => ∃ v : Value, e = .returned v ∧ W'.ownsRow w.heap.size 22 1 v m.length ((addrs m).map uv) ∧ Keep No w W' := by
  have hco := collectU_any Bm (hsrt.imp fun h => Nat.ne_of_lt h) w hBm hm hown (by omega)
  have hso := fun (W : World) (v : Value) (ss : List Nat) (hp : ss.Perm (addrs m)) (ho : W.ownsRow w.heap.size 22 1 v m.length (ss.map uv)) => sort_addrs (w := W) ss hp hsrt hlen ho
  have hal : (addrs m).length = m.length := by simp [addrs]
  generalize addrs m = l at *
  clear hsrt hown hm hlen
  generalize m.length = n at *
  go_enter Tryz.func33, Tryz.ntmps33
  go_wp2_with fail
  refine hco.mono ?_
  rintro e W ⟨v, ss, rfl, hp, ho, hB⟩
  rw [hp.length_eq, hal] at ho
  have hs := hso W v ss hp ho
  clear hso hco
  obtain ⟨a2, c2, rfl⟩ := own_shape ho
  go_wp2_with fail
  refine hs.mono ?_
  rintro e W2 ⟨rfl, h1, h2, h3⟩
  go_wp2_with fail
  go_ret
  exact ⟨_, rfl, h1, (Keep.of_below hB).trans h2 fun j hj e => by have := (ho.lt j e.symm).1; omega⟩
end
end Go.Proofs.YtaoillfofiehpaaGreatDoor
namespace Go.Proofs.YtaoillfofiehpaaGreatDoor
open Go.RowKit Go.Dm Go.Dm.Vm Go.Maps Go.Dm.Oc Go.WideMaps Go.WideElems

/-- a page as it is told; its bytes lie in block g addr, from 4 on -/
def encP (g : Nat → Nat) (p : Pg) : List Value := [.int .u64 (p.addr : Int), .int .i64 (p.prot : Int), .bool p.dirty, .string ⟨p.file.toArray⟩, .int .u64 (p.off : Int), .slice (some ⟨g p.addr, 4, none⟩) 256 256]
structure PgsV (base : Nat) (w : World) (v : Value) (m : V) (g : Nat → Nat) : Prop where
  row : FlO w base 88 6 (encP g) v m
  pg : ∀ p ∈ m, base ≤ g p.addr ∧ Blk w (g p.addr) (pgC p) 71
theorem PgsV.no {base : Nat} {w w' : World} {v : Value} {m : V} {g : Nat → Nat} (h : PgsV base w v m g) (hk : Keep No w w') : PgsV base w' v m g :=
  ⟨h.row.no hk, fun p hp => ⟨(h.pg p hp).1, (h.pg p hp).2.keep hk fun h => h⟩⟩
theorem PgsV.base_le {base b2 : Nat} {w : World} {v : Value} {m : V} {g : Nat → Nat} (h : PgsV base w v m g) (hb : b2 ≤ base) : PgsV b2 w v m g :=
  ⟨World.ownsRow.base_le h.row hb, fun p hp => ⟨Nat.le_trans hb (h.pg p hp).1, (h.pg p hp).2⟩⟩
theorem encP_len (g : Nat → Nat) (p : Pg) : (encP g p).length = 6 := rfl
theorem encP_one (g : Nat → Nat) (p : Pg) : ∀ u ∈ encP g p, u.oneCell' = true := by
  intro u hu
  simp only [encP, List.mem_cons, List.not_mem_nil, or_false] at hu
  rcases hu with rfl | rfl | rfl | rfl | rfl | rfl <;> rfl
theorem pgT_info : (Tryz.prog.info? 88).map (fun i => (i.zero, i.size, i.bytes)) = some (some (.agg #[.int .u64 0, .int .i64 0, .bool false, .string ⟨#[]⟩, .int .u64 0, .slice none 0 0]), 6, 72) := by kernel_rfl
section
variable {A : Nat → Prop} {w : World} {d mb x y z u v : Nat} {f : Nat → Nat} {m : V}
set_option maxRecDepth 100000 in
set_option maxHeartbeats 4000000 in
theorem vpages_any (h : SRep A w d m mb f) (hA : ∀ k, A k → k < w.heap.size) (hlen : m.length ≤ 12) :
    Calls Tryz.prog 18 #[ptrTo d] w fun e w' => ∃ v g, e = .returned v ∧ PgsV w.heap.size w' v m g ∧ Keep No w w' := by
  have hsrt : (addrs m).Pairwise (· < ·) := by unfold addrs; rw [List.pairwise_map]; exact h.ok.srt
  have qd : w.cell? ⟨d, 0, none⟩ = some (.map (some mb)) := h.blk.cell 0
  unfold ptrTo
  go_enter Tryz.func18, Tryz.ntmps18
  go_wp2_with fail
  refine (keysU_any mb _).mono ?_
  rintro e W0 ⟨rfl, rfl⟩
  have hm1 := h.mp.same (w' := w.alloc (.cells #[.map (some mb)] 63)) (Below.heap_alloc _ _ _ h.mp.lt)
  have hk1 : Keep No w (w.alloc (.cells #[.map (some mb)] 63)) := (Keep.refl _ _).alloc _
  have hc1 : (w.alloc (.cells #[.map (some mb)] 63)).cell? ⟨w.heap.size, 0, none⟩ = some (.map (some mb)) := (Blk.new w _ _).cell 0
  have hs1 : (w.alloc (.cells #[.map (some mb)] 63)).heap.size = w.heap.size + 1 := World.size_alloc _ _
  generalize w.alloc (.cells #[.map (some mb)] 63) = W1 at *
  have hso := sortedU_any w.heap.size hsrt W1 (by omega) hc1 hm1 hlen
  clear hc1 hm1
  go_wp2_with fail
  refine hso.mono ?_
  rintro e W2 ⟨kv, rfl, ho, hk2⟩
  clear hso
  have hkw := hk1.trans' hk2
  have hbase : w.heap.size ≤ W1.heap.size := by omega
  clear hk1 hk2 hs1
  obtain ⟨a2, c2, rfl⟩ := own_shape ho
  have hal : (addrs m).length = m.length := by simp [addrs]
  have hkey : ∀ i (hi : i < m.length), ∃ g0, a2 = some ⟨g0, 0, none⟩ ∧ W2.cell? ⟨g0, i, none⟩ = some (.int .u64 (m[i].addr : Int)) ∧ w.heap.size ≤ g0 ∧ g0 < W2.heap.size := fun i hi => by
    rcases ho.2 with ⟨_, e0⟩ | ⟨g0, cap, cur, e, hb, _⟩
    · omega
    · cases e
      refine ⟨g0, rfl, ?_, by omega, (ho.lt g0 rfl).2⟩
      rw [ho.cellAt i (by omega), List.getElem?_map]
      unfold addrs
      rw [List.getElem?_map, List.getElem?_eq_getElem hi]
      rfl
  clear ho hsrt
  go_wp2_with fail
  go_loopw [3, 16] (fun ov iv wr => ∃ (i : Nat) (g : Nat → Nat), iv = .int .i64 i ∧ i ≤ m.length ∧ PgsV W2.heap.size wr ov (m.take i) g ∧ Keep No W2 wr) (fun _ iv _ => m.length - (intOf iv).toNat)
  case atStart => exact ⟨0, fun _ => 0, rfl, Nat.zero_le _, ⟨FlO.nil, fun p hp => (by simp at hp)⟩, Keep.refl _ _⟩
  case round =>
    obtain ⟨i, g, rfl, hi, hP, hk⟩ := hrel
    obtain ⟨ao, co, rfl, _, _⟩ := hP.row.fl.shape
    have hil : (m.take i).length = i := by rw [List.length_take]; omega
    rw [hil] at hP ⊢
    rcases Nat.lt_or_ge i m.length with hlt | hge
    · obtain ⟨g0, rfl, hkc, hg0, hgl⟩ := hkey i hlt
      have hkw2 := hkw.trans' hk
      have qd' : wr.cell? ⟨d, 0, none⟩ = some (.map (some mb)) := (hkw2.cell (p := ⟨d, 0, none⟩) h.blk.lt fun h => h).trans qd
      have qk : wr.cell? ⟨g0, i, none⟩ = some (.int .u64 (m[i].addr : Int)) := (hk.cell (p := ⟨g0, i, none⟩) hgl fun h => h).trans hkc
      have hS := h.no hA hkw2
      have hpm : m[i] ∈ m := List.getElem_mem hlt
      have hat := get_of_mem h.ok.srt hpm
      have hpok := h.ok.pg _ hpm
      have hlk := hS.lk (by have := hpok.lt; unfold top at this; omega) hat wr rfl
      have hBp := (hS.pg _ hpm).2
      have htk : m.take (i + 1) = m.take i ++ [m[i]] := List.take_succ_eq_append_getElem hlt
      have hne : ∀ q ∈ m.take i, q.addr ≠ m[i].addr := fun q hq e => by
        obtain ⟨j, hj, rfl⟩ := List.getElem_of_mem hq
        rw [List.getElem_take] at e
        have hj2 : j < i := by rw [hil] at hj; exact hj
        have := List.pairwise_iff_getElem.1 h.ok.srt j i (by omega) hlt hj2
        omega
      generalize m[i] = p at *
      have hltz : (i : Int) < (m.length : Int) := by omega
      have h1 := pgC_one p
      have hsz := pgC_size hpok.bl
      generalize hC : pgC p = C at *
      have hi2 : (Tryz.prog.info? 71).map (·.size) = some C.size := by rw [hsz]; kernel_rfl
      have hz0 : Tryz.zeroCells71.size = C.size := by rw [hsz]; kernel_rfl
      have HC := Lib.hid hC
      clear hC
      have HO := Lib.hid hpok
      clear hpok
      generalize f p.addr = gp at *
      go_wp2_with (at_lookup; refine wl_lookup rfl _ _ _ _ rfl _ _ rfl rfl ?_)
      refine .mk hlk ?_
      go_wp2_with (with_reducible refine wl_ld rfl _ 71 rfl _ rfl ?_)
      refine rg_ld hBp Tryz.underlying71 rfl hi2 ?_
      go_wp2_with (with_reducible refine wl_stAgg rfl _ _ _ rfl _ _ rfl rfl ?_)
      refine rg_stAgg (Blk.new wr _ _) hi2 hz0 h1 ?_
      intro w2 hb2 hk2 hs2
      have hka : Keep No wr (wr.alloc (.cells Tryz.zeroCells71 71)) := (Keep.refl _ _).alloc _
      have hk2' : Keep No wr w2 := hka.trans hk2 fun j hj e => by have e2 : j = wr.heap.size := e; omega
      have hsz2 : wr.heap.size < w2.heap.size := hb2.lt
      clear hk2 hs2 hka hlk hBp
      have hP2 : PgsV W2.heap.size w2 (.slice ao i co) (m.take i) g := hP.no hk2'
      have hkN := hk.trans' hk2'
      clear hP qk qd' hS hkw2 hkc hkey qd
      have hC := HC.out
      subst hC
      have b0 : w2.cell? ⟨wr.heap.size, 0, none⟩ = some (.int .i64 (p.prot : Int)) := hb2.cell 0
      have b1 : w2.cell? ⟨wr.heap.size, 1, none⟩ = some (.bool p.dirty) := hb2.cell 1
      have b2 : w2.cell? ⟨wr.heap.size, 2, none⟩ = some (.string ⟨p.file.toArray⟩) := hb2.cell 2
      have b3 : w2.cell? ⟨wr.heap.size, 3, none⟩ = some (.int .u64 (p.off : Int)) := hb2.cell 3
      have hwl : W2.heap.size ≤ wr.heap.size := hk.size
      have hw2l : W2.heap.size ≤ w2.heap.size := Nat.le_trans hwl hk2'.size
      clear h1 hsz hi2 hz0 HC hk hk2'
      have HB := Lib.hid hb2
      clear hb2
      generalize hnb : wr.heap.size = nb at *
      clear hnb
      go_wp2_with fail
      refine wp_region_sig (fun w' => w'.cell? ⟨nb, 0, none⟩ = some (.int .i64 (p.prot : Int)) ∧ w'.cell? ⟨nb, 1, none⟩ = some (.bool p.dirty) ∧ w'.cell? ⟨nb, 2, none⟩ = some (.string ⟨p.file.toArray⟩) ∧ w'.cell? ⟨nb, 3, none⟩ = some (.int .u64 (p.off : Int))) (fun j => decide (j ≤ 13)) [(0, true), (1, true), (2, true), (3, true), (4, true), (5, true), (6, true), (7, true), (8, true), (9, true), (10, true), (11, true), (12, true), (13, false), (14, false), (15, false)] (by kernel_rfl) (by kernel_rfl) (by intro c a d v w h; cases d <;> exact h) ⟨b0, b1, b2, b3⟩ ?_
      apply sig_still (o := ⟨some 28, _, _, _, _, _⟩) rfl rfl
      · intro w' hS
        obtain ⟨q1, q2, q3, q4⟩ := hS
        first | (go_simp; done) | (go_simp; rfl) | rfl
      go_frame
      apply sig_still (o := ⟨some 29, _, _, _, _, _⟩) rfl rfl
      · intro w' hS
        obtain ⟨q1, q2, q3, q4⟩ := hS
        first | (go_simp; done) | (go_simp; rfl) | rfl
      go_frame
      apply sig_still (o := ⟨some 30, _, _, _, _, _⟩) rfl rfl
      · intro w' hS
        obtain ⟨q1, q2, q3, q4⟩ := hS
        first | (go_simp; done) | (go_simp; rfl) | rfl
      go_frame
      apply sig_still (o := ⟨some 31, _, _, _, _, _⟩) rfl rfl
      · intro w' hS
        obtain ⟨q1, q2, q3, q4⟩ := hS
        first | (go_simp; done) | (go_simp; rfl) | rfl
      go_frame
      apply sig_still (o := ⟨some 32, _, _, _, _, _⟩) rfl rfl
      · intro w' hS
        obtain ⟨q1, q2, q3, q4⟩ := hS
        first | (go_simp; done) | (go_simp; rfl) | rfl
      go_frame
      apply sig_still (o := ⟨some 33, _, _, _, _, _⟩) rfl rfl
      · intro w' hS
        obtain ⟨q1, q2, q3, q4⟩ := hS
        first | (go_simp; done) | (go_simp; rfl) | rfl
      go_frame
      apply sig_still (o := ⟨some 34, _, _, _, _, _⟩) rfl rfl
      · intro w' hS
        obtain ⟨q1, q2, q3, q4⟩ := hS
        first | (go_simp; done) | (go_simp; rfl) | rfl
      go_frame
      apply sig_still (o := ⟨some 35, _, _, _, _, _⟩) rfl rfl
      · intro w' hS
        obtain ⟨q1, q2, q3, q4⟩ := hS
        first | (go_simp; done) | (go_simp; rfl) | rfl
      go_frame
      apply sig_still (o := ⟨some 36, _, _, _, _, _⟩) rfl rfl
      · intro w' hS
        obtain ⟨q1, q2, q3, q4⟩ := hS
        first | (go_simp; done) | (go_simp; rfl) | rfl
      go_frame
      apply sig_still (o := ⟨some 37, _, _, _, _, _⟩) rfl rfl
      · intro w' hS
        obtain ⟨q1, q2, q3, q4⟩ := hS
        first | (go_simp; done) | (go_simp; rfl) | rfl
      go_frame
      apply sig_still (o := ⟨some 38, _, _, _, _, _⟩) rfl rfl
      · intro w' hS
        obtain ⟨q1, q2, q3, q4⟩ := hS
        first | (go_simp; done) | (go_simp; rfl) | rfl
      go_frame
      apply sig_still (o := ⟨some 39, _, _, _, _, _⟩) rfl rfl
      · intro w' hS
        obtain ⟨q1, q2, q3, q4⟩ := hS
        first | (go_simp; done) | (go_simp; rfl) | rfl
      go_frame
      apply sig_still (o := ⟨some 40, _, _, _, _, _⟩) rfl rfl
      · intro w' hS
        obtain ⟨q1, q2, q3, q4⟩ := hS
        first | (go_simp; done) | (go_simp; rfl) | rfl
      go_frame
      refine sig_eff (o := ⟨some 41, _, _, _, _, _⟩) rfl rfl (fun K hKe => ?_)
      go_wp2_with fail
      have hwd : (w2.alloc (.cells #[.int .u64 (p.addr : Int), .int .i64 (p.prot : Int), .bool p.dirty, .string ⟨p.file.toArray⟩, .int .u64 (p.off : Int), .slice (some ⟨nb, 4, none⟩) 256 256] 88)).drew = w2.drew.alloc (.cells #[.int .u64 (p.addr : Int), .int .i64 (p.prot : Int), .bool p.dirty, .string ⟨p.file.toArray⟩, .int .u64 (p.off : Int), .slice (some ⟨nb, 4, none⟩) 256 256] 88) := rfl
      rw [hwd]
      clear hwd
      have hkd : Keep No w2 (w2.drew.alloc (.cells #[.int .u64 (p.addr : Int), .int .i64 (p.prot : Int), .bool p.dirty, .string ⟨p.file.toArray⟩, .int .u64 (p.off : Int), .slice (some ⟨nb, 4, none⟩) 256 256] 88)) := ((Keep.refl No w2).drew).alloc _
      refine ⟨fun _ => ⟨(hkd.cell (p := ⟨nb, 0, none⟩) hsz2 fun h => h).trans b0, (hkd.cell (p := ⟨nb, 1, none⟩) hsz2 fun h => h).trans b1, (hkd.cell (p := ⟨nb, 2, none⟩) hsz2 fun h => h).trans b2, (hkd.cell (p := ⟨nb, 3, none⟩) hsz2 fun h => h).trans b3⟩, ?_⟩
      clear b0 b1 b2 b3
      refine sig_eff (o := ⟨some 42, _, _, _, _, _⟩) rfl rfl (fun K hKe => ?_)
      refine wo_append _ _ _ _ rfl _ _ rfl rfl ?_
      have hrow : FlO w2.drew W2.heap.size 88 6 (encP fun a => if a = p.addr then nb else g a) (.slice ao i co) (m.take i) := by
        have h1 := hP2.row.no (Keep.refl No w2).drew
        unfold FlO at h1 ⊢
        have e : (m.take i).flatMap (encP fun a => if a = p.addr then nb else g a) = (m.take i).flatMap (encP g) := by
          rw [List.flatMap_def, List.flatMap_def]
          congr 1
          apply List.map_congr_left
          intro q hq
          simp only [encP, if_neg (hne q hq)]
        rw [e]
        exact h1
      refine rg_push (w := w2.drew) _ 72 Tryz.underlying54 pgT_info rfl (by decide) (enc := encP fun a => if a = p.addr then nb else g a) (x := p) (by simp [encP]) rfl (encP_one _ _) hrow (by rw [hil]; omega) (by decide) (by exact hw2l) ?_
      intro v' w3 ho3 hk3 _
      have hk3' : Keep No W2 w3 := (hkN.trans' (Keep.refl No w2).drew).own hrow hk3
      have hnbr : ∀ j, some j = (Value.slice ao i co).ownBlock → ∀ C, Blk w2 j C 71 → False := fun j hj C hB => by
        have h1 := hP2.row.2
        rcases h1 with ⟨e, _⟩ | ⟨g1, cap1, cur1, e, _, hB1, _⟩
        · rw [e] at hj; cases hj
        · rw [e] at hj
          simp only [Value.ownBlock, Option.some.injEq] at hj
          have hB' : w2.heap[j]? = some (Obj.cells C 71 (0, 0)) := hB
          rw [← hj, hB'] at hB1
          simp at hB1
      have hP3 : PgsV W2.heap.size w3 v' (m.take (i + 1)) (fun a => if a = p.addr then nb else g a) := by
        refine ⟨by rw [htk]; exact ho3, fun q hq => ?_⟩
        rw [htk, List.mem_append, List.mem_singleton] at hq
        have hkd2 : ∀ j C, Blk w2 j C 71 → Blk w3 j C 71 := fun j C hB => (hB.keep (Keep.refl No w2).drew fun h => h).keep hk3 fun e => hnbr j e C hB
        rcases hq with hq | rfl
        · simp only [if_neg (hne q hq)]
          exact ⟨(hP2.pg q hq).1, hkd2 _ _ (hP2.pg q hq).2⟩
        · simp only [if_true]
          exact ⟨hwl, hkd2 _ _ HB.out⟩
      clear hnbr hrow hkd hkN hP2 ho3 hk3
      refine hKe _ _ ⟨fun h => by simp at h, ?_⟩
      obtain ⟨ao2, co2, rfl, _, _⟩ := hP3.row.fl.shape
      have htl : (m.take (i + 1)).length = i + 1 := by rw [List.length_take]; omega
      rw [htl] at hP3 ⊢
      refine sig_eff (o := ⟨some 3, _, _, _, _, _⟩) rfl rfl (fun K hKe => ?_)
      go_wp2_with fail
      refine ⟨fun h => by simp at h, sig_nil ?_⟩
      go_wp2_with fail
      go_roundw
      case rel => exact ⟨i + 1, _, by go_num, hlt, hP3, hk3'⟩
      case measure => simp [intOf]; omega
    · obtain rfl : i = m.length := Nat.le_antisymm hi hge
      rw [List.take_length] at hP
      go_wp2_with fail
      go_ret
      exact ⟨_, g, rfl, hP.base_le hkw.size, hkw.trans' hk⟩
end
end Go.Proofs.YtaoillfofiehpaaGreatDoor
