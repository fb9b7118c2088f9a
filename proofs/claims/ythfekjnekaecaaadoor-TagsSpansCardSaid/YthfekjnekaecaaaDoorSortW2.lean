/- The sort's smaller parts at uint64: what they leave is the row, its numbers exchanged among themselves. The sort's random exchanges at uint64. No condition. -/
import Derived.Test.YthfekjnekaecaaaDoorSortK
import Derived.Sort.Lot0
import Derived.BigGuard
import Derived.BigCall
import Derived.BigRegion
import Derived.Lib.BitFns
set_option linter.unusedVariables false
set_option linter.unusedSimpArgs false
namespace Go.Proofs.YthfekjnekaecaaaDoor
open Go.RowKit Go.Dm
/-- the row's numbers between a and b are exchanged among themselves -/
def PermTo (base g cap a b : Nat) (D : Array Nat) (w w' : World) : Prop := ∃ E, Sort.PermIn a b D E ∧ Nums w' base g cap E ∧ Keep (fun j => j = g) w w'
section
variable {w : World} {base g cap a b : Nat} {D E : Array Nat}
theorem Nums.drewN (h : Nums w base g cap D) (q : Nat) : Nums (w.drewN q) base g cap D := h
theorem Nums.drew (h : Nums w base g cap D) : Nums w.drew base g cap D := h
theorem Nums.other {S : Nat → Prop} {w' : World} (h : Nums w base g cap D) (hk : Keep S w w') (hS : ¬ S g) : Nums w' base g cap D := by
  refine ⟨h.1, h.2.imp id ?_⟩
  rintro ⟨g', cap', cur, e, h1, h2, r⟩
  cases e
  exact ⟨g, _, cur, rfl, h1, (hk.block g h.lt hS).trans h2, r⟩
theorem less_same (a b : Nat) (w : World) : Calls Tryd.prog 81 #[.int .u64 (a : Int), .int .u64 (b : Int)] w fun e w' => e = .returned (.bool (ltN a b)) ∧ w' = w := (less_any a b w).mono fun _ _ h => ⟨h.1, h.2.symm⟩
set_option maxRecDepth 100000 in
set_option maxHeartbeats 4000000 in
theorem rev_any (h : Nums w base g cap D) (hab : a < b) (hb : b ≤ D.size) (hn : D.size ≤ 1099511627776) :
    Calls Tryd.prog 79 #[.slice (some ⟨g, 0, none⟩) D.size cap, .int .i64 (a : Int), .int .i64 (b : Int)] w fun e w' => e = .returned (.tuple #[]) ∧ PermTo base g cap a b D w w' := by
  generalize hN : D.size = n at *
  have HN := Lib.hid hN
  clear hN
  go_enter Tryd.func79, Tryd.ntmps79
  go_wp2_with (first | (at_builtin; refine wl_append rfl _ _ _ _ rfl _ _ rfl rfl ?_) | (at_make; refine wl_make rfl _ _ _ rfl _ _ rfl rfl ?_) | (at_mapUpdate; refine wl_mapUpdate rfl _ _ _ _ rfl _ _ _ rfl rfl rfl ?_) | (at_lookup; refine wl_lookup rfl _ _ _ _ rfl _ _ rfl rfl ?_) | (at_delete; refine wl_delete rfl _ _ _ _ rfl _ _ rfl rfl ?_) | (with_reducible refine wl_len rfl _ _ rfl _ rfl ?_) | (with_reducible refine wl_range rfl _ _ rfl _ rfl ?_) | (with_reducible refine wl_next rfl _ rfl _ rfl ?_) | (with_reducible refine wl_copy rfl _ _ _ _ rfl _ _ rfl rfl ?_) | (with_reducible refine wl_max rfl _ _ _ _ rfl _ _ rfl rfl ?_) | (with_reducible refine wl_min rfl _ _ _ _ rfl _ _ rfl rfl ?_))
  go_loopw [6, 7] (fun iv jv wr => ∃ (i j : Nat) (E : Array Nat), iv = .int .i64 (i : Int) ∧ jv = .int .i64 (j : Int) ∧ a ≤ i ∧ j < b ∧ Sort.PermIn a b D E ∧ Nums wr base g cap E ∧ Keep (fun j => j = g) w wr) (fun _ jv _ => (intOf jv).toNat)
  case atStart => exact ⟨a, b - 1, D, rfl, by go_num, Nat.le_refl _, by omega, Sort.permIn_refl _ _ _, h, Keep.refl _ _⟩
  case round =>
    clear h
    obtain ⟨i, j, E, rfl, rfl, hi, hj, hp, hO, hk⟩ := hrel
    generalize wr = wz at *
    have hEs : E.size = n := hp.1.trans HN.out
    rcases Nat.lt_or_ge i j with hlt | hge
    · have hz : (i : Int) < (j : Int) := by omega
      have hne : i ≠ j := by omega
      have c1 := hO.cell (i := i) (by omega)
      have c2 := hO.cell (i := j) (by omega)
      have f1 := hO.frozen i
      have f2 := hO.frozen j
      have hsw : Nums ((wz.setCell ⟨g, i, none⟩ (uv E[j]!)).setCell ⟨g, j, none⟩ (uv E[i]!)) base g cap (Sort.swp E i j) := (hO.set i E[j]!).set j E[i]!
      have hkw : Keep (fun j => j = g) w ((wz.setCell ⟨g, i, none⟩ (uv E[j]!)).setCell ⟨g, j, none⟩ (uv E[i]!)) := (hk.setCell (p := ⟨g, i, none⟩) (fun _ => rfl) _).setCell (p := ⟨g, j, none⟩) (fun _ => rfl) _
      have HP := Lib.hid (Sort.permIn_trans _ _ _ _ _ hp (Sort.swp_permIn E a b i j (by omega) (by omega) (by omega) (by omega) (by omega)))
      unfold uv at c1 c2 hsw hkw
      generalize E[i]! = x at *
      generalize E[j]! = y at *
      have HSW := Lib.hid hsw
      have HKW := Lib.hid hkw
      clear hsw hkw hp hEs
      go_wp2_with (first | (at_builtin; refine wl_append rfl _ _ _ _ rfl _ _ rfl rfl ?_) | (at_make; refine wl_make rfl _ _ _ rfl _ _ rfl rfl ?_) | (at_mapUpdate; refine wl_mapUpdate rfl _ _ _ _ rfl _ _ _ rfl rfl rfl ?_) | (at_lookup; refine wl_lookup rfl _ _ _ _ rfl _ _ rfl rfl ?_) | (at_delete; refine wl_delete rfl _ _ _ _ rfl _ _ rfl rfl ?_) | (with_reducible refine wl_len rfl _ _ rfl _ rfl ?_) | (with_reducible refine wl_range rfl _ _ rfl _ rfl ?_) | (with_reducible refine wl_next rfl _ rfl _ rfl ?_) | (with_reducible refine wl_copy rfl _ _ _ _ rfl _ _ rfl rfl ?_) | (with_reducible refine wl_max rfl _ _ _ _ rfl _ _ rfl rfl ?_) | (with_reducible refine wl_min rfl _ _ _ _ rfl _ _ rfl rfl ?_))
      go_region
      go_wp2_with (first | (at_builtin; refine wl_append rfl _ _ _ _ rfl _ _ rfl rfl ?_) | (at_make; refine wl_make rfl _ _ _ rfl _ _ rfl rfl ?_) | (at_mapUpdate; refine wl_mapUpdate rfl _ _ _ _ rfl _ _ _ rfl rfl rfl ?_) | (at_lookup; refine wl_lookup rfl _ _ _ _ rfl _ _ rfl rfl ?_) | (at_delete; refine wl_delete rfl _ _ _ _ rfl _ _ rfl rfl ?_) | (with_reducible refine wl_len rfl _ _ rfl _ rfl ?_) | (with_reducible refine wl_range rfl _ _ rfl _ rfl ?_) | (with_reducible refine wl_next rfl _ rfl _ rfl ?_) | (with_reducible refine wl_copy rfl _ _ _ _ rfl _ _ rfl rfl ?_) | (with_reducible refine wl_max rfl _ _ _ _ rfl _ _ rfl rfl ?_) | (with_reducible refine wl_min rfl _ _ _ _ rfl _ _ rfl rfl ?_))
      go_roundw
      case rel => exact ⟨i + 1, j - 1, _, by go_num, by go_num, by omega, by omega, HP.out, HSW.out, HKW.out.drew⟩
      case measure => simp [intOf]; omega
    · have hz : ¬ (i : Int) < (j : Int) := by omega
      go_wp2_with (first | (at_builtin; refine wl_append rfl _ _ _ _ rfl _ _ rfl rfl ?_) | (at_make; refine wl_make rfl _ _ _ rfl _ _ rfl rfl ?_) | (at_mapUpdate; refine wl_mapUpdate rfl _ _ _ _ rfl _ _ _ rfl rfl rfl ?_) | (at_lookup; refine wl_lookup rfl _ _ _ _ rfl _ _ rfl rfl ?_) | (at_delete; refine wl_delete rfl _ _ _ _ rfl _ _ rfl rfl ?_) | (with_reducible refine wl_len rfl _ _ rfl _ rfl ?_) | (with_reducible refine wl_range rfl _ _ rfl _ rfl ?_) | (with_reducible refine wl_next rfl _ rfl _ rfl ?_) | (with_reducible refine wl_copy rfl _ _ _ _ rfl _ _ rfl rfl ?_) | (with_reducible refine wl_max rfl _ _ _ _ rfl _ _ rfl rfl ?_) | (with_reducible refine wl_min rfl _ _ _ _ rfl _ _ rfl rfl ?_))
      go_end0
      exact ⟨rfl, E, hp, hO, hk⟩
/-- two places, in the one order or the other; nothing is changed but '*swaps' -/
theorem ord2_any {x y s : Nat} {k : Int} (h : Nums w base g cap D) (hx : x < D.size) (hy : y < D.size) (hn : D.size ≤ 1099511627776) (hs : Blk w s #[.int .i64 k] 3) (h0 : 0 ≤ k) (h1 : k ≤ 1000000) (hgs : g ≠ s) :
    Calls Tryd.prog 98 #[.slice (some ⟨g, 0, none⟩) D.size cap, .int .i64 (x : Int), .int .i64 (y : Int), .pointer (some ⟨s, 0, none⟩)] w fun e w' => ∃ (x' y' : Nat) (k' : Int), e = .returned (.tuple #[.int .i64 (x' : Int), .int .i64 (y' : Int)]) ∧ (x' = x ∧ y' = y ∨ x' = y ∧ y' = x) ∧ Blk w' s #[.int .i64 k'] 3 ∧ 0 ≤ k' ∧ k' ≤ k + 1 ∧ Keep (fun j => j = s) w w' := by
  have c1 := h.cell hx
  have c2 := h.cell hy
  have q := hs.cell 0
  have qf := hs.frozen 0
  have HO := Lib.hid h
  have HKS := Lib.hid fun q => (show Keep (fun j => j = s) w ((w.drewN q).setCell ⟨s, 0, none⟩ (.int .i64 (k + 1))) from ((Keep.refl (fun j => j = s) w).drewN q).setCell (p := ⟨s, 0, none⟩) (fun _ => rfl) _)
  have HBS := Lib.hid fun q => (show Blk ((w.drewN q).setCell ⟨s, 0, none⟩ (.int .i64 (k + 1))) s #[.int .i64 (k + 1)] 3 from (show Blk (w.drewN q) s #[.int .i64 k] 3 from hs).set _)
  have HB0 := Lib.hid hs
  unfold uv at c1 c2
  generalize D[x]! = u at *
  generalize D[y]! = v at *
  generalize D.size = n at *
  clear h hs
  go_enter Tryd.func98, Tryd.ntmps98
  go_wp2_with (first | (at_builtin; refine wl_append rfl _ _ _ _ rfl _ _ rfl rfl ?_) | (at_make; refine wl_make rfl _ _ _ rfl _ _ rfl rfl ?_) | (at_mapUpdate; refine wl_mapUpdate rfl _ _ _ _ rfl _ _ _ rfl rfl rfl ?_) | (at_lookup; refine wl_lookup rfl _ _ _ _ rfl _ _ rfl rfl ?_) | (at_delete; refine wl_delete rfl _ _ _ _ rfl _ _ rfl rfl ?_) | (with_reducible refine wl_len rfl _ _ rfl _ rfl ?_) | (with_reducible refine wl_range rfl _ _ rfl _ rfl ?_) | (with_reducible refine wl_next rfl _ rfl _ rfl ?_) | (with_reducible refine wl_copy rfl _ _ _ _ rfl _ _ rfl rfl ?_) | (with_reducible refine wl_max rfl _ _ _ _ rfl _ _ rfl rfl ?_) | (with_reducible refine wl_min rfl _ _ _ _ rfl _ _ rfl rfl ?_))
  go_quiet (first | (go_at_call 81; exact Calls.quiet_of_same (less_same _ _ _)))
  go_wp2_with (first | (at_builtin; refine wl_append rfl _ _ _ _ rfl _ _ rfl rfl ?_) | (at_make; refine wl_make rfl _ _ _ rfl _ _ rfl rfl ?_) | (at_mapUpdate; refine wl_mapUpdate rfl _ _ _ _ rfl _ _ _ rfl rfl rfl ?_) | (at_lookup; refine wl_lookup rfl _ _ _ _ rfl _ _ rfl rfl ?_) | (at_delete; refine wl_delete rfl _ _ _ _ rfl _ _ rfl rfl ?_) | (with_reducible refine wl_len rfl _ _ rfl _ rfl ?_) | (with_reducible refine wl_range rfl _ _ rfl _ rfl ?_) | (with_reducible refine wl_next rfl _ rfl _ rfl ?_) | (with_reducible refine wl_copy rfl _ _ _ _ rfl _ _ rfl rfl ?_) | (with_reducible refine wl_max rfl _ _ _ _ rfl _ _ rfl rfl ?_) | (with_reducible refine wl_min rfl _ _ _ _ rfl _ _ rfl rfl ?_))
  · go_ret2
    exact ⟨y, x, k + 1, rfl, .inr ⟨rfl, rfl⟩, HBS.out _, by omega, by omega, HKS.out _⟩
  · go_ret2
    exact ⟨x, y, k, rfl, .inl ⟨rfl, rfl⟩, HB0.out, h0, by omega, (Keep.refl _ _).drewN nq⟩
/-- the median of three places is one of them -/
theorem med_any {x y z s : Nat} {k : Int} (h : Nums w base g cap D) (hx : x < D.size) (hy : y < D.size) (hz : z < D.size) (hn : D.size ≤ 1099511627776) (hs : Blk w s #[.int .i64 k] 3) (h0 : 0 ≤ k) (h1 : k ≤ 999990) (hgs : g ≠ s) :
    Calls Tryd.prog 92 #[.slice (some ⟨g, 0, none⟩) D.size cap, .int .i64 (x : Int), .int .i64 (y : Int), .int .i64 (z : Int), .pointer (some ⟨s, 0, none⟩)] w fun e w' => ∃ (m : Nat) (k' : Int), e = .returned (.int .i64 (m : Int)) ∧ (m = x ∨ m = y ∨ m = z) ∧ Blk w' s #[.int .i64 k'] 3 ∧ 0 ≤ k' ∧ k' ≤ k + 3 ∧ Keep (fun j => j = s) w w' := by
  have hord := fun (W : World) (hk : Keep (fun j => j = s) w W) (x y : Nat) (k : Int) (hx : x < D.size) (hy : y < D.size) (hs : Blk W s #[.int .i64 k] 3) (h0 : 0 ≤ k) (h1 : k ≤ 1000000) => ord2_any (w := W) (h.other hk hgs) hx hy hn hs h0 h1 hgs
  have HO := Lib.hid hord
  clear hord h
  generalize D.size = n at *
  go_enter Tryd.func92, Tryd.ntmps92
  go_wp2_with (first | (at_builtin; refine wl_append rfl _ _ _ _ rfl _ _ rfl rfl ?_) | (at_make; refine wl_make rfl _ _ _ rfl _ _ rfl rfl ?_) | (at_mapUpdate; refine wl_mapUpdate rfl _ _ _ _ rfl _ _ _ rfl rfl rfl ?_) | (at_lookup; refine wl_lookup rfl _ _ _ _ rfl _ _ rfl rfl ?_) | (at_delete; refine wl_delete rfl _ _ _ _ rfl _ _ rfl rfl ?_) | (with_reducible refine wl_len rfl _ _ rfl _ rfl ?_) | (with_reducible refine wl_range rfl _ _ rfl _ rfl ?_) | (with_reducible refine wl_next rfl _ rfl _ rfl ?_) | (with_reducible refine wl_copy rfl _ _ _ _ rfl _ _ rfl rfl ?_) | (with_reducible refine wl_max rfl _ _ _ _ rfl _ _ rfl rfl ?_) | (with_reducible refine wl_min rfl _ _ _ _ rfl _ _ rfl rfl ?_))
  refine (HO.out w (Keep.refl _ _) x y k hx hy hs h0 (by omega)).mono ?_
  rintro e w1 ⟨x1, y1, k1, rfl, e1, hs1, g1, l1, hk1⟩
  have hx1 : x1 < n := by omega
  have hy1 : y1 < n := by omega
  go_wp2_with (first | (at_builtin; refine wl_append rfl _ _ _ _ rfl _ _ rfl rfl ?_) | (at_make; refine wl_make rfl _ _ _ rfl _ _ rfl rfl ?_) | (at_mapUpdate; refine wl_mapUpdate rfl _ _ _ _ rfl _ _ _ rfl rfl rfl ?_) | (at_lookup; refine wl_lookup rfl _ _ _ _ rfl _ _ rfl rfl ?_) | (at_delete; refine wl_delete rfl _ _ _ _ rfl _ _ rfl rfl ?_) | (with_reducible refine wl_len rfl _ _ rfl _ rfl ?_) | (with_reducible refine wl_range rfl _ _ rfl _ rfl ?_) | (with_reducible refine wl_next rfl _ rfl _ rfl ?_) | (with_reducible refine wl_copy rfl _ _ _ _ rfl _ _ rfl rfl ?_) | (with_reducible refine wl_max rfl _ _ _ _ rfl _ _ rfl rfl ?_) | (with_reducible refine wl_min rfl _ _ _ _ rfl _ _ rfl rfl ?_))
  refine (HO.out w1 hk1 y1 z k1 hy1 hz hs1 g1 (by omega)).mono ?_
  rintro e w2 ⟨y2, z2, k2, rfl, e2, hs2, g2, l2, hk2⟩
  have hy2 : y2 < n := by omega
  have hk12 := hk1.trans' hk2
  go_wp2_with (first | (at_builtin; refine wl_append rfl _ _ _ _ rfl _ _ rfl rfl ?_) | (at_make; refine wl_make rfl _ _ _ rfl _ _ rfl rfl ?_) | (at_mapUpdate; refine wl_mapUpdate rfl _ _ _ _ rfl _ _ _ rfl rfl rfl ?_) | (at_lookup; refine wl_lookup rfl _ _ _ _ rfl _ _ rfl rfl ?_) | (at_delete; refine wl_delete rfl _ _ _ _ rfl _ _ rfl rfl ?_) | (with_reducible refine wl_len rfl _ _ rfl _ rfl ?_) | (with_reducible refine wl_range rfl _ _ rfl _ rfl ?_) | (with_reducible refine wl_next rfl _ rfl _ rfl ?_) | (with_reducible refine wl_copy rfl _ _ _ _ rfl _ _ rfl rfl ?_) | (with_reducible refine wl_max rfl _ _ _ _ rfl _ _ rfl rfl ?_) | (with_reducible refine wl_min rfl _ _ _ _ rfl _ _ rfl rfl ?_))
  refine (HO.out w2 hk12 x1 y2 k2 hx1 hy2 hs2 g2 (by omega)).mono ?_
  rintro e w3 ⟨x3, y3, k3, rfl, e3, hs3, g3, l3, hk3⟩
  have hE : y3 = x ∨ y3 = y ∨ y3 = z := by omega
  go_wp2_with (first | (at_builtin; refine wl_append rfl _ _ _ _ rfl _ _ rfl rfl ?_) | (at_make; refine wl_make rfl _ _ _ rfl _ _ rfl rfl ?_) | (at_mapUpdate; refine wl_mapUpdate rfl _ _ _ _ rfl _ _ _ rfl rfl rfl ?_) | (at_lookup; refine wl_lookup rfl _ _ _ _ rfl _ _ rfl rfl ?_) | (at_delete; refine wl_delete rfl _ _ _ _ rfl _ _ rfl rfl ?_) | (with_reducible refine wl_len rfl _ _ rfl _ rfl ?_) | (with_reducible refine wl_range rfl _ _ rfl _ rfl ?_) | (with_reducible refine wl_next rfl _ rfl _ rfl ?_) | (with_reducible refine wl_copy rfl _ _ _ _ rfl _ _ rfl rfl ?_) | (with_reducible refine wl_max rfl _ _ _ _ rfl _ _ rfl rfl ?_) | (with_reducible refine wl_min rfl _ _ _ _ rfl _ _ rfl rfl ?_))
  go_ret
  exact ⟨y3, k3, rfl, hE, hs3, g3, by omega, hk12.trans' hk3⟩
theorem madj_any {x s : Nat} {k : Int} (h : Nums w base g cap D) (hx0 : 1 ≤ x) (hx : x + 1 < D.size) (hn : D.size ≤ 1099511627776) (hs : Blk w s #[.int .i64 k] 3) (h0 : 0 ≤ k) (h1 : k ≤ 999990) (hgs : g ≠ s) :
    Calls Tryd.prog 91 #[.slice (some ⟨g, 0, none⟩) D.size cap, .int .i64 (x : Int), .pointer (some ⟨s, 0, none⟩)] w fun e w' => ∃ (m : Nat) (k' : Int), e = .returned (.int .i64 (m : Int)) ∧ x - 1 ≤ m ∧ m ≤ x + 1 ∧ Blk w' s #[.int .i64 k'] 3 ∧ 0 ≤ k' ∧ k' ≤ k + 3 ∧ Keep (fun j => j = s) w w' := by
  have hm := med_any (x := x - 1) (y := x) (z := x + 1) h (by omega) (by omega) hx hn hs h0 h1 hgs
  rw [show ((x - 1 : Nat) : Int) = (x : Int) - 1 by omega, show ((x + 1 : Nat) : Int) = (x : Int) + 1 by omega] at hm
  have HM := Lib.hid hm
  clear hm h hs
  generalize D.size = n at *
  go_enter Tryd.func91, Tryd.ntmps91
  go_wp2_with (first | (at_builtin; refine wl_append rfl _ _ _ _ rfl _ _ rfl rfl ?_) | (at_make; refine wl_make rfl _ _ _ rfl _ _ rfl rfl ?_) | (at_mapUpdate; refine wl_mapUpdate rfl _ _ _ _ rfl _ _ _ rfl rfl rfl ?_) | (at_lookup; refine wl_lookup rfl _ _ _ _ rfl _ _ rfl rfl ?_) | (at_delete; refine wl_delete rfl _ _ _ _ rfl _ _ rfl rfl ?_) | (with_reducible refine wl_len rfl _ _ rfl _ rfl ?_) | (with_reducible refine wl_range rfl _ _ rfl _ rfl ?_) | (with_reducible refine wl_next rfl _ rfl _ rfl ?_) | (with_reducible refine wl_copy rfl _ _ _ _ rfl _ _ rfl rfl ?_) | (with_reducible refine wl_max rfl _ _ _ _ rfl _ _ rfl rfl ?_) | (with_reducible refine wl_min rfl _ _ _ _ rfl _ _ rfl rfl ?_))
  refine HM.out.mono ?_
  rintro e w1 ⟨m, k1, rfl, e1, hs1, g1, l1, hk1⟩
  have hE : x - 1 ≤ m ∧ m ≤ x + 1 := by omega
  go_wp2_with (first | (at_builtin; refine wl_append rfl _ _ _ _ rfl _ _ rfl rfl ?_) | (at_make; refine wl_make rfl _ _ _ rfl _ _ rfl rfl ?_) | (at_mapUpdate; refine wl_mapUpdate rfl _ _ _ _ rfl _ _ _ rfl rfl rfl ?_) | (at_lookup; refine wl_lookup rfl _ _ _ _ rfl _ _ rfl rfl ?_) | (at_delete; refine wl_delete rfl _ _ _ _ rfl _ _ rfl rfl ?_) | (with_reducible refine wl_len rfl _ _ rfl _ rfl ?_) | (with_reducible refine wl_range rfl _ _ rfl _ rfl ?_) | (with_reducible refine wl_next rfl _ rfl _ rfl ?_) | (with_reducible refine wl_copy rfl _ _ _ _ rfl _ _ rfl rfl ?_) | (with_reducible refine wl_max rfl _ _ _ _ rfl _ _ rfl rfl ?_) | (with_reducible refine wl_min rfl _ _ _ _ rfl _ _ rfl rfl ?_))
  go_ret
  exact ⟨m, k1, rfl, hE.1, hE.2, hs1, g1, l1, hk1⟩
/-- a place between; nothing is changed -/
theorem piv_any (h : Nums w base g cap D) (hab : a + 12 < b) (hb : b ≤ D.size) (hn : D.size ≤ 1099511627776) :
    Calls Tryd.prog 78 #[.slice (some ⟨g, 0, none⟩) D.size cap, .int .i64 (a : Int), .int .i64 (b : Int)] w fun e w' => ∃ (p : Nat) (x : Int), e = .returned (.tuple #[.int .i64 (p : Int), .int .i64 x]) ∧ a ≤ p ∧ p < b ∧ Keep No w w' := by
  have hg := h.lt
  have hmd := fun (W : World) (s : Nat) (k : Int) (x y z : Nat) (hk : Keep (fun j => j = s) w W) (hgs : g ≠ s) (hx : x < D.size) (hy : y < D.size) (hz : z < D.size) (hs : Blk W s #[.int .i64 k] 3) (h0 : 0 ≤ k) (h1 : k ≤ 999990) => med_any (w := W) (h.other hk hgs) hx hy hz hn hs h0 h1 hgs
  have hma := fun (W : World) (s : Nat) (k : Int) (x : Nat) (hk : Keep (fun j => j = s) w W) (hgs : g ≠ s) (hx0 : 1 ≤ x) (hx : x + 1 < D.size) (hs : Blk W s #[.int .i64 k] 3) (h0 : 0 ≤ k) (h1 : k ≤ 999990) => madj_any (w := W) (h.other hk hgs) hx0 hx hn hs h0 h1 hgs
  have HMD := Lib.hid hmd
  have HMA := Lib.hid hma
  clear hmd hma h
  generalize D.size = n at *
  obtain ⟨L, hL⟩ : ∃ L, b = a + L := ⟨b - a, by omega⟩
  have e1 : (b : Int) - (a : Int) = (L : Int) := by omega
  obtain ⟨q, hq⟩ : ∃ q, q = L / 4 := ⟨_, rfl⟩
  have e2 : (L : Int) / 4 = (q : Int) := by omega
  have e3 : (L : Int).tdiv 4 = (q : Int) := by rw [Int.tdiv_eq_ediv_of_nonneg (by omega)]; exact e2
  obtain ⟨i, hi⟩ : ∃ i, i = a + q := ⟨_, rfl⟩
  obtain ⟨j, hj⟩ : ∃ i, i = a + q * 2 := ⟨_, rfl⟩
  obtain ⟨k, hk⟩ : ∃ i, i = a + q * 3 := ⟨_, rfl⟩
  have e4 : (a : Int) + (q : Int) = (i : Int) := by omega
  have e5 : (a : Int) + (q : Int) * 2 = (j : Int) := by omega
  have e6 : (a : Int) + (q : Int) * 3 = (k : Int) := by omega
  have hLl : 12 < L := by omega
  have hr1 : a < i := by omega
  have hr2 : i < j := by omega
  have hr3 : j < k := by omega
  have hr4 : k + 1 < b := by omega
  have hqb : q ≤ 1099511627776 := by omega
  clear hL hq hi hj hk
  go_enter Tryd.func78, Tryd.ntmps78
  by_cases h50 : 50 ≤ L
  · go_wp2_with (first | (at_builtin; refine wl_append rfl _ _ _ _ rfl _ _ rfl rfl ?_) | (at_make; refine wl_make rfl _ _ _ rfl _ _ rfl rfl ?_) | (at_mapUpdate; refine wl_mapUpdate rfl _ _ _ _ rfl _ _ _ rfl rfl rfl ?_) | (at_lookup; refine wl_lookup rfl _ _ _ _ rfl _ _ rfl rfl ?_) | (at_delete; refine wl_delete rfl _ _ _ _ rfl _ _ rfl rfl ?_) | (with_reducible refine wl_len rfl _ _ rfl _ rfl ?_) | (with_reducible refine wl_range rfl _ _ rfl _ rfl ?_) | (with_reducible refine wl_next rfl _ rfl _ rfl ?_) | (with_reducible refine wl_copy rfl _ _ _ _ rfl _ _ rfl rfl ?_) | (with_reducible refine wl_max rfl _ _ _ _ rfl _ _ rfl rfl ?_) | (with_reducible refine wl_min rfl _ _ _ _ rfl _ _ rfl rfl ?_))
    have hkW0 : Keep No w (w.alloc (.cells #[.int .i64 0] 3)) := (Keep.refl _ _).alloc _
    have hBW0 : Blk (w.alloc (.cells #[.int .i64 0] 3)) w.heap.size #[.int .i64 0] 3 := Blk.new _ _ _
    have hzW0 : (w.alloc (.cells #[.int .i64 0] 3)).heap.size = w.heap.size + 1 := World.size_alloc _ _
    generalize w.alloc (.cells #[.int .i64 0] 3) = W0 at *
    have HKW := Lib.hid hkW0
    have hgs : g ≠ w.heap.size := by omega
    have hkk := hkW0.mono (B := fun j => j = w.heap.size) fun _ _ h => h.elim
    refine (HMA.out W0 _ 0 i hkk hgs (by omega) (by omega) hBW0 (by omega) (by omega)).mono ?_
    rintro e w1 ⟨i', k1, rfl, a1, b1, hs1, g1, l1, hk1⟩
    have hk1 := hkk.trans' hk1
    go_wp2_with (first | (at_builtin; refine wl_append rfl _ _ _ _ rfl _ _ rfl rfl ?_) | (at_make; refine wl_make rfl _ _ _ rfl _ _ rfl rfl ?_) | (at_mapUpdate; refine wl_mapUpdate rfl _ _ _ _ rfl _ _ _ rfl rfl rfl ?_) | (at_lookup; refine wl_lookup rfl _ _ _ _ rfl _ _ rfl rfl ?_) | (at_delete; refine wl_delete rfl _ _ _ _ rfl _ _ rfl rfl ?_) | (with_reducible refine wl_len rfl _ _ rfl _ rfl ?_) | (with_reducible refine wl_range rfl _ _ rfl _ rfl ?_) | (with_reducible refine wl_next rfl _ rfl _ rfl ?_) | (with_reducible refine wl_copy rfl _ _ _ _ rfl _ _ rfl rfl ?_) | (with_reducible refine wl_max rfl _ _ _ _ rfl _ _ rfl rfl ?_) | (with_reducible refine wl_min rfl _ _ _ _ rfl _ _ rfl rfl ?_))
    refine (HMA.out w1 _ k1 j hk1 hgs (by omega) (by omega) hs1 (by omega) (by omega)).mono ?_
    rintro e w2 ⟨j', k2, rfl, a2, b2, hs2, g2, l2, hk2⟩
    have hk2 := hk1.trans' hk2
    go_wp2_with (first | (at_builtin; refine wl_append rfl _ _ _ _ rfl _ _ rfl rfl ?_) | (at_make; refine wl_make rfl _ _ _ rfl _ _ rfl rfl ?_) | (at_mapUpdate; refine wl_mapUpdate rfl _ _ _ _ rfl _ _ _ rfl rfl rfl ?_) | (at_lookup; refine wl_lookup rfl _ _ _ _ rfl _ _ rfl rfl ?_) | (at_delete; refine wl_delete rfl _ _ _ _ rfl _ _ rfl rfl ?_) | (with_reducible refine wl_len rfl _ _ rfl _ rfl ?_) | (with_reducible refine wl_range rfl _ _ rfl _ rfl ?_) | (with_reducible refine wl_next rfl _ rfl _ rfl ?_) | (with_reducible refine wl_copy rfl _ _ _ _ rfl _ _ rfl rfl ?_) | (with_reducible refine wl_max rfl _ _ _ _ rfl _ _ rfl rfl ?_) | (with_reducible refine wl_min rfl _ _ _ _ rfl _ _ rfl rfl ?_))
    refine (HMA.out w2 _ k2 k hk2 hgs (by omega) (by omega) hs2 (by omega) (by omega)).mono ?_
    rintro e w3 ⟨k', k3, rfl, a3, b3, hs3, g3, l3, hk3⟩
    have hk3 := hk2.trans' hk3
    go_wp2_with (first | (at_builtin; refine wl_append rfl _ _ _ _ rfl _ _ rfl rfl ?_) | (at_make; refine wl_make rfl _ _ _ rfl _ _ rfl rfl ?_) | (at_mapUpdate; refine wl_mapUpdate rfl _ _ _ _ rfl _ _ _ rfl rfl rfl ?_) | (at_lookup; refine wl_lookup rfl _ _ _ _ rfl _ _ rfl rfl ?_) | (at_delete; refine wl_delete rfl _ _ _ _ rfl _ _ rfl rfl ?_) | (with_reducible refine wl_len rfl _ _ rfl _ rfl ?_) | (with_reducible refine wl_range rfl _ _ rfl _ rfl ?_) | (with_reducible refine wl_next rfl _ rfl _ rfl ?_) | (with_reducible refine wl_copy rfl _ _ _ _ rfl _ _ rfl rfl ?_) | (with_reducible refine wl_max rfl _ _ _ _ rfl _ _ rfl rfl ?_) | (with_reducible refine wl_min rfl _ _ _ _ rfl _ _ rfl rfl ?_))
    refine (HMD.out w3 _ k3 i' j' k' hk3 hgs (by omega) (by omega) (by omega) hs3 (by omega) (by omega)).mono ?_
    rintro e w4 ⟨m, k4, rfl, hm, hs4, g4, l4, hk4⟩
    have hk4 := hk3.trans' hk4
    have hmr : a ≤ m ∧ m < b := by omega
    have q4 : w4.cell? ⟨w.heap.size, 0, none⟩ = some (.int .i64 k4) := hs4.cell 0
    have hE : Keep No w w4 := (Keep.refl _ _).trans hk4 fun j hj e => by have e2 : j = w.heap.size := e; omega
    clear hm
    go_wp2_with (first | (at_builtin; refine wl_append rfl _ _ _ _ rfl _ _ rfl rfl ?_) | (at_make; refine wl_make rfl _ _ _ rfl _ _ rfl rfl ?_) | (at_mapUpdate; refine wl_mapUpdate rfl _ _ _ _ rfl _ _ _ rfl rfl rfl ?_) | (at_lookup; refine wl_lookup rfl _ _ _ _ rfl _ _ rfl rfl ?_) | (at_delete; refine wl_delete rfl _ _ _ _ rfl _ _ rfl rfl ?_) | (with_reducible refine wl_len rfl _ _ rfl _ rfl ?_) | (with_reducible refine wl_range rfl _ _ rfl _ rfl ?_) | (with_reducible refine wl_next rfl _ rfl _ rfl ?_) | (with_reducible refine wl_copy rfl _ _ _ _ rfl _ _ rfl rfl ?_) | (with_reducible refine wl_max rfl _ _ _ _ rfl _ _ rfl rfl ?_) | (with_reducible refine wl_min rfl _ _ _ _ rfl _ _ rfl rfl ?_))
    all_goals
      go_ret2
      exact ⟨m, _, rfl, hmr.1, hmr.2, hE⟩
  · go_wp2_with (first | (at_builtin; refine wl_append rfl _ _ _ _ rfl _ _ rfl rfl ?_) | (at_make; refine wl_make rfl _ _ _ rfl _ _ rfl rfl ?_) | (at_mapUpdate; refine wl_mapUpdate rfl _ _ _ _ rfl _ _ _ rfl rfl rfl ?_) | (at_lookup; refine wl_lookup rfl _ _ _ _ rfl _ _ rfl rfl ?_) | (at_delete; refine wl_delete rfl _ _ _ _ rfl _ _ rfl rfl ?_) | (with_reducible refine wl_len rfl _ _ rfl _ rfl ?_) | (with_reducible refine wl_range rfl _ _ rfl _ rfl ?_) | (with_reducible refine wl_next rfl _ rfl _ rfl ?_) | (with_reducible refine wl_copy rfl _ _ _ _ rfl _ _ rfl rfl ?_) | (with_reducible refine wl_max rfl _ _ _ _ rfl _ _ rfl rfl ?_) | (with_reducible refine wl_min rfl _ _ _ _ rfl _ _ rfl rfl ?_))
    have hkW0 : Keep No w (w.alloc (.cells #[.int .i64 0] 3)) := (Keep.refl _ _).alloc _
    have hBW0 : Blk (w.alloc (.cells #[.int .i64 0] 3)) w.heap.size #[.int .i64 0] 3 := Blk.new _ _ _
    have hzW0 : (w.alloc (.cells #[.int .i64 0] 3)).heap.size = w.heap.size + 1 := World.size_alloc _ _
    generalize w.alloc (.cells #[.int .i64 0] 3) = W0 at *
    have hgs : g ≠ w.heap.size := by omega
    have hkk := hkW0.mono (B := fun j => j = w.heap.size) fun _ _ h => h.elim
    refine (HMD.out W0 _ 0 i j k hkk hgs (by omega) (by omega) (by omega) hBW0 (by omega) (by omega)).mono ?_
    rintro e w4 ⟨m, k4, rfl, hm, hs4, g4, l4, hk4⟩
    have hk4 := hkk.trans' hk4
    have hmr : a ≤ m ∧ m < b := by omega
    have q4 : w4.cell? ⟨w.heap.size, 0, none⟩ = some (.int .i64 k4) := hs4.cell 0
    have hE : Keep No w w4 := (Keep.refl _ _).trans hk4 fun j hj e => by have e2 : j = w.heap.size := e; omega
    clear hm
    go_wp2_with (first | (at_builtin; refine wl_append rfl _ _ _ _ rfl _ _ rfl rfl ?_) | (at_make; refine wl_make rfl _ _ _ rfl _ _ rfl rfl ?_) | (at_mapUpdate; refine wl_mapUpdate rfl _ _ _ _ rfl _ _ _ rfl rfl rfl ?_) | (at_lookup; refine wl_lookup rfl _ _ _ _ rfl _ _ rfl rfl ?_) | (at_delete; refine wl_delete rfl _ _ _ _ rfl _ _ rfl rfl ?_) | (with_reducible refine wl_len rfl _ _ rfl _ rfl ?_) | (with_reducible refine wl_range rfl _ _ rfl _ rfl ?_) | (with_reducible refine wl_next rfl _ rfl _ rfl ?_) | (with_reducible refine wl_copy rfl _ _ _ _ rfl _ _ rfl rfl ?_) | (with_reducible refine wl_max rfl _ _ _ _ rfl _ _ rfl rfl ?_) | (with_reducible refine wl_min rfl _ _ _ _ rfl _ _ rfl rfl ?_))
    all_goals
      go_ret2
      exact ⟨m, _, rfl, hmr.1, hmr.2, hE⟩
end
end Go.Proofs.YthfekjnekaecaaaDoor
namespace Go.Proofs.YthfekjnekaecaaaDoor
open Go.RowKit Go.Dm
section
variable {w : World} {base g cap a b : Nat} {D E : Array Nat}
theorem tab_size : Lib.len8tab.size = 256 := by decide +kernel
theorem tab_at : ∀ i : Fin 256, (Lib.len8tab[i.val]'(by rw [tab_size]; exact i.2)).toNat = Lib.bitLen i.val := by decide +kernel
theorem tab_of (i : Nat) (h : i < 256) (h2 : i < Lib.len8tab.size) : (Lib.len8tab[i]'h2).toNat = Lib.bitLen i := tab_at ⟨i, h⟩
set_option maxRecDepth 100000 in
set_option maxHeartbeats 4000000 in
theorem len64_any (x : Int) (h0 : 0 ≤ x) (h1 : x < 65536) (w : World) : Calls Tryd.prog 85 #[.int .u64 x] w fun e w' => e = .returned (.int .i64 ((Lib.bitLen x.toNat : Nat) : Int)) ∧ w = w' := by
  have hsz : (Lib.len8tab.size : Int) = 256 := by decide +kernel
  by_cases h : x < 256
  · have hl := Lib.bitLen_le8' x (by omega) (by omega)
    have HL := Lib.hid hl
    clear hl
    go_enter Tryd.func85, Tryd.ntmps85
    go_wp2_with (first | (at_builtin; refine wl_append rfl _ _ _ _ rfl _ _ rfl rfl ?_) | (at_make; refine wl_make rfl _ _ _ rfl _ _ rfl rfl ?_) | (at_mapUpdate; refine wl_mapUpdate rfl _ _ _ _ rfl _ _ _ rfl rfl rfl ?_) | (at_lookup; refine wl_lookup rfl _ _ _ _ rfl _ _ rfl rfl ?_) | (at_delete; refine wl_delete rfl _ _ _ _ rfl _ _ rfl rfl ?_) | (with_reducible refine wl_len rfl _ _ rfl _ rfl ?_) | (with_reducible refine wl_range rfl _ _ rfl _ rfl ?_) | (with_reducible refine wl_next rfl _ rfl _ rfl ?_) | (with_reducible refine wl_copy rfl _ _ _ _ rfl _ _ rfl rfl ?_) | (with_reducible refine wl_max rfl _ _ _ _ rfl _ _ rfl rfl ?_) | (with_reducible refine wl_min rfl _ _ _ _ rfl _ _ rfl rfl ?_))
    go_ret
    refine ⟨congrArg Ending.returned (congrArg (Value.int IntKind.i64) ?_), rfl⟩
    have hl := HL.out
    rw [tab_of x.toNat (by omega)]
    unfold wrap64
    omega
  · have hl := Lib.bitLen_le8' (x / 256) (by omega) (by omega)
    have hs := Lib.bitLen_shift8 x.toNat (by omega) (by omega)
    rw [show (x / 256).toNat = x.toNat / 256 by omega] at hl
    have HL := Lib.hid hl
    have HS := Lib.hid hs
    clear hl hs
    go_enter Tryd.func85, Tryd.ntmps85
    go_wp2_with (first | (at_builtin; refine wl_append rfl _ _ _ _ rfl _ _ rfl rfl ?_) | (at_make; refine wl_make rfl _ _ _ rfl _ _ rfl rfl ?_) | (at_mapUpdate; refine wl_mapUpdate rfl _ _ _ _ rfl _ _ _ rfl rfl rfl ?_) | (at_lookup; refine wl_lookup rfl _ _ _ _ rfl _ _ rfl rfl ?_) | (at_delete; refine wl_delete rfl _ _ _ _ rfl _ _ rfl rfl ?_) | (with_reducible refine wl_len rfl _ _ rfl _ rfl ?_) | (with_reducible refine wl_range rfl _ _ rfl _ rfl ?_) | (with_reducible refine wl_next rfl _ rfl _ rfl ?_) | (with_reducible refine wl_copy rfl _ _ _ _ rfl _ _ rfl rfl ?_) | (with_reducible refine wl_max rfl _ _ _ _ rfl _ _ rfl rfl ?_) | (with_reducible refine wl_min rfl _ _ _ _ rfl _ _ rfl rfl ?_))
    go_ret
    refine ⟨congrArg Ending.returned (congrArg (Value.int IntKind.i64) ?_), rfl⟩
    have hl := HL.out
    have hs := HS.out
    rw [tab_of (x / 256).toNat (by omega), show (x / 256).toNat = x.toNat / 256 by omega]
    unfold wrap64
    omega
set_option maxRecDepth 100000 in
set_option maxHeartbeats 4000000 in
theorem next_any {s : Nat} {x : Int} (hs : Blk w s #[.int .u64 x] 158) : Calls Tryd.prog 90 #[.pointer (some ⟨s, 0, none⟩)] w fun e w' => ∃ y : Int, e = .returned (.int .u64 y) ∧ Blk w' s #[.int .u64 y] 158 ∧ Keep (fun j => j = s) w w' := by
  have q := hs.cell 0
  have qf := hs.frozen 0
  go_enter Tryd.func90, Tryd.ntmps90
  go_wp2_with (first | (at_builtin; refine wl_append rfl _ _ _ _ rfl _ _ rfl rfl ?_) | (at_make; refine wl_make rfl _ _ _ rfl _ _ rfl rfl ?_) | (at_mapUpdate; refine wl_mapUpdate rfl _ _ _ _ rfl _ _ _ rfl rfl rfl ?_) | (at_lookup; refine wl_lookup rfl _ _ _ _ rfl _ _ rfl rfl ?_) | (at_delete; refine wl_delete rfl _ _ _ _ rfl _ _ rfl rfl ?_) | (with_reducible refine wl_len rfl _ _ rfl _ rfl ?_) | (with_reducible refine wl_range rfl _ _ rfl _ rfl ?_) | (with_reducible refine wl_next rfl _ rfl _ rfl ?_) | (with_reducible refine wl_copy rfl _ _ _ _ rfl _ _ rfl rfl ?_) | (with_reducible refine wl_max rfl _ _ _ _ rfl _ _ rfl rfl ?_) | (with_reducible refine wl_min rfl _ _ _ _ rfl _ _ rfl rfl ?_))
  go_region
  generalize (bits .xor .u64 x (IntKind.u64.wrap (x * 8192))) = y1
  have hsw1 : Blk (w.setCell ⟨s, 0, none⟩ (.int .u64 y1)).drew s #[.int .u64 y1] 158 := (hs).set _
  have hkw1 : Keep (fun j => j = s) w ((w.setCell ⟨s, 0, none⟩ (.int .u64 y1)).drew) := ((Keep.refl (fun j => j = s) w).setCell (p := ⟨s, 0, none⟩) (fun _ => rfl) _).drew
  generalize (w.setCell ⟨s, 0, none⟩ (.int .u64 y1)).drew = w1 at *
  have qw1 := hsw1.cell 0
  have fw1 := hsw1.frozen 0
  clear q qf
  go_wp2_with (first | (at_builtin; refine wl_append rfl _ _ _ _ rfl _ _ rfl rfl ?_) | (at_make; refine wl_make rfl _ _ _ rfl _ _ rfl rfl ?_) | (at_mapUpdate; refine wl_mapUpdate rfl _ _ _ _ rfl _ _ _ rfl rfl rfl ?_) | (at_lookup; refine wl_lookup rfl _ _ _ _ rfl _ _ rfl rfl ?_) | (at_delete; refine wl_delete rfl _ _ _ _ rfl _ _ rfl rfl ?_) | (with_reducible refine wl_len rfl _ _ rfl _ rfl ?_) | (with_reducible refine wl_range rfl _ _ rfl _ rfl ?_) | (with_reducible refine wl_next rfl _ rfl _ rfl ?_) | (with_reducible refine wl_copy rfl _ _ _ _ rfl _ _ rfl rfl ?_) | (with_reducible refine wl_max rfl _ _ _ _ rfl _ _ rfl rfl ?_) | (with_reducible refine wl_min rfl _ _ _ _ rfl _ _ rfl rfl ?_))
  go_region
  generalize (bits .xor .u64 y1 (y1 / 128)) = y2
  have hsw2 : Blk (w1.setCell ⟨s, 0, none⟩ (.int .u64 y2)).drew s #[.int .u64 y2] 158 := (hsw1).set _
  have hkw2 : Keep (fun j => j = s) w1 ((w1.setCell ⟨s, 0, none⟩ (.int .u64 y2)).drew) := ((Keep.refl (fun j => j = s) w1).setCell (p := ⟨s, 0, none⟩) (fun _ => rfl) _).drew
  generalize (w1.setCell ⟨s, 0, none⟩ (.int .u64 y2)).drew = w2 at *
  have qw2 := hsw2.cell 0
  have fw2 := hsw2.frozen 0
  clear qw1 fw1
  go_wp2_with (first | (at_builtin; refine wl_append rfl _ _ _ _ rfl _ _ rfl rfl ?_) | (at_make; refine wl_make rfl _ _ _ rfl _ _ rfl rfl ?_) | (at_mapUpdate; refine wl_mapUpdate rfl _ _ _ _ rfl _ _ _ rfl rfl rfl ?_) | (at_lookup; refine wl_lookup rfl _ _ _ _ rfl _ _ rfl rfl ?_) | (at_delete; refine wl_delete rfl _ _ _ _ rfl _ _ rfl rfl ?_) | (with_reducible refine wl_len rfl _ _ rfl _ rfl ?_) | (with_reducible refine wl_range rfl _ _ rfl _ rfl ?_) | (with_reducible refine wl_next rfl _ rfl _ rfl ?_) | (with_reducible refine wl_copy rfl _ _ _ _ rfl _ _ rfl rfl ?_) | (with_reducible refine wl_max rfl _ _ _ _ rfl _ _ rfl rfl ?_) | (with_reducible refine wl_min rfl _ _ _ _ rfl _ _ rfl rfl ?_))
  go_region
  generalize (bits .xor .u64 y2 (IntKind.u64.wrap (y2 * 131072))) = y3
  have hsw3 : Blk (w2.setCell ⟨s, 0, none⟩ (.int .u64 y3)).drew s #[.int .u64 y3] 158 := (hsw2).set _
  have hkw3 : Keep (fun j => j = s) w2 ((w2.setCell ⟨s, 0, none⟩ (.int .u64 y3)).drew) := ((Keep.refl (fun j => j = s) w2).setCell (p := ⟨s, 0, none⟩) (fun _ => rfl) _).drew
  generalize (w2.setCell ⟨s, 0, none⟩ (.int .u64 y3)).drew = w3 at *
  have qw3 := hsw3.cell 0
  have fw3 := hsw3.frozen 0
  clear qw2 fw2
  go_wp2_with (first | (at_builtin; refine wl_append rfl _ _ _ _ rfl _ _ rfl rfl ?_) | (at_make; refine wl_make rfl _ _ _ rfl _ _ rfl rfl ?_) | (at_mapUpdate; refine wl_mapUpdate rfl _ _ _ _ rfl _ _ _ rfl rfl rfl ?_) | (at_lookup; refine wl_lookup rfl _ _ _ _ rfl _ _ rfl rfl ?_) | (at_delete; refine wl_delete rfl _ _ _ _ rfl _ _ rfl rfl ?_) | (with_reducible refine wl_len rfl _ _ rfl _ rfl ?_) | (with_reducible refine wl_range rfl _ _ rfl _ rfl ?_) | (with_reducible refine wl_next rfl _ rfl _ rfl ?_) | (with_reducible refine wl_copy rfl _ _ _ _ rfl _ _ rfl rfl ?_) | (with_reducible refine wl_max rfl _ _ _ _ rfl _ _ rfl rfl ?_) | (with_reducible refine wl_min rfl _ _ _ _ rfl _ _ rfl rfl ?_))
  go_ret
  exact ⟨y3, rfl, hsw3, (hkw1.trans' hkw2).trans' hkw3⟩
theorem bitLen_two (n : Nat) (h0 : n ≠ 0) (h : n < 65536) : 2 ^ Lib.bitLen n ≤ 2 * n := by
  induction n using Nat.strongRecOn with
  | _ n ih =>
    rw [Lib.bitLen_half n h0 (by omega), Nat.pow_add]
    rcases Nat.eq_zero_or_pos (n / 2) with e | e
    · rw [e, show Lib.bitLen 0 = 0 from rfl]; omega
    · have := ih (n / 2) (by omega) (by omega) (by omega)
      omega
set_option maxRecDepth 100000 in
set_option maxHeartbeats 4000000 in
theorem len_any (x : Int) (h0 : 0 ≤ x) (h1 : x < 65536) (w : World) : Calls Tryd.prog 69 #[.int .u64 x] w fun e w' => e = .returned (.int .i64 ((Lib.bitLen x.toNat : Nat) : Int)) ∧ w = w' := by
  go_enter Tryd.func69, Tryd.ntmps69
  go_wp2_with (first | (at_builtin; refine wl_append rfl _ _ _ _ rfl _ _ rfl rfl ?_) | (at_make; refine wl_make rfl _ _ _ rfl _ _ rfl rfl ?_) | (at_mapUpdate; refine wl_mapUpdate rfl _ _ _ _ rfl _ _ _ rfl rfl rfl ?_) | (at_lookup; refine wl_lookup rfl _ _ _ _ rfl _ _ rfl rfl ?_) | (at_delete; refine wl_delete rfl _ _ _ _ rfl _ _ rfl rfl ?_) | (with_reducible refine wl_len rfl _ _ rfl _ rfl ?_) | (with_reducible refine wl_range rfl _ _ rfl _ rfl ?_) | (with_reducible refine wl_next rfl _ rfl _ rfl ?_) | (with_reducible refine wl_copy rfl _ _ _ _ rfl _ _ rfl rfl ?_) | (with_reducible refine wl_max rfl _ _ _ _ rfl _ _ rfl rfl ?_) | (with_reducible refine wl_min rfl _ _ _ _ rfl _ _ rfl rfl ?_))
  refine (len64_any x h0 h1 w).mono ?_
  rintro e W ⟨rfl, rfl⟩
  go_wp2_with (first | (at_builtin; refine wl_append rfl _ _ _ _ rfl _ _ rfl rfl ?_) | (at_make; refine wl_make rfl _ _ _ rfl _ _ rfl rfl ?_) | (at_mapUpdate; refine wl_mapUpdate rfl _ _ _ _ rfl _ _ _ rfl rfl rfl ?_) | (at_lookup; refine wl_lookup rfl _ _ _ _ rfl _ _ rfl rfl ?_) | (at_delete; refine wl_delete rfl _ _ _ _ rfl _ _ rfl rfl ?_) | (with_reducible refine wl_len rfl _ _ rfl _ rfl ?_) | (with_reducible refine wl_range rfl _ _ rfl _ rfl ?_) | (with_reducible refine wl_next rfl _ rfl _ rfl ?_) | (with_reducible refine wl_copy rfl _ _ _ _ rfl _ _ rfl rfl ?_) | (with_reducible refine wl_max rfl _ _ _ _ rfl _ _ rfl rfl ?_) | (with_reducible refine wl_min rfl _ _ _ _ rfl _ _ rfl rfl ?_))
  go_ret
  exact ⟨rfl, rfl⟩
set_option maxRecDepth 100000 in
set_option maxHeartbeats 4000000 in
theorem npow_any (n : Nat) (h0 : 0 < n) (h1 : n < 65536) (w : World) : Calls Tryd.prog 89 #[.int .i64 (n : Int)] w fun e w' => ∃ m : Nat, e = .returned (.int .u64 (m : Int)) ∧ 0 < m ∧ m ≤ 2 * n ∧ w = w' := by
  have hb := bitLen_two n (by omega) h1
  have h16 := Lib.bitLen_le n 16 (by omega) (by omega)
  have hl := len_any (n : Int) (by omega) (by omega)
  rw [Int.toNat_natCast] at hl
  have hp := Nat.two_pow_pos (Lib.bitLen n)
  have HL := Lib.hid hl
  clear hl
  generalize Lib.bitLen n = k at *
  go_enter Tryd.func89, Tryd.ntmps89
  go_wp2_with (first | (at_builtin; refine wl_append rfl _ _ _ _ rfl _ _ rfl rfl ?_) | (at_make; refine wl_make rfl _ _ _ rfl _ _ rfl rfl ?_) | (at_mapUpdate; refine wl_mapUpdate rfl _ _ _ _ rfl _ _ _ rfl rfl rfl ?_) | (at_lookup; refine wl_lookup rfl _ _ _ _ rfl _ _ rfl rfl ?_) | (at_delete; refine wl_delete rfl _ _ _ _ rfl _ _ rfl rfl ?_) | (with_reducible refine wl_len rfl _ _ rfl _ rfl ?_) | (with_reducible refine wl_range rfl _ _ rfl _ rfl ?_) | (with_reducible refine wl_next rfl _ rfl _ rfl ?_) | (with_reducible refine wl_copy rfl _ _ _ _ rfl _ _ rfl rfl ?_) | (with_reducible refine wl_max rfl _ _ _ _ rfl _ _ rfl rfl ?_) | (with_reducible refine wl_min rfl _ _ _ _ rfl _ _ rfl rfl ?_))
  refine (HL.out _).mono ?_
  rintro e W ⟨rfl, rfl⟩
  go_wp2_with (first | (at_builtin; refine wl_append rfl _ _ _ _ rfl _ _ rfl rfl ?_) | (at_make; refine wl_make rfl _ _ _ rfl _ _ rfl rfl ?_) | (at_mapUpdate; refine wl_mapUpdate rfl _ _ _ _ rfl _ _ _ rfl rfl rfl ?_) | (at_lookup; refine wl_lookup rfl _ _ _ _ rfl _ _ rfl rfl ?_) | (at_delete; refine wl_delete rfl _ _ _ _ rfl _ _ rfl rfl ?_) | (with_reducible refine wl_len rfl _ _ rfl _ rfl ?_) | (with_reducible refine wl_range rfl _ _ rfl _ rfl ?_) | (with_reducible refine wl_next rfl _ rfl _ rfl ?_) | (with_reducible refine wl_copy rfl _ _ _ _ rfl _ _ rfl rfl ?_) | (with_reducible refine wl_max rfl _ _ _ _ rfl _ _ rfl rfl ?_) | (with_reducible refine wl_min rfl _ _ _ _ rfl _ _ rfl rfl ?_))
  go_ret
  refine ⟨2 ^ k, congrArg Ending.returned (congrArg (Value.int IntKind.u64) ?_), hp, hb, rfl⟩
  have hpi : ((2 ^ k : Nat) : Int) = (2 : Int) ^ k := by push_cast; rfl
  have hle : 2 ^ k ≤ 65536 := Nat.le_trans (Nat.pow_le_pow_right (by omega) h16) (by omega)
  rw [← hpi, IntKind.wrap_u64]
  omega
theorem and_u64 (y : Int) (b : Nat) (hb : b < 4294967296) : ∃ o : Nat, o ≤ b ∧ bits .and .u64 y (b : Int) = (o : Int) := by
  have h2 : (BitVec.ofInt 64 (b : Int)).toNat = b := by
    rw [BitVec.ofInt_natCast, BitVec.toNat_ofNat]; exact Nat.mod_eq_of_lt (by omega)
  refine ⟨(BitVec.ofInt 64 y).toNat &&& b, Nat.and_le_right, ?_⟩
  have hx : (BitVec.ofInt 64 y).toNat &&& b ≤ b := Nat.and_le_right
  show IntKind.u64.wrap ((BitVec.ofInt 64 y &&& BitVec.ofInt 64 (b : Int)).toNat : Int) = _
  rw [BitVec.toNat_and, h2, IntKind.wrap_u64]
  omega
set_option maxRecDepth 100000 in
set_option maxHeartbeats 8000000 in
theorem break_any (h : Nums w base g cap D) (hab : a + 12 < b) (hb : b ≤ D.size) (hn : D.size < 65536) :
    Calls Tryd.prog 77 #[.slice (some ⟨g, 0, none⟩) D.size cap, .int .i64 (a : Int), .int .i64 (b : Int)] w fun e w' => e = .returned (.tuple #[]) ∧ PermTo base g cap a b D w w' := by
  generalize hN : D.size = n at *
  have HN := Lib.hid hN
  have hgl := h.lt
  have HO0 := Lib.hid h
  obtain ⟨L, hL⟩ : ∃ L, b = a + L := ⟨b - a, by omega⟩
  have e1 : (b : Int) - (a : Int) = (L : Int) := by omega
  obtain ⟨q, hq⟩ : ∃ q, q = L / 4 := ⟨_, rfl⟩
  have e2 : (L : Int) / 4 = (q : Int) := by omega
  have e3 : (L : Int).tdiv 4 = (q : Int) := by rw [Int.tdiv_eq_ediv_of_nonneg (by omega)]; exact e2
  obtain ⟨p, hpp⟩ : ∃ i, i = a + q * 2 := ⟨_, rfl⟩
  have e4 : (a : Int) + (q : Int) * 2 = (p : Int) := by omega
  have hLl : 12 < L := by omega
  have hLn : L < 65536 := by omega
  have hr1 : a + 5 < p := by omega
  have hr2 : p + 2 < b := by omega
  have hqb : q ≤ 65536 := by omega
  have hnp := npow_any L (by omega) hLn
  have HNP := Lib.hid hnp
  have hbl1 : b ≤ a + L := by omega
  have hbl2 : a + L ≤ b := by omega
  clear hN h hL hq hpp hnp
  go_enter Tryd.func77, Tryd.ntmps77
  go_wp2_with (first | (at_builtin; refine wl_append rfl _ _ _ _ rfl _ _ rfl rfl ?_) | (at_make; refine wl_make rfl _ _ _ rfl _ _ rfl rfl ?_) | (at_mapUpdate; refine wl_mapUpdate rfl _ _ _ _ rfl _ _ _ rfl rfl rfl ?_) | (at_lookup; refine wl_lookup rfl _ _ _ _ rfl _ _ rfl rfl ?_) | (at_delete; refine wl_delete rfl _ _ _ _ rfl _ _ rfl rfl ?_) | (with_reducible refine wl_len rfl _ _ rfl _ rfl ?_) | (with_reducible refine wl_range rfl _ _ rfl _ rfl ?_) | (with_reducible refine wl_next rfl _ rfl _ rfl ?_) | (with_reducible refine wl_copy rfl _ _ _ _ rfl _ _ rfl rfl ?_) | (with_reducible refine wl_max rfl _ _ _ _ rfl _ _ rfl rfl ?_) | (with_reducible refine wl_min rfl _ _ _ _ rfl _ _ rfl rfl ?_))
  have hkW0 : Keep No w (w.alloc (.cells #[.int .u64 (L : Int)] 158)) := (Keep.refl _ _).alloc _
  have hBW0 : Blk (w.alloc (.cells #[.int .u64 (L : Int)] 158)) w.heap.size #[.int .u64 (L : Int)] 158 := Blk.new _ _ _
  have hzW0 : (w.alloc (.cells #[.int .u64 (L : Int)] 158)).heap.size = w.heap.size + 1 := World.size_alloc _ _
  generalize w.alloc (.cells #[.int .u64 (L : Int)] 158) = W0 at *
  refine (HNP.out _).mono ?_
  rintro e w1 ⟨m, rfl, hm0, hm2, rfl⟩
  obtain ⟨m1, hm1⟩ : ∃ m1, m = m1 + 1 := ⟨m - 1, by omega⟩
  have e5 : (m : Int) - 1 = (m1 : Int) := by omega
  have hmb : m1 < 2 * L := by omega
  have hsg : w.heap.size ≠ g := by omega
  clear hm1
  go_wp2_with (first | (at_builtin; refine wl_append rfl _ _ _ _ rfl _ _ rfl rfl ?_) | (at_make; refine wl_make rfl _ _ _ rfl _ _ rfl rfl ?_) | (at_mapUpdate; refine wl_mapUpdate rfl _ _ _ _ rfl _ _ _ rfl rfl rfl ?_) | (at_lookup; refine wl_lookup rfl _ _ _ _ rfl _ _ rfl rfl ?_) | (at_delete; refine wl_delete rfl _ _ _ _ rfl _ _ rfl rfl ?_) | (with_reducible refine wl_len rfl _ _ rfl _ rfl ?_) | (with_reducible refine wl_range rfl _ _ rfl _ rfl ?_) | (with_reducible refine wl_next rfl _ rfl _ rfl ?_) | (with_reducible refine wl_copy rfl _ _ _ _ rfl _ _ rfl rfl ?_) | (with_reducible refine wl_max rfl _ _ _ _ rfl _ _ rfl rfl ?_) | (with_reducible refine wl_min rfl _ _ _ _ rfl _ _ rfl rfl ?_))
  go_loopw [9, 10] (fun iv _ wr => ∃ (i : Nat) (E : Array Nat) (y : Int), iv = .int .i64 (i : Int) ∧ p ≤ i + 1 ∧ i ≤ p + 2 ∧ Sort.PermIn a b D E ∧ Nums wr base g cap E ∧ Blk wr w.heap.size #[.int .u64 y] 158 ∧ Keep (fun j => j = g) w wr) (fun iv _ _ => p + 2 - (intOf iv).toNat)
  case atStart => exact ⟨p - 1, D, _, by go_num, by omega, by omega, Sort.permIn_refl _ _ _, HO0.out.other hkW0 fun h => h, hBW0, hkW0.mono fun _ _ h => h.elim⟩
  case round =>
    obtain ⟨i, E, y, rfl, hi1, hi2, hp, hO, hbz, hkz⟩ := hrel
    clear HO0 hkW0 hBW0 hzW0
    generalize wr = wz at *
    have hEs : E.size = n := hp.1.trans HN.out
    by_cases hlt : i ≤ p + 1
    · have hz : (i : Int) ≤ (p : Int) + 1 := by omega
      go_wp2_with (first | (at_builtin; refine wl_append rfl _ _ _ _ rfl _ _ rfl rfl ?_) | (at_make; refine wl_make rfl _ _ _ rfl _ _ rfl rfl ?_) | (at_mapUpdate; refine wl_mapUpdate rfl _ _ _ _ rfl _ _ _ rfl rfl rfl ?_) | (at_lookup; refine wl_lookup rfl _ _ _ _ rfl _ _ rfl rfl ?_) | (at_delete; refine wl_delete rfl _ _ _ _ rfl _ _ rfl rfl ?_) | (with_reducible refine wl_len rfl _ _ rfl _ rfl ?_) | (with_reducible refine wl_range rfl _ _ rfl _ rfl ?_) | (with_reducible refine wl_next rfl _ rfl _ rfl ?_) | (with_reducible refine wl_copy rfl _ _ _ _ rfl _ _ rfl rfl ?_) | (with_reducible refine wl_max rfl _ _ _ _ rfl _ _ rfl rfl ?_) | (with_reducible refine wl_min rfl _ _ _ _ rfl _ _ rfl rfl ?_))
      refine (next_any hbz).mono ?_
      rintro e wy ⟨y', rfl, hby, hky⟩
      obtain ⟨o, ho, e6⟩ := and_u64 y' m1 (by omega)
      have hO := hO.other hky (fun e => hsg e.symm)
      have hkz : Keep (fun j => j = g) w wy := hkz.trans hky fun j hj e => by have e2 : j = w.heap.size := e; omega
      generalize wy = wz at *
      have hbz := hby
      by_cases hoL : L ≤ o
      · have e7 : (o : Int) - (L : Int) = ((o - L : Nat) : Int) := by omega
        have hoz : (L : Int) ≤ (o : Int) := by omega
        have hol : o - L < L := by omega
        generalize o - L = o1 at *
        clear hby hky
        obtain ⟨k, hk7⟩ : ∃ k, k = a + o1 := ⟨_, rfl⟩
        have e8 : (a : Int) + (o1 : Int) = (k : Int) := by omega
        have hkr : a ≤ k ∧ k < b := by omega
        have hwk : IntKind.i64.wrap (k : Int) = (k : Int) := by rw [IntKind.wrap_i64]; omega
        have hkb : (k : Int) < 65536 := by omega
        have hk0 : 0 ≤ (k : Int) := by omega
        have HP := Lib.hid (Sort.permIn_trans _ _ _ _ _ hp (Sort.swp_permIn E a b i k (by omega) (by omega) hkr.1 hkr.2 (by omega)))
        have hiz : 0 ≤ (i : Int) := by omega
        clear hk7 hp
        by_cases hik : i = k
        · subst hik
          have c1 := hO.cell (i := i) (by omega)
          have c2 := hO.cell (i := i) (by omega)
          have f1 := hO.frozen i
          have f2 := hO.frozen i
          have hsw : Nums ((wz.setCell ⟨g, i, none⟩ (uv E[i]!)).setCell ⟨g, i, none⟩ (uv E[i]!)) base g cap (Sort.swp E i i) := (hO.set i E[i]!).set i E[i]!
          have hkw : Keep (fun j => j = g) wz ((wz.setCell ⟨g, i, none⟩ (uv E[i]!)).setCell ⟨g, i, none⟩ (uv E[i]!)) := ((Keep.refl (fun j => j = g) wz).setCell (p := ⟨g, i, none⟩) (fun _ => rfl) _).setCell (p := ⟨g, i, none⟩) (fun _ => rfl) _
          unfold uv at c1 c2 hsw hkw
          generalize E[i]! = x at *
          generalize E[i]! = y at *
          have HSW := Lib.hid hsw
          have HKW := Lib.hid hkw
          clear hsw hkw
          clear hEs
          go_wp2_with (first | (at_builtin; refine wl_append rfl _ _ _ _ rfl _ _ rfl rfl ?_) | (at_make; refine wl_make rfl _ _ _ rfl _ _ rfl rfl ?_) | (at_mapUpdate; refine wl_mapUpdate rfl _ _ _ _ rfl _ _ _ rfl rfl rfl ?_) | (at_lookup; refine wl_lookup rfl _ _ _ _ rfl _ _ rfl rfl ?_) | (at_delete; refine wl_delete rfl _ _ _ _ rfl _ _ rfl rfl ?_) | (with_reducible refine wl_len rfl _ _ rfl _ rfl ?_) | (with_reducible refine wl_range rfl _ _ rfl _ rfl ?_) | (with_reducible refine wl_next rfl _ rfl _ rfl ?_) | (with_reducible refine wl_copy rfl _ _ _ _ rfl _ _ rfl rfl ?_) | (with_reducible refine wl_max rfl _ _ _ _ rfl _ _ rfl rfl ?_) | (with_reducible refine wl_min rfl _ _ _ _ rfl _ _ rfl rfl ?_))
          go_region
          go_wp2_with (first | (at_builtin; refine wl_append rfl _ _ _ _ rfl _ _ rfl rfl ?_) | (at_make; refine wl_make rfl _ _ _ rfl _ _ rfl rfl ?_) | (at_mapUpdate; refine wl_mapUpdate rfl _ _ _ _ rfl _ _ _ rfl rfl rfl ?_) | (at_lookup; refine wl_lookup rfl _ _ _ _ rfl _ _ rfl rfl ?_) | (at_delete; refine wl_delete rfl _ _ _ _ rfl _ _ rfl rfl ?_) | (with_reducible refine wl_len rfl _ _ rfl _ rfl ?_) | (with_reducible refine wl_range rfl _ _ rfl _ rfl ?_) | (with_reducible refine wl_next rfl _ rfl _ rfl ?_) | (with_reducible refine wl_copy rfl _ _ _ _ rfl _ _ rfl rfl ?_) | (with_reducible refine wl_max rfl _ _ _ _ rfl _ _ rfl rfl ?_) | (with_reducible refine wl_min rfl _ _ _ _ rfl _ _ rfl rfl ?_))
          go_roundw
          case rel => exact ⟨i + 1, _, _, by go_num, by omega, by omega, HP.out, HSW.out, hbz.keep HKW.out.drew hsg, (hkz.trans' HKW.out).drew⟩
          case measure => simp [intOf]; omega
        · skip
          have c1 := hO.cell (i := i) (by omega)
          have c2 := hO.cell (i := k) (by omega)
          have f1 := hO.frozen i
          have f2 := hO.frozen k
          have hsw : Nums ((wz.setCell ⟨g, i, none⟩ (uv E[k]!)).setCell ⟨g, k, none⟩ (uv E[i]!)) base g cap (Sort.swp E i k) := (hO.set i E[k]!).set k E[i]!
          have hkw : Keep (fun j => j = g) wz ((wz.setCell ⟨g, i, none⟩ (uv E[k]!)).setCell ⟨g, k, none⟩ (uv E[i]!)) := ((Keep.refl (fun j => j = g) wz).setCell (p := ⟨g, i, none⟩) (fun _ => rfl) _).setCell (p := ⟨g, k, none⟩) (fun _ => rfl) _
          unfold uv at c1 c2 hsw hkw
          generalize E[i]! = x at *
          generalize E[k]! = y at *
          have HSW := Lib.hid hsw
          have HKW := Lib.hid hkw
          clear hsw hkw
          clear hEs
          go_wp2_with (first | (at_builtin; refine wl_append rfl _ _ _ _ rfl _ _ rfl rfl ?_) | (at_make; refine wl_make rfl _ _ _ rfl _ _ rfl rfl ?_) | (at_mapUpdate; refine wl_mapUpdate rfl _ _ _ _ rfl _ _ _ rfl rfl rfl ?_) | (at_lookup; refine wl_lookup rfl _ _ _ _ rfl _ _ rfl rfl ?_) | (at_delete; refine wl_delete rfl _ _ _ _ rfl _ _ rfl rfl ?_) | (with_reducible refine wl_len rfl _ _ rfl _ rfl ?_) | (with_reducible refine wl_range rfl _ _ rfl _ rfl ?_) | (with_reducible refine wl_next rfl _ rfl _ rfl ?_) | (with_reducible refine wl_copy rfl _ _ _ _ rfl _ _ rfl rfl ?_) | (with_reducible refine wl_max rfl _ _ _ _ rfl _ _ rfl rfl ?_) | (with_reducible refine wl_min rfl _ _ _ _ rfl _ _ rfl rfl ?_))
          go_region
          go_wp2_with (first | (at_builtin; refine wl_append rfl _ _ _ _ rfl _ _ rfl rfl ?_) | (at_make; refine wl_make rfl _ _ _ rfl _ _ rfl rfl ?_) | (at_mapUpdate; refine wl_mapUpdate rfl _ _ _ _ rfl _ _ _ rfl rfl rfl ?_) | (at_lookup; refine wl_lookup rfl _ _ _ _ rfl _ _ rfl rfl ?_) | (at_delete; refine wl_delete rfl _ _ _ _ rfl _ _ rfl rfl ?_) | (with_reducible refine wl_len rfl _ _ rfl _ rfl ?_) | (with_reducible refine wl_range rfl _ _ rfl _ rfl ?_) | (with_reducible refine wl_next rfl _ rfl _ rfl ?_) | (with_reducible refine wl_copy rfl _ _ _ _ rfl _ _ rfl rfl ?_) | (with_reducible refine wl_max rfl _ _ _ _ rfl _ _ rfl rfl ?_) | (with_reducible refine wl_min rfl _ _ _ _ rfl _ _ rfl rfl ?_))
          go_roundw
          case rel => exact ⟨i + 1, _, _, by go_num, by omega, by omega, HP.out, HSW.out, hbz.keep HKW.out.drew hsg, (hkz.trans' HKW.out).drew⟩
          case measure => simp [intOf]; omega
      · have hoz : ¬ (L : Int) ≤ (o : Int) := by omega
        clear hby hky
        obtain ⟨k, hk7⟩ : ∃ k, k = a + o := ⟨_, rfl⟩
        have e8 : (a : Int) + (o : Int) = (k : Int) := by omega
        have hkr : a ≤ k ∧ k < b := by omega
        have hwk : IntKind.i64.wrap (k : Int) = (k : Int) := by rw [IntKind.wrap_i64]; omega
        have hkb : (k : Int) < 65536 := by omega
        have hk0 : 0 ≤ (k : Int) := by omega
        have HP := Lib.hid (Sort.permIn_trans _ _ _ _ _ hp (Sort.swp_permIn E a b i k (by omega) (by omega) hkr.1 hkr.2 (by omega)))
        have hiz : 0 ≤ (i : Int) := by omega
        clear hk7 hp
        by_cases hik : i = k
        · subst hik
          have c1 := hO.cell (i := i) (by omega)
          have c2 := hO.cell (i := i) (by omega)
          have f1 := hO.frozen i
          have f2 := hO.frozen i
          have hsw : Nums ((wz.setCell ⟨g, i, none⟩ (uv E[i]!)).setCell ⟨g, i, none⟩ (uv E[i]!)) base g cap (Sort.swp E i i) := (hO.set i E[i]!).set i E[i]!
          have hkw : Keep (fun j => j = g) wz ((wz.setCell ⟨g, i, none⟩ (uv E[i]!)).setCell ⟨g, i, none⟩ (uv E[i]!)) := ((Keep.refl (fun j => j = g) wz).setCell (p := ⟨g, i, none⟩) (fun _ => rfl) _).setCell (p := ⟨g, i, none⟩) (fun _ => rfl) _
          unfold uv at c1 c2 hsw hkw
          generalize E[i]! = x at *
          generalize E[i]! = y at *
          have HSW := Lib.hid hsw
          have HKW := Lib.hid hkw
          clear hsw hkw
          clear hEs
          go_wp2_with (first | (at_builtin; refine wl_append rfl _ _ _ _ rfl _ _ rfl rfl ?_) | (at_make; refine wl_make rfl _ _ _ rfl _ _ rfl rfl ?_) | (at_mapUpdate; refine wl_mapUpdate rfl _ _ _ _ rfl _ _ _ rfl rfl rfl ?_) | (at_lookup; refine wl_lookup rfl _ _ _ _ rfl _ _ rfl rfl ?_) | (at_delete; refine wl_delete rfl _ _ _ _ rfl _ _ rfl rfl ?_) | (with_reducible refine wl_len rfl _ _ rfl _ rfl ?_) | (with_reducible refine wl_range rfl _ _ rfl _ rfl ?_) | (with_reducible refine wl_next rfl _ rfl _ rfl ?_) | (with_reducible refine wl_copy rfl _ _ _ _ rfl _ _ rfl rfl ?_) | (with_reducible refine wl_max rfl _ _ _ _ rfl _ _ rfl rfl ?_) | (with_reducible refine wl_min rfl _ _ _ _ rfl _ _ rfl rfl ?_))
          go_region
          go_wp2_with (first | (at_builtin; refine wl_append rfl _ _ _ _ rfl _ _ rfl rfl ?_) | (at_make; refine wl_make rfl _ _ _ rfl _ _ rfl rfl ?_) | (at_mapUpdate; refine wl_mapUpdate rfl _ _ _ _ rfl _ _ _ rfl rfl rfl ?_) | (at_lookup; refine wl_lookup rfl _ _ _ _ rfl _ _ rfl rfl ?_) | (at_delete; refine wl_delete rfl _ _ _ _ rfl _ _ rfl rfl ?_) | (with_reducible refine wl_len rfl _ _ rfl _ rfl ?_) | (with_reducible refine wl_range rfl _ _ rfl _ rfl ?_) | (with_reducible refine wl_next rfl _ rfl _ rfl ?_) | (with_reducible refine wl_copy rfl _ _ _ _ rfl _ _ rfl rfl ?_) | (with_reducible refine wl_max rfl _ _ _ _ rfl _ _ rfl rfl ?_) | (with_reducible refine wl_min rfl _ _ _ _ rfl _ _ rfl rfl ?_))
          go_roundw
          case rel => exact ⟨i + 1, _, _, by go_num, by omega, by omega, HP.out, HSW.out, hbz.keep HKW.out.drew hsg, (hkz.trans' HKW.out).drew⟩
          case measure => simp [intOf]; omega
        · skip
          have c1 := hO.cell (i := i) (by omega)
          have c2 := hO.cell (i := k) (by omega)
          have f1 := hO.frozen i
          have f2 := hO.frozen k
          have hsw : Nums ((wz.setCell ⟨g, i, none⟩ (uv E[k]!)).setCell ⟨g, k, none⟩ (uv E[i]!)) base g cap (Sort.swp E i k) := (hO.set i E[k]!).set k E[i]!
          have hkw : Keep (fun j => j = g) wz ((wz.setCell ⟨g, i, none⟩ (uv E[k]!)).setCell ⟨g, k, none⟩ (uv E[i]!)) := ((Keep.refl (fun j => j = g) wz).setCell (p := ⟨g, i, none⟩) (fun _ => rfl) _).setCell (p := ⟨g, k, none⟩) (fun _ => rfl) _
          unfold uv at c1 c2 hsw hkw
          generalize E[i]! = x at *
          generalize E[k]! = y at *
          have HSW := Lib.hid hsw
          have HKW := Lib.hid hkw
          clear hsw hkw
          clear hEs
          go_wp2_with (first | (at_builtin; refine wl_append rfl _ _ _ _ rfl _ _ rfl rfl ?_) | (at_make; refine wl_make rfl _ _ _ rfl _ _ rfl rfl ?_) | (at_mapUpdate; refine wl_mapUpdate rfl _ _ _ _ rfl _ _ _ rfl rfl rfl ?_) | (at_lookup; refine wl_lookup rfl _ _ _ _ rfl _ _ rfl rfl ?_) | (at_delete; refine wl_delete rfl _ _ _ _ rfl _ _ rfl rfl ?_) | (with_reducible refine wl_len rfl _ _ rfl _ rfl ?_) | (with_reducible refine wl_range rfl _ _ rfl _ rfl ?_) | (with_reducible refine wl_next rfl _ rfl _ rfl ?_) | (with_reducible refine wl_copy rfl _ _ _ _ rfl _ _ rfl rfl ?_) | (with_reducible refine wl_max rfl _ _ _ _ rfl _ _ rfl rfl ?_) | (with_reducible refine wl_min rfl _ _ _ _ rfl _ _ rfl rfl ?_))
          go_region
          go_wp2_with (first | (at_builtin; refine wl_append rfl _ _ _ _ rfl _ _ rfl rfl ?_) | (at_make; refine wl_make rfl _ _ _ rfl _ _ rfl rfl ?_) | (at_mapUpdate; refine wl_mapUpdate rfl _ _ _ _ rfl _ _ _ rfl rfl rfl ?_) | (at_lookup; refine wl_lookup rfl _ _ _ _ rfl _ _ rfl rfl ?_) | (at_delete; refine wl_delete rfl _ _ _ _ rfl _ _ rfl rfl ?_) | (with_reducible refine wl_len rfl _ _ rfl _ rfl ?_) | (with_reducible refine wl_range rfl _ _ rfl _ rfl ?_) | (with_reducible refine wl_next rfl _ rfl _ rfl ?_) | (with_reducible refine wl_copy rfl _ _ _ _ rfl _ _ rfl rfl ?_) | (with_reducible refine wl_max rfl _ _ _ _ rfl _ _ rfl rfl ?_) | (with_reducible refine wl_min rfl _ _ _ _ rfl _ _ rfl rfl ?_))
          go_roundw
          case rel => exact ⟨i + 1, _, _, by go_num, by omega, by omega, HP.out, HSW.out, hbz.keep HKW.out.drew hsg, (hkz.trans' HKW.out).drew⟩
          case measure => simp [intOf]; omega
    · have hz : ¬ (i : Int) ≤ (p : Int) + 1 := by omega
      go_wp2_with (first | (at_builtin; refine wl_append rfl _ _ _ _ rfl _ _ rfl rfl ?_) | (at_make; refine wl_make rfl _ _ _ rfl _ _ rfl rfl ?_) | (at_mapUpdate; refine wl_mapUpdate rfl _ _ _ _ rfl _ _ _ rfl rfl rfl ?_) | (at_lookup; refine wl_lookup rfl _ _ _ _ rfl _ _ rfl rfl ?_) | (at_delete; refine wl_delete rfl _ _ _ _ rfl _ _ rfl rfl ?_) | (with_reducible refine wl_len rfl _ _ rfl _ rfl ?_) | (with_reducible refine wl_range rfl _ _ rfl _ rfl ?_) | (with_reducible refine wl_next rfl _ rfl _ rfl ?_) | (with_reducible refine wl_copy rfl _ _ _ _ rfl _ _ rfl rfl ?_) | (with_reducible refine wl_max rfl _ _ _ _ rfl _ _ rfl rfl ?_) | (with_reducible refine wl_min rfl _ _ _ _ rfl _ _ rfl rfl ?_))
      go_end0
      exact ⟨rfl, E, hp, hO, hkz⟩
end
end Go.Proofs.YthfekjnekaecaaaDoor
