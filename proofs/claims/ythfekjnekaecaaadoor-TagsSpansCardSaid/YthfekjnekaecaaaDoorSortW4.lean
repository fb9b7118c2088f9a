/- partitionEqualOrdered, partitionOrdered at uint64. No condition. -/
import Derived.Test.YthfekjnekaecaaaDoorSortW3
import Derived.Test.YthfekjnekaecaaaDoorSortP
set_option linter.unusedVariables false
set_option linter.unusedSimpArgs false
namespace Go.Proofs.YthfekjnekaecaaaDoor
open Go.RowKit Go.Dm
theorem keep_drewN {A : Nat → Prop} {w wz : World} {p1 p2 : Addr} {u v : Value} (h : Keep A w ((wz.setCell p1 u).setCell p2 v)) (q : Nat) : Keep A w (((wz.setCell p1 u).setCell p2 v).drewN q) := h.drewN q
section
variable {w : World} {base g cap a b : Nat} {D E : Array Nat}
set_option maxRecDepth 100000 in
set_option maxHeartbeats 8000000 in
theorem peq_any {q : Nat} (h : Nums w base g cap D) (hab : a < b) (hb : b ≤ D.size) (h1 : a ≤ q) (h2 : q < b) (hn : D.size ≤ 1099511627776) :
    Calls Tryd.prog 82 #[.slice (some ⟨g, 0, none⟩) D.size cap, .int .i64 (a : Int), .int .i64 (b : Int), .int .i64 (q : Int)] w fun e w' => ∃ m : Nat, e = .returned (.int .i64 (m : Int)) ∧ ∃ E, PeqOk a b m D[q]! D E ∧ Nums w' base g cap E ∧ Keep (fun j => j = g) w w' := by
  have hst := PtI.start (p := fun x => !ltN D[q]! x) hab h1 h2 hb
  have hva : (Sort.swp D a q)[a]! = D[q]! := by
    rw [swp_at D (by omega) (by omega)]
    split
    · rename_i e; rw [e]
    · rw [if_pos rfl]
  have hbD := hb
  obtain ⟨v, hv⟩ : ∃ v, v = D[q]! := ⟨_, rfl⟩
  rw [← hv] at hst hva ⊢
  have c1 := (h).cell (i := a) (by omega)
  have c2 := (h).cell (i := q) (by omega)
  have f1 := (h).frozen a
  have f2 := (h).frozen q
  have hsw : Nums ((w.setCell ⟨g, a, none⟩ (uv D[q]!)).setCell ⟨g, q, none⟩ (uv D[a]!)) base g cap (Sort.swp D a q) := ((h).set a D[q]!).set q D[a]!
  have hkw : Keep (fun j => j = g) w ((w.setCell ⟨g, a, none⟩ (uv D[q]!)).setCell ⟨g, q, none⟩ (uv D[a]!)) := ((Keep.refl (fun j => j = g) w).setCell (p := ⟨g, a, none⟩) (fun _ => rfl) _).setCell (p := ⟨g, q, none⟩) (fun _ => rfl) _
  unfold uv at c1 c2 hsw hkw
  obtain ⟨v', hy'⟩ := cell?_setCell_some (w := w) (p := ⟨g, a, none⟩) (x := .int .u64 ((D[q]! : Nat) : Int)) (q := ⟨g, q, none⟩) c2
  have hy2 : ∀ k, ((w.drewN k).setCell ⟨g, a, none⟩ (.int .u64 ((D[q]! : Nat) : Int))).cell? ⟨g, q, none⟩ = some v' := fun _ => hy'
  generalize D[a]! = x0 at *
  generalize D[q]! = y0 at *
  generalize hN : D.size = n at *
  have HN := Lib.hid hN
  clear hN hv
  have HST := Lib.hid hst
  have HVA := Lib.hid hva
  have HSW := Lib.hid hsw
  have HKW := Lib.hid hkw
  clear hsw hkw hst hva h
  go_enter Tryd.func82, Tryd.ntmps82
  go_wp2_with (first | (at_builtin; refine wl_append rfl _ _ _ _ rfl _ _ rfl rfl ?_) | (at_make; refine wl_make rfl _ _ _ rfl _ _ rfl rfl ?_) | (at_mapUpdate; refine wl_mapUpdate rfl _ _ _ _ rfl _ _ _ rfl rfl rfl ?_) | (at_lookup; refine wl_lookup rfl _ _ _ _ rfl _ _ rfl rfl ?_) | (at_delete; refine wl_delete rfl _ _ _ _ rfl _ _ rfl rfl ?_) | (with_reducible refine wl_len rfl _ _ rfl _ rfl ?_) | (with_reducible refine wl_range rfl _ _ rfl _ rfl ?_) | (with_reducible refine wl_next rfl _ rfl _ rfl ?_) | (with_reducible refine wl_copy rfl _ _ _ _ rfl _ _ rfl rfl ?_) | (with_reducible refine wl_max rfl _ _ _ _ rfl _ _ rfl rfl ?_) | (with_reducible refine wl_min rfl _ _ _ _ rfl _ _ rfl rfl ?_))
  go_region
  go_wp2_with (first | (at_builtin; refine wl_append rfl _ _ _ _ rfl _ _ rfl rfl ?_) | (at_make; refine wl_make rfl _ _ _ rfl _ _ rfl rfl ?_) | (at_mapUpdate; refine wl_mapUpdate rfl _ _ _ _ rfl _ _ _ rfl rfl rfl ?_) | (at_lookup; refine wl_lookup rfl _ _ _ _ rfl _ _ rfl rfl ?_) | (at_delete; refine wl_delete rfl _ _ _ _ rfl _ _ rfl rfl ?_) | (with_reducible refine wl_len rfl _ _ rfl _ rfl ?_) | (with_reducible refine wl_range rfl _ _ rfl _ rfl ?_) | (with_reducible refine wl_next rfl _ rfl _ rfl ?_) | (with_reducible refine wl_copy rfl _ _ _ _ rfl _ _ rfl rfl ?_) | (with_reducible refine wl_max rfl _ _ _ _ rfl _ _ rfl rfl ?_) | (with_reducible refine wl_min rfl _ _ _ _ rfl _ _ rfl rfl ?_))
  go_loopw [9, 10] (fun iv jv wr => ∃ (i j : Nat) (E : Array Nat), iv = .int .i64 (i : Int) ∧ jv = .int .i64 (j : Int) ∧ PtI (fun x => !ltN v x) a b D E i j ∧ E[a]! = v ∧ Nums wr base g cap E ∧ Keep (fun j => j = g) w wr) (fun iv jv _ => (intOf jv).toNat + 1 - (intOf iv).toNat)
  case atStart => exact ⟨a + 1, b - 1, _, by go_num, by go_num, HST.out, HVA.out, HSW.out, HKW.out.drew⟩
  case round =>
    clear HST HVA HSW HKW c1 c2 f1 f2 hy'
    obtain ⟨i, j, E, rfl, rfl, hP0, hva, hO, hk⟩ := hrel
    have hEs : E.size = n := hP0.perm.1.trans HN.out
    have HV := Lib.hid hva
    have HP0 := Lib.hid hP0
    have HES := Lib.hid hEs
    have hbD : b ≤ D.size := by rw [HN.out]; exact hb
    have hai0 := hP0.ai
    clear hva hP0 hEs hbD
    generalize wr = wz at *
    go_wp2_with (first | (at_builtin; refine wl_append rfl _ _ _ _ rfl _ _ rfl rfl ?_) | (at_make; refine wl_make rfl _ _ _ rfl _ _ rfl rfl ?_) | (at_mapUpdate; refine wl_mapUpdate rfl _ _ _ _ rfl _ _ _ rfl rfl rfl ?_) | (at_lookup; refine wl_lookup rfl _ _ _ _ rfl _ _ rfl rfl ?_) | (at_delete; refine wl_delete rfl _ _ _ _ rfl _ _ rfl rfl ?_) | (with_reducible refine wl_len rfl _ _ rfl _ rfl ?_) | (with_reducible refine wl_range rfl _ _ rfl _ rfl ?_) | (with_reducible refine wl_next rfl _ rfl _ rfl ?_) | (with_reducible refine wl_copy rfl _ _ _ _ rfl _ _ rfl rfl ?_) | (with_reducible refine wl_max rfl _ _ _ _ rfl _ _ rfl rfl ?_) | (with_reducible refine wl_min rfl _ _ _ _ rfl _ _ rfl rfl ?_))
    go_loopw [9] (fun iv wr => ∃ i' : Nat, iv = .int .i64 (i' : Int) ∧ i ≤ i' ∧ PtI (fun x => !ltN v x) a b D E i' j ∧ Nums wr base g cap E ∧ Keep (fun j => j = g) w wr) (fun iv _ => j + 1 - (intOf iv).toNat)
    case atStart => exact ⟨i, rfl, Nat.le_refl _, HP0.out, hO, hk⟩
    case round =>
      clear HP0 hO hk
      obtain ⟨i', rfl, hii, hP, hO, hk⟩ := hrel
      generalize wr = wx at *
      have hai := hP.ai
      have hjb := hP.jb
      have hij := hP.ij
      have hEs := HES.out
      have hbD : b ≤ D.size := by rw [HN.out]; exact hb
      rcases Nat.lt_or_ge j i' with hji | hji
      · have hz : ¬ (i' : Int) ≤ (j : Int) := by omega
        have hz2 : decide ((i' : Int) ≤ (j : Int)) = false := by simp; omega
        have hz3 : decide (i' ≤ j) = false := by simp; omega
        have hpi : i' ≤ j → (!ltN v E[i']!) = false := fun h => by omega
        go_wp2_with (first | (at_builtin; refine wl_append rfl _ _ _ _ rfl _ _ rfl rfl ?_) | (at_make; refine wl_make rfl _ _ _ rfl _ _ rfl rfl ?_) | (at_mapUpdate; refine wl_mapUpdate rfl _ _ _ _ rfl _ _ _ rfl rfl rfl ?_) | (at_lookup; refine wl_lookup rfl _ _ _ _ rfl _ _ rfl rfl ?_) | (at_delete; refine wl_delete rfl _ _ _ _ rfl _ _ rfl rfl ?_) | (with_reducible refine wl_len rfl _ _ rfl _ rfl ?_) | (with_reducible refine wl_range rfl _ _ rfl _ rfl ?_) | (with_reducible refine wl_next rfl _ rfl _ rfl ?_) | (with_reducible refine wl_copy rfl _ _ _ _ rfl _ _ rfl rfl ?_) | (with_reducible refine wl_max rfl _ _ _ _ rfl _ _ rfl rfl ?_) | (with_reducible refine wl_min rfl _ _ _ _ rfl _ _ rfl rfl ?_))
        go_quiet (first | (go_at_call 81; exact Calls.quiet_of_same (less_same _ _ _)) | (go_at_call 81; exact quiet_on (less_same _ _ _)))
        go_wp2_with (first | (at_builtin; refine wl_append rfl _ _ _ _ rfl _ _ rfl rfl ?_) | (at_make; refine wl_make rfl _ _ _ rfl _ _ rfl rfl ?_) | (at_mapUpdate; refine wl_mapUpdate rfl _ _ _ _ rfl _ _ _ rfl rfl rfl ?_) | (at_lookup; refine wl_lookup rfl _ _ _ _ rfl _ _ rfl rfl ?_) | (at_delete; refine wl_delete rfl _ _ _ _ rfl _ _ rfl rfl ?_) | (with_reducible refine wl_len rfl _ _ rfl _ rfl ?_) | (with_reducible refine wl_range rfl _ _ rfl _ rfl ?_) | (with_reducible refine wl_next rfl _ rfl _ rfl ?_) | (with_reducible refine wl_copy rfl _ _ _ _ rfl _ _ rfl rfl ?_) | (with_reducible refine wl_max rfl _ _ _ _ rfl _ _ rfl rfl ?_) | (with_reducible refine wl_min rfl _ _ _ _ rfl _ _ rfl rfl ?_))
        have HPD := Lib.hid (show i' ≤ j → (!ltN v E[i']!) = false from hpi)
        clear hpi
        try simp only [Bool.not_true]
        go_loopw [10] (fun jv wr => ∃ j' : Nat, jv = .int .i64 (j' : Int) ∧ j' ≤ j ∧ PtI (fun x => !ltN v x) a b D E i' j' ∧ Nums wr base g cap E ∧ Keep (fun j => j = g) w wr) (fun jv _ => (intOf jv).toNat)
        case atStart => exact ⟨j, rfl, Nat.le_refl _, hP, hO, hk.drewN _⟩
        case round =>
          clear hP hO hk
          obtain ⟨j', rfl, hjj, hP, hO, hk⟩ := hrel
          generalize wr = wy at *
          have hai := hP.ai
          have hjb := hP.jb
          have hij := hP.ij
          rcases Nat.lt_or_ge j' i' with hji | hji
          · have hz : ¬ (i' : Int) ≤ (j' : Int) := by omega
            have hz2 : decide ((i' : Int) ≤ (j' : Int)) = false := by simp; omega
            have hz3 : decide (i' ≤ j') = false := by simp; omega
            have hz4 : (j' : Int) < (i' : Int) := by omega
            go_wp2_with (first | (at_builtin; refine wl_append rfl _ _ _ _ rfl _ _ rfl rfl ?_) | (at_make; refine wl_make rfl _ _ _ rfl _ _ rfl rfl ?_) | (at_mapUpdate; refine wl_mapUpdate rfl _ _ _ _ rfl _ _ _ rfl rfl rfl ?_) | (at_lookup; refine wl_lookup rfl _ _ _ _ rfl _ _ rfl rfl ?_) | (at_delete; refine wl_delete rfl _ _ _ _ rfl _ _ rfl rfl ?_) | (with_reducible refine wl_len rfl _ _ rfl _ rfl ?_) | (with_reducible refine wl_range rfl _ _ rfl _ rfl ?_) | (with_reducible refine wl_next rfl _ rfl _ rfl ?_) | (with_reducible refine wl_copy rfl _ _ _ _ rfl _ _ rfl rfl ?_) | (with_reducible refine wl_max rfl _ _ _ _ rfl _ _ rfl rfl ?_) | (with_reducible refine wl_min rfl _ _ _ _ rfl _ _ rfl rfl ?_))
            go_quiet (first | (go_at_call 81; exact Calls.quiet_of_same (less_same _ _ _)) | (go_at_call 81; exact quiet_on (less_same _ _ _)))
            go_wp2_with (first | (at_builtin; refine wl_append rfl _ _ _ _ rfl _ _ rfl rfl ?_) | (at_make; refine wl_make rfl _ _ _ rfl _ _ rfl rfl ?_) | (at_mapUpdate; refine wl_mapUpdate rfl _ _ _ _ rfl _ _ _ rfl rfl rfl ?_) | (at_lookup; refine wl_lookup rfl _ _ _ _ rfl _ _ rfl rfl ?_) | (at_delete; refine wl_delete rfl _ _ _ _ rfl _ _ rfl rfl ?_) | (with_reducible refine wl_len rfl _ _ rfl _ rfl ?_) | (with_reducible refine wl_range rfl _ _ rfl _ rfl ?_) | (with_reducible refine wl_next rfl _ rfl _ rfl ?_) | (with_reducible refine wl_copy rfl _ _ _ _ rfl _ _ rfl rfl ?_) | (with_reducible refine wl_max rfl _ _ _ _ rfl _ _ rfl rfl ?_) | (with_reducible refine wl_min rfl _ _ _ _ rfl _ _ rfl rfl ?_))
            go_ret
            exact ⟨i', rfl, E, hP.finq HV.out hji, hO, hk.drewN _⟩
          · exact absurd hji (by omega)
      · have hz : (i' : Int) ≤ (j : Int) := by omega
        have hz2 : decide ((i' : Int) ≤ (j : Int)) = true := by simp; omega
        have hz3 : decide (i' ≤ j) = true := by simp; omega
        have ca := hO.cell (i := a) (by omega)
        have ci := hO.cell (i := i') (by omega)
        rw [HV.out] at ca
        unfold uv at ca ci
        have hin : (i' : Int) < (n : Int) := by omega
        obtain ⟨x, hx⟩ : ∃ x, x = E[i']! := ⟨_, rfl⟩
        rw [← hx] at ci
        have HX := Lib.hid hx
        clear hx
        go_wp2_with (first | (at_builtin; refine wl_append rfl _ _ _ _ rfl _ _ rfl rfl ?_) | (at_make; refine wl_make rfl _ _ _ rfl _ _ rfl rfl ?_) | (at_mapUpdate; refine wl_mapUpdate rfl _ _ _ _ rfl _ _ _ rfl rfl rfl ?_) | (at_lookup; refine wl_lookup rfl _ _ _ _ rfl _ _ rfl rfl ?_) | (at_delete; refine wl_delete rfl _ _ _ _ rfl _ _ rfl rfl ?_) | (with_reducible refine wl_len rfl _ _ rfl _ rfl ?_) | (with_reducible refine wl_range rfl _ _ rfl _ rfl ?_) | (with_reducible refine wl_next rfl _ rfl _ rfl ?_) | (with_reducible refine wl_copy rfl _ _ _ _ rfl _ _ rfl rfl ?_) | (with_reducible refine wl_max rfl _ _ _ _ rfl _ _ rfl rfl ?_) | (with_reducible refine wl_min rfl _ _ _ _ rfl _ _ rfl rfl ?_))
        go_quiet (first | (go_at_call 81; exact Calls.quiet_of_same (less_same _ _ _)) | (go_at_call 81; exact quiet_on (less_same _ _ _)))
        cases hl : ltN v x with
        | false =>
          have hU := hP.up hji (by show (!ltN v E[i']!) = true; rw [← HX.out, hl]; rfl)
          go_wp2_with (first | (at_builtin; refine wl_append rfl _ _ _ _ rfl _ _ rfl rfl ?_) | (at_make; refine wl_make rfl _ _ _ rfl _ _ rfl rfl ?_) | (at_mapUpdate; refine wl_mapUpdate rfl _ _ _ _ rfl _ _ _ rfl rfl rfl ?_) | (at_lookup; refine wl_lookup rfl _ _ _ _ rfl _ _ rfl rfl ?_) | (at_delete; refine wl_delete rfl _ _ _ _ rfl _ _ rfl rfl ?_) | (with_reducible refine wl_len rfl _ _ rfl _ rfl ?_) | (with_reducible refine wl_range rfl _ _ rfl _ rfl ?_) | (with_reducible refine wl_next rfl _ rfl _ rfl ?_) | (with_reducible refine wl_copy rfl _ _ _ _ rfl _ _ rfl rfl ?_) | (with_reducible refine wl_max rfl _ _ _ _ rfl _ _ rfl rfl ?_) | (with_reducible refine wl_min rfl _ _ _ _ rfl _ _ rfl rfl ?_))
          go_roundw
          case rel => exact ⟨i' + 1, by go_num, by omega, hU, hO, hk.drewN _⟩
          case measure => first | (simp [intOf]; done) | (simp [intOf]; omega)
        | true =>
          have hpi : i' ≤ j → (!ltN v E[i']!) = false := fun _ => by rw [← HX.out, hl]; rfl
          clear ca ci HX
          go_wp2_with (first | (at_builtin; refine wl_append rfl _ _ _ _ rfl _ _ rfl rfl ?_) | (at_make; refine wl_make rfl _ _ _ rfl _ _ rfl rfl ?_) | (at_mapUpdate; refine wl_mapUpdate rfl _ _ _ _ rfl _ _ _ rfl rfl rfl ?_) | (at_lookup; refine wl_lookup rfl _ _ _ _ rfl _ _ rfl rfl ?_) | (at_delete; refine wl_delete rfl _ _ _ _ rfl _ _ rfl rfl ?_) | (with_reducible refine wl_len rfl _ _ rfl _ rfl ?_) | (with_reducible refine wl_range rfl _ _ rfl _ rfl ?_) | (with_reducible refine wl_next rfl _ rfl _ rfl ?_) | (with_reducible refine wl_copy rfl _ _ _ _ rfl _ _ rfl rfl ?_) | (with_reducible refine wl_max rfl _ _ _ _ rfl _ _ rfl rfl ?_) | (with_reducible refine wl_min rfl _ _ _ _ rfl _ _ rfl rfl ?_))
          have HPD := Lib.hid (show i' ≤ j → (!ltN v E[i']!) = false from hpi)
          clear hpi
          try simp only [Bool.not_true]
          go_loopw [10] (fun jv wr => ∃ j' : Nat, jv = .int .i64 (j' : Int) ∧ j' ≤ j ∧ PtI (fun x => !ltN v x) a b D E i' j' ∧ Nums wr base g cap E ∧ Keep (fun j => j = g) w wr) (fun jv _ => (intOf jv).toNat)
          case atStart => exact ⟨j, rfl, Nat.le_refl _, hP, hO, hk.drewN _⟩
          case round =>
            clear hP hO hk
            obtain ⟨j', rfl, hjj, hP, hO, hk⟩ := hrel
            generalize wr = wy at *
            have hai := hP.ai
            have hjb := hP.jb
            have hij := hP.ij
            rcases Nat.lt_or_ge j' i' with hji | hji
            · have hz : ¬ (i' : Int) ≤ (j' : Int) := by omega
              have hz2 : decide ((i' : Int) ≤ (j' : Int)) = false := by simp; omega
              have hz3 : decide (i' ≤ j') = false := by simp; omega
              have hz4 : (j' : Int) < (i' : Int) := by omega
              go_wp2_with (first | (at_builtin; refine wl_append rfl _ _ _ _ rfl _ _ rfl rfl ?_) | (at_make; refine wl_make rfl _ _ _ rfl _ _ rfl rfl ?_) | (at_mapUpdate; refine wl_mapUpdate rfl _ _ _ _ rfl _ _ _ rfl rfl rfl ?_) | (at_lookup; refine wl_lookup rfl _ _ _ _ rfl _ _ rfl rfl ?_) | (at_delete; refine wl_delete rfl _ _ _ _ rfl _ _ rfl rfl ?_) | (with_reducible refine wl_len rfl _ _ rfl _ rfl ?_) | (with_reducible refine wl_range rfl _ _ rfl _ rfl ?_) | (with_reducible refine wl_next rfl _ rfl _ rfl ?_) | (with_reducible refine wl_copy rfl _ _ _ _ rfl _ _ rfl rfl ?_) | (with_reducible refine wl_max rfl _ _ _ _ rfl _ _ rfl rfl ?_) | (with_reducible refine wl_min rfl _ _ _ _ rfl _ _ rfl rfl ?_))
              go_quiet (first | (go_at_call 81; exact Calls.quiet_of_same (less_same _ _ _)) | (go_at_call 81; exact quiet_on (less_same _ _ _)))
              go_wp2_with (first | (at_builtin; refine wl_append rfl _ _ _ _ rfl _ _ rfl rfl ?_) | (at_make; refine wl_make rfl _ _ _ rfl _ _ rfl rfl ?_) | (at_mapUpdate; refine wl_mapUpdate rfl _ _ _ _ rfl _ _ _ rfl rfl rfl ?_) | (at_lookup; refine wl_lookup rfl _ _ _ _ rfl _ _ rfl rfl ?_) | (at_delete; refine wl_delete rfl _ _ _ _ rfl _ _ rfl rfl ?_) | (with_reducible refine wl_len rfl _ _ rfl _ rfl ?_) | (with_reducible refine wl_range rfl _ _ rfl _ rfl ?_) | (with_reducible refine wl_next rfl _ rfl _ rfl ?_) | (with_reducible refine wl_copy rfl _ _ _ _ rfl _ _ rfl rfl ?_) | (with_reducible refine wl_max rfl _ _ _ _ rfl _ _ rfl rfl ?_) | (with_reducible refine wl_min rfl _ _ _ _ rfl _ _ rfl rfl ?_))
              go_ret
              exact ⟨i', rfl, E, hP.finq HV.out hji, hO, hk.drewN _⟩
            · have hz : (i' : Int) ≤ (j' : Int) := by omega
              have hz2 : decide ((i' : Int) ≤ (j' : Int)) = true := by simp; omega
              have hz3 : decide (i' ≤ j') = true := by simp; omega
              have hz4 : ¬ (j' : Int) < (i' : Int) := by omega
              have ca := hO.cell (i := a) (by omega)
              have cj := hO.cell (i := j') (by omega)
              rw [HV.out] at ca
              unfold uv at ca cj
              have hjn : (j' : Int) < (n : Int) := by omega
              obtain ⟨y, hy⟩ : ∃ y, y = E[j']! := ⟨_, rfl⟩
              rw [← hy] at cj
              have HY := Lib.hid hy
              clear hy
              go_wp2_with (first | (at_builtin; refine wl_append rfl _ _ _ _ rfl _ _ rfl rfl ?_) | (at_make; refine wl_make rfl _ _ _ rfl _ _ rfl rfl ?_) | (at_mapUpdate; refine wl_mapUpdate rfl _ _ _ _ rfl _ _ _ rfl rfl rfl ?_) | (at_lookup; refine wl_lookup rfl _ _ _ _ rfl _ _ rfl rfl ?_) | (at_delete; refine wl_delete rfl _ _ _ _ rfl _ _ rfl rfl ?_) | (with_reducible refine wl_len rfl _ _ rfl _ rfl ?_) | (with_reducible refine wl_range rfl _ _ rfl _ rfl ?_) | (with_reducible refine wl_next rfl _ rfl _ rfl ?_) | (with_reducible refine wl_copy rfl _ _ _ _ rfl _ _ rfl rfl ?_) | (with_reducible refine wl_max rfl _ _ _ _ rfl _ _ rfl rfl ?_) | (with_reducible refine wl_min rfl _ _ _ _ rfl _ _ rfl rfl ?_))
              go_quiet (first | (go_at_call 81; exact Calls.quiet_of_same (less_same _ _ _)) | (go_at_call 81; exact quiet_on (less_same _ _ _)))
              cases hl : ltN v y with
              | true =>
                have hD := hP.down hji (by show (!ltN v E[j']!) = false; rw [← HY.out, hl]; rfl)
                go_wp2_with (first | (at_builtin; refine wl_append rfl _ _ _ _ rfl _ _ rfl rfl ?_) | (at_make; refine wl_make rfl _ _ _ rfl _ _ rfl rfl ?_) | (at_mapUpdate; refine wl_mapUpdate rfl _ _ _ _ rfl _ _ _ rfl rfl rfl ?_) | (at_lookup; refine wl_lookup rfl _ _ _ _ rfl _ _ rfl rfl ?_) | (at_delete; refine wl_delete rfl _ _ _ _ rfl _ _ rfl rfl ?_) | (with_reducible refine wl_len rfl _ _ rfl _ rfl ?_) | (with_reducible refine wl_range rfl _ _ rfl _ rfl ?_) | (with_reducible refine wl_next rfl _ rfl _ rfl ?_) | (with_reducible refine wl_copy rfl _ _ _ _ rfl _ _ rfl rfl ?_) | (with_reducible refine wl_max rfl _ _ _ _ rfl _ _ rfl rfl ?_) | (with_reducible refine wl_min rfl _ _ _ _ rfl _ _ rfl rfl ?_))
                go_roundw
                case rel => exact ⟨j' - 1, by go_num, by omega, hD, hO, hk.drewN _⟩
                case measure => first | (simp [intOf]; done) | (simp [intOf]; omega)
              | false =>
                obtain ⟨hlt, hS⟩ := hP.swap hji hbD (HPD.out (by omega)) (by show (!ltN v E[j']!) = true; rw [← HY.out, hl]; rfl)
                have HS := Lib.hid hS
                have hza := (swp_at E (i := i') (j := j') (by omega) (by omega) a).trans ((if_neg (by omega)).trans ((if_neg (by omega)).trans HV.out))
                have HZA := Lib.hid hza
                clear hza hS ca cj HY hP
                go_wp2_with (first | (at_builtin; refine wl_append rfl _ _ _ _ rfl _ _ rfl rfl ?_) | (at_make; refine wl_make rfl _ _ _ rfl _ _ rfl rfl ?_) | (at_mapUpdate; refine wl_mapUpdate rfl _ _ _ _ rfl _ _ _ rfl rfl rfl ?_) | (at_lookup; refine wl_lookup rfl _ _ _ _ rfl _ _ rfl rfl ?_) | (at_delete; refine wl_delete rfl _ _ _ _ rfl _ _ rfl rfl ?_) | (with_reducible refine wl_len rfl _ _ rfl _ rfl ?_) | (with_reducible refine wl_range rfl _ _ rfl _ rfl ?_) | (with_reducible refine wl_next rfl _ rfl _ rfl ?_) | (with_reducible refine wl_copy rfl _ _ _ _ rfl _ _ rfl rfl ?_) | (with_reducible refine wl_max rfl _ _ _ _ rfl _ _ rfl rfl ?_) | (with_reducible refine wl_min rfl _ _ _ _ rfl _ _ rfl rfl ?_))
                have c1 := (hO).cell (i := i') (by omega)
                have c2 := (hO).cell (i := j') (by omega)
                have f1 := (hO).frozen i'
                have f2 := (hO).frozen j'
                have hsw : Nums ((wy.setCell ⟨g, i', none⟩ (uv E[j']!)).setCell ⟨g, j', none⟩ (uv E[i']!)) base g cap (Sort.swp E i' j') := ((hO).set i' E[j']!).set j' E[i']!
                have hkw : Keep (fun j => j = g) wy ((wy.setCell ⟨g, i', none⟩ (uv E[j']!)).setCell ⟨g, j', none⟩ (uv E[i']!)) := ((Keep.refl (fun j => j = g) wy).setCell (p := ⟨g, i', none⟩) (fun _ => rfl) _).setCell (p := ⟨g, j', none⟩) (fun _ => rfl) _
                unfold uv at c1 c2 hsw hkw
                obtain ⟨v', hy'⟩ := cell?_setCell_some (w := wy) (p := ⟨g, i', none⟩) (x := .int .u64 ((E[j']! : Nat) : Int)) (q := ⟨g, j', none⟩) c2
                have hy2 : ∀ k, ((wy.drewN k).setCell ⟨g, i', none⟩ (.int .u64 ((E[j']! : Nat) : Int))).cell? ⟨g, j', none⟩ = some v' := fun _ => hy'
                generalize E[i']! = x1 at *
                generalize E[j']! = y1 at *
                have hne : i' ≠ j' := by omega
                have HSW := Lib.hid hsw
                have HKW := Lib.hid (hk.trans' hkw)
                clear hsw hkw
                go_region
                go_wp2_with (first | (at_builtin; refine wl_append rfl _ _ _ _ rfl _ _ rfl rfl ?_) | (at_make; refine wl_make rfl _ _ _ rfl _ _ rfl rfl ?_) | (at_mapUpdate; refine wl_mapUpdate rfl _ _ _ _ rfl _ _ _ rfl rfl rfl ?_) | (at_lookup; refine wl_lookup rfl _ _ _ _ rfl _ _ rfl rfl ?_) | (at_delete; refine wl_delete rfl _ _ _ _ rfl _ _ rfl rfl ?_) | (with_reducible refine wl_len rfl _ _ rfl _ rfl ?_) | (with_reducible refine wl_range rfl _ _ rfl _ rfl ?_) | (with_reducible refine wl_next rfl _ rfl _ rfl ?_) | (with_reducible refine wl_copy rfl _ _ _ _ rfl _ _ rfl rfl ?_) | (with_reducible refine wl_max rfl _ _ _ _ rfl _ _ rfl rfl ?_) | (with_reducible refine wl_min rfl _ _ _ _ rfl _ _ rfl rfl ?_))
                go_roundw
                case rel => exact ⟨i' + 1, j' - 1, _, by go_num, by go_num, HS.out, HZA.out, HSW.out, keep_swap HKW.out _⟩
                case measure => first | (simp [intOf]; done) | (simp [intOf]; omega)
set_option maxRecDepth 100000 in
set_option maxHeartbeats 16000000 in
theorem prt_any {q : Nat} (h : Nums w base g cap D) (hab : a < b) (hb : b ≤ D.size) (h1 : a ≤ q) (h2 : q < b) (hn : D.size ≤ 1099511627776) :
    Calls Tryd.prog 83 #[.slice (some ⟨g, 0, none⟩) D.size cap, .int .i64 (a : Int), .int .i64 (b : Int), .int .i64 (q : Int)] w fun e w' => ∃ (m : Nat) (B : Bool), e = .returned (.tuple #[.int .i64 (m : Int), .bool B]) ∧ ∃ E, PartOk a b m D E ∧ Nums w' base g cap E ∧ Keep (fun j => j = g) w w' := by
  have hst := PtI.start (p := fun x => ltN x D[q]!) hab h1 h2 hb
  have hva : (Sort.swp D a q)[a]! = D[q]! := by
    rw [swp_at D (by omega) (by omega)]
    split
    · rename_i e; rw [e]
    · rw [if_pos rfl]
  obtain ⟨v, hv⟩ : ∃ v, v = D[q]! := ⟨_, rfl⟩
  rw [← hv] at hst hva
  have c1 := (h).cell (i := a) (by omega)
  have c2 := (h).cell (i := q) (by omega)
  have f1 := (h).frozen a
  have f2 := (h).frozen q
  have hsw : Nums ((w.setCell ⟨g, a, none⟩ (uv D[q]!)).setCell ⟨g, q, none⟩ (uv D[a]!)) base g cap (Sort.swp D a q) := ((h).set a D[q]!).set q D[a]!
  have hkw : Keep (fun j => j = g) w ((w.setCell ⟨g, a, none⟩ (uv D[q]!)).setCell ⟨g, q, none⟩ (uv D[a]!)) := ((Keep.refl (fun j => j = g) w).setCell (p := ⟨g, a, none⟩) (fun _ => rfl) _).setCell (p := ⟨g, q, none⟩) (fun _ => rfl) _
  unfold uv at c1 c2 hsw hkw
  obtain ⟨v', hy'⟩ := cell?_setCell_some (w := w) (p := ⟨g, a, none⟩) (x := .int .u64 ((D[q]! : Nat) : Int)) (q := ⟨g, q, none⟩) c2
  have hy2 : ∀ k, ((w.drewN k).setCell ⟨g, a, none⟩ (.int .u64 ((D[q]! : Nat) : Int))).cell? ⟨g, q, none⟩ = some v' := fun _ => hy'
  generalize D[a]! = x0 at *
  generalize D[q]! = y0 at *
  generalize hN : D.size = n at *
  have HN := Lib.hid hN
  clear hN hv
  have hO := hsw
  generalize Sort.swp D a q = E at *
  obtain ⟨i, hi⟩ : ∃ i, i = a + 1 := ⟨_, rfl⟩
  obtain ⟨j, hj⟩ : ∃ j, j = b - 1 := ⟨_, rfl⟩
  rw [← hi, ← hj] at hst
  have e1 : (a : Int) + 1 = (i : Int) := by omega
  have e2 : (b : Int) - 1 = (j : Int) := by omega
  have HP0 := Lib.hid hst
  have HV := Lib.hid hva
  have HES := Lib.hid (hst.perm.1.trans HN.out)
  have HSW := Lib.hid hsw
  have HKW := Lib.hid hkw
  have hai0 := hst.ai
  clear hsw hkw hst hva h hO hi hj
  go_enter Tryd.func83, Tryd.ntmps83
  go_wp2_with (first | (at_builtin; refine wl_append rfl _ _ _ _ rfl _ _ rfl rfl ?_) | (at_make; refine wl_make rfl _ _ _ rfl _ _ rfl rfl ?_) | (at_mapUpdate; refine wl_mapUpdate rfl _ _ _ _ rfl _ _ _ rfl rfl rfl ?_) | (at_lookup; refine wl_lookup rfl _ _ _ _ rfl _ _ rfl rfl ?_) | (at_delete; refine wl_delete rfl _ _ _ _ rfl _ _ rfl rfl ?_) | (with_reducible refine wl_len rfl _ _ rfl _ rfl ?_) | (with_reducible refine wl_range rfl _ _ rfl _ rfl ?_) | (with_reducible refine wl_next rfl _ rfl _ rfl ?_) | (with_reducible refine wl_copy rfl _ _ _ _ rfl _ _ rfl rfl ?_) | (with_reducible refine wl_max rfl _ _ _ _ rfl _ _ rfl rfl ?_) | (with_reducible refine wl_min rfl _ _ _ _ rfl _ _ rfl rfl ?_))
  go_region
  go_wp2_with (first | (at_builtin; refine wl_append rfl _ _ _ _ rfl _ _ rfl rfl ?_) | (at_make; refine wl_make rfl _ _ _ rfl _ _ rfl rfl ?_) | (at_mapUpdate; refine wl_mapUpdate rfl _ _ _ _ rfl _ _ _ rfl rfl rfl ?_) | (at_lookup; refine wl_lookup rfl _ _ _ _ rfl _ _ rfl rfl ?_) | (at_delete; refine wl_delete rfl _ _ _ _ rfl _ _ rfl rfl ?_) | (with_reducible refine wl_len rfl _ _ rfl _ rfl ?_) | (with_reducible refine wl_range rfl _ _ rfl _ rfl ?_) | (with_reducible refine wl_next rfl _ rfl _ rfl ?_) | (with_reducible refine wl_copy rfl _ _ _ _ rfl _ _ rfl rfl ?_) | (with_reducible refine wl_max rfl _ _ _ _ rfl _ _ rfl rfl ?_) | (with_reducible refine wl_min rfl _ _ _ _ rfl _ _ rfl rfl ?_))
  have hO : Nums (((w.setCell ⟨g, a, none⟩ (.int .u64 (y0 : Int))).setCell ⟨g, q, none⟩ (.int .u64 (x0 : Int))).drew) base g cap E := HSW.out
  have hk := HKW.out.drew
  generalize ((w.setCell ⟨g, a, none⟩ (.int .u64 (y0 : Int))).setCell ⟨g, q, none⟩ (.int .u64 (x0 : Int))).drew = wz at *
  clear HSW HKW c1 c2 f1 f2 hy'
  go_loopw [10] (fun iv wr => ∃ i' : Nat, iv = .int .i64 (i' : Int) ∧ i ≤ i' ∧ PtI (fun x => ltN x v) a b D E i' j ∧ Nums wr base g cap E ∧ Keep (fun j => j = g) w wr) (fun iv _ => j + 1 - (intOf iv).toNat)
  case atStart => exact ⟨i, rfl, Nat.le_refl _, HP0.out, hO, hk⟩
  case round =>
    clear HP0 hO hk
    obtain ⟨i', rfl, hii, hP, hO, hk⟩ := hrel
    generalize wr = wx at *
    have hai := hP.ai
    have hjb := hP.jb
    have hij := hP.ij
    have hEs := HES.out
    have hbD : b ≤ D.size := by rw [HN.out]; exact hb
    rcases Nat.lt_or_ge j i' with hji | hji
    · have hz : ¬ (i' : Int) ≤ (j : Int) := by omega
      have hz2 : decide ((i' : Int) ≤ (j : Int)) = false := by simp; omega
      have hz3 : decide (i' ≤ j) = false := by simp; omega
      have hpi : i' ≤ j → ltN E[i']! v = false := fun h => by omega
      go_wp2_with (first | (at_builtin; refine wl_append rfl _ _ _ _ rfl _ _ rfl rfl ?_) | (at_make; refine wl_make rfl _ _ _ rfl _ _ rfl rfl ?_) | (at_mapUpdate; refine wl_mapUpdate rfl _ _ _ _ rfl _ _ _ rfl rfl rfl ?_) | (at_lookup; refine wl_lookup rfl _ _ _ _ rfl _ _ rfl rfl ?_) | (at_delete; refine wl_delete rfl _ _ _ _ rfl _ _ rfl rfl ?_) | (with_reducible refine wl_len rfl _ _ rfl _ rfl ?_) | (with_reducible refine wl_range rfl _ _ rfl _ rfl ?_) | (with_reducible refine wl_next rfl _ rfl _ rfl ?_) | (with_reducible refine wl_copy rfl _ _ _ _ rfl _ _ rfl rfl ?_) | (with_reducible refine wl_max rfl _ _ _ _ rfl _ _ rfl rfl ?_) | (with_reducible refine wl_min rfl _ _ _ _ rfl _ _ rfl rfl ?_))
      go_quiet (first | (go_at_call 81; exact Calls.quiet_of_same (less_same _ _ _)) | (go_at_call 81; exact quiet_on (less_same _ _ _)))
      go_wp2_with (first | (at_builtin; refine wl_append rfl _ _ _ _ rfl _ _ rfl rfl ?_) | (at_make; refine wl_make rfl _ _ _ rfl _ _ rfl rfl ?_) | (at_mapUpdate; refine wl_mapUpdate rfl _ _ _ _ rfl _ _ _ rfl rfl rfl ?_) | (at_lookup; refine wl_lookup rfl _ _ _ _ rfl _ _ rfl rfl ?_) | (at_delete; refine wl_delete rfl _ _ _ _ rfl _ _ rfl rfl ?_) | (with_reducible refine wl_len rfl _ _ rfl _ rfl ?_) | (with_reducible refine wl_range rfl _ _ rfl _ rfl ?_) | (with_reducible refine wl_next rfl _ rfl _ rfl ?_) | (with_reducible refine wl_copy rfl _ _ _ _ rfl _ _ rfl rfl ?_) | (with_reducible refine wl_max rfl _ _ _ _ rfl _ _ rfl rfl ?_) | (with_reducible refine wl_min rfl _ _ _ _ rfl _ _ rfl rfl ?_))
      have HPD := Lib.hid (show i' ≤ j → ltN E[i']! v = false from hpi)
      clear hpi
      try simp only [Bool.not_true]
      go_loopw [11] (fun jv wr => ∃ j' : Nat, jv = .int .i64 (j' : Int) ∧ j' ≤ j ∧ PtI (fun x => ltN x v) a b D E i' j' ∧ Nums wr base g cap E ∧ Keep (fun j => j = g) w wr) (fun jv _ => (intOf jv).toNat)
      case atStart => exact ⟨j, rfl, Nat.le_refl _, hP, hO, hk.drewN _⟩
      case round =>
        clear hP hO hk
        obtain ⟨j', rfl, hjj, hP, hO, hk⟩ := hrel
        generalize wr = wy at *
        have hai := hP.ai
        have hjb := hP.jb
        have hij := hP.ij
        rcases Nat.lt_or_ge j' i' with hji | hji
        · have hz : ¬ (i' : Int) ≤ (j' : Int) := by omega
          have hz2 : decide ((i' : Int) ≤ (j' : Int)) = false := by simp; omega
          have hz3 : decide (i' ≤ j') = false := by simp; omega
          have hz4 : (j' : Int) < (i' : Int) := by omega
          -- i' > j': the pivot to its place
          have hfin := hP.fin hbD HV.out hji
          have c1 := (hO).cell (i := j') (by omega)
          have c2 := (hO).cell (i := a) (by omega)
          have f1 := (hO).frozen j'
          have f2 := (hO).frozen a
          have hsw : Nums ((wy.setCell ⟨g, j', none⟩ (uv E[a]!)).setCell ⟨g, a, none⟩ (uv E[j']!)) base g cap (Sort.swp E j' a) := ((hO).set j' E[a]!).set a E[j']!
          have hkw : Keep (fun j => j = g) wy ((wy.setCell ⟨g, j', none⟩ (uv E[a]!)).setCell ⟨g, a, none⟩ (uv E[j']!)) := ((Keep.refl (fun j => j = g) wy).setCell (p := ⟨g, j', none⟩) (fun _ => rfl) _).setCell (p := ⟨g, a, none⟩) (fun _ => rfl) _
          unfold uv at c1 c2 hsw hkw
          obtain ⟨v', hy'⟩ := cell?_setCell_some (w := wy) (p := ⟨g, j', none⟩) (x := .int .u64 ((E[a]! : Nat) : Int)) (q := ⟨g, a, none⟩) c2
          have hy2 : ∀ k, ((wy.drewN k).setCell ⟨g, j', none⟩ (.int .u64 ((E[a]! : Nat) : Int))).cell? ⟨g, a, none⟩ = some v' := fun _ => hy'
          generalize E[j']! = x1 at *
          generalize E[a]! = y1 at *
          have HFIN := Lib.hid hfin
          have HSW := Lib.hid hsw
          have HKW := Lib.hid (hk.trans' hkw)
          clear hfin hsw hkw
          go_wp2_with (first | (at_builtin; refine wl_append rfl _ _ _ _ rfl _ _ rfl rfl ?_) | (at_make; refine wl_make rfl _ _ _ rfl _ _ rfl rfl ?_) | (at_mapUpdate; refine wl_mapUpdate rfl _ _ _ _ rfl _ _ _ rfl rfl rfl ?_) | (at_lookup; refine wl_lookup rfl _ _ _ _ rfl _ _ rfl rfl ?_) | (at_delete; refine wl_delete rfl _ _ _ _ rfl _ _ rfl rfl ?_) | (with_reducible refine wl_len rfl _ _ rfl _ rfl ?_) | (with_reducible refine wl_range rfl _ _ rfl _ rfl ?_) | (with_reducible refine wl_next rfl _ rfl _ rfl ?_) | (with_reducible refine wl_copy rfl _ _ _ _ rfl _ _ rfl rfl ?_) | (with_reducible refine wl_max rfl _ _ _ _ rfl _ _ rfl rfl ?_) | (with_reducible refine wl_min rfl _ _ _ _ rfl _ _ rfl rfl ?_))
          go_quiet (first | (go_at_call 81; exact Calls.quiet_of_same (less_same _ _ _)) | (go_at_call 81; exact quiet_on (less_same _ _ _)))
          go_wp2_with (first | (at_builtin; refine wl_append rfl _ _ _ _ rfl _ _ rfl rfl ?_) | (at_make; refine wl_make rfl _ _ _ rfl _ _ rfl rfl ?_) | (at_mapUpdate; refine wl_mapUpdate rfl _ _ _ _ rfl _ _ _ rfl rfl rfl ?_) | (at_lookup; refine wl_lookup rfl _ _ _ _ rfl _ _ rfl rfl ?_) | (at_delete; refine wl_delete rfl _ _ _ _ rfl _ _ rfl rfl ?_) | (with_reducible refine wl_len rfl _ _ rfl _ rfl ?_) | (with_reducible refine wl_range rfl _ _ rfl _ rfl ?_) | (with_reducible refine wl_next rfl _ rfl _ rfl ?_) | (with_reducible refine wl_copy rfl _ _ _ _ rfl _ _ rfl rfl ?_) | (with_reducible refine wl_max rfl _ _ _ _ rfl _ _ rfl rfl ?_) | (with_reducible refine wl_min rfl _ _ _ _ rfl _ _ rfl rfl ?_))
          go_region
          go_wp2_with (first | (at_builtin; refine wl_append rfl _ _ _ _ rfl _ _ rfl rfl ?_) | (at_make; refine wl_make rfl _ _ _ rfl _ _ rfl rfl ?_) | (at_mapUpdate; refine wl_mapUpdate rfl _ _ _ _ rfl _ _ _ rfl rfl rfl ?_) | (at_lookup; refine wl_lookup rfl _ _ _ _ rfl _ _ rfl rfl ?_) | (at_delete; refine wl_delete rfl _ _ _ _ rfl _ _ rfl rfl ?_) | (with_reducible refine wl_len rfl _ _ rfl _ rfl ?_) | (with_reducible refine wl_range rfl _ _ rfl _ rfl ?_) | (with_reducible refine wl_next rfl _ rfl _ rfl ?_) | (with_reducible refine wl_copy rfl _ _ _ _ rfl _ _ rfl rfl ?_) | (with_reducible refine wl_max rfl _ _ _ _ rfl _ _ rfl rfl ?_) | (with_reducible refine wl_min rfl _ _ _ _ rfl _ _ rfl rfl ?_))
          go_ret2
          exact ⟨j', _, rfl, _, HFIN.out, HSW.out, keep_swap HKW.out _⟩
        · exact absurd hji (by omega)
    · have hz : (i' : Int) ≤ (j : Int) := by omega
      have hz2 : decide ((i' : Int) ≤ (j : Int)) = true := by simp; omega
      have hz3 : decide (i' ≤ j) = true := by simp; omega
      have ca := hO.cell (i := a) (by omega)
      have ci := hO.cell (i := i') (by omega)
      rw [HV.out] at ca
      unfold uv at ca ci
      have hin : (i' : Int) < (n : Int) := by omega
      obtain ⟨x, hx⟩ : ∃ x, x = E[i']! := ⟨_, rfl⟩
      rw [← hx] at ci
      have HX := Lib.hid hx
      clear hx
      go_wp2_with (first | (at_builtin; refine wl_append rfl _ _ _ _ rfl _ _ rfl rfl ?_) | (at_make; refine wl_make rfl _ _ _ rfl _ _ rfl rfl ?_) | (at_mapUpdate; refine wl_mapUpdate rfl _ _ _ _ rfl _ _ _ rfl rfl rfl ?_) | (at_lookup; refine wl_lookup rfl _ _ _ _ rfl _ _ rfl rfl ?_) | (at_delete; refine wl_delete rfl _ _ _ _ rfl _ _ rfl rfl ?_) | (with_reducible refine wl_len rfl _ _ rfl _ rfl ?_) | (with_reducible refine wl_range rfl _ _ rfl _ rfl ?_) | (with_reducible refine wl_next rfl _ rfl _ rfl ?_) | (with_reducible refine wl_copy rfl _ _ _ _ rfl _ _ rfl rfl ?_) | (with_reducible refine wl_max rfl _ _ _ _ rfl _ _ rfl rfl ?_) | (with_reducible refine wl_min rfl _ _ _ _ rfl _ _ rfl rfl ?_))
      go_quiet (first | (go_at_call 81; exact Calls.quiet_of_same (less_same _ _ _)) | (go_at_call 81; exact quiet_on (less_same _ _ _)))
      cases hl : ltN x v with
      | true =>
        have hU := hP.up hji (by show ltN E[i']! v = true; rw [← HX.out, hl])
        go_wp2_with (first | (at_builtin; refine wl_append rfl _ _ _ _ rfl _ _ rfl rfl ?_) | (at_make; refine wl_make rfl _ _ _ rfl _ _ rfl rfl ?_) | (at_mapUpdate; refine wl_mapUpdate rfl _ _ _ _ rfl _ _ _ rfl rfl rfl ?_) | (at_lookup; refine wl_lookup rfl _ _ _ _ rfl _ _ rfl rfl ?_) | (at_delete; refine wl_delete rfl _ _ _ _ rfl _ _ rfl rfl ?_) | (with_reducible refine wl_len rfl _ _ rfl _ rfl ?_) | (with_reducible refine wl_range rfl _ _ rfl _ rfl ?_) | (with_reducible refine wl_next rfl _ rfl _ rfl ?_) | (with_reducible refine wl_copy rfl _ _ _ _ rfl _ _ rfl rfl ?_) | (with_reducible refine wl_max rfl _ _ _ _ rfl _ _ rfl rfl ?_) | (with_reducible refine wl_min rfl _ _ _ _ rfl _ _ rfl rfl ?_))
        go_roundw
        case rel => exact ⟨i' + 1, by go_num, by omega, hU, hO, hk.drewN _⟩
        case measure => first | (simp [intOf]; done) | (simp [intOf]; omega)
      | false =>
        have hpi : i' ≤ j → ltN E[i']! v = false := fun _ => by rw [← HX.out, hl]
        clear ca ci HX
        go_wp2_with (first | (at_builtin; refine wl_append rfl _ _ _ _ rfl _ _ rfl rfl ?_) | (at_make; refine wl_make rfl _ _ _ rfl _ _ rfl rfl ?_) | (at_mapUpdate; refine wl_mapUpdate rfl _ _ _ _ rfl _ _ _ rfl rfl rfl ?_) | (at_lookup; refine wl_lookup rfl _ _ _ _ rfl _ _ rfl rfl ?_) | (at_delete; refine wl_delete rfl _ _ _ _ rfl _ _ rfl rfl ?_) | (with_reducible refine wl_len rfl _ _ rfl _ rfl ?_) | (with_reducible refine wl_range rfl _ _ rfl _ rfl ?_) | (with_reducible refine wl_next rfl _ rfl _ rfl ?_) | (with_reducible refine wl_copy rfl _ _ _ _ rfl _ _ rfl rfl ?_) | (with_reducible refine wl_max rfl _ _ _ _ rfl _ _ rfl rfl ?_) | (with_reducible refine wl_min rfl _ _ _ _ rfl _ _ rfl rfl ?_))
        have HPD := Lib.hid (show i' ≤ j → ltN E[i']! v = false from hpi)
        clear hpi
        try simp only [Bool.not_true]
        go_loopw [11] (fun jv wr => ∃ j' : Nat, jv = .int .i64 (j' : Int) ∧ j' ≤ j ∧ PtI (fun x => ltN x v) a b D E i' j' ∧ Nums wr base g cap E ∧ Keep (fun j => j = g) w wr) (fun jv _ => (intOf jv).toNat)
        case atStart => exact ⟨j, rfl, Nat.le_refl _, hP, hO, hk.drewN _⟩
        case round =>
          clear hP hO hk
          obtain ⟨j', rfl, hjj, hP, hO, hk⟩ := hrel
          generalize wr = wy at *
          have hai := hP.ai
          have hjb := hP.jb
          have hij := hP.ij
          rcases Nat.lt_or_ge j' i' with hji | hji
          · have hz : ¬ (i' : Int) ≤ (j' : Int) := by omega
            have hz2 : decide ((i' : Int) ≤ (j' : Int)) = false := by simp; omega
            have hz3 : decide (i' ≤ j') = false := by simp; omega
            have hz4 : (j' : Int) < (i' : Int) := by omega
            -- i' > j': the pivot to its place
            have hfin := hP.fin hbD HV.out hji
            have c1 := (hO).cell (i := j') (by omega)
            have c2 := (hO).cell (i := a) (by omega)
            have f1 := (hO).frozen j'
            have f2 := (hO).frozen a
            have hsw : Nums ((wy.setCell ⟨g, j', none⟩ (uv E[a]!)).setCell ⟨g, a, none⟩ (uv E[j']!)) base g cap (Sort.swp E j' a) := ((hO).set j' E[a]!).set a E[j']!
            have hkw : Keep (fun j => j = g) wy ((wy.setCell ⟨g, j', none⟩ (uv E[a]!)).setCell ⟨g, a, none⟩ (uv E[j']!)) := ((Keep.refl (fun j => j = g) wy).setCell (p := ⟨g, j', none⟩) (fun _ => rfl) _).setCell (p := ⟨g, a, none⟩) (fun _ => rfl) _
            unfold uv at c1 c2 hsw hkw
            obtain ⟨v', hy'⟩ := cell?_setCell_some (w := wy) (p := ⟨g, j', none⟩) (x := .int .u64 ((E[a]! : Nat) : Int)) (q := ⟨g, a, none⟩) c2
            have hy2 : ∀ k, ((wy.drewN k).setCell ⟨g, j', none⟩ (.int .u64 ((E[a]! : Nat) : Int))).cell? ⟨g, a, none⟩ = some v' := fun _ => hy'
            generalize E[j']! = x1 at *
            generalize E[a]! = y1 at *
            have HFIN := Lib.hid hfin
            have HSW := Lib.hid hsw
            have HKW := Lib.hid (hk.trans' hkw)
            clear hfin hsw hkw
            go_wp2_with (first | (at_builtin; refine wl_append rfl _ _ _ _ rfl _ _ rfl rfl ?_) | (at_make; refine wl_make rfl _ _ _ rfl _ _ rfl rfl ?_) | (at_mapUpdate; refine wl_mapUpdate rfl _ _ _ _ rfl _ _ _ rfl rfl rfl ?_) | (at_lookup; refine wl_lookup rfl _ _ _ _ rfl _ _ rfl rfl ?_) | (at_delete; refine wl_delete rfl _ _ _ _ rfl _ _ rfl rfl ?_) | (with_reducible refine wl_len rfl _ _ rfl _ rfl ?_) | (with_reducible refine wl_range rfl _ _ rfl _ rfl ?_) | (with_reducible refine wl_next rfl _ rfl _ rfl ?_) | (with_reducible refine wl_copy rfl _ _ _ _ rfl _ _ rfl rfl ?_) | (with_reducible refine wl_max rfl _ _ _ _ rfl _ _ rfl rfl ?_) | (with_reducible refine wl_min rfl _ _ _ _ rfl _ _ rfl rfl ?_))
            go_quiet (first | (go_at_call 81; exact Calls.quiet_of_same (less_same _ _ _)) | (go_at_call 81; exact quiet_on (less_same _ _ _)))
            go_wp2_with (first | (at_builtin; refine wl_append rfl _ _ _ _ rfl _ _ rfl rfl ?_) | (at_make; refine wl_make rfl _ _ _ rfl _ _ rfl rfl ?_) | (at_mapUpdate; refine wl_mapUpdate rfl _ _ _ _ rfl _ _ _ rfl rfl rfl ?_) | (at_lookup; refine wl_lookup rfl _ _ _ _ rfl _ _ rfl rfl ?_) | (at_delete; refine wl_delete rfl _ _ _ _ rfl _ _ rfl rfl ?_) | (with_reducible refine wl_len rfl _ _ rfl _ rfl ?_) | (with_reducible refine wl_range rfl _ _ rfl _ rfl ?_) | (with_reducible refine wl_next rfl _ rfl _ rfl ?_) | (with_reducible refine wl_copy rfl _ _ _ _ rfl _ _ rfl rfl ?_) | (with_reducible refine wl_max rfl _ _ _ _ rfl _ _ rfl rfl ?_) | (with_reducible refine wl_min rfl _ _ _ _ rfl _ _ rfl rfl ?_))
            go_region
            go_wp2_with (first | (at_builtin; refine wl_append rfl _ _ _ _ rfl _ _ rfl rfl ?_) | (at_make; refine wl_make rfl _ _ _ rfl _ _ rfl rfl ?_) | (at_mapUpdate; refine wl_mapUpdate rfl _ _ _ _ rfl _ _ _ rfl rfl rfl ?_) | (at_lookup; refine wl_lookup rfl _ _ _ _ rfl _ _ rfl rfl ?_) | (at_delete; refine wl_delete rfl _ _ _ _ rfl _ _ rfl rfl ?_) | (with_reducible refine wl_len rfl _ _ rfl _ rfl ?_) | (with_reducible refine wl_range rfl _ _ rfl _ rfl ?_) | (with_reducible refine wl_next rfl _ rfl _ rfl ?_) | (with_reducible refine wl_copy rfl _ _ _ _ rfl _ _ rfl rfl ?_) | (with_reducible refine wl_max rfl _ _ _ _ rfl _ _ rfl rfl ?_) | (with_reducible refine wl_min rfl _ _ _ _ rfl _ _ rfl rfl ?_))
            go_ret2
            exact ⟨j', _, rfl, _, HFIN.out, HSW.out, keep_swap HKW.out _⟩
        -- down; a swap where it stops
          · have hz : (i' : Int) ≤ (j' : Int) := by omega
            have hz2 : decide ((i' : Int) ≤ (j' : Int)) = true := by simp; omega
            have hz3 : decide (i' ≤ j') = true := by simp; omega
            have hz4 : ¬ (j' : Int) < (i' : Int) := by omega
            have hz5 : decide (j' < i') = false := by simp; omega
            have hz6 : decide ((j' : Int) < (i' : Int)) = false := by simp; omega
            have ca := hO.cell (i := a) (by omega)
            have cj := hO.cell (i := j') (by omega)
            rw [HV.out] at ca
            unfold uv at ca cj
            have hjn : (j' : Int) < (n : Int) := by omega
            obtain ⟨y, hy⟩ : ∃ y, y = E[j']! := ⟨_, rfl⟩
            rw [← hy] at cj
            have HY := Lib.hid hy
            clear hy
            go_wp2_with (first | (at_builtin; refine wl_append rfl _ _ _ _ rfl _ _ rfl rfl ?_) | (at_make; refine wl_make rfl _ _ _ rfl _ _ rfl rfl ?_) | (at_mapUpdate; refine wl_mapUpdate rfl _ _ _ _ rfl _ _ _ rfl rfl rfl ?_) | (at_lookup; refine wl_lookup rfl _ _ _ _ rfl _ _ rfl rfl ?_) | (at_delete; refine wl_delete rfl _ _ _ _ rfl _ _ rfl rfl ?_) | (with_reducible refine wl_len rfl _ _ rfl _ rfl ?_) | (with_reducible refine wl_range rfl _ _ rfl _ rfl ?_) | (with_reducible refine wl_next rfl _ rfl _ rfl ?_) | (with_reducible refine wl_copy rfl _ _ _ _ rfl _ _ rfl rfl ?_) | (with_reducible refine wl_max rfl _ _ _ _ rfl _ _ rfl rfl ?_) | (with_reducible refine wl_min rfl _ _ _ _ rfl _ _ rfl rfl ?_))
            go_quiet (first | (go_at_call 81; exact Calls.quiet_of_same (less_same _ _ _)) | (go_at_call 81; exact quiet_on (less_same _ _ _)))
            cases hl : ltN y v with
            | false =>
              have hD := hP.down hji (by show ltN E[j']! v = false; rw [← HY.out, hl])
              go_wp2_with (first | (at_builtin; refine wl_append rfl _ _ _ _ rfl _ _ rfl rfl ?_) | (at_make; refine wl_make rfl _ _ _ rfl _ _ rfl rfl ?_) | (at_mapUpdate; refine wl_mapUpdate rfl _ _ _ _ rfl _ _ _ rfl rfl rfl ?_) | (at_lookup; refine wl_lookup rfl _ _ _ _ rfl _ _ rfl rfl ?_) | (at_delete; refine wl_delete rfl _ _ _ _ rfl _ _ rfl rfl ?_) | (with_reducible refine wl_len rfl _ _ rfl _ rfl ?_) | (with_reducible refine wl_range rfl _ _ rfl _ rfl ?_) | (with_reducible refine wl_next rfl _ rfl _ rfl ?_) | (with_reducible refine wl_copy rfl _ _ _ _ rfl _ _ rfl rfl ?_) | (with_reducible refine wl_max rfl _ _ _ _ rfl _ _ rfl rfl ?_) | (with_reducible refine wl_min rfl _ _ _ _ rfl _ _ rfl rfl ?_))
              go_roundw
              case rel => exact ⟨j' - 1, by go_num, by omega, hD, hO, hk.drewN _⟩
              case measure => first | (simp [intOf]; done) | (simp [intOf]; omega)
            | true =>
              obtain ⟨hlt, hS⟩ := hP.swap hji hbD (HPD.out (by omega)) (by show ltN E[j']! v = true; rw [← HY.out, hl])
              have HS := Lib.hid hS
              have hza := (swp_at E (i := i') (j := j') (by omega) (by omega) a).trans ((if_neg (by omega)).trans ((if_neg (by omega)).trans HV.out))
              have HZA := Lib.hid hza
              clear hza hS ca cj HY hP
              try simp only [Bool.not_true]
              go_wp2_with (first | (at_builtin; refine wl_append rfl _ _ _ _ rfl _ _ rfl rfl ?_) | (at_make; refine wl_make rfl _ _ _ rfl _ _ rfl rfl ?_) | (at_mapUpdate; refine wl_mapUpdate rfl _ _ _ _ rfl _ _ _ rfl rfl rfl ?_) | (at_lookup; refine wl_lookup rfl _ _ _ _ rfl _ _ rfl rfl ?_) | (at_delete; refine wl_delete rfl _ _ _ _ rfl _ _ rfl rfl ?_) | (with_reducible refine wl_len rfl _ _ rfl _ rfl ?_) | (with_reducible refine wl_range rfl _ _ rfl _ rfl ?_) | (with_reducible refine wl_next rfl _ rfl _ rfl ?_) | (with_reducible refine wl_copy rfl _ _ _ _ rfl _ _ rfl rfl ?_) | (with_reducible refine wl_max rfl _ _ _ _ rfl _ _ rfl rfl ?_) | (with_reducible refine wl_min rfl _ _ _ _ rfl _ _ rfl rfl ?_))
              have c1 := (hO).cell (i := i') (by omega)
              have c2 := (hO).cell (i := j') (by omega)
              have f1 := (hO).frozen i'
              have f2 := (hO).frozen j'
              have hsw : Nums ((wy.setCell ⟨g, i', none⟩ (uv E[j']!)).setCell ⟨g, j', none⟩ (uv E[i']!)) base g cap (Sort.swp E i' j') := ((hO).set i' E[j']!).set j' E[i']!
              have hkw : Keep (fun j => j = g) wy ((wy.setCell ⟨g, i', none⟩ (uv E[j']!)).setCell ⟨g, j', none⟩ (uv E[i']!)) := ((Keep.refl (fun j => j = g) wy).setCell (p := ⟨g, i', none⟩) (fun _ => rfl) _).setCell (p := ⟨g, j', none⟩) (fun _ => rfl) _
              unfold uv at c1 c2 hsw hkw
              obtain ⟨v', hy'⟩ := cell?_setCell_some (w := wy) (p := ⟨g, i', none⟩) (x := .int .u64 ((E[j']! : Nat) : Int)) (q := ⟨g, j', none⟩) c2
              have hy2 : ∀ k, ((wy.drewN k).setCell ⟨g, i', none⟩ (.int .u64 ((E[j']! : Nat) : Int))).cell? ⟨g, j', none⟩ = some v' := fun _ => hy'
              generalize E[i']! = x1 at *
              generalize E[j']! = y1 at *
              have hne : i' ≠ j' := by omega
              have HSW := Lib.hid hsw
              have HKW := Lib.hid (hk.trans' hkw)
              clear hsw hkw
              go_region
              go_wp2_with (first | (at_builtin; refine wl_append rfl _ _ _ _ rfl _ _ rfl rfl ?_) | (at_make; refine wl_make rfl _ _ _ rfl _ _ rfl rfl ?_) | (at_mapUpdate; refine wl_mapUpdate rfl _ _ _ _ rfl _ _ _ rfl rfl rfl ?_) | (at_lookup; refine wl_lookup rfl _ _ _ _ rfl _ _ rfl rfl ?_) | (at_delete; refine wl_delete rfl _ _ _ _ rfl _ _ rfl rfl ?_) | (with_reducible refine wl_len rfl _ _ rfl _ rfl ?_) | (with_reducible refine wl_range rfl _ _ rfl _ rfl ?_) | (with_reducible refine wl_next rfl _ rfl _ rfl ?_) | (with_reducible refine wl_copy rfl _ _ _ _ rfl _ _ rfl rfl ?_) | (with_reducible refine wl_max rfl _ _ _ _ rfl _ _ rfl rfl ?_) | (with_reducible refine wl_min rfl _ _ _ _ rfl _ _ rfl rfl ?_))
              go_loopw [10, 11] (fun iv jv wr => ∃ (i j : Nat) (E : Array Nat), iv = .int .i64 (i : Int) ∧ jv = .int .i64 (j : Int) ∧ PtI (fun x => ltN x v) a b D E i j ∧ E[a]! = v ∧ Nums wr base g cap E ∧ Keep (fun j => j = g) w wr) (fun iv jv _ => (intOf jv).toNat + 1 - (intOf iv).toNat)
              case atStart => exact ⟨i' + 1, j' - 1, _, by go_num, by go_num, HS.out, HZA.out, HSW.out, keep_swap HKW.out _⟩
              case round =>
                clear HS HZA HSW HKW hO hk hEs HV HES
                obtain ⟨i, j, E, rfl, rfl, hP0, hva, hO, hk⟩ := hrel
                generalize wr = wz at *
                have HV := Lib.hid hva
                have HP0 := Lib.hid hP0
                have HES := Lib.hid (hP0.perm.1.trans HN.out)
                have hai0 := hP0.ai
                clear hva hP0
                go_wp2_with (first | (at_builtin; refine wl_append rfl _ _ _ _ rfl _ _ rfl rfl ?_) | (at_make; refine wl_make rfl _ _ _ rfl _ _ rfl rfl ?_) | (at_mapUpdate; refine wl_mapUpdate rfl _ _ _ _ rfl _ _ _ rfl rfl rfl ?_) | (at_lookup; refine wl_lookup rfl _ _ _ _ rfl _ _ rfl rfl ?_) | (at_delete; refine wl_delete rfl _ _ _ _ rfl _ _ rfl rfl ?_) | (with_reducible refine wl_len rfl _ _ rfl _ rfl ?_) | (with_reducible refine wl_range rfl _ _ rfl _ rfl ?_) | (with_reducible refine wl_next rfl _ rfl _ rfl ?_) | (with_reducible refine wl_copy rfl _ _ _ _ rfl _ _ rfl rfl ?_) | (with_reducible refine wl_max rfl _ _ _ _ rfl _ _ rfl rfl ?_) | (with_reducible refine wl_min rfl _ _ _ _ rfl _ _ rfl rfl ?_))
                go_loopw [10] (fun iv wr => ∃ i' : Nat, iv = .int .i64 (i' : Int) ∧ i ≤ i' ∧ PtI (fun x => ltN x v) a b D E i' j ∧ Nums wr base g cap E ∧ Keep (fun j => j = g) w wr) (fun iv _ => j + 1 - (intOf iv).toNat)
                case atStart => exact ⟨i, rfl, Nat.le_refl _, HP0.out, hO, hk⟩
                case round =>
                  clear HP0 hO hk
                  obtain ⟨i', rfl, hii, hP, hO, hk⟩ := hrel
                  generalize wr = wx at *
                  have hai := hP.ai
                  have hjb := hP.jb
                  have hij := hP.ij
                  have hEs := HES.out
                  have hbD : b ≤ D.size := by rw [HN.out]; exact hb
                  rcases Nat.lt_or_ge j i' with hji | hji
                  · have hz : ¬ (i' : Int) ≤ (j : Int) := by omega
                    have hz2 : decide ((i' : Int) ≤ (j : Int)) = false := by simp; omega
                    have hz3 : decide (i' ≤ j) = false := by simp; omega
                    have hpi : i' ≤ j → ltN E[i']! v = false := fun h => by omega
                    go_wp2_with (first | (at_builtin; refine wl_append rfl _ _ _ _ rfl _ _ rfl rfl ?_) | (at_make; refine wl_make rfl _ _ _ rfl _ _ rfl rfl ?_) | (at_mapUpdate; refine wl_mapUpdate rfl _ _ _ _ rfl _ _ _ rfl rfl rfl ?_) | (at_lookup; refine wl_lookup rfl _ _ _ _ rfl _ _ rfl rfl ?_) | (at_delete; refine wl_delete rfl _ _ _ _ rfl _ _ rfl rfl ?_) | (with_reducible refine wl_len rfl _ _ rfl _ rfl ?_) | (with_reducible refine wl_range rfl _ _ rfl _ rfl ?_) | (with_reducible refine wl_next rfl _ rfl _ rfl ?_) | (with_reducible refine wl_copy rfl _ _ _ _ rfl _ _ rfl rfl ?_) | (with_reducible refine wl_max rfl _ _ _ _ rfl _ _ rfl rfl ?_) | (with_reducible refine wl_min rfl _ _ _ _ rfl _ _ rfl rfl ?_))
                    go_quiet (first | (go_at_call 81; exact Calls.quiet_of_same (less_same _ _ _)) | (go_at_call 81; exact quiet_on (less_same _ _ _)))
                    go_wp2_with (first | (at_builtin; refine wl_append rfl _ _ _ _ rfl _ _ rfl rfl ?_) | (at_make; refine wl_make rfl _ _ _ rfl _ _ rfl rfl ?_) | (at_mapUpdate; refine wl_mapUpdate rfl _ _ _ _ rfl _ _ _ rfl rfl rfl ?_) | (at_lookup; refine wl_lookup rfl _ _ _ _ rfl _ _ rfl rfl ?_) | (at_delete; refine wl_delete rfl _ _ _ _ rfl _ _ rfl rfl ?_) | (with_reducible refine wl_len rfl _ _ rfl _ rfl ?_) | (with_reducible refine wl_range rfl _ _ rfl _ rfl ?_) | (with_reducible refine wl_next rfl _ rfl _ rfl ?_) | (with_reducible refine wl_copy rfl _ _ _ _ rfl _ _ rfl rfl ?_) | (with_reducible refine wl_max rfl _ _ _ _ rfl _ _ rfl rfl ?_) | (with_reducible refine wl_min rfl _ _ _ _ rfl _ _ rfl rfl ?_))
                    have HPD := Lib.hid (show i' ≤ j → ltN E[i']! v = false from hpi)
                    clear hpi
                    try simp only [Bool.not_true]
                    go_loopw [11] (fun jv wr => ∃ j' : Nat, jv = .int .i64 (j' : Int) ∧ j' ≤ j ∧ PtI (fun x => ltN x v) a b D E i' j' ∧ Nums wr base g cap E ∧ Keep (fun j => j = g) w wr) (fun jv _ => (intOf jv).toNat)
                    case atStart => exact ⟨j, rfl, Nat.le_refl _, hP, hO, hk.drewN _⟩
                    case round =>
                      clear hP hO hk
                      obtain ⟨j', rfl, hjj, hP, hO, hk⟩ := hrel
                      generalize wr = wy at *
                      have hai := hP.ai
                      have hjb := hP.jb
                      have hij := hP.ij
                      rcases Nat.lt_or_ge j' i' with hji | hji
                      · have hz : ¬ (i' : Int) ≤ (j' : Int) := by omega
                        have hz2 : decide ((i' : Int) ≤ (j' : Int)) = false := by simp; omega
                        have hz3 : decide (i' ≤ j') = false := by simp; omega
                        have hz4 : (j' : Int) < (i' : Int) := by omega
                        -- i' > j': the pivot to its place
                        have hfin := hP.fin hbD HV.out hji
                        have c1 := (hO).cell (i := j') (by omega)
                        have c2 := (hO).cell (i := a) (by omega)
                        have f1 := (hO).frozen j'
                        have f2 := (hO).frozen a
                        have hsw : Nums ((wy.setCell ⟨g, j', none⟩ (uv E[a]!)).setCell ⟨g, a, none⟩ (uv E[j']!)) base g cap (Sort.swp E j' a) := ((hO).set j' E[a]!).set a E[j']!
                        have hkw : Keep (fun j => j = g) wy ((wy.setCell ⟨g, j', none⟩ (uv E[a]!)).setCell ⟨g, a, none⟩ (uv E[j']!)) := ((Keep.refl (fun j => j = g) wy).setCell (p := ⟨g, j', none⟩) (fun _ => rfl) _).setCell (p := ⟨g, a, none⟩) (fun _ => rfl) _
                        unfold uv at c1 c2 hsw hkw
                        obtain ⟨v', hy'⟩ := cell?_setCell_some (w := wy) (p := ⟨g, j', none⟩) (x := .int .u64 ((E[a]! : Nat) : Int)) (q := ⟨g, a, none⟩) c2
                        have hy2 : ∀ k, ((wy.drewN k).setCell ⟨g, j', none⟩ (.int .u64 ((E[a]! : Nat) : Int))).cell? ⟨g, a, none⟩ = some v' := fun _ => hy'
                        generalize E[j']! = x1 at *
                        generalize E[a]! = y1 at *
                        have HFIN := Lib.hid hfin
                        have HSW := Lib.hid hsw
                        have HKW := Lib.hid (hk.trans' hkw)
                        clear hfin hsw hkw
                        go_wp2_with (first | (at_builtin; refine wl_append rfl _ _ _ _ rfl _ _ rfl rfl ?_) | (at_make; refine wl_make rfl _ _ _ rfl _ _ rfl rfl ?_) | (at_mapUpdate; refine wl_mapUpdate rfl _ _ _ _ rfl _ _ _ rfl rfl rfl ?_) | (at_lookup; refine wl_lookup rfl _ _ _ _ rfl _ _ rfl rfl ?_) | (at_delete; refine wl_delete rfl _ _ _ _ rfl _ _ rfl rfl ?_) | (with_reducible refine wl_len rfl _ _ rfl _ rfl ?_) | (with_reducible refine wl_range rfl _ _ rfl _ rfl ?_) | (with_reducible refine wl_next rfl _ rfl _ rfl ?_) | (with_reducible refine wl_copy rfl _ _ _ _ rfl _ _ rfl rfl ?_) | (with_reducible refine wl_max rfl _ _ _ _ rfl _ _ rfl rfl ?_) | (with_reducible refine wl_min rfl _ _ _ _ rfl _ _ rfl rfl ?_))
                        go_quiet (first | (go_at_call 81; exact Calls.quiet_of_same (less_same _ _ _)) | (go_at_call 81; exact quiet_on (less_same _ _ _)))
                        go_wp2_with (first | (at_builtin; refine wl_append rfl _ _ _ _ rfl _ _ rfl rfl ?_) | (at_make; refine wl_make rfl _ _ _ rfl _ _ rfl rfl ?_) | (at_mapUpdate; refine wl_mapUpdate rfl _ _ _ _ rfl _ _ _ rfl rfl rfl ?_) | (at_lookup; refine wl_lookup rfl _ _ _ _ rfl _ _ rfl rfl ?_) | (at_delete; refine wl_delete rfl _ _ _ _ rfl _ _ rfl rfl ?_) | (with_reducible refine wl_len rfl _ _ rfl _ rfl ?_) | (with_reducible refine wl_range rfl _ _ rfl _ rfl ?_) | (with_reducible refine wl_next rfl _ rfl _ rfl ?_) | (with_reducible refine wl_copy rfl _ _ _ _ rfl _ _ rfl rfl ?_) | (with_reducible refine wl_max rfl _ _ _ _ rfl _ _ rfl rfl ?_) | (with_reducible refine wl_min rfl _ _ _ _ rfl _ _ rfl rfl ?_))
                        go_region
                        go_wp2_with (first | (at_builtin; refine wl_append rfl _ _ _ _ rfl _ _ rfl rfl ?_) | (at_make; refine wl_make rfl _ _ _ rfl _ _ rfl rfl ?_) | (at_mapUpdate; refine wl_mapUpdate rfl _ _ _ _ rfl _ _ _ rfl rfl rfl ?_) | (at_lookup; refine wl_lookup rfl _ _ _ _ rfl _ _ rfl rfl ?_) | (at_delete; refine wl_delete rfl _ _ _ _ rfl _ _ rfl rfl ?_) | (with_reducible refine wl_len rfl _ _ rfl _ rfl ?_) | (with_reducible refine wl_range rfl _ _ rfl _ rfl ?_) | (with_reducible refine wl_next rfl _ rfl _ rfl ?_) | (with_reducible refine wl_copy rfl _ _ _ _ rfl _ _ rfl rfl ?_) | (with_reducible refine wl_max rfl _ _ _ _ rfl _ _ rfl rfl ?_) | (with_reducible refine wl_min rfl _ _ _ _ rfl _ _ rfl rfl ?_))
                        go_ret2
                        exact ⟨j', _, rfl, _, HFIN.out, HSW.out, keep_swap HKW.out _⟩
                      · exact absurd hji (by omega)
                  · have hz : (i' : Int) ≤ (j : Int) := by omega
                    have hz2 : decide ((i' : Int) ≤ (j : Int)) = true := by simp; omega
                    have hz3 : decide (i' ≤ j) = true := by simp; omega
                    have ca := hO.cell (i := a) (by omega)
                    have ci := hO.cell (i := i') (by omega)
                    rw [HV.out] at ca
                    unfold uv at ca ci
                    have hin : (i' : Int) < (n : Int) := by omega
                    obtain ⟨x, hx⟩ : ∃ x, x = E[i']! := ⟨_, rfl⟩
                    rw [← hx] at ci
                    have HX := Lib.hid hx
                    clear hx
                    go_wp2_with (first | (at_builtin; refine wl_append rfl _ _ _ _ rfl _ _ rfl rfl ?_) | (at_make; refine wl_make rfl _ _ _ rfl _ _ rfl rfl ?_) | (at_mapUpdate; refine wl_mapUpdate rfl _ _ _ _ rfl _ _ _ rfl rfl rfl ?_) | (at_lookup; refine wl_lookup rfl _ _ _ _ rfl _ _ rfl rfl ?_) | (at_delete; refine wl_delete rfl _ _ _ _ rfl _ _ rfl rfl ?_) | (with_reducible refine wl_len rfl _ _ rfl _ rfl ?_) | (with_reducible refine wl_range rfl _ _ rfl _ rfl ?_) | (with_reducible refine wl_next rfl _ rfl _ rfl ?_) | (with_reducible refine wl_copy rfl _ _ _ _ rfl _ _ rfl rfl ?_) | (with_reducible refine wl_max rfl _ _ _ _ rfl _ _ rfl rfl ?_) | (with_reducible refine wl_min rfl _ _ _ _ rfl _ _ rfl rfl ?_))
                    go_quiet (first | (go_at_call 81; exact Calls.quiet_of_same (less_same _ _ _)) | (go_at_call 81; exact quiet_on (less_same _ _ _)))
                    cases hl : ltN x v with
                    | true =>
                      have hU := hP.up hji (by show ltN E[i']! v = true; rw [← HX.out, hl])
                      go_wp2_with (first | (at_builtin; refine wl_append rfl _ _ _ _ rfl _ _ rfl rfl ?_) | (at_make; refine wl_make rfl _ _ _ rfl _ _ rfl rfl ?_) | (at_mapUpdate; refine wl_mapUpdate rfl _ _ _ _ rfl _ _ _ rfl rfl rfl ?_) | (at_lookup; refine wl_lookup rfl _ _ _ _ rfl _ _ rfl rfl ?_) | (at_delete; refine wl_delete rfl _ _ _ _ rfl _ _ rfl rfl ?_) | (with_reducible refine wl_len rfl _ _ rfl _ rfl ?_) | (with_reducible refine wl_range rfl _ _ rfl _ rfl ?_) | (with_reducible refine wl_next rfl _ rfl _ rfl ?_) | (with_reducible refine wl_copy rfl _ _ _ _ rfl _ _ rfl rfl ?_) | (with_reducible refine wl_max rfl _ _ _ _ rfl _ _ rfl rfl ?_) | (with_reducible refine wl_min rfl _ _ _ _ rfl _ _ rfl rfl ?_))
                      go_roundw
                      case rel => exact ⟨i' + 1, by go_num, by omega, hU, hO, hk.drewN _⟩
                      case measure => first | (simp [intOf]; done) | (simp [intOf]; omega)
                    | false =>
                      have hpi : i' ≤ j → ltN E[i']! v = false := fun _ => by rw [← HX.out, hl]
                      clear ca ci HX
                      go_wp2_with (first | (at_builtin; refine wl_append rfl _ _ _ _ rfl _ _ rfl rfl ?_) | (at_make; refine wl_make rfl _ _ _ rfl _ _ rfl rfl ?_) | (at_mapUpdate; refine wl_mapUpdate rfl _ _ _ _ rfl _ _ _ rfl rfl rfl ?_) | (at_lookup; refine wl_lookup rfl _ _ _ _ rfl _ _ rfl rfl ?_) | (at_delete; refine wl_delete rfl _ _ _ _ rfl _ _ rfl rfl ?_) | (with_reducible refine wl_len rfl _ _ rfl _ rfl ?_) | (with_reducible refine wl_range rfl _ _ rfl _ rfl ?_) | (with_reducible refine wl_next rfl _ rfl _ rfl ?_) | (with_reducible refine wl_copy rfl _ _ _ _ rfl _ _ rfl rfl ?_) | (with_reducible refine wl_max rfl _ _ _ _ rfl _ _ rfl rfl ?_) | (with_reducible refine wl_min rfl _ _ _ _ rfl _ _ rfl rfl ?_))
                      have HPD := Lib.hid (show i' ≤ j → ltN E[i']! v = false from hpi)
                      clear hpi
                      try simp only [Bool.not_true]
                      go_loopw [11] (fun jv wr => ∃ j' : Nat, jv = .int .i64 (j' : Int) ∧ j' ≤ j ∧ PtI (fun x => ltN x v) a b D E i' j' ∧ Nums wr base g cap E ∧ Keep (fun j => j = g) w wr) (fun jv _ => (intOf jv).toNat)
                      case atStart => exact ⟨j, rfl, Nat.le_refl _, hP, hO, hk.drewN _⟩
                      case round =>
                        clear hP hO hk
                        obtain ⟨j', rfl, hjj, hP, hO, hk⟩ := hrel
                        generalize wr = wy at *
                        have hai := hP.ai
                        have hjb := hP.jb
                        have hij := hP.ij
                        rcases Nat.lt_or_ge j' i' with hji | hji
                        · have hz : ¬ (i' : Int) ≤ (j' : Int) := by omega
                          have hz2 : decide ((i' : Int) ≤ (j' : Int)) = false := by simp; omega
                          have hz3 : decide (i' ≤ j') = false := by simp; omega
                          have hz4 : (j' : Int) < (i' : Int) := by omega
                          -- i' > j': the pivot to its place
                          have hfin := hP.fin hbD HV.out hji
                          have c1 := (hO).cell (i := j') (by omega)
                          have c2 := (hO).cell (i := a) (by omega)
                          have f1 := (hO).frozen j'
                          have f2 := (hO).frozen a
                          have hsw : Nums ((wy.setCell ⟨g, j', none⟩ (uv E[a]!)).setCell ⟨g, a, none⟩ (uv E[j']!)) base g cap (Sort.swp E j' a) := ((hO).set j' E[a]!).set a E[j']!
                          have hkw : Keep (fun j => j = g) wy ((wy.setCell ⟨g, j', none⟩ (uv E[a]!)).setCell ⟨g, a, none⟩ (uv E[j']!)) := ((Keep.refl (fun j => j = g) wy).setCell (p := ⟨g, j', none⟩) (fun _ => rfl) _).setCell (p := ⟨g, a, none⟩) (fun _ => rfl) _
                          unfold uv at c1 c2 hsw hkw
                          obtain ⟨v', hy'⟩ := cell?_setCell_some (w := wy) (p := ⟨g, j', none⟩) (x := .int .u64 ((E[a]! : Nat) : Int)) (q := ⟨g, a, none⟩) c2
                          have hy2 : ∀ k, ((wy.drewN k).setCell ⟨g, j', none⟩ (.int .u64 ((E[a]! : Nat) : Int))).cell? ⟨g, a, none⟩ = some v' := fun _ => hy'
                          generalize E[j']! = x1 at *
                          generalize E[a]! = y1 at *
                          have HFIN := Lib.hid hfin
                          have HSW := Lib.hid hsw
                          have HKW := Lib.hid (hk.trans' hkw)
                          clear hfin hsw hkw
                          go_wp2_with (first | (at_builtin; refine wl_append rfl _ _ _ _ rfl _ _ rfl rfl ?_) | (at_make; refine wl_make rfl _ _ _ rfl _ _ rfl rfl ?_) | (at_mapUpdate; refine wl_mapUpdate rfl _ _ _ _ rfl _ _ _ rfl rfl rfl ?_) | (at_lookup; refine wl_lookup rfl _ _ _ _ rfl _ _ rfl rfl ?_) | (at_delete; refine wl_delete rfl _ _ _ _ rfl _ _ rfl rfl ?_) | (with_reducible refine wl_len rfl _ _ rfl _ rfl ?_) | (with_reducible refine wl_range rfl _ _ rfl _ rfl ?_) | (with_reducible refine wl_next rfl _ rfl _ rfl ?_) | (with_reducible refine wl_copy rfl _ _ _ _ rfl _ _ rfl rfl ?_) | (with_reducible refine wl_max rfl _ _ _ _ rfl _ _ rfl rfl ?_) | (with_reducible refine wl_min rfl _ _ _ _ rfl _ _ rfl rfl ?_))
                          go_quiet (first | (go_at_call 81; exact Calls.quiet_of_same (less_same _ _ _)) | (go_at_call 81; exact quiet_on (less_same _ _ _)))
                          go_wp2_with (first | (at_builtin; refine wl_append rfl _ _ _ _ rfl _ _ rfl rfl ?_) | (at_make; refine wl_make rfl _ _ _ rfl _ _ rfl rfl ?_) | (at_mapUpdate; refine wl_mapUpdate rfl _ _ _ _ rfl _ _ _ rfl rfl rfl ?_) | (at_lookup; refine wl_lookup rfl _ _ _ _ rfl _ _ rfl rfl ?_) | (at_delete; refine wl_delete rfl _ _ _ _ rfl _ _ rfl rfl ?_) | (with_reducible refine wl_len rfl _ _ rfl _ rfl ?_) | (with_reducible refine wl_range rfl _ _ rfl _ rfl ?_) | (with_reducible refine wl_next rfl _ rfl _ rfl ?_) | (with_reducible refine wl_copy rfl _ _ _ _ rfl _ _ rfl rfl ?_) | (with_reducible refine wl_max rfl _ _ _ _ rfl _ _ rfl rfl ?_) | (with_reducible refine wl_min rfl _ _ _ _ rfl _ _ rfl rfl ?_))
                          go_region
                          go_wp2_with (first | (at_builtin; refine wl_append rfl _ _ _ _ rfl _ _ rfl rfl ?_) | (at_make; refine wl_make rfl _ _ _ rfl _ _ rfl rfl ?_) | (at_mapUpdate; refine wl_mapUpdate rfl _ _ _ _ rfl _ _ _ rfl rfl rfl ?_) | (at_lookup; refine wl_lookup rfl _ _ _ _ rfl _ _ rfl rfl ?_) | (at_delete; refine wl_delete rfl _ _ _ _ rfl _ _ rfl rfl ?_) | (with_reducible refine wl_len rfl _ _ rfl _ rfl ?_) | (with_reducible refine wl_range rfl _ _ rfl _ rfl ?_) | (with_reducible refine wl_next rfl _ rfl _ rfl ?_) | (with_reducible refine wl_copy rfl _ _ _ _ rfl _ _ rfl rfl ?_) | (with_reducible refine wl_max rfl _ _ _ _ rfl _ _ rfl rfl ?_) | (with_reducible refine wl_min rfl _ _ _ _ rfl _ _ rfl rfl ?_))
                          go_ret2
                          exact ⟨j', _, rfl, _, HFIN.out, HSW.out, keep_swap HKW.out _⟩
                      -- down; a swap where it stops
                        · have hz : (i' : Int) ≤ (j' : Int) := by omega
                          have hz2 : decide ((i' : Int) ≤ (j' : Int)) = true := by simp; omega
                          have hz3 : decide (i' ≤ j') = true := by simp; omega
                          have hz4 : ¬ (j' : Int) < (i' : Int) := by omega
                          have hz5 : decide (j' < i') = false := by simp; omega
                          have hz6 : decide ((j' : Int) < (i' : Int)) = false := by simp; omega
                          have ca := hO.cell (i := a) (by omega)
                          have cj := hO.cell (i := j') (by omega)
                          rw [HV.out] at ca
                          unfold uv at ca cj
                          have hjn : (j' : Int) < (n : Int) := by omega
                          obtain ⟨y, hy⟩ : ∃ y, y = E[j']! := ⟨_, rfl⟩
                          rw [← hy] at cj
                          have HY := Lib.hid hy
                          clear hy
                          go_wp2_with (first | (at_builtin; refine wl_append rfl _ _ _ _ rfl _ _ rfl rfl ?_) | (at_make; refine wl_make rfl _ _ _ rfl _ _ rfl rfl ?_) | (at_mapUpdate; refine wl_mapUpdate rfl _ _ _ _ rfl _ _ _ rfl rfl rfl ?_) | (at_lookup; refine wl_lookup rfl _ _ _ _ rfl _ _ rfl rfl ?_) | (at_delete; refine wl_delete rfl _ _ _ _ rfl _ _ rfl rfl ?_) | (with_reducible refine wl_len rfl _ _ rfl _ rfl ?_) | (with_reducible refine wl_range rfl _ _ rfl _ rfl ?_) | (with_reducible refine wl_next rfl _ rfl _ rfl ?_) | (with_reducible refine wl_copy rfl _ _ _ _ rfl _ _ rfl rfl ?_) | (with_reducible refine wl_max rfl _ _ _ _ rfl _ _ rfl rfl ?_) | (with_reducible refine wl_min rfl _ _ _ _ rfl _ _ rfl rfl ?_))
                          go_quiet (first | (go_at_call 81; exact Calls.quiet_of_same (less_same _ _ _)) | (go_at_call 81; exact quiet_on (less_same _ _ _)))
                          cases hl : ltN y v with
                          | false =>
                            have hD := hP.down hji (by show ltN E[j']! v = false; rw [← HY.out, hl])
                            go_wp2_with (first | (at_builtin; refine wl_append rfl _ _ _ _ rfl _ _ rfl rfl ?_) | (at_make; refine wl_make rfl _ _ _ rfl _ _ rfl rfl ?_) | (at_mapUpdate; refine wl_mapUpdate rfl _ _ _ _ rfl _ _ _ rfl rfl rfl ?_) | (at_lookup; refine wl_lookup rfl _ _ _ _ rfl _ _ rfl rfl ?_) | (at_delete; refine wl_delete rfl _ _ _ _ rfl _ _ rfl rfl ?_) | (with_reducible refine wl_len rfl _ _ rfl _ rfl ?_) | (with_reducible refine wl_range rfl _ _ rfl _ rfl ?_) | (with_reducible refine wl_next rfl _ rfl _ rfl ?_) | (with_reducible refine wl_copy rfl _ _ _ _ rfl _ _ rfl rfl ?_) | (with_reducible refine wl_max rfl _ _ _ _ rfl _ _ rfl rfl ?_) | (with_reducible refine wl_min rfl _ _ _ _ rfl _ _ rfl rfl ?_))
                            go_roundw
                            case rel => exact ⟨j' - 1, by go_num, by omega, hD, hO, hk.drewN _⟩
                            case measure => first | (simp [intOf]; done) | (simp [intOf]; omega)
                          | true =>
                            obtain ⟨hlt, hS⟩ := hP.swap hji hbD (HPD.out (by omega)) (by show ltN E[j']! v = true; rw [← HY.out, hl])
                            have HS := Lib.hid hS
                            have hza := (swp_at E (i := i') (j := j') (by omega) (by omega) a).trans ((if_neg (by omega)).trans ((if_neg (by omega)).trans HV.out))
                            have HZA := Lib.hid hza
                            clear hza hS ca cj HY hP
                            try simp only [Bool.not_true]
                            go_wp2_with (first | (at_builtin; refine wl_append rfl _ _ _ _ rfl _ _ rfl rfl ?_) | (at_make; refine wl_make rfl _ _ _ rfl _ _ rfl rfl ?_) | (at_mapUpdate; refine wl_mapUpdate rfl _ _ _ _ rfl _ _ _ rfl rfl rfl ?_) | (at_lookup; refine wl_lookup rfl _ _ _ _ rfl _ _ rfl rfl ?_) | (at_delete; refine wl_delete rfl _ _ _ _ rfl _ _ rfl rfl ?_) | (with_reducible refine wl_len rfl _ _ rfl _ rfl ?_) | (with_reducible refine wl_range rfl _ _ rfl _ rfl ?_) | (with_reducible refine wl_next rfl _ rfl _ rfl ?_) | (with_reducible refine wl_copy rfl _ _ _ _ rfl _ _ rfl rfl ?_) | (with_reducible refine wl_max rfl _ _ _ _ rfl _ _ rfl rfl ?_) | (with_reducible refine wl_min rfl _ _ _ _ rfl _ _ rfl rfl ?_))
                            have c1 := (hO).cell (i := i') (by omega)
                            have c2 := (hO).cell (i := j') (by omega)
                            have f1 := (hO).frozen i'
                            have f2 := (hO).frozen j'
                            have hsw : Nums ((wy.setCell ⟨g, i', none⟩ (uv E[j']!)).setCell ⟨g, j', none⟩ (uv E[i']!)) base g cap (Sort.swp E i' j') := ((hO).set i' E[j']!).set j' E[i']!
                            have hkw : Keep (fun j => j = g) wy ((wy.setCell ⟨g, i', none⟩ (uv E[j']!)).setCell ⟨g, j', none⟩ (uv E[i']!)) := ((Keep.refl (fun j => j = g) wy).setCell (p := ⟨g, i', none⟩) (fun _ => rfl) _).setCell (p := ⟨g, j', none⟩) (fun _ => rfl) _
                            unfold uv at c1 c2 hsw hkw
                            obtain ⟨v', hy'⟩ := cell?_setCell_some (w := wy) (p := ⟨g, i', none⟩) (x := .int .u64 ((E[j']! : Nat) : Int)) (q := ⟨g, j', none⟩) c2
                            have hy2 : ∀ k, ((wy.drewN k).setCell ⟨g, i', none⟩ (.int .u64 ((E[j']! : Nat) : Int))).cell? ⟨g, j', none⟩ = some v' := fun _ => hy'
                            generalize E[i']! = x1 at *
                            generalize E[j']! = y1 at *
                            have hne : i' ≠ j' := by omega
                            have HSW := Lib.hid hsw
                            have HKW := Lib.hid (hk.trans' hkw)
                            clear hsw hkw
                            go_region
                            go_wp2_with (first | (at_builtin; refine wl_append rfl _ _ _ _ rfl _ _ rfl rfl ?_) | (at_make; refine wl_make rfl _ _ _ rfl _ _ rfl rfl ?_) | (at_mapUpdate; refine wl_mapUpdate rfl _ _ _ _ rfl _ _ _ rfl rfl rfl ?_) | (at_lookup; refine wl_lookup rfl _ _ _ _ rfl _ _ rfl rfl ?_) | (at_delete; refine wl_delete rfl _ _ _ _ rfl _ _ rfl rfl ?_) | (with_reducible refine wl_len rfl _ _ rfl _ rfl ?_) | (with_reducible refine wl_range rfl _ _ rfl _ rfl ?_) | (with_reducible refine wl_next rfl _ rfl _ rfl ?_) | (with_reducible refine wl_copy rfl _ _ _ _ rfl _ _ rfl rfl ?_) | (with_reducible refine wl_max rfl _ _ _ _ rfl _ _ rfl rfl ?_) | (with_reducible refine wl_min rfl _ _ _ _ rfl _ _ rfl rfl ?_))
                            go_roundw
                            case rel => exact ⟨i' + 1, j' - 1, _, by go_num, by go_num, HS.out, HZA.out, HSW.out, keep_swap HKW.out _⟩
                            case measure => first | (simp [intOf]; done) | (simp [intOf]; omega)
end
end Go.Proofs.YthfekjnekaecaaaDoor
