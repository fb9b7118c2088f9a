/- symbols: Defined, Bind, Kind, may, Check. symbols: Check, Table. symbols: Table. rela: Value, Table, Check. rela: Table, Check. No condition. -/
import Derived.Test.YtbnahidopemkiaaGreatSy1
set_option linter.unusedVariables false
set_option linter.unusedSimpArgs false
namespace Go.Proofs.YtbnahidopemkiaaGreat
open Go.RowKit Go.Dm Go.Dm.Oc Go.Dm.Ld
section
variable {A : Nat → Prop} {w : World}
set_option maxRecDepth 100000 in
set_option maxHeartbeats 1000000 in
theorem sydef_any (s : Sy) : Calls Tryz.prog 51 #[.agg (encSy s).toArray] w fun e w' => e = .returned (.bool (decide (s.sec ≠ 0))) ∧ Keep No w w' := by
  have hb : (!(((s.sec : Int)) == 0)) = decide (s.sec ≠ 0) := by
    rw [Bool.eq_iff_iff]
    simp
  rw [← hb]
  unfold encSy
  generalize s.sec = x at *
  go_enter Tryz.func51, Tryz.ntmps51
  go_wp2_with fail
  go_ret
  exact ⟨rfl, (Keep.refl _ _).alloc _⟩
set_option maxRecDepth 100000 in
set_option maxHeartbeats 1000000 in
theorem sybind_any (s : Sy) (h : s.inf < 256) : Calls Tryz.prog 52 #[.agg (encSy s).toArray] w fun e w' => e = .returned (.int .i64 ((s.inf / 16 : Nat) : Int)) ∧ Keep No w w' := by
  unfold encSy
  have hd : (s.inf : Int) / 16 = ((s.inf / 16 : Nat) : Int) := by omega
  have hlt : s.inf / 16 < 16 := by omega
  generalize s.inf = x at *
  have HD := Lib.hid hd
  clear hd hlt
  go_enter Tryz.func52, Tryz.ntmps52
  go_wp2_with fail
  go_ret
  exact ⟨by rw [← HD.out]; rfl, (Keep.refl _ _).alloc _⟩
set_option maxRecDepth 100000 in
set_option maxHeartbeats 1000000 in
theorem sykind_any (s : Sy) (h : s.inf < 256) : Calls Tryz.prog 93 #[.agg (encSy s).toArray] w fun e w' => e = .returned (.int .i64 ((s.inf % 16 : Nat) : Int)) ∧ Keep No w w' := by
  unfold encSy
  have hd : (s.inf : Int) % 16 = ((s.inf % 16 : Nat) : Int) := by omega
  generalize s.inf = x at *
  have HD := Lib.hid hd
  clear hd
  go_enter Tryz.func93, Tryz.ntmps93
  go_wp2_with fail
  go_ret
  exact ⟨by rw [← HD.out]; rfl, (Keep.refl _ _).alloc _⟩
set_option maxRecDepth 100000 in
set_option maxHeartbeats 1000000 in
theorem idxI_any {v : Value} (l : List Nat) (x : Nat) (hl : Fl A w 1 (fun n : Nat => [.int .i64 (n : Int)]) v l) :
    Calls Tryz.prog 140 #[v, .int .i64 (x : Int)] w fun e w' => e = .returned (.int .i64 (posM (fun n => n == x) l)) ∧ Keep No w w' := by
  have HL := Lib.hid hl
  obtain ⟨ao, co, rfl, hc1, hc2⟩ := hl.shape
  have hlen : l.length ≤ 9223372036854775807 := by unfold maxLen at hc2; omega
  clear hl hc1 hc2
  go_enter Tryz.func140, Tryz.ntmps140
  go_wp2_with fail
  go_loopw [5, 8] (fun _ iv wr => ∃ i : Nat, iv = .int .i64 i ∧ i ≤ l.length ∧ (∀ j, j < i → ∀ y, l[j]? = some y → (y == x) = false) ∧ Keep No w wr) (fun _ iv _ => l.length - (intOf iv).toNat)
  case atStart => exact ⟨0, rfl, Nat.zero_le _, (fun j hj => absurd hj (Nat.not_lt_zero _)), Keep.refl _ _⟩
  case round =>
    obtain ⟨i, rfl, hi, hno, hk⟩ := hrel
    generalize wr = wz at *
    rcases Nat.lt_or_ge i l.length with hlt | hge
    · obtain ⟨g1, off, cap, ev, _, _, _, _, hc⟩ := (HL.out.no hk).at (fun _ => rfl) hlt
      cases ev
      have hiz : (i : Int) < (l.length : Int) := by omega
      have hfin : (l[i] == x) = true → posM (fun n => n == x) l = (i : Int) := fun h => posM_some hlt h fun j hj => hno j hj _ (List.getElem?_eq_getElem _)
      have hno2 : (l[i] == x) = false → ∀ j, j < i + 1 → ∀ y, l[j]? = some y → (y == x) = false := fun h j hji y hy => by
        rcases Nat.lt_or_ge j i with h2 | h2
        · exact hno j h2 y hy
        · obtain rfl : j = i := by omega
          rw [List.getElem?_eq_getElem hlt] at hy
          cases hy
          exact h
      have HF := Lib.hid hfin
      have HN := Lib.hid hno2
      clear hno hfin hno2
      have c0 := hc 0 _ rfl
      rw [Nat.add_zero, Nat.mul_one] at c0
      clear hc
      generalize hy : l[i] = y at *
      rcases Nat.decEq y x with hne | rfl
      · have hni : ¬ ((y : Int) = (x : Int)) := by omega
        have hb : (y == x) = false := by rw [beq_eq_false_iff_ne]; exact hne
        have hbi : ((x : Int) == (y : Int)) = false := by rw [beq_eq_false_iff_ne]; omega
        have hbi2 : ((y : Int) == (x : Int)) = false := by rw [beq_eq_false_iff_ne]; omega
        go_wp2_with fail
        try go_quiet (fail)
        go_wp2_with fail
        go_roundw
        case rel => exact ⟨i + 1, by go_num, hlt, HN.out hb, by first | exact hk | exact hk.drewN _⟩
        case measure => simp [intOf]; omega
      · go_wp2_with fail
        try go_quiet (fail)
        go_wp2_with fail
        go_ret
        rw [HF.out (by simp)]
        exact ⟨rfl, by first | exact hk | exact hk.drewN _⟩
    · obtain rfl : i = l.length := Nat.le_antisymm hi hge
      have hof := posM_none (p := fun n => n == x) (l := l) fun j hj => hno j hj _ (List.getElem?_eq_getElem hj)
      go_wp2_with fail
      go_ret
      rw [hof]
      exact ⟨rfl, hk⟩
set_option maxHeartbeats 1000000 in
theorem hasI_any {v : Value} (l : List Nat) (x : Nat) (hl : Fl A w 1 (fun n : Nat => [.int .i64 (n : Int)]) v l) :
    Calls Tryz.prog 136 #[v, .int .i64 (x : Int)] w fun e w' => e = .returned (.bool (l.contains x)) ∧ Keep No w w' := by
  have hc := idxI_any l x hl
  have hb : decide (0 ≤ posM (fun n => n == x) l) = l.contains x := by
    unfold posM
    rw [List.contains_eq_any_beq]
    have e : l.any (fun n => n == x) = l.any fun n => x == n := by
      congr 1
      funext n
      exact Bool.beq_comm
    rw [← e]
    cases l.any (fun n => n == x) with
    | false => rfl
    | true => simp
  clear hl
  generalize posM (fun n => n == x) l = r at *
  generalize l.contains x = b at *
  go_enter Tryz.func136, Tryz.ntmps136
  go_wp2_with fail
  refine hc.mono ?_
  rintro e w2 ⟨rfl, hk2⟩
  go_wp2_with fail
  go_ret
  exact ⟨by rw [← hb]; rfl, hk2⟩
set_option maxRecDepth 100000 in
set_option maxHeartbeats 8000000 in
theorem symay_any (s : Sy) (hs : SyOk s) : Calls Tryz.prog 122 #[.agg (encSy s).toArray] w fun e w' => e = .returned (.bool (mayS s)) ∧ Keep No w w' := by
  obtain ⟨o0, o1, o2, o3, o4, o5⟩ := hs
  have hdef := fun w => sydef_any (w := w) s
  have hbind := fun w => sybind_any (w := w) s o1
  have hkind := fun w => sykind_any (w := w) s o1
  have hkk : ([0, 1, 2, 6] : List Nat).contains (s.inf % 16) = decide (s.inf % 16 = 0 ∨ s.inf % 16 = 1 ∨ s.inf % 16 = 2 ∨ s.inf % 16 = 6) := by
    rw [Bool.eq_iff_iff]
    simp
  have HM : Hid (mayS s = (decide (s.inf / 16 ≤ 2) && decide (s.inf % 16 = 0 ∨ s.inf % 16 = 1 ∨ s.inf % 16 = 2 ∨ s.inf % 16 = 6) && decide (s.oth = 0) && decide (s.sec ≤ 1) && decide (s.nm ≠ 0) && (decide (s.sec ≠ 0) || decide (s.val = 0 ∧ s.sz = 0 ∧ s.inf / 16 ≠ 0)))) := Lib.hid rfl
  have hib : s.inf / 16 < 16 := by omega
  have hik : s.inf % 16 < 16 := by omega
  have hcs : (encSy s).toArray = #[.int .u32 (s.nm : Int), .int .u8 (s.inf : Int), .int .u8 (s.oth : Int), .int .u16 (s.sec : Int), .int .u64 (s.val : Int), .int .u64 (s.sz : Int)] := rfl
  rw [hcs] at hdef hbind hkind ⊢
  generalize mayS s = res at *
  generalize s.inf / 16 = ib at *
  generalize s.inf % 16 = ik at *
  generalize s.nm = x0 at *
  generalize s.inf = x1 at *
  generalize s.oth = x2 at *
  generalize s.sec = x3 at *
  generalize s.val = x4 at *
  generalize s.sz = x5 at *
  clear hcs
  go_enter Tryz.func122, Tryz.ntmps122
  go_wp2_with fail
  have hkW : Keep No w (w.alloc (.cells #[.int .u32 (x0 : Int), .int .u8 (x1 : Int), .int .u8 (x2 : Int), .int .u16 (x3 : Int), .int .u64 (x4 : Int), .int .u64 (x5 : Int)] 46)) := (Keep.refl _ _).alloc _
  have hBW : Blk (w.alloc (.cells #[.int .u32 (x0 : Int), .int .u8 (x1 : Int), .int .u8 (x2 : Int), .int .u16 (x3 : Int), .int .u64 (x4 : Int), .int .u64 (x5 : Int)] 46)) w.heap.size #[.int .u32 (x0 : Int), .int .u8 (x1 : Int), .int .u8 (x2 : Int), .int .u16 (x3 : Int), .int .u64 (x4 : Int), .int .u64 (x5 : Int)] 46 := Blk.new _ _ _
  have hzW : (w.alloc (.cells #[.int .u32 (x0 : Int), .int .u8 (x1 : Int), .int .u8 (x2 : Int), .int .u16 (x3 : Int), .int .u64 (x4 : Int), .int .u64 (x5 : Int)] 46)).heap.size = w.heap.size + 1 := World.size_alloc _ _
  generalize w.alloc (.cells #[.int .u32 (x0 : Int), .int .u8 (x1 : Int), .int .u8 (x2 : Int), .int .u16 (x3 : Int), .int .u64 (x4 : Int), .int .u64 (x5 : Int)] 46) = W at *
  have hkV : Keep No W (W.alloc (.cells #[.int .i64 0, .int .i64 1, .int .i64 2, .int .i64 6] 3)) := (Keep.refl _ _).alloc _
  have hBV : Blk (W.alloc (.cells #[.int .i64 0, .int .i64 1, .int .i64 2, .int .i64 6] 3)) W.heap.size #[.int .i64 0, .int .i64 1, .int .i64 2, .int .i64 6] 3 := Blk.new _ _ _
  have hzV : (W.alloc (.cells #[.int .i64 0, .int .i64 1, .int .i64 2, .int .i64 6] 3)).heap.size = W.heap.size + 1 := World.size_alloc _ _
  generalize W.alloc (.cells #[.int .i64 0, .int .i64 1, .int .i64 2, .int .i64 6] 3) = V at *
  have hBX0 := hBW.keep hkV fun h => h
  have hLX0 : Fl (fun j => j = W.heap.size) V 1 (fun n : Nat => [.int .i64 (n : Int)]) (.slice (some ⟨W.heap.size, 0, none⟩) 4 4) [0, 1, 2, 6] := by
    refine Sl.mk (by rfl) rfl hBV.lt (Nat.le_refl _) (by unfold maxLen; omega) fun j u hu => ?_
    rw [hBV.cell, Nat.zero_add, List.getElem?_toArray]
    exact hu
  rw [hzW] at hLX0
  have hkwV := hkW.trans' hkV
  clear hBW hBV hkW hkV hzW hzV
  refine (hdef V).mono ?_
  rintro e w1 ⟨rfl, hk1⟩
  have hk0 := hkwV.trans' hk1
  have hBX := hBX0.keep hk1 fun h => h
  have hLX := hLX0.no hk1
  clear hBX0 hLX0 hkwV hk1
  have c0 := hBX.cell 4
  have c1 := hBX.cell 5
  by_cases hx3 : x3 = 0
  · have hd : decide (x3 ≠ 0) = false := by simp [hx3]
    rw [hd] at HM ⊢
    have hx3i : (x3 : Int) = 0 := by omega
    by_cases hx4 : x4 = 0
    · have hx4i : ((x4 : Int) == 0) = true := by rw [beq_iff_eq]; omega
      by_cases hx5 : x5 = 0
      · have hx5i : ((x5 : Int) == 0) = true := by rw [beq_iff_eq]; omega
        have a0 := hBX.cell 0
        have a1 := hBX.cell 1
        have a2 := hBX.cell 2
        have a3 := hBX.cell 3
        have HMf : Hid (ib = 0 → res = (decide (ib ≤ 2) && decide (ik = 0 ∨ ik = 1 ∨ ik = 2 ∨ ik = 6) && decide (x2 = 0) && decide (x3 ≤ 1) && decide (x0 ≠ 0) && false)) := Lib.hid fun h => by rw [HM.out, show (false || decide (x4 = 0 ∧ x5 = 0 ∧ ib ≠ 0)) = false by simp [h]]
        have HMt : Hid (ib ≠ 0 → res = (decide (ib ≤ 2) && decide (ik = 0 ∨ ik = 1 ∨ ik = 2 ∨ ik = 6) && decide (x2 = 0) && decide (x3 ≤ 1) && decide (x0 ≠ 0) && true)) := Lib.hid fun h => by rw [HM.out, show (false || decide (x4 = 0 ∧ x5 = 0 ∧ ib ≠ 0)) = true by simp [h, hx4, hx5]]
        clear HM
        subst hx3
        subst hx4
        subst hx5
        clear hx3i hx4i hx5i
        go_wp2_with fail
        refine (hbind w1).mono ?_
        rintro e wb ⟨rfl, hkb_⟩
        have hBY := hBX.keep hkb_ fun h => h
        have hLY := hLX.no hkb_
        have hk0' := hk0.trans' hkb_
        clear hBX hLX a0 a1 a2 a3 c0 c1 hk0
        have hBX := hBY
        have hLX := hLY
        have hk0 := hk0'
        by_cases hib0 : ib = 0
        · have HM := Lib.hid (HMf.out hib0)
          have hib0i : ((ib : Int) == 0) = true := by rw [beq_iff_eq]; omega
          clear HMf HMt
          have hkx : Keep No w wb := by first | exact hk0 | exact (hk0.trans' hkA) | exact (hk0.trans' hkA).trans' hkB
          have a0 := hBX.cell 0
          have a1 := hBX.cell 1
          have a2 := hBX.cell 2
          have a3 := hBX.cell 3
          have a4 := hBX.cell 4
          have a5 := hBX.cell 5
          go_wp2_with fail
          refine (hbind wb).mono ?_
          rintro e w2 ⟨rfl, hk2⟩
          have hB2 := hBX.keep hk2 fun h => h
          have hL2 := hLX.no hk2
          have hkw2 := hkx.trans' hk2
          clear hBX hLX a0 a1 a2 a3 a4 a5
          have d0 := hB2.cell 0
          have d1 := hB2.cell 1
          have d2 := hB2.cell 2
          have d3 := hB2.cell 3
          have d4 := hB2.cell 4
          have d5 := hB2.cell 5
          by_cases hb2 : ib ≤ 2
          · have hb2i : (ib : Int) ≤ 2 := by omega
            go_wp2_with fail
            refine (hkind w2).mono ?_
            rintro e w3 ⟨rfl, hk3⟩
            have hB3 := hB2.keep hk3 fun h => h
            have hL3 := hL2.no hk3
            clear hB2 hL2 d0 d1 d2 d3 d4 d5
            go_wp2_with fail
            have hh := hasI_any _ ik hL3
            rw [hkk] at hh
            refine hh.mono ?_
            clear hh
            rintro e w4 ⟨rfl, hk4⟩
            have hB4 := hB3.keep hk4 fun h => h
            have d0 := hB4.cell 0
            have d2 := hB4.cell 2
            have d3 := hB4.cell 3
            have hkF := (hkw2.trans' hk3).trans' hk4
            clear hB3 hB4 hL3 hbind hkind hdef hk0
            cases hkb : decide (ik = 0 ∨ ik = 1 ∨ ik = 2 ∨ ik = 6) with
            | false =>
              rw [hkb] at HM
              clear d0 d2 d3
              go_wp2_with fail
              go_ret
              rw [HM.out]
              exact ⟨by simp, hkF⟩
            | true =>
              rw [hkb] at HM
              go_wp2_with fail
              all_goals
                go_ret
                rw [HM.out]
                refine ⟨congrArg (fun b => Ending.returned (Value.bool b)) ?_, hkF⟩
                clear d0 d2 d3 HM
                rw [Bool.eq_iff_iff]
                simp only [Bool.and_eq_true, Bool.or_eq_true, Bool.and_true, Bool.true_and, decide_eq_true_eq, beq_iff_eq, bne_iff_ne, Bool.not_eq_true', beq_eq_false_iff_ne, ne_eq, Bool.false_eq_true, false_iff, true_iff, iff_true, iff_false, not_and, not_or, and_true, true_and, Bool.and_false, and_false, not_false_eq_true, implies_true, true_or, false_or, or_true] at *
                try omega
          · have hb2i : ¬ ((ib : Int) ≤ 2) := by omega
            first
              | (exfalso
                 omega)
              | (go_wp2_with fail
                 go_ret
                 rw [HM.out]
                 refine ⟨congrArg (fun b => Ending.returned (Value.bool b)) ?_, hkw2⟩
                 simp [hb2])
        · have HM := Lib.hid (HMt.out hib0)
          have hib0i : ((ib : Int) == 0) = false := by rw [beq_eq_false_iff_ne]; omega
          clear HMf HMt
          have hkx : Keep No w wb := by first | exact hk0 | exact (hk0.trans' hkA) | exact (hk0.trans' hkA).trans' hkB
          have a0 := hBX.cell 0
          have a1 := hBX.cell 1
          have a2 := hBX.cell 2
          have a3 := hBX.cell 3
          have a4 := hBX.cell 4
          have a5 := hBX.cell 5
          go_wp2_with fail
          refine (hbind wb).mono ?_
          rintro e w2 ⟨rfl, hk2⟩
          have hB2 := hBX.keep hk2 fun h => h
          have hL2 := hLX.no hk2
          have hkw2 := hkx.trans' hk2
          clear hBX hLX a0 a1 a2 a3 a4 a5
          have d0 := hB2.cell 0
          have d1 := hB2.cell 1
          have d2 := hB2.cell 2
          have d3 := hB2.cell 3
          have d4 := hB2.cell 4
          have d5 := hB2.cell 5
          by_cases hb2 : ib ≤ 2
          · have hb2i : (ib : Int) ≤ 2 := by omega
            go_wp2_with fail
            refine (hkind w2).mono ?_
            rintro e w3 ⟨rfl, hk3⟩
            have hB3 := hB2.keep hk3 fun h => h
            have hL3 := hL2.no hk3
            clear hB2 hL2 d0 d1 d2 d3 d4 d5
            go_wp2_with fail
            have hh := hasI_any _ ik hL3
            rw [hkk] at hh
            refine hh.mono ?_
            clear hh
            rintro e w4 ⟨rfl, hk4⟩
            have hB4 := hB3.keep hk4 fun h => h
            have d0 := hB4.cell 0
            have d2 := hB4.cell 2
            have d3 := hB4.cell 3
            have hkF := (hkw2.trans' hk3).trans' hk4
            clear hB3 hB4 hL3 hbind hkind hdef hk0
            cases hkb : decide (ik = 0 ∨ ik = 1 ∨ ik = 2 ∨ ik = 6) with
            | false =>
              rw [hkb] at HM
              clear d0 d2 d3
              go_wp2_with fail
              go_ret
              rw [HM.out]
              exact ⟨by simp, hkF⟩
            | true =>
              rw [hkb] at HM
              go_wp2_with fail
              all_goals
                go_ret
                rw [HM.out]
                refine ⟨congrArg (fun b => Ending.returned (Value.bool b)) ?_, hkF⟩
                clear d0 d2 d3 HM
                rw [Bool.eq_iff_iff]
                simp only [Bool.and_eq_true, Bool.or_eq_true, Bool.and_true, Bool.true_and, decide_eq_true_eq, beq_iff_eq, bne_iff_ne, Bool.not_eq_true', beq_eq_false_iff_ne, ne_eq, Bool.false_eq_true, false_iff, true_iff, iff_true, iff_false, not_and, not_or, and_true, true_and, Bool.and_false, and_false, not_false_eq_true, implies_true, true_or, false_or, or_true] at *
                try omega
          · have hb2i : ¬ ((ib : Int) ≤ 2) := by omega
            first
              | (exfalso
                 omega)
              | (go_wp2_with fail
                 go_ret
                 rw [HM.out]
                 refine ⟨congrArg (fun b => Ending.returned (Value.bool b)) ?_, hkw2⟩
                 simp [hb2])
      · have hx5i : ((x5 : Int) == 0) = false := by rw [beq_eq_false_iff_ne]; omega
        rw [show (false || decide (x4 = 0 ∧ x5 = 0 ∧ ib ≠ 0)) = false by simp [hx5]] at HM
        subst hx3
        subst hx4
        clear hx3i hx4i
        have hkx : Keep No w w1 := by first | exact hk0 | exact (hk0.trans' hkA) | exact (hk0.trans' hkA).trans' hkB
        have a0 := hBX.cell 0
        have a1 := hBX.cell 1
        have a2 := hBX.cell 2
        have a3 := hBX.cell 3
        have a4 := hBX.cell 4
        have a5 := hBX.cell 5
        go_wp2_with fail
        refine (hbind w1).mono ?_
        rintro e w2 ⟨rfl, hk2⟩
        have hB2 := hBX.keep hk2 fun h => h
        have hL2 := hLX.no hk2
        have hkw2 := hkx.trans' hk2
        clear hBX hLX a0 a1 a2 a3 a4 a5
        have d0 := hB2.cell 0
        have d1 := hB2.cell 1
        have d2 := hB2.cell 2
        have d3 := hB2.cell 3
        have d4 := hB2.cell 4
        have d5 := hB2.cell 5
        by_cases hb2 : ib ≤ 2
        · have hb2i : (ib : Int) ≤ 2 := by omega
          go_wp2_with fail
          refine (hkind w2).mono ?_
          rintro e w3 ⟨rfl, hk3⟩
          have hB3 := hB2.keep hk3 fun h => h
          have hL3 := hL2.no hk3
          clear hB2 hL2 d0 d1 d2 d3 d4 d5
          go_wp2_with fail
          have hh := hasI_any _ ik hL3
          rw [hkk] at hh
          refine hh.mono ?_
          clear hh
          rintro e w4 ⟨rfl, hk4⟩
          have hB4 := hB3.keep hk4 fun h => h
          have d0 := hB4.cell 0
          have d2 := hB4.cell 2
          have d3 := hB4.cell 3
          have hkF := (hkw2.trans' hk3).trans' hk4
          clear hB3 hB4 hL3 hbind hkind hdef hk0
          cases hkb : decide (ik = 0 ∨ ik = 1 ∨ ik = 2 ∨ ik = 6) with
          | false =>
            rw [hkb] at HM
            clear d0 d2 d3
            go_wp2_with fail
            go_ret
            rw [HM.out]
            exact ⟨by simp, hkF⟩
          | true =>
            rw [hkb] at HM
            go_wp2_with fail
            all_goals
              go_ret
              rw [HM.out]
              refine ⟨congrArg (fun b => Ending.returned (Value.bool b)) ?_, hkF⟩
              clear d0 d2 d3 HM
              rw [Bool.eq_iff_iff]
              simp only [Bool.and_eq_true, Bool.or_eq_true, Bool.and_true, Bool.true_and, decide_eq_true_eq, beq_iff_eq, bne_iff_ne, Bool.not_eq_true', beq_eq_false_iff_ne, ne_eq, Bool.false_eq_true, false_iff, true_iff, iff_true, iff_false, not_and, not_or, and_true, true_and, Bool.and_false, and_false, not_false_eq_true, implies_true, true_or, false_or, or_true] at *
              try omega
        · have hb2i : ¬ ((ib : Int) ≤ 2) := by omega
          first
            | (exfalso
               omega)
            | (go_wp2_with fail
               go_ret
               rw [HM.out]
               refine ⟨congrArg (fun b => Ending.returned (Value.bool b)) ?_, hkw2⟩
               simp [hb2])
    · have hx4i : ((x4 : Int) == 0) = false := by rw [beq_eq_false_iff_ne]; omega
      rw [show (false || decide (x4 = 0 ∧ x5 = 0 ∧ ib ≠ 0)) = false by simp [hx4]] at HM
      clear c1
      subst hx3
      clear hx3i
      have hkx : Keep No w w1 := by first | exact hk0 | exact (hk0.trans' hkA) | exact (hk0.trans' hkA).trans' hkB
      have a0 := hBX.cell 0
      have a1 := hBX.cell 1
      have a2 := hBX.cell 2
      have a3 := hBX.cell 3
      have a4 := hBX.cell 4
      have a5 := hBX.cell 5
      go_wp2_with fail
      refine (hbind w1).mono ?_
      rintro e w2 ⟨rfl, hk2⟩
      have hB2 := hBX.keep hk2 fun h => h
      have hL2 := hLX.no hk2
      have hkw2 := hkx.trans' hk2
      clear hBX hLX a0 a1 a2 a3 a4 a5
      have d0 := hB2.cell 0
      have d1 := hB2.cell 1
      have d2 := hB2.cell 2
      have d3 := hB2.cell 3
      have d4 := hB2.cell 4
      have d5 := hB2.cell 5
      by_cases hb2 : ib ≤ 2
      · have hb2i : (ib : Int) ≤ 2 := by omega
        go_wp2_with fail
        refine (hkind w2).mono ?_
        rintro e w3 ⟨rfl, hk3⟩
        have hB3 := hB2.keep hk3 fun h => h
        have hL3 := hL2.no hk3
        clear hB2 hL2 d0 d1 d2 d3 d4 d5
        go_wp2_with fail
        have hh := hasI_any _ ik hL3
        rw [hkk] at hh
        refine hh.mono ?_
        clear hh
        rintro e w4 ⟨rfl, hk4⟩
        have hB4 := hB3.keep hk4 fun h => h
        have d0 := hB4.cell 0
        have d2 := hB4.cell 2
        have d3 := hB4.cell 3
        have hkF := (hkw2.trans' hk3).trans' hk4
        clear hB3 hB4 hL3 hbind hkind hdef hk0
        cases hkb : decide (ik = 0 ∨ ik = 1 ∨ ik = 2 ∨ ik = 6) with
        | false =>
          rw [hkb] at HM
          clear d0 d2 d3
          go_wp2_with fail
          go_ret
          rw [HM.out]
          exact ⟨by simp, hkF⟩
        | true =>
          rw [hkb] at HM
          go_wp2_with fail
          all_goals
            go_ret
            rw [HM.out]
            refine ⟨congrArg (fun b => Ending.returned (Value.bool b)) ?_, hkF⟩
            clear d0 d2 d3 HM
            rw [Bool.eq_iff_iff]
            simp only [Bool.and_eq_true, Bool.or_eq_true, Bool.and_true, Bool.true_and, decide_eq_true_eq, beq_iff_eq, bne_iff_ne, Bool.not_eq_true', beq_eq_false_iff_ne, ne_eq, Bool.false_eq_true, false_iff, true_iff, iff_true, iff_false, not_and, not_or, and_true, true_and, Bool.and_false, and_false, not_false_eq_true, implies_true, true_or, false_or, or_true] at *
            try omega
      · have hb2i : ¬ ((ib : Int) ≤ 2) := by omega
        first
          | (exfalso
             omega)
          | (go_wp2_with fail
             go_ret
             rw [HM.out]
             refine ⟨congrArg (fun b => Ending.returned (Value.bool b)) ?_, hkw2⟩
             simp [hb2])
  · have hd : decide (x3 ≠ 0) = true := by simp [hx3]
    rw [hd] at HM ⊢
    clear c0 c1
    have hkx : Keep No w w1 := by first | exact hk0 | exact (hk0.trans' hkA) | exact (hk0.trans' hkA).trans' hkB
    have a0 := hBX.cell 0
    have a1 := hBX.cell 1
    have a2 := hBX.cell 2
    have a3 := hBX.cell 3
    have a4 := hBX.cell 4
    have a5 := hBX.cell 5
    go_wp2_with fail
    refine (hbind w1).mono ?_
    rintro e w2 ⟨rfl, hk2⟩
    have hB2 := hBX.keep hk2 fun h => h
    have hL2 := hLX.no hk2
    have hkw2 := hkx.trans' hk2
    clear hBX hLX a0 a1 a2 a3 a4 a5
    have d0 := hB2.cell 0
    have d1 := hB2.cell 1
    have d2 := hB2.cell 2
    have d3 := hB2.cell 3
    have d4 := hB2.cell 4
    have d5 := hB2.cell 5
    by_cases hb2 : ib ≤ 2
    · have hb2i : (ib : Int) ≤ 2 := by omega
      go_wp2_with fail
      refine (hkind w2).mono ?_
      rintro e w3 ⟨rfl, hk3⟩
      have hB3 := hB2.keep hk3 fun h => h
      have hL3 := hL2.no hk3
      clear hB2 hL2 d0 d1 d2 d3 d4 d5
      go_wp2_with fail
      have hh := hasI_any _ ik hL3
      rw [hkk] at hh
      refine hh.mono ?_
      clear hh
      rintro e w4 ⟨rfl, hk4⟩
      have hB4 := hB3.keep hk4 fun h => h
      have d0 := hB4.cell 0
      have d2 := hB4.cell 2
      have d3 := hB4.cell 3
      have hkF := (hkw2.trans' hk3).trans' hk4
      clear hB3 hB4 hL3 hbind hkind hdef hk0
      cases hkb : decide (ik = 0 ∨ ik = 1 ∨ ik = 2 ∨ ik = 6) with
      | false =>
        rw [hkb] at HM
        clear d0 d2 d3
        go_wp2_with fail
        go_ret
        rw [HM.out]
        exact ⟨by simp, hkF⟩
      | true =>
        rw [hkb] at HM
        go_wp2_with fail
        all_goals
          go_ret
          rw [HM.out]
          refine ⟨congrArg (fun b => Ending.returned (Value.bool b)) ?_, hkF⟩
          clear d0 d2 d3 HM
          rw [Bool.eq_iff_iff]
          simp only [Bool.and_eq_true, Bool.or_eq_true, Bool.and_true, Bool.true_and, decide_eq_true_eq, beq_iff_eq, bne_iff_ne, Bool.not_eq_true', beq_eq_false_iff_ne, ne_eq, Bool.false_eq_true, false_iff, true_iff, iff_true, iff_false, not_and, not_or, and_true, true_and, Bool.and_false, and_false, not_false_eq_true, implies_true, true_or, false_or, or_true] at *
          try omega
    · have hb2i : ¬ ((ib : Int) ≤ 2) := by omega
      first
        | (exfalso
           omega)
        | (go_wp2_with fail
           go_ret
           rw [HM.out]
           refine ⟨congrArg (fun b => Ending.returned (Value.bool b)) ?_, hkw2⟩
           simp [hb2])
end
end Go.Proofs.YtbnahidopemkiaaGreat
namespace Go.Proofs.YtbnahidopemkiaaGreat
open Go.RowKit Go.Dm Go.Dm.Oc Go.Dm.Ld
section
variable {A : Nat → Prop} {w : World}
theorem chkS_cons (s : Sy) (r : List Sy) : chkS (s :: r) = if s = sy0 ∧ r.all mayS = true then 0 else 11 := rfl
theorem chkS_ok {l : List Sy} (h0 : ∀ s, l[0]? = some s → s = sy0) (h1 : ∀ j s, 0 < j → l[j]? = some s → mayS s = true) : chkS l = 0 := by
  cases l with
  | nil => rfl
  | cons s r =>
    have e0 := h0 s rfl
    have e1 : r.all mayS = true := by
      rw [List.all_eq_true]
      intro x hx
      obtain ⟨j, hj, rfl⟩ := List.getElem_of_mem hx
      exact h1 (j + 1) r[j] (by omega) (by rw [List.getElem?_cons_succ, List.getElem?_eq_getElem hj])
    rw [chkS_cons, if_pos ⟨e0, e1⟩]
theorem chkS_bad {l : List Sy} (h : (∃ s, l[0]? = some s ∧ s ≠ sy0) ∨ ∃ j s, 0 < j ∧ l[j]? = some s ∧ mayS s = false) : chkS l = 11 := by
  cases l with
  | nil =>
    rcases h with ⟨s, h, _⟩ | ⟨j, s, _, h, _⟩ <;> simp at h
  | cons s r =>
    rw [chkS_cons, if_neg]
    rintro ⟨e0, e1⟩
    rcases h with ⟨x, h, hx⟩ | ⟨j, x, hj, h, hx⟩
    · cases h
      exact hx e0
    · obtain ⟨j, rfl⟩ : ∃ k, j = k + 1 := ⟨j - 1, by omega⟩
      rw [List.getElem?_cons_succ] at h
      have hm := List.mem_of_getElem? h
      rw [List.all_eq_true] at e1
      rw [e1 x hm] at hx
      cases hx
set_option maxRecDepth 100000 in
set_option maxHeartbeats 4000000 in
theorem sycheck_any {v : Value} (l : List Sy) (hl : Fl A w 6 encSy v l) (hok : ∀ s ∈ l, SyOk s) :
    Calls Tryz.prog 89 #[v] w fun e w' => e = .returned (.int .i64 (chkS l : Nat)) ∧ Keep No w w' := by
  have HL := Lib.hid hl
  obtain ⟨ao, co, rfl, hc1, hc2⟩ := hl.shape
  have hlen : l.length ≤ 9223372036854775807 := by unfold maxLen at hc2; omega
  clear hl hc1 hc2
  go_enter Tryz.func89, Tryz.ntmps89
  go_wp2_with fail
  go_loopw [7] (fun iv wr => ∃ i : Nat, iv = .int .i64 i ∧ i ≤ l.length ∧ (0 < i → ∀ s, l[0]? = some s → s = sy0) ∧ (∀ j s, j < i → 0 < j → l[j]? = some s → mayS s = true) ∧ Keep No w wr) (fun iv _ => l.length - (intOf iv).toNat)
  case atStart => exact ⟨0, rfl, Nat.zero_le _, fun h => absurd h (by omega), fun j s hj => absurd hj (Nat.not_lt_zero _), Keep.refl _ _⟩
  case round =>
    obtain ⟨i, rfl, hi, hz, hno, hk⟩ := hrel
    generalize wr = wz at *
    rcases Nat.lt_or_ge i l.length with hlt | hge
    · obtain ⟨g1, off, cap, ev, _, hg1, _, _, hc⟩ := (HL.out.no hk).at encSy_len hlt
      cases ev
      have hiz : (i : Int) < (l.length : Int) := by omega
      have hsok := hok l[i] (List.getElem_mem hlt)
      have hmay := fun w => symay_any (w := w) l[i] hsok
      have c0 := hc 0 _ rfl
      have c1 := hc 1 _ rfl
      have c2 := hc 2 _ rfl
      have c3 := hc 3 _ rfl
      have c4 := hc 4 _ rfl
      have c5 := hc 5 _ rfl
      rw [Nat.add_zero] at c0
      clear hc
      have hli : l[i]? = some l[i] := List.getElem?_eq_getElem hlt
      generalize hsv : l[i] = s at *
      have hcs : (encSy s).toArray = #[.int .u32 (s.nm : Int), .int .u8 (s.inf : Int), .int .u8 (s.oth : Int), .int .u16 (s.sec : Int), .int .u64 (s.val : Int), .int .u64 (s.sz : Int)] := rfl
      rw [hcs] at hmay
      by_cases hi0 : i = 0
      · have hi0i : ((i : Int) == 0) = true := by rw [beq_iff_eq]; omega
        have hnp : ¬ (0 < i) := by omega
        have hl0 : l[0]? = some s := by rw [← hli, hi0]
        have HI := Lib.hid hi0
        clear hi0 hcs hsv hmay hli hno hz
        by_cases hs0 : s = sy0
        · have HZ := Lib.hid hl0
          have HS := Lib.hid hs0
          have HX := Lib.hid hsok
          subst hs0
          clear hl0 hsok
          unfold sy0 at c0 c1 c2 c3 c4 c5
          dsimp only at c0 c1 c2 c3 c4 c5
          go_wp2_with fail
          go_roundw
          case rel => exact ⟨i + 1, rfl, hlt, fun _ s h => by rw [HZ.out] at h; cases h; rfl, fun j s h1 h2 => by have := HI.out; omega, hk.alloc _⟩
          case measure => simp [intOf]; omega
        · have HR : Hid (chkS l = 11) := Lib.hid (chkS_bad (.inl ⟨_, hl0, hs0⟩))
          clear hl0
          obtain ⟨x0, x1, x2, x3, x4, x5⟩ := s
          dsimp only at *
          have hne : ¬ (x0 = 0 ∧ x1 = 0 ∧ x2 = 0 ∧ x3 = 0 ∧ x4 = 0 ∧ x5 = 0) := by
            rintro ⟨rfl, rfl, rfl, rfl, rfl, rfl⟩
            exact hs0 rfl
          clear hs0
          go_wp2_with fail
          all_goals first
            | (exfalso; omega)
            | (go_ret
               rw [HR.out]
               exact ⟨rfl, hk.alloc _⟩)
      · have hi0i : ((i : Int) == 0) = false := by rw [beq_eq_false_iff_ne]; omega
        have hi0p : (0 : Int) < (i : Int) := by omega
        have hi0p2 : 0 < i := by omega
        have hz2 := hz hi0p2
        have HZ := Lib.hid hz2
        have HN := Lib.hid hno
        clear hz hz2 hno hcs hsv hi0
        generalize hm : mayS s = m at *
        generalize s.nm = x0 at *
        generalize s.inf = x1 at *
        generalize s.oth = x2 at *
        generalize s.sec = x3 at *
        generalize s.val = x4 at *
        generalize s.sz = x5 at *
        go_wp2_with fail
        have hkW : Keep No wz (wz.alloc (.cells #[.int .u32 (x0 : Int), .int .u8 (x1 : Int), .int .u8 (x2 : Int), .int .u16 (x3 : Int), .int .u64 (x4 : Int), .int .u64 (x5 : Int)] 46)) := (Keep.refl _ _).alloc _
        have hBW : Blk (wz.alloc (.cells #[.int .u32 (x0 : Int), .int .u8 (x1 : Int), .int .u8 (x2 : Int), .int .u16 (x3 : Int), .int .u64 (x4 : Int), .int .u64 (x5 : Int)] 46)) wz.heap.size #[.int .u32 (x0 : Int), .int .u8 (x1 : Int), .int .u8 (x2 : Int), .int .u16 (x3 : Int), .int .u64 (x4 : Int), .int .u64 (x5 : Int)] 46 := Blk.new _ _ _
        have hzW : (wz.alloc (.cells #[.int .u32 (x0 : Int), .int .u8 (x1 : Int), .int .u8 (x2 : Int), .int .u16 (x3 : Int), .int .u64 (x4 : Int), .int .u64 (x5 : Int)] 46)).heap.size = wz.heap.size + 1 := World.size_alloc _ _
        generalize wz.alloc (.cells #[.int .u32 (x0 : Int), .int .u8 (x1 : Int), .int .u8 (x2 : Int), .int .u16 (x3 : Int), .int .u64 (x4 : Int), .int .u64 (x5 : Int)] 46) = W at *
        refine (hmay W).mono ?_
        rintro e w2 ⟨rfl, hk2⟩
        have hkF := (hk.trans' hkW).trans' hk2
        clear hmay c0 c1 c2 c3 c4 c5
        cases m with
        | true =>
          have HM := Lib.hid hm
          clear hm
          go_wp2_with fail
          go_roundw
          case rel => exact ⟨i + 1, rfl, hlt, fun _ => HZ.out, fun j x h1 h2 h3 => by
            rcases Nat.lt_or_ge j i with h | h
            · exact HN.out j x h h2 h3
            · obtain rfl : j = i := by omega
              rw [hli] at h3
              cases h3
              exact HM.out, hkF⟩
          case measure => simp [intOf]; omega
        | false =>
          have HR : Hid (chkS l = 11) := Lib.hid (chkS_bad (.inr ⟨i, s, hi0p2, hli, hm⟩))
          clear hm
          go_wp2_with fail
          go_ret
          rw [HR.out]
          exact ⟨rfl, hkF⟩
    · obtain rfl : i = l.length := Nat.le_antisymm hi hge
      have HR : Hid (chkS l = 0) := Lib.hid (chkS_ok (fun s h => hz (List.getElem?_eq_some_iff.1 h).1 s h) fun j s h1 h2 => hno j s (List.getElem?_eq_some_iff.1 h2).1 h1 h2)
      clear hz hno
      go_wp2_with fail
      go_ret
      rw [HR.out]
      exact ⟨rfl, hk⟩
end
end Go.Proofs.YtbnahidopemkiaaGreat
namespace Go.Dm.Ld
open Go Go.Dm.Oc
theorem syIn_part (b : BS) (o : Nat) (h : o + 24 ≤ b.length) : syIn ((b.drop o).take 24) 0 = syIn b o := by
  unfold syIn
  have e := fun (a n : Nat) (h2 : a + n ≤ 24) (hn : n = 1 ∨ n = 2 ∨ n = 4 ∨ n = 8) => getX_part b o 24 a n h h2 hn
  have e0 : getX ((b.drop o).take 24) 0 4 = getX b o 4 := e 0 4 (by decide) (by decide)
  have e1 : getX ((b.drop o).take 24) (0 + 4) 1 = getX b (o + 4) 1 := e 4 1 (by decide) (by decide)
  have e2 : getX ((b.drop o).take 24) (0 + 5) 1 = getX b (o + 5) 1 := e 5 1 (by decide) (by decide)
  have e3 : getX ((b.drop o).take 24) (0 + 6) 2 = getX b (o + 6) 2 := e 6 2 (by decide) (by decide)
  have e4 : getX ((b.drop o).take 24) (0 + 8) 8 = getX b (o + 8) 8 := e 8 8 (by decide) (by decide)
  have e5 : getX ((b.drop o).take 24) (0 + 16) 8 = getX b (o + 16) 8 := e 16 8 (by decide) (by decide)
  rw [e0, e1, e2, e3, e4, e5]
theorem syTab_ok (b : BS) : ∀ s ∈ (syTab b).2, SyOk s := by
  unfold syTab
  split
  · intro s hs
    obtain ⟨i, _, rfl⟩ := List.mem_map.1 hs
    exact Go.Proofs.YtbnahidopemkiaaGreat.syIn_ok _ _
  · intro s hs; cases hs
end Go.Dm.Ld
namespace Go.Proofs.YtbnahidopemkiaaGreat
open Go.RowKit Go.Dm Go.Dm.Oc Go.Dm.Ld
section
variable {A : Nat → Prop} {w : World}
set_option maxRecDepth 100000 in
set_option maxHeartbeats 4000000 in
theorem sytable_any {v : Value} (b : BS) (hb : Bts A w v b) (hl : b.length ≤ 1099511627776) :
    Calls Tryz.prog 88 #[v] w fun e w' => ∃ v', e = .returned (.tuple #[v', .int .i64 ((syTab b).1 : Nat)]) ∧ FlO w' w.heap.size 46 6 encSy v' (syTab b).2 ∧ Keep No w w' := by
  have hH : syTab b = if b.length % 24 = 0 then (0, (List.range (b.length / 24)).map fun i => syIn b (24 * i)) else (10, []) := rfl
  by_cases h24 : b.length % 24 = 0
  · rw [if_pos h24] at hH
    have HH := Lib.hid hH
    have HB := Lib.hid hb
    obtain ⟨ao, co, rfl, hc1, hc2⟩ := hb.shape
    clear hb hH
    have h24i : (b.length : Int) % 24 = 0 := by omega
    go_enter Tryz.func88, Tryz.ntmps88
    go_wp2_with fail
    go_loopw [0, 4] (fun sv ov wr => ∃ (k : Nat) (a : Option Addr) (c : Nat), sv = .slice a (b.length - 24 * k) c ∧ b.length - 24 * k ≤ c ∧ c ≤ maxLen ∧ k ≤ b.length / 24 ∧ Bts (fun j => j < w.heap.size) wr (.slice a (b.length - 24 * k) c) (b.drop (24 * k)) ∧ FlO wr w.heap.size 46 6 encSy ov ((List.range k).map fun i => syIn b (24 * i)) ∧ Keep No w wr) (fun sv _ _ => match sv with | .slice _ n _ => n | _ => 0)
    case atStart => exact ⟨0, ao, co, rfl, by omega, hc2, Nat.zero_le _, HB.out.mono (fun j hj _ => hj), FlO.nil, Keep.refl _ _⟩
    case round =>
      obtain ⟨k, a, c, rfl, hnc, hcm, hk24, hbt, hO, hK⟩ := hrel
      generalize wr = wz at *
      rcases Nat.lt_or_ge k (b.length / 24) with hlt | hge
      · have hdl : (b.drop (24 * k)).length = b.length - 24 * k := List.length_drop
        have hp : 24 ≤ b.length - 24 * k := by omega
        have hb24 := bts_upto (i := 24) (by rw [← hdl] at hbt; exact hbt) (by omega)
        have hb24' : Bts (fun j => j < w.heap.size) wz (.slice a 24 24) ((b.drop (24 * k)).take 24) := by
          have hl24 : ((b.drop (24 * k)).take 24).length = 24 := by rw [List.length_take, hdl]; omega
          have e := hb24
          unfold Bts at e ⊢
          rw [hl24] at e ⊢
          obtain ⟨h1, a', cap, ev, h2, h3, h4, h5⟩ := e
          cases ev
          exact ⟨h1, a, 24, rfl, Nat.le_refl _, by decide, fun h => absurd (h4 h) (by omega), h5⟩
        have hone := syone_any (w := wz) _ hb24' (by rw [List.length_take]; omega)
        rw [syIn_part b (24 * k) (by omega)] at hone
        have hnext := bts_part (lo := 24) (n := b.length - 24 * k - 24) (by rw [← hdl] at hbt; exact hbt) (by omega)
        have hdd : ((b.drop (24 * k)).drop 24).take (b.length - 24 * k - 24) = b.drop (24 * (k + 1)) := by
          rw [List.drop_drop, List.take_of_length_le (by rw [List.length_drop]; omega)]
          rfl
        rw [hdd] at hnext
        have hrl : ((List.range k).map fun i => syIn b (24 * i)).length = k := by rw [List.length_map, List.length_range]
        have hrs : ((List.range (k + 1)).map fun i => syIn b (24 * i)) = ((List.range k).map fun i => syIn b (24 * i)) ++ [syIn b (24 * k)] := by
          rw [List.range_succ, List.map_append]
          rfl
        have HRS := Lib.hid hrs
        have hn1 : b.length - 24 * (k + 1) = b.length - 24 * k - 24 := by omega
        have HN1 := Lib.hid hn1
        clear hb24 hb24' hbt hdd hrs hn1 hdl h24i
        generalize hnn : b.length - 24 * k = n at *
        have hni : (24 : Int) ≤ (n : Int) := by omega
        have hpos : (0 : Int) < (n : Int) := by omega
        have hsub : (n : Int) - 24 = ((n - 24 : Nat) : Int) := by omega
        have hci : (24 : Int) ≤ (c : Int) := by omega
        generalize syIn b (24 * k) = s at *
        have hcs : (encSy s).toArray = #[.int .u32 (s.nm : Int), .int .u8 (s.inf : Int), .int .u8 (s.oth : Int), .int .u16 (s.sec : Int), .int .u64 (s.val : Int), .int .u64 (s.sz : Int)] := rfl
        rw [hcs] at hone
        have HX := Lib.hid hnext
        have hkb : k < b.length := by omega
        clear hnext hnn hcs
        go_wp2_with fail
        refine hone.mono ?_
        clear hone
        rintro e w2 ⟨rfl, hk2⟩
        go_wp2_with (at_builtin; refine wl_append rfl _ _ _ _ rfl _ _ rfl rfl ?_)
        refine rg_push (x := s) _ _ Tryz.underlying57 symT_info (by rfl) (by decide) (by rfl) (by rfl) (encSy_one _) (hO.no hk2) (by rw [hrl]; omega) (by decide) (Nat.le_trans hK.size hk2.size) ?_
        intro v4 w4 ho4 hk4 _
        have hkF : Keep No w w4 := Keep.own (hK.trans' hk2) (hO.no hk2) hk4
        have HX4 := Lib.hid ((HX.out.keep hk2 fun _ _ _ h => h).keep hk4 fun j hj hl e => absurd (World.ownsRow.lt hO _ e.symm).1 (by omega))
        rw [← HRS.out] at ho4
        clear hO hk4 HX
        by_cases hc24 : c = 24
        · obtain rfl : n = 24 := by omega
          subst hc24
          go_wp2_with fail
          go_roundw
          case rel =>
            refine ⟨k + 1, a, 0, by rw [HN1.out], by rw [HN1.out]; exact Nat.le_refl _, Nat.zero_le _, hlt, ?_, ho4, hkF⟩
            have hdl : b.drop (24 * (k + 1)) = [] := List.drop_eq_nil_of_le (by have := HN1.out; omega)
            rw [HN1.out, hdl]
            have hx := HX4.out
            rw [hdl] at hx
            obtain ⟨h1, a', cap, ev, h2, h3, h4, h5⟩ := hx
            exact ⟨rfl, a, 0, rfl, Nat.le_refl _, Nat.zero_le _, fun _ => rfl, fun h => absurd h (Nat.lt_irrefl _)⟩
          case measure => simp
        · have hneq : ¬ c = 24 := hc24
          go_wp2_with fail
          go_roundw
          case rel => exact ⟨k + 1, _, _, by rw [HN1.out], by rw [HN1.out]; omega, by omega, hlt, by rw [HN1.out]; exact HX4.out, ho4, hkF⟩
          case measure => simp; omega
      · obtain rfl : k = b.length / 24 := by omega
        have h0 : b.length - 24 * (b.length / 24) = 0 := by omega
        clear h24i
        generalize b.length - 24 * (b.length / 24) = n at *
        subst h0
        go_wp2_with fail
        go_ret2
        rw [HH.out]
        exact ⟨_, rfl, hO, hK⟩
  · rw [if_neg h24] at hH
    rw [hH]
    clear hH
    obtain ⟨ao, co, rfl, hc1, hc2⟩ := hb.shape
    clear hb
    have h24i : ¬ ((b.length : Int) % 24 = 0) := by omega
    generalize b.length = n at *
    go_enter Tryz.func88, Tryz.ntmps88
    go_wp2_with fail
    go_ret2
    exact ⟨_, rfl, FlO.nil, Keep.refl _ _⟩
end
end Go.Proofs.YtbnahidopemkiaaGreat
namespace Go.Dm.Ld
open Go Go.Dm.Oc
/-- what a relocation writes -/
def valR (ty base sym : Nat) (add : Int) : Nat × Int :=
  if knownB ty = false then (33, 0) else if ty = 0 then (0, 0) else if ty = 8 then (0, ((base : Int) + add) % 18446744073709551616) else if ty = 6 ∨ ty = 7 ∨ ty = 16 then (0, (sym : Int)) else (0, ((sym : Int) + add) % 18446744073709551616)
theorem rlIn_ok (b : BS) (i : Nat) : RlOk (rlIn b i) := ⟨Go.Proofs.YtbnahidopemkiaaGreat.getX_lt b i 8, Go.Proofs.YtbnahidopemkiaaGreat.getX_lt b (i + 8) 4, Go.Proofs.YtbnahidopemkiaaGreat.getX_lt b (i + 12) 4, Go.Proofs.YtbnahidopemkiaaGreat.getX_lt b (i + 16) 8⟩
theorem rlTab_ok (b : BS) : ∀ s ∈ (rlTab b).2, RlOk s := by
  unfold rlTab
  split
  · intro s hs
    obtain ⟨i, _, rfl⟩ := List.mem_map.1 hs
    exact rlIn_ok _ _
  · intro s hs; cases hs
end Go.Dm.Ld
namespace Go.Proofs.YtbnahidopemkiaaGreat
open Go.RowKit Go.Dm Go.Dm.Oc Go.Dm.Ld
def addI (n : Nat) : Int := IntKind.i64.wrap (n : Int)
def encRl (s : Rl) : List Value := [.int .u64 (s.off : Int), .int .u32 (s.ty : Int), .int .u32 (s.sym : Int), .int .i64 (addI s.add)]
theorem encRl_len (s : Rl) : (encRl s).length = 4 := rfl
theorem encRl_one (s : Rl) : ∀ u ∈ encRl s, u.oneCell' = true := by
  intro u hu
  simp only [encRl, List.mem_cons, List.not_mem_nil, or_false] at hu
  rcases hu with rfl | rfl | rfl | rfl <;> rfl
theorem relaT_info : (Tryz.prog.info? 115).map (fun i => (i.zero, i.size, i.bytes)) = some (some (.agg #[.int .u64 0, .int .u32 0, .int .u32 0, .int .i64 0]), 4, 24) := by kernel_rfl
theorem ret2_ii {k1 k2 : IntKind} {a a' b b' : Int} (h1 : a = a') (h2 : b = b') : Ending.returned (Value.tuple #[.int k1 a, .int k2 b]) = Ending.returned (Value.tuple #[.int k1 a', .int k2 b']) := by rw [h1, h2]
section
variable {A : Nat → Prop} {w : World}
set_option maxRecDepth 100000 in
set_option maxHeartbeats 4000000 in
theorem rlvalue_any (ty base sym : Nat) (add : Int) (h1 : ty < 4294967296) (h2 : base < 18446744073709551616) (h3 : sym < 18446744073709551616) (h4 : -9223372036854775808 ≤ add ∧ add < 9223372036854775808) (w : World) :
    Calls Tryz.prog 79 #[.int .u32 (ty : Int), .int .u64 (base : Int), .int .u64 (sym : Int), .int .i64 add] w fun e w' => e = .returned (.tuple #[.int .u64 (valR ty base sym add).2, .int .i64 ((valR ty base sym add).1 : Nat)]) ∧ w = w' := by
  have hwb : IntKind.u64.wrap ((base : Int) + IntKind.u64.wrap add) = ((base : Int) + add) % 18446744073709551616 := by
    rw [IntKind.wrap_u64, IntKind.wrap_u64]
    omega
  have hws : IntKind.u64.wrap ((sym : Int) + IntKind.u64.wrap add) = ((sym : Int) + add) % 18446744073709551616 := by
    rw [IntKind.wrap_u64, IntKind.wrap_u64]
    omega
  have HR : Hid (valR ty base sym add = if ¬ (ty = 0 ∨ ty = 1 ∨ ty = 6 ∨ ty = 7 ∨ ty = 8 ∨ ty = 16 ∨ ty = 17 ∨ ty = 18) then (33, 0) else if ty = 0 then (0, 0) else if ty = 8 then (0, ((base : Int) + add) % 18446744073709551616) else if ty = 6 ∨ ty = 7 ∨ ty = 16 then (0, (sym : Int)) else (0, ((sym : Int) + add) % 18446744073709551616)) := Lib.hid (by
    unfold valR knownB
    simp only [decide_eq_false_iff_not])
  go_enter Tryz.func79, Tryz.ntmps79
  go_wp2_with fail
  all_goals
    go_ret2
    rw [HR.out]
    refine ⟨ret2_ii ?_ ?_, rfl⟩
    all_goals
      clear HR hwb hws
      simp only [beq_iff_eq, beq_eq_false_iff_ne, ne_eq] at *
      repeat' split
      all_goals first
        | rfl
        | (exfalso; omega)
        | (dsimp only; omega)
end
end Go.Proofs.YtbnahidopemkiaaGreat
namespace Go.Proofs.YtbnahidopemkiaaGreat
open Go.RowKit Go.Dm Go.Dm.Oc Go.Dm.Ld
section
variable {A : Nat → Prop} {w : World}
set_option maxRecDepth 100000 in
set_option maxHeartbeats 4000000 in
theorem rltable_any {v : Value} (b : BS) (hb : Bts A w v b) (hl : b.length ≤ 1099511627776) :
    Calls Tryz.prog 90 #[v] w fun e w' => ∃ v', e = .returned (.tuple #[v', .int .i64 ((rlTab b).1 : Nat)]) ∧ FlO w' w.heap.size 115 4 encRl v' (rlTab b).2 ∧ Keep No w w' := by
  have hH : rlTab b = if b.length % 24 = 0 then (0, (List.range (b.length / 24)).map fun i => rlIn b (24 * i)) else (10, []) := rfl
  by_cases h24 : b.length % 24 = 0
  · rw [if_pos h24] at hH
    have HH := Lib.hid hH
    have HB := Lib.hid hb
    obtain ⟨ao, co, rfl, hc1, hc2⟩ := hb.shape
    clear hb hH
    have h24i : (b.length : Int) % 24 = 0 := by omega
    go_enter Tryz.func90, Tryz.ntmps90
    go_wp2_with fail
    go_loopw [4, 5] (fun ov av wr => ∃ (k : Nat), av = .int .u64 ((24 * k : Nat) : Int) ∧ k ≤ b.length / 24 ∧ FlO wr w.heap.size 115 4 encRl ov ((List.range k).map fun i => rlIn b (24 * i)) ∧ Keep No w wr) (fun _ av _ => b.length - (intOf av).toNat)
    case atStart => exact ⟨0, rfl, Nat.zero_le _, FlO.nil, Keep.refl _ _⟩
    case round =>
      obtain ⟨k, rfl, hk24, hO, hK⟩ := hrel
      generalize wr = wz at *
      rcases Nat.lt_or_ge k (b.length / 24) with hlt | hge
      · have hg := fun (a : Nat) (n : Nat) (ha : a ≤ 1099511627776) (hn : n < 100) => oget_any (w := wz) b a n (Sl.keep HB.out hK fun _ _ _ h => h) hl (by omega) (by omega) (by omega)
        have g0 := hg (24 * k) 8 (by omega) (by decide)
        have g1 := hg (24 * k + 8) 4 (by omega) (by decide)
        have g2 := hg (24 * k + 12) 4 (by omega) (by decide)
        have g3 := hg (24 * k + 16) 8 (by omega) (by decide)
        clear hg
        obtain ⟨o0, o1, o2, o3⟩ := rlIn_ok b (24 * k)
        have hrl : ((List.range k).map fun i => rlIn b (24 * i)).length = k := by rw [List.length_map, List.length_range]
        have hrs : ((List.range (k + 1)).map fun i => rlIn b (24 * i)) = ((List.range k).map fun i => rlIn b (24 * i)) ++ [rlIn b (24 * k)] := by
          rw [List.range_succ, List.map_append]
          rfl
        have HRS := Lib.hid hrs
        clear hrs
        have e0 : getX b (24 * k) ((8 : Nat) : Int) = (rlIn b (24 * k)).off := rfl
        have e1 : getX b (24 * k + 8) ((4 : Nat) : Int) = (rlIn b (24 * k)).ty := rfl
        have e2 : getX b (24 * k + 12) ((4 : Nat) : Int) = (rlIn b (24 * k)).sym := rfl
        have e3 : getX b (24 * k + 16) ((8 : Nat) : Int) = (rlIn b (24 * k)).add := rfl
        rw [e0] at g0
        rw [e1] at g1
        rw [e2] at g2
        rw [e3] at g3
        clear e0 e1 e2 e3
        generalize rlIn b (24 * k) = s at *
        have hcs : encRl s = [.int .u64 (s.off : Int), .int .u32 (s.ty : Int), .int .u32 (s.sym : Int), .int .i64 (IntKind.i64.wrap (s.add : Int))] := rfl
        have hwr : IntKind.i64.wrap (s.add : Int) = addI s.add := rfl
        generalize addI s.add = ad at *
        generalize fitsE b.length (24 * k) ((8 : Nat) : Int) = f0 at *
        generalize fitsE b.length (24 * k + 8) ((4 : Nat) : Int) = f1 at *
        generalize fitsE b.length (24 * k + 12) ((4 : Nat) : Int) = f2 at *
        generalize fitsE b.length (24 * k + 16) ((8 : Nat) : Int) = f3 at *
        have hlti : ((24 * k : Nat) : Int) < (b.length : Int) := by omega
        have hq1 : 24 * (k + 1) = 24 * k + 24 := by omega
        have hqb : 24 * k ≤ 1099511627776 := by omega
        have HQ := Lib.hid hq1
        clear hq1 h24i
        generalize 24 * k = q at *
        go_wp2_with fail
        refine g0.mono ?_
        rintro e w1 ⟨rfl, rfl⟩
        go_wp2_with fail
        refine g1.mono ?_
        rintro e w1 ⟨rfl, rfl⟩
        go_wp2_with fail
        refine g2.mono ?_
        rintro e w1 ⟨rfl, rfl⟩
        go_wp2_with fail
        refine g3.mono ?_
        rintro e w1 ⟨rfl, rfl⟩
        clear g0 g1 g2 g3
        go_wp2_with (at_builtin; refine wl_append rfl _ _ _ _ rfl _ _ rfl rfl ?_)
        refine rg_push (x := s) _ _ Tryz.underlying58 relaT_info (by rfl) (by decide) (by rw [hcs, hwr]) (by rfl) (encRl_one _) hO (by rw [hrl]; omega) (by decide) hK.size ?_
        intro v4 w4 ho4 hk4 _
        have hkF : Keep No w w4 := Keep.own hK hO hk4
        rw [← HRS.out] at ho4
        clear hO hk4
        go_wp2_with fail
        go_roundw
        case rel =>
          exact ⟨k + 1, congrArg (Value.int .u64) (by have := HQ.out; omega), hlt, ho4, hkF⟩
        case measure => simp [intOf]; omega
      · obtain rfl : k = b.length / 24 := by omega
        have h0 : ((24 * (b.length / 24) : Nat) : Int) = (b.length : Int) := by omega
        clear h24i
        rw [h0]
        go_wp2_with fail
        go_ret2
        rw [HH.out]
        exact ⟨_, rfl, hO, hK⟩
  · rw [if_neg h24] at hH
    rw [hH]
    clear hH
    obtain ⟨ao, co, rfl, hc1, hc2⟩ := hb.shape
    clear hb
    have h24i : ¬ ((b.length : Int) % 24 = 0) := by omega
    generalize b.length = n at *
    go_enter Tryz.func90, Tryz.ntmps90
    go_wp2_with fail
    go_ret2
    exact ⟨_, rfl, FlO.nil, Keep.refl _ _⟩
theorem chkR_cons (n : Nat) (x : Rl) (r : List Rl) : chkR n (x :: r) = if rlE n x = 0 then chkR n r else rlE n x := rfl
set_option maxRecDepth 100000 in
set_option maxHeartbeats 4000000 in
theorem rlcheck_any {v : Value} (l : List Rl) (n : Nat) (hl : Fl A w 4 encRl v l) (hok : ∀ x ∈ l, RlOk x) (hn : n < 9223372036854775808) :
    Calls Tryz.prog 91 #[v, .int .i64 (n : Int)] w fun e w' => e = .returned (.int .i64 (chkR n l : Nat)) ∧ Keep No w w' := by
  have HL := Lib.hid hl
  obtain ⟨ao, co, rfl, hc1, hc2⟩ := hl.shape
  have hlen : l.length ≤ 9223372036854775807 := by unfold maxLen at hc2; omega
  clear hl hc1 hc2
  go_enter Tryz.func91, Tryz.ntmps91
  go_wp2_with fail
  go_loopw [12] (fun iv wr => ∃ i : Nat, iv = .int .i64 i ∧ i ≤ l.length ∧ chkR n (l.drop i) = chkR n l ∧ Keep No w wr) (fun iv _ => l.length - (intOf iv).toNat)
  case atStart => exact ⟨0, rfl, Nat.zero_le _, rfl, Keep.refl _ _⟩
  case round =>
    obtain ⟨i, rfl, hi, hA, hk⟩ := hrel
    generalize wr = wz at *
    rcases Nat.lt_or_ge i l.length with hlt | hge
    · obtain ⟨g1, off, cap, ev, _, hg1, _, _, hc⟩ := (HL.out.no hk).at encRl_len hlt
      cases ev
      have hiz : (i : Int) < (l.length : Int) := by omega
      obtain ⟨o0, o1, o2, o3⟩ := hok l[i] (List.getElem_mem hlt)
      rw [List.drop_eq_getElem_cons hlt, chkR_cons] at hA
      have hval := fun w => rlvalue_any l[i].ty 0 0 0 o1 (by decide) (by decide) (by decide) w
      have c0 := hc 0 _ rfl
      have c1 := hc 1 _ rfl
      have c2 := hc 2 _ rfl
      have c3 := hc 3 _ rfl
      rw [Nat.add_zero] at c0
      clear hc
      have hve : (valR l[i].ty 0 0 0).1 = if knownB l[i].ty = false then 33 else 0 := by
        unfold valR
        repeat' split
        all_goals rfl
      have hE : rlE n l[i] = if knownB l[i].ty = false then 33 else if 0 < l[i].sym ∧ n ≤ l[i].sym then 10 else if decide (l[i].ty = 0 ∨ l[i].ty = 8) = decide (l[i].sym = 0) then 0 else 11 := rfl
      generalize rlE n l[i] = E at *
      generalize (valR l[i].ty 0 0 0).1 = ve at *
      generalize (valR l[i].ty 0 0 0).2 = vx at *
      generalize addI l[i].add = x3 at *
      generalize l[i].off = x0 at *
      generalize l[i].ty = x1 at *
      generalize l[i].sym = x2 at *
      go_wp2_with fail
      have hkW : Keep No wz (wz.alloc (.cells #[.int .u64 (x0 : Int), .int .u32 (x1 : Int), .int .u32 (x2 : Int), .int .i64 x3] 115)) := (Keep.refl _ _).alloc _
      have hBW : Blk (wz.alloc (.cells #[.int .u64 (x0 : Int), .int .u32 (x1 : Int), .int .u32 (x2 : Int), .int .i64 x3] 115)) wz.heap.size #[.int .u64 (x0 : Int), .int .u32 (x1 : Int), .int .u32 (x2 : Int), .int .i64 x3] 115 := Blk.new _ _ _
      have hzW : (wz.alloc (.cells #[.int .u64 (x0 : Int), .int .u32 (x1 : Int), .int .u32 (x2 : Int), .int .i64 x3] 115)).heap.size = wz.heap.size + 1 := World.size_alloc _ _
      generalize wz.alloc (.cells #[.int .u64 (x0 : Int), .int .u32 (x1 : Int), .int .u32 (x2 : Int), .int .i64 x3] 115) = W at *
      refine (hval W).mono ?_
      rintro e W1 ⟨rfl, rfl⟩
      clear hval c0 c1 c2 c3
      have hkF := hk.trans' hkW
      cases hkn : knownB x1 with
      | false =>
        rw [hkn, if_pos rfl] at hve hE
        subst hve
        subst hE
        have HR := Lib.hid ((if_neg (by decide)).symm.trans hA)
        clear hA
        go_wp2_with fail
        go_ret
        rw [← HR.out]
        exact ⟨rfl, hkF⟩
      | true =>
        rw [hkn, if_neg (by decide)] at hve hE
        subst hve
        have d1 := hBW.cell 1
        have d2 := hBW.cell 2
        have HA := Lib.hid hA
        have HE := Lib.hid hE
        clear hA hE hBW
        have hx1 : (x1 = 0 ∨ x1 = 8) ∨ ¬ (x1 = 0 ∨ x1 = 8) := Decidable.em _
        rcases Nat.eq_zero_or_pos x2 with h20 | h20
        · have hE2 : E = if decide (x1 = 0 ∨ x1 = 8) = true then 0 else 11 := by
            rw [HE.out, if_neg (by omega), show decide (x2 = 0) = true from decide_eq_true h20]
          subst h20
          rcases hx1 with (h1 | h1) | h1
          · have HR : Hid (chkR n (l.drop (i + 1)) = chkR n l) := Lib.hid (by rw [← HA.out, show E = 0 by rw [hE2, if_pos (by simp [h1])]]; rfl)
            subst h1
            clear hE2 HA HE
            go_wp2_with fail
            go_roundw
            case rel => exact ⟨i + 1, rfl, hlt, HR.out, hkF⟩
            case measure => simp [intOf]; omega
          · have HR : Hid (chkR n (l.drop (i + 1)) = chkR n l) := Lib.hid (by rw [← HA.out, show E = 0 by rw [hE2, if_pos (by simp [h1])]]; rfl)
            subst h1
            clear hE2 HA HE
            go_wp2_with fail
            go_roundw
            case rel => exact ⟨i + 1, rfl, hlt, HR.out, hkF⟩
            case measure => simp [intOf]; omega
          · have HR : Hid (chkR n l = 11) := Lib.hid (by rw [← HA.out, show E = 11 by rw [hE2, if_neg (by simp; omega)]]; rfl)
            have b10 : ((x1 : Int) == 0) = false := by rw [beq_eq_false_iff_ne]; omega
            have b18 : ((x1 : Int) == 8) = false := by rw [beq_eq_false_iff_ne]; omega
            clear hE2 HA HE
            go_wp2_with fail
            go_ret
            rw [HR.out]
            exact ⟨rfl, hkF⟩
        · have h20i : (0 : Int) < (x2 : Int) := by omega
          have b20 : ((x2 : Int) == 0) = false := by rw [beq_eq_false_iff_ne]; omega
          by_cases hn2 : n ≤ x2
          · have HR : Hid (chkR n l = 10) := Lib.hid (by rw [← HA.out, show E = 10 by rw [HE.out, if_pos ⟨h20, hn2⟩]]; rfl)
            have hn2i : (n : Int) ≤ (x2 : Int) := by omega
            clear HA HE
            rcases hx1 with (h1 | h1) | h1
            · subst h1
              go_wp2_with fail
              go_ret
              rw [HR.out]
              exact ⟨rfl, hkF⟩
            · subst h1
              go_wp2_with fail
              go_ret
              rw [HR.out]
              exact ⟨rfl, hkF⟩
            · have b10 : ((x1 : Int) == 0) = false := by rw [beq_eq_false_iff_ne]; omega
              have b18 : ((x1 : Int) == 8) = false := by rw [beq_eq_false_iff_ne]; omega
              go_wp2_with fail
              go_ret
              rw [HR.out]
              exact ⟨rfl, hkF⟩
          · have hE2 : E = if decide (x1 = 0 ∨ x1 = 8) = false then 0 else 11 := by
              rw [HE.out, if_neg (by omega), show decide (x2 = 0) = false from decide_eq_false (by omega)]
            have hn2i : ¬ ((n : Int) ≤ (x2 : Int)) := by omega
            rcases hx1 with (h1 | h1) | h1
            · have HR : Hid (chkR n l = 11) := Lib.hid (by rw [← HA.out, show E = 11 by rw [hE2, if_neg (by simp [h1])]]; rfl)
              subst h1
              clear hE2 HA HE
              go_wp2_with fail
              go_ret
              rw [HR.out]
              exact ⟨rfl, hkF⟩
            · have HR : Hid (chkR n l = 11) := Lib.hid (by rw [← HA.out, show E = 11 by rw [hE2, if_neg (by simp [h1])]]; rfl)
              subst h1
              clear hE2 HA HE
              go_wp2_with fail
              go_ret
              rw [HR.out]
              exact ⟨rfl, hkF⟩
            · have HR : Hid (chkR n (l.drop (i + 1)) = chkR n l) := Lib.hid (by rw [← HA.out, show E = 0 by rw [hE2, if_pos (by simp; omega)]]; rfl)
              have b10 : ((x1 : Int) == 0) = false := by rw [beq_eq_false_iff_ne]; omega
              have b18 : ((x1 : Int) == 8) = false := by rw [beq_eq_false_iff_ne]; omega
              clear hE2 HA HE
              go_wp2_with fail
              go_roundw
              case rel => exact ⟨i + 1, rfl, hlt, HR.out, hkF⟩
              case measure => simp [intOf]; omega
    · obtain rfl : i = l.length := Nat.le_antisymm hi hge
      rw [List.drop_length] at hA
      have HR : Hid (chkR n l = 0) := Lib.hid hA.symm
      clear hA
      go_wp2_with fail
      go_ret
      rw [HR.out]
      exact ⟨rfl, hk⟩
end
end Go.Proofs.YtbnahidopemkiaaGreat
