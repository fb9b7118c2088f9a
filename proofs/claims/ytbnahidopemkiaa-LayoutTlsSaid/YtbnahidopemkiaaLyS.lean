/- Chapter 16: modules that are placed lie apart, and each address is in its own module. No condition. -/
import Derived.Test.YtbnahidopemkiaaLyR
set_option linter.unusedVariables false
set_option linter.unusedSimpArgs false
namespace Go.Proofs.Ytbnahidopemkiaa
open Go.RowKit Go.Dm Go.Dm.Oc Go.Dm.Ld
theorem u64_n2 {a : Int} (h : (Lit.int .u64 a).wf = true) : ∃ n : Nat, a = (n : Int) ∧ n < 18446744073709551616 := by
  simp [Lit.wf, IntKind.min, IntKind.max, IntKind.signed, IntKind.bits] at h
  exact ⟨a.toNat, by omega, by omega⟩
section
variable {A B : Nat → Prop} {w : World} {v : Value}
theorem u64_mask (y : Nat) (hy : y < 18446744073709551616) : ∃ r : Nat, r < 18446744073709551616 ∧ bits .and .u64 (y : Int) 16776960 = (r : Int) := by
  have h := u64_and_nat y 16776960 hy (by decide)
  rw [show ((16776960 : Nat) : Int) = 16776960 from rfl] at h
  exact ⟨y &&& 16776960, Nat.lt_of_le_of_lt Nat.and_le_left hy, h⟩
set_option maxRecDepth 100000 in
set_option maxHeartbeats 4000000 in
theorem layoutapart_any (a0 a1 a2 t0 t1 t2 x0 x1 x2 addr : Nat) (ha0 : a0 < 256) (ha1 : a1 < 256) (ha2 : a2 < 256) (ht0 : t0 < 256) (ht1 : t1 < 256) (ht2 : t2 < 256) (hx0 : x0 < 18446744073709551616) (hx1 : x1 < 18446744073709551616) (hx2 : x2 < 18446744073709551616) (had : addr < 18446744073709551616) :
    Calls Try.prog 5 #[.agg #[.int .u8 (a0 : Int), .int .u8 (a1 : Int), .int .u8 (a2 : Int)], .agg #[.int .u8 (t0 : Int), .int .u8 (t1 : Int), .int .u8 (t2 : Int)], .agg #[.int .u64 (x0 : Int), .int .u64 (x1 : Int), .int .u64 (x2 : Int)], .int .u64 (addr : Int)] w fun e w' => e = .returned (.bool true) ∧ Keep No w w' := by
  have s0 := span16 (kind := 2) (.inl rfl) ha0 ht0 need2
  have s1 := span16 (kind := 3) (.inr rfl) ha1 ht1 need0
  have s2 := span16 (kind := 3) (.inr rfl) ha2 ht2 need0
  obtain ⟨b1, b2, hbs, _, _, hpl⟩ := place3 (u0 := ([109], imS (sp16 2 [[120], [121]] a0 t0))) (u1 := ([120], imS (sp16 3 [] a1 t1))) (u2 := ([121], imS (sp16 3 [] a2 t2))) s0 s1 s2
  have hord := order16 ha0 ha1 ha2 ht0 ht1 ht2
  have hsp : ∀ u ∈ us16 a0 a1 a2 t0 t1 t2, (spanM u.2.segs).1 < (spanM u.2.segs).2 := fun u hu => by
    unfold us16 at hu
    simp only [List.mem_cons, List.not_mem_nil, or_false] at hu
    rcases hu with rfl | rfl | rfl
    · rw [s0.lo]; exact s0.ps
    · rw [s1.lo]; exact s1.ps
    · rw [s2.lo]; exact s2.ps
  have hT0 : (layL (us16 a0 a1 a2 t0 t1 t2) (basesM (us16 a0 a1 a2 t0 t1 t2))).1 = 0 := by
    unfold us16
    rw [hbs, hpl]
  have hfl := fs16_le a0 a1 a2 t0 t1 t2
  have hsg := orderM_segs [109] (fs16 a0 a1 a2 t0 t1 t2)
  rw [hord] at hsg
  have hfiles := fun W => files16_any (w := W) a0 a1 a2 t0 t1 t2 ha0 ha1 ha2 ht0 ht1 ht2
  have hul : (us16 a0 a1 a2 t0 t1 t2).length = 3 := rfl
  generalize fs16 a0 a1 a2 t0 t1 t2 = fs at *
  generalize us16 a0 a1 a2 t0 t1 t2 = us at *
  have HF := Lib.hid hfiles
  have HFL := Lib.hid hfl
  have HSG := Lib.hid hsg
  have HO := Lib.hid hord
  have HT0 := Lib.hid hT0
  have HSP := Lib.hid hsp
  have HUL := Lib.hid hul
  clear s0 s1 s2 hbs hpl hord hT0 hsp hfl hsg hfiles hul
  go_enter Try.func5, Try.ntmps5
  go_wp2_with fail
  have hkW1 : Keep No w (w.alloc (.cells #[.int .u8 (a0 : Int), .int .u8 (a1 : Int), .int .u8 (a2 : Int)] 52)) := (Keep.refl _ _).alloc _
  have hBW1 : Blk (w.alloc (.cells #[.int .u8 (a0 : Int), .int .u8 (a1 : Int), .int .u8 (a2 : Int)] 52)) w.heap.size #[.int .u8 (a0 : Int), .int .u8 (a1 : Int), .int .u8 (a2 : Int)] 52 := Blk.new _ _ _
  have hzW1 : (w.alloc (.cells #[.int .u8 (a0 : Int), .int .u8 (a1 : Int), .int .u8 (a2 : Int)] 52)).heap.size = w.heap.size + 1 := World.size_alloc _ _
  generalize w.alloc (.cells #[.int .u8 (a0 : Int), .int .u8 (a1 : Int), .int .u8 (a2 : Int)] 52) = W1 at *
  have hkW2 : Keep No W1 (W1.alloc (.cells #[.int .u8 (t0 : Int), .int .u8 (t1 : Int), .int .u8 (t2 : Int)] 52)) := (Keep.refl _ _).alloc _
  have hBW2 : Blk (W1.alloc (.cells #[.int .u8 (t0 : Int), .int .u8 (t1 : Int), .int .u8 (t2 : Int)] 52)) W1.heap.size #[.int .u8 (t0 : Int), .int .u8 (t1 : Int), .int .u8 (t2 : Int)] 52 := Blk.new _ _ _
  have hzW2 : (W1.alloc (.cells #[.int .u8 (t0 : Int), .int .u8 (t1 : Int), .int .u8 (t2 : Int)] 52)).heap.size = W1.heap.size + 1 := World.size_alloc _ _
  generalize W1.alloc (.cells #[.int .u8 (t0 : Int), .int .u8 (t1 : Int), .int .u8 (t2 : Int)] 52) = W2 at *
  have hkW3 : Keep No W2 (W2.alloc (.cells #[.int .u64 (x0 : Int), .int .u64 (x1 : Int), .int .u64 (x2 : Int)] 53)) := (Keep.refl _ _).alloc _
  have hBW3 : Blk (W2.alloc (.cells #[.int .u64 (x0 : Int), .int .u64 (x1 : Int), .int .u64 (x2 : Int)] 53)) W2.heap.size #[.int .u64 (x0 : Int), .int .u64 (x1 : Int), .int .u64 (x2 : Int)] 53 := Blk.new _ _ _
  have hzW3 : (W2.alloc (.cells #[.int .u64 (x0 : Int), .int .u64 (x1 : Int), .int .u64 (x2 : Int)] 53)).heap.size = W2.heap.size + 1 := World.size_alloc _ _
  generalize W2.alloc (.cells #[.int .u64 (x0 : Int), .int .u64 (x1 : Int), .int .u64 (x2 : Int)] 53) = W3 at *
  have hA := (hBW1.keep hkW2 fun h => h).keep hkW3 fun h => h
  have hT := hBW2.keep hkW3 fun h => h
  have hX := hBW3
  have hk := (hkW1.trans' hkW2).trans' hkW3
  rw [hzW1] at hT
  rw [hzW2, hzW1] at hX
  clear hBW1 hkW1 hzW1 hBW2 hkW2 hzW2 hBW3 hkW3 hzW3
  refine awake16_any.mono ?_
  rintro e w3 ⟨rfl, k3⟩
  replace hA := hA.keep k3 fun h => h
  replace hX := hX.keep k3 fun h => h
  replace hT := hT.keep k3 fun h => h
  replace hk := hk.trans' k3
  have c0 := hA.cell 0
  have c1 := hA.cell 1
  have c2 := hA.cell 2
  have c3 := hT.cell 0
  have c4 := hT.cell 1
  have c5 := hT.cell 2
  clear k3
  go_wp2_with fail
  refine (HF.out w3).mono ?_
  rintro e w4 ⟨v4, rfl, hf, k4⟩
  have hor := clorder_any (w := w4) [109] (by decide) hf HFL.out
  rw [HO.out] at hor
  obtain ⟨a4, n4, c4', rfl⟩ := fir_sh hf
  replace hX := hX.keep k4 fun h => h
  replace hk := hk.trans' k4
  clear hf k4 c0 c1 c2 c3 c4 c5 hA
  dsimp only at hor
  have hq4 := hX.lt
  go_wp2_with fail
  refine hor.mono ?_
  clear hor
  rintro e w5 ⟨vo, ps, rfl, hvo, hus, k5⟩
  replace hX := hX.keep k5 fun h => h
  replace hk := hk.trans' k5
  obtain ⟨ao, no, co, rfl⟩ : ∃ a n c, vo = .slice a n c := by
    obtain ⟨a, c, e, _⟩ := hvo.shape
    exact ⟨_, _, _, e⟩
  have hba := lbases_any (w := w5) hvo hus (fun u hu => (HSG.out u hu).span) (by rw [HUL.out]; decide)
  have hblt := basesM_lt us
  have HBL := Lib.hid hblt
  have HVO := Lib.hid hvo
  have HUS := Lib.hid hus
  clear k5 hvo hus hblt
  have hT0 := HT0.out
  have hap := layL_ap HSP.out hT0
  generalize basesM us = bs at *
  go_wp2_with fail
  refine hba.mono ?_
  clear hba
  rintro e w6 ⟨vb, rfl, hvb, k6⟩
  have hpl := lplace_any (w := w6) (HVO.out.no k6) (HUS.out.keep k6 fun _ _ _ h => h) HSG.out (by rw [HUL.out]; decide) hvb.fl HBL.out
  generalize layL us bs = lr at *
  obtain ⟨le, ml⟩ := lr
  dsimp only at hT0 hap hpl
  subst hT0
  have HAP := Lib.hid hap
  obtain ⟨ab, nb, cb, rfl⟩ := FlO.sh hvb
  replace hX := hX.keep k6 fun h => h
  replace hk := hk.trans' k6
  have HVO6 : Hid (Fl (fun k => k ≠ w.heap.size + 1 + 1) w6 12 encU (.slice ao no co) ps) := Lib.hid ((HVO.out.no k6).mono fun k _ h e => by have h : w4.heap.size ≤ k := h; omega)
  have HUS6 : Hid (UsOk (fun k => k ≠ w.heap.size + 1 + 1) w6 ps us) := Lib.hid ((HUS.out.keep k6 fun _ _ _ h => h).mono fun k _ h e => by have h : w4.heap.size ≤ k := h; omega)
  have hq6 := hX.lt
  clear hvb k6 hap HVO HUS HT0 hq4
  go_wp2_with fail
  refine hpl.mono ?_
  clear hpl
  rintro e w7 ⟨vm, rfl, hvm, hmd, k7⟩
  replace hX := hX.keep k7 fun h => h
  replace hk := hk.trans' k7
  have hml : ml.length = 3 := by rw [HAP.out.2, HUL.out]
  obtain ⟨am, nm, cm, rfl⟩ := FlO.sh hvm
  have hnm := fl_len hvm.fl
  rw [hml] at hnm
  subst hnm
  have HVM : Hid (Fl (fun k => k ≠ w.heap.size + 1 + 1) w7 7 encMd (.slice am 3 cm) ml) := Lib.hid (hvm.fl.mono fun k _ h e => by have h := h.1; omega)
  have HMD := Lib.hid hmd
  have HML := Lib.hid hml
  have HVO7 := Lib.hid (HVO6.out.no k7)
  have HUS7 := Lib.hid (HUS6.out.keep k7 fun _ _ _ h => h)
  have hqw : w.heap.size ≤ w.heap.size + 1 + 1 := by omega
  clear hvm hmd hml k7 HVO6 HUS6 hq6
  obtain ⟨qx, hqx⟩ : ∃ q, q = w.heap.size + 1 + 1 := ⟨_, rfl⟩
  rw [← hqx] at hX HVM HVO7 HUS7 hqw
  have HQX := Lib.hid hqx
  clear hqx
  go_upto_block 0 with fail
  go_cut [14] from 47 to 56 (fun _ wc => ∃ y0 y1 y2 : Nat, y0 < 18446744073709551616 ∧ y1 < 18446744073709551616 ∧ y2 < 18446744073709551616 ∧ Blk wc qx #[.int .u64 (y0 : Int), .int .u64 (y1 : Int), .int .u64 (y2 : Int)] 53 ∧ Keep (fun j => j = qx) w7 wc)
  case first =>
    go_wp2_with fail
    go_loopw [14] (fun iv wr => ∃ i y0 y1 y2 : Nat, iv = .int .i64 (i : Int) ∧ i ≤ 3 ∧ y0 < 18446744073709551616 ∧ y1 < 18446744073709551616 ∧ y2 < 18446744073709551616 ∧ Blk wr qx #[.int .u64 (y0 : Int), .int .u64 (y1 : Int), .int .u64 (y2 : Int)] 53 ∧ Keep (fun j => j = qx) w7 wr) (fun iv _ => 3 - (intOf iv).toNat)
    case atStart => exact ⟨0, x0, x1, x2, rfl, Nat.zero_le _, hx0, hx1, hx2, hX, Keep.refl _ _⟩
    case round =>
      obtain ⟨i, y0, y1, y2, rfl, hi, hy0, hy1, hy2, hX, hkx⟩ := hrel
      generalize wr = wz at *
      have hqp := HQX.out
      rcases (by omega : i = 0 ∨ i = 1 ∨ i = 2 ∨ i = 3) with rfl | rfl | rfl | rfl
      · obtain ⟨r, hr, he⟩ := u64_mask y0 hy0
        have c := hX.cell 0
        have f := hX.frozen 0
        rw [hqp] at c f
        clear hqp
        go_wp2_with fail
        go_roundw
        case rel =>
          have hB := hX.set (i := 0) (.int .u64 (r : Int))
          have hK := hkx.setCell (p := ⟨qx, 0, none⟩) (fun _ => rfl) (.int .u64 (r : Int))
          rw [HQX.out] at hB hK ⊢
          exact ⟨1, r, y1, y2, rfl, by decide, hr, hy1, hy2, hB, hK⟩
        case measure => simp [intOf]
      · obtain ⟨r, hr, he⟩ := u64_mask y1 hy1
        have c := hX.cell 1
        have f := hX.frozen 1
        rw [hqp] at c f
        clear hqp
        go_wp2_with fail
        go_roundw
        case rel =>
          have hB := hX.set (i := 1) (.int .u64 (r : Int))
          have hK := hkx.setCell (p := ⟨qx, 1, none⟩) (fun _ => rfl) (.int .u64 (r : Int))
          rw [HQX.out] at hB hK ⊢
          exact ⟨2, y0, r, y2, rfl, by decide, hy0, hr, hy2, hB, hK⟩
        case measure => simp [intOf]
      · obtain ⟨r, hr, he⟩ := u64_mask y2 hy2
        have c := hX.cell 2
        have f := hX.frozen 2
        rw [hqp] at c f
        clear hqp
        go_wp2_with fail
        go_roundw
        case rel =>
          have hB := hX.set (i := 2) (.int .u64 (r : Int))
          have hK := hkx.setCell (p := ⟨qx, 2, none⟩) (fun _ => rfl) (.int .u64 (r : Int))
          rw [HQX.out] at hB hK ⊢
          exact ⟨3, y0, y1, r, rfl, by decide, hy0, hy1, hr, hB, hK⟩
        case measure => simp [intOf]
      · clear hqp
        go_wp2_with fail
        go_meet
        exact ⟨y0, y1, y2, hy0, hy1, hy2, hX, hkx⟩
  case rest =>
    obtain ⟨y0, y1, y2, hy0, hy1, hy2, hX2, hkx⟩ := hcut
    clear hX
    have hne : ∀ j, j < w7.heap.size → j ≠ qx → ¬ j = qx := fun _ _ h => h
    have hbs : Fl (fun _ => True) wc 1 encN (.slice (some ⟨qx, 0, none⟩) 3 3) [y0, y1, y2] := (fl_blk (n := 3) hX2 rfl rfl (by unfold maxLen; omega)).mono fun _ _ _ => trivial
    have hp2 := lplace_any (w := wc) (HVO7.out.keep hkx hne) (HUS7.out.keep hkx hne) HSG.out (by rw [HUL.out]; decide) hbs (fun b hb => by
      simp only [List.mem_cons, List.not_mem_nil, or_false] at hb
      rcases hb with rfl | rfl | rfl
      · exact hy0
      · exact hy1
      · exact hy2)
    have hkc : Keep No w wc := hk.trans hkx fun j hj e => by have e2 : j = qx := e; omega
    have hvm := HVM.out.keep hkx hne
    have hap2 := fun h => layL_ap (us := us) (bs := [y0, y1, y2]) HSP.out h
    generalize layL us [y0, y1, y2] = lr at *
    obtain ⟨le, ml2⟩ := lr
    dsimp only at hp2 hap2
    have HAP2 := Lib.hid hap2
    have HVM2 := Lib.hid hvm
    rw [HQX.out] at hp2
    clear hbs hX2 hne hap2 hvm hk hkx HVO7 HUS7 hy0 hy1 hy2
    go_wp2_with fail
    refine hp2.mono ?_
    clear hp2
    rintro e w8 ⟨vm2, rfl, hvm2, hmd2, k8⟩
    obtain ⟨a8, n8, c8, rfl⟩ := FlO.sh hvm2
    have hkd := hkc.trans' k8
    have hvm1 := HVM2.out.no k8
    have hn8 := fl_len hvm2.fl
    have HV2 := Lib.hid (hvm2.fl.mono (B := fun _ => True) fun _ _ _ => trivial)
    have HV1 := Lib.hid (hvm1.mono (B := fun _ => True) fun _ _ _ => trivial)
    have HMD2 := Lib.hid hmd2
    have HN8 := Lib.hid hn8
    clear hvm2 hvm1 hmd2 hn8 hkc k8 HVM2 HVM
    go_upto_if 64 with fail
    go_cut [12] from 63 to 65 (fun s12 wd => ∃ (a : Option Addr) (c : Nat) (l : List Md), s12 = .slice a 3 c ∧ Hid (Fl (fun _ => True) wd 7 encMd s12 l) ∧ Hid (Ap l) ∧ Hid (l.length = 3) ∧ Hid (∀ m ∈ l, MdOk m) ∧ Keep No w wd)
    case first =>
      rcases Nat.eq_zero_or_pos le with h | h
      · have hz : ((le : Int) == 0) = true := by rw [beq_iff_eq]; omega
        have HA := Lib.hid (HAP2.out h)
        clear h
        go_wp2_with fail
        go_meet
        have h3 : ml2.length = 3 := by rw [HA.out.2, HUL.out]
        have hv2 := HV2.out
        have hn := HN8.out
        rw [h3] at hn
        subst hn
        exact ⟨_, _, ml2, rfl, Lib.hid hv2, Lib.hid HA.out.1, Lib.hid h3, HMD2, hkd⟩
      · have hz : ((le : Int) == 0) = false := by rw [beq_eq_false_iff_ne]; omega
        clear h
        go_wp2_with fail
        go_meet
        exact ⟨_, _, ml, rfl, HV1, Lib.hid HAP.out.1, HML, HMD, hkd⟩
    case rest =>
      obtain ⟨av, cv, l, rfl, HV, HA, HL3, HM, hkw⟩ := hcut
      clear hkd HV1 HV2 HMD2 HN8 HAP HAP2 HMD HML
      generalize wc = wd at *
      have hk0 : Keep No wd wd := Keep.refl _ _
      have hl3 : ∀ i, i < 3 → ∃ m, l[i]? = some m := fun i hi => ⟨l[i]'(by rw [HL3.out]; exact hi), List.getElem?_eq_getElem (by rw [HL3.out]; exact hi)⟩
      have HLI := Lib.hid hl3
      clear hl3
      obtain ⟨m0, hm0⟩ := HLI.out 0 (by decide)
      obtain ⟨g, off, c0, ev, hg, hc1, hc2, _⟩ := md_at HV.out hm0
      rw [HL3.out] at ev hc1
      injection ev with q1 q2 q3
      subst q1 q3
      have hc3 : cv ≤ 9223372036854775807 := by unfold maxLen at hc2; omega
      clear hm0 q2 hc2
      have hcell : ∀ i m, l[i]? = some m → wd.cell? ⟨g, off + i * 7 + 2, none⟩ = some (.int .u64 (m.low : Int)) ∧ wd.cell? ⟨g, off + i * 7 + 3, none⟩ = some (.int .u64 (m.high : Int)) ∧ m.low < m.high ∧ m.high ≤ 8589934592 := fun i m hi => by
        obtain ⟨g', off', c', ev, _, _, _, hc⟩ := md_at HV.out hi
        injection ev with q1 q2 q3
        injection q1 with q1
        injection q1 with q1 q4
        subst q1 q4
        exact ⟨hc 2 _ rfl, hc 3 _ rfl, HA.out.pos m (List.mem_of_getElem? hi), (HM.out m (List.mem_of_getElem? hi)).2.1⟩
      have HCE := Lib.hid hcell
      clear hcell
      go_wp2_with fail
      go_loopw [17, 18, 19] (fun iv _ _ wr => ∃ i : Nat, iv = .int .i64 (i : Int) ∧ i ≤ 3 ∧ Keep No wd wr) (fun iv _ _ _ => 3 - (intOf iv).toNat)
      case atStart => exact ⟨0, rfl, Nat.zero_le _, hk0⟩
      case round =>
        obtain ⟨i, rfl, hi, hkz⟩ := hrel
        clear hk0
        generalize wr = wz at *
        rcases Nat.lt_or_ge i 3 with hlt | hge
        · have hiz : (i : Int) < 3 := by omega
          obtain ⟨mi, hmi⟩ := HLI.out i hlt
          obtain ⟨ci2, ci3, hil, hih⟩ := HCE.out i mi hmi
          have HCI2 := Lib.hid ci2
          have HCI3 := Lib.hid ci3
          have HMI := Lib.hid hmi
          clear ci2 ci3 hmi
          obtain ⟨lo, hlo⟩ : ∃ x, x = mi.low := ⟨_, rfl⟩
          obtain ⟨hi2, hhi2⟩ : ∃ x, x = mi.high := ⟨_, rfl⟩
          rw [← hlo] at hil HCI2
          rw [← hhi2] at hil hih HCI3
          have HLO := Lib.hid hlo
          have HHI := Lib.hid hhi2
          clear hlo hhi2
          go_upto_block 4 with fail
          go_cut [18, 19] from 66 to 142 (fun _ _ wx => Keep No wd wx)
          case first =>
            go_wp2_with fail
            go_loopw [18, 19] (fun kv _ wr => ∃ k : Nat, kv = .int .i64 (k : Int) ∧ k ≤ i ∧ Keep No wd wr) (fun kv _ _ => i - (intOf kv).toNat)
            case atStart => exact ⟨0, rfl, Nat.zero_le _, hkz⟩
            case round =>
              obtain ⟨k, rfl, hk, hky⟩ := hrel
              clear hkz
              generalize wr = wy at *
              rcases Nat.lt_or_ge k i with hkl | hkg
              · have hkz1 : (k : Int) < (i : Int) := by omega
                have hkz3 : (k : Int) < 3 := by omega
                obtain ⟨mk, hmk⟩ := HLI.out k (by omega)
                obtain ⟨ck2, ck3, hkl2, hkh⟩ := HCE.out k mk hmk
                have hme : meetM lo (hi2 - lo) mk.low (mk.high - mk.low) = false := by
                  rw [meet_comm, HLO.out, HHI.out]
                  exact HA.out.ap i k mi mk hkl HMI.out hmk
                have di2 := (hky.cell (p := ⟨g, off + i * 7 + 2, none⟩) hg fun h => h).trans HCI2.out
                have di3 := (hky.cell (p := ⟨g, off + i * 7 + 3, none⟩) hg fun h => h).trans HCI3.out
                have dk2 := (hky.cell (p := ⟨g, off + k * 7 + 2, none⟩) hg fun h => h).trans ck2
                have dk3 := (hky.cell (p := ⟨g, off + k * 7 + 3, none⟩) hg fun h => h).trans ck3
                clear hmk ck2 ck3
                generalize mk.low = lk at *
                generalize mk.high = hk2 at *
                have hct := fun W => r01meet_any (w := W) lo (hi2 - lo) lk (hk2 - lk) (by omega) (by omega) (by omega) (by omega)
                rw [hme] at hct
                have e1 : IntKind.u64.wrap ((hi2 : Int) - (lo : Int)) = ((hi2 - lo : Nat) : Int) := by rw [IntKind.wrap_u64]; omega
                have e2 : IntKind.u64.wrap ((hk2 : Int) - (lk : Int)) = ((hk2 - lk : Nat) : Int) := by rw [IntKind.wrap_u64]; omega
                have e3 : (hi2 : Int) - (lo : Int) = ((hi2 - lo : Nat) : Int) := by omega
                have e4 : (hk2 : Int) - (lk : Int) = ((hk2 - lk : Nat) : Int) := by omega
                generalize hi2 - lo = d1 at *
                generalize hk2 - lk = d2 at *
                have hd1 : d1 ≤ 8589934592 := by omega
                have hd2 : d2 ≤ 8589934592 := by omega
                have e5 : IntKind.u64.wrap (d1 : Int) = (d1 : Int) := by rw [IntKind.wrap_u64]; omega
                have e6 : IntKind.u64.wrap (d2 : Int) = (d2 : Int) := by rw [IntKind.wrap_u64]; omega
                clear hme
                go_upto_region 23 with fail
                have hS : wy.drew.cell? ⟨g, off + i * 7 + 2, none⟩ = some (.int .u64 (lo : Int)) ∧ wy.drew.cell? ⟨g, off + i * 7 + 3, none⟩ = some (.int .u64 (hi2 : Int)) ∧ wy.drew.cell? ⟨g, off + k * 7 + 2, none⟩ = some (.int .u64 (lk : Int)) ∧ wy.drew.cell? ⟨g, off + k * 7 + 3, none⟩ = some (.int .u64 (hk2 : Int)) := ⟨di2, di3, dk2, dk3⟩
                refine wp_region_sig (fun w' => w'.cell? ⟨g, off + i * 7 + 2, none⟩ = some (.int .u64 (lo : Int)) ∧ w'.cell? ⟨g, off + i * 7 + 3, none⟩ = some (.int .u64 (hi2 : Int)) ∧ w'.cell? ⟨g, off + k * 7 + 2, none⟩ = some (.int .u64 (lk : Int)) ∧ w'.cell? ⟨g, off + k * 7 + 3, none⟩ = some (.int .u64 (hk2 : Int))) (fun j => decide (j ≤ 33)) [(0, true), (1, true), (2, true), (3, true), (4, true), (5, true), (6, true), (7, true), (8, true), (9, true), (10, true), (11, true), (12, true), (13, true), (14, true), (15, true), (16, true), (17, true), (18, true), (19, true), (20, true), (21, true), (22, true), (23, true), (24, true), (25, true), (26, true), (27, true), (28, true), (29, true), (30, true), (31, true), (32, false), (33, false)] (by kernel_rfl) (by kernel_rfl) (by intro c a d v w h; cases d <;> exact h) ⟨di2, di3, dk2, dk3⟩ ?_
                apply sig_still (o := ⟨some 75, _, _, _, _, _⟩) rfl rfl
                · intro w' hS
                  obtain ⟨q1, q2, q3, q4⟩ := hS
                  first | (go_simp; done) | (go_simp; rfl) | rfl
                go_frame
                apply sig_still (o := ⟨some 76, _, _, _, _, _⟩) rfl rfl
                · intro w' hS
                  obtain ⟨q1, q2, q3, q4⟩ := hS
                  first | (go_simp; done) | (go_simp; rfl) | rfl
                go_frame
                apply sig_still (o := ⟨some 77, _, _, _, _, _⟩) rfl rfl
                · intro w' hS
                  obtain ⟨q1, q2, q3, q4⟩ := hS
                  first | (go_simp; done) | (go_simp; rfl) | rfl
                go_frame
                apply sig_still (o := ⟨some 78, _, _, _, _, _⟩) rfl rfl
                · intro w' hS
                  obtain ⟨q1, q2, q3, q4⟩ := hS
                  first | (go_simp; done) | (go_simp; rfl) | rfl
                go_frame
                apply sig_still (o := ⟨some 79, _, _, _, _, _⟩) rfl rfl
                · intro w' hS
                  obtain ⟨q1, q2, q3, q4⟩ := hS
                  first | (go_simp; done) | (go_simp; rfl) | rfl
                go_frame
                apply sig_still (o := ⟨some 80, _, _, _, _, _⟩) rfl rfl
                · intro w' hS
                  obtain ⟨q1, q2, q3, q4⟩ := hS
                  first | (go_simp; done) | (go_simp; rfl) | rfl
                go_frame
                apply sig_still (o := ⟨some 81, _, _, _, _, _⟩) rfl rfl
                · intro w' hS
                  obtain ⟨q1, q2, q3, q4⟩ := hS
                  first | (go_simp; done) | (go_simp; rfl) | rfl
                go_frame
                apply sig_still (o := ⟨some 82, _, _, _, _, _⟩) rfl rfl
                · intro w' hS
                  obtain ⟨q1, q2, q3, q4⟩ := hS
                  first | (go_simp; done) | (go_simp; rfl) | rfl
                go_frame
                apply sig_still (o := ⟨some 83, _, _, _, _, _⟩) rfl rfl
                · intro w' hS
                  obtain ⟨q1, q2, q3, q4⟩ := hS
                  first | (go_simp; done) | (go_simp; rfl) | rfl
                go_frame
                apply sig_still (o := ⟨some 84, _, _, _, _, _⟩) rfl rfl
                · intro w' hS
                  obtain ⟨q1, q2, q3, q4⟩ := hS
                  first | (go_simp; done) | (go_simp; rfl) | rfl
                go_frame
                apply sig_still (o := ⟨some 85, _, _, _, _, _⟩) rfl rfl
                · intro w' hS
                  obtain ⟨q1, q2, q3, q4⟩ := hS
                  first | (go_simp; done) | (go_simp; rfl) | rfl
                go_frame
                apply sig_still (o := ⟨some 86, _, _, _, _, _⟩) rfl rfl
                · intro w' hS
                  obtain ⟨q1, q2, q3, q4⟩ := hS
                  first | (go_simp; done) | (go_simp; rfl) | rfl
                go_frame
                apply sig_still (o := ⟨some 87, _, _, _, _, _⟩) rfl rfl
                · intro w' hS
                  obtain ⟨q1, q2, q3, q4⟩ := hS
                  first | (go_simp; done) | (go_simp; rfl) | rfl
                go_frame
                apply sig_still (o := ⟨some 88, _, _, _, _, _⟩) rfl rfl
                · intro w' hS
                  obtain ⟨q1, q2, q3, q4⟩ := hS
                  first | (go_simp; done) | (go_simp; rfl) | rfl
                go_frame
                apply sig_still (o := ⟨some 89, _, _, _, _, _⟩) rfl rfl
                · intro w' hS
                  obtain ⟨q1, q2, q3, q4⟩ := hS
                  first | (go_simp; done) | (go_simp; rfl) | rfl
                go_frame
                apply sig_still (o := ⟨some 90, _, _, _, _, _⟩) rfl rfl
                · intro w' hS
                  obtain ⟨q1, q2, q3, q4⟩ := hS
                  first | (go_simp; done) | (go_simp; rfl) | rfl
                go_frame
                apply sig_still (o := ⟨some 91, _, _, _, _, _⟩) rfl rfl
                · intro w' hS
                  obtain ⟨q1, q2, q3, q4⟩ := hS
                  first | (go_simp; done) | (go_simp; rfl) | rfl
                go_frame
                apply sig_still (o := ⟨some 92, _, _, _, _, _⟩) rfl rfl
                · intro w' hS
                  obtain ⟨q1, q2, q3, q4⟩ := hS
                  first | (go_simp; done) | (go_simp; rfl) | rfl
                go_frame
                apply sig_still (o := ⟨some 93, _, _, _, _, _⟩) rfl rfl
                · intro w' hS
                  obtain ⟨q1, q2, q3, q4⟩ := hS
                  first | (go_simp; done) | (go_simp; rfl) | rfl
                go_frame
                apply sig_still (o := ⟨some 94, _, _, _, _, _⟩) rfl rfl
                · intro w' hS
                  obtain ⟨q1, q2, q3, q4⟩ := hS
                  first | (go_simp; done) | (go_simp; rfl) | rfl
                go_frame
                apply sig_still (o := ⟨some 95, _, _, _, _, _⟩) rfl rfl
                · intro w' hS
                  obtain ⟨q1, q2, q3, q4⟩ := hS
                  first | (go_simp; done) | (go_simp; rfl) | rfl
                go_frame
                apply sig_still (o := ⟨some 96, _, _, _, _, _⟩) rfl rfl
                · intro w' hS
                  obtain ⟨q1, q2, q3, q4⟩ := hS
                  first | (go_simp; done) | (go_simp; rfl) | rfl
                go_frame
                apply sig_still (o := ⟨some 97, _, _, _, _, _⟩) rfl rfl
                · intro w' hS
                  obtain ⟨q1, q2, q3, q4⟩ := hS
                  first | (go_simp; done) | (go_simp; rfl) | rfl
                go_frame
                apply sig_still (o := ⟨some 98, _, _, _, _, _⟩) rfl rfl
                · intro w' hS
                  obtain ⟨q1, q2, q3, q4⟩ := hS
                  first | (go_simp; done) | (go_simp; rfl) | rfl
                go_frame
                apply sig_still (o := ⟨some 99, _, _, _, _, _⟩) rfl rfl
                · intro w' hS
                  obtain ⟨q1, q2, q3, q4⟩ := hS
                  first | (go_simp; done) | (go_simp; rfl) | rfl
                go_frame
                apply sig_still (o := ⟨some 100, _, _, _, _, _⟩) rfl rfl
                · intro w' hS
                  obtain ⟨q1, q2, q3, q4⟩ := hS
                  first | (go_simp; done) | (go_simp; rfl) | rfl
                go_frame
                apply sig_still (o := ⟨some 101, _, _, _, _, _⟩) rfl rfl
                · intro w' hS
                  obtain ⟨q1, q2, q3, q4⟩ := hS
                  first | (go_simp; done) | (go_simp; rfl) | rfl
                go_frame
                apply sig_still (o := ⟨some 102, _, _, _, _, _⟩) rfl rfl
                · intro w' hS
                  obtain ⟨q1, q2, q3, q4⟩ := hS
                  first | (go_simp; done) | (go_simp; rfl) | rfl
                go_frame
                apply sig_still (o := ⟨some 103, _, _, _, _, _⟩) rfl rfl
                · intro w' hS
                  obtain ⟨q1, q2, q3, q4⟩ := hS
                  first | (go_simp; done) | (go_simp; rfl) | rfl
                go_frame
                apply sig_still (o := ⟨some 104, _, _, _, _, _⟩) rfl rfl
                · intro w' hS
                  obtain ⟨q1, q2, q3, q4⟩ := hS
                  first | (go_simp; done) | (go_simp; rfl) | rfl
                go_frame
                apply sig_still (o := ⟨some 105, _, _, _, _, _⟩) rfl rfl
                · intro w' hS
                  obtain ⟨q1, q2, q3, q4⟩ := hS
                  first | (go_simp; done) | (go_simp; rfl) | rfl
                go_frame
                apply sig_still (o := ⟨some 106, _, _, _, _, _⟩) rfl rfl
                · intro w' hS
                  obtain ⟨q1, q2, q3, q4⟩ := hS
                  first | (go_simp; done) | (go_simp; rfl) | rfl
                go_frame
                refine sig_eff (o := ⟨some 107, _, _, _, _, _⟩) rfl rfl (fun K hKe => ?_)
                go_wp2_with fail
                refine (hct _).mono ?_
                rintro e wq ⟨rfl, rfl⟩
                refine hKe _ _ ⟨fun _ => hS, ?_⟩
                refine sig_eff (o := ⟨some 19, _, _, _, _, _⟩) rfl rfl (fun K hKe => ?_)
                go_wp2_with fail
                refine ⟨fun _ => hS, ?_⟩
                refine sig_nil ?_
                have hkq := hky.drew
                go_wp2_with fail
                go_roundw
                case rel => exact ⟨k + 1, by go_num, hkl, hkq⟩
                case measure => simp [intOf]; omega
              · obtain rfl : k = i := Nat.le_antisymm hk hkg
                go_wp2_with fail
                go_meet
                exact hky
          case rest =>
            have hky := hcut
            clear hkz
            generalize wc = wy at *
            have di2 := (hky.cell (p := ⟨g, off + i * 7 + 2, none⟩) hg fun h => h).trans HCI2.out
            have di3 := (hky.cell (p := ⟨g, off + i * 7 + 3, none⟩) hg fun h => h).trans HCI3.out
            have hgy := Nat.lt_of_lt_of_le hg hky.size
            have hHV := HV.out
            have hof1 := fun W (hk : Keep No wy W) => lof_any (w := W) l lo ((hHV.no hky).no hk)
            have hof2 := fun W (hk : Keep No wy W) => lof_any (w := W) l (hi2 - 1) ((hHV.no hky).no hk)
            rw [HA.out.of HMI.out (by rw [HLO.out]; exact Nat.le_refl _) (by rw [← HHI.out]; exact hil)] at hof1
            rw [HA.out.of HMI.out (by rw [← HLO.out]; omega) (by rw [← HHI.out]; omega)] at hof2
            have HOF1 := Lib.hid hof1
            have HOF2 := Lib.hid hof2
            have e1 : IntKind.u64.wrap ((hi2 : Int) - 1) = ((hi2 - 1 : Nat) : Int) := by rw [IntKind.wrap_u64]; omega
            have hle : decide ((hi2 : Int) ≤ (lo : Int)) = false := decide_eq_false (by omega)
            have hle2 : decide (hi2 ≤ lo) = false := decide_eq_false (by omega)
            have hne0 : ((i : Int) != (i : Int)) = false := by simp
            clear hof1 hof2 hHV
            go_upto_region 26 with fail
            refine wp_region_sig (fun w' => w'.cell? ⟨g, off + i * 7 + 2, none⟩ = some (.int .u64 (lo : Int)) ∧ w'.cell? ⟨g, off + i * 7 + 3, none⟩ = some (.int .u64 (hi2 : Int))) (fun j => decide (j ≤ 33)) [(0, true), (1, true), (2, true), (3, true), (4, true), (5, true), (7, true), (6, false), (8, true), (9, true), (10, true), (11, true), (12, true), (13, true), (14, true), (15, true), (16, true), (18, true), (17, false), (19, true), (20, true), (21, true), (22, true), (23, true), (24, true), (25, true), (26, true), (27, true), (28, true), (29, true), (30, true), (31, true), (32, true), (33, true)] (by kernel_rfl) (by kernel_rfl) (by intro c a d v w h; cases d <;> exact h) ⟨di2, di3⟩ ?_
            apply sig_still (o := ⟨some 109, _, _, _, _, _⟩) rfl rfl
            · intro w' hS
              obtain ⟨q1, q2⟩ := hS
              first | (go_simp; done) | (go_simp; rfl) | rfl
            go_frame
            apply sig_still (o := ⟨some 110, _, _, _, _, _⟩) rfl rfl
            · intro w' hS
              obtain ⟨q1, q2⟩ := hS
              first | (go_simp; done) | (go_simp; rfl) | rfl
            go_frame
            apply sig_still (o := ⟨some 111, _, _, _, _, _⟩) rfl rfl
            · intro w' hS
              obtain ⟨q1, q2⟩ := hS
              first | (go_simp; done) | (go_simp; rfl) | rfl
            go_frame
            apply sig_still (o := ⟨some 112, _, _, _, _, _⟩) rfl rfl
            · intro w' hS
              obtain ⟨q1, q2⟩ := hS
              first | (go_simp; done) | (go_simp; rfl) | rfl
            go_frame
            apply sig_still (o := ⟨some 113, _, _, _, _, _⟩) rfl rfl
            · intro w' hS
              obtain ⟨q1, q2⟩ := hS
              first | (go_simp; done) | (go_simp; rfl) | rfl
            go_frame
            apply sig_still (o := ⟨some 114, _, _, _, _, _⟩) rfl rfl
            · intro w' hS
              obtain ⟨q1, q2⟩ := hS
              first | (go_simp; done) | (go_simp; rfl) | rfl
            go_frame
            apply sig_still (o := ⟨some 116, _, _, _, _, _⟩) rfl rfl
            · intro w' hS
              obtain ⟨q1, q2⟩ := hS
              first | (go_simp; done) | (go_simp; rfl) | rfl
            go_frame
            refine sig_eff (o := ⟨some 115, _, _, _, _, _⟩) rfl rfl (fun K hKe => ?_)
            go_wp2_with fail
            have k0 : Keep No wy wy.drew := (Keep.refl _ _).drew
            refine (HOF1.out wy.drew k0).mono ?_
            rintro e wq ⟨rfl, k1⟩
            have k1' := k0.trans' k1
            have di2q := (k1'.cell (p := ⟨g, off + i * 7 + 2, none⟩) hgy fun h => h).trans di2
            have di3q := (k1'.cell (p := ⟨g, off + i * 7 + 3, none⟩) hgy fun h => h).trans di3
            refine hKe _ _ ⟨fun _ => ⟨di2q, di3q⟩, ?_⟩
            apply sig_still (o := ⟨some 117, _, _, _, _, _⟩) rfl rfl
            · intro w' hS
              obtain ⟨q1, q2⟩ := hS
              first | (go_simp; done) | (go_simp; rfl) | rfl
            go_frame
            apply sig_still (o := ⟨some 118, _, _, _, _, _⟩) rfl rfl
            · intro w' hS
              obtain ⟨q1, q2⟩ := hS
              first | (go_simp; done) | (go_simp; rfl) | rfl
            go_frame
            apply sig_guard (o := ⟨some 119, _, _, _, _, _⟩) rfl (by rfl)
            · intro w' hS
              obtain ⟨q1, q2⟩ := hS
              first | (go_simp; done) | (go_simp; rfl) | rfl
            go_frame
            apply sig_guard (o := ⟨some 120, _, _, _, _, _⟩) rfl (by rfl)
            · intro w' hS
              obtain ⟨q1, q2⟩ := hS
              first | (go_simp; done) | (go_simp; rfl) | rfl
            go_frame
            apply sig_guard (o := ⟨some 121, _, _, _, _, _⟩) rfl (by rfl)
            · intro w' hS
              obtain ⟨q1, q2⟩ := hS
              first | (go_simp; done) | (go_simp; rfl) | rfl
            go_frame
            apply sig_guard (o := ⟨some 122, _, _, _, _, _⟩) rfl (by rfl)
            · intro w' hS
              obtain ⟨q1, q2⟩ := hS
              first | (go_simp; done) | (go_simp; rfl) | rfl
            go_frame
            apply sig_guard (o := ⟨some 123, _, _, _, _, _⟩) rfl (by rfl)
            · intro w' hS
              obtain ⟨q1, q2⟩ := hS
              first | (go_simp; done) | (go_simp; rfl) | rfl
            go_frame
            apply sig_guard (o := ⟨some 124, _, _, _, _, _⟩) rfl (by rfl)
            · intro w' hS
              obtain ⟨q1, q2⟩ := hS
              first | (go_simp; done) | (go_simp; rfl) | rfl
            go_frame
            apply sig_guard (o := ⟨some 125, _, _, _, _, _⟩) rfl (by rfl)
            · intro w' hS
              obtain ⟨q1, q2⟩ := hS
              first | (go_simp; done) | (go_simp; rfl) | rfl
            go_frame
            apply sig_guard (o := ⟨some 127, _, _, _, _, _⟩) rfl (by rfl)
            · intro w' hS
              obtain ⟨q1, q2⟩ := hS
              first | (go_simp; done) | (go_simp; rfl) | rfl
            go_frame
            refine sig_effg (o := ⟨some 126, _, _, _, _, _⟩) rfl (by rfl) (fun K hKe => ?_)
            go_wp2_with fail
            refine (HOF2.out wq k1').mono ?_
            rintro e wp ⟨rfl, k2⟩
            have di2p := (k2.cell (p := ⟨g, off + i * 7 + 2, none⟩) (Nat.lt_of_lt_of_le hgy k1'.size) fun h => h).trans di2q
            have di3p := (k2.cell (p := ⟨g, off + i * 7 + 3, none⟩) (Nat.lt_of_lt_of_le hgy k1'.size) fun h => h).trans di3q
            refine hKe _ _ ⟨fun _ => ⟨di2p, di3p⟩, ?_⟩
            apply sig_guard (o := ⟨some 128, _, _, _, _, _⟩) rfl (by rfl)
            · intro w' hS
              obtain ⟨q1, q2⟩ := hS
              first | (go_simp; done) | (go_simp; rfl) | rfl
            go_frame
            apply sig_still (o := ⟨some 129, _, _, _, _, _⟩) rfl rfl
            · intro w' hS
              obtain ⟨q1, q2⟩ := hS
              first | (go_simp; done) | (go_simp; rfl) | rfl
            go_frame
            apply sig_still (o := ⟨some 130, _, _, _, _, _⟩) rfl rfl
            · intro w' hS
              obtain ⟨q1, q2⟩ := hS
              first | (go_simp; done) | (go_simp; rfl) | rfl
            go_frame
            apply sig_guard (o := ⟨some 131, _, _, _, _, _⟩) rfl (by rfl)
            · intro w' hS
              obtain ⟨q1, q2⟩ := hS
              first | (go_simp; done) | (go_simp; rfl) | rfl
            go_frame
            apply sig_guard (o := ⟨some 132, _, _, _, _, _⟩) rfl (by rfl)
            · intro w' hS
              obtain ⟨q1, q2⟩ := hS
              first | (go_simp; done) | (go_simp; rfl) | rfl
            go_frame
            apply sig_guard (o := ⟨some 133, _, _, _, _, _⟩) rfl (by rfl)
            · intro w' hS
              obtain ⟨q1, q2⟩ := hS
              first | (go_simp; done) | (go_simp; rfl) | rfl
            go_frame
            apply sig_guard (o := ⟨some 134, _, _, _, _, _⟩) rfl (by rfl)
            · intro w' hS
              obtain ⟨q1, q2⟩ := hS
              first | (go_simp; done) | (go_simp; rfl) | rfl
            go_frame
            apply sig_guard (o := ⟨some 135, _, _, _, _, _⟩) rfl (by rfl)
            · intro w' hS
              obtain ⟨q1, q2⟩ := hS
              first | (go_simp; done) | (go_simp; rfl) | rfl
            go_frame
            apply sig_guard (o := ⟨some 136, _, _, _, _, _⟩) rfl (by rfl)
            · intro w' hS
              obtain ⟨q1, q2⟩ := hS
              first | (go_simp; done) | (go_simp; rfl) | rfl
            go_frame
            apply sig_guard (o := ⟨some 137, _, _, _, _, _⟩) rfl (by rfl)
            · intro w' hS
              obtain ⟨q1, q2⟩ := hS
              first | (go_simp; done) | (go_simp; rfl) | rfl
            go_frame
            apply sig_guard (o := ⟨some 138, _, _, _, _, _⟩) rfl (by rfl)
            · intro w' hS
              obtain ⟨q1, q2⟩ := hS
              first | (go_simp; done) | (go_simp; rfl) | rfl
            go_frame
            apply sig_guard (o := ⟨some 139, _, _, _, _, _⟩) rfl (by rfl)
            · intro w' hS
              obtain ⟨q1, q2⟩ := hS
              first | (go_simp; done) | (go_simp; rfl) | rfl
            go_frame
            apply sig_guard (o := ⟨some 140, _, _, _, _, _⟩) rfl (by rfl)
            · intro w' hS
              obtain ⟨q1, q2⟩ := hS
              first | (go_simp; done) | (go_simp; rfl) | rfl
            go_frame
            apply sig_guard (o := ⟨some 141, _, _, _, _, _⟩) rfl (by rfl)
            · intro w' hS
              obtain ⟨q1, q2⟩ := hS
              first | (go_simp; done) | (go_simp; rfl) | rfl
            go_frame
            apply sig_still (o := ⟨some 142, _, _, _, _, _⟩) rfl rfl
            · intro w' hS
              obtain ⟨q1, q2⟩ := hS
              first | (go_simp; done) | (go_simp; rfl) | rfl
            go_frame
            refine sig_nil ?_
            have hkF := (hky.trans' k1').trans' k2
            clear di2 di3 di2q di3q di2p di3p k0 k1 k1' k2 hky
            go_wp2_with fail
            go_roundw
            case rel => exact ⟨i + 1, by go_num, hlt, hkF⟩
            case measure => simp [intOf]; omega
        · obtain rfl : i = 3 := Nat.le_antisymm hi hge
          have hof := lof_any (w := wz) l addr (HV.out.no hkz)
          have hkF := hkw.trans' hkz
          rcases ofM_in l addr with he | ⟨j, m, he, hj, hj1, hj2⟩
          · rw [he] at hof
            clear he
            go_wp2_with fail
            refine hof.mono ?_
            clear hof
            rintro e w9 ⟨rfl, k9⟩
            have hkG := hkF.trans' k9
            go_wp2_with fail
            go_ret
            exact ⟨rfl, hkG⟩
          · obtain ⟨cj2, cj3, _, _⟩ := HCE.out j m hj
            have hjl : j < 3 := by rw [← HL3.out]; exact (List.getElem?_eq_some_iff.1 hj).1
            rw [he] at hof
            clear he hj
            generalize m.low = lo at *
            generalize m.high = hi2 at *
            have dj2 := (hkz.cell (p := ⟨g, off + j * 7 + 2, none⟩) hg fun h => h).trans cj2
            have dj3 := (hkz.cell (p := ⟨g, off + j * 7 + 3, none⟩) hg fun h => h).trans cj3
            have hgz := Nat.lt_of_lt_of_le hg hkz.size
            have hj0 : (0 : Int) ≤ (j : Int) := by omega
            have hj3 : (j : Int) < 3 := by omega
            have hj1i : (lo : Int) ≤ (addr : Int) := by omega
            have hj2i : (addr : Int) < (hi2 : Int) := by omega
            clear cj2 cj3
            go_wp2_with fail
            refine hof.mono ?_
            clear hof
            rintro e w9 ⟨rfl, k9⟩
            have hkG := hkF.trans' k9
            replace dj2 := (k9.cell (p := ⟨g, off + j * 7 + 2, none⟩) hgz fun h => h).trans dj2
            replace dj3 := (k9.cell (p := ⟨g, off + j * 7 + 3, none⟩) hgz fun h => h).trans dj3
            go_wp2_with fail
            go_ret
            exact ⟨rfl, hkG⟩
theorem rd3u {cs : Array Value} {y : List Int} (h : Rd A w (.arr 3 (.int .u64)) cs.toList y) : ∃ x0 x1 x2 : Nat, x0 < 18446744073709551616 ∧ x1 < 18446744073709551616 ∧ x2 < 18446744073709551616 ∧ cs = #[.int .u64 (x0 : Int), .int .u64 (x1 : Int), .int .u64 (x2 : Int)] := by
  obtain ⟨css, hc, h1, h2, h3⟩ := h
  match css, h1, y, h2, h3 with
  | [c0, c1, c2], _, [x0, x1, x2], _, h3 =>
    obtain ⟨e0, w0⟩ : c0 = [.int .u64 x0] ∧ (Lit.int .u64 x0).wf = true := h3 0 c0 x0 rfl rfl
    obtain ⟨e1, w1⟩ : c1 = [.int .u64 x1] ∧ (Lit.int .u64 x1).wf = true := h3 1 c1 x1 rfl rfl
    obtain ⟨e2, w2⟩ : c2 = [.int .u64 x2] ∧ (Lit.int .u64 x2).wf = true := h3 2 c2 x2 rfl rfl
    obtain ⟨n0, rfl, b0⟩ := u64_n2 w0
    obtain ⟨n1, rfl, b1⟩ := u64_n2 w1
    obtain ⟨n2, rfl, b2⟩ := u64_n2 w2
    subst e0 e1 e2
    refine ⟨n0, n1, n2, b0, b1, b2, ?_⟩
    apply Array.toList_inj.1
    rw [hc]
    rfl
theorem layoutapart_rd {c0 c1 c2 : Array Value} {y0 y1 : List UInt8} {y2 : List Int} {a : Int} (h0 : Rd A w (.arr 3 .u8) c0.toList y0) (h1 : Rd A w (.arr 3 .u8) c1.toList y1) (h2 : Rd A w (.arr 3 (.int .u64)) c2.toList y2) (ha : (Lit.int .u64 a).wf = true) :
    Calls Try.prog 5 #[.agg c0, .agg c1, .agg c2, .int .u64 a] w fun e w' => e = .returned (.bool true) ∧ Keep No w w' := by
  obtain ⟨a0, a1, a2, g0, g1, g2, rfl⟩ := rd3a h0
  obtain ⟨t0, t1, t2, k0, k1, k2, rfl⟩ := rd3a h1
  obtain ⟨x0, x1, x2, j0, j1, j2, rfl⟩ := rd3u h2
  obtain ⟨n, rfl, hn⟩ := u64_n2 ha
  exact layoutapart_any a0 a1 a2 t0 t1 t2 x0 x1 x2 n g0 g1 g2 k0 k1 k2 j0 j1 j2 hn
end
end Go.Proofs.Ytbnahidopemkiaa
