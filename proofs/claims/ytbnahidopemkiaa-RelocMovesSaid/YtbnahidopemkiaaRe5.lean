/- reloc.target. reloc.word. No condition. -/
import Derived.Test.YtbnahidopemkiaaRe3
import Derived.Test.YtbnahidopemkiaaSg5
import Derived.Test.YtbnahidopemkiaaRe1
import Derived.BigQuiet
set_option linter.unusedVariables false
set_option linter.unusedSimpArgs false
namespace Go.Dm.Ld
open Go
def rT (r : Option Tg) : Tg := r.getD tg0
end Go.Dm.Ld
namespace Go.Proofs.Ytbnahidopemkiaa
open Go.RowKit Go.Dm Go.Dm.Oc Go.Dm.Ld
theorem encRs_eq (r : Option Tg) : encRs r = .tuple #[.agg (encTg (rT r)).toArray, .bool r.isSome] := by cases r <;> rfl
section
variable {A : Nat → Prop} {w : World} {v : Value} {ps : List UC} {us : List (BS × Im)}
set_option maxRecDepth 100000 in
set_option maxHeartbeats 4000000 in
theorem retarget_any (i : Nat) (x : Rl) (hx : RlOk x) (hi : i < us.length) (hsym : x.ty ≠ 8 → x.sym < us[i].2.syms.length) (hl : Fl A w 12 encU v ps) (hu : UsOk A w ps us) (hok : ∀ u ∈ us, u.2.names.length = u.2.syms.length ∧ ∀ s ∈ u.2.syms, SyOk s) :
    Calls Try.prog 63 #[v, .int .i64 (i : Int), .agg (encRl x).toArray] w fun e w' => e = .returned (.tuple #[.agg (encTg (targetM us i x).2).toArray, .int .i64 ((targetM us i x).1 : Nat)]) ∧ Keep No w w' := by
  have hres := fun W nm (h : Keep No w W) => reresolve_any (w := W) nm (hl.no h) (hu.keep h fun _ _ _ h => h) hok
  have hpl : ps.length = us.length := hu.1
  have hip : i < ps.length := by omega
  obtain ⟨g1, off, cap, rfl, _, hg1, hb1, hb2, hc⟩ := hl.at encU_len hip
  have huo := hu.2 i _ _ (List.getElem?_eq_getElem hip) (List.getElem?_eq_getElem hi)
  have hok1 := hok _ (List.getElem_mem hi)
  have hiz : (i : Int) < (ps.length : Int) := by omega
  have hib : (ps.length : Int) ≤ 9223372036854775807 := by unfold maxLen at hb2; omega
  obtain ⟨r, hr⟩ : ∃ r, r = targetM us i x := ⟨_, rfl⟩
  rw [← hr]
  unfold targetM at hr
  rw [show us.getD i ([], im0) = us[i] by rw [List.getD_eq_getElem?_getD, List.getElem?_eq_getElem hi]; rfl] at hr
  have c8 := hc 8 _ rfl
  have c9 := hc 9 _ rfl
  have HRES := Lib.hid hres
  clear hres hok hl hu hc hpl
  generalize us[i] = u at *
  generalize ps[i] = p at *
  generalize ps.length = n at *
  dsimp only at hr
  have HR := Lib.hid hr
  clear hr
  obtain ⟨_, vs, vn, vm, vy, vr, vb, e, _, _, hnm, hsm, _⟩ := huo
  have e3 : some p.vm = some vm := congrArg (fun l : List Value => l[7]?) e
  injection e3 with e3
  have e4 : some p.vy = some vy := congrArg (fun l : List Value => l[8]?) e
  injection e4 with e4
  rw [← e3] at hnm
  rw [← e4] at hsm
  clear e e3 e4
  obtain ⟨an, cn, epn, _, _⟩ := hnm.shape
  obtain ⟨ay, cy, epy, _, hcy⟩ := hsm.shape
  rw [epn] at c8 hnm
  rw [epy] at c9 hsm
  obtain ⟨xo, ty, sy, ad⟩ := x
  obtain ⟨hns, hsy⟩ := hok1
  have hx1 := hx.2.1
  have hx2 := hx.2.2.1
  dsimp only at hsym hx1 hx2 HR
  unfold encRl
  dsimp only
  clear hx epn epy
  go_enter Try.func63, Try.ntmps63
  go_upto_if 15 with fail
  have kW : Keep No w (((w.alloc (.cells #[.int .u64 (xo : Int), .int .u32 (ty : Int), .int .u32 (sy : Int), .int .i64 (addI ad)] 111)).alloc (.cells #[.int .i64 0, .int .u32 0, .int .u8 0, .int .u8 0, .int .u16 0, .int .u64 0, .int .u64 0] 123)).alloc (.cells #[.int .i64 (-1), .int .u32 0, .int .u8 0, .int .u8 0, .int .u16 0, .int .u64 0, .int .u64 0] 123)) := ((((Keep.refl No w).alloc _).alloc _).alloc _)
  have B0 := ((Blk.new w #[.int .u64 (xo : Int), .int .u32 (ty : Int), .int .u32 (sy : Int), .int .i64 (addI ad)] 111).alloc (.cells #[.int .i64 0, .int .u32 0, .int .u8 0, .int .u8 0, .int .u16 0, .int .u64 0, .int .u64 0] 123)).alloc (.cells #[.int .i64 (-1), .int .u32 0, .int .u8 0, .int .u8 0, .int .u16 0, .int .u64 0, .int .u64 0] 123)
  have B1 := (Blk.new (w.alloc (.cells #[.int .u64 (xo : Int), .int .u32 (ty : Int), .int .u32 (sy : Int), .int .i64 (addI ad)] 111)) #[.int .i64 0, .int .u32 0, .int .u8 0, .int .u8 0, .int .u16 0, .int .u64 0, .int .u64 0] 123).alloc (.cells #[.int .i64 (-1), .int .u32 0, .int .u8 0, .int .u8 0, .int .u16 0, .int .u64 0, .int .u64 0] 123)
  have B2 := Blk.new ((w.alloc (.cells #[.int .u64 (xo : Int), .int .u32 (ty : Int), .int .u32 (sy : Int), .int .i64 (addI ad)] 111)).alloc (.cells #[.int .i64 0, .int .u32 0, .int .u8 0, .int .u8 0, .int .u16 0, .int .u64 0, .int .u64 0] 123)) #[.int .i64 (-1), .int .u32 0, .int .u8 0, .int .u8 0, .int .u16 0, .int .u64 0, .int .u64 0] 123
  simp only [World.size_alloc] at B0 B1 B2
  generalize (((w.alloc (.cells #[.int .u64 (xo : Int), .int .u32 (ty : Int), .int .u32 (sy : Int), .int .i64 (addI ad)] 111)).alloc (.cells #[.int .i64 0, .int .u32 0, .int .u8 0, .int .u8 0, .int .u16 0, .int .u64 0, .int .u64 0] 123)).alloc (.cells #[.int .i64 (-1), .int .u32 0, .int .u8 0, .int .u8 0, .int .u16 0, .int .u64 0, .int .u64 0] 123)) = w3 at *
  by_cases h8 : ty = 8
  · have hr := HR.out
    rw [if_pos h8] at hr
    subst hr
    have hb : ((ty : Int) == 8) = true := by rw [beq_iff_eq]; omega
    clear h8 HR hsm hnm hns hsy hsym
    go_wp2_with (first | (with_reducible refine wl_ld rfl _ 123 rfl _ rfl ?_) | (with_reducible refine wl_stAgg rfl _ _ _ rfl _ _ rfl rfl ?_))
    refine rg_ld B2 Try.underlying123 rfl (by kernel_rfl) ?_
    go_wp2_with (first | (with_reducible refine wl_ld rfl _ 123 rfl _ rfl ?_) | (with_reducible refine wl_stAgg rfl _ _ _ rfl _ _ rfl rfl ?_))
    refine rg_stAgg B1 (by kernel_rfl) (by rfl) (by first | exact encTg_one _ | simp [Value.oneCell']) ?_
    intro wf hIf hkf hzf
    go_wp2_with fail
    refine ret_blk_tmp rfl rfl hIf Try.underlying123 rfl (by kernel_rfl) rfl ⟨rfl, kW.trans hkf fun j hj e => by have e2 : j = w.heap.size + 1 := e; omega⟩
  · have hb : ((ty : Int) == 8) = false := by rw [beq_eq_false_iff_ne]; omega
    have hs1 := hsym h8
    have hr := HR.out
    rw [if_neg h8] at hr
    have hs2 : sy < u.2.names.length := by omega
    obtain ⟨g2, off2, cap2, ev2, _, hg2, hbs1, hbs2, hd⟩ := hsm.at encSy_len hs1
    obtain ⟨g3, off3, cap3, ev3, _, hg3, hbn1, hbn2, hd3⟩ := hnm.at encS_len hs2
    injection ev2 with q1 q2 q3
    subst q1
    injection ev3 with q4 q5 q6
    subst q4
    have hso := hsy _ (List.getElem_mem hs1)
    have n0 := hd3 0 _ rfl
    rw [Nat.mul_one, Nat.add_zero] at n0
    rw [List.getD_eq_getElem?_getD, List.getElem?_eq_getElem hs1, List.getD_eq_getElem?_getD, List.getElem?_eq_getElem hs2] at hr
    dsimp only [Option.getD_some] at hr
    have HR2 := Lib.hid hr
    clear hr HR hd3 q2 q3 q5 q6 hsm hnm hsym h8
    generalize u.2.syms[sy] = own at *
    generalize u.2.names[sy] = nm at *
    have hs1z : (sy : Int) < (u.2.syms.length : Int) := by omega
    have hs2z : (sy : Int) < (u.2.names.length : Int) := by omega
    have hsb : (u.2.syms.length : Int) ≤ 9223372036854775807 := by unfold maxLen at hcy; omega
    rw [hns] at hs2z
    have c9a := (kW.cell (p := ⟨g1, off + i * 12 + 9, none⟩) hg1 fun h => h).trans c9
    obtain ⟨y0, y1, y2, y3, y4, y5⟩ := own
    have d0 := (kW.cell (p := ⟨g2, off2 + sy * 6 + 0, none⟩) hg2 fun h => h).trans (hd 0 _ rfl)
    have d1 := (kW.cell (p := ⟨g2, off2 + sy * 6 + 1, none⟩) hg2 fun h => h).trans (hd 1 _ rfl)
    have d2 := (kW.cell (p := ⟨g2, off2 + sy * 6 + 2, none⟩) hg2 fun h => h).trans (hd 2 _ rfl)
    have d3 := (kW.cell (p := ⟨g2, off2 + sy * 6 + 3, none⟩) hg2 fun h => h).trans (hd 3 _ rfl)
    have d4 := (kW.cell (p := ⟨g2, off2 + sy * 6 + 4, none⟩) hg2 fun h => h).trans (hd 4 _ rfl)
    have d5 := (kW.cell (p := ⟨g2, off2 + sy * 6 + 5, none⟩) hg2 fun h => h).trans (hd 5 _ rfl)
    have b2 := B0.cell 2
    rw [Nat.add_zero] at d0
    clear hd
    go_upto_region 4 with fail
    refine wp_region_sig (fun w' => w'.cell? ⟨g1, off + i * 12 + 9, none⟩ = some (.slice (some ⟨g2, off2, none⟩) u.2.syms.length cy) ∧ w'.cell? ⟨w.heap.size, 2, none⟩ = some (.int .u32 (sy : Int)) ∧ w'.cell? ⟨g2, off2 + sy * 6, none⟩ = some (.int .u32 (y0 : Int)) ∧ w'.cell? ⟨g2, off2 + sy * 6 + 1, none⟩ = some (.int .u8 (y1 : Int)) ∧ w'.cell? ⟨g2, off2 + sy * 6 + 2, none⟩ = some (.int .u8 (y2 : Int)) ∧ w'.cell? ⟨g2, off2 + sy * 6 + 3, none⟩ = some (.int .u16 (y3 : Int)) ∧ w'.cell? ⟨g2, off2 + sy * 6 + 4, none⟩ = some (.int .u64 (y4 : Int)) ∧ w'.cell? ⟨g2, off2 + sy * 6 + 5, none⟩ = some (.int .u64 (y5 : Int))) (fun j => decide (j ≤ 10)) [(0, true), (1, true), (2, true), (3, true), (4, true), (5, true), (6, true), (7, true), (8, true), (9, true), (10, false), (11, false)] (by kernel_rfl) (by kernel_rfl) (by intro c a d v w h; cases d <;> exact h) ⟨c9a, b2, d0, d1, d2, d3, d4, d5⟩ ?_
    apply sig_still (o := ⟨some 17, _, _, _, _, _⟩) rfl rfl
    · intro w' hS
      obtain ⟨q1, q2, q3, q4, q5, q6, q7, q8⟩ := hS
      first | (go_simp; done) | (go_simp; rfl) | rfl
    go_frame
    apply sig_still (o := ⟨some 18, _, _, _, _, _⟩) rfl rfl
    · intro w' hS
      obtain ⟨q1, q2, q3, q4, q5, q6, q7, q8⟩ := hS
      first | (go_simp; done) | (go_simp; rfl) | rfl
    go_frame
    apply sig_still (o := ⟨some 19, _, _, _, _, _⟩) rfl rfl
    · intro w' hS
      obtain ⟨q1, q2, q3, q4, q5, q6, q7, q8⟩ := hS
      first | (go_simp; done) | (go_simp; rfl) | rfl
    go_frame
    apply sig_still (o := ⟨some 20, _, _, _, _, _⟩) rfl rfl
    · intro w' hS
      obtain ⟨q1, q2, q3, q4, q5, q6, q7, q8⟩ := hS
      first | (go_simp; done) | (go_simp; rfl) | rfl
    go_frame
    apply sig_still (o := ⟨some 21, _, _, _, _, _⟩) rfl rfl
    · intro w' hS
      obtain ⟨q1, q2, q3, q4, q5, q6, q7, q8⟩ := hS
      first | (go_simp; done) | (go_simp; rfl) | rfl
    go_frame
    apply sig_still (o := ⟨some 22, _, _, _, _, _⟩) rfl rfl
    · intro w' hS
      obtain ⟨q1, q2, q3, q4, q5, q6, q7, q8⟩ := hS
      first | (go_simp; done) | (go_simp; rfl) | rfl
    go_frame
    apply sig_still (o := ⟨some 23, _, _, _, _, _⟩) rfl rfl
    · intro w' hS
      obtain ⟨q1, q2, q3, q4, q5, q6, q7, q8⟩ := hS
      first | (go_simp; done) | (go_simp; rfl) | rfl
    go_frame
    apply sig_still (o := ⟨some 24, _, _, _, _, _⟩) rfl rfl
    · intro w' hS
      obtain ⟨q1, q2, q3, q4, q5, q6, q7, q8⟩ := hS
      first | (go_simp; done) | (go_simp; rfl) | rfl
    go_frame
    apply sig_still (o := ⟨some 25, _, _, _, _, _⟩) rfl rfl
    · intro w' hS
      obtain ⟨q1, q2, q3, q4, q5, q6, q7, q8⟩ := hS
      first | (go_simp; done) | (go_simp; rfl) | rfl
    go_frame
    apply sig_still (o := ⟨some 26, _, _, _, _, _⟩) rfl rfl
    · intro w' hS
      obtain ⟨q1, q2, q3, q4, q5, q6, q7, q8⟩ := hS
      first | (go_simp; done) | (go_simp; rfl) | rfl
    go_frame
    refine sig_eff (o := ⟨some 9, _, _, _, _, _⟩) rfl rfl (fun K hKe => ?_)
    go_wp2_with fail
    have ka0 : Keep No w3 (w3.alloc (.cells #[.int .u32 0, .int .u8 0, .int .u8 0, .int .u16 0, .int .u64 0, .int .u64 0] 108)) := (Keep.refl No w3).alloc _
    have hlt3 := B0.lt
    have hg1' : g1 < w3.heap.size := Nat.lt_of_lt_of_le hg1 kW.size
    have hg2' : g2 < w3.heap.size := Nat.lt_of_lt_of_le hg2 kW.size
    refine ⟨⟨(ka0.cell (p := ⟨g1, off + i * 12 + 9, none⟩) hg1' fun h => h).trans c9a, (ka0.cell (p := ⟨w.heap.size, 2, none⟩) hlt3 fun h => h).trans b2, (ka0.cell (p := ⟨g2, off2 + sy * 6, none⟩) hg2' fun h => h).trans d0, (ka0.cell (p := ⟨g2, off2 + sy * 6 + 1, none⟩) hg2' fun h => h).trans d1, (ka0.cell (p := ⟨g2, off2 + sy * 6 + 2, none⟩) hg2' fun h => h).trans d2, (ka0.cell (p := ⟨g2, off2 + sy * 6 + 3, none⟩) hg2' fun h => h).trans d3, (ka0.cell (p := ⟨g2, off2 + sy * 6 + 4, none⟩) hg2' fun h => h).trans d4, (ka0.cell (p := ⟨g2, off2 + sy * 6 + 5, none⟩) hg2' fun h => h).trans d5⟩, ?_⟩
    have ka : Keep No w3 (w3.alloc (.cells #[.int .u32 0, .int .u8 0, .int .u8 0, .int .u16 0, .int .u64 0, .int .u64 0] 108)).drew := ka0.drew
    have Ba : Blk (w3.alloc (.cells #[.int .u32 0, .int .u8 0, .int .u8 0, .int .u16 0, .int .u64 0, .int .u64 0] 108)).drew w3.heap.size #[.int .u32 0, .int .u8 0, .int .u8 0, .int .u16 0, .int .u64 0, .int .u64 0] 108 := (Blk.new w3 #[.int .u32 0, .int .u8 0, .int .u8 0, .int .u16 0, .int .u64 0, .int .u64 0] 108).same rfl
    generalize (w3.alloc (.cells #[.int .u32 0, .int .u8 0, .int .u8 0, .int .u16 0, .int .u64 0, .int .u64 0] 108)).drew = wa at *
    refine sig_eff (o := ⟨none, _, _, _, _, _⟩) rfl rfl (fun K hKe => ?_)
    refine wo_stAgg (.tmp 9) (.tmp 26) 108 rfl _ _ rfl rfl ?_
    refine rg_stAgg Ba (by kernel_rfl) (by rfl) (by simp [Value.oneCell']) ?_
    intro w4 B4 k4 z4
    have kB : Keep No w3 w4 := ka.trans k4 fun j hj e => by have e2 : j = w3.heap.size := e; omega
    refine hKe _ _ ⟨fun h => by simp at h, sig_nil ?_⟩
    have kW4 := kW.trans' kB
    replace B0 := B0.keep kB fun h => h
    replace B1 := B1.keep kB fun h => h
    replace B2 := B2.keep kB fun h => h
    have b2' := B0.cell 2
    have c8a := (kW4.cell (p := ⟨g1, off + i * 12 + 8, none⟩) hg1 fun h => h).trans c8
    have n0a := (kW4.cell (p := ⟨g3, off3 + sy, none⟩) hg3 fun h => h).trans n0
    have hnesy : w.heap.size + 1 < w4.heap.size := B1.lt
    clear hKe Ba ka ka0 k4 z4 d0 d1 d2 d3 d4 d5 c9a b2 kB hg1' hg2' c8 c9 n0 hlt3
    generalize w3.heap.size = gs at *
    have e0 := B4.cell 0
    have e1 := B4.cell 1
    have e2 := B4.cell 2
    have e3 := B4.cell 3
    have e4 := B4.cell 4
    have e5 := B4.cell 5
    have hdef := fun W => sydef_any (w := W) ⟨y0, y1, y2, y3, y4, y5⟩
    have hbin := fun W => sybind_any (w := W) ⟨y0, y1, y2, y3, y4, y5⟩ hso.2.1
    unfold encSy at hdef hbin
    dsimp only at hdef hbin HR2
    obtain ⟨lo, hlo⟩ : ∃ b, b = decide (y3 ≠ 0 ∧ y1 / 16 = 0) := ⟨_, rfl⟩
    have HLO := Lib.hid hlo
    clear hlo
    go_upto_region 5 with fail
    go_frame
    go_cut [33] from 27 to 32 (fun s33 wc => s33 = .bool lo ∧ Keep No w4 wc)
    case first =>
      rcases Bool.eq_false_or_eq_true (decide (y3 ≠ 0)) with hb1 | hb1
      · rw [hb1] at hdef
        have hE : Hid (lo = decide (y1 / 16 = 0)) := Lib.hid (by rw [HLO.out]; simp [of_decide_eq_true hb1])
        go_wp2_with fail
        refine (hdef _).mono ?_
        clear hdef
        rintro e w5 ⟨rfl, k5⟩
        replace e0 := (k5.cell (p := ⟨gs, 0, none⟩) B4.lt fun h => h).trans e0
        replace e1 := (k5.cell (p := ⟨gs, 1, none⟩) B4.lt fun h => h).trans e1
        replace e2 := (k5.cell (p := ⟨gs, 2, none⟩) B4.lt fun h => h).trans e2
        replace e3 := (k5.cell (p := ⟨gs, 3, none⟩) B4.lt fun h => h).trans e3
        replace e4 := (k5.cell (p := ⟨gs, 4, none⟩) B4.lt fun h => h).trans e4
        replace e5 := (k5.cell (p := ⟨gs, 5, none⟩) B4.lt fun h => h).trans e5
        go_wp2_with fail
        refine (hbin _).mono ?_
        clear hbin
        rintro e w6 ⟨rfl, k6⟩
        have hq : ((y1 : Int) / 16 == 0) = lo := by rw [hE.out, Bool.eq_iff_iff, beq_iff_eq, decide_eq_true_eq]; omega
        go_wp2_with fail
        go_meet
        exact ⟨rfl, k5.trans' k6⟩
      · rw [hb1] at hdef
        have hE : Hid (lo = false) := Lib.hid (by rw [HLO.out]; simp [of_decide_eq_false hb1])
        go_wp2_with fail
        refine (hdef _).mono ?_
        clear hdef
        rintro e w5 ⟨rfl, k5⟩
        go_wp2_with fail
        go_meet
        exact ⟨by rw [hE.out], k5⟩
    case rest =>
      obtain ⟨rfl, k5⟩ := hcut
      generalize wc = w5 at *
      have kW5 := kW4.trans' k5
      replace B0 := B0.keep k5 fun h => h
      replace B1 := B1.keep k5 fun h => h
      replace B2 := B2.keep k5 fun h => h
      replace B4 := B4.keep k5 fun h => h
      replace c8a := (k5.cell (p := ⟨g1, off + i * 12 + 8, none⟩) (Nat.lt_of_lt_of_le hg1 kW4.size) fun h => h).trans c8a
      replace n0a := (k5.cell (p := ⟨g3, off3 + sy, none⟩) (Nat.lt_of_lt_of_le hg3 kW4.size) fun h => h).trans n0a
      clear e0 e1 e2 e3 e4 e5 hdef hbin hnesy b2' kW4 kW
      rcases Bool.eq_false_or_eq_true lo with hlo | hlo
      · subst hlo
        have hr := HR2.out
        rw [if_pos (of_decide_eq_true HLO.out.symm)] at hr
        subst hr
        clear HR2 HLO HRES
        go_wp2_with (first | (with_reducible refine wl_ld rfl _ 108 rfl _ rfl ?_) | (with_reducible refine wl_build rfl 123 _ rfl ?_) | (with_reducible refine wl_stAgg rfl _ _ _ rfl _ _ rfl rfl ?_))
        refine rg_ld B4 Try.underlying108 rfl (by kernel_rfl) ?_
        go_wp2_with (first | (with_reducible refine wl_ld rfl _ 108 rfl _ rfl ?_) | (with_reducible refine wl_build rfl 123 _ rfl ?_) | (with_reducible refine wl_stAgg rfl _ _ _ rfl _ _ rfl rfl ?_))
        refine rg_build (cells := #[.int .i64 (i : Int), .int .u32 (y0 : Int), .int .u8 (y1 : Int), .int .u8 (y2 : Int), .int .u16 (y3 : Int), .int .u64 (y4 : Int), .int .u64 (y5 : Int)]) (by kernel_rfl) ?_
        go_wp2_with (first | (with_reducible refine wl_ld rfl _ 108 rfl _ rfl ?_) | (with_reducible refine wl_build rfl 123 _ rfl ?_) | (with_reducible refine wl_stAgg rfl _ _ _ rfl _ _ rfl rfl ?_))
        refine rg_stAgg B1 (by kernel_rfl) (by rfl) (by first | exact encTg_one _ | simp [Value.oneCell']) ?_
        intro wf hIf hkf hzf
        go_wp2_with fail
        refine ret_blk_tmp rfl rfl hIf Try.underlying123 rfl (by kernel_rfl) rfl ⟨rfl, kW5.trans hkf fun j hj e => by have e2 : j = w.heap.size + 1 := e; omega⟩
      · subst hlo
        have hr := HR2.out
        rw [if_neg (of_decide_eq_false HLO.out.symm)] at hr
        have HR3 := Lib.hid hr
        clear hr HR2 HLO
        have hbin := fun W => sybind_any (w := W) ⟨y0, y1, y2, y3, y4, y5⟩ hso.2.1
        unfold encSy at hbin
        dsimp only at hbin
        have hres : ∀ W, Keep No w5 W → Calls Try.prog 46 #[.slice (some ⟨g1, off, none⟩) n cap, .string ⟨nm.toArray⟩] W fun e w' => e = .returned (.tuple #[.agg (encTg (rT (resM us nm))).toArray, .bool (resM us nm).isSome]) ∧ Keep No W w' := fun W k => by
          have := HRES.out W nm (kW5.trans' k)
          rwa [encRs_eq] at this
        have hf1 : (encTg (rT (resM us nm))).toArray.size = 7 := rfl
        have hf2 := encTg_one (rT (resM us nm))
        generalize resM us nm = ro at *
        have HRE := Lib.hid hres
        have HBI := Lib.hid hbin
        have b2 := B0.cell 2
        have hg1' := Nat.lt_of_lt_of_le hg1 kW5.size
        have hg3' := Nat.lt_of_lt_of_le hg3 kW5.size
        have hlt0 := B0.lt
        have hke : ∀ W, Keep No w5 W → W.cell? ⟨g1, off + i * 12 + 8, none⟩ = some (.slice (some ⟨g3, off3, none⟩) u.2.names.length cn) ∧ W.cell? ⟨w.heap.size, 2, none⟩ = some (.int .u32 (sy : Int)) ∧ W.cell? ⟨g3, off3 + sy, none⟩ = some (.string ⟨nm.toArray⟩) := fun W k =>
          ⟨(k.cell (p := ⟨g1, off + i * 12 + 8, none⟩) hg1' fun h => h).trans c8a, (k.cell (p := ⟨w.heap.size, 2, none⟩) hlt0 fun h => h).trans b2, (k.cell (p := ⟨g3, off3 + sy, none⟩) hg3' fun h => h).trans n0a⟩
        have HKE := Lib.hid hke
        clear hres hbin hke HRES hso
        go_upto_region 7 with fail
        apply joinG
        · intro HJ
          refine wp_region_tree (fun w' => w'.cell? ⟨g1, off + i * 12 + 8, none⟩ = some (.slice (some ⟨g3, off3, none⟩) u.2.names.length cn) ∧ w'.cell? ⟨w.heap.size, 2, none⟩ = some (.int .u32 (sy : Int)) ∧ w'.cell? ⟨g3, off3 + sy, none⟩ = some (.string ⟨nm.toArray⟩)) (fun j => decide (j ≤ 99)) (.st 0 (.st 1 (.st 2 (.st 3 (.st 4 (.st 5 (.st 6 (.st 7 (.st 8 (.st 9 (.st 10 (.br 11 15 (.st 12 (.st 13 (.st 14 (.ef 15 (.ef 16 (.st 17 .nil)))))) (.ef 11 (.st 12 (.st 13 (.st 14 (.ef 16 (.st 17 .nil)))))))))))))))))) (by kernel_rfl) (by kernel_rfl) (by intro c a d v w h; cases d <;> exact h) ⟨c8a, b2, n0a⟩ ?_
          apply tr_still (o := ⟨some 38, _, _, _, _, _⟩) rfl rfl
          · intro w' hS
            obtain ⟨q1, q2, q3⟩ := hS
            first | (go_simp; done) | (go_simp; rfl) | rfl
          go_frame
          apply tr_still (o := ⟨some 39, _, _, _, _, _⟩) rfl rfl
          · intro w' hS
            obtain ⟨q1, q2, q3⟩ := hS
            first | (go_simp; done) | (go_simp; rfl) | rfl
          go_frame
          apply tr_still (o := ⟨some 40, _, _, _, _, _⟩) rfl rfl
          · intro w' hS
            obtain ⟨q1, q2, q3⟩ := hS
            first | (go_simp; done) | (go_simp; rfl) | rfl
          go_frame
          apply tr_still (o := ⟨some 41, _, _, _, _, _⟩) rfl rfl
          · intro w' hS
            obtain ⟨q1, q2, q3⟩ := hS
            first | (go_simp; done) | (go_simp; rfl) | rfl
          go_frame
          apply tr_still (o := ⟨some 42, _, _, _, _, _⟩) rfl rfl
          · intro w' hS
            obtain ⟨q1, q2, q3⟩ := hS
            first | (go_simp; done) | (go_simp; rfl) | rfl
          go_frame
          apply tr_still (o := ⟨some 43, _, _, _, _, _⟩) rfl rfl
          · intro w' hS
            obtain ⟨q1, q2, q3⟩ := hS
            first | (go_simp; done) | (go_simp; rfl) | rfl
          go_frame
          apply tr_still (o := ⟨some 44, _, _, _, _, _⟩) rfl rfl
          · intro w' hS
            obtain ⟨q1, q2, q3⟩ := hS
            first | (go_simp; done) | (go_simp; rfl) | rfl
          go_frame
          apply tr_still (o := ⟨some 45, _, _, _, _, _⟩) rfl rfl
          · intro w' hS
            obtain ⟨q1, q2, q3⟩ := hS
            first | (go_simp; done) | (go_simp; rfl) | rfl
          go_frame
          apply tr_still (o := ⟨some 46, _, _, _, _, _⟩) rfl rfl
          · intro w' hS
            obtain ⟨q1, q2, q3⟩ := hS
            first | (go_simp; done) | (go_simp; rfl) | rfl
          go_frame
          apply tr_still (o := ⟨some 47, _, _, _, _, _⟩) rfl rfl
          · intro w' hS
            obtain ⟨q1, q2, q3⟩ := hS
            first | (go_simp; done) | (go_simp; rfl) | rfl
          go_frame
          apply tr_still (o := ⟨some 48, _, _, _, _, _⟩) rfl rfl
          · intro w' hS
            obtain ⟨q1, q2, q3⟩ := hS
            first | (go_simp; done) | (go_simp; rfl) | rfl
          go_frame
          refine tr_br (o := ⟨some 49, _, _, _, _, _⟩) (o' := ⟨some 10, _, _, _, _, _⟩) rfl rfl rfl rfl (fun K hKe => ?_) (fun K hKe => ?_)
          · go_wp2_with fail
            refine (HRE.out _ (Keep.refl No w5).drew).mono ?_
            rintro e w6 ⟨rfl, k6⟩
            have k56 : Keep No w5 w6 := (Keep.refl No w5).drew.trans' k6
            refine hKe _ _ ⟨fun _ => HKE.out _ k56, ?_⟩
            apply tr_still (o := ⟨some 37, _, _, _, _, _⟩) rfl rfl
            · intro w' hS
              obtain ⟨q1, q2, q3⟩ := hS
              first | (go_simp; done) | (go_simp; rfl) | rfl
            go_frame
            apply tr_still (o := ⟨some 50, _, _, _, _, _⟩) rfl rfl
            · intro w' hS
              obtain ⟨q1, q2, q3⟩ := hS
              first | (go_simp; done) | (go_simp; rfl) | rfl
            go_frame
            apply tr_still (o := ⟨some 51, _, _, _, _, _⟩) rfl rfl
            · intro w' hS
              obtain ⟨q1, q2, q3⟩ := hS
              first | (go_simp; done) | (go_simp; rfl) | rfl
            go_frame
            refine tr_eff (o := ⟨some 10, _, _, _, _, _⟩) rfl rfl (fun K hKe => ?_)
            go_wp2_with fail
            have hkw7 : Keep No w6 (w6.alloc (.cells #[.int .i64 0, .int .u32 0, .int .u8 0, .int .u8 0, .int .u16 0, .int .u64 0, .int .u64 0] 123)) := (Keep.refl _ _).alloc _
            have hBw7 : Blk (w6.alloc (.cells #[.int .i64 0, .int .u32 0, .int .u8 0, .int .u8 0, .int .u16 0, .int .u64 0, .int .u64 0] 123)) w6.heap.size #[.int .i64 0, .int .u32 0, .int .u8 0, .int .u8 0, .int .u16 0, .int .u64 0, .int .u64 0] 123 := Blk.new _ _ _
            have hzw7 : (w6.alloc (.cells #[.int .i64 0, .int .u32 0, .int .u8 0, .int .u8 0, .int .u16 0, .int .u64 0, .int .u64 0] 123)).heap.size = w6.heap.size + 1 := World.size_alloc _ _
            generalize w6.alloc (.cells #[.int .i64 0, .int .u32 0, .int .u8 0, .int .u8 0, .int .u16 0, .int .u64 0, .int .u64 0] 123) = w7 at *
            refine ⟨fun _ => HKE.out _ (k56.trans' hkw7), ?_⟩
            refine tr_eff (o := ⟨none, _, _, _, _, _⟩) rfl rfl (fun K hKe => ?_)
            refine wo_stAgg (.tmp 10) (.tmp 50) 123 rfl _ _ rfl rfl ?_
            refine rg_stAgg hBw7 (by rw [hf1]; kernel_rfl) (by rw [hf1]; rfl) hf2 ?_
            intro wf hBf hkf hzf
            have hkF : Keep No w5 wf := (k56.trans' hkw7).trans hkf fun j hj e => by
              have e2 : j = w6.heap.size := e
              have := k56.size
              omega
            refine hKe _ _ ⟨fun _ => HKE.out _ hkF, ?_⟩
            apply tr_still (o := ⟨some 11, _, _, _, _, _⟩) rfl rfl
            · intro w' hS
              obtain ⟨q1, q2, q3⟩ := hS
              first | (go_simp; done) | (go_simp; rfl) | rfl
            go_frame
            apply tr_nil
            obtain ⟨gg, hgg⟩ : ∃ g, g = w6.heap.size := ⟨_, rfl⟩
            rw [← hgg] at hBf ⊢
            clear hgg hkf hzf hKe hBw7 hkw7 hzw7 k56 k6
            revert hkF hBf
            revert gg wf
            exact HJ.out
          · go_wp2_with fail
            have k5a : Keep No w5 (w5.alloc (.cells #[.int .i64 0, .int .u32 0, .int .u8 0, .int .u8 0, .int .u16 0, .int .u64 0, .int .u64 0] 123)).drew := ((Keep.refl No w5).alloc _).drew
            have hBa : Blk (w5.alloc (.cells #[.int .i64 0, .int .u32 0, .int .u8 0, .int .u8 0, .int .u16 0, .int .u64 0, .int .u64 0] 123)).drew w5.heap.size #[.int .i64 0, .int .u32 0, .int .u8 0, .int .u8 0, .int .u16 0, .int .u64 0, .int .u64 0] 123 := (Blk.new w5 _ _).keep (Keep.refl No _).drew fun h => h
            generalize (w5.alloc (.cells #[.int .i64 0, .int .u32 0, .int .u8 0, .int .u8 0, .int .u16 0, .int .u64 0, .int .u64 0] 123)).drew = wa at *
            refine ⟨fun _ => HKE.out _ k5a, ?_⟩
            refine tr_eff (o := ⟨some 49, _, _, _, _, _⟩) rfl rfl (fun K hKe => ?_)
            go_wp2_with fail
            refine (HRE.out _ k5a).mono ?_
            rintro e w7 ⟨rfl, k7⟩
            have hBw7 := hBa.keep k7 fun h => h
            have k57 := k5a.trans' k7
            refine hKe _ _ ⟨fun _ => HKE.out _ k57, ?_⟩
            apply tr_still (o := ⟨some 37, _, _, _, _, _⟩) rfl rfl
            · intro w' hS
              obtain ⟨q1, q2, q3⟩ := hS
              first | (go_simp; done) | (go_simp; rfl) | rfl
            go_frame
            apply tr_still (o := ⟨some 50, _, _, _, _, _⟩) rfl rfl
            · intro w' hS
              obtain ⟨q1, q2, q3⟩ := hS
              first | (go_simp; done) | (go_simp; rfl) | rfl
            go_frame
            apply tr_still (o := ⟨some 51, _, _, _, _, _⟩) rfl rfl
            · intro w' hS
              obtain ⟨q1, q2, q3⟩ := hS
              first | (go_simp; done) | (go_simp; rfl) | rfl
            go_frame
            refine tr_eff (o := ⟨none, _, _, _, _, _⟩) rfl rfl (fun K hKe => ?_)
            refine wo_stAgg (.tmp 10) (.tmp 50) 123 rfl _ _ rfl rfl ?_
            refine rg_stAgg hBw7 (by rw [hf1]; kernel_rfl) (by rw [hf1]; rfl) hf2 ?_
            intro wf hBf hkf hzf
            have hkF : Keep No w5 wf := k57.trans hkf fun j hj e => by
              have e2 : j = w5.heap.size := e
              omega
            refine hKe _ _ ⟨fun _ => HKE.out _ hkF, ?_⟩
            apply tr_still (o := ⟨some 11, _, _, _, _, _⟩) rfl rfl
            · intro w' hS
              obtain ⟨q1, q2, q3⟩ := hS
              first | (go_simp; done) | (go_simp; rfl) | rfl
            go_frame
            apply tr_nil
            obtain ⟨gg, hgg⟩ : ∃ g, g = w5.heap.size := ⟨_, rfl⟩
            rw [← hgg] at hBf ⊢
            clear hgg hkf hzf hKe hBw7 hBa k5a k57 k7
            revert hkF hBf
            revert gg wf
            exact HJ.out
        · intro wf gg hkF hBf
          have kWf := kW5.trans' hkF
          replace B1 := B1.keep hkF fun h => h
          replace B2 := B2.keep hkF fun h => h
          replace B4 := B4.keep hkF fun h => h
          generalize wf = w8 at *
          clear HKE HRE b2 c8a n0a
          cases ro with
          | some t =>
            have hr := HR3.out
            subst hr
            dsimp only [Option.isSome_some, rT, Option.getD_some] at hBf ⊢
            go_wp2_with (first | (with_reducible refine wl_ld rfl _ 123 rfl _ rfl ?_) | (with_reducible refine wl_stAgg rfl _ _ _ rfl _ _ rfl rfl ?_))
            refine rg_ld hBf Try.underlying123 rfl (by kernel_rfl) ?_
            go_wp2_with (first | (with_reducible refine wl_ld rfl _ 123 rfl _ rfl ?_) | (with_reducible refine wl_stAgg rfl _ _ _ rfl _ _ rfl rfl ?_))
            refine rg_stAgg B1 (by kernel_rfl) (by rfl) (by first | exact encTg_one _ | simp [Value.oneCell']) ?_
            intro wf hIf hkf hzf
            go_wp2_with fail
            refine ret_blk_tmp rfl rfl hIf Try.underlying123 rfl (by kernel_rfl) rfl ⟨rfl, kWf.trans hkf fun j hj e => by have e2 : j = w.heap.size + 1 := e; omega⟩
          | none =>
            dsimp only [Option.isSome_none]
            by_cases hbi : y1 / 16 = 2
            · have hr := HR3.out
              dsimp only at hr
              rw [if_pos hbi] at hr
              subst hr
              have hq : ((y1 : Int) / 16 == 2) = true := by rw [beq_iff_eq]; omega
              go_wp2_with (first | (with_reducible refine wl_ld rfl _ 108 rfl _ rfl ?_) | (with_reducible refine wl_ld rfl _ 123 rfl _ rfl ?_) | (with_reducible refine wl_stAgg rfl _ _ _ rfl _ _ rfl rfl ?_))
              refine rg_ld B4 Try.underlying108 rfl (by kernel_rfl) ?_
              go_wp2_with (first | (with_reducible refine wl_ld rfl _ 108 rfl _ rfl ?_) | (with_reducible refine wl_ld rfl _ 123 rfl _ rfl ?_) | (with_reducible refine wl_stAgg rfl _ _ _ rfl _ _ rfl rfl ?_))
              refine (HBI.out _).mono ?_
              rintro e w9 ⟨rfl, k9⟩
              replace B1 := B1.keep k9 fun h => h
              replace B2 := B2.keep k9 fun h => h
              replace kWf := kWf.trans' k9
              go_wp2_with (first | (with_reducible refine wl_ld rfl _ 123 rfl _ rfl ?_) | (with_reducible refine wl_stAgg rfl _ _ _ rfl _ _ rfl rfl ?_))
              refine rg_ld B2 Try.underlying123 rfl (by kernel_rfl) ?_
              go_wp2_with (first | (with_reducible refine wl_ld rfl _ 123 rfl _ rfl ?_) | (with_reducible refine wl_stAgg rfl _ _ _ rfl _ _ rfl rfl ?_))
              refine rg_stAgg B1 (by kernel_rfl) (by rfl) (by first | exact encTg_one _ | simp [Value.oneCell']) ?_
              intro wf hIf hkf hzf
              go_wp2_with fail
              refine ret_blk_tmp rfl rfl hIf Try.underlying123 rfl (by kernel_rfl) rfl ⟨rfl, kWf.trans hkf fun j hj e => by have e2 : j = w.heap.size + 1 := e; omega⟩
            · have hr := HR3.out
              dsimp only at hr
              rw [if_neg hbi] at hr
              subst hr
              have hq : ((y1 : Int) / 16 == 2) = false := by rw [beq_eq_false_iff_ne]; omega
              go_wp2_with (first | (with_reducible refine wl_ld rfl _ 108 rfl _ rfl ?_) | (with_reducible refine wl_ld rfl _ 123 rfl _ rfl ?_) | (with_reducible refine wl_stAgg rfl _ _ _ rfl _ _ rfl rfl ?_))
              refine rg_ld B4 Try.underlying108 rfl (by kernel_rfl) ?_
              go_wp2_with (first | (with_reducible refine wl_ld rfl _ 108 rfl _ rfl ?_) | (with_reducible refine wl_ld rfl _ 123 rfl _ rfl ?_) | (with_reducible refine wl_stAgg rfl _ _ _ rfl _ _ rfl rfl ?_))
              refine (HBI.out _).mono ?_
              rintro e w9 ⟨rfl, k9⟩
              replace B1 := B1.keep k9 fun h => h
              replace B2 := B2.keep k9 fun h => h
              replace kWf := kWf.trans' k9
              go_wp2_with (first | (with_reducible refine wl_ld rfl _ 123 rfl _ rfl ?_) | (with_reducible refine wl_stAgg rfl _ _ _ rfl _ _ rfl rfl ?_))
              refine rg_ld B2 Try.underlying123 rfl (by kernel_rfl) ?_
              go_wp2_with (first | (with_reducible refine wl_ld rfl _ 123 rfl _ rfl ?_) | (with_reducible refine wl_stAgg rfl _ _ _ rfl _ _ rfl rfl ?_))
              refine rg_stAgg B1 (by kernel_rfl) (by rfl) (by first | exact encTg_one _ | simp [Value.oneCell']) ?_
              intro wf hIf hkf hzf
              go_wp2_with fail
              refine ret_blk_tmp rfl rfl hIf Try.underlying123 rfl (by kernel_rfl) rfl ⟨rfl, kWf.trans hkf fun j hj e => by have e2 : j = w.heap.size + 1 := e; omega⟩
end
end Go.Proofs.Ytbnahidopemkiaa
namespace Go.Proofs.Ytbnahidopemkiaa
open Go.RowKit Go.Dm Go.Dm.Oc Go.Dm.Ld
def encWd (x : Wd) : List Value := [.int .u64 (x.addr : Int), .int .u64 (x.val : Int), .int .i64 x.unit]
theorem encWd_len (x : Wd) : (encWd x).length = 3 := rfl
theorem encWd_one (x : Wd) : (encWd x).toArray.all (·.oneCell') = true := by simp [encWd, Value.oneCell']
theorem addI_rng (n : Nat) : -9223372036854775808 ≤ addI n ∧ addI n < 9223372036854775808 := by
  unfold addI
  rw [IntKind.wrap_i64]
  omega
theorem ret_wd {e : Ending} {wd : Wd} {n : Nat} {a b c m : Int} (h : e = .returned (.tuple #[.agg #[.int .u64 a, .int .u64 b, .int .i64 c], .int .i64 m])) (ha : a = (wd.addr : Int)) (hb : b = (wd.val : Int)) (hc : c = wd.unit) (hm : m = (n : Int)) : e = .returned (.tuple #[.agg (encWd wd).toArray, .int .i64 (n : Int)]) := by
  subst ha hb hc hm
  exact h
section
variable {A B : Nat → Prop} {w : World} {v mv : Value} {ps : List UC} {us : List (BS × Im)} {ms : List Md}
set_option maxRecDepth 100000 in
set_option maxHeartbeats 4000000 in
theorem reword_any (i : Nat) (x : Rl) (hx : RlOk x) (hi : i < us.length) (hsym : x.ty ≠ 8 → x.sym < us[i].2.syms.length) (hl : Fl A w 12 encU v ps) (hu : UsOk A w ps us) (hok : ∀ u ∈ us, u.2.names.length = u.2.syms.length ∧ ∀ s ∈ u.2.syms, SyOk s)
    (hm : Fl B w 7 encMd mv ms) (hml : us.length = ms.length) (hub : us.length ≤ 1000) (hmb : ∀ m ∈ ms, m.base < 18446744073709551616 ∧ m.off < 18446744073709551616) :
    Calls Try.prog 47 #[v, mv, .int .i64 (i : Int), .agg (encRl x).toArray] w fun e w' => e = .returned (.tuple #[.agg (encWd (wordM us ms i x).2).toArray, .int .i64 ((wordM us ms i x).1 : Nat)]) ∧ Keep No w w' := by
  have htg := fun W (h : Keep No w W) => retarget_any (w := W) i x hx hi hsym (hl.no h) (hu.keep h fun _ _ _ h => h) hok
  have hun := targetM_unit hi x
  have hso := targetM_syok (i := i) (fun u hu => (hok u hu).2) x
  have hval := fun W (h : Keep No w W) => revalue_any (w := W) ms (targetM us i x).2 x.ty (hm.no h) hx.2.1 hso (by omega) hmb
  have himl : i < ms.length := by omega
  obtain ⟨gm, om, cm, rfl, _, hgm, hcm1, hcm2, hc⟩ := hm.at encMd_len himl
  have c1 := hc 1 _ rfl
  have hsh : ∃ a n c, v = .slice a n c := by obtain ⟨a, c, e, _⟩ := hl.shape; exact ⟨a, _, c, e⟩
  obtain ⟨av, nv, cv, rfl⟩ := hsh
  have hbo := (hmb _ (List.getElem_mem himl)).1
  obtain ⟨r, hr⟩ : ∃ r, r = wordM us ms i x := ⟨_, rfl⟩
  rw [← hr]
  unfold wordM at hr
  dsimp only at hr
  rw [show (ms.getD i ⟨[], 0, 0, 0, false, 0, 0⟩).base = ms[i].base by rw [List.getD_eq_getElem?_getD, List.getElem?_eq_getElem himl]; rfl] at hr
  have hvl2 : (valM ms (targetM us i x).2 x.ty).2.1 < 18446744073709551616 := valM_lt _ _ _ hso.2.2.2.2.1 (by omega)
  have HT := Lib.hid htg
  have HVL := Lib.hid hval
  have HR := Lib.hid hr
  clear htg hval hr hl hu hok hm hmb hc hsym
  generalize targetM us i x = t at *
  obtain ⟨te, t⟩ := t
  dsimp only at hun HT HVL HR hvl2
  generalize valM ms t x.ty = vl at *
  obtain ⟨ve, vs, vu⟩ := vl
  dsimp only at HVL HR hvl2
  have hz0 : (0 : Int) ≤ (i : Int) := by omega
  have hiz : (i : Int) < (ms.length : Int) := by omega
  have hib : (ms.length : Int) ≤ 9223372036854775807 := by unfold maxLen at hcm2; omega
  generalize ms[i].base = b at *
  generalize ms.length = n at *
  obtain ⟨xo, ty, sy, ad⟩ := x
  obtain ⟨hx0, hx1, hx2, hx3⟩ := hx
  dsimp only at hx0 hx1 hx2 hx3 HR HT HVL
  have hvr := fun W => rlvalue_any ty b vs (addI ad) hx1 hbo hvl2 (addI_rng ad) W
  unfold encRl at HT ⊢
  dsimp only at HT ⊢
  clear hi hun himl hml hcm1 hso
  go_enter Try.func47, Try.ntmps47
  go_wp2_with (first | (with_reducible refine wl_ld rfl _ 111 rfl _ rfl ?_) | (with_reducible refine wl_stAgg rfl _ _ _ rfl _ _ rfl rfl ?_))
  have kW : Keep No w ((w.alloc (.cells #[.int .u64 (xo : Int), .int .u32 (ty : Int), .int .u32 (sy : Int), .int .i64 (addI ad)] 111)).alloc (.cells #[.int .u64 0, .int .u64 0, .int .i64 0] 80)) := (((Keep.refl No w).alloc _).alloc _)
  have B0 := (Blk.new w #[.int .u64 (xo : Int), .int .u32 (ty : Int), .int .u32 (sy : Int), .int .i64 (addI ad)] 111).alloc (.cells #[.int .u64 0, .int .u64 0, .int .i64 0] 80)
  have B1 := Blk.new (w.alloc (.cells #[.int .u64 (xo : Int), .int .u32 (ty : Int), .int .u32 (sy : Int), .int .i64 (addI ad)] 111)) #[.int .u64 0, .int .u64 0, .int .i64 0] 80
  simp only [World.size_alloc] at B0 B1
  generalize ((w.alloc (.cells #[.int .u64 (xo : Int), .int .u32 (ty : Int), .int .u32 (sy : Int), .int .i64 (addI ad)] 111)).alloc (.cells #[.int .u64 0, .int .u64 0, .int .i64 0] 80)) = w2 at *
  refine rg_ld B0 Try.underlying111 rfl (by kernel_rfl) ?_
  go_wp2_with (first | (with_reducible refine wl_ld rfl _ 111 rfl _ rfl ?_) | (with_reducible refine wl_stAgg rfl _ _ _ rfl _ _ rfl rfl ?_))
  refine (HT.out _ kW).mono ?_
  clear HT
  rintro e w3 ⟨rfl, k3⟩
  replace kW := kW.trans' k3
  replace B0 := B0.keep k3 fun h => h
  replace B1 := B1.keep k3 fun h => h
  clear k3
  go_wp2_with (with_reducible refine wl_stAgg rfl _ _ _ rfl _ _ rfl rfl ?_)
  have hkw4 : Keep No w3 (w3.alloc (.cells #[.int .i64 0, .int .u32 0, .int .u8 0, .int .u8 0, .int .u16 0, .int .u64 0, .int .u64 0] 123)) := (Keep.refl _ _).alloc _
  have hBw4 : Blk (w3.alloc (.cells #[.int .i64 0, .int .u32 0, .int .u8 0, .int .u8 0, .int .u16 0, .int .u64 0, .int .u64 0] 123)) w3.heap.size #[.int .i64 0, .int .u32 0, .int .u8 0, .int .u8 0, .int .u16 0, .int .u64 0, .int .u64 0] 123 := Blk.new _ _ _
  have hzw4 : (w3.alloc (.cells #[.int .i64 0, .int .u32 0, .int .u8 0, .int .u8 0, .int .u16 0, .int .u64 0, .int .u64 0] 123)).heap.size = w3.heap.size + 1 := World.size_alloc _ _
  generalize w3.alloc (.cells #[.int .i64 0, .int .u32 0, .int .u8 0, .int .u8 0, .int .u16 0, .int .u64 0, .int .u64 0] 123) = w4 at *
  refine rg_stAgg hBw4 (by kernel_rfl) (by rfl) (encTg_one _) ?_
  intro w5 B5 k5 z5
  have k35 : Keep No w3 w5 := hkw4.trans k5 fun j hj e => by have e2 : j = w3.heap.size := e; omega
  replace kW := kW.trans' k35
  replace B0 := B0.keep k35 fun h => h
  replace B1 := B1.keep k35 fun h => h
  generalize w3.heap.size = gt at *
  clear k35 k5 z5 hBw4 hkw4 hzw4
  by_cases hte : te = 0
  · subst hte
    have hr := HR.out
    rw [if_neg (fun h => h rfl)] at hr
    have HR2 := Lib.hid hr
    clear hr HR
    have d1 := B0.cell 1
    go_wp2_with (first | (with_reducible refine wl_ld rfl _ 123 rfl _ rfl ?_) | (with_reducible refine wl_stAgg rfl _ _ _ rfl _ _ rfl rfl ?_))
    refine rg_ld B5 Try.underlying123 rfl (by kernel_rfl) ?_
    go_wp2_with (first | (with_reducible refine wl_ld rfl _ 123 rfl _ rfl ?_) | (with_reducible refine wl_stAgg rfl _ _ _ rfl _ _ rfl rfl ?_))
    refine (HVL.out _ kW).mono ?_
    clear HVL
    rintro e w6 ⟨rfl, k6⟩
    replace kW := kW.trans' k6
    replace B0 := B0.keep k6 fun h => h
    replace B1 := B1.keep k6 fun h => h
    clear k6 B5 d1
    by_cases hve : ve = 0
    · subst hve
      have hr := HR2.out
      rw [if_neg (fun h => h rfl)] at hr
      have HR3 := Lib.hid hr
      clear hr HR2
      have d0 := B0.cell 0
      have d1 := B0.cell 1
      have d3 := B0.cell 3
      have hltw := B0.lt
      have hlt1 := B1.lt
      have hgm6 := Nat.lt_of_lt_of_le hgm kW.size
      replace c1 := (kW.cell (p := ⟨gm, om + i * 7 + 1, none⟩) hgm fun h => h).trans c1
      by_cases h8 : ty = 8
      · have hq : ((ty : Int) == 8) = true := by rw [beq_iff_eq]; omega
        have hin : (if ty = 8 then (i : Int) else vu) = (i : Int) := if_pos h8
        rw [hin] at HR3
        clear hin h8
        have hvr6 := hvr
        obtain ⟨rv, hrv⟩ : ∃ rv, rv = valR ty b vs (addI ad) := ⟨_, rfl⟩
        rw [← hrv] at hvr6 HR3
        have hrv0 : 0 ≤ rv.2 := by rw [hrv]; exact (valR_lt ty b vs (addI ad) hvl2).1
        obtain ⟨re, rx⟩ := rv
        dsimp only at hvr6 HR3 hrv0
        clear hvr hrv
        go_wp2_with fail
        go_upto_region 9 with fail
        go_quiet (first | (go_at_call 65; exact Calls.quiet_of_same ((hvr6 _).mono fun _ _ h => ⟨h.1, h.2.symm⟩)))
        have hwa : IntKind.u64.wrap ((b : Int) + (xo : Int)) = (((b + xo) % 18446744073709551616 : Nat) : Int) := by rw [IntKind.wrap_u64]; omega
        go_wp2_with fail
        have hd6 : Keep No w6 (w6.drewN nq) := (Keep.refl No w6).drewN nq
        replace kW := kW.trans' hd6
        replace B0 := B0.keep hd6 fun h => h
        replace B1 := B1.keep hd6 fun h => h
        replace d0 := B0.cell 0
        replace c1 := (hd6.cell (p := ⟨gm, om + i * 7 + 1, none⟩) hgm6 fun h => h).trans c1
        replace hltw := B0.lt
        replace hlt1 := B1.lt
        replace hgm6 := Nat.lt_of_lt_of_le hgm6 hd6.size
        clear hd6 d1 d3 hvr6
        generalize w6.drewN nq = w7 at *
        refine wp_region_sig (fun w' => w'.cell? ⟨gm, om + i * 7 + 1, none⟩ = some (.int .u64 (b : Int)) ∧ w'.cell? ⟨w.heap.size, 0, none⟩ = some (.int .u64 (xo : Int))) (fun j => decide (j ≤ 13)) [(0, true), (1, true), (2, true), (3, true), (4, true), (5, true), (6, true), (7, true), (8, true), (9, true), (10, true), (11, true), (12, false), (13, true)] (by kernel_rfl) (by kernel_rfl) (by intro c a d v w h; cases d <;> exact h) ⟨c1, d0⟩ ?_
        apply sig_still (o := ⟨some 57, _, _, _, _, _⟩) rfl rfl
        · intro w' hS
          obtain ⟨q1, q2⟩ := hS
          first | (go_simp; done) | (go_simp; rfl) | rfl
        go_frame
        apply sig_still (o := ⟨some 58, _, _, _, _, _⟩) rfl rfl
        · intro w' hS
          obtain ⟨q1, q2⟩ := hS
          first | (go_simp; done) | (go_simp; rfl) | rfl
        go_frame
        apply sig_still (o := ⟨some 59, _, _, _, _, _⟩) rfl rfl
        · intro w' hS
          obtain ⟨q1, q2⟩ := hS
          first | (go_simp; done) | (go_simp; rfl) | rfl
        go_frame
        apply sig_still (o := ⟨some 60, _, _, _, _, _⟩) rfl rfl
        · intro w' hS
          obtain ⟨q1, q2⟩ := hS
          first | (go_simp; done) | (go_simp; rfl) | rfl
        go_frame
        apply sig_still (o := ⟨some 61, _, _, _, _, _⟩) rfl rfl
        · intro w' hS
          obtain ⟨q1, q2⟩ := hS
          first | (go_simp; done) | (go_simp; rfl) | rfl
        go_frame
        apply sig_still (o := ⟨some 62, _, _, _, _, _⟩) rfl rfl
        · intro w' hS
          obtain ⟨q1, q2⟩ := hS
          first | (go_simp; done) | (go_simp; rfl) | rfl
        go_frame
        apply sig_still (o := ⟨some 63, _, _, _, _, _⟩) rfl rfl
        · intro w' hS
          obtain ⟨q1, q2⟩ := hS
          first | (go_simp; done) | (go_simp; rfl) | rfl
        go_frame
        apply sig_still (o := ⟨some 64, _, _, _, _, _⟩) rfl rfl
        · intro w' hS
          obtain ⟨q1, q2⟩ := hS
          first | (go_simp; done) | (go_simp; rfl) | rfl
        go_frame
        apply sig_still (o := ⟨some 65, _, _, _, _, _⟩) rfl rfl
        · intro w' hS
          obtain ⟨q1, q2⟩ := hS
          first | (go_simp; done) | (go_simp; rfl) | rfl
        go_frame
        apply sig_still (o := ⟨some 66, _, _, _, _, _⟩) rfl rfl
        · intro w' hS
          obtain ⟨q1, q2⟩ := hS
          first | (go_simp; done) | (go_simp; rfl) | rfl
        go_frame
        apply sig_still (o := ⟨some 67, _, _, _, _, _⟩) rfl rfl
        · intro w' hS
          obtain ⟨q1, q2⟩ := hS
          first | (go_simp; done) | (go_simp; rfl) | rfl
        go_frame
        apply sig_still (o := ⟨some 68, _, _, _, _, _⟩) rfl rfl
        · intro w' hS
          obtain ⟨q1, q2⟩ := hS
          first | (go_simp; done) | (go_simp; rfl) | rfl
        go_frame
        refine sig_eff (o := ⟨none, _, _, _, _, _⟩) rfl rfl (fun K hKe => ?_)
        have hd7 : Keep No w7 w7.drew := (Keep.refl No w7).drew
        replace kW := kW.trans' hd7
        replace B1 := B1.keep hd7 fun h => h
        replace c1 := (hd7.cell (p := ⟨gm, om + i * 7 + 1, none⟩) hgm6 fun h => h).trans c1
        replace d0 := (hd7.cell (p := ⟨w.heap.size, 0, none⟩) hltw fun h => h).trans d0
        replace hltw := Nat.lt_of_lt_of_le hltw hd7.size
        replace hgm6 := Nat.lt_of_lt_of_le hgm6 hd7.size
        clear B0 hd7
        generalize w7.drew = w8 at *
        refine wo_stAgg (.tmp 8) (.tmp 67) 80 rfl _ _ rfl rfl ?_
        refine rg_stAgg B1 (by kernel_rfl) (by rfl) (by simp [Value.oneCell']) ?_
        intro wf hIf hkf hzf
        refine hKe _ _ ⟨fun _ => ⟨(hkf.cell (p := ⟨gm, om + i * 7 + 1, none⟩) hgm6 fun e => by have e2 : gm = w.heap.size + 1 := e; omega).trans c1, (hkf.cell (p := ⟨w.heap.size, 0, none⟩) hltw fun e => by have e2 : w.heap.size = w.heap.size + 1 := e; omega).trans d0⟩, ?_⟩
        apply sig_still (o := ⟨some 9, _, _, _, _, _⟩) rfl rfl
        · intro w' hS
          obtain ⟨q1, q2⟩ := hS
          first | (go_simp; done) | (go_simp; rfl) | rfl
        go_frame
        refine sig_nil ?_
        go_wp2_with fail
        refine ret_blk_tmp rfl rfl hIf Try.underlying80 rfl (by kernel_rfl) rfl ⟨?_, kW.trans hkf fun j hj e => by have e2 : j = w.heap.size + 1 := e; omega⟩
        rw [HR3.out]
        exact ret_wd rfl rfl (Int.toNat_of_nonneg hrv0).symm rfl rfl
      · have hq : ((ty : Int) == 8) = false := by rw [beq_eq_false_iff_ne]; omega
        have hin : (if ty = 8 then (i : Int) else vu) = vu := if_neg h8
        rw [hin] at HR3
        clear hin h8
        have hvr6 := hvr
        obtain ⟨rv, hrv⟩ : ∃ rv, rv = valR ty b vs (addI ad) := ⟨_, rfl⟩
        rw [← hrv] at hvr6 HR3
        have hrv0 : 0 ≤ rv.2 := by rw [hrv]; exact (valR_lt ty b vs (addI ad) hvl2).1
        obtain ⟨re, rx⟩ := rv
        dsimp only at hvr6 HR3 hrv0
        clear hvr hrv
        go_wp2_with fail
        go_upto_region 9 with fail
        go_quiet (first | (go_at_call 65; exact Calls.quiet_of_same ((hvr6 _).mono fun _ _ h => ⟨h.1, h.2.symm⟩)))
        have hwa : IntKind.u64.wrap ((b : Int) + (xo : Int)) = (((b + xo) % 18446744073709551616 : Nat) : Int) := by rw [IntKind.wrap_u64]; omega
        go_wp2_with fail
        have hd6 : Keep No w6 (w6.drewN nq) := (Keep.refl No w6).drewN nq
        replace kW := kW.trans' hd6
        replace B0 := B0.keep hd6 fun h => h
        replace B1 := B1.keep hd6 fun h => h
        replace d0 := B0.cell 0
        replace c1 := (hd6.cell (p := ⟨gm, om + i * 7 + 1, none⟩) hgm6 fun h => h).trans c1
        replace hltw := B0.lt
        replace hlt1 := B1.lt
        replace hgm6 := Nat.lt_of_lt_of_le hgm6 hd6.size
        clear hd6 d1 d3 hvr6
        generalize w6.drewN nq = w7 at *
        refine wp_region_sig (fun w' => w'.cell? ⟨gm, om + i * 7 + 1, none⟩ = some (.int .u64 (b : Int)) ∧ w'.cell? ⟨w.heap.size, 0, none⟩ = some (.int .u64 (xo : Int))) (fun j => decide (j ≤ 13)) [(0, true), (1, true), (2, true), (3, true), (4, true), (5, true), (6, true), (7, true), (8, true), (9, true), (10, true), (11, true), (12, false), (13, true)] (by kernel_rfl) (by kernel_rfl) (by intro c a d v w h; cases d <;> exact h) ⟨c1, d0⟩ ?_
        apply sig_still (o := ⟨some 57, _, _, _, _, _⟩) rfl rfl
        · intro w' hS
          obtain ⟨q1, q2⟩ := hS
          first | (go_simp; done) | (go_simp; rfl) | rfl
        go_frame
        apply sig_still (o := ⟨some 58, _, _, _, _, _⟩) rfl rfl
        · intro w' hS
          obtain ⟨q1, q2⟩ := hS
          first | (go_simp; done) | (go_simp; rfl) | rfl
        go_frame
        apply sig_still (o := ⟨some 59, _, _, _, _, _⟩) rfl rfl
        · intro w' hS
          obtain ⟨q1, q2⟩ := hS
          first | (go_simp; done) | (go_simp; rfl) | rfl
        go_frame
        apply sig_still (o := ⟨some 60, _, _, _, _, _⟩) rfl rfl
        · intro w' hS
          obtain ⟨q1, q2⟩ := hS
          first | (go_simp; done) | (go_simp; rfl) | rfl
        go_frame
        apply sig_still (o := ⟨some 61, _, _, _, _, _⟩) rfl rfl
        · intro w' hS
          obtain ⟨q1, q2⟩ := hS
          first | (go_simp; done) | (go_simp; rfl) | rfl
        go_frame
        apply sig_still (o := ⟨some 62, _, _, _, _, _⟩) rfl rfl
        · intro w' hS
          obtain ⟨q1, q2⟩ := hS
          first | (go_simp; done) | (go_simp; rfl) | rfl
        go_frame
        apply sig_still (o := ⟨some 63, _, _, _, _, _⟩) rfl rfl
        · intro w' hS
          obtain ⟨q1, q2⟩ := hS
          first | (go_simp; done) | (go_simp; rfl) | rfl
        go_frame
        apply sig_still (o := ⟨some 64, _, _, _, _, _⟩) rfl rfl
        · intro w' hS
          obtain ⟨q1, q2⟩ := hS
          first | (go_simp; done) | (go_simp; rfl) | rfl
        go_frame
        apply sig_still (o := ⟨some 65, _, _, _, _, _⟩) rfl rfl
        · intro w' hS
          obtain ⟨q1, q2⟩ := hS
          first | (go_simp; done) | (go_simp; rfl) | rfl
        go_frame
        apply sig_still (o := ⟨some 66, _, _, _, _, _⟩) rfl rfl
        · intro w' hS
          obtain ⟨q1, q2⟩ := hS
          first | (go_simp; done) | (go_simp; rfl) | rfl
        go_frame
        apply sig_still (o := ⟨some 67, _, _, _, _, _⟩) rfl rfl
        · intro w' hS
          obtain ⟨q1, q2⟩ := hS
          first | (go_simp; done) | (go_simp; rfl) | rfl
        go_frame
        apply sig_still (o := ⟨some 68, _, _, _, _, _⟩) rfl rfl
        · intro w' hS
          obtain ⟨q1, q2⟩ := hS
          first | (go_simp; done) | (go_simp; rfl) | rfl
        go_frame
        refine sig_eff (o := ⟨none, _, _, _, _, _⟩) rfl rfl (fun K hKe => ?_)
        have hd7 : Keep No w7 w7.drew := (Keep.refl No w7).drew
        replace kW := kW.trans' hd7
        replace B1 := B1.keep hd7 fun h => h
        replace c1 := (hd7.cell (p := ⟨gm, om + i * 7 + 1, none⟩) hgm6 fun h => h).trans c1
        replace d0 := (hd7.cell (p := ⟨w.heap.size, 0, none⟩) hltw fun h => h).trans d0
        replace hltw := Nat.lt_of_lt_of_le hltw hd7.size
        replace hgm6 := Nat.lt_of_lt_of_le hgm6 hd7.size
        clear B0 hd7
        generalize w7.drew = w8 at *
        refine wo_stAgg (.tmp 8) (.tmp 67) 80 rfl _ _ rfl rfl ?_
        refine rg_stAgg B1 (by kernel_rfl) (by rfl) (by simp [Value.oneCell']) ?_
        intro wf hIf hkf hzf
        refine hKe _ _ ⟨fun _ => ⟨(hkf.cell (p := ⟨gm, om + i * 7 + 1, none⟩) hgm6 fun e => by have e2 : gm = w.heap.size + 1 := e; omega).trans c1, (hkf.cell (p := ⟨w.heap.size, 0, none⟩) hltw fun e => by have e2 : w.heap.size = w.heap.size + 1 := e; omega).trans d0⟩, ?_⟩
        apply sig_still (o := ⟨some 9, _, _, _, _, _⟩) rfl rfl
        · intro w' hS
          obtain ⟨q1, q2⟩ := hS
          first | (go_simp; done) | (go_simp; rfl) | rfl
        go_frame
        refine sig_nil ?_
        go_wp2_with fail
        refine ret_blk_tmp rfl rfl hIf Try.underlying80 rfl (by kernel_rfl) rfl ⟨?_, kW.trans hkf fun j hj e => by have e2 : j = w.heap.size + 1 := e; omega⟩
        rw [HR3.out]
        exact ret_wd rfl rfl (Int.toNat_of_nonneg hrv0).symm rfl rfl
    · have hr := HR2.out
      rw [if_pos hve] at hr
      subst hr
      have hb : ((ve : Int) != 0) = true := by rw [bne_iff_ne]; omega
      go_wp2_with (first | (with_reducible refine wl_build rfl 80 _ rfl ?_) | (with_reducible refine wl_stAgg rfl _ _ _ rfl _ _ rfl rfl ?_))
      refine rg_build (cells := #[.int .u64 0, .int .u64 0, .int .i64 0]) (by kernel_rfl) ?_
      go_wp2_with (first | (with_reducible refine wl_build rfl 80 _ rfl ?_) | (with_reducible refine wl_stAgg rfl _ _ _ rfl _ _ rfl rfl ?_))
      refine rg_stAgg B1 (by kernel_rfl) (by rfl) (by simp [Value.oneCell']) ?_
      intro wf hIf hkf hzf
      go_wp2_with fail
      refine ret_blk_tmp rfl rfl hIf Try.underlying80 rfl (by kernel_rfl) rfl ⟨rfl, kW.trans hkf fun j hj e => by have e2 : j = w.heap.size + 1 := e; omega⟩
  · have hr := HR.out
    rw [if_pos hte] at hr
    subst hr
    have hb : ((te : Int) != 0) = true := by rw [bne_iff_ne]; omega
    go_wp2_with (first | (with_reducible refine wl_build rfl 80 _ rfl ?_) | (with_reducible refine wl_stAgg rfl _ _ _ rfl _ _ rfl rfl ?_))
    refine rg_build (cells := #[.int .u64 0, .int .u64 0, .int .i64 0]) (by kernel_rfl) ?_
    go_wp2_with (first | (with_reducible refine wl_build rfl 80 _ rfl ?_) | (with_reducible refine wl_stAgg rfl _ _ _ rfl _ _ rfl rfl ?_))
    refine rg_stAgg B1 (by kernel_rfl) (by rfl) (by simp [Value.oneCell']) ?_
    intro wf hIf hkf hzf
    go_wp2_with fail
    refine ret_blk_tmp rfl rfl hIf Try.underlying80 rfl (by kernel_rfl) rfl ⟨rfl, kW.trans hkf fun j hj e => by have e2 : j = w.heap.size + 1 := e; omega⟩
end
end Go.Proofs.Ytbnahidopemkiaa
