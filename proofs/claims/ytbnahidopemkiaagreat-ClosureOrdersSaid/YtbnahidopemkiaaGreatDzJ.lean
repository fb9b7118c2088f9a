/- The document's image: relocations and symbols against the segments. No condition. -/
import Derived.Test.YtbnahidopemkiaaGreatDzI
import Derived.Test.YtbnahidopemkiaaGreatClN
import Derived.BigQuiet
set_option linter.unusedVariables false
set_option linter.unusedSimpArgs false
namespace Go.Dm.Ld
open Go Go.Dm.Oc
theorem chkB_all {size : Nat} : ∀ (l pre : List Sg), chkB size pre l = 0 → ∀ x ∈ l, oneE x size = 0
  | [], _, _, x, hx => by cases hx
  | s :: r, pre, h, x, hx => by
    unfold chkB at h
    by_cases h0 : oneE s size ≠ 0
    · rw [if_pos h0] at h; exact absurd h h0
    · rw [if_neg h0] at h
      by_cases h1 : inG s pre.reverse ≠ 0
      · rw [if_pos h1] at h; exact absurd h h1
      · rw [if_neg h1] at h
        rcases List.mem_cons.1 hx with rfl | hx
        · exact Decidable.of_not_not h0
        · exact chkB_all r _ h x hx
theorem chkE_all {l : List Sg} {size : Nat} (h : chkE l size = 0) : ∀ x ∈ l, oneE x size = 0 := by
  rw [chkE_L] at h
  unfold chkL at h
  rw [List.take_zero, List.drop_zero] at h
  by_cases h0 : chkB size [] l ≠ 0
  · rw [if_pos h0] at h; exact absurd h h0
  · exact chkB_all l [] (Decidable.of_not_not h0)
def loadB (s : Sg) (a : Nat) : Bool := decide (s.ty = 1 ∧ s.va ≤ a ∧ a - s.va ≤ s.me ∧ 8 ≤ s.me - (a - s.va))
theorem load_eq {s : Sg} {size a : Nat} (h : oneE s size = 0) : loadB s a = decide (s.ty = 1 ∧ s.va ≤ a ∧ a < s.va + s.me ∧ 8 ≤ s.va + s.me - a) := by
  unfold loadB
  rw [decide_eq_decide]
  omega
def okR (l : List Sg) (x : Rl) : Bool := decide (x.ty = 0) || loadedB l x.off
theorem sound_eq (l : List Sg) (rl : List Rl) (sl : List Sy) : soundM l rl sl = if rl.all (okR l) then sySound l sl else 40 := by
  have e : rl.any (fun x => decide (x.ty ≠ 0) && !loadedB l x.off) = !(rl.all (okR l)) := by
    rw [List.all_eq_not_any_not, Bool.not_not]
    congr 1
    funext x
    unfold okR
    by_cases h : x.ty = 0
    · simp [h]
    · simp [h]
  unfold soundM
  rw [e]
  cases rl.all (okR l) <;> rfl
end Go.Dm.Ld
namespace Go.Proofs.YtbnahidopemkiaaGreat
open Go.RowKit Go.Dm Go.Dm.Oc Go.Dm.Ld
section
variable {A B : Nat → Prop} {w : World} {v : Value}
section
variable {z0 z1 z2 z3 z4 z5 z6 z7 z8 z9 z10 z11 z12 z13 z14 z15 z16 z17 z18 z19 z20 z21 z22 z23 z24 z25 z26 z27 z28 z29 z30 z31 z32 z33 z34 z35 z36 z37 z38 z39 z40 z41 z42 z43 z44 z45 z46 z47 z48 z49 z50 z51 z52 z53 z54 z55 z56 z57 z58 z59 z60 z61 z62 z63 z64 z65 z66 z67 z68 z69 z70 z71 z72 z73 z74 z75 z76 z77 z78 z79 z80 z81 z82 z83 z84 z85 z86 z87 z88 z89 z90 z91 z92 z93 z94 z95 z96 z97 z98 z99 z100 z101 z102 z103 z104 z105 z106 z107 z108 z109 z110 z111 z112 z113 z114 z115 z116 z117 z118 z119 z120 z121 z122 z123 z124 z125 z126 z127 z128 : Value}
set_option maxRecDepth 100000 in
set_option maxHeartbeats 6000000 in
theorem held_b {h : Hd} {so : BS} {vs vn vm vy vr vb : Value} {l : List Sg} {sl : List Sy} {r : Nat} {w0 : World} (hX : Blk w0 w.heap.size (imC h vs so vn vm vy vr vb).toArray 70) (hs : Fl A w 7 encSg vs l) (hy : Fl B w 6 encSy vy sl) (hyok : ∀ x ∈ sl, SyOk x)
    (hr : r = sySound l sl) (hk : Keep No w w0) :
    Code.wp Tryz.prog (bodyFrom Tryz.f66 13) (bodyPost Tryz.prog Tryz.f66 fun e w' => e = .returned (.int .i64 (r : Nat)) ∧ Keep No w w') ⟨#[z0, .pointer (some ⟨w.heap.size, 0, none⟩), z2, z3, z4, z5, z6, z7, z8, z9, z10, z11, z12, z13, z14, z15, z16, z17, z18, z19, z20, z21, z22, z23, z24, z25, z26, z27, z28, z29, z30, z31, z32, z33, z34, z35, z36, z37, z38, z39, z40, z41, z42, z43, z44, z45, z46, z47, z48, z49, z50, z51, z52, z53, z54, z55, z56, z57, z58, z59, z60, z61, z62, z63, z64, z65, z66, z67, z68, z69, z70, z71, z72, z73, z74, z75, z76, z77, z78, z79, z80, z81, z82, z83, z84, z85, z86, z87, z88, z89, z90, z91, z92, z93, z94, z95, z96, z97, z98, z99, z100, z101, z102, z103, z104, z105, z106, z107, z108, z109, z110, z111, z112, z113, z114, z115, z116, z117, z118, z119, z120, z121, z122, z123, z124, z125, z126, z127, z128], []⟩ w0 := by
  have HK := Lib.hid hk
  have HS := Lib.hid hs
  have HY := Lib.hid hy
  have HYOK := Lib.hid hyok
  have hfind := r04find_any (w := w0) l 7 (hs.no hk)
  have hfi := fIdx_find l 7
  have HX := Lib.hid hX
  have H0 : Hid (r = sySound l (sl.drop 0)) := Lib.hid hr
  have x4 : w0.cell? ⟨w.heap.size, 4, none⟩ = some vs := hX.cell 4
  obtain ⟨a1, ps, rfl, _, hps⟩ := hs.shape
  obtain ⟨ay, py, rfl, hpy1, hpy2⟩ := hy.shape
  have hib : (sl.length : Int) ≤ 9223372036854775807 := by unfold maxLen at hpy2; omega
  have hll : l.length ≤ 9223372036854775807 := by unfold maxLen at hps; omega
  obtain ⟨n, hn1⟩ : ∃ n, n = sl.length := ⟨_, rfl⟩
  have HN := Lib.hid hn1
  rw [← hn1] at HX HY hib
  clear hs hy hyok hX hr hn1 hps hpy1 hpy2
  obtain ⟨ti, hti⟩ : ∃ q, q = fIdxZ l 7 := ⟨_, rfl⟩
  rw [← hti] at hfind
  have HTI := Lib.hid hti
  have HFI := Lib.hid hfi
  clear hti hfi
  conv => arg 2; whnf
  go_wp2_with fail
  refine hfind.mono ?_
  clear hfind x4
  rintro e wq ⟨rfl, rfl⟩
  go_wp2_with fail
  go_loopw [8] (fun iv wr => ∃ i : Nat, iv = .int .i64 (i : Int) ∧ i ≤ n ∧ Hid (r = sySound l (sl.drop i)) ∧ Keep No w0 wr) (fun iv _ => n - (intOf iv).toNat)
  case atStart => exact ⟨0, rfl, Nat.zero_le _, H0, Keep.refl _ _⟩
  case round =>
    obtain ⟨i, rfl, hi, HM, hkr⟩ := hrel
    clear H0
    generalize wr = wz at *
    have hXz := HX.out.keep hkr fun h => h
    have x8 : wz.cell? ⟨w.heap.size, 8, none⟩ = some (.slice ay n py) := hXz.cell 8
    have x4 : wz.cell? ⟨w.heap.size, 4, none⟩ = some (.slice a1 l.length ps) := hXz.cell 4
    rcases Nat.lt_or_ge i n with hlt | hge
    · have hil : i < sl.length := by rw [← HN.out]; exact hlt
      have hiz : (i : Int) < (n : Int) := by omega
      obtain ⟨g, off, cap, ev, _, hg, _, _, hc⟩ := ((HY.out.no hk).no hkr).at encSy_len hil
      rw [← HN.out] at ev
      injection ev with e1 e2 e3
      subst e1 e3
      have hsk := HYOK.out _ (List.getElem_mem hil)
      have hm := HM.out
      rw [List.drop_eq_getElem_cons hil, sySound_cons] at hm
      have c1 := hc 1 _ rfl
      have c3 := hc 3 _ rfl
      have c4 := hc 4 _ rfl
      generalize sl[i] = s at *
      obtain ⟨y0, y1, y2, y3, y4, y5⟩ := s
      obtain ⟨b0, b1, b2, b3, b4, b5⟩ := hsk
      dsimp only at hm b0 b1 b2 b3 b4 b5 c1 c3 c4
      have HM2 := Lib.hid hm
      have hk := hkr
      clear hm HM hc e2 hkr
      by_cases h3 : y3 = 0
      · subst h3
        have hm := HM2.out
        rw [if_pos rfl] at hm
        have HG2 := Lib.hid hm
        clear hm HM2
        go_wp2_with fail
        go_roundw
        case rel => exact ⟨i + 1, by go_num, hlt, HG2, hk⟩
        case measure => (simp [intOf]; try omega)
      · have g3 : ((y3 : Int) == 0) = false := by rw [beq_eq_false_iff_ne]; omega
        have hm := HM2.out
        rw [if_neg h3] at hm
        have HM3 := Lib.hid hm
        clear hm HM2
        by_cases h6 : y1 % 16 = 6
        · have hm := HM3.out
          rw [if_pos h6] at hm
          have HM4 := Lib.hid hm
          have g6 : ((y1 : Int) % 16 == 6) = true := by rw [beq_iff_eq]; omega
          have g6b : ((y1 : Int).tmod 16 == 6) = true := by rw [beq_iff_eq, Int.tmod_eq_emod_of_nonneg (by omega)]; omega
          clear hm HM3 h6
          have hfi := HFI.out
          have hti := HTI.out
          unfold fIdxZ at hti
          cases hfx : fIdx l 7 with
          | none =>
            rw [hfx] at hfi hti
            dsimp only at hfi hti
            subst hti
            have hm := HM4.out
            rw [hfi] at hm
            have hm : r = 11 := hm
            subst hm
            clear hfi HM4 hfx
            go_wp2_with fail
            go_quiet (fail)
            go_wp2_with fail
            go_ret
            exact ⟨rfl, (HK.out.trans' hk).drewN _⟩
          | some k =>
            rw [hfx] at hfi hti
            dsimp only at hfi hti
            obtain ⟨hkl, hfm⟩ := hfi
            subst hti
            have hm := HM4.out
            rw [hfm] at hm
            dsimp only at hm
            obtain ⟨g7, off7, cap7, ev, _, hg7, _, _, hc7⟩ := ((HS.out.no HK.out).no hk).at encSg_len hkl
            injection ev with e1 e2 e3
            subst e1 e3
            have d5 := hc7 5 _ rfl
            have hkz : (k : Int) < (l.length : Int) := by omega
            generalize l[k] = sg at *
            obtain ⟨q0, q1, q2, q3, q4, q5, q6⟩ := sg
            dsimp only at d5 hm
            have HM5 := Lib.hid hm
            clear hm HM4 hfx hfm hc7 e2
            by_cases h5 : q5 < y4
            · have g5 : decide ((q5 : Int) < (y4 : Int)) = true := by rw [decide_eq_true_eq]; omega
              have g5n : decide (q5 < y4) = true := by rw [decide_eq_true_eq]; omega
              have hm := HM5.out
              rw [if_pos h5] at hm
              subst hm
              clear h5 HM5
              go_wp2_with fail
              go_quiet (fail)
              go_wp2_with fail
              go_ret
              exact ⟨rfl, (HK.out.trans' hk).drewN _⟩
            · have g5 : decide ((q5 : Int) < (y4 : Int)) = false := by rw [decide_eq_false_iff_not]; omega
              have g5n : decide (q5 < y4) = false := by rw [decide_eq_false_iff_not]; omega
              have hm := HM5.out
              rw [if_neg h5] at hm
              have HG2 := Lib.hid hm
              clear h5 HM5 hm
              go_wp2_with fail
              go_quiet (fail)
              go_wp2_with fail
              go_roundw
              case rel => exact ⟨i + 1, by go_num, hlt, HG2, hk.drewN _⟩
              case measure => (simp [intOf]; try omega)
        · have hm := HM3.out
          rw [if_neg h6] at hm
          have HM4 := Lib.hid hm
          have g6 : ((y1 : Int) % 16 == 6) = false := by rw [beq_eq_false_iff_ne]; omega
          have g6b : ((y1 : Int).tmod 16 == 6) = false := by rw [beq_eq_false_iff_ne, Int.tmod_eq_emod_of_nonneg (by omega)]; omega
          clear hm HM3 h6
          by_cases h5 : 4294967296 < y4
          · have g5 : (4294967296 : Int) < (y4 : Int) := by omega
            have hm := HM4.out
            rw [if_pos h5] at hm
            subst hm
            clear h5 HM4
            go_wp2_with fail
            go_ret
            exact ⟨rfl, HK.out.trans' hk⟩
          · have g5 : (y4 : Int) ≤ 4294967296 := by omega
            have hm := HM4.out
            rw [if_neg h5] at hm
            have HG2 := Lib.hid hm
            clear h5 HM4 hm
            go_wp2_with fail
            go_roundw
            case rel => exact ⟨i + 1, by go_num, hlt, HG2, hk⟩
            case measure => (simp [intOf]; try omega)
    · obtain rfl : i = n := Nat.le_antisymm hi hge
      have hm := HM.out
      rw [List.drop_of_length_le (by rw [← HN.out]; exact Nat.le_refl _)] at hm
      replace hm : r = 0 := hm
      subst hm
      go_wp2_with fail
      go_ret
      exact ⟨rfl, hk.trans' hkr⟩
end
set_option maxRecDepth 100000 in
set_option maxHeartbeats 6000000 in
theorem r09held_any (h : Hd) (so : BS) (vs vn vm vy vr vb : Value) (l : List Sg) (rl : List Rl) (sl : List Sy) (size : Nat) (hsz : size ≤ 1000000000) (hs : Fl A w 7 encSg vs l) (hone : ∀ x ∈ l, oneE x size = 0) (hok : ∀ x ∈ l, SgOk x) (hy : Fl B w 6 encSy vy sl) (hyok : ∀ x ∈ sl, SyOk x) (hr : Fl B w 4 encRl vr rl) (hrok : ∀ x ∈ rl, RlOk x)
    (hvb : ∃ a n c, vb = .slice a n c) (hvn : ∃ a n c, vn = .slice a n c) (hvm : ∃ a n c, vm = .slice a n c) :
    Calls Tryz.prog 66 #[.agg (imC h vs so vn vm vy vr vb).toArray] w fun e w' => e = .returned (.int .i64 (soundM l rl sl : Nat)) ∧ Keep No w w' := by
  have HY := Lib.hid (And.intro hy hyok)
  have HS := Lib.hid hs
  have HONE := Lib.hid hone
  have HOK := Lib.hid hok
  have HRR := Lib.hid hr
  have HROK := Lib.hid hrok
  obtain ⟨r, hrr⟩ : ∃ r, r = soundM l rl sl := ⟨_, rfl⟩
  rw [← hrr]
  rw [sound_eq] at hrr
  have HR := Lib.hid hrr
  obtain ⟨a1, p1, rfl, hq1, hq2⟩ := hs.shape
  obtain ⟨a2, p2, rfl, _, _⟩ := hy.shape
  obtain ⟨a3, p3, rfl, hq3, hq4⟩ := hr.shape
  obtain ⟨a4, n4, p4, rfl⟩ := hvb
  obtain ⟨a5, n5, p5, rfl⟩ := hvn
  obtain ⟨a6, n6, p6, rfl⟩ := hvm
  have hib : (rl.length : Int) ≤ 9223372036854775807 := by unfold maxLen at hq4; omega
  have hib2 : (l.length : Int) ≤ 9223372036854775807 := by unfold maxLen at hq2; omega
  obtain ⟨n, hn1⟩ : ∃ n, n = rl.length := ⟨_, rfl⟩
  obtain ⟨m, hm1⟩ : ∃ n, n = l.length := ⟨_, rfl⟩
  have HN := Lib.hid hn1
  have HM := Lib.hid hm1
  have H0 : Hid (∀ j (h : j < rl.length), j < 0 → okR l rl[j] = true) := Lib.hid fun j _ h => absurd h (Nat.not_lt_zero _)
  rw [← hn1] at HRR hib ⊢
  rw [← hm1] at HS hib2 ⊢
  clear hs hy hr hone hok hyok hrok hrr hn1 hm1 hq1 hq2 hq3 hq4
  have hicx : (imC h (.slice a1 m p1) so (.slice a5 n5 p5) (.slice a6 n6 p6) (.slice a2 sl.length p2) (.slice a3 n p3) (.slice a4 n4 p4)).toArray = #[.int .i64 (h.kind : Int), .int .u64 (h.entry : Int), .int .u64 (h.segs : Int), .int .i64 (h.count : Int), .slice a1 m p1, .string ⟨so.toArray⟩, .slice a5 n5 p5, .slice a6 n6 p6, .slice a2 sl.length p2, .slice a3 n p3, .slice a4 n4 p4] := rfl
  rw [hicx]
  clear hicx
  go_enter Tryz.func66, Tryz.ntmps66
  go_upto_block 0 with fail
  have hkW1 : Keep No w (w.alloc (.cells #[.int .i64 (h.kind : Int), .int .u64 (h.entry : Int), .int .u64 (h.segs : Int), .int .i64 (h.count : Int), .slice a1 m p1, .string ⟨so.toArray⟩, .slice a5 n5 p5, .slice a6 n6 p6, .slice a2 sl.length p2, .slice a3 n p3, .slice a4 n4 p4] 70)) := (Keep.refl _ _).alloc _
  have hBW1 : Blk (w.alloc (.cells #[.int .i64 (h.kind : Int), .int .u64 (h.entry : Int), .int .u64 (h.segs : Int), .int .i64 (h.count : Int), .slice a1 m p1, .string ⟨so.toArray⟩, .slice a5 n5 p5, .slice a6 n6 p6, .slice a2 sl.length p2, .slice a3 n p3, .slice a4 n4 p4] 70)) w.heap.size #[.int .i64 (h.kind : Int), .int .u64 (h.entry : Int), .int .u64 (h.segs : Int), .int .i64 (h.count : Int), .slice a1 m p1, .string ⟨so.toArray⟩, .slice a5 n5 p5, .slice a6 n6 p6, .slice a2 sl.length p2, .slice a3 n p3, .slice a4 n4 p4] 70 := Blk.new _ _ _
  have hzW1 : (w.alloc (.cells #[.int .i64 (h.kind : Int), .int .u64 (h.entry : Int), .int .u64 (h.segs : Int), .int .i64 (h.count : Int), .slice a1 m p1, .string ⟨so.toArray⟩, .slice a5 n5 p5, .slice a6 n6 p6, .slice a2 sl.length p2, .slice a3 n p3, .slice a4 n4 p4] 70)).heap.size = w.heap.size + 1 := World.size_alloc _ _
  generalize w.alloc (.cells #[.int .i64 (h.kind : Int), .int .u64 (h.entry : Int), .int .u64 (h.segs : Int), .int .i64 (h.count : Int), .slice a1 m p1, .string ⟨so.toArray⟩, .slice a5 n5 p5, .slice a6 n6 p6, .slice a2 sl.length p2, .slice a3 n p3, .slice a4 n4 p4] 70) = W1 at *
  have hX1 : Blk W1 w.heap.size (imC h (.slice a1 m p1) so (.slice a5 n5 p5) (.slice a6 n6 p6) (.slice a2 sl.length p2) (.slice a3 n p3) (.slice a4 n4 p4)).toArray 70 := hBW1
  clear hBW1 hzW1
  go_cut [3, 4, 5, 6] from 9 (fun _ _ _ _ wc => rl.all (okR l) = true ∧ Keep No W1 wc)
  case rest =>
    obtain ⟨hall, hk2⟩ := hcut
    have hr := HR.out
    rw [if_pos hall] at hr
    refine use_k (by assumption) ?_
    have hs' := HS.out
    rw [HM.out] at hX1 hs'
    exact held_b (A := A) (B := B) (hX1.keep hk2 fun h => h) hs' HY.out.1 HY.out.2 hr (hkW1.trans' hk2)
  case first =>
    go_wp2_with fail
    go_loopw [3, 4, 5, 6] (fun iv _ _ _ wr => ∃ i : Nat, iv = .int .i64 (i : Int) ∧ i ≤ n ∧ Hid (∀ j (h : j < rl.length), j < i → okR l rl[j] = true) ∧ Keep No W1 wr) (fun iv _ _ _ _ => n - (intOf iv).toNat)
    case atStart => exact ⟨0, rfl, Nat.zero_le _, H0, Keep.refl _ _⟩
    case round =>
      obtain ⟨i, rfl, hi, HA, hk⟩ := hrel
      clear H0
      generalize wr = wz at *
      have hXz := hX1.keep hk fun h => h
      have x9 : wz.cell? ⟨w.heap.size, 9, none⟩ = some (.slice a3 n p3) := hXz.cell 9
      have x4 : wz.cell? ⟨w.heap.size, 4, none⟩ = some (.slice a1 m p1) := hXz.cell 4
      rcases Nat.lt_or_ge i n with hlt | hge
      · have hil : i < rl.length := by rw [← HN.out]; exact hlt
        have hiz : (i : Int) < (n : Int) := by omega
        obtain ⟨g, off, cap, ev, _, hg, _, _, hc⟩ := ((HRR.out.no hkW1).no hk).at encRl_len hil
        rw [← HN.out] at ev
        injection ev with e1 e2 e3
        subst e1 e3
        have hsk := HROK.out _ (List.getElem_mem hil)
        have hcw := fun W (k : Keep No W1 W) => ((HRR.out.no hkW1).no k).cells encRl_len hil
        have hast : okR l rl[i] = true → ∀ j (h : j < rl.length), j < i + 1 → okR l rl[j] = true := fun h j hj hj2 => by
          rcases Nat.lt_or_ge j i with h3 | h3
          · exact HA.out j hj h3
          · obtain rfl : j = i := by omega
            exact h
        have hbad : okR l rl[i] = false → r = 40 := fun h => by
          rw [HR.out, if_neg]
          intro q
          rw [List.all_eq_true.1 q _ (List.getElem_mem hil)] at h
          cases h
        generalize rl[i] = x at *
        obtain ⟨y0, y1, y2, y3⟩ := x
        obtain ⟨b0, b1, b2, b3⟩ := hsk
        have HC := Lib.hid hcw
        have c1 := hc 1 _ rfl
        dsimp only at b0 b1 b2 b3 c1
        have hokR : okR l ⟨y0, y1, y2, y3⟩ = (decide (y1 = 0) || l.any fun y => loadB y y0) := rfl
        rw [hokR] at hast hbad
        have HAST := Lib.hid hast
        have HBAD := Lib.hid hbad
        have hb0 : ((y1 : Int) == 0) = decide (y1 = 0) := by rw [Bool.eq_iff_iff, beq_iff_eq, decide_eq_true_eq]; omega
        have HB0 : Hid (decide (y1 = 0) = (decide (y1 = 0) || (l.take 0).any fun y => loadB y y0)) := Lib.hid (by rw [List.take_zero, List.any_nil, Bool.or_false])
        clear hc hcw hast hbad hokR e2 HA
        go_wp2_with fail
        try rw [hb0]
        go_loopw [4, 5, 6] (fun bv kv _ wr => ∃ (b : Bool) (k : Nat), bv = .bool b ∧ kv = .int .i64 (k : Int) ∧ k ≤ m ∧ Hid (b = (decide (y1 = 0) || (l.take k).any fun y => loadB y y0)) ∧ Keep No W1 wr) (fun _ kv _ _ => m - (intOf kv).toNat)
        case atStart => exact ⟨_, 0, rfl, rfl, Nat.zero_le _, HB0, hk⟩
        case round =>
          clear HB0 hk c1 x9 x4 hXz hb0
          obtain ⟨b, k, rfl, rfl, hkm, HB, hk⟩ := hrel
          generalize wr = wy at *
          have hXy := hX1.keep hk fun h => h
          have x4 : wy.cell? ⟨w.heap.size, 4, none⟩ = some (.slice a1 m p1) := hXy.cell 4
          rcases Nat.lt_or_ge k m with hklt | hkge
          · have hkl : k < l.length := by rw [← HM.out]; exact hklt
            have hkz : (k : Int) < (m : Int) := by omega
            obtain ⟨g2, off2, cap2, ev, _, hg2, _, _, hc2⟩ := ((HS.out.no hkW1).no hk).at encSg_len hkl
            rw [← HM.out] at ev
            injection ev with e1 e2 e3
            subst e1 e3
            have hso := HONE.out _ (List.getElem_mem hkl)
            have hsg := HOK.out _ (List.getElem_mem hkl)
            have ht : (decide (y1 = 0) || (l.take (k + 1)).any (fun y => loadB y y0)) = ((decide (y1 = 0) || (l.take k).any (fun y => loadB y y0)) || loadB l[k] y0) := by
              rw [List.take_succ_eq_append_getElem hkl, List.any_append, List.any_cons, List.any_nil, Bool.or_false, Bool.or_assoc]
            generalize l[k] = sg at *
            have HT : Hid ((decide (y1 = 0) || (l.take (k + 1)).any (fun y => loadB y y0)) = (b || loadB sg y0)) := Lib.hid (by rw [ht, ← HB.out])
            have hle := load_eq (a := y0) hso
            have hlt1 := oneE_lt hso
            have honeC : (encSg sg).toArray.all (·.oneCell') = true := by simp [encSg, Value.oneCell']
            clear ht hso
            go_wp2_with (first | (with_reducible refine wl_ld rfl _ 113 rfl _ rfl ?_) | (with_reducible refine wl_stAgg rfl _ _ _ rfl _ _ rfl rfl ?_))
            refine rg_lds (l := encSg sg) hc2 Tryz.underlying113 rfl (by kernel_rfl) ?_
            go_wp2_with (first | (with_reducible refine wl_ld rfl _ 113 rfl _ rfl ?_) | (with_reducible refine wl_stAgg rfl _ _ _ rfl _ _ rfl rfl ?_))
            have hkW2 : Keep No wy (wy.alloc (.cells #[.int .u32 0, .int .u32 0, .int .u64 0, .int .u64 0, .int .u64 0, .int .u64 0, .int .u64 0] 113)) := (Keep.refl _ _).alloc _
            have hBW2 : Blk (wy.alloc (.cells #[.int .u32 0, .int .u32 0, .int .u64 0, .int .u64 0, .int .u64 0, .int .u64 0, .int .u64 0] 113)) wy.heap.size #[.int .u32 0, .int .u32 0, .int .u64 0, .int .u64 0, .int .u64 0, .int .u64 0, .int .u64 0] 113 := Blk.new _ _ _
            have hzW2 : (wy.alloc (.cells #[.int .u32 0, .int .u32 0, .int .u64 0, .int .u64 0, .int .u64 0, .int .u64 0, .int .u64 0] 113)).heap.size = wy.heap.size + 1 := World.size_alloc _ _
            generalize wy.alloc (.cells #[.int .u32 0, .int .u32 0, .int .u64 0, .int .u64 0, .int .u64 0, .int .u64 0, .int .u64 0] 113) = W2 at *
            refine rg_stAgg hBW2 (by kernel_rfl) (by rfl) honeC ?_
            intro w3 hB3 hk3' hz3
            have hk3 : Keep No W1 w3 := hk.trans' (hkW2.trans hk3' fun j hj e => by have e2 : j = wy.heap.size := e; omega)
            have hX3 := hX1.keep hk3 fun h => h
            have z6 : w3.cell? ⟨w.heap.size, 9, none⟩ = some (.slice (some ⟨g, off, none⟩) n p3) := hX3.cell 9
            have c0 := HC.out w3 hk3 0 _ rfl
            clear hBW2 hkW2 hzW2 hk3' hz3 hc2 hk honeC hXy hX3 x4 e2
            obtain ⟨q0, q1, q2, q3, q4, q5, q6⟩ := sg
            dsimp only at hle hlt1 c0
            have d0 : w3.cell? ⟨wy.heap.size, 0, none⟩ = some (.int .u32 (q0 : Int)) := hB3.cell 0
            have d3 : w3.cell? ⟨wy.heap.size, 3, none⟩ = some (.int .u64 (q3 : Int)) := hB3.cell 3
            have d5 : w3.cell? ⟨wy.heap.size, 5, none⟩ = some (.int .u64 (q5 : Int)) := hB3.cell 5
            rw [Nat.add_zero] at c0
            have HLE := Lib.hid hle
            clear hB3 hsg hle
            by_cases hA : q0 = 1
            · subst hA
              have hl1 := hlt1 (by decide)
              by_cases hB : q3 ≤ y0
              · have gB : decide ((q3 : Int) ≤ (y0 : Int)) = true := by rw [decide_eq_true_eq]; omega
                have gBn : decide (q3 ≤ y0) = true := by rw [decide_eq_true_eq]; omega
                obtain ⟨p1', hp1⟩ : ∃ q, q = q3 + q5 := ⟨_, rfl⟩
                have w1 : IntKind.u64.wrap ((q3 : Int) + (q5 : Int)) = (p1' : Int) := by rw [IntKind.wrap_u64]; omega
                by_cases hC : y0 < p1'
                · have gC : decide ((y0 : Int) < (p1' : Int)) = true := by rw [decide_eq_true_eq]; omega
                  have gCn : decide (y0 < p1') = true := by rw [decide_eq_true_eq]; omega
                  obtain ⟨dd, hdd⟩ : ∃ q, q = p1' - y0 := ⟨_, rfl⟩
                  have w2 : IntKind.u64.wrap ((p1' : Int) - (y0 : Int)) = (dd : Int) := by rw [IntKind.wrap_u64]; omega
                  by_cases hD : 8 ≤ dd
                  · have hlb : loadB ⟨1, q1, q2, q3, q4, q5, q6⟩ y0 = true := by rw [HLE.out, decide_eq_true_eq]; omega
                    have gD : decide ((8 : Int) ≤ (dd : Int)) = true := by rw [decide_eq_true_eq]; omega
                    have gDn : decide (8 ≤ dd) = true := by rw [decide_eq_true_eq]; omega
                    clear hp1 hdd hD hC hB hl1 hlt1
                    have HB2 : Hid (true = (decide (y1 = 0) || (l.take (k + 1)).any fun y => loadB y y0)) := Lib.hid (by rw [HT.out, hlb]; first | rw [Bool.or_true] | rw [Bool.or_false])
                    go_wp2_with fail
                    go_quiet (fail)
                    go_wp2_with fail
                    go_roundw
                    case rel => exact ⟨true, k + 1, rfl, by go_num, hklt, HB2, hk3.drewN _⟩
                    case measure => (simp [intOf]; try omega)
                  · have hlb : loadB ⟨1, q1, q2, q3, q4, q5, q6⟩ y0 = false := by rw [HLE.out, decide_eq_false_iff_not]; omega
                    have gD : decide ((8 : Int) ≤ (dd : Int)) = false := by rw [decide_eq_false_iff_not]; omega
                    have gDn : decide (8 ≤ dd) = false := by rw [decide_eq_false_iff_not]; omega
                    clear hp1 hdd hD hC hB hl1 hlt1
                    have HB2 : Hid (b = (decide (y1 = 0) || (l.take (k + 1)).any fun y => loadB y y0)) := Lib.hid (by rw [HT.out, hlb]; first | rw [Bool.or_true] | rw [Bool.or_false])
                    go_wp2_with fail
                    go_quiet (fail)
                    go_wp2_with fail
                    go_roundw
                    case rel => exact ⟨b, k + 1, rfl, by go_num, hklt, HB2, hk3.drewN _⟩
                    case measure => (simp [intOf]; try omega)
                · have gC : decide ((y0 : Int) < (p1' : Int)) = false := by rw [decide_eq_false_iff_not]; omega
                  have gCn : decide (y0 < p1') = false := by rw [decide_eq_false_iff_not]; omega
                  have hlb : loadB ⟨1, q1, q2, q3, q4, q5, q6⟩ y0 = false := by rw [HLE.out, decide_eq_false_iff_not]; omega
                  clear hp1 hC hB hl1 hlt1
                  have HB2 : Hid (b = (decide (y1 = 0) || (l.take (k + 1)).any fun y => loadB y y0)) := Lib.hid (by rw [HT.out, hlb]; first | rw [Bool.or_true] | rw [Bool.or_false])
                  go_wp2_with fail
                  go_quiet (fail)
                  go_wp2_with fail
                  go_roundw
                  case rel => exact ⟨b, k + 1, rfl, by go_num, hklt, HB2, hk3.drewN _⟩
                  case measure => (simp [intOf]; try omega)
              · have gB : decide ((q3 : Int) ≤ (y0 : Int)) = false := by rw [decide_eq_false_iff_not]; omega
                have gBn : decide (q3 ≤ y0) = false := by rw [decide_eq_false_iff_not]; omega
                have hlb : loadB ⟨1, q1, q2, q3, q4, q5, q6⟩ y0 = false := by rw [HLE.out, decide_eq_false_iff_not]; omega
                clear hB hl1 hlt1
                have HB2 : Hid (b = (decide (y1 = 0) || (l.take (k + 1)).any fun y => loadB y y0)) := Lib.hid (by rw [HT.out, hlb]; first | rw [Bool.or_true] | rw [Bool.or_false])
                go_wp2_with fail
                go_quiet (fail)
                go_wp2_with fail
                go_roundw
                case rel => exact ⟨b, k + 1, rfl, by go_num, hklt, HB2, hk3.drewN _⟩
                case measure => (simp [intOf]; try omega)
            · have gA : ((q0 : Int) == 1) = false := by rw [beq_eq_false_iff_ne]; omega
              have hlb : loadB ⟨q0, q1, q2, q3, q4, q5, q6⟩ y0 = false := by rw [HLE.out, decide_eq_false_iff_not]; omega
              clear hA hlt1
              have HB2 : Hid (b = (decide (y1 = 0) || (l.take (k + 1)).any fun y => loadB y y0)) := Lib.hid (by rw [HT.out, hlb]; first | rw [Bool.or_true] | rw [Bool.or_false])
              go_wp2_with fail
              go_quiet (fail)
              go_wp2_with fail
              go_roundw
              case rel => exact ⟨b, k + 1, rfl, by go_num, hklt, HB2, hk3.drewN _⟩
              case measure => (simp [intOf]; try omega)
          · obtain rfl : k = m := Nat.le_antisymm hkm hkge
            have hb : b = (decide (y1 = 0) || l.any fun y => loadB y y0) := by
              rw [HB.out, List.take_of_length_le (by rw [← HM.out]; exact Nat.le_refl _)]
            rw [← hb] at HAST HBAD
            have h1 := HAST.out
            have h2 := HBAD.out
            clear hb HB HAST HBAD
            cases b with
            | true =>
              have HA2 := Lib.hid (h1 rfl)
              clear h1 h2
              go_wp2_with fail
              go_roundw
              case rel => exact ⟨i + 1, by go_num, hlt, HA2, hk⟩
              case measure => (simp [intOf]; try omega)
            | false =>
              have hr := h2 rfl
              subst hr
              clear h1 h2
              go_wp2_with fail
              go_ret
              exact ⟨rfl, hkW1.trans' hk⟩
      · obtain rfl : i = n := Nat.le_antisymm hi hge
        have hall : rl.all (okR l) = true := by
          rw [List.all_eq_true]
          intro x hx
          obtain ⟨j, hj, rfl⟩ := List.mem_iff_getElem.1 hx
          exact HA.out j hj (by rw [HN.out]; exact hj)
        have HAL := Lib.hid hall
        clear hall HA
        go_wp2_with fail
        go_meet
        exact ⟨HAL.out, hk⟩
end
end Go.Proofs.YtbnahidopemkiaaGreat
