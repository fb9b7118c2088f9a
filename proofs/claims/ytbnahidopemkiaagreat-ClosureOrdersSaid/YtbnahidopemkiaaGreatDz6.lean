/- The document's image: relocations and symbols against the segments. The document's head: Get. The document's segments: Table. No condition. -/
import Derived.Test.YtbnahidopemkiaaGreatDzI
import Derived.Test.YtbnahidopemkiaaGreatWhN
import Derived.BigQuiet
import Derived.Test.YtbnahidopemkiaaGreatDz8
import Derived.Test.YtbnahidopemkiaaGreatApS
import Derived.Test.YtbnahidopemkiaaGreatIns
import Derived.Test.YtbnahidopemkiaaGreatStS
import Derived.Test.YtbnahidopemkiaaGreatDz4
import Derived.Test.YtbnahidopemkiaaGreatDzA
set_option linter.unusedVariables false
set_option linter.unusedSimpArgs false
namespace Go.Dm.Ld
open Go Go.Dm.Oc
theorem chkB_all {size : Nat} : ∀ (l pre : List Sg), chkB size pre l = 0 → ∀ x ∈ l, oneE x size = 0
  | [], _, _, x, hx => by cases hx
  | s :: r, pre, h, x, hx => by
    unfold chkB at h
    by_cases h0 : oneE s size ≠ 0
    · rw [if_pos h0] at h; exact absurd h h0
    · rw [if_neg h0] at h
      by_cases h1 : inG s pre.reverse ≠ 0
      · rw [if_pos h1] at h; exact absurd h h1
      · rw [if_neg h1] at h
        rcases List.mem_cons.1 hx with rfl | hx
        · exact Decidable.of_not_not h0
        · exact chkB_all r _ h x hx
theorem chkE_all {l : List Sg} {size : Nat} (h : chkE l size = 0) : ∀ x ∈ l, oneE x size = 0 := by
  rw [chkE_L] at h
  unfold chkL at h
  rw [List.take_zero, List.drop_zero] at h
  by_cases h0 : chkB size [] l ≠ 0
  · rw [if_pos h0] at h; exact absurd h h0
  · exact chkB_all l [] (Decidable.of_not_not h0)
def loadB (s : Sg) (a : Nat) : Bool := decide (s.ty = 1 ∧ s.va ≤ a ∧ a - s.va ≤ s.me ∧ 8 ≤ s.me - (a - s.va))
theorem load_eq {s : Sg} {size a : Nat} (h : oneE s size = 0) : loadB s a = decide (s.ty = 1 ∧ s.va ≤ a ∧ a < s.va + s.me ∧ 8 ≤ s.va + s.me - a) := by
  unfold loadB
  rw [decide_eq_decide]
  omega
def okR (l : List Sg) (x : Rl) : Bool := decide (x.ty = 0) || loadedB l x.off
theorem sound_eq (l : List Sg) (rl : List Rl) (sl : List Sy) : soundM l rl sl = if rl.all (okR l) then sySound l sl else 40 := by
  have e : rl.any (fun x => decide (x.ty ≠ 0) && !loadedB l x.off) = !(rl.all (okR l)) := by
    rw [List.all_eq_not_any_not, Bool.not_not]
    congr 1
    funext x
    unfold okR
    by_cases h : x.ty = 0
    · simp [h]
    · simp [h]
  unfold soundM
  rw [e]
  cases rl.all (okR l) <;> rfl
end Go.Dm.Ld
namespace Go.Proofs.YtbnahidopemkiaaGreat
open Go.RowKit Go.Dm Go.Dm.Oc Go.Dm.Ld
section
variable {A B : Nat → Prop} {w : World} {v : Value}
section
variable {z0 z1 z2 z3 z4 z5 z6 z7 z8 z9 z10 z11 z12 z13 z14 z15 z16 z17 z18 z19 z20 z21 z22 z23 z24 z25 z26 z27 z28 z29 z30 z31 z32 z33 z34 z35 z36 z37 z38 z39 z40 z41 z42 z43 z44 z45 z46 z47 z48 z49 z50 z51 z52 z53 z54 z55 z56 z57 z58 z59 z60 z61 z62 z63 z64 z65 z66 z67 z68 z69 z70 z71 z72 z73 z74 z75 z76 z77 z78 z79 z80 z81 z82 z83 z84 z85 z86 z87 z88 z89 z90 z91 z92 z93 z94 z95 z96 z97 z98 z99 z100 z101 z102 z103 z104 z105 z106 z107 z108 z109 z110 z111 z112 z113 z114 z115 z116 z117 z118 z119 z120 z121 z122 z123 z124 z125 z126 z127 z128 : Value}
set_option maxRecDepth 100000 in
set_option maxHeartbeats 6000000 in
theorem held_b {h : Hd} {so : BS} {vs vn vm vy vr vb : Value} {l : List Sg} {sl : List Sy} {r : Nat} {w0 : World} (hX : Blk w0 w.heap.size (imC h vs so vn vm vy vr vb).toArray 70) (hs : Fl A w 7 encSg vs l) (hy : Fl B w 6 encSy vy sl) (hyok : ∀ x ∈ sl, SyOk x)
    (hr : r = sySound l sl) (hk : Keep No w w0) :
    Code.wp Tryz.prog (bodyFrom Tryz.f66 13) (bodyPost Tryz.prog Tryz.f66 fun e w' => e = .returned (.int .i64 (r : Nat)) ∧ Keep No w w') ⟨#[z0, .pointer (some ⟨w.heap.size, 0, none⟩), z2, z3, z4, z5, z6, z7, z8, z9, z10, z11, z12, z13, z14, z15, z16, z17, z18, z19, z20, z21, z22, z23, z24, z25, z26, z27, z28, z29, z30, z31, z32, z33, z34, z35, z36, z37, z38, z39, z40, z41, z42, z43, z44, z45, z46, z47, z48, z49, z50, z51, z52, z53, z54, z55, z56, z57, z58, z59, z60, z61, z62, z63, z64, z65, z66, z67, z68, z69, z70, z71, z72, z73, z74, z75, z76, z77, z78, z79, z80, z81, z82, z83, z84, z85, z86, z87, z88, z89, z90, z91, z92, z93, z94, z95, z96, z97, z98, z99, z100, z101, z102, z103, z104, z105, z106, z107, z108, z109, z110, z111, z112, z113, z114, z115, z116, z117, z118, z119, z120, z121, z122, z123, z124, z125, z126, z127, z128], []⟩ w0 := by
  have HK := Lib.hid hk
  have HS := Lib.hid hs
  have HY := Lib.hid hy
  have HYOK := Lib.hid hyok
  have hfind := r04find_any (w := w0) l 7 (hs.no hk)
  have hfi := fIdx_find l 7
  have HX := Lib.hid hX
  have H0 : Hid (r = sySound l (sl.drop 0)) := Lib.hid hr
  have x4 : w0.cell? ⟨w.heap.size, 4, none⟩ = some vs := hX.cell 4
  obtain ⟨a1, ps, rfl, _, hps⟩ := hs.shape
  obtain ⟨ay, py, rfl, hpy1, hpy2⟩ := hy.shape
  have hib : (sl.length : Int) ≤ 9223372036854775807 := by unfold maxLen at hpy2; omega
  have hll : l.length ≤ 9223372036854775807 := by unfold maxLen at hps; omega
  obtain ⟨n, hn1⟩ : ∃ n, n = sl.length := ⟨_, rfl⟩
  have HN := Lib.hid hn1
  rw [← hn1] at HX HY hib
  clear hs hy hyok hX hr hn1 hps hpy1 hpy2
  obtain ⟨ti, hti⟩ : ∃ q, q = fIdxZ l 7 := ⟨_, rfl⟩
  rw [← hti] at hfind
  have HTI := Lib.hid hti
  have HFI := Lib.hid hfi
  clear hti hfi
  conv => arg 2; whnf
  go_wp2_with fail
  refine hfind.mono ?_
  clear hfind x4
  rintro e wq ⟨rfl, rfl⟩
  go_wp2_with fail
  go_loopw [8] (fun iv wr => ∃ i : Nat, iv = .int .i64 (i : Int) ∧ i ≤ n ∧ Hid (r = sySound l (sl.drop i)) ∧ Keep No w0 wr) (fun iv _ => n - (intOf iv).toNat)
  case atStart => exact ⟨0, rfl, Nat.zero_le _, H0, Keep.refl _ _⟩
  case round =>
    obtain ⟨i, rfl, hi, HM, hkr⟩ := hrel
    clear H0
    generalize wr = wz at *
    have hXz := HX.out.keep hkr fun h => h
    have x8 : wz.cell? ⟨w.heap.size, 8, none⟩ = some (.slice ay n py) := hXz.cell 8
    have x4 : wz.cell? ⟨w.heap.size, 4, none⟩ = some (.slice a1 l.length ps) := hXz.cell 4
    rcases Nat.lt_or_ge i n with hlt | hge
    · have hil : i < sl.length := by rw [← HN.out]; exact hlt
      have hiz : (i : Int) < (n : Int) := by omega
      obtain ⟨g, off, cap, ev, _, hg, _, _, hc⟩ := ((HY.out.no hk).no hkr).at encSy_len hil
      rw [← HN.out] at ev
      injection ev with e1 e2 e3
      subst e1 e3
      have hsk := HYOK.out _ (List.getElem_mem hil)
      have hm := HM.out
      rw [List.drop_eq_getElem_cons hil, sySound_cons] at hm
      have c1 := hc 1 _ rfl
      have c3 := hc 3 _ rfl
      have c4 := hc 4 _ rfl
      generalize sl[i] = s at *
      obtain ⟨y0, y1, y2, y3, y4, y5⟩ := s
      obtain ⟨b0, b1, b2, b3, b4, b5⟩ := hsk
      dsimp only at hm b0 b1 b2 b3 b4 b5 c1 c3 c4
      have HM2 := Lib.hid hm
      have hk := hkr
      clear hm HM hc e2 hkr
      by_cases h3 : y3 = 0
      · subst h3
        have hm := HM2.out
        rw [if_pos rfl] at hm
        have HG2 := Lib.hid hm
        clear hm HM2
        go_wp2_with fail
        go_roundw
        case rel => exact ⟨i + 1, by go_num, hlt, HG2, hk⟩
        case measure => (simp [intOf]; try omega)
      · have g3 : ((y3 : Int) == 0) = false := by rw [beq_eq_false_iff_ne]; omega
        have hm := HM2.out
        rw [if_neg h3] at hm
        have HM3 := Lib.hid hm
        clear hm HM2
        by_cases h6 : y1 % 16 = 6
        · have hm := HM3.out
          rw [if_pos h6] at hm
          have HM4 := Lib.hid hm
          have g6 : ((y1 : Int) % 16 == 6) = true := by rw [beq_iff_eq]; omega
          have g6b : ((y1 : Int).tmod 16 == 6) = true := by rw [beq_iff_eq, Int.tmod_eq_emod_of_nonneg (by omega)]; omega
          clear hm HM3 h6
          have hfi := HFI.out
          have hti := HTI.out
          unfold fIdxZ at hti
          cases hfx : fIdx l 7 with
          | none =>
            rw [hfx] at hfi hti
            dsimp only at hfi hti
            subst hti
            have hm := HM4.out
            rw [hfi] at hm
            have hm : r = 11 := hm
            subst hm
            clear hfi HM4 hfx
            go_wp2_with fail
            go_quiet (fail)
            go_wp2_with fail
            go_ret
            exact ⟨rfl, (HK.out.trans' hk).drewN _⟩
          | some k =>
            rw [hfx] at hfi hti
            dsimp only at hfi hti
            obtain ⟨hkl, hfm⟩ := hfi
            subst hti
            have hm := HM4.out
            rw [hfm] at hm
            dsimp only at hm
            obtain ⟨g7, off7, cap7, ev, _, hg7, _, _, hc7⟩ := ((HS.out.no HK.out).no hk).at encSg_len hkl
            injection ev with e1 e2 e3
            subst e1 e3
            have d5 := hc7 5 _ rfl
            have hkz : (k : Int) < (l.length : Int) := by omega
            generalize l[k] = sg at *
            obtain ⟨q0, q1, q2, q3, q4, q5, q6⟩ := sg
            dsimp only at d5 hm
            have HM5 := Lib.hid hm
            clear hm HM4 hfx hfm hc7 e2
            by_cases h5 : q5 < y4
            · have g5 : decide ((q5 : Int) < (y4 : Int)) = true := by rw [decide_eq_true_eq]; omega
              have g5n : decide (q5 < y4) = true := by rw [decide_eq_true_eq]; omega
              have hm := HM5.out
              rw [if_pos h5] at hm
              subst hm
              clear h5 HM5
              go_wp2_with fail
              go_quiet (fail)
              go_wp2_with fail
              go_ret
              exact ⟨rfl, (HK.out.trans' hk).drewN _⟩
            · have g5 : decide ((q5 : Int) < (y4 : Int)) = false := by rw [decide_eq_false_iff_not]; omega
              have g5n : decide (q5 < y4) = false := by rw [decide_eq_false_iff_not]; omega
              have hm := HM5.out
              rw [if_neg h5] at hm
              have HG2 := Lib.hid hm
              clear h5 HM5 hm
              go_wp2_with fail
              go_quiet (fail)
              go_wp2_with fail
              go_roundw
              case rel => exact ⟨i + 1, by go_num, hlt, HG2, hk.drewN _⟩
              case measure => (simp [intOf]; try omega)
        · have hm := HM3.out
          rw [if_neg h6] at hm
          have HM4 := Lib.hid hm
          have g6 : ((y1 : Int) % 16 == 6) = false := by rw [beq_eq_false_iff_ne]; omega
          have g6b : ((y1 : Int).tmod 16 == 6) = false := by rw [beq_eq_false_iff_ne, Int.tmod_eq_emod_of_nonneg (by omega)]; omega
          clear hm HM3 h6
          by_cases h5 : 4294967296 < y4
          · have g5 : (4294967296 : Int) < (y4 : Int) := by omega
            have hm := HM4.out
            rw [if_pos h5] at hm
            subst hm
            clear h5 HM4
            go_wp2_with fail
            go_ret
            exact ⟨rfl, HK.out.trans' hk⟩
          · have g5 : (y4 : Int) ≤ 4294967296 := by omega
            have hm := HM4.out
            rw [if_neg h5] at hm
            have HG2 := Lib.hid hm
            clear h5 HM4 hm
            go_wp2_with fail
            go_roundw
            case rel => exact ⟨i + 1, by go_num, hlt, HG2, hk⟩
            case measure => (simp [intOf]; try omega)
    · obtain rfl : i = n := Nat.le_antisymm hi hge
      have hm := HM.out
      rw [List.drop_of_length_le (by rw [← HN.out]; exact Nat.le_refl _)] at hm
      replace hm : r = 0 := hm
      subst hm
      go_wp2_with fail
      go_ret
      exact ⟨rfl, hk.trans' hkr⟩
end
set_option maxRecDepth 100000 in
set_option maxHeartbeats 6000000 in
theorem r09held_any (h : Hd) (so : BS) (vs vn vm vy vr vb : Value) (l : List Sg) (rl : List Rl) (sl : List Sy) (size : Nat) (hsz : size ≤ 1000000000) (hs : Fl A w 7 encSg vs l) (hone : ∀ x ∈ l, oneE x size = 0) (hok : ∀ x ∈ l, SgOk x) (hy : Fl B w 6 encSy vy sl) (hyok : ∀ x ∈ sl, SyOk x) (hr : Fl B w 4 encRl vr rl) (hrok : ∀ x ∈ rl, RlOk x)
    (hvb : ∃ a n c, vb = .slice a n c) (hvn : ∃ a n c, vn = .slice a n c) (hvm : ∃ a n c, vm = .slice a n c) :
    Calls Tryz.prog 66 #[.agg (imC h vs so vn vm vy vr vb).toArray] w fun e w' => e = .returned (.int .i64 (soundM l rl sl : Nat)) ∧ Keep No w w' := by
  have HY := Lib.hid (And.intro hy hyok)
  have HS := Lib.hid hs
  have HONE := Lib.hid hone
  have HOK := Lib.hid hok
  have HRR := Lib.hid hr
  have HROK := Lib.hid hrok
  obtain ⟨r, hrr⟩ : ∃ r, r = soundM l rl sl := ⟨_, rfl⟩
  rw [← hrr]
  rw [sound_eq] at hrr
  have HR := Lib.hid hrr
  obtain ⟨a1, p1, rfl, hq1, hq2⟩ := hs.shape
  obtain ⟨a2, p2, rfl, _, _⟩ := hy.shape
  obtain ⟨a3, p3, rfl, hq3, hq4⟩ := hr.shape
  obtain ⟨a4, n4, p4, rfl⟩ := hvb
  obtain ⟨a5, n5, p5, rfl⟩ := hvn
  obtain ⟨a6, n6, p6, rfl⟩ := hvm
  have hib : (rl.length : Int) ≤ 9223372036854775807 := by unfold maxLen at hq4; omega
  have hib2 : (l.length : Int) ≤ 9223372036854775807 := by unfold maxLen at hq2; omega
  obtain ⟨n, hn1⟩ : ∃ n, n = rl.length := ⟨_, rfl⟩
  obtain ⟨m, hm1⟩ : ∃ n, n = l.length := ⟨_, rfl⟩
  have HN := Lib.hid hn1
  have HM := Lib.hid hm1
  have H0 : Hid (∀ j (h : j < rl.length), j < 0 → okR l rl[j] = true) := Lib.hid fun j _ h => absurd h (Nat.not_lt_zero _)
  rw [← hn1] at HRR hib ⊢
  rw [← hm1] at HS hib2 ⊢
  clear hs hy hr hone hok hyok hrok hrr hn1 hm1 hq1 hq2 hq3 hq4
  have hicx : (imC h (.slice a1 m p1) so (.slice a5 n5 p5) (.slice a6 n6 p6) (.slice a2 sl.length p2) (.slice a3 n p3) (.slice a4 n4 p4)).toArray = #[.int .i64 (h.kind : Int), .int .u64 (h.entry : Int), .int .u64 (h.segs : Int), .int .i64 (h.count : Int), .slice a1 m p1, .string ⟨so.toArray⟩, .slice a5 n5 p5, .slice a6 n6 p6, .slice a2 sl.length p2, .slice a3 n p3, .slice a4 n4 p4] := rfl
  rw [hicx]
  clear hicx
  go_enter Tryz.func66, Tryz.ntmps66
  go_upto_block 0 with fail
  have hkW1 : Keep No w (w.alloc (.cells #[.int .i64 (h.kind : Int), .int .u64 (h.entry : Int), .int .u64 (h.segs : Int), .int .i64 (h.count : Int), .slice a1 m p1, .string ⟨so.toArray⟩, .slice a5 n5 p5, .slice a6 n6 p6, .slice a2 sl.length p2, .slice a3 n p3, .slice a4 n4 p4] 70)) := (Keep.refl _ _).alloc _
  have hBW1 : Blk (w.alloc (.cells #[.int .i64 (h.kind : Int), .int .u64 (h.entry : Int), .int .u64 (h.segs : Int), .int .i64 (h.count : Int), .slice a1 m p1, .string ⟨so.toArray⟩, .slice a5 n5 p5, .slice a6 n6 p6, .slice a2 sl.length p2, .slice a3 n p3, .slice a4 n4 p4] 70)) w.heap.size #[.int .i64 (h.kind : Int), .int .u64 (h.entry : Int), .int .u64 (h.segs : Int), .int .i64 (h.count : Int), .slice a1 m p1, .string ⟨so.toArray⟩, .slice a5 n5 p5, .slice a6 n6 p6, .slice a2 sl.length p2, .slice a3 n p3, .slice a4 n4 p4] 70 := Blk.new _ _ _
  have hzW1 : (w.alloc (.cells #[.int .i64 (h.kind : Int), .int .u64 (h.entry : Int), .int .u64 (h.segs : Int), .int .i64 (h.count : Int), .slice a1 m p1, .string ⟨so.toArray⟩, .slice a5 n5 p5, .slice a6 n6 p6, .slice a2 sl.length p2, .slice a3 n p3, .slice a4 n4 p4] 70)).heap.size = w.heap.size + 1 := World.size_alloc _ _
  generalize w.alloc (.cells #[.int .i64 (h.kind : Int), .int .u64 (h.entry : Int), .int .u64 (h.segs : Int), .int .i64 (h.count : Int), .slice a1 m p1, .string ⟨so.toArray⟩, .slice a5 n5 p5, .slice a6 n6 p6, .slice a2 sl.length p2, .slice a3 n p3, .slice a4 n4 p4] 70) = W1 at *
  have hX1 : Blk W1 w.heap.size (imC h (.slice a1 m p1) so (.slice a5 n5 p5) (.slice a6 n6 p6) (.slice a2 sl.length p2) (.slice a3 n p3) (.slice a4 n4 p4)).toArray 70 := hBW1
  clear hBW1 hzW1
  go_cut [3, 4, 5, 6] from 9 (fun _ _ _ _ wc => rl.all (okR l) = true ∧ Keep No W1 wc)
  case rest =>
    obtain ⟨hall, hk2⟩ := hcut
    have hr := HR.out
    rw [if_pos hall] at hr
    refine use_k (by assumption) ?_
    have hs' := HS.out
    rw [HM.out] at hX1 hs'
    exact held_b (A := A) (B := B) (hX1.keep hk2 fun h => h) hs' HY.out.1 HY.out.2 hr (hkW1.trans' hk2)
  case first =>
    go_wp2_with fail
    go_loopw [3, 4, 5, 6] (fun iv _ _ _ wr => ∃ i : Nat, iv = .int .i64 (i : Int) ∧ i ≤ n ∧ Hid (∀ j (h : j < rl.length), j < i → okR l rl[j] = true) ∧ Keep No W1 wr) (fun iv _ _ _ _ => n - (intOf iv).toNat)
    case atStart => exact ⟨0, rfl, Nat.zero_le _, H0, Keep.refl _ _⟩
    case round =>
      obtain ⟨i, rfl, hi, HA, hk⟩ := hrel
      clear H0
      generalize wr = wz at *
      have hXz := hX1.keep hk fun h => h
      have x9 : wz.cell? ⟨w.heap.size, 9, none⟩ = some (.slice a3 n p3) := hXz.cell 9
      have x4 : wz.cell? ⟨w.heap.size, 4, none⟩ = some (.slice a1 m p1) := hXz.cell 4
      rcases Nat.lt_or_ge i n with hlt | hge
      · have hil : i < rl.length := by rw [← HN.out]; exact hlt
        have hiz : (i : Int) < (n : Int) := by omega
        obtain ⟨g, off, cap, ev, _, hg, _, _, hc⟩ := ((HRR.out.no hkW1).no hk).at encRl_len hil
        rw [← HN.out] at ev
        injection ev with e1 e2 e3
        subst e1 e3
        have hsk := HROK.out _ (List.getElem_mem hil)
        have hcw := fun W (k : Keep No W1 W) => ((HRR.out.no hkW1).no k).cells encRl_len hil
        have hast : okR l rl[i] = true → ∀ j (h : j < rl.length), j < i + 1 → okR l rl[j] = true := fun h j hj hj2 => by
          rcases Nat.lt_or_ge j i with h3 | h3
          · exact HA.out j hj h3
          · obtain rfl : j = i := by omega
            exact h
        have hbad : okR l rl[i] = false → r = 40 := fun h => by
          rw [HR.out, if_neg]
          intro q
          rw [List.all_eq_true.1 q _ (List.getElem_mem hil)] at h
          cases h
        generalize rl[i] = x at *
        obtain ⟨y0, y1, y2, y3⟩ := x
        obtain ⟨b0, b1, b2, b3⟩ := hsk
        have HC := Lib.hid hcw
        have c1 := hc 1 _ rfl
        dsimp only at b0 b1 b2 b3 c1
        have hokR : okR l ⟨y0, y1, y2, y3⟩ = (decide (y1 = 0) || l.any fun y => loadB y y0) := rfl
        rw [hokR] at hast hbad
        have HAST := Lib.hid hast
        have HBAD := Lib.hid hbad
        have hb0 : ((y1 : Int) == 0) = decide (y1 = 0) := by rw [Bool.eq_iff_iff, beq_iff_eq, decide_eq_true_eq]; omega
        have HB0 : Hid (decide (y1 = 0) = (decide (y1 = 0) || (l.take 0).any fun y => loadB y y0)) := Lib.hid (by rw [List.take_zero, List.any_nil, Bool.or_false])
        clear hc hcw hast hbad hokR e2 HA
        go_wp2_with fail
        try rw [hb0]
        go_loopw [4, 5, 6] (fun bv kv _ wr => ∃ (b : Bool) (k : Nat), bv = .bool b ∧ kv = .int .i64 (k : Int) ∧ k ≤ m ∧ Hid (b = (decide (y1 = 0) || (l.take k).any fun y => loadB y y0)) ∧ Keep No W1 wr) (fun _ kv _ _ => m - (intOf kv).toNat)
        case atStart => exact ⟨_, 0, rfl, rfl, Nat.zero_le _, HB0, hk⟩
        case round =>
          clear HB0 hk c1 x9 x4 hXz hb0
          obtain ⟨b, k, rfl, rfl, hkm, HB, hk⟩ := hrel
          generalize wr = wy at *
          have hXy := hX1.keep hk fun h => h
          have x4 : wy.cell? ⟨w.heap.size, 4, none⟩ = some (.slice a1 m p1) := hXy.cell 4
          rcases Nat.lt_or_ge k m with hklt | hkge
          · have hkl : k < l.length := by rw [← HM.out]; exact hklt
            have hkz : (k : Int) < (m : Int) := by omega
            obtain ⟨g2, off2, cap2, ev, _, hg2, _, _, hc2⟩ := ((HS.out.no hkW1).no hk).at encSg_len hkl
            rw [← HM.out] at ev
            injection ev with e1 e2 e3
            subst e1 e3
            have hso := HONE.out _ (List.getElem_mem hkl)
            have hsg := HOK.out _ (List.getElem_mem hkl)
            have ht : (decide (y1 = 0) || (l.take (k + 1)).any (fun y => loadB y y0)) = ((decide (y1 = 0) || (l.take k).any (fun y => loadB y y0)) || loadB l[k] y0) := by
              rw [List.take_succ_eq_append_getElem hkl, List.any_append, List.any_cons, List.any_nil, Bool.or_false, Bool.or_assoc]
            generalize l[k] = sg at *
            have HT : Hid ((decide (y1 = 0) || (l.take (k + 1)).any (fun y => loadB y y0)) = (b || loadB sg y0)) := Lib.hid (by rw [ht, ← HB.out])
            have hle := load_eq (a := y0) hso
            have hlt1 := oneE_lt hso
            have honeC : (encSg sg).toArray.all (·.oneCell') = true := by simp [encSg, Value.oneCell']
            clear ht hso
            go_wp2_with (first | (with_reducible refine wl_ld rfl _ 113 rfl _ rfl ?_) | (with_reducible refine wl_stAgg rfl _ _ _ rfl _ _ rfl rfl ?_))
            refine rg_lds (l := encSg sg) hc2 Tryz.underlying113 rfl (by kernel_rfl) ?_
            go_wp2_with (first | (with_reducible refine wl_ld rfl _ 113 rfl _ rfl ?_) | (with_reducible refine wl_stAgg rfl _ _ _ rfl _ _ rfl rfl ?_))
            have hkW2 : Keep No wy (wy.alloc (.cells #[.int .u32 0, .int .u32 0, .int .u64 0, .int .u64 0, .int .u64 0, .int .u64 0, .int .u64 0] 113)) := (Keep.refl _ _).alloc _
            have hBW2 : Blk (wy.alloc (.cells #[.int .u32 0, .int .u32 0, .int .u64 0, .int .u64 0, .int .u64 0, .int .u64 0, .int .u64 0] 113)) wy.heap.size #[.int .u32 0, .int .u32 0, .int .u64 0, .int .u64 0, .int .u64 0, .int .u64 0, .int .u64 0] 113 := Blk.new _ _ _
            have hzW2 : (wy.alloc (.cells #[.int .u32 0, .int .u32 0, .int .u64 0, .int .u64 0, .int .u64 0, .int .u64 0, .int .u64 0] 113)).heap.size = wy.heap.size + 1 := World.size_alloc _ _
            generalize wy.alloc (.cells #[.int .u32 0, .int .u32 0, .int .u64 0, .int .u64 0, .int .u64 0, .int .u64 0, .int .u64 0] 113) = W2 at *
            refine rg_stAgg hBW2 (by kernel_rfl) (by rfl) honeC ?_
            intro w3 hB3 hk3' hz3
            have hk3 : Keep No W1 w3 := hk.trans' (hkW2.trans hk3' fun j hj e => by have e2 : j = wy.heap.size := e; omega)
            have hX3 := hX1.keep hk3 fun h => h
            have z6 : w3.cell? ⟨w.heap.size, 9, none⟩ = some (.slice (some ⟨g, off, none⟩) n p3) := hX3.cell 9
            have c0 := HC.out w3 hk3 0 _ rfl
            clear hBW2 hkW2 hzW2 hk3' hz3 hc2 hk honeC hXy hX3 x4 e2
            obtain ⟨q0, q1, q2, q3, q4, q5, q6⟩ := sg
            dsimp only at hle hlt1 c0
            have d0 : w3.cell? ⟨wy.heap.size, 0, none⟩ = some (.int .u32 (q0 : Int)) := hB3.cell 0
            have d3 : w3.cell? ⟨wy.heap.size, 3, none⟩ = some (.int .u64 (q3 : Int)) := hB3.cell 3
            have d5 : w3.cell? ⟨wy.heap.size, 5, none⟩ = some (.int .u64 (q5 : Int)) := hB3.cell 5
            rw [Nat.add_zero] at c0
            have HLE := Lib.hid hle
            clear hB3 hsg hle
            by_cases hA : q0 = 1
            · subst hA
              have hl1 := hlt1 (by decide)
              by_cases hB : q3 ≤ y0
              · have gB : decide ((q3 : Int) ≤ (y0 : Int)) = true := by rw [decide_eq_true_eq]; omega
                have gBn : decide (q3 ≤ y0) = true := by rw [decide_eq_true_eq]; omega
                obtain ⟨p1', hp1⟩ : ∃ q, q = q3 + q5 := ⟨_, rfl⟩
                have w1 : IntKind.u64.wrap ((q3 : Int) + (q5 : Int)) = (p1' : Int) := by rw [IntKind.wrap_u64]; omega
                by_cases hC : y0 < p1'
                · have gC : decide ((y0 : Int) < (p1' : Int)) = true := by rw [decide_eq_true_eq]; omega
                  have gCn : decide (y0 < p1') = true := by rw [decide_eq_true_eq]; omega
                  obtain ⟨dd, hdd⟩ : ∃ q, q = p1' - y0 := ⟨_, rfl⟩
                  have w2 : IntKind.u64.wrap ((p1' : Int) - (y0 : Int)) = (dd : Int) := by rw [IntKind.wrap_u64]; omega
                  by_cases hD : 8 ≤ dd
                  · have hlb : loadB ⟨1, q1, q2, q3, q4, q5, q6⟩ y0 = true := by rw [HLE.out, decide_eq_true_eq]; omega
                    have gD : decide ((8 : Int) ≤ (dd : Int)) = true := by rw [decide_eq_true_eq]; omega
                    have gDn : decide (8 ≤ dd) = true := by rw [decide_eq_true_eq]; omega
                    clear hp1 hdd hD hC hB hl1 hlt1
                    have HB2 : Hid (true = (decide (y1 = 0) || (l.take (k + 1)).any fun y => loadB y y0)) := Lib.hid (by rw [HT.out, hlb]; first | rw [Bool.or_true] | rw [Bool.or_false])
                    go_wp2_with fail
                    go_quiet (fail)
                    go_wp2_with fail
                    go_roundw
                    case rel => exact ⟨true, k + 1, rfl, by go_num, hklt, HB2, hk3.drewN _⟩
                    case measure => (simp [intOf]; try omega)
                  · have hlb : loadB ⟨1, q1, q2, q3, q4, q5, q6⟩ y0 = false := by rw [HLE.out, decide_eq_false_iff_not]; omega
                    have gD : decide ((8 : Int) ≤ (dd : Int)) = false := by rw [decide_eq_false_iff_not]; omega
                    have gDn : decide (8 ≤ dd) = false := by rw [decide_eq_false_iff_not]; omega
                    clear hp1 hdd hD hC hB hl1 hlt1
                    have HB2 : Hid (b = (decide (y1 = 0) || (l.take (k + 1)).any fun y => loadB y y0)) := Lib.hid (by rw [HT.out, hlb]; first | rw [Bool.or_true] | rw [Bool.or_false])
                    go_wp2_with fail
                    go_quiet (fail)
                    go_wp2_with fail
                    go_roundw
                    case rel => exact ⟨b, k + 1, rfl, by go_num, hklt, HB2, hk3.drewN _⟩
                    case measure => (simp [intOf]; try omega)
                · have gC : decide ((y0 : Int) < (p1' : Int)) = false := by rw [decide_eq_false_iff_not]; omega
                  have gCn : decide (y0 < p1') = false := by rw [decide_eq_false_iff_not]; omega
                  have hlb : loadB ⟨1, q1, q2, q3, q4, q5, q6⟩ y0 = false := by rw [HLE.out, decide_eq_false_iff_not]; omega
                  clear hp1 hC hB hl1 hlt1
                  have HB2 : Hid (b = (decide (y1 = 0) || (l.take (k + 1)).any fun y => loadB y y0)) := Lib.hid (by rw [HT.out, hlb]; first | rw [Bool.or_true] | rw [Bool.or_false])
                  go_wp2_with fail
                  go_quiet (fail)
                  go_wp2_with fail
                  go_roundw
                  case rel => exact ⟨b, k + 1, rfl, by go_num, hklt, HB2, hk3.drewN _⟩
                  case measure => (simp [intOf]; try omega)
              · have gB : decide ((q3 : Int) ≤ (y0 : Int)) = false := by rw [decide_eq_false_iff_not]; omega
                have gBn : decide (q3 ≤ y0) = false := by rw [decide_eq_false_iff_not]; omega
                have hlb : loadB ⟨1, q1, q2, q3, q4, q5, q6⟩ y0 = false := by rw [HLE.out, decide_eq_false_iff_not]; omega
                clear hB hl1 hlt1
                have HB2 : Hid (b = (decide (y1 = 0) || (l.take (k + 1)).any fun y => loadB y y0)) := Lib.hid (by rw [HT.out, hlb]; first | rw [Bool.or_true] | rw [Bool.or_false])
                go_wp2_with fail
                go_quiet (fail)
                go_wp2_with fail
                go_roundw
                case rel => exact ⟨b, k + 1, rfl, by go_num, hklt, HB2, hk3.drewN _⟩
                case measure => (simp [intOf]; try omega)
            · have gA : ((q0 : Int) == 1) = false := by rw [beq_eq_false_iff_ne]; omega
              have hlb : loadB ⟨q0, q1, q2, q3, q4, q5, q6⟩ y0 = false := by rw [HLE.out, decide_eq_false_iff_not]; omega
              clear hA hlt1
              have HB2 : Hid (b = (decide (y1 = 0) || (l.take (k + 1)).any fun y => loadB y y0)) := Lib.hid (by rw [HT.out, hlb]; first | rw [Bool.or_true] | rw [Bool.or_false])
              go_wp2_with fail
              go_quiet (fail)
              go_wp2_with fail
              go_roundw
              case rel => exact ⟨b, k + 1, rfl, by go_num, hklt, HB2, hk3.drewN _⟩
              case measure => (simp [intOf]; try omega)
          · obtain rfl : k = m := Nat.le_antisymm hkm hkge
            have hb : b = (decide (y1 = 0) || l.any fun y => loadB y y0) := by
              rw [HB.out, List.take_of_length_le (by rw [← HM.out]; exact Nat.le_refl _)]
            rw [← hb] at HAST HBAD
            have h1 := HAST.out
            have h2 := HBAD.out
            clear hb HB HAST HBAD
            cases b with
            | true =>
              have HA2 := Lib.hid (h1 rfl)
              clear h1 h2
              go_wp2_with fail
              go_roundw
              case rel => exact ⟨i + 1, by go_num, hlt, HA2, hk⟩
              case measure => (simp [intOf]; try omega)
            | false =>
              have hr := h2 rfl
              subst hr
              clear h1 h2
              go_wp2_with fail
              go_ret
              exact ⟨rfl, hkW1.trans' hk⟩
      · obtain rfl : i = n := Nat.le_antisymm hi hge
        have hall : rl.all (okR l) = true := by
          rw [List.all_eq_true]
          intro x hx
          obtain ⟨j, hj, rfl⟩ := List.mem_iff_getElem.1 hx
          exact HA.out j hj (by rw [HN.out]; exact hj)
        have HAL := Lib.hid hall
        clear hall HA
        go_wp2_with fail
        go_meet
        exact ⟨HAL.out, hk⟩
end
end Go.Proofs.YtbnahidopemkiaaGreat
namespace Go.Proofs.YtbnahidopemkiaaGreat
open Go.RowKit Go.Dm Go.Dm.Oc Go.Dm.Ld
section
variable {A : Nat → Prop} {w : World} {v : Value}
theorem FlO.bts' {base : Nat} {l : List UInt8} (h : FlO w base 5 1 e8 v l) : Bts (fun _ => True) w v l := by
  have h2 : Fl (fun _ => True) w 1 e8 v l := h.fl.mono fun _ _ _ => trivial
  unfold Fl at h2
  rw [e8_map] at h2
  exact h2
theorem r03put_bad (h : Hd) (hok : headOk h = false) (hk : h.kind < 65536) (hc : h.count < 65536) :
    Calls Tryz.prog 38 #[.agg #[.int .i64 (h.kind : Int), .int .u64 (h.entry : Int), .int .u64 (h.segs : Int), .int .i64 (h.count : Int)]] w fun e w' => e = .returned (.tuple #[.slice none 0 0, .int .i64 1]) ∧ Keep No w w' := by
  unfold headOk at hok
  generalize h.kind = kd at *
  generalize h.entry = en at *
  generalize h.segs = sg at *
  generalize h.count = ct at *
  rcases Nat.lt_or_ge kd 2 with h1 | h1
  · have g1 : (kd : Int) < 2 := by omega
    go_enter Tryz.func38, Tryz.ntmps38
    go_wp2_with fail
    go_ret2
    exact ⟨rfl, (Keep.refl _ _).alloc _⟩
  · have g1 : (2 : Int) ≤ (kd : Int) := by omega
    rcases Nat.lt_or_ge 4 kd with h2 | h2
    · have g2 : (4 : Int) < (kd : Int) := by omega
      go_enter Tryz.func38, Tryz.ntmps38
      go_wp2_with fail
      go_ret2
      exact ⟨rfl, (Keep.refl _ _).alloc _⟩
    · have g2 : (kd : Int) ≤ 4 := by omega
      have h3 : 64 < ct := by
        rw [decide_eq_true h1, decide_eq_true h2, Bool.true_and, Bool.true_and, decide_eq_false_iff_not] at hok
        omega
      have g3 : (64 : Int) < (ct : Int) := by omega
      have g4 : (0 : Int) ≤ (ct : Int) := by omega
      go_enter Tryz.func38, Tryz.ntmps38
      go_wp2_with fail
      go_ret2
      exact ⟨rfl, (Keep.refl _ _).alloc _⟩
set_option maxRecDepth 100000 in
set_option maxHeartbeats 2000000 in
theorem r03get_any (b : BS) (hb : Bts A w v b) (hl : b.length ≤ 1099511627776) :
    Calls Tryz.prog 61 #[v] w fun e w' => e = .returned (.tuple #[.agg (encHd (headM b).2).toArray, .int .i64 ((headM b).1 : Nat)]) ∧ Keep No w w' := by
  have hH : headM b = if b.length < 64 then (10, hd0) else if headOk (headIn b) && decide (headB (headIn b) = b.take 64) then (0, headIn b) else (11, hd0) := rfl
  obtain ⟨r, hr⟩ : ∃ r, r = headM b := ⟨_, rfl⟩
  rw [← hr] at hH ⊢
  clear hr
  obtain ⟨ao, co, rfl, hc1, hc2⟩ := hb.shape
  by_cases hlt : b.length < 64
  · rw [if_pos hlt] at hH
    subst hH
    clear hb
    generalize b.length = n at *
    have hz : (n : Int) < 64 := by omega
    go_enter Tryz.func61, Tryz.ntmps61
    go_wp2_with (with_reducible refine wl_stAgg rfl _ _ _ rfl _ _ rfl rfl ?_)
    have hkV : Keep No w (w.alloc (.cells #[.int .i64 0, .int .u64 0, .int .u64 0, .int .i64 0] 68)) := (Keep.refl _ _).alloc _
    have hBV : Blk (w.alloc (.cells #[.int .i64 0, .int .u64 0, .int .u64 0, .int .i64 0] 68)) w.heap.size #[.int .i64 0, .int .u64 0, .int .u64 0, .int .i64 0] 68 := Blk.new _ _ _
    have hzV : (w.alloc (.cells #[.int .i64 0, .int .u64 0, .int .u64 0, .int .i64 0] 68)).heap.size = w.heap.size + 1 := World.size_alloc _ _
    generalize w.alloc (.cells #[.int .i64 0, .int .u64 0, .int .u64 0, .int .i64 0] 68) = V at *
    refine rg_stAgg hBV (by kernel_rfl) (by rfl) (by simp [Value.oneCell']) ?_
    intro w3 hB3 hk3 _
    go_wp2_with fail
    refine ret_blk_tmp rfl rfl hB3 Tryz.underlying68 rfl (by kernel_rfl) rfl ?_
    exact ⟨rfl, hkV.trans hk3 fun j hj e => by have e2 : j = w.heap.size := e; omega⟩
  · rw [if_neg hlt] at hH
    have HR := Lib.hid hH
    clear hH
    have hz : (64 : Int) ≤ (b.length : Int) := by omega
    have HB := Lib.hid hb
    have hx0 : getX b 16 2 < 65536 := getX_lt b 16 2
    have hx1 : getX b 24 8 < 18446744073709551616 := getX_lt b 24 8
    have hx2 : getX b 32 8 < 18446744073709551616 := getX_lt b 32 8
    have hx3 : getX b 56 2 < 65536 := getX_lt b 56 2
    have hg16 : ∀ W, Keep No w W → _ := fun W k => r01get_any (w := W) b 16 2 (Sl.keep hb k fun _ _ _ h => h) hl (by decide) (by decide) (by decide)
    have hg24 : ∀ W, Keep No w W → _ := fun W k => r01get_any (w := W) b 24 8 (Sl.keep hb k fun _ _ _ h => h) hl (by decide) (by decide) (by decide)
    have hg32 : ∀ W, Keep No w W → _ := fun W k => r01get_any (w := W) b 32 8 (Sl.keep hb k fun _ _ _ h => h) hl (by decide) (by decide) (by decide)
    have hg56 : ∀ W, Keep No w W → _ := fun W k => r01get_any (w := W) b 56 2 (Sl.keep hb k fun _ _ _ h => h) hl (by decide) (by decide) (by decide)
    have hout := fun W => r03put_any (w := W) (headIn b)
    have hbad := fun W => r03put_bad (w := W) (headIn b)
    have hpart := fun W (k : Keep No w W) => bts_upto (Sl.keep hb k fun _ _ _ h => h) (i := 64) (by omega)
    have hco : (64 : Int) ≤ (co : Int) := by omega
    unfold headIn at hout hbad
    dsimp only at hout hbad
    have HI : Hid (headIn b = ⟨getX b 16 2, getX b 24 8, getX b 32 8, getX b 56 2⟩) := Lib.hid rfl
    have HO := Lib.hid hout
    have HBAD := Lib.hid hbad
    have HP := Lib.hid hpart
    have HG := Lib.hid (And.intro hg16 (And.intro hg24 (And.intro hg32 hg56)))
    clear hout hbad hpart hg16 hg24 hg32 hg56 hb
    generalize getX b 16 2 = x0 at *
    generalize getX b 24 8 = x1 at *
    generalize getX b 32 8 = x2 at *
    generalize getX b 56 2 = x3 at *
    have w0 : IntKind.i64.wrap (x0 : Int) = (x0 : Int) := by rw [IntKind.wrap_i64]; omega
    have w3 : IntKind.i64.wrap (x3 : Int) = (x3 : Int) := by rw [IntKind.wrap_i64]; omega
    obtain ⟨n, hn⟩ : ∃ n, n = b.length := ⟨_, rfl⟩
    have HN := Lib.hid hn
    rw [← hn] at hz hc1 HG ⊢
    clear hn hl hlt HB hc2
    go_enter Tryz.func61, Tryz.ntmps61
    go_wp2_with (with_reducible refine wl_st rfl _ _ _ rfl _ _ _ rfl rfl ?_)
    have hkW : Keep No w (w.alloc (.cells #[.int .i64 0, .int .u64 0, .int .u64 0, .int .i64 0] 68)) := (Keep.refl _ _).alloc _
    have hBW : Blk (w.alloc (.cells #[.int .i64 0, .int .u64 0, .int .u64 0, .int .i64 0] 68)) w.heap.size #[.int .i64 0, .int .u64 0, .int .u64 0, .int .i64 0] 68 := Blk.new _ _ _
    have hzW : (w.alloc (.cells #[.int .i64 0, .int .u64 0, .int .u64 0, .int .i64 0] 68)).heap.size = w.heap.size + 1 := World.size_alloc _ _
    generalize w.alloc (.cells #[.int .i64 0, .int .u64 0, .int .u64 0, .int .i64 0] 68) = W at *
    have hkV : Keep No W (W.alloc (.cells #[.int .i64 0, .int .u64 0, .int .u64 0, .int .i64 0] 68)) := (Keep.refl _ _).alloc _
    have hBV : Blk (W.alloc (.cells #[.int .i64 0, .int .u64 0, .int .u64 0, .int .i64 0] 68)) W.heap.size #[.int .i64 0, .int .u64 0, .int .u64 0, .int .i64 0] 68 := Blk.new _ _ _
    have hzV : (W.alloc (.cells #[.int .i64 0, .int .u64 0, .int .u64 0, .int .i64 0] 68)).heap.size = W.heap.size + 1 := World.size_alloc _ _
    generalize W.alloc (.cells #[.int .i64 0, .int .u64 0, .int .u64 0, .int .i64 0] 68) = V at *
    have hkwV := hkW.trans' hkV
    have hRV := hBW.keep hkV fun h => h
    rw [hzW] at hBV
    clear hBW hkW hkV
    refine (HG.out.1 V hkwV).mono ?_
    rintro e _ ⟨rfl, rfl⟩
    go_wp2_with (with_reducible refine wl_st rfl _ _ _ rfl _ _ _ rfl rfl ?_)
    refine rg_st1 hBV (by kernel_rfl) (by show 0 < 4; decide) rfl rfl ?_
    intro V1 hBV1 hkV1 hzV1
    replace hBV1 : Blk V1 (w.heap.size + 1) #[.int .i64 (x0 : Int), .int .u64 0, .int .u64 0, .int .i64 0] 68 := hBV1
    have hCV1 : Keep No w V1 := (hkwV).trans hkV1 fun j hj e => by have e2 : j = w.heap.size + 1 := e; omega
    have hRV1 := (hRV).keep hkV1 fun e => by have e2 : w.heap.size = w.heap.size + 1 := e; omega
    clear hkV1 hzV1
    go_wp2_with (first | (with_reducible refine wl_ld rfl _ 68 rfl _ rfl ?_) | (with_reducible refine wl_st rfl _ _ _ rfl _ _ _ rfl rfl ?_))
    refine (HG.out.2.1 V1 hCV1).mono ?_
    rintro e _ ⟨rfl, rfl⟩
    go_wp2_with (with_reducible refine wl_st rfl _ _ _ rfl _ _ _ rfl rfl ?_)
    refine rg_st1 hBV1 (by kernel_rfl) (by show 1 < 4; decide) rfl rfl ?_
    intro V2 hBV2 hkV2 hzV2
    replace hBV2 : Blk V2 (w.heap.size + 1) #[.int .i64 (x0 : Int), .int .u64 (x1 : Int), .int .u64 0, .int .i64 0] 68 := hBV2
    have hCV2 : Keep No w V2 := (hCV1).trans hkV2 fun j hj e => by have e2 : j = w.heap.size + 1 := e; omega
    have hRV2 := (hRV1).keep hkV2 fun e => by have e2 : w.heap.size = w.heap.size + 1 := e; omega
    clear hkV2 hzV2
    go_wp2_with (first | (with_reducible refine wl_ld rfl _ 68 rfl _ rfl ?_) | (with_reducible refine wl_st rfl _ _ _ rfl _ _ _ rfl rfl ?_))
    refine (HG.out.2.2.1 V2 hCV2).mono ?_
    rintro e _ ⟨rfl, rfl⟩
    go_wp2_with (with_reducible refine wl_st rfl _ _ _ rfl _ _ _ rfl rfl ?_)
    refine rg_st1 hBV2 (by kernel_rfl) (by show 2 < 4; decide) rfl rfl ?_
    intro V3 hBV3 hkV3 hzV3
    replace hBV3 : Blk V3 (w.heap.size + 1) #[.int .i64 (x0 : Int), .int .u64 (x1 : Int), .int .u64 (x2 : Int), .int .i64 0] 68 := hBV3
    have hCV3 : Keep No w V3 := (hCV2).trans hkV3 fun j hj e => by have e2 : j = w.heap.size + 1 := e; omega
    have hRV3 := (hRV2).keep hkV3 fun e => by have e2 : w.heap.size = w.heap.size + 1 := e; omega
    clear hkV3 hzV3
    go_wp2_with (first | (with_reducible refine wl_ld rfl _ 68 rfl _ rfl ?_) | (with_reducible refine wl_st rfl _ _ _ rfl _ _ _ rfl rfl ?_))
    refine (HG.out.2.2.2 V3 hCV3).mono ?_
    rintro e _ ⟨rfl, rfl⟩
    go_wp2_with (with_reducible refine wl_st rfl _ _ _ rfl _ _ _ rfl rfl ?_)
    refine rg_st1 hBV3 (by kernel_rfl) (by show 3 < 4; decide) rfl rfl ?_
    intro V4 hBV4 hkV4 hzV4
    replace hBV4 : Blk V4 (w.heap.size + 1) #[.int .i64 (x0 : Int), .int .u64 (x1 : Int), .int .u64 (x2 : Int), .int .i64 (x3 : Int)] 68 := hBV4
    have hCV4 : Keep No w V4 := (hCV3).trans hkV4 fun j hj e => by have e2 : j = w.heap.size + 1 := e; omega
    have hRV4 := (hRV3).keep hkV4 fun e => by have e2 : w.heap.size = w.heap.size + 1 := e; omega
    clear hkV4 hzV4
    go_wp2_with (first | (with_reducible refine wl_ld rfl _ 68 rfl _ rfl ?_) | (with_reducible refine wl_st rfl _ _ _ rfl _ _ _ rfl rfl ?_))
    clear hBV hBV1 hBV2 hBV3 hRV hRV1 hRV2 hRV3 hkwV hCV1 hCV2 hCV3 hzV
    refine rg_ld hBV4 Tryz.underlying68 rfl (by kernel_rfl) ?_
    go_wp2_with (with_reducible refine wl_ld rfl _ 68 rfl _ rfl ?_)
    have hV4 := hBV4.lt
    have hhd : headIn b = ⟨x0, x1, x2, x3⟩ := HI.out
    have hr := HR.out
    rw [hhd] at hr
    cases hok : headOk ⟨x0, x1, x2, x3⟩ with
    | false =>
      rw [hok, Bool.false_and, if_neg (by decide)] at hr
      subst hr
      refine (HBAD.out V4 hok hx0 hx3).mono ?_
      rintro e V5 ⟨rfl, k5⟩
      have hR5 := hRV4.keep k5 fun h => h
      have hkF := hCV4.trans' k5
      clear HBAD HO HP HG
      go_wp2_with fail
      go_quiet (fail)
      go_wp2_with (with_reducible refine wl_stAgg rfl _ _ _ rfl _ _ rfl rfl ?_)
      have hR6 := hR5.keep ((Keep.refl No V5).drewN nq) fun h => h
      refine rg_stAgg hR6 (by kernel_rfl) (by rfl) (by simp [Value.oneCell']) ?_
      intro w3 hB3 hk3 _
      go_wp2_with fail
      refine ret_blk_tmp rfl rfl hB3 Tryz.underlying68 rfl (by kernel_rfl) rfl ?_
      exact ⟨rfl, (hkF.trans' ((Keep.refl No V5).drewN nq)).trans hk3 fun j hj e => by have e2 : j = w.heap.size := e; omega⟩
    | true =>
      rw [hok, Bool.true_and] at hr
      refine (HO.out V4 hok hx1 hx2).mono ?_
      rintro e V5 ⟨v5, rfl, h5, k5⟩
      have hR5 := hRV4.keep k5 fun h => h
      have hB5 := hBV4.keep k5 fun h => h
      have hkF := hCV4.trans' k5
      have hc1' := fun m => conv_str (w := V5.drewN m) (Sl.keep (FlO.bts' h5) ((Keep.refl No V5).drewN m) fun _ _ _ h => h)
      have hc2' := fun m => conv_str (w := V5.drewN m) (HP.out _ (hkF.trans' ((Keep.refl No V5).drewN m)))
      obtain ⟨a5, n5, c5, rfl⟩ : ∃ a n c, v5 = .slice a n c := by
        obtain ⟨a, c, e, _⟩ := h5.fl.shape
        exact ⟨_, _, _, e⟩
      have hn64 : (64 : Int) ≤ (n : Int) := hz
      clear HBAD HO HP HG h5
      by_cases heq : headB ⟨x0, x1, x2, x3⟩ = b.take 64
      · rw [decide_eq_true heq, if_pos rfl] at hr
        subst hr
        rw [← heq] at hc2'
        generalize (⟨(headB ⟨x0, x1, x2, x3⟩).toArray⟩ : ByteArray) = s1 at *
        clear heq
        go_wp2_with fail
        go_quiet (fail)
        go_wp2_with (first | (with_reducible refine wl_ld rfl _ 68 rfl _ rfl ?_) | (with_reducible refine wl_stAgg rfl _ _ _ rfl _ _ rfl rfl ?_))
        have hB6 := hB5.keep ((Keep.refl No V5).drewN nq) fun h => h
        have hR6 := hR5.keep ((Keep.refl No V5).drewN nq) fun h => h
        refine rg_ld hB6 Tryz.underlying68 rfl (by kernel_rfl) ?_
        go_wp2_with (with_reducible refine wl_stAgg rfl _ _ _ rfl _ _ rfl rfl ?_)
        refine rg_stAgg hR6 (by kernel_rfl) (by rfl) (by simp [Value.oneCell']) ?_
        intro w3 hB3 hk3 _
        go_wp2_with fail
        refine ret_blk_tmp rfl rfl hB3 Tryz.underlying68 rfl (by kernel_rfl) rfl ?_
        exact ⟨rfl, (hkF.trans' ((Keep.refl No V5).drewN nq)).trans hk3 fun j hj e => by have e2 : j = w.heap.size := e; omega⟩
      · rw [decide_eq_false heq, if_neg (by decide)] at hr
        subst hr
        generalize headB ⟨x0, x1, x2, x3⟩ = l1 at *
        generalize b.take 64 = l2 at *
        have hne : (l1 != l2) = true := by rw [bne_iff_ne]; exact heq
        have hne2 : (l1 == l2) = false := by rw [beq_eq_false_iff_ne]; exact heq
        go_wp2_with fail
        go_quiet (fail)
        go_wp2_with (with_reducible refine wl_stAgg rfl _ _ _ rfl _ _ rfl rfl ?_)
        have hR6 := hR5.keep ((Keep.refl No V5).drewN nq) fun h => h
        refine rg_stAgg hR6 (by kernel_rfl) (by rfl) (by simp [Value.oneCell']) ?_
        intro w3 hB3 hk3 _
        go_wp2_with fail
        refine ret_blk_tmp rfl rfl hB3 Tryz.underlying68 rfl (by kernel_rfl) rfl ?_
        exact ⟨rfl, (hkF.trans' ((Keep.refl No V5).drewN nq)).trans hk3 fun j hj e => by have e2 : j = w.heap.size := e; omega⟩
end
end Go.Proofs.YtbnahidopemkiaaGreat
namespace Go.Dm.Oc
open Go
theorem getX_take {b : List UInt8} {at_ k n : Nat} (hk : k = 1 ∨ k = 2 ∨ k = 4 ∨ k = 8) (h : at_ + k ≤ n) (hn : n ≤ b.length) : getX (b.take n) at_ (k : Int) = getX b at_ (k : Int) := by
  rw [getX_in hk (by rw [List.length_take]; omega), getX_in hk (by omega), List.drop_take, List.take_take, Nat.min_eq_left (by omega)]
end Go.Dm.Oc
namespace Go.Dm.Ld
open Go Go.Dm.Oc
theorem sgGet_take {b : BS} (h : 56 ≤ b.length) : sgGet (b.take 56) = sgGet b := by
  have e (a : Nat) (ha : a + 8 ≤ 56) : getX (b.take 56) a 8 = getX b a 8 := getX_take (k := 8) (by omega) ha h
  have hl1 : (b.take 56).length = 56 := by rw [List.length_take]; omega
  unfold sgGet sgIn
  rw [e 0 (by decide), e 8 (by decide), e 16 (by decide), e 24 (by decide), e 32 (by decide), e 40 (by decide), e 48 (by decide), hl1, if_neg (show ¬ (56 : Nat) < 56 by decide), if_neg (show ¬ b.length < 56 by omega)]
end Go.Dm.Ld
namespace Go.Proofs.YtbnahidopemkiaaGreat
open Go.RowKit Go.Dm Go.Dm.Oc Go.Dm.Ld
section
variable {A : Nat → Prop} {w : World} {v : Value}
set_option maxRecDepth 100000 in
set_option maxHeartbeats 2000000 in
theorem r04tab_any (b : BS) (at_ n : Nat) (hb : Bts A w v b) (hl : b.length ≤ 1000000000) (ha : at_ < 18446744073709551616) (hn : n < 65536) :
    Calls Tryz.prog 62 #[v, .int .u64 (at_ : Int), .int .i64 (n : Int)] w fun e w' => ∃ v', e = .returned (.tuple #[v', .int .i64 ((sgTab b at_ n).1 : Nat)]) ∧ FlO w' w.heap.size 113 7 encSg v' (sgTab b at_ n).2 ∧ Keep No w w' := by
  have hcut := r01cut_any (w := w) b at_ (n * 56) hb hl ha (by omega)
  obtain ⟨ao, co, rfl, hc1, hc2⟩ := hb.shape
  obtain ⟨r, hr⟩ : ∃ r, r = sgTab b at_ n := ⟨_, rfl⟩
  rw [← hr]
  unfold sgTab at hr
  rcases Nat.lt_or_ge 64 n with h64 | h64
  · rw [if_pos h64] at hr
    subst hr
    have g1 : (64 : Int) < (n : Int) := by omega
    have g2 : (0 : Int) ≤ (n : Int) := by omega
    clear hcut hb
    go_enter Tryz.func62, Tryz.ntmps62
    go_wp2_with fail
    go_ret2
    exact ⟨_, rfl, FlO.nil, Keep.refl _ _⟩
  · rw [if_neg (by omega)] at hr
    have g1 : (n : Int) ≤ 64 := by omega
    have g2 : (0 : Int) ≤ (n : Int) := by omega
    have hm : 56 * (n : Int) = ((n * 56 : Nat) : Int) := by omega
    obtain ⟨nn, hnn⟩ : ∃ q, q = n * 56 := ⟨_, rfl⟩
    rw [← hnn] at hm hcut hr
    have hlen : (cutM b at_ nn).1 = 0 → (cutM b at_ nn).2.length = nn := fun h => by
      unfold cutM at h ⊢
      split at h
      · rename_i h1
        rw [if_pos h1, List.length_take, List.length_drop]
        unfold hasB at h1
        simp only [Bool.and_eq_true, decide_eq_true_eq] at h1
        omega
      · cases h
    have HR := Lib.hid hr
    have HNN := Lib.hid hnn
    clear hr hb hnn
    have hw : IntKind.u64.wrap (nn : Int) = (nn : Int) := by rw [IntKind.wrap_u64]; have := HNN.out; omega
    generalize b.length = bl at *
    generalize cutM b at_ nn = c at *
    obtain ⟨ce, cb⟩ := c
    dsimp only at hcut hlen HR
    go_enter Tryz.func62, Tryz.ntmps62
    go_wp2_with fail
    refine hcut.mono ?_
    clear hcut
    rintro e w1 ⟨v1, rfl, h1, k1⟩
    obtain ⟨a1, c1, e1, hcc1, hcc2⟩ := h1.fl.shape
    subst e1
    by_cases hce : ce = 0
    · subst hce
      rw [if_pos rfl] at HR
      have hcl := hlen rfl
      have hB1 : Bts (fun _ => True) w1 (.slice a1 cb.length c1) cb := by
        have h2 : Fl (fun _ => True) w1 1 e8 (.slice a1 cb.length c1) cb := h1.fl.mono fun _ _ _ => trivial
        unfold Fl at h2
        rw [e8_map] at h2
        exact h2
      have HB1 := Lib.hid hB1
      have HCL := Lib.hid hcl
      have hO0 : Out w1 w1 113 7 encSg (.slice none 0 0) [] := ⟨FlO.nil, Keep.refl _ _⟩
      have hcc1z : (cb.length : Int) ≤ (c1 : Int) := by omega
      rw [hcl] at hcc1z ⊢
      clear hlen h1 hB1 hcl hcc1
      go_wp2_with fail
      go_loopw [10, 11, 12, 13] (fun ov iv _ _ wr => ∃ (i : Nat) (acc : List Sg), iv = .int .i64 (i : Int) ∧ i ≤ n ∧ acc.length = i ∧ Hid (r = sgGo cb (n - i) i acc) ∧ Out w1 wr 113 7 encSg ov acc) (fun _ iv _ _ _ => n - (intOf iv).toNat)
      case atStart => exact ⟨0, [], rfl, Nat.zero_le _, rfl, HR, hO0⟩
      case round =>
        obtain ⟨i, acc, rfl, hi, hal, HG, hO⟩ := hrel
        clear HR hO0
        generalize wr = wz at *
        have hkz := hO.old (Keep.refl _ _)
        obtain ⟨ax, nx, cx, rfl⟩ := hO.sh
        rcases Nat.lt_or_ge i n with hlt | hge
        · have hiz : (i : Int) < (n : Int) := by omega
          have hbnd : i * 56 + 56 ≤ cb.length := by rw [HCL.out, HNN.out]; omega
          have hp := bts_part (Sl.keep HB1.out hkz fun _ _ _ h => h) (lo := i * 56) (n := 56) hbnd
          have hgd : 56 ≤ (cb.drop (i * 56)).length := by rw [List.length_drop]; omega
          have hget := r04get_any _ hp (by rw [List.length_take]; omega)
          rw [sgGet_take hgd] at hget
          have hg := HG.out
          rw [show n - i = (n - (i + 1)) + 1 from by omega] at hg
          unfold sgGo at hg
          have HG2 := Lib.hid hg
          clear hg HG hp hgd
          generalize sgGet (cb.drop (i * 56)) = q at *
          obtain ⟨qe, qs⟩ := q
          dsimp only at hget HG2
          have m1 : 56 * (i : Int) = ((i * 56 : Nat) : Int) := by omega
          obtain ⟨lo, hlo⟩ : ∃ q, q = i * 56 := ⟨_, rfl⟩
          rw [← hlo] at m1 hget
          have m2 : (lo : Int) + 56 = ((lo + 56 : Nat) : Int) := by omega
          obtain ⟨hi2, hhi⟩ : ∃ q, q = lo + 56 := ⟨_, rfl⟩
          rw [← hhi] at m2
          have s1 : (hi2 : Int) - (lo : Int) = 56 := by omega
          have s2 : (c1 : Int) - (lo : Int) = ((c1 - lo : Nat) : Int) := by omega
          have l1 : (lo : Int) ≤ (hi2 : Int) := by omega
          have l2 : (hi2 : Int) ≤ (c1 : Int) := by have := HNN.out; omega
          have hneq : ¬ c1 = lo := by omega
          have hs1n : hi2 - lo = 56 := by omega
          clear hbnd hlo hhi
          go_wp2_with fail

          refine hget.mono ?_
          clear hget s1 s2 l1 l2 hneq hs1n m1 m2
          rintro e w3 ⟨rfl, k3⟩
          have hO3 := hO.call k3
          have hone : (encSg qs).toArray.all (·.oneCell') = true := by simp [encSg, Value.oneCell']
          go_wp2_with (with_reducible refine wl_stAgg rfl _ _ _ rfl _ _ rfl rfl ?_)
          have hkW4 : Keep No w3 (w3.alloc (.cells #[.int .u32 0, .int .u32 0, .int .u64 0, .int .u64 0, .int .u64 0, .int .u64 0, .int .u64 0] 113)) := (Keep.refl _ _).alloc _
          have hBW4 : Blk (w3.alloc (.cells #[.int .u32 0, .int .u32 0, .int .u64 0, .int .u64 0, .int .u64 0, .int .u64 0, .int .u64 0] 113)) w3.heap.size #[.int .u32 0, .int .u32 0, .int .u64 0, .int .u64 0, .int .u64 0, .int .u64 0, .int .u64 0] 113 := Blk.new _ _ _
          have hzW4 : (w3.alloc (.cells #[.int .u32 0, .int .u32 0, .int .u64 0, .int .u64 0, .int .u64 0, .int .u64 0, .int .u64 0] 113)).heap.size = w3.heap.size + 1 := World.size_alloc _ _
          generalize w3.alloc (.cells #[.int .u32 0, .int .u32 0, .int .u64 0, .int .u64 0, .int .u64 0, .int .u64 0, .int .u64 0] 113) = W4 at *
          refine rg_stAgg hBW4 (by kernel_rfl) (by rfl) hone ?_
          intro w5 hI5 hk5 hz5
          have hk35 : Keep No w3 w5 := hkW4.trans hk5 fun j hj e => by have e2 : j = w3.heap.size := e; omega
          have hO5 := hO3.call hk35
          have hk15 := hkz.trans' (k3.trans' hk35)
          clear hBW4 hkW4 hzW4 hk5 hz5 hO hO3 hone k3 hk35 hkz
          by_cases hqe : qe = 0
          · subst hqe
            have hg := HG2.out
            rw [if_pos rfl] at hg
            have HG3 := Lib.hid hg
            obtain ⟨x0, x1, x2, x3, x4, x5, x6⟩ := qs
            have m0 : w5.cell? ⟨w3.heap.size, 0, none⟩ = some (.int .u32 (x0 : Int)) := hI5.cell 0
            have m1 : w5.cell? ⟨w3.heap.size, 1, none⟩ = some (.int .u32 (x1 : Int)) := hI5.cell 1
            have m2 : w5.cell? ⟨w3.heap.size, 2, none⟩ = some (.int .u64 (x2 : Int)) := hI5.cell 2
            have m3 : w5.cell? ⟨w3.heap.size, 3, none⟩ = some (.int .u64 (x3 : Int)) := hI5.cell 3
            have m4 : w5.cell? ⟨w3.heap.size, 4, none⟩ = some (.int .u64 (x4 : Int)) := hI5.cell 4
            have m5 : w5.cell? ⟨w3.heap.size, 5, none⟩ = some (.int .u64 (x5 : Int)) := hI5.cell 5
            have m6 : w5.cell? ⟨w3.heap.size, 6, none⟩ = some (.int .u64 (x6 : Int)) := hI5.cell 6
            have hll : acc.length ≤ 64 := by omega
            have hal2 : (acc ++ [(⟨x0, x1, x2, x3, x4, x5, x6⟩ : Sg)]).length = i + 1 := by rw [List.length_append, hal]; rfl
            have hsz := hO5.base
            clear hg HG2 hI5 hk15
            go_wp2_with (at_builtin; refine wl_append rfl _ _ _ _ rfl _ _ rfl rfl ?_)
            refine rg_push (P := Tryz.prog) (x := (⟨x0, x1, x2, x3, x4, x5, x6⟩ : Sg)) (cs := #[.int .u32 (x0 : Int), .int .u32 (x1 : Int), .int .u64 (x2 : Int), .int .u64 (x3 : Int), .int .u64 (x4 : Int), .int .u64 (x5 : Int), .int .u64 (x6 : Int)]) _ _ Tryz.underlying56 segT_info (by rfl) (by decide) (by rfl) (by rfl) (encSg_one _) hO5.row (by omega) (by decide) hsz ?_
            intro v13 w13 ho13 hk13 hn13
            have hO13 := hO5.push ho13 hk13
            obtain ⟨a13, n13, c13, rfl⟩ := hO13.sh
            clear m0 m1 m2 m3 m4 m5 m6 ho13 hk13 hn13 hO5 hll hsz
            go_wp2_with fail
            go_roundw
            case rel => exact ⟨i + 1, _, by go_num, hlt, hal2, HG3, hO13⟩
            case measure => simp [intOf]; omega
          · have hr := HG2.out
            rw [if_neg hqe] at hr
            subst hr
            have hq : ((qe : Int) != 0) = true := by rw [bne_iff_ne]; omega
            go_wp2_with fail
            go_ret2
            exact ⟨_, rfl, FlO.nil, k1.trans' hk15⟩
        · obtain rfl : i = n := Nat.le_antisymm hi hge
          have hr := HG.out
          rw [Nat.sub_self] at hr
          unfold sgGo at hr
          subst hr
          go_wp2_with fail
          go_ret2
          exact ⟨_, rfl, own_base hO.row k1.size, k1.trans' hkz⟩
    · rw [if_neg hce] at HR
      have hr := HR.out
      subst hr
      have hq : ((ce : Int) != 0) = true := by rw [bne_iff_ne]; omega
      go_wp2_with fail
      go_ret2
      exact ⟨_, rfl, FlO.nil, k1⟩
end
end Go.Proofs.YtbnahidopemkiaaGreat
