/- The document's image: images that are the same. No condition. -/
import Derived.Test.YtbnahidopemkiaaGreatDzB
import Derived.Test.YtbnahidopemkiaaGreatDzE
import Derived.Test.YtbnahidopemkiaaGreatClN
import Derived.Test.YtbnahidopemkiaaGreatLdS
import Derived.BigQuiet
set_option linter.unusedVariables false
set_option linter.unusedSimpArgs false
namespace Go.Proofs.YtbnahidopemkiaaGreat
open Go.RowKit Go.Dm Go.Dm.Oc Go.Dm.Ld
section
variable {A B : Nat → Prop} {w : World}
set_option maxRecDepth 100000 in
set_option maxHeartbeats 6000000 in
theorem r09same_eq (im : Im) (ca cb : List Value) (ha : ImR A w ca im) (hb : ImR B w cb im) : Calls Tryz.prog 20 #[.agg ca.toArray, .agg cb.toArray] w fun e w' => e = .returned (.bool true) ∧ Keep No w w' := by
  obtain ⟨vs, vn, vm, vy, vr, vb, rfl, s1, s2, s3, s4, s5, s6⟩ := ha
  obtain ⟨us, un, um, uy, ur, ub, rfl, t1, t2, t3, t4, t5, t6⟩ := hb
  obtain ⟨a1, p1, rfl, hq1, hq2⟩ := s1.shape
  obtain ⟨a2, p2, rfl, _, _⟩ := s2.shape
  obtain ⟨a3, p3, rfl, _, _⟩ := s3.shape
  obtain ⟨a4, p4, rfl, hq3, hq4⟩ := s4.shape
  obtain ⟨a5, p5, rfl, hq5, hq6⟩ := s5.shape
  obtain ⟨a6, p6, rfl, _, _⟩ := Sl.shape s6
  obtain ⟨b1, q1, rfl, _, _⟩ := t1.shape
  obtain ⟨b2, q2, rfl, _, _⟩ := t2.shape
  obtain ⟨b3, q3, rfl, _, _⟩ := t3.shape
  obtain ⟨b4, q4, rfl, _, _⟩ := t4.shape
  obtain ⟨b5, q5, rfl, _, _⟩ := t5.shape
  obtain ⟨b6, q6, rfl, _, _⟩ := Sl.shape t6
  have hcv := fun W (k : Keep No w W) => conv_str (w := W) (l := im.bytes) (Sl.keep s6 k fun _ _ _ h => h)
  have hcw := fun W (k : Keep No w W) => conv_str (w := W) (l := im.bytes) (Sl.keep t6 k fun _ _ _ h => h)
  have HS := Lib.hid (And.intro s1 (And.intro s2 (And.intro s3 (And.intro s4 (And.intro s5 (And.intro t1 (And.intro t2 (And.intro t3 (And.intro t4 t5)))))))))
  have hb1 : (im.segs.length : Int) ≤ 9223372036854775807 := by unfold maxLen at hq2; omega
  have hb2 : (im.syms.length : Int) ≤ 9223372036854775807 := by unfold maxLen at hq4; omega
  have hb3 : (im.rels.length : Int) ≤ 9223372036854775807 := by unfold maxLen at hq6; omega
  unfold imC
  clear s1 s2 s3 s4 s5 s6 t1 t2 t3 t4 t5 t6 hq1 hq2 hq3 hq4 hq5 hq6
  obtain ⟨hd, l, so, need, names, sy, rl, bs⟩ := im
  dsimp only at *
  obtain ⟨h0, h1, h2, h3⟩ := hd
  obtain ⟨n1, hn1⟩ : ∃ n, n = l.length := ⟨_, rfl⟩
  obtain ⟨n2, hn2⟩ : ∃ n, n = sy.length := ⟨_, rfl⟩
  obtain ⟨n3, hn3⟩ : ∃ n, n = rl.length := ⟨_, rfl⟩
  have H1 := Lib.hid hn1
  have H2 := Lib.hid hn2
  have H3 := Lib.hid hn3
  rw [← hn1] at hb1 HS ⊢
  rw [← hn2] at hb2 HS ⊢
  rw [← hn3] at hb3 HS ⊢
  have HCV := Lib.hid hcv
  have HCW := Lib.hid hcw
  generalize (⟨so.toArray⟩ : ByteArray) = sso at *
  generalize bs.length = nb at *
  clear hn1 hn2 hn3 hcv hcw
  go_enter Tryz.func20, Tryz.ntmps20
  go_upto_region 1 with fail
  have hkW1 : Keep No w (w.alloc (.cells #[.int .i64 (h0 : Int), .int .u64 (h1 : Int), .int .u64 (h2 : Int), .int .i64 (h3 : Int), .slice a1 n1 p1, .string sso, .slice a2 need.length p2, .slice a3 names.length p3, .slice a4 n2 p4, .slice a5 n3 p5, .slice a6 nb p6] 70)) := (Keep.refl _ _).alloc _
  have hBW1 : Blk (w.alloc (.cells #[.int .i64 (h0 : Int), .int .u64 (h1 : Int), .int .u64 (h2 : Int), .int .i64 (h3 : Int), .slice a1 n1 p1, .string sso, .slice a2 need.length p2, .slice a3 names.length p3, .slice a4 n2 p4, .slice a5 n3 p5, .slice a6 nb p6] 70)) w.heap.size #[.int .i64 (h0 : Int), .int .u64 (h1 : Int), .int .u64 (h2 : Int), .int .i64 (h3 : Int), .slice a1 n1 p1, .string sso, .slice a2 need.length p2, .slice a3 names.length p3, .slice a4 n2 p4, .slice a5 n3 p5, .slice a6 nb p6] 70 := Blk.new _ _ _
  have hzW1 : (w.alloc (.cells #[.int .i64 (h0 : Int), .int .u64 (h1 : Int), .int .u64 (h2 : Int), .int .i64 (h3 : Int), .slice a1 n1 p1, .string sso, .slice a2 need.length p2, .slice a3 names.length p3, .slice a4 n2 p4, .slice a5 n3 p5, .slice a6 nb p6] 70)).heap.size = w.heap.size + 1 := World.size_alloc _ _
  generalize w.alloc (.cells #[.int .i64 (h0 : Int), .int .u64 (h1 : Int), .int .u64 (h2 : Int), .int .i64 (h3 : Int), .slice a1 n1 p1, .string sso, .slice a2 need.length p2, .slice a3 names.length p3, .slice a4 n2 p4, .slice a5 n3 p5, .slice a6 nb p6] 70) = W1 at *
  have hkW2 : Keep No W1 (W1.alloc (.cells #[.int .i64 (h0 : Int), .int .u64 (h1 : Int), .int .u64 (h2 : Int), .int .i64 (h3 : Int), .slice b1 n1 q1, .string sso, .slice b2 need.length q2, .slice b3 names.length q3, .slice b4 n2 q4, .slice b5 n3 q5, .slice b6 nb q6] 70)) := (Keep.refl _ _).alloc _
  have hBW2 : Blk (W1.alloc (.cells #[.int .i64 (h0 : Int), .int .u64 (h1 : Int), .int .u64 (h2 : Int), .int .i64 (h3 : Int), .slice b1 n1 q1, .string sso, .slice b2 need.length q2, .slice b3 names.length q3, .slice b4 n2 q4, .slice b5 n3 q5, .slice b6 nb q6] 70)) W1.heap.size #[.int .i64 (h0 : Int), .int .u64 (h1 : Int), .int .u64 (h2 : Int), .int .i64 (h3 : Int), .slice b1 n1 q1, .string sso, .slice b2 need.length q2, .slice b3 names.length q3, .slice b4 n2 q4, .slice b5 n3 q5, .slice b6 nb q6] 70 := Blk.new _ _ _
  have hzW2 : (W1.alloc (.cells #[.int .i64 (h0 : Int), .int .u64 (h1 : Int), .int .u64 (h2 : Int), .int .i64 (h3 : Int), .slice b1 n1 q1, .string sso, .slice b2 need.length q2, .slice b3 names.length q3, .slice b4 n2 q4, .slice b5 n3 q5, .slice b6 nb q6] 70)).heap.size = W1.heap.size + 1 := World.size_alloc _ _
  generalize W1.alloc (.cells #[.int .i64 (h0 : Int), .int .u64 (h1 : Int), .int .u64 (h2 : Int), .int .i64 (h3 : Int), .slice b1 n1 q1, .string sso, .slice b2 need.length q2, .slice b3 names.length q3, .slice b4 n2 q4, .slice b5 n3 q5, .slice b6 nb q6] 70) = W2 at *
  rw [hzW1] at hBW2
  have hX := hBW1.keep hkW2 fun h => h
  have hY := hBW2
  have hk0 := hkW1.trans' hkW2
  clear hBW1 hBW2 hkW1 hkW2 hzW1 hzW2
  have x0 := hX.cell 0
  have x1 := hX.cell 1
  have x2 := hX.cell 2
  have x3 := hX.cell 3
  have y0 := hY.cell 0
  have y1 := hY.cell 1
  have y2 := hY.cell 2
  have y3 := hY.cell 3
  have x5 := hX.cell 5
  have y5 := hY.cell 5
  have x10 := hX.cell 10
  have y10 := hY.cell 10
  have x4 := hX.cell 4
  have y4 := hY.cell 4
  have x8 := hX.cell 8
  have y8 := hY.cell 8
  have x9 := hX.cell 9
  have y9 := hY.cell 9
  have cv1 := HCV.out W2 hk0
  have cv2 := HCW.out W2 hk0
  generalize (⟨bs.toArray⟩ : ByteArray) = sbs at *
  go_wp2_with fail
  clear x0 x1 x2 x3 y0 y1 y2 y3 x5 y5 x10 y10 cv1 cv2 x4 y4 x8 y8 x9 y9
  have hkS := Keep.refl No W2
  go_loopw [5] (fun iv wr => ∃ i : Nat, iv = .int .i64 (i : Int) ∧ i ≤ n1 ∧ Keep No W2 wr) (fun iv _ => n1 - (intOf iv).toNat)
  case atStart => exact ⟨0, rfl, Nat.zero_le _, hkS⟩
  case round =>
    obtain ⟨i, rfl, hi, hk⟩ := hrel
    clear hkS
    generalize wr = wz at *
    have x4 : wz.cell? ⟨w.heap.size, 4, none⟩ = some (.slice a1 n1 p1) := (hX.keep hk fun h => h).cell 4
    have y4 : wz.cell? ⟨w.heap.size + 1, 4, none⟩ = some (.slice b1 n1 q1) := (hY.keep hk fun h => h).cell 4
    rcases Nat.lt_or_ge i n1 with hlt | hge
    · have hil : i < l.length := by rw [← H1.out]; exact hlt
      have hiz : (i : Int) < (n1 : Int) := by omega
      obtain ⟨g, off, cap, ev, _, hg, _, _, hc⟩ := ((HS.out.1.no hk0).no hk).at encSg_len hil
      rw [← H1.out] at ev
      injection ev with e1 e2 e3
      subst e1 e3
      obtain ⟨g2, off2, cap2, ev, _, hg2, _, _, hd⟩ := ((HS.out.2.2.2.2.2.1.no hk0).no hk).at encSg_len hil
      rw [← H1.out] at ev
      injection ev with e1 e4 e3
      subst e1 e3
      generalize l[i] = s at *
      obtain ⟨z0, z1, z2, z3, z4, z5, z6⟩ := s
      have c0 := hc 0 _ rfl
      have c1 := hc 1 _ rfl
      have c2 := hc 2 _ rfl
      have c3 := hc 3 _ rfl
      have c4 := hc 4 _ rfl
      have c5 := hc 5 _ rfl
      have c6 := hc 6 _ rfl
      have d0 := hd 0 _ rfl
      have d1 := hd 1 _ rfl
      have d2 := hd 2 _ rfl
      have d3 := hd 3 _ rfl
      have d4 := hd 4 _ rfl
      have d5 := hd 5 _ rfl
      have d6 := hd 6 _ rfl
      rw [Nat.add_zero] at c0 d0
      clear hc hd e2 e4
      go_wp2_with fail
      go_quiet (fail)
      go_wp2_with fail
      go_roundw
      case rel => exact ⟨i + 1, by go_num, hlt, hk.drewN _⟩
      case measure => (simp [intOf]; try omega)
    · obtain rfl : i = n1 := Nat.le_antisymm hi hge
      have hkS := hk
      clear hk
      go_wp2_with fail
      clear x4 y4
      go_loopw [6] (fun iv wr => ∃ i : Nat, iv = .int .i64 (i : Int) ∧ i ≤ n2 ∧ Keep No W2 wr) (fun iv _ => n2 - (intOf iv).toNat)
      case atStart => exact ⟨0, rfl, Nat.zero_le _, hkS⟩
      case round =>
        clear hi hge hkS
        obtain ⟨i, rfl, hi, hk⟩ := hrel
        generalize wr = wz at *
        have x8 : wz.cell? ⟨w.heap.size, 8, none⟩ = some (.slice a4 n2 p4) := (hX.keep hk fun h => h).cell 8
        have y8 : wz.cell? ⟨w.heap.size + 1, 8, none⟩ = some (.slice b4 n2 q4) := (hY.keep hk fun h => h).cell 8
        rcases Nat.lt_or_ge i n2 with hlt | hge
        · have hil : i < sy.length := by rw [← H2.out]; exact hlt
          have hiz : (i : Int) < (n2 : Int) := by omega
          obtain ⟨g, off, cap, ev, _, hg, _, _, hc⟩ := ((HS.out.2.2.2.1.no hk0).no hk).at encSy_len hil
          rw [← H2.out] at ev
          injection ev with e1 e2 e3
          subst e1 e3
          obtain ⟨g2, off2, cap2, ev, _, hg2, _, _, hd⟩ := ((HS.out.2.2.2.2.2.2.2.2.1.no hk0).no hk).at encSy_len hil
          rw [← H2.out] at ev
          injection ev with e1 e4 e3
          subst e1 e3
          generalize sy[i] = s at *
          obtain ⟨z0, z1, z2, z3, z4, z5⟩ := s
          have c0 := hc 0 _ rfl
          have c1 := hc 1 _ rfl
          have c2 := hc 2 _ rfl
          have c3 := hc 3 _ rfl
          have c4 := hc 4 _ rfl
          have c5 := hc 5 _ rfl
          have d0 := hd 0 _ rfl
          have d1 := hd 1 _ rfl
          have d2 := hd 2 _ rfl
          have d3 := hd 3 _ rfl
          have d4 := hd 4 _ rfl
          have d5 := hd 5 _ rfl
          rw [Nat.add_zero] at c0 d0
          clear hc hd e2 e4
          go_wp2_with fail
          go_quiet (fail)
          go_wp2_with fail
          go_roundw
          case rel => exact ⟨i + 1, by go_num, hlt, hk.drewN _⟩
          case measure => (simp [intOf]; try omega)
        · obtain rfl : i = n2 := Nat.le_antisymm hi hge
          have hkS := hk
          clear hk
          go_wp2_with fail
          clear x8 y8
          go_loopw [7] (fun iv wr => ∃ i : Nat, iv = .int .i64 (i : Int) ∧ i ≤ n3 ∧ Keep No W2 wr) (fun iv _ => n3 - (intOf iv).toNat)
          case atStart => exact ⟨0, rfl, Nat.zero_le _, hkS⟩
          case round =>
            clear hi hge hkS
            obtain ⟨i, rfl, hi, hk⟩ := hrel
            generalize wr = wz at *
            have x9 : wz.cell? ⟨w.heap.size, 9, none⟩ = some (.slice a5 n3 p5) := (hX.keep hk fun h => h).cell 9
            have y9 : wz.cell? ⟨w.heap.size + 1, 9, none⟩ = some (.slice b5 n3 q5) := (hY.keep hk fun h => h).cell 9
            rcases Nat.lt_or_ge i n3 with hlt | hge
            · have hil : i < rl.length := by rw [← H3.out]; exact hlt
              have hiz : (i : Int) < (n3 : Int) := by omega
              obtain ⟨g, off, cap, ev, _, hg, _, _, hc⟩ := ((HS.out.2.2.2.2.1.no hk0).no hk).at encRl_len hil
              rw [← H3.out] at ev
              injection ev with e1 e2 e3
              subst e1 e3
              obtain ⟨g2, off2, cap2, ev, _, hg2, _, _, hd⟩ := ((HS.out.2.2.2.2.2.2.2.2.2.no hk0).no hk).at encRl_len hil
              rw [← H3.out] at ev
              injection ev with e1 e4 e3
              subst e1 e3
              generalize rl[i] = s at *
              obtain ⟨z0, z1, z2, z3⟩ := s
              have c0 := hc 0 _ rfl
              have c1 := hc 1 _ rfl
              have c2 := hc 2 _ rfl
              have c3 := hc 3 _ rfl
              have d0 := hd 0 _ rfl
              have d1 := hd 1 _ rfl
              have d2 := hd 2 _ rfl
              have d3 := hd 3 _ rfl
              rw [Nat.add_zero] at c0 d0
              clear hc hd e2 e4
              go_wp2_with fail
              go_quiet (fail)
              go_wp2_with fail
              go_roundw
              case rel => exact ⟨i + 1, by go_num, hlt, hk.drewN _⟩
              case measure => (simp [intOf]; try omega)
            · obtain rfl : i = n3 := Nat.le_antisymm hi hge
              have x6 : wz.cell? ⟨w.heap.size, 6, none⟩ = some (.slice a2 need.length p2) := (hX.keep hk fun h => h).cell 6
              have y6 : wz.cell? ⟨w.heap.size + 1, 6, none⟩ = some (.slice b2 need.length q2) := (hY.keep hk fun h => h).cell 6
              have s1 := r09strs_any (w := wz) need need ((HS.out.2.1.no hk0).no hk) ((HS.out.2.2.2.2.2.2.1.no hk0).no hk)
              rw [decide_eq_true rfl] at s1
              go_wp2_with fail
              refine s1.mono ?_
              clear s1
              rintro e w3 ⟨rfl, hk3⟩
              have hk' := hk.trans' hk3
              have x7 : w3.cell? ⟨w.heap.size, 7, none⟩ = some (.slice a3 names.length p3) := (hX.keep hk' fun h => h).cell 7
              have y7 : w3.cell? ⟨w.heap.size + 1, 7, none⟩ = some (.slice b3 names.length q3) := (hY.keep hk' fun h => h).cell 7
              have s2 := r09strs_any (w := w3) names names ((HS.out.2.2.1.no hk0).no hk') ((HS.out.2.2.2.2.2.2.2.1.no hk0).no hk')
              rw [decide_eq_true rfl] at s2
              go_wp2_with fail
              refine s2.mono ?_
              clear s2
              rintro e w4 ⟨rfl, hk4⟩
              go_wp2_with fail
              go_ret
              exact ⟨rfl, hk0.trans' (hk'.trans' hk4)⟩
end
end Go.Proofs.YtbnahidopemkiaaGreat
