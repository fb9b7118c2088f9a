/- Chapter 15: units that are the document's. No condition. -/
import Derived.Test.YtbnahidopemkiaaGreatOgB
import Derived.Test.YtbnahidopemkiaaGreatDzL
set_option linter.unusedVariables false
set_option linter.unusedSimpArgs false
namespace Go.Proofs.YtbnahidopemkiaaGreat
open Go.RowKit Go.Dm Go.Dm.Oc Go.Dm.Ld
section
variable {A B : Nat → Prop} {w : World}
theorem Sl_cells {α : Type} {A : Nat → Prop} {w : World} {k g off n c : Nat} {enc : α → List Value} {l : List α} (h : Fl A w k enc (.slice (some ⟨g, off, none⟩) n c) l) (hk : ∀ x, (enc x).length = k) {i : Nat} (hi : i < l.length) :
    ∀ r u, (enc l[i])[r]? = some u → w.cell? ⟨g, off + i * k + r, none⟩ = some u := h.cells hk hi
set_option maxRecDepth 100000 in
set_option maxHeartbeats 2000000 in
theorem model15_any (cs : List Value) (im : Im) (h : ImR A w cs im) : Calls Tryz.prog 21 #[.agg cs.toArray] w fun e w' => e = .returned (.agg cs.toArray) ∧ Keep No w w' := by
  obtain ⟨vs, vn, vm, vy, vr, vb, rfl, s1, s2, s3, s4, s5, s6⟩ := h
  obtain ⟨a1, p1, rfl, _, _⟩ := s1.shape
  obtain ⟨a2, p2, rfl, _, _⟩ := s2.shape
  obtain ⟨a3, p3, rfl, _, _⟩ := s3.shape
  obtain ⟨a4, p4, rfl, _, _⟩ := s4.shape
  obtain ⟨a5, p5, rfl, _, _⟩ := s5.shape
  obtain ⟨a6, p6, rfl, _, _⟩ := Sl.shape s6
  clear s1 s2 s3 s4 s5 s6
  unfold imC
  generalize (⟨im.so.toArray⟩ : ByteArray) = so at *
  generalize im.hd.kind = h0 at *
  generalize im.hd.entry = h1 at *
  generalize im.hd.segs = h2 at *
  generalize im.hd.count = h3 at *
  go_enter Tryz.func21, Tryz.ntmps21
  go_wp2_with (first | (with_reducible refine wl_build rfl 68 _ rfl ?_) | (with_reducible refine wl_build rfl 70 _ rfl ?_) | (with_reducible refine wl_stAgg rfl _ _ _ rfl _ _ rfl rfl ?_))
  have hkW1 : Keep No w (w.alloc (.cells #[.int .i64 (h0 : Int), .int .u64 (h1 : Int), .int .u64 (h2 : Int), .int .i64 (h3 : Int), .slice a1 im.segs.length p1, .string so, .slice a2 im.need.length p2, .slice a3 im.names.length p3, .slice a4 im.syms.length p4, .slice a5 im.rels.length p5, .slice a6 im.bytes.length p6] 60)) := (Keep.refl _ _).alloc _
  have hBW1 : Blk (w.alloc (.cells #[.int .i64 (h0 : Int), .int .u64 (h1 : Int), .int .u64 (h2 : Int), .int .i64 (h3 : Int), .slice a1 im.segs.length p1, .string so, .slice a2 im.need.length p2, .slice a3 im.names.length p3, .slice a4 im.syms.length p4, .slice a5 im.rels.length p5, .slice a6 im.bytes.length p6] 60)) w.heap.size #[.int .i64 (h0 : Int), .int .u64 (h1 : Int), .int .u64 (h2 : Int), .int .i64 (h3 : Int), .slice a1 im.segs.length p1, .string so, .slice a2 im.need.length p2, .slice a3 im.names.length p3, .slice a4 im.syms.length p4, .slice a5 im.rels.length p5, .slice a6 im.bytes.length p6] 60 := Blk.new _ _ _
  have hzW1 : (w.alloc (.cells #[.int .i64 (h0 : Int), .int .u64 (h1 : Int), .int .u64 (h2 : Int), .int .i64 (h3 : Int), .slice a1 im.segs.length p1, .string so, .slice a2 im.need.length p2, .slice a3 im.names.length p3, .slice a4 im.syms.length p4, .slice a5 im.rels.length p5, .slice a6 im.bytes.length p6] 60)).heap.size = w.heap.size + 1 := World.size_alloc _ _
  generalize w.alloc (.cells #[.int .i64 (h0 : Int), .int .u64 (h1 : Int), .int .u64 (h2 : Int), .int .i64 (h3 : Int), .slice a1 im.segs.length p1, .string so, .slice a2 im.need.length p2, .slice a3 im.names.length p3, .slice a4 im.syms.length p4, .slice a5 im.rels.length p5, .slice a6 im.bytes.length p6] 60) = W1 at *
  have hkW2 : Keep No W1 (W1.alloc (.cells #[.int .i64 0, .int .u64 0, .int .u64 0, .int .i64 0, .slice none 0 0, .string ⟨#[]⟩, .slice none 0 0, .slice none 0 0, .slice none 0 0, .slice none 0 0, .slice none 0 0] 70)) := (Keep.refl _ _).alloc _
  have hBW2 : Blk (W1.alloc (.cells #[.int .i64 0, .int .u64 0, .int .u64 0, .int .i64 0, .slice none 0 0, .string ⟨#[]⟩, .slice none 0 0, .slice none 0 0, .slice none 0 0, .slice none 0 0, .slice none 0 0] 70)) W1.heap.size #[.int .i64 0, .int .u64 0, .int .u64 0, .int .i64 0, .slice none 0 0, .string ⟨#[]⟩, .slice none 0 0, .slice none 0 0, .slice none 0 0, .slice none 0 0, .slice none 0 0] 70 := Blk.new _ _ _
  have hzW2 : (W1.alloc (.cells #[.int .i64 0, .int .u64 0, .int .u64 0, .int .i64 0, .slice none 0 0, .string ⟨#[]⟩, .slice none 0 0, .slice none 0 0, .slice none 0 0, .slice none 0 0, .slice none 0 0] 70)).heap.size = W1.heap.size + 1 := World.size_alloc _ _
  generalize W1.alloc (.cells #[.int .i64 0, .int .u64 0, .int .u64 0, .int .i64 0, .slice none 0 0, .string ⟨#[]⟩, .slice none 0 0, .slice none 0 0, .slice none 0 0, .slice none 0 0, .slice none 0 0] 70) = W2 at *
  rw [hzW1] at hBW2
  refine rg_build (cells := #[.int .i64 (h0 : Int), .int .u64 (h1 : Int), .int .u64 (h2 : Int), .int .i64 (h3 : Int)]) (by kernel_rfl) ?_
  have hX := hBW1.keep hkW2 fun h => h
  have x4 := hX.cell 4
  have x5 := hX.cell 5
  have x6 := hX.cell 6
  have x7 := hX.cell 7
  have x8 := hX.cell 8
  have x9 := hX.cell 9
  have x10 := hX.cell 10
  go_wp2_with (first | (with_reducible refine wl_build rfl 68 _ rfl ?_) | (with_reducible refine wl_build rfl 70 _ rfl ?_) | (with_reducible refine wl_stAgg rfl _ _ _ rfl _ _ rfl rfl ?_))
  refine rg_build (cells := #[.int .i64 (h0 : Int), .int .u64 (h1 : Int), .int .u64 (h2 : Int), .int .i64 (h3 : Int), .slice a1 im.segs.length p1, .string so, .slice a2 im.need.length p2, .slice a3 im.names.length p3, .slice a4 im.syms.length p4, .slice a5 im.rels.length p5, .slice a6 im.bytes.length p6]) (by kernel_rfl) ?_
  go_wp2_with (with_reducible refine wl_stAgg rfl _ _ _ rfl _ _ rfl rfl ?_)
  refine rg_stAgg hBW2 (by kernel_rfl) (by rfl) (by simp [Value.oneCell']) ?_
  intro wf hBf hkf _
  go_wp2_with fail
  refine ret_blk rfl rfl hBf Tryz.underlying70 rfl (by kernel_rfl) rfl ?_
  have := hkW1.size
  exact ⟨rfl, (hkW1.trans' hkW2).trans hkf fun j hj e => by have e2 : j = w.heap.size + 1 := e; omega⟩
theorem un_cells {p : UC} {i : Nat} {g off : Nat} (h : ∀ r u, (encU p)[r]? = some u → w.cell? ⟨g, off + i * 12 + r, none⟩ = some u) : ∀ r u, (imC p.hd p.vs p.so p.vn p.vm p.vy p.vr p.vb)[r]? = some u → w.cell? ⟨g, off + i * 12 + 1 + r, none⟩ = some u := fun r u hu => by
  have := h (r + 1) u hu
  rw [show off + i * 12 + 1 + r = off + i * 12 + (r + 1) from by omega]
  exact this
set_option maxRecDepth 100000 in
set_option maxHeartbeats 4000000 in
theorem same15_any {v1 v2 : Value} (us : List (BS × Im)) {ps qs : List UC} (h1 : Fl A w 12 encU v1 ps) (hu1 : UsOk A w ps us) (h2 : Fl B w 12 encU v2 qs) (hu2 : UsOk B w qs us) :
    Calls Tryz.prog 9 #[v1, v2] w fun e w' => e = .returned (.bool true) ∧ Keep No w w' := by
  have hl1 := hu1.1
  have hl2 := hu2.1
  have H1 := Lib.hid h1
  have H2 := Lib.hid h2
  have HU1 := Lib.hid hu1
  have HU2 := Lib.hid hu2
  obtain ⟨a1, p1, rfl, hq1, hq2⟩ := h1.shape
  obtain ⟨a2, p2, rfl, _, _⟩ := h2.shape
  have hib : (us.length : Int) ≤ 9223372036854775807 := by unfold maxLen at hq2; omega
  rw [hl1] at H1 ⊢
  rw [hl2] at H2 ⊢
  obtain ⟨n, hn⟩ : ∃ n, n = us.length := ⟨_, rfl⟩
  have HN := Lib.hid hn
  rw [← hn] at H1 H2 hib ⊢
  have HL1 := Lib.hid hl1
  have HL2 := Lib.hid hl2
  have hk0 := Keep.refl No w
  clear h1 h2 hu1 hu2 hq1 hq2 hl1 hl2 hn
  go_enter Tryz.func9, Tryz.ntmps9
  go_wp2_with fail
  go_loopw [5, 6] (fun iv _ wr => ∃ i : Nat, iv = .int .i64 (i : Int) ∧ i ≤ n ∧ Keep No w wr) (fun iv _ _ => n - (intOf iv).toNat)
  case atStart => exact ⟨0, rfl, Nat.zero_le _, hk0⟩
  case round =>
    clear hk0
    obtain ⟨i, rfl, hi, hk⟩ := hrel
    generalize wr = wz at *
    rcases Nat.lt_or_ge i n with hlt | hge
    · have hil : i < us.length := by rw [← HN.out]; exact hlt
      have hip : i < ps.length := by rw [HL1.out]; exact hil
      have hiq : i < qs.length := by rw [HL2.out]; exact hil
      have hiz : (i : Int) < (n : Int) := by omega
      obtain ⟨g, off, cap, ev, _, hgl, _, _, _⟩ := (H1.out.no hk).at encU_len hip
      injection ev with e1 e2 e3
      subst e1
      clear e2 e3
      obtain ⟨g2, off2, cap2, ev, _, hgl2, _, _, _⟩ := (H2.out.no hk).at encU_len hiq
      injection ev with e1 e2 e3
      subst e1
      clear e2 e3
      have hcA := fun W (k : Keep No w W) => Sl_cells (H1.out.no k) encU_len hip
      have hcB := fun W (k : Keep No w W) => Sl_cells (H2.out.no k) encU_len hiq
      have hoA := HU1.out.2 i _ _ (List.getElem?_eq_getElem hip) (List.getElem?_eq_getElem hil)
      have hoB := HU2.out.2 i _ _ (List.getElem?_eq_getElem hiq) (List.getElem?_eq_getElem hil)
      generalize us[i] = u at *
      generalize ps[i] = p at *
      generalize qs[i] = q at *
      have hnA := hoA.1
      have hnB := hoB.1
      have hmod := fun W (k : Keep No w W) => model15_any (w := W) _ _ (hoA.2.no k)
      have hsam := fun W (k : Keep No w W) => r09same_eq (w := W) u.2 _ _ (hoA.2.no k) (hoB.2.no k)
      have cA := fun W k => hcA W k 0 _ rfl
      have cB := fun W k => hcB W k 0 _ rfl
      have sA := fun W k => un_cells (hcA W k)
      have sB := fun W k => un_cells (hcB W k)
      rw [hnA] at cA
      rw [hnB] at cB
      generalize (⟨u.1.toArray⟩ : ByteArray) = nm at *
      have hsA : (P : Nat) → True := fun _ => trivial
      have hS : ∀ W, Keep No w W → (∀ r x, (imC p.hd p.vs p.so p.vn p.vm p.vy p.vr p.vb)[r]? = some x → W.cell? ⟨g, off + i * 12 + 1 + r, none⟩ = some x) ∧ (∀ r x, (imC q.hd q.vs q.so q.vn q.vm q.vy q.vr q.vb)[r]? = some x → W.cell? ⟨g2, off2 + i * 12 + 1 + r, none⟩ = some x) := fun W k => ⟨sA W k, sB W k⟩
      have HS := Lib.hid hS
      have HMO := Lib.hid hmod
      have HSA := Lib.hid hsam
      have HCA := Lib.hid cA
      have HCB := Lib.hid cB
      have hkd := hk.drew
      clear hcA hcB hoA hoB hnA hnB hmod hsam cA cB sA sB hsA hS
      go_upto_region 6 with fail
      refine wp_region_sig (fun W => (∀ r x, (imC p.hd p.vs p.so p.vn p.vm p.vy p.vr p.vb)[r]? = some x → W.cell? ⟨g, off + i * 12 + 1 + r, none⟩ = some x) ∧ (∀ r x, (imC q.hd q.vs q.so q.vn q.vm q.vy q.vr q.vb)[r]? = some x → W.cell? ⟨g2, off2 + i * 12 + 1 + r, none⟩ = some x)) (fun j => decide (j ≤ 99)) [(0, true), (1, true), (2, true), (3, true), (4, true), (6, true), (7, true), (8, true), (9, true), (10, true), (5, false), (11, false), (12, false)] (by kernel_rfl) (by kernel_rfl) (by intro c a d v w h; cases d <;> exact h) (HS.out _ hkd) ?_
      apply sig_still (o := ⟨some 18, _, _, _, _, _⟩) rfl rfl
      · intro w' hS
        first | (go_simp; done) | (go_simp; rfl) | rfl
      go_frame
      apply sig_still (o := ⟨some 19, _, _, _, _, _⟩) rfl rfl
      · intro w' hS
        first | (go_simp; done) | (go_simp; rfl) | rfl
      go_frame
      apply sig_still (o := ⟨some 20, _, _, _, _, _⟩) rfl rfl
      · intro w' hS
        first | (go_simp; done) | (go_simp; rfl) | rfl
      go_frame
      apply sig_still (o := ⟨some 21, _, _, _, _, _⟩) rfl rfl
      · intro w' hS
        first | (go_simp; done) | (go_simp; rfl) | rfl
      go_frame
      apply sig_still (o := ⟨some 22, _, _, _, _, _⟩) rfl rfl
      · intro w' hS
        exact run_ldo _ _ rfl g (off + i * 12 + 1) rfl (run_loadVar_sub w' g (off + i * 12 + 1) 60 _ _ hS.1 Tryz.underlying60 rfl (by kernel_rfl))
      go_frame
      apply sig_still (o := ⟨some 24, _, _, _, _, _⟩) rfl rfl
      · intro w' hS
        first | (go_simp; done) | (go_simp; rfl) | rfl
      go_frame
      apply sig_still (o := ⟨some 25, _, _, _, _, _⟩) rfl rfl
      · intro w' hS
        first | (go_simp; done) | (go_simp; rfl) | rfl
      go_frame
      apply sig_still (o := ⟨some 26, _, _, _, _, _⟩) rfl rfl
      · intro w' hS
        first | (go_simp; done) | (go_simp; rfl) | rfl
      go_frame
      apply sig_still (o := ⟨some 27, _, _, _, _, _⟩) rfl rfl
      · intro w' hS
        first | (go_simp; done) | (go_simp; rfl) | rfl
      go_frame
      apply sig_still (o := ⟨some 28, _, _, _, _, _⟩) rfl rfl
      · intro w' hS
        exact run_ldo _ _ rfl g2 (off2 + i * 12 + 1) rfl (run_loadVar_sub w' g2 (off2 + i * 12 + 1) 70 _ _ hS.2 Tryz.underlying70 rfl (by kernel_rfl))
      go_frame
      refine sig_eff (o := ⟨some 23, _, _, _, _, _⟩) rfl rfl (fun K hKe => ?_)
      go_wp2_with fail
      refine (HMO.out _ hkd).mono ?_
      rintro e w3 ⟨rfl, hk3⟩
      have hk03 := hkd.trans' hk3
      refine hKe _ _ ⟨fun _ => HS.out _ hk03, ?_⟩
      refine sig_eff (o := ⟨some 29, _, _, _, _, _⟩) rfl rfl (fun K hKe => ?_)
      go_wp2_with fail
      refine (HSA.out _ hk03).mono ?_
      rintro e w4 ⟨rfl, hk4⟩
      have hk04 := hk03.trans' hk4
      refine hKe _ _ ⟨fun _ => HS.out _ hk04, ?_⟩
      refine sig_eff (o := ⟨some 6, _, _, _, _, _⟩) rfl rfl (fun K hKe => ?_)
      go_wp2_with fail
      refine ⟨fun _ => HS.out _ hk04, ?_⟩
      refine sig_nil ?_
      have cA := HCA.out _ hk04
      have cB := HCB.out _ hk04
      rw [Nat.add_zero] at cA cB
      clear hkd hk3 hk03 hk4 hKe HS HMO HSA HCA HCB
      go_wp2_with fail
      go_quiet (fail)
      go_wp2_with fail
      go_roundw
      case rel => exact ⟨i + 1, by go_num, hlt, hk04.drewN _⟩
      case measure => (simp [intOf]; try omega)
    · obtain rfl : i = n := Nat.le_antisymm hi hge
      go_wp2_with fail
      go_ret
      exact ⟨rfl, hk⟩
end
end Go.Proofs.YtbnahidopemkiaaGreat
