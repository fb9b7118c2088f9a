/- A ledger is as its model is; a ledger and its model, marked alike; TagsSpans. TagsSpans. Arguments that came in: registers, numbers. No condition. -/
import Derived.Test.YthfekjnekaecaaaDoorTg17
import Derived.Test.YthfekjnekaecaaaDoorRd
import Derived.Test.YthfekjnekaecaaaDoorTg6
import Derived.WalkKit
import Derived.ProofKit
import Derived.OpenShut
set_option linter.unusedVariables false
set_option linter.unusedSimpArgs false
namespace Go.Proofs.YthfekjnekaecaaaDoor
open Go.RowKit Go.Dm Go.Dm.Vm Go.Dm.Cp Go.Dm.Tg Go.Maps Go.Dm.Oc
theorem results_tct {fn : Func} {u p q : Tmp} {ty : TypeId} (h : fn.results = #[.tmp u, .cell p ty, .tmp q]) (tmps : Array Value) (P : Program) (w : World) :
    (results fn tmps).run P w = ((asAddr (tmps.getD p undef)).run P w).andThen fun a w₁ => ((loadVar ty a).run P w₁).andThen fun v w₂ => .ok (.tuple #[tmps.getD u undef, v, tmps.getD q undef]) w₂ := by
  simp only [results, h]
  simp [Sem.run_bind, Result.andThen]
theorem ret_tct {P : Program} {w : World} {fn : Func} {R : Ending → World → Prop} {a : Act} {u p q : Tmp} {ty t : TypeId} {g : Nat} {cs : Array Value} {d : TypeDesc} (h : fn.results = #[.tmp u, .cell p ty, .tmp q]) (hp : a.tmps.getD p undef = .pointer (some ⟨g, 0, none⟩))
    (hB : Blk w g cs t) (hu : P.underlying ty = some d) (hd : (match d with | .struct _ | .array _ _ => true | _ => false) = true) (hi : (P.info? ty).map (·.size) = some cs.size) (hdf : a.defers = []) (hR : R (.returned (.tuple #[a.tmps.getD u undef, .agg cs, a.tmps.getD q undef])) w) : bodyPost P fn R .ret a w :=
  bodyPost_ret (by rw [results_tct h, hp]; simp [asAddr, run_loadVar_row w g t ty cs _ d hB hu hd hi, Result.andThen]) hdf hR
def encMk (p : Nat × Int) : List Value := [.int .u64 (p.1 : Int), .int .i64 p.2]
theorem encMk_len (p : Nat × Int) : (encMk p).length = 2 := rfl
section
variable {A B C : Nat → Prop} {w : World} {mv wv pv v : Value} {L : Lg} {m : V} {d mb : Nat} {f : Nat → Nat}
theorem mark_len (L : Lg) (a : Nat) (t : Int) : (markM L a t).w.length ≤ L.w.length + 1 := by
  have hd : ∀ l : List (Nat × Nat), (delW l a).length ≤ l.length := fun l => List.length_filter_le _ _
  unfold markM
  split
  · show (putW L.w a t.toNat).length ≤ _
    unfold putW
    split
    · have := hd L.w; omega
    · rw [(insW_perm _ _).length_eq, List.length_cons]
      have := hd L.w
      omega
  · omega
theorem word_tag {L : Lg} (h : LgOk L) {i : Nat} (hi : i < L.w.length) : tagM L L.w[i].1 = L.w[i].2 ∧ L.w[i].1 < 18446744073709551616 := by
  have hm := List.getElem_mem hi
  have ha := h.al _ hm
  have e : L.w[i].1 / 8 * 8 = L.w[i].1 := by omega
  unfold tagM
  rw [e]
  exact ⟨word_mem h.srt hm, ha.2⟩
set_option maxRecDepth 100000 in
set_option maxHeartbeats 4000000 in
theorem like18_any (mn mc : Nat) (am : Option Addr) (h : LRep A w d L v mb) (hA : ∀ k, A k → k < w.heap.size) (hlen : L.w.length ≤ 65535) (hw : Fl B w 2 encW wv L.w) :
    Calls Tryd.prog 38 #[ptrTo d, .agg #[.slice am mn mc, wv]] w fun e w' => e = .returned (.bool true) ∧ Keep No w w' := by
  have hmk := fun W (hk : Keep No w W) => tmarked_any (w := W) (h.no hA hk) hlen
  have htg := fun W (hk : Keep No w W) x hx => ttag_any (w := W) x hx (h.no hA hk)
  have hwt := fun i (hi : i < L.w.length) => word_tag h.ok hi
  have HM := Lib.hid hmk
  have HT := Lib.hid htg
  have HW := Lib.hid hwt
  have HL := Lib.hid hw
  obtain ⟨aw, cw, rfl, _, _⟩ := hw.shape
  clear hmk htg hwt hw h
  unfold ptrTo at *
  go_enter Tryd.func38, Tryd.ntmps38
  go_wp2_with fail
  have hkW1 : Keep No w (w.alloc (.cells #[.slice am mn mc, .slice aw L.w.length cw] 53)) := (Keep.refl _ _).alloc _
  have hBW1 : Blk (w.alloc (.cells #[.slice am mn mc, .slice aw L.w.length cw] 53)) w.heap.size #[.slice am mn mc, .slice aw L.w.length cw] 53 := Blk.new _ _ _
  have hzW1 : (w.alloc (.cells #[.slice am mn mc, .slice aw L.w.length cw] 53)).heap.size = w.heap.size + 1 := World.size_alloc _ _
  generalize w.alloc (.cells #[.slice am mn mc, .slice aw L.w.length cw] 53) = W1 at *
  refine (HM.out W1 hkW1).mono ?_
  rintro e W ⟨vm, rfl, hom, hk⟩
  have hkW := hkW1.trans' hk
  have hB := hBW1.keep hk fun h => h
  have hof : Sl (fun k => W1.heap.size ≤ k ∧ some k = vm.ownBlock) W 1 vm L.w.length ((adW L.w).map uv) := Sl.of_own hom
  obtain ⟨a9, c9, rfl⟩ := own_shape hom
  have q1 : W.cell? ⟨w.heap.size, 1, none⟩ = some (.slice aw L.w.length cw) := hB.cell 1
  go_wp2_with fail
  go_loopw [6] (fun iv wr => ∃ i : Nat, iv = .int .i64 i ∧ i ≤ L.w.length ∧ Keep No W wr) (fun iv _ => L.w.length - (intOf iv).toNat)
  case atStart => exact ⟨0, rfl, Nat.zero_le _, Keep.refl _ _⟩
  case round =>
    obtain ⟨i, rfl, hi, hk2⟩ := hrel
    clear q1
    rcases Nat.lt_or_ge i L.w.length with hlt | hge
    · obtain ⟨g, off, cap, ev, _, hgl, _, _, hc⟩ := (HL.out.no (hkW.trans' hk2)).at encW_len hlt
      cases ev
      obtain ⟨g2, off2, cap2, ev2, _, hgl2, _, _, hc2⟩ := hof.at (by omega)
      cases ev2
      have hiz : (i : Int) < (L.w.length : Int) := by omega
      have hzt := HW.out i hlt
      have c0 := hc 0 _ rfl
      have c1 := hc 1 _ rfl
      rw [Nat.add_zero] at c0
      have c2 : wr.cell? ⟨g2, off2 + i, none⟩ = some (.int .u64 (L.w[i].1 : Int)) := (hk2.cell (p := ⟨g2, off2 + i, none⟩) hgl2 fun h => h).trans (hc2 i _ (by
        unfold adW
        rw [List.getElem?_map, List.getElem?_map, List.getElem?_eq_getElem hlt]
        rfl))
      have q1 : wr.cell? ⟨w.heap.size, 1, none⟩ = some (.slice (some ⟨g, off, none⟩) L.w.length cw) := (hB.keep hk2 fun h => h).cell 1
      have ht := HT.out wr.drew ((hkW.trans' hk2).trans' (Keep.refl No wr).drew) L.w[i].1 hzt.2
      rw [hzt.1] at ht
      clear hc hc2 hzt
      generalize L.w[i].1 = z at *
      generalize L.w[i].2 = y at *
      have r0 : wr.drew.cell? ⟨g2, off2 + i, none⟩ = some (.int .u64 (z : Int)) := c2
      have r1 : wr.drew.cell? ⟨w.heap.size, 1, none⟩ = some (.slice (some ⟨g, off, none⟩) L.w.length cw) := q1
      have r2 : wr.drew.cell? ⟨g, off + i * 2, none⟩ = some (.int .u64 (z : Int)) := c0
      have r3 : wr.drew.cell? ⟨g, off + i * 2 + 1, none⟩ = some (.int .i64 (y : Int)) := c1
      go_wp2_with fail
      refine wp_region_sig (fun w' => w'.cell? ⟨g2, off2 + i, none⟩ = some (.int .u64 (z : Int)) ∧ w'.cell? ⟨w.heap.size, 1, none⟩ = some (.slice (some ⟨g, off, none⟩) L.w.length cw) ∧ w'.cell? ⟨g, off + i * 2, none⟩ = some (.int .u64 (z : Int)) ∧ w'.cell? ⟨g, off + i * 2 + 1, none⟩ = some (.int .i64 (y : Int))) (fun j => decide (j ≤ 99)) [(0, true), (1, true), (2, true), (3, true), (4, true), (5, true), (6, true), (7, true), (8, true), (9, true), (10, true), (11, true), (12, true), (13, true), (14, true), (15, true), (16, true), (18, true), (19, true), (20, true), (21, true), (22, true), (23, true), (17, false), (24, true), (25, true)] (by kernel_rfl) (by kernel_rfl) (by intro c a d v w h; cases d <;> exact h) ⟨r0, r1, r2, r3⟩ ?_
      apply sig_still (o := ⟨some 21, _, _, _, _, _⟩) rfl rfl
      · intro w' hS
        obtain ⟨q1, q2, q3, q4⟩ := hS
        first | (go_simp; done) | (go_simp; rfl) | rfl
      go_frame
      apply sig_still (o := ⟨some 22, _, _, _, _, _⟩) rfl rfl
      · intro w' hS
        obtain ⟨q1, q2, q3, q4⟩ := hS
        first | (go_simp; done) | (go_simp; rfl) | rfl
      go_frame
      apply sig_still (o := ⟨some 23, _, _, _, _, _⟩) rfl rfl
      · intro w' hS
        obtain ⟨q1, q2, q3, q4⟩ := hS
        first | (go_simp; done) | (go_simp; rfl) | rfl
      go_frame
      apply sig_still (o := ⟨some 24, _, _, _, _, _⟩) rfl rfl
      · intro w' hS
        obtain ⟨q1, q2, q3, q4⟩ := hS
        first | (go_simp; done) | (go_simp; rfl) | rfl
      go_frame
      apply sig_still (o := ⟨some 25, _, _, _, _, _⟩) rfl rfl
      · intro w' hS
        obtain ⟨q1, q2, q3, q4⟩ := hS
        first | (go_simp; done) | (go_simp; rfl) | rfl
      go_frame
      apply sig_still (o := ⟨some 26, _, _, _, _, _⟩) rfl rfl
      · intro w' hS
        obtain ⟨q1, q2, q3, q4⟩ := hS
        first | (go_simp; done) | (go_simp; rfl) | rfl
      go_frame
      apply sig_still (o := ⟨some 27, _, _, _, _, _⟩) rfl rfl
      · intro w' hS
        obtain ⟨q1, q2, q3, q4⟩ := hS
        first | (go_simp; done) | (go_simp; rfl) | rfl
      go_frame
      apply sig_still (o := ⟨some 28, _, _, _, _, _⟩) rfl rfl
      · intro w' hS
        obtain ⟨q1, q2, q3, q4⟩ := hS
        first | (go_simp; done) | (go_simp; rfl) | rfl
      go_frame
      apply sig_still (o := ⟨some 29, _, _, _, _, _⟩) rfl rfl
      · intro w' hS
        obtain ⟨q1, q2, q3, q4⟩ := hS
        first | (go_simp; done) | (go_simp; rfl) | rfl
      go_frame
      apply sig_still (o := ⟨some 30, _, _, _, _, _⟩) rfl rfl
      · intro w' hS
        obtain ⟨q1, q2, q3, q4⟩ := hS
        first | (go_simp; done) | (go_simp; rfl) | rfl
      go_frame
      apply sig_still (o := ⟨some 31, _, _, _, _, _⟩) rfl rfl
      · intro w' hS
        obtain ⟨q1, q2, q3, q4⟩ := hS
        first | (go_simp; done) | (go_simp; rfl) | rfl
      go_frame
      apply sig_still (o := ⟨some 32, _, _, _, _, _⟩) rfl rfl
      · intro w' hS
        obtain ⟨q1, q2, q3, q4⟩ := hS
        first | (go_simp; done) | (go_simp; rfl) | rfl
      go_frame
      apply sig_guard (o := ⟨some 33, _, _, _, _, _⟩) rfl (by rfl)
      · intro w' hS
        obtain ⟨q1, q2, q3, q4⟩ := hS
        first | (go_simp; done) | (go_simp; rfl) | rfl
      go_frame
      apply sig_guard (o := ⟨some 34, _, _, _, _, _⟩) rfl (by rfl)
      · intro w' hS
        obtain ⟨q1, q2, q3, q4⟩ := hS
        first | (go_simp; done) | (go_simp; rfl) | rfl
      go_frame
      apply sig_guard (o := ⟨some 35, _, _, _, _, _⟩) rfl (by rfl)
      · intro w' hS
        obtain ⟨q1, q2, q3, q4⟩ := hS
        first | (go_simp; done) | (go_simp; rfl) | rfl
      go_frame
      apply sig_guard (o := ⟨some 36, _, _, _, _, _⟩) rfl (by rfl)
      · intro w' hS
        obtain ⟨q1, q2, q3, q4⟩ := hS
        first | (go_simp; done) | (go_simp; rfl) | rfl
      go_frame
      apply sig_guard (o := ⟨some 37, _, _, _, _, _⟩) rfl (by rfl)
      · intro w' hS
        obtain ⟨q1, q2, q3, q4⟩ := hS
        first | (go_simp; done) | (go_simp; rfl) | rfl
      go_frame
      apply sig_guard (o := ⟨some 39, _, _, _, _, _⟩) rfl (by rfl)
      · intro w' hS
        obtain ⟨q1, q2, q3, q4⟩ := hS
        first | (go_simp; done) | (go_simp; rfl) | rfl
      go_frame
      apply sig_guard (o := ⟨some 40, _, _, _, _, _⟩) rfl (by rfl)
      · intro w' hS
        obtain ⟨q1, q2, q3, q4⟩ := hS
        first | (go_simp; done) | (go_simp; rfl) | rfl
      go_frame
      apply sig_guard (o := ⟨some 41, _, _, _, _, _⟩) rfl (by rfl)
      · intro w' hS
        obtain ⟨q1, q2, q3, q4⟩ := hS
        first | (go_simp; done) | (go_simp; rfl) | rfl
      go_frame
      apply sig_guard (o := ⟨some 42, _, _, _, _, _⟩) rfl (by rfl)
      · intro w' hS
        obtain ⟨q1, q2, q3, q4⟩ := hS
        first | (go_simp; done) | (go_simp; rfl) | rfl
      go_frame
      apply sig_guard (o := ⟨some 43, _, _, _, _, _⟩) rfl (by rfl)
      · intro w' hS
        obtain ⟨q1, q2, q3, q4⟩ := hS
        first | (go_simp; done) | (go_simp; rfl) | rfl
      go_frame
      apply sig_guard (o := ⟨some 44, _, _, _, _, _⟩) rfl (by rfl)
      · intro w' hS
        obtain ⟨q1, q2, q3, q4⟩ := hS
        first | (go_simp; done) | (go_simp; rfl) | rfl
      go_frame
      refine sig_effg (o := ⟨some 38, _, _, _, _, _⟩) rfl (by rfl) (fun K hKe => ?_)
      go_wp2_with fail
      refine ht.mono ?_
      rintro e X ⟨rfl, rfl⟩
      refine hKe _ _ ⟨fun _ => ⟨r0, r1, r2, r3⟩, ?_⟩
      apply sig_guard (o := ⟨some 45, _, _, _, _, _⟩) rfl (by rfl)
      · intro w' hS
        obtain ⟨q1, q2, q3, q4⟩ := hS
        first | (go_simp; done) | (go_simp; rfl) | rfl
      go_frame
      apply sig_still (o := ⟨some 46, _, _, _, _, _⟩) rfl rfl
      · intro w' hS
        obtain ⟨q1, q2, q3, q4⟩ := hS
        first | (go_simp; done) | (go_simp; rfl) | rfl
      go_frame
      refine sig_nil ?_
      go_wp2_with fail
      go_roundw
      case rel => exact ⟨i + 1, by go_num, hlt, hk2.drew⟩
      case measure => simp [intOf]; omega
    · obtain rfl : i = L.w.length := Nat.le_antisymm hi hge
      go_wp2_with fail
      go_ret
      exact ⟨rfl, hkW.trans' hk2⟩
set_option maxRecDepth 100000 in
set_option maxHeartbeats 8000000 in
theorem both18_any {vk : Value} (ks : List (Nat × Int)) (hks : Fl C w 2 encMk vk ks) (hka : ∀ x ∈ ks, x.1 < 18446744073709551616) (hC : ∀ k, C k → k < w.heap.size) :
    Calls Tryd.prog 17 #[vk] w fun e w' => ∃ d v mb mv wv L, e = .returned (.tuple #[ptrTo d, .agg #[mv, wv], .bool true]) ∧ LRep (fun k => w.heap.size ≤ k ∧ k < w'.heap.size) w' d L v mb ∧ L.m = mods2 ∧ L.w.length ≤ 20 ∧ Fl (fun k => w.heap.size ≤ k ∧ k < w'.heap.size) w' 7 encMd mv L.m ∧ Fl (fun k => w.heap.size ≤ k ∧ k < w'.heap.size) w' 2 encW wv L.w ∧ Keep No w w' := by
  have HK := Lib.hid hks
  obtain ⟨ak, ck, rfl, hc1, hc2⟩ := hks.shape
  have hkl : ks.length ≤ 9223372036854775807 := by unfold maxLen at hc2; omega
  clear hks hc1 hc2
  go_enter Tryd.func17, Tryd.ntmps17
  go_wp2_with fail
  have hkw0 : Keep No w (w.alloc (.cells #[.slice none 0 0, .slice none 0 0] 53)) := (Keep.refl _ _).alloc _
  have hBw0 : Blk (w.alloc (.cells #[.slice none 0 0, .slice none 0 0] 53)) w.heap.size #[.slice none 0 0, .slice none 0 0] 53 := Blk.new _ _ _
  have hzw0 : (w.alloc (.cells #[.slice none 0 0, .slice none 0 0] 53)).heap.size = w.heap.size + 1 := World.size_alloc _ _
  generalize w.alloc (.cells #[.slice none 0 0, .slice none 0 0] 53) = w0 at *
  refine (modules18_any w0).mono ?_
  rintro e w1 ⟨vm, rfl, hm1, hk1⟩
  have htn := tnew_any vm mods2 w1 hm1 mods2_ok (by decide)
  obtain ⟨am, cm, rfl, _, _⟩ := hm1.shape
  clear hm1
  go_wp2_with fail
  refine htn.mono ?_
  rintro e w2 ⟨d, v, mb, rfl, hL, hk2⟩
  have hL : LRep (fun k => w1.heap.size ≤ k ∧ k < w2.heap.size) w2 d awL v mb := hL
  clear htn
  unfold ptrTo
  go_wp2_with fail
  refine (models18_any w2).mono ?_
  rintro e w3 ⟨vr, rfl, hr3, hk3⟩
  obtain ⟨ar, cr, rfl, _, _⟩ := hr3.shape
  go_wp2_with (with_reducible refine wl_stAgg rfl _ _ _ rfl _ _ rfl rfl ?_)
  have hkw4 : Keep No w3 (w3.alloc (.cells #[.slice none 0 0, .slice none 0 0] 53)) := (Keep.refl _ _).alloc _
  have hBw4 : Blk (w3.alloc (.cells #[.slice none 0 0, .slice none 0 0] 53)) w3.heap.size #[.slice none 0 0, .slice none 0 0] 53 := Blk.new _ _ _
  have hzw4 : (w3.alloc (.cells #[.slice none 0 0, .slice none 0 0] 53)).heap.size = w3.heap.size + 1 := World.size_alloc _ _
  generalize w3.alloc (.cells #[.slice none 0 0, .slice none 0 0] 53) = w4 at *
  refine rg_stAgg hBw4 (by kernel_rfl) (by rfl) (by simp [Value.oneCell']) ?_
  intro w5 hB5 hk5 hz5
  have hk35 : Keep No w3 w5 := hkw4.trans hk5 fun j hj e => absurd hj (by have e2 : j = w3.heap.size := e; omega)
  have hb3 := (((hBw0.keep hk1 fun h => h).keep hk2 fun h => h).keep hk3 fun h => h).keep hk35 fun h => h
  have hL5 := hL.no (fun k hk => hk.2) (hk3.trans' hk35)
  have hr5 := hr3.no hk35
  have s1 := hk1.size
  have s2 := hk2.size
  have s3 := hk3.size
  have s3' : w2.heap.size < w3.heap.size := by
    obtain ⟨g9, _, _, _, e9, h9, _⟩ := hr3.at encMd_len (i := 0) (by decide)
    have e9 : g9 = w2.heap.size := e9
    omega
  have s5 := hk35.size
  have hlw0 := hBw0.lt
  have hl5 := hB5.lt
  have hmb1 := hL.Am
  have hkW5 : Keep No w w5 := (((hkw0.trans' hk1).trans' hk2).trans' hk3).trans' hk35
  clear hk1 hk2 hk3 hk35 hk5 hz5 hkw4 hBw4 hzw4 hL hr3 hBw0 hkw0
  have hnew : ∀ j, j < w.heap.size → ¬ (j = mb ∨ j = w3.heap.size) := fun j hj e => by omega
  have hkd : Keep (fun j => j = mb ∨ j = w3.heap.size) w5 w5 := Keep.refl _ _
  go_wp2_with fail
  go_loopw [7, 8, 9, 10] (fun iv _ _ _ wr => ∃ (i : Nat) (L : Lg) (wv : Value), iv = .int .i64 i ∧ i ≤ ks.length ∧ i ≤ 20 ∧ L.m = mods2 ∧ L.w.length ≤ i ∧ LRep (fun k => w1.heap.size ≤ k ∧ k < w2.heap.size) wr d L v mb ∧ Blk wr w3.heap.size #[.slice ar mods2.length cr, wv] 53 ∧ Fl (fun k => k ≠ mb ∧ k ≠ w3.heap.size ∧ w.heap.size < k) wr 2 encW wv L.w ∧ Keep (fun j => j = mb ∨ j = w3.heap.size) w5 wr) (fun iv _ _ _ _ => ks.length - (intOf iv).toNat)
  case atStart => exact ⟨0, awL, _, rfl, Nat.zero_le _, by omega, rfl, Nat.zero_le _, hL5, hB5, Fl.nil, Keep.refl _ _⟩
  case round =>
    obtain ⟨i, L, wv, rfl, hi, hi20, hLm, hLw, hL, hb6, hw, hk⟩ := hrel
    have hkN : Keep No w wr := hkW5.trans hk fun j hj e => hnew j hj e
    have hAr : ∀ k, (w1.heap.size ≤ k ∧ k < w2.heap.size) → k < wr.heap.size := fun k hk2 => by have := hk2.2; have := hk.size; omega
    have hb3r := hb3.keep hk fun e => by omega
    clear hL5 hB5
    rcases Nat.lt_or_ge i ks.length with hlt | hge
    · have hiz : (i : Int) < (ks.length : Int) := by omega
      rcases Nat.lt_or_ge i 20 with h20 | h20
      · have h20z : (i : Int) < 20 := by omega
        obtain ⟨g, off, cap, ev, hcg, hgl, _, _, hc⟩ := HK.out.at encMk_len hlt
        cases ev
        have hgw := hC g hcg
        have c0 := (hkN.cell (p := ⟨g, off + i * 2 + 0, none⟩) hgl fun h => h).trans (hc 0 _ rfl)
        have c1 := (hkN.cell (p := ⟨g, off + i * 2 + 1, none⟩) hgl fun h => h).trans (hc 1 _ rfl)
        rw [Nat.add_zero] at c0
        have hxl := hka ks[i] (List.getElem_mem hlt)
        clear hc
        generalize ks[i].1 = x at *
        generalize ks[i].2 = y at *
        have hmk := tmark_any (w := wr.drew) x y hxl (hL.no hAr (Keep.refl No wr).drew) hAr
        have r0 : wr.drew.cell? ⟨g, off + i * 2, none⟩ = some (.int .u64 (x : Int)) := c0
        have r1 : wr.drew.cell? ⟨g, off + i * 2 + 1, none⟩ = some (.int .i64 y) := c1
        unfold ptrTo at hmk
        clear c0 c1
        go_wp2_with fail
        refine wp_region_sig (fun w' => w'.cell? ⟨g, off + i * 2, none⟩ = some (.int .u64 (x : Int)) ∧ w'.cell? ⟨g, off + i * 2 + 1, none⟩ = some (.int .i64 y)) (fun j => decide (j ≤ 99)) [(0, true), (1, true), (2, true), (3, true), (4, true), (5, true), (6, true), (7, true), (8, true), (9, true), (10, true), (11, false), (12, true)] (by kernel_rfl) (by kernel_rfl) (by intro c a d v w h; cases d <;> exact h) ⟨r0, r1⟩ ?_
        apply sig_still (o := ⟨some 25, _, _, _, _, _⟩) rfl rfl
        · intro w' hS
          obtain ⟨q1, q2⟩ := hS
          first | (go_simp; done) | (go_simp; rfl) | rfl
        go_frame
        apply sig_still (o := ⟨some 26, _, _, _, _, _⟩) rfl rfl
        · intro w' hS
          obtain ⟨q1, q2⟩ := hS
          first | (go_simp; done) | (go_simp; rfl) | rfl
        go_frame
        apply sig_still (o := ⟨some 27, _, _, _, _, _⟩) rfl rfl
        · intro w' hS
          obtain ⟨q1, q2⟩ := hS
          first | (go_simp; done) | (go_simp; rfl) | rfl
        go_frame
        apply sig_still (o := ⟨some 28, _, _, _, _, _⟩) rfl rfl
        · intro w' hS
          obtain ⟨q1, q2⟩ := hS
          first | (go_simp; done) | (go_simp; rfl) | rfl
        go_frame
        apply sig_still (o := ⟨some 29, _, _, _, _, _⟩) rfl rfl
        · intro w' hS
          obtain ⟨q1, q2⟩ := hS
          first | (go_simp; done) | (go_simp; rfl) | rfl
        go_frame
        apply sig_still (o := ⟨some 30, _, _, _, _, _⟩) rfl rfl
        · intro w' hS
          obtain ⟨q1, q2⟩ := hS
          first | (go_simp; done) | (go_simp; rfl) | rfl
        go_frame
        apply sig_still (o := ⟨some 31, _, _, _, _, _⟩) rfl rfl
        · intro w' hS
          obtain ⟨q1, q2⟩ := hS
          first | (go_simp; done) | (go_simp; rfl) | rfl
        go_frame
        apply sig_still (o := ⟨some 32, _, _, _, _, _⟩) rfl rfl
        · intro w' hS
          obtain ⟨q1, q2⟩ := hS
          first | (go_simp; done) | (go_simp; rfl) | rfl
        go_frame
        apply sig_still (o := ⟨some 33, _, _, _, _, _⟩) rfl rfl
        · intro w' hS
          obtain ⟨q1, q2⟩ := hS
          first | (go_simp; done) | (go_simp; rfl) | rfl
        go_frame
        apply sig_still (o := ⟨some 34, _, _, _, _, _⟩) rfl rfl
        · intro w' hS
          obtain ⟨q1, q2⟩ := hS
          first | (go_simp; done) | (go_simp; rfl) | rfl
        go_frame
        apply sig_still (o := ⟨some 35, _, _, _, _, _⟩) rfl rfl
        · intro w' hS
          obtain ⟨q1, q2⟩ := hS
          first | (go_simp; done) | (go_simp; rfl) | rfl
        go_frame
        refine sig_eff (o := ⟨some 36, _, _, _, _, _⟩) rfl rfl (fun K hKe => ?_)
        go_wp2_with fail
        refine hmk.mono ?_
        rintro e wm ⟨rfl, hL2, hkm⟩
        clear hmk
        have hgm : ¬ g = mb := fun e => by omega
        have hglw : g < wr.drew.heap.size := Nat.lt_of_lt_of_le hgl hkN.size
        have c0 := (hkm.cell (p := ⟨g, off + i * 2, none⟩) hglw hgm).trans r0
        have c1 := (hkm.cell (p := ⟨g, off + i * 2 + 1, none⟩) hglw hgm).trans r1
        refine hKe _ _ ⟨fun _ => ⟨c0, c1⟩, ?_⟩
        apply sig_still (o := ⟨some 8, _, _, _, _, _⟩) rfl rfl
        · intro w' hS
          obtain ⟨q1, q2⟩ := hS
          first | (go_simp; done) | (go_simp; rfl) | rfl
        go_frame
        refine sig_nil ?_
        have hk2 : Keep (fun j => j = mb ∨ j = w3.heap.size) w5 wm := hk.drew.trans hkm fun j hj e => .inl e
        have hb6m := (hb6.keep (Keep.refl No wr).drew fun h => h).keep hkm fun e => by omega
        have hwm := (hw.no (Keep.refl No wr).drew).keep hkm fun j _ ha e => ha.1 e
        have hrm := hr5.keep hk2 fun j _ ha e => by omega
        have hml := mark_len L x y
        have hm2 := mark_m L x y
        have hLok := hL.ok
        clear r0 r1 hL hb6 hw hkm hk
        have hwm2 : Fl (fun k => (k ≠ mb ∧ k ≠ w3.heap.size ∧ w.heap.size < k) ∧ k < wm.heap.size) wm 2 encW wv L.w := Sl.mono hwm fun k hk ha => ⟨ha, hk⟩
        have hmr := fun (W : World) (hkW : Keep No wm W) => r18mark_any (w := W) (L := L) x y hxl (by rw [hLm]; exact hrm.no hkW) (hwm2.no hkW) hLok.srt (by omega) hLok.ln
        have HMR := Lib.hid hmr
        clear hmr
        have hkq0 : Keep (fun j => j = mb ∨ j = w3.heap.size) w5 wm.drew := hk2.drew
        have hkNm : Keep No w wm := hkW5.trans hk2 fun j hj e => hnew j hj e
        have hAm : ∀ k, (w1.heap.size ≤ k ∧ k < w2.heap.size) → k < wm.heap.size := fun k hk3 => by have := hk3.2; have := hk2.size; omega
        have hkdm : Keep No wm wm.drew := (Keep.refl No wm).drew
        have hs5m : w5.heap.size ≤ wm.heap.size := hk2.size
        have hsd : wm.drew.heap.size = wm.heap.size := rfl
        generalize hE : markE L x y = E at *
        generalize hM : markM L x y = M at *
        have hb6d := hb6m.keep (Keep.refl No wm).drew fun h => h
        have r0 : wm.drew.cell? ⟨g, off + i * 2, none⟩ = some (.int .u64 (x : Int)) := c0
        have r1 : wm.drew.cell? ⟨g, off + i * 2 + 1, none⟩ = some (.int .i64 y) := c1
        have hglm : g < wm.drew.heap.size := Nat.lt_of_lt_of_le hgl hkNm.size
        go_wp2_with fail
        apply joinG
        · intro HJ
          refine wp_region_tree (fun w' => w'.cell? ⟨w3.heap.size, 0, none⟩ = some (.slice ar mods2.length cr) ∧ w'.cell? ⟨w3.heap.size, 1, none⟩ = some wv ∧ w'.cell? ⟨g, off + i * 2, none⟩ = some (.int .u64 (x : Int)) ∧ w'.cell? ⟨g, off + i * 2 + 1, none⟩ = some (.int .i64 y)) (fun j => decide (j ≤ 99)) (.st 0 (.st 1 (.st 2 (.st 3 (.st 4 (.st 5 (.st 6 (.st 7 (.st 8 (.st 9 (.st 10 (.br 11 15 (.st 12 (.st 13 (.st 14 (.ef 15 (.ef 16 (.st 17 .nil)))))) (.ef 11 (.st 12 (.st 13 (.st 14 (.ef 16 (.st 17 .nil)))))))))))))))))) (by kernel_rfl) (by kernel_rfl) (by intro c a d v w h; cases d <;> exact h) ⟨hb6d.cell 0, hb6d.cell 1, r0, r1⟩ ?_
          apply tr_still (o := ⟨some 38, _, _, _, _, _⟩) rfl rfl
          · intro w' hS
            obtain ⟨q1, q2, q3, q4⟩ := hS
            first | (go_simp; done) | (go_simp; rfl) | rfl
          go_frame
          apply tr_still (o := ⟨some 39, _, _, _, _, _⟩) rfl rfl
          · intro w' hS
            obtain ⟨q1, q2, q3, q4⟩ := hS
            first | (go_simp; done) | (go_simp; rfl) | rfl
          go_frame
          apply tr_still (o := ⟨some 40, _, _, _, _, _⟩) rfl rfl
          · intro w' hS
            obtain ⟨q1, q2, q3, q4⟩ := hS
            first | (go_simp; done) | (go_simp; rfl) | rfl
          go_frame
          apply tr_still (o := ⟨some 41, _, _, _, _, _⟩) rfl rfl
          · intro w' hS
            obtain ⟨q1, q2, q3, q4⟩ := hS
            first | (go_simp; done) | (go_simp; rfl) | rfl
          go_frame
          apply tr_still (o := ⟨some 42, _, _, _, _, _⟩) rfl rfl
          · intro w' hS
            obtain ⟨q1, q2, q3, q4⟩ := hS
            first | (go_simp; done) | (go_simp; rfl) | rfl
          go_frame
          apply tr_still (o := ⟨some 43, _, _, _, _, _⟩) rfl rfl
          · intro w' hS
            obtain ⟨q1, q2, q3, q4⟩ := hS
            first | (go_simp; done) | (go_simp; rfl) | rfl
          go_frame
          apply tr_still (o := ⟨some 44, _, _, _, _, _⟩) rfl rfl
          · intro w' hS
            obtain ⟨q1, q2, q3, q4⟩ := hS
            first | (go_simp; done) | (go_simp; rfl) | rfl
          go_frame
          apply tr_still (o := ⟨some 45, _, _, _, _, _⟩) rfl rfl
          · intro w' hS
            obtain ⟨q1, q2, q3, q4⟩ := hS
            first | (go_simp; done) | (go_simp; rfl) | rfl
          go_frame
          apply tr_still (o := ⟨some 46, _, _, _, _, _⟩) rfl rfl
          · intro w' hS
            obtain ⟨q1, q2, q3, q4⟩ := hS
            first | (go_simp; done) | (go_simp; rfl) | rfl
          go_frame
          apply tr_still (o := ⟨some 47, _, _, _, _, _⟩) rfl rfl
          · intro w' hS
            obtain ⟨q1, q2, q3, q4⟩ := hS
            first | (go_simp; done) | (go_simp; rfl) | rfl
          go_frame
          apply tr_still (o := ⟨some 48, _, _, _, _, _⟩) rfl rfl
          · intro w' hS
            obtain ⟨q1, q2, q3, q4⟩ := hS
            first | (go_simp; done) | (go_simp; rfl) | rfl
          go_frame
          refine tr_br (o := ⟨some 49, _, _, _, _, _⟩) (o' := ⟨some 9, _, _, _, _, _⟩) rfl rfl rfl rfl (fun K hKe => ?_) (fun K hKe => ?_)
          · go_wp2_with fail
            refine (HMR.out wm.drew hkdm).mono ?_
            rintro e wq ⟨wv', rfl, hwq, hkq⟩
            have hb6q := hb6d.keep hkq fun h => h
            have f0q : (wq).cell? ⟨w3.heap.size, 0, none⟩ = some (.slice ar mods2.length cr) := hb6q.cell 0
            have f1q : (wq).cell? ⟨w3.heap.size, 1, none⟩ = some wv := hb6q.cell 1
            have f2q := ((hkq).cell (p := ⟨g, off + i * 2, none⟩) hglm fun h => h).trans r0
            have f3q := ((hkq).cell (p := ⟨g, off + i * 2 + 1, none⟩) hglm fun h => h).trans r1
            refine hKe _ _ ⟨fun _ => ⟨f0q, f1q, f2q, f3q⟩, ?_⟩
            apply tr_still (o := ⟨some 37, _, _, _, _, _⟩) rfl rfl
            · intro w' hS
              obtain ⟨q1, q2, q3, q4⟩ := hS
              first | (go_simp; done) | (go_simp; rfl) | rfl
            go_frame
            apply tr_still (o := ⟨some 50, _, _, _, _, _⟩) rfl rfl
            · intro w' hS
              obtain ⟨q1, q2, q3, q4⟩ := hS
              first | (go_simp; done) | (go_simp; rfl) | rfl
            go_frame
            apply tr_still (o := ⟨some 51, _, _, _, _, _⟩) rfl rfl
            · intro w' hS
              obtain ⟨q1, q2, q3, q4⟩ := hS
              first | (go_simp; done) | (go_simp; rfl) | rfl
            go_frame
            refine tr_eff (o := ⟨some 9, _, _, _, _, _⟩) rfl rfl (fun K hKe => ?_)
            go_wp2_with fail
            have hkwa : Keep No wq (wq.alloc (.cells #[.slice none 0 0, .slice none 0 0] 53)) := (Keep.refl _ _).alloc _
            have hBwa : Blk (wq.alloc (.cells #[.slice none 0 0, .slice none 0 0] 53)) wq.heap.size #[.slice none 0 0, .slice none 0 0] 53 := Blk.new _ _ _
            have hzwa : (wq.alloc (.cells #[.slice none 0 0, .slice none 0 0] 53)).heap.size = wq.heap.size + 1 := World.size_alloc _ _
            generalize wq.alloc (.cells #[.slice none 0 0, .slice none 0 0] 53) = wa at *
            have hka := hkq.trans' hkwa
            have hb6a := hb6d.keep hka fun h => h
            have f0a : (wa).cell? ⟨w3.heap.size, 0, none⟩ = some (.slice ar mods2.length cr) := hb6a.cell 0
            have f1a : (wa).cell? ⟨w3.heap.size, 1, none⟩ = some wv := hb6a.cell 1
            have f2a := ((hka).cell (p := ⟨g, off + i * 2, none⟩) hglm fun h => h).trans r0
            have f3a := ((hka).cell (p := ⟨g, off + i * 2 + 1, none⟩) hglm fun h => h).trans r1
            have hsq := hkq.size
            refine ⟨fun _ => ⟨f0a, f1a, f2a, f3a⟩, ?_⟩
            have hwa := hwq.no hkwa
            refine tr_eff (o := ⟨none, _, _, _, _, _⟩) rfl rfl (fun K hKe => ?_)
            refine wo_stAgg (.tmp 9) (.tmp 50) 53 rfl _ _ rfl rfl ?_
            have hone : wv'.oneCell' = true := by
              obtain ⟨_, _, e, _⟩ := (hwa).shape
              rw [e]; rfl
            refine rg_stAgg hBwa (by kernel_rfl) (by rfl) (by simp [hone] <;> rfl) ?_
            intro wf hBf hkf hzf
            have hkF : Keep (fun j => j = mb ∨ j = w3.heap.size) w5 wf := (hkq0.trans hka fun _ _ h => h.elim).trans hkf fun j hj e => absurd hj (by have e2 : j = wq.heap.size := e; omega)
            have hLf := (hL2.no hAm (hkdm.trans' hka)).keep hkf (fun j hj e => by have e2 : j = wq.heap.size := e; have := hj.2; omega) (fun j hj => by have := hj.2; have := (hka).size; omega)
            have hb6f := (hb6d.keep hka fun h => h).keep hkf fun e => by have e2 : w3.heap.size = wq.heap.size := e; omega
            have hwf : Fl (fun k => k ≠ mb ∧ k ≠ w3.heap.size ∧ w.heap.size < k) wf 2 encW wv' M.w := Sl.mono (Sl.keep hwa hkf fun j hj ha e => by
              have e2 : j = wq.heap.size := e
              rcases ha with ha | ha
              · have := ha.2; omega
              · have := ha.1; have := ha.2; omega) fun j hj ha => by
              rcases ha with ha | ha
              · exact ha.1
              · exact ⟨by have := ha.1; omega, by have := ha.1; omega, by have := ha.1; omega⟩
            have q2 := ((hka).cell (p := ⟨g, off + i * 2, none⟩) hglm fun h => h).trans r0
            have hgF : ¬ g = wq.heap.size := fun e => by omega
            refine hKe _ _ ⟨fun _ => ⟨hb6f.cell 0, hb6f.cell 1, (hkf.cell (p := ⟨g, off + i * 2, none⟩) (Nat.lt_of_lt_of_le hglm (hka).size) hgF).trans q2, (hkf.cell (p := ⟨g, off + i * 2 + 1, none⟩) (Nat.lt_of_lt_of_le hglm (hka).size) hgF).trans (((hka).cell (p := ⟨g, off + i * 2 + 1, none⟩) hglm fun h => h).trans r1)⟩, ?_⟩
            apply tr_still (o := ⟨some 10, _, _, _, _, _⟩) rfl rfl
            · intro w' hS
              obtain ⟨q1, q2, q3, q4⟩ := hS
              first | (go_simp; done) | (go_simp; rfl) | rfl
            go_frame
            apply tr_nil
            have hgl9 : w5.heap.size ≤ wq.heap.size := by omega
            obtain ⟨gg, hgg⟩ : ∃ g, g = wq.heap.size := ⟨_, rfl⟩
            rw [← hgg] at hBf hgl9
            try rw [← hgg]
            clear hgg hkf hzf hKe q2 hgF hone hwa
            try clear hwq
            revert hgl9 hkF hLf hb6f hwf hBf
            revert gg wv' wf
            exact HJ.out
          · go_wp2_with fail
            have hkwa : Keep No wm.drew (wm.alloc (.cells #[.slice none 0 0, .slice none 0 0] 53)).drew := ((Keep.refl No wm.drew).alloc _)
            have hBwa : Blk (wm.alloc (.cells #[.slice none 0 0, .slice none 0 0] 53)).drew wm.heap.size #[.slice none 0 0, .slice none 0 0] 53 := (Blk.new wm _ _).keep (Keep.refl No _).drew fun h => h
            generalize (wm.alloc (.cells #[.slice none 0 0, .slice none 0 0] 53)).drew = wa at *
            have hb6a := hb6d.keep hkwa fun h => h
            have f0a : (wa).cell? ⟨w3.heap.size, 0, none⟩ = some (.slice ar mods2.length cr) := hb6a.cell 0
            have f1a : (wa).cell? ⟨w3.heap.size, 1, none⟩ = some wv := hb6a.cell 1
            have f2a := ((hkwa).cell (p := ⟨g, off + i * 2, none⟩) hglm fun h => h).trans r0
            have f3a := ((hkwa).cell (p := ⟨g, off + i * 2 + 1, none⟩) hglm fun h => h).trans r1
            refine ⟨fun _ => ⟨f0a, f1a, f2a, f3a⟩, ?_⟩
            refine tr_eff (o := ⟨some 49, _, _, _, _, _⟩) rfl rfl (fun K hKe => ?_)
            go_wp2_with fail
            refine (HMR.out wa (hkdm.trans' hkwa)).mono ?_
            rintro e wq ⟨wv', rfl, hwq, hkq⟩
            have hka := hkwa.trans' hkq
            have hb6q := hb6d.keep hka fun h => h
            have f0q : (wq).cell? ⟨w3.heap.size, 0, none⟩ = some (.slice ar mods2.length cr) := hb6q.cell 0
            have f1q : (wq).cell? ⟨w3.heap.size, 1, none⟩ = some wv := hb6q.cell 1
            have f2q := ((hka).cell (p := ⟨g, off + i * 2, none⟩) hglm fun h => h).trans r0
            have f3q := ((hka).cell (p := ⟨g, off + i * 2 + 1, none⟩) hglm fun h => h).trans r1
            refine hKe _ _ ⟨fun _ => ⟨f0q, f1q, f2q, f3q⟩, ?_⟩
            apply tr_still (o := ⟨some 37, _, _, _, _, _⟩) rfl rfl
            · intro w' hS
              obtain ⟨q1, q2, q3, q4⟩ := hS
              first | (go_simp; done) | (go_simp; rfl) | rfl
            go_frame
            apply tr_still (o := ⟨some 50, _, _, _, _, _⟩) rfl rfl
            · intro w' hS
              obtain ⟨q1, q2, q3, q4⟩ := hS
              first | (go_simp; done) | (go_simp; rfl) | rfl
            go_frame
            apply tr_still (o := ⟨some 51, _, _, _, _, _⟩) rfl rfl
            · intro w' hS
              obtain ⟨q1, q2, q3, q4⟩ := hS
              first | (go_simp; done) | (go_simp; rfl) | rfl
            go_frame
            have hBq := hBwa.keep hkq fun h => h
            have hlta := hBwa.lt
            refine tr_eff (o := ⟨none, _, _, _, _, _⟩) rfl rfl (fun K hKe => ?_)
            refine wo_stAgg (.tmp 9) (.tmp 50) 53 rfl _ _ rfl rfl ?_
            have hone : wv'.oneCell' = true := by
              obtain ⟨_, _, e, _⟩ := (hwq).shape
              rw [e]; rfl
            refine rg_stAgg hBq (by kernel_rfl) (by rfl) (by simp [hone] <;> rfl) ?_
            intro wf hBf hkf hzf
            have hkF : Keep (fun j => j = mb ∨ j = w3.heap.size) w5 wf := (hkq0.trans hka fun _ _ h => h.elim).trans hkf fun j hj e => absurd hj (by have e2 : j = wm.heap.size := e; omega)
            have hLf := (hL2.no hAm (hkdm.trans' hka)).keep hkf (fun j hj e => by have e2 : j = wm.heap.size := e; have := hj.2; omega) (fun j hj => by have := hj.2; have := (hka).size; omega)
            have hb6f := (hb6d.keep hka fun h => h).keep hkf fun e => by have e2 : w3.heap.size = wm.heap.size := e; omega
            have hwf : Fl (fun k => k ≠ mb ∧ k ≠ w3.heap.size ∧ w.heap.size < k) wf 2 encW wv' M.w := Sl.mono (Sl.keep hwq hkf fun j hj ha e => by
              have e2 : j = wm.heap.size := e
              rcases ha with ha | ha
              · have := ha.2; omega
              · have := ha.1; have := ha.2; omega) fun j hj ha => by
              rcases ha with ha | ha
              · exact ha.1
              · exact ⟨by have := ha.1; omega, by have := ha.1; omega, by have := ha.1; omega⟩
            have q2 := ((hka).cell (p := ⟨g, off + i * 2, none⟩) hglm fun h => h).trans r0
            have hgF : ¬ g = wm.heap.size := fun e => by omega
            refine hKe _ _ ⟨fun _ => ⟨hb6f.cell 0, hb6f.cell 1, (hkf.cell (p := ⟨g, off + i * 2, none⟩) (Nat.lt_of_lt_of_le hglm (hka).size) hgF).trans q2, (hkf.cell (p := ⟨g, off + i * 2 + 1, none⟩) (Nat.lt_of_lt_of_le hglm (hka).size) hgF).trans (((hka).cell (p := ⟨g, off + i * 2 + 1, none⟩) hglm fun h => h).trans r1)⟩, ?_⟩
            apply tr_still (o := ⟨some 10, _, _, _, _, _⟩) rfl rfl
            · intro w' hS
              obtain ⟨q1, q2, q3, q4⟩ := hS
              first | (go_simp; done) | (go_simp; rfl) | rfl
            go_frame
            apply tr_nil
            have hgl9 : w5.heap.size ≤ wm.heap.size := by omega
            obtain ⟨gg, hgg⟩ : ∃ g, g = wm.heap.size := ⟨_, rfl⟩
            rw [← hgg] at hBf hgl9
            try rw [← hgg]
            clear hgg hkf hzf hKe q2 hgF hone hwq
            try clear hwq
            revert hgl9 hkF hLf hb6f hwf hBf
            revert gg wv' wf
            exact HJ.out
        · intro wv' wf gg hkF hLf hb6f hwf hgl9 hBf
          obtain ⟨aq, cq, rfl, _, _⟩ := hwf.shape
          have hkNf : Keep No w wf := hkW5.trans hkF fun j hj e => hnew j hj e
          have hglf := hBf.lt
          go_wp2_with (first | (with_reducible refine wl_ld rfl _ 53 rfl _ rfl ?_) | (with_reducible refine wl_stAgg rfl _ _ _ rfl _ _ rfl rfl ?_))
          refine rg_ld hBf Tryd.underlying53 rfl (by kernel_rfl) ?_
          go_wp2_with (with_reducible refine wl_stAgg rfl _ _ _ rfl _ _ rfl rfl ?_)
          refine rg_stAgg hb6f (by kernel_rfl) (by rfl) (by simp [Value.oneCell']) ?_
          intro wg hb6g hkg hzg
          have hAf : ∀ k, (w1.heap.size ≤ k ∧ k < w2.heap.size) → k < wf.heap.size := fun k hk3 => by have := hk3.2; have := hkF.size; omega
          have hLg := hLf.keep hkg (fun j hj e => by have e2 : j = w3.heap.size := e; have := hj.2; omega) hAf
          have hwg := hwf.keep hkg fun j _ ha e => ha.2.1 e
          have hkG : Keep (fun j => j = mb ∨ j = w3.heap.size) w5 wg := hkF.trans hkg fun j hj e => .inr e
          have hAg : ∀ k, (w1.heap.size ≤ k ∧ k < w2.heap.size) → k < wg.heap.size := fun k hk3 => Nat.lt_of_lt_of_le (hAf k hk3) hkg.size
          have hMl : M.w.length ≤ i + 1 := by omega
          have hlk := like18_any (w := wg) (B := fun k => k ≠ mb ∧ k ≠ w3.heap.size ∧ w.heap.size < k) (wv := .slice aq M.w.length cq) mods2.length cr ar hLg hAg (by omega) hwg
          have q0 : wg.cell? ⟨w3.heap.size, 0, none⟩ = some (.slice ar mods2.length cr) := hb6g.cell 0
          have q1 : wg.cell? ⟨w3.heap.size, 1, none⟩ = some (.slice aq M.w.length cq) := hb6g.cell 1
          unfold ptrTo at hlk
          clear hLf hwf hb6f hkF hBf hkg hzg
          go_wp2_with fail
          refine hlk.mono ?_
          rintro e wh ⟨rfl, hkh⟩
          go_wp2_with fail
          go_roundw
          case rel => exact ⟨i + 1, M, _, by go_num, hlt, by omega, hm2.trans hLm, hMl, hLg.no hAg hkh, hb6g.keep hkh fun h => h, hwg.no hkh, hkG.trans hkh fun _ _ h => h.elim⟩
          case measure => simp [intOf]; omega
      · have h20z : decide ((i : Int) < 20) = false := by rw [decide_eq_false_iff_not]; omega
        obtain ⟨aw9, cw9, rfl, _, _⟩ := hw.shape
        have hb6d := hb6.keep (Keep.refl No wr).drew fun h => h
        go_wp2_with fail
        refine wp_region_sig (fun w' => Blk w' w3.heap.size #[.slice ar mods2.length cr, .slice aw9 L.w.length cw9] 53 ∧ True) (fun j => decide (j ≤ 99)) [(0, true), (1, true), (2, true), (3, false), (4, true)] (by kernel_rfl) (by kernel_rfl) (by intro c a d v w h; cases d <;> exact h) ⟨hb6d, trivial⟩ ?_
        apply sig_still (o := ⟨some 64, _, _, _, _, _⟩) rfl rfl
        · intro w' hS
          obtain ⟨q1, q2⟩ := hS
          first | (go_simp; done) | (go_simp; rfl) | rfl
        go_frame
        apply sig_still (o := ⟨some 65, _, _, _, _, _⟩) rfl rfl
        · intro w' hS
          exact run_ldoC _ _ rfl w3.heap.size 0 rfl (run_loadVar_row w' w3.heap.size 53 53 _ _ _ hS.1 Tryd.underlying53 rfl (by kernel_rfl))
        go_frame
        apply sig_still (o := ⟨some 2, _, _, _, _, _⟩) rfl rfl
        · intro w' hS
          obtain ⟨q1, q2⟩ := hS
          first | (go_simp; done) | (go_simp; rfl) | rfl
        go_frame
        refine sig_eff (o := ⟨none, _, _, _, _, _⟩) rfl rfl (fun K hKe => ?_)
        refine wo_stAgg (.tmp 3) (.tmp 65) 53 rfl _ _ rfl rfl ?_
        refine rg_stAgg (hb3r.keep (Keep.refl No wr).drew fun h => h) (by kernel_rfl) (by rfl) (by simp [Value.oneCell']) ?_
        intro wz hbz hkz hzz
        refine hKe _ _ ⟨fun _ => ⟨hb6d.keep hkz fun e => by have e2 : w3.heap.size = w.heap.size := e; omega, trivial⟩, ?_⟩
        apply sig_still (o := ⟨some 4, _, _, _, _, _⟩) rfl rfl
        · intro w' hS
          obtain ⟨q1, q2⟩ := hS
          first | (go_simp; done) | (go_simp; rfl) | rfl
        go_frame
        refine sig_nil ?_
        go_wp2_with fail
        refine ret_tct rfl rfl hbz Tryd.underlying53 rfl (by kernel_rfl) rfl ?_
        have hkd9 := (Keep.refl No wr).drew
        have hkZ : Keep No w wz := (hkN.trans' hkd9).trans hkz fun j hj e => absurd hj (by have e2 : j = w.heap.size := e; omega)
        have hsz := hkz.size
        have hLz := (hL.no hAr hkd9).keep hkz (fun j hj e => by have e2 : j = w.heap.size := e; have := hj.1; omega) hAr
        have hAz : ∀ k, (w1.heap.size ≤ k ∧ k < w2.heap.size) → k < wz.heap.size := fun k hk3 => Nat.lt_of_lt_of_le (hAr k hk3) hsz
        have hwz := (hw.no hkd9).keep hkz fun j _ ha e => by have e2 : j = w.heap.size := e; have := ha.2.2; omega
        have hrz := ((hr5.keep hk fun j _ ha e => by omega).no hkd9).keep hkz fun j _ ha e => by have e2 : j = w.heap.size := e; omega
        refine ⟨d, v, mb, _, _, L, rfl, hLz.mono fun k hk ha => ⟨by have := ha.1; omega, hk⟩, hLm, by omega, ?_, ?_, hkZ⟩
        · rw [hLm]
          exact Sl.mono hrz fun k hk ha => ⟨by omega, hk⟩
        · exact Sl.mono hwz fun k hk ha => ⟨Nat.le_of_lt ha.2.2, hk⟩
    · have hge2 : decide ((i : Int) < (ks.length : Int)) = false := by rw [decide_eq_false_iff_not]; omega
      obtain ⟨aw9, cw9, rfl, _, _⟩ := hw.shape
      have hb6d := hb6.keep (Keep.refl No wr).drew fun h => h
      go_wp2_with fail
      refine wp_region_sig (fun w' => Blk w' w3.heap.size #[.slice ar mods2.length cr, .slice aw9 L.w.length cw9] 53 ∧ True) (fun j => decide (j ≤ 99)) [(0, true), (1, true), (2, true), (3, false), (4, true)] (by kernel_rfl) (by kernel_rfl) (by intro c a d v w h; cases d <;> exact h) ⟨hb6d, trivial⟩ ?_
      apply sig_still (o := ⟨some 64, _, _, _, _, _⟩) rfl rfl
      · intro w' hS
        obtain ⟨q1, q2⟩ := hS
        first | (go_simp; done) | (go_simp; rfl) | rfl
      go_frame
      apply sig_still (o := ⟨some 65, _, _, _, _, _⟩) rfl rfl
      · intro w' hS
        exact run_ldoC _ _ rfl w3.heap.size 0 rfl (run_loadVar_row w' w3.heap.size 53 53 _ _ _ hS.1 Tryd.underlying53 rfl (by kernel_rfl))
      go_frame
      apply sig_still (o := ⟨some 2, _, _, _, _, _⟩) rfl rfl
      · intro w' hS
        obtain ⟨q1, q2⟩ := hS
        first | (go_simp; done) | (go_simp; rfl) | rfl
      go_frame
      refine sig_eff (o := ⟨none, _, _, _, _, _⟩) rfl rfl (fun K hKe => ?_)
      refine wo_stAgg (.tmp 3) (.tmp 65) 53 rfl _ _ rfl rfl ?_
      refine rg_stAgg (hb3r.keep (Keep.refl No wr).drew fun h => h) (by kernel_rfl) (by rfl) (by simp [Value.oneCell']) ?_
      intro wz hbz hkz hzz
      refine hKe _ _ ⟨fun _ => ⟨hb6d.keep hkz fun e => by have e2 : w3.heap.size = w.heap.size := e; omega, trivial⟩, ?_⟩
      apply sig_still (o := ⟨some 4, _, _, _, _, _⟩) rfl rfl
      · intro w' hS
        obtain ⟨q1, q2⟩ := hS
        first | (go_simp; done) | (go_simp; rfl) | rfl
      go_frame
      refine sig_nil ?_
      go_wp2_with fail
      refine ret_tct rfl rfl hbz Tryd.underlying53 rfl (by kernel_rfl) rfl ?_
      have hkd9 := (Keep.refl No wr).drew
      have hkZ : Keep No w wz := (hkN.trans' hkd9).trans hkz fun j hj e => absurd hj (by have e2 : j = w.heap.size := e; omega)
      have hsz := hkz.size
      have hLz := (hL.no hAr hkd9).keep hkz (fun j hj e => by have e2 : j = w.heap.size := e; have := hj.1; omega) hAr
      have hAz : ∀ k, (w1.heap.size ≤ k ∧ k < w2.heap.size) → k < wz.heap.size := fun k hk3 => Nat.lt_of_lt_of_le (hAr k hk3) hsz
      have hwz := (hw.no hkd9).keep hkz fun j _ ha e => by have e2 : j = w.heap.size := e; have := ha.2.2; omega
      have hrz := ((hr5.keep hk fun j _ ha e => by omega).no hkd9).keep hkz fun j _ ha e => by have e2 : j = w.heap.size := e; omega
      refine ⟨d, v, mb, _, _, L, rfl, hLz.mono fun k hk ha => ⟨by have := ha.1; omega, hk⟩, hLm, by omega, ?_, ?_, hkZ⟩
      · rw [hLm]
        exact Sl.mono hrz fun k hk ha => ⟨by omega, hk⟩
      · exact Sl.mono hwz fun k hk ha => ⟨Nat.le_of_lt ha.2.2, hk⟩
end
end Go.Proofs.YthfekjnekaecaaaDoor
namespace Go.Proofs.YthfekjnekaecaaaDoor
open Go.RowKit Go.Dm Go.Dm.Vm Go.Dm.Cp Go.Dm.Tg Go.Maps Go.Dm.Oc
theorem flo_raw {w : World} {base : Nat} {v : Value} {m : V} (h : FlO w base 103 6 encT v (m.map rawR)) : FlO w base 103 6 encS v m := by
  unfold FlO at h ⊢
  rw [List.length_map, List.flatMap_map] at h
  exact h
section
variable {C : Nat → Prop} {w : World}
set_option maxRecDepth 100000 in
set_option maxHeartbeats 8000000 in
theorem tagsspans_any {vk : Value} (ks : List (Nat × Int)) (a n : Nat) (t : Int) (hks : Fl C w 2 encMk vk ks) (hka : ∀ x ∈ ks, x.1 < 18446744073709551616) (hC : ∀ k, C k → k < w.heap.size) (ha : a < 18446744073709551616) (hn : n < 18446744073709551616) (hT : Tabs w) :
    Calls Tryd.prog 5 #[vk, .int .u64 (a : Int), .int .u64 (n : Int), .int .i64 t] w fun e w' => e = .returned (.bool true) ∧ Keep No w w' := by
  have haw := awake18_any hT
  have hbo := fun W (hk : Keep No w W) => both18_any (w := W) ks (hks.no hk) hka fun k hk2 => Nat.lt_of_lt_of_le (hC k hk2) hk.size
  obtain ⟨ak, ck, rfl, _, _⟩ := hks.shape
  have HB := Lib.hid hbo
  clear hbo hks hT
  go_enter Tryd.func5, Tryd.ntmps5
  go_wp2_with fail
  refine haw.mono ?_
  rintro e w1 ⟨rfl, hk1⟩
  clear haw
  go_wp2_with fail
  refine (HB.out w1 hk1).mono ?_
  rintro e wb ⟨d, v, mb, mv, wv, L, rfl, hL, hLm, hLw, hm, hw, hkb⟩
  have hkB := hk1.trans' hkb
  have hok := hL.ok
  obtain ⟨am, cm, rfl, _, _⟩ := hm.shape
  obtain ⟨aw, cw, rfl, _, _⟩ := hw.shape
  have HM := Lib.hid hm
  have HW := Lib.hid hw
  have HL := Lib.hid hL
  have HO := Lib.hid hok
  clear HB hm hw hL hok hLm
  unfold ptrTo
  go_wp2_with (with_reducible refine wl_stAgg rfl _ _ _ rfl _ _ rfl rfl ?_)
  have hkw2 : Keep No wb (wb.alloc (.cells #[.slice none 0 0, .slice none 0 0] 53)) := (Keep.refl _ _).alloc _
  have hBw2 : Blk (wb.alloc (.cells #[.slice none 0 0, .slice none 0 0] 53)) wb.heap.size #[.slice none 0 0, .slice none 0 0] 53 := Blk.new _ _ _
  have hzw2 : (wb.alloc (.cells #[.slice none 0 0, .slice none 0 0] 53)).heap.size = wb.heap.size + 1 := World.size_alloc _ _
  generalize wb.alloc (.cells #[.slice none 0 0, .slice none 0 0] 53) = w2 at *
  refine rg_stAgg hBw2 (by kernel_rfl) (by rfl) (by simp [Value.oneCell']) ?_
  intro w3 hB3 hk3 hz3
  have hkb3 : Keep No wb w3 := hkw2.trans hk3 fun j hj e => absurd hj (by have e2 : j = wb.heap.size := e; omega)
  clear hkw2 hBw2 hk3 hz3 hzw2
  go_wp2_with fail
  refine (memory18_any w3).mono ?_
  rintro e w4 ⟨dm, mbm, fm, rfl, hS, hk4⟩
  have hkb4 := hkb3.trans' hk4
  have hB4 := hB3.keep hk4 fun h => h
  have hkd : Keep No w4 w4.drew := (Keep.refl No w4).drew
  have hB4d := hB4.keep hkd fun h => h
  have hS4 : ∀ W, Keep No w4 W → memV (fun k => w3.heap.size ≤ k ∧ k < w4.heap.size) W (ptrTo dm) (some mem18) := fun W hk => ⟨dm, mbm, fm, rfl, hS.no (fun k hk => hk.2) hk⟩
  have hLA : ∀ k, (w1.heap.size ≤ k ∧ k < wb.heap.size) → k < w4.heap.size := fun k hk => Nat.lt_of_lt_of_le hk.2 hkb4.size
  have hLk : ∀ W, Keep No w4 W → LRep (fun k => w1.heap.size ≤ k ∧ k < wb.heap.size) W d L v mb := fun W hk => HL.out.no (fun k hk => hk.2) (hkb4.trans' hk)
  have hsp := fun W (hk : Keep No w4 W) => tspan_any (w := W) a n t ha hn (hS4 W hk) (fun k hk2 => Nat.lt_of_lt_of_le hk2.2 hk.size) (hLk W hk) fun k hk2 => Nat.lt_of_lt_of_le (hLA k hk2) hk.size
  have hpg := fun W (hk : Keep No w4 W) => pages18_any (w := W) (hS.no (fun k hk => hk.2) hk) fun k hk2 => Nat.lt_of_lt_of_le hk2.2 hk.size
  have hrs := fun W (hk : Keep No w4 W) (C : Nat → Prop) pv (hp : Fl C W 6 encS pv mem18) => r18span_any (w := W) (L := L) a n t L.w.length cw aw ha hn (HM.out.no (hkb4.trans' hk)) HO.out.md HO.out.ln hp hS.ok
  have hpl := fun W (hk : Keep No w4 W) => tplain_any (w := W) a n ha hn (hLk W hk)
  have hrp := fun W (hk : Keep No w4 W) => r18plain_any (w := W) (L := L) a n L.m.length cm am ha hn (HW.out.no (hkb4.trans' hk))
  have htg := fun W (hk : Keep No w4 W) => ttag_any (w := W) a ha (hLk W hk)
  have hrt := fun W (hk : Keep No w4 W) => r18tag_any (w := W) L.w a ha L.m.length am cm (HW.out.no (hkb4.trans' hk))
  rw [show wordAt L.w (a / 8 * 8) = tagM L a from rfl] at hrt
  rw [clean18] at hpg
  have HSP := Lib.hid hsp
  have HPG := Lib.hid hpg
  have HRS := Lib.hid hrs
  have HPL := Lib.hid hpl
  have HRP := Lib.hid hrp
  have HTG := Lib.hid htg
  have HRT := Lib.hid hrt
  have hkW4 : Keep No w w4 := hkB.trans' hkb4
  clear hsp hpg hrs hpl hrp htg hrt hS4 hLk hLA hS
  generalize spanM L (some mem18) a n t = E1 at *
  generalize plainM L a n = E2 at *
  generalize tagM L a = E3 at *
  unfold ptrTo at *
  go_wp2_with fail
  refine wp_region_sig (fun w' => Blk w' wb.heap.size #[.slice am L.m.length cm, .slice aw L.w.length cw] 53 ∧ True) (fun j => decide (j ≤ 99)) [(0, true), (1, true), (2, true), (3, true), (4, true), (6, true), (7, true), (8, true), (9, true), (10, true), (5, false), (11, false), (12, false), (13, true), (14, true), (15, true), (16, true), (17, true), (19, true), (20, true), (21, true), (18, false), (22, false), (23, true), (24, true), (25, true), (26, true), (27, true), (29, true), (30, true), (28, false), (31, false), (32, true), (33, true), (34, true)] (by kernel_rfl) (by kernel_rfl) (by intro c a d v w h; cases d <;> exact h) ⟨hB4d, trivial⟩ ?_
  apply sig_still (o := ⟨some 26, _, _, _, _, _⟩) rfl rfl
  · intro w' hS
    obtain ⟨q1, q2⟩ := hS
    first | (go_simp; done) | (go_simp; rfl) | rfl
  go_frame
  apply sig_still (o := ⟨some 27, _, _, _, _, _⟩) rfl rfl
  · intro w' hS
    obtain ⟨q1, q2⟩ := hS
    first | (go_simp; done) | (go_simp; rfl) | rfl
  go_frame
  apply sig_still (o := ⟨some 28, _, _, _, _, _⟩) rfl rfl
  · intro w' hS
    obtain ⟨q1, q2⟩ := hS
    first | (go_simp; done) | (go_simp; rfl) | rfl
  go_frame
  apply sig_still (o := ⟨some 29, _, _, _, _, _⟩) rfl rfl
  · intro w' hS
    obtain ⟨q1, q2⟩ := hS
    first | (go_simp; done) | (go_simp; rfl) | rfl
  go_frame
  apply sig_still (o := ⟨some 30, _, _, _, _, _⟩) rfl rfl
  · intro w' hS
    obtain ⟨q1, q2⟩ := hS
    first | (go_simp; done) | (go_simp; rfl) | rfl
  go_frame
  apply sig_still (o := ⟨some 32, _, _, _, _, _⟩) rfl (by rfl)
  · intro w' hS
    exact run_ldoC _ _ rfl wb.heap.size 0 rfl (run_loadVar_row w' wb.heap.size 53 53 _ _ _ hS.1 Tryd.underlying53 rfl (by kernel_rfl))
  go_frame
  apply sig_still (o := ⟨some 33, _, _, _, _, _⟩) rfl rfl
  · intro w' hS
    obtain ⟨q1, q2⟩ := hS
    first | (go_simp; done) | (go_simp; rfl) | rfl
  go_frame
  apply sig_still (o := ⟨some 34, _, _, _, _, _⟩) rfl rfl
  · intro w' hS
    obtain ⟨q1, q2⟩ := hS
    first | (go_simp; done) | (go_simp; rfl) | rfl
  go_frame
  apply sig_still (o := ⟨some 35, _, _, _, _, _⟩) rfl rfl
  · intro w' hS
    obtain ⟨q1, q2⟩ := hS
    first | (go_simp; done) | (go_simp; rfl) | rfl
  go_frame
  apply sig_still (o := ⟨some 36, _, _, _, _, _⟩) rfl rfl
  · intro w' hS
    obtain ⟨q1, q2⟩ := hS
    first | (go_simp; done) | (go_simp; rfl) | rfl
  go_frame
  refine sig_eff (o := ⟨some 31, _, _, _, _, _⟩) rfl rfl (fun K hKe => ?_)
  go_wp2_with fail
  refine (HSP.out w4.drew hkd).mono ?_
  rintro e w5 ⟨rfl, hk5⟩
  have hk45 := hkd.trans' hk5
  refine hKe _ _ ⟨fun _ => ⟨hB4.keep hk45 fun h => h, trivial⟩, ?_⟩
  refine sig_eff (o := ⟨some 37, _, _, _, _, _⟩) rfl rfl (fun K hKe => ?_)
  go_wp2_with fail
  refine (HPG.out w5 hk45).mono ?_
  rintro e w6 ⟨pv, rfl, hpv, hk6⟩
  have hk46 := hk45.trans' hk6
  refine hKe _ _ ⟨fun _ => ⟨hB4.keep hk46 fun h => h, trivial⟩, ?_⟩
  refine sig_eff (o := ⟨some 38, _, _, _, _, _⟩) rfl rfl (fun K hKe => ?_)
  go_wp2_with fail
  refine (HRS.out w6 hk46 _ pv (flo_raw hpv).fl).mono ?_
  rintro e w7 ⟨rfl, hk7⟩
  have hk47 := hk46.trans' hk7
  refine hKe _ _ ⟨fun _ => ⟨hB4.keep hk47 fun h => h, trivial⟩, ?_⟩
  apply sig_still (o := ⟨some 39, _, _, _, _, _⟩) rfl rfl
  · intro w' hS
    obtain ⟨q1, q2⟩ := hS
    first | (go_simp; done) | (go_simp; rfl) | rfl
  go_frame
  apply sig_still (o := ⟨some 40, _, _, _, _, _⟩) rfl rfl
  · intro w' hS
    obtain ⟨q1, q2⟩ := hS
    first | (go_simp; done) | (go_simp; rfl) | rfl
  go_frame
  apply sig_guard (o := ⟨some 41, _, _, _, _, _⟩) rfl (by rfl)
  · intro w' hS
    obtain ⟨q1, q2⟩ := hS
    first | (go_simp; done) | (go_simp; rfl) | rfl
  go_frame
  apply sig_guard (o := ⟨some 42, _, _, _, _, _⟩) rfl (by rfl)
  · intro w' hS
    obtain ⟨q1, q2⟩ := hS
    first | (go_simp; done) | (go_simp; rfl) | rfl
  go_frame
  apply sig_guard (o := ⟨some 43, _, _, _, _, _⟩) rfl (by rfl)
  · intro w' hS
    obtain ⟨q1, q2⟩ := hS
    first | (go_simp; done) | (go_simp; rfl) | rfl
  go_frame
  apply sig_guard (o := ⟨some 45, _, _, _, _, _⟩) rfl (by rfl)
  · intro w' hS
    exact run_ldoC _ _ rfl wb.heap.size 0 rfl (run_loadVar_row w' wb.heap.size 53 53 _ _ _ hS.1 Tryd.underlying53 rfl (by kernel_rfl))
  go_frame
  apply sig_guard (o := ⟨some 46, _, _, _, _, _⟩) rfl (by rfl)
  · intro w' hS
    obtain ⟨q1, q2⟩ := hS
    first | (go_simp; done) | (go_simp; rfl) | rfl
  go_frame
  apply sig_guard (o := ⟨some 47, _, _, _, _, _⟩) rfl (by rfl)
  · intro w' hS
    obtain ⟨q1, q2⟩ := hS
    first | (go_simp; done) | (go_simp; rfl) | rfl
  go_frame
  refine sig_effg (o := ⟨some 44, _, _, _, _, _⟩) rfl (by rfl) (fun K hKe => ?_)
  go_wp2_with fail
  refine (HPL.out w7 hk47).mono ?_
  rintro e w8 ⟨rfl, rfl⟩
  refine hKe _ _ ⟨fun _ => ⟨hB4.keep hk47 fun h => h, trivial⟩, ?_⟩
  refine sig_effg (o := ⟨some 48, _, _, _, _, _⟩) rfl (by rfl) (fun K hKe => ?_)
  go_wp2_with fail
  refine (HRP.out w7 hk47).mono ?_
  rintro e w8 ⟨rfl, hk8⟩
  have hk48 := hk47.trans' hk8
  refine hKe _ _ ⟨fun _ => ⟨hB4.keep hk48 fun h => h, trivial⟩, ?_⟩
  apply sig_guard (o := ⟨some 49, _, _, _, _, _⟩) rfl (by rfl)
  · intro w' hS
    obtain ⟨q1, q2⟩ := hS
    first | (go_simp; done) | (go_simp; rfl) | rfl
  go_frame
  apply sig_still (o := ⟨some 50, _, _, _, _, _⟩) rfl rfl
  · intro w' hS
    obtain ⟨q1, q2⟩ := hS
    first | (go_simp; done) | (go_simp; rfl) | rfl
  go_frame
  apply sig_still (o := ⟨some 51, _, _, _, _, _⟩) rfl rfl
  · intro w' hS
    obtain ⟨q1, q2⟩ := hS
    first | (go_simp; done) | (go_simp; rfl) | rfl
  go_frame
  apply sig_guard (o := ⟨some 52, _, _, _, _, _⟩) rfl (by rfl)
  · intro w' hS
    obtain ⟨q1, q2⟩ := hS
    first | (go_simp; done) | (go_simp; rfl) | rfl
  go_frame
  apply sig_guard (o := ⟨some 53, _, _, _, _, _⟩) rfl (by rfl)
  · intro w' hS
    obtain ⟨q1, q2⟩ := hS
    first | (go_simp; done) | (go_simp; rfl) | rfl
  go_frame
  apply sig_guard (o := ⟨some 55, _, _, _, _, _⟩) rfl (by rfl)
  · intro w' hS
    exact run_ldoC _ _ rfl wb.heap.size 0 rfl (run_loadVar_row w' wb.heap.size 53 53 _ _ _ hS.1 Tryd.underlying53 rfl (by kernel_rfl))
  go_frame
  apply sig_guard (o := ⟨some 56, _, _, _, _, _⟩) rfl (by rfl)
  · intro w' hS
    obtain ⟨q1, q2⟩ := hS
    first | (go_simp; done) | (go_simp; rfl) | rfl
  go_frame
  refine sig_effg (o := ⟨some 54, _, _, _, _, _⟩) rfl (by rfl) (fun K hKe => ?_)
  go_wp2_with fail
  refine (HTG.out w8 hk48).mono ?_
  rintro e w9 ⟨rfl, rfl⟩
  refine hKe _ _ ⟨fun _ => ⟨hB4.keep hk48 fun h => h, trivial⟩, ?_⟩
  refine sig_effg (o := ⟨some 57, _, _, _, _, _⟩) rfl (by rfl) (fun K hKe => ?_)
  go_wp2_with fail
  refine (HRT.out w8 hk48).mono ?_
  rintro e w9 ⟨rfl, hk9⟩
  have hk49 := hk48.trans' hk9
  refine hKe _ _ ⟨fun _ => ⟨hB4.keep hk49 fun h => h, trivial⟩, ?_⟩
  apply sig_guard (o := ⟨some 58, _, _, _, _, _⟩) rfl (by rfl)
  · intro w' hS
    obtain ⟨q1, q2⟩ := hS
    first | (go_simp; done) | (go_simp; rfl) | rfl
  go_frame
  apply sig_still (o := ⟨some 59, _, _, _, _, _⟩) rfl rfl
  · intro w' hS
    obtain ⟨q1, q2⟩ := hS
    first | (go_simp; done) | (go_simp; rfl) | rfl
  go_frame
  apply sig_still (o := ⟨some 8, _, _, _, _, _⟩) rfl rfl
  · intro w' hS
    obtain ⟨q1, q2⟩ := hS
    first | (go_simp; done) | (go_simp; rfl) | rfl
  go_frame
  refine sig_nil ?_
  go_wp2_with fail
  go_ret
  exact ⟨rfl, hkW4.trans' hk49⟩
end
end Go.Proofs.YthfekjnekaecaaaDoor
namespace Go.Proofs.YthfekjnekaecaaaDoor
open Go.Dm Go.Dm.Cp Go.ChangeShapes Go.WideShapes Go.ChangeAt Go.RowKit
theorem u64_nat {a : Int} (h : (Lit.int .u64 a).wf = true) : ∃ n : Nat, a = n ∧ n < 18446744073709551616 := by
  simp [Lit.wf, IntKind.min, IntKind.max, IntKind.signed, IntKind.bits] at h
  exact ⟨a.toNat, by omega, by omega⟩
theorem i32_bound {a : Int} (h : (Lit.int .i32 a).wf = true) : -2147483648 ≤ a ∧ a ≤ 2147483647 := by
  simp [Lit.wf, IntKind.min, IntKind.max, IntKind.signed, IntKind.bits] at h
  omega
/-- registers that came in -/
theorem regs_list {A : Nat → Prop} {W : World} {cs : List Value} {y : List Int} (h : Rd A W (.arr 32 (.int .u64)) cs y) : ∃ r : List Nat, r.length = 32 ∧ (∀ x ∈ r, x < 18446744073709551616) ∧ cs = r.map ru := by
  obtain ⟨css, rfl, h1, h2, h3⟩ := h
  have h2 : List.length y = 32 := h2
  have hw : ∀ i (hi : i < 32), css[i] = [Value.int .u64 (y[i]'(by omega))] ∧ (Lit.int .u64 (y[i]'(by omega))).wf = true := fun i hi =>
    h3 i _ _ (List.getElem?_eq_getElem (by omega)) (List.getElem?_eq_getElem (by omega))
  refine ⟨y.map Int.toNat, by simpa using h2, fun x hx => ?_, ?_⟩
  · obtain ⟨z, hz, rfl⟩ := List.mem_map.1 hx
    obtain ⟨i, hi, rfl⟩ := List.mem_iff_getElem.1 hz
    obtain ⟨n, e, hn⟩ := u64_nat (hw i (by omega)).2
    rw [e, Int.toNat_natCast]; exact hn
  · have e : css = (y.map Int.toNat).map fun x => [ru x] := by
      apply List.ext_getElem (by simp; omega)
      intro i hi hj
      have hi32 : i < 32 := by omega
      rw [(hw i hi32).1, List.getElem_map, List.getElem_map]
      obtain ⟨n, e, _⟩ := u64_nat (hw i hi32).2
      unfold ru
      rw [e, Int.toNat_natCast]
    rw [e]
    generalize y.map Int.toNat = l
    induction l with
    | nil => rfl
    | cons a r ih => simp only [List.map_cons, List.flatten_cons, ih]; rfl
end Go.Proofs.YthfekjnekaecaaaDoor
