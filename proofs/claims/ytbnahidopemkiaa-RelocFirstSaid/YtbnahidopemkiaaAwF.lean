/- Chapter 17: the statements' examples. Chapter 17: the files of the statement on the first of two libraries, plainly. A region that draws its order, in which several operations that turn memory and lean on none of one another may come in any order: each is shown once. What the closure's order is, plainly: each name once, each needed by one ahead, all needed there. Chapter 15: the first of several files of one name, by the plain models. No condition. -/
import Derived.Test.YtbnahidopemkiaaRe1
import Derived.Test.YtbnahidopemkiaaReX
import Derived.BigQuiet
import Derived.Test.YtbnahidopemkiaaSigT
import Derived.Test.YtbnahidopemkiaaLyM
import Derived.Test.YtbnahidopemkiaaLyA
set_option linter.unusedVariables false
set_option linter.unusedSimpArgs false
namespace Go.Proofs.Ytbnahidopemkiaa
open Go.RowKit Go.Dm Go.Dm.Oc Go.Dm.Ld
section
variable {A B : Nat → Prop} {w : World} {v : Value}
theorem made_bts {W W' : World} {n : Nat} (h : Blk W' W.heap.size (madeCells (Value.cells (.int .u8 0)) (n * 1)) 5) (hn : n ≤ 1000) : Bts (fun _ => True) W' (.slice (some ⟨W.heap.size, 0, none⟩) n n) (List.replicate n 0) := by
  have := h
  rw [madeCells_u8] at this
  have hb := Bts.of_blk this (by rw [List.length_replicate]; unfold maxLen; omega)
  rw [List.length_replicate] at hb
  exact Sl.mono hb fun _ _ _ => trivial
theorem u8_inf : (Try.prog.info? 5).map (fun i => (i.zero, i.size, i.bytes)) = some (some (.int .u8 0), 1, 1) := by kernel_rfl
/-- a file that the document builds -/
theorem built_any {W : World} {s : Sp} {vn vc vd vt vf vx : Value} (hs : SpR (fun _ => True) W s vn vc vd vt vf vx) (hok : SpOk s) :
    Calls Try.prog 13 #[.agg (specC s vn vc vd vt vf vx)] W fun e w' => ∃ (a : Option Addr) (n c k : Nat), e = .returned (.tuple #[.slice a n c, .int .i64 (k : Int)]) ∧ Bts (fun _ => True) w' (.slice a n c) (buildM s).2 ∧ Keep No W w' := by
  refine (r09build_any s hs hok).mono ?_
  rintro e w' ⟨v', rfl, h, k⟩
  obtain ⟨a, n, c, rfl⟩ := FlO.sh h
  exact ⟨a, n, c, _, rfl, Sl.mono (FlO.bts h) fun _ _ _ => trivial, k⟩
theorem sp17a_ok : SpOk sp17a := ⟨Nat.zero_le _, by decide, by unfold DfOk; decide, by unfold FxOk; decide, by decide, by decide, by decide, Nat.zero_le _, by decide, Nat.zero_le _, by decide, by decide, by decide⟩
theorem sp17x_ok : SpOk sp17x := ⟨Nat.zero_le _, by decide, by unfold DfOk; decide, by unfold FxOk; decide, by decide, by decide, by decide, Nat.zero_le _, by decide, Nat.zero_le _, by decide, by decide, by decide⟩
theorem fl_rows {α : Type} {g n size : Nat} {cs : Array Value} {t : TypeId} {enc : α → List Value} {l : List α} (h : Blk w g cs t) (hs : cs.size = n * size) (hn : n ≤ maxLen) (he : cs.toList = l.flatMap enc) (hl : l.length = n) : Fl (fun _ => True) w size enc (.slice (some ⟨g, 0, none⟩) n n) l := by
  have : FlO w g t size enc (.slice (some ⟨g, 0, none⟩) n n) l := by
    have h2 := own_blk h (Nat.le_refl _) hs hn
    unfold FlO
    rw [hl, ← he]
    exact h2
  exact this.fl.mono fun _ _ _ => trivial
set_option maxRecDepth 100000 in
set_option maxHeartbeats 1000000 in
theorem awake17_any : Calls Try.prog 23 #[] w fun e w' => e = .returned (.bool true) ∧ Keep No w w' := by
  go_enter Try.func23, Try.ntmps23
  go_wp2_with (at_make; refine wl_make rfl _ _ _ rfl _ _ rfl rfl ?_)
  have hkW1 : Keep No w (w.alloc (.cells #[.string ⟨#[120]⟩, .string ⟨#[121]⟩] 9)) := (Keep.refl _ _).alloc _
  have hBW1 : Blk (w.alloc (.cells #[.string ⟨#[120]⟩, .string ⟨#[121]⟩] 9)) w.heap.size #[.string ⟨#[120]⟩, .string ⟨#[121]⟩] 9 := Blk.new _ _ _
  have hzW1 : (w.alloc (.cells #[.string ⟨#[120]⟩, .string ⟨#[121]⟩] 9)).heap.size = w.heap.size + 1 := World.size_alloc _ _
  generalize w.alloc (.cells #[.string ⟨#[120]⟩, .string ⟨#[121]⟩] 9) = W1 at *
  refine rg_make (w := W1) (n := 16) 5 (.int .u8 0) 1 1 Try.underlying26 u8_inf (by omega) (by unfold maxLen; omega) ?_
  intro W2 hmk K2
  have hD := made_bts hmk (by decide)
  go_wp2_with (at_make; refine wl_make rfl _ _ _ rfl _ _ rfl rfl ?_)
  have hkW3 : Keep No W2 (W2.alloc (.cells #[.string ⟨#[102]⟩, .int .i64 0, .int .u64 0, .bool false] 84)) := (Keep.refl _ _).alloc _
  have hBW3 : Blk (W2.alloc (.cells #[.string ⟨#[102]⟩, .int .i64 0, .int .u64 0, .bool false] 84)) W2.heap.size #[.string ⟨#[102]⟩, .int .i64 0, .int .u64 0, .bool false] 84 := Blk.new _ _ _
  have hzW3 : (W2.alloc (.cells #[.string ⟨#[102]⟩, .int .i64 0, .int .u64 0, .bool false] 84)).heap.size = W2.heap.size + 1 := World.size_alloc _ _
  generalize W2.alloc (.cells #[.string ⟨#[102]⟩, .int .i64 0, .int .u64 0, .bool false] 84) = W3 at *
  have hkW4 : Keep No W3 (W3.alloc (.cells #[.int .i64 2, .int .u64 0, .int .u32 1, .int .i64 0, .int .i64 5, .int .i64 2, .int .u64 8, .int .u32 8, .int .i64 (-1), .int .i64 9] 87)) := (Keep.refl _ _).alloc _
  have hBW4 : Blk (W3.alloc (.cells #[.int .i64 2, .int .u64 0, .int .u32 1, .int .i64 0, .int .i64 5, .int .i64 2, .int .u64 8, .int .u32 8, .int .i64 (-1), .int .i64 9] 87)) W3.heap.size #[.int .i64 2, .int .u64 0, .int .u32 1, .int .i64 0, .int .i64 5, .int .i64 2, .int .u64 8, .int .u32 8, .int .i64 (-1), .int .i64 9] 87 := Blk.new _ _ _
  have hzW4 : (W3.alloc (.cells #[.int .i64 2, .int .u64 0, .int .u32 1, .int .i64 0, .int .i64 5, .int .i64 2, .int .u64 8, .int .u32 8, .int .i64 (-1), .int .i64 9] 87)).heap.size = W3.heap.size + 1 := World.size_alloc _ _
  generalize W3.alloc (.cells #[.int .i64 2, .int .u64 0, .int .u32 1, .int .i64 0, .int .i64 5, .int .i64 2, .int .u64 8, .int .u32 8, .int .i64 (-1), .int .i64 9] 87) = W4 at *
  have k14 := K2.trans' (hkW3.trans' hkW4)
  have hs : SpR (fun _ => True) W4 sp17a (.slice (some ⟨w.heap.size, 0, none⟩) 2 2) (.slice none 0 0) (.slice (some ⟨W1.heap.size, 0, none⟩) 16 16) (.slice none 0 0) (.slice (some ⟨W2.heap.size, 0, none⟩) 1 1) (.slice (some ⟨W3.heap.size, 0, none⟩) 2 2) :=
    ⟨fl_rows (hBW1.keep k14 fun h => h) rfl (by decide) rfl rfl, Sl.nil _ _ _, Sl.keep hD (hkW3.trans' hkW4) fun _ _ _ h => h, Sl.nil _ _ _, fl_rows (hBW3.keep hkW4 fun h => h) rfl (by decide) rfl rfl, fl_rows hBW4 rfl (by decide) (by kernel_rfl) rfl⟩
  have hcall := built_any hs sp17a_ok
  rw [hzW1, hzW3] at hcall
  have hkA := hkW1.trans' k14
  obtain ⟨xa, hxa⟩ : ∃ x, x = (buildM sp17a).2 := ⟨_, rfl⟩
  rw [← hxa] at hcall
  have HXA := Lib.hid hxa
  refine hcall.mono ?_
  clear hcall hs hD hmk hBW1 hkW1 hzW1 K2 hkW3 hBW3 hzW3 hkW4 hBW4 hzW4 k14 hxa
  rintro e w5 ⟨a5, n5, c5, e5, rfl, hB5, k5⟩
  replace hkA := hkA.trans' k5
  clear k5
  go_wp2_with (at_make; refine wl_make rfl _ _ _ rfl _ _ rfl rfl ?_)
  refine rg_make (w := w5) (n := 16) 5 (.int .u8 0) 1 1 Try.underlying26 u8_inf (by omega) (by unfold maxLen; omega) ?_
  intro W6 hmk K6
  have hD := made_bts hmk (by decide)
  go_wp2_with (at_make; refine wl_make rfl _ _ _ rfl _ _ rfl rfl ?_)
  have hkW7 : Keep No W6 (W6.alloc (.cells #[.string ⟨#[102]⟩, .int .i64 2, .int .u64 8, .bool false] 84)) := (Keep.refl _ _).alloc _
  have hBW7 : Blk (W6.alloc (.cells #[.string ⟨#[102]⟩, .int .i64 2, .int .u64 8, .bool false] 84)) W6.heap.size #[.string ⟨#[102]⟩, .int .i64 2, .int .u64 8, .bool false] 84 := Blk.new _ _ _
  have hzW7 : (W6.alloc (.cells #[.string ⟨#[102]⟩, .int .i64 2, .int .u64 8, .bool false] 84)).heap.size = W6.heap.size + 1 := World.size_alloc _ _
  generalize W6.alloc (.cells #[.string ⟨#[102]⟩, .int .i64 2, .int .u64 8, .bool false] 84) = W7 at *
  have hs : SpR (fun _ => True) W7 sp17x (.slice none 0 0) (.slice none 0 0) (.slice (some ⟨w5.heap.size, 0, none⟩) 16 16) (.slice none 0 0) (.slice (some ⟨W6.heap.size, 0, none⟩) 1 1) (.slice none 0 0) :=
    ⟨Fl.nil, Sl.nil _ _ _, Sl.keep hD hkW7 fun _ _ _ h => h, Sl.nil _ _ _, fl_rows hBW7 rfl (by decide) rfl rfl, Fl.nil⟩
  have hcall := built_any hs sp17x_ok
  obtain ⟨xb, hxb⟩ : ∃ x, x = (buildM sp17x).2 := ⟨_, rfl⟩
  rw [← hxb] at hcall
  have HXB := Lib.hid hxb
  have k57 := K6.trans' hkW7
  refine hcall.mono ?_
  clear hcall hs hD hmk K6 hkW7 hBW7 hzW7 hxb
  rintro e w8 ⟨a8, n8, c8, e8, rfl, hB8, k8⟩
  have k58 := k57.trans' k8
  replace hB5 := Sl.keep hB5 k58 fun _ _ _ h => h
  replace hkA := hkA.trans' k58
  clear k8 k57 k58
  go_wp2_with fail
  have hkW9 : Keep No w8 (w8.alloc (.cells #[.string ⟨#[97]⟩, .slice a5 n5 c5, .string ⟨#[120]⟩, .slice a8 n8 c8, .string ⟨#[121]⟩, .slice a8 n8 c8] 29)) := (Keep.refl _ _).alloc _
  have hBW9 : Blk (w8.alloc (.cells #[.string ⟨#[97]⟩, .slice a5 n5 c5, .string ⟨#[120]⟩, .slice a8 n8 c8, .string ⟨#[121]⟩, .slice a8 n8 c8] 29)) w8.heap.size #[.string ⟨#[97]⟩, .slice a5 n5 c5, .string ⟨#[120]⟩, .slice a8 n8 c8, .string ⟨#[121]⟩, .slice a8 n8 c8] 29 := Blk.new _ _ _
  have hzW9 : (w8.alloc (.cells #[.string ⟨#[97]⟩, .slice a5 n5 c5, .string ⟨#[120]⟩, .slice a8 n8 c8, .string ⟨#[121]⟩, .slice a8 n8 c8] 29)).heap.size = w8.heap.size + 1 := World.size_alloc _ _
  generalize w8.alloc (.cells #[.string ⟨#[97]⟩, .slice a5 n5 c5, .string ⟨#[120]⟩, .slice a8 n8 c8, .string ⟨#[121]⟩, .slice a8 n8 c8] 29) = W9 at *
  have hf : FlO W9 w8.heap.size 29 2 encP (.slice (some ⟨w8.heap.size, 0, none⟩) 3 3) [(.string ⟨#[97]⟩, .slice a5 n5 c5), (.string ⟨#[120]⟩, .slice a8 n8 c8), (.string ⟨#[121]⟩, .slice a8 n8 c8)] :=
    own_blk hBW9 (Nat.le_refl _) (n := 3) (size := 2) rfl (by unfold maxLen; omega)
  have hor := clorder_any (w := W9) [97] (by decide) (fir_own (fs := [([97], xa), ([120], xb), ([121], xb)]) hf rfl
      (fir_one (fok (n := [97]) (Sl.keep hB5 hkW9 fun _ _ _ h => h)) (fir_one (fok (n := [120]) (Sl.keep hB8 hkW9 fun _ _ _ h => h)) (fir_one (fok (n := [121]) (Sl.keep hB8 hkW9 fun _ _ _ h => h)) fir_no))))
    (fun f hf => by
      simp only [List.mem_cons, List.not_mem_nil, or_false] at hf
      rcases hf with rfl | rfl | rfl
      · rw [HXA.out]; exact Nat.le_trans (buildM_le _) (by decide)
      · rw [HXB.out]; exact Nat.le_trans (buildM_le _) (by decide)
      · rw [HXB.out]; exact Nat.le_trans (buildM_le _) (by decide))
  have e1 : orderM [97] [([97], xa), ([120], xb), ([121], xb)] = aw17 := by rw [HXA.out, HXB.out]; rfl
  rw [e1] at hor
  have hsg := orderM_segs [97] fs17
  have him := orderM_imok [97] fs17
  have hle := orderM_le [97] fs17
  rw [show orderM [97] fs17 = aw17 from rfl] at hsg him hle
  have h1 := aw17_o
  have h2 := aw17_m
  have h3 := aw17_g
  have h4 := aw17_t
  have h5 := aw17_w
  unfold aw17w aw17t at h5
  unfold aw17t at h4
  unfold aw17m at h2 h5
  replace hkA := hkA.trans' hkW9
  clear e1 hf HXA HXB hkW9 hBW9 hzW9 hB5 hB8
  generalize aw17 = o at *
  obtain ⟨oe, us⟩ := o
  dsimp only at h1 h2 h3 h4 h5 hsg him hle hor
  subst h1
  have HSG := Lib.hid hsg
  have HIM := Lib.hid him
  have H2 := Lib.hid h2
  have H3 := Lib.hid h3
  have H4 := Lib.hid h4
  have H5 := Lib.hid h5
  clear hsg him h2 h3 h4 h5
  refine hor.mono ?_
  clear hor
  rintro e w10 ⟨vo, ps, rfl, hvo, hus, k10⟩
  replace hkA := hkA.trans' k10
  obtain ⟨ao, no, co, rfl⟩ : ∃ a n c, vo = .slice a n c := by
    obtain ⟨a, c, e, _⟩ := hvo.shape
    exact ⟨_, _, _, e⟩
  clear k10
  have hba := lbases_any (w := w10) hvo hus (fun u hu => (HSG.out u hu).span) (by omega)
  have HVO := Lib.hid hvo
  have HUS := Lib.hid hus
  clear hvo hus
  have hblt := basesM_lt us
  obtain ⟨bs, hbs⟩ : ∃ b, b = basesM us := ⟨_, rfl⟩
  rw [← hbs] at hba H2 H5 hblt
  have HBL := Lib.hid hblt
  clear hbs hblt
  go_wp2_with fail
  refine hba.mono ?_
  clear hba
  rintro e w11 ⟨vb, rfl, hvb, k11⟩
  replace hkA := hkA.trans' k11
  have hpl := lplace_any (w := w11) (HVO.out.no k11) (HUS.out.keep k11 fun _ _ _ h => h) HSG.out (by omega) hvb.fl HBL.out
  have HMB := Lib.hid (layL_bo (bs := bs) HSG.out (by omega))
  obtain ⟨mm, hmm⟩ : ∃ m, m = layL us bs := ⟨_, rfl⟩
  rw [← hmm] at hpl H2 H5 HMB
  clear hmm
  obtain ⟨av, nv, cv, rfl⟩ := FlO.sh hvb
  clear hvb
  go_wp2_with fail
  refine hpl.mono ?_
  clear hpl
  rintro e w12 ⟨vm, rfl, hvm, _, k12⟩
  replace hkA := hkA.trans' k12
  have k1012 := k11.trans' k12
  obtain ⟨me, ml⟩ := mm
  obtain ⟨hm1, hm2⟩ := H2.out
  dsimp only at hm1 hm2 hvm HMB H5
  subst hm1
  clear k11 k12 H2
  have HVM := Lib.hid hvm.fl
  obtain ⟨am, nm, cm, rfl⟩ := FlO.sh hvm
  have hres := fun W n (k : Keep No w12 W) => reresolve_any (w := W) n (HVO.out.no (k1012.trans' k)) (HUS.out.keep (k1012.trans' k) fun _ _ _ h => h) (fun u hu => (HIM.out u hu).1)
  have hwo := fun W (k : Keep No w12 W) => rewords_any (w := W) (HVO.out.no (k1012.trans' k)) (HUS.out.keep (k1012.trans' k) fun _ _ _ h => h) HIM.out (by omega) (HVM.out.no k) HMB.out
  have HRS := Lib.hid hres
  have HWO := Lib.hid hwo
  clear hres hwo hvm
  have hr1 := HRS.out w12 [102] (Keep.refl No _)
  rw [encRs_eq] at hr1
  obtain ⟨rt, hrt⟩ : ∃ t, t = resM us [102] := ⟨_, rfl⟩
  rw [← hrt] at hr1 H4 H5
  clear hrt
  go_wp2_with (with_reducible refine wl_stAgg rfl _ _ _ rfl _ _ rfl rfl ?_)
  refine hr1.mono ?_
  clear hr1
  rintro e w13 ⟨rfl, k13⟩
  replace hkA := hkA.trans' k13
  go_wp2_with (with_reducible refine wl_stAgg rfl _ _ _ rfl _ _ rfl rfl ?_)
  have hkw14 : Keep No w13 (w13.alloc (.cells #[.int .i64 0, .int .u32 0, .int .u8 0, .int .u8 0, .int .u16 0, .int .u64 0, .int .u64 0] 123)) := (Keep.refl _ _).alloc _
  have hBw14 : Blk (w13.alloc (.cells #[.int .i64 0, .int .u32 0, .int .u8 0, .int .u8 0, .int .u16 0, .int .u64 0, .int .u64 0] 123)) w13.heap.size #[.int .i64 0, .int .u32 0, .int .u8 0, .int .u8 0, .int .u16 0, .int .u64 0, .int .u64 0] 123 := Blk.new _ _ _
  have hzw14 : (w13.alloc (.cells #[.int .i64 0, .int .u32 0, .int .u8 0, .int .u8 0, .int .u16 0, .int .u64 0, .int .u64 0] 123)).heap.size = w13.heap.size + 1 := World.size_alloc _ _
  generalize w13.alloc (.cells #[.int .i64 0, .int .u32 0, .int .u8 0, .int .u8 0, .int .u16 0, .int .u64 0, .int .u64 0] 123) = w14 at *
  refine rg_stAgg hBw14 (by kernel_rfl) (by rfl) (encTg_one _) ?_
  intro w15 B15 k15 z15
  have k1315 : Keep No w13 w15 := hkw14.trans k15 fun j hj e => by have e2 : j = w13.heap.size := e; omega
  have k1215 := k13.trans' k1315
  replace hkA := hkA.trans' k1315
  have hw1 := HWO.out w15 k1215
  clear HWO hBw14 hkw14 hzw14 k15 z15 k1315 k13
  obtain ⟨wr, hwr⟩ : ∃ r, r = wordsM us ml := ⟨_, rfl⟩
  rw [← hwr] at hw1 H5
  clear hwr
  obtain ⟨we, wl⟩ := wr
  obtain ⟨h51, h52, h53, h54, h55, h56, h57⟩ := H5.out
  obtain ⟨h41, h42⟩ := H4.out
  obtain ⟨tt, rfl⟩ : ∃ tt, rt = some tt := Option.isSome_iff_exists.1 h41
  dsimp only [rT, Option.getD_some] at h51 h52 h53 h54 h55 h57 h42 B15
  dsimp only at hw1
  subst h51
  obtain ⟨y0, y1, hy⟩ : ∃ y0 y1, wl = [y0, y1] := by
    match wl, h52 with
    | [y0, y1], _ => exact ⟨y0, y1, rfl⟩
  obtain ⟨x0, x1, x2, hx⟩ : ∃ x0 x1 x2, ml = [x0, x1, x2] := by
    match ml, hm2 with
    | [x0, x1, x2], _ => exact ⟨x0, x1, x2, rfl⟩
  subst hy
  have gm1 := md_at HVM.out (i := 1) (m := x1) (by rw [hx]; rfl)
  rw [hx] at h55 h56
  injection h53 with q0 h53
  injection h53 with q1 _
  injection h54 with q2
  injection h55 with q3
  have q0 : y0.unit = 1 := q0
  have q1 : y1.unit = 0 := q1
  have q2 : y1.val = 4105 := q2
  have q3 : y0.val = x1.base + tt.sym.val + 5 := q3
  have h56 : x1.base < 1000000 := h56
  obtain ⟨gm, om, cm2, evm, hgm, hcm1, hcm2, hcm⟩ := gm1
  injection evm with ev1 ev2 ev3
  subst ev1 ev3
  have hnm3 : nm = 3 := ev2.trans hm2
  have cb := hcm 1 _ rfl
  clear hcm HMB HVM H4 H5 h52 HSG HBL hx h41 ev2
  subst hnm3
  go_wp2_with (with_reducible refine wl_stAgg rfl _ _ _ rfl _ _ rfl rfl ?_)
  refine hw1.mono ?_
  clear hw1
  rintro e w16 ⟨vw, rfl, hvw, k16⟩
  replace hkA := hkA.trans' k16
  replace B15 := B15.keep k16 fun h => h
  have k1216 := k1215.trans' k16
  obtain ⟨gw, ow, cw, rfl, _, hgw, hcw1, hcw2, hw0⟩ := hvw.fl.at encWd_len (i := 0) (Nat.succ_pos 1)
  obtain ⟨gw1, ow1, cw1, ev, _, _, _, _, hw1⟩ := hvw.fl.at encWd_len (i := 1) (Nat.lt_succ_self 1)
  injection ev with ev el e3
  injection ev with ev
  injection ev with e1 e2
  subst e1 e2 e3
  have d01 : w16.cell? ⟨gw, ow + 0 * 3 + 1, none⟩ = some (.int .u64 (y0.val : Int)) := hw0 1 _ rfl
  have d02 : w16.cell? ⟨gw, ow + 0 * 3 + 2, none⟩ = some (.int .i64 y0.unit) := hw0 2 _ rfl
  have d11 : w16.cell? ⟨gw, ow + 1 * 3 + 1, none⟩ = some (.int .u64 (y1.val : Int)) := hw1 1 _ rfl
  have d12 : w16.cell? ⟨gw, ow + 1 * 3 + 2, none⟩ = some (.int .i64 y1.unit) := hw1 2 _ rfl
  clear hw0 hw1 el hvw k16 k1215
  have hr2 := HRS.out w16 [103] k1216
  rw [H3.out] at hr2
  unfold encRs at hr2
  dsimp only at hr2
  clear HRS H3
  go_wp2_with (with_reducible refine wl_stAgg rfl _ _ _ rfl _ _ rfl rfl ?_)
  refine hr2.mono ?_
  clear hr2
  rintro e w17 ⟨rfl, k17⟩
  go_wp2_with (with_reducible refine wl_stAgg rfl _ _ _ rfl _ _ rfl rfl ?_)
  have hkw18 : Keep No w17 (w17.alloc (.cells #[.int .i64 0, .int .u32 0, .int .u8 0, .int .u8 0, .int .u16 0, .int .u64 0, .int .u64 0] 123)) := (Keep.refl _ _).alloc _
  have hBw18 : Blk (w17.alloc (.cells #[.int .i64 0, .int .u32 0, .int .u8 0, .int .u8 0, .int .u16 0, .int .u64 0, .int .u64 0] 123)) w17.heap.size #[.int .i64 0, .int .u32 0, .int .u8 0, .int .u8 0, .int .u16 0, .int .u64 0, .int .u64 0] 123 := Blk.new _ _ _
  have hzw18 : (w17.alloc (.cells #[.int .i64 0, .int .u32 0, .int .u8 0, .int .u8 0, .int .u16 0, .int .u64 0, .int .u64 0] 123)).heap.size = w17.heap.size + 1 := World.size_alloc _ _
  generalize w17.alloc (.cells #[.int .i64 0, .int .u32 0, .int .u8 0, .int .u8 0, .int .u16 0, .int .u64 0, .int .u64 0] 123) = w18 at *
  refine rg_stAgg hBw18 (by kernel_rfl) (by rfl) (encTg_one _) ?_
  intro w19 B19 k19 z19
  have k1719 : Keep No w17 w19 := hkw18.trans k19 fun j hj e => by have e2 : j = w17.heap.size := e; omega
  have k1619 := k17.trans' k1719
  have k1219 := k1216.trans' k1619
  replace hkA := hkA.trans' k1619
  replace B15 := B15.keep k1619 fun h => h
  replace cb := (k1219.cell (p := ⟨gm, om + 1 * 7 + 1, none⟩) hgm fun h => h).trans cb
  replace d01 := (k1619.cell (p := ⟨gw, ow + 0 * 3 + 1, none⟩) hgw fun h => h).trans d01
  replace d02 := (k1619.cell (p := ⟨gw, ow + 0 * 3 + 2, none⟩) hgw fun h => h).trans d02
  replace d11 := (k1619.cell (p := ⟨gw, ow + 1 * 3 + 1, none⟩) hgw fun h => h).trans d11
  replace d12 := (k1619.cell (p := ⟨gw, ow + 1 * 3 + 2, none⟩) hgw fun h => h).trans d12
  have t0 : w19.cell? ⟨w13.heap.size, 0, none⟩ = some (.int .i64 1) := by rw [← h42]; exact B15.cell 0
  have t5 : w19.cell? ⟨w13.heap.size, 5, none⟩ = some (.int .u64 (tt.sym.val : Int)) := B15.cell 5
  clear hBw18 hkw18 hzw18 k19 z19 k1719 k17 k1619 k1216 k1219 B19 B15 k1012 hgm hgw
  rw [show om + 1 * 7 + 1 = om + 8 from by omega] at cb
  rw [show ow + 0 * 3 + 1 = ow + 1 from by omega, q3] at d01
  rw [show ow + 0 * 3 + 2 = ow + 2 from by omega, q0] at d02
  rw [show ow + 1 * 3 + 1 = ow + 4 from by omega, q2] at d11
  rw [show ow + 1 * 3 + 2 = ow + 5 from by omega, q1] at d12
  generalize x1.base = xb at *
  generalize tt.sym.val = tv at *
  obtain ⟨s1, hs1⟩ : ∃ s, s = xb + tv := ⟨_, rfl⟩
  obtain ⟨s5, hs5⟩ : ∃ s, s = s1 + 5 := ⟨_, rfl⟩
  rw [← hs1, ← hs5] at d01
  have hw1 : IntKind.u64.wrap ((xb : Int) + (tv : Int)) = (s1 : Int) := by rw [IntKind.wrap_u64]; omega
  have hw5 : IntKind.u64.wrap ((s1 : Int) + 5) = (s5 : Int) := by rw [IntKind.wrap_u64]; omega
  have hcm3 : cm ≤ 9223372036854775807 := by unfold maxLen at hcm2; omega
  have hcw3 : cw ≤ 9223372036854775807 := by unfold maxLen at hcw2; omega
  rw [hm2] at hcm1
  have hcw1 : 2 ≤ cw := hcw1
  clear hs1 hs5 h56 h57 h42 q0 q1 q2 q3 hcm2 hcw2 hm2
  go_wp2_with fail
  go_quiet (fail)
  go_wp2_with fail
  go_ret
  exact ⟨rfl, hkA.drewN _⟩
end
end Go.Proofs.Ytbnahidopemkiaa
namespace Go.Dm.Ld
open Go Go.Dm.Oc Go.Proofs.Ytbnahidopemkiaa
def spP (wk : Bool) (add : Nat) : Sp := ⟨2, [], [[120], [121]], 0, [], List.replicate 16 0, 0, [], 0, [⟨[102], 0, 0, false⟩, ⟨[110, 111, 110, 101], 0, 0, wk⟩], [⟨2, 0, 1, 0, add⟩, ⟨2, 8, 1, 1, add⟩]⟩
def spL (a : Nat) (wk : Bool) : Sp := ⟨3, [], [], 0, [], List.replicate 256 0, 0, [], 0, [⟨[102], 2, a, wk⟩], []⟩
theorem unitS {nm : BS} {fs : Fs} {fb : Bool} {s : Sp} (hk : s.kind = 2 ∨ s.kind = 3) (hg : GoodS s) (hst : (strM (strsOf s)).1 = 0) (hl : (outS s).length ≤ 65536) (hf : findF fs nm = some (buildM s).2) (hfb : fb = decide (s.kind = 2)) : unitM nm fs fb = (0, imS s) := by
  have h1 : (buildM s).2 = outS s := by rw [buildM_out hg.may hst hl]
  have h2 := parse_build s hg hst hl
  unfold unitM
  rw [hf, h1]
  dsimp only
  rw [h2]
  dsimp only
  have hkd : (imS s).hd.kind = s.kind.toNat := rfl
  rw [if_neg (fun h => h rfl), hkd, if_pos]
  rw [hfb]
  rcases hk with h | h <;> rw [h] <;> rfl
theorem order3 {fs : Fs} {s0 s1 s2 : Sp} (u0 : unitM [112] fs true = (0, imS s0)) (u1 : unitM [120] fs false = (0, imS s1)) (u2 : unitM [121] fs false = (0, imS s2)) (d0 : s0.need = [[120], [121]]) (d1 : s1.need = []) (d2 : s2.need = []) :
    orderM [112] fs = (0, [([112], imS s0), ([120], imS s1), ([121], imS s2)]) := by
  have e0 : (imS s0).need = [[120], [121]] := d0
  have e1 : (imS s1).need = [] := d1
  have e2 : (imS s2).need = [] := d2
  generalize imS s0 = i0 at *
  generalize imS s1 = i1 at *
  generalize imS s2 = i2 at *
  have a0 : addN [[112]] i0.need = some [[112], [120], [121]] := by
    rw [e0]; rfl
  have a1 : addN [[112], [120], [121]] i1.need = some [[112], [120], [121]] := by rw [e1]; rfl
  have a2 : addN [[112], [120], [121]] i2.need = some [[112], [120], [121]] := by rw [e2]; rfl
  have t0 : orderGo fs 8 [[112]] [] = orderGo fs 7 [[112], [120], [121]] [([112], i0)] := by
    show (if (unitM [112] fs true).1 ≠ 0 then ((unitM [112] fs true).1, []) else match addN [[112]] (unitM [112] fs true).2.need with | none => (13, []) | some names' => orderGo fs 7 names' ([] ++ [([112], (unitM [112] fs true).2)])) = _
    rw [u0]
    dsimp only
    rw [a0]
    rfl
  have t1 : orderGo fs 7 [[112], [120], [121]] [([112], i0)] = orderGo fs 6 [[112], [120], [121]] [([112], i0), ([120], i1)] := by
    show (if (unitM [120] fs false).1 ≠ 0 then ((unitM [120] fs false).1, []) else match addN [[112], [120], [121]] (unitM [120] fs false).2.need with | none => (13, []) | some names' => orderGo fs 6 names' ([([112], i0)] ++ [([120], (unitM [120] fs false).2)])) = _
    rw [u1]
    dsimp only
    rw [a1]
    rfl
  have t2 : orderGo fs 6 [[112], [120], [121]] [([112], i0), ([120], i1)] = orderGo fs 5 [[112], [120], [121]] [([112], i0), ([120], i1), ([121], i2)] := by
    show (if (unitM [121] fs false).1 ≠ 0 then ((unitM [121] fs false).1, []) else match addN [[112], [120], [121]] (unitM [121] fs false).2.need with | none => (13, []) | some names' => orderGo fs 5 names' ([([112], i0), ([120], i1)] ++ [([121], (unitM [121] fs false).2)])) = _
    rw [u2]
    dsimp only
    rw [a2]
    rfl
  show orderGo fs 8 [[112]] [] = _
  rw [t0, t1, t2]
  have hc : cycB [([112], i0), ([120], i1), ([121], i2)] = false := by
    unfold cycB
    simp [stripN, strip, e0, e1, e2]
  show (if cycB [([112], i0), ([120], i1), ([121], i2)] then (30, []) else (0, [([112], i0), ([120], i1), ([121], i2)])) = _
  rw [hc]
  rfl
theorem strP (wk : Bool) (add : Nat) : (strM (strsOf (spP wk add))).1 = 0 := by kernel_rfl
theorem strL (a : Nat) (wk : Bool) : (strM (strsOf (spL a wk))).1 = 0 := by kernel_rfl
set_option maxRecDepth 100000 in
theorem lenP (wk : Bool) (add : Nat) : (outS (spP wk add)).length = 528 := by cases wk <;> kernel_rfl
set_option maxRecDepth 100000 in
theorem lenL (a : Nat) (wk : Bool) : (outS (spL a wk)).length = 768 := by cases wk <;> kernel_rfl
theorem goodP (wk : Bool) {add : Nat} (h : add < 18446744073709551616) : GoodS (spP wk add) := by
  refine ⟨by kernel_rfl, fun n hn => ?_, fun d hd => ?_, by show (_ : Nat) < 1024; exact of_decide_eq_true (by kernel_rfl), fun d hd => ?_, fun d hd => ?_, fun f hf => ?_, fun f hf => ?_⟩
  · simp only [spP, List.mem_cons, List.not_mem_nil, or_false] at hn
    rcases hn with rfl | rfl <;> decide
  · simp only [spP, List.mem_cons, List.not_mem_nil, or_false] at hd
    rcases hd with rfl | rfl <;> simp
  · simp only [spP, List.mem_cons, List.not_mem_nil, or_false] at hd
    rcases hd with rfl | rfl <;> simp
  · simp only [spP, List.mem_cons, List.not_mem_nil, or_false] at hd
    rcases hd with rfl | rfl <;> simp
  · simp only [spP, List.mem_cons, List.not_mem_nil, or_false] at hf
    rcases hf with rfl | rfl <;> exact ⟨rfl, h, rfl⟩
  · simp only [spP, List.mem_cons, List.not_mem_nil, or_false] at hf
    rcases hf with rfl | rfl <;> simp [spP]
theorem goodL {a : Nat} (wk : Bool) (h : a < 256) : GoodS (spL a wk) := by
  refine ⟨by kernel_rfl, fun n hn => ?_, fun d hd => ?_, by show (_ : Nat) < 1024; exact of_decide_eq_true (by kernel_rfl), fun d hd => ?_, fun d hd => ?_, fun f hf => ?_, fun f hf => ?_⟩
  · cases hn
  · simp only [spL, List.mem_cons, List.not_mem_nil, or_false] at hd
    subst hd
    simp
  · simp only [spL, List.mem_cons, List.not_mem_nil, or_false] at hd
    subst hd
    show a ≤ _
    omega
  · simp only [spL, List.mem_cons, List.not_mem_nil, or_false] at hd
    subst hd
    simp
  · cases hf
  · cases hf
def fs17f (w0 w1 w2 : Bool) (a b add : Nat) : Fs := [([112], (buildM (spP w2 add)).2), ([120], (buildM (spL a w0)).2), ([121], (buildM (spL b w1)).2)]
def us17 (w0 w1 w2 : Bool) (a b add : Nat) : List (BS × Im) := [([112], imS (spP w2 add)), ([120], imS (spL a w0)), ([121], imS (spL b w1))]
theorem find3 (x y z : BS) : findF [([112], x), ([120], y), ([121], z)] [112] = some x ∧ findF [([112], x), ([120], y), ([121], z)] [120] = some y ∧ findF [([112], x), ([120], y), ([121], z)] [121] = some z := ⟨rfl, rfl, rfl⟩
theorem order17 (w0 w1 w2 : Bool) {a b add : Nat} (ha : a < 256) (hb : b < 256) (hadd : add < 18446744073709551616) : orderM [112] (fs17f w0 w1 w2 a b add) = (0, us17 w0 w1 w2 a b add) := by
  have u0 := unitS (nm := [112]) (fs := fs17f w0 w1 w2 a b add) (fb := true) (s := spP w2 add) (.inl rfl) (goodP w2 hadd) (strP _ _) (by rw [lenP]; decide) (find3 _ _ _).1 rfl
  have u1 := unitS (nm := [120]) (fs := fs17f w0 w1 w2 a b add) (fb := false) (s := spL a w0) (.inr rfl) (goodL w0 ha) (strL _ _) (by rw [lenL]; decide) (find3 _ _ _).2.1 rfl
  have u2 := unitS (nm := [121]) (fs := fs17f w0 w1 w2 a b add) (fb := false) (s := spL b w1) (.inr rfl) (goodL w1 hb) (strL _ _) (by rw [lenL]; decide) (find3 _ _ _).2.2 rfl
  exact order3 u0 u1 u2 rfl rfl rfl
def ms17 : List Md := [⟨[112], 4096, 4096, 4864, false, 0, 0⟩, ⟨[120], 5120, 5120, 5888, false, 0, 0⟩, ⟨[121], 6144, 6144, 6912, false, 0, 0⟩]
set_option maxRecDepth 100000 in
theorem bases17 (w0 w1 w2 : Bool) (a b add : Nat) : basesM (us17 w0 w1 w2 a b add) = [4096, 5120, 6144] := by kernel_rfl
set_option maxRecDepth 100000 in
theorem place17 (w0 w1 w2 : Bool) (a b add : Nat) : layL (us17 w0 w1 w2 a b add) [4096, 5120, 6144] = (0, ms17) := by kernel_rfl
def wd1 (a add : Nat) : Wd := ⟨4608, ((((5120 + (a + 512) % 18446744073709551616) % 18446744073709551616 : Nat) : Int) + addI add) % 18446744073709551616 |>.toNat, 1⟩
def wd2 (add : Nat) : Wd := ⟨4616, (((0 : Nat) : Int) + addI add) % 18446744073709551616 |>.toNat, -1⟩
set_option maxRecDepth 100000 in
theorem words17t (w0 w1 : Bool) (a b add : Nat) : wordsM (us17 w0 w1 true a b add) ms17 = (0, [wd1 a add, wd2 add]) := by cases w0 <;> cases w1 <;> kernel_rfl
set_option maxRecDepth 100000 in
theorem words17f (w0 w1 : Bool) (a b add : Nat) : wordsM (us17 w0 w1 false a b add) ms17 = (32, []) := by cases w0 <;> cases w1 <;> kernel_rfl
end Go.Dm.Ld
namespace Go.Dm
open Go

/-- st: it yields the same in every world of S; ef: the only one that may come; pr: these may come, in any order -/
inductive Tp where
  | nil
  | st (i : Nat) (r : Tp)
  | ef (i : Nat) (r : Tp)
  | pr (l : List Nat) (r : Tp)
def Tp.len : Tp → Nat
  | .nil => 0 | .st _ r => r.len + 1 | .ef _ r => r.len + 1 | .pr l r => r.len + l.length
def kAll : Nat → Bool := fun _ => true

section
variable {P : Program} {ops : Array Oper} {Q : Exit → Act → World → Prop} {md : Region.Mode} {S : World → Prop}

/-- behind any order of these, k -/
def parB (md : Region.Mode) (ops : Array Oper) (k : Array Bool → Bool) : Nat → List Nat → Array Bool → Bool
  | 0, l, listed => l.isEmpty && k listed
  | f + 1, l, listed => (Region.ready md ops listed == l) && l.all fun i => parB md ops k f (l.erase i) (listed.setIfInBounds i true)
def tpB (md : Region.Mode) (ops : Array Oper) : Tp → Array Bool → Bool
  | .nil, listed => (Region.ready md ops listed).isEmpty
  | .st i r, listed => (Region.ready md ops listed).contains i && freeK md ops kAll listed i && tpB md ops r (listed.setIfInBounds i true)
  | .ef i r, listed => (Region.ready md ops listed == [i]) && tpB md ops r (listed.setIfInBounds i true)
  | .pr l r, listed => parB md ops (fun li => tpB md ops r li) l.length l listed
def wpPar (P : Program) (ops : Array Oper) (Q : Exit → Act → World → Prop) (S : World → Prop) (R : Act → World → Prop) : Nat → List Nat → Act → World → Prop
  | 0, _, a, w => R a w
  | f + 1, l, a, w => ∀ i ∈ l, wpOp P ops Q i (fun a' w' => S w' ∧ wpPar P ops Q S R f (l.erase i) a' w') a w
def wpTp (P : Program) (ops : Array Oper) (Q : Exit → Act → World → Prop) (S : World → Prop) : Tp → Act → World → Prop
  | .nil, a, w => Q .normal a w
  | .st i r, a, w => ∃ o v, ops[i]? = some o ∧ YieldsIf P ops S o v a ∧ wpTp P ops Q S r (a.put o.dst v) w
  | .ef i r, a, w => wpOp P ops Q i (fun a' w' => S w' ∧ wpTp P ops Q S r a' w') a w
  | .pr l r, a, w => wpPar P ops Q S (wpTp P ops Q S r) l.length l a w
theorem wpPar_sound {R : Act → World → Prop} {k : Array Bool → Bool} {n : Nat} (hR : ∀ (listed : Array Bool) (a : Act) (w : World), k listed = true → Closed md ops listed → S w → R a w → wpAnyK P md ops Q S kAll n listed a w) :
    ∀ (f : Nat) (l : List Nat) (listed : Array Bool) (a : Act) (w : World), l.length = f → parB md ops k f l listed = true → Closed md ops listed → S w → wpPar P ops Q S R f l a w → wpAnyK P md ops Q S kAll (n + f) listed a w
  | 0, l, listed, a, w, _, h, hcl, hS, hq => by
    simp only [parB, Bool.and_eq_true] at h
    exact hR listed a w h.2 hcl hS hq
  | f + 1, l, listed, a, w, hlen, h, hcl, hS, hq => by
    simp only [parB, Bool.and_eq_true, beq_iff_eq] at h
    obtain ⟨h1, h2⟩ := h
    refine ⟨fun h0 => ?_, fun i hi => ?_⟩
    · rw [h1] at h0
      rw [h0] at hlen
      cases hlen
    · have hil : i ∈ l := by rw [← h1]; exact hi
      have hle : (l.erase i).length = f := by rw [List.length_erase_of_mem hil, hlen]; rfl
      exact wpOp_mono (fun a' w' h' => ⟨fun _ => h'.1, wpPar_sound hR f (l.erase i) _ a' w' hle (List.all_eq_true.1 h2 i hil) (hcl.step hi) h'.1 h'.2⟩) (hq i hil)
theorem wpTp_sound (hs : Region.noSelect ops = true) (hQ : ∀ c a d v w, Q (.panic c) (a.put d v) w → Q (.panic c) a w) :
    ∀ (l : Tp) (listed : Array Bool) (a : Act) (w : World), tpB md ops l listed = true → Closed md ops listed → S w → wpTp P ops Q S l a w → wpAnyK P md ops Q S kAll l.len listed a w
  | .nil, listed, a, w, h, _, _, hq => by
    have : Region.ready md ops listed = [] := by simpa [tpB] using h
    exact ⟨this, hq⟩
  | .st i r, listed, a, w, h, hcl, hS, ⟨o, v, ho, hy, hq⟩ => by
    simp only [tpB, Bool.and_eq_true] at h
    obtain ⟨⟨h2, h3⟩, h4⟩ := h
    exact wpAnyK_first ho (Region.noSelect_spec hs) (fun c a w => hQ c a _ _ w) r.len listed a w (freeK_spec ho h3) hcl (by simpa using h2) hy hS
      (wpTp_sound hs hQ r _ _ w h4 (hcl.step (by simpa using h2)) hS hq)
  | .ef i r, listed, a, w, h, hcl, hS, hq => by
    simp only [tpB, Bool.and_eq_true, beq_iff_eq] at h
    refine ⟨fun h0 => (by rw [h.1] at h0; cases h0), fun j hj => ?_⟩
    rw [h.1] at hj
    obtain rfl : j = i := by simpa using hj
    exact wpOp_mono (fun a' w' h' => ⟨fun _ => h'.1, wpTp_sound hs hQ r _ a' w' h.2 (hcl.step (by rw [h.1]; simp)) h'.1 h'.2⟩) hq
  | .pr l r, listed, a, w, h, hcl, hS, hq =>
    wpPar_sound (n := r.len) (fun li a w hk hc hS hq => wpTp_sound hs hQ r li a w hk hc hS hq) l.length l listed a w rfl h hcl hS hq

theorem wp_region_tp {id : Nat} {a : Act} {w : World} (S : World → Prop) (l : Tp) {o : List Oper} (hm : P.follows .mixedOrders = true)
    (hB : (Region.noSelect o.toArray && tpB .any o.toArray l (Array.replicate o.toArray.size false) && (l.len == o.toArray.size)) = true)
    (hQ : ∀ c a d v w, Q (.panic c) (a.put d v) w → Q (.panic c) a w) (hS : S w.drew)
    (h : wpTp P o.toArray Q S l a w.drew) : (Code.region id o.toArray true).wp P Q a w := by
  simp only [Bool.and_eq_true, beq_iff_eq] at hB
  refine wp_region_any hm (wpAny_of_K (S := S) (kb := kAll) _ _ _ _ ?_)
  have h2 := wpTp_sound (md := .any) hB.1.1 hQ l _ a _ hB.1.2 (fun k ok _ hl => by rw [Array.getD_eq_getD_getElem?, Array.getElem?_replicate] at hl; split at hl <;> cases hl) hS h
  rw [hB.2] at h2
  exact h2

theorem tp_nil {a : Act} {w : World} (h : Q .normal a w) : wpTp P ops Q S .nil a w := h
theorem tp_still {i : Nat} {r : Tp} {a : Act} {w : World} {o : Oper} {v : Value} (ho : ops[i]? = some o) (hg : o.guard = none)
    (hy : ∀ w', S w' → (execOp a.eval o).run P w' = .ok (.value v) w') (h : wpTp P ops Q S r (a.put o.dst v) w) : wpTp P ops Q S (.st i r) a w :=
  ⟨o, v, ho, .inl ⟨by simp [Region.wanted, hg], hy⟩, h⟩
theorem tp_eff {i : Nat} {r : Tp} {a : Act} {w : World} {o : Oper} (ho : ops[i]? = some o) (hg : o.guard = none)
    (h : ∀ K : Act → World → Prop, (∀ a' w', (S w' ∧ wpTp P ops Q S r a' w') → K a' w') → o.wp P a w K Q) : wpTp P ops Q S (.ef i r) a w := wo_eff ho hg h

/-! the operations of a pr, each shown once -/
theorem put_comm (a : Act) {d d' : Nat} (h : d ≠ d') (v v' : Value) : (a.put (some d) v).put (some d') v' = (a.put (some d') v').put (some d) v := by
  unfold Act.put
  dsimp only
  rw [Array.setIfInBounds_comm _ _ h]
def puts (d : Nat → Nat) (vs : Nat → Value) (a : Act) (l : List Nat) : Act := l.foldl (fun a i => a.put (some (d i)) (vs i)) a
theorem puts_front {d : Nat → Nat} {vs : Nat → Value} {i : Nat} : ∀ (l : List Nat) (a : Act), i ∈ l → (∀ j ∈ l, j ≠ i → d j ≠ d i) → puts d vs a l = puts d vs (a.put (some (d i)) (vs i)) (l.erase i)
  | [], a, h, _ => by cases h
  | j :: l, a, h, hd => by
    by_cases e : j = i
    · subst e
      rw [List.erase_cons_head]
      rfl
    · have hil : i ∈ l := (List.mem_cons.1 h).resolve_left fun h => e h.symm
      rw [List.erase_cons_tail (by simpa using e)]
      show puts d vs (a.put (some (d j)) (vs j)) l = puts d vs ((a.put (some (d i)) (vs i)).put (some (d j)) (vs j)) (l.erase i)
      rw [puts_front l _ hil fun k hk => hd k (List.mem_cons_of_mem _ hk), put_comm a (hd j (List.mem_cons_self ..) e)]
theorem puts_congr {d : Nat → Nat} {vs us : Nat → Value} : ∀ (l : List Nat) (a : Act), (∀ i ∈ l, vs i = us i) → puts d vs a l = puts d us a l
  | [], a, _ => rfl
  | j :: l, a, h => by
    show puts d vs (a.put (some (d j)) (vs j)) l = puts d us (a.put (some (d j)) (us j)) l
    rw [h j (List.mem_cons_self ..), puts_congr l _ fun i hi => h i (List.mem_cons_of_mem _ hi)]
/-- alike but for the slots that these write -/
def SameBut (d : Nat → Nat) (l : List Nat) (a a' : Act) : Prop := ∀ x : Operand, (∀ i ∈ l, x ≠ .tmp (d i)) → a'.eval x = a.eval x
theorem eval_put_ne {a : Act} {x : Operand} {d : Nat} {v : Value} (h : x ≠ .tmp d) : (a.put (some d) v).eval x = a.eval x := by
  unfold Act.put Act.eval
  cases x with
  | tmp t =>
    have e : d ≠ t := fun e => h (by rw [e])
    dsimp only
    rw [Array.getD_eq_getD_getElem?, Array.getD_eq_getD_getElem?, Array.getElem?_setIfInBounds_ne e]
  | _ => rfl
theorem par_of {R : Act → World → Prop} (V : Nat → Value → World → Prop) (d : Nat → Nat) (hV : ∀ j u w w', Keep No w w' → V j u w → V j u w') :
    ∀ (f : Nat) (l : List Nat) (a : Act) (w : World), l.length = f → l.Nodup → (∀ i ∈ l, ∀ j ∈ l, j ≠ i → d j ≠ d i) →
      (∀ i ∈ l, ∀ (a' : Act) (w' : World), SameBut d l a a' → Keep No w w' → wpOp P ops Q i (fun a'' w'' => S w'' ∧ ∃ v, a'' = a'.put (some (d i)) v ∧ V i v w'' ∧ Keep No w' w'') a' w') →
      (∀ (w' : World) (vs : Nat → Value), Keep No w w' → (∀ i ∈ l, V i (vs i) w') → R (puts d vs a l) w') → wpPar P ops Q S R f l a w
  | 0, l, a, w, hl, _, _, _, hR => by
    have : l = [] := List.length_eq_zero_iff.1 hl
    subst this
    exact hR w (fun _ => undef) (Keep.refl _ _) fun i hi => by cases hi
  | f + 1, l, a, w, hl, hnd, hd, hop, hR => fun i hi => by
    refine wpOp_mono (fun a'' w'' h => ⟨h.1, ?_⟩) (hop i hi a w (fun x _ => rfl) (Keep.refl _ _))
    obtain ⟨_, v, rfl, hv, hk⟩ := h
    refine par_of V d hV f (l.erase i) _ w'' (by rw [List.length_erase_of_mem hi, hl]; rfl) (hnd.erase i) (fun j hj k hk => hd j (List.mem_of_mem_erase hj) k (List.mem_of_mem_erase hk)) (fun j hj a1 w1 hs hk1 => ?_) fun w1 vs hk1 hvs => ?_
    · refine hop j (List.mem_of_mem_erase hj) a1 w1 (fun x hx => ?_) (hk.trans' hk1)
      rw [hs x fun k hk => hx k (List.mem_of_mem_erase hk), eval_put_ne (hx i hi)]
    · have h := hR w1 (fun j => if j = i then v else vs j) (hk.trans' hk1) fun j hj => by
        by_cases e : j = i
        · subst e
          rw [if_pos rfl]
          exact hV _ _ _ _ hk1 hv
        · rw [if_neg e]
          exact hvs j ((List.mem_erase_of_ne e).2 hj)
      rw [puts_front l a hi (hd i hi)] at h
      rw [if_pos rfl] at h
      rw [puts_congr (us := vs) (l.erase i) _ fun j hj => if_neg fun e => (hnd.not_mem_erase (e ▸ hj))] at h
      exact h
/-- a literal's row -/
theorem wo_bs {o : Oper} {a : Act} {w : World} {K : Act → World → Prop} (t : TypeId) (n : Nat) (parts : Array (Nat × Operand)) (ho : o.op = Op.buildSlice t n parts) (vals : Array (Nat × Value)) (hv : (parts.map fun p => (p.1, a.eval p.2)) = vals)
    (v : Value) (w' : World) (hr : (Instr.buildSlice t n vals).run P w = .ok v w') (h : K (a.put o.dst v) w') : o.wp P a w K Q := by
  unfold Oper.wp execOp
  simp only [ho]
  rw [show (parts.map fun (x : Nat × Operand) => (x.1, a.eval x.2)) = vals from hv]
  simp only [hr, Sem.run_bind, Sem.run_pure, Result.andThen_ok]
  exact h
end
end Go.Dm
namespace Go.Dm.Ld
open Go
theorem addN_ok : ∀ (need names names' : List BS), addN names need = some names' →
    ∃ t, names' = names ++ t ∧ (∀ x ∈ t, x ∈ need) ∧ (∀ x ∈ need, x ∈ names') ∧ (names.Nodup → names'.Nodup) ∧ (names.length ≤ 8 → names'.length ≤ 8)
  | [], names, names', h => by
    have h : some names = some names' := h
    injection h with h
    subst h
    exact ⟨[], by rw [List.append_nil], by simp, by simp, id, id⟩
  | n :: r, names, names', h => by
    have h : (if n ∈ names then addN names r else if names.length = 8 then none else addN (names ++ [n]) r) = some names' := h
    split at h
    · rename_i hn
      obtain ⟨t, h1, h2, h3, h4, h5⟩ := addN_ok r names names' h
      refine ⟨t, h1, fun x hx => List.mem_cons_of_mem _ (h2 x hx), fun x hx => ?_, h4, h5⟩
      rcases List.mem_cons.1 hx with rfl | hx
      · rw [h1]; exact List.mem_append_left _ hn
      · exact h3 x hx
    · rename_i hn
      split at h
      · cases h
      · rename_i h8
        obtain ⟨t, h1, h2, h3, h4, h5⟩ := addN_ok r (names ++ [n]) names' h
        refine ⟨n :: t, by rw [h1, List.append_assoc]; rfl, fun x hx => ?_, fun x hx => ?_, fun hnd => ?_, fun hl => ?_⟩
        · rcases List.mem_cons.1 hx with rfl | hx
          · exact List.mem_cons_self ..
          · exact List.mem_cons_of_mem _ (h2 x hx)
        · rcases List.mem_cons.1 hx with rfl | hx
          · rw [h1]; exact List.mem_append_left _ (List.mem_append_right _ (List.mem_singleton.2 rfl))
          · exact h3 x hx
        · refine h4 ?_
          rw [List.nodup_append]
          refine ⟨hnd, by simp, fun a ha b hb e => ?_⟩
          rw [List.mem_singleton.1 hb] at e
          exact hn (e ▸ ha)
        · refine h5 ?_
          rw [List.length_append]
          simp only [List.length_cons, List.length_nil]
          omega
structure WhI (names : List BS) (out : List (BS × Im)) : Prop where
  nm : out.map (·.1) = names.take out.length
  le : out.length ≤ names.length
  h8 : names.length ≤ 8
  nd : names.Nodup
  by_ : ∀ i (h : i < names.length), 0 < i → ∃ k u, k < i ∧ out[k]? = some u ∧ names[i] ∈ u.2.need
  all : ∀ u ∈ out, ∀ n ∈ u.2.need, n ∈ names
theorem WhI.step {names names' : List BS} {out : List (BS × Im)} (h : WhI names out) {n : BS} {u : Im} (hn : names[out.length]? = some n) (ha : addN names u.need = some names') : WhI names' (out ++ [(n, u)]) := by
  obtain ⟨hlt, hn⟩ := List.getElem?_eq_some_iff.1 hn
  obtain ⟨t, h1, h2, h3, h4, h5⟩ := addN_ok _ _ _ ha
  subst h1
  refine ⟨?_, ?_, h5 h.h8, h4 h.nd, fun i hi h0 => ?_, fun v hv x hx => ?_⟩
  · rw [List.map_append, h.nm, List.length_append]
    show names.take out.length ++ [n] = (names ++ t).take (out.length + 1)
    rw [List.take_append_of_le_length hlt, List.take_succ_eq_append_getElem hlt, hn]
  · rw [List.length_append, List.length_append]
    simp only [List.length_cons, List.length_nil]
    omega
  · rcases Nat.lt_or_ge i names.length with hl | hl
    · obtain ⟨k, v, hk, hv, hm⟩ := h.by_ i hl h0
      refine ⟨k, v, hk, ?_, ?_⟩
      · rw [List.getElem?_append_left (List.getElem?_eq_some_iff.1 hv).1]; exact hv
      · rw [List.getElem_append_left hl]; exact hm
    · refine ⟨out.length, (n, u), by omega, ?_, ?_⟩
      · rw [List.getElem?_append_right (Nat.le_refl _), Nat.sub_self]; rfl
      · rw [List.getElem_append_right hl]
        exact h2 _ (List.getElem_mem _)
  · rcases List.mem_append.1 hv with hv | hv
    · exact List.mem_append_left _ (h.all v hv x hx)
    · rw [List.mem_singleton.1 hv] at hx
      exact h3 x hx
structure WhO (l : List (BS × Im)) : Prop where
  h8 : l.length ≤ 8
  nd : (l.map (·.1)).Nodup
  by_ : ∀ i u, l[i]? = some u → 0 < i → ∃ k v, k < i ∧ l[k]? = some v ∧ u.1 ∈ v.2.need
  all : ∀ u ∈ l, ∀ n ∈ u.2.need, ∃ v ∈ l, v.1 = n
theorem WhI.done {names : List BS} {out : List (BS × Im)} (h : WhI names out) (hl : names.length ≤ out.length) : WhO out := by
  have hl2 : out.length = names.length := Nat.le_antisymm h.le hl
  have hnm : out.map (·.1) = names := by rw [h.nm, List.take_of_length_le hl]
  refine ⟨hl2 ▸ h.h8, hnm ▸ h.nd, fun i u hu h0 => ?_, fun u hu n hn => ?_⟩
  · obtain ⟨hi, hu⟩ := List.getElem?_eq_some_iff.1 hu
    obtain ⟨k, v, hk, hv, hm⟩ := h.by_ i (hl2 ▸ hi) h0
    refine ⟨k, v, hk, hv, ?_⟩
    have : names[i]'(hl2 ▸ hi) = u.1 := by
      subst hnm
      rw [List.getElem_map, hu]
    rwa [this] at hm
  · have := h.all u hu n hn
    rw [← hnm] at this
    obtain ⟨v, hv, e⟩ := List.mem_map.1 this
    exact ⟨v, hv, e⟩
theorem orderGo_ok (fs : Fs) : ∀ (f : Nat) (names : List BS) (out : List (BS × Im)), WhI names out → 8 ≤ f + out.length →
    ((orderGo fs f names out).1 ≠ 0 → (orderGo fs f names out).2 = []) ∧ ((orderGo fs f names out).1 = 0 → WhO (orderGo fs f names out).2)
  | 0, names, out, h, hf => by
    unfold orderGo
    split
    · exact ⟨fun _ => rfl, fun h => by cases h⟩
    · exact ⟨fun h => absurd rfl h, fun _ => h.done (by have := h.h8; omega)⟩
  | f + 1, names, out, h, hf => by
    unfold orderGo
    split
    · rename_i hn
      have hn := List.getElem?_eq_none_iff.1 hn
      split
      · exact ⟨fun _ => rfl, fun h => by cases h⟩
      · exact ⟨fun h => absurd rfl h, fun _ => h.done hn⟩
    · rename_i n hn
      split
      · rename_i h1
        exact ⟨fun _ => rfl, fun h => absurd h h1⟩
      · split
        · exact ⟨fun _ => rfl, fun h => by cases h⟩
        · rename_i names' ha
          exact orderGo_ok fs f names' _ (h.step hn ha) (by rw [List.length_append]; simp only [List.length_cons, List.length_nil]; omega)
theorem orderM_ok (root : BS) (fs : Fs) : ((orderM root fs).1 ≠ 0 → (orderM root fs).2 = []) ∧ ((orderM root fs).1 = 0 → WhO (orderM root fs).2) :=
  orderGo_ok fs 8 [root] [] ⟨rfl, Nat.zero_le _, by show 1 ≤ 8; decide, by simp, fun i h h0 => by simp at h; omega, fun u hu => by cases hu⟩ (Nat.le_refl _)
end Go.Dm.Ld
namespace Go.Dm.Ld
open Go Go.Dm.Oc
def fxS (a : BS) : Sp := libSp 3 [] a
def fm : BS := (buildM (libSp 2 [[120]] [1])).2
set_option maxRecDepth 100000 in
theorem fxe1 (a : UInt8) : (buildM (fxS [a])).1 = 0 := by kernel_rfl
set_option maxRecDepth 100000 in
theorem fxe2 (b : UInt8) : (buildM (fxS [b, b])).1 = 0 := by kernel_rfl
set_option maxRecDepth 100000 in
theorem cf1 (a b : UInt8) : (orderM [109] [([109], fm), ([120], (buildM (fxS [a])).2), ([120], (buildM (fxS [b, b])).2), ([109], [])]).1 = 0 ∧
    (orderM [109] [([109], fm), ([120], (buildM (fxS [a])).2), ([120], (buildM (fxS [b, b])).2), ([109], [])]).2.map (fun u => u.2.bytes) = [fm, (buildM (fxS [a])).2] := ⟨by kernel_rfl, by kernel_rfl⟩
set_option maxRecDepth 100000 in
theorem cf2 (a b : UInt8) : (orderM [109] [([109], fm), ([120], (buildM (fxS [b, b])).2), ([120], (buildM (fxS [a])).2)]).1 = 0 ∧
    (orderM [109] [([109], fm), ([120], (buildM (fxS [b, b])).2), ([120], (buildM (fxS [a])).2)]).2.map (fun u => u.2.bytes) = [fm, (buildM (fxS [b, b])).2] := ⟨by kernel_rfl, by kernel_rfl⟩
set_option maxRecDepth 100000 in
theorem cf3 (a : UInt8) : (orderM [109] [([109], []), ([109], fm), ([120], (buildM (fxS [a])).2)]).1 = 10 := by kernel_rfl
end Go.Dm.Ld
