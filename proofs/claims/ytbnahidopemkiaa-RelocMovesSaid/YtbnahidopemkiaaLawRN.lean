/- Chapter 17: the statements' examples. Chapter 17: are files small enough? Chapter 17: words that point into a module move as it does. Chapter 15: the files of a list of needs. Chapter 17: the arguments of the statement on modules that move. No condition. -/
import Derived.Test.YtbnahidopemkiaaRe1
import Derived.Test.YtbnahidopemkiaaReX
import Derived.BigQuiet
import Derived.Test.YtbnahidopemkiaaOct
import Derived.Test.YtbnahidopemkiaaLyA
set_option linter.unusedVariables false
set_option linter.unusedSimpArgs false
namespace Go.Proofs.Ytbnahidopemkiaa
open Go.RowKit Go.Dm Go.Dm.Oc Go.Dm.Ld
section
variable {A B : Nat → Prop} {w : World} {v : Value}
theorem made_bts {W W' : World} {n : Nat} (h : Blk W' W.heap.size (madeCells (Value.cells (.int .u8 0)) (n * 1)) 5) (hn : n ≤ 1000) : Bts (fun _ => True) W' (.slice (some ⟨W.heap.size, 0, none⟩) n n) (List.replicate n 0) := by
  have := h
  rw [madeCells_u8] at this
  have hb := Bts.of_blk this (by rw [List.length_replicate]; unfold maxLen; omega)
  rw [List.length_replicate] at hb
  exact Sl.mono hb fun _ _ _ => trivial
theorem u8_inf : (Try.prog.info? 5).map (fun i => (i.zero, i.size, i.bytes)) = some (some (.int .u8 0), 1, 1) := by kernel_rfl
/-- a file that the document builds -/
theorem built_any {W : World} {s : Sp} {vn vc vd vt vf vx : Value} (hs : SpR (fun _ => True) W s vn vc vd vt vf vx) (hok : SpOk s) :
    Calls Try.prog 13 #[.agg (specC s vn vc vd vt vf vx)] W fun e w' => ∃ (a : Option Addr) (n c k : Nat), e = .returned (.tuple #[.slice a n c, .int .i64 (k : Int)]) ∧ Bts (fun _ => True) w' (.slice a n c) (buildM s).2 ∧ Keep No W w' := by
  refine (r09build_any s hs hok).mono ?_
  rintro e w' ⟨v', rfl, h, k⟩
  obtain ⟨a, n, c, rfl⟩ := FlO.sh h
  exact ⟨a, n, c, _, rfl, Sl.mono (FlO.bts h) fun _ _ _ => trivial, k⟩
theorem sp17a_ok : SpOk sp17a := ⟨Nat.zero_le _, by decide, by unfold DfOk; decide, by unfold FxOk; decide, by decide, by decide, by decide, Nat.zero_le _, by decide, Nat.zero_le _, by decide, by decide, by decide⟩
theorem sp17x_ok : SpOk sp17x := ⟨Nat.zero_le _, by decide, by unfold DfOk; decide, by unfold FxOk; decide, by decide, by decide, by decide, Nat.zero_le _, by decide, Nat.zero_le _, by decide, by decide, by decide⟩
theorem fl_rows {α : Type} {g n size : Nat} {cs : Array Value} {t : TypeId} {enc : α → List Value} {l : List α} (h : Blk w g cs t) (hs : cs.size = n * size) (hn : n ≤ maxLen) (he : cs.toList = l.flatMap enc) (hl : l.length = n) : Fl (fun _ => True) w size enc (.slice (some ⟨g, 0, none⟩) n n) l := by
  have : FlO w g t size enc (.slice (some ⟨g, 0, none⟩) n n) l := by
    have h2 := own_blk h (Nat.le_refl _) hs hn
    unfold FlO
    rw [hl, ← he]
    exact h2
  exact this.fl.mono fun _ _ _ => trivial
set_option maxRecDepth 100000 in
set_option maxHeartbeats 1000000 in
theorem awake17_any : Calls Try.prog 23 #[] w fun e w' => e = .returned (.bool true) ∧ Keep No w w' := by
  go_enter Try.func23, Try.ntmps23
  go_wp2_with (at_make; refine wl_make rfl _ _ _ rfl _ _ rfl rfl ?_)
  have hkW1 : Keep No w (w.alloc (.cells #[.string ⟨#[120]⟩, .string ⟨#[121]⟩] 9)) := (Keep.refl _ _).alloc _
  have hBW1 : Blk (w.alloc (.cells #[.string ⟨#[120]⟩, .string ⟨#[121]⟩] 9)) w.heap.size #[.string ⟨#[120]⟩, .string ⟨#[121]⟩] 9 := Blk.new _ _ _
  have hzW1 : (w.alloc (.cells #[.string ⟨#[120]⟩, .string ⟨#[121]⟩] 9)).heap.size = w.heap.size + 1 := World.size_alloc _ _
  generalize w.alloc (.cells #[.string ⟨#[120]⟩, .string ⟨#[121]⟩] 9) = W1 at *
  refine rg_make (w := W1) (n := 16) 5 (.int .u8 0) 1 1 Try.underlying26 u8_inf (by omega) (by unfold maxLen; omega) ?_
  intro W2 hmk K2
  have hD := made_bts hmk (by decide)
  go_wp2_with (at_make; refine wl_make rfl _ _ _ rfl _ _ rfl rfl ?_)
  have hkW3 : Keep No W2 (W2.alloc (.cells #[.string ⟨#[102]⟩, .int .i64 0, .int .u64 0, .bool false] 84)) := (Keep.refl _ _).alloc _
  have hBW3 : Blk (W2.alloc (.cells #[.string ⟨#[102]⟩, .int .i64 0, .int .u64 0, .bool false] 84)) W2.heap.size #[.string ⟨#[102]⟩, .int .i64 0, .int .u64 0, .bool false] 84 := Blk.new _ _ _
  have hzW3 : (W2.alloc (.cells #[.string ⟨#[102]⟩, .int .i64 0, .int .u64 0, .bool false] 84)).heap.size = W2.heap.size + 1 := World.size_alloc _ _
  generalize W2.alloc (.cells #[.string ⟨#[102]⟩, .int .i64 0, .int .u64 0, .bool false] 84) = W3 at *
  have hkW4 : Keep No W3 (W3.alloc (.cells #[.int .i64 2, .int .u64 0, .int .u32 1, .int .i64 0, .int .i64 5, .int .i64 2, .int .u64 8, .int .u32 8, .int .i64 (-1), .int .i64 9] 87)) := (Keep.refl _ _).alloc _
  have hBW4 : Blk (W3.alloc (.cells #[.int .i64 2, .int .u64 0, .int .u32 1, .int .i64 0, .int .i64 5, .int .i64 2, .int .u64 8, .int .u32 8, .int .i64 (-1), .int .i64 9] 87)) W3.heap.size #[.int .i64 2, .int .u64 0, .int .u32 1, .int .i64 0, .int .i64 5, .int .i64 2, .int .u64 8, .int .u32 8, .int .i64 (-1), .int .i64 9] 87 := Blk.new _ _ _
  have hzW4 : (W3.alloc (.cells #[.int .i64 2, .int .u64 0, .int .u32 1, .int .i64 0, .int .i64 5, .int .i64 2, .int .u64 8, .int .u32 8, .int .i64 (-1), .int .i64 9] 87)).heap.size = W3.heap.size + 1 := World.size_alloc _ _
  generalize W3.alloc (.cells #[.int .i64 2, .int .u64 0, .int .u32 1, .int .i64 0, .int .i64 5, .int .i64 2, .int .u64 8, .int .u32 8, .int .i64 (-1), .int .i64 9] 87) = W4 at *
  have k14 := K2.trans' (hkW3.trans' hkW4)
  have hs : SpR (fun _ => True) W4 sp17a (.slice (some ⟨w.heap.size, 0, none⟩) 2 2) (.slice none 0 0) (.slice (some ⟨W1.heap.size, 0, none⟩) 16 16) (.slice none 0 0) (.slice (some ⟨W2.heap.size, 0, none⟩) 1 1) (.slice (some ⟨W3.heap.size, 0, none⟩) 2 2) :=
    ⟨fl_rows (hBW1.keep k14 fun h => h) rfl (by decide) rfl rfl, Sl.nil _ _ _, Sl.keep hD (hkW3.trans' hkW4) fun _ _ _ h => h, Sl.nil _ _ _, fl_rows (hBW3.keep hkW4 fun h => h) rfl (by decide) rfl rfl, fl_rows hBW4 rfl (by decide) (by kernel_rfl) rfl⟩
  have hcall := built_any hs sp17a_ok
  rw [hzW1, hzW3] at hcall
  have hkA := hkW1.trans' k14
  obtain ⟨xa, hxa⟩ : ∃ x, x = (buildM sp17a).2 := ⟨_, rfl⟩
  rw [← hxa] at hcall
  have HXA := Lib.hid hxa
  refine hcall.mono ?_
  clear hcall hs hD hmk hBW1 hkW1 hzW1 K2 hkW3 hBW3 hzW3 hkW4 hBW4 hzW4 k14 hxa
  rintro e w5 ⟨a5, n5, c5, e5, rfl, hB5, k5⟩
  replace hkA := hkA.trans' k5
  clear k5
  go_wp2_with (at_make; refine wl_make rfl _ _ _ rfl _ _ rfl rfl ?_)
  refine rg_make (w := w5) (n := 16) 5 (.int .u8 0) 1 1 Try.underlying26 u8_inf (by omega) (by unfold maxLen; omega) ?_
  intro W6 hmk K6
  have hD := made_bts hmk (by decide)
  go_wp2_with (at_make; refine wl_make rfl _ _ _ rfl _ _ rfl rfl ?_)
  have hkW7 : Keep No W6 (W6.alloc (.cells #[.string ⟨#[102]⟩, .int .i64 2, .int .u64 8, .bool false] 84)) := (Keep.refl _ _).alloc _
  have hBW7 : Blk (W6.alloc (.cells #[.string ⟨#[102]⟩, .int .i64 2, .int .u64 8, .bool false] 84)) W6.heap.size #[.string ⟨#[102]⟩, .int .i64 2, .int .u64 8, .bool false] 84 := Blk.new _ _ _
  have hzW7 : (W6.alloc (.cells #[.string ⟨#[102]⟩, .int .i64 2, .int .u64 8, .bool false] 84)).heap.size = W6.heap.size + 1 := World.size_alloc _ _
  generalize W6.alloc (.cells #[.string ⟨#[102]⟩, .int .i64 2, .int .u64 8, .bool false] 84) = W7 at *
  have hs : SpR (fun _ => True) W7 sp17x (.slice none 0 0) (.slice none 0 0) (.slice (some ⟨w5.heap.size, 0, none⟩) 16 16) (.slice none 0 0) (.slice (some ⟨W6.heap.size, 0, none⟩) 1 1) (.slice none 0 0) :=
    ⟨Fl.nil, Sl.nil _ _ _, Sl.keep hD hkW7 fun _ _ _ h => h, Sl.nil _ _ _, fl_rows hBW7 rfl (by decide) rfl rfl, Fl.nil⟩
  have hcall := built_any hs sp17x_ok
  obtain ⟨xb, hxb⟩ : ∃ x, x = (buildM sp17x).2 := ⟨_, rfl⟩
  rw [← hxb] at hcall
  have HXB := Lib.hid hxb
  have k57 := K6.trans' hkW7
  refine hcall.mono ?_
  clear hcall hs hD hmk K6 hkW7 hBW7 hzW7 hxb
  rintro e w8 ⟨a8, n8, c8, e8, rfl, hB8, k8⟩
  have k58 := k57.trans' k8
  replace hB5 := Sl.keep hB5 k58 fun _ _ _ h => h
  replace hkA := hkA.trans' k58
  clear k8 k57 k58
  go_wp2_with fail
  have hkW9 : Keep No w8 (w8.alloc (.cells #[.string ⟨#[97]⟩, .slice a5 n5 c5, .string ⟨#[120]⟩, .slice a8 n8 c8, .string ⟨#[121]⟩, .slice a8 n8 c8] 29)) := (Keep.refl _ _).alloc _
  have hBW9 : Blk (w8.alloc (.cells #[.string ⟨#[97]⟩, .slice a5 n5 c5, .string ⟨#[120]⟩, .slice a8 n8 c8, .string ⟨#[121]⟩, .slice a8 n8 c8] 29)) w8.heap.size #[.string ⟨#[97]⟩, .slice a5 n5 c5, .string ⟨#[120]⟩, .slice a8 n8 c8, .string ⟨#[121]⟩, .slice a8 n8 c8] 29 := Blk.new _ _ _
  have hzW9 : (w8.alloc (.cells #[.string ⟨#[97]⟩, .slice a5 n5 c5, .string ⟨#[120]⟩, .slice a8 n8 c8, .string ⟨#[121]⟩, .slice a8 n8 c8] 29)).heap.size = w8.heap.size + 1 := World.size_alloc _ _
  generalize w8.alloc (.cells #[.string ⟨#[97]⟩, .slice a5 n5 c5, .string ⟨#[120]⟩, .slice a8 n8 c8, .string ⟨#[121]⟩, .slice a8 n8 c8] 29) = W9 at *
  have hf : FlO W9 w8.heap.size 29 2 encP (.slice (some ⟨w8.heap.size, 0, none⟩) 3 3) [(.string ⟨#[97]⟩, .slice a5 n5 c5), (.string ⟨#[120]⟩, .slice a8 n8 c8), (.string ⟨#[121]⟩, .slice a8 n8 c8)] :=
    own_blk hBW9 (Nat.le_refl _) (n := 3) (size := 2) rfl (by unfold maxLen; omega)
  have hor := clorder_any (w := W9) [97] (by decide) (fir_own (fs := [([97], xa), ([120], xb), ([121], xb)]) hf rfl
      (fir_one (fok (n := [97]) (Sl.keep hB5 hkW9 fun _ _ _ h => h)) (fir_one (fok (n := [120]) (Sl.keep hB8 hkW9 fun _ _ _ h => h)) (fir_one (fok (n := [121]) (Sl.keep hB8 hkW9 fun _ _ _ h => h)) fir_no))))
    (fun f hf => by
      simp only [List.mem_cons, List.not_mem_nil, or_false] at hf
      rcases hf with rfl | rfl | rfl
      · rw [HXA.out]; exact Nat.le_trans (buildM_le _) (by decide)
      · rw [HXB.out]; exact Nat.le_trans (buildM_le _) (by decide)
      · rw [HXB.out]; exact Nat.le_trans (buildM_le _) (by decide))
  have e1 : orderM [97] [([97], xa), ([120], xb), ([121], xb)] = aw17 := by rw [HXA.out, HXB.out]; rfl
  rw [e1] at hor
  have hsg := orderM_segs [97] fs17
  have him := orderM_imok [97] fs17
  have hle := orderM_le [97] fs17
  rw [show orderM [97] fs17 = aw17 from rfl] at hsg him hle
  have h1 := aw17_o
  have h2 := aw17_m
  have h3 := aw17_g
  have h4 := aw17_t
  have h5 := aw17_w
  unfold aw17w aw17t at h5
  unfold aw17t at h4
  unfold aw17m at h2 h5
  replace hkA := hkA.trans' hkW9
  clear e1 hf HXA HXB hkW9 hBW9 hzW9 hB5 hB8
  generalize aw17 = o at *
  obtain ⟨oe, us⟩ := o
  dsimp only at h1 h2 h3 h4 h5 hsg him hle hor
  subst h1
  have HSG := Lib.hid hsg
  have HIM := Lib.hid him
  have H2 := Lib.hid h2
  have H3 := Lib.hid h3
  have H4 := Lib.hid h4
  have H5 := Lib.hid h5
  clear hsg him h2 h3 h4 h5
  refine hor.mono ?_
  clear hor
  rintro e w10 ⟨vo, ps, rfl, hvo, hus, k10⟩
  replace hkA := hkA.trans' k10
  obtain ⟨ao, no, co, rfl⟩ : ∃ a n c, vo = .slice a n c := by
    obtain ⟨a, c, e, _⟩ := hvo.shape
    exact ⟨_, _, _, e⟩
  clear k10
  have hba := lbases_any (w := w10) hvo hus (fun u hu => (HSG.out u hu).span) (by omega)
  have HVO := Lib.hid hvo
  have HUS := Lib.hid hus
  clear hvo hus
  have hblt := basesM_lt us
  obtain ⟨bs, hbs⟩ : ∃ b, b = basesM us := ⟨_, rfl⟩
  rw [← hbs] at hba H2 H5 hblt
  have HBL := Lib.hid hblt
  clear hbs hblt
  go_wp2_with fail
  refine hba.mono ?_
  clear hba
  rintro e w11 ⟨vb, rfl, hvb, k11⟩
  replace hkA := hkA.trans' k11
  have hpl := lplace_any (w := w11) (HVO.out.no k11) (HUS.out.keep k11 fun _ _ _ h => h) HSG.out (by omega) hvb.fl HBL.out
  have HMB := Lib.hid (layL_bo (bs := bs) HSG.out (by omega))
  obtain ⟨mm, hmm⟩ : ∃ m, m = layL us bs := ⟨_, rfl⟩
  rw [← hmm] at hpl H2 H5 HMB
  clear hmm
  obtain ⟨av, nv, cv, rfl⟩ := FlO.sh hvb
  clear hvb
  go_wp2_with fail
  refine hpl.mono ?_
  clear hpl
  rintro e w12 ⟨vm, rfl, hvm, _, k12⟩
  replace hkA := hkA.trans' k12
  have k1012 := k11.trans' k12
  obtain ⟨me, ml⟩ := mm
  obtain ⟨hm1, hm2⟩ := H2.out
  dsimp only at hm1 hm2 hvm HMB H5
  subst hm1
  clear k11 k12 H2
  have HVM := Lib.hid hvm.fl
  obtain ⟨am, nm, cm, rfl⟩ := FlO.sh hvm
  have hres := fun W n (k : Keep No w12 W) => reresolve_any (w := W) n (HVO.out.no (k1012.trans' k)) (HUS.out.keep (k1012.trans' k) fun _ _ _ h => h) (fun u hu => (HIM.out u hu).1)
  have hwo := fun W (k : Keep No w12 W) => rewords_any (w := W) (HVO.out.no (k1012.trans' k)) (HUS.out.keep (k1012.trans' k) fun _ _ _ h => h) HIM.out (by omega) (HVM.out.no k) HMB.out
  have HRS := Lib.hid hres
  have HWO := Lib.hid hwo
  clear hres hwo hvm
  have hr1 := HRS.out w12 [102] (Keep.refl No _)
  rw [encRs_eq] at hr1
  obtain ⟨rt, hrt⟩ : ∃ t, t = resM us [102] := ⟨_, rfl⟩
  rw [← hrt] at hr1 H4 H5
  clear hrt
  go_wp2_with (with_reducible refine wl_stAgg rfl _ _ _ rfl _ _ rfl rfl ?_)
  refine hr1.mono ?_
  clear hr1
  rintro e w13 ⟨rfl, k13⟩
  replace hkA := hkA.trans' k13
  go_wp2_with (with_reducible refine wl_stAgg rfl _ _ _ rfl _ _ rfl rfl ?_)
  have hkw14 : Keep No w13 (w13.alloc (.cells #[.int .i64 0, .int .u32 0, .int .u8 0, .int .u8 0, .int .u16 0, .int .u64 0, .int .u64 0] 123)) := (Keep.refl _ _).alloc _
  have hBw14 : Blk (w13.alloc (.cells #[.int .i64 0, .int .u32 0, .int .u8 0, .int .u8 0, .int .u16 0, .int .u64 0, .int .u64 0] 123)) w13.heap.size #[.int .i64 0, .int .u32 0, .int .u8 0, .int .u8 0, .int .u16 0, .int .u64 0, .int .u64 0] 123 := Blk.new _ _ _
  have hzw14 : (w13.alloc (.cells #[.int .i64 0, .int .u32 0, .int .u8 0, .int .u8 0, .int .u16 0, .int .u64 0, .int .u64 0] 123)).heap.size = w13.heap.size + 1 := World.size_alloc _ _
  generalize w13.alloc (.cells #[.int .i64 0, .int .u32 0, .int .u8 0, .int .u8 0, .int .u16 0, .int .u64 0, .int .u64 0] 123) = w14 at *
  refine rg_stAgg hBw14 (by kernel_rfl) (by rfl) (encTg_one _) ?_
  intro w15 B15 k15 z15
  have k1315 : Keep No w13 w15 := hkw14.trans k15 fun j hj e => by have e2 : j = w13.heap.size := e; omega
  have k1215 := k13.trans' k1315
  replace hkA := hkA.trans' k1315
  have hw1 := HWO.out w15 k1215
  clear HWO hBw14 hkw14 hzw14 k15 z15 k1315 k13
  obtain ⟨wr, hwr⟩ : ∃ r, r = wordsM us ml := ⟨_, rfl⟩
  rw [← hwr] at hw1 H5
  clear hwr
  obtain ⟨we, wl⟩ := wr
  obtain ⟨h51, h52, h53, h54, h55, h56, h57⟩ := H5.out
  obtain ⟨h41, h42⟩ := H4.out
  obtain ⟨tt, rfl⟩ : ∃ tt, rt = some tt := Option.isSome_iff_exists.1 h41
  dsimp only [rT, Option.getD_some] at h51 h52 h53 h54 h55 h57 h42 B15
  dsimp only at hw1
  subst h51
  obtain ⟨y0, y1, hy⟩ : ∃ y0 y1, wl = [y0, y1] := by
    match wl, h52 with
    | [y0, y1], _ => exact ⟨y0, y1, rfl⟩
  obtain ⟨x0, x1, x2, hx⟩ : ∃ x0 x1 x2, ml = [x0, x1, x2] := by
    match ml, hm2 with
    | [x0, x1, x2], _ => exact ⟨x0, x1, x2, rfl⟩
  subst hy
  have gm1 := md_at HVM.out (i := 1) (m := x1) (by rw [hx]; rfl)
  rw [hx] at h55 h56
  injection h53 with q0 h53
  injection h53 with q1 _
  injection h54 with q2
  injection h55 with q3
  have q0 : y0.unit = 1 := q0
  have q1 : y1.unit = 0 := q1
  have q2 : y1.val = 4105 := q2
  have q3 : y0.val = x1.base + tt.sym.val + 5 := q3
  have h56 : x1.base < 1000000 := h56
  obtain ⟨gm, om, cm2, evm, hgm, hcm1, hcm2, hcm⟩ := gm1
  injection evm with ev1 ev2 ev3
  subst ev1 ev3
  have hnm3 : nm = 3 := ev2.trans hm2
  have cb := hcm 1 _ rfl
  clear hcm HMB HVM H4 H5 h52 HSG HBL hx h41 ev2
  subst hnm3
  go_wp2_with (with_reducible refine wl_stAgg rfl _ _ _ rfl _ _ rfl rfl ?_)
  refine hw1.mono ?_
  clear hw1
  rintro e w16 ⟨vw, rfl, hvw, k16⟩
  replace hkA := hkA.trans' k16
  replace B15 := B15.keep k16 fun h => h
  have k1216 := k1215.trans' k16
  obtain ⟨gw, ow, cw, rfl, _, hgw, hcw1, hcw2, hw0⟩ := hvw.fl.at encWd_len (i := 0) (Nat.succ_pos 1)
  obtain ⟨gw1, ow1, cw1, ev, _, _, _, _, hw1⟩ := hvw.fl.at encWd_len (i := 1) (Nat.lt_succ_self 1)
  injection ev with ev el e3
  injection ev with ev
  injection ev with e1 e2
  subst e1 e2 e3
  have d01 : w16.cell? ⟨gw, ow + 0 * 3 + 1, none⟩ = some (.int .u64 (y0.val : Int)) := hw0 1 _ rfl
  have d02 : w16.cell? ⟨gw, ow + 0 * 3 + 2, none⟩ = some (.int .i64 y0.unit) := hw0 2 _ rfl
  have d11 : w16.cell? ⟨gw, ow + 1 * 3 + 1, none⟩ = some (.int .u64 (y1.val : Int)) := hw1 1 _ rfl
  have d12 : w16.cell? ⟨gw, ow + 1 * 3 + 2, none⟩ = some (.int .i64 y1.unit) := hw1 2 _ rfl
  clear hw0 hw1 el hvw k16 k1215
  have hr2 := HRS.out w16 [103] k1216
  rw [H3.out] at hr2
  unfold encRs at hr2
  dsimp only at hr2
  clear HRS H3
  go_wp2_with (with_reducible refine wl_stAgg rfl _ _ _ rfl _ _ rfl rfl ?_)
  refine hr2.mono ?_
  clear hr2
  rintro e w17 ⟨rfl, k17⟩
  go_wp2_with (with_reducible refine wl_stAgg rfl _ _ _ rfl _ _ rfl rfl ?_)
  have hkw18 : Keep No w17 (w17.alloc (.cells #[.int .i64 0, .int .u32 0, .int .u8 0, .int .u8 0, .int .u16 0, .int .u64 0, .int .u64 0] 123)) := (Keep.refl _ _).alloc _
  have hBw18 : Blk (w17.alloc (.cells #[.int .i64 0, .int .u32 0, .int .u8 0, .int .u8 0, .int .u16 0, .int .u64 0, .int .u64 0] 123)) w17.heap.size #[.int .i64 0, .int .u32 0, .int .u8 0, .int .u8 0, .int .u16 0, .int .u64 0, .int .u64 0] 123 := Blk.new _ _ _
  have hzw18 : (w17.alloc (.cells #[.int .i64 0, .int .u32 0, .int .u8 0, .int .u8 0, .int .u16 0, .int .u64 0, .int .u64 0] 123)).heap.size = w17.heap.size + 1 := World.size_alloc _ _
  generalize w17.alloc (.cells #[.int .i64 0, .int .u32 0, .int .u8 0, .int .u8 0, .int .u16 0, .int .u64 0, .int .u64 0] 123) = w18 at *
  refine rg_stAgg hBw18 (by kernel_rfl) (by rfl) (encTg_one _) ?_
  intro w19 B19 k19 z19
  have k1719 : Keep No w17 w19 := hkw18.trans k19 fun j hj e => by have e2 : j = w17.heap.size := e; omega
  have k1619 := k17.trans' k1719
  have k1219 := k1216.trans' k1619
  replace hkA := hkA.trans' k1619
  replace B15 := B15.keep k1619 fun h => h
  replace cb := (k1219.cell (p := ⟨gm, om + 1 * 7 + 1, none⟩) hgm fun h => h).trans cb
  replace d01 := (k1619.cell (p := ⟨gw, ow + 0 * 3 + 1, none⟩) hgw fun h => h).trans d01
  replace d02 := (k1619.cell (p := ⟨gw, ow + 0 * 3 + 2, none⟩) hgw fun h => h).trans d02
  replace d11 := (k1619.cell (p := ⟨gw, ow + 1 * 3 + 1, none⟩) hgw fun h => h).trans d11
  replace d12 := (k1619.cell (p := ⟨gw, ow + 1 * 3 + 2, none⟩) hgw fun h => h).trans d12
  have t0 : w19.cell? ⟨w13.heap.size, 0, none⟩ = some (.int .i64 1) := by rw [← h42]; exact B15.cell 0
  have t5 : w19.cell? ⟨w13.heap.size, 5, none⟩ = some (.int .u64 (tt.sym.val : Int)) := B15.cell 5
  clear hBw18 hkw18 hzw18 k19 z19 k1719 k17 k1619 k1216 k1219 B19 B15 k1012 hgm hgw
  rw [show om + 1 * 7 + 1 = om + 8 from by omega] at cb
  rw [show ow + 0 * 3 + 1 = ow + 1 from by omega, q3] at d01
  rw [show ow + 0 * 3 + 2 = ow + 2 from by omega, q0] at d02
  rw [show ow + 1 * 3 + 1 = ow + 4 from by omega, q2] at d11
  rw [show ow + 1 * 3 + 2 = ow + 5 from by omega, q1] at d12
  generalize x1.base = xb at *
  generalize tt.sym.val = tv at *
  obtain ⟨s1, hs1⟩ : ∃ s, s = xb + tv := ⟨_, rfl⟩
  obtain ⟨s5, hs5⟩ : ∃ s, s = s1 + 5 := ⟨_, rfl⟩
  rw [← hs1, ← hs5] at d01
  have hw1 : IntKind.u64.wrap ((xb : Int) + (tv : Int)) = (s1 : Int) := by rw [IntKind.wrap_u64]; omega
  have hw5 : IntKind.u64.wrap ((s1 : Int) + 5) = (s5 : Int) := by rw [IntKind.wrap_u64]; omega
  have hcm3 : cm ≤ 9223372036854775807 := by unfold maxLen at hcm2; omega
  have hcw3 : cw ≤ 9223372036854775807 := by unfold maxLen at hcw2; omega
  rw [hm2] at hcm1
  have hcw1 : 2 ≤ cw := hcw1
  clear hs1 hs5 h56 h57 h42 q0 q1 q2 q3 hcm2 hcw2 hm2
  go_wp2_with fail
  go_quiet (fail)
  go_wp2_with fail
  go_ret
  exact ⟨rfl, hkA.drewN _⟩
end
end Go.Proofs.Ytbnahidopemkiaa
namespace Go.Proofs.Ytbnahidopemkiaa
open Go.RowKit Go.Dm Go.Dm.Oc Go.Dm.Ld
section
variable {A B : Nat → Prop} {w : World} {v : Value}
def smallB (fs : Fs) : Bool := decide (fs.length ≤ 20) && fs.all fun f => decide (f.2.length ≤ 3000)
set_option maxRecDepth 100000 in
set_option maxHeartbeats 1000000 in
theorem small17_any {fs : Fs} (hf : FiR A w v fs) : Calls Try.prog 24 #[v] w fun e w' => e = .returned (.bool (smallB fs)) ∧ w' = w := by
  obtain ⟨res, hres⟩ : ∃ r, r = smallB fs := ⟨_, rfl⟩
  rw [← hres]
  have HRES := Lib.hid hres
  clear hres
  obtain ⟨ps, hlen, hp, hfo⟩ := hf
  have HP := Lib.hid hp
  have HFO := Lib.hid hfo
  obtain ⟨a, c, rfl, hc1, hc2⟩ := hp.shape
  obtain ⟨n, hn⟩ : ∃ n, n = fs.length := ⟨_, rfl⟩
  have hib : (n : Int) ≤ 9223372036854775807 := by unfold maxLen at hc2; omega
  rw [← hn] at hlen
  rw [hlen]
  have HN := Lib.hid hn
  have HLN := Lib.hid hlen
  clear hp hfo hn hlen hc1 hc2
  rcases Nat.lt_or_ge 20 n with h20 | h20
  · have h2 : (20 : Int) < (n : Int) := by omega
    have hr : res = false := by rw [HRES.out]; unfold smallB; rw [← HN.out, decide_eq_false (by omega), Bool.false_and]
    subst hr
    go_enter Try.func24, Try.ntmps24
    go_wp2_with fail
    go_ret
    exact ⟨rfl, rfl⟩
  · have h2 : (n : Int) ≤ 20 := by omega
    have h0 : Hid (∀ j f, j < 0 → fs[j]? = some f → f.2.length ≤ 3000) := Lib.hid fun j f h => absurd h (Nat.not_lt_zero _)
    go_enter Try.func24, Try.ntmps24
    go_wp2_with fail
    go_loopw [3] (fun iv wr => ∃ i : Nat, iv = .int .i64 (i : Int) ∧ i ≤ n ∧ w = wr ∧ Hid (∀ j f, j < i → fs[j]? = some f → f.2.length ≤ 3000)) (fun iv _ => n - (intOf iv).toNat)
    case atStart => exact ⟨0, rfl, Nat.zero_le _, rfl, h0⟩
    case round =>
      obtain ⟨i, rfl, hi, rfl, HM⟩ := hrel
      clear h0
      rcases Nat.lt_or_ge i n with hlt | hge
      · have hi1 : i < ps.length := by rw [HLN.out]; exact hlt
        have hi2 : i < fs.length := by rw [← HN.out]; exact hlt
        have hfi := HFO.out i _ _ (List.getElem?_eq_getElem hi1) (List.getElem?_eq_getElem hi2)
        obtain ⟨g, off, cap, ev, _, hg, _, _, hc⟩ := HP.out.at encP_len hi1
        rw [HLN.out] at ev
        injection ev with e1 e2 e3
        subst e1 e3
        have d1 := hc 1 _ rfl
        obtain ⟨a2, c2, e4, _, hcx⟩ := Sl.shape hfi.2
        rw [e4] at d1
        have hiz : (i : Int) < (n : Int) := by omega
        have hstep : fs[i].2.length ≤ 3000 → ∀ j f, j < i + 1 → fs[j]? = some f → f.2.length ≤ 3000 := fun h j f hj hf => by
          rcases Nat.lt_or_ge j i with hj2 | hj2
          · exact HM.out j f hj2 hf
          · obtain rfl : j = i := by omega
            rw [List.getElem?_eq_getElem hi2] at hf
            injection hf with hf
            rw [← hf]
            exact h
        have hbad : 3000 < fs[i].2.length → res = false := fun h => by
          rw [HRES.out]
          unfold smallB
          rw [List.all_eq_false.2 ⟨_, List.getElem_mem hi2, by simpa using h⟩, Bool.and_false]
        have hxb : fs[i].2.length ≤ 9223372036854775807 := by unfold maxLen at hcx; omega
        clear hfi hc e4 e2
        generalize fs[i].2.length = x at *
        have HS := Lib.hid hstep
        have HB := Lib.hid hbad
        clear hstep hbad hcx
        rcases Nat.lt_or_ge 3000 x with h3 | h3
        · have h3z : (3000 : Int) < (x : Int) := by omega
          have hr := HB.out h3
          subst hr
          go_wp2_with fail
          go_ret
          exact ⟨rfl, rfl⟩
        · have h3z : (x : Int) ≤ 3000 := by omega
          have HM2 := Lib.hid (HS.out h3)
          go_wp2_with fail
          go_roundw
          case rel => exact ⟨i + 1, by go_num, hlt, trivial, HM2⟩
          case measure => simp [intOf]; omega
      · obtain rfl : i = n := Nat.le_antisymm hi hge
        have hr : res = true := by
          rw [HRES.out]
          unfold smallB
          rw [← HN.out, decide_eq_true h20, Bool.true_and, List.all_eq_true]
          intro f hf
          obtain ⟨j, hj, rfl⟩ := List.getElem_of_mem hf
          exact decide_eq_true (HM.out j _ (by rw [HN.out]; exact hj) (List.getElem?_eq_getElem hj))
        subst hr
        go_wp2_with fail
        go_ret
        exact ⟨rfl, rfl⟩
end
end Go.Proofs.Ytbnahidopemkiaa
namespace Go.Proofs.Ytbnahidopemkiaa
open Go.RowKit Go.Dm Go.Dm.Oc Go.Dm.Ld
def nv (x : Nat) : Value := .int .u64 (x : Int)
theorem madeCells_u64 (n : Nat) : madeCells (Value.int .u64 0).cells (n * 1) = ((List.replicate n (0 : Nat)).map nv).toArray := by
  apply Array.toList_inj.1
  apply List.ext_getElem
  · simp [madeCells]
  · intro i h1 h2
    simp [madeCells, Value.cells, nv, Nat.mod_one]
theorem set_nv (l : List Nat) (i x : Nat) : (l.map nv).toArray.setIfInBounds i (nv x) = ((l.set i x).map nv).toArray := by
  rw [List.setIfInBounds_toArray, List.map_set]
theorem nv_flat (l : List Nat) : (l.map nv).toArray.toList = l.flatMap encN := by
  induction l with
  | nil => rfl
  | cons x r ih =>
    rw [List.flatMap_cons, ← ih]
    rfl
theorem wrapU (z : Int) : ∃ n : Nat, IntKind.u64.wrap z = (n : Int) ∧ n < 18446744073709551616 := ⟨(z % 18446744073709551616).toNat, by rw [IntKind.wrap_u64]; omega, by omega⟩
theorem basesGo_len : ∀ (us : List (BS × Im)) (i a : Nat) (out : List Nat), (basesGo us i a out).length = out.length + us.length
  | [], _, _, out => rfl
  | u :: r, i, a, out => by
    unfold basesGo
    dsimp only
    rw [basesGo_len r, List.length_append, List.length_singleton, List.length_cons]
    omega
theorem basesM_len (us : List (BS × Im)) : (basesM us).length = us.length := by
  unfold basesM
  rw [basesGo_len, List.length_nil, Nat.zero_add]
theorem u64_inf : (Try.prog.info? 34).map (fun i => (i.zero, i.size, i.bytes)) = some (some (.int .u64 0), 1, 8) := by kernel_rfl
section
variable {A B : Nat → Prop} {w : World} {v : Value}
set_option maxRecDepth 100000 in
set_option maxHeartbeats 2000000 in
theorem relocmoves_any {fs : Fs} (hf : FiR A w v fs) {cby : Array Value} (hby : ∀ i, i < 8 → ∃ x : Nat, x < 256 ∧ cby[i]? = some (.int .u8 (x : Int))) :
    Calls Try.prog 8 #[v, .agg cby] w fun e w' => e = .returned (.bool true) ∧ Keep No w w' := by
  have HF := Lib.hid hf
  have HBY := Lib.hid hby
  obtain ⟨av, nv_, cv, rfl⟩ := fir_sh hf
  clear hf hby
  go_enter Try.func8, Try.ntmps8
  go_wp2_with fail
  have hkw1 : Keep No w (w.alloc (.cells cby 74)) := (Keep.refl _ _).alloc _
  have hBw1 : Blk (w.alloc (.cells cby 74)) w.heap.size cby 74 := Blk.new _ _ _
  have hzw1 : (w.alloc (.cells cby 74)).heap.size = w.heap.size + 1 := World.size_alloc _ _
  generalize w.alloc (.cells cby 74) = w1 at *
  refine awake17_any.mono ?_
  rintro e w2 ⟨rfl, k2⟩
  have hkA := hkw1.trans' k2
  have BB := hBw1.keep k2 fun h => h
  clear hkw1 hBw1 k2
  have hsm := small17_any (w := w2) (HF.out.no hkA)
  obtain ⟨sb, hsb⟩ : ∃ b, b = smallB fs := ⟨_, rfl⟩
  rw [← hsb] at hsm
  have HSB := Lib.hid hsb
  clear hsb
  go_wp2_with fail
  refine hsm.mono ?_
  clear hsm
  rintro e w3 ⟨rfl, rfl⟩
  generalize w.heap.size = gb at *
  cases sb with
  | false =>
    go_wp2_with fail
    go_ret
    exact ⟨rfl, hkA⟩
  | true =>
  have hfl : ∀ f ∈ fs, f.2.length ≤ 1099511627776 := fun f hf => by
    have h := HSB.out
    unfold smallB at h
    have h2 := (Bool.and_eq_true_iff.1 h.symm).2
    have h3 := of_decide_eq_true (List.all_eq_true.1 h2 f hf)
    omega
  have hor := clorder_any (w := w3) [109, 97, 105, 110] (by decide) (HF.out.no hkA) hfl
  have hsg := orderM_segs [109, 97, 105, 110] fs
  have him := orderM_imok [109, 97, 105, 110] fs
  have hle := orderM_le [109, 97, 105, 110] fs
  have hps := orderM_pos (root := [109, 97, 105, 110]) (fs := fs)
  clear hfl HSB
  generalize orderM [109, 97, 105, 110] fs = o at *
  obtain ⟨oe, us⟩ := o
  dsimp only at hor hsg him hle hps
  have HSG := Lib.hid hsg
  have HIM := Lib.hid him
  clear hsg him
  go_wp2_with fail
  refine hor.mono ?_
  clear hor
  rintro e w4 ⟨vo, ps, rfl, hvo, hus, k4⟩
  replace hkA := hkA.trans' k4
  replace BB := BB.keep k4 fun h => h
  obtain ⟨ao, no, co, rfl⟩ : ∃ a n c, vo = .slice a n c := by
    obtain ⟨a, c, e, _⟩ := hvo.shape
    exact ⟨_, _, _, e⟩
  clear k4
  by_cases hoe : oe = 0
  · subst hoe
    have hus0 : 0 < us.length := hps rfl
    have hba := lbases_any (w := w4) hvo hus (fun u hu => (HSG.out u hu).span) (by omega)
    have HVO := Lib.hid hvo
    have HUS := Lib.hid hus
    clear hvo hus hps
    have hblt := basesM_lt us
    have hbln := basesM_len us
    obtain ⟨bs, hbs⟩ : ∃ b, b = basesM us := ⟨_, rfl⟩
    rw [← hbs] at hba hblt hbln
    have HBL := Lib.hid hblt
    clear hbs hblt
    go_wp2_with (at_make; refine wl_make rfl _ _ _ rfl _ _ rfl rfl ?_)
    refine hba.mono ?_
    clear hba
    rintro e w5 ⟨vb, rfl, hvb, k5⟩
    replace hkA := hkA.trans' k5
    replace BB := BB.keep k5 fun h => h
    obtain ⟨ab, cb, evb, hcb1, hcb2⟩ := hvb.fl.shape
    subst evb
    have hvb2 : Fl (fun j => j < w5.heap.size) w5 1 encN (.slice ab bs.length cb) bs := hvb.fl.mono fun _ h _ => h
    obtain ⟨n, hn⟩ : ∃ n, n = bs.length := ⟨_, rfl⟩
    have HN := Lib.hid hn
    rw [← hn] at hvb2 hbln
    have HVB := Lib.hid hvb2
    have hn8 : n ≤ 8 := by omega
    have HBLN := Lib.hid hbln
    have hgb5 := BB.lt
    have hwg5 := hkA.size
    rw [← hn]
    clear hvb hvb2 hn hcb1 hcb2 hbln
    go_wp2_with (at_make; refine wl_make rfl _ _ _ rfl _ _ rfl rfl ?_)
    refine rg_make (w := w5) (n := n) 34 (.int .u64 0) 1 8 Try.underlying58 u64_inf (by omega) (by unfold maxLen; omega) ?_
    intro w6 hmk k6
    rw [madeCells_u64] at hmk
    replace hkA := hkA.trans' k6
    replace BB := BB.keep k6 fun h => h
    have hvb6 := HVB.out.no k6
    have HVB6 := Lib.hid hvb6
    have hgb6 := BB.lt
    have hg5 : w5.heap.size < w6.heap.size := hmk.lt
    obtain ⟨gc, hgc⟩ : ∃ g, g = w5.heap.size := ⟨_, rfl⟩
    have hgbc : gb ≠ gc := by omega
    rw [← hgc] at hmk hg5 ⊢
    have h0 : Blk w6 gc ((List.replicate n 0).map nv).toArray 34 := hmk
    have HGC := Lib.hid hgc
    clear hvb6 hmk hgc
    go_wp2_with fail
    go_loopw [11, 12] (fun sv iv wr => ∃ (i sh : Nat) (cl : List Nat), iv = .int .i64 (i : Int) ∧ sv = .int .u64 (sh : Int) ∧ i ≤ n ∧ sh < 18446744073709551616 ∧ cl.length = n ∧ Hid (∀ x ∈ cl, x < 18446744073709551616) ∧ Blk wr gc (cl.map nv).toArray 34 ∧ Keep (fun j => j = gc) w6 wr) (fun _ iv _ => n - (intOf iv).toNat)
    case atStart => exact ⟨0, 0, List.replicate n 0, rfl, rfl, Nat.zero_le _, by decide, List.length_replicate, Lib.hid (fun x hx => by rw [List.eq_of_mem_replicate hx]; decide), h0, Keep.refl _ _⟩
    case round =>
      obtain ⟨i, sh, cl, rfl, rfl, hi, hsh, hcl, HCL, hB, hk⟩ := hrel
      clear h0
      generalize wr = wz at *
      rcases Nat.lt_or_ge i n with hlt | hge
      · have hiz : (i : Int) < (n : Int) := by omega
        have hi8 : (i : Int) < 8 := by omega
        obtain ⟨xb, hxb, hxc⟩ := HBY.out i (by omega)
        have hbc : wz.cell? ⟨gb, i, none⟩ = some (.int .u8 (xb : Int)) := ((BB.keep hk hgbc).cell i).trans hxc
        have hib : i < bs.length := by rw [← HN.out]; exact hlt
        obtain ⟨g2, off2, cap2, ev, hA2, hg2, hb1, hb2, hd⟩ := HVB6.out.at (fun _ => rfl) (i := i) hib
        injection ev with e1 e2 e3
        subst e1 e3
        have d0 : w6.cell? ⟨g2, off2 + i * 1 + 0, none⟩ = some (.int .u64 (bs[i] : Int)) := hd 0 _ rfl
        have d1 := (hk.cell (p := ⟨g2, off2 + i * 1 + 0, none⟩) hg2 fun e => by have e2 : g2 = gc := e; have := HGC.out; omega).trans d0
        rw [show off2 + i * 1 + 0 = off2 + i from by omega] at d1
        have hbx := HBL.out _ (List.getElem_mem hib)
        obtain ⟨old, hcc⟩ : ∃ old : Nat, wz.cell? ⟨gc, i, none⟩ = some (.int .u64 (old : Int)) := ⟨cl[i]'(by omega), (hB.cell i).trans (by simp [hcl, hlt, nv])⟩
        have hfc := hB.frozen i
        have hw0 : IntKind.u64.wrap (xb : Int) = (xb : Int) := by rw [IntKind.wrap_u64]; omega
        obtain ⟨m, hm⟩ : ∃ m, m = 256 * xb := ⟨_, rfl⟩
        have hw1 : IntKind.u64.wrap (256 * (xb : Int)) = (m : Int) := by rw [IntKind.wrap_u64]; omega
        obtain ⟨s2, hw2, hs2⟩ := wrapU ((sh : Int) + (m : Int))
        obtain ⟨y, hw3, hy⟩ := wrapU ((bs[i] : Int) + (s2 : Int))
        have hcl2 : (cl.set i y).length = n := by rw [List.length_set]; exact hcl
        have HCL2 : Hid (∀ x ∈ cl.set i y, x < 18446744073709551616) := Lib.hid fun x hx => by
          rcases List.mem_or_eq_of_mem_set hx with h | h
          · exact HCL.out x h
          · rw [h]; exact hy
        have hB2 := hB.set (i := i) (nv y)
        rw [set_nv] at hB2
        have hk2 := hk.setCell (p := ⟨gc, i, none⟩) (fun _ => rfl) (nv y)
        clear hm hd hbx e2 hA2 d0 hxc
        generalize bs[i] = bi at *
        go_wp2_with fail
        go_roundw
        case rel => exact ⟨i + 1, s2, cl.set i y, by go_num, rfl, hlt, hs2, hcl2, HCL2, hB2, hk2⟩
        case measure => simp [intOf]; omega
      · obtain rfl : i = n := Nat.le_antisymm hi hge
        have hgc := HGC.out
        have hk5' : w4.heap.size ≤ gc := by rw [hgc]; exact k5.size
        have hvo4 : Fl (fun k => k < w4.heap.size) w4 12 encU (.slice ao no co) ps := HVO.out.mono fun _ h _ => h
        have hus4 : UsOk (fun k => k < w4.heap.size) w4 ps us := HUS.out.mono fun _ h _ => h
        have hvoz := (hvo4.no (k5.trans' k6)).keep hk fun j _ hA e => by have e2 : j = gc := e; omega
        have husz := (hus4.keep (k5.trans' k6) fun _ _ _ h => h).keep hk fun j _ hA e => by have e2 : j = gc := e; omega
        have hvbz := HVB6.out.keep hk fun j _ hA e => by have e2 : j = gc := e; omega
        have hvcz : Fl (fun _ => True) wz 1 encN (.slice (some ⟨gc, 0, none⟩) i i) cl := fl_rows hB (by simp [hcl]) (by unfold maxLen; omega) (nv_flat cl) hcl
        replace hkA := hkA.trans hk fun j hj e => by have e2 : j = gc := e; omega
        have hpl1 := lplace_any (w := wz) hvoz husz HSG.out (by omega) hvbz HBL.out
        have HVO2 := Lib.hid hvoz
        have HUS2 := Lib.hid husz
        have HVBZ := Lib.hid hvbz
        have HVCZ := Lib.hid hvcz
        clear hvo4 hus4 hvoz husz hvbz hvcz hB BB HVO HUS HVB HVB6 hgbc hgb5 hgb6 hk k5 k6 hk5' hg5 hgc HBY
        generalize hm1 : layL us bs = M at *
        generalize hm2 : layL us cl = M2 at *
        obtain ⟨me, ms⟩ := M
        obtain ⟨ne, ns⟩ := M2
        dsimp only at hpl1
        go_wp2_with fail
        refine hpl1.mono ?_
        clear hpl1
        rintro e w7 ⟨vm, rfl, hvm, _, k7⟩
        replace hkA := hkA.trans' k7
        have hpl2 := lplace_any (w := w7) (HVO2.out.no k7) (HUS2.out.keep k7 fun _ _ _ h => h) HSG.out (by omega) (HVCZ.out.no k7) HCL.out
        rw [hm2] at hpl2
        obtain ⟨am, nm, cm, rfl⟩ := FlO.sh hvm
        have HM1 := Lib.hid hm1
        have HM2 := Lib.hid hm2
        have HVM := Lib.hid hvm.fl
        clear hm1 hm2 hvm
        go_wp2_with fail
        refine hpl2.mono ?_
        clear hpl2
        rintro e w8 ⟨vn, rfl, hvn, _, k8⟩
        replace hkA := hkA.trans' k8
        have kz8 := k7.trans' k8
        obtain ⟨an, nn, cn, rfl⟩ := FlO.sh hvn
        have HVN := Lib.hid hvn.fl
        clear hvn
        by_cases hme : me = 0
        · by_cases hne : ne = 0
          · subst hme
            subst hne
            have hmv := wordsM_moves (us := us) (bs := bs) (cs := cl) (by rw [HM1.out]) (by rw [HM2.out]) (by omega) HIM.out
            have hb1 := layL_bo (us := us) (bs := bs) HSG.out (by omega)
            have hb2 := layL_bo (us := us) (bs := cl) HSG.out (by omega)
            rw [HM1.out] at hmv hb1
            rw [HM2.out] at hmv hb2
            dsimp only at hmv hb1 hb2
            have hwx := rewords_any (w := w8) (HVO2.out.no kz8) (HUS2.out.keep kz8 fun _ _ _ h => h) HIM.out (by omega) (HVM.out.no k8) hb1
            have hwy := fun W (k : Keep No w8 W) => rewords_any (w := W) (HVO2.out.no (kz8.trans' k)) (HUS2.out.keep (kz8.trans' k) fun _ _ _ h => h) HIM.out (by omega) (HVN.out.no k) hb2
            have hwn := fun W (k : Keep No w8 W) => rewords_any (w := W) (ms := []) (mv := .slice none 0 0) (B := fun _ => True) (HVO2.out.no (kz8.trans' k)) (HUS2.out.keep (kz8.trans' k) fun _ _ _ h => h) HIM.out (by omega) Fl.nil (fun m h => by cases h)
            have hn1 : wordsM us [] = (1, []) := by unfold wordsM; rw [if_pos (by rw [List.length_nil]; omega)]
            rw [hn1] at hwn
            have HWN := Lib.hid hwn
            clear hb1 hb2 hwn hn1
            generalize wordsM us ms = X at *
            generalize wordsM us ns = Y at *
            obtain ⟨xe, xl⟩ := X
            obtain ⟨ye, yl⟩ := Y
            dsimp only at hmv hwx hwy
            obtain ⟨rfl, hln, hmw⟩ := hmv
            have HWY := Lib.hid hwy
            have HMW := Lib.hid hmw
            clear hwy hmw
            go_wp2_with fail
            refine hwx.mono ?_
            clear hwx
            rintro e w9 ⟨vx, rfl, hvx, k9⟩
            replace hkA := hkA.trans' k9
            obtain ⟨ax, cx, evx, hcx1, hcx2⟩ := hvx.fl.shape
            subst evx
            obtain ⟨L, hL⟩ : ∃ L, L = xl.length := ⟨_, rfl⟩
            have HLX := Lib.hid hL
            rw [← hL] at hcx1 hln ⊢
            have HLY := Lib.hid hln
            clear hln hL
            have HVX := Lib.hid hvx.fl
            clear hvx
            go_wp2_with fail
            refine (HWY.out _ k9).mono ?_
            clear HWY
            rintro e w10 ⟨vy, rfl, hvy, k10⟩
            replace hkA := hkA.trans' k10
            obtain ⟨ay, cy, evy, hcy1, hcy2⟩ := hvy.fl.shape
            subst evy
            have HVY := Lib.hid hvy.fl
            clear hvy
            have hln := HLY.out
            rw [← hln] at hcy1 ⊢
            have hLb : (L : Int) ≤ 9223372036854775807 := by unfold maxLen at hcx2; omega
            have hee : ((xe : Int) != (xe : Int)) = false := by simp
            have hll : ((L : Int) != (L : Int)) = false := by simp
            clear hln
            have kz10 := kz8.trans' (k9.trans' k10)
            have hvx10 := HVX.out.no k10
            have HVX10 := Lib.hid hvx10
            have hvb10 := HVBZ.out.no kz10
            have hvc10 := HVCZ.out.no kz10
            have HVB10 := Lib.hid hvb10
            have HVC10 := Lib.hid hvc10
            clear hvx10 hvb10 hvc10 HVBZ HVCZ HVX kz10 hcx1 hcy1
            have hib8 : (i : Int) ≤ 8 := by omega
            go_wp2_with fail
            go_loopw [21, 22] (fun kv _ wr => ∃ k : Nat, kv = .int .i64 (k : Int) ∧ k ≤ L ∧ Keep No w10 wr) (fun kv _ _ => L - (intOf kv).toNat)
            case atStart => exact ⟨0, rfl, Nat.zero_le _, Keep.refl _ _⟩
            case round =>
              obtain ⟨k, rfl, hk, hkk⟩ := hrel
              generalize wr = wy at *
              rcases Nat.lt_or_ge k L with hlt | hge2
              · have hx : k < xl.length := by rw [← HLX.out]; exact hlt
                have hy : k < yl.length := by rw [← HLY.out]; exact hlt
                have hkz : (k : Int) < (L : Int) := by omega
                have hmv := HMW.out k _ _ (List.getElem?_eq_getElem hx) (List.getElem?_eq_getElem hy)
                obtain ⟨g1, o1, p1, ev, _, hg1, hc11, hc12, hd1⟩ := (HVX10.out.no hkk).at encWd_len hx
                injection ev with e1 e2 e3
                subst e1 e3
                obtain ⟨g2, o2, p2, ev, _, hg2, hc21, hc22, hd2⟩ := (HVY.out.no hkk).at encWd_len hy
                injection ev with e4 e5 e6
                subst e4 e6
                have d11 := hd1 1 _ rfl
                have d12 := hd1 2 _ rfl
                have d21 := hd2 1 _ rfl
                have d22 := hd2 2 _ rfl
                clear hd1 hd2 e2 e5
                generalize xl[k] = x at *
                generalize yl[k] = y at *
                obtain ⟨xa, xv, xu⟩ := x
                obtain ⟨ya, yv, yu⟩ := y
                obtain ⟨huu, hul, hxv, hyv, hmod⟩ := hmv
                dsimp only at d11 d12 d21 d22 huu hul hxv hyv hmod
                subst huu
                have hne : (xu != xu) = false := by simp
                rcases Int.lt_or_le xu 0 with hneg | hpos
                · rw [if_neg (by omega)] at hmod
                  have hw : IntKind.u64.wrap ((yv : Int) - (xv : Int)) = 0 := by rw [IntKind.wrap_u64]; omega
                  have hg : decide ((0 : Int) ≤ xu) = false := decide_eq_false (by omega)
                  clear hmod hxv hyv hul
                  go_wp2_with fail
                  go_quiet (fail)
                  go_wp2_with fail
                  go_roundw
                  case rel => exact ⟨k + 1, by go_num, hlt, hkk.drewN _⟩
                  case measure => simp [intOf]; omega
                · obtain ⟨u, rfl⟩ : ∃ u : Nat, xu = (u : Int) := ⟨xu.toNat, by omega⟩
                  have hui : u < i := by rw [HBLN.out]; omega
                  have huc : u < cl.length := by rw [hcl]; exact hui
                  have hub : u < bs.length := by rw [← HN.out]; exact hui
                  have huz : (u : Int) < (i : Int) := by omega
                  obtain ⟨g3, o3, p3, ev, _, hg3, hc31, hc32, hd3⟩ := (HVB10.out.no hkk).at (fun _ => rfl) (i := u) hub
                  injection ev with e1 e2 e3
                  subst e1 e3
                  obtain ⟨g4, o4, p4, ev, _, hg4, hc41, hc42, hd4⟩ := (HVC10.out.no hkk).at (fun _ => rfl) (i := u) huc
                  injection ev with e4 e5 e6
                  injection e4 with e4
                  injection e4 with e4 e7
                  subst e4 e7 e6
                  have f3 : wy.cell? ⟨g3, o3 + u * 1 + 0, none⟩ = some (.int .u64 (bs[u] : Int)) := hd3 0 _ rfl
                  have f4 : wy.cell? ⟨gc, 0 + u * 1 + 0, none⟩ = some (.int .u64 (cl[u] : Int)) := hd4 0 _ rfl
                  rw [show o3 + u * 1 + 0 = o3 + u from by omega] at f3
                  rw [show 0 + u * 1 + 0 = u from by omega] at f4
                  have hgb : bs.getD ((u : Int)).toNat 0 = bs[u] := by rw [show ((u : Int)).toNat = u from rfl, List.getD_eq_getElem?_getD, List.getElem?_eq_getElem hub]; rfl
                  have hgc2 : cl.getD ((u : Int)).toNat 0 = cl[u] := by rw [show ((u : Int)).toNat = u from rfl, List.getD_eq_getElem?_getD, List.getElem?_eq_getElem huc]; rfl
                  rw [if_pos hpos, hgb, hgc2] at hmod
                  clear hd3 hd4 e2 e5 hgb hgc2
                  generalize bs[u] = bu at *
                  generalize cl[u] = cu at *
                  obtain ⟨dv, hdv, hdb⟩ := wrapU ((cu : Int) - (bu : Int))
                  have hw : IntKind.u64.wrap ((yv : Int) - (xv : Int)) = (dv : Int) := by
                    rw [← hdv, IntKind.wrap_u64, IntKind.wrap_u64]
                    exact hmod
                  have hg : decide ((0 : Int) ≤ (u : Int)) = true := decide_eq_true hpos
                  clear hmod hxv hyv hul hdb
                  go_wp2_with fail
                  go_quiet (fail)
                  go_wp2_with fail
                  go_quiet (fail)
                  go_wp2_with fail
                  go_roundw
                  case rel => exact ⟨k + 1, by go_num, hlt, by first | exact (hkk.drewN _).drewN _ | exact hkk.drewN _⟩
                  case measure => simp [intOf]; omega
              · obtain rfl : k = L := Nat.le_antisymm hk hge2
                have k8y := (k9.trans' k10).trans' hkk
                replace hkA := hkA.trans' hkk
                go_wp2_with fail
                refine (HWN.out _ k8y).mono ?_
                clear HWN
                rintro e w11 ⟨vq, rfl, hvq, k11⟩
                replace hkA := hkA.trans' k11
                obtain ⟨aq, nq, cq, rfl⟩ := FlO.sh hvq
                go_wp2_with fail
                go_ret
                exact ⟨rfl, hkA⟩
          · have hb0 : ((me : Int) != 0) = false := by rw [hme]; rfl
            have hb : ((ne : Int) != 0) = true := by rw [bne_iff_ne]; omega
            go_wp2_with fail
            go_ret
            exact ⟨rfl, hkA⟩
        · have hb : ((me : Int) != 0) = true := by rw [bne_iff_ne]; omega
          go_wp2_with fail
          go_ret
          exact ⟨rfl, hkA⟩
  · have hb : ((oe : Int) != 0) = true := by rw [bne_iff_ne]; omega
    go_wp2_with fail
    go_ret
    exact ⟨rfl, hkA⟩
end
end Go.Proofs.Ytbnahidopemkiaa
namespace Go.Dm.Ld
open Go Go.Dm.Oc
def ltr (x : UInt8) : BS := [UInt8.ofNat (97 + x.toNat % 12)]
def needW (b : BS) : List BS := (b.take 12).map ltr
def kindW (j : Nat) : Int := if j = 0 then 2 else 3
def fileW (nd : List BS) (j : Nat) : BS × BS := ([UInt8.ofNat (97 + j)], (buildM (libSp (kindW j) (needW (nd.getD j [])) [1])).2)
def filesW (nd : List BS) (n : Nat) : Fs := (List.range n).map (fileW nd)
theorem filesW_succ (nd : List BS) (n : Nat) : filesW nd (n + 1) = filesW nd n ++ [fileW nd n] := by
  unfold filesW
  rw [List.range_succ, List.map_append]
  rfl
theorem filesW_len (nd : List BS) (n : Nat) : (filesW nd n).length = n := by
  unfold filesW
  rw [List.length_map, List.length_range]
end Go.Dm.Ld
namespace Go.Proofs.Ytbnahidopemkiaa
open Go.RowKit Go.Dm Go.Dm.Oc Go.Dm.Ld
section
variable {A B : Nat → Prop} {w w1 wr w2 : World} {v v' fv fv' : Value}
theorem rd_bts {x : Value} {b : List UInt8} (h : Rd A w (.slice .u8) [x] b) : Bts A w x b := by
  obtain ⟨v2, css, e, h1, h2, h3⟩ := h
  injection e with e
  subst e
  have hf : css.flatten = b.map bv := by
    clear h1
    induction css generalizing b with
    | nil => rw [List.length_nil] at h2; rw [List.length_eq_zero_iff.1 h2.symm]; rfl
    | cons c r ih =>
      cases b with
      | nil => rw [List.length_cons, List.length_nil] at h2; omega
      | cons y q =>
        have h0 : c = [bv y] := h3 0 c y rfl rfl
        rw [List.flatten_cons, h0, ih (by simpa using h2) fun i c y hc hy => h3 (i + 1) c y hc hy]
        rfl
  rw [hf] at h1
  exact h1
theorem rd_bb {nd : List (List UInt8)} (h : Rd A w (.slice (.slice .u8)) [v] nd) : ∃ a c, v = .slice a nd.length c ∧ nd.length ≤ c ∧ c ≤ maxLen ∧
    ∀ i, i < nd.length → ∃ g off x, a = some ⟨g, off, none⟩ ∧ w.cell? ⟨g, off + i, none⟩ = some x ∧ g < w.heap.size ∧ Bts A w x (nd.getD i []) := by
  obtain ⟨v2, css, e, h1, h2, h3⟩ := h
  injection e with e
  subst e
  have h4 : ∀ i, i < css.length → ∃ x, css[i]? = some [x] ∧ Bts A w x (nd.getD i []) := fun i hi => by
    have hc := List.getElem?_eq_getElem hi
    have hn : nd[i]? = some (nd.getD i []) := by
      rw [List.getD_eq_getElem?_getD, List.getElem?_eq_getElem (by omega)]
      rfl
    have h5 := h3 i _ _ hc hn
    obtain ⟨x, css2, e, h6⟩ := h5
    have h7 := h3 i _ _ hc hn
    rw [e] at h7 hc
    exact ⟨x, hc, rd_bts h7⟩
  have hfl : ∀ i, i < css.length → ∃ x, css.flatten[i]? = some x ∧ Bts A w x (nd.getD i []) := fun i hi => by
    obtain ⟨x, hx, hb⟩ := h4 i hi
    refine ⟨x, ?_, hb⟩
    have h8 : ∀ c ∈ css, ∃ y, c = [y] := fun c hc => by
      obtain ⟨j, hj, e⟩ := List.mem_iff_getElem.1 hc
      obtain ⟨y, hy, _⟩ := h4 j hj
      rw [List.getElem?_eq_getElem hj] at hy
      injection hy with hy
      exact ⟨y, e ▸ hy⟩
    clear h1 h2 h3 h4 hb
    induction css generalizing i with
    | nil => simp at hi
    | cons c r ih =>
      obtain ⟨y, rfl⟩ := h8 c (List.mem_cons_self ..)
      cases i with
      | zero => injection hx with hx; injection hx with hx; subst hx; rfl
      | succ i => exact ih i (by simpa using hi) hx fun c hc => h8 c (List.mem_cons_of_mem _ hc)
  obtain ⟨a, c, e, hc1, hc2⟩ := Sl.shape h1
  refine ⟨a, c, e, hc1, hc2, fun i hi => ?_⟩
  obtain ⟨x, hx, hb⟩ := hfl i (by omega)
  obtain ⟨_, a2, c3, e2, _, _, _, hr⟩ := h1
  rw [e] at e2
  injection e2 with q1 q2 q3
  subst q1
  obtain ⟨g, off, e3, _, hg, hcell⟩ := hr (by
    have : (Sh.slice Sh.u8).n = 1 := rfl
    omega)
  exact ⟨g, off, x, e3, hcell i x hx, hg, hb⟩
/-- the files that are made -/
structure FsS (w1 wr : World) (fv : Value) (ps : List (Value × Value)) (fs : Fs) : Prop where
  row : FlO wr w1.heap.size 29 2 encP fv ps
  len : ps.length = fs.length
  ok : ∀ (i : Nat) (p : Value × Value) (f : BS × BS), ps[i]? = some p → fs[i]? = some f → FileOk (fun k => w1.heap.size ≤ k ∧ some k ≠ fv.ownBlock) wr p f
  kept : Keep (fun j => w1.heap.size ≤ j) w1 wr
theorem FsS.keep {ps : List (Value × Value)} {fs : Fs} (h : FsS w1 wr fv ps fs) (hk : Keep (fun j => wr.heap.size ≤ j) wr w2) : FsS w1 w2 fv ps fs :=
  ⟨h.row.same fun g hg => hk.block g (World.ownsRow.lt h.row g hg).2 fun e => absurd (World.ownsRow.lt h.row g hg).2 (Nat.not_lt.2 e), h.len,
   fun i p f hp hf => ⟨(h.ok i p f hp hf).1, Sl.keep (h.ok i p f hp hf).2 hk fun j hj _ e => absurd hj (Nat.not_lt.2 e)⟩, h.kept.trans hk fun j hj e => Nat.le_trans h.kept.size e⟩
theorem FsS.push {ps : List (Value × Value)} {fs : Fs} {p : Value × Value} {f : BS × BS} (h : FsS w1 wr fv ps fs) (ho : FlO w2 w1.heap.size 29 2 encP fv' (ps ++ [p])) (hk : Keep (fun j => some j = fv.ownBlock) wr w2)
    (hn : fv'.ownBlock = fv.ownBlock ∨ fv'.ownBlock = some (wr.heap.size + 1)) (hf : FileOk (fun k => w1.heap.size ≤ k ∧ some k ≠ fv.ownBlock ∧ k < wr.heap.size) wr p f) : FsS w1 w2 fv' (ps ++ [p]) (fs ++ [f]) := by
  have hA : ∀ {x : Value} {b : BS}, Bts (fun k => w1.heap.size ≤ k ∧ some k ≠ fv.ownBlock) wr x b → Bts (fun k => w1.heap.size ≤ k ∧ some k ≠ fv'.ownBlock) w2 x b := fun {x b} hb => by
    have h2 := Sl.keep (Sl.mono (B := fun k => (w1.heap.size ≤ k ∧ some k ≠ fv.ownBlock) ∧ k < wr.heap.size) hb fun k hk ha => ⟨ha, hk⟩) hk fun j _ ha e => ha.1.2 e
    refine Sl.mono h2 fun k _ ha => ⟨ha.1.1, fun e => ?_⟩
    rcases hn with e2 | e2
    · exact ha.1.2 (e.trans e2)
    · rw [e2] at e
      injection e with e
      have := ha.2
      omega
  refine ⟨ho, by rw [List.length_append, List.length_append, h.len]; rfl, fun i q g hq hg => ?_, h.kept.trans hk fun j hj e => (World.ownsRow.lt h.row j e.symm).1⟩
  rcases Nat.lt_or_ge i ps.length with hi | hi
  · rw [List.getElem?_append_left hi] at hq
    rw [List.getElem?_append_left (by rw [← h.len]; exact hi)] at hg
    exact ⟨(h.ok i q g hq hg).1, hA (h.ok i q g hq hg).2⟩
  · rw [List.getElem?_append_right hi] at hq
    rw [List.getElem?_append_right (by rw [← h.len]; exact hi), ← h.len] at hg
    obtain ⟨hi2, hqe⟩ := List.getElem?_eq_some_iff.1 hq
    have h0 : i - ps.length = 0 := by simpa using hi2
    rw [h0] at hq hg
    cases hq
    cases hg
    exact ⟨hf.1, hA (Sl.mono hf.2 fun k _ ha => ⟨ha.1, ha.2.1⟩)⟩
end
end Go.Proofs.Ytbnahidopemkiaa
namespace Go.Proofs.Ytbnahidopemkiaa
open Go.RowKit Go.Dm Go.Dm.Oc Go.Dm.Ld
@[reducible] def FileS : Sh := .pair .str (.pair (.slice .u8) .unit)
section
variable {A B : Nat → Prop} {w : World} {v : Value}
theorem rd_file {c : List Value} {y : FileS.Ty} (h : Rd A w FileS c y) : ∃ p : Value × Value, c = encP p ∧ FileOk A w p (y.1, y.2.1) := by
  obtain ⟨y1, y2, y3⟩ := y
  obtain ⟨c1, c2, rfl, ⟨rfl, _⟩, c3, c4, rfl, h2, rfl⟩ := h
  obtain ⟨x, css, rfl, h3⟩ := h2
  exact ⟨(_, x), rfl, rfl, rd_bts ⟨x, css, rfl, h3⟩⟩
theorem rd_files {xs : List FileS.Ty} (h : Rd A w (.slice FileS) [v] xs) : FiR A w v (xs.map fun y => (y.1, y.2.1)) := by
  obtain ⟨v2, css, e, h1, h2, h3⟩ := h
  injection e with e
  subst e
  have hc : ∀ (i : Nat) (hi : i < css.length) (hx : i < xs.length), ∃ p : Value × Value, css[i] = encP p ∧ FileOk A w p (xs[i].1, xs[i].2.1) := fun i hi hx => rd_file (h3 i _ _ (List.getElem?_eq_getElem hi) (List.getElem?_eq_getElem hx))
  have hps : ∀ (i : Nat) (hi : i < css.length) (hx : i < xs.length), css[i] = encP (css[i].getD 0 undef, css[i].getD 1 undef) ∧ FileOk A w (css[i].getD 0 undef, css[i].getD 1 undef) (xs[i].1, xs[i].2.1) := fun i hi hx => by
    obtain ⟨p, e1, e2⟩ := hc i hi hx
    rw [e1]
    exact ⟨rfl, e2⟩
  have hm : css = (css.map fun c => (c.getD 0 undef, c.getD 1 undef)).map encP := by
    refine List.ext_getElem (by simp) fun i i1 i2 => ?_
    rw [List.getElem_map, List.getElem_map]
    exact (hps i i1 (by omega)).1
  refine ⟨css.map fun c => (c.getD 0 undef, c.getD 1 undef), by rw [List.length_map, List.length_map, h2], ?_, fun i p f hp hf => ?_⟩
  · unfold Fl
    rw [List.length_map, h2, List.flatMap_def, ← hm]
    exact h1
  · obtain ⟨i1, e1⟩ := List.getElem?_eq_some_iff.1 hp
    obtain ⟨i2, e2⟩ := List.getElem?_eq_some_iff.1 hf
    rw [List.length_map] at i1 i2
    rw [List.getElem_map] at e1 e2
    subst e1 e2
    exact (hps i i1 i2).2
theorem rd8 {cs : Array Value} {y : List UInt8} (h : Rd A w (.arr 8 .u8) cs.toList y) : ∀ i, i < 8 → ∃ x : Nat, x < 256 ∧ cs[i]? = some (.int .u8 (x : Int)) := by
  obtain ⟨css, hc, h1, h2, h3⟩ := h
  intro i hi
  have hy : i < y.length := by rw [h2]; exact hi
  have hl : i < css.length := by rw [h1]; exact hi
  have e : css[i] = [bv y[i]] := h3 i _ _ (List.getElem?_eq_getElem hl) (List.getElem?_eq_getElem hy)
  refine ⟨y[i].toNat, y[i].toNat_lt, ?_⟩
  rw [← Array.getElem?_toList, hc]
  have hlen : ∀ c ∈ css, c.length = 1 := fun c hc => by
    obtain ⟨j, hj⟩ := List.mem_iff_getElem?.1 hc
    have hjl : j < css.length := (List.getElem?_eq_some_iff.1 hj).1
    have : c = [bv y[j]] := h3 j c _ hj (List.getElem?_eq_getElem (by omega))
    rw [this]
    rfl
  have := flatten_get (n := 1) hlen i 0 (by decide)
  rw [show i * 1 + 0 = i from by omega, List.getElem?_eq_getElem hl, e] at this
  rw [this]
  rfl
theorem relocmoves_rd {xs : List FileS.Ty} {c : Array Value} {y : List UInt8} (h : Rd A w (.slice FileS) [v] xs) (h2 : Rd B w (.arr 8 .u8) c.toList y) :
    Calls Try.prog 8 #[v, .agg c] w fun e w' => e = .returned (.bool true) ∧ Keep No w w' := relocmoves_any (rd_files h) (rd8 h2)
end
end Go.Proofs.Ytbnahidopemkiaa
