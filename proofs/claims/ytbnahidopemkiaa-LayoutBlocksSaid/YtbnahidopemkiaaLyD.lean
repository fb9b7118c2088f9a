/- Chapter 16: the statements' files. Chapter 16: the statements' examples, by the plain models. Chapter 16: the statements' examples. Chapter 16: the block of any modules, and the module of any address. No condition. -/
import Derived.Test.YtbnahidopemkiaaLyA
import Derived.Test.YtbnahidopemkiaaOct
import Derived.BigQuiet
set_option linter.unusedVariables false
set_option linter.unusedSimpArgs false
namespace Go.Proofs.Ytbnahidopemkiaa
open Go.RowKit Go.Dm Go.Dm.Oc Go.Dm.Ld
section
variable {A B : Nat → Prop} {w : World} {v : Value}
set_option maxRecDepth 100000 in
set_option maxHeartbeats 4000000 in
theorem files16_any (a0 a1 a2 t0 t1 t2 : Nat) (ha0 : a0 < 256) (ha1 : a1 < 256) (ha2 : a2 < 256) (ht0 : t0 < 256) (ht1 : t1 < 256) (ht2 : t2 < 256) :
    Calls Try.prog 15 #[.agg #[.int .u8 (a0 : Int), .int .u8 (a1 : Int), .int .u8 (a2 : Int)], .agg #[.int .u8 (t0 : Int), .int .u8 (t1 : Int), .int .u8 (t2 : Int)]] w fun e w' => ∃ v', e = .returned v' ∧ FiR (fun _ => True) w' v' (fs16 a0 a1 a2 t0 t1 t2) ∧ Keep No w w' := by
  go_enter Try.func15, Try.ntmps15
  go_upto_region 1 with fail
  have hkW1 : Keep No w (w.alloc (.cells #[.int .u8 (a0 : Int), .int .u8 (a1 : Int), .int .u8 (a2 : Int)] 52)) := (Keep.refl _ _).alloc _
  have hBW1 : Blk (w.alloc (.cells #[.int .u8 (a0 : Int), .int .u8 (a1 : Int), .int .u8 (a2 : Int)] 52)) w.heap.size #[.int .u8 (a0 : Int), .int .u8 (a1 : Int), .int .u8 (a2 : Int)] 52 := Blk.new _ _ _
  have hzW1 : (w.alloc (.cells #[.int .u8 (a0 : Int), .int .u8 (a1 : Int), .int .u8 (a2 : Int)] 52)).heap.size = w.heap.size + 1 := World.size_alloc _ _
  generalize w.alloc (.cells #[.int .u8 (a0 : Int), .int .u8 (a1 : Int), .int .u8 (a2 : Int)] 52) = W1 at *
  have hkW2 : Keep No W1 (W1.alloc (.cells #[.int .u8 (t0 : Int), .int .u8 (t1 : Int), .int .u8 (t2 : Int)] 52)) := (Keep.refl _ _).alloc _
  have hBW2 : Blk (W1.alloc (.cells #[.int .u8 (t0 : Int), .int .u8 (t1 : Int), .int .u8 (t2 : Int)] 52)) W1.heap.size #[.int .u8 (t0 : Int), .int .u8 (t1 : Int), .int .u8 (t2 : Int)] 52 := Blk.new _ _ _
  have hzW2 : (W1.alloc (.cells #[.int .u8 (t0 : Int), .int .u8 (t1 : Int), .int .u8 (t2 : Int)] 52)).heap.size = W1.heap.size + 1 := World.size_alloc _ _
  generalize W1.alloc (.cells #[.int .u8 (t0 : Int), .int .u8 (t1 : Int), .int .u8 (t2 : Int)] 52) = W2 at *
  have hA := hBW1.keep hkW2 fun h => h
  have hT := hBW2
  have hk := hkW1.trans' hkW2
  rw [hzW1] at hT
  obtain ⟨qa, hqa⟩ : ∃ q, q = w.heap.size := ⟨_, rfl⟩
  rw [← hqa] at hA hT ⊢
  clear hBW1 hkW1 hzW1 hBW2 hkW2 hzW2 hqa
  have c0 := hA.cell 0
  have c1 := hA.cell 1
  have c2 := hA.cell 2
  have c3 := hT.cell 0
  have c4 := hT.cell 1
  have c5 := hT.cell 2
  refine wp_region_sig (fun w' => w'.cell? ⟨qa, 0, none⟩ = some (.int .u8 (a0 : Int)) ∧ w'.cell? ⟨qa, 1, none⟩ = some (.int .u8 (a1 : Int)) ∧ w'.cell? ⟨qa, 2, none⟩ = some (.int .u8 (a2 : Int)) ∧ w'.cell? ⟨qa + 1, 0, none⟩ = some (.int .u8 (t0 : Int)) ∧ w'.cell? ⟨qa + 1, 1, none⟩ = some (.int .u8 (t1 : Int)) ∧ w'.cell? ⟨qa + 1, 2, none⟩ = some (.int .u8 (t2 : Int))) (fun j => decide (j ≤ 20)) [(1, true), (2, true), (3, true), (4, true), (7, true), (8, true), (9, true), (10, true), (13, true), (14, true), (15, true), (16, true), (0, false), (5, false), (6, true), (11, false), (12, true), (17, false), (18, true), (19, false), (20, false)] (by kernel_rfl) (by kernel_rfl) (by intro c a d v w h; cases d <;> exact h) ⟨c0, c1, c2, c3, c4, c5⟩ ?_
  apply sig_still (o := ⟨some 6, _, _, _, _, _⟩) rfl rfl
  · intro w' hS
    obtain ⟨q1, q2, q3, q4, q5, q6⟩ := hS
    first | (go_simp; done) | (go_simp; rfl) | rfl
  go_frame
  apply sig_still (o := ⟨some 7, _, _, _, _, _⟩) rfl rfl
  · intro w' hS
    obtain ⟨q1, q2, q3, q4, q5, q6⟩ := hS
    first | (go_simp; done) | (go_simp; rfl) | rfl
  go_frame
  apply sig_still (o := ⟨some 8, _, _, _, _, _⟩) rfl rfl
  · intro w' hS
    obtain ⟨q1, q2, q3, q4, q5, q6⟩ := hS
    first | (go_simp; done) | (go_simp; rfl) | rfl
  go_frame
  apply sig_still (o := ⟨some 9, _, _, _, _, _⟩) rfl rfl
  · intro w' hS
    obtain ⟨q1, q2, q3, q4, q5, q6⟩ := hS
    first | (go_simp; done) | (go_simp; rfl) | rfl
  go_frame
  apply sig_still (o := ⟨some 12, _, _, _, _, _⟩) rfl rfl
  · intro w' hS
    obtain ⟨q1, q2, q3, q4, q5, q6⟩ := hS
    first | (go_simp; done) | (go_simp; rfl) | rfl
  go_frame
  apply sig_still (o := ⟨some 13, _, _, _, _, _⟩) rfl rfl
  · intro w' hS
    obtain ⟨q1, q2, q3, q4, q5, q6⟩ := hS
    first | (go_simp; done) | (go_simp; rfl) | rfl
  go_frame
  apply sig_still (o := ⟨some 14, _, _, _, _, _⟩) rfl rfl
  · intro w' hS
    obtain ⟨q1, q2, q3, q4, q5, q6⟩ := hS
    first | (go_simp; done) | (go_simp; rfl) | rfl
  go_frame
  apply sig_still (o := ⟨some 15, _, _, _, _, _⟩) rfl rfl
  · intro w' hS
    obtain ⟨q1, q2, q3, q4, q5, q6⟩ := hS
    first | (go_simp; done) | (go_simp; rfl) | rfl
  go_frame
  apply sig_still (o := ⟨some 18, _, _, _, _, _⟩) rfl rfl
  · intro w' hS
    obtain ⟨q1, q2, q3, q4, q5, q6⟩ := hS
    first | (go_simp; done) | (go_simp; rfl) | rfl
  go_frame
  apply sig_still (o := ⟨some 19, _, _, _, _, _⟩) rfl rfl
  · intro w' hS
    obtain ⟨q1, q2, q3, q4, q5, q6⟩ := hS
    first | (go_simp; done) | (go_simp; rfl) | rfl
  go_frame
  apply sig_still (o := ⟨some 20, _, _, _, _, _⟩) rfl rfl
  · intro w' hS
    obtain ⟨q1, q2, q3, q4, q5, q6⟩ := hS
    first | (go_simp; done) | (go_simp; rfl) | rfl
  go_frame
  apply sig_still (o := ⟨some 21, _, _, _, _, _⟩) rfl rfl
  · intro w' hS
    obtain ⟨q1, q2, q3, q4, q5, q6⟩ := hS
    first | (go_simp; done) | (go_simp; rfl) | rfl
  go_frame
  clear c0 c1 c2 c3 c4 c5
  refine sig_eff (o := ⟨some 5, _, _, _, _, _⟩) rfl rfl (fun K hKe => ?_)
  go_wp2_with fail
  have kW : Keep No W2 (W2.alloc (.cells #[.string ⟨#[120]⟩, .string ⟨#[121]⟩] 9)).drew := ((Keep.refl _ _).alloc _).drew
  have hBs : Blk (W2.alloc (.cells #[.string ⟨#[120]⟩, .string ⟨#[121]⟩] 9)).drew W2.heap.size #[.string ⟨#[120]⟩, .string ⟨#[121]⟩] 9 := (Blk.new W2 _ _).keep (Keep.refl No _).drew fun h => h
  replace hA := hA.keep kW fun h => h
  replace hT := hT.keep kW fun h => h
  replace hk := hk.trans' kW
  refine ⟨fun _ => ⟨hA.cell 0, hA.cell 1, hA.cell 2, hT.cell 0, hT.cell 1, hT.cell 2⟩, ?_⟩
  generalize (W2.alloc (.cells #[.string ⟨#[120]⟩, .string ⟨#[121]⟩] 9)).drew = wc at *
  clear kW
  refine sig_eff (o := ⟨some 10, _, _, _, _, _⟩) rfl rfl (fun K hKe => ?_)
  go_wp2_with fail
  have hcall := lib16_any (w := wc) 2 [[120], [121]] a0 t0 ha0 ht0 (strs_blk hBs rfl rfl (by decide)) (by decide) (by decide)
  obtain ⟨b0, hb⟩ : ∃ b, b = (buildM (sp16 2 [[120], [121]] a0 t0)).2 := ⟨_, rfl⟩
  rw [← hb] at hcall
  have HB0 := Lib.hid hb
  clear hb
  refine hcall.mono ?_
  clear hcall
  rintro e wn ⟨v3, rfl, h3, k3⟩
  have hb0 : Bts (fun _ => True) wn v3 b0 := Sl.mono (FlO.bts h3) fun _ _ _ => trivial
  obtain ⟨x0, n0, m0, rfl⟩ := FlO.sh h3
  replace hA := hA.keep k3 fun h => h
  replace hT := hT.keep k3 fun h => h
  replace hk := hk.trans' k3
  clear h3
  refine hKe _ _ ⟨fun _ => ⟨hA.cell 0, hA.cell 1, hA.cell 2, hT.cell 0, hT.cell 1, hT.cell 2⟩, ?_⟩
  generalize wn = w3 at *
  clear hBs
  apply sig_still (o := ⟨some 11, _, _, _, _, _⟩) rfl rfl
  · intro w' hS
    obtain ⟨q1, q2, q3, q4, q5, q6⟩ := hS
    first | (go_simp; done) | (go_simp; rfl) | rfl
  go_frame
  refine sig_eff (o := ⟨some 16, _, _, _, _, _⟩) rfl rfl (fun K hKe => ?_)
  go_wp2_with fail
  have hcall := lib16_any (w := w3) (v := .slice none 0 0) (A := fun _ => True) 3 [] a1 t1 ha1 ht1 Fl.nil (by decide) (by decide)
  obtain ⟨b1, hb⟩ : ∃ b, b = (buildM (sp16 3 [] a1 t1)).2 := ⟨_, rfl⟩
  rw [← hb] at hcall
  have HB1 := Lib.hid hb
  clear hb
  refine hcall.mono ?_
  clear hcall
  rintro e wn ⟨v4, rfl, h3, k3⟩
  have hb1 : Bts (fun _ => True) wn v4 b1 := Sl.mono (FlO.bts h3) fun _ _ _ => trivial
  obtain ⟨x1, n1, m1, rfl⟩ := FlO.sh h3
  replace hA := hA.keep k3 fun h => h
  replace hT := hT.keep k3 fun h => h
  replace hk := hk.trans' k3
  clear h3
  refine hKe _ _ ⟨fun _ => ⟨hA.cell 0, hA.cell 1, hA.cell 2, hT.cell 0, hT.cell 1, hT.cell 2⟩, ?_⟩
  generalize wn = w4 at *
  replace hb0 := Sl.keep hb0 k3 fun _ _ _ h => h
  clear k3
  apply sig_still (o := ⟨some 17, _, _, _, _, _⟩) rfl rfl
  · intro w' hS
    obtain ⟨q1, q2, q3, q4, q5, q6⟩ := hS
    first | (go_simp; done) | (go_simp; rfl) | rfl
  go_frame
  refine sig_eff (o := ⟨some 22, _, _, _, _, _⟩) rfl rfl (fun K hKe => ?_)
  go_wp2_with fail
  have hcall := lib16_any (w := w4) (v := .slice none 0 0) (A := fun _ => True) 3 [] a2 t2 ha2 ht2 Fl.nil (by decide) (by decide)
  obtain ⟨b2, hb⟩ : ∃ b, b = (buildM (sp16 3 [] a2 t2)).2 := ⟨_, rfl⟩
  rw [← hb] at hcall
  have HB2 := Lib.hid hb
  clear hb
  refine hcall.mono ?_
  clear hcall
  rintro e wn ⟨v5, rfl, h3, k3⟩
  have hb2 : Bts (fun _ => True) wn v5 b2 := Sl.mono (FlO.bts h3) fun _ _ _ => trivial
  obtain ⟨x2, n2, m2, rfl⟩ := FlO.sh h3
  replace hA := hA.keep k3 fun h => h
  replace hT := hT.keep k3 fun h => h
  replace hk := hk.trans' k3
  clear h3
  refine hKe _ _ ⟨fun _ => ⟨hA.cell 0, hA.cell 1, hA.cell 2, hT.cell 0, hT.cell 1, hT.cell 2⟩, ?_⟩
  generalize wn = w5 at *
  replace hb0 := Sl.keep hb0 k3 fun _ _ _ h => h
  replace hb1 := Sl.keep hb1 k3 fun _ _ _ h => h
  clear k3
  apply sig_still (o := ⟨some 23, _, _, _, _, _⟩) rfl rfl
  · intro w' hS
    obtain ⟨q1, q2, q3, q4, q5, q6⟩ := hS
    first | (go_simp; done) | (go_simp; rfl) | rfl
  go_frame
  refine sig_eff (o := ⟨some 24, _, _, _, _, _⟩) rfl rfl (fun K hKe => ?_)
  go_wp2_with fail
  have k6 : Keep No w5 (w5.alloc (.cells #[.string ⟨#[109]⟩, .slice x0 n0 m0, .string ⟨#[120]⟩, .slice x1 n1 m1, .string ⟨#[121]⟩, .slice x2 n2 m2] 29)) := (Keep.refl _ _).alloc _
  have hB6 := Blk.new w5 #[.string ⟨#[109]⟩, .slice x0 n0 m0, .string ⟨#[120]⟩, .slice x1 n1 m1, .string ⟨#[121]⟩, .slice x2 n2 m2] 29
  replace hA := hA.keep k6 fun h => h
  replace hT := hT.keep k6 fun h => h
  replace hk := hk.trans' k6
  refine ⟨fun _ => ⟨hA.cell 0, hA.cell 1, hA.cell 2, hT.cell 0, hT.cell 1, hT.cell 2⟩, ?_⟩
  generalize w5.alloc (.cells #[.string ⟨#[109]⟩, .slice x0 n0 m0, .string ⟨#[120]⟩, .slice x1 n1 m1, .string ⟨#[121]⟩, .slice x2 n2 m2] 29) = w6 at *
  have hf : FlO w6 w5.heap.size 29 2 encP (.slice (some ⟨w5.heap.size, 0, none⟩) 3 3) [(.string ⟨#[109]⟩, .slice x0 n0 m0), (.string ⟨#[120]⟩, .slice x1 n1 m1), (.string ⟨#[121]⟩, .slice x2 n2 m2)] :=
    own_blk hB6 (Nat.le_refl _) (n := 3) (size := 2) rfl (by unfold maxLen; omega)
  have hfir := fir_own (fs := [([109], b0), ([120], b1), ([121], b2)]) hf rfl
      (fir_one (fok (n := [109]) (Sl.keep hb0 k6 fun _ _ _ h => h)) (fir_one (fok (n := [120]) (Sl.keep hb1 k6 fun _ _ _ h => h)) (fir_one (fok (n := [121]) (Sl.keep hb2 k6 fun _ _ _ h => h)) fir_no)))
  clear hB6 hf hb0 hb1 hb2 k6
  refine sig_eff (o := ⟨some 4, _, _, _, _, _⟩) rfl rfl (fun K hKe => ?_)
  go_wp2_with fail
  refine ⟨fun _ => ⟨hA.cell 0, hA.cell 1, hA.cell 2, hT.cell 0, hT.cell 1, hT.cell 2⟩, ?_⟩
  refine sig_nil ?_
  clear hA hT
  go_wp2_with fail
  go_ret
  rw [HB0.out, HB1.out, HB2.out] at hfir
  exact ⟨_, rfl, hfir, hk⟩
end
end Go.Proofs.Ytbnahidopemkiaa
namespace Go.Dm.Ld
open Go Go.Dm.Oc
def aw16 : Nat × List (BS × Im) := orderM [109] (fs16 0 0 0 1 0 9)
def aw16m : Nat × List Md := layL aw16.2 (basesM aw16.2)
set_option maxRecDepth 100000 in
theorem aw16_o : aw16.1 = 0 ∧ aw16.2.length = 3 := by decide +kernel
set_option maxRecDepth 100000 in
theorem aw16_b : (basesM aw16.2).length = 3 ∧ (basesM aw16.2).head? = some 4096 := by decide +kernel
set_option maxRecDepth 100000 in
theorem aw16_m : aw16m.1 = 0 ∧ aw16m.2.length = 3 ∧ (aw16m.2.map (·.tls)) = [true, false, true] ∧ (aw16m.2.map (·.off))[2]? = some 8 ∧ blockM aw16m.2 = 24 ∧ ofM aw16m.2 4096 = 0 ∧ ofM aw16m.2 0 = -1 := by decide +kernel
set_option maxRecDepth 100000 in
theorem aw16_n : (layL aw16.2 []).1 = 1 := by decide +kernel
end Go.Dm.Ld
namespace Go.Proofs.Ytbnahidopemkiaa
open Go.RowKit Go.Dm Go.Dm.Oc Go.Dm.Ld
section
variable {A B : Nat → Prop} {w : World} {v : Value}
theorem basesGo_lt : ∀ (us : List (BS × Im)) (i a : Nat) (out : List Nat), a < 18446744073709551616 → (∀ b ∈ out, b < 18446744073709551616) → ∀ b ∈ basesGo us i a out, b < 18446744073709551616
  | [], _, _, _, _, h => h
  | u :: r, i, a, out, ha, h => by
    unfold basesGo
    dsimp only
    refine basesGo_lt r _ _ _ (Nat.mod_lt _ (by decide)) fun b hb => ?_
    rcases List.mem_append.1 hb with hb | hb
    · exact h b hb
    · rw [List.mem_singleton.1 hb]
      split
      · exact Nat.mod_lt _ (by decide)
      · exact ha
theorem basesM_lt (us : List (BS × Im)) : ∀ b ∈ basesM us, b < 18446744073709551616 := basesGo_lt us 0 4096 [] (by decide) fun b hb => by cases hb
theorem fir_sh {fs : Fs} (h : FiR A w v fs) : ∃ a n c, v = .slice a n c := by
  obtain ⟨ps, _, h2, _⟩ := h
  obtain ⟨a, c, e, _⟩ := h2.shape
  exact ⟨_, _, _, e⟩
theorem fs16_le (a0 a1 a2 t0 t1 t2 : Nat) : ∀ f ∈ fs16 a0 a1 a2 t0 t1 t2, f.2.length ≤ 1099511627776 := fun f hf => by
  unfold fs16 at hf
  simp only [List.mem_cons, List.not_mem_nil, or_false] at hf
  rcases hf with rfl | rfl | rfl <;> exact Nat.le_trans (buildM_le _) (by decide)
theorem md_at {l : List Md} {m : Md} {i : Nat} (hv : Fl A w 7 encMd v l) (hi : l[i]? = some m) : ∃ g off c, v = .slice (some ⟨g, off, none⟩) l.length c ∧ g < w.heap.size ∧ l.length ≤ c ∧ c ≤ maxLen ∧ ∀ j u, (encMd m)[j]? = some u → w.cell? ⟨g, off + i * 7 + j, none⟩ = some u := by
  obtain ⟨hlt, he⟩ := List.getElem?_eq_some_iff.1 hi
  obtain ⟨g, off, c, ev, _, hg, h1, h2, hc⟩ := hv.at encMd_len hlt
  rw [he] at hc
  exact ⟨g, off, c, ev, hg, h1, h2, hc⟩
set_option maxRecDepth 100000 in
set_option maxHeartbeats 600000 in
theorem awake16_any : Calls Try.prog 14 #[] w fun e w' => e = .returned (.bool true) ∧ Keep No w w' := by
  go_enter Try.func14, Try.ntmps14
  go_wp2_with fail
  refine (files16_any (w := w) 0 0 0 1 0 9 (by decide) (by decide) (by decide) (by decide) (by decide) (by decide)).mono ?_
  rintro e w2 ⟨v2, rfl, hf, hkA⟩
  have hor := clorder_any (w := w2) [109] (by decide) hf (fs16_le 0 0 0 1 0 9)
  obtain ⟨a2, n2, c2, rfl⟩ := fir_sh hf
  have hsg := orderM_segs [109] (fs16 0 0 0 1 0 9)
  have e1 : orderM [109] (fs16 0 0 0 1 0 9) = aw16 := rfl
  rw [e1] at hor hsg
  obtain ⟨o, ho⟩ : ∃ o, o = aw16 := ⟨_, rfl⟩
  have h1 := aw16_o
  have h2 := aw16_b
  have h3 := aw16_m
  have h4 := aw16_n
  unfold aw16m at h3
  rw [← ho] at hor hsg h1 h2 h3 h4
  obtain ⟨oe, us⟩ := o
  obtain ⟨h1a, h1b⟩ := h1
  dsimp only at h1a h1b h2 h3 h4 hor hsg
  subst h1a
  have HB := Lib.hid h2
  have HM := Lib.hid h3
  have HE := Lib.hid h4
  have HSG := Lib.hid hsg
  have HL := Lib.hid h1b
  clear hf e1 ho h2 h3 h4 hsg h1b
  go_wp2_with fail
  refine hor.mono ?_
  clear hor
  rintro e w3 ⟨vo, ps, rfl, hvo, hus, k3⟩
  replace hkA := hkA.trans' k3
  obtain ⟨ao, no, co, rfl⟩ : ∃ a n c, vo = .slice a n c := by
    obtain ⟨a, c, e, _⟩ := hvo.shape
    exact ⟨_, _, _, e⟩
  clear k3
  have hba := lbases_any (w := w3) hvo hus (fun u hu => (HSG.out u hu).span) (by rw [HL.out]; decide)
  have HVO := Lib.hid hvo
  have HUS := Lib.hid hus
  clear hvo hus
  have hblt := basesM_lt us
  obtain ⟨bs, hbs⟩ : ∃ b, b = basesM us := ⟨_, rfl⟩
  rw [← hbs] at hba HB HM hblt
  have HBL := Lib.hid hblt
  clear hbs hblt
  obtain ⟨mm, hmm⟩ : ∃ m, m = layL us bs := ⟨_, rfl⟩
  rw [← hmm] at HM
  have HMM := Lib.hid hmm
  clear hmm
  obtain ⟨hb3, hb0⟩ := HB.out
  obtain ⟨b0, r, hbe⟩ : ∃ b r, bs = b :: r := by
    cases bs with
    | nil => cases hb0
    | cons b r => exact ⟨b, r, rfl⟩
  go_wp2_with fail
  refine hba.mono ?_
  clear hba
  rintro e w4 ⟨vb, rfl, hvb, k4⟩
  replace hkA := hkA.trans' k4
  obtain ⟨gb, ob, cb, evb, _, hgb, hcb1, hcb2, hbc⟩ := hvb.fl.at (fun _ => rfl) (i := 0) (by rw [hb3]; decide)
  subst evb
  have cb0 := hbc 0 (.int .u64 (4096 : Int)) (by
    have h0 : bs[0]'(by rw [hb3]; decide) = 4096 := by
      have h5 : bs[0]? = some 4096 := by rw [← List.head?_eq_getElem?]; exact hb0
      obtain ⟨_, h6⟩ := List.getElem?_eq_some_iff.1 h5
      exact h6
    rw [h0]
    rfl)
  rw [show ob + 0 * 1 + 0 = ob from by omega] at cb0
  have hpl := lplace_any (w := w4) (HVO.out.no k4) (HUS.out.keep k4 fun _ _ _ h => h) HSG.out (by rw [HL.out]; decide) hvb.fl HBL.out
  have hpl2 := fun W (hk : Keep No w4 W) => lplace_any (w := W) (bases := []) (B := fun _ => True) ((HVO.out.no k4).no hk) ((HUS.out.keep k4 fun _ _ _ h => h).keep hk fun _ _ _ h => h) HSG.out (by rw [HL.out]; decide) Fl.nil (fun b hb => by cases hb)
  have HPL2 := Lib.hid hpl2
  rw [← HMM.out] at hpl
  have hcb3 : cb ≤ 9223372036854775807 := by unfold maxLen at hcb2; omega
  rw [hb3] at hcb1 hpl ⊢
  clear hbc hvb k4 hbe hpl2 hcb2
  go_wp2_with fail
  refine hpl.mono ?_
  clear hpl
  rintro e w5 ⟨vm, rfl, hvm, hmd, k5⟩
  replace hkA := hkA.trans' k5
  replace cb0 := (k5.cell (p := ⟨gb, ob, none⟩) hgb fun h => h).trans cb0
  replace hgb := Nat.lt_of_lt_of_le hgb k5.size
  obtain ⟨hm1, hm2, hm3, hm4, hm5, hm6, hm7⟩ := HM.out
  obtain ⟨me, ml⟩ := mm
  dsimp only at hm1 hm2 hm3 hm4 hm5 hm6 hm7 hvm hmd
  subst hm1
  obtain ⟨x0, x1, x2, hml⟩ : ∃ x0 x1 x2, ml = [x0, x1, x2] := by
    match ml, hm2 with
    | [x0, x1, x2], _ => exact ⟨x0, x1, x2, rfl⟩
  have g0 := md_at hvm.fl (i := 0) (m := x0) (by rw [hml]; rfl)
  have g1 := md_at hvm.fl (i := 1) (m := x1) (by rw [hml]; rfl)
  have g2 := md_at hvm.fl (i := 2) (m := x2) (by rw [hml]; rfl)
  rw [hml] at hm3 hm4
  injection hm3 with q0 hm3
  injection hm3 with q1 hm3
  injection hm3 with q2 hm3
  injection hm4 with q3
  have q0 : x0.tls = true := q0
  have q1 : x1.tls = false := q1
  have q3 : x2.off = 8 := q3
  obtain ⟨gm, om, cm, rfl, hgm, hcm1, hcm2, hc0⟩ := g0
  obtain ⟨gm1, om1, cm1, ev, _, _, _, hc1⟩ := g1
  injection ev with ev el e3
  injection ev with ev
  injection ev with e1 e2
  subst e1 e2 e3
  clear el
  obtain ⟨gm1, om1, cm1, ev, _, _, _, hc2⟩ := g2
  injection ev with ev el e3
  injection ev with ev
  injection ev with e1 e2
  subst e1 e2 e3
  clear el
  have d0 := hc0 4 (.bool true) (by rw [← q0]; rfl)
  have d1 := hc1 4 (.bool false) (by rw [← q1]; rfl)
  have d2 := hc2 5 (.int .u64 (8 : Int)) (by
    have : (encMd x2)[5]? = some (.int .u64 (x2.off : Int)) := rfl
    rw [this, q3]
    rfl)
  rw [show om + 0 * 7 + 4 = om + 4 from by omega] at d0
  rw [show om + 1 * 7 + 4 = om + 11 from by omega] at d1
  rw [show om + 2 * 7 + 5 = om + 19 from by omega] at d2
  have hcm3 : cm ≤ 9223372036854775807 := by unfold maxLen at hcm2; omega
  have hp2 := HPL2.out w5 k5
  have HVM := Lib.hid hvm
  have HMD := Lib.hid hmd
  have H5 := Lib.hid (And.intro hm5 (And.intro hm6 hm7))
  rw [hm2] at hcm1 ⊢
  have HM2 := Lib.hid hm2
  clear hc0 hc1 hc2 hml hm2 hm3 hm5 hm6 hm7 hvm hmd q0 q1 q2 q3 k5 hcm2 HM HMM
  obtain ⟨pe, hpe⟩ : ∃ p, p = layL us [] := ⟨_, rfl⟩
  rw [← hpe] at hp2
  have hpe1 : pe.1 = 1 := by rw [hpe]; exact HE.out
  rw [hpe1] at hp2
  clear hpe hpe1
  go_wp2_with fail
  refine hp2.mono ?_
  clear hp2
  rintro e w6 ⟨vn, rfl, hvn, _, k6⟩
  replace hkA := hkA.trans' k6
  replace cb0 := (k6.cell (p := ⟨gb, ob, none⟩) hgb fun h => h).trans cb0
  replace d0 := (k6.cell (p := ⟨gm, om + 4, none⟩) hgm fun h => h).trans d0
  replace d1 := (k6.cell (p := ⟨gm, om + 11, none⟩) hgm fun h => h).trans d1
  replace d2 := (k6.cell (p := ⟨gm, om + 19, none⟩) hgm fun h => h).trans d2
  obtain ⟨an, nn, cn, rfl⟩ := FlO.sh hvn
  have hVM6 := HVM.out.fl.no k6
  rw [HM2.out] at hVM6
  have hmem : ∀ m ∈ ml, m.mem ≤ 1099511627776 := fun m hm => by have := (HMD.out m hm).2.2; omega
  have hblk := fun W (hk : Keep No w6 W) => lblock_any (w := W) ml (hVM6.no hk) hmem (by rw [HM2.out]; decide)
  have hof := fun W (hk : Keep No w6 W) (x : Nat) => lof_any (w := W) ml x (hVM6.no hk)
  rw [H5.out.1] at hblk
  have HBLK := Lib.hid hblk
  have HOF := Lib.hid hof
  clear hblk hof hmem hVM6 hvn k6
  go_wp2_with fail
  refine (HBLK.out w6 (Keep.refl _ _)).mono ?_
  rintro e w7 ⟨rfl, k7⟩
  have hofa := HOF.out w7 k7 4096
  rw [H5.out.2.1] at hofa
  go_wp2_with fail
  refine hofa.mono ?_
  clear hofa
  rintro e w8 ⟨rfl, k8⟩
  have hofb := HOF.out w8 (k7.trans' k8) 0
  rw [H5.out.2.2] at hofb
  go_wp2_with fail
  refine hofb.mono ?_
  clear hofb
  rintro e w9 ⟨rfl, k9⟩
  have hkF := hkA.trans' ((k7.trans' k8).trans' k9)
  go_wp2_with fail
  go_ret
  exact ⟨rfl, hkF⟩
end
end Go.Proofs.Ytbnahidopemkiaa
namespace Go.Proofs.Ytbnahidopemkiaa
open Go.RowKit Go.Dm Go.Dm.Oc Go.Dm.Ld
@[reducible] def MdS : Sh := .pair .str (.pair (.int .u64) (.pair (.int .u64) (.pair (.int .u64) (.pair .bool (.pair (.int .u64) (.pair (.int .u64) .unit))))))
def toMd (y : MdS.Ty) : Md := ⟨y.1, y.2.1.toNat, y.2.2.1.toNat, y.2.2.2.1.toNat, y.2.2.2.2.1, y.2.2.2.2.2.1.toNat, y.2.2.2.2.2.2.1.toNat⟩
theorem u64_n {a : Int} (h : (Lit.int .u64 a).wf = true) : a = ((a.toNat : Nat) : Int) ∧ a.toNat < 18446744073709551616 := by
  simp [Lit.wf, IntKind.min, IntKind.max, IntKind.signed, IntKind.bits] at h
  omega
theorem r16m_info : (Try.prog.info? 67).map (fun i => (i.zero, i.size, i.bytes)) = some (some (.agg #[.string ⟨#[]⟩, .int .u64 0, .int .u64 0, .int .u64 0, .bool false, .int .u64 0, .int .u64 0]), 7, 64) := by kernel_rfl
section
variable {A B : Nat → Prop} {w : World} {v : Value}
theorem rd_md {c : List Value} {y : MdS.Ty} (h : Rd A w MdS c y) : c = encMd (toMd y) ∧ (toMd y).mem < 18446744073709551616 := by
  obtain ⟨y1, y2, y3, y4, y5, y6, y7, y8⟩ := y
  obtain ⟨_, _, rfl, ⟨rfl, _⟩, _, _, rfl, ⟨rfl, h2⟩, _, _, rfl, ⟨rfl, h3⟩, _, _, rfl, ⟨rfl, h4⟩, _, _, rfl, rfl, _, _, rfl, ⟨rfl, h6⟩, _, _, rfl, ⟨rfl, h7⟩, rfl⟩ := h
  have e2 := (u64_n h2).1
  have e3 := (u64_n h3).1
  have e4 := (u64_n h4).1
  have e6 := (u64_n h6).1
  have e7 := (u64_n h7).1
  refine ⟨?_, (u64_n h7).2⟩
  unfold encMd toMd
  dsimp only at e2 e3 e4 e6 e7 ⊢
  rw [← e2, ← e3, ← e4, ← e6, ← e7]
  rfl
theorem rd_mods {xs : List MdS.Ty} (h : Rd A w (.slice MdS) [v] xs) : Fl A w 7 encMd v (xs.map toMd) := by
  obtain ⟨v2, css, e, h1, h2, h3⟩ := h
  injection e with e
  subst e
  have hf : css = (xs.map toMd).map encMd := by
    refine List.ext_getElem (by rw [List.length_map, List.length_map, h2]) fun i i1 i2 => ?_
    have i3 : i < xs.length := by omega
    rw [List.getElem_map, List.getElem_map]
    exact (rd_md (h3 i _ _ (List.getElem?_eq_getElem i1) (List.getElem?_eq_getElem i3))).1
  unfold Fl
  rw [List.length_map]
  have hn : (MdS.n) = 7 := rfl
  rw [hn, hf] at h1
  rw [List.flatMap_def]
  exact h1
set_option maxRecDepth 100000 in
set_option maxHeartbeats 4000000 in
theorem layoutblocks_any (l : List Md) (addr : Nat) (hv : Fl A w 7 encMd v l) : Calls Try.prog 6 #[v, .int .u64 (addr : Int)] w fun e w' => e = .returned (.bool true) ∧ Keep No w w' := by
  have HV := Lib.hid hv
  obtain ⟨av, cv, rfl, hv1, hv2⟩ := hv.shape
  have hv3 : l.length ≤ 9223372036854775807 := by unfold maxLen at hv2; omega
  clear hv hv1 hv2
  go_enter Try.func6, Try.ntmps6
  go_wp2_with fail
  refine awake16_any.mono ?_
  rintro e w1 ⟨rfl, hkA⟩
  rcases Nat.lt_or_ge 50 l.length with h50 | h50
  · have h50i : (50 : Int) < (l.length : Int) := by omega
    go_wp2_with fail
    go_ret
    exact ⟨rfl, hkA⟩
  · have h50i : (l.length : Int) ≤ 50 := by omega
    have hO0 : Out w1 w1 67 7 encMd (.slice none 0 0) (l.take 0) := ⟨FlO.nil, Keep.refl _ _⟩
    go_wp2_with fail
    go_loopw [6, 7] (fun ov iv wr => ∃ i : Nat, iv = .int .i64 (i : Int) ∧ i ≤ l.length ∧ Hid (∀ m ∈ l.take i, m.mem ≤ 1099511627776) ∧ Out w1 wr 67 7 encMd ov (l.take i)) (fun _ iv _ => l.length - (intOf iv).toNat)
    case atStart => exact ⟨0, rfl, Nat.zero_le _, Lib.hid (fun m h => by simp at h), hO0⟩
    case round =>
      obtain ⟨i, rfl, hi, HM, hO⟩ := hrel
      clear hO0
      generalize wr = wz at *
      have hkz : Keep No w wz := hO.old hkA
      obtain ⟨a0, n0, c0', rfl⟩ := hO.sh
      rcases Nat.lt_or_ge i l.length with hlt | hge
      · obtain ⟨g, off, cap, ev, _, hg, _, _, hc⟩ := HV.out.at encMd_len hlt
        cases ev
        have hiz : (i : Int) < (l.length : Int) := by omega
        have htk : l.take (i + 1) = l.take i ++ [l[i]] := List.take_succ_eq_append_getElem hlt
        have HTK := Lib.hid htk
        have d0 := (hkA.cell (p := ⟨g, off + i * 7, none⟩) hg fun h => h).trans (hc 0 _ rfl)
        have d1 := (hkA.cell (p := ⟨g, off + i * 7 + 1, none⟩) hg fun h => h).trans (hc 1 _ rfl)
        have d2 := (hkA.cell (p := ⟨g, off + i * 7 + 2, none⟩) hg fun h => h).trans (hc 2 _ rfl)
        have d3 := (hkA.cell (p := ⟨g, off + i * 7 + 3, none⟩) hg fun h => h).trans (hc 3 _ rfl)
        have d4 := (hkA.cell (p := ⟨g, off + i * 7 + 4, none⟩) hg fun h => h).trans (hc 4 _ rfl)
        have d5 := (hkA.cell (p := ⟨g, off + i * 7 + 5, none⟩) hg fun h => h).trans (hc 5 _ rfl)
        have d6 := (hkA.cell (p := ⟨g, off + i * 7 + 6, none⟩) hg fun h => h).trans (hc 6 _ rfl)
        have hgz := Nat.lt_of_lt_of_le hg hkA.size
        clear hc htk
        obtain ⟨m, hm⟩ : ∃ m, m = l[i] := ⟨_, rfl⟩
        rw [← hm] at HTK d0 d1 d2 d3 d4 d5 d6
        clear hm
        obtain ⟨x0, x1, x2, x3, x4, x5, x6⟩ := m
        dsimp only at d0 d1 d2 d3 d4 d5 d6
        obtain ⟨b0, hb0⟩ : ∃ b : ByteArray, b = ⟨x0.toArray⟩ := ⟨_, rfl⟩
        rw [← hb0] at d0
        have HB0 := Lib.hid hb0
        clear hb0
        have hke : ∀ W, Keep (fun j => w1.heap.size ≤ j) w1 W → (W.cell? ⟨g, off + i * 7, none⟩ = some (.string b0) ∧ W.cell? ⟨g, off + i * 7 + 1, none⟩ = some (.int .u64 (x1 : Int)) ∧ W.cell? ⟨g, off + i * 7 + 2, none⟩ = some (.int .u64 (x2 : Int)) ∧ W.cell? ⟨g, off + i * 7 + 3, none⟩ = some (.int .u64 (x3 : Int)) ∧ W.cell? ⟨g, off + i * 7 + 4, none⟩ = some (.bool x4) ∧ W.cell? ⟨g, off + i * 7 + 5, none⟩ = some (.int .u64 (x5 : Int)) ∧ W.cell? ⟨g, off + i * 7 + 6, none⟩ = some (.int .u64 (x6 : Int))) := fun W k =>
          ⟨(k.cell (p := ⟨g, off + i * 7, none⟩) hgz fun h => absurd hgz (Nat.not_lt.2 h)).trans d0, (k.cell (p := ⟨g, off + i * 7 + 1, none⟩) hgz fun h => absurd hgz (Nat.not_lt.2 h)).trans d1, (k.cell (p := ⟨g, off + i * 7 + 2, none⟩) hgz fun h => absurd hgz (Nat.not_lt.2 h)).trans d2, (k.cell (p := ⟨g, off + i * 7 + 3, none⟩) hgz fun h => absurd hgz (Nat.not_lt.2 h)).trans d3, (k.cell (p := ⟨g, off + i * 7 + 4, none⟩) hgz fun h => absurd hgz (Nat.not_lt.2 h)).trans d4, (k.cell (p := ⟨g, off + i * 7 + 5, none⟩) hgz fun h => absurd hgz (Nat.not_lt.2 h)).trans d5, (k.cell (p := ⟨g, off + i * 7 + 6, none⟩) hgz fun h => absurd hgz (Nat.not_lt.2 h)).trans d6⟩
        have HKE := Lib.hid hke
        clear hke d0 d1 d2 d3 d4 d5 d6
        obtain ⟨d0, d1, d2, d3, d4, d5, d6⟩ := HKE.out wz hO.kept
        rcases Nat.lt_or_ge 1099511627776 x6 with hbig | hbig
        · have hbi : (1099511627776 : Int) < (x6 : Int) := by omega
          go_wp2_with fail
          go_ret
          exact ⟨rfl, hkz⟩
        · have hbi : (x6 : Int) ≤ 1099511627776 := by omega
          have hll : (l.take i).length ≤ 50 := by rw [List.length_take]; omega
          have HM2 : Hid (∀ m ∈ l.take (i + 1), m.mem ≤ 1099511627776) := Lib.hid fun m hm => by
            rw [HTK.out] at hm
            rcases List.mem_append.1 hm with hm | hm
            · exact HM.out m hm
            · rw [List.mem_singleton.1 hm]; exact hbig
          go_upto_region 12 with fail
          refine wp_region_sig (fun w' => w'.cell? ⟨g, off + i * 7, none⟩ = some (.string b0) ∧ w'.cell? ⟨g, off + i * 7 + 1, none⟩ = some (.int .u64 (x1 : Int)) ∧ w'.cell? ⟨g, off + i * 7 + 2, none⟩ = some (.int .u64 (x2 : Int)) ∧ w'.cell? ⟨g, off + i * 7 + 3, none⟩ = some (.int .u64 (x3 : Int)) ∧ w'.cell? ⟨g, off + i * 7 + 4, none⟩ = some (.bool x4) ∧ w'.cell? ⟨g, off + i * 7 + 5, none⟩ = some (.int .u64 (x5 : Int)) ∧ w'.cell? ⟨g, off + i * 7 + 6, none⟩ = some (.int .u64 (x6 : Int))) (fun j => decide (j ≤ 39)) [(0, true), (1, true), (2, true), (3, true), (4, true), (5, true), (6, true), (7, true), (8, true), (9, true), (10, true), (11, true), (12, true), (13, true), (14, true), (15, true), (16, true), (17, true), (18, true), (19, true), (20, true), (21, true), (22, true), (23, true), (24, true), (25, true), (26, true), (27, true), (28, true), (29, true), (30, true), (31, true), (32, true), (33, true), (34, true), (35, true), (36, true), (37, false), (38, false), (39, false)] (by kernel_rfl) (by kernel_rfl) (by intro c a d v w h; cases d <;> exact h) ⟨d0, d1, d2, d3, d4, d5, d6⟩ ?_
          apply sig_still (o := ⟨some 26, _, _, _, _, _⟩) rfl rfl
          · intro w' hS
            obtain ⟨q1, q2, q3, q4, q5, q6, q7⟩ := hS
            first | (go_simp; done) | (go_simp; rfl) | rfl
          go_frame
          apply sig_still (o := ⟨some 27, _, _, _, _, _⟩) rfl rfl
          · intro w' hS
            obtain ⟨q1, q2, q3, q4, q5, q6, q7⟩ := hS
            first | (go_simp; done) | (go_simp; rfl) | rfl
          go_frame
          apply sig_still (o := ⟨some 28, _, _, _, _, _⟩) rfl rfl
          · intro w' hS
            obtain ⟨q1, q2, q3, q4, q5, q6, q7⟩ := hS
            first | (go_simp; done) | (go_simp; rfl) | rfl
          go_frame
          apply sig_still (o := ⟨some 29, _, _, _, _, _⟩) rfl rfl
          · intro w' hS
            obtain ⟨q1, q2, q3, q4, q5, q6, q7⟩ := hS
            first | (go_simp; done) | (go_simp; rfl) | rfl
          go_frame
          apply sig_still (o := ⟨some 30, _, _, _, _, _⟩) rfl rfl
          · intro w' hS
            obtain ⟨q1, q2, q3, q4, q5, q6, q7⟩ := hS
            first | (go_simp; done) | (go_simp; rfl) | rfl
          go_frame
          apply sig_still (o := ⟨some 31, _, _, _, _, _⟩) rfl rfl
          · intro w' hS
            obtain ⟨q1, q2, q3, q4, q5, q6, q7⟩ := hS
            first | (go_simp; done) | (go_simp; rfl) | rfl
          go_frame
          apply sig_still (o := ⟨some 32, _, _, _, _, _⟩) rfl rfl
          · intro w' hS
            obtain ⟨q1, q2, q3, q4, q5, q6, q7⟩ := hS
            first | (go_simp; done) | (go_simp; rfl) | rfl
          go_frame
          apply sig_still (o := ⟨some 33, _, _, _, _, _⟩) rfl rfl
          · intro w' hS
            obtain ⟨q1, q2, q3, q4, q5, q6, q7⟩ := hS
            first | (go_simp; done) | (go_simp; rfl) | rfl
          go_frame
          apply sig_still (o := ⟨some 34, _, _, _, _, _⟩) rfl rfl
          · intro w' hS
            obtain ⟨q1, q2, q3, q4, q5, q6, q7⟩ := hS
            first | (go_simp; done) | (go_simp; rfl) | rfl
          go_frame
          apply sig_still (o := ⟨some 35, _, _, _, _, _⟩) rfl rfl
          · intro w' hS
            obtain ⟨q1, q2, q3, q4, q5, q6, q7⟩ := hS
            first | (go_simp; done) | (go_simp; rfl) | rfl
          go_frame
          apply sig_still (o := ⟨some 36, _, _, _, _, _⟩) rfl rfl
          · intro w' hS
            obtain ⟨q1, q2, q3, q4, q5, q6, q7⟩ := hS
            first | (go_simp; done) | (go_simp; rfl) | rfl
          go_frame
          apply sig_still (o := ⟨some 37, _, _, _, _, _⟩) rfl rfl
          · intro w' hS
            obtain ⟨q1, q2, q3, q4, q5, q6, q7⟩ := hS
            first | (go_simp; done) | (go_simp; rfl) | rfl
          go_frame
          apply sig_still (o := ⟨some 38, _, _, _, _, _⟩) rfl rfl
          · intro w' hS
            obtain ⟨q1, q2, q3, q4, q5, q6, q7⟩ := hS
            first | (go_simp; done) | (go_simp; rfl) | rfl
          go_frame
          apply sig_still (o := ⟨some 39, _, _, _, _, _⟩) rfl rfl
          · intro w' hS
            obtain ⟨q1, q2, q3, q4, q5, q6, q7⟩ := hS
            first | (go_simp; done) | (go_simp; rfl) | rfl
          go_frame
          apply sig_still (o := ⟨some 40, _, _, _, _, _⟩) rfl rfl
          · intro w' hS
            obtain ⟨q1, q2, q3, q4, q5, q6, q7⟩ := hS
            first | (go_simp; done) | (go_simp; rfl) | rfl
          go_frame
          apply sig_still (o := ⟨some 41, _, _, _, _, _⟩) rfl rfl
          · intro w' hS
            obtain ⟨q1, q2, q3, q4, q5, q6, q7⟩ := hS
            first | (go_simp; done) | (go_simp; rfl) | rfl
          go_frame
          apply sig_still (o := ⟨some 42, _, _, _, _, _⟩) rfl rfl
          · intro w' hS
            obtain ⟨q1, q2, q3, q4, q5, q6, q7⟩ := hS
            first | (go_simp; done) | (go_simp; rfl) | rfl
          go_frame
          apply sig_still (o := ⟨some 43, _, _, _, _, _⟩) rfl rfl
          · intro w' hS
            obtain ⟨q1, q2, q3, q4, q5, q6, q7⟩ := hS
            first | (go_simp; done) | (go_simp; rfl) | rfl
          go_frame
          apply sig_still (o := ⟨some 44, _, _, _, _, _⟩) rfl rfl
          · intro w' hS
            obtain ⟨q1, q2, q3, q4, q5, q6, q7⟩ := hS
            first | (go_simp; done) | (go_simp; rfl) | rfl
          go_frame
          apply sig_still (o := ⟨some 45, _, _, _, _, _⟩) rfl rfl
          · intro w' hS
            obtain ⟨q1, q2, q3, q4, q5, q6, q7⟩ := hS
            first | (go_simp; done) | (go_simp; rfl) | rfl
          go_frame
          apply sig_still (o := ⟨some 46, _, _, _, _, _⟩) rfl rfl
          · intro w' hS
            obtain ⟨q1, q2, q3, q4, q5, q6, q7⟩ := hS
            first | (go_simp; done) | (go_simp; rfl) | rfl
          go_frame
          apply sig_still (o := ⟨some 47, _, _, _, _, _⟩) rfl rfl
          · intro w' hS
            obtain ⟨q1, q2, q3, q4, q5, q6, q7⟩ := hS
            first | (go_simp; done) | (go_simp; rfl) | rfl
          go_frame
          apply sig_still (o := ⟨some 48, _, _, _, _, _⟩) rfl rfl
          · intro w' hS
            obtain ⟨q1, q2, q3, q4, q5, q6, q7⟩ := hS
            first | (go_simp; done) | (go_simp; rfl) | rfl
          go_frame
          apply sig_still (o := ⟨some 49, _, _, _, _, _⟩) rfl rfl
          · intro w' hS
            obtain ⟨q1, q2, q3, q4, q5, q6, q7⟩ := hS
            first | (go_simp; done) | (go_simp; rfl) | rfl
          go_frame
          apply sig_still (o := ⟨some 50, _, _, _, _, _⟩) rfl rfl
          · intro w' hS
            obtain ⟨q1, q2, q3, q4, q5, q6, q7⟩ := hS
            first | (go_simp; done) | (go_simp; rfl) | rfl
          go_frame
          apply sig_still (o := ⟨some 51, _, _, _, _, _⟩) rfl rfl
          · intro w' hS
            obtain ⟨q1, q2, q3, q4, q5, q6, q7⟩ := hS
            first | (go_simp; done) | (go_simp; rfl) | rfl
          go_frame
          apply sig_still (o := ⟨some 52, _, _, _, _, _⟩) rfl rfl
          · intro w' hS
            obtain ⟨q1, q2, q3, q4, q5, q6, q7⟩ := hS
            first | (go_simp; done) | (go_simp; rfl) | rfl
          go_frame
          apply sig_still (o := ⟨some 53, _, _, _, _, _⟩) rfl rfl
          · intro w' hS
            obtain ⟨q1, q2, q3, q4, q5, q6, q7⟩ := hS
            first | (go_simp; done) | (go_simp; rfl) | rfl
          go_frame
          apply sig_still (o := ⟨some 54, _, _, _, _, _⟩) rfl rfl
          · intro w' hS
            obtain ⟨q1, q2, q3, q4, q5, q6, q7⟩ := hS
            first | (go_simp; done) | (go_simp; rfl) | rfl
          go_frame
          apply sig_still (o := ⟨some 55, _, _, _, _, _⟩) rfl rfl
          · intro w' hS
            obtain ⟨q1, q2, q3, q4, q5, q6, q7⟩ := hS
            first | (go_simp; done) | (go_simp; rfl) | rfl
          go_frame
          apply sig_still (o := ⟨some 56, _, _, _, _, _⟩) rfl rfl
          · intro w' hS
            obtain ⟨q1, q2, q3, q4, q5, q6, q7⟩ := hS
            first | (go_simp; done) | (go_simp; rfl) | rfl
          go_frame
          apply sig_still (o := ⟨some 57, _, _, _, _, _⟩) rfl rfl
          · intro w' hS
            obtain ⟨q1, q2, q3, q4, q5, q6, q7⟩ := hS
            first | (go_simp; done) | (go_simp; rfl) | rfl
          go_frame
          apply sig_still (o := ⟨some 58, _, _, _, _, _⟩) rfl rfl
          · intro w' hS
            obtain ⟨q1, q2, q3, q4, q5, q6, q7⟩ := hS
            first | (go_simp; done) | (go_simp; rfl) | rfl
          go_frame
          apply sig_still (o := ⟨some 59, _, _, _, _, _⟩) rfl rfl
          · intro w' hS
            obtain ⟨q1, q2, q3, q4, q5, q6, q7⟩ := hS
            first | (go_simp; done) | (go_simp; rfl) | rfl
          go_frame
          apply sig_still (o := ⟨some 60, _, _, _, _, _⟩) rfl rfl
          · intro w' hS
            obtain ⟨q1, q2, q3, q4, q5, q6, q7⟩ := hS
            first | (go_simp; done) | (go_simp; rfl) | rfl
          go_frame
          apply sig_still (o := ⟨some 61, _, _, _, _, _⟩) rfl rfl
          · intro w' hS
            obtain ⟨q1, q2, q3, q4, q5, q6, q7⟩ := hS
            first | (go_simp; done) | (go_simp; rfl) | rfl
          go_frame
          apply sig_still (o := ⟨some 62, _, _, _, _, _⟩) rfl rfl
          · intro w' hS
            obtain ⟨q1, q2, q3, q4, q5, q6, q7⟩ := hS
            first | (go_simp; done) | (go_simp; rfl) | rfl
          go_frame
          refine sig_eff (o := ⟨some 63, _, _, _, _, _⟩) rfl rfl (fun K hKe => ?_)
          go_wp2_with fail
          have hO1 := (hO.alloc (.cells #[.string b0, .int .u64 (x1 : Int), .int .u64 (x2 : Int), .int .u64 (x3 : Int), .bool x4, .int .u64 (x5 : Int), .int .u64 (x6 : Int)] 67)).drew
          refine ⟨fun _ => HKE.out _ hO1.kept, ?_⟩
          have hOd := hO.drew
          refine sig_eff (o := ⟨some 64, _, _, _, _, _⟩) rfl rfl (fun K hKe => ?_)
          refine wo_append _ _ _ _ rfl _ _ rfl rfl ?_
          refine rg_push (P := Try.prog) (enc := encMd) (x := ⟨x0, x1, x2, x3, x4, x5, x6⟩) _ _ Try.underlying65 r16m_info (by rfl) (by decide) (by unfold encMd; rw [← HB0.out]) (by rfl) (encMd_one _) hOd.row (by omega) (by decide) hOd.base ?_
          intro v4 w4 ho4 hk4 hn4
          have hO4 := hOd.push ho4 hk4
          rw [← HTK.out] at hO4
          refine hKe _ _ ⟨fun _ => HKE.out _ hO4.kept, ?_⟩
          obtain ⟨a4, n4, c4, rfl⟩ := hO4.sh
          have hS4 := HKE.out _ hO4.kept
          clear ho4 hk4 hn4 hO1 hOd hO d0 d1 d2 d3 d4 d5 d6 HKE
          refine sig_eff (o := ⟨some 6, _, _, _, _, _⟩) rfl rfl (fun K hKe => ?_)
          go_wp2_with fail
          refine ⟨fun _ => hS4, ?_⟩
          refine sig_nil ?_
          clear hS4
          go_wp2_with fail
          go_roundw
          case rel => exact ⟨i + 1, by go_num, hlt, HM2, hO4⟩
          case measure => simp [intOf]; omega
      · obtain rfl : i = l.length := Nat.le_antisymm hi hge
        have hte : l.take l.length = l := List.take_of_length_le (Nat.le_refl _)
        rw [hte] at HM hO
        have hb1 := lblock_any (w := wz) l (HV.out.no hkz) HM.out (by omega)
        have hl1 := HV
        have hn0 := fl_len hO.row.fl
        subst hn0
        have HO := Lib.hid hO
        have HKZ := Lib.hid hkz
        clear hte hO hkz
        obtain ⟨bm, hbm⟩ : ∃ b, b = blockM l := ⟨_, rfl⟩
        rw [← hbm] at hb1
        have HBM := Lib.hid hbm
        clear hbm
        go_wp2_with fail
        refine hb1.mono ?_
        clear hb1
        rintro e w2 ⟨rfl, k2⟩
        have hb2 := r16block_any (w := w2) l (HO.out.row.fl.no k2) HM.out (by omega)
        rw [← HBM.out] at hb2
        go_wp2_with fail
        refine hb2.mono ?_
        clear hb2
        rintro e w3 ⟨rfl, k3⟩
        have h3 := lof_any (w := w3) l addr ((HV.out.no HKZ.out).no (k2.trans' k3))
        obtain ⟨om, hom⟩ : ∃ b, b = ofM l addr := ⟨_, rfl⟩
        rw [← hom] at h3
        have HOM := Lib.hid hom
        clear hom
        go_wp2_with fail
        refine h3.mono ?_
        clear h3
        rintro e w4 ⟨rfl, k4⟩
        have h4 := r16of_any (w := w4) l addr (HO.out.row.fl.no ((k2.trans' k3).trans' k4))
        rw [← HOM.out] at h4
        go_wp2_with fail
        refine h4.mono ?_
        clear h4
        rintro e w5 ⟨rfl, k5⟩
        have hkF := HKZ.out.trans' (((k2.trans' k3).trans' k4).trans' k5)
        go_wp2_with fail
        go_ret
        exact ⟨by simp, hkF⟩
theorem layoutblocks_rd (xs : List MdS.Ty) {a : Int} (hv : Rd A w (.slice MdS) [v] xs) (ha : (Lit.int .u64 a).wf = true) : Calls Try.prog 6 #[v, .int .u64 a] w fun e w' => e = .returned (.bool true) ∧ Keep No w w' := by
  rw [(u64_n ha).1]
  exact layoutblocks_any _ _ (rd_mods hv)
end
end Go.Proofs.Ytbnahidopemkiaa
