/- Chapter 16: the statements' files. Chapter 16: the statements' examples, by the plain models. Chapter 16: the statements' examples. Chapter 16: the order of the statements' files, and where its units lie. Chapter 16: where the units of the statements' files lie. Chapter 16: parts of a thread's block lie one behind the other. Chapter 16: modules that are placed lie apart. No condition. -/
import Derived.Test.YtbnahidopemkiaaLyA
import Derived.Test.YtbnahidopemkiaaOct
import Derived.BigQuiet
set_option linter.unusedVariables false
set_option linter.unusedSimpArgs false
namespace Go.Proofs.Ytbnahidopemkiaa
open Go.RowKit Go.Dm Go.Dm.Oc Go.Dm.Ld
section
variable {A B : Nat → Prop} {w : World} {v : Value}
set_option maxRecDepth 100000 in
set_option maxHeartbeats 4000000 in
theorem files16_any (a0 a1 a2 t0 t1 t2 : Nat) (ha0 : a0 < 256) (ha1 : a1 < 256) (ha2 : a2 < 256) (ht0 : t0 < 256) (ht1 : t1 < 256) (ht2 : t2 < 256) :
    Calls Try.prog 15 #[.agg #[.int .u8 (a0 : Int), .int .u8 (a1 : Int), .int .u8 (a2 : Int)], .agg #[.int .u8 (t0 : Int), .int .u8 (t1 : Int), .int .u8 (t2 : Int)]] w fun e w' => ∃ v', e = .returned v' ∧ FiR (fun _ => True) w' v' (fs16 a0 a1 a2 t0 t1 t2) ∧ Keep No w w' := by
  go_enter Try.func15, Try.ntmps15
  go_upto_region 1 with fail
  have hkW1 : Keep No w (w.alloc (.cells #[.int .u8 (a0 : Int), .int .u8 (a1 : Int), .int .u8 (a2 : Int)] 52)) := (Keep.refl _ _).alloc _
  have hBW1 : Blk (w.alloc (.cells #[.int .u8 (a0 : Int), .int .u8 (a1 : Int), .int .u8 (a2 : Int)] 52)) w.heap.size #[.int .u8 (a0 : Int), .int .u8 (a1 : Int), .int .u8 (a2 : Int)] 52 := Blk.new _ _ _
  have hzW1 : (w.alloc (.cells #[.int .u8 (a0 : Int), .int .u8 (a1 : Int), .int .u8 (a2 : Int)] 52)).heap.size = w.heap.size + 1 := World.size_alloc _ _
  generalize w.alloc (.cells #[.int .u8 (a0 : Int), .int .u8 (a1 : Int), .int .u8 (a2 : Int)] 52) = W1 at *
  have hkW2 : Keep No W1 (W1.alloc (.cells #[.int .u8 (t0 : Int), .int .u8 (t1 : Int), .int .u8 (t2 : Int)] 52)) := (Keep.refl _ _).alloc _
  have hBW2 : Blk (W1.alloc (.cells #[.int .u8 (t0 : Int), .int .u8 (t1 : Int), .int .u8 (t2 : Int)] 52)) W1.heap.size #[.int .u8 (t0 : Int), .int .u8 (t1 : Int), .int .u8 (t2 : Int)] 52 := Blk.new _ _ _
  have hzW2 : (W1.alloc (.cells #[.int .u8 (t0 : Int), .int .u8 (t1 : Int), .int .u8 (t2 : Int)] 52)).heap.size = W1.heap.size + 1 := World.size_alloc _ _
  generalize W1.alloc (.cells #[.int .u8 (t0 : Int), .int .u8 (t1 : Int), .int .u8 (t2 : Int)] 52) = W2 at *
  have hA := hBW1.keep hkW2 fun h => h
  have hT := hBW2
  have hk := hkW1.trans' hkW2
  rw [hzW1] at hT
  obtain ⟨qa, hqa⟩ : ∃ q, q = w.heap.size := ⟨_, rfl⟩
  rw [← hqa] at hA hT ⊢
  clear hBW1 hkW1 hzW1 hBW2 hkW2 hzW2 hqa
  have c0 := hA.cell 0
  have c1 := hA.cell 1
  have c2 := hA.cell 2
  have c3 := hT.cell 0
  have c4 := hT.cell 1
  have c5 := hT.cell 2
  refine wp_region_sig (fun w' => w'.cell? ⟨qa, 0, none⟩ = some (.int .u8 (a0 : Int)) ∧ w'.cell? ⟨qa, 1, none⟩ = some (.int .u8 (a1 : Int)) ∧ w'.cell? ⟨qa, 2, none⟩ = some (.int .u8 (a2 : Int)) ∧ w'.cell? ⟨qa + 1, 0, none⟩ = some (.int .u8 (t0 : Int)) ∧ w'.cell? ⟨qa + 1, 1, none⟩ = some (.int .u8 (t1 : Int)) ∧ w'.cell? ⟨qa + 1, 2, none⟩ = some (.int .u8 (t2 : Int))) (fun j => decide (j ≤ 20)) [(1, true), (2, true), (3, true), (4, true), (7, true), (8, true), (9, true), (10, true), (13, true), (14, true), (15, true), (16, true), (0, false), (5, false), (6, true), (11, false), (12, true), (17, false), (18, true), (19, false), (20, false)] (by kernel_rfl) (by kernel_rfl) (by intro c a d v w h; cases d <;> exact h) ⟨c0, c1, c2, c3, c4, c5⟩ ?_
  apply sig_still (o := ⟨some 6, _, _, _, _, _⟩) rfl rfl
  · intro w' hS
    obtain ⟨q1, q2, q3, q4, q5, q6⟩ := hS
    first | (go_simp; done) | (go_simp; rfl) | rfl
  go_frame
  apply sig_still (o := ⟨some 7, _, _, _, _, _⟩) rfl rfl
  · intro w' hS
    obtain ⟨q1, q2, q3, q4, q5, q6⟩ := hS
    first | (go_simp; done) | (go_simp; rfl) | rfl
  go_frame
  apply sig_still (o := ⟨some 8, _, _, _, _, _⟩) rfl rfl
  · intro w' hS
    obtain ⟨q1, q2, q3, q4, q5, q6⟩ := hS
    first | (go_simp; done) | (go_simp; rfl) | rfl
  go_frame
  apply sig_still (o := ⟨some 9, _, _, _, _, _⟩) rfl rfl
  · intro w' hS
    obtain ⟨q1, q2, q3, q4, q5, q6⟩ := hS
    first | (go_simp; done) | (go_simp; rfl) | rfl
  go_frame
  apply sig_still (o := ⟨some 12, _, _, _, _, _⟩) rfl rfl
  · intro w' hS
    obtain ⟨q1, q2, q3, q4, q5, q6⟩ := hS
    first | (go_simp; done) | (go_simp; rfl) | rfl
  go_frame
  apply sig_still (o := ⟨some 13, _, _, _, _, _⟩) rfl rfl
  · intro w' hS
    obtain ⟨q1, q2, q3, q4, q5, q6⟩ := hS
    first | (go_simp; done) | (go_simp; rfl) | rfl
  go_frame
  apply sig_still (o := ⟨some 14, _, _, _, _, _⟩) rfl rfl
  · intro w' hS
    obtain ⟨q1, q2, q3, q4, q5, q6⟩ := hS
    first | (go_simp; done) | (go_simp; rfl) | rfl
  go_frame
  apply sig_still (o := ⟨some 15, _, _, _, _, _⟩) rfl rfl
  · intro w' hS
    obtain ⟨q1, q2, q3, q4, q5, q6⟩ := hS
    first | (go_simp; done) | (go_simp; rfl) | rfl
  go_frame
  apply sig_still (o := ⟨some 18, _, _, _, _, _⟩) rfl rfl
  · intro w' hS
    obtain ⟨q1, q2, q3, q4, q5, q6⟩ := hS
    first | (go_simp; done) | (go_simp; rfl) | rfl
  go_frame
  apply sig_still (o := ⟨some 19, _, _, _, _, _⟩) rfl rfl
  · intro w' hS
    obtain ⟨q1, q2, q3, q4, q5, q6⟩ := hS
    first | (go_simp; done) | (go_simp; rfl) | rfl
  go_frame
  apply sig_still (o := ⟨some 20, _, _, _, _, _⟩) rfl rfl
  · intro w' hS
    obtain ⟨q1, q2, q3, q4, q5, q6⟩ := hS
    first | (go_simp; done) | (go_simp; rfl) | rfl
  go_frame
  apply sig_still (o := ⟨some 21, _, _, _, _, _⟩) rfl rfl
  · intro w' hS
    obtain ⟨q1, q2, q3, q4, q5, q6⟩ := hS
    first | (go_simp; done) | (go_simp; rfl) | rfl
  go_frame
  clear c0 c1 c2 c3 c4 c5
  refine sig_eff (o := ⟨some 5, _, _, _, _, _⟩) rfl rfl (fun K hKe => ?_)
  go_wp2_with fail
  have kW : Keep No W2 (W2.alloc (.cells #[.string ⟨#[120]⟩, .string ⟨#[121]⟩] 9)).drew := ((Keep.refl _ _).alloc _).drew
  have hBs : Blk (W2.alloc (.cells #[.string ⟨#[120]⟩, .string ⟨#[121]⟩] 9)).drew W2.heap.size #[.string ⟨#[120]⟩, .string ⟨#[121]⟩] 9 := (Blk.new W2 _ _).keep (Keep.refl No _).drew fun h => h
  replace hA := hA.keep kW fun h => h
  replace hT := hT.keep kW fun h => h
  replace hk := hk.trans' kW
  refine ⟨fun _ => ⟨hA.cell 0, hA.cell 1, hA.cell 2, hT.cell 0, hT.cell 1, hT.cell 2⟩, ?_⟩
  generalize (W2.alloc (.cells #[.string ⟨#[120]⟩, .string ⟨#[121]⟩] 9)).drew = wc at *
  clear kW
  refine sig_eff (o := ⟨some 10, _, _, _, _, _⟩) rfl rfl (fun K hKe => ?_)
  go_wp2_with fail
  have hcall := lib16_any (w := wc) 2 [[120], [121]] a0 t0 ha0 ht0 (strs_blk hBs rfl rfl (by decide)) (by decide) (by decide)
  obtain ⟨b0, hb⟩ : ∃ b, b = (buildM (sp16 2 [[120], [121]] a0 t0)).2 := ⟨_, rfl⟩
  rw [← hb] at hcall
  have HB0 := Lib.hid hb
  clear hb
  refine hcall.mono ?_
  clear hcall
  rintro e wn ⟨v3, rfl, h3, k3⟩
  have hb0 : Bts (fun _ => True) wn v3 b0 := Sl.mono (FlO.bts h3) fun _ _ _ => trivial
  obtain ⟨x0, n0, m0, rfl⟩ := FlO.sh h3
  replace hA := hA.keep k3 fun h => h
  replace hT := hT.keep k3 fun h => h
  replace hk := hk.trans' k3
  clear h3
  refine hKe _ _ ⟨fun _ => ⟨hA.cell 0, hA.cell 1, hA.cell 2, hT.cell 0, hT.cell 1, hT.cell 2⟩, ?_⟩
  generalize wn = w3 at *
  clear hBs
  apply sig_still (o := ⟨some 11, _, _, _, _, _⟩) rfl rfl
  · intro w' hS
    obtain ⟨q1, q2, q3, q4, q5, q6⟩ := hS
    first | (go_simp; done) | (go_simp; rfl) | rfl
  go_frame
  refine sig_eff (o := ⟨some 16, _, _, _, _, _⟩) rfl rfl (fun K hKe => ?_)
  go_wp2_with fail
  have hcall := lib16_any (w := w3) (v := .slice none 0 0) (A := fun _ => True) 3 [] a1 t1 ha1 ht1 Fl.nil (by decide) (by decide)
  obtain ⟨b1, hb⟩ : ∃ b, b = (buildM (sp16 3 [] a1 t1)).2 := ⟨_, rfl⟩
  rw [← hb] at hcall
  have HB1 := Lib.hid hb
  clear hb
  refine hcall.mono ?_
  clear hcall
  rintro e wn ⟨v4, rfl, h3, k3⟩
  have hb1 : Bts (fun _ => True) wn v4 b1 := Sl.mono (FlO.bts h3) fun _ _ _ => trivial
  obtain ⟨x1, n1, m1, rfl⟩ := FlO.sh h3
  replace hA := hA.keep k3 fun h => h
  replace hT := hT.keep k3 fun h => h
  replace hk := hk.trans' k3
  clear h3
  refine hKe _ _ ⟨fun _ => ⟨hA.cell 0, hA.cell 1, hA.cell 2, hT.cell 0, hT.cell 1, hT.cell 2⟩, ?_⟩
  generalize wn = w4 at *
  replace hb0 := Sl.keep hb0 k3 fun _ _ _ h => h
  clear k3
  apply sig_still (o := ⟨some 17, _, _, _, _, _⟩) rfl rfl
  · intro w' hS
    obtain ⟨q1, q2, q3, q4, q5, q6⟩ := hS
    first | (go_simp; done) | (go_simp; rfl) | rfl
  go_frame
  refine sig_eff (o := ⟨some 22, _, _, _, _, _⟩) rfl rfl (fun K hKe => ?_)
  go_wp2_with fail
  have hcall := lib16_any (w := w4) (v := .slice none 0 0) (A := fun _ => True) 3 [] a2 t2 ha2 ht2 Fl.nil (by decide) (by decide)
  obtain ⟨b2, hb⟩ : ∃ b, b = (buildM (sp16 3 [] a2 t2)).2 := ⟨_, rfl⟩
  rw [← hb] at hcall
  have HB2 := Lib.hid hb
  clear hb
  refine hcall.mono ?_
  clear hcall
  rintro e wn ⟨v5, rfl, h3, k3⟩
  have hb2 : Bts (fun _ => True) wn v5 b2 := Sl.mono (FlO.bts h3) fun _ _ _ => trivial
  obtain ⟨x2, n2, m2, rfl⟩ := FlO.sh h3
  replace hA := hA.keep k3 fun h => h
  replace hT := hT.keep k3 fun h => h
  replace hk := hk.trans' k3
  clear h3
  refine hKe _ _ ⟨fun _ => ⟨hA.cell 0, hA.cell 1, hA.cell 2, hT.cell 0, hT.cell 1, hT.cell 2⟩, ?_⟩
  generalize wn = w5 at *
  replace hb0 := Sl.keep hb0 k3 fun _ _ _ h => h
  replace hb1 := Sl.keep hb1 k3 fun _ _ _ h => h
  clear k3
  apply sig_still (o := ⟨some 23, _, _, _, _, _⟩) rfl rfl
  · intro w' hS
    obtain ⟨q1, q2, q3, q4, q5, q6⟩ := hS
    first | (go_simp; done) | (go_simp; rfl) | rfl
  go_frame
  refine sig_eff (o := ⟨some 24, _, _, _, _, _⟩) rfl rfl (fun K hKe => ?_)
  go_wp2_with fail
  have k6 : Keep No w5 (w5.alloc (.cells #[.string ⟨#[109]⟩, .slice x0 n0 m0, .string ⟨#[120]⟩, .slice x1 n1 m1, .string ⟨#[121]⟩, .slice x2 n2 m2] 29)) := (Keep.refl _ _).alloc _
  have hB6 := Blk.new w5 #[.string ⟨#[109]⟩, .slice x0 n0 m0, .string ⟨#[120]⟩, .slice x1 n1 m1, .string ⟨#[121]⟩, .slice x2 n2 m2] 29
  replace hA := hA.keep k6 fun h => h
  replace hT := hT.keep k6 fun h => h
  replace hk := hk.trans' k6
  refine ⟨fun _ => ⟨hA.cell 0, hA.cell 1, hA.cell 2, hT.cell 0, hT.cell 1, hT.cell 2⟩, ?_⟩
  generalize w5.alloc (.cells #[.string ⟨#[109]⟩, .slice x0 n0 m0, .string ⟨#[120]⟩, .slice x1 n1 m1, .string ⟨#[121]⟩, .slice x2 n2 m2] 29) = w6 at *
  have hf : FlO w6 w5.heap.size 29 2 encP (.slice (some ⟨w5.heap.size, 0, none⟩) 3 3) [(.string ⟨#[109]⟩, .slice x0 n0 m0), (.string ⟨#[120]⟩, .slice x1 n1 m1), (.string ⟨#[121]⟩, .slice x2 n2 m2)] :=
    own_blk hB6 (Nat.le_refl _) (n := 3) (size := 2) rfl (by unfold maxLen; omega)
  have hfir := fir_own (fs := [([109], b0), ([120], b1), ([121], b2)]) hf rfl
      (fir_one (fok (n := [109]) (Sl.keep hb0 k6 fun _ _ _ h => h)) (fir_one (fok (n := [120]) (Sl.keep hb1 k6 fun _ _ _ h => h)) (fir_one (fok (n := [121]) (Sl.keep hb2 k6 fun _ _ _ h => h)) fir_no)))
  clear hB6 hf hb0 hb1 hb2 k6
  refine sig_eff (o := ⟨some 4, _, _, _, _, _⟩) rfl rfl (fun K hKe => ?_)
  go_wp2_with fail
  refine ⟨fun _ => ⟨hA.cell 0, hA.cell 1, hA.cell 2, hT.cell 0, hT.cell 1, hT.cell 2⟩, ?_⟩
  refine sig_nil ?_
  clear hA hT
  go_wp2_with fail
  go_ret
  rw [HB0.out, HB1.out, HB2.out] at hfir
  exact ⟨_, rfl, hfir, hk⟩
end
end Go.Proofs.Ytbnahidopemkiaa
namespace Go.Dm.Ld
open Go Go.Dm.Oc
def aw16 : Nat × List (BS × Im) := orderM [109] (fs16 0 0 0 1 0 9)
def aw16m : Nat × List Md := layL aw16.2 (basesM aw16.2)
set_option maxRecDepth 100000 in
theorem aw16_o : aw16.1 = 0 ∧ aw16.2.length = 3 := by decide +kernel
set_option maxRecDepth 100000 in
theorem aw16_b : (basesM aw16.2).length = 3 ∧ (basesM aw16.2).head? = some 4096 := by decide +kernel
set_option maxRecDepth 100000 in
theorem aw16_m : aw16m.1 = 0 ∧ aw16m.2.length = 3 ∧ (aw16m.2.map (·.tls)) = [true, false, true] ∧ (aw16m.2.map (·.off))[2]? = some 8 ∧ blockM aw16m.2 = 24 ∧ ofM aw16m.2 4096 = 0 ∧ ofM aw16m.2 0 = -1 := by decide +kernel
set_option maxRecDepth 100000 in
theorem aw16_n : (layL aw16.2 []).1 = 1 := by decide +kernel
end Go.Dm.Ld
namespace Go.Proofs.Ytbnahidopemkiaa
open Go.RowKit Go.Dm Go.Dm.Oc Go.Dm.Ld
section
variable {A B : Nat → Prop} {w : World} {v : Value}
theorem basesGo_lt : ∀ (us : List (BS × Im)) (i a : Nat) (out : List Nat), a < 18446744073709551616 → (∀ b ∈ out, b < 18446744073709551616) → ∀ b ∈ basesGo us i a out, b < 18446744073709551616
  | [], _, _, _, _, h => h
  | u :: r, i, a, out, ha, h => by
    unfold basesGo
    dsimp only
    refine basesGo_lt r _ _ _ (Nat.mod_lt _ (by decide)) fun b hb => ?_
    rcases List.mem_append.1 hb with hb | hb
    · exact h b hb
    · rw [List.mem_singleton.1 hb]
      split
      · exact Nat.mod_lt _ (by decide)
      · exact ha
theorem basesM_lt (us : List (BS × Im)) : ∀ b ∈ basesM us, b < 18446744073709551616 := basesGo_lt us 0 4096 [] (by decide) fun b hb => by cases hb
theorem fir_sh {fs : Fs} (h : FiR A w v fs) : ∃ a n c, v = .slice a n c := by
  obtain ⟨ps, _, h2, _⟩ := h
  obtain ⟨a, c, e, _⟩ := h2.shape
  exact ⟨_, _, _, e⟩
theorem fs16_le (a0 a1 a2 t0 t1 t2 : Nat) : ∀ f ∈ fs16 a0 a1 a2 t0 t1 t2, f.2.length ≤ 1099511627776 := fun f hf => by
  unfold fs16 at hf
  simp only [List.mem_cons, List.not_mem_nil, or_false] at hf
  rcases hf with rfl | rfl | rfl <;> exact Nat.le_trans (buildM_le _) (by decide)
theorem md_at {l : List Md} {m : Md} {i : Nat} (hv : Fl A w 7 encMd v l) (hi : l[i]? = some m) : ∃ g off c, v = .slice (some ⟨g, off, none⟩) l.length c ∧ g < w.heap.size ∧ l.length ≤ c ∧ c ≤ maxLen ∧ ∀ j u, (encMd m)[j]? = some u → w.cell? ⟨g, off + i * 7 + j, none⟩ = some u := by
  obtain ⟨hlt, he⟩ := List.getElem?_eq_some_iff.1 hi
  obtain ⟨g, off, c, ev, _, hg, h1, h2, hc⟩ := hv.at encMd_len hlt
  rw [he] at hc
  exact ⟨g, off, c, ev, hg, h1, h2, hc⟩
set_option maxRecDepth 100000 in
set_option maxHeartbeats 600000 in
theorem awake16_any : Calls Try.prog 14 #[] w fun e w' => e = .returned (.bool true) ∧ Keep No w w' := by
  go_enter Try.func14, Try.ntmps14
  go_wp2_with fail
  refine (files16_any (w := w) 0 0 0 1 0 9 (by decide) (by decide) (by decide) (by decide) (by decide) (by decide)).mono ?_
  rintro e w2 ⟨v2, rfl, hf, hkA⟩
  have hor := clorder_any (w := w2) [109] (by decide) hf (fs16_le 0 0 0 1 0 9)
  obtain ⟨a2, n2, c2, rfl⟩ := fir_sh hf
  have hsg := orderM_segs [109] (fs16 0 0 0 1 0 9)
  have e1 : orderM [109] (fs16 0 0 0 1 0 9) = aw16 := rfl
  rw [e1] at hor hsg
  obtain ⟨o, ho⟩ : ∃ o, o = aw16 := ⟨_, rfl⟩
  have h1 := aw16_o
  have h2 := aw16_b
  have h3 := aw16_m
  have h4 := aw16_n
  unfold aw16m at h3
  rw [← ho] at hor hsg h1 h2 h3 h4
  obtain ⟨oe, us⟩ := o
  obtain ⟨h1a, h1b⟩ := h1
  dsimp only at h1a h1b h2 h3 h4 hor hsg
  subst h1a
  have HB := Lib.hid h2
  have HM := Lib.hid h3
  have HE := Lib.hid h4
  have HSG := Lib.hid hsg
  have HL := Lib.hid h1b
  clear hf e1 ho h2 h3 h4 hsg h1b
  go_wp2_with fail
  refine hor.mono ?_
  clear hor
  rintro e w3 ⟨vo, ps, rfl, hvo, hus, k3⟩
  replace hkA := hkA.trans' k3
  obtain ⟨ao, no, co, rfl⟩ : ∃ a n c, vo = .slice a n c := by
    obtain ⟨a, c, e, _⟩ := hvo.shape
    exact ⟨_, _, _, e⟩
  clear k3
  have hba := lbases_any (w := w3) hvo hus (fun u hu => (HSG.out u hu).span) (by rw [HL.out]; decide)
  have HVO := Lib.hid hvo
  have HUS := Lib.hid hus
  clear hvo hus
  have hblt := basesM_lt us
  obtain ⟨bs, hbs⟩ : ∃ b, b = basesM us := ⟨_, rfl⟩
  rw [← hbs] at hba HB HM hblt
  have HBL := Lib.hid hblt
  clear hbs hblt
  obtain ⟨mm, hmm⟩ : ∃ m, m = layL us bs := ⟨_, rfl⟩
  rw [← hmm] at HM
  have HMM := Lib.hid hmm
  clear hmm
  obtain ⟨hb3, hb0⟩ := HB.out
  obtain ⟨b0, r, hbe⟩ : ∃ b r, bs = b :: r := by
    cases bs with
    | nil => cases hb0
    | cons b r => exact ⟨b, r, rfl⟩
  go_wp2_with fail
  refine hba.mono ?_
  clear hba
  rintro e w4 ⟨vb, rfl, hvb, k4⟩
  replace hkA := hkA.trans' k4
  obtain ⟨gb, ob, cb, evb, _, hgb, hcb1, hcb2, hbc⟩ := hvb.fl.at (fun _ => rfl) (i := 0) (by rw [hb3]; decide)
  subst evb
  have cb0 := hbc 0 (.int .u64 (4096 : Int)) (by
    have h0 : bs[0]'(by rw [hb3]; decide) = 4096 := by
      have h5 : bs[0]? = some 4096 := by rw [← List.head?_eq_getElem?]; exact hb0
      obtain ⟨_, h6⟩ := List.getElem?_eq_some_iff.1 h5
      exact h6
    rw [h0]
    rfl)
  rw [show ob + 0 * 1 + 0 = ob from by omega] at cb0
  have hpl := lplace_any (w := w4) (HVO.out.no k4) (HUS.out.keep k4 fun _ _ _ h => h) HSG.out (by rw [HL.out]; decide) hvb.fl HBL.out
  have hpl2 := fun W (hk : Keep No w4 W) => lplace_any (w := W) (bases := []) (B := fun _ => True) ((HVO.out.no k4).no hk) ((HUS.out.keep k4 fun _ _ _ h => h).keep hk fun _ _ _ h => h) HSG.out (by rw [HL.out]; decide) Fl.nil (fun b hb => by cases hb)
  have HPL2 := Lib.hid hpl2
  rw [← HMM.out] at hpl
  have hcb3 : cb ≤ 9223372036854775807 := by unfold maxLen at hcb2; omega
  rw [hb3] at hcb1 hpl ⊢
  clear hbc hvb k4 hbe hpl2 hcb2
  go_wp2_with fail
  refine hpl.mono ?_
  clear hpl
  rintro e w5 ⟨vm, rfl, hvm, hmd, k5⟩
  replace hkA := hkA.trans' k5
  replace cb0 := (k5.cell (p := ⟨gb, ob, none⟩) hgb fun h => h).trans cb0
  replace hgb := Nat.lt_of_lt_of_le hgb k5.size
  obtain ⟨hm1, hm2, hm3, hm4, hm5, hm6, hm7⟩ := HM.out
  obtain ⟨me, ml⟩ := mm
  dsimp only at hm1 hm2 hm3 hm4 hm5 hm6 hm7 hvm hmd
  subst hm1
  obtain ⟨x0, x1, x2, hml⟩ : ∃ x0 x1 x2, ml = [x0, x1, x2] := by
    match ml, hm2 with
    | [x0, x1, x2], _ => exact ⟨x0, x1, x2, rfl⟩
  have g0 := md_at hvm.fl (i := 0) (m := x0) (by rw [hml]; rfl)
  have g1 := md_at hvm.fl (i := 1) (m := x1) (by rw [hml]; rfl)
  have g2 := md_at hvm.fl (i := 2) (m := x2) (by rw [hml]; rfl)
  rw [hml] at hm3 hm4
  injection hm3 with q0 hm3
  injection hm3 with q1 hm3
  injection hm3 with q2 hm3
  injection hm4 with q3
  have q0 : x0.tls = true := q0
  have q1 : x1.tls = false := q1
  have q3 : x2.off = 8 := q3
  obtain ⟨gm, om, cm, rfl, hgm, hcm1, hcm2, hc0⟩ := g0
  obtain ⟨gm1, om1, cm1, ev, _, _, _, hc1⟩ := g1
  injection ev with ev el e3
  injection ev with ev
  injection ev with e1 e2
  subst e1 e2 e3
  clear el
  obtain ⟨gm1, om1, cm1, ev, _, _, _, hc2⟩ := g2
  injection ev with ev el e3
  injection ev with ev
  injection ev with e1 e2
  subst e1 e2 e3
  clear el
  have d0 := hc0 4 (.bool true) (by rw [← q0]; rfl)
  have d1 := hc1 4 (.bool false) (by rw [← q1]; rfl)
  have d2 := hc2 5 (.int .u64 (8 : Int)) (by
    have : (encMd x2)[5]? = some (.int .u64 (x2.off : Int)) := rfl
    rw [this, q3]
    rfl)
  rw [show om + 0 * 7 + 4 = om + 4 from by omega] at d0
  rw [show om + 1 * 7 + 4 = om + 11 from by omega] at d1
  rw [show om + 2 * 7 + 5 = om + 19 from by omega] at d2
  have hcm3 : cm ≤ 9223372036854775807 := by unfold maxLen at hcm2; omega
  have hp2 := HPL2.out w5 k5
  have HVM := Lib.hid hvm
  have HMD := Lib.hid hmd
  have H5 := Lib.hid (And.intro hm5 (And.intro hm6 hm7))
  rw [hm2] at hcm1 ⊢
  have HM2 := Lib.hid hm2
  clear hc0 hc1 hc2 hml hm2 hm3 hm5 hm6 hm7 hvm hmd q0 q1 q2 q3 k5 hcm2 HM HMM
  obtain ⟨pe, hpe⟩ : ∃ p, p = layL us [] := ⟨_, rfl⟩
  rw [← hpe] at hp2
  have hpe1 : pe.1 = 1 := by rw [hpe]; exact HE.out
  rw [hpe1] at hp2
  clear hpe hpe1
  go_wp2_with fail
  refine hp2.mono ?_
  clear hp2
  rintro e w6 ⟨vn, rfl, hvn, _, k6⟩
  replace hkA := hkA.trans' k6
  replace cb0 := (k6.cell (p := ⟨gb, ob, none⟩) hgb fun h => h).trans cb0
  replace d0 := (k6.cell (p := ⟨gm, om + 4, none⟩) hgm fun h => h).trans d0
  replace d1 := (k6.cell (p := ⟨gm, om + 11, none⟩) hgm fun h => h).trans d1
  replace d2 := (k6.cell (p := ⟨gm, om + 19, none⟩) hgm fun h => h).trans d2
  obtain ⟨an, nn, cn, rfl⟩ := FlO.sh hvn
  have hVM6 := HVM.out.fl.no k6
  rw [HM2.out] at hVM6
  have hmem : ∀ m ∈ ml, m.mem ≤ 1099511627776 := fun m hm => by have := (HMD.out m hm).2.2; omega
  have hblk := fun W (hk : Keep No w6 W) => lblock_any (w := W) ml (hVM6.no hk) hmem (by rw [HM2.out]; decide)
  have hof := fun W (hk : Keep No w6 W) (x : Nat) => lof_any (w := W) ml x (hVM6.no hk)
  rw [H5.out.1] at hblk
  have HBLK := Lib.hid hblk
  have HOF := Lib.hid hof
  clear hblk hof hmem hVM6 hvn k6
  go_wp2_with fail
  refine (HBLK.out w6 (Keep.refl _ _)).mono ?_
  rintro e w7 ⟨rfl, k7⟩
  have hofa := HOF.out w7 k7 4096
  rw [H5.out.2.1] at hofa
  go_wp2_with fail
  refine hofa.mono ?_
  clear hofa
  rintro e w8 ⟨rfl, k8⟩
  have hofb := HOF.out w8 (k7.trans' k8) 0
  rw [H5.out.2.2] at hofb
  go_wp2_with fail
  refine hofb.mono ?_
  clear hofb
  rintro e w9 ⟨rfl, k9⟩
  have hkF := hkA.trans' ((k7.trans' k8).trans' k9)
  go_wp2_with fail
  go_ret
  exact ⟨rfl, hkF⟩
end
end Go.Proofs.Ytbnahidopemkiaa
namespace Go.Dm.Ld
open Go Go.Dm.Oc Go.Proofs.Ytbnahidopemkiaa
theorem bodyM_le {s : Sp} {y : Lay} {tb : BS} {ats : List Nat} (hy : LayF s tb.length ats y) (hal : ats.length = 1 + s.need.length + s.defs.length) : (bodyM s y tb ats).length ≤ y.tls + s.tls.length := by
  obtain ⟨y1, y2, y3, y4, y5, y6, y7, y8⟩ := hy
  rw [bodyM_end]
  unfold endM tailM endsM
  obtain ⟨B, hB⟩ : ∃ B, B = padM (headsM s y ++ infoB ((ats.drop 1).take s.need.length) y.v ++ tb) 8 ++ (if s.defs.isEmpty then [] else List.replicate 24 0) ++ (((ats.drop (1 + s.need.length)).zip s.defs).flatMap fun p => symR (symOf y p.1 p.2)) ++ s.fixes.flatMap fun f => relR (relOf y f) := ⟨_, rfl⟩
  rw [← hB]
  have hBl : B.length = y.last := by
    rw [hB, List.length_append, List.length_append, List.length_append, padM_up8, List.length_append, List.length_append, headsM_len, ← y1, ← y2, ← y4, y5, flat24 _ (fun _ => symR_len _), flat24 _ (fun _ => relR_len _), List.length_zip, List.length_drop, hal]
    have hz : (if s.defs.isEmpty = true then ([] : BS) else List.replicate 24 0).length + 24 * min (1 + s.need.length + s.defs.length - (1 + s.need.length)) s.defs.length = 24 * (if s.defs.isEmpty then 0 else s.defs.length + 1) := by
      rw [show 1 + s.need.length + s.defs.length - (1 + s.need.length) = s.defs.length from by omega, Nat.min_self]
      cases s.defs with
      | nil => rfl
      | cons a r =>
        rw [List.isEmpty_cons, if_neg (by decide), if_neg (by decide), List.length_replicate]
        omega
    omega
  have hC : (endC s B).length ≤ y.data := by
    unfold endC
    split
    · rw [hBl, y7, y6]; unfold upM; omega
    · rw [List.length_append, padM_up256, hBl, ← y6, y7]; unfold upM; omega
  have hC2 : upM (endC s B).length 256 ≤ y.data := by
    unfold endC
    split
    · rw [hBl, ← y6, y7]; unfold upM; omega
    · rw [List.length_append, padM_up256, hBl, ← y6, y7]; unfold upM; omega
  have hD : (endD s (endC s B)).length ≤ y.data + s.data.length := by
    unfold endD
    split
    · omega
    · rw [List.length_append, padM_up256]; omega
  have ht : y.data + s.data.length ≤ y.tls := by rw [y8]; unfold upM; omega
  unfold endT
  split
  · omega
  · rw [List.length_append, List.length_append, List.length_replicate]; omega
section
variable {kind : Int} {need : List BS} {n t : Nat}
theorem sp16_may (hk : kind = 2 ∨ kind = 3) (hn : n < 256) (ht : t < 256) : mayM (sp16 kind need n t) = 0 := by
  unfold mayM sp16
  dsimp only
  rw [if_neg (by omega), if_neg (by simp), if_neg (by simp), if_neg (by rw [List.length_replicate, List.length_replicate]; simp only [List.length_nil]; omega)]
theorem sp16_good (hk : kind = 2 ∨ kind = 3) (hn : n < 256) (ht : t < 256) (hne : ∀ x ∈ need, x ≠ []) : GoodS (sp16 kind need n t) :=
  ⟨sp16_may hk hn ht, hne, fun d h => (by cases h), Nat.zero_lt_succ _, fun d h => (by cases h), fun d h => (by cases h), fun d h => (by cases h), fun d h => (by cases h)⟩
/-- names that a table can hold, and how long it is -/
structure Need16 (need : List BS) : Prop where
  ne : ∀ x ∈ need, x ≠ []
  ok : (strM ([] :: (need ++ []))).1 = 0
  le : (strM ([] :: (need ++ []))).2.1.length ≤ 8
  n2 : need.length ≤ 2
theorem need0 : Need16 [] := ⟨by simp, by decide, by decide, by decide⟩
theorem need2 : Need16 [[120], [121]] := ⟨by simp, by decide, by decide, by decide⟩
theorem lay16 (hn : n < 256) (ht : t < 256) (hne : Need16 need) :
    (layS (sp16 kind need n t)).last ≤ 2000 ∧ (layS (sp16 kind need n t)).tls ≤ 6000 ∧ (outS (sp16 kind need n t)).length ≤ 7000 ∧ (layS (sp16 kind need n t)).dyn + (layS (sp16 kind need n t)).size ≤ (layS (sp16 kind need n t)).last ∧ 0 < (layS (sp16 kind need n t)).dyn := by
  have hF : LayF (sp16 kind need n t) (tabS (sp16 kind need n t)).length (atsS (sp16 kind need n t)) (layS (sp16 kind need n t)) := layM_f _ _ _
  have hst : (strM (strsOf (sp16 kind need n t))).1 = 0 := hne.ok
  have htl : (tabS (sp16 kind need n t)).length ≤ 8 := hne.le
  have hal := (strM_ok hst).1
  have hsl : (strsOf (sp16 kind need n t)).length = 1 + (sp16 kind need n t).need.length + (sp16 kind need n t).defs.length := by
    unfold strsOf
    simp only [List.length_cons, List.length_append, List.length_map]
    omega
  rw [hsl] at hal
  have hle := bodyM_le hF hal
  obtain ⟨y1, y2, y3, y4, y5, y6, y7, y8⟩ := hF
  have hct : (layS (sp16 kind need n t)).count ≤ 5 := by rw [y1]; split <;> split <;> split <;> omega
  have hsz := info_len (((atsS (sp16 kind need n t)).drop 1).take (sp16 kind need n t).need.length) (layS (sp16 kind need n t)).v
  rw [← y4, List.length_take] at hsz
  have h2 : (sp16 kind need n t).need.length ≤ 2 := hne.n2
  have hc : (sp16 kind need n t).code.length = 1 + 4 * n := List.length_replicate
  have hd : (sp16 kind need n t).data.length = 0 := rfl
  have htt : (sp16 kind need n t).tls.length = t % 16 := List.length_replicate
  have hde : (sp16 kind need n t).defs.isEmpty = true := rfl
  have hfx : (sp16 kind need n t).fixes.length = 0 := rfl
  rw [hde, if_pos rfl, hfx] at y5
  rw [hc] at y7
  rw [hd] at y8
  rw [htt] at hle
  have ho : outS (sp16 kind need n t) = bodyM (sp16 kind need n t) (layS (sp16 kind need n t)) (tabS (sp16 kind need n t)) (atsS (sp16 kind need n t)) := rfl
  rw [ho]
  unfold upM at y5 y6 y7 y8
  omega
theorem parse16 (hk : kind = 2 ∨ kind = 3) (hn : n < 256) (ht : t < 256) (hne : Need16 need) : (buildM (sp16 kind need n t)).2 = outS (sp16 kind need n t) ∧ parseM (outS (sp16 kind need n t)) = (0, imS (sp16 kind need n t)) := by
  have hl := (lay16 (kind := kind) hn ht hne).2.2.1
  have hg := sp16_good hk hn ht hne.ne
  have hst : (strM (strsOf (sp16 kind need n t))).1 = 0 := hne.ok
  exact ⟨by rw [buildM_out hg.may hst (by omega)], parse_build _ hg hst (by omega)⟩
end
theorem unit16 {nm : BS} {fs : Fs} {fb : Bool} {kind : Int} {need : List BS} {n t : Nat} (hk : kind = 2 ∨ kind = 3) (hn : n < 256) (ht : t < 256) (hne : Need16 need) (hf : findF fs nm = some (buildM (sp16 kind need n t)).2) (hfb : fb = decide (kind = 2)) : unitM nm fs fb = (0, imS (sp16 kind need n t)) := by
  obtain ⟨h1, h2⟩ := parse16 hk hn ht hne
  unfold unitM
  rw [hf, h1]
  dsimp only
  rw [h2]
  dsimp only
  have hkd : (imS (sp16 kind need n t)).hd.kind = kind.toNat := rfl
  rw [if_neg (fun h => h rfl), hkd, if_pos]
  rw [hfb]
  rcases hk with rfl | rfl <;> rfl
def us16 (a0 a1 a2 t0 t1 t2 : Nat) : List (BS × Im) := [([109], imS (sp16 2 [[120], [121]] a0 t0)), ([120], imS (sp16 3 [] a1 t1)), ([121], imS (sp16 3 [] a2 t2))]
theorem order16 {a0 a1 a2 t0 t1 t2 : Nat} (ha0 : a0 < 256) (ha1 : a1 < 256) (ha2 : a2 < 256) (ht0 : t0 < 256) (ht1 : t1 < 256) (ht2 : t2 < 256) : orderM [109] (fs16 a0 a1 a2 t0 t1 t2) = (0, us16 a0 a1 a2 t0 t1 t2) := by
  have u0 := unit16 (nm := [109]) (fs := fs16 a0 a1 a2 t0 t1 t2) (fb := true) (.inl rfl) ha0 ht0 need2 rfl rfl
  have u1 := unit16 (nm := [120]) (fs := fs16 a0 a1 a2 t0 t1 t2) (fb := false) (.inr rfl) ha1 ht1 need0 rfl rfl
  have u2 := unit16 (nm := [121]) (fs := fs16 a0 a1 a2 t0 t1 t2) (fb := false) (.inr rfl) ha2 ht2 need0 rfl rfl
  generalize fs16 a0 a1 a2 t0 t1 t2 = fs at *
  have s0 : orderGo fs 8 [[109]] [] = orderGo fs 7 [[109], [120], [121]] [([109], imS (sp16 2 [[120], [121]] a0 t0))] := by
    show (if (unitM [109] fs true).1 ≠ 0 then ((unitM [109] fs true).1, []) else match addN [[109]] (unitM [109] fs true).2.need with | none => (13, []) | some names' => orderGo fs 7 names' ([] ++ [([109], (unitM [109] fs true).2)])) = _
    rw [u0]
    rfl
  have s1 : orderGo fs 7 [[109], [120], [121]] [([109], imS (sp16 2 [[120], [121]] a0 t0))] = orderGo fs 6 [[109], [120], [121]] [([109], imS (sp16 2 [[120], [121]] a0 t0)), ([120], imS (sp16 3 [] a1 t1))] := by
    show (if (unitM [120] fs false).1 ≠ 0 then ((unitM [120] fs false).1, []) else match addN [[109], [120], [121]] (unitM [120] fs false).2.need with | none => (13, []) | some names' => orderGo fs 6 names' ([([109], imS (sp16 2 [[120], [121]] a0 t0))] ++ [([120], (unitM [120] fs false).2)])) = _
    rw [u1]
    rfl
  have s2 : orderGo fs 6 [[109], [120], [121]] [([109], imS (sp16 2 [[120], [121]] a0 t0)), ([120], imS (sp16 3 [] a1 t1))] = orderGo fs 5 [[109], [120], [121]] (us16 a0 a1 a2 t0 t1 t2) := by
    show (if (unitM [121] fs false).1 ≠ 0 then ((unitM [121] fs false).1, []) else match addN [[109], [120], [121]] (unitM [121] fs false).2.need with | none => (13, []) | some names' => orderGo fs 5 names' ([([109], imS (sp16 2 [[120], [121]] a0 t0)), ([120], imS (sp16 3 [] a1 t1))] ++ [([121], (unitM [121] fs false).2)])) = _
    rw [u2]
    rfl
  show orderGo fs 8 [[109]] [] = _
  rw [s0, s1, s2]
  rfl
end Go.Dm.Ld
namespace Go.Dm.Ld
open Go Go.Dm.Oc Go.Proofs.Ytbnahidopemkiaa
theorem spanGo0 {N : Nat} : ∀ (l : List Sg) (hi : Nat), hi % 256 = 0 → hi ≤ N + 255 → (∀ s ∈ l, s.ty = 1 → s.va + s.me ≤ N) →
    (spanGo l (0, hi, true)).1 = 0 ∧ hi ≤ (spanGo l (0, hi, true)).2.1 ∧ (spanGo l (0, hi, true)).2.1 % 256 = 0 ∧ (spanGo l (0, hi, true)).2.1 ≤ N + 255
  | [], hi, h1, h2, _ => ⟨rfl, Nat.le_refl _, h1, h2⟩
  | s :: r, hi, h1, h2, h3 => by
    unfold spanGo
    by_cases ht : s.ty = 1
    · have h4 := h3 s (List.mem_cons_self ..) ht
      have h5 : (if (!true || decide (firstM s < 0)) = true then firstM s else 0) = 0 := by
        rw [decide_eq_false (Nat.not_lt_zero _)]
        rfl
      rw [if_pos ht, h5]
      have h6 : lastM s % 256 = 0 ∧ lastM s ≤ N + 255 := by unfold lastM; omega
      have ih := spanGo0 r (max hi (lastM s)) (by omega) (by omega) fun s hs => h3 s (List.mem_cons_of_mem _ hs)
      exact ⟨ih.1, by have := ih.2.1; omega, ih.2.2⟩
    · rw [if_neg ht]
      exact spanGo0 r hi h1 h2 fun s hs => h3 s (List.mem_cons_of_mem _ hs)
structure Sp16 (l : List Sg) (x : Nat) : Prop where
  lo : (spanM l).1 = 0
  md : (spanM l).2 % 256 = 0
  ps : 0 < (spanM l).2
  le : (spanM l).2 ≤ 1048576
  tn : x = 0 → findM l 7 = none
  ts : 0 < x → ∃ s, findM l 7 = some s ∧ s.me = x
theorem span16 {kind : Int} {need : List BS} {n t : Nat} (hk : kind = 2 ∨ kind = 3) (hn : n < 256) (ht : t < 256) (hne : Need16 need) : Sp16 (imS (sp16 kind need n t)).segs (t % 16 + t / 64) := by
  obtain ⟨b1, b2, b3, b4, b5⟩ := lay16 (kind := kind) hn ht hne
  have hF : LayF (sp16 kind need n t) (tabS (sp16 kind need n t)).length (atsS (sp16 kind need n t)) (layS (sp16 kind need n t)) := layM_f _ _ _
  obtain ⟨y1, y2, y3, y4, y5, y6, y7, y8⟩ := hF
  have hc : (sp16 kind need n t).code.length = 1 + 4 * n := List.length_replicate
  have hd : (sp16 kind need n t).data.length = 0 := rfl
  have htt : (sp16 kind need n t).tls.length = t % 16 := List.length_replicate
  have hbs : (sp16 kind need n t).bss = 0 := rfl
  have htb : (sp16 kind need n t).tbss = t / 64 := rfl
  rw [hc] at y7
  rw [hd] at y8
  unfold upM at y6 y7 y8
  have hbd : ∀ s ∈ segsM (sp16 kind need n t) (layS (sp16 kind need n t)), s.ty = 1 → s.va + s.me ≤ 100000 := fun s hs _ => by
    rcases segsM_mem hs with rfl | ⟨_, rfl⟩ | ⟨_, rfl⟩ | rfl | ⟨_, rfl⟩
    · unfold sg1; dsimp only; omega
    · unfold sgC; dsimp only; omega
    · have hdn : dataN (sp16 kind need n t) (layS (sp16 kind need n t)) ≤ 10000 := by
        rw [dataN_eq]
        split <;> omega
      unfold Ld.sgD
      dsimp only
      omega
    · rename_i h7
      exact absurd h7 (by rw [sgN_ty]; decide)
    · rename_i h7
      exact absurd h7 (by rw [sgT_ty]; decide)
  have hsegs : (imS (sp16 kind need n t)).segs = segsM (sp16 kind need n t) (layS (sp16 kind need n t)) := rfl
  rw [hsegs]
  have hhd : ∃ r, segsM (sp16 kind need n t) (layS (sp16 kind need n t)) = sg1 (layS (sp16 kind need n t)) :: r := ⟨_, rfl⟩
  obtain ⟨r, hr⟩ := hhd
  have hl1 : lastM (sg1 (layS (sp16 kind need n t))) = (layS (sp16 kind need n t)).code := by unfold lastM sg1; dsimp only; omega
  have hsp := spanGo0 (N := 100000) r (layS (sp16 kind need n t)).code (by omega) (by omega) fun s hs h => hbd s (by rw [hr]; exact List.mem_cons_of_mem _ hs) h
  have hst : spanGo (segsM (sp16 kind need n t) (layS (sp16 kind need n t))) (0, 0, false) = spanGo r (0, (layS (sp16 kind need n t)).code, true) := by
    rw [hr]
    conv => lhs; unfold spanGo
    rw [if_pos (by rfl), hl1, Nat.zero_max]
    have e : (if (!false || decide (firstM (sg1 (layS (sp16 kind need n t))) < 0)) = true then firstM (sg1 (layS (sp16 kind need n t))) else 0) = 0 := by
      rw [if_pos (by rfl)]
      unfold firstM sg1
      dsimp only
    rw [e]
  have hsm : spanM (segsM (sp16 kind need n t) (layS (sp16 kind need n t))) = ((spanGo r (0, (layS (sp16 kind need n t)).code, true)).1, (spanGo r (0, (layS (sp16 kind need n t)).code, true)).2.1) := by
    unfold spanM
    rw [hst]
  have hcp : 0 < (layS (sp16 kind need n t)).code := by omega
  refine ⟨by rw [hsm]; exact hsp.1, by rw [hsm]; exact hsp.2.2.1, by rw [hsm]; exact Nat.lt_of_lt_of_le hcp hsp.2.1, by rw [hsm]; have := hsp.2.2.2; show _ ≤ 1048576; omega, fun h => ?_, fun h => ?_⟩
  · rw [findM_7]
    have : hasTB (sp16 kind need n t) = false := by
      rw [Bool.eq_false_iff]
      intro h2
      have := hasTB_iff.1 h2
      omega
    rw [this]
    rfl
  · rw [findM_7, hasTB_iff.2 (by omega), if_pos rfl]
    refine ⟨_, rfl, ?_⟩
    show (sp16 kind need n t).tls.length + (sp16 kind need n t).tbss = _
    omega
theorem modM_low (u : BS × Im) (b : Nat) (o : List Md) : (modM u b o).low = b + (spanM u.2.segs).1 ∧ (modM u b o).high = b + (spanM u.2.segs).2 := by
  unfold modM
  split <;> exact ⟨rfl, rfl⟩
theorem modM_tls {u : BS × Im} {b x : Nat} {o : List Md} (h : Sp16 u.2.segs x) : (modM u b o).tls = decide (0 < x) ∧ (modM u b o).mem = x ∧ (0 < x → (modM u b o).off = blockM o) := by
  unfold modM
  rcases Nat.eq_zero_or_pos x with h0 | h0
  · rw [h.tn h0]
    subst h0
    exact ⟨rfl, rfl, fun h => absurd h (Nat.lt_irrefl _)⟩
  · obtain ⟨s, hs, he⟩ := h.ts h0
    rw [hs]
    exact ⟨(decide_eq_true h0).symm, he, fun _ => rfl⟩
theorem place3 {u0 u1 u2 : BS × Im} {x0 x1 x2 : Nat} (h0 : Sp16 u0.2.segs x0) (h1 : Sp16 u1.2.segs x1) (h2 : Sp16 u2.2.segs x2) :
    ∃ b1 b2, basesM [u0, u1, u2] = [4096, b1, b2] ∧ 4096 + (spanM u0.2.segs).2 < b1 ∧ b1 + (spanM u1.2.segs).2 < b2 ∧
      layL [u0, u1, u2] [4096, b1, b2] = (0, [modM u0 4096 [], modM u1 b1 [modM u0 4096 []], modM u2 b2 [modM u0 4096 [], modM u1 b1 [modM u0 4096 []]]]) := by
  obtain ⟨l0, m0, p0, e0, _, _⟩ := h0
  obtain ⟨l1, m1, p1, e1, _, _⟩ := h1
  obtain ⟨l2, m2, p2, e2, _, _⟩ := h2
  obtain ⟨a1, c1⟩ := modM_low u0 4096 []
  rw [l0, Nat.add_zero] at a1
  refine ⟨4096 + (spanM u0.2.segs).2 + 256, 4096 + (spanM u0.2.segs).2 + 256 + (spanM u1.2.segs).2 + 256, ?_, by omega, by omega, ?_⟩
  · unfold basesM basesGo basesGo basesGo basesGo
    simp only [l0, l1, l2, Nat.sub_zero]
    simp only [Nat.lt_irrefl, if_false, Nat.zero_add, Nat.zero_lt_one, if_true, List.nil_append, List.cons_append]
    rw [if_pos (by omega)]
    rw [show (4096 + (spanM u0.2.segs).2 + 256) % 18446744073709551616 = 4096 + (spanM u0.2.segs).2 + 256 from by omega]
    rw [show (4096 + (spanM u0.2.segs).2 + 256 + 18446744073709551616) % 18446744073709551616 = 4096 + (spanM u0.2.segs).2 + 256 from by omega]
    rw [show (4096 + (spanM u0.2.segs).2 + 256 + (spanM u1.2.segs).2 + 256) % 18446744073709551616 = 4096 + (spanM u0.2.segs).2 + 256 + (spanM u1.2.segs).2 + 256 from by omega]
    rw [show (4096 + (spanM u0.2.segs).2 + 256 + (spanM u1.2.segs).2 + 256 + 18446744073709551616) % 18446744073709551616 = 4096 + (spanM u0.2.segs).2 + 256 + (spanM u1.2.segs).2 + 256 from by omega]
  · obtain ⟨b1, hb1⟩ : ∃ b, b = 4096 + (spanM u0.2.segs).2 + 256 := ⟨_, rfl⟩
    rw [← hb1]
    obtain ⟨b2, hb2⟩ : ∃ b, b = b1 + (spanM u1.2.segs).2 + 256 := ⟨_, rfl⟩
    rw [← hb2]
    obtain ⟨a2, c2⟩ := modM_low u1 b1 [modM u0 4096 []]
    rw [l1, Nat.add_zero] at a2
    have g1 : meetsM (b1 + 0) (b1 + (spanM u1.2.segs).2) (modM u0 4096 []) = false := by
      unfold meetsM meetM
      rw [a1, c1, if_pos (by omega), decide_eq_false (by omega : ¬ b1 + 0 - 4096 < 4096 + (spanM u0.2.segs).2 - 4096), Bool.and_false]
    have g2 : meetsM (b2 + 0) (b2 + (spanM u2.2.segs).2) (modM u0 4096 []) = false := by
      unfold meetsM meetM
      rw [a1, c1, if_pos (by omega), decide_eq_false (by omega : ¬ b2 + 0 - 4096 < 4096 + (spanM u0.2.segs).2 - 4096), Bool.and_false]
    have g3 : meetsM (b2 + 0) (b2 + (spanM u2.2.segs).2) (modM u1 b1 [modM u0 4096 []]) = false := by
      unfold meetsM meetM
      rw [a2, c2, if_pos (by omega), decide_eq_false (by omega : ¬ b2 + 0 - b1 < b1 + (spanM u1.2.segs).2 - b1), Bool.and_false]
    unfold layL
    rw [if_neg (fun h => h rfl)]
    unfold layGo
    rw [if_neg (by omega), l0, List.any_nil, if_neg (by decide)]
    unfold layGo
    rw [if_neg (by omega), l1, List.nil_append, List.any_cons, List.any_nil, g1, if_neg (by decide)]
    unfold layGo
    rw [if_neg (by omega), l2, List.any_append, List.any_cons, List.any_nil, List.any_cons, List.any_nil, g2, g3, if_neg (by decide)]
    rfl
end Go.Dm.Ld
namespace Go.Proofs.Ytbnahidopemkiaa
open Go.RowKit Go.Dm Go.Dm.Oc Go.Dm.Ld
def sel3 (x0 x1 x2 : Nat) (i : Nat) : Nat := if i = 0 then x0 else if i = 1 then x1 else x2
def xT (t : Nat) : Nat := t % 16 + t / 64
/-- three modules: what they have of a thread's block -/
structure Tls3 (ml : List Md) (t0 t1 t2 : Nat) : Prop where
  len : ml.length = 3
  at_ : ∀ i, i < 3 → ∃ m, ml[i]? = some m ∧ m.tls = decide (0 < xT (sel3 t0 t1 t2 i)) ∧ m.mem = xT (sel3 t0 t1 t2 i) ∧ (0 < xT (sel3 t0 t1 t2 i) → m.off = blockM (ml.take i))
theorem blockM_8 (l : List Md) : blockM l % 8 = 0 := by
  induction l with
  | nil => rfl
  | cons a r ih =>
    rw [blockM]
    unfold up8
    split <;> omega
section
variable {A B : Nat → Prop} {w : World} {v : Value}
set_option maxRecDepth 100000 in
set_option maxHeartbeats 1000000 in
theorem layouttls_any (a0 a1 a2 t0 t1 t2 : Nat) (ha0 : a0 < 256) (ha1 : a1 < 256) (ha2 : a2 < 256) (ht0 : t0 < 256) (ht1 : t1 < 256) (ht2 : t2 < 256) :
    Calls Try.prog 7 #[.agg #[.int .u8 (a0 : Int), .int .u8 (a1 : Int), .int .u8 (a2 : Int)], .agg #[.int .u8 (t0 : Int), .int .u8 (t1 : Int), .int .u8 (t2 : Int)]] w fun e w' => e = .returned (.bool true) ∧ Keep No w w' := by
  have s0 := span16 (kind := 2) (.inl rfl) ha0 ht0 need2
  have s1 := span16 (kind := 3) (.inr rfl) ha1 ht1 need0
  have s2 := span16 (kind := 3) (.inr rfl) ha2 ht2 need0
  obtain ⟨b1, b2, hbs, _, _, hpl⟩ := place3 (u0 := ([109], imS (sp16 2 [[120], [121]] a0 t0))) (u1 := ([120], imS (sp16 3 [] a1 t1))) (u2 := ([121], imS (sp16 3 [] a2 t2))) s0 s1 s2
  have hord := order16 ha0 ha1 ha2 ht0 ht1 ht2
  have hT3 : Tls3 (layL (us16 a0 a1 a2 t0 t1 t2) (basesM (us16 a0 a1 a2 t0 t1 t2))).2 t0 t1 t2 ∧ (layL (us16 a0 a1 a2 t0 t1 t2) (basesM (us16 a0 a1 a2 t0 t1 t2))).1 = 0 := by
    unfold us16
    rw [hbs, hpl]
    refine ⟨⟨rfl, fun i hi => ?_⟩, rfl⟩
    rcases (by omega : i = 0 ∨ i = 1 ∨ i = 2) with rfl | rfl | rfl
    · exact ⟨_, rfl, modM_tls s0⟩
    · exact ⟨_, rfl, modM_tls s1⟩
    · exact ⟨_, rfl, modM_tls s2⟩
  have hfl := fs16_le a0 a1 a2 t0 t1 t2
  have hsg := orderM_segs [109] (fs16 a0 a1 a2 t0 t1 t2)
  rw [hord] at hsg
  have hfiles := fun W => files16_any (w := W) a0 a1 a2 t0 t1 t2 ha0 ha1 ha2 ht0 ht1 ht2
  have hul : (us16 a0 a1 a2 t0 t1 t2).length = 3 := rfl
  generalize fs16 a0 a1 a2 t0 t1 t2 = fs at *
  generalize us16 a0 a1 a2 t0 t1 t2 = us at *
  have HF := Lib.hid hfiles
  have HFL := Lib.hid hfl
  have HSG := Lib.hid hsg
  have HO := Lib.hid hord
  have HT := Lib.hid hT3
  have HUL := Lib.hid hul
  clear s0 s1 s2 hbs hpl hord hT3 hfl hsg hfiles hul
  go_enter Try.func7, Try.ntmps7
  go_wp2_with fail
  have hkW1 : Keep No w (w.alloc (.cells #[.int .u8 (a0 : Int), .int .u8 (a1 : Int), .int .u8 (a2 : Int)] 52)) := (Keep.refl _ _).alloc _
  have hBW1 : Blk (w.alloc (.cells #[.int .u8 (a0 : Int), .int .u8 (a1 : Int), .int .u8 (a2 : Int)] 52)) w.heap.size #[.int .u8 (a0 : Int), .int .u8 (a1 : Int), .int .u8 (a2 : Int)] 52 := Blk.new _ _ _
  have hzW1 : (w.alloc (.cells #[.int .u8 (a0 : Int), .int .u8 (a1 : Int), .int .u8 (a2 : Int)] 52)).heap.size = w.heap.size + 1 := World.size_alloc _ _
  generalize w.alloc (.cells #[.int .u8 (a0 : Int), .int .u8 (a1 : Int), .int .u8 (a2 : Int)] 52) = W1 at *
  have hkW2 : Keep No W1 (W1.alloc (.cells #[.int .u8 (t0 : Int), .int .u8 (t1 : Int), .int .u8 (t2 : Int)] 52)) := (Keep.refl _ _).alloc _
  have hBW2 : Blk (W1.alloc (.cells #[.int .u8 (t0 : Int), .int .u8 (t1 : Int), .int .u8 (t2 : Int)] 52)) W1.heap.size #[.int .u8 (t0 : Int), .int .u8 (t1 : Int), .int .u8 (t2 : Int)] 52 := Blk.new _ _ _
  have hzW2 : (W1.alloc (.cells #[.int .u8 (t0 : Int), .int .u8 (t1 : Int), .int .u8 (t2 : Int)] 52)).heap.size = W1.heap.size + 1 := World.size_alloc _ _
  generalize W1.alloc (.cells #[.int .u8 (t0 : Int), .int .u8 (t1 : Int), .int .u8 (t2 : Int)] 52) = W2 at *
  have hA := hBW1.keep hkW2 fun h => h
  have hT := hBW2
  have hk := hkW1.trans' hkW2
  rw [hzW1] at hT
  obtain ⟨qa, hqa⟩ : ∃ q, q = w.heap.size := ⟨_, rfl⟩
  rw [← hqa] at hA hT ⊢
  clear hBW1 hkW1 hzW1 hBW2 hkW2 hzW2 hqa
  refine awake16_any.mono ?_
  rintro e w3 ⟨rfl, k3⟩
  replace hA := hA.keep k3 fun h => h
  replace hT := hT.keep k3 fun h => h
  replace hk := hk.trans' k3
  have c0 := hA.cell 0
  have c1 := hA.cell 1
  have c2 := hA.cell 2
  have c3 := hT.cell 0
  have c4 := hT.cell 1
  have c5 := hT.cell 2
  clear k3
  go_wp2_with fail
  refine (HF.out w3).mono ?_
  rintro e w4 ⟨v4, rfl, hf, k4⟩
  have hor := clorder_any (w := w4) [109] (by decide) hf HFL.out
  rw [HO.out] at hor
  obtain ⟨a4, n4, c4', rfl⟩ := fir_sh hf
  replace hT := hT.keep k4 fun h => h
  replace hk := hk.trans' k4
  clear hf k4 c0 c1 c2 c3 c4 c5 hA
  dsimp only at hor
  go_wp2_with fail
  refine hor.mono ?_
  clear hor
  rintro e w5 ⟨vo, ps, rfl, hvo, hus, k5⟩
  replace hT := hT.keep k5 fun h => h
  replace hk := hk.trans' k5
  obtain ⟨ao, no, co, rfl⟩ : ∃ a n c, vo = .slice a n c := by
    obtain ⟨a, c, e, _⟩ := hvo.shape
    exact ⟨_, _, _, e⟩
  have hba := lbases_any (w := w5) hvo hus (fun u hu => (HSG.out u hu).span) (by rw [HUL.out]; decide)
  have hblt := basesM_lt us
  have HBL := Lib.hid hblt
  have HVO := Lib.hid hvo
  have HUS := Lib.hid hus
  clear k5 hvo hus hblt
  generalize basesM us = bs at *
  go_wp2_with fail
  refine hba.mono ?_
  clear hba
  rintro e w6 ⟨vb, rfl, hvb, k6⟩
  have hpl := lplace_any (w := w6) (HVO.out.no k6) (HUS.out.keep k6 fun _ _ _ h => h) HSG.out (by rw [HUL.out]; decide) hvb.fl HBL.out
  obtain ⟨hT3, hT0⟩ := HT.out
  generalize layL us bs = lr at *
  obtain ⟨le, ml⟩ := lr
  dsimp only at hT3 hT0 hpl
  subst hT0
  have HT3 := Lib.hid hT3
  obtain ⟨ab, nb, cb, rfl⟩ := FlO.sh hvb
  replace hT := hT.keep k6 fun h => h
  replace hk := hk.trans' k6
  clear hvb k6 hT3 HT
  go_wp2_with fail
  refine hpl.mono ?_
  clear hpl
  rintro e w7 ⟨vm, rfl, hvm, hmd, k7⟩
  replace hT := hT.keep k7 fun h => h
  replace hk := hk.trans' k7
  have hml := HT3.out.len
  obtain ⟨am, nm, cm, rfl⟩ := FlO.sh hvm
  have hnm := fl_len hvm.fl
  rw [hml] at hnm
  subst hnm
  have HVM := Lib.hid hvm.fl
  have HMD := Lib.hid hmd
  have HML := Lib.hid hml
  clear hvm hmd hml k7
  go_wp2_with fail
  go_loopw [10, 11, 12] (fun av iv _ wr => ∃ i : Nat, iv = .int .i64 (i : Int) ∧ av = .int .u64 (blockM (ml.take i) : Nat) ∧ i ≤ 3 ∧ Keep No w7 wr) (fun _ iv _ _ => 3 - (intOf iv).toNat)
  case atStart => exact ⟨0, rfl, rfl, Nat.zero_le _, Keep.refl _ _⟩
  case round =>
    obtain ⟨i, rfl, rfl, hi, hkz⟩ := hrel
    generalize wr = wz at *
    have hmem : ∀ m ∈ ml, m.mem ≤ 1099511627776 := fun m hm => by have := (HMD.out m hm).2.2; omega
    have hble := blockM_le (ml.take i) fun m hm => hmem m (List.mem_of_mem_take hm)
    rw [List.length_take] at hble
    have hble2 : blockM (ml.take i) ≤ 4398046511136 := by
      have : min i ml.length ≤ 3 := by omega
      omega
    have h8 := blockM_8 (ml.take i)
    rcases Nat.lt_or_ge i 3 with hlt | hge
    · have hiz : (i : Int) < 3 := by omega
      obtain ⟨m, hmi, hm1, hm2, hm3⟩ := HT3.out.at_ i hlt
      obtain ⟨g, off, c, ev, hg, _, _, hc⟩ := md_at HVM.out hmi
      rw [HML.out] at ev
      injection ev with q1 q2 q3
      subst q1 q3
      have d4 := (hkz.cell (p := ⟨g, off + i * 7 + 4, none⟩) hg fun h => h).trans (hc 4 _ rfl)
      have d5 := (hkz.cell (p := ⟨g, off + i * 7 + 5, none⟩) hg fun h => h).trans (hc 5 _ rfl)
      have d6 := (hkz.cell (p := ⟨g, off + i * 7 + 6, none⟩) hg fun h => h).trans (hc 6 _ rfl)
      have hTz := hT.keep hkz fun h => h
      have ht : wz.cell? ⟨qa + 1, i, none⟩ = some (.int .u8 (sel3 t0 t1 t2 i : Nat)) := by
        rcases (by omega : i = 0 ∨ i = 1 ∨ i = 2) with rfl | rfl | rfl
        · exact hTz.cell 0
        · exact hTz.cell 1
        · exact hTz.cell 2
      have htb : sel3 t0 t1 t2 i < 256 := by
        unfold sel3
        repeat' split
        all_goals assumption
      have htk : blockM (ml.take (i + 1)) = blockM (ml.take i) + (if m.tls then up8 m.mem else 0) := by
        obtain ⟨hlt2, he⟩ := List.getElem?_eq_some_iff.1 hmi
        rw [List.take_succ_eq_append_getElem hlt2, blockM_append, he]
      obtain ⟨tt, htt⟩ : ∃ t, t = sel3 t0 t1 t2 i := ⟨_, rfl⟩
      rw [← htt] at ht htb hm1 hm2 hm3
      obtain ⟨n, hn⟩ : ∃ n, n = blockM (ml.take i) := ⟨_, rfl⟩
      rw [← hn] at hble2 h8 htk hm3 ⊢
      have HTK := Lib.hid htk
      have e3 : bits .and .u8 (tt : Int) 15 = ((tt % 16 : Nat) : Int) := by
        have h := u8_and_nat tt 15 htb (by decide)
        rw [show ((15 : Nat) : Int) = 15 from rfl] at h
        rw [h]
        congr 1
        exact Nat.and_two_pow_sub_one_eq_mod tt 4
      have e4 : ((tt : Int) / 64) = ((tt / 64 : Nat) : Int) := by omega
      obtain ⟨p, hp⟩ : ∃ p, p = tt % 16 := ⟨_, rfl⟩
      obtain ⟨r, hr⟩ : ∃ p, p = tt / 64 := ⟨_, rfl⟩
      obtain ⟨x, hx⟩ : ∃ x, x = xT tt := ⟨_, rfl⟩
      have hxe : x = p + r := by rw [hx, hp, hr]; rfl
      have hxb : x ≤ 20 := by omega
      rw [← hp] at e3
      rw [← hr] at e4
      rw [← hx] at hm1 hm2 hm3
      have e5 : IntKind.u64.wrap (p : Int) = (p : Int) := by rw [IntKind.wrap_u64]; omega
      have e6 : IntKind.u64.wrap (r : Int) = (r : Int) := by rw [IntKind.wrap_u64]; omega
      have e7 : IntKind.u64.wrap ((p : Int) + (r : Int)) = (x : Int) := by rw [IntKind.wrap_u64]; omega
      have e8 : (p : Int) + (r : Int) = (x : Int) := by omega
      rw [hm1] at d4
      rw [hm2] at d6
      clear hble hp hr hx hxe htk hn htt q2 hc hTz hmem hmi
      go_upto_region 12 with fail
      go_quiet (fail)
      rename_i nq
      have d4q : (wz.drewN nq).cell? ⟨g, off + i * 7 + 4, none⟩ = some (.bool (decide (0 < x))) := d4
      have d5q : (wz.drewN nq).cell? ⟨g, off + i * 7 + 5, none⟩ = some (.int .u64 (m.off : Int)) := d5
      have d6q : (wz.drewN nq).cell? ⟨g, off + i * 7 + 6, none⟩ = some (.int .u64 (x : Int)) := d6
      have hkq : Keep No w7 (wz.drewN nq) := hkz.drewN _
      generalize wz.drewN nq = wq at *
      clear d4 d5 d6 e3 e4 e5 e6 e7 e8 ht hkz
      rcases Nat.eq_zero_or_pos x with h0 | h0
      · have hd : decide (0 < x) = false := decide_eq_false (by omega)
        have hdi : decide ((0 : Int) < (x : Int)) = false := decide_eq_false (by omega)
        rw [hd] at d4q
        have HE : Hid (blockM (ml.take (i + 1)) = n) := Lib.hid (by rw [HTK.out, hm1, hd]; rfl)
        clear h0 hm1 hm2 hm3
        go_wp2_with fail
        go_roundw
        case rel => exact ⟨i + 1, by go_num, by rw [HE.out], hlt, hkq⟩
        case measure => simp [intOf]; omega
      · have hd : decide (0 < x) = true := decide_eq_true h0
        have hdi : decide ((0 : Int) < (x : Int)) = true := decide_eq_true (by omega)
        have hoff := hm3 h0
        rw [hd] at d4q
        rw [hoff] at d5q
        have HE : Hid (blockM (ml.take (i + 1)) = n + up8 x) := Lib.hid (by rw [HTK.out, hm1, hd, hm2]; rfl)
        have hm8a : ((n : Int)).tmod 8 = 0 := by
          have : ((n : Int)).tmod 8 = ((n % 8 : Nat) : Int) := (Int.ofNat_tmod _ _).symm
          rw [this, h8]
          rfl
        have hm8b : (n : Int) % 8 = 0 := by omega
        have hpos : (0 : Int) < (x : Int) := by omega
        clear h0 hm1 hm2 hm3 hoff h8
        go_wp2_with fail
        go_roundw
        case rel => exact ⟨i + 1, by go_num, by rw [HE.out]; unfold up8; first | rfl | (refine congrArg (Value.int .u64) ?_; omega), hlt, hkq⟩
        case measure => simp [intOf]; omega
    · obtain rfl : i = 3 := Nat.le_antisymm hi hge
      have hte : ml.take 3 = ml := List.take_of_length_le (by rw [HML.out]; exact Nat.le_refl _)
      rw [hte]
      have hvz := HVM.out.no hkz
      have hb := lblock_any (w := wz) ml hvz hmem (by rw [HML.out]; decide)
      have hkF := hk.trans' hkz
      clear hte hble hble2 h8 hvz hkz
      generalize blockM ml = bm at *
      go_wp2_with fail
      refine hb.mono ?_
      clear hb
      rintro e w9 ⟨rfl, k9⟩
      have hkF2 := hkF.trans' k9
      go_wp2_with fail
      go_ret
      exact ⟨by simp, hkF2⟩
theorem rd3 {cs : List Value} {y : List UInt8} (h : Rd A w (.arr 3 .u8) cs y) : ∃ x0 x1 x2 : UInt8, cs = [bv x0, bv x1, bv x2] := by
  obtain ⟨css, rfl, h1, h2, h3⟩ := h
  match css, h1, y, h2, h3 with
  | [c0, c1, c2], _, [x0, x1, x2], _, h3 =>
    have e0 : c0 = [bv x0] := h3 0 c0 x0 rfl rfl
    have e1 : c1 = [bv x1] := h3 1 c1 x1 rfl rfl
    have e2 : c2 = [bv x2] := h3 2 c2 x2 rfl rfl
    subst e0 e1 e2
    exact ⟨x0, x1, x2, rfl⟩
theorem rd3a {cs : Array Value} {y : List UInt8} (h : Rd A w (.arr 3 .u8) cs.toList y) : ∃ x0 x1 x2 : Nat, x0 < 256 ∧ x1 < 256 ∧ x2 < 256 ∧ cs = #[.int .u8 (x0 : Int), .int .u8 (x1 : Int), .int .u8 (x2 : Int)] := by
  obtain ⟨x0, x1, x2, e⟩ := rd3 h
  refine ⟨x0.toNat, x1.toNat, x2.toNat, x0.toNat_lt, x1.toNat_lt, x2.toNat_lt, ?_⟩
  apply Array.toList_inj.1
  rw [e]
  rfl
theorem layouttls_rd {c0 c1 : Array Value} {y0 y1 : List UInt8} (h0 : Rd A w (.arr 3 .u8) c0.toList y0) (h1 : Rd B w (.arr 3 .u8) c1.toList y1) :
    Calls Try.prog 7 #[.agg c0, .agg c1] w fun e w' => e = .returned (.bool true) ∧ Keep No w w' := by
  obtain ⟨a0, a1, a2, g0, g1, g2, rfl⟩ := rd3a h0
  obtain ⟨t0, t1, t2, k0, k1, k2, rfl⟩ := rd3a h1
  exact layouttls_any a0 a1 a2 t0 t1 t2 g0 g1 g2 k0 k1 k2
end
end Go.Proofs.Ytbnahidopemkiaa
namespace Go.Dm.Ld
open Go Go.Dm.Oc
structure Ap (l : List Md) : Prop where
  pos : ∀ m ∈ l, m.low < m.high
  ap : ∀ (i k : Nat) (mi mk : Md), k < i → l[i]? = some mi → l[k]? = some mk → meetM mk.low (mk.high - mk.low) mi.low (mi.high - mi.low) = false
theorem Ap.nil : Ap [] := ⟨fun m h => (by cases h), fun i k mi mk _ h => by simp at h⟩
theorem Ap.push {out : List Md} {m : Md} (h : Ap out) (hm : m.low < m.high) (ha : out.any (meetsM m.low m.high) = false) : Ap (out ++ [m]) := by
  refine ⟨fun x hx => ?_, fun i k mi mk hki hi hk => ?_⟩
  · rcases List.mem_append.1 hx with hx | hx
    · exact h.pos x hx
    · rw [List.mem_singleton.1 hx]; exact hm
  · rcases Nat.lt_or_ge i out.length with hl | hl
    · rw [List.getElem?_append_left hl] at hi
      rw [List.getElem?_append_left (by omega)] at hk
      exact h.ap i k mi mk hki hi hk
    · have hi2 := (List.getElem?_eq_some_iff.1 hi).1
      rw [List.length_append] at hi2
      simp only [List.length_cons, List.length_nil] at hi2
      obtain rfl : i = out.length := by omega
      rw [List.getElem?_append_right (Nat.le_refl _), Nat.sub_self] at hi
      injection hi with hi
      subst hi
      rw [List.getElem?_append_left hki] at hk
      have := List.any_eq_false.1 ha mk (List.mem_of_getElem? hk)
      exact Bool.eq_false_iff.2 this
theorem layGo_ap : ∀ (us : List (BS × Im)) (bs : List Nat) (out : List Md), us.length = bs.length → (∀ u ∈ us, (spanM u.2.segs).1 < (spanM u.2.segs).2) → Ap out → (layGo us bs out).1 = 0 → Ap (layGo us bs out).2 ∧ (layGo us bs out).2.length = out.length + us.length
  | [], _, out, _, _, h, _ => by
    unfold layGo
    exact ⟨h, rfl⟩
  | u :: r, [], out, hl, _, _, _ => by cases hl
  | u :: r, b :: bs, out, hl, hs, h, he => by
    unfold layGo at he ⊢
    split at he
    · cases he
    · rename_i h1
      rw [if_neg h1]
      split at he
      · cases he
      · rename_i h2
        rw [if_neg h2]
        obtain ⟨e1, e2⟩ := modM_low u b out
        have hlt := hs u (List.mem_cons_self ..)
        have hp : Ap (out ++ [modM u b out]) := h.push (by rw [e1, e2]; omega) (by rw [e1, e2]; exact Bool.eq_false_iff.2 h2)
        have ih := layGo_ap r bs _ (by simpa using hl) (fun x hx => hs x (List.mem_cons_of_mem _ hx)) hp he
        refine ⟨ih.1, ?_⟩
        rw [ih.2, List.length_append, List.length_cons]
        simp only [List.length_cons, List.length_nil]
        omega
theorem layL_ap {us : List (BS × Im)} {bs : List Nat} (hs : ∀ u ∈ us, (spanM u.2.segs).1 < (spanM u.2.segs).2) (he : (layL us bs).1 = 0) : Ap (layL us bs).2 ∧ (layL us bs).2.length = us.length := by
  unfold layL at he ⊢
  split at he
  · cases he
  · rename_i h1
    rw [if_neg h1]
    have := layGo_ap us bs [] (Decidable.of_not_not h1) hs Ap.nil he
    exact ⟨this.1, by rw [this.2]; simp⟩
theorem meet_of {a n b m x : Nat} (h1 : a ≤ x) (h2 : x < a + n) (h3 : b ≤ x) (h4 : x < b + m) : meetM a n b m = true := by
  unfold meetM
  rw [decide_eq_true (by omega : 0 < n), decide_eq_true (by omega : 0 < m)]
  split
  · rw [decide_eq_true (by omega)]; rfl
  · rw [decide_eq_true (by omega)]; rfl
theorem meet_comm (a n b m : Nat) : meetM a n b m = meetM b m a n := by
  unfold meetM
  rcases Nat.lt_trichotomy a b with h | h | h
  · rw [if_pos (by omega), if_neg (by omega)]
    cases decide (0 < n) <;> cases decide (0 < m) <;> rfl
  · subst h
    rw [if_pos (Nat.le_refl _), if_pos (Nat.le_refl _), Nat.sub_self]
    cases decide (0 < n) <;> cases decide (0 < m) <;> rfl
  · rw [if_neg (by omega), if_pos (by omega)]
    cases decide (0 < n) <;> cases decide (0 < m) <;> rfl
theorem Ap.of {l : List Md} (h : Ap l) {i : Nat} {m : Md} (hi : l[i]? = some m) {x : Nat} (h1 : m.low ≤ x) (h2 : x < m.high) : ofM l x = (i : Int) := by
  obtain ⟨hlt, he⟩ := List.getElem?_eq_some_iff.1 hi
  refine Go.Proofs.Ytbnahidopemkiaa.posM_some hlt ?_ fun j hj => ?_
  · rw [he]
    unfold inM
    rw [decide_eq_true h1, decide_eq_true h2]
    rfl
  · have hjl : j < l.length := by omega
    rw [Bool.eq_false_iff]
    intro hin
    unfold inM at hin
    rw [Bool.and_eq_true, decide_eq_true_eq, decide_eq_true_eq] at hin
    have := h.ap i j m l[j] hj hi (List.getElem?_eq_getElem hjl)
    rw [meet_of (x := x) hin.1 (by omega) h1 (by omega)] at this
    cases this
theorem ofM_in (l : List Md) (x : Nat) : ofM l x = -1 ∨ ∃ (i : Nat) (m : Md), ofM l x = (i : Int) ∧ l[i]? = some m ∧ m.low ≤ x ∧ x < m.high := by
  unfold ofM
  cases ha : l.any (inM x) with
  | false => left; rw [if_neg (by decide)]
  | true =>
    right
    rw [if_pos rfl]
    obtain ⟨y, hy, h⟩ := List.any_eq_true.1 ha
    have hlt : l.findIdx (inM x) < l.length := List.findIdx_lt_length_of_exists ⟨y, hy, h⟩
    have hin : inM x (l[l.findIdx (inM x)]) = true := List.findIdx_getElem
    unfold inM at hin
    rw [Bool.and_eq_true, decide_eq_true_eq, decide_eq_true_eq] at hin
    exact ⟨_, _, rfl, List.getElem?_eq_getElem hlt, hin.1, hin.2⟩
end Go.Dm.Ld
