/- Chapter 16: the statements' files. Chapter 16: the statements' examples, by the plain models. Chapter 16: the statements' examples. What relocations write, plainly. Images of an order: names and symbols of one length, relocations whose symbols are there; words of relocations, plainly. Chapter 17: the statements' examples, by the plain models. reloc.value. No condition. -/
import Derived.Test.YtbnahidopemkiaaLyA
import Derived.Test.YtbnahidopemkiaaLyM
import Derived.Test.YtbnahidopemkiaaRl2
import Derived.Test.YtbnahidopemkiaaImA
import Derived.Test.YtbnahidopemkiaaSigT
import Derived.Deep.CutRange
import Derived.OwnWalk
import Derived.BigQuiet
set_option linter.unusedVariables false
set_option linter.unusedSimpArgs false
namespace Go.Proofs.Ytbnahidopemkiaa
open Go.RowKit Go.Dm Go.Dm.Oc Go.Dm.Ld
section
variable {A B : Nat → Prop} {w : World} {v : Value}
set_option maxRecDepth 100000 in
set_option maxHeartbeats 4000000 in
theorem files16_any (a0 a1 a2 t0 t1 t2 : Nat) (ha0 : a0 < 256) (ha1 : a1 < 256) (ha2 : a2 < 256) (ht0 : t0 < 256) (ht1 : t1 < 256) (ht2 : t2 < 256) :
    Calls Try.prog 15 #[.agg #[.int .u8 (a0 : Int), .int .u8 (a1 : Int), .int .u8 (a2 : Int)], .agg #[.int .u8 (t0 : Int), .int .u8 (t1 : Int), .int .u8 (t2 : Int)]] w fun e w' => ∃ v', e = .returned v' ∧ FiR (fun _ => True) w' v' (fs16 a0 a1 a2 t0 t1 t2) ∧ Keep No w w' := by
  go_enter Try.func15, Try.ntmps15
  go_upto_region 1 with fail
  have hkW1 : Keep No w (w.alloc (.cells #[.int .u8 (a0 : Int), .int .u8 (a1 : Int), .int .u8 (a2 : Int)] 52)) := (Keep.refl _ _).alloc _
  have hBW1 : Blk (w.alloc (.cells #[.int .u8 (a0 : Int), .int .u8 (a1 : Int), .int .u8 (a2 : Int)] 52)) w.heap.size #[.int .u8 (a0 : Int), .int .u8 (a1 : Int), .int .u8 (a2 : Int)] 52 := Blk.new _ _ _
  have hzW1 : (w.alloc (.cells #[.int .u8 (a0 : Int), .int .u8 (a1 : Int), .int .u8 (a2 : Int)] 52)).heap.size = w.heap.size + 1 := World.size_alloc _ _
  generalize w.alloc (.cells #[.int .u8 (a0 : Int), .int .u8 (a1 : Int), .int .u8 (a2 : Int)] 52) = W1 at *
  have hkW2 : Keep No W1 (W1.alloc (.cells #[.int .u8 (t0 : Int), .int .u8 (t1 : Int), .int .u8 (t2 : Int)] 52)) := (Keep.refl _ _).alloc _
  have hBW2 : Blk (W1.alloc (.cells #[.int .u8 (t0 : Int), .int .u8 (t1 : Int), .int .u8 (t2 : Int)] 52)) W1.heap.size #[.int .u8 (t0 : Int), .int .u8 (t1 : Int), .int .u8 (t2 : Int)] 52 := Blk.new _ _ _
  have hzW2 : (W1.alloc (.cells #[.int .u8 (t0 : Int), .int .u8 (t1 : Int), .int .u8 (t2 : Int)] 52)).heap.size = W1.heap.size + 1 := World.size_alloc _ _
  generalize W1.alloc (.cells #[.int .u8 (t0 : Int), .int .u8 (t1 : Int), .int .u8 (t2 : Int)] 52) = W2 at *
  have hA := hBW1.keep hkW2 fun h => h
  have hT := hBW2
  have hk := hkW1.trans' hkW2
  rw [hzW1] at hT
  obtain ⟨qa, hqa⟩ : ∃ q, q = w.heap.size := ⟨_, rfl⟩
  rw [← hqa] at hA hT ⊢
  clear hBW1 hkW1 hzW1 hBW2 hkW2 hzW2 hqa
  have c0 := hA.cell 0
  have c1 := hA.cell 1
  have c2 := hA.cell 2
  have c3 := hT.cell 0
  have c4 := hT.cell 1
  have c5 := hT.cell 2
  refine wp_region_sig (fun w' => w'.cell? ⟨qa, 0, none⟩ = some (.int .u8 (a0 : Int)) ∧ w'.cell? ⟨qa, 1, none⟩ = some (.int .u8 (a1 : Int)) ∧ w'.cell? ⟨qa, 2, none⟩ = some (.int .u8 (a2 : Int)) ∧ w'.cell? ⟨qa + 1, 0, none⟩ = some (.int .u8 (t0 : Int)) ∧ w'.cell? ⟨qa + 1, 1, none⟩ = some (.int .u8 (t1 : Int)) ∧ w'.cell? ⟨qa + 1, 2, none⟩ = some (.int .u8 (t2 : Int))) (fun j => decide (j ≤ 20)) [(1, true), (2, true), (3, true), (4, true), (7, true), (8, true), (9, true), (10, true), (13, true), (14, true), (15, true), (16, true), (0, false), (5, false), (6, true), (11, false), (12, true), (17, false), (18, true), (19, false), (20, false)] (by kernel_rfl) (by kernel_rfl) (by intro c a d v w h; cases d <;> exact h) ⟨c0, c1, c2, c3, c4, c5⟩ ?_
  apply sig_still (o := ⟨some 6, _, _, _, _, _⟩) rfl rfl
  · intro w' hS
    obtain ⟨q1, q2, q3, q4, q5, q6⟩ := hS
    first | (go_simp; done) | (go_simp; rfl) | rfl
  go_frame
  apply sig_still (o := ⟨some 7, _, _, _, _, _⟩) rfl rfl
  · intro w' hS
    obtain ⟨q1, q2, q3, q4, q5, q6⟩ := hS
    first | (go_simp; done) | (go_simp; rfl) | rfl
  go_frame
  apply sig_still (o := ⟨some 8, _, _, _, _, _⟩) rfl rfl
  · intro w' hS
    obtain ⟨q1, q2, q3, q4, q5, q6⟩ := hS
    first | (go_simp; done) | (go_simp; rfl) | rfl
  go_frame
  apply sig_still (o := ⟨some 9, _, _, _, _, _⟩) rfl rfl
  · intro w' hS
    obtain ⟨q1, q2, q3, q4, q5, q6⟩ := hS
    first | (go_simp; done) | (go_simp; rfl) | rfl
  go_frame
  apply sig_still (o := ⟨some 12, _, _, _, _, _⟩) rfl rfl
  · intro w' hS
    obtain ⟨q1, q2, q3, q4, q5, q6⟩ := hS
    first | (go_simp; done) | (go_simp; rfl) | rfl
  go_frame
  apply sig_still (o := ⟨some 13, _, _, _, _, _⟩) rfl rfl
  · intro w' hS
    obtain ⟨q1, q2, q3, q4, q5, q6⟩ := hS
    first | (go_simp; done) | (go_simp; rfl) | rfl
  go_frame
  apply sig_still (o := ⟨some 14, _, _, _, _, _⟩) rfl rfl
  · intro w' hS
    obtain ⟨q1, q2, q3, q4, q5, q6⟩ := hS
    first | (go_simp; done) | (go_simp; rfl) | rfl
  go_frame
  apply sig_still (o := ⟨some 15, _, _, _, _, _⟩) rfl rfl
  · intro w' hS
    obtain ⟨q1, q2, q3, q4, q5, q6⟩ := hS
    first | (go_simp; done) | (go_simp; rfl) | rfl
  go_frame
  apply sig_still (o := ⟨some 18, _, _, _, _, _⟩) rfl rfl
  · intro w' hS
    obtain ⟨q1, q2, q3, q4, q5, q6⟩ := hS
    first | (go_simp; done) | (go_simp; rfl) | rfl
  go_frame
  apply sig_still (o := ⟨some 19, _, _, _, _, _⟩) rfl rfl
  · intro w' hS
    obtain ⟨q1, q2, q3, q4, q5, q6⟩ := hS
    first | (go_simp; done) | (go_simp; rfl) | rfl
  go_frame
  apply sig_still (o := ⟨some 20, _, _, _, _, _⟩) rfl rfl
  · intro w' hS
    obtain ⟨q1, q2, q3, q4, q5, q6⟩ := hS
    first | (go_simp; done) | (go_simp; rfl) | rfl
  go_frame
  apply sig_still (o := ⟨some 21, _, _, _, _, _⟩) rfl rfl
  · intro w' hS
    obtain ⟨q1, q2, q3, q4, q5, q6⟩ := hS
    first | (go_simp; done) | (go_simp; rfl) | rfl
  go_frame
  clear c0 c1 c2 c3 c4 c5
  refine sig_eff (o := ⟨some 5, _, _, _, _, _⟩) rfl rfl (fun K hKe => ?_)
  go_wp2_with fail
  have kW : Keep No W2 (W2.alloc (.cells #[.string ⟨#[120]⟩, .string ⟨#[121]⟩] 9)).drew := ((Keep.refl _ _).alloc _).drew
  have hBs : Blk (W2.alloc (.cells #[.string ⟨#[120]⟩, .string ⟨#[121]⟩] 9)).drew W2.heap.size #[.string ⟨#[120]⟩, .string ⟨#[121]⟩] 9 := (Blk.new W2 _ _).keep (Keep.refl No _).drew fun h => h
  replace hA := hA.keep kW fun h => h
  replace hT := hT.keep kW fun h => h
  replace hk := hk.trans' kW
  refine ⟨fun _ => ⟨hA.cell 0, hA.cell 1, hA.cell 2, hT.cell 0, hT.cell 1, hT.cell 2⟩, ?_⟩
  generalize (W2.alloc (.cells #[.string ⟨#[120]⟩, .string ⟨#[121]⟩] 9)).drew = wc at *
  clear kW
  refine sig_eff (o := ⟨some 10, _, _, _, _, _⟩) rfl rfl (fun K hKe => ?_)
  go_wp2_with fail
  have hcall := lib16_any (w := wc) 2 [[120], [121]] a0 t0 ha0 ht0 (strs_blk hBs rfl rfl (by decide)) (by decide) (by decide)
  obtain ⟨b0, hb⟩ : ∃ b, b = (buildM (sp16 2 [[120], [121]] a0 t0)).2 := ⟨_, rfl⟩
  rw [← hb] at hcall
  have HB0 := Lib.hid hb
  clear hb
  refine hcall.mono ?_
  clear hcall
  rintro e wn ⟨v3, rfl, h3, k3⟩
  have hb0 : Bts (fun _ => True) wn v3 b0 := Sl.mono (FlO.bts h3) fun _ _ _ => trivial
  obtain ⟨x0, n0, m0, rfl⟩ := FlO.sh h3
  replace hA := hA.keep k3 fun h => h
  replace hT := hT.keep k3 fun h => h
  replace hk := hk.trans' k3
  clear h3
  refine hKe _ _ ⟨fun _ => ⟨hA.cell 0, hA.cell 1, hA.cell 2, hT.cell 0, hT.cell 1, hT.cell 2⟩, ?_⟩
  generalize wn = w3 at *
  clear hBs
  apply sig_still (o := ⟨some 11, _, _, _, _, _⟩) rfl rfl
  · intro w' hS
    obtain ⟨q1, q2, q3, q4, q5, q6⟩ := hS
    first | (go_simp; done) | (go_simp; rfl) | rfl
  go_frame
  refine sig_eff (o := ⟨some 16, _, _, _, _, _⟩) rfl rfl (fun K hKe => ?_)
  go_wp2_with fail
  have hcall := lib16_any (w := w3) (v := .slice none 0 0) (A := fun _ => True) 3 [] a1 t1 ha1 ht1 Fl.nil (by decide) (by decide)
  obtain ⟨b1, hb⟩ : ∃ b, b = (buildM (sp16 3 [] a1 t1)).2 := ⟨_, rfl⟩
  rw [← hb] at hcall
  have HB1 := Lib.hid hb
  clear hb
  refine hcall.mono ?_
  clear hcall
  rintro e wn ⟨v4, rfl, h3, k3⟩
  have hb1 : Bts (fun _ => True) wn v4 b1 := Sl.mono (FlO.bts h3) fun _ _ _ => trivial
  obtain ⟨x1, n1, m1, rfl⟩ := FlO.sh h3
  replace hA := hA.keep k3 fun h => h
  replace hT := hT.keep k3 fun h => h
  replace hk := hk.trans' k3
  clear h3
  refine hKe _ _ ⟨fun _ => ⟨hA.cell 0, hA.cell 1, hA.cell 2, hT.cell 0, hT.cell 1, hT.cell 2⟩, ?_⟩
  generalize wn = w4 at *
  replace hb0 := Sl.keep hb0 k3 fun _ _ _ h => h
  clear k3
  apply sig_still (o := ⟨some 17, _, _, _, _, _⟩) rfl rfl
  · intro w' hS
    obtain ⟨q1, q2, q3, q4, q5, q6⟩ := hS
    first | (go_simp; done) | (go_simp; rfl) | rfl
  go_frame
  refine sig_eff (o := ⟨some 22, _, _, _, _, _⟩) rfl rfl (fun K hKe => ?_)
  go_wp2_with fail
  have hcall := lib16_any (w := w4) (v := .slice none 0 0) (A := fun _ => True) 3 [] a2 t2 ha2 ht2 Fl.nil (by decide) (by decide)
  obtain ⟨b2, hb⟩ : ∃ b, b = (buildM (sp16 3 [] a2 t2)).2 := ⟨_, rfl⟩
  rw [← hb] at hcall
  have HB2 := Lib.hid hb
  clear hb
  refine hcall.mono ?_
  clear hcall
  rintro e wn ⟨v5, rfl, h3, k3⟩
  have hb2 : Bts (fun _ => True) wn v5 b2 := Sl.mono (FlO.bts h3) fun _ _ _ => trivial
  obtain ⟨x2, n2, m2, rfl⟩ := FlO.sh h3
  replace hA := hA.keep k3 fun h => h
  replace hT := hT.keep k3 fun h => h
  replace hk := hk.trans' k3
  clear h3
  refine hKe _ _ ⟨fun _ => ⟨hA.cell 0, hA.cell 1, hA.cell 2, hT.cell 0, hT.cell 1, hT.cell 2⟩, ?_⟩
  generalize wn = w5 at *
  replace hb0 := Sl.keep hb0 k3 fun _ _ _ h => h
  replace hb1 := Sl.keep hb1 k3 fun _ _ _ h => h
  clear k3
  apply sig_still (o := ⟨some 23, _, _, _, _, _⟩) rfl rfl
  · intro w' hS
    obtain ⟨q1, q2, q3, q4, q5, q6⟩ := hS
    first | (go_simp; done) | (go_simp; rfl) | rfl
  go_frame
  refine sig_eff (o := ⟨some 24, _, _, _, _, _⟩) rfl rfl (fun K hKe => ?_)
  go_wp2_with fail
  have k6 : Keep No w5 (w5.alloc (.cells #[.string ⟨#[109]⟩, .slice x0 n0 m0, .string ⟨#[120]⟩, .slice x1 n1 m1, .string ⟨#[121]⟩, .slice x2 n2 m2] 29)) := (Keep.refl _ _).alloc _
  have hB6 := Blk.new w5 #[.string ⟨#[109]⟩, .slice x0 n0 m0, .string ⟨#[120]⟩, .slice x1 n1 m1, .string ⟨#[121]⟩, .slice x2 n2 m2] 29
  replace hA := hA.keep k6 fun h => h
  replace hT := hT.keep k6 fun h => h
  replace hk := hk.trans' k6
  refine ⟨fun _ => ⟨hA.cell 0, hA.cell 1, hA.cell 2, hT.cell 0, hT.cell 1, hT.cell 2⟩, ?_⟩
  generalize w5.alloc (.cells #[.string ⟨#[109]⟩, .slice x0 n0 m0, .string ⟨#[120]⟩, .slice x1 n1 m1, .string ⟨#[121]⟩, .slice x2 n2 m2] 29) = w6 at *
  have hf : FlO w6 w5.heap.size 29 2 encP (.slice (some ⟨w5.heap.size, 0, none⟩) 3 3) [(.string ⟨#[109]⟩, .slice x0 n0 m0), (.string ⟨#[120]⟩, .slice x1 n1 m1), (.string ⟨#[121]⟩, .slice x2 n2 m2)] :=
    own_blk hB6 (Nat.le_refl _) (n := 3) (size := 2) rfl (by unfold maxLen; omega)
  have hfir := fir_own (fs := [([109], b0), ([120], b1), ([121], b2)]) hf rfl
      (fir_one (fok (n := [109]) (Sl.keep hb0 k6 fun _ _ _ h => h)) (fir_one (fok (n := [120]) (Sl.keep hb1 k6 fun _ _ _ h => h)) (fir_one (fok (n := [121]) (Sl.keep hb2 k6 fun _ _ _ h => h)) fir_no)))
  clear hB6 hf hb0 hb1 hb2 k6
  refine sig_eff (o := ⟨some 4, _, _, _, _, _⟩) rfl rfl (fun K hKe => ?_)
  go_wp2_with fail
  refine ⟨fun _ => ⟨hA.cell 0, hA.cell 1, hA.cell 2, hT.cell 0, hT.cell 1, hT.cell 2⟩, ?_⟩
  refine sig_nil ?_
  clear hA hT
  go_wp2_with fail
  go_ret
  rw [HB0.out, HB1.out, HB2.out] at hfir
  exact ⟨_, rfl, hfir, hk⟩
end
end Go.Proofs.Ytbnahidopemkiaa
namespace Go.Dm.Ld
open Go Go.Dm.Oc
def aw16 : Nat × List (BS × Im) := orderM [109] (fs16 0 0 0 1 0 9)
def aw16m : Nat × List Md := layL aw16.2 (basesM aw16.2)
set_option maxRecDepth 100000 in
theorem aw16_o : aw16.1 = 0 ∧ aw16.2.length = 3 := by decide +kernel
set_option maxRecDepth 100000 in
theorem aw16_b : (basesM aw16.2).length = 3 ∧ (basesM aw16.2).head? = some 4096 := by decide +kernel
set_option maxRecDepth 100000 in
theorem aw16_m : aw16m.1 = 0 ∧ aw16m.2.length = 3 ∧ (aw16m.2.map (·.tls)) = [true, false, true] ∧ (aw16m.2.map (·.off))[2]? = some 8 ∧ blockM aw16m.2 = 24 ∧ ofM aw16m.2 4096 = 0 ∧ ofM aw16m.2 0 = -1 := by decide +kernel
set_option maxRecDepth 100000 in
theorem aw16_n : (layL aw16.2 []).1 = 1 := by decide +kernel
end Go.Dm.Ld
namespace Go.Proofs.Ytbnahidopemkiaa
open Go.RowKit Go.Dm Go.Dm.Oc Go.Dm.Ld
section
variable {A B : Nat → Prop} {w : World} {v : Value}
theorem basesGo_lt : ∀ (us : List (BS × Im)) (i a : Nat) (out : List Nat), a < 18446744073709551616 → (∀ b ∈ out, b < 18446744073709551616) → ∀ b ∈ basesGo us i a out, b < 18446744073709551616
  | [], _, _, _, _, h => h
  | u :: r, i, a, out, ha, h => by
    unfold basesGo
    dsimp only
    refine basesGo_lt r _ _ _ (Nat.mod_lt _ (by decide)) fun b hb => ?_
    rcases List.mem_append.1 hb with hb | hb
    · exact h b hb
    · rw [List.mem_singleton.1 hb]
      split
      · exact Nat.mod_lt _ (by decide)
      · exact ha
theorem basesM_lt (us : List (BS × Im)) : ∀ b ∈ basesM us, b < 18446744073709551616 := basesGo_lt us 0 4096 [] (by decide) fun b hb => by cases hb
theorem fir_sh {fs : Fs} (h : FiR A w v fs) : ∃ a n c, v = .slice a n c := by
  obtain ⟨ps, _, h2, _⟩ := h
  obtain ⟨a, c, e, _⟩ := h2.shape
  exact ⟨_, _, _, e⟩
theorem fs16_le (a0 a1 a2 t0 t1 t2 : Nat) : ∀ f ∈ fs16 a0 a1 a2 t0 t1 t2, f.2.length ≤ 1099511627776 := fun f hf => by
  unfold fs16 at hf
  simp only [List.mem_cons, List.not_mem_nil, or_false] at hf
  rcases hf with rfl | rfl | rfl <;> exact Nat.le_trans (buildM_le _) (by decide)
theorem md_at {l : List Md} {m : Md} {i : Nat} (hv : Fl A w 7 encMd v l) (hi : l[i]? = some m) : ∃ g off c, v = .slice (some ⟨g, off, none⟩) l.length c ∧ g < w.heap.size ∧ l.length ≤ c ∧ c ≤ maxLen ∧ ∀ j u, (encMd m)[j]? = some u → w.cell? ⟨g, off + i * 7 + j, none⟩ = some u := by
  obtain ⟨hlt, he⟩ := List.getElem?_eq_some_iff.1 hi
  obtain ⟨g, off, c, ev, _, hg, h1, h2, hc⟩ := hv.at encMd_len hlt
  rw [he] at hc
  exact ⟨g, off, c, ev, hg, h1, h2, hc⟩
set_option maxRecDepth 100000 in
set_option maxHeartbeats 600000 in
theorem awake16_any : Calls Try.prog 14 #[] w fun e w' => e = .returned (.bool true) ∧ Keep No w w' := by
  go_enter Try.func14, Try.ntmps14
  go_wp2_with fail
  refine (files16_any (w := w) 0 0 0 1 0 9 (by decide) (by decide) (by decide) (by decide) (by decide) (by decide)).mono ?_
  rintro e w2 ⟨v2, rfl, hf, hkA⟩
  have hor := clorder_any (w := w2) [109] (by decide) hf (fs16_le 0 0 0 1 0 9)
  obtain ⟨a2, n2, c2, rfl⟩ := fir_sh hf
  have hsg := orderM_segs [109] (fs16 0 0 0 1 0 9)
  have e1 : orderM [109] (fs16 0 0 0 1 0 9) = aw16 := rfl
  rw [e1] at hor hsg
  obtain ⟨o, ho⟩ : ∃ o, o = aw16 := ⟨_, rfl⟩
  have h1 := aw16_o
  have h2 := aw16_b
  have h3 := aw16_m
  have h4 := aw16_n
  unfold aw16m at h3
  rw [← ho] at hor hsg h1 h2 h3 h4
  obtain ⟨oe, us⟩ := o
  obtain ⟨h1a, h1b⟩ := h1
  dsimp only at h1a h1b h2 h3 h4 hor hsg
  subst h1a
  have HB := Lib.hid h2
  have HM := Lib.hid h3
  have HE := Lib.hid h4
  have HSG := Lib.hid hsg
  have HL := Lib.hid h1b
  clear hf e1 ho h2 h3 h4 hsg h1b
  go_wp2_with fail
  refine hor.mono ?_
  clear hor
  rintro e w3 ⟨vo, ps, rfl, hvo, hus, k3⟩
  replace hkA := hkA.trans' k3
  obtain ⟨ao, no, co, rfl⟩ : ∃ a n c, vo = .slice a n c := by
    obtain ⟨a, c, e, _⟩ := hvo.shape
    exact ⟨_, _, _, e⟩
  clear k3
  have hba := lbases_any (w := w3) hvo hus (fun u hu => (HSG.out u hu).span) (by rw [HL.out]; decide)
  have HVO := Lib.hid hvo
  have HUS := Lib.hid hus
  clear hvo hus
  have hblt := basesM_lt us
  obtain ⟨bs, hbs⟩ : ∃ b, b = basesM us := ⟨_, rfl⟩
  rw [← hbs] at hba HB HM hblt
  have HBL := Lib.hid hblt
  clear hbs hblt
  obtain ⟨mm, hmm⟩ : ∃ m, m = layL us bs := ⟨_, rfl⟩
  rw [← hmm] at HM
  have HMM := Lib.hid hmm
  clear hmm
  obtain ⟨hb3, hb0⟩ := HB.out
  obtain ⟨b0, r, hbe⟩ : ∃ b r, bs = b :: r := by
    cases bs with
    | nil => cases hb0
    | cons b r => exact ⟨b, r, rfl⟩
  go_wp2_with fail
  refine hba.mono ?_
  clear hba
  rintro e w4 ⟨vb, rfl, hvb, k4⟩
  replace hkA := hkA.trans' k4
  obtain ⟨gb, ob, cb, evb, _, hgb, hcb1, hcb2, hbc⟩ := hvb.fl.at (fun _ => rfl) (i := 0) (by rw [hb3]; decide)
  subst evb
  have cb0 := hbc 0 (.int .u64 (4096 : Int)) (by
    have h0 : bs[0]'(by rw [hb3]; decide) = 4096 := by
      have h5 : bs[0]? = some 4096 := by rw [← List.head?_eq_getElem?]; exact hb0
      obtain ⟨_, h6⟩ := List.getElem?_eq_some_iff.1 h5
      exact h6
    rw [h0]
    rfl)
  rw [show ob + 0 * 1 + 0 = ob from by omega] at cb0
  have hpl := lplace_any (w := w4) (HVO.out.no k4) (HUS.out.keep k4 fun _ _ _ h => h) HSG.out (by rw [HL.out]; decide) hvb.fl HBL.out
  have hpl2 := fun W (hk : Keep No w4 W) => lplace_any (w := W) (bases := []) (B := fun _ => True) ((HVO.out.no k4).no hk) ((HUS.out.keep k4 fun _ _ _ h => h).keep hk fun _ _ _ h => h) HSG.out (by rw [HL.out]; decide) Fl.nil (fun b hb => by cases hb)
  have HPL2 := Lib.hid hpl2
  rw [← HMM.out] at hpl
  have hcb3 : cb ≤ 9223372036854775807 := by unfold maxLen at hcb2; omega
  rw [hb3] at hcb1 hpl ⊢
  clear hbc hvb k4 hbe hpl2 hcb2
  go_wp2_with fail
  refine hpl.mono ?_
  clear hpl
  rintro e w5 ⟨vm, rfl, hvm, hmd, k5⟩
  replace hkA := hkA.trans' k5
  replace cb0 := (k5.cell (p := ⟨gb, ob, none⟩) hgb fun h => h).trans cb0
  replace hgb := Nat.lt_of_lt_of_le hgb k5.size
  obtain ⟨hm1, hm2, hm3, hm4, hm5, hm6, hm7⟩ := HM.out
  obtain ⟨me, ml⟩ := mm
  dsimp only at hm1 hm2 hm3 hm4 hm5 hm6 hm7 hvm hmd
  subst hm1
  obtain ⟨x0, x1, x2, hml⟩ : ∃ x0 x1 x2, ml = [x0, x1, x2] := by
    match ml, hm2 with
    | [x0, x1, x2], _ => exact ⟨x0, x1, x2, rfl⟩
  have g0 := md_at hvm.fl (i := 0) (m := x0) (by rw [hml]; rfl)
  have g1 := md_at hvm.fl (i := 1) (m := x1) (by rw [hml]; rfl)
  have g2 := md_at hvm.fl (i := 2) (m := x2) (by rw [hml]; rfl)
  rw [hml] at hm3 hm4
  injection hm3 with q0 hm3
  injection hm3 with q1 hm3
  injection hm3 with q2 hm3
  injection hm4 with q3
  have q0 : x0.tls = true := q0
  have q1 : x1.tls = false := q1
  have q3 : x2.off = 8 := q3
  obtain ⟨gm, om, cm, rfl, hgm, hcm1, hcm2, hc0⟩ := g0
  obtain ⟨gm1, om1, cm1, ev, _, _, _, hc1⟩ := g1
  injection ev with ev el e3
  injection ev with ev
  injection ev with e1 e2
  subst e1 e2 e3
  clear el
  obtain ⟨gm1, om1, cm1, ev, _, _, _, hc2⟩ := g2
  injection ev with ev el e3
  injection ev with ev
  injection ev with e1 e2
  subst e1 e2 e3
  clear el
  have d0 := hc0 4 (.bool true) (by rw [← q0]; rfl)
  have d1 := hc1 4 (.bool false) (by rw [← q1]; rfl)
  have d2 := hc2 5 (.int .u64 (8 : Int)) (by
    have : (encMd x2)[5]? = some (.int .u64 (x2.off : Int)) := rfl
    rw [this, q3]
    rfl)
  rw [show om + 0 * 7 + 4 = om + 4 from by omega] at d0
  rw [show om + 1 * 7 + 4 = om + 11 from by omega] at d1
  rw [show om + 2 * 7 + 5 = om + 19 from by omega] at d2
  have hcm3 : cm ≤ 9223372036854775807 := by unfold maxLen at hcm2; omega
  have hp2 := HPL2.out w5 k5
  have HVM := Lib.hid hvm
  have HMD := Lib.hid hmd
  have H5 := Lib.hid (And.intro hm5 (And.intro hm6 hm7))
  rw [hm2] at hcm1 ⊢
  have HM2 := Lib.hid hm2
  clear hc0 hc1 hc2 hml hm2 hm3 hm5 hm6 hm7 hvm hmd q0 q1 q2 q3 k5 hcm2 HM HMM
  obtain ⟨pe, hpe⟩ : ∃ p, p = layL us [] := ⟨_, rfl⟩
  rw [← hpe] at hp2
  have hpe1 : pe.1 = 1 := by rw [hpe]; exact HE.out
  rw [hpe1] at hp2
  clear hpe hpe1
  go_wp2_with fail
  refine hp2.mono ?_
  clear hp2
  rintro e w6 ⟨vn, rfl, hvn, _, k6⟩
  replace hkA := hkA.trans' k6
  replace cb0 := (k6.cell (p := ⟨gb, ob, none⟩) hgb fun h => h).trans cb0
  replace d0 := (k6.cell (p := ⟨gm, om + 4, none⟩) hgm fun h => h).trans d0
  replace d1 := (k6.cell (p := ⟨gm, om + 11, none⟩) hgm fun h => h).trans d1
  replace d2 := (k6.cell (p := ⟨gm, om + 19, none⟩) hgm fun h => h).trans d2
  obtain ⟨an, nn, cn, rfl⟩ := FlO.sh hvn
  have hVM6 := HVM.out.fl.no k6
  rw [HM2.out] at hVM6
  have hmem : ∀ m ∈ ml, m.mem ≤ 1099511627776 := fun m hm => by have := (HMD.out m hm).2.2; omega
  have hblk := fun W (hk : Keep No w6 W) => lblock_any (w := W) ml (hVM6.no hk) hmem (by rw [HM2.out]; decide)
  have hof := fun W (hk : Keep No w6 W) (x : Nat) => lof_any (w := W) ml x (hVM6.no hk)
  rw [H5.out.1] at hblk
  have HBLK := Lib.hid hblk
  have HOF := Lib.hid hof
  clear hblk hof hmem hVM6 hvn k6
  go_wp2_with fail
  refine (HBLK.out w6 (Keep.refl _ _)).mono ?_
  rintro e w7 ⟨rfl, k7⟩
  have hofa := HOF.out w7 k7 4096
  rw [H5.out.2.1] at hofa
  go_wp2_with fail
  refine hofa.mono ?_
  clear hofa
  rintro e w8 ⟨rfl, k8⟩
  have hofb := HOF.out w8 (k7.trans' k8) 0
  rw [H5.out.2.2] at hofb
  go_wp2_with fail
  refine hofb.mono ?_
  clear hofb
  rintro e w9 ⟨rfl, k9⟩
  have hkF := hkA.trans' ((k7.trans' k8).trans' k9)
  go_wp2_with fail
  go_ret
  exact ⟨rfl, hkF⟩
end
end Go.Proofs.Ytbnahidopemkiaa
namespace Go.Dm.Ld
open Go Go.Proofs.Ytbnahidopemkiaa
structure Tg where
  unit : Int
  sym : Sy
deriving DecidableEq
def tg0 : Tg := ⟨0, sy0⟩
def tgN : Tg := ⟨-1, sy0⟩
/-- reloc.value: an error, the number, the unit into which it points -/
def valM (ms : List Md) (t : Tg) (ty : Nat) : Nat × Nat × Int :=
  if t.unit < 0 then (0, 0, -1)
  else if decide (ty = 16 ∨ ty = 17 ∨ ty = 18) ≠ decide (t.sym.inf % 16 = 6) then (33, 0, -1)
  else if ty = 16 then (0, t.unit.toNat + 1, -1)
  else if ty = 17 then (0, t.sym.val, -1)
  else if ty = 18 then (0, ((ms.getD t.unit.toNat ⟨[], 0, 0, 0, false, 0, 0⟩).off + t.sym.val) % 18446744073709551616, -1)
  else (0, ((ms.getD t.unit.toNat ⟨[], 0, 0, 0, false, 0, 0⟩).base + t.sym.val) % 18446744073709551616, t.unit)
/-- the symbols that others may see, with their names, unit by unit -/
def allU (i : Nat) (u : Im) : List (BS × Tg) := (u.names.zip u.syms).filterMap fun p => if p.2.sec ≠ 0 ∧ p.2.inf / 16 ≠ 0 then some (p.1, ⟨(i : Int), p.2⟩) else none
def allM (us : List (BS × Im)) : List (BS × Tg) := us.zipIdx.flatMap fun p => allU p.2 p.1.2
def resM (us : List (BS × Im)) (n : BS) : Option Tg := ((allM us).find? fun p => p.1 == n).map (·.2)
def targetM (us : List (BS × Im)) (i : Nat) (x : Rl) : Nat × Tg :=
  if x.ty = 8 then (0, tgN)
  else
    let u := (us.getD i ([], im0)).2
    let own := u.syms.getD x.sym sy0
    if own.sec ≠ 0 ∧ own.inf / 16 = 0 then (0, ⟨(i : Int), own⟩)
    else match resM us (u.names.getD x.sym []) with
      | some t => (0, t)
      | none => if own.inf / 16 = 2 then (0, tgN) else (32, tgN)
structure Wd where
  addr : Nat
  val : Nat
  unit : Int
deriving DecidableEq
def wd0 : Wd := ⟨0, 0, 0⟩
def wordM (us : List (BS × Im)) (ms : List Md) (i : Nat) (x : Rl) : Nat × Wd :=
  let t := targetM us i x
  if t.1 ≠ 0 then (t.1, wd0)
  else
    let v := valM ms t.2 x.ty
    if v.1 ≠ 0 then (v.1, wd0)
    else
      let b := (ms.getD i ⟨[], 0, 0, 0, false, 0, 0⟩).base
      ((valR x.ty b v.2.1 (addI x.add)).1, ⟨(b + x.off) % 18446744073709551616, (valR x.ty b v.2.1 (addI x.add)).2.toNat, if x.ty = 8 then (i : Int) else v.2.2⟩)
end Go.Dm.Ld
namespace Go.Dm.Ld
open Go Go.Dm.Oc Go.Proofs.Ytbnahidopemkiaa
def ImOk (u : Im) : Prop := (u.names.length = u.syms.length ∧ ∀ s ∈ u.syms, SyOk s) ∧ (∀ x ∈ u.rels, RlOk x ∧ (x.ty ≠ 0 → x.ty ≠ 8 → x.sym < u.syms.length)) ∧ u.rels.length ≤ 65536
theorem nmGo_len (t : BS) : ∀ (l : List Sy) (acc : List BS), (nmGo t l acc).1 = 0 → (nmGo t l acc).2.length = acc.length + l.length
  | [], acc, _ => rfl
  | s :: r, acc, h => by
    unfold nmGo at h ⊢
    split at h
    · rename_i h1; exact absurd h h1
    · rename_i h1
      rw [if_neg h1, nmGo_len t r _ h, List.length_append, List.length_cons, List.length_cons, List.length_nil]
      omega
theorem symsM_len {b : BS} {l : List Sg} {d : Dy} {t : BS} (h : (symsM b l d t).1 = 0) : (symsM b l d t).2.2.length = (symsM b l d t).2.1.length := by
  unfold symsM at h ⊢
  split at h
  · cases h
  · rename_i h1
    rw [if_neg h1]
    split at h
    · rename_i h2
      rw [if_pos h2]
      rfl
    · rename_i h2
      rw [if_neg h2]
      dsimp only at h ⊢
      split at h
      · rename_i h3; exact absurd h h3
      · rename_i h3
        rw [if_neg h3]
        split at h
        · rename_i h4; exact absurd h h4
        · rename_i h4
          rw [if_neg h4]
          split at h
          · rename_i h5; exact absurd h h5
          · rename_i h5
            rw [if_neg h5]
            have := nmGo_len t (syTab (atI b l (d.v.getD 3 0) (24 * d.v.getD 4 0)).2).2 [] (Decidable.of_not_not h5)
            dsimp only
            rw [this, List.length_nil, Nat.zero_add]
theorem chkR_sym (n : Nat) : ∀ (l : List Rl), chkR n l = 0 → ∀ x ∈ l, x.ty ≠ 0 → x.ty ≠ 8 → x.sym < n
  | [], _, x, hx, _, _ => by cases hx
  | y :: r, h, x, hx, h0, h8 => by
    unfold chkR at h
    split at h
    · rename_i h1
      rcases List.mem_cons.1 hx with rfl | hx
      · unfold rlE at h1
        split at h1
        · cases h1
        · split at h1
          · cases h1
          · rename_i h2
            split at h1
            · rename_i h3
              have h4 : decide (x.ty = 0 ∨ x.ty = 8) = false := decide_eq_false (by omega)
              rw [h4] at h3
              have h5 := of_decide_eq_false h3.symm
              omega
            · cases h1
      · exact chkR_sym n r h x hx h0 h8
    · rename_i h1; exact absurd h h1
theorem relsM_chk {b : BS} {l : List Sg} {d : Dy} {n : Nat} (h : (relsM b l d n).1 = 0) : ∀ x ∈ (relsM b l d n).2, x.ty ≠ 0 → x.ty ≠ 8 → x.sym < n := by
  unfold relsM at h ⊢
  split at h
  · cases h
  · rename_i h1
    rw [if_neg h1]
    split at h
    · rename_i h2
      rw [if_pos h2]
      intro x hx
      cases hx
    · rename_i h2
      rw [if_neg h2]
      dsimp only at h ⊢
      split at h
      · rename_i h3; exact absurd h h3
      · rename_i h3
        rw [if_neg h3]
        split at h
        · rename_i h4; exact absurd h h4
        · rename_i h4
          rw [if_neg h4]
          exact chkR_sym n _ h
theorem parseM_imok {b : BS} (h : (parseM b).1 = 0) : ImOk (parseM b).2 := by
  rw [parseM_steps] at h ⊢
  split at h
  · cases h
  · rename_i h0
    rw [if_neg h0]
    split at h
    · rename_i h1; exact absurd h h1
    · rename_i h1
      rw [if_neg h1]
      split at h
      · split at h
        · rename_i h3; exact absurd h h3
        · rename_i h2 h3
          rw [if_neg h3]
          exact ⟨⟨rfl, fun s hs => by cases hs⟩, fun x hx => (by cases hx), Nat.zero_le _⟩
      · rename_i s hs
        split at h
        · rename_i h2; exact absurd h h2
        · rename_i h2
          rw [if_neg h2]
          split at h
          · rename_i h3; exact absurd h h3
          · rename_i h3
            rw [if_neg h3]
            split at h
            · rename_i h4; exact absurd h h4
            · rename_i h4
              rw [if_neg h4]
              split at h
              · rename_i h5; exact absurd h h5
              · rename_i h5
                rw [if_neg h5]
                refine ⟨⟨symsM_len (Decidable.of_not_not h3), (symsM_ok _ _ _ _).1⟩, fun x hx => ⟨(relsM_ok _ _ _ _).1 x hx, relsM_chk (Decidable.of_not_not h4) x hx⟩, ?_⟩
                have := (relsM_ok b (shapeM b).2.2 (namedM b (shapeM b).2.2 s).2.info (pY b (shapeM b).2.2 s).2.1.length).2
                show (relsM _ _ _ _).2.length ≤ _
                omega
theorem allM_unit (us : List (BS × Im)) : ∀ p ∈ allM us, 0 ≤ p.2.unit ∧ p.2.unit < us.length := by
  intro p hp
  unfold allM at hp
  obtain ⟨q, hq, hp⟩ := List.mem_flatMap.1 hp
  unfold allU at hp
  obtain ⟨z, hz, hp⟩ := List.mem_filterMap.1 hp
  split at hp
  · injection hp with hp
    subst hp
    have := List.mem_zipIdx' (x := q.1) (i := q.2) hq
    dsimp only
    omega
  · cases hp
theorem targetM_unit {us : List (BS × Im)} {i : Nat} (hi : i < us.length) (x : Rl) : (targetM us i x).2.unit < us.length := by
  unfold targetM
  split
  · show (-1 : Int) < _
    omega
  · dsimp only
    split
    · show ((i : Nat) : Int) < _
      omega
    · split
      · rename_i t ht
        unfold resM at ht
        generalize us.getD i ([], im0) = ui at ht
        cases hf : (allM us).find? (fun p => p.1 == ui.2.names.getD x.sym []) with
        | none => rw [hf] at ht; cases ht
        | some p =>
          rw [hf] at ht
          injection ht with ht
          subst ht
          exact (allM_unit us p (List.mem_of_find?_eq_some hf)).2
      · split
        · show (-1 : Int) < _
          omega
        · show (-1 : Int) < _
          omega
theorem targetM_syok {us : List (BS × Im)} {i : Nat} (hok : ∀ u ∈ us, ∀ s ∈ u.2.syms, SyOk s) (x : Rl) : SyOk (targetM us i x).2.sym := by
  have hz : SyOk sy0 := by unfold SyOk sy0; decide
  unfold targetM
  split
  · exact hz
  · dsimp only
    split
    · dsimp only
      rw [List.getD_eq_getElem?_getD, List.getD_eq_getElem?_getD]
      cases hu : us[i]? with
      | none => exact hz
      | some u =>
        rw [Option.getD_some]
        cases hs : u.2.syms[x.sym]? with
        | none => exact hz
        | some s => exact (hok u (List.mem_of_getElem? hu) s (List.mem_of_getElem? hs))
    · split
      · rename_i t ht
        unfold resM at ht
        generalize us.getD i ([], im0) = ui at ht
        cases hf : (allM us).find? (fun p => p.1 == ui.2.names.getD x.sym []) with
        | none => rw [hf] at ht; cases ht
        | some p =>
          rw [hf] at ht
          injection ht with ht
          subst ht
          have hp := List.mem_of_find?_eq_some hf
          unfold allM at hp
          obtain ⟨q, hq, hp⟩ := List.mem_flatMap.1 hp
          unfold allU at hp
          obtain ⟨z, hz, hp⟩ := List.mem_filterMap.1 hp
          split at hp
          · injection hp with hp
            subst hp
            exact (hok q.1 (List.mem_of_getElem? (List.mem_zipIdx_iff_getElem?.1 hq)) z.2 (List.of_mem_zip hz).2)
          · cases hp
      · split <;> exact hz
theorem valM_lt (ms : List Md) (t : Tg) (ty : Nat) (hs : t.sym.val < 18446744073709551616) (hu : t.unit < 4294967296) : (valM ms t ty).2.1 < 18446744073709551616 := by
  unfold valM
  split
  · dsimp only; omega
  · split
    · dsimp only; omega
    · split
      · dsimp only; omega
      · split
        · exact hs
        · split
          · dsimp only; omega
          · dsimp only; omega
theorem valR_lt (ty b s : Nat) (add : Int) (hs : s < 18446744073709551616) : 0 ≤ (valR ty b s add).2 ∧ (valR ty b s add).2 < 18446744073709551616 := by
  unfold valR
  split
  · exact ⟨by decide, by decide⟩
  · split
    · exact ⟨by decide, by decide⟩
    · split
      · dsimp only; omega
      · split
        · dsimp only; omega
        · dsimp only; omega
/-! words -/
def wlist (us : List (BS × Im)) (ms : List Md) : List (Nat × Rl) → Nat × List Wd
  | [] => (0, [])
  | p :: r => if (wordM us ms p.1 p.2).1 ≠ 0 then ((wordM us ms p.1 p.2).1, []) else if (wlist us ms r).1 ≠ 0 then ((wlist us ms r).1, []) else (0, (wordM us ms p.1 p.2).2 :: (wlist us ms r).2)
def relU (i : Nat) (u : Im) : List (Nat × Rl) := (u.rels.filter fun x => decide (x.ty ≠ 0)).map fun x => (i, x)
def relL (us : List (BS × Im)) : List (Nat × Rl) := us.zipIdx.flatMap fun p => relU p.2 p.1.2
def wordsM (us : List (BS × Im)) (ms : List Md) : Nat × List Wd := if us.length ≠ ms.length then (1, []) else wlist us ms (relL us)
theorem wlist_append (us : List (BS × Im)) (ms : List Md) (acc : List Wd) (b : List (Nat × Rl)) : ∀ a, wlist us ms a = (0, acc) → wlist us ms (a ++ b) = if (wlist us ms b).1 ≠ 0 then ((wlist us ms b).1, []) else (0, acc ++ (wlist us ms b).2) := by
  intro a
  induction a generalizing acc with
  | nil =>
    intro h
    unfold wlist at h
    injection h with _ h
    subst h
    rw [List.nil_append, List.nil_append]
    split
    · rename_i h2
      rcases hq : wlist us ms b with ⟨e, l⟩
      rw [hq] at h2
      cases b with
      | nil => unfold wlist at hq; injection hq with hq; exact absurd hq.symm h2
      | cons p r =>
        unfold wlist at hq
        split at hq
        · injection hq with q1 q2; rw [← q1, ← q2]
        · split at hq
          · injection hq with q1 q2; rw [← q1, ← q2]
          · injection hq with q1 q2; exact absurd q1.symm h2
    · rename_i h2
      rw [← Decidable.of_not_not h2]
  | cons p r ih =>
    intro h
    unfold wlist at h
    split at h
    · rename_i h1
      injection h with h _
      exact absurd h h1
    · rename_i h1
      split at h
      · rename_i h2
        injection h with h _
        exact absurd h h2
      · rename_i h2
        injection h with _ h
        rw [List.cons_append, wlist, if_neg h1]
        have hr : wlist us ms r = (0, (wlist us ms r).2) := by rw [← Decidable.of_not_not h2]
        rw [ih _ hr]
        split
        · rename_i h3
          first | rfl | (rw [if_pos h3])
        · rename_i h3
          subst h
          first | rfl | (rw [if_neg (fun h => h rfl)]; rfl)
theorem wlist_snoc {us : List (BS × Im)} {ms : List Md} {acc : List Wd} {a : List (Nat × Rl)} {p : Nat × Rl} (h : wlist us ms a = (0, acc)) (hp : (wordM us ms p.1 p.2).1 = 0) : wlist us ms (a ++ [p]) = (0, acc ++ [(wordM us ms p.1 p.2).2]) := by
  rw [wlist_append us ms acc [p] a h]
  simp [wlist, hp]
theorem wlist_bad {us : List (BS × Im)} {ms : List Md} {acc : List Wd} {a b : List (Nat × Rl)} {p : Nat × Rl} (h : wlist us ms a = (0, acc)) (hp : (wordM us ms p.1 p.2).1 ≠ 0) : wlist us ms (a ++ p :: b) = ((wordM us ms p.1 p.2).1, []) := by
  rw [wlist_append us ms acc (p :: b) a h]
  simp [wlist, hp]
theorem relL_split {us : List (BS × Im)} {i : Nat} (h : i < us.length) : relL us = relL (us.take i) ++ (relU i us[i].2 ++ ((us.drop (i + 1)).zipIdx (i + 1)).flatMap fun p => relU p.2 p.1.2) := by
  have e : us = us.take i ++ us[i] :: us.drop (i + 1) := by rw [← List.drop_eq_getElem_cons h, List.take_append_drop]
  unfold relL
  conv => lhs; rw [e]
  rw [List.zipIdx_append, List.flatMap_append, List.zipIdx_cons, List.flatMap_cons, List.length_take, Nat.min_eq_left (by omega), Nat.zero_add]
theorem relL_take {us : List (BS × Im)} {i : Nat} (h : i < us.length) : relL (us.take (i + 1)) = relL (us.take i) ++ relU i us[i].2 := by
  rw [List.take_succ_eq_append_getElem h]
  unfold relL
  rw [List.zipIdx_append, List.flatMap_append, List.length_take, Nat.min_eq_left (by omega)]
  simp
theorem relU_take {i k : Nat} {u : Im} (h : k < u.rels.length) : ((u.rels.take (k + 1)).filter fun x => decide (x.ty ≠ 0)).map (fun x => (i, x)) = ((u.rels.take k).filter fun x => decide (x.ty ≠ 0)).map (fun x => (i, x)) ++ if u.rels[k].ty = 0 then [] else [(i, u.rels[k])] := by
  rw [List.take_succ_eq_append_getElem h, List.filter_append, List.map_append]
  congr 1
  by_cases h0 : u.rels[k].ty = 0 <;> simp [h0]
theorem relU_split {i k : Nat} {u : Im} (h : k < u.rels.length) (h0 : u.rels[k].ty ≠ 0) : relU i u = ((u.rels.take k).filter fun x => decide (x.ty ≠ 0)).map (fun x => (i, x)) ++ (i, u.rels[k]) :: ((u.rels.drop (k + 1)).filter fun x => decide (x.ty ≠ 0)).map (fun x => (i, x)) := by
  have e : u.rels = u.rels.take k ++ u.rels[k] :: u.rels.drop (k + 1) := by rw [← List.drop_eq_getElem_cons h, List.take_append_drop]
  unfold relU
  conv => lhs; rw [e]
  rw [List.filter_append, List.map_append, List.filter_cons, if_pos (decide_eq_true h0), List.map_cons]
theorem wordsM_bad {us : List (BS × Im)} {ms : List Md} {i k : Nat} {acc : List Wd} (hl : us.length = ms.length) (h : i < us.length) (hk : k < us[i].2.rels.length) (h0 : us[i].2.rels[k].ty ≠ 0)
    (hacc : wlist us ms (relL (us.take i) ++ ((us[i].2.rels.take k).filter fun x => decide (x.ty ≠ 0)).map (fun x => (i, x))) = (0, acc)) (hp : (wordM us ms i us[i].2.rels[k]).1 ≠ 0) :
    wordsM us ms = ((wordM us ms i us[i].2.rels[k]).1, []) := by
  unfold wordsM
  rw [if_neg (by omega), relL_split h, relU_split hk h0, List.append_assoc, ← List.append_assoc (relL (us.take i))]
  exact wlist_bad (p := (i, us[i].2.rels[k])) hacc hp
end Go.Dm.Ld
namespace Go.Dm.Ld
open Go Go.Dm.Oc
def sp17a : Sp := ⟨2, [], [[120], [121]], 0, [], List.replicate 16 0, 0, [], 0, [⟨[102], 0, 0, false⟩], [⟨2, 0, 1, 0, 5⟩, ⟨2, 8, 8, -1, 9⟩]⟩
def sp17x : Sp := ⟨3, [], [], 0, [], List.replicate 16 0, 0, [], 0, [⟨[102], 2, 8, false⟩], []⟩
def fs17 : Fs := [([97], (buildM sp17a).2), ([120], (buildM sp17x).2), ([121], (buildM sp17x).2)]
def aw17 : Nat × List (BS × Im) := orderM [97] fs17
def aw17m : Nat × List Md := layL aw17.2 (basesM aw17.2)
def aw17w : Nat × List Wd := wordsM aw17.2 aw17m.2
def aw17t : Option Tg := resM aw17.2 [102]
set_option maxRecDepth 100000 in
theorem aw17_o : aw17.1 = 0 := by decide +kernel
set_option maxRecDepth 100000 in
theorem aw17_m : aw17m.1 = 0 ∧ aw17m.2.length = 3 := by decide +kernel
set_option maxRecDepth 100000 in
theorem aw17_g : resM aw17.2 [103] = none := by decide +kernel
set_option maxRecDepth 100000 in
theorem aw17_t : aw17t.isSome = true ∧ (aw17t.getD tg0).unit = 1 := by decide +kernel
set_option maxRecDepth 100000 in
theorem aw17_w : aw17w.1 = 0 ∧ aw17w.2.length = 2 ∧ (aw17w.2.map (·.unit)) = [1, 0] ∧ (aw17w.2.map (·.val))[1]? = some 4105 ∧ (aw17w.2.map (·.val))[0]? = some (((aw17m.2.map (·.base)).getD 1 0) + (aw17t.getD tg0).sym.val + 5) ∧ ((aw17m.2.map (·.base)).getD 1 0) < 1000000 ∧ (aw17t.getD tg0).sym.val < 1000000 := by decide +kernel
end Go.Dm.Ld
namespace Go.Proofs.Ytbnahidopemkiaa
open Go.RowKit Go.Dm Go.Dm.Oc Go.Dm.Ld
def encTg (t : Tg) : List Value := .int .i64 t.unit :: encSy t.sym
theorem encTg_len (t : Tg) : (encTg t).length = 7 := rfl
section
variable {A : Nat → Prop} {w : World} {v : Value}
set_option maxRecDepth 100000 in
set_option maxHeartbeats 2000000 in
theorem revalue_any (ms : List Md) (t : Tg) (ty : Nat) (hv : Fl A w 7 encMd v ms) (hty : ty < 4294967296) (ht : SyOk t.sym) (hu : t.unit < (ms.length : Int)) (hmb : ∀ m ∈ ms, m.base < 18446744073709551616 ∧ m.off < 18446744073709551616) :
    Calls Try.prog 64 #[v, .agg (encTg t).toArray, .int .u32 (ty : Int)] w fun e w' => e = .returned (.tuple #[.int .u64 ((valM ms t ty).2.1 : Nat), .int .i64 (valM ms t ty).2.2, .int .i64 ((valM ms t ty).1 : Nat)]) ∧ Keep No w w' := by
  have HV := Lib.hid hv
  have HMB := Lib.hid hmb
  obtain ⟨av, cv, rfl, hv1, hv2⟩ := hv.shape
  have hv3 : ms.length ≤ 9223372036854775807 := by unfold maxLen at hv2; omega
  obtain ⟨u, s⟩ := t
  obtain ⟨x0, x1, x2, x3, x4, x5⟩ := s
  obtain ⟨r, hr⟩ : ∃ r, r = valM ms ⟨u, ⟨x0, x1, x2, x3, x4, x5⟩⟩ ty := ⟨_, rfl⟩
  rw [← hr]
  have HR := Lib.hid hr
  have hk := fun W => sykind_any (w := W) ⟨x0, x1, x2, x3, x4, x5⟩ ht.2.1
  have hval := ht.2.2.2.2.1
  have hinf := ht.2.1
  dsimp only at hu hval hinf
  unfold encTg encSy
  unfold encSy at hk
  dsimp only at hk ⊢
  clear hv hmb hv1 hv2 hr ht
  go_enter Try.func64, Try.ntmps64
  rcases Int.lt_or_le u 0 with h0 | h0
  · have hr : r = (0, 0, -1) := by
      rw [HR.out]
      unfold valM
      rw [if_pos h0]
    subst hr
    clear HR hk
    go_wp2_with fail
    go_ret3
    first | exact ⟨rfl, (Keep.refl _ _).alloc _⟩ | (exact ⟨rfl, Keep.refl _ _⟩)
  · have hnl : ∃ n : Nat, u = (n : Int) ∧ n < ms.length := ⟨u.toNat, by omega, by omega⟩
    obtain ⟨n, rfl, hn⟩ := hnl
    obtain ⟨g, off, cap, ev, _, hg, _, _, hc⟩ := HV.out.at encMd_len hn
    injection ev with q1 q2 q3
    subst q1
    have c1 := hc 1 _ rfl
    have c5 := hc 5 _ rfl
    obtain ⟨hmb, hmo⟩ := HMB.out _ (List.getElem_mem hn)
    have hgd : ms.getD n ⟨[], 0, 0, 0, false, 0, 0⟩ = ms[n] := by
      rw [List.getD_eq_getElem?_getD, List.getElem?_eq_getElem hn]
      rfl
    have hval2 : valM ms ⟨(n : Int), ⟨x0, x1, x2, x3, x4, x5⟩⟩ ty = if decide (ty = 16 ∨ ty = 17 ∨ ty = 18) ≠ decide (x1 % 16 = 6) then (33, 0, -1)
        else if ty = 16 then (0, n + 1, -1) else if ty = 17 then (0, x4, -1) else if ty = 18 then (0, (ms[n].off + x4) % 18446744073709551616, -1) else (0, (ms[n].base + x4) % 18446744073709551616, (n : Int)) := by
      unfold valM
      dsimp only
      rw [if_neg (by omega), Int.toNat_natCast, hgd]
    rw [hval2] at HR
    have hiz : (n : Int) < (ms.length : Int) := by omega
    clear hc q2 q3 hgd hval2 hval
    generalize ms[n].base = mb at *
    generalize ms[n].off = mo at *
    have hw1 : IntKind.u64.wrap ((mo : Int) + (x4 : Int)) = (((mo + x4) % 18446744073709551616 : Nat) : Int) := by rw [IntKind.wrap_u64]; omega
    have hw2 : IntKind.u64.wrap ((mb : Int) + (x4 : Int)) = (((mb + x4) % 18446744073709551616 : Nat) : Int) := by rw [IntKind.wrap_u64]; omega
    have hw3 : IntKind.i64.wrap ((n : Int) + 1) = (n : Int) + 1 := by simp [IntKind.wrap, IntKind.bits, IntKind.signed]; omega
    have hw4 : IntKind.u64.wrap ((n : Int) + 1) = (n : Int) + 1 := by rw [IntKind.wrap_u64]; omega
    generalize (mo + x4) % 18446744073709551616 = s1 at *
    generalize (mb + x4) % 18446744073709551616 = s2 at *
    have HK := Lib.hid hk
    clear hk
    obtain ⟨lc, hlc⟩ : ∃ b, b = decide (ty = 16 ∨ ty = 17 ∨ ty = 18) := ⟨_, rfl⟩
    have HLC := Lib.hid hlc
    clear hlc
    obtain ⟨k6, hk6⟩ : ∃ b, b = decide (x1 % 16 = 6) := ⟨_, rfl⟩
    have hk6i : (((x1 % 16 : Nat) : Int) == 6) = k6 := by rw [hk6, Bool.eq_iff_iff, beq_iff_eq, decide_eq_true_eq]; omega
    have HK6 := Lib.hid hk6
    clear hk6
    rw [← HLC.out, ← HK6.out] at HR
    generalize x1 % 16 = km at *
    go_upto_region 3 with fail
    go_cut [9] from 13 to 22 (fun s9 wc => s9 = .bool lc ∧ wc = w.alloc (.cells #[.int .i64 (n : Int), .int .u32 (x0 : Int), .int .u8 (x1 : Int), .int .u8 (x2 : Int), .int .u16 (x3 : Int), .int .u64 (x4 : Int), .int .u64 (x5 : Int)] 123))
    case first =>
      clear hk6i
      by_cases e16 : ty = 16
      · have g : ((ty : Int) == 16) = true := by rw [beq_iff_eq]; omega
        have HX : Hid (lc = true) := Lib.hid (by rw [HLC.out]; exact decide_eq_true (.inl e16))
        clear e16
        go_wp2_with fail
        go_meet
        exact ⟨by rw [HX.out], rfl⟩
      · have g : ((ty : Int) == 16) = false := by rw [beq_eq_false_iff_ne]; omega
        by_cases e17 : ty = 17
        · have g2 : ((ty : Int) == 17) = true := by rw [beq_iff_eq]; omega
          have HX : Hid (lc = true) := Lib.hid (by rw [HLC.out]; exact decide_eq_true (.inr (.inl e17)))
          clear e16 e17
          go_wp2_with fail
          go_meet
          exact ⟨by rw [HX.out], rfl⟩
        · have g2 : ((ty : Int) == 17) = false := by rw [beq_eq_false_iff_ne]; omega
          by_cases e18 : ty = 18
          · have g3 : ((ty : Int) == 18) = true := by rw [beq_iff_eq]; omega
            have HX : Hid (lc = true) := Lib.hid (by rw [HLC.out]; exact decide_eq_true (.inr (.inr e18)))
            clear e16 e17 e18
            go_wp2_with fail
            go_meet
            exact ⟨by rw [HX.out], rfl⟩
          · have g3 : ((ty : Int) == 18) = false := by rw [beq_eq_false_iff_ne]; omega
            have HX : Hid (lc = false) := Lib.hid (by rw [HLC.out]; exact decide_eq_false (by omega))
            clear e16 e17 e18
            go_wp2_with fail
            go_meet
            exact ⟨by rw [HX.out], rfl⟩
    case rest =>
      obtain ⟨rfl, rfl⟩ := hcut
      have hkW : Keep No w (w.alloc (.cells #[.int .i64 (n : Int), .int .u32 (x0 : Int), .int .u8 (x1 : Int), .int .u8 (x2 : Int), .int .u16 (x3 : Int), .int .u64 (x4 : Int), .int .u64 (x5 : Int)] 123)) := (Keep.refl _ _).alloc _
      have hBW : Blk (w.alloc (.cells #[.int .i64 (n : Int), .int .u32 (x0 : Int), .int .u8 (x1 : Int), .int .u8 (x2 : Int), .int .u16 (x3 : Int), .int .u64 (x4 : Int), .int .u64 (x5 : Int)] 123)) w.heap.size #[.int .i64 (n : Int), .int .u32 (x0 : Int), .int .u8 (x1 : Int), .int .u8 (x2 : Int), .int .u16 (x3 : Int), .int .u64 (x4 : Int), .int .u64 (x5 : Int)] 123 := Blk.new _ _ _
      have hzW : (w.alloc (.cells #[.int .i64 (n : Int), .int .u32 (x0 : Int), .int .u8 (x1 : Int), .int .u8 (x2 : Int), .int .u16 (x3 : Int), .int .u64 (x4 : Int), .int .u64 (x5 : Int)] 123)).heap.size = w.heap.size + 1 := World.size_alloc _ _
      generalize w.alloc (.cells #[.int .i64 (n : Int), .int .u32 (x0 : Int), .int .u8 (x1 : Int), .int .u8 (x2 : Int), .int .u16 (x3 : Int), .int .u64 (x4 : Int), .int .u64 (x5 : Int)] 123) = W at *
      have d0 := hBW.cell 0
      have d1 := hBW.cell 1
      have d2 := hBW.cell 2
      have d3 := hBW.cell 3
      have d4 := hBW.cell 4
      have d5 := hBW.cell 5
      have d6 := hBW.cell 6
      go_wp2_with fail
      refine (HK.out W).mono ?_
      rintro e w2 ⟨rfl, k2⟩
      have hkF := hkW.trans' k2
      replace d0 := (k2.cell (p := ⟨w.heap.size, 0, none⟩) hBW.lt fun h => h).trans d0
      replace d5 := (k2.cell (p := ⟨w.heap.size, 5, none⟩) hBW.lt fun h => h).trans d5
      have e1 := (hkF.cell (p := ⟨g, off + n * 7 + 1, none⟩) hg fun h => h).trans c1
      have e5 := (hkF.cell (p := ⟨g, off + n * 7 + 5, none⟩) hg fun h => h).trans c5
      clear d1 d2 d3 d4 d6 c1 c5 hBW hkW hzW k2 HLC HK6
      rcases Bool.eq_false_or_eq_true lc with rfl | rfl <;> rcases Bool.eq_false_or_eq_true k6 with rfl | rfl
      · rw [if_neg (by simp)] at HR
        by_cases e16 : ty = 16
        · have g1 : ((ty : Int) == 16) = true := by rw [beq_iff_eq]; omega
          rw [if_pos e16] at HR
          have hr := HR.out
          subst hr
          clear e16 HR
          go_wp2_with fail
          go_ret3
          exact ⟨rfl, hkF⟩
        · have g1 : ((ty : Int) == 16) = false := by rw [beq_eq_false_iff_ne]; omega
          rw [if_neg e16] at HR
          by_cases e17 : ty = 17
          · have g2 : ((ty : Int) == 17) = true := by rw [beq_iff_eq]; omega
            rw [if_pos e17] at HR
            have hr := HR.out
            subst hr
            clear e16 e17 HR
            go_wp2_with fail
            go_ret3
            exact ⟨rfl, hkF⟩
          · have g2 : ((ty : Int) == 17) = false := by rw [beq_eq_false_iff_ne]; omega
            rw [if_neg e17] at HR
            by_cases e18 : ty = 18
            · have g3 : ((ty : Int) == 18) = true := by rw [beq_iff_eq]; omega
              rw [if_pos e18] at HR
              have hr := HR.out
              subst hr
              clear e16 e17 e18 HR
              go_upto_region 12 with fail
              go_quiet (fail)
              go_wp2_with fail
              go_ret3
              exact ⟨rfl, hkF.drewN _⟩
            · have g3 : ((ty : Int) == 18) = false := by rw [beq_eq_false_iff_ne]; omega
              rw [if_neg e18] at HR
              have hr := HR.out
              subst hr
              clear e16 e17 e18 HR
              go_upto_region 13 with fail
              go_quiet (fail)
              go_wp2_with fail
              go_ret3
              exact ⟨rfl, hkF.drewN _⟩
      · rw [if_pos (by simp)] at HR
        have hr := HR.out
        subst hr
        clear HR
        go_wp2_with fail
        go_ret3
        exact ⟨rfl, hkF⟩
      · rw [if_pos (by simp)] at HR
        have hr := HR.out
        subst hr
        clear HR
        go_wp2_with fail
        go_ret3
        exact ⟨rfl, hkF⟩
      · rw [if_neg (by simp)] at HR
        by_cases e16 : ty = 16
        · have g1 : ((ty : Int) == 16) = true := by rw [beq_iff_eq]; omega
          rw [if_pos e16] at HR
          have hr := HR.out
          subst hr
          clear e16 HR
          go_wp2_with fail
          go_ret3
          exact ⟨rfl, hkF⟩
        · have g1 : ((ty : Int) == 16) = false := by rw [beq_eq_false_iff_ne]; omega
          rw [if_neg e16] at HR
          by_cases e17 : ty = 17
          · have g2 : ((ty : Int) == 17) = true := by rw [beq_iff_eq]; omega
            rw [if_pos e17] at HR
            have hr := HR.out
            subst hr
            clear e16 e17 HR
            go_wp2_with fail
            go_ret3
            exact ⟨rfl, hkF⟩
          · have g2 : ((ty : Int) == 17) = false := by rw [beq_eq_false_iff_ne]; omega
            rw [if_neg e17] at HR
            by_cases e18 : ty = 18
            · have g3 : ((ty : Int) == 18) = true := by rw [beq_iff_eq]; omega
              rw [if_pos e18] at HR
              have hr := HR.out
              subst hr
              clear e16 e17 e18 HR
              go_upto_region 12 with fail
              go_quiet (fail)
              go_wp2_with fail
              go_ret3
              exact ⟨rfl, hkF.drewN _⟩
            · have g3 : ((ty : Int) == 18) = false := by rw [beq_eq_false_iff_ne]; omega
              rw [if_neg e18] at HR
              have hr := HR.out
              subst hr
              clear e16 e17 e18 HR
              go_upto_region 13 with fail
              go_quiet (fail)
              go_wp2_with fail
              go_ret3
              exact ⟨rfl, hkF.drewN _⟩
end
end Go.Proofs.Ytbnahidopemkiaa
