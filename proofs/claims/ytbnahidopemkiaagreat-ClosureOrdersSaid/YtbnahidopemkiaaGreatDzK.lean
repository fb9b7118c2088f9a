/- The document's image: Parse. No condition. -/
import Derived.Test.YtbnahidopemkiaaGreatDzJ
import Derived.Test.YtbnahidopemkiaaGreatDz3
import Derived.Test.YtbnahidopemkiaaGreatDz6
import Derived.Test.YtbnahidopemkiaaGreatClN
import Derived.Test.YtbnahidopemkiaaGreatDzB
import Derived.Test.YtbnahidopemkiaaGreatSigT
set_option linter.unusedVariables false
set_option linter.unusedSimpArgs false
namespace Go.Dm.Ld
open Go Go.Dm.Oc
def finI (hd : Hd) (l : List Sg) (b : BS) (x : Nx) : Nat × Im := if soundM l x.rels x.syms ≠ 0 then (soundM l x.rels x.syms, im0) else (0, ⟨hd, l, x.so, x.need, x.names, x.syms, x.rels, b⟩)
theorem finI_1 (hd : Hd) (l : List Sg) (b : BS) (x : Nx) : (finI hd l b x).1 = soundM l x.rels x.syms := by
  unfold finI
  split
  · rfl
  · rename_i h
    exact (Decidable.of_not_not h).symm
theorem finI_2 {hd : Hd} {l : List Sg} {b : BS} {x : Nx} (h : soundM l x.rels x.syms = 0) : (finI hd l b x).2 = ⟨hd, l, x.so, x.need, x.names, x.syms, x.rels, b⟩ := by
  unfold finI
  rw [if_neg (fun q => q h)]
theorem parseM_X (b : BS) : parseM b = if 65536 < b.length then (13, im0)
    else if (headM b).1 ≠ 0 then ((headM b).1, im0)
    else if (headM b).2.kind = 4 then (11, im0)
    else if (sgTab b (headM b).2.segs (headM b).2.count).1 ≠ 0 then ((sgTab b (headM b).2.segs (headM b).2.count).1, im0)
    else if chkE (sgTab b (headM b).2.segs (headM b).2.count).2 b.length ≠ 0 then (chkE (sgTab b (headM b).2.segs (headM b).2.count).2 b.length, im0)
    else if findM (sgTab b (headM b).2.segs (headM b).2.count).2 1 = none then (11, im0)
    else match findM (sgTab b (headM b).2.segs (headM b).2.count).2 2 with
      | none => finI (headM b).2 (sgTab b (headM b).2.segs (headM b).2.count).2 b nx0
      | some s => if (namedX b (sgTab b (headM b).2.segs (headM b).2.count).2 s).1 ≠ 0 then ((namedX b (sgTab b (headM b).2.segs (headM b).2.count).2 s).1, im0)
        else finI (headM b).2 (sgTab b (headM b).2.segs (headM b).2.count).2 b (namedX b (sgTab b (headM b).2.segs (headM b).2.count).2 s).2 := by
  have e : shapeM b = if (headM b).1 ≠ 0 then ((headM b).1, hd0, [])
    else if (headM b).2.kind = 4 then (11, hd0, [])
    else if (sgTab b (headM b).2.segs (headM b).2.count).1 ≠ 0 then ((sgTab b (headM b).2.segs (headM b).2.count).1, hd0, [])
    else if chkE (sgTab b (headM b).2.segs (headM b).2.count).2 b.length ≠ 0 then (chkE (sgTab b (headM b).2.segs (headM b).2.count).2 b.length, hd0, [])
    else if findM (sgTab b (headM b).2.segs (headM b).2.count).2 1 = none then (11, hd0, [])
    else (0, (headM b).2, (sgTab b (headM b).2.segs (headM b).2.count).2) := rfl
  have p : parseM b = if 65536 < b.length then (13, im0)
    else if (shapeM b).1 ≠ 0 then ((shapeM b).1, im0)
    else match findM (shapeM b).2.2 2 with
      | none => finI (shapeM b).2.1 (shapeM b).2.2 b nx0
      | some s => if (namedX b (shapeM b).2.2 s).1 ≠ 0 then ((namedX b (shapeM b).2.2 s).1, im0) else finI (shapeM b).2.1 (shapeM b).2.2 b (namedX b (shapeM b).2.2 s).2 := by
    unfold parseM
    dsimp only
    generalize shapeM b = sh
    cases findM sh.2.2 2 with
    | none => rfl
    | some s =>
      dsimp only
      have hx : namedX b sh.2.2 s = if (namedM b sh.2.2 s).1 ≠ 0 then ((namedM b sh.2.2 s).1, nx0) else
          if (symsM b sh.2.2 (namedM b sh.2.2 s).2.info (namedM b sh.2.2 s).2.table).1 ≠ 0 then ((symsM b sh.2.2 (namedM b sh.2.2 s).2.info (namedM b sh.2.2 s).2.table).1, nx0)
          else finR ⟨(namedM b sh.2.2 s).2.so, (namedM b sh.2.2 s).2.need, (symsM b sh.2.2 (namedM b sh.2.2 s).2.info (namedM b sh.2.2 s).2.table).2.2, (symsM b sh.2.2 (namedM b sh.2.2 s).2.info (namedM b sh.2.2 s).2.table).2.1, []⟩ (relsM b sh.2.2 (namedM b sh.2.2 s).2.info (symsM b sh.2.2 (namedM b sh.2.2 s).2.info (namedM b sh.2.2 s).2.table).2.1.length) := rfl
      rw [hx]
      clear hx
      generalize namedM b sh.2.2 s = n
      generalize symsM b sh.2.2 n.2.info n.2.table = y
      generalize relsM b sh.2.2 n.2.info y.2.1.length = x
      by_cases h1 : n.1 ≠ 0
      · simp only [if_pos h1]
      · simp only [if_neg h1]
        by_cases h2 : y.1 ≠ 0
        · simp only [if_pos h2]
        · simp only [if_neg h2]
          by_cases h3 : x.1 ≠ 0
          · simp only [if_pos h3, finR]
          · simp only [if_neg h3, finR]
            rfl
  rw [p, e]
  clear p e
  generalize headM b = hd
  generalize sgTab b hd.2.segs hd.2.count = sg
  by_cases h0 : 65536 < b.length
  · simp only [if_pos h0]
  · simp only [if_neg h0]
    by_cases h1 : hd.1 ≠ 0
    · simp only [if_pos h1]
    · simp only [if_neg h1]
      by_cases h2 : hd.2.kind = 4
      · simp only [if_pos h2]; rfl
      · simp only [if_neg h2]
        by_cases h3 : sg.1 ≠ 0
        · simp only [if_pos h3]
        · simp only [if_neg h3]
          by_cases h4 : chkE sg.2 b.length ≠ 0
          · simp only [if_pos h4]
          · simp only [if_neg h4]
            by_cases h5 : findM sg.2 1 = none
            · simp only [if_pos h5]; rfl
            · simp only [if_neg h5]; rfl
theorem finI_bad {hd : Hd} {l : List Sg} {b : BS} {x : Nx} (h : (finI hd l b x).1 ≠ 0) : (finI hd l b x).2 = im0 := by
  unfold finI at h ⊢
  split at h
  · rename_i q; rw [if_pos q]
  · exact absurd rfl h
theorem parseM_bad (b : BS) (h : (parseM b).1 ≠ 0) : (parseM b).2 = im0 := by
  rw [parseM_X] at h ⊢
  generalize headM b = hd at *
  generalize sgTab b hd.2.segs hd.2.count = sg at *
  by_cases h0 : 65536 < b.length
  · simp only [if_pos h0]
  · simp only [if_neg h0] at h ⊢
    by_cases h1 : hd.1 ≠ 0
    · simp only [if_pos h1]
    · simp only [if_neg h1] at h ⊢
      by_cases h2 : hd.2.kind = 4
      · simp only [if_pos h2]
      · simp only [if_neg h2] at h ⊢
        by_cases h3 : sg.1 ≠ 0
        · simp only [if_pos h3]
        · simp only [if_neg h3] at h ⊢
          by_cases h4 : chkE sg.2 b.length ≠ 0
          · simp only [if_pos h4]
          · simp only [if_neg h4] at h ⊢
            by_cases h5 : findM sg.2 1 = none
            · simp only [if_pos h5]
            · simp only [if_neg h5] at h ⊢
              cases hf : findM sg.2 2 with
              | none =>
                rw [hf] at h
                exact finI_bad h
              | some s =>
                rw [hf] at h
                dsimp only at h ⊢
                by_cases h6 : (namedX b sg.2 s).1 ≠ 0
                · simp only [if_pos h6]
                · simp only [if_neg h6] at h ⊢
                  exact finI_bad h
theorem namedX_ok (b : BS) (l : List Sg) (s : Sg) : (∀ x ∈ (namedX b l s).2.syms, SyOk x) ∧ (∀ x ∈ (namedX b l s).2.rels, RlOk x) := by
  have h0 : (∀ x ∈ nx0.syms, SyOk x) ∧ (∀ x ∈ nx0.rels, RlOk x) := ⟨fun x hx => (by cases hx), fun x hx => (by cases hx)⟩
  unfold namedX
  split
  · exact h0
  · unfold finS
    split
    · exact h0
    · unfold finR
      split
      · exact h0
      · exact ⟨(symsM_ok _ _ _ _).1, (relsM_ok _ _ _ _).1⟩
theorem fIdxZ_lt (l : List Sg) (k : Nat) : decide (fIdxZ l k < 0) = decide (findM l k = none) := by
  have h := fIdx_find l k
  unfold fIdxZ
  cases hx : fIdx l k with
  | none =>
    rw [hx] at h
    rw [decide_eq_true (show findM l k = none from h)]
    rfl
  | some i =>
    rw [hx] at h
    obtain ⟨_, h⟩ := h
    rw [h]
    dsimp only
    rw [decide_eq_false (by omega), decide_eq_false (by simp)]
end Go.Dm.Ld
namespace Go.Proofs.YtbnahidopemkiaaGreat
open Go.RowKit Go.Dm Go.Dm.Oc Go.Dm.Ld
/-- what Parse yields -/
def Pr9 (A : Nat → Prop) (w : World) (r : Nat × Im) (e : Ending) (w' : World) : Prop :=
  ∃ cs : List Value, e = .returned (.tuple #[.agg cs.toArray, .int .i64 (r.1 : Nat)]) ∧ cs.length = 11 ∧ cs.toArray.all (·.oneCell') = true ∧ Keep No w w' ∧ (r.1 = 0 → ImR (fun k => w.heap.size ≤ k ∨ A k) w' cs r.2)
def NxR (hd : Hd) (vs vb : Value) (x : Nx) (n : Nat) (cs : Array Value) (w : World) : Prop :=
  ∃ vn vm vy vr, cs = (imC hd vs x.so vn vm vy vr vb).toArray ∧ Fl (fun k => n ≤ k) w 1 encS vn x.need ∧ Fl (fun k => n ≤ k) w 1 encS vm x.names ∧ Fl (fun k => n ≤ k) w 6 encSy vy x.syms ∧ Fl (fun k => n ≤ k) w 4 encRl vr x.rels
section
variable {A : Nat → Prop} {w : World} {v : Value}
section
variable {z0 z1 z2 z3 z4 z5 z6 z7 z8 z9 z10 z11 z12 z13 z14 z15 z16 z17 z18 z19 z20 z21 z22 z23 z24 z25 z26 z27 z28 z29 z30 z31 z32 z33 z34 z35 z36 z37 z38 z39 z40 z41 z42 z43 z44 z45 z46 z47 z48 z49 z50 z51 z52 z53 z54 z55 z56 z57 z58 z59 z60 z61 z62 z63 z64 z65 z66 z67 z68 z69 z70 z71 z72 z73 z74 z75 z76 z77 z78 z79 z80 z81 z82 : Value}
set_option maxRecDepth 100000 in
set_option maxHeartbeats 4000000 in
theorem parse_end {h : Hd} {vs vn vm vy vr vb : Value} {l : List Sg} {b : BS} {x : Nx} {r : Nat × Im} {w0 : World}
    (hX : Blk w0 (w.heap.size + 1) (imC h vs x.so vn vm vy vr vb).toArray 70) (hR : Blk w0 w.heap.size im0C.toArray 70)
    (hs : Fl (fun k => w.heap.size + 2 ≤ k) w0 7 encSg vs l) (hb : Bts A w vb b) (hbl : b.length ≤ 65536) (hok : ∀ x ∈ l, SgOk x) (hone : ∀ x ∈ l, oneE x b.length = 0)
    (hn : Fl (fun k => w.heap.size + 2 ≤ k) w0 1 encS vn x.need) (hm : Fl (fun k => w.heap.size + 2 ≤ k) w0 1 encS vm x.names) (hy : Fl (fun k => w.heap.size + 2 ≤ k) w0 6 encSy vy x.syms) (hyok : ∀ s ∈ x.syms, SyOk s) (hrl : Fl (fun k => w.heap.size + 2 ≤ k) w0 4 encRl vr x.rels) (hrok : ∀ s ∈ x.rels, RlOk s)
    (hr : r = finI h l b x) (hk : Keep No w w0) (hw : w.heap.size + 2 ≤ w0.heap.size) :
    Code.wp Tryz.prog (bodyFrom Tryz.f32 26) (bodyPost Tryz.prog Tryz.f32 (Pr9 A w r)) ⟨#[z0, z1, .pointer (some ⟨w.heap.size, 0, none⟩), z3, .pointer (some ⟨w.heap.size + 1, 0, none⟩), z5, z6, z7, z8, z9, z10, z11, z12, z13, z14, z15, z16, z17, z18, z19, z20, z21, z22, z23, z24, z25, z26, z27, z28, z29, z30, z31, z32, z33, z34, z35, z36, z37, z38, z39, z40, z41, z42, z43, z44, z45, z46, z47, z48, z49, z50, z51, z52, z53, z54, z55, z56, z57, z58, z59, z60, z61, z62, z63, z64, z65, z66, z67, z68, z69, z70, z71, z72, z73, z74, z75, z76, z77, z78, z79, z80, z81, z82], []⟩ w0 := by
  have HR := Lib.hid hr
  obtain ⟨a1, p1, rfl, _, _⟩ := hs.shape
  obtain ⟨a2, p2, rfl, _, _⟩ := hn.shape
  obtain ⟨a3, p3, rfl, _, _⟩ := hm.shape
  obtain ⟨a4, p4, rfl, _, _⟩ := hy.shape
  obtain ⟨a5, p5, rfl, _, _⟩ := hrl.shape
  obtain ⟨a6, p6, rfl, _, _⟩ := Sl.shape hb
  have hheld := r09held_any (w := w0.drew) h x.so (.slice a1 l.length p1) (.slice a2 x.need.length p2) (.slice a3 x.names.length p3) (.slice a4 x.syms.length p4) (.slice a5 x.rels.length p5) (.slice a6 b.length p6) l x.rels x.syms b.length (by omega) (hs.no (Keep.refl No w0).drew) hone hok (hy.no (Keep.refl No w0).drew) hyok (hrl.no (Keep.refl No w0).drew) hrok ⟨_, _, _, rfl⟩ ⟨_, _, _, rfl⟩ ⟨_, _, _, rfl⟩
  have h1 : r.1 = soundM l x.rels x.syms := by rw [HR.out, finI_1]
  have h2 : r.1 = 0 → r.2 = ⟨h, l, x.so, x.need, x.names, x.syms, x.rels, b⟩ := fun q => by rw [HR.out, finI_2 (by rw [← h1]; exact q)]
  generalize soundM l x.rels x.syms = er at *
  have H1 := Lib.hid h1
  have H2 := Lib.hid h2
  have HH := Lib.hid hheld
  have HBB := Lib.hid (hX.keep (Keep.refl No w0).drew fun h => h)
  clear h1 h2 hr HR hheld hone hok hyok hrok
  conv => arg 2; whnf
  go_upto_region 26 with fail
  refine wp_region_sig (fun W => Blk W (w.heap.size + 1) (imC h (.slice a1 l.length p1) x.so (.slice a2 x.need.length p2) (.slice a3 x.names.length p3) (.slice a4 x.syms.length p4) (.slice a5 x.rels.length p5) (.slice a6 b.length p6)).toArray 70 ∧ True) (fun j => decide (j ≤ 99)) [(0, true), (1, true), (2, false), (3, false), (4, false)] (by kernel_rfl) (by kernel_rfl) (by intro c a d v w h; cases d <;> exact h) ⟨HBB.out, trivial⟩ ?_
  apply sig_still (o := ⟨some 80, _, _, _, _, _⟩) rfl rfl
  · intro w' hS
    exact run_ldo _ _ rfl (w.heap.size + 1) 0 rfl (run_loadVar_row w' (w.heap.size + 1) 70 70 _ _ _ hS.1 Tryz.underlying70 rfl (by kernel_rfl))
  go_frame
  apply sig_still (o := ⟨some 81, _, _, _, _, _⟩) rfl rfl
  · intro w' hS
    exact run_ldo _ _ rfl (w.heap.size + 1) 0 rfl (run_loadVar_row w' (w.heap.size + 1) 70 70 _ _ _ hS.1 Tryz.underlying70 rfl (by kernel_rfl))
  go_frame
  refine sig_eff (o := ⟨some 82, _, _, _, _, _⟩) rfl rfl (fun K hKe => ?_)
  go_wp2_with fail
  refine HH.out.mono ?_
  rintro e w1 ⟨rfl, hk1⟩
  have hk01 : Keep No w0 w1 := ((Keep.refl No w0).drew).trans' hk1
  have hX1 := hX.keep hk01 fun h => h
  have hR1 := hR.keep hk01 fun h => h
  refine hKe _ _ ⟨fun _ => ⟨hX1, trivial⟩, ?_⟩
  refine sig_eff (o := ⟨none, _, _, _, _, _⟩) rfl rfl (fun K hKe => ?_)
  refine wo_stAgg (.tmp 2) (.tmp 80) 70 rfl _ _ rfl rfl ?_
  refine rg_stAgg hR1 (by kernel_rfl) (by rfl) imC_one ?_
  intro wf hBf hkf _
  have hXf := hX1.keep hkf fun e => by have e2 : w.heap.size + 1 = w.heap.size := e; omega
  refine hKe _ _ ⟨fun _ => ⟨hXf, trivial⟩, ?_⟩
  refine sig_eff (o := ⟨some 3, _, _, _, _, _⟩) rfl rfl (fun K hKe => ?_)
  go_wp2_with fail
  refine ⟨fun _ => ⟨hXf, trivial⟩, ?_⟩
  refine sig_nil ?_
  go_wp2_with fail
  refine ret_blk_tmp rfl rfl hBf Tryz.underlying70 rfl (by kernel_rfl) rfl ?_
  have hkf2 : Keep (fun j => j = w.heap.size) w0 wf := (hk01.mono fun _ _ h => h.elim).trans' hkf
  have hne : ∀ j, j < w0.heap.size → w.heap.size + 2 ≤ j → ¬ j = w.heap.size := fun j _ ha e => by omega
  have hup : ∀ j, j < wf.heap.size → w.heap.size + 2 ≤ j → (w.heap.size ≤ j ∨ A j) := fun j _ ha => .inl (by omega)
  have hkw : Keep No w wf := hk.trans hkf2 fun j hj e => by have e2 : j = w.heap.size := e; omega
  refine ⟨imC h (.slice a1 l.length p1) x.so (.slice a2 x.need.length p2) (.slice a3 x.names.length p3) (.slice a4 x.syms.length p4) (.slice a5 x.rels.length p5) (.slice a6 b.length p6), by rw [H1.out]; rfl, rfl, imC_one, hkw, fun q => ?_⟩
  rw [H2.out q]
  exact ⟨_, _, _, _, _, _, rfl, (hs.keep hkf2 hne).mono hup, (hn.keep hkf2 hne).mono hup, (hm.keep hkf2 hne).mono hup, (hy.keep hkf2 hne).mono hup, (hrl.keep hkf2 hne).mono hup, Sl.mono (Sl.keep hb hkw fun _ _ _ h => h) fun j _ ha => .inr ha⟩
end
set_option maxRecDepth 100000 in
set_option maxHeartbeats 6000000 in
theorem r09parse1_any (b : BS) (hb : Bts A w v b) (hbl : b.length ≤ 1000000000) :
    Calls Tryz.prog 32 #[v] w (Pr9 A w (parseM b)) := by
  have HB := Lib.hid hb
  obtain ⟨a6, p6, rfl, hp1, hp2⟩ := hb.shape
  obtain ⟨r, hr⟩ : ∃ r, r = parseM b := ⟨_, rfl⟩
  rw [← hr]
  rw [parseM_X] at hr
  have HR := Lib.hid hr
  have hcap : b.length ≤ 9223372036854775807 := by omega
  clear hr hb hp1 hp2
  rcases Nat.lt_or_ge 65536 b.length with hL | hL
  · have gL : (65536 : Int) < (b.length : Int) := by omega
    have hr := HR.out
    rw [if_pos hL] at hr
    subst hr
    clear HB HR
    go_enter Tryz.func32, Tryz.ntmps32
    go_wp2_with (first | (with_reducible refine wl_ld rfl _ 70 rfl _ rfl ?_) | (with_reducible refine wl_stAgg rfl _ _ _ rfl _ _ rfl rfl ?_))
    have hkW1 : Keep No w (w.alloc (.cells #[.int .i64 0, .int .u64 0, .int .u64 0, .int .i64 0, .slice none 0 0, .string ⟨#[]⟩, .slice none 0 0, .slice none 0 0, .slice none 0 0, .slice none 0 0, .slice none 0 0] 70)) := (Keep.refl _ _).alloc _
    have hBW1 : Blk (w.alloc (.cells #[.int .i64 0, .int .u64 0, .int .u64 0, .int .i64 0, .slice none 0 0, .string ⟨#[]⟩, .slice none 0 0, .slice none 0 0, .slice none 0 0, .slice none 0 0, .slice none 0 0] 70)) w.heap.size #[.int .i64 0, .int .u64 0, .int .u64 0, .int .i64 0, .slice none 0 0, .string ⟨#[]⟩, .slice none 0 0, .slice none 0 0, .slice none 0 0, .slice none 0 0, .slice none 0 0] 70 := Blk.new _ _ _
    have hzW1 : (w.alloc (.cells #[.int .i64 0, .int .u64 0, .int .u64 0, .int .i64 0, .slice none 0 0, .string ⟨#[]⟩, .slice none 0 0, .slice none 0 0, .slice none 0 0, .slice none 0 0, .slice none 0 0] 70)).heap.size = w.heap.size + 1 := World.size_alloc _ _
    generalize w.alloc (.cells #[.int .i64 0, .int .u64 0, .int .u64 0, .int .i64 0, .slice none 0 0, .string ⟨#[]⟩, .slice none 0 0, .slice none 0 0, .slice none 0 0, .slice none 0 0, .slice none 0 0] 70) = W1 at *
    have hkW2 : Keep No W1 (W1.alloc (.cells #[.int .i64 0, .int .u64 0, .int .u64 0, .int .i64 0, .slice none 0 0, .string ⟨#[]⟩, .slice none 0 0, .slice none 0 0, .slice none 0 0, .slice none 0 0, .slice none 0 0] 70)) := (Keep.refl _ _).alloc _
    have hBW2 : Blk (W1.alloc (.cells #[.int .i64 0, .int .u64 0, .int .u64 0, .int .i64 0, .slice none 0 0, .string ⟨#[]⟩, .slice none 0 0, .slice none 0 0, .slice none 0 0, .slice none 0 0, .slice none 0 0] 70)) W1.heap.size #[.int .i64 0, .int .u64 0, .int .u64 0, .int .i64 0, .slice none 0 0, .string ⟨#[]⟩, .slice none 0 0, .slice none 0 0, .slice none 0 0, .slice none 0 0, .slice none 0 0] 70 := Blk.new _ _ _
    have hzW2 : (W1.alloc (.cells #[.int .i64 0, .int .u64 0, .int .u64 0, .int .i64 0, .slice none 0 0, .string ⟨#[]⟩, .slice none 0 0, .slice none 0 0, .slice none 0 0, .slice none 0 0, .slice none 0 0] 70)).heap.size = W1.heap.size + 1 := World.size_alloc _ _
    generalize W1.alloc (.cells #[.int .i64 0, .int .u64 0, .int .u64 0, .int .i64 0, .slice none 0 0, .string ⟨#[]⟩, .slice none 0 0, .slice none 0 0, .slice none 0 0, .slice none 0 0, .slice none 0 0] 70) = W2 at *
    have hR2 : Blk W2 w.heap.size im0C.toArray 70 := hBW1.keep hkW2 fun h => h
    have hX2 : Blk W2 (w.heap.size + 1) im0C.toArray 70 := by rw [← hzW1]; exact hBW2
    have hk02 := hkW1.trans' hkW2
    have hs2 : w.heap.size + 2 ≤ W2.heap.size := by omega
    clear hBW1 hBW2 hkW1 hkW2 hzW1 hzW2
    go_wp2_with (first | (with_reducible refine wl_ld rfl _ 70 rfl _ rfl ?_) | (with_reducible refine wl_stAgg rfl _ _ _ rfl _ _ rfl rfl ?_))
    refine rg_ld (hX2) Tryz.underlying70 rfl (by kernel_rfl) ?_
    go_wp2_with (with_reducible refine wl_stAgg rfl _ _ _ rfl _ _ rfl rfl ?_)
    refine rg_stAgg (hR2) (by kernel_rfl) (by rfl) im0C_one ?_
    intro wf hBf hkf _
    go_wp2_with fail
    refine ret_blk_tmp rfl rfl hBf Tryz.underlying70 rfl (by kernel_rfl) rfl ?_
    exact ⟨im0C, rfl, rfl, im0C_one, (hk02).trans hkf (fun j hj e => by have e2 : j = w.heap.size := e; omega), fun q => absurd q (by first | assumption | omega | decide)⟩
  · have gL : (b.length : Int) ≤ 65536 := by omega
    have hr := HR.out
    rw [if_neg (by omega)] at hr
    have HR1 := Lib.hid hr
    clear hr HR
    have hgd := fun W (k : Keep No w W) => r03get_any (w := W) b (Sl.keep HB.out k fun _ _ _ h => h) (by omega)
    have htb := fun W (k : Keep No w W) (h1 : (headM b).2.segs < 18446744073709551616) (h2 : (headM b).2.count < 65536) => r04tab_any (w := W) b (headM b).2.segs (headM b).2.count (Sl.keep HB.out k fun _ _ _ h => h) hbl h1 h2
    obtain ⟨o0, o1, o2, o3⟩ := headM_ok b
    have hHT := fun a n => sgTab_ok b a n
    generalize headM b = hh at *
    obtain ⟨he, hd⟩ := hh
    dsimp only at hgd htb o0 o1 o2 o3
    have HGD := Lib.hid hgd
    have HTB := Lib.hid htb
    have HHT := Lib.hid hHT
    clear hgd htb hHT
    go_enter Tryz.func32, Tryz.ntmps32
    go_wp2_with (first | (with_reducible refine wl_ld rfl _ 70 rfl _ rfl ?_) | (with_reducible refine wl_stAgg rfl _ _ _ rfl _ _ rfl rfl ?_))
    have hkW1 : Keep No w (w.alloc (.cells #[.int .i64 0, .int .u64 0, .int .u64 0, .int .i64 0, .slice none 0 0, .string ⟨#[]⟩, .slice none 0 0, .slice none 0 0, .slice none 0 0, .slice none 0 0, .slice none 0 0] 70)) := (Keep.refl _ _).alloc _
    have hBW1 : Blk (w.alloc (.cells #[.int .i64 0, .int .u64 0, .int .u64 0, .int .i64 0, .slice none 0 0, .string ⟨#[]⟩, .slice none 0 0, .slice none 0 0, .slice none 0 0, .slice none 0 0, .slice none 0 0] 70)) w.heap.size #[.int .i64 0, .int .u64 0, .int .u64 0, .int .i64 0, .slice none 0 0, .string ⟨#[]⟩, .slice none 0 0, .slice none 0 0, .slice none 0 0, .slice none 0 0, .slice none 0 0] 70 := Blk.new _ _ _
    have hzW1 : (w.alloc (.cells #[.int .i64 0, .int .u64 0, .int .u64 0, .int .i64 0, .slice none 0 0, .string ⟨#[]⟩, .slice none 0 0, .slice none 0 0, .slice none 0 0, .slice none 0 0, .slice none 0 0] 70)).heap.size = w.heap.size + 1 := World.size_alloc _ _
    generalize w.alloc (.cells #[.int .i64 0, .int .u64 0, .int .u64 0, .int .i64 0, .slice none 0 0, .string ⟨#[]⟩, .slice none 0 0, .slice none 0 0, .slice none 0 0, .slice none 0 0, .slice none 0 0] 70) = W1 at *
    have hkW2 : Keep No W1 (W1.alloc (.cells #[.int .i64 0, .int .u64 0, .int .u64 0, .int .i64 0, .slice none 0 0, .string ⟨#[]⟩, .slice none 0 0, .slice none 0 0, .slice none 0 0, .slice none 0 0, .slice none 0 0] 70)) := (Keep.refl _ _).alloc _
    have hBW2 : Blk (W1.alloc (.cells #[.int .i64 0, .int .u64 0, .int .u64 0, .int .i64 0, .slice none 0 0, .string ⟨#[]⟩, .slice none 0 0, .slice none 0 0, .slice none 0 0, .slice none 0 0, .slice none 0 0] 70)) W1.heap.size #[.int .i64 0, .int .u64 0, .int .u64 0, .int .i64 0, .slice none 0 0, .string ⟨#[]⟩, .slice none 0 0, .slice none 0 0, .slice none 0 0, .slice none 0 0, .slice none 0 0] 70 := Blk.new _ _ _
    have hzW2 : (W1.alloc (.cells #[.int .i64 0, .int .u64 0, .int .u64 0, .int .i64 0, .slice none 0 0, .string ⟨#[]⟩, .slice none 0 0, .slice none 0 0, .slice none 0 0, .slice none 0 0, .slice none 0 0] 70)).heap.size = W1.heap.size + 1 := World.size_alloc _ _
    generalize W1.alloc (.cells #[.int .i64 0, .int .u64 0, .int .u64 0, .int .i64 0, .slice none 0 0, .string ⟨#[]⟩, .slice none 0 0, .slice none 0 0, .slice none 0 0, .slice none 0 0, .slice none 0 0] 70) = W2 at *
    have hR2 : Blk W2 w.heap.size im0C.toArray 70 := hBW1.keep hkW2 fun h => h
    have hX2 : Blk W2 (w.heap.size + 1) im0C.toArray 70 := by rw [← hzW1]; exact hBW2
    have hk02 := hkW1.trans' hkW2
    have hs2 : w.heap.size + 2 ≤ W2.heap.size := by omega
    clear hBW1 hBW2 hkW1 hkW2 hzW1 hzW2
    refine (HGD.out W2 hk02).mono ?_
    rintro e w3 ⟨rfl, hk3⟩
    have hR3 := hR2.keep hk3 fun h => h
    have hX3 := hX2.keep hk3 fun h => h
    have hk03 := hk02.trans' hk3
    have hs3 := Nat.le_trans hs2 hk3.size
    unfold encHd
    clear hR2 hX2 hk02 hs2 hk3 HGD
    go_wp2_with (with_reducible refine wl_stAgg rfl _ _ _ rfl _ _ rfl rfl ?_)
    have hkW4 : Keep No w3 (w3.alloc (.cells #[.int .i64 0, .int .u64 0, .int .u64 0, .int .i64 0] 68)) := (Keep.refl _ _).alloc _
    have hBW4 : Blk (w3.alloc (.cells #[.int .i64 0, .int .u64 0, .int .u64 0, .int .i64 0] 68)) w3.heap.size #[.int .i64 0, .int .u64 0, .int .u64 0, .int .i64 0] 68 := Blk.new _ _ _
    have hzW4 : (w3.alloc (.cells #[.int .i64 0, .int .u64 0, .int .u64 0, .int .i64 0] 68)).heap.size = w3.heap.size + 1 := World.size_alloc _ _
    generalize w3.alloc (.cells #[.int .i64 0, .int .u64 0, .int .u64 0, .int .i64 0] 68) = W4 at *
    refine rg_stAgg hBW4 (by kernel_rfl) (by rfl) (by simp [Value.oneCell']) ?_
    intro w5 hH5 hk5 hz5
    have hk35 : Keep (fun j => j = w3.heap.size) w3 w5 := (hkW4.mono fun _ _ h => h.elim).trans' hk5
    have hR5 := hR3.keep hk35 fun e => by have e2 : w.heap.size = w3.heap.size := e; omega
    have hX5 := hX3.keep hk35 fun e => by have e2 : w.heap.size + 1 = w3.heap.size := e; omega
    have hk05 : Keep No w w5 := hk03.trans hk35 fun j hj e => by have e2 : j = w3.heap.size := e; omega
    have hs5 : w.heap.size + 2 ≤ w5.heap.size := by omega
    have hb3 : w.heap.size + 2 ≤ w3.heap.size := hs3
    have hb5 : w3.heap.size < w5.heap.size := by omega
    generalize w3.heap.size = hb at *
    clear hR3 hX3 hk03 hs3 hk35 hk5 hz5 hkW4 hBW4 hzW4
    by_cases hhe : he = 0
    · subst hhe
      have hr := HR1.out
      rw [if_neg (by decide)] at hr
      have HR2 := Lib.hid hr
      have h0 : w5.cell? ⟨hb, 0, none⟩ = some (.int .i64 (hd.kind : Int)) := hH5.cell 0
      have h2 : w5.cell? ⟨hb, 2, none⟩ = some (.int .u64 (hd.segs : Int)) := hH5.cell 2
      have h3 : w5.cell? ⟨hb, 3, none⟩ = some (.int .i64 (hd.count : Int)) := hH5.cell 3
      clear hr HR1
      by_cases hkd : hd.kind = 4
      · have hr := HR2.out
        rw [if_pos hkd] at hr
        subst hr
        have gk : ((hd.kind : Int) == 4) = true := by rw [beq_iff_eq]; omega
        clear HR2 hkd
        go_wp2_with (first | (with_reducible refine wl_ld rfl _ 70 rfl _ rfl ?_) | (with_reducible refine wl_stAgg rfl _ _ _ rfl _ _ rfl rfl ?_))
        refine rg_ld (hX5) Tryz.underlying70 rfl (by kernel_rfl) ?_
        go_wp2_with (with_reducible refine wl_stAgg rfl _ _ _ rfl _ _ rfl rfl ?_)
        refine rg_stAgg (hR5) (by kernel_rfl) (by rfl) im0C_one ?_
        intro wf hBf hkf _
        go_wp2_with fail
        refine ret_blk_tmp rfl rfl hBf Tryz.underlying70 rfl (by kernel_rfl) rfl ?_
        exact ⟨im0C, rfl, rfl, im0C_one, (hk05).trans hkf (fun j hj e => by have e2 : j = w.heap.size := e; omega), fun q => absurd q (by first | assumption | omega | decide)⟩
      · have hr := HR2.out
        rw [if_neg hkd] at hr
        have HR3 := Lib.hid hr
        have gk : ((hd.kind : Int) == 4) = false := by rw [beq_eq_false_iff_ne]; omega
        clear hr HR2 hkd
        have htab := HTB.out w5 hk05 o2 o3
        have hok := HHT.out hd.segs hd.count
        generalize sgTab b hd.segs hd.count = st at *
        obtain ⟨se, l⟩ := st
        dsimp only at htab hok HR3
        go_wp2_with fail
        refine htab.mono ?_
        clear htab
        rintro e w6 ⟨vl, rfl, hl6, hk6⟩
        have hR6 := hR5.keep hk6 fun h => h
        have hX6 := hX5.keep hk6 fun h => h
        have hH6 := hH5.keep hk6 fun h => h
        have hk06 := hk05.trans' hk6
        have hs6 := Nat.le_trans hs5 hk6.size
        have hb6 := Nat.lt_of_lt_of_le hb5 hk6.size
        have hl : Fl (fun k => w.heap.size + 2 ≤ k ∧ k ≠ hb) w6 7 encSg vl l := hl6.fl.mono fun j _ ha => ⟨by omega, by omega⟩
        obtain ⟨al, cl, rfl, _, hcl2⟩ := hl.shape
        have hlib : (l.length : Int) ≤ 9223372036854775807 := by unfold maxLen at hcl2; omega
        clear hR5 hX5 hH5 hk05 hs5 hl6 hk6 hcl2 HTB HHT h0 h2 h3
        by_cases hse : se = 0
        · subst hse
          have hr := HR3.out
          rw [if_neg (by decide)] at hr
          have HR4 := Lib.hid hr
          clear hr HR3
          have hchk := r04chk_any (w := w6) l b.length hl hok hbl
          have hone := @chkE_all l b.length
          generalize chkE l b.length = ce at *
          have wl : IntKind.u64.wrap (b.length : Int) = (b.length : Int) := by rw [IntKind.wrap_u64]; omega
          go_wp2_with fail
          refine hchk.mono ?_
          clear hchk wl
          rintro e w7 ⟨rfl, hk7⟩
          have hR7 := hR6.keep hk7 fun h => h
          have hX7 := hX6.keep hk7 fun h => h
          have hH7 := hH6.keep hk7 fun h => h
          have hl7 := hl.no hk7
          have hk07 := hk06.trans' hk7
          have hs7 := Nat.le_trans hs6 hk7.size
          clear hR6 hX6 hH6 hl hk06 hs6 hk7
          by_cases hce : ce = 0
          · have hone2 := hone hce
            subst hce
            have hr := HR4.out
            rw [if_neg (by decide)] at hr
            have HR5 := Lib.hid hr
            have hf1 := r04find_any (w := w7) l 1 hl7
            have hfl1 := fIdxZ_lt l 1
            generalize fIdxZ l 1 = f1 at *
            have HONE := Lib.hid hone2
            have HOK := Lib.hid hok
            clear hr HR4 hone hone2 hok
            by_cases hfm : findM l 1 = none
            · have g1 : decide (f1 < 0) = true := by rw [hfl1]; exact decide_eq_true hfm
              have hr := HR5.out
              rw [if_pos hfm] at hr
              subst hr
              clear hfl1 HR5 hfm
              go_wp2_with fail
              refine hf1.mono ?_
              clear hf1
              rintro e wq ⟨rfl, rfl⟩
              go_wp2_with (first | (with_reducible refine wl_ld rfl _ 70 rfl _ rfl ?_) | (with_reducible refine wl_stAgg rfl _ _ _ rfl _ _ rfl rfl ?_))
              refine rg_ld (hX7) Tryz.underlying70 rfl (by kernel_rfl) ?_
              go_wp2_with (with_reducible refine wl_stAgg rfl _ _ _ rfl _ _ rfl rfl ?_)
              refine rg_stAgg (hR7) (by kernel_rfl) (by rfl) im0C_one ?_
              intro wf hBf hkf _
              go_wp2_with fail
              refine ret_blk_tmp rfl rfl hBf Tryz.underlying70 rfl (by kernel_rfl) rfl ?_
              exact ⟨im0C, rfl, rfl, im0C_one, (hk07).trans hkf (fun j hj e => by have e2 : j = w.heap.size := e; omega), fun q => absurd q (by first | assumption | omega | decide)⟩
            · have g1 : decide (f1 < 0) = false := by rw [hfl1]; exact decide_eq_false hfm
              have hr := HR5.out
              rw [if_neg hfm] at hr
              have HR6 := Lib.hid hr
              clear hr hfl1 HR5 hfm
              go_wp2_with fail
              refine hf1.mono ?_
              clear hf1
              rintro e wq ⟨rfl, rfl⟩
              go_wp2_with (first | (with_reducible refine wl_ld rfl _ 68 rfl _ rfl ?_) | (with_reducible refine wl_st rfl _ _ _ rfl _ _ _ rfl rfl ?_))
              refine rg_ld hH7 Tryz.underlying68 rfl (by kernel_rfl) ?_
              go_wp2_with (with_reducible refine wl_st rfl _ _ _ rfl _ _ _ rfl rfl ?_)
              refine rg_stN hX7 (by kernel_rfl) (by show 0 + 4 ≤ 11; decide) (by simp [Value.oneCell']) ?_
              intro w8 hX8' hk8 _
              have hX8 : Blk w8 (w.heap.size + 1) #[.int .i64 (hd.kind : Int), .int .u64 (hd.entry : Int), .int .u64 (hd.segs : Int), .int .i64 (hd.count : Int), .slice none 0 0, .string ⟨#[]⟩, .slice none 0 0, .slice none 0 0, .slice none 0 0, .slice none 0 0, .slice none 0 0] 70 := hX8'
              clear hX8' hX7
              have x4 := hX8.cell 4
              have x10 := hX8.cell 10
              have f4 := hX8.frozen 4
              have f10 := hX8.frozen 10
              have hX9 := hX8.set (i := 4) (.slice al l.length cl)
              have hk9 : Keep (fun j => j = w.heap.size + 1) w8 (w8.setCell ⟨w.heap.size + 1, 4, none⟩ (.slice al l.length cl)) := (Keep.refl (fun j => j = w.heap.size + 1) w8).setCell (p := ⟨w.heap.size + 1, 4, none⟩) (fun _ => rfl) _
              have hX10 : Blk ((w8.setCell ⟨w.heap.size + 1, 4, none⟩ (.slice al l.length cl)).setCell ⟨w.heap.size + 1, 10, none⟩ (.slice a6 b.length p6)) (w.heap.size + 1) (imC hd (.slice al l.length cl) [] (.slice none 0 0) (.slice none 0 0) (.slice none 0 0) (.slice none 0 0) (.slice a6 b.length p6)).toArray 70 := hX9.set (i := 10) (.slice a6 b.length p6)
              have hk10 := hk9.setCell (p := ⟨w.heap.size + 1, 10, none⟩) (fun _ => rfl) (.slice a6 b.length p6)
              have x10b := hX9.cell 10
              have f10b := hX9.frozen 10
              have HX10 := Lib.hid (And.intro hX10 hk10)
              clear hX9 hX10 hk9 hk10
              have hf2 := fun W (k : Keep (fun j => j = w.heap.size + 1) w7 W) => r04find_any (w := W) l 2 (hl7.keep k fun j _ ha e => by have e2 : j = w.heap.size + 1 := e; omega)
              have hfx := fIdx_find l 2
              obtain ⟨fz, hfz⟩ : ∃ q, q = fIdxZ l 2 := ⟨_, rfl⟩
              rw [← hfz] at hf2
              have HFZ := Lib.hid hfz
              have HFX := Lib.hid hfx
              have HF2 := Lib.hid hf2
              clear hfz hfx hf2
              go_wp2_with fail
              obtain ⟨hX10, hk10⟩ := HX10.out
              generalize (w8.setCell ⟨w.heap.size + 1, 4, none⟩ (.slice al l.length cl)).setCell ⟨w.heap.size + 1, 10, none⟩ (.slice a6 b.length p6) = w10 at *
              have hk710 : Keep (fun j => j = w.heap.size + 1) w7 w10 := hk8.trans' hk10
              have hR10 := hR7.keep hk710 fun e => by have e2 : w.heap.size = w.heap.size + 1 := e; omega
              have hl10 : Fl (fun k => w.heap.size + 2 ≤ k) w10 7 encSg (.slice al l.length cl) l := (hl7.keep hk710 fun j _ ha e => by have e2 : j = w.heap.size + 1 := e; omega).mono fun j _ ha => ha.1
              have hk010 : Keep No w w10 := hk07.trans hk710 fun j hj e => by have e2 : j = w.heap.size + 1 := e; omega
              have hs10 := Nat.le_trans hs7 hk710.size
              clear HX10 x4 x10 f4 f10 x10b f10b hX8 hk8 hk10 hR7 hl7 hk07 hH7
              refine (HF2.out w10 hk710).mono ?_
              clear HF2 hk710
              rintro e wq ⟨rfl, rfl⟩
              go_upto_if 65 with fail
              go_cut [11, 12] from 13 (fun _ _ wc => ∃ (vn vm vy vr : Value) (x : Nx), r = finI hd l b x ∧ (∀ s ∈ x.syms, SyOk s) ∧ (∀ s ∈ x.rels, RlOk s) ∧ Blk wc (w.heap.size + 1) (imC hd (.slice al l.length cl) x.so vn vm vy vr (.slice a6 b.length p6)).toArray 70 ∧ Keep (fun j => j = w.heap.size + 1) w10 wc ∧
                Fl (fun k => w.heap.size + 2 ≤ k) wc 1 encS vn x.need ∧ Fl (fun k => w.heap.size + 2 ≤ k) wc 1 encS vm x.names ∧ Fl (fun k => w.heap.size + 2 ≤ k) wc 6 encSy vy x.syms ∧ Fl (fun k => w.heap.size + 2 ≤ k) wc 4 encRl vr x.rels)
              case rest =>
                obtain ⟨vn, vm, vy, vr, x, hr, hyo, hro, hX2, hk2, hn2, hm2, hy2, hr2⟩ := hcut
                have hR2 := hR10.keep hk2 fun e => by have e2 : w.heap.size = w.heap.size + 1 := e; omega
                have hkw2 : Keep No w wc := hk010.trans hk2 fun j hj e => by have e2 : j = w.heap.size + 1 := e; omega
                refine use_k (by assumption) ?_
                exact parse_end (A := A) hX2 hR2 (hl10.keep hk2 fun j _ ha e => by have e2 : j = w.heap.size + 1 := e; omega) HB.out hL HOK.out HONE.out hn2 hm2 hy2 hyo hr2 hro hr hkw2 (Nat.le_trans hs10 hk2.size)
              case first =>
                have hfx := HFX.out
                have hfz := HFZ.out
                unfold fIdxZ at hfz
                cases hfi : fIdx l 2 with
                | none =>
                  rw [hfi] at hfx hfz
                  dsimp only at hfx hfz
                  subst hfz
                  have hr := HR6.out
                  rw [hfx] at hr
                  have HR7 : Hid (r = finI hd l b nx0) := Lib.hid hr
                  clear hr HR6 hfx hfi
                  go_wp2_with fail
                  go_meet
                  exact ⟨_, _, _, _, nx0, HR7.out, fun s hs => (by cases hs), fun s hs => (by cases hs), hX10, Keep.refl _ _, Fl.nil, Fl.nil, Fl.nil, Fl.nil⟩
                | some k =>
                  rw [hfi] at hfx hfz
                  dsimp only at hfx hfz
                  subst hfz
                  obtain ⟨hkl, hfx⟩ := hfx
                  have hr := HR6.out
                  rw [hfx] at hr
                  dsimp only at hr
                  have hsg := HOK.out _ (List.getElem_mem hkl)
                  obtain ⟨g, off, cap, ev, hgA, hgl, _, _, hc⟩ := hl10.at encSg_len hkl
                  injection ev with e1 e2 e3
                  subst e1 e3
                  have hcw := fun W (kk : Keep No w10 W) => (hl10.no kk).cells encSg_len hkl
                  have hnm := fun W (kk : Keep No w10 W) => r09named_any (A := fun k => w.heap.size + 2 ≤ k ∨ A k) (w := W) hd (.slice (some ⟨g, off, none⟩) l.length cl) (.slice a6 b.length p6) l b l[k] ((hl10.no kk).mono fun _ _ h => .inl h) ((Sl.keep HB.out (hk010.trans' kk) fun _ _ _ h => h).mono fun _ _ h => .inr h) hL HOK.out (fun x hx h1 => by have h3 := oneE_lt (HONE.out x hx) (by omega); omega) hsg
                  have hxo := namedX_ok b l l[k]
                  generalize namedX b l l[k] = nx at *
                  generalize l[k] = s at *
                  obtain ⟨ne, x⟩ := nx
                  dsimp only at hr hxo
                  have hkz : (k : Int) < (l.length : Int) := by omega
                  have HC := Lib.hid hcw
                  have HNM := Lib.hid hnm
                  have HR7 := Lib.hid hr
                  have hgk : ∀ W, Keep No w10 W → Blk W (w.heap.size + 1) (imC hd (.slice (some ⟨g, off, none⟩) l.length cl) [] (.slice none 0 0) (.slice none 0 0) (.slice none 0 0) (.slice none 0 0) (.slice a6 b.length p6)).toArray 70 ∧ (∀ r u, (encSg s)[r]? = some u → W.cell? ⟨g, off + k * 7 + r, none⟩ = some u) := fun W kk => ⟨hX10.keep kk fun h => h, HC.out W kk⟩
                  have HGK := Lib.hid hgk
                  have hHF : Hid (∀ (W wf : World) (cs : Array Value) (B : Nat → Prop), w.heap.size + 2 ≤ W.heap.size → Keep B W wf → (∀ j, j < wf.heap.size → W.heap.size + 3 ≤ j → ¬ B j) → True) := Lib.hid fun _ _ _ _ _ _ _ => trivial
                  clear hr HR6 hfx hfi hc hcw hnm e2 hgk hHF
                  go_upto_region 22 with fail
                  apply joinG
                  · intro HJ
                    refine wp_region_tree (fun W => Blk W (w.heap.size + 1) (imC hd (.slice (some ⟨g, off, none⟩) l.length cl) [] (.slice none 0 0) (.slice none 0 0) (.slice none 0 0) (.slice none 0 0) (.slice a6 b.length p6)).toArray 70 ∧ (∀ r u, (encSg s)[r]? = some u → W.cell? ⟨g, off + k * 7 + r, none⟩ = some u)) (fun j => decide (j ≤ 99)) (.st 0 (.st 1 (.st 2 (.st 3 (.st 4 (.br 5 9 (.st 6 (.st 7 (.st 8 (.ef 9 (.ef 10 (.st 11 .nil)))))) (.ef 5 (.st 6 (.st 7 (.st 8 (.ef 10 (.st 11 .nil)))))))))))) (by kernel_rfl) (by kernel_rfl) (by intro c a d v w h; cases d <;> exact h) (HGK.out _ (Keep.refl _ _).drew) ?_
                    apply tr_still (o := ⟨some 67, _, _, _, _, _⟩) rfl rfl
                    · intro w' hS
                      exact run_ldo _ _ rfl (w.heap.size + 1) 0 rfl (run_loadVar_row w' (w.heap.size + 1) 70 70 _ _ _ hS.1 Tryz.underlying70 rfl (by kernel_rfl))
                    go_frame
                    apply tr_still (o := ⟨some 68, _, _, _, _, _⟩) rfl rfl
                    · intro w' hS
                      first | (go_simp; done) | (go_simp; rfl) | rfl
                    go_frame
                    apply tr_still (o := ⟨some 69, _, _, _, _, _⟩) rfl rfl
                    · intro w' hS
                      first | (go_simp; done) | (go_simp; rfl) | rfl
                    go_frame
                    apply tr_still (o := ⟨some 70, _, _, _, _, _⟩) rfl rfl
                    · intro w' hS
                      first | (go_simp; done) | (go_simp; rfl) | rfl
                    go_frame
                    apply tr_still (o := ⟨some 71, _, _, _, _, _⟩) rfl rfl
                    · intro w' hS
                      exact run_ldo _ _ rfl g (off + k * 7) rfl (run_loadVar_sub w' g (off + k * 7) 113 _ _ hS.2 Tryz.underlying113 rfl (by kernel_rfl))
                    go_frame
                    refine tr_br (o := ⟨some 72, _, _, _, _, _⟩) (o' := ⟨some 11, _, _, _, _, _⟩) rfl rfl rfl rfl (fun K hKe => ?_) (fun K hKe => ?_)
                    · go_wp2_with fail
                      refine (HNM.out _ (Keep.refl No w10).drew).mono ?_
                      rintro e w11 ⟨cs, rfl, hcs, hco, hk11, hcx⟩
                      have hk1 : Keep No w10 w11 := (Keep.refl No w10).drew.trans' hk11
                      refine hKe _ _ ⟨fun _ => HGK.out _ hk1, ?_⟩
                      apply tr_still (o := ⟨some 66, _, _, _, _, _⟩) rfl rfl
                      · intro w' hS
                        first | (go_simp; done) | (go_simp; rfl) | rfl
                      go_frame
                      apply tr_still (o := ⟨some 73, _, _, _, _, _⟩) rfl rfl
                      · intro w' hS
                        first | (go_simp; done) | (go_simp; rfl) | rfl
                      go_frame
                      apply tr_still (o := ⟨some 74, _, _, _, _, _⟩) rfl rfl
                      · intro w' hS
                        first | (go_simp; done) | (go_simp; rfl) | rfl
                      go_frame
                      refine tr_eff (o := ⟨some 11, _, _, _, _, _⟩) rfl rfl (fun K hKe => ?_)
                      go_wp2_with fail
                      have hkw12 : Keep No w11 (w11.alloc (.cells #[.int .i64 0, .int .u64 0, .int .u64 0, .int .i64 0, .slice none 0 0, .string ⟨#[]⟩, .slice none 0 0, .slice none 0 0, .slice none 0 0, .slice none 0 0, .slice none 0 0] 70)) := (Keep.refl _ _).alloc _
                      have hBw12 : Blk (w11.alloc (.cells #[.int .i64 0, .int .u64 0, .int .u64 0, .int .i64 0, .slice none 0 0, .string ⟨#[]⟩, .slice none 0 0, .slice none 0 0, .slice none 0 0, .slice none 0 0, .slice none 0 0] 70)) w11.heap.size #[.int .i64 0, .int .u64 0, .int .u64 0, .int .i64 0, .slice none 0 0, .string ⟨#[]⟩, .slice none 0 0, .slice none 0 0, .slice none 0 0, .slice none 0 0, .slice none 0 0] 70 := Blk.new _ _ _
                      have hzw12 : (w11.alloc (.cells #[.int .i64 0, .int .u64 0, .int .u64 0, .int .i64 0, .slice none 0 0, .string ⟨#[]⟩, .slice none 0 0, .slice none 0 0, .slice none 0 0, .slice none 0 0, .slice none 0 0] 70)).heap.size = w11.heap.size + 1 := World.size_alloc _ _
                      generalize w11.alloc (.cells #[.int .i64 0, .int .u64 0, .int .u64 0, .int .i64 0, .slice none 0 0, .string ⟨#[]⟩, .slice none 0 0, .slice none 0 0, .slice none 0 0, .slice none 0 0, .slice none 0 0] 70) = w12 at *
                      refine ⟨by first | exact HGK.out _ (hk1.trans' hkw12) | exact fun _ => HGK.out _ (hk1.trans' hkw12), ?_⟩
                      refine tr_eff (o := ⟨none, _, _, _, _, _⟩) rfl rfl (fun K hKe => ?_)
                      refine wo_stAgg (.tmp 11) (.tmp 73) 70 rfl _ _ rfl rfl ?_
                      refine rg_stAgg hBw12 (by rw [hcs]; kernel_rfl) (by rw [hcs]; rfl) hco ?_
                      intro wf hBf hkf hzf
                      have hkF : Keep No w10 wf := (hk1.trans' hkw12).trans hkf fun j hj e => by
                        have e2 : j = w11.heap.size := e
                        have := hk1.size
                        omega
                      have hkF1 : Keep (fun j => w11.heap.size ≤ j) w11 wf := (hkw12.mono fun _ _ h => h.elim).trans' (hkf.mono fun j _ e => by have e2 : j = w11.heap.size := e; omega)
                      have hcF : ne = 0 → NxR hd (.slice (some ⟨g, off, none⟩) l.length cl) (.slice a6 b.length p6) x (w.heap.size + 2) cs wf := fun q => by
                        obtain ⟨vn, vm, vy, vr, e, f1, f2, f3, f4⟩ := hcx q
                        have hz : w10.drew.heap.size = w10.heap.size := rfl
                        have hne : ∀ j, j < w11.heap.size → w10.drew.heap.size + 3 ≤ j → ¬ w11.heap.size ≤ j := fun j hj _ h => absurd hj (Nat.not_lt.2 h)
                        have hup : ∀ j, j < wf.heap.size → w10.drew.heap.size + 3 ≤ j → w.heap.size + 2 ≤ j := fun j _ ha => by rw [hz] at ha; omega
                        exact ⟨vn, vm, vy, vr, e, (f1.keep hkF1 hne).mono hup, (f2.keep hkF1 hne).mono hup, (f3.keep hkF1 hne).mono hup, (f4.keep hkF1 hne).mono hup⟩
                      refine hKe _ _ ⟨fun _ => HGK.out _ hkF, ?_⟩
                      apply tr_still (o := ⟨some 12, _, _, _, _, _⟩) rfl rfl
                      · intro w' hS
                        first | (go_simp; done) | (go_simp; rfl) | rfl
                      go_frame
                      apply tr_nil
                      obtain ⟨gg, hgg⟩ : ∃ g, g = w11.heap.size := ⟨_, rfl⟩
                      rw [← hgg] at hBf ⊢
                      clear hgg hkf hzf hKe hBw12 hkw12 hzw12 hk1 hk11 hcx hkF1
                      revert hcF
                      revert hkF
                      revert hBf
                      revert hco
                      revert hcs
                      revert gg
                      revert wf
                      revert cs
                      exact HJ.out
                    · go_wp2_with fail
                      have k5a : Keep No w10 (w10.alloc (.cells #[.int .i64 0, .int .u64 0, .int .u64 0, .int .i64 0, .slice none 0 0, .string ⟨#[]⟩, .slice none 0 0, .slice none 0 0, .slice none 0 0, .slice none 0 0, .slice none 0 0] 70)).drew := ((Keep.refl No w10).alloc _).drew
                      have hBa : Blk (w10.alloc (.cells #[.int .i64 0, .int .u64 0, .int .u64 0, .int .i64 0, .slice none 0 0, .string ⟨#[]⟩, .slice none 0 0, .slice none 0 0, .slice none 0 0, .slice none 0 0, .slice none 0 0] 70)).drew w10.heap.size #[.int .i64 0, .int .u64 0, .int .u64 0, .int .i64 0, .slice none 0 0, .string ⟨#[]⟩, .slice none 0 0, .slice none 0 0, .slice none 0 0, .slice none 0 0, .slice none 0 0] 70 := (Blk.new w10 _ _).keep (Keep.refl No _).drew fun h => h
                      generalize (w10.alloc (.cells #[.int .i64 0, .int .u64 0, .int .u64 0, .int .i64 0, .slice none 0 0, .string ⟨#[]⟩, .slice none 0 0, .slice none 0 0, .slice none 0 0, .slice none 0 0, .slice none 0 0] 70)).drew = wa at *
                      refine ⟨by first | exact HGK.out _ k5a | exact fun _ => HGK.out _ k5a, ?_⟩
                      refine tr_eff (o := ⟨some 72, _, _, _, _, _⟩) rfl rfl (fun K hKe => ?_)
                      go_wp2_with fail
                      refine (HNM.out _ k5a).mono ?_
                      rintro e w11 ⟨cs, rfl, hcs, hco, hk11, hcx⟩
                      have hBw12 := hBa.keep hk11 fun h => h
                      have hk1 := k5a.trans' hk11
                      have hal := hBa.lt
                      refine hKe _ _ ⟨fun _ => HGK.out _ hk1, ?_⟩
                      apply tr_still (o := ⟨some 66, _, _, _, _, _⟩) rfl rfl
                      · intro w' hS
                        first | (go_simp; done) | (go_simp; rfl) | rfl
                      go_frame
                      apply tr_still (o := ⟨some 73, _, _, _, _, _⟩) rfl rfl
                      · intro w' hS
                        first | (go_simp; done) | (go_simp; rfl) | rfl
                      go_frame
                      apply tr_still (o := ⟨some 74, _, _, _, _, _⟩) rfl rfl
                      · intro w' hS
                        first | (go_simp; done) | (go_simp; rfl) | rfl
                      go_frame
                      refine tr_eff (o := ⟨none, _, _, _, _, _⟩) rfl rfl (fun K hKe => ?_)
                      refine wo_stAgg (.tmp 11) (.tmp 73) 70 rfl _ _ rfl rfl ?_
                      refine rg_stAgg hBw12 (by rw [hcs]; kernel_rfl) (by rw [hcs]; rfl) hco ?_
                      intro wf hBf hkf hzf
                      have hkF : Keep No w10 wf := hk1.trans hkf fun j hj e => by
                        have e2 : j = w10.heap.size := e
                        omega
                      have hcF : ne = 0 → NxR hd (.slice (some ⟨g, off, none⟩) l.length cl) (.slice a6 b.length p6) x (w.heap.size + 2) cs wf := fun q => by
                        obtain ⟨vn, vm, vy, vr, e, f1, f2, f3, f4⟩ := hcx q
                        have hz := k5a.size
                        have hne : ∀ j, j < w11.heap.size → wa.heap.size + 3 ≤ j → ¬ j = w10.heap.size := fun j hj ha e => by omega
                        have hup : ∀ j, j < wf.heap.size → wa.heap.size + 3 ≤ j → w.heap.size + 2 ≤ j := fun j _ ha => by omega
                        exact ⟨vn, vm, vy, vr, e, (f1.keep hkf hne).mono hup, (f2.keep hkf hne).mono hup, (f3.keep hkf hne).mono hup, (f4.keep hkf hne).mono hup⟩
                      refine hKe _ _ ⟨fun _ => HGK.out _ hkF, ?_⟩
                      apply tr_still (o := ⟨some 12, _, _, _, _, _⟩) rfl rfl
                      · intro w' hS
                        first | (go_simp; done) | (go_simp; rfl) | rfl
                      go_frame
                      apply tr_nil
                      obtain ⟨gg, hgg⟩ : ∃ g, g = w10.heap.size := ⟨_, rfl⟩
                      rw [← hgg] at hBf ⊢
                      clear hgg hkf hzf hKe hBw12 hk1 hk11 hcx k5a hBa hal
                      revert hcF
                      revert hkF
                      revert hBf
                      revert hco
                      revert hcs
                      revert gg
                      revert wf
                      revert cs
                      exact HJ.out
                  · intro cs wf gg hcs hco hBf hkF hcF
                    have hXf := hX10.keep hkF fun h => h
                    have hRf := hR10.keep hkF fun h => h
                    have hkwf := hk010.trans' hkF
                    by_cases hne : ne = 0
                    · subst hne
                      have hr := HR7.out
                      rw [if_neg (by decide)] at hr
                      obtain ⟨vn, vm, vy, vr, rfl, f1, f2, f3, f4⟩ := hcF rfl
                      have HR8 := Lib.hid hr
                      clear hr HR7 hcF
                      go_wp2_with (first | (with_reducible refine wl_ld rfl _ 70 rfl _ rfl ?_) | (with_reducible refine wl_stAgg rfl _ _ _ rfl _ _ rfl rfl ?_))
                      refine rg_ld hBf Tryz.underlying70 rfl (by kernel_rfl) ?_
                      go_wp2_with (with_reducible refine wl_stAgg rfl _ _ _ rfl _ _ rfl rfl ?_)
                      refine rg_stAgg hXf (by kernel_rfl) (by rfl) hco ?_
                      intro wg hXg hkg _
                      go_wp2_with fail
                      go_meet
                      have hne : ∀ j, j < wf.heap.size → w.heap.size + 2 ≤ j → ¬ j = w.heap.size + 1 := fun j hj ha e => by omega
                      exact ⟨vn, vm, vy, vr, x, HR8.out, hxo.1, hxo.2, hXg, (hkF.mono fun _ _ h => h.elim).trans' hkg, f1.keep hkg hne, f2.keep hkg hne, f3.keep hkg hne, f4.keep hkg hne⟩
                    · have hr := HR7.out
                      rw [if_pos hne] at hr
                      subst hr
                      have gn : ((ne : Int) != 0) = true := by rw [bne_iff_ne]; omega
                      go_wp2_with (first | (with_reducible refine wl_ld rfl _ 70 rfl _ rfl ?_) | (with_reducible refine wl_stAgg rfl _ _ _ rfl _ _ rfl rfl ?_))
                      refine rg_ld hXf Tryz.underlying70 rfl (by kernel_rfl) ?_
                      go_wp2_with (with_reducible refine wl_stAgg rfl _ _ _ rfl _ _ rfl rfl ?_)
                      refine rg_stAgg hRf (by kernel_rfl) (by rfl) imC_one ?_
                      intro wg hBg hkg _
                      go_wp2_with fail
                      refine ret_blk_tmp rfl rfl hBg Tryz.underlying70 rfl (by kernel_rfl) rfl ?_
                      exact ⟨imC hd (.slice (some ⟨g, off, none⟩) l.length cl) [] (.slice none 0 0) (.slice none 0 0) (.slice none 0 0) (.slice none 0 0) (.slice a6 b.length p6), rfl, rfl, imC_one, hkwf.trans hkg (fun j hj e => by have e2 : j = w.heap.size := e; omega), fun q => absurd q hne⟩
          · have gc : ((ce : Int) != 0) = true := by rw [bne_iff_ne]; omega
            have hr := HR4.out
            rw [if_pos hce] at hr
            subst hr
            go_wp2_with (first | (with_reducible refine wl_ld rfl _ 70 rfl _ rfl ?_) | (with_reducible refine wl_stAgg rfl _ _ _ rfl _ _ rfl rfl ?_))
            refine rg_ld (hX7) Tryz.underlying70 rfl (by kernel_rfl) ?_
            go_wp2_with (with_reducible refine wl_stAgg rfl _ _ _ rfl _ _ rfl rfl ?_)
            refine rg_stAgg (hR7) (by kernel_rfl) (by rfl) im0C_one ?_
            intro wf hBf hkf _
            go_wp2_with fail
            refine ret_blk_tmp rfl rfl hBf Tryz.underlying70 rfl (by kernel_rfl) rfl ?_
            exact ⟨im0C, rfl, rfl, im0C_one, (hk07).trans hkf (fun j hj e => by have e2 : j = w.heap.size := e; omega), fun q => absurd q (by first | assumption | omega | decide)⟩
        · have gs : ((se : Int) != 0) = true := by rw [bne_iff_ne]; omega
          have hr := HR3.out
          rw [if_pos hse] at hr
          subst hr
          go_wp2_with (first | (with_reducible refine wl_ld rfl _ 70 rfl _ rfl ?_) | (with_reducible refine wl_stAgg rfl _ _ _ rfl _ _ rfl rfl ?_))
          refine rg_ld (hX6) Tryz.underlying70 rfl (by kernel_rfl) ?_
          go_wp2_with (with_reducible refine wl_stAgg rfl _ _ _ rfl _ _ rfl rfl ?_)
          refine rg_stAgg (hR6) (by kernel_rfl) (by rfl) im0C_one ?_
          intro wf hBf hkf _
          go_wp2_with fail
          refine ret_blk_tmp rfl rfl hBf Tryz.underlying70 rfl (by kernel_rfl) rfl ?_
          exact ⟨im0C, rfl, rfl, im0C_one, (hk06).trans hkf (fun j hj e => by have e2 : j = w.heap.size := e; omega), fun q => absurd q (by first | assumption | omega | decide)⟩
    · have gh : ((he : Int) != 0) = true := by rw [bne_iff_ne]; omega
      have hr := HR1.out
      rw [if_pos hhe] at hr
      subst hr
      go_wp2_with (first | (with_reducible refine wl_ld rfl _ 70 rfl _ rfl ?_) | (with_reducible refine wl_stAgg rfl _ _ _ rfl _ _ rfl rfl ?_))
      refine rg_ld (hX5) Tryz.underlying70 rfl (by kernel_rfl) ?_
      go_wp2_with (with_reducible refine wl_stAgg rfl _ _ _ rfl _ _ rfl rfl ?_)
      refine rg_stAgg (hR5) (by kernel_rfl) (by rfl) im0C_one ?_
      intro wf hBf hkf _
      go_wp2_with fail
      refine ret_blk_tmp rfl rfl hBf Tryz.underlying70 rfl (by kernel_rfl) rfl ?_
      exact ⟨im0C, rfl, rfl, im0C_one, (hk05).trans hkf (fun j hj e => by have e2 : j = w.heap.size := e; omega), fun q => absurd q (by first | assumption | omega | decide)⟩
set_option maxRecDepth 100000 in
set_option maxHeartbeats 1000000 in
/-- the document's Parse -/
theorem r09parse_any (b : BS) (hb : Bts A w v b) (hbl : b.length ≤ 1000000000) :
    Calls Tryz.prog 18 #[v] w fun e w' => ∃ cs : List Value, e = .returned (.tuple #[.agg cs.toArray, .int .i64 ((parseM b).1 : Nat)]) ∧ cs.toArray.all (·.oneCell') = true ∧ ImR (fun k => w.heap.size ≤ k ∨ A k) w' cs (parseM b).2 ∧ Keep No w w' := by
  have hb2 : Bts (fun k => A k ∧ k < w.heap.size) w v b := Sl.mono hb fun k hk ha => ⟨ha, hk⟩
  have hp := fun W (k : Keep No w W) => r09parse1_any (w := W) b (Sl.keep hb2 k fun _ _ _ h => h) hbl
  have him := fun q : (parseM b).1 ≠ 0 => parseM_bad b q
  obtain ⟨a6, p6, rfl, _, _⟩ := hb.shape
  generalize parseM b = r at *
  obtain ⟨re, rm⟩ := r
  have HP := Lib.hid hp
  have HIM := Lib.hid him
  clear hp him hb hb2
  go_enter Tryz.func18, Tryz.ntmps18
  go_wp2_with fail
  have hkW1 : Keep No w (w.alloc (.cells #[.int .i64 0, .int .u64 0, .int .u64 0, .int .i64 0, .slice none 0 0, .string ⟨#[]⟩, .slice none 0 0, .slice none 0 0, .slice none 0 0, .slice none 0 0, .slice none 0 0] 70)) := (Keep.refl _ _).alloc _
  have hBW1 : Blk (w.alloc (.cells #[.int .i64 0, .int .u64 0, .int .u64 0, .int .i64 0, .slice none 0 0, .string ⟨#[]⟩, .slice none 0 0, .slice none 0 0, .slice none 0 0, .slice none 0 0, .slice none 0 0] 70)) w.heap.size #[.int .i64 0, .int .u64 0, .int .u64 0, .int .i64 0, .slice none 0 0, .string ⟨#[]⟩, .slice none 0 0, .slice none 0 0, .slice none 0 0, .slice none 0 0, .slice none 0 0] 70 := Blk.new _ _ _
  have hzW1 : (w.alloc (.cells #[.int .i64 0, .int .u64 0, .int .u64 0, .int .i64 0, .slice none 0 0, .string ⟨#[]⟩, .slice none 0 0, .slice none 0 0, .slice none 0 0, .slice none 0 0, .slice none 0 0] 70)).heap.size = w.heap.size + 1 := World.size_alloc _ _
  generalize w.alloc (.cells #[.int .i64 0, .int .u64 0, .int .u64 0, .int .i64 0, .slice none 0 0, .string ⟨#[]⟩, .slice none 0 0, .slice none 0 0, .slice none 0 0, .slice none 0 0, .slice none 0 0] 70) = W1 at *
  refine (HP.out W1 hkW1).mono ?_
  rintro e w2 ⟨cs, rfl, hcl, hco, hk2, hcx⟩
  have hR2 := hBW1.keep hk2 fun h => h
  have hk02 := hkW1.trans' hk2
  have hsz : cs.toArray.size = 11 := by rw [List.size_toArray]; exact hcl
  have hs2 := hk2.size
  dsimp only at hcx
  go_wp2_with (with_reducible refine wl_stAgg rfl _ _ _ rfl _ _ rfl rfl ?_)
  have hkW3 : Keep No w2 (w2.alloc (.cells #[.int .i64 0, .int .u64 0, .int .u64 0, .int .i64 0, .slice none 0 0, .string ⟨#[]⟩, .slice none 0 0, .slice none 0 0, .slice none 0 0, .slice none 0 0, .slice none 0 0] 70)) := (Keep.refl _ _).alloc _
  have hBW3 : Blk (w2.alloc (.cells #[.int .i64 0, .int .u64 0, .int .u64 0, .int .i64 0, .slice none 0 0, .string ⟨#[]⟩, .slice none 0 0, .slice none 0 0, .slice none 0 0, .slice none 0 0, .slice none 0 0] 70)) w2.heap.size #[.int .i64 0, .int .u64 0, .int .u64 0, .int .i64 0, .slice none 0 0, .string ⟨#[]⟩, .slice none 0 0, .slice none 0 0, .slice none 0 0, .slice none 0 0, .slice none 0 0] 70 := Blk.new _ _ _
  have hzW3 : (w2.alloc (.cells #[.int .i64 0, .int .u64 0, .int .u64 0, .int .i64 0, .slice none 0 0, .string ⟨#[]⟩, .slice none 0 0, .slice none 0 0, .slice none 0 0, .slice none 0 0, .slice none 0 0] 70)).heap.size = w2.heap.size + 1 := World.size_alloc _ _
  generalize w2.alloc (.cells #[.int .i64 0, .int .u64 0, .int .u64 0, .int .i64 0, .slice none 0 0, .string ⟨#[]⟩, .slice none 0 0, .slice none 0 0, .slice none 0 0, .slice none 0 0, .slice none 0 0] 70) = W3 at *
  refine rg_stAgg hBW3 (by rw [hsz]; kernel_rfl) (by rw [hsz]; rfl) hco ?_
  intro w4 hY4 hk4 hz4
  have hk24 : Keep (fun j => j = w2.heap.size) w2 w4 := (hkW3.mono fun _ _ h => h.elim).trans' hk4
  have hR4 := hR2.keep hk24 fun e => by have e2 : w.heap.size = w2.heap.size := e; omega
  have hk04 : Keep No w w4 := hk02.trans hk24 fun j hj e => by have e2 : j = w2.heap.size := e; omega
  have hneY : w2.heap.size ≠ w.heap.size := by omega
  by_cases hre : re = 0
  · subst hre
    have him := hcx rfl
    go_wp2_with (first | (with_reducible refine wl_ld rfl _ 70 rfl _ rfl ?_) | (with_reducible refine wl_stAgg rfl _ _ _ rfl _ _ rfl rfl ?_))
    refine rg_ld hY4 Tryz.underlying70 rfl (by rw [hsz]; kernel_rfl) ?_
    go_wp2_with (with_reducible refine wl_stAgg rfl _ _ _ rfl _ _ rfl rfl ?_)
    refine rg_stAgg hR4 (by rw [hsz]; kernel_rfl) (by rw [hsz]; rfl) hco ?_
    intro wf hBf hkf _
    go_wp2_with fail
    refine ret_blk_tmp rfl rfl hBf Tryz.underlying70 rfl (by rw [hsz]; kernel_rfl) rfl ?_
    refine ⟨cs, rfl, hco, ?_, hk04.trans hkf (fun j hj e => by have e2 : j = w.heap.size := e; omega)⟩
    have hk2f : Keep (fun j => j = w2.heap.size ∨ j = w.heap.size) w2 wf := (hk24.mono fun _ _ h => .inl h).trans' (hkf.mono fun _ _ h => .inr h)
    exact ((him.keep hk2f fun j hj ha e => by
      have e2 : j = w2.heap.size ∨ j = w.heap.size := e
      rcases ha with ha | ha
      · omega
      · have := ha.2; omega)).mono fun j _ ha => by
      rcases ha with ha | ha
      · exact .inl (by omega)
      · exact .inr ha.1
  · have gn : ((re : Int) != 0) = true := by rw [bne_iff_ne]; omega
    obtain rfl : rm = im0 := HIM.out hre
    go_wp2_with (first | (with_reducible refine wl_build rfl 70 _ rfl ?_) | (with_reducible refine wl_stAgg rfl _ _ _ rfl _ _ rfl rfl ?_))
    refine rg_build (cells := im0C.toArray) (by kernel_rfl) ?_
    go_wp2_with (with_reducible refine wl_stAgg rfl _ _ _ rfl _ _ rfl rfl ?_)
    refine rg_stAgg hR4 (by kernel_rfl) (by rfl) im0C_one ?_
    intro wf hBf hkf _
    go_wp2_with fail
    refine ret_blk_tmp rfl rfl hBf Tryz.underlying70 rfl (by kernel_rfl) rfl ?_
    exact ⟨im0C, rfl, im0C_one, ImR.zero, hk04.trans hkf (fun j hj e => by have e2 : j = w.heap.size := e; omega)⟩
end
end Go.Proofs.YtbnahidopemkiaaGreat
