/- The document's image: what the entries say: symbols and their names. No condition. -/
import Derived.Test.YtbnahidopemkiaaGreatDzG
import Derived.Test.YtbnahidopemkiaaGreatDz8
import Derived.Test.YtbnahidopemkiaaGreatIm5
set_option linter.unusedVariables false
set_option linter.unusedSimpArgs false
namespace Go.Dm.Ld
open Go Go.Dm.Oc
/-- symbols, then relocations -/
def finS (so : BS) (need : List BS) (b : BS) (l : List Sg) (d : Dy) (t : BS) : Nat × Nx :=
  if (symsM b l d t).1 ≠ 0 then ((symsM b l d t).1, nx0) else finR ⟨so, need, (symsM b l d t).2.2, (symsM b l d t).2.1, []⟩ (relsM b l d (symsM b l d t).2.1.length)
/-- the same, behind the symbols' table -/
def finN (so : BS) (need : List BS) (b : BS) (l : List Sg) (d : Dy) (sl : List Sy) (nm : Nat × List BS) : Nat × Nx :=
  if nm.1 ≠ 0 then (nm.1, nx0) else finR ⟨so, need, nm.2, sl, []⟩ (relsM b l d sl.length)
theorem finS_eq (so : BS) (need : List BS) (b : BS) (l : List Sg) (d : Dy) (t : BS) : finS so need b l d t =
    if 1024 < d.v.getD 4 0 then (13, nx0)
    else if d.v.getD 4 0 = 0 then finR ⟨so, need, [], [], []⟩ (relsM b l d 0)
    else if (atI b l (d.v.getD 3 0) (24 * d.v.getD 4 0)).1 ≠ 0 then ((atI b l (d.v.getD 3 0) (24 * d.v.getD 4 0)).1, nx0)
    else if chkS (syTab (atI b l (d.v.getD 3 0) (24 * d.v.getD 4 0)).2).2 ≠ 0 then (11, nx0)
    else finN so need b l d (syTab (atI b l (d.v.getD 3 0) (24 * d.v.getD 4 0)).2).2 (nmGo t (syTab (atI b l (d.v.getD 3 0) (24 * d.v.getD 4 0)).2).2 []) := by
  have h : symsM b l d t = if 1024 < d.v.getD 4 0 then (13, [], [])
    else if d.v.getD 4 0 = 0 then (0, [], [])
    else if (atI b l (d.v.getD 3 0) (24 * d.v.getD 4 0)).1 ≠ 0 then ((atI b l (d.v.getD 3 0) (24 * d.v.getD 4 0)).1, [], [])
    else if chkS (syTab (atI b l (d.v.getD 3 0) (24 * d.v.getD 4 0)).2).2 ≠ 0 then (chkS (syTab (atI b l (d.v.getD 3 0) (24 * d.v.getD 4 0)).2).2, [], [])
    else if (nmGo t (syTab (atI b l (d.v.getD 3 0) (24 * d.v.getD 4 0)).2).2 []).1 ≠ 0 then ((nmGo t (syTab (atI b l (d.v.getD 3 0) (24 * d.v.getD 4 0)).2).2 []).1, [], [])
    else (0, (syTab (atI b l (d.v.getD 3 0) (24 * d.v.getD 4 0)).2).2, (nmGo t (syTab (atI b l (d.v.getD 3 0) (24 * d.v.getD 4 0)).2).2 []).2) := rfl
  have h11 : ∀ q : List Sy, chkS q ≠ 0 → chkS q = 11 := fun q hq => by
    cases q with
    | nil => exact absurd rfl hq
    | cons s r =>
      have e : chkS (s :: r) = if s = sy0 ∧ r.all mayS = true then 0 else 11 := rfl
      rw [e] at hq ⊢
      by_cases hc : s = sy0 ∧ r.all mayS = true
      · rw [if_pos hc] at hq; exact absurd rfl hq
      · rw [if_neg hc]
  unfold finS
  rw [h]
  generalize atI b l (d.v.getD 3 0) (24 * d.v.getD 4 0) = c
  generalize (syTab c.2).2 = sl
  unfold finN
  by_cases h1 : 1024 < d.v.getD 4 0
  · simp only [if_pos h1]; rfl
  · simp only [if_neg h1]
    by_cases h2 : d.v.getD 4 0 = 0
    · simp only [if_pos h2]; rfl
    · simp only [if_neg h2]
      by_cases h3 : c.1 ≠ 0
      · simp only [if_pos h3]
      · simp only [if_neg h3]
        by_cases h4 : chkS sl ≠ 0
        · simp only [if_pos h4, h11 sl h4]; rfl
        · simp only [if_neg h4]
          generalize nmGo t sl [] = nm
          by_cases h5 : nm.1 ≠ 0
          · simp only [if_pos h5]
          · simp only [if_neg h5]; rfl
end Go.Dm.Ld
namespace Go.Proofs.YtbnahidopemkiaaGreat
open Go.RowKit Go.Dm Go.Dm.Oc Go.Dm.Ld
section
variable {A : Nat → Prop} {w : World} {v : Value}
section
variable {z0 z1 z2 z3 z4 z5 z6 z7 z8 z9 z10 z11 z12 z13 z14 z15 z16 z17 z18 z19 z20 z21 z22 z23 z24 z25 z26 z27 z28 z29 z30 z31 z32 z33 z34 z35 z36 z37 z38 z39 z40 z41 z42 z43 z44 z45 z46 z47 z48 z49 z50 z51 z52 z53 z54 z55 z56 z57 z58 z59 z60 z61 z62 z63 z64 z65 z66 z67 z68 z69 z70 z71 z72 z73 z74 z75 z76 z77 z78 z79 z80 z81 z82 z83 z84 z85 z86 z87 z88 z89 z90 z91 z92 z93 z94 z95 z96 z97 z98 z99 z100 z101 z102 z103 z104 z105 z106 z107 z108 z109 z110 z111 z112 z113 z114 z115 z116 z117 z118 z119 z120 z121 z122 z123 z124 z125 z126 z127 z128 z129 z130 z131 z132 z133 z134 z135 z136 z137 z138 z139 z140 z141 z142 z143 z144 z145 z146 z147 z148 z149 z150 z151 z152 z153 z154 z155 z156 z157 z158 z159 z160 z161 z162 z163 z164 z165 z166 z167 z168 z169 z170 z171 z172 z173 z174 z175 z176 z177 z178 z179 z180 z181 z182 z183 z184 z185 z186 z187 z188 z189 z190 z191 z192 z193 z194 z195 z196 z197 z198 z199 z200 z201 z202 z203 z204 z205 z206 z207 z208 z209 z210 z211 z212 z213 z214 z215 z216 z217 z218 z219 z220 z221 z222 z223 z224 z225 z226 z227 z228 z229 z230 : Value}
set_option maxRecDepth 100000 in
set_option maxHeartbeats 6000000 in
theorem named_b {db gv : Nat} {h : Hd} {so : BS} {vs vn vb vneed vt : Value} {V nd : List Nat} {l : List Sg} {b t : BS} {need : List BS} {r : Nat × Nx} {w0 : World}
    (hX : Blk w0 w.heap.size (imC h vs so vn (.slice none 0 0) (.slice none 0 0) (.slice none 0 0) vb).toArray 70) (hR : Blk w0 (w.heap.size + 2) im0C.toArray 70)
    (hD : Blk w0 db #[vneed, .slice (some ⟨gv, 0, none⟩) 7 7] 121) (hV : Blk w0 gv (nums7 V) 44) (hV7 : V.length = 7) (hVl : ∀ x ∈ V, x < 18446744073709551616)
    (hs : Fl A w 7 encSg vs l) (hb : Bts A w vb b) (hbl : b.length ≤ 65536) (hok : ∀ x ∈ l, SgOk x) (hok2 : ∀ x ∈ l, x.ty = 1 → x.off + x.fi < 18446744073709551616)
    (hn : Fl (fun k => w.heap.size + 3 ≤ k) w0 1 encS vn need) (ht : Bts (fun k => w.heap.size + 3 ≤ k) w0 vt t) (htl : t.length ≤ 65536)
    (hr : r = finS so need b l ⟨nd, V⟩ t) (hk : Keep No w w0) (hw3 : w.heap.size + 3 ≤ w0.heap.size) (hdb : w.heap.size + 3 ≤ db) (hgv : w.heap.size + 3 ≤ gv) :
    Code.wp Tryz.prog (bodyFrom Tryz.f65 24) (bodyPost Tryz.prog Tryz.f65 (NmP w h vs vb r)) ⟨#[z0, z1, .pointer (some ⟨w.heap.size, 0, none⟩), z3, .pointer (some ⟨w.heap.size + 2, 0, none⟩), z5, z6, z7, .pointer (some ⟨db, 0, none⟩), z9, vt, z11, z12, z13, z14, z15, z16, z17, z18, z19, z20, z21, z22, z23, z24, z25, z26, z27, z28, z29, z30, z31, z32, z33, z34, z35, z36, z37, z38, z39, z40, z41, z42, z43, z44, z45, z46, z47, z48, z49, z50, z51, z52, z53, z54, z55, z56, z57, z58, z59, z60, z61, z62, z63, z64, z65, z66, z67, z68, z69, z70, z71, z72, z73, z74, z75, z76, z77, z78, z79, z80, z81, z82, z83, z84, z85, z86, z87, z88, z89, z90, z91, z92, z93, z94, z95, z96, z97, z98, z99, z100, z101, z102, z103, z104, z105, z106, z107, z108, z109, z110, z111, z112, z113, z114, z115, z116, z117, z118, z119, z120, z121, z122, z123, z124, z125, z126, z127, z128, z129, z130, z131, z132, z133, z134, z135, z136, z137, z138, z139, z140, z141, z142, z143, z144, z145, z146, z147, z148, z149, z150, z151, z152, z153, z154, z155, z156, z157, z158, z159, z160, z161, z162, z163, z164, z165, z166, z167, z168, z169, z170, z171, z172, z173, z174, z175, z176, z177, z178, z179, z180, z181, z182, z183, z184, z185, z186, z187, z188, z189, z190, z191, z192, z193, z194, z195, z196, z197, z198, z199, z200, z201, z202, z203, z204, z205, z206, z207, z208, z209, z210, z211, z212, z213, z214, z215, z216, z217, z218, z219, z220, z221, z222, z223, z224, z225, z226, z227, z228, z229, z230], []⟩ w0 := by
  have HC := Lib.hid (And.intro hs (And.intro hb (And.intro hok (And.intro hok2 hVl))))
  have hby := fun W (k : Keep No w W) (addr size : Nat) (h1 : addr < 18446744073709551616) (h2 : size < 18446744073709551616) => r09bytes_any (w := W) h vs so vn (.slice none 0 0) (.slice none 0 0) (.slice none 0 0) vb l b addr size (hs.no k) (Sl.keep hb k fun _ _ _ h => h) (by omega) hok hok2 h1 h2
  have HBY := Lib.hid hby
  have l3 : V.getD 3 0 < 18446744073709551616 := hVl _ (by rw [List.getD_eq_getElem?_getD, List.getElem?_eq_getElem (by omega : 3 < V.length)]; exact List.getElem_mem _)
  have l4 : V.getD 4 0 < 18446744073709551616 := hVl _ (by rw [List.getD_eq_getElem?_getD, List.getElem?_eq_getElem (by omega : 4 < V.length)]; exact List.getElem_mem _)
  have c3 := (hV.cell 3).trans (nums7_at (by omega))
  have c4 := (hV.cell 4).trans (nums7_at (by omega))
  have cd : w0.cell? ⟨db, 1, none⟩ = some (.slice (some ⟨gv, 0, none⟩) 7 7) := hD.cell 1
  rw [finS_eq] at hr
  dsimp only at hr
  have hal := atI_len b l (V.getD 3 0) (24 * V.getD 4 0)
  have hbc := fun W (k : Keep No w W) (q : V.getD 4 0 ≤ 1024) => HBY.out W k (V.getD 3 0) (24 * V.getD 4 0) l3 (by omega)
  generalize V.getD 3 0 = v3 at *
  generalize V.getD 4 0 = v4 at *
  generalize atI b l v3 (24 * v4) = c at *
  have HR := Lib.hid hr
  have HBC := Lib.hid hbc
  obtain ⟨a1, p1, rfl, _, _⟩ := hs.shape
  obtain ⟨a2, p2, rfl, _, _⟩ := hn.shape
  obtain ⟨a5, p5, rfl, _, _⟩ := Sl.shape ht
  obtain ⟨a6, p6, rfl, _, _⟩ := Sl.shape hb
  clear hr hbc HBY hby hs hb hVl hok hok2
  conv => arg 2; whnf
  rcases Nat.lt_or_ge 1024 v4 with h6 | h6
  · have g6 : (1024 : Int) < (v4 : Int) := by omega
    have hr := HR.out
    rw [if_pos h6] at hr
    have hr : r = (13, nx0) := hr
    subst hr
    clear h6
    go_wp2_with (first | (with_reducible refine wl_ld rfl _ 70 rfl _ rfl ?_) | (with_reducible refine wl_stAgg rfl _ _ _ rfl _ _ rfl rfl ?_))
    refine rg_ld (hX) Tryz.underlying70 rfl (by kernel_rfl) ?_
    go_wp2_with (with_reducible refine wl_stAgg rfl _ _ _ rfl _ _ rfl rfl ?_)
    refine rg_stAgg (hR) (by kernel_rfl) (by rfl) imC_one ?_
    intro wf hBf hkf _
    go_wp2_with fail
    refine ret_blk_tmp rfl rfl hBf Tryz.underlying70 rfl (by kernel_rfl) rfl ?_
    exact ⟨_, rfl, rfl, imC_one, (hk).trans hkf (fun j hj e => by have e2 : j = w.heap.size + 2 := e; omega), fun q => absurd q (by first | assumption | omega | decide)⟩
  · have hr := HR.out
    rw [if_neg (by omega)] at hr
    have g6 : (v4 : Int) ≤ 1024 := by omega
    have HR1 := Lib.hid hr
    clear hr HR
    go_upto_if 126 with fail
    go_cut [17, 18, 19, 20, 21] from 22 (fun _ _ _ _ _ wc => ∃ (vm vy : Value) (names : List BS) (syms : List Sy), r = finR ⟨so, need, names, syms, []⟩ (relsM b l ⟨nd, V⟩ syms.length) ∧ Blk wc w.heap.size (imC h (.slice a1 l.length p1) so (.slice a2 need.length p2) vm vy (.slice none 0 0) (.slice a6 b.length p6)).toArray 70 ∧ Keep (fun k => k = w.heap.size) w0 wc ∧
      Fl (fun k => w.heap.size + 3 ≤ k) wc 1 encS vm names ∧ Fl (fun k => w.heap.size + 3 ≤ k) wc 6 encSy vy syms ∧ syms.length ≤ 1000000)
    case rest =>
      obtain ⟨vm, vy, names, syms, hr, hX2, hk2, hm2, hy2, hsl⟩ := hcut
      obtain ⟨hs, hb, hok, hok2, hVl⟩ := HC.out
      have hR2 := hR.keep hk2 fun e => by have e2 : w.heap.size + 2 = w.heap.size := e; omega
      have hD2 := hD.keep hk2 fun e => by have e2 : db = w.heap.size := e; omega
      have hV2 := hV.keep hk2 fun e => by have e2 : gv = w.heap.size := e; omega
      have hn2 := hn.keep hk2 fun j _ ha e => by have e2 : j = w.heap.size := e; omega
      have hkw2 : Keep No w wc := hk.trans hk2 fun j hj e => by have e2 : j = w.heap.size := e; omega
      refine use_k (by assumption) ?_
      exact named_c (A := A) hX2 hR2 hD2 hV2 hV7 hVl hs hb hbl hok hok2 hn2 hm2 hy2 hsl hr hkw2 (Nat.le_trans hw3 hk2.size) hdb hgv
    case first =>
      by_cases h0 : v4 = 0
      · have hr := HR1.out
        rw [if_pos h0] at hr
        subst h0
        go_wp2_with fail
        go_meet
        exact ⟨_, _, [], [], hr, hX, Keep.refl _ _, Fl.nil, Fl.nil, Nat.zero_le _⟩
      · have hr := HR1.out
        rw [if_neg h0] at hr
        have g0 : (0 : Int) < (v4 : Int) := by omega
        have HR2 := Lib.hid hr
        obtain ⟨m24, hm24⟩ : ∃ q, q = 24 * v4 := ⟨_, rfl⟩
        have w24 : IntKind.u64.wrap (24 * (v4 : Int)) = (m24 : Int) := by rw [IntKind.wrap_u64]; omega
        have hBC := fun W k => HBC.out W k h6
        rw [← hm24] at hBC
        have HBC2 := Lib.hid hBC
        have hkd := hk.drew
        have hSS : ∀ W, Keep No w0 W → Blk W w.heap.size (imC h (.slice a1 l.length p1) so (.slice a2 need.length p2) (.slice none 0 0) (.slice none 0 0) (.slice none 0 0) (.slice a6 b.length p6)).toArray 70 ∧ W.cell? ⟨db, 1, none⟩ = some (.slice (some ⟨gv, 0, none⟩) 7 7) ∧ W.cell? ⟨gv, 3, none⟩ = some (.int .u64 (v3 : Int)) ∧ W.cell? ⟨gv, 4, none⟩ = some (.int .u64 (v4 : Int)) := fun W k =>
          ⟨hX.keep k fun h => h, (k.cell (p := ⟨db, 1, none⟩) hD.lt fun h => h).trans cd, (k.cell (p := ⟨gv, 3, none⟩) hV.lt fun h => h).trans c3, (k.cell (p := ⟨gv, 4, none⟩) hV.lt fun h => h).trans c4⟩
        have HSS := Lib.hid hSS
        clear hr HR1 h0 h6 hSS HBC hBC hm24
        go_upto_region 27 with fail
        refine wp_region_sig (fun W => Blk W w.heap.size (imC h (.slice a1 l.length p1) so (.slice a2 need.length p2) (.slice none 0 0) (.slice none 0 0) (.slice none 0 0) (.slice a6 b.length p6)).toArray 70 ∧ W.cell? ⟨db, 1, none⟩ = some (.slice (some ⟨gv, 0, none⟩) 7 7) ∧ W.cell? ⟨gv, 3, none⟩ = some (.int .u64 (v3 : Int)) ∧ W.cell? ⟨gv, 4, none⟩ = some (.int .u64 (v4 : Int))) (fun j => decide (j ≤ 99)) [(0, true), (1, true), (2, true), (3, true), (4, true), (5, true), (6, true), (7, true), (8, true), (9, true), (10, false), (11, true), (12, true), (13, true), (14, true), (15, true)] (by kernel_rfl) (by kernel_rfl) (by intro c a d v w h; cases d <;> exact h) (HSS.out _ (Keep.refl _ _).drew) ?_
        apply sig_still (o := ⟨some 128, _, _, _, _, _⟩) rfl rfl
        · intro w' hS
          exact run_ldo _ _ rfl w.heap.size 0 rfl (run_loadVar_row w' w.heap.size 70 70 _ _ _ hS.1 Tryz.underlying70 rfl (by kernel_rfl))
        go_frame
        apply sig_still (o := ⟨some 129, _, _, _, _, _⟩) rfl rfl
        · intro w' hS
          obtain ⟨q1, q2, q3, q4⟩ := hS
          first | (go_simp; done) | (go_simp; rfl) | rfl
        go_frame
        apply sig_still (o := ⟨some 130, _, _, _, _, _⟩) rfl rfl
        · intro w' hS
          obtain ⟨q1, q2, q3, q4⟩ := hS
          first | (go_simp; done) | (go_simp; rfl) | rfl
        go_frame
        apply sig_still (o := ⟨some 131, _, _, _, _, _⟩) rfl rfl
        · intro w' hS
          obtain ⟨q1, q2, q3, q4⟩ := hS
          first | (go_simp; done) | (go_simp; rfl) | rfl
        go_frame
        apply sig_still (o := ⟨some 132, _, _, _, _, _⟩) rfl rfl
        · intro w' hS
          obtain ⟨q1, q2, q3, q4⟩ := hS
          first | (go_simp; done) | (go_simp; rfl) | rfl
        go_frame
        apply sig_still (o := ⟨some 133, _, _, _, _, _⟩) rfl rfl
        · intro w' hS
          obtain ⟨q1, q2, q3, q4⟩ := hS
          first | (go_simp; done) | (go_simp; rfl) | rfl
        go_frame
        apply sig_still (o := ⟨some 134, _, _, _, _, _⟩) rfl rfl
        · intro w' hS
          obtain ⟨q1, q2, q3, q4⟩ := hS
          first | (go_simp; done) | (go_simp; rfl) | rfl
        go_frame
        apply sig_still (o := ⟨some 135, _, _, _, _, _⟩) rfl rfl
        · intro w' hS
          obtain ⟨q1, q2, q3, q4⟩ := hS
          first | (go_simp; done) | (go_simp; rfl) | rfl
        go_frame
        apply sig_still (o := ⟨some 136, _, _, _, _, _⟩) rfl rfl
        · intro w' hS
          obtain ⟨q1, q2, q3, q4⟩ := hS
          first | (go_simp; done) | (go_simp; rfl) | rfl
        go_frame
        apply sig_still (o := ⟨some 137, _, _, _, _, _⟩) rfl rfl
        · intro w' hS
          obtain ⟨q1, q2, q3, q4⟩ := hS
          first | (go_simp; done) | (go_simp; rfl) | rfl
        go_frame
        refine sig_eff (o := ⟨some 138, _, _, _, _, _⟩) rfl rfl (fun K hKe => ?_)
        go_wp2_with fail
        refine (HBC2.out _ hkd).mono ?_
        rintro e w3 ⟨v3', rfl, h3, hk3⟩
        have hk03 : Keep No w0 w3 := ((Keep.refl No w0).drew).trans' hk3
        refine hKe _ _ ⟨fun _ => HSS.out _ hk03, ?_⟩
        apply sig_still (o := ⟨some 127, _, _, _, _, _⟩) rfl rfl
        · intro w' hS
          obtain ⟨q1, q2, q3, q4⟩ := hS
          first | (go_simp; done) | (go_simp; rfl) | rfl
        go_frame
        apply sig_still (o := ⟨some 139, _, _, _, _, _⟩) rfl rfl
        · intro w' hS
          obtain ⟨q1, q2, q3, q4⟩ := hS
          first | (go_simp; done) | (go_simp; rfl) | rfl
        go_frame
        apply sig_still (o := ⟨some 140, _, _, _, _, _⟩) rfl rfl
        · intro w' hS
          obtain ⟨q1, q2, q3, q4⟩ := hS
          first | (go_simp; done) | (go_simp; rfl) | rfl
        go_frame
        apply sig_still (o := ⟨some 17, _, _, _, _, _⟩) rfl rfl
        · intro w' hS
          obtain ⟨q1, q2, q3, q4⟩ := hS
          first | (go_simp; done) | (go_simp; rfl) | rfl
        go_frame
        apply sig_still (o := ⟨some 18, _, _, _, _, _⟩) rfl rfl
        · intro w' hS
          obtain ⟨q1, q2, q3, q4⟩ := hS
          first | (go_simp; done) | (go_simp; rfl) | rfl
        go_frame
        refine sig_nil ?_
        have hX3 := hX.keep hk03 fun h => h
        have hR3 := hR.keep hk03 fun h => h
        have ht3 := Sl.keep ht hk03 fun _ _ _ h => h
        have hkw3 := hk.trans' hk03
        have hw33 := Nat.le_trans hw3 hk03.size
        obtain ⟨ce, cb⟩ := c
        dsimp only at h3 HR2 hal
        obtain ⟨av, nv, cv, rfl⟩ : ∃ a n c, v3' = .slice a n c := by
          obtain ⟨a, c, e, _⟩ := h3.fl.shape
          exact ⟨_, _, _, e⟩
        clear hX hkd HSS hk3 hKe HBC2 c3 c4 cd
        by_cases hce : ce = 0
        · subst hce
          have hr := HR2.out
          rw [if_neg (by decide)] at hr
          have HR3 := Lib.hid hr
          clear hr HR2
          have hbc := fl_btsN h3.fl
          have htab := r06tab_any cb hbc (by omega)
          have hsy := syTab_ok cb
          have hsl := syTab_len cb
          generalize syTab cb = rt at *
          obtain ⟨re, sl⟩ := rt
          dsimp only at htab HR3 hsy hsl
          go_wp2_with fail
          refine htab.mono ?_
          clear htab
          rintro e w4 ⟨v4', rfl, h4, hk4⟩
          obtain ⟨ar, nr, cr, rfl⟩ : ∃ a n c, v4' = .slice a n c := by
            obtain ⟨a, c, e, _⟩ := h4.fl.shape
            exact ⟨_, _, _, e⟩
          obtain rfl := fl_len h4.fl
          have hX4 := hX3.keep hk4 fun h => h
          have hR4 := hR3.keep hk4 fun h => h
          have ht4 := Sl.keep ht3 hk4 fun _ _ _ h => h
          have hk04 := hk03.trans' hk4
          have hkw4 := hkw3.trans' hk4
          have hw44 := Nat.le_trans hw33 hk4.size
          have hy4 : Fl (fun k => w.heap.size + 3 ≤ k) w4 6 encSy (.slice ar sl.length cr) sl := (h4.fl).mono fun j _ ha => Nat.le_trans hw33 ha.1
          have x8 := hX4.cell 8
          have f8 := hX4.frozen 8
          have hX5 : Blk (w4.setCell ⟨w.heap.size, 8, none⟩ (.slice ar sl.length cr)) w.heap.size (imC h (.slice a1 l.length p1) so (.slice a2 need.length p2) (.slice none 0 0) (.slice ar sl.length cr) (.slice none 0 0) (.slice a6 b.length p6)).toArray 70 := hX4.set (i := 8) (.slice ar sl.length cr)
          have hk5 : Keep (fun j => j = w.heap.size) w4 (w4.setCell ⟨w.heap.size, 8, none⟩ (.slice ar sl.length cr)) := (Keep.refl (fun j => j = w.heap.size) w4).setCell (p := ⟨w.heap.size, 8, none⟩) (fun _ => rfl) _
          have hne5 : ∀ j, j < w4.heap.size → w.heap.size + 3 ≤ j → ¬ j = w.heap.size := fun j _ ha e => by omega
          have hR5 := hR4.keep hk5 fun e => by have e2 : w.heap.size + 2 = w.heap.size := e; omega
          have hy5 := hy4.keep hk5 hne5
          have ht5 := Sl.keep ht4 hk5 hne5
          have hk05 : Keep (fun j => j = w.heap.size) w0 _ := (hk04.mono fun _ _ h => h.elim).trans' hk5
          have hkw5 : Keep No w _ := hkw4.trans hk5 fun j hj e => by have e2 : j = w.heap.size := e; omega
          have hw55 := Nat.le_trans hw44 hk5.size
          have HA5 := Lib.hid (And.intro hX5 (And.intro hR5 (And.intro hy5 (And.intro ht5 (And.intro hk05 (And.intro hkw5 hw55))))))
          clear hX3 hR3 ht3 h3 hk4 hbc h4 hX4 hR4 ht4 hX5 hR5 hy5 ht5 hk05 hkw5 hw55 hk5 hne5 hk04 hkw4 hw44 hy4
          go_wp2_with fail
          obtain ⟨hX5, hR5, hy5, ht5, hk05, hkw5, hw55⟩ := HA5.out
          generalize w4.setCell ⟨w.heap.size, 8, none⟩ (.slice ar sl.length cr) = w5 at *
          clear HA5 x8 f8
          have hchk := r06chk_any (w := w5) sl hy5 hsy
          rw [show chkSG sl 0 = chkS sl from rfl] at hchk
          have x8 : w5.cell? ⟨w.heap.size, 8, none⟩ = some (.slice ar sl.length cr) := hX5.cell 8
          generalize chkS sl = cs at *
          go_wp2_with fail
          refine hchk.mono ?_
          clear hchk
          rintro e w6 ⟨rfl, hk6⟩
          have hX6 := hX5.keep hk6 fun h => h
          have hR6 := hR5.keep hk6 fun h => h
          have hy6 := hy5.no hk6
          have ht6 := Sl.keep ht5 hk6 fun _ _ _ h => h
          have hk06 : Keep (fun j => j = w.heap.size) w0 w6 := hk05.trans hk6 fun _ _ h => h.elim
          have hkw6 := hkw5.trans' hk6
          have hw66 := Nat.le_trans hw55 hk6.size
          clear hX5 hR5 hy5 ht5 hk05 hkw5 hk6 x8
          by_cases hcs : cs = 0
          · subst hcs
            have hr := HR3.out
            rw [if_neg (by decide)] at hr
            obtain ⟨nm, hnm⟩ : ∃ q, q = nmGo t sl [] := ⟨_, rfl⟩
            rw [← hnm] at hr
            have HR4 := Lib.hid hr
            have hsln : sl.length ≤ 1000000 := by omega
            have HSY := Lib.hid hsy
            have H0 : Hid (nm = nmGo t (sl.drop 0) []) := Lib.hid hnm
            clear hr HR3 hsy hnm
            have hXl := hX6.lt
            obtain ⟨n, hn1⟩ : ∃ n, n = sl.length := ⟨_, rfl⟩
            have HN := Lib.hid hn1
            rw [← hn1] at hX6 hy6 hsln ⊢
            clear hn1
            go_wp2_with fail
            go_loopw [19, 20, 21] (fun iv _ _ wr => ∃ (i : Nat) (acc : List BS) (vm : Value), iv = .int .i64 (i : Int) ∧ i ≤ n ∧ Hid (nm = nmGo t (sl.drop i) acc) ∧ acc.length = i ∧ Blk wr w.heap.size (imC h (.slice a1 l.length p1) so (.slice a2 need.length p2) vm (.slice ar n cr) (.slice none 0 0) (.slice a6 b.length p6)).toArray 70 ∧ FlO wr w6.heap.size 9 1 encS vm acc ∧ Keep (fun j => j = w.heap.size) w6 wr ∧ w6.heap.size ≤ wr.heap.size) (fun iv _ _ _ => n - (intOf iv).toNat)
            case atStart => exact ⟨0, [], _, rfl, Nat.zero_le _, H0, rfl, hX6, FlO.nil, Keep.refl _ _, Nat.le_refl _⟩
            case round =>
              obtain ⟨i, acc, vm, rfl, hi, HM, hal2, hXr, hO, hkr, hszr⟩ := hrel
              clear H0
              generalize wr = wz at *
              have hner : ∀ j, j < w6.heap.size → w.heap.size + 3 ≤ j → ¬ j = w.heap.size := fun j _ ha e => by omega
              have hRz := hR6.keep hkr fun e => by have e2 : w.heap.size + 2 = w.heap.size := e; omega
              have hyz := hy6.keep hkr hner
              have htz := Sl.keep ht6 hkr hner
              have hkwz : Keep No w wz := hkw6.trans hkr fun j hj e => by have e2 : j = w.heap.size := e; omega
              have hwzz := Nat.le_trans hw66 hszr
              obtain ⟨am, nm', cm, rfl⟩ : ∃ a n c, vm = .slice a n c := by
                obtain ⟨a, c, e, _⟩ := hO.fl.shape
                exact ⟨_, _, _, e⟩
              have x8 : wz.cell? ⟨w.heap.size, 8, none⟩ = some (.slice ar n cr) := hXr.cell 8
              rcases Nat.lt_or_ge i n with hlt | hge
              · have hil : i < sl.length := by rw [← HN.out]; exact hlt
                have hiz : (i : Int) < (n : Int) := by omega
                obtain ⟨g, off, cap, ev, _, hg, _, _, hc⟩ := hyz.at encSy_len hil
                rw [← HN.out] at ev
                injection ev with e1 e2 e3
                subst e1 e3
                have hsk := (HSY.out _ (List.getElem_mem hil)).1
                have hm := HM.out
                rw [List.drop_eq_getElem_cons hil, nmGo_cons] at hm
                have c0 := hc 0 _ rfl
                generalize sl[i] = s at *
                have hat := r02at_any (w := wz) t s.nm htz (by omega) (by omega)
                generalize atM t s.nm = am2 at *
                obtain ⟨ne, nb⟩ := am2
                dsimp only at hat hm
                generalize s.nm = x0 at *
                obtain ⟨bs, hbs⟩ : ∃ bs : ByteArray, bs = ⟨nb.toArray⟩ := ⟨_, rfl⟩
                rw [← hbs] at hat
                have HBS := Lib.hid hbs
                have HM2 := Lib.hid hm
                have w0x : IntKind.u64.wrap (x0 : Int) = (x0 : Int) := by rw [IntKind.wrap_u64]; omega
                rw [Nat.add_zero] at c0
                clear hm HM hc e2 hbs
                go_wp2_with fail
                refine hat.mono ?_
                clear hat
                rintro e wq ⟨rfl, rfl⟩
                by_cases hne : ne = 0
                · subst hne
                  have hm := HM2.out
                  rw [if_neg (by decide)] at hm
                  have HM3 := Lib.hid hm
                  clear hm HM2
                  have x7 : wz.cell? ⟨w.heap.size, 7, none⟩ = some (.slice am nm' cm) := hXr.cell 7
                  go_wp2_with (at_builtin; refine wl_append rfl _ _ _ _ rfl _ _ rfl rfl ?_)
                  refine rg_push (P := Tryz.prog) (enc := encS) (x := nb) _ _ Tryz.underlying37 str_info (by rfl) (by decide) (by rw [HBS.out]; rfl) (by rfl) (by intro u hu; rw [List.mem_singleton.1 hu]; rfl) hO (by omega) (by decide) hszr ?_
                  intro v8 w8 ho8 hk8 _
                  obtain ⟨a8, n8, c8, rfl⟩ : ∃ a n c, v8 = .slice a n c := by
                    obtain ⟨a, c, e, _⟩ := ho8.fl.shape
                    exact ⟨_, _, _, e⟩
                  have hX8 := hXr.own hO hk8 hXl
                  have hk68 : Keep (fun j => j = w.heap.size) w6 w8 := hkr.trans hk8 fun j hj e => absurd (World.ownsRow.lt hO _ e.symm).1 (by omega)
                  have hsz8 := Nat.le_trans hszr hk8.size
                  have x7 := hX8.cell 7
                  have f7 := hX8.frozen 7
                  have hX9 : Blk (w8.setCell ⟨w.heap.size, 7, none⟩ (.slice a8 n8 c8)) w.heap.size (imC h (.slice a1 l.length p1) so (.slice a2 need.length p2) (.slice a8 n8 c8) (.slice (some ⟨g, off, none⟩) n cr) (.slice none 0 0) (.slice a6 b.length p6)).toArray 70 := hX8.set (i := 7) (.slice a8 n8 c8)
                  have hk9 : Keep (fun j => j = w.heap.size) w8 (w8.setCell ⟨w.heap.size, 7, none⟩ (.slice a8 n8 c8)) := (Keep.refl (fun j => j = w.heap.size) w8).setCell (p := ⟨w.heap.size, 7, none⟩) (fun _ => rfl) _
                  clear hX8 hO hk8 hkr hXr hRz hyz htz hkwz
                  go_wp2_with fail
                  generalize w8.setCell ⟨w.heap.size, 7, none⟩ (.slice a8 n8 c8) = w9 at *
                  go_roundw
                  case rel => exact ⟨i + 1, acc ++ [nb], _, by go_num, hlt, HM3, by rw [List.length_append, List.length_singleton, hal2], hX9, own_keep ho8 hk9 (fun j hj e => by have e2 : j = w.heap.size := e; omega), hk68.trans' hk9, Nat.le_trans hsz8 hk9.size⟩
                  case measure => (simp [intOf]; try omega)
                · have hm := HM2.out
                  rw [if_pos hne] at hm
                  have hr := HR4.out
                  rw [hm] at hr
                  have hr : r = (ne, nx0) := by rw [hr]; unfold finN; rw [if_pos hne]
                  subst hr
                  have gn : ((ne : Int) != 0) = true := by rw [bne_iff_ne]; omega
                  go_wp2_with (first | (with_reducible refine wl_ld rfl _ 70 rfl _ rfl ?_) | (with_reducible refine wl_stAgg rfl _ _ _ rfl _ _ rfl rfl ?_))
                  refine rg_ld (hXr) Tryz.underlying70 rfl (by kernel_rfl) ?_
                  go_wp2_with (with_reducible refine wl_stAgg rfl _ _ _ rfl _ _ rfl rfl ?_)
                  refine rg_stAgg (hRz) (by kernel_rfl) (by rfl) imC_one ?_
                  intro wf hBf hkf _
                  go_wp2_with fail
                  refine ret_blk_tmp rfl rfl hBf Tryz.underlying70 rfl (by kernel_rfl) rfl ?_
                  exact ⟨_, rfl, rfl, imC_one, (hkwz).trans hkf (fun j hj e => by have e2 : j = w.heap.size + 2 := e; omega), fun q => absurd q (by first | assumption | omega | decide)⟩
              · obtain rfl : i = n := Nat.le_antisymm hi hge
                have hm := HM.out
                rw [List.drop_of_length_le (by rw [← HN.out]; exact Nat.le_refl _)] at hm
                have hm : nm = (0, acc) := hm
                have hr := HR4.out
                rw [hm] at hr
                have hr : r = finR ⟨so, need, acc, sl, []⟩ (relsM b l ⟨nd, V⟩ sl.length) := by rw [hr]; unfold finN; rw [if_neg fun q => q rfl]
                have HRF := Lib.hid hr
                clear hr hm HM HR4
                go_wp2_with fail
                go_meet
                exact ⟨_, _, acc, sl, HRF.out, hXr, (hk06.trans' hkr), hO.fl.mono (fun j _ ha => Nat.le_trans hw66 ha.1), hyz, by rw [← HN.out]; exact hsln⟩
          · have gc : ((cs : Int) != 0) = true := by rw [bne_iff_ne]; omega
            have hr := HR3.out
            rw [if_pos hcs] at hr
            subst hr
            go_wp2_with (first | (with_reducible refine wl_ld rfl _ 70 rfl _ rfl ?_) | (with_reducible refine wl_stAgg rfl _ _ _ rfl _ _ rfl rfl ?_))
            refine rg_ld (hX6) Tryz.underlying70 rfl (by kernel_rfl) ?_
            go_wp2_with (with_reducible refine wl_stAgg rfl _ _ _ rfl _ _ rfl rfl ?_)
            refine rg_stAgg (hR6) (by kernel_rfl) (by rfl) imC_one ?_
            intro wf hBf hkf _
            go_wp2_with fail
            refine ret_blk_tmp rfl rfl hBf Tryz.underlying70 rfl (by kernel_rfl) rfl ?_
            exact ⟨_, rfl, rfl, imC_one, (hkw6).trans hkf (fun j hj e => by have e2 : j = w.heap.size + 2 := e; omega), fun q => absurd q (by first | assumption | omega | decide)⟩
        · have gc : ((ce : Int) != 0) = true := by rw [bne_iff_ne]; omega
          have hr := HR2.out
          rw [if_pos hce] at hr
          subst hr
          go_wp2_with (first | (with_reducible refine wl_ld rfl _ 70 rfl _ rfl ?_) | (with_reducible refine wl_stAgg rfl _ _ _ rfl _ _ rfl rfl ?_))
          refine rg_ld (hX3) Tryz.underlying70 rfl (by kernel_rfl) ?_
          go_wp2_with (with_reducible refine wl_stAgg rfl _ _ _ rfl _ _ rfl rfl ?_)
          refine rg_stAgg (hR3) (by kernel_rfl) (by rfl) imC_one ?_
          intro wf hBf hkf _
          go_wp2_with fail
          refine ret_blk_tmp rfl rfl hBf Tryz.underlying70 rfl (by kernel_rfl) rfl ?_
          exact ⟨_, rfl, rfl, imC_one, (hkw3).trans hkf (fun j hj e => by have e2 : j = w.heap.size + 2 := e; omega), fun q => absurd q (by first | assumption | omega | decide)⟩
end
end
end Go.Proofs.YtbnahidopemkiaaGreat
