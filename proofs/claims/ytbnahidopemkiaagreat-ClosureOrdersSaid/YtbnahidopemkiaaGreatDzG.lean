/- The document's image: what the entries say: relocations. No condition. -/
import Derived.Test.YtbnahidopemkiaaGreatDzC
import Derived.Test.YtbnahidopemkiaaGreatDzF
import Derived.Test.YtbnahidopemkiaaGreatDzE
import Derived.Test.YtbnahidopemkiaaGreatDz9
import Derived.Test.YtbnahidopemkiaaGreatDz7
import Derived.Test.YtbnahidopemkiaaGreatDz3
import Derived.Test.YtbnahidopemkiaaGreatClN
set_option linter.unusedVariables false
set_option linter.unusedSimpArgs false
namespace Go.Dm.Ld
open Go Go.Dm.Oc
/-- what the entries make of an image -/
structure Nx where
  so : BS
  need : List BS
  names : List BS
  syms : List Sy
  rels : List Rl
def nx0 : Nx := ⟨[], [], [], [], []⟩
def finR (x : Nx) (y : Nat × List Rl) : Nat × Nx := if y.1 ≠ 0 then (y.1, nx0) else (0, { x with rels := y.2 })
theorem finR_1 (x : Nx) (y : Nat × List Rl) : (finR x y).1 = y.1 := by
  unfold finR
  split
  · rfl
  · rename_i h
    exact (Decidable.of_not_not h).symm
theorem finR_2 {x : Nx} {y : Nat × List Rl} (h : y.1 = 0) : (finR x y).2 = { x with rels := y.2 } := by
  unfold finR
  rw [if_neg (fun q => q h)]
theorem atI_len (b : BS) (l : List Sg) (a n : Nat) : (atI b l a n).2.length ≤ b.length := by
  unfold atI
  split
  · unfold cutM
    split
    · rw [List.length_take, List.length_drop]; omega
    · exact Nat.zero_le _
  · exact Nat.zero_le _
end Go.Dm.Ld
namespace Go.Proofs.YtbnahidopemkiaaGreat
open Go.RowKit Go.Dm Go.Dm.Oc Go.Dm.Ld
/-- what 'named' yields -/
def NmP (w : World) (h : Hd) (vs vb : Value) (r : Nat × Nx) (e : Ending) (w' : World) : Prop :=
  ∃ cs : Array Value, e = .returned (.tuple #[.agg cs, .int .i64 (r.1 : Nat)]) ∧ cs.size = 11 ∧ cs.all (·.oneCell') = true ∧ Keep No w w' ∧
    (r.1 = 0 → ∃ vn vm vy vr, cs = (imC h vs r.2.so vn vm vy vr vb).toArray ∧ Fl (fun k => w.heap.size + 3 ≤ k) w' 1 encS vn r.2.need ∧ Fl (fun k => w.heap.size + 3 ≤ k) w' 1 encS vm r.2.names ∧ Fl (fun k => w.heap.size + 3 ≤ k) w' 6 encSy vy r.2.syms ∧ Fl (fun k => w.heap.size + 3 ≤ k) w' 4 encRl vr r.2.rels)
theorem imC_one {h : Hd} {so : BS} {a1 a2 a3 a4 a5 a6 : Option Addr} {n1 n2 n3 n4 n5 n6 c1 c2 c3 c4 c5 c6 : Nat} :
    (imC h (.slice a1 n1 c1) so (.slice a2 n2 c2) (.slice a3 n3 c3) (.slice a4 n4 c4) (.slice a5 n5 c5) (.slice a6 n6 c6)).toArray.all (·.oneCell') = true := by
  simp [imC, Value.oneCell']
theorem fl_btsN {A : Nat → Prop} {w : World} {v : Value} {l : List UInt8} (h : Fl A w 1 e8 v l) : Bts A w v l := by
  unfold Fl at h
  rw [e8_map] at h
  exact h
theorem im0C_one : im0C.toArray.all (·.oneCell') = true := by simp [im0C, Value.oneCell']
section
variable {A : Nat → Prop} {w : World} {v : Value}
section
variable {z0 z1 z2 z3 z4 z5 z6 z7 z8 z9 z10 z11 z12 z13 z14 z15 z16 z17 z18 z19 z20 z21 z22 z23 z24 z25 z26 z27 z28 z29 z30 z31 z32 z33 z34 z35 z36 z37 z38 z39 z40 z41 z42 z43 z44 z45 z46 z47 z48 z49 z50 z51 z52 z53 z54 z55 z56 z57 z58 z59 z60 z61 z62 z63 z64 z65 z66 z67 z68 z69 z70 z71 z72 z73 z74 z75 z76 z77 z78 z79 z80 z81 z82 z83 z84 z85 z86 z87 z88 z89 z90 z91 z92 z93 z94 z95 z96 z97 z98 z99 z100 z101 z102 z103 z104 z105 z106 z107 z108 z109 z110 z111 z112 z113 z114 z115 z116 z117 z118 z119 z120 z121 z122 z123 z124 z125 z126 z127 z128 z129 z130 z131 z132 z133 z134 z135 z136 z137 z138 z139 z140 z141 z142 z143 z144 z145 z146 z147 z148 z149 z150 z151 z152 z153 z154 z155 z156 z157 z158 z159 z160 z161 z162 z163 z164 z165 z166 z167 z168 z169 z170 z171 z172 z173 z174 z175 z176 z177 z178 z179 z180 z181 z182 z183 z184 z185 z186 z187 z188 z189 z190 z191 z192 z193 z194 z195 z196 z197 z198 z199 z200 z201 z202 z203 z204 z205 z206 z207 z208 z209 z210 z211 z212 z213 z214 z215 z216 z217 z218 z219 z220 z221 z222 z223 z224 z225 z226 z227 z228 z229 z230 : Value}
set_option maxRecDepth 100000 in
set_option maxHeartbeats 4000000 in
theorem named_c {db gv : Nat} {h : Hd} {so : BS} {vs vn vm vy vb vneed : Value} {V nd : List Nat} {l : List Sg} {b : BS} {need names : List BS} {syms : List Sy} {r : Nat × Nx} {w0 : World}
    (hX : Blk w0 w.heap.size (imC h vs so vn vm vy (.slice none 0 0) vb).toArray 70) (hR : Blk w0 (w.heap.size + 2) im0C.toArray 70)
    (hD : Blk w0 db #[vneed, .slice (some ⟨gv, 0, none⟩) 7 7] 121) (hV : Blk w0 gv (nums7 V) 44) (hV7 : V.length = 7) (hVl : ∀ x ∈ V, x < 18446744073709551616)
    (hs : Fl A w 7 encSg vs l) (hb : Bts A w vb b) (hbl : b.length ≤ 65536) (hok : ∀ x ∈ l, SgOk x) (hok2 : ∀ x ∈ l, x.ty = 1 → x.off + x.fi < 18446744073709551616)
    (hn : Fl (fun k => w.heap.size + 3 ≤ k) w0 1 encS vn need) (hm : Fl (fun k => w.heap.size + 3 ≤ k) w0 1 encS vm names) (hy : Fl (fun k => w.heap.size + 3 ≤ k) w0 6 encSy vy syms) (hsl : syms.length ≤ 1000000)
    (hr : r = finR ⟨so, need, names, syms, []⟩ (relsM b l ⟨nd, V⟩ syms.length)) (hk : Keep No w w0) (hw3 : w.heap.size + 3 ≤ w0.heap.size) (hdb : w.heap.size + 3 ≤ db) (hgv : w.heap.size + 3 ≤ gv) :
    Code.wp Tryz.prog (bodyFrom Tryz.f65 40) (bodyPost Tryz.prog Tryz.f65 (NmP w h vs vb r)) ⟨#[z0, z1, .pointer (some ⟨w.heap.size, 0, none⟩), z3, .pointer (some ⟨w.heap.size + 2, 0, none⟩), z5, z6, z7, .pointer (some ⟨db, 0, none⟩), z9, z10, z11, z12, z13, z14, z15, z16, z17, z18, z19, z20, z21, z22, z23, z24, z25, z26, z27, z28, z29, z30, z31, z32, z33, z34, z35, z36, z37, z38, z39, z40, z41, z42, z43, z44, z45, z46, z47, z48, z49, z50, z51, z52, z53, z54, z55, z56, z57, z58, z59, z60, z61, z62, z63, z64, z65, z66, z67, z68, z69, z70, z71, z72, z73, z74, z75, z76, z77, z78, z79, z80, z81, z82, z83, z84, z85, z86, z87, z88, z89, z90, z91, z92, z93, z94, z95, z96, z97, z98, z99, z100, z101, z102, z103, z104, z105, z106, z107, z108, z109, z110, z111, z112, z113, z114, z115, z116, z117, z118, z119, z120, z121, z122, z123, z124, z125, z126, z127, z128, z129, z130, z131, z132, z133, z134, z135, z136, z137, z138, z139, z140, z141, z142, z143, z144, z145, z146, z147, z148, z149, z150, z151, z152, z153, z154, z155, z156, z157, z158, z159, z160, z161, z162, z163, z164, z165, z166, z167, z168, z169, z170, z171, z172, z173, z174, z175, z176, z177, z178, z179, z180, z181, z182, z183, z184, z185, z186, z187, z188, z189, z190, z191, z192, z193, z194, z195, z196, z197, z198, z199, z200, z201, z202, z203, z204, z205, z206, z207, z208, z209, z210, z211, z212, z213, z214, z215, z216, z217, z218, z219, z220, z221, z222, z223, z224, z225, z226, z227, z228, z229, z230], []⟩ w0 := by
  have hby := fun W (k : Keep No w W) (addr size : Nat) (h1 : addr < 18446744073709551616) (h2 : size < 18446744073709551616) => r09bytes_any (w := W) h vs so vn vm vy (.slice none 0 0) vb l b addr size (hs.no k) (Sl.keep hb k fun _ _ _ h => h) (by omega) hok hok2 h1 h2
  have HBY := Lib.hid hby
  have l5 : V.getD 5 0 < 18446744073709551616 := hVl _ (by rw [List.getD_eq_getElem?_getD, List.getElem?_eq_getElem (by omega : 5 < V.length)]; exact List.getElem_mem _)
  have l6 : V.getD 6 0 < 18446744073709551616 := hVl _ (by rw [List.getD_eq_getElem?_getD, List.getElem?_eq_getElem (by omega : 6 < V.length)]; exact List.getElem_mem _)
  have c5 := (hV.cell 5).trans (nums7_at (by omega))
  have c6 := (hV.cell 6).trans (nums7_at (by omega))
  have cd : w0.cell? ⟨db, 1, none⟩ = some (.slice (some ⟨gv, 0, none⟩) 7 7) := hD.cell 1
  have hrel : relsM b l ⟨nd, V⟩ syms.length = if 65536 < V.getD 6 0 then (13, [])
    else if V.getD 6 0 = 0 then (0, [])
    else
      let c := atI b l (V.getD 5 0) (V.getD 6 0)
      if c.1 ≠ 0 then (c.1, [])
      else if (rlTab c.2).1 ≠ 0 then ((rlTab c.2).1, [])
      else (chkR syms.length (rlTab c.2).2, (rlTab c.2).2) := rfl
  rw [hrel] at hr
  have hal := atI_len b l (V.getD 5 0) (V.getD 6 0)
  have hbc := fun W (k : Keep No w W) => HBY.out W k (V.getD 5 0) (V.getD 6 0) l5 l6
  generalize V.getD 5 0 = v5 at *
  generalize V.getD 6 0 = v6 at *
  generalize atI b l v5 v6 = c at *
  have HR := Lib.hid hr
  have HBC := Lib.hid hbc
  obtain ⟨a1, p1, rfl, _, _⟩ := hs.shape
  obtain ⟨a2, p2, rfl, _, _⟩ := hn.shape
  obtain ⟨a3, p3, rfl, _, _⟩ := hm.shape
  obtain ⟨a4, p4, rfl, _, _⟩ := hy.shape
  obtain ⟨a6, p6, rfl, _, _⟩ := Sl.shape hb
  clear hr hrel hbc HBY hby hs hb hVl hok hok2
  conv => arg 2; whnf
  rcases Nat.lt_or_ge 65536 v6 with h6 | h6
  · have g6 : (65536 : Int) < (v6 : Int) := by omega
    have hr := HR.out
    rw [if_pos h6] at hr
    have hr : r = (13, nx0) := hr
    subst hr
    clear h6
    go_wp2_with (first | (with_reducible refine wl_ld rfl _ 70 rfl _ rfl ?_) | (with_reducible refine wl_stAgg rfl _ _ _ rfl _ _ rfl rfl ?_))
    refine rg_ld (hX) Tryz.underlying70 rfl (by kernel_rfl) ?_
    go_wp2_with (with_reducible refine wl_stAgg rfl _ _ _ rfl _ _ rfl rfl ?_)
    refine rg_stAgg (hR) (by kernel_rfl) (by rfl) imC_one ?_
    intro wf hBf hkf _
    go_wp2_with fail
    refine ret_blk_tmp rfl rfl hBf Tryz.underlying70 rfl (by kernel_rfl) rfl ?_
    exact ⟨_, rfl, rfl, imC_one, (hk).trans hkf (fun j hj e => by have e2 : j = w.heap.size + 2 := e; omega), fun q => absurd q (by first | assumption | omega | decide)⟩
  · have hr := HR.out
    rw [if_neg (by omega)] at hr
    have g6 : (v6 : Int) ≤ 65536 := by omega
    by_cases h0 : v6 = 0
    · rw [if_pos h0] at hr
      have hr : r = (0, ⟨so, need, names, syms, []⟩) := hr
      subst hr
      subst h0
      go_wp2_with (first | (with_reducible refine wl_ld rfl _ 70 rfl _ rfl ?_) | (with_reducible refine wl_stAgg rfl _ _ _ rfl _ _ rfl rfl ?_))
      refine rg_ld hX Tryz.underlying70 rfl (by kernel_rfl) ?_
      go_wp2_with (with_reducible refine wl_stAgg rfl _ _ _ rfl _ _ rfl rfl ?_)
      refine rg_stAgg hR (by kernel_rfl) (by rfl) imC_one ?_
      intro wf hBf hkf _
      go_wp2_with fail
      refine ret_blk_tmp rfl rfl hBf Tryz.underlying70 rfl (by kernel_rfl) rfl ?_
      have hne : ∀ j, j < w0.heap.size → w.heap.size + 3 ≤ j → ¬ j = w.heap.size + 2 := fun j _ ha e => by omega
      exact ⟨_, rfl, rfl, imC_one, hk.trans hkf (fun j hj e => by have e2 : j = w.heap.size + 2 := e; omega), fun _ => ⟨_, _, _, _, rfl, hn.keep hkf hne, hm.keep hkf hne, hy.keep hkf hne, Fl.nil⟩⟩
    · rw [if_neg h0] at hr
      have g0 : (0 : Int) < (v6 : Int) := by omega
      have HR2 := Lib.hid hr
      have hkd := hk.drew
      have hXd := hX.keep ((Keep.refl No w0).drew) fun h => h
      have hSS : ∀ W, Keep No w0 W → Blk W w.heap.size (imC h (.slice a1 l.length p1) so (.slice a2 need.length p2) (.slice a3 names.length p3) (.slice a4 syms.length p4) (.slice none 0 0) (.slice a6 b.length p6)).toArray 70 ∧ W.cell? ⟨db, 1, none⟩ = some (.slice (some ⟨gv, 0, none⟩) 7 7) ∧ W.cell? ⟨gv, 5, none⟩ = some (.int .u64 (v5 : Int)) ∧ W.cell? ⟨gv, 6, none⟩ = some (.int .u64 (v6 : Int)) := fun W k =>
        ⟨hX.keep k fun h => h, (k.cell (p := ⟨db, 1, none⟩) hD.lt fun h => h).trans cd, (k.cell (p := ⟨gv, 5, none⟩) hV.lt fun h => h).trans c5, (k.cell (p := ⟨gv, 6, none⟩) hV.lt fun h => h).trans c6⟩
      have HSS := Lib.hid hSS
      clear hr HR h0 h6 hSS
      go_upto_region 43 with fail
      refine wp_region_sig (fun W => Blk W w.heap.size (imC h (.slice a1 l.length p1) so (.slice a2 need.length p2) (.slice a3 names.length p3) (.slice a4 syms.length p4) (.slice none 0 0) (.slice a6 b.length p6)).toArray 70 ∧ W.cell? ⟨db, 1, none⟩ = some (.slice (some ⟨gv, 0, none⟩) 7 7) ∧ W.cell? ⟨gv, 5, none⟩ = some (.int .u64 (v5 : Int)) ∧ W.cell? ⟨gv, 6, none⟩ = some (.int .u64 (v6 : Int))) (fun j => decide (j ≤ 99)) [(0, true), (1, true), (2, true), (3, true), (4, true), (5, true), (6, true), (7, true), (8, true), (9, false), (10, true), (11, true), (12, true), (13, true), (14, true)] (by kernel_rfl) (by kernel_rfl) (by intro c a d v w h; cases d <;> exact h) (HSS.out _ (Keep.refl _ _).drew) ?_
      apply sig_still (o := ⟨some 197, _, _, _, _, _⟩) rfl rfl
      · intro w' hS
        exact run_ldo _ _ rfl w.heap.size 0 rfl (run_loadVar_row w' w.heap.size 70 70 _ _ _ hS.1 Tryz.underlying70 rfl (by kernel_rfl))
      go_frame
      apply sig_still (o := ⟨some 198, _, _, _, _, _⟩) rfl rfl
      · intro w' hS
        obtain ⟨q1, q2, q3, q4⟩ := hS
        first | (go_simp; done) | (go_simp; rfl) | rfl
      go_frame
      apply sig_still (o := ⟨some 199, _, _, _, _, _⟩) rfl rfl
      · intro w' hS
        obtain ⟨q1, q2, q3, q4⟩ := hS
        first | (go_simp; done) | (go_simp; rfl) | rfl
      go_frame
      apply sig_still (o := ⟨some 200, _, _, _, _, _⟩) rfl rfl
      · intro w' hS
        obtain ⟨q1, q2, q3, q4⟩ := hS
        first | (go_simp; done) | (go_simp; rfl) | rfl
      go_frame
      apply sig_still (o := ⟨some 201, _, _, _, _, _⟩) rfl rfl
      · intro w' hS
        obtain ⟨q1, q2, q3, q4⟩ := hS
        first | (go_simp; done) | (go_simp; rfl) | rfl
      go_frame
      apply sig_still (o := ⟨some 202, _, _, _, _, _⟩) rfl rfl
      · intro w' hS
        obtain ⟨q1, q2, q3, q4⟩ := hS
        first | (go_simp; done) | (go_simp; rfl) | rfl
      go_frame
      apply sig_still (o := ⟨some 203, _, _, _, _, _⟩) rfl rfl
      · intro w' hS
        obtain ⟨q1, q2, q3, q4⟩ := hS
        first | (go_simp; done) | (go_simp; rfl) | rfl
      go_frame
      apply sig_still (o := ⟨some 204, _, _, _, _, _⟩) rfl rfl
      · intro w' hS
        obtain ⟨q1, q2, q3, q4⟩ := hS
        first | (go_simp; done) | (go_simp; rfl) | rfl
      go_frame
      apply sig_still (o := ⟨some 205, _, _, _, _, _⟩) rfl rfl
      · intro w' hS
        obtain ⟨q1, q2, q3, q4⟩ := hS
        first | (go_simp; done) | (go_simp; rfl) | rfl
      go_frame
      refine sig_eff (o := ⟨some 206, _, _, _, _, _⟩) rfl rfl (fun K hKe => ?_)
      go_wp2_with fail
      refine (HBC.out _ hkd).mono ?_
      rintro e w3 ⟨v3, rfl, h3, hk3⟩
      have hk03 : Keep No w0 w3 := ((Keep.refl No w0).drew).trans' hk3
      refine hKe _ _ ⟨fun _ => HSS.out _ hk03, ?_⟩
      apply sig_still (o := ⟨some 196, _, _, _, _, _⟩) rfl rfl
      · intro w' hS
        obtain ⟨q1, q2, q3, q4⟩ := hS
        first | (go_simp; done) | (go_simp; rfl) | rfl
      go_frame
      apply sig_still (o := ⟨some 207, _, _, _, _, _⟩) rfl rfl
      · intro w' hS
        obtain ⟨q1, q2, q3, q4⟩ := hS
        first | (go_simp; done) | (go_simp; rfl) | rfl
      go_frame
      apply sig_still (o := ⟨some 208, _, _, _, _, _⟩) rfl rfl
      · intro w' hS
        obtain ⟨q1, q2, q3, q4⟩ := hS
        first | (go_simp; done) | (go_simp; rfl) | rfl
      go_frame
      apply sig_still (o := ⟨some 22, _, _, _, _, _⟩) rfl rfl
      · intro w' hS
        obtain ⟨q1, q2, q3, q4⟩ := hS
        first | (go_simp; done) | (go_simp; rfl) | rfl
      go_frame
      apply sig_still (o := ⟨some 23, _, _, _, _, _⟩) rfl rfl
      · intro w' hS
        obtain ⟨q1, q2, q3, q4⟩ := hS
        first | (go_simp; done) | (go_simp; rfl) | rfl
      go_frame
      refine sig_nil ?_
      have hkw3 := hk.trans' hk03
      have hX3 := hX.keep hk03 fun h => h
      have hR3 := hR.keep hk03 fun h => h
      have hn3 := hn.no hk03
      have hm3 := hm.no hk03
      have hy3 := hy.no hk03
      have hw33 := Nat.le_trans hw3 hk03.size
      obtain ⟨ce, cb⟩ := c
      dsimp only at h3 HR2 hal
      obtain ⟨av, nv, cv, rfl⟩ : ∃ a n c, v3 = .slice a n c := by
        obtain ⟨a, c, e, _⟩ := h3.fl.shape
        exact ⟨_, _, _, e⟩
      clear hX hR hn hm hy hk hXd hkd HSS hk3 hKe HBC c5 c6 cd hD hV
      by_cases hce : ce = 0
      · subst hce
        have hr := HR2.out
        rw [if_neg (by decide)] at hr
        have HR3 := Lib.hid hr
        clear hr HR2
        have hbc := fl_btsN h3.fl
        have htab := r07tab_any cb hbc (by omega)
        have hrl := rlTab_ok cb
        generalize rlTab cb = rt at *
        obtain ⟨re, rl⟩ := rt
        dsimp only at htab HR3 hrl
        go_wp2_with fail
        refine htab.mono ?_
        clear htab
        rintro e w4 ⟨v4, rfl, h4, hk4⟩
        obtain ⟨ar, nr, cr, rfl⟩ : ∃ a n c, v4 = .slice a n c := by
          obtain ⟨a, c, e, _⟩ := h4.fl.shape
          exact ⟨_, _, _, e⟩
        have hX4 := hX3.keep hk4 fun h => h
        have hR4 := hR3.keep hk4 fun h => h
        have hn4 := hn3.no hk4
        have hm4 := hm3.no hk4
        have hy4 := hy3.no hk4
        have hkw4 := hkw3.trans' hk4
        have hw44 := Nat.le_trans hw33 hk4.size
        have hr4 : Fl (fun k => w.heap.size + 3 ≤ k) w4 4 encRl (.slice ar nr cr) rl := (h4.fl).mono fun j _ ha => Nat.le_trans hw33 ha.1
        clear hX3 hR3 hn3 hm3 hy3 h3 hk4 hbc
        by_cases hre : re = 0
        · subst hre
          have hr := HR3.out
          rw [if_neg (by decide)] at hr
          have HR4 := Lib.hid hr
          clear hr HR3
          have hchk := fun W (k : Keep (fun j => j = w.heap.size) w4 W) => r07chk_any (w := W) rl syms.length (hr4.keep k fun j _ ha e => by have e2 : j = w.heap.size := e; omega) hrl (by omega)
          obtain rfl := fl_len hr4
          generalize chkR syms.length rl = er at *
          have HCH := Lib.hid hchk
          clear hchk
          have x9 := hX4.cell 9
          have f9 := hX4.frozen 9
          have hX5 : Blk (w4.setCell ⟨w.heap.size, 9, none⟩ (.slice ar rl.length cr)) w.heap.size (imC h (.slice a1 l.length p1) so (.slice a2 need.length p2) (.slice a3 names.length p3) (.slice a4 syms.length p4) (.slice ar rl.length cr) (.slice a6 b.length p6)).toArray 70 := hX4.set (i := 9) (.slice ar rl.length cr)
          have hk5 : Keep (fun j => j = w.heap.size) w4 (w4.setCell ⟨w.heap.size, 9, none⟩ (.slice ar rl.length cr)) := (Keep.refl (fun j => j = w.heap.size) w4).setCell (p := ⟨w.heap.size, 9, none⟩) (fun _ => rfl) _
          go_wp2_with fail
          have hR5 := hR4.keep hk5 fun e => by have e2 : w.heap.size + 2 = w.heap.size := e; omega
          have hne5 : ∀ j, j < w4.heap.size → w.heap.size + 3 ≤ j → ¬ j = w.heap.size := fun j _ ha e => by omega
          have hn5 := hn4.keep hk5 hne5
          have hm5 := hm4.keep hk5 hne5
          have hy5 := hy4.keep hk5 hne5
          have hr5 := hr4.keep hk5 hne5
          have hkw5 : Keep No w _ := hkw4.trans hk5 fun j hj e => by have e2 : j = w.heap.size := e; omega
          have hc5 := fun W (k : Keep No _ W) => HCH.out W (hk5.trans k fun _ _ h => h.elim)
          generalize w4.setCell ⟨w.heap.size, 9, none⟩ (.slice ar rl.length cr) = w5 at *
          have HC5 := Lib.hid hc5
          have x5 : w5.cell? ⟨w.heap.size, 8, none⟩ = some (.slice a4 syms.length p4) := hX5.cell 8
          clear hX4 hR4 hn4 hm4 hy4 hr4 hkw4 hc5 HCH hk5 hne5 x9 f9
          go_upto_region 50 with fail
          refine wp_region_sig (fun W => Blk W w.heap.size (imC h (.slice a1 l.length p1) so (.slice a2 need.length p2) (.slice a3 names.length p3) (.slice a4 syms.length p4) (.slice ar rl.length cr) (.slice a6 b.length p6)).toArray 70 ∧ W.cell? ⟨w.heap.size, 8, none⟩ = some (.slice a4 syms.length p4)) (fun j => decide (j ≤ 99)) [(0, true), (1, true), (2, true), (3, true), (4, true), (5, false), (6, false), (7, false)] (by kernel_rfl) (by kernel_rfl) (by intro c a d v w h; cases d <;> exact h) ⟨hX5.keep (Keep.refl No w5).drew fun h => h, x5⟩ ?_
          apply sig_still (o := ⟨some 224, _, _, _, _, _⟩) rfl rfl
          · intro w' hS
            exact run_ldo _ _ rfl w.heap.size 0 rfl (run_loadVar_row w' w.heap.size 70 70 _ _ _ hS.1 Tryz.underlying70 rfl (by kernel_rfl))
          go_frame
          apply sig_still (o := ⟨some 225, _, _, _, _, _⟩) rfl rfl
          · intro w' hS
            obtain ⟨q1, q2⟩ := hS
            first | (go_simp; done) | (go_simp; rfl) | rfl
          go_frame
          apply sig_still (o := ⟨some 226, _, _, _, _, _⟩) rfl rfl
          · intro w' hS
            obtain ⟨q1, q2⟩ := hS
            first | (go_simp; done) | (go_simp; rfl) | rfl
          go_frame
          apply sig_still (o := ⟨some 227, _, _, _, _, _⟩) rfl rfl
          · intro w' hS
            obtain ⟨q1, q2⟩ := hS
            first | (go_simp; done) | (go_simp; rfl) | rfl
          go_frame
          apply sig_still (o := ⟨some 228, _, _, _, _, _⟩) rfl rfl
          · intro w' hS
            obtain ⟨q1, q2⟩ := hS
            first | (go_simp; done) | (go_simp; rfl) | rfl
          go_frame
          refine sig_eff (o := ⟨some 229, _, _, _, _, _⟩) rfl rfl (fun K hKe => ?_)
          go_wp2_with fail
          refine (HC5.out _ (Keep.refl No w5).drew).mono ?_
          rintro e w6 ⟨rfl, hk6⟩
          have hk56 : Keep No w5 w6 := ((Keep.refl No w5).drew).trans' hk6
          have hX6 := hX5.keep hk56 fun h => h
          have hR6 := hR5.keep hk56 fun h => h
          have hw65 := hk56.size
          refine hKe _ _ ⟨fun _ => ⟨hX6, hX6.cell 8⟩, ?_⟩
          refine sig_eff (o := ⟨none, _, _, _, _, _⟩) rfl rfl (fun K hKe => ?_)
          refine wo_stAgg (.tmp 4) (.tmp 224) 70 rfl _ _ rfl rfl ?_
          refine rg_stAgg hR6 (by kernel_rfl) (by rfl) imC_one ?_
          intro wf hBf hkf _
          have hXf := hX6.keep hkf fun e => by have e2 : w.heap.size = w.heap.size + 2 := e; omega
          refine hKe _ _ ⟨fun _ => ⟨hXf, hXf.cell 8⟩, ?_⟩
          refine sig_eff (o := ⟨some 5, _, _, _, _, _⟩) rfl rfl (fun K hKe => ?_)
          go_wp2_with fail
          refine ⟨fun _ => ⟨hXf, hXf.cell 8⟩, ?_⟩
          refine sig_nil ?_
          go_wp2_with fail
          refine ret_blk_tmp rfl rfl hBf Tryz.underlying70 rfl (by kernel_rfl) rfl ?_
          have hkf2 : Keep (fun j => j = w.heap.size + 2) w5 wf := (hk56.mono fun _ _ h => h.elim).trans' hkf
          have hne : ∀ j, j < w5.heap.size → w.heap.size + 3 ≤ j → ¬ j = w.heap.size + 2 := fun j _ ha e => by omega
          have hr1 : r.1 = er := by rw [HR4.out, finR_1]
          refine ⟨(imC h (.slice a1 l.length p1) so (.slice a2 need.length p2) (.slice a3 names.length p3) (.slice a4 syms.length p4) (.slice ar rl.length cr) (.slice a6 b.length p6)).toArray, by rw [hr1]; rfl, rfl, imC_one, hkw5.trans hkf2 (fun j hj e => by have e2 : j = w.heap.size + 2 := e; omega), fun q => ?_⟩
          have hr2 : r.2 = ⟨so, need, names, syms, rl⟩ := by rw [HR4.out, finR_2 (by rw [← hr1]; exact q)]
          rw [hr2]
          exact ⟨_, _, _, _, rfl, hn5.keep hkf2 hne, hm5.keep hkf2 hne, hy5.keep hkf2 hne, hr5.keep hkf2 hne⟩
        · have gr : ((re : Int) != 0) = true := by rw [bne_iff_ne]; omega
          have hr := HR3.out
          rw [if_pos hre] at hr
          have hr : r = (re, nx0) := by rw [hr]; unfold finR; rw [if_pos hre]
          subst hr
          go_wp2_with (first | (with_reducible refine wl_ld rfl _ 70 rfl _ rfl ?_) | (with_reducible refine wl_stAgg rfl _ _ _ rfl _ _ rfl rfl ?_))
          refine rg_ld (hX4) Tryz.underlying70 rfl (by kernel_rfl) ?_
          go_wp2_with (with_reducible refine wl_stAgg rfl _ _ _ rfl _ _ rfl rfl ?_)
          refine rg_stAgg (hR4) (by kernel_rfl) (by rfl) imC_one ?_
          intro wf hBf hkf _
          go_wp2_with fail
          refine ret_blk_tmp rfl rfl hBf Tryz.underlying70 rfl (by kernel_rfl) rfl ?_
          exact ⟨_, rfl, rfl, imC_one, (hkw4).trans hkf (fun j hj e => by have e2 : j = w.heap.size + 2 := e; omega), fun q => absurd q (by first | assumption | omega | decide)⟩
      · have gc : ((ce : Int) != 0) = true := by rw [bne_iff_ne]; omega
        have hr := HR2.out
        rw [if_pos hce] at hr
        have hr : r = (ce, nx0) := by rw [hr]; unfold finR; rw [if_pos hce]
        subst hr
        go_wp2_with (first | (with_reducible refine wl_ld rfl _ 70 rfl _ rfl ?_) | (with_reducible refine wl_stAgg rfl _ _ _ rfl _ _ rfl rfl ?_))
        refine rg_ld (hX3) Tryz.underlying70 rfl (by kernel_rfl) ?_
        go_wp2_with (with_reducible refine wl_stAgg rfl _ _ _ rfl _ _ rfl rfl ?_)
        refine rg_stAgg (hR3) (by kernel_rfl) (by rfl) imC_one ?_
        intro wf hBf hkf _
        go_wp2_with fail
        refine ret_blk_tmp rfl rfl hBf Tryz.underlying70 rfl (by kernel_rfl) rfl ?_
        exact ⟨_, rfl, rfl, imC_one, (hkw3).trans hkf (fun j hj e => by have e2 : j = w.heap.size + 2 := e; omega), fun q => absurd q (by first | assumption | omega | decide)⟩
end
end
end Go.Proofs.YtbnahidopemkiaaGreat
