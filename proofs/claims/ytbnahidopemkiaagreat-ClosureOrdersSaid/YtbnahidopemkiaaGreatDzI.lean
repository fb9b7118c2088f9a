/- The document's image: what the entries say. No condition. -/
import Derived.Test.YtbnahidopemkiaaGreatDzH
import Derived.Test.YtbnahidopemkiaaGreatIm5
set_option linter.unusedVariables false
set_option linter.unusedSimpArgs false
namespace Go.Dm.Ld
open Go Go.Dm.Oc
/-- what is needed, then symbols -/
def finD (so : BS) (b : BS) (l : List Sg) (d : Dy) (t : BS) (ng : Nat × List BS) : Nat × Nx := if ng.1 ≠ 0 then (ng.1, nx0) else finS so ng.2 b l d t
/-- the whole -/
def namedX (b : BS) (l : List Sg) (s : Sg) : Nat × Nx :=
  if (namedM b l s).1 ≠ 0 then ((namedM b l s).1, nx0) else finS (namedM b l s).2.so (namedM b l s).2.need b l (namedM b l s).2.info (namedM b l s).2.table
theorem namedX_eq (b : BS) (l : List Sg) (s : Sg) (cb : BS) (hc : cb = (cutM b s.off s.fi).2) : namedX b l s =
    if (dyM cb).1 ≠ 0 then ((dyM cb).1, nx0)
    else if (atI b l ((dyM cb).2.v.getD 1 0) ((dyM cb).2.v.getD 2 0)).1 ≠ 0 then ((atI b l ((dyM cb).2.v.getD 1 0) ((dyM cb).2.v.getD 2 0)).1, nx0)
    else if chkN (atI b l ((dyM cb).2.v.getD 1 0) ((dyM cb).2.v.getD 2 0)).2 ≠ 0 then (11, nx0)
    else if (soM (atI b l ((dyM cb).2.v.getD 1 0) ((dyM cb).2.v.getD 2 0)).2 ((dyM cb).2.v.getD 0 0)).1 ≠ 0 then ((soM (atI b l ((dyM cb).2.v.getD 1 0) ((dyM cb).2.v.getD 2 0)).2 ((dyM cb).2.v.getD 0 0)).1, nx0)
    else finD (soM (atI b l ((dyM cb).2.v.getD 1 0) ((dyM cb).2.v.getD 2 0)).2 ((dyM cb).2.v.getD 0 0)).2 b l (dyM cb).2 (atI b l ((dyM cb).2.v.getD 1 0) ((dyM cb).2.v.getD 2 0)).2 (needGo (atI b l ((dyM cb).2.v.getD 1 0) ((dyM cb).2.v.getD 2 0)).2 (dyM cb).2.need []) := by
  have h : namedM b l s = if (cutM b s.off s.fi).1 ≠ 0 then ((cutM b s.off s.fi).1, nd0)
      else if (dyM cb).1 ≠ 0 then ((dyM cb).1, nd0)
      else if (atI b l ((dyM cb).2.v.getD 1 0) ((dyM cb).2.v.getD 2 0)).1 ≠ 0 then ((atI b l ((dyM cb).2.v.getD 1 0) ((dyM cb).2.v.getD 2 0)).1, nd0)
      else if chkN (atI b l ((dyM cb).2.v.getD 1 0) ((dyM cb).2.v.getD 2 0)).2 ≠ 0 then (chkN (atI b l ((dyM cb).2.v.getD 1 0) ((dyM cb).2.v.getD 2 0)).2, nd0)
      else if (soM (atI b l ((dyM cb).2.v.getD 1 0) ((dyM cb).2.v.getD 2 0)).2 ((dyM cb).2.v.getD 0 0)).1 ≠ 0 then ((soM (atI b l ((dyM cb).2.v.getD 1 0) ((dyM cb).2.v.getD 2 0)).2 ((dyM cb).2.v.getD 0 0)).1, nd0)
      else if (needGo (atI b l ((dyM cb).2.v.getD 1 0) ((dyM cb).2.v.getD 2 0)).2 (dyM cb).2.need []).1 ≠ 0 then ((needGo (atI b l ((dyM cb).2.v.getD 1 0) ((dyM cb).2.v.getD 2 0)).2 (dyM cb).2.need []).1, nd0)
      else (0, ⟨(dyM cb).2, (atI b l ((dyM cb).2.v.getD 1 0) ((dyM cb).2.v.getD 2 0)).2, (soM (atI b l ((dyM cb).2.v.getD 1 0) ((dyM cb).2.v.getD 2 0)).2 ((dyM cb).2.v.getD 0 0)).2, (needGo (atI b l ((dyM cb).2.v.getD 1 0) ((dyM cb).2.v.getD 2 0)).2 (dyM cb).2.need []).2⟩) := by
    subst hc; rfl
  have hcd : (cutM b s.off s.fi).1 ≠ 0 → (cutM b s.off s.fi).1 = 10 ∧ cb = [] := fun q => by
    rw [hc]
    unfold cutM at q ⊢
    split at q
    · exact absurd rfl q
    · rename_i h2
      rw [if_neg h2]
      exact ⟨rfl, rfl⟩
  have h11 : ∀ q : BS, chkN q ≠ 0 → chkN q = 11 := fun q hq => by
    unfold chkN at hq ⊢
    split at hq
    · exact absurd rfl hq
    · rename_i h2; rw [if_neg h2]
  unfold namedX
  rw [h]
  clear h
  by_cases h0 : (cutM b s.off s.fi).1 ≠ 0
  · obtain ⟨h1, h2⟩ := hcd h0
    rw [h2]
    have hd : dyM [] = (10, dy0) := rfl
    simp only [if_pos h0, h1, hd]
    rfl
  · simp only [if_neg h0]
    clear h0 hcd hc
    generalize dyM cb = dd
    by_cases h1 : dd.1 ≠ 0
    · simp only [if_pos h1]
    · simp only [if_neg h1]
      generalize atI b l (dd.2.v.getD 1 0) (dd.2.v.getD 2 0) = tt
      by_cases h2 : tt.1 ≠ 0
      · simp only [if_pos h2]
      · simp only [if_neg h2]
        by_cases h3 : chkN tt.2 ≠ 0
        · simp only [if_pos h3, h11 _ h3]; rfl
        · simp only [if_neg h3]
          generalize soM tt.2 (dd.2.v.getD 0 0) = sm
          by_cases h4 : sm.1 ≠ 0
          · simp only [if_pos h4]
          · simp only [if_neg h4]
            unfold finD
            generalize needGo tt.2 dd.2.need [] = ng
            by_cases h5 : ng.1 ≠ 0
            · simp only [if_pos h5]
            · simp only [if_neg h5]; rfl
end Go.Dm.Ld
namespace Go.Proofs.YtbnahidopemkiaaGreat
open Go.RowKit Go.Dm Go.Dm.Oc Go.Dm.Ld
theorem k_cell {w w' : World} {g i : Nat} (k : Keep No w w') (h : g < w.heap.size) : w'.cell? ⟨g, i, none⟩ = w.cell? ⟨g, i, none⟩ := k.cell (p := ⟨g, i, none⟩) h fun h => h
section
variable {A : Nat → Prop} {w : World} {v : Value}
section
variable {z0 z1 z2 z3 z4 z5 z6 z7 z8 z9 z10 z11 z12 z13 z14 z15 z16 z17 z18 z19 z20 z21 z22 z23 z24 z25 z26 z27 z28 z29 z30 z31 z32 z33 z34 z35 z36 z37 z38 z39 z40 z41 z42 z43 z44 z45 z46 z47 z48 z49 z50 z51 z52 z53 z54 z55 z56 z57 z58 z59 z60 z61 z62 z63 z64 z65 z66 z67 z68 z69 z70 z71 z72 z73 z74 z75 z76 z77 z78 z79 z80 z81 z82 z83 z84 z85 z86 z87 z88 z89 z90 z91 z92 z93 z94 z95 z96 z97 z98 z99 z100 z101 z102 z103 z104 z105 z106 z107 z108 z109 z110 z111 z112 z113 z114 z115 z116 z117 z118 z119 z120 z121 z122 z123 z124 z125 z126 z127 z128 z129 z130 z131 z132 z133 z134 z135 z136 z137 z138 z139 z140 z141 z142 z143 z144 z145 z146 z147 z148 z149 z150 z151 z152 z153 z154 z155 z156 z157 z158 z159 z160 z161 z162 z163 z164 z165 z166 z167 z168 z169 z170 z171 z172 z173 z174 z175 z176 z177 z178 z179 z180 z181 z182 z183 z184 z185 z186 z187 z188 z189 z190 z191 z192 z193 z194 z195 z196 z197 z198 z199 z200 z201 z202 z203 z204 z205 z206 z207 z208 z209 z210 z211 z212 z213 z214 z215 z216 z217 z218 z219 z220 z221 z222 z223 z224 z225 z226 z227 z228 z229 z230 : Value}
set_option maxRecDepth 100000 in
set_option maxHeartbeats 6000000 in
theorem named_a2 {db gv : Nat} {h : Hd} {so : BS} {vs vb vneed vt : Value} {V nd : List Nat} {l : List Sg} {b t : BS} {r : Nat × Nx} {w0 : World}
    (hX : Blk w0 w.heap.size (imC h vs so (.slice none 0 0) (.slice none 0 0) (.slice none 0 0) (.slice none 0 0) vb).toArray 70) (hR : Blk w0 (w.heap.size + 2) im0C.toArray 70)
    (hD : Blk w0 db #[vneed, .slice (some ⟨gv, 0, none⟩) 7 7] 121) (hV : Blk w0 gv (nums7 V) 44) (hV7 : V.length = 7) (hVl : ∀ x ∈ V, x < 18446744073709551616)
    (hs : Fl A w 7 encSg vs l) (hb : Bts A w vb b) (hbl : b.length ≤ 65536) (hok : ∀ x ∈ l, SgOk x) (hok2 : ∀ x ∈ l, x.ty = 1 → x.off + x.fi < 18446744073709551616)
    (hnd : Fl (fun k => w.heap.size + 3 ≤ k) w0 1 encN vneed nd) (hndl : ∀ x ∈ nd, x < 18446744073709551616) (hndn : nd.length ≤ 65537) (ht : Bts (fun k => w.heap.size + 3 ≤ k) w0 vt t) (htl : t.length ≤ 65536)
    (hr : r = finD so b l ⟨nd, V⟩ t (needGo t nd [])) (hk : Keep No w w0) (hw3 : w.heap.size + 3 ≤ w0.heap.size) (hdb : w.heap.size + 3 ≤ db) (hgv : w.heap.size + 3 ≤ gv) (hdl : db < w0.heap.size) :
    Code.wp Tryz.prog (bodyFrom Tryz.f65 15) (bodyPost Tryz.prog Tryz.f65 (NmP w h vs vb r)) ⟨#[z0, z1, .pointer (some ⟨w.heap.size, 0, none⟩), z3, .pointer (some ⟨w.heap.size + 2, 0, none⟩), z5, z6, z7, .pointer (some ⟨db, 0, none⟩), z9, vt, z11, z12, z13, z14, z15, z16, z17, z18, z19, z20, z21, z22, z23, z24, z25, z26, z27, z28, z29, z30, z31, z32, z33, z34, z35, z36, z37, z38, z39, z40, z41, z42, z43, z44, z45, z46, z47, z48, z49, z50, z51, z52, z53, z54, z55, z56, z57, z58, z59, z60, z61, z62, z63, z64, z65, z66, z67, z68, z69, z70, z71, z72, z73, z74, z75, z76, z77, z78, z79, z80, z81, z82, z83, z84, z85, z86, z87, z88, z89, z90, z91, z92, z93, z94, z95, z96, z97, z98, z99, z100, z101, z102, z103, z104, z105, z106, z107, z108, z109, z110, z111, z112, z113, z114, z115, z116, z117, z118, z119, z120, z121, z122, z123, z124, z125, z126, z127, z128, z129, z130, z131, z132, z133, z134, z135, z136, z137, z138, z139, z140, z141, z142, z143, z144, z145, z146, z147, z148, z149, z150, z151, z152, z153, z154, z155, z156, z157, z158, z159, z160, z161, z162, z163, z164, z165, z166, z167, z168, z169, z170, z171, z172, z173, z174, z175, z176, z177, z178, z179, z180, z181, z182, z183, z184, z185, z186, z187, z188, z189, z190, z191, z192, z193, z194, z195, z196, z197, z198, z199, z200, z201, z202, z203, z204, z205, z206, z207, z208, z209, z210, z211, z212, z213, z214, z215, z216, z217, z218, z219, z220, z221, z222, z223, z224, z225, z226, z227, z228, z229, z230], []⟩ w0 := by
  have HC := Lib.hid (And.intro hs (And.intro hb (And.intro hok (And.intro hok2 (And.intro hVl hndl)))))
  obtain ⟨ng, hng⟩ : ∃ q, q = needGo t nd [] := ⟨_, rfl⟩
  rw [← hng] at hr
  have HR := Lib.hid hr
  have H0 : Hid (ng = needGo t (nd.drop 0) []) := Lib.hid hng
  obtain ⟨a1, p1, rfl, _, _⟩ := hs.shape
  obtain ⟨a3, p3, rfl, _, _⟩ := hnd.shape
  obtain ⟨a5, p5, rfl, _, _⟩ := Sl.shape ht
  obtain ⟨a6, p6, rfl, _, _⟩ := Sl.shape hb
  have hXl := hX.lt
  have htn : t.length ≤ 1099511627776 := by omega
  obtain ⟨n, hn1⟩ : ∃ n, n = nd.length := ⟨_, rfl⟩
  have HN := Lib.hid hn1
  rw [← hn1] at hnd hD hndn
  have HD := Lib.hid hD
  clear hr hng hs hb hok hok2 hVl hn1 hndl
  conv => arg 2; whnf
  go_upto_block 0 with fail
  go_cut [14, 15, 16] from 22 (fun _ _ _ wc => ∃ (vn : Value) (need : List BS), r = finS so need b l ⟨nd, V⟩ t ∧ Blk wc w.heap.size (imC h (.slice a1 l.length p1) so vn (.slice none 0 0) (.slice none 0 0) (.slice none 0 0) (.slice a6 b.length p6)).toArray 70 ∧ Keep (fun k => k = w.heap.size) w0 wc ∧ Fl (fun k => w.heap.size + 3 ≤ k) wc 1 encS vn need)
  case rest =>
    obtain ⟨vn, need, hr, hX2, hk2, hn2⟩ := hcut
    obtain ⟨hs, hb, hok, hok2, hVl, hndl⟩ := HC.out
    have hne : ∀ j, j < w0.heap.size → w.heap.size + 3 ≤ j → ¬ j = w.heap.size := fun j _ ha e => by omega
    have hR2 := hR.keep hk2 fun e => by have e2 : w.heap.size + 2 = w.heap.size := e; omega
    have hD2 := HD.out.keep hk2 fun e => by have e2 : db = w.heap.size := e; omega
    have hV2 := hV.keep hk2 fun e => by have e2 : gv = w.heap.size := e; omega
    have hkw2 : Keep No w wc := hk.trans hk2 fun j hj e => by have e2 : j = w.heap.size := e; omega
    refine use_k (by assumption) ?_
    exact named_b (A := A) hX2 hR2 hD2 hV2 hV7 hVl hs hb hbl hok hok2 hn2 (Sl.keep ht hk2 hne) htl hr hkw2 (Nat.le_trans hw3 hk2.size) hdb hgv
  case first =>
    go_wp2_with fail
    go_loopw [14, 15, 16] (fun iv _ _ wr => ∃ (i : Nat) (acc : List BS) (vn : Value), iv = .int .i64 (i : Int) ∧ i ≤ n ∧ Hid (ng = needGo t (nd.drop i) acc) ∧ acc.length = i ∧ Blk wr w.heap.size (imC h (.slice a1 l.length p1) so vn (.slice none 0 0) (.slice none 0 0) (.slice none 0 0) (.slice a6 b.length p6)).toArray 70 ∧ FlO wr w0.heap.size 9 1 encS vn acc ∧ Keep (fun j => j = w.heap.size) w0 wr ∧ w0.heap.size ≤ wr.heap.size) (fun iv _ _ _ => n - (intOf iv).toNat)
    case atStart => exact ⟨0, [], _, rfl, Nat.zero_le _, H0, rfl, hX, FlO.nil, Keep.refl _ _, Nat.le_refl _⟩
    case round =>
      obtain ⟨i, acc, vn, rfl, hi, HM, hal2, hXr, hO, hkr, hszr⟩ := hrel
      clear H0 hX
      generalize wr = wz at *
      have hner : ∀ j, j < w0.heap.size → w.heap.size + 3 ≤ j → ¬ j = w.heap.size := fun j _ ha e => by omega
      have hRz := hR.keep hkr fun e => by have e2 : w.heap.size + 2 = w.heap.size := e; omega
      have hDz := HD.out.keep hkr fun e => by have e2 : db = w.heap.size := e; omega
      have htz := Sl.keep ht hkr hner
      have hndz : Fl (fun k => w.heap.size + 3 ≤ k) wz 1 encN (.slice a3 n p3) nd := hnd.keep hkr hner
      have hkwz : Keep No w wz := hk.trans hkr fun j hj e => by have e2 : j = w.heap.size := e; omega
      obtain ⟨am, nm', cm, rfl⟩ : ∃ a n c, vn = .slice a n c := by
        obtain ⟨a, c, e, _⟩ := hO.fl.shape
        exact ⟨_, _, _, e⟩
      have d0 : wz.cell? ⟨db, 0, none⟩ = some (.slice a3 n p3) := hDz.cell 0
      rcases Nat.lt_or_ge i n with hlt | hge
      · have hil : i < nd.length := by rw [← HN.out]; exact hlt
        have hiz : (i : Int) < (n : Int) := by omega
        obtain ⟨g, off, cap, ev, _, hg, _, _, hc⟩ := hndz.at (fun _ => rfl) hil
        rw [← HN.out] at ev
        injection ev with e1 e2 e3
        subst e1 e3
        have hx := HC.out.2.2.2.2.2 _ (List.getElem_mem hil)
        have hm := HM.out
        rw [List.drop_eq_getElem_cons hil, needGo_cons] at hm
        have c0 := hc 0 _ rfl
        generalize nd[i] = x at *
        have hat := r02at_any (w := wz) t x htz htn hx
        generalize atM t x = am2 at *
        obtain ⟨ne, nb⟩ := am2
        dsimp only at hat hm
        have HM2 := Lib.hid hm
        rw [Nat.add_zero, Nat.mul_one] at c0
        clear hm HM hc e2
        by_cases hne : ne = 0
        · subst hne
          have hm := HM2.out
          rw [if_neg (by decide)] at hm
          have HM3 := Lib.hid hm
          have htl2 : (⟨nb.toArray⟩ : ByteArray).toList = nb := by rw [Lib.toList_data]
          have he : (⟨#[]⟩ : ByteArray).toList = [] := by rw [Lib.toList_data]
          clear hm HM2
          cases nb with
          | nil =>
            have hm := HM3.out
            rw [if_pos rfl] at hm
            have hr := HR.out
            rw [hm] at hr
            have hr : r = (11, nx0) := by rw [hr]; unfold finD; rw [if_pos (fun q => absurd q (by decide))]
            subst hr
            clear hm htl2 he
            go_wp2_with fail
            refine hat.mono ?_
            clear hat
            rintro e wq ⟨rfl, rfl⟩
            go_wp2_with (first | (with_reducible refine wl_ld rfl _ 70 rfl _ rfl ?_) | (with_reducible refine wl_stAgg rfl _ _ _ rfl _ _ rfl rfl ?_))
            refine rg_ld (hXr) Tryz.underlying70 rfl (by kernel_rfl) ?_
            go_wp2_with (with_reducible refine wl_stAgg rfl _ _ _ rfl _ _ rfl rfl ?_)
            refine rg_stAgg (hRz) (by kernel_rfl) (by rfl) imC_one ?_
            intro wf hBf hkf _
            go_wp2_with fail
            refine ret_blk_tmp rfl rfl hBf Tryz.underlying70 rfl (by kernel_rfl) rfl ?_
            exact ⟨_, rfl, rfl, imC_one, (hkwz).trans hkf (fun j hj e => by have e2 : j = w.heap.size + 2 := e; omega), fun q => absurd q (by first | assumption | omega | decide)⟩
          | cons ch rs =>
            have hm := HM3.out
            rw [if_neg (by simp)] at hm
            have HM4 := Lib.hid hm
            obtain ⟨bs, hbs⟩ : ∃ bs : ByteArray, bs = ⟨(ch :: rs).toArray⟩ := ⟨_, rfl⟩
            rw [← hbs] at hat htl2
            have HBS := Lib.hid hbs
            clear hm HM3 hbs
            go_wp2_with fail
            refine hat.mono ?_
            clear hat
            rintro e wq ⟨rfl, rfl⟩
            have x6 : wz.cell? ⟨w.heap.size, 6, none⟩ = some (.slice am nm' cm) := hXr.cell 6
            go_wp2_with (at_builtin; refine wl_append rfl _ _ _ _ rfl _ _ rfl rfl ?_)
            refine rg_push (P := Tryz.prog) (enc := encS) (x := ch :: rs) _ _ Tryz.underlying37 str_info (by rfl) (by decide) (by rw [HBS.out]; rfl) (by rfl) (by intro u hu; rw [List.mem_singleton.1 hu]; rfl) hO (by omega) (by decide) hszr ?_
            intro v8 w8 ho8 hk8 _
            obtain ⟨a8, n8, c8, rfl⟩ : ∃ a n c, v8 = .slice a n c := by
              obtain ⟨a, c, e, _⟩ := ho8.fl.shape
              exact ⟨_, _, _, e⟩
            have hX8 := hXr.own hO hk8 hXl
            have hk68 : Keep (fun j => j = w.heap.size) w0 w8 := hkr.trans hk8 fun j hj e => absurd (World.ownsRow.lt hO _ e.symm).1 (by omega)
            have hsz8 := Nat.le_trans hszr hk8.size
            have x6 := hX8.cell 6
            have f6 := hX8.frozen 6
            have hX9 : Blk (w8.setCell ⟨w.heap.size, 6, none⟩ (.slice a8 n8 c8)) w.heap.size (imC h (.slice a1 l.length p1) so (.slice a8 n8 c8) (.slice none 0 0) (.slice none 0 0) (.slice none 0 0) (.slice a6 b.length p6)).toArray 70 := hX8.set (i := 6) (.slice a8 n8 c8)
            have hk9 : Keep (fun j => j = w.heap.size) w8 (w8.setCell ⟨w.heap.size, 6, none⟩ (.slice a8 n8 c8)) := (Keep.refl (fun j => j = w.heap.size) w8).setCell (p := ⟨w.heap.size, 6, none⟩) (fun _ => rfl) _
            clear hX8 hO hk8 hkr hXr hRz hDz htz hndz hkwz htl2 he
            go_wp2_with fail
            generalize w8.setCell ⟨w.heap.size, 6, none⟩ (.slice a8 n8 c8) = w9 at *
            go_roundw
            case rel => exact ⟨i + 1, acc ++ [ch :: rs], _, by go_num, hlt, HM4, by rw [List.length_append, List.length_singleton, hal2], hX9, own_keep ho8 hk9 (fun j hj e => by have e2 : j = w.heap.size := e; omega), hk68.trans' hk9, Nat.le_trans hsz8 hk9.size⟩
            case measure => (simp [intOf]; try omega)
        · have hm := HM2.out
          rw [if_pos hne] at hm
          have hr := HR.out
          rw [hm] at hr
          have hr : r = (ne, nx0) := by rw [hr]; unfold finD; rw [if_pos hne]
          subst hr
          have gn : ((ne : Int) != 0) = true := by rw [bne_iff_ne]; omega
          generalize (⟨nb.toArray⟩ : ByteArray) = bs at *
          clear hm
          go_wp2_with fail
          refine hat.mono ?_
          clear hat
          rintro e wq ⟨rfl, rfl⟩
          go_wp2_with (first | (with_reducible refine wl_ld rfl _ 70 rfl _ rfl ?_) | (with_reducible refine wl_stAgg rfl _ _ _ rfl _ _ rfl rfl ?_))
          refine rg_ld (hXr) Tryz.underlying70 rfl (by kernel_rfl) ?_
          go_wp2_with (with_reducible refine wl_stAgg rfl _ _ _ rfl _ _ rfl rfl ?_)
          refine rg_stAgg (hRz) (by kernel_rfl) (by rfl) imC_one ?_
          intro wf hBf hkf _
          go_wp2_with fail
          refine ret_blk_tmp rfl rfl hBf Tryz.underlying70 rfl (by kernel_rfl) rfl ?_
          exact ⟨_, rfl, rfl, imC_one, (hkwz).trans hkf (fun j hj e => by have e2 : j = w.heap.size + 2 := e; omega), fun q => absurd q (by first | assumption | omega | decide)⟩
      · obtain rfl : i = n := Nat.le_antisymm hi hge
        have hm := HM.out
        rw [List.drop_of_length_le (by rw [← HN.out]; exact Nat.le_refl _)] at hm
        have hm : ng = (0, acc) := hm
        have hr := HR.out
        rw [hm] at hr
        have hr : r = finS so acc b l ⟨nd, V⟩ t := by rw [hr]; unfold finD; rw [if_neg fun q => q rfl]
        have HRF := Lib.hid hr
        clear hr hm HM HR
        go_wp2_with fail
        go_meet
        exact ⟨_, acc, HRF.out, hXr, hkr, hO.fl.mono fun j _ ha => Nat.le_trans hw3 ha.1⟩
end
set_option maxRecDepth 100000 in
set_option maxHeartbeats 6000000 in
theorem r09named_any (h : Hd) (vs vb : Value) (l : List Sg) (b : BS) (s : Sg) (hs : Fl A w 7 encSg vs l) (hb : Bts A w vb b) (hbl : b.length ≤ 65536) (hok : ∀ x ∈ l, SgOk x) (hok2 : ∀ x ∈ l, x.ty = 1 → x.off + x.fi < 18446744073709551616) (hsg : SgOk s) :
    Calls Tryz.prog 65 #[.agg (imC h vs [] (.slice none 0 0) (.slice none 0 0) (.slice none 0 0) (.slice none 0 0) vb).toArray, .agg (encSg s).toArray] w (NmP w h vs vb (namedX b l s)) := by
  have HC := Lib.hid (And.intro hs (And.intro hb (And.intro hok hok2)))
  have hcut := fun W (k : Keep No w W) => r01cut_any (w := W) b s.off s.fi (Sl.keep hb k fun _ _ _ h => h) (by omega) hsg.2.2.1 hsg.2.2.2.2.1
  obtain ⟨c, hc⟩ : ∃ c, c = cutM b s.off s.fi := ⟨_, rfl⟩
  obtain ⟨r, hr⟩ : ∃ r, r = namedX b l s := ⟨_, rfl⟩
  rw [← hr]
  rw [namedX_eq b l s c.2 (by rw [hc])] at hr
  rw [← hc] at hcut
  have hcl : c.2.length ≤ 65536 := by rw [hc]; exact Nat.le_trans (cutM_lt _ _ _) hbl
  have hby := fun W (k : Keep No w W) (addr size : Nat) (h1 : addr < 18446744073709551616) (h2 : size < 18446744073709551616) => r09bytes_any (w := W) h vs [] (.slice none 0 0) (.slice none 0 0) (.slice none 0 0) (.slice none 0 0) vb l b addr size (hs.no k) (Sl.keep hb k fun _ _ _ h => h) (by omega) hok hok2 h1 h2
  have HBY := Lib.hid hby
  have hal := fun a n => atI_len b l a n
  have HR := Lib.hid hr
  have HCUT := Lib.hid hcut
  have HAL := Lib.hid hal
  obtain ⟨x0, x1, x2, x3, x4, x5, x6⟩ := s
  unfold encSg
  dsimp only at hcut HCUT
  obtain ⟨a1, p1, rfl, _, _⟩ := hs.shape
  obtain ⟨a6, p6, rfl, _, _⟩ := Sl.shape hb
  dsimp only
  obtain ⟨ce, cb⟩ := c
  dsimp only at HCUT HR hcl
  clear hr hcut hby hal hc hs hb hok hok2 hsg
  have hicx : (imC h (.slice a1 l.length p1) [] (.slice none 0 0) (.slice none 0 0) (.slice none 0 0) (.slice none 0 0) (.slice a6 b.length p6)).toArray = #[.int .i64 (h.kind : Int), .int .u64 (h.entry : Int), .int .u64 (h.segs : Int), .int .i64 (h.count : Int), .slice a1 l.length p1, .string ⟨#[]⟩, .slice none 0 0, .slice none 0 0, .slice none 0 0, .slice none 0 0, .slice a6 b.length p6] := rfl
  rw [hicx]
  have HIC := Lib.hid hicx
  clear hicx
  go_enter Tryz.func65, Tryz.ntmps65
  go_wp2_with (with_reducible refine wl_stAgg rfl _ _ _ rfl _ _ rfl rfl ?_)
  have hkW1 : Keep No w (w.alloc (.cells #[.int .i64 (h.kind : Int), .int .u64 (h.entry : Int), .int .u64 (h.segs : Int), .int .i64 (h.count : Int), .slice a1 l.length p1, .string ⟨#[]⟩, .slice none 0 0, .slice none 0 0, .slice none 0 0, .slice none 0 0, .slice a6 b.length p6] 70)) := (Keep.refl _ _).alloc _
  have hBW1 : Blk (w.alloc (.cells #[.int .i64 (h.kind : Int), .int .u64 (h.entry : Int), .int .u64 (h.segs : Int), .int .i64 (h.count : Int), .slice a1 l.length p1, .string ⟨#[]⟩, .slice none 0 0, .slice none 0 0, .slice none 0 0, .slice none 0 0, .slice a6 b.length p6] 70)) w.heap.size #[.int .i64 (h.kind : Int), .int .u64 (h.entry : Int), .int .u64 (h.segs : Int), .int .i64 (h.count : Int), .slice a1 l.length p1, .string ⟨#[]⟩, .slice none 0 0, .slice none 0 0, .slice none 0 0, .slice none 0 0, .slice a6 b.length p6] 70 := Blk.new _ _ _
  have hzW1 : (w.alloc (.cells #[.int .i64 (h.kind : Int), .int .u64 (h.entry : Int), .int .u64 (h.segs : Int), .int .i64 (h.count : Int), .slice a1 l.length p1, .string ⟨#[]⟩, .slice none 0 0, .slice none 0 0, .slice none 0 0, .slice none 0 0, .slice a6 b.length p6] 70)).heap.size = w.heap.size + 1 := World.size_alloc _ _
  generalize w.alloc (.cells #[.int .i64 (h.kind : Int), .int .u64 (h.entry : Int), .int .u64 (h.segs : Int), .int .i64 (h.count : Int), .slice a1 l.length p1, .string ⟨#[]⟩, .slice none 0 0, .slice none 0 0, .slice none 0 0, .slice none 0 0, .slice a6 b.length p6] 70) = W1 at *
  have hkW2 : Keep No W1 (W1.alloc (.cells #[.int .u32 (x0 : Int), .int .u32 (x1 : Int), .int .u64 (x2 : Int), .int .u64 (x3 : Int), .int .u64 (x4 : Int), .int .u64 (x5 : Int), .int .u64 (x6 : Int)] 113)) := (Keep.refl _ _).alloc _
  have hBW2 : Blk (W1.alloc (.cells #[.int .u32 (x0 : Int), .int .u32 (x1 : Int), .int .u64 (x2 : Int), .int .u64 (x3 : Int), .int .u64 (x4 : Int), .int .u64 (x5 : Int), .int .u64 (x6 : Int)] 113)) W1.heap.size #[.int .u32 (x0 : Int), .int .u32 (x1 : Int), .int .u64 (x2 : Int), .int .u64 (x3 : Int), .int .u64 (x4 : Int), .int .u64 (x5 : Int), .int .u64 (x6 : Int)] 113 := Blk.new _ _ _
  have hzW2 : (W1.alloc (.cells #[.int .u32 (x0 : Int), .int .u32 (x1 : Int), .int .u64 (x2 : Int), .int .u64 (x3 : Int), .int .u64 (x4 : Int), .int .u64 (x5 : Int), .int .u64 (x6 : Int)] 113)).heap.size = W1.heap.size + 1 := World.size_alloc _ _
  generalize W1.alloc (.cells #[.int .u32 (x0 : Int), .int .u32 (x1 : Int), .int .u64 (x2 : Int), .int .u64 (x3 : Int), .int .u64 (x4 : Int), .int .u64 (x5 : Int), .int .u64 (x6 : Int)] 113) = W2 at *
  have hkW3 : Keep No W2 (W2.alloc (.cells #[.int .i64 0, .int .u64 0, .int .u64 0, .int .i64 0, .slice none 0 0, .string ⟨#[]⟩, .slice none 0 0, .slice none 0 0, .slice none 0 0, .slice none 0 0, .slice none 0 0] 70)) := (Keep.refl _ _).alloc _
  have hBW3 : Blk (W2.alloc (.cells #[.int .i64 0, .int .u64 0, .int .u64 0, .int .i64 0, .slice none 0 0, .string ⟨#[]⟩, .slice none 0 0, .slice none 0 0, .slice none 0 0, .slice none 0 0, .slice none 0 0] 70)) W2.heap.size #[.int .i64 0, .int .u64 0, .int .u64 0, .int .i64 0, .slice none 0 0, .string ⟨#[]⟩, .slice none 0 0, .slice none 0 0, .slice none 0 0, .slice none 0 0, .slice none 0 0] 70 := Blk.new _ _ _
  have hzW3 : (W2.alloc (.cells #[.int .i64 0, .int .u64 0, .int .u64 0, .int .i64 0, .slice none 0 0, .string ⟨#[]⟩, .slice none 0 0, .slice none 0 0, .slice none 0 0, .slice none 0 0, .slice none 0 0] 70)).heap.size = W2.heap.size + 1 := World.size_alloc _ _
  generalize W2.alloc (.cells #[.int .i64 0, .int .u64 0, .int .u64 0, .int .i64 0, .slice none 0 0, .string ⟨#[]⟩, .slice none 0 0, .slice none 0 0, .slice none 0 0, .slice none 0 0, .slice none 0 0] 70) = W3 at *
  have hs1 : W1.heap.size = w.heap.size + 1 := by omega
  have hs2 : W2.heap.size = w.heap.size + 2 := by omega
  have hs3 : W3.heap.size = w.heap.size + 3 := by omega
  have hX3 := (hBW1.keep hkW2 fun h => h).keep hkW3 fun h => h
  have hS3 := hBW2.keep hkW3 fun h => h
  have hR3 := hBW3
  rw [hs1] at hS3
  rw [hs2] at hR3
  have hk03 := (hkW1.trans' hkW2).trans' hkW3
  clear hBW1 hBW2 hBW3 hkW1 hkW2 hkW3 hzW1 hzW2 hzW3 hs1 hs2
  refine (HCUT.out W3 hk03).mono ?_
  rintro e w4 ⟨v4, rfl, h4, hk4⟩
  obtain ⟨a4, n4, c4, rfl⟩ : ∃ a n c, v4 = .slice a n c := by
    obtain ⟨a, c, e, _⟩ := h4.fl.shape
    exact ⟨_, _, _, e⟩
  have hget := r05get_any (w := w4) cb (fl_btsN h4.fl) (by omega)
  have hX4 := hX3.keep hk4 fun h => h
  have hR4 := hR3.keep hk4 fun h => h
  have hk04 := hk03.trans' hk4
  have hs4 := hk4.size
  rw [hs3] at hs4
  clear hX3 hR3 hS3 hk4 h4 HCUT hs3 hk03
  obtain ⟨k1, k2, k3, k4⟩ := dyM_ok cb
  generalize dyM cb = dd at *
  obtain ⟨de, nd, V⟩ := dd
  dsimp only at k1 k2 k3 k4 HR
  go_wp2_with fail
  refine hget.mono ?_
  clear hget
  rintro e w5 ⟨vn, gv, rfl, hn5, hgv, hV5, hk5⟩
  dsimp only at hn5 hV5
  have hX5 := hX4.keep hk5 fun h => h
  have hR5 := hR4.keep hk5 fun h => h
  have hk05 := hk04.trans' hk5
  have hs5 := hk5.size
  have hgl := hV5.lt
  obtain ⟨an, nn, cn, rfl⟩ : ∃ a n c, vn = .slice a n c := by
    obtain ⟨a, c, e, _⟩ := hn5.fl.shape
    exact ⟨_, _, _, e⟩
  go_wp2_with (with_reducible refine wl_stAgg rfl _ _ _ rfl _ _ rfl rfl ?_)
  have hkW6 : Keep No w5 (w5.alloc (.cells #[.slice none 0 0, .slice none 0 0] 121)) := (Keep.refl _ _).alloc _
  have hBW6 : Blk (w5.alloc (.cells #[.slice none 0 0, .slice none 0 0] 121)) w5.heap.size #[.slice none 0 0, .slice none 0 0] 121 := Blk.new _ _ _
  have hzW6 : (w5.alloc (.cells #[.slice none 0 0, .slice none 0 0] 121)).heap.size = w5.heap.size + 1 := World.size_alloc _ _
  generalize w5.alloc (.cells #[.slice none 0 0, .slice none 0 0] 121) = W6 at *
  refine rg_stAgg hBW6 (by kernel_rfl) (by rfl) (by simp [Value.oneCell']) ?_
  intro w7 hD7 hk7 hz7
  have hk57 : Keep (fun j => j = w5.heap.size) w5 w7 := (hkW6.mono fun _ _ h => h.elim).trans' hk7
  have hX7 := hX5.keep hk57 fun e => by have e2 : w.heap.size = w5.heap.size := e; omega
  have hR7 := hR5.keep hk57 fun e => by have e2 : w.heap.size + 2 = w5.heap.size := e; omega
  have hV7' := hV5.keep hk57 fun e => by have e2 : gv = w5.heap.size := e; omega
  have hn7 : Fl (fun k => w.heap.size + 3 ≤ k) w7 1 encN (.slice an nn cn) nd := (hn5.fl.keep hk57 fun j hj _ e => by have e2 : j = w5.heap.size := e; omega).mono fun j _ ha => by omega
  have hk07 : Keep No w w7 := hk05.trans hk57 fun j hj e => by have e2 : j = w5.heap.size := e; omega
  have hdl := hD7.lt
  have hdb : w.heap.size + 3 ≤ w5.heap.size := by omega
  have hgv3 : w.heap.size + 3 ≤ gv := by omega
  have hw7 : w.heap.size + 3 ≤ w7.heap.size := by omega
  generalize w5.heap.size = db at *
  clear hX4 hR4 hX5 hR5 hV5 hn5 hk57 hk7 hkW6 hBW6 hzW6 hz7 hk5 hk05 hk04 hs4 hs5 hgl hgv
  by_cases hde : de = 0
  · subst hde
    have hr := HR.out
    rw [if_neg (by decide)] at hr
    have HR1 := Lib.hid hr
    clear hr HR
    have l0 : V.getD 0 0 < 18446744073709551616 := k2 _ (by rw [List.getD_eq_getElem?_getD, List.getElem?_eq_getElem (by omega : 0 < V.length)]; exact List.getElem_mem _)
    have l1 : V.getD 1 0 < 18446744073709551616 := k2 _ (by rw [List.getD_eq_getElem?_getD, List.getElem?_eq_getElem (by omega : 1 < V.length)]; exact List.getElem_mem _)
    have l2 : V.getD 2 0 < 18446744073709551616 := k2 _ (by rw [List.getD_eq_getElem?_getD, List.getElem?_eq_getElem (by omega : 2 < V.length)]; exact List.getElem_mem _)
    have c0 := (hV7'.cell 0).trans (nums7_at (by omega))
    have c1 := (hV7'.cell 1).trans (nums7_at (by omega))
    have c2 := (hV7'.cell 2).trans (nums7_at (by omega))
    have cd : w7.cell? ⟨db, 1, none⟩ = some (.slice (some ⟨gv, 0, none⟩) 7 7) := hD7.cell 1
    have hbc := fun W k => HBY.out W k (V.getD 1 0) (V.getD 2 0) l1 l2
    have hal := HAL.out (V.getD 1 0) (V.getD 2 0)
    generalize V.getD 0 0 = v0 at *
    generalize V.getD 1 0 = v1 at *
    generalize V.getD 2 0 = v2 at *
    generalize atI b l v1 v2 = tt at *
    obtain ⟨te, tb⟩ := tt
    dsimp only at hal HR1
    have HBC := Lib.hid hbc
    have HVX := Lib.hid (And.intro k1 (And.intro k2 (And.intro k3 k4)))
    clear hbc HBY HAL k1 k2 k3 k4 l1 l2
    have hSS : ∀ W, Keep No w7 W → Blk W w.heap.size (imC h (.slice a1 l.length p1) [] (.slice none 0 0) (.slice none 0 0) (.slice none 0 0) (.slice none 0 0) (.slice a6 b.length p6)).toArray 70 ∧ W.cell? ⟨db, 1, none⟩ = some (.slice (some ⟨gv, 0, none⟩) 7 7) ∧ W.cell? ⟨gv, 1, none⟩ = some (.int .u64 (v1 : Int)) ∧ W.cell? ⟨gv, 2, none⟩ = some (.int .u64 (v2 : Int)) := fun W k =>
      ⟨hX7.keep k fun h => h, (k.cell (p := ⟨db, 1, none⟩) hD7.lt fun h => h).trans cd, (k.cell (p := ⟨gv, 1, none⟩) hV7'.lt fun h => h).trans c1, (k.cell (p := ⟨gv, 2, none⟩) hV7'.lt fun h => h).trans c2⟩
    have HSS := Lib.hid hSS
    clear hSS
    go_upto_region 5 with fail
    refine wp_region_sig (fun W => Blk W w.heap.size (imC h (.slice a1 l.length p1) [] (.slice none 0 0) (.slice none 0 0) (.slice none 0 0) (.slice none 0 0) (.slice a6 b.length p6)).toArray 70 ∧ W.cell? ⟨db, 1, none⟩ = some (.slice (some ⟨gv, 0, none⟩) 7 7) ∧ W.cell? ⟨gv, 1, none⟩ = some (.int .u64 (v1 : Int)) ∧ W.cell? ⟨gv, 2, none⟩ = some (.int .u64 (v2 : Int))) (fun j => decide (j ≤ 99)) [(0, true), (1, true), (2, true), (3, true), (4, true), (5, true), (6, true), (7, true), (8, true), (9, false), (10, true), (11, true), (12, true), (13, true), (14, true)] (by kernel_rfl) (by kernel_rfl) (by intro c a d v w h; cases d <;> exact h) (HSS.out _ (Keep.refl _ _).drew) ?_
    apply sig_still (o := ⟨some 46, _, _, _, _, _⟩) rfl rfl
    · intro w' hS
      exact run_ldo _ _ rfl w.heap.size 0 rfl (run_loadVar_row w' w.heap.size 70 70 _ _ _ hS.1 Tryz.underlying70 rfl (by kernel_rfl))
    go_frame
    apply sig_still (o := ⟨some 47, _, _, _, _, _⟩) rfl rfl
    · intro w' hS
      obtain ⟨q1, q2, q3, q4⟩ := hS
      first | (go_simp; done) | (go_simp; rfl) | rfl
    go_frame
    apply sig_still (o := ⟨some 48, _, _, _, _, _⟩) rfl rfl
    · intro w' hS
      obtain ⟨q1, q2, q3, q4⟩ := hS
      first | (go_simp; done) | (go_simp; rfl) | rfl
    go_frame
    apply sig_still (o := ⟨some 49, _, _, _, _, _⟩) rfl rfl
    · intro w' hS
      obtain ⟨q1, q2, q3, q4⟩ := hS
      first | (go_simp; done) | (go_simp; rfl) | rfl
    go_frame
    apply sig_still (o := ⟨some 50, _, _, _, _, _⟩) rfl rfl
    · intro w' hS
      obtain ⟨q1, q2, q3, q4⟩ := hS
      first | (go_simp; done) | (go_simp; rfl) | rfl
    go_frame
    apply sig_still (o := ⟨some 51, _, _, _, _, _⟩) rfl rfl
    · intro w' hS
      obtain ⟨q1, q2, q3, q4⟩ := hS
      first | (go_simp; done) | (go_simp; rfl) | rfl
    go_frame
    apply sig_still (o := ⟨some 52, _, _, _, _, _⟩) rfl rfl
    · intro w' hS
      obtain ⟨q1, q2, q3, q4⟩ := hS
      first | (go_simp; done) | (go_simp; rfl) | rfl
    go_frame
    apply sig_still (o := ⟨some 53, _, _, _, _, _⟩) rfl rfl
    · intro w' hS
      obtain ⟨q1, q2, q3, q4⟩ := hS
      first | (go_simp; done) | (go_simp; rfl) | rfl
    go_frame
    apply sig_still (o := ⟨some 54, _, _, _, _, _⟩) rfl rfl
    · intro w' hS
      obtain ⟨q1, q2, q3, q4⟩ := hS
      first | (go_simp; done) | (go_simp; rfl) | rfl
    go_frame
    refine sig_eff (o := ⟨some 55, _, _, _, _, _⟩) rfl rfl (fun K hKe => ?_)
    go_wp2_with fail
    refine (HBC.out _ hk07.drew).mono ?_
    rintro e w8 ⟨v8, rfl, h8, hk8⟩
    have hk78 : Keep No w7 w8 := ((Keep.refl No w7).drew).trans' hk8
    refine hKe _ _ ⟨fun _ => HSS.out _ hk78, ?_⟩
    apply sig_still (o := ⟨some 45, _, _, _, _, _⟩) rfl rfl
    · intro w' hS
      obtain ⟨q1, q2, q3, q4⟩ := hS
      first | (go_simp; done) | (go_simp; rfl) | rfl
    go_frame
    apply sig_still (o := ⟨some 56, _, _, _, _, _⟩) rfl rfl
    · intro w' hS
      obtain ⟨q1, q2, q3, q4⟩ := hS
      first | (go_simp; done) | (go_simp; rfl) | rfl
    go_frame
    apply sig_still (o := ⟨some 57, _, _, _, _, _⟩) rfl rfl
    · intro w' hS
      obtain ⟨q1, q2, q3, q4⟩ := hS
      first | (go_simp; done) | (go_simp; rfl) | rfl
    go_frame
    apply sig_still (o := ⟨some 10, _, _, _, _, _⟩) rfl rfl
    · intro w' hS
      obtain ⟨q1, q2, q3, q4⟩ := hS
      first | (go_simp; done) | (go_simp; rfl) | rfl
    go_frame
    apply sig_still (o := ⟨some 11, _, _, _, _, _⟩) rfl rfl
    · intro w' hS
      obtain ⟨q1, q2, q3, q4⟩ := hS
      first | (go_simp; done) | (go_simp; rfl) | rfl
    go_frame
    refine sig_nil ?_
    have hX8 := hX7.keep hk78 fun h => h
    have hR8 := hR7.keep hk78 fun h => h
    have hD8 := hD7.keep hk78 fun h => h
    have hV8 := hV7'.keep hk78 fun h => h
    have hn8 := hn7.no hk78
    have hk08 := hk07.trans' hk78
    have hw8 := Nat.le_trans hw7 hk78.size
    have hdl8 := Nat.lt_of_lt_of_le hdl hk78.size
    have ht8 : Bts (fun k => w.heap.size + 3 ≤ k) w8 v8 tb := Sl.mono (fl_btsN h8.fl) fun j _ ha => Nat.le_trans hw7 ha.1
    have c0 := (k_cell hk78 hV7'.lt).trans c0
    clear hX7 hR7 hD7 hV7' hn7 hk07 hk8 HSS hKe h8 HBC cd c1 c2 hw7 hdl hk78
    obtain ⟨a8, n8, c8, rfl⟩ : ∃ a n c, v8 = .slice a n c := by
      obtain ⟨a, c, e, _⟩ := Sl.shape ht8
      exact ⟨_, _, _, e⟩
    have cd : w8.cell? ⟨db, 1, none⟩ = some (.slice (some ⟨gv, 0, none⟩) 7 7) := hD8.cell 1
    by_cases hte : te = 0
    · subst hte
      have hr := HR1.out
      rw [if_neg (by decide)] at hr
      have HR2 := Lib.hid hr
      clear hr HR1
      have hck := r02chk_any (w := w8) tb ht8 (by omega)
      generalize chkN tb = cn' at *
      go_wp2_with fail
      refine hck.mono ?_
      clear hck
      rintro e w9 ⟨rfl, rfl⟩
      by_cases hcn : cn' = 0
      · subst hcn
        have hr := HR2.out
        rw [if_neg (by decide)] at hr
        have HR3 := Lib.hid hr
        clear hr HR2
        go_upto_if 70 with fail
        go_cut [12, 13] from 22 (fun _ _ wc => ∃ so : BS, r = finD so b l ⟨nd, V⟩ tb (needGo tb nd []) ∧ Blk wc w.heap.size (imC h (.slice a1 l.length p1) so (.slice none 0 0) (.slice none 0 0) (.slice none 0 0) (.slice none 0 0) (.slice a6 b.length p6)).toArray 70 ∧ Keep (fun k => k = w.heap.size) w8 wc)
        case rest =>
          obtain ⟨so, hr, hX2, hk2⟩ := hcut
          obtain ⟨hs, hb, hok, hok2⟩ := HC.out
          obtain ⟨k1, k2, k3, k4⟩ := HVX.out
          have hne : ∀ j, j < w8.heap.size → w.heap.size + 3 ≤ j → ¬ j = w.heap.size := fun j _ ha e => by omega
          have hR2 := hR8.keep hk2 fun e => by have e2 : w.heap.size + 2 = w.heap.size := e; omega
          have hD2 := hD8.keep hk2 fun e => by have e2 : db = w.heap.size := e; omega
          have hV2 := hV8.keep hk2 fun e => by have e2 : gv = w.heap.size := e; omega
          have hkw2 : Keep No w wc := hk08.trans hk2 fun j hj e => by have e2 : j = w.heap.size := e; omega
          refine use_k (by assumption) ?_
          exact named_a2 (A := A) hX2 hR2 hD2 hV2 k1 k2 hs hb hbl hok hok2 (hn8.keep hk2 hne) k3 (by omega) (Sl.keep ht8 hk2 hne) (by omega) hr hkw2 (Nat.le_trans hw8 hk2.size) hdb hgv3 (Nat.lt_of_lt_of_le hdl8 hk2.size)
        case first =>
          by_cases hv0 : v0 = 0
          · subst hv0
            have hr := HR3.out
            rw [show soM tb 0 = (0, []) from rfl, if_neg (by decide)] at hr
            have HRF := Lib.hid hr
            clear hr HR3
            go_wp2_with fail
            go_meet
            exact ⟨[], HRF.out, hX8, Keep.refl _ _⟩
          · have g0 : ((v0 : Int) != 0) = true := by rw [bne_iff_ne]; omega
            have hr := HR3.out
            rw [show soM tb v0 = atM tb v0 from if_neg hv0] at hr
            have hat := r02at_any (w := w8) tb v0 ht8 (by omega) l0
            generalize atM tb v0 = am2 at *
            obtain ⟨ne, nb⟩ := am2
            dsimp only at hat hr
            have HR4 := Lib.hid hr
            have x5 := hX8.cell 5
            have f5 := hX8.frozen 5
            have hX9 : Blk (w8.setCell ⟨w.heap.size, 5, none⟩ (.string ⟨nb.toArray⟩)) w.heap.size (imC h (.slice a1 l.length p1) nb (.slice none 0 0) (.slice none 0 0) (.slice none 0 0) (.slice none 0 0) (.slice a6 b.length p6)).toArray 70 := hX8.set (i := 5) (.string ⟨nb.toArray⟩)
            have HX9 := Lib.hid hX9
            generalize hbs : (⟨nb.toArray⟩ : ByteArray) = bs at *
            clear hr HR3 hX9 hbs
            go_wp2_with fail
            refine hat.mono ?_
            clear hat
            rintro e wq ⟨rfl, rfl⟩
            by_cases hne : ne = 0
            · subst hne
              have hr := HR4.out
              rw [if_neg (by decide)] at hr
              have HRF := Lib.hid hr
              have hk9 : Keep (fun j => j = w.heap.size) w8 (w8.setCell ⟨w.heap.size, 5, none⟩ (.string bs)) := (Keep.refl (fun j => j = w.heap.size) w8).setCell (p := ⟨w.heap.size, 5, none⟩) (fun _ => rfl) _
              clear hr HR4
              go_wp2_with fail
              go_meet
              exact ⟨nb, HRF.out, HX9.out, hk9⟩
            · have hr := HR4.out
              rw [if_pos hne] at hr
              subst hr
              have gn : ((ne : Int) != 0) = true := by rw [bne_iff_ne]; omega
              go_wp2_with (first | (with_reducible refine wl_ld rfl _ 70 rfl _ rfl ?_) | (with_reducible refine wl_stAgg rfl _ _ _ rfl _ _ rfl rfl ?_))
              refine rg_ld (hX8) Tryz.underlying70 rfl (by kernel_rfl) ?_
              go_wp2_with (with_reducible refine wl_stAgg rfl _ _ _ rfl _ _ rfl rfl ?_)
              refine rg_stAgg (hR8) (by kernel_rfl) (by rfl) imC_one ?_
              intro wf hBf hkf _
              go_wp2_with fail
              refine ret_blk_tmp rfl rfl hBf Tryz.underlying70 rfl (by kernel_rfl) rfl ?_
              exact ⟨_, rfl, rfl, imC_one, (hk08).trans hkf (fun j hj e => by have e2 : j = w.heap.size + 2 := e; omega), fun q => absurd q (by first | assumption | omega | decide)⟩
      · have gc : ((cn' : Int) != 0) = true := by rw [bne_iff_ne]; omega
        have hr := HR2.out
        rw [if_pos hcn] at hr
        subst hr
        go_wp2_with (first | (with_reducible refine wl_ld rfl _ 70 rfl _ rfl ?_) | (with_reducible refine wl_stAgg rfl _ _ _ rfl _ _ rfl rfl ?_))
        refine rg_ld (hX8) Tryz.underlying70 rfl (by kernel_rfl) ?_
        go_wp2_with (with_reducible refine wl_stAgg rfl _ _ _ rfl _ _ rfl rfl ?_)
        refine rg_stAgg (hR8) (by kernel_rfl) (by rfl) imC_one ?_
        intro wf hBf hkf _
        go_wp2_with fail
        refine ret_blk_tmp rfl rfl hBf Tryz.underlying70 rfl (by kernel_rfl) rfl ?_
        exact ⟨_, rfl, rfl, imC_one, (hk08).trans hkf (fun j hj e => by have e2 : j = w.heap.size + 2 := e; omega), fun q => absurd q (by first | assumption | omega | decide)⟩
    · have gc : ((te : Int) != 0) = true := by rw [bne_iff_ne]; omega
      have hr := HR1.out
      rw [if_pos hte] at hr
      subst hr
      go_wp2_with (first | (with_reducible refine wl_ld rfl _ 70 rfl _ rfl ?_) | (with_reducible refine wl_stAgg rfl _ _ _ rfl _ _ rfl rfl ?_))
      refine rg_ld (hX8) Tryz.underlying70 rfl (by kernel_rfl) ?_
      go_wp2_with (with_reducible refine wl_stAgg rfl _ _ _ rfl _ _ rfl rfl ?_)
      refine rg_stAgg (hR8) (by kernel_rfl) (by rfl) imC_one ?_
      intro wf hBf hkf _
      go_wp2_with fail
      refine ret_blk_tmp rfl rfl hBf Tryz.underlying70 rfl (by kernel_rfl) rfl ?_
      exact ⟨_, rfl, rfl, imC_one, (hk08).trans hkf (fun j hj e => by have e2 : j = w.heap.size + 2 := e; omega), fun q => absurd q (by first | assumption | omega | decide)⟩
  · have gd : ((de : Int) != 0) = true := by rw [bne_iff_ne]; omega
    have hr := HR.out
    rw [if_pos hde] at hr
    subst hr
    go_wp2_with (first | (with_reducible refine wl_ld rfl _ 70 rfl _ rfl ?_) | (with_reducible refine wl_stAgg rfl _ _ _ rfl _ _ rfl rfl ?_))
    refine rg_ld (hX7) Tryz.underlying70 rfl (by kernel_rfl) ?_
    go_wp2_with (with_reducible refine wl_stAgg rfl _ _ _ rfl _ _ rfl rfl ?_)
    refine rg_stAgg (hR7) (by kernel_rfl) (by rfl) imC_one ?_
    intro wf hBf hkf _
    go_wp2_with fail
    refine ret_blk_tmp rfl rfl hBf Tryz.underlying70 rfl (by kernel_rfl) rfl ?_
    exact ⟨_, rfl, rfl, imC_one, (hk07).trans hkf (fun j hj e => by have e2 : j = w.heap.size + 2 := e; omega), fun q => absurd q (by first | assumption | omega | decide)⟩
end
end Go.Proofs.YtbnahidopemkiaaGreat
