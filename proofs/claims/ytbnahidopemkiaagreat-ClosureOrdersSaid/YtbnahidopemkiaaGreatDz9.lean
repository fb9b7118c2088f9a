/- The document's symbols: Table. No condition. -/
import Derived.Test.YtbnahidopemkiaaGreatDz5
import Derived.Test.YtbnahidopemkiaaGreatRl2
import Derived.BigQuiet
set_option linter.unusedVariables false
set_option linter.unusedSimpArgs false
namespace Go.Dm.Oc
open Go
theorem getX1 {b : List UInt8} {i : Nat} (h : i < b.length) : getX b i 1 = b[i].toNat := by
  have e : getX b i 1 = leN ((b.drop i).take 1) := getX_in (k := 1) (by omega) (by omega)
  rw [e, List.drop_eq_getElem_cons h]
  show b[i].toNat + 256 * 0 = _
  omega
end Go.Dm.Oc
namespace Go.Dm.Oc
open Go Go.RowKit
theorem w24_of {p : Nat} (h : p ≤ 1000000000) : wrap64 ((p : Int) + 24) = ((p + 24 : Nat) : Int) ∧ IntKind.i64.wrap ((p : Int) + 24) = ((p + 24 : Nat) : Int) :=
  ⟨by unfold wrap64; omega, by rw [IntKind.wrap_i64]; omega⟩
end Go.Dm.Oc
namespace Go.Proofs.YtbnahidopemkiaaGreat
open Go.RowKit Go.Dm Go.Dm.Oc Go.Dm.Ld
section
variable {A : Nat → Prop} {w : World} {v : Value}
set_option maxRecDepth 100000 in
set_option maxHeartbeats 6000000 in
theorem r06tab_any (b : BS) (hb : Bts A w v b) (hl : b.length ≤ 1000000000) :
    Calls Tryz.prog 104 #[v] w fun e w' => ∃ v', e = .returned (.tuple #[v', .int .i64 ((syTab b).1 : Nat)]) ∧ FlO w' w.heap.size 46 6 encSy v' (syTab b).2 ∧ Keep No w w' := by
  have HB := Lib.hid hb
  obtain ⟨ao, co, rfl, hc1, hc2⟩ := hb.shape
  obtain ⟨r, hr⟩ : ∃ r, r = syTab b := ⟨_, rfl⟩
  rw [← hr]
  unfold syTab at hr
  have HR := Lib.hid hr
  clear hr hb
  have hg1 := fun W (k : Keep No w W) (p : Nat) (z : Int) (hp : p < 4000000000) (hz : z = 2 ∨ z = 4 ∨ z = 8) => r01get_any (w := W) b p z (Sl.keep HB.out k fun _ _ _ h => h) (by omega) (by omega) (by omega) (by omega)
  have HG := Lib.hid hg1
  obtain ⟨n, hn⟩ : ∃ n, n = b.length := ⟨_, rfl⟩
  have HN := Lib.hid hn
  rw [← hn] at hl HG ⊢
  clear hg1 hc1 hc2 hn
  by_cases hm : n % 24 = 0
  · have hr := HR.out
    rw [if_pos (by rw [← HN.out]; exact hm)] at hr
    have HR2 := Lib.hid hr
    have g1 : ((n : Int) % 24 != 0) = false := by rw [bne_eq_false_iff_eq]; omega
    have g2 : ((n : Int).tmod 24 != 0) = false := by rw [bne_eq_false_iff_eq, Int.tmod_eq_emod_of_nonneg (by omega)]; omega
    have hnz : (n : Int) ≤ 1000000000 := by omega
    have hO0 : Out w w 46 6 encSy (.slice none 0 0) ((List.range 0).map fun i => syIn b (24 * i)) := ⟨FlO.nil, Keep.refl _ _⟩
    clear hr HR
    go_enter Tryz.func104, Tryz.ntmps104
    go_wp2_with fail
    go_loopw [4, 5, 6, 7, 8, 9, 10, 11, 12, 13] (fun ov iv _ _ _ _ _ _ _ _ wr => ∃ j p : Nat, iv = .int .i64 (p : Int) ∧ p = 24 * j ∧ p ≤ n ∧ Out w wr 46 6 encSy ov ((List.range j).map fun i => syIn b (24 * i))) (fun _ iv _ _ _ _ _ _ _ _ _ => n - (intOf iv).toNat)
    case atStart => exact ⟨0, 0, rfl, rfl, Nat.zero_le _, hO0⟩
    case round =>
      obtain ⟨j, p, rfl, hp, hpn, hO⟩ := hrel
      have HP := Lib.hid hp
      clear hO0
      generalize wr = wz at *
      have hkz := hO.old (Keep.refl _ _)
      obtain ⟨ax, nx, cx, rfl⟩ := hO.sh
      rcases Nat.lt_or_ge p n with hlt | hge
      · have hpz : (p : Int) < (n : Int) := by omega
        have hp24 : p + 24 ≤ n := by omega
        have c1 := HG.out wz hkz p 4 (by omega) (by omega)
        have c2 := HG.out wz hkz (p + 6) 2 (by omega) (by omega)
        have c3 := HG.out wz hkz (p + 8) 8 (by omega) (by omega)
        have c4 := HG.out wz hkz (p + 16) 8 (by omega) (by omega)
        have hb4 : p + 4 < b.length := by rw [← HN.out]; omega
        have hb5 : p + 5 < b.length := by rw [← HN.out]; omega
        obtain ⟨g, off, cap, ev, _, hgl, _, _, hcell⟩ := HB.out.at (by omega : 0 < b.length)
        rw [← HN.out] at ev
        injection ev with e1 e2 e3
        subst e1 e3
        have v4' : w.cell? ⟨g, off + (p + 4), none⟩ = some (.int .u8 (b[p + 4].toNat : Int)) := hcell (p + 4) _ (by rw [List.getElem?_map, List.getElem?_eq_getElem hb4]; rfl)
        have v5' : w.cell? ⟨g, off + (p + 5), none⟩ = some (.int .u8 (b[p + 5].toNat : Int)) := hcell (p + 5) _ (by rw [List.getElem?_map, List.getElem?_eq_getElem hb5]; rfl)
        have hin : syIn b p = ⟨getX b p 4, b[p + 4].toNat, b[p + 5].toNat, getX b (p + 6) 2, getX b (p + 8) 8, getX b (p + 16) 8⟩ := by
          unfold syIn
          rw [getX1 hb4, getX1 hb5]
        have hrg : (List.range (j + 1)).map (fun i => syIn b (24 * i)) = (List.range j).map (fun i => syIn b (24 * i)) ++ [syIn b p] := by
          rw [List.range_succ, List.map_append, List.map_singleton, ← hp]
        have hx1 : getX b p 4 < 4294967296 := getX_lt b p 4
        have hx2 : getX b (p + 6) 2 < 65536 := getX_lt b (p + 6) 2
        have hx3 : getX b (p + 8) 8 < 18446744073709551616 := getX_lt b (p + 8) 8
        have hx4 : getX b (p + 16) 8 < 18446744073709551616 := getX_lt b (p + 16) 8
        rw [hin] at hrg
        clear hcell e2
        generalize getX b p 4 = y1 at *
        generalize getX b (p + 6) 2 = y2 at *
        generalize getX b (p + 8) 8 = y3 at *
        generalize getX b (p + 16) 8 = y4 at *
        generalize b[p + 4].toNat = z4 at *
        generalize b[p + 5].toNat = z5 at *
        generalize fitsE n p 4 = e1 at *
        generalize fitsE n (p + 6) 2 = e2 at *
        generalize fitsE n (p + 8) 8 = e3 at *
        generalize fitsE n (p + 16) 8 = e4 at *
        have q1 : IntKind.u32.wrap (y1 : Int) = (y1 : Int) := by rw [IntKind.wrap_u32]; omega
        have q2 : IntKind.u16.wrap (y2 : Int) = (y2 : Int) := by simp [IntKind.wrap, IntKind.bits, IntKind.signed]; omega
        have hw0 : IntKind.u64.wrap (p : Int) = (p : Int) := by rw [IntKind.wrap_u64]; omega
        obtain ⟨p4, hp4⟩ : ∃ q, q = p + 4 := ⟨_, rfl⟩
        obtain ⟨p5, hp5⟩ : ∃ q, q = p + 5 := ⟨_, rfl⟩
        obtain ⟨p6, hp6⟩ : ∃ q, q = p + 6 := ⟨_, rfl⟩
        obtain ⟨p8, hp8⟩ : ∃ q, q = p + 8 := ⟨_, rfl⟩
        obtain ⟨p16, hp16⟩ : ∃ q, q = p + 16 := ⟨_, rfl⟩
        rw [← hp4] at v4'
        rw [← hp5] at v5'
        have u4 := (hkz.cell (p := ⟨g, off + p4, none⟩) hgl fun h => h).trans v4'
        have u5 := (hkz.cell (p := ⟨g, off + p5, none⟩) hgl fun h => h).trans v5'
        have hS : ∀ W, Keep (fun j => w.heap.size ≤ j) w W → W.cell? ⟨g, off + p4, none⟩ = some (.int .u8 (z4 : Int)) ∧ W.cell? ⟨g, off + p5, none⟩ = some (.int .u8 (z5 : Int)) := fun W k =>
          ⟨(k.cell (p := ⟨g, off + p4, none⟩) hgl fun h => absurd hgl (Nat.not_lt.2 h)).trans v4', (k.cell (p := ⟨g, off + p5, none⟩) hgl fun h => absurd hgl (Nat.not_lt.2 h)).trans v5'⟩
        have HSS := Lib.hid hS
        clear hS v4' v5'
        rw [← hp6] at c2
        rw [← hp8] at c3
        rw [← hp16] at c4
        have s4 : (p : Int) + 4 = (p4 : Int) := by omega
        have s5 : (p : Int) + 5 = (p5 : Int) := by omega
        have s6 : (p : Int) + 6 = (p6 : Int) := by omega
        have s8 : (p : Int) + 8 = (p8 : Int) := by omega
        have s16 : (p : Int) + 16 = (p16 : Int) := by omega
        have l4 : (p4 : Int) < (n : Int) := by omega
        have l5 : (p5 : Int) < (n : Int) := by omega
        have l4n : p4 < n := by omega
        have l5n : p5 < n := by omega
        have hnb : (n : Int) ≤ 9223372036854775807 := by omega
        have z4i : (0 : Int) ≤ (p4 : Int) := by omega
        have z5i : (0 : Int) ≤ (p5 : Int) := by omega
        have ws4 : IntKind.i64.wrap ((p : Int) + 4) = (p4 : Int) := by rw [IntKind.wrap_i64]; omega
        have ws5 : IntKind.i64.wrap ((p : Int) + 5) = (p5 : Int) := by rw [IntKind.wrap_i64]; omega
        have hw6 : IntKind.u64.wrap (p6 : Int) = (p6 : Int) := by rw [IntKind.wrap_u64]; omega
        have hw8 : IntKind.u64.wrap (p8 : Int) = (p8 : Int) := by rw [IntKind.wrap_u64]; omega
        have hw16 : IntKind.u64.wrap (p16 : Int) = (p16 : Int) := by rw [IntKind.wrap_u64]; omega
        have HWV : Hid (wrap64 (p4 : Int) = (p4 : Int) ∧ wrap64 (p5 : Int) = (p5 : Int) ∧ IntKind.i64.wrap (p4 : Int) = (p4 : Int) ∧ IntKind.i64.wrap (p5 : Int) = (p5 : Int)) := Lib.hid ⟨by unfold wrap64; omega, by unfold wrap64; omega, by rw [IntKind.wrap_i64]; omega, by rw [IntKind.wrap_i64]; omega⟩
        have hll : ((List.range j).map fun i => syIn b (24 * i)).length ≤ 1000000000 := by rw [List.length_map, List.length_range]; omega
        have HRG := Lib.hid hrg
        clear hp hin hrg hp4 hp5 hp6 hp8 hp16 hx1 hx2 hx3 hx4 hb4 hb5
        go_wp2_with fail
        refine c1.mono ?_
        rintro e _ ⟨rfl, rfl⟩
        go_wp2_with fail
        refine c2.mono ?_
        rintro e _ ⟨rfl, rfl⟩
        go_wp2_with fail
        refine c3.mono ?_
        rintro e _ ⟨rfl, rfl⟩
        go_wp2_with fail
        refine c4.mono ?_
        rintro e _ ⟨rfl, rfl⟩
        clear c1 c2 c3 c4
        go_upto_region 11 with fail
        obtain ⟨wv4, wv5, wi4, wi5⟩ := HWV.out
        refine wp_region_sig (fun w' => w'.cell? ⟨g, off + p4, none⟩ = some (.int .u8 (z4 : Int)) ∧ w'.cell? ⟨g, off + p5, none⟩ = some (.int .u8 (z5 : Int))) (fun j => decide (j ≤ 20)) [(0, true), (1, true), (2, true), (3, true), (4, true), (5, true), (6, true), (7, true), (8, true), (9, true), (10, true), (11, true), (12, true), (13, true), (14, true), (15, true), (16, true), (17, true), (18, false), (19, false), (20, false)] (by kernel_rfl) (by kernel_rfl) (by intro c a d v w h; cases d <;> exact h) ⟨u4, u5⟩ ?_
        apply sig_still (o := ⟨some 55, _, _, _, _, _⟩) rfl rfl
        · intro w' hS
          obtain ⟨q1, q2⟩ := hS
          first | (go_simp; done) | (go_simp; rfl) | rfl
        go_frame
        apply sig_still (o := ⟨some 56, _, _, _, _, _⟩) rfl rfl
        · intro w' hS
          obtain ⟨q1, q2⟩ := hS
          first | (go_simp; done) | (go_simp; rfl) | rfl
        go_frame
        apply sig_still (o := ⟨some 57, _, _, _, _, _⟩) rfl rfl
        · intro w' hS
          obtain ⟨q1, q2⟩ := hS
          first | (go_simp; done) | (go_simp; rfl) | rfl
        go_frame
        apply sig_still (o := ⟨some 58, _, _, _, _, _⟩) rfl rfl
        · intro w' hS
          obtain ⟨q1, q2⟩ := hS
          first | (go_simp; done) | (go_simp; rfl) | rfl
        go_frame
        apply sig_still (o := ⟨some 59, _, _, _, _, _⟩) rfl rfl
        · intro w' hS
          obtain ⟨q1, q2⟩ := hS
          first | (go_simp; done) | (go_simp; rfl) | rfl
        go_frame
        apply sig_still (o := ⟨some 60, _, _, _, _, _⟩) rfl rfl
        · intro w' hS
          obtain ⟨q1, q2⟩ := hS
          first | (go_simp; done) | (go_simp; rfl) | rfl
        go_frame
        apply sig_still (o := ⟨some 61, _, _, _, _, _⟩) rfl rfl
        · intro w' hS
          obtain ⟨q1, q2⟩ := hS
          first | (go_simp; done) | (go_simp; rfl) | rfl
        go_frame
        apply sig_still (o := ⟨some 62, _, _, _, _, _⟩) rfl rfl
        · intro w' hS
          obtain ⟨q1, q2⟩ := hS
          first | (go_simp; done) | (go_simp; rfl) | rfl
        go_frame
        apply sig_still (o := ⟨some 63, _, _, _, _, _⟩) rfl rfl
        · intro w' hS
          obtain ⟨q1, q2⟩ := hS
          first | (go_simp; done) | (go_simp; rfl) | rfl
        go_frame
        apply sig_still (o := ⟨some 64, _, _, _, _, _⟩) rfl rfl
        · intro w' hS
          obtain ⟨q1, q2⟩ := hS
          first | (go_simp; done) | (go_simp; rfl) | rfl
        go_frame
        apply sig_still (o := ⟨some 65, _, _, _, _, _⟩) rfl rfl
        · intro w' hS
          obtain ⟨q1, q2⟩ := hS
          first | (go_simp; done) | (go_simp; rfl) | rfl
        go_frame
        apply sig_still (o := ⟨some 66, _, _, _, _, _⟩) rfl rfl
        · intro w' hS
          obtain ⟨q1, q2⟩ := hS
          first | (go_simp; done) | (go_simp; rfl) | rfl
        go_frame
        apply sig_still (o := ⟨some 67, _, _, _, _, _⟩) rfl rfl
        · intro w' hS
          obtain ⟨q1, q2⟩ := hS
          first | (go_simp; done) | (go_simp; rfl) | rfl
        go_frame
        apply sig_still (o := ⟨some 68, _, _, _, _, _⟩) rfl rfl
        · intro w' hS
          obtain ⟨q1, q2⟩ := hS
          first | (go_simp; done) | (go_simp; rfl) | rfl
        go_frame
        apply sig_still (o := ⟨some 69, _, _, _, _, _⟩) rfl rfl
        · intro w' hS
          obtain ⟨q1, q2⟩ := hS
          first | (go_simp; done) | (go_simp; rfl) | rfl
        go_frame
        apply sig_still (o := ⟨some 70, _, _, _, _, _⟩) rfl rfl
        · intro w' hS
          obtain ⟨q1, q2⟩ := hS
          first | (go_simp; done) | (go_simp; rfl) | rfl
        go_frame
        apply sig_still (o := ⟨some 71, _, _, _, _, _⟩) rfl rfl
        · intro w' hS
          obtain ⟨q1, q2⟩ := hS
          first | (go_simp; done) | (go_simp; rfl) | rfl
        go_frame
        apply sig_still (o := ⟨some 72, _, _, _, _, _⟩) rfl rfl
        · intro w' hS
          obtain ⟨q1, q2⟩ := hS
          first | (go_simp; done) | (go_simp; rfl) | rfl
        go_frame
        refine sig_eff (o := ⟨some 73, _, _, _, _, _⟩) rfl rfl (fun K hKe => ?_)
        go_wp2_with fail
        have hO1 := (hO.alloc (.cells #[.int .u32 (y1 : Int), .int .u8 (z4 : Int), .int .u8 (z5 : Int), .int .u16 (y2 : Int), .int .u64 (y3 : Int), .int .u64 (y4 : Int)] 46)).drew
        have hOd := hO.drew
        refine ⟨fun _ => HSS.out _ hO1.kept, ?_⟩
        refine sig_eff (o := ⟨some 74, _, _, _, _, _⟩) rfl rfl (fun K hKe => ?_)
        refine wo_append _ _ _ _ rfl _ _ rfl rfl ?_
        refine rg_push (P := Tryz.prog) (enc := encSy) (x := ⟨y1, z4, z5, y2, y3, y4⟩) (cs := #[.int .u32 (y1 : Int), .int .u8 (z4 : Int), .int .u8 (z5 : Int), .int .u16 (y2 : Int), .int .u64 (y3 : Int), .int .u64 (y4 : Int)]) _ _ Tryz.underlying57 symT_info (by rfl) (by decide) (by rfl) (by rfl) (encSy_one _) hOd.row (by omega) (by decide) hOd.base ?_
        intro v4 w4 ho4 hk4 hn4
        have hO4 := hOd.push ho4 hk4
        rw [← HRG.out] at hO4
        have hS4 := HSS.out _ hO4.kept
        refine hKe _ _ ⟨fun _ => hS4, ?_⟩
        obtain ⟨a4, n4, c4, rfl⟩ := hO4.sh
        clear ho4 hk4 hn4 hO1 hOd hO u4 u5
        refine sig_eff (o := ⟨some 4, _, _, _, _, _⟩) rfl rfl (fun K hKe => ?_)
        go_wp2_with fail
        refine ⟨fun _ => hS4, ?_⟩
        refine sig_nil ?_
        clear hS4 wv4 wv5 wi4 wi5
        obtain ⟨pn, hpn1⟩ : ∃ q, q = p + 24 := ⟨_, rfl⟩
        have hp9 : p ≤ 1000000000 := Nat.le_trans hpn hl
        have w24 : wrap64 ((p : Int) + 24) = (pn : Int) := (w24_of hp9).1.trans (by rw [← hpn1])
        have w24b : IntKind.i64.wrap ((p : Int) + 24) = (pn : Int) := (w24_of hp9).2.trans (by rw [← hpn1])
        have hrel1 : pn = 24 * (j + 1) := by rw [hpn1, HP.out]; rfl
        have hrel2 : pn ≤ n := by rw [hpn1]; exact hp24
        have hmea : n - pn < n - p := by rw [hpn1]; exact Nat.sub_lt_sub_left hlt (Nat.lt_add_of_pos_right (by decide))
        have HR1 := Lib.hid hrel1
        have HR3 := Lib.hid hmea
        clear hpn1 hrel1 hmea hp24
        go_wp2_with fail
        go_roundw
        case rel => exact ⟨j + 1, pn, by go_num, HR1.out, hrel2, hO4⟩
        case measure =>
          have h3 := HR3.out
          clear w24 w24b g1 g2 hnz hnb hO4 HWV HSS HRG HP
          simp [intOf]
          exact h3
      · obtain rfl : p = n := Nat.le_antisymm hpn hge
        have hr := HR2.out
        rw [← HN.out, show p / 24 = j from by omega] at hr
        subst hr
        clear hp
        go_wp2_with fail
        go_ret2
        exact ⟨_, rfl, hO.row, hkz⟩
  · have hr := HR.out
    rw [if_neg (by rw [← HN.out]; exact hm)] at hr
    subst hr
    have g1 : ((n : Int) % 24 != 0) = true := by rw [bne_iff_ne]; omega
    have g2 : ((n : Int).tmod 24 != 0) = true := by rw [bne_iff_ne, Int.tmod_eq_emod_of_nonneg (by omega)]; omega
    go_enter Tryz.func104, Tryz.ntmps104
    go_wp2_with fail
    go_ret2
    exact ⟨_, rfl, FlO.nil, Keep.refl _ _⟩
end
end Go.Proofs.YtbnahidopemkiaaGreat
