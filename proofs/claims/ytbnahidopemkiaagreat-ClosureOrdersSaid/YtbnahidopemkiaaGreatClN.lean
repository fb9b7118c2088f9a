/- image.reader: relocations, sound. image.reader: sound. image: what an image's cells say; Parse's first step. image: the steps of Parse, said plainly. The closure's circles, plainly; how long a needed name is. No condition. -/
import Derived.Test.YtbnahidopemkiaaGreatIm5
import Derived.Laws.EntriesVeiled
import Derived.Test.YtbnahidopemkiaaGreatEnt
import Derived.Test.YtbnahidopemkiaaGreatIm3
set_option linter.unusedVariables false
set_option linter.unusedSimpArgs false
namespace Go.Dm.Ld
open Go Go.Dm.Oc
theorem rlTab_len (b : BS) : (rlTab b).2.length ≤ b.length := by
  unfold rlTab
  split
  · rw [List.length_map, List.length_range]; omega
  · exact Nat.zero_le _
end Go.Dm.Ld
namespace Go.Proofs.YtbnahidopemkiaaGreat
open Go.RowKit Go.Dm Go.Dm.Oc Go.Dm.Ld
section
variable {A : Nat → Prop} {w : World} {R : Nat} {h : Hd} {vs vn vm vy vr vb vi vt : Value} {so : BS} {d0 d1 d2 d3 d4 d5 d6 : Nat}
def RelsP (B : Nat → Prop) (R : Nat) (w : World) (h : Hd) (vs : Value) (so : BS) (vn vm vy vb vi : Value) (d0 d1 d2 d3 d4 d5 d6 : Nat) (vt : Value) (r : Nat × List Rl) (w' : World) : Prop :=
  Keep (fun j => j = R) w w' ∧ (r.1 = 0 → ∃ vr', Blk w' R (rdB h vs so vn vm vy vr' vb vi d0 d1 d2 d3 d4 d5 d6 vt) 147 ∧ Fl B w' 4 encRl vr' r.2)
set_option maxRecDepth 100000 in
set_option maxHeartbeats 8000000 in
theorem imrels_any {B : Nat → Prop} (hNe : ∀ k, B k → k ≠ R) (hNw : ∀ k, w.heap.size ≤ k → B k) (l : List Sg) (b : BS) (d : Dy) (sl : List Sy) (hd : d.v = [d0, d1, d2, d3, d4, d5, d6]) (hB : Blk w R (rdB h vs so vn vm vy (.slice none 0 0) vb vi d0 d1 d2 d3 d4 d5 d6 vt) 147) (hl : Fl B w 7 encSg vs l) (hb : Bts B w vb b) (hbl : b.length ≤ 65536)
    (hok : ∀ x ∈ l, SgOk x) (hok2 : ∀ x ∈ l, x.ty = 1 → x.off + x.fi < 18446744073709551616) (hy : Fl B w 6 encSy vy sl) (hsl : sl.length ≤ 1099511627776) (o5 : d5 < 18446744073709551616) (o6 : d6 < 18446744073709551616) :
    Calls Tryz.prog 58 #[.pointer (some ⟨R, 0, none⟩)] w fun e w' => e = .returned (.int .i64 ((relsM b l d sl.length).1 : Nat)) ∧ RelsP B R w h vs so vn vm vy vb vi d0 d1 d2 d3 d4 d5 d6 vt (relsM b l d sl.length) w' := by
  have hH : Hid (relsM b l d sl.length = if 65536 < d.v.getD 6 0 then (13, [])
    else if d.v.getD 6 0 = 0 then (0, [])
    else
      let c := atI b l (d.v.getD 5 0) (d.v.getD 6 0)
      if c.1 ≠ 0 then (c.1, [])
      else if (rlTab c.2).1 ≠ 0 then ((rlTab c.2).1, [])
      else (chkR sl.length (rlTab c.2).2, (rlTab c.2).2)) := Lib.hid rfl
  generalize relsM b l d sl.length = res at *
  rw [hd] at hH
  have e6 : [d0, d1, d2, d3, d4, d5, d6].getD 6 0 = d6 := rfl
  have e5 : [d0, d1, d2, d3, d4, d5, d6].getD 5 0 = d5 := rfl
  rw [e6, e5] at hH
  clear e6 e5 hd
  dsimp only at hH
  have c18 : w.cell? ⟨R, 18, none⟩ = some (.int .u64 (d6 : Int)) := hB.cell 18
  have c17 : w.cell? ⟨R, 17, none⟩ = some (.int .u64 (d5 : Int)) := hB.cell 17
  by_cases h1 : 65536 < d6
  · have hH2 := hH.out.trans (if_pos h1)
    subst hH2
    have h1i : (65536 : Int) < (d6 : Int) := by omega
    clear hH
    go_enter Tryz.func58, Tryz.ntmps58
    go_wp2_with fail
    go_ret
    exact ⟨rfl, Keep.refl _ _, fun h => absurd h (by decide)⟩
  · have hH2 := Lib.hid (hH.out.trans (if_neg h1))
    have h1i : ¬ ((65536 : Int) < (d6 : Int)) := by omega
    clear hH
    by_cases h0 : d6 = 0
    · have hH3 := hH2.out.trans (if_pos h0)
      subst hH3
      have h0i : ((d6 : Int) == 0) = true := by rw [beq_iff_eq]; omega
      clear hH2 h0
      go_enter Tryz.func58, Tryz.ntmps58
      go_wp2_with fail
      go_ret
      exact ⟨rfl, Keep.refl _ _, fun _ => ⟨_, hB, Fl.nil⟩⟩
    · have hH3 := Lib.hid (hH2.out.trans (if_neg h0))
      have h0i : ((d6 : Int) == 0) = false := by rw [beq_eq_false_iff_ne]; omega
      clear hH2
      have hat := imat_any l b d5 d6 hB hl hb (by omega) hok hok2 o5 o6
      have hal := atI_lt b l d5 d6
      generalize atI b l d5 d6 = c at *
      obtain ⟨ce, cb⟩ := c
      dsimp only at hat hal hH3
      have HAt := Lib.hid hat
      clear hat
      go_enter Tryz.func58, Tryz.ntmps58
      go_wp2_with fail
      refine HAt.out.mono ?_
      clear HAt
      rintro e w1 ⟨vc, rfl, hoc, hk1⟩
      have hB1 := hB.keep hk1 fun h => h
      have hbc := bts_own hoc
      by_cases hce : ce = 0
      · subst hce
        have hH4 := Lib.hid (hH3.out.trans (if_neg (by decide)))
        clear hH3
        have htab := rltable_any cb hbc (by omega)
        have hrlen := rlTab_len cb
        have hrok := rlTab_ok cb
        generalize rlTab cb = st at *
        obtain ⟨re, rl⟩ := st
        dsimp only at htab hrlen hrok hH4
        obtain ⟨ac, qc, rfl, _, _⟩ := hbc.shape
        go_wp2_with fail
        refine htab.mono ?_
        clear htab
        rintro e w2 ⟨vr', rfl, hor, hk2⟩
        have hB2 := hB1.keep hk2 fun h => h
        have hfr := hor.fl
        obtain ⟨ay, qy, rfl, _, _⟩ := hfr.shape
        go_wp2_with (with_reducible refine wl_st rfl _ _ _ rfl _ _ _ rfl rfl ?_)
        refine rg_st1 hB2 (by kernel_rfl) (by show 9 < 20; decide) rfl rfl ?_
        intro w3 hB3' hk3 _
        have hB3 : Blk w3 R (rdB h vs so vn vm vy (.slice ay rl.length qy) vb vi d0 d1 d2 d3 d4 d5 d6 vt) 147 := hB3'
        have hfr3 : Fl B w3 4 encRl (.slice ay rl.length qy) rl := (hfr.keep hk3 fun j hj hh e => by
          have e2 : j = R := e
          have h1 : w1.heap.size ≤ j := hh.1
          have h2 := hB1.lt
          omega).mono fun j _ hh => hNw j (Nat.le_trans hk1.size hh.1)
        have hkw3 : Keep (fun j => j = R) w w3 := ((hk1.trans' hk2).mono (fun _ _ h => h.elim)).trans' hk3
        have hy3 := hy.keep hkw3 fun j _ h1 h2 => hNe j h1 h2
        clear hB1 hB2 hB3' hk1 hk2 hk3 hbc hoc hor hfr
        by_cases hre : re = 0
        · have hH5 := Lib.hid (hH4.out.trans (if_neg (by omega)))
          clear hH4
          subst hre
          rw [show ((0 : Nat) : Int) = 0 from rfl]
          obtain ⟨az, qz, ez, _, _⟩ := hy3.shape
          subst ez
          have q8 : w3.cell? ⟨R, 8, none⟩ = some (.slice az sl.length qz) := hB3.cell 8
          have q9 : w3.cell? ⟨R, 9, none⟩ = some (.slice ay rl.length qy) := hB3.cell 9
          have hchk : ∀ W, Keep No w3 W → Calls Tryz.prog 91 #[.slice ay rl.length qy, .int .i64 (sl.length : Int)] W fun e w' => e = .returned (.int .i64 (chkR sl.length rl : Nat)) ∧ Keep No W w' := fun W hk => rlcheck_any rl sl.length (hfr3.no hk) hrok (by omega)
          go_wp2_with fail
          refine wp_region_sig (fun w' => w'.cell? ⟨R, 8, none⟩ = some (.slice az sl.length qz) ∧ w'.cell? ⟨R, 9, none⟩ = some (.slice ay rl.length qy)) (fun j => decide (j ≤ 99)) [(0, true), (1, true), (2, true), (3, true), (4, true), (5, true), (6, true), (7, true), (8, true), (9, true), (10, true), (11, false), (12, true)] (by kernel_rfl) (by kernel_rfl) (by intro c a d v w h; cases d <;> exact h) ⟨q8, q9⟩ ?_
          apply sig_still (o := ⟨some 41, _, _, _, _, _⟩) rfl rfl
          · intro w' hS
            obtain ⟨q1, q2⟩ := hS
            first | (go_simp; done) | (go_simp; rfl) | rfl
          go_frame
          apply sig_still (o := ⟨some 42, _, _, _, _, _⟩) rfl rfl
          · intro w' hS
            obtain ⟨q1, q2⟩ := hS
            first | (go_simp; done) | (go_simp; rfl) | rfl
          go_frame
          apply sig_still (o := ⟨some 43, _, _, _, _, _⟩) rfl rfl
          · intro w' hS
            obtain ⟨q1, q2⟩ := hS
            first | (go_simp; done) | (go_simp; rfl) | rfl
          go_frame
          apply sig_still (o := ⟨some 44, _, _, _, _, _⟩) rfl rfl
          · intro w' hS
            obtain ⟨q1, q2⟩ := hS
            first | (go_simp; done) | (go_simp; rfl) | rfl
          go_frame
          apply sig_still (o := ⟨some 45, _, _, _, _, _⟩) rfl rfl
          · intro w' hS
            obtain ⟨q1, q2⟩ := hS
            first | (go_simp; done) | (go_simp; rfl) | rfl
          go_frame
          apply sig_still (o := ⟨some 46, _, _, _, _, _⟩) rfl rfl
          · intro w' hS
            obtain ⟨q1, q2⟩ := hS
            first | (go_simp; done) | (go_simp; rfl) | rfl
          go_frame
          apply sig_still (o := ⟨some 47, _, _, _, _, _⟩) rfl rfl
          · intro w' hS
            obtain ⟨q1, q2⟩ := hS
            first | (go_simp; done) | (go_simp; rfl) | rfl
          go_frame
          apply sig_still (o := ⟨some 48, _, _, _, _, _⟩) rfl rfl
          · intro w' hS
            obtain ⟨q1, q2⟩ := hS
            first | (go_simp; done) | (go_simp; rfl) | rfl
          go_frame
          apply sig_still (o := ⟨some 49, _, _, _, _, _⟩) rfl rfl
          · intro w' hS
            obtain ⟨q1, q2⟩ := hS
            first | (go_simp; done) | (go_simp; rfl) | rfl
          go_frame
          apply sig_still (o := ⟨some 50, _, _, _, _, _⟩) rfl rfl
          · intro w' hS
            obtain ⟨q1, q2⟩ := hS
            first | (go_simp; done) | (go_simp; rfl) | rfl
          go_frame
          apply sig_still (o := ⟨some 51, _, _, _, _, _⟩) rfl rfl
          · intro w' hS
            obtain ⟨q1, q2⟩ := hS
            first | (go_simp; done) | (go_simp; rfl) | rfl
          go_frame
          refine sig_eff (o := ⟨some 52, _, _, _, _, _⟩) rfl rfl (fun K hKe => ?_)
          go_wp2_with fail
          refine (hchk _ (Keep.refl No w3).drew).mono ?_
          rintro e w4 ⟨rfl, hk4⟩
          have hk4' : Keep No w3 w4 := (Keep.refl No w3).drew.trans' hk4
          have hB4 := hB3.keep hk4' fun h => h
          refine hKe _ _ ⟨fun _ => ⟨hB4.cell 8, hB4.cell 9⟩, ?_⟩
          clear hKe
          apply sig_still (o := ⟨some 2, _, _, _, _, _⟩) rfl rfl
          · intro w' hS
            obtain ⟨q1, q2⟩ := hS
            first | (go_simp; done) | (go_simp; rfl) | rfl
          go_frame
          refine sig_nil ?_
          go_wp2_with fail
          go_ret
          rw [hH5.out]
          exact ⟨rfl, hkw3.trans hk4' fun _ _ h => h.elim, fun _ => ⟨_, hB4, hfr3.no hk4'⟩⟩
        · have hrei : ((re : Int) == 0) = false := by rw [beq_eq_false_iff_ne]; omega
          have hH5 := hH4.out.trans (if_pos hre)
          subst hH5
          go_wp2_with fail
          go_ret
          exact ⟨rfl, hkw3, fun h => absurd h hre⟩
      · have hcei : ((ce : Int) == 0) = false := by rw [beq_eq_false_iff_ne]; omega
        have hH4 := hH3.out.trans (if_pos hce)
        subst hH4
        go_wp2_with fail
        go_ret
        exact ⟨rfl, hk1.mono (fun _ _ h => h.elim), fun h => absurd h hce⟩
end
end Go.Proofs.YtbnahidopemkiaaGreat
namespace Go.Proofs.YtbnahidopemkiaaGreat
open Go.RowKit Go.Dm Go.Dm.Oc Go.Dm.Ld
theorem sySound_cons (l : List Sg) (s : Sy) (r : List Sy) : sySound l (s :: r) = if s.sec = 0 then sySound l r else if s.inf % 16 = 6 then (match findM l 7 with | none => 11 | some t => if t.me < s.val then 11 else sySound l r) else if 4294967296 < s.val then 13 else sySound l r := rfl
section
variable {A : Nat → Prop} {w : World} {R : Nat} {h : Hd} {vs vn vm vy vr vb vi vt : Value} {so : BS} {d0 d1 d2 d3 d4 d5 d6 : Nat}
set_option maxRecDepth 100000 in
set_option maxHeartbeats 8000000 in
theorem imsound_any (l : List Sg) (rl : List Rl) (sl : List Sy) (hB : Blk w R (rdB h vs so vn vm vy vr vb vi d0 d1 d2 d3 d4 d5 d6 vt) 147) (hl : Fl A w 7 encSg vs l) (hok : ∀ x ∈ l, SgOk x) (hy : Fl A w 6 encSy vy sl) (hyok : ∀ x ∈ sl, SyOk x) (hr : Fl A w 4 encRl vr rl) (hrok : ∀ x ∈ rl, RlOk x) :
    Calls Tryz.prog 59 #[.pointer (some ⟨R, 0, none⟩)] w fun e w' => e = .returned (.int .i64 (soundM l rl sl : Nat)) ∧ Keep No w w' := by
  have HS : Hid (soundM l rl sl = if rl.any (fun x => decide (x.ty ≠ 0) && !loadedB l x.off) then 40 else sySound l sl) := Lib.hid rfl
  have HR := Lib.hid hr
  have HY := Lib.hid hy
  obtain ⟨ar, qr, rfl, hqr1, hqr2⟩ := hr.shape
  obtain ⟨ay, qy, rfl, hqy1, hqy2⟩ := hy.shape
  have hrl : rl.length ≤ 9223372036854775807 := by unfold maxLen at hqr2; omega
  have hyl : sl.length ≤ 9223372036854775807 := by unfold maxLen at hqy2; omega
  clear hr hy
  have c9 : w.cell? ⟨R, 9, none⟩ = some (.slice ar rl.length qr) := hB.cell 9
  go_enter Tryz.func59, Tryz.ntmps59
  go_wp2_with fail
  clear c9
  go_loopw [15] (fun iv wr => ∃ i : Nat, iv = .int .i64 i ∧ i ≤ rl.length ∧ (∀ j, j < i → ∀ x, rl[j]? = some x → (decide (x.ty ≠ 0) && !loadedB l x.off) = false) ∧ Keep No w wr) (fun iv _ => rl.length - (intOf iv).toNat)
  case atStart => exact ⟨0, rfl, Nat.zero_le _, (fun j hj => absurd hj (Nat.not_lt_zero _)), Keep.refl _ _⟩
  case round =>
    obtain ⟨i, rfl, hi, hno, hk⟩ := hrel
    generalize wr = wz at *
    rcases Nat.lt_or_ge i rl.length with hlt | hge
    · obtain ⟨g1, off, cap, ev, _, hg1, _, _, hc⟩ := (HR.out.no hk).at encRl_len hlt
      cases ev
      have hiz : (i : Int) < (rl.length : Int) := by omega
      obtain ⟨o0, o1, o2, o3⟩ := hrok rl[i] (List.getElem_mem hlt)
      have hload := fun W (hkk : Keep No w W) => imloaded_any (w := W) l rl[i].off (hB.keep hkk fun h => h) (hl.no hkk) hok o0
      have hfin : (decide (rl[i].ty ≠ 0) && !loadedB l rl[i].off) = true → soundM l rl sl = 40 := fun h => by
        rw [HS.out, if_pos (List.any_eq_true.2 ⟨_, List.getElem_mem hlt, h⟩)]
      have hno2 : (decide (rl[i].ty ≠ 0) && !loadedB l rl[i].off) = false → ∀ j, j < i + 1 → ∀ x, rl[j]? = some x → (decide (x.ty ≠ 0) && !loadedB l x.off) = false := fun h j hji x hx => by
        rcases Nat.lt_or_ge j i with h2 | h2
        · exact hno j h2 x hx
        · obtain rfl : j = i := by omega
          rw [List.getElem?_eq_getElem hlt] at hx
          cases hx
          exact h
      have HF := Lib.hid hfin
      have HN := Lib.hid hno2
      clear hno hfin hno2
      have c0 := hc 0 _ rfl
      have c1 := hc 1 _ rfl
      have c2 := hc 2 _ rfl
      have c3 := hc 3 _ rfl
      rw [Nat.add_zero] at c0
      clear hc
      generalize loadedB l rl[i].off = lo at *
      generalize addI rl[i].add = x3 at *
      generalize rl[i].off = x0 at *
      generalize rl[i].ty = x1 at *
      generalize rl[i].sym = x2 at *
      have HLo := Lib.hid hload
      clear hload
      by_cases hx1 : x1 = 0
      · have hx1i : ((x1 : Int) != 0) = false := by rw [bne_eq_false_iff_eq]; omega
        have HN2 := Lib.hid (HN.out (by simp [hx1]))
        clear HN HF hx1
        go_wp2_with fail
        go_roundw
        case rel => exact ⟨i + 1, rfl, hlt, HN2.out, hk.alloc _⟩
        case measure => simp [intOf]; omega
      · have hx1i : ((x1 : Int) != 0) = true := by rw [bne_iff_ne]; omega
        have hd1 : decide (x1 ≠ 0) = true := by simp [hx1]
        go_wp2_with fail
        have hkW : Keep No wz (wz.alloc (.cells #[.int .u64 (x0 : Int), .int .u32 (x1 : Int), .int .u32 (x2 : Int), .int .i64 x3] 115)) := (Keep.refl _ _).alloc _
        have hBW : Blk (wz.alloc (.cells #[.int .u64 (x0 : Int), .int .u32 (x1 : Int), .int .u32 (x2 : Int), .int .i64 x3] 115)) wz.heap.size #[.int .u64 (x0 : Int), .int .u32 (x1 : Int), .int .u32 (x2 : Int), .int .i64 x3] 115 := Blk.new _ _ _
        have hzW : (wz.alloc (.cells #[.int .u64 (x0 : Int), .int .u32 (x1 : Int), .int .u32 (x2 : Int), .int .i64 x3] 115)).heap.size = wz.heap.size + 1 := World.size_alloc _ _
        generalize wz.alloc (.cells #[.int .u64 (x0 : Int), .int .u32 (x1 : Int), .int .u32 (x2 : Int), .int .i64 x3] 115) = W at *
        have hkW2 := hk.trans' hkW
        refine (HLo.out W hkW2).mono ?_
        rintro e w2 ⟨rfl, hk2⟩
        clear c0 c1 c2 c3 hBW
        cases lo with
        | true =>
          have HN2 := Lib.hid (HN.out (by simp))
          clear HN HF
          go_wp2_with fail
          go_roundw
          case rel => exact ⟨i + 1, rfl, hlt, HN2.out, hkW2.trans' hk2⟩
          case measure => simp [intOf]; omega
        | false =>
          have HF2 := Lib.hid (HF.out (by simp [hx1]))
          clear HN HF
          go_wp2_with fail
          go_ret
          rw [HF2.out]
          exact ⟨rfl, hkW2.trans' hk2⟩
    · obtain rfl : i = rl.length := Nat.le_antisymm hi hge
      have hany : rl.any (fun x => decide (x.ty ≠ 0) && !loadedB l x.off) = false := by
        rw [Bool.eq_false_iff]
        intro h
        obtain ⟨x, hx, h⟩ := List.any_eq_true.1 h
        obtain ⟨j, hj, rfl⟩ := List.getElem_of_mem hx
        have := hno j hj _ (List.getElem?_eq_getElem hj)
        rw [h] at this
        cases this
      have HS2 : Hid (soundM l rl sl = sySound l sl) := Lib.hid (by rw [HS.out, hany]; rfl)
      clear hany hno HS
      have hBz := hB.keep hk fun h => h
      have hlz := hl.no hk
      have hyz := HY.out.no hk
      obtain ⟨as_, qs, es, _, _⟩ := hlz.shape
      subst es
      have c4 : wz.cell? ⟨R, 4, none⟩ = some (.slice as_ l.length qs) := hBz.cell 4
      have hfind := sgfind_any (w := wz) l 7 hlz
      have hsd : findM l 7 = if (findM l 7).isSome then some (sgD (findM l 7)) else none := by cases findM l 7 <;> rfl
      have hcc : (encSg (sgD (findM l 7))).toArray = #[.int .u32 ((sgD (findM l 7)).ty : Int), .int .u32 ((sgD (findM l 7)).fl : Int), .int .u64 ((sgD (findM l 7)).off : Int), .int .u64 ((sgD (findM l 7)).va : Int), .int .u64 ((sgD (findM l 7)).fi : Int), .int .u64 ((sgD (findM l 7)).me : Int), .int .u64 ((sgD (findM l 7)).al : Int)] := rfl
      rw [hcc] at hfind
      have hcons : ∀ (s : Sy) (r : List Sy), sySound l (s :: r) = if s.sec = 0 then sySound l r else if s.inf % 16 = 6 then (if (findM l 7).isSome = false ∨ (sgD (findM l 7)).me < s.val then 11 else sySound l r) else if 4294967296 < s.val then 13 else sySound l r := by
        intro s r
        rw [sySound_cons]
        split
        · rfl
        · split
          · cases findM l 7 with
            | none => simp
            | some t => simp [sgD]
          · rfl
      have HC := Lib.hid hcons
      clear hcons hsd hcc
      generalize (findM l 7).isSome = th at *
      generalize (sgD (findM l 7)).ty = y0 at *
      generalize (sgD (findM l 7)).fl = y1 at *
      generalize (sgD (findM l 7)).off = y2 at *
      generalize (sgD (findM l 7)).va = y3 at *
      generalize (sgD (findM l 7)).fi = y4 at *
      generalize (sgD (findM l 7)).me = y5 at *
      generalize (sgD (findM l 7)).al = y6 at *
      go_wp2_with fail
      refine hfind.mono ?_
      clear hfind
      rintro e w2 ⟨rfl, hk2⟩
      have hB2 := hBz.keep hk2 fun h => h
      have hkw2 := hk.trans' hk2
      have hy2 := hyz.no hk2
      have c8 : w2.cell? ⟨R, 8, none⟩ = some (.slice ay sl.length qy) := hB2.cell 8
      have hR2 := hB2.lt
      have hne2 : R ≠ w2.heap.size := Nat.ne_of_lt hR2
      clear hBz hyz c4
      go_wp2_with fail
      have hkw3 : Keep No w2 (w2.alloc (.cells #[.int .u32 (y0 : Int), .int .u32 (y1 : Int), .int .u64 (y2 : Int), .int .u64 (y3 : Int), .int .u64 (y4 : Int), .int .u64 (y5 : Int), .int .u64 (y6 : Int)] 113)) := (Keep.refl _ _).alloc _
      have hBw3 : Blk (w2.alloc (.cells #[.int .u32 (y0 : Int), .int .u32 (y1 : Int), .int .u64 (y2 : Int), .int .u64 (y3 : Int), .int .u64 (y4 : Int), .int .u64 (y5 : Int), .int .u64 (y6 : Int)] 113)) w2.heap.size #[.int .u32 (y0 : Int), .int .u32 (y1 : Int), .int .u64 (y2 : Int), .int .u64 (y3 : Int), .int .u64 (y4 : Int), .int .u64 (y5 : Int), .int .u64 (y6 : Int)] 113 := Blk.new _ _ _
      have hzw3 : (w2.alloc (.cells #[.int .u32 (y0 : Int), .int .u32 (y1 : Int), .int .u64 (y2 : Int), .int .u64 (y3 : Int), .int .u64 (y4 : Int), .int .u64 (y5 : Int), .int .u64 (y6 : Int)] 113)).heap.size = w2.heap.size + 1 := World.size_alloc _ _
      generalize w2.alloc (.cells #[.int .u32 (y0 : Int), .int .u32 (y1 : Int), .int .u64 (y2 : Int), .int .u64 (y3 : Int), .int .u64 (y4 : Int), .int .u64 (y5 : Int), .int .u64 (y6 : Int)] 113) = w3 at *
      have hkw3 := hkw2.trans' hkw3
      have hy3 := HY.out.no hkw3
      clear c8 hB2
      go_loopw [45] (fun iv wr => ∃ i : Nat, iv = .int .i64 i ∧ i ≤ sl.length ∧ sySound l (sl.drop i) = sySound l sl ∧ Keep No w3 wr) (fun iv _ => sl.length - (intOf iv).toNat)
      case atStart => exact ⟨0, rfl, Nat.zero_le _, rfl, Keep.refl _ _⟩
      case round =>
        obtain ⟨i, rfl, hi, hA, hk⟩ := hrel
        generalize wr = wv at *
        have hkwv := hkw3.trans' hk
        rcases Nat.lt_or_ge i sl.length with hlt | hge
        · obtain ⟨g1, off, cap, ev, _, hg1, _, _, hc⟩ := (hy3.no hk).at encSy_len hlt
          cases ev
          have hiz : (i : Int) < (sl.length : Int) := by omega
          have hsok := hyok sl[i] (List.getElem_mem hlt)
          rw [List.drop_eq_getElem_cons hlt, HC.out] at hA
          have hdef := fun w => sydef_any (w := w) sl[i]
          have hkind := fun w => sykind_any (w := w) sl[i] hsok.2.1
          obtain ⟨o0, o1, o2, o3, o4, o5⟩ := hsok
          have c0 := hc 0 _ rfl
          have c1 := hc 1 _ rfl
          have c2 := hc 2 _ rfl
          have c3 := hc 3 _ rfl
          have c4 := hc 4 _ rfl
          have c5 := hc 5 _ rfl
          rw [Nat.add_zero] at c0
          clear hc
          have hcs : (encSy sl[i]).toArray = #[.int .u32 (sl[i].nm : Int), .int .u8 (sl[i].inf : Int), .int .u8 (sl[i].oth : Int), .int .u16 (sl[i].sec : Int), .int .u64 (sl[i].val : Int), .int .u64 (sl[i].sz : Int)] := rfl
          rw [hcs] at hdef hkind
          clear hcs
          have hik : sl[i].inf % 16 < 16 := by omega
          generalize sl[i].inf % 16 = ik at *
          generalize sl[i].nm = x0 at *
          generalize sl[i].inf = x1 at *
          generalize sl[i].oth = x2 at *
          generalize sl[i].sec = x3 at *
          generalize sl[i].val = x4 at *
          generalize sl[i].sz = x5 at *
          have HA := Lib.hid hA
          have HD := Lib.hid hdef
          have HK := Lib.hid hkind
          clear hA hdef hkind
          go_wp2_with fail
          have hkW : Keep No wv (wv.alloc (.cells #[.int .u32 (x0 : Int), .int .u8 (x1 : Int), .int .u8 (x2 : Int), .int .u16 (x3 : Int), .int .u64 (x4 : Int), .int .u64 (x5 : Int)] 46)) := (Keep.refl _ _).alloc _
          have hBW : Blk (wv.alloc (.cells #[.int .u32 (x0 : Int), .int .u8 (x1 : Int), .int .u8 (x2 : Int), .int .u16 (x3 : Int), .int .u64 (x4 : Int), .int .u64 (x5 : Int)] 46)) wv.heap.size #[.int .u32 (x0 : Int), .int .u8 (x1 : Int), .int .u8 (x2 : Int), .int .u16 (x3 : Int), .int .u64 (x4 : Int), .int .u64 (x5 : Int)] 46 := Blk.new _ _ _
          have hzW : (wv.alloc (.cells #[.int .u32 (x0 : Int), .int .u8 (x1 : Int), .int .u8 (x2 : Int), .int .u16 (x3 : Int), .int .u64 (x4 : Int), .int .u64 (x5 : Int)] 46)).heap.size = wv.heap.size + 1 := World.size_alloc _ _
          generalize wv.alloc (.cells #[.int .u32 (x0 : Int), .int .u8 (x1 : Int), .int .u8 (x2 : Int), .int .u16 (x3 : Int), .int .u64 (x4 : Int), .int .u64 (x5 : Int)] 46) = W at *
          refine (HD.out W).mono ?_
          rintro e wa ⟨rfl, hka⟩
          have hBa := hBW.keep hka fun h => h
          have hkF := (hk.trans' hkW).trans' hka
          clear c0 c1 c2 c3 c4 c5 hBW HD
          by_cases h3 : x3 = 0
          · have hd3 : decide (x3 ≠ 0) = false := by simp [h3]
            rw [hd3]
            have HA2 := Lib.hid ((if_pos h3).symm.trans HA.out)
            clear HA h3 hd3
            go_wp2_with fail
            go_roundw
            case rel => exact ⟨i + 1, rfl, hlt, HA2.out, hkF⟩
            case measure => simp [intOf]; omega
          · have hd3 : decide (x3 ≠ 0) = true := by simp [h3]
            rw [hd3]
            have HA2 := Lib.hid ((if_neg h3).symm.trans HA.out)
            clear HA h3 hd3
            have d0 := hBa.cell 0
            have d1 := hBa.cell 1
            have d2 := hBa.cell 2
            have d3 := hBa.cell 3
            have d4 := hBa.cell 4
            have d5 := hBa.cell 5
            go_wp2_with fail
            refine (HK.out wa).mono ?_
            rintro e wb ⟨rfl, hkb⟩
            have hBb := hBa.keep hkb fun h => h
            have hBs := (hBw3.keep (hkF.trans' hkb) fun h => h)
            have hkF := hkF.trans' hkb
            clear d0 d1 d2 d3 d4 d5 hBa HK
            have d4 := hBb.cell 4
            have z5 := hBs.cell 5
            by_cases h6 : ik = 6
            · have h6i : ((ik : Int) == 6) = true := by rw [beq_iff_eq]; omega
              have HA3 := Lib.hid ((if_pos h6).symm.trans HA2.out)
              clear HA2 h6
              cases th with
              | false =>
                have HA4 := Lib.hid ((if_pos (.inl rfl)).symm.trans HA3.out)
                clear HA3
                go_wp2_with fail
                go_ret
                rw [HS2.out, ← HA4.out]
                exact ⟨rfl, hkw3.trans' hkF⟩
              | true =>
                by_cases hv : y5 < x4
                · have HA4 := Lib.hid ((if_pos (.inr hv)).symm.trans HA3.out)
                  have hvi : (y5 : Int) < (x4 : Int) := by omega
                  clear HA3
                  go_wp2_with fail
                  go_ret
                  rw [HS2.out, ← HA4.out]
                  exact ⟨rfl, hkw3.trans' hkF⟩
                · have HA4 := Lib.hid ((if_neg (by simp; omega)).symm.trans HA3.out)
                  have hvi : ¬ ((y5 : Int) < (x4 : Int)) := by omega
                  clear HA3
                  go_wp2_with fail
                  go_roundw
                  case rel => exact ⟨i + 1, rfl, hlt, HA4.out, hkF⟩
                  case measure => simp [intOf]; omega
            · have h6i : ((ik : Int) == 6) = false := by rw [beq_eq_false_iff_ne]; omega
              have HA3 := Lib.hid ((if_neg h6).symm.trans HA2.out)
              clear HA2 h6
              by_cases hv : 4294967296 < x4
              · have HA4 := Lib.hid ((if_pos hv).symm.trans HA3.out)
                have hvi : (4294967296 : Int) < (x4 : Int) := by omega
                clear HA3
                go_wp2_with fail
                go_ret
                rw [HS2.out, ← HA4.out]
                exact ⟨rfl, hkw3.trans' hkF⟩
              · have HA4 := Lib.hid ((if_neg hv).symm.trans HA3.out)
                have hvi : ¬ ((4294967296 : Int) < (x4 : Int)) := by omega
                clear HA3
                go_wp2_with fail
                go_roundw
                case rel => exact ⟨i + 1, rfl, hlt, HA4.out, hkF⟩
                case measure => simp [intOf]; omega
        · obtain rfl : i = sl.length := Nat.le_antisymm hi hge
          rw [List.drop_length] at hA
          have HA := Lib.hid hA
          clear hA
          go_wp2_with fail
          go_ret
          rw [HS2.out, ← HA.out]
          exact ⟨rfl, hkw3.trans' hk⟩
end
end Go.Proofs.YtbnahidopemkiaaGreat
namespace Go.Proofs.YtbnahidopemkiaaGreat
open Go.RowKit Go.Dm Go.Dm.Oc Go.Dm.Ld
/-- an image's cells -/
def imC (h : Hd) (vs : Value) (so : BS) (vn vm vy vr vb : Value) : List Value :=
  [.int .i64 (h.kind : Int), .int .u64 (h.entry : Int), .int .u64 (h.segs : Int), .int .i64 (h.count : Int), vs, .string ⟨so.toArray⟩, vn, vm, vy, vr, vb]
def ImR (A : Nat → Prop) (w : World) (cs : List Value) (im : Im) : Prop :=
  ∃ vs vn vm vy vr vb, cs = imC im.hd vs im.so vn vm vy vr vb ∧ Fl A w 7 encSg vs im.segs ∧ Fl A w 1 encS vn im.need ∧ Fl A w 1 encS vm im.names ∧ Fl A w 6 encSy vy im.syms ∧ Fl A w 4 encRl vr im.rels ∧ Bts A w vb im.bytes
def im0C : List Value := [.int .i64 0, .int .u64 0, .int .u64 0, .int .i64 0, .slice none 0 0, .string ⟨#[]⟩, .slice none 0 0, .slice none 0 0, .slice none 0 0, .slice none 0 0, .slice none 0 0]
section
variable {A B S : Nat → Prop} {w w' : World} {cs : List Value} {im : Im}
theorem ImR.keep (h : ImR A w cs im) (hk : Keep S w w') (hS : ∀ j, j < w.heap.size → A j → ¬ S j) : ImR A w' cs im := by
  obtain ⟨vs, vn, vm, vy, vr, vb, e, h1, h2, h3, h4, h5, h6⟩ := h
  exact ⟨vs, vn, vm, vy, vr, vb, e, h1.keep hk hS, h2.keep hk hS, h3.keep hk hS, h4.keep hk hS, h5.keep hk hS, Sl.keep h6 hk hS⟩
theorem ImR.no (h : ImR A w cs im) (hk : Keep No w w') : ImR A w' cs im := h.keep hk fun _ _ _ h => h
theorem ImR.mono (h : ImR A w cs im) (hab : ∀ k, k < w.heap.size → A k → B k) : ImR B w cs im := by
  obtain ⟨vs, vn, vm, vy, vr, vb, e, h1, h2, h3, h4, h5, h6⟩ := h
  exact ⟨vs, vn, vm, vy, vr, vb, e, h1.mono hab, h2.mono hab, h3.mono hab, h4.mono hab, h5.mono hab, Sl.mono h6 hab⟩
theorem ImR.zero : ImR A w im0C im0 := ⟨_, _, _, _, _, _, rfl, Fl.nil, Fl.nil, Fl.nil, Fl.nil, Fl.nil, Sl.nil _ _ _⟩
theorem ImR.len (h : ImR A w cs im) : cs.length = 11 := by
  obtain ⟨vs, vn, vm, vy, vr, vb, rfl, _⟩ := h
  rfl
theorem ImR.one (h : ImR A w cs im) : ∀ u ∈ cs, u.oneCell' = true := by
  obtain ⟨vs, vn, vm, vy, vr, vb, rfl, h1, h2, h3, h4, h5, h6⟩ := h
  obtain ⟨a1, c1, rfl, _⟩ := h1.shape
  obtain ⟨a2, c2, rfl, _⟩ := h2.shape
  obtain ⟨a3, c3, rfl, _⟩ := h3.shape
  obtain ⟨a4, c4, rfl, _⟩ := h4.shape
  obtain ⟨a5, c5, rfl, _⟩ := h5.shape
  obtain ⟨a6, c6, rfl, _⟩ := h6.shape
  intro u hu
  simp only [imC, List.mem_cons, List.not_mem_nil, or_false] at hu
  rcases hu with rfl | rfl | rfl | rfl | rfl | rfl | rfl | rfl | rfl | rfl | rfl <;> rfl
end
theorem funcT_info : (Tryz.prog.info? 148).map (fun i => (i.zero, i.size, i.bytes)) = some (some .nilFunc, 1, 8) := by kernel_rfl
section
variable {A : Nat → Prop} {w : World} {R Q X : Nat} {h : Hd} {vs vn vm vy vr vb vi vt : Value} {so : BS} {d0 d1 d2 d3 d4 d5 d6 : Nat}
set_option maxRecDepth 100000 in
set_option maxHeartbeats 4000000 in
theorem imparse1_any {B : Nat → Prop} (hNe : ∀ k, B k → k ≠ R) (hNw : ∀ k, w.heap.size ≤ k → B k) (l : List Sg) (b : BS) (s : Sg) (hB : Blk w R (rdB h vs [] (.slice none 0 0) vm vy vr vb vi d0 d1 d2 d3 d4 d5 d6 vt) 147) (hl : Fl B w 7 encSg vs l) (hb : Bts B w vb b) (hbl : b.length ≤ 65536)
    (hok : ∀ x ∈ l, SgOk x) (hok2 : ∀ x ∈ l, x.ty = 1 → x.off + x.fi < 18446744073709551616) (hs : SgOk s) (hQ : w.cell? ⟨Q, 0, none⟩ = some (.pointer (some ⟨R, 0, none⟩))) (hX : Blk w X (encSg s).toArray 113) :
    Calls Tryz.prog 55 #[.pointer (some ⟨Q, 0, none⟩), .pointer (some ⟨X, 0, none⟩)] w fun e w' => e = .returned (.int .i64 ((namedM b l s).1 : Nat)) ∧ NamedP B R w h vs vm vy vr vb (namedM b l s) w' := by
  have hn := imnamed_any hNe hNw l b s hB hl hb hbl hok hok2 hs
  have hcs : (encSg s).toArray = #[.int .u32 (s.ty : Int), .int .u32 (s.fl : Int), .int .u64 (s.off : Int), .int .u64 (s.va : Int), .int .u64 (s.fi : Int), .int .u64 (s.me : Int), .int .u64 (s.al : Int)] := rfl
  rw [hcs] at hn hX
  have c0 := hX.cell 0
  have c1 := hX.cell 1
  have c2 := hX.cell 2
  have c3 := hX.cell 3
  have c4 := hX.cell 4
  have c5 := hX.cell 5
  have c6 := hX.cell 6
  generalize namedM b l s = res at *
  generalize s.ty = x0 at *
  generalize s.fl = x1 at *
  generalize s.off = x2 at *
  generalize s.va = x3 at *
  generalize s.fi = x4 at *
  generalize s.me = x5 at *
  generalize s.al = x6 at *
  go_enter Tryz.func55, Tryz.ntmps55
  go_wp2_with fail
  refine hn.mono ?_
  rintro e w1 ⟨rfl, hp⟩
  go_wp2_with fail
  go_ret
  exact ⟨rfl, hp⟩
end
end Go.Proofs.YtbnahidopemkiaaGreat
namespace Go.Dm.Ld
open Go Go.Dm.Oc
def pY (b : BS) (l : List Sg) (s : Sg) : Nat × List Sy × List BS := symsM b l (namedM b l s).2.info (namedM b l s).2.table
def pX (b : BS) (l : List Sg) (s : Sg) : Nat × List Rl := relsM b l (namedM b l s).2.info (pY b l s).2.1.length
def pE (b : BS) (l : List Sg) (s : Sg) : Nat := soundM l (pX b l s).2 (pY b l s).2.1
theorem parseM_steps (b : BS) : parseM b = if 65536 < b.length then (13, im0)
    else if (shapeM b).1 ≠ 0 then ((shapeM b).1, im0)
    else
      match findM (shapeM b).2.2 2 with
      | none => if soundM (shapeM b).2.2 [] [] ≠ 0 then (soundM (shapeM b).2.2 [] [], im0) else (0, ⟨(shapeM b).2.1, (shapeM b).2.2, [], [], [], [], [], b⟩)
      | some s => if (namedM b (shapeM b).2.2 s).1 ≠ 0 then ((namedM b (shapeM b).2.2 s).1, im0)
        else if (pY b (shapeM b).2.2 s).1 ≠ 0 then ((pY b (shapeM b).2.2 s).1, im0)
        else if (pX b (shapeM b).2.2 s).1 ≠ 0 then ((pX b (shapeM b).2.2 s).1, im0)
        else if pE b (shapeM b).2.2 s ≠ 0 then (pE b (shapeM b).2.2 s, im0)
        else (0, ⟨(shapeM b).2.1, (shapeM b).2.2, (namedM b (shapeM b).2.2 s).2.so, (namedM b (shapeM b).2.2 s).2.need, (pY b (shapeM b).2.2 s).2.2, (pY b (shapeM b).2.2 s).2.1, (pX b (shapeM b).2.2 s).2, b⟩) := rfl
theorem namedM_ok {b : BS} {l : List Sg} {s : Sg} (h : (namedM b l s).1 = 0) : (∀ n ∈ (namedM b l s).2.info.v, n < 18446744073709551616) ∧ (namedM b l s).2.table.length ≤ b.length := by
  unfold namedM at h ⊢
  split at h
  · rename_i h1; exact absurd h h1
  · rename_i h1
    rw [if_neg h1]
    split at h
    · rename_i h2; exact absurd h h2
    · rename_i h2
      rw [if_neg h2]
      dsimp only at h ⊢
      split at h
      · rename_i h3; exact absurd h h3
      · rename_i h3
        rw [if_neg h3]
        split at h
        · rename_i h4; exact absurd h h4
        · rename_i h4
          rw [if_neg h4]
          split at h
          · rename_i h5; exact absurd h h5
          · rename_i h5
            rw [if_neg h5]
            split at h
            · rename_i h6; exact absurd h h6
            · rename_i h6
              rw [if_neg h6]
              exact ⟨(dyM_ok _).2.1, atI_lt _ _ _ _⟩
theorem symsM_ok (b : BS) (l : List Sg) (d : Dy) (t : BS) : (∀ s ∈ (symsM b l d t).2.1, SyOk s) ∧ (symsM b l d t).2.1.length ≤ b.length := by
  have hn : (∀ s ∈ ([] : List Sy), SyOk s) ∧ ([] : List Sy).length ≤ b.length := ⟨fun s hs => (by cases hs), Nat.zero_le _⟩
  unfold symsM
  split
  · exact hn
  · split
    · exact hn
    · dsimp only
      split
      · exact hn
      · split
        · exact hn
        · split
          · exact hn
          · exact ⟨syTab_ok _, Nat.le_trans (syTab_len _) (atI_lt _ _ _ _)⟩
theorem relsM_ok (b : BS) (l : List Sg) (d : Dy) (n : Nat) : (∀ s ∈ (relsM b l d n).2, RlOk s) ∧ (relsM b l d n).2.length ≤ b.length := by
  have hn : (∀ s ∈ ([] : List Rl), RlOk s) ∧ ([] : List Rl).length ≤ b.length := ⟨fun s hs => (by cases hs), Nat.zero_le _⟩
  unfold relsM
  split
  · exact hn
  · split
    · exact hn
    · dsimp only
      split
      · exact hn
      · split
        · exact hn
        · exact ⟨rlTab_ok _, Nat.le_trans (rlTab_len _) (atI_lt _ _ _ _)⟩
end Go.Dm.Ld
namespace Go.Proofs.YtbnahidopemkiaaGreat
open Go.RowKit Go.Dm Go.Dm.Oc Go.Dm.Ld
/-- how far the steps have come -/
def PSt (B : Nat → Prop) (R : Nat) (hd : Hd) (vs vb : Value) (l : List Sg) (b : BS) (s : Sg) (i : Nat) (w : World) : Prop :=
  ∃ so vn vm vy vr vi vt e0 e1 e2 e3 e4 e5 e6, Blk w R (rdB hd vs so vn vm vy vr vb vi e0 e1 e2 e3 e4 e5 e6 vt) 147 ∧
    (i = 0 → so = [] ∧ vn = .slice none 0 0) ∧ (i ≤ 1 → vm = .slice none 0 0 ∧ vy = .slice none 0 0) ∧ (i ≤ 2 → vr = .slice none 0 0) ∧
    (1 ≤ i → (namedM b l s).1 = 0 ∧ so = (namedM b l s).2.so ∧ (namedM b l s).2.info.v = [e0, e1, e2, e3, e4, e5, e6] ∧ Bts B w vt (namedM b l s).2.table ∧ Fl B w 1 encS vn (namedM b l s).2.need) ∧
    (2 ≤ i → (pY b l s).1 = 0 ∧ Fl B w 6 encSy vy (pY b l s).2.1 ∧ Fl B w 1 encS vm (pY b l s).2.2) ∧
    (3 ≤ i → (pX b l s).1 = 0 ∧ Fl B w 4 encRl vr (pX b l s).2) ∧ (4 ≤ i → pE b l s = 0)
section
variable {A : Nat → Prop} {w : World} {B : Nat → Prop} {R : Nat} {hd : Hd} {vs vb : Value} {l : List Sg} {b : BS} {s : Sg}
theorem PSt.facts {i : Nat} (h : PSt B R hd vs vb l b s i w) : (1 ≤ i → (namedM b l s).1 = 0) ∧ (2 ≤ i → (pY b l s).1 = 0) ∧ (3 ≤ i → (pX b l s).1 = 0) ∧ (4 ≤ i → pE b l s = 0) := by
  obtain ⟨so, vn, vm, vy, vr, vi, vt, e0, e1, e2, e3, e4, e5, e6, _, _, _, _, h3, h4, h5, h6⟩ := h
  exact ⟨fun h => (h3 h).1, fun h => (h4 h).1, fun h => (h5 h).1, h6⟩
/-- one step: what it answers, and what it leaves -/
def StepP (B : Nat → Prop) (R : Nat) (hd : Hd) (vs vb : Value) (l : List Sg) (b : BS) (s : Sg) (i : Nat) (e : Nat) (w : World) (E : Ending) (w' : World) : Prop :=
  E = .returned (.int .i64 (e : Int)) ∧ Keep (fun j => j = R) w w' ∧ (e = 0 → PSt B R hd vs vb l b s (i + 1) w')
theorem step0 {Q X : Nat} (hNe : ∀ k, B k → k ≠ R) (hNw : ∀ k, w.heap.size ≤ k → B k) (h : PSt B R hd vs vb l b s 0 w) (hl : Fl B w 7 encSg vs l) (hb : Bts B w vb b) (hbl : b.length ≤ 65536)
    (hok : ∀ x ∈ l, SgOk x) (hok2 : ∀ x ∈ l, x.ty = 1 → x.off + x.fi < 18446744073709551616) (hs : SgOk s) (hQ : w.cell? ⟨Q, 0, none⟩ = some (.pointer (some ⟨R, 0, none⟩))) (hX : Blk w X (encSg s).toArray 113) :
    Calls Tryz.prog 55 #[.pointer (some ⟨Q, 0, none⟩), .pointer (some ⟨X, 0, none⟩)] w (StepP B R hd vs vb l b s 0 (namedM b l s).1 w) := by
  obtain ⟨so, vn, vm, vy, vr, vi, vt, e0, e1, e2, e3, e4, e5, e6, hB, h0, h1, h2, _, _, _, _⟩ := h
  obtain ⟨rfl, rfl⟩ := h0 rfl
  obtain ⟨rfl, rfl⟩ := h1 (by decide)
  obtain rfl := h2 (by decide)
  refine (imparse1_any hNe hNw l b s hB hl hb hbl hok hok2 hs hQ hX).mono ?_
  rintro E w' ⟨rfl, hk, hp⟩
  refine ⟨rfl, hk, fun he => ?_⟩
  obtain ⟨vn', vi', vt', a0, a1, a2, a3, a4, a5, a6, hv, hB', ht, hn⟩ := hp he
  exact ⟨_, _, _, _, _, _, _, _, _, _, _, _, _, _, hB', fun h => absurd h (by decide), fun _ => ⟨rfl, rfl⟩, fun _ => rfl, fun _ => ⟨he, rfl, hv, ht, hn⟩, fun h => absurd h (by decide), fun h => absurd h (by decide), fun h => absurd h (by decide)⟩
theorem step1 (hNe : ∀ k, B k → k ≠ R) (hNw : ∀ k, w.heap.size ≤ k → B k) (h : PSt B R hd vs vb l b s 1 w) (hl : Fl B w 7 encSg vs l) (hb : Bts B w vb b) (hbl : b.length ≤ 65536)
    (hok : ∀ x ∈ l, SgOk x) (hok2 : ∀ x ∈ l, x.ty = 1 → x.off + x.fi < 18446744073709551616) :
    Calls Tryz.prog 57 #[.pointer (some ⟨R, 0, none⟩)] w (StepP B R hd vs vb l b s 1 (pY b l s).1 w) := by
  obtain ⟨so, vn, vm, vy, vr, vi, vt, e0, e1, e2, e3, e4, e5, e6, hB, _, h1, h2, h3, _, _, _⟩ := h
  obtain ⟨hn0, hso, hv, ht, hn⟩ := h3 (by decide)
  obtain ⟨rfl, rfl⟩ := h1 (by decide)
  obtain rfl := h2 (by decide)
  obtain ⟨hlt, htl⟩ := namedM_ok hn0
  rw [hv] at hlt
  refine (imsyms_any hNe hNw l b (namedM b l s).2.table (namedM b l s).2.info hv hB hl hb hbl hok hok2 ht (by omega) (hlt e3 (by simp)) (hlt e4 (by simp))).mono ?_
  rintro E w' ⟨rfl, hk, hp⟩
  refine ⟨rfl, hk, fun he => ?_⟩
  obtain ⟨vm', vy', hB', hy, hm⟩ := hp he
  exact ⟨_, _, _, _, _, _, _, _, _, _, _, _, _, _, hB', fun h => absurd h (by decide), fun h => absurd h (by decide), fun _ => rfl, fun _ => ⟨hn0, hso, hv, Sl.keep ht hk fun j _ h1 h2 => hNe j h1 h2, hn.keep hk fun j _ h1 h2 => hNe j h1 h2⟩, fun _ => ⟨he, hy, hm⟩, fun h => absurd h (by decide), fun h => absurd h (by decide)⟩
theorem step2 (hNe : ∀ k, B k → k ≠ R) (hNw : ∀ k, w.heap.size ≤ k → B k) (h : PSt B R hd vs vb l b s 2 w) (hl : Fl B w 7 encSg vs l) (hb : Bts B w vb b) (hbl : b.length ≤ 65536)
    (hok : ∀ x ∈ l, SgOk x) (hok2 : ∀ x ∈ l, x.ty = 1 → x.off + x.fi < 18446744073709551616) :
    Calls Tryz.prog 58 #[.pointer (some ⟨R, 0, none⟩)] w (StepP B R hd vs vb l b s 2 (pX b l s).1 w) := by
  obtain ⟨so, vn, vm, vy, vr, vi, vt, e0, e1, e2, e3, e4, e5, e6, hB, _, _, h2, h3, h4, _, _⟩ := h
  obtain ⟨hn0, hso, hv, ht, hn⟩ := h3 (by decide)
  obtain ⟨hy0, hy, hm⟩ := h4 (by decide)
  obtain rfl := h2 (by decide)
  obtain ⟨hlt, htl⟩ := namedM_ok hn0
  rw [hv] at hlt
  have hyl := (symsM_ok b l (namedM b l s).2.info (namedM b l s).2.table).2
  refine (imrels_any hNe hNw l b (namedM b l s).2.info (pY b l s).2.1 hv hB hl hb hbl hok hok2 hy (by unfold pY; omega) (hlt e5 (by simp)) (hlt e6 (by simp))).mono ?_
  rintro E w' ⟨rfl, hk, hp⟩
  refine ⟨rfl, hk, fun he => ?_⟩
  obtain ⟨vr', hB', hr⟩ := hp he
  have hK : ∀ j, j < w.heap.size → B j → ¬ j = R := fun j _ h1 h2 => hNe j h1 h2
  exact ⟨_, _, _, _, _, _, _, _, _, _, _, _, _, _, hB', fun h => absurd h (by decide), fun h => absurd h (by decide), fun h => absurd h (by decide), fun _ => ⟨hn0, hso, hv, Sl.keep ht hk hK, hn.keep hk hK⟩, fun _ => ⟨hy0, hy.keep hk hK, hm.keep hk hK⟩, fun _ => ⟨he, hr⟩, fun h => absurd h (by decide)⟩
theorem step3 (hNe : ∀ k, B k → k ≠ R) (h : PSt B R hd vs vb l b s 3 w) (hl : Fl B w 7 encSg vs l) (hok : ∀ x ∈ l, SgOk x) :
    Calls Tryz.prog 59 #[.pointer (some ⟨R, 0, none⟩)] w (StepP B R hd vs vb l b s 3 (pE b l s) w) := by
  obtain ⟨so, vn, vm, vy, vr, vi, vt, e0, e1, e2, e3, e4, e5, e6, hB, _, _, _, h3, h4, h5, _⟩ := h
  obtain ⟨hn0, hso, hv, ht, hn⟩ := h3 (by decide)
  obtain ⟨hy0, hy, hm⟩ := h4 (by decide)
  obtain ⟨hx0, hx⟩ := h5 (by decide)
  refine (imsound_any l (pX b l s).2 (pY b l s).2.1 hB hl hok hy (symsM_ok _ _ _ _).1 hx (relsM_ok _ _ _ _).1).mono ?_
  rintro E w' ⟨rfl, hk⟩
  have hK : ∀ j, j < w.heap.size → B j → ¬ No j := fun _ _ _ h => h
  exact ⟨rfl, hk.mono fun _ _ h => h.elim, fun he => ⟨_, _, _, _, _, _, _, _, _, _, _, _, _, _, hB.keep hk fun h => h, fun h => absurd h (by decide), fun h => absurd h (by decide), fun h => absurd h (by decide), fun _ => ⟨hn0, hso, hv, Sl.keep ht hk hK, hn.keep hk hK⟩, fun _ => ⟨hy0, hy.keep hk hK, hm.keep hk hK⟩, fun _ => ⟨hx0, hx.keep hk hK⟩, fun _ => he⟩⟩
end
end Go.Proofs.YtbnahidopemkiaaGreat
namespace Go.Dm.Ld
open Go Go.Dm.Oc
section
variable {us : List (BS × Im)} {S T : List BS} {x : BS}
theorem strip_mem : x ∈ strip us S ↔ x ∈ S ∧ ∃ u ∈ us, u.1 = x ∧ ∃ n ∈ u.2.need, n ∈ S := by
  unfold strip
  simp only [List.mem_filter, List.any_eq_true, Bool.and_eq_true, beq_iff_eq, List.contains_iff_mem]
theorem strip_sub (h : x ∈ strip us S) : x ∈ S := (strip_mem.1 h).1
theorem stripN_succ (us : List (BS × Im)) : ∀ (k : Nat) (S : List BS), stripN us (k + 1) S = strip us (stripN us k S)
  | 0, _ => rfl
  | k + 1, S => by
    show stripN us (k + 1) (strip us S) = _
    rw [stripN_succ us k (strip us S)]
    rfl
theorem strip_fix (h : strip us S = S) : Stuck us S := fun y hy => by
  rw [← h] at hy
  exact (strip_mem.1 hy).2
theorem stripN_fix (h : strip us S = S) : ∀ k, stripN us k S = S
  | 0 => rfl
  | k + 1 => by
    show stripN us k (strip us S) = S
    rw [h]
    exact stripN_fix h k
theorem stuck_stripN : ∀ (k : Nat) (S : List BS), S.length ≤ k → Stuck us (stripN us k S)
  | 0, S, h => by
    have : S = [] := List.length_eq_zero_iff.1 (by omega)
    subst this
    intro y hy
    cases hy
  | k + 1, S, h => by
    by_cases hs : (strip us S).length = S.length
    · have he : strip us S = S := by
        unfold strip at hs ⊢
        exact List.filter_eq_self.2 (List.length_filter_eq_length_iff.1 hs)
      rw [stripN_fix he]
      exact strip_fix he
    · have hle : (strip us S).length ≤ S.length := List.length_filter_le _ _
      exact stuck_stripN k _ (by omega)
theorem stripN_sub : ∀ (k : Nat) (S : List BS), ∀ x ∈ stripN us k S, x ∈ S
  | 0, _, _, h => h
  | k + 1, S, _, h => strip_sub (stripN_sub k (strip us S) _ h)
end
theorem atM_len (t : BS) (p : Nat) : (atM t p).2.length ≤ t.length := by
  unfold atM
  repeat' split
  all_goals first
    | exact Nat.zero_le _
    | exact Nat.le_trans (List.takeWhile_sublist _).length_le (by rw [List.length_drop]; omega)
theorem needGo_len (t : BS) : ∀ (l : List Nat) (acc : List BS), (∀ n ∈ acc, n.length ≤ t.length) → ∀ n ∈ (needGo t l acc).2, n.length ≤ t.length
  | [], acc, h => h
  | p :: r, acc, h => by
    unfold needGo
    split
    · intro n hn; cases hn
    · split
      · intro n hn; cases hn
      · refine needGo_len t r _ fun n hn => ?_
        rcases List.mem_append.1 hn with hn | hn
        · exact h n hn
        · rw [List.mem_singleton.1 hn]
          exact atM_len t p
theorem parseM_need (b : BS) : ∀ n ∈ (parseM b).2.need, n.length ≤ 65536 := by
  have h0 : ∀ n ∈ im0.need, n.length ≤ 65536 := fun n hn => by cases hn
  rw [parseM_steps]
  split
  · exact h0
  · rename_i hb
    have hb : b.length ≤ 65536 := by omega
    split
    · exact h0
    · split
      · split
        · exact h0
        · intro n hn; cases hn
      · rename_i s _
        split
        · exact h0
        · rename_i hn
          have hok := namedM_ok (Decidable.not_not.1 hn)
          repeat' split
          all_goals first
            | exact h0
            | skip
          intro n hn
          have hn : n ∈ (namedM b (shapeM b).2.2 s).2.need := hn
          revert hn
          have ht := hok.2
          revert ht
          unfold namedM
          dsimp only
          repeat' split
          all_goals first
            | (intro _ hn; cases hn; done)
            | skip
          intro ht hn
          exact Nat.le_trans (needGo_len _ _ _ (fun n hn => by cases hn) n hn) (Nat.le_trans ht hb)
end Go.Dm.Ld
