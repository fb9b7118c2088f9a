/- The document's order: circles. No condition. -/
import Derived.Test.YtbnahidopemkiaaGreatOgP
import Derived.Test.YtbnahidopemkiaaGreatDzB
import Derived.Test.YtbnahidopemkiaaGreatDzF
import Derived.Test.YtbnahidopemkiaaGreatDzE
import Derived.Test.YtbnahidopemkiaaGreatRdF
set_option linter.unusedVariables false
set_option linter.unusedSimpArgs false
namespace Go.Dm.Ld
open Go
theorem sIdx_mem : ∀ {l : List BS} {k : BS}, k ∈ l → ∃ p, ∃ h : p < l.length, sIdx l k = some p ∧ l[p] = k
  | s :: r, k, hk => by
    unfold sIdx
    by_cases h : s = k
    · exact ⟨0, Nat.succ_pos _, by rw [if_pos h], h⟩
    · rcases List.mem_cons.1 hk with rfl | hk
      · exact absurd rfl h
      · obtain ⟨p, hp, h1, h2⟩ := sIdx_mem hk
        exact ⟨p + 1, Nat.succ_lt_succ hp, by rw [if_neg h, h1]; rfl, h2⟩
theorem mul_le8 {i n : Nat} (hi : i ≤ n) (hn : n ≤ 8) : i * n ≤ 64 := Nat.le_trans (Nat.mul_le_mul hi hn) (by rw [Nat.mul_comm]; omega)
end Go.Dm.Ld
namespace Go.Proofs.YtbnahidopemkiaaGreat
open Go.RowKit Go.Dm Go.Dm.Oc Go.Dm.Ld
section
variable {A B : Nat → Prop} {w : World}
theorem UnOk.need {p : UC} {u : BS × Im} (h : UnOk A w p u) : Fl A w 1 encS p.vn u.2.need := by
  obtain ⟨_, vs, vn, vm, vy, vr, vb, e, h1, h2, h3⟩ := h
  have e2 : p.vn = vn := congrArg (fun l : List Value => l.getD 6 (.bool false)) e
  rw [e2]
  exact h2
/-- what Order yields -/
def Or15 (A : Nat → Prop) (w : World) (r : Nat × List (BS × Im)) (e : Ending) (w' : World) : Prop :=
  ∃ vo ps, e = .returned (.tuple #[vo, .int .i64 (r.1 : Nat)]) ∧ Fl (fun k => w.heap.size ≤ k) w' 12 encU vo ps ∧ UsOk (fun k => w.heap.size ≤ k ∨ A k) w' ps r.2 ∧ Keep No w w'
section
variable {z0 z1 z2 z3 z4 z5 z6 z7 z8 z9 z10 z11 z12 z13 z14 z15 z16 z17 z18 z19 z20 z21 z22 z23 z24 z25 z26 z27 z28 z29 z30 z31 z32 z33 z34 z35 z36 z37 z38 z39 z40 z41 z42 z43 z44 z45 z46 z47 z48 z49 z50 z51 z52 z53 z54 z55 z56 z57 z58 z59 z60 z61 z62 z63 z64 z65 z66 z67 z68 z69 z70 z71 z72 z73 z74 z75 z76 z77 z78 z79 z80 z81 z82 z83 z84 z85 z86 z87 z88 z89 z90 z91 z92 z93 z94 z95 z96 z97 z98 z99 z100 z101 z102 z103 z104 z105 z106 z107 z108 z109 z110 z111 z112 z113 z114 z115 z116 z117 z118 z119 z120 z121 z122 z123 z124 z125 z126 z127 z128 z129 z130 z131 z132 z133 z134 z135 z136 z137 z138 z139 z140 z141 z142 z143 z144 z145 z146 z147 z148 z149 z150 z151 z152 z153 z154 z155 z156 z157 z158 z159 z160 z161 z162 z163 z164 z165 z166 z167 z168 z169 z170 z171 z172 z173 z174 z175 z176 z177 z178 z179 z180 z181 z182 z183 : Value}
set_option maxRecDepth 100000 in
set_option maxHeartbeats 6000000 in
theorem ord_cyc {vn vo : Value} {names : List BS} {ps : List UC} {us : List (BS × Im)} {r : Nat × List (BS × Im)} {w0 : World}
    (hN : Fl (fun k => w.heap.size ≤ k) w0 1 encS vn names) (hO : Fl (fun k => w.heap.size ≤ k) w0 12 encU vo ps) (hU : UsOk (fun k => w.heap.size ≤ k ∨ A k) w0 ps us)
    (hnm : us.map (·.1) = names) (hnd : names.Nodup) (hall : ∀ u ∈ us, ∀ x ∈ u.2.need, x ∈ names) (h8 : us.length ≤ 8)
    (hr : r = if cycB us then (30, []) else (0, us)) (hk : Keep No w w0) :
    Code.wp Tryz.prog (bodyFrom Tryz.f8 22) (bodyPost Tryz.prog Tryz.f8 (Or15 A w r)) ⟨#[z0, z1, z2, z3, z4, z5, vn, vo, z8, z9, z10, z11, z12, z13, z14, z15, z16, z17, z18, z19, z20, z21, z22, z23, z24, z25, z26, z27, z28, z29, z30, z31, z32, z33, z34, z35, z36, z37, z38, z39, z40, z41, z42, z43, z44, z45, z46, z47, z48, z49, z50, z51, z52, z53, z54, z55, z56, z57, z58, z59, z60, z61, z62, z63, z64, z65, z66, z67, z68, z69, z70, z71, z72, z73, z74, z75, z76, z77, z78, z79, z80, z81, z82, z83, z84, z85, z86, z87, z88, z89, z90, z91, z92, z93, z94, z95, z96, z97, z98, z99, z100, z101, z102, z103, z104, z105, z106, z107, z108, z109, z110, z111, z112, z113, z114, z115, z116, z117, z118, z119, z120, z121, z122, z123, z124, z125, z126, z127, z128, z129, z130, z131, z132, z133, z134, z135, z136, z137, z138, z139, z140, z141, z142, z143, z144, z145, z146, z147, z148, z149, z150, z151, z152, z153, z154, z155, z156, z157, z158, z159, z160, z161, z162, z163, z164, z165, z166, z167, z168, z169, z170, z171, z172, z173, z174, z175, z176, z177, z178, z179, z180, z181, z182, z183], []⟩ w0 := by
  subst hnm
  have HU := Lib.hid hU
  have HO := Lib.hid hO
  have HN := Lib.hid hN
  have HR := Lib.hid hr
  have HND := Lib.hid hnd
  have HALL := Lib.hid hall
  obtain ⟨a1, p1, rfl, _, _⟩ := hN.shape
  obtain ⟨a2, p2, rfl, _, _⟩ := hO.shape
  have hpl : ps.length = us.length := hU.1
  rw [List.length_map] at HN ⊢
  rw [hpl] at HO ⊢
  obtain ⟨n, hn⟩ : ∃ n, n = us.length := ⟨_, rfl⟩
  have HL := Lib.hid hn
  obtain ⟨nn, hnn⟩ : ∃ q, q = n * n := ⟨_, rfl⟩
  rw [← hn] at HN HO h8 ⊢
  have hp0 : (n : Int) * (n : Int) = (nn : Int) := by rw [hnn, Int.natCast_mul]
  have hnb : nn ≤ 64 := by rw [hnn]; exact mul_le8 (Nat.le_refl _) h8
  have hnbz : (nn : Int) ≤ 64 := by omega
  have HNN := Lib.hid hnn
  clear hN hO hU hr hnd hall hn hnn
  conv => arg 2; whnf
  go_wp2_with (at_make; refine wl_make rfl _ _ _ rfl _ _ rfl rfl ?_)
  refine rg_make (n := nn) 4 (.bool false) 1 1 Tryz.underlying76 bool_infz (by omega) (by unfold maxLen; omega) ?_
  intro w1 hW1 hk1
  rw [made_bools] at hW1
  have hgl := hW1.lt
  have hk01 := hk.trans' hk1
  have hF0 : Hid (FillI us (List.replicate nn false) 0 0) := Lib.hid (by rw [HNN.out, HL.out]; exact FillI.init)
  generalize List.replicate nn false = W0 at *
  obtain ⟨gw, hgw⟩ : ∃ q, q = w0.heap.size := ⟨_, rfl⟩
  have hgw2 : w.heap.size ≤ gw := by rw [hgw]; exact hk.size
  have HGW := Lib.hid hgw
  rw [← hgw] at hW1 ⊢
  have hk1' : Keep (fun j => j = gw) w0 w1 := hk1.mono fun _ _ h => h.elim
  clear hgw
  go_wp2_with fail
  go_loopw [15, 16] (fun iv _ wr => ∃ (i : Nat) (W : List Bool), iv = .int .i64 (i : Int) ∧ i ≤ n ∧ Hid (FillI us W i 0) ∧ Blk wr gw (boolA W) 4 ∧ Keep (fun j => j = gw) w0 wr) (fun iv _ _ => n - (intOf iv).toNat)
  case atStart => exact ⟨0, W0, rfl, Nat.zero_le _, hF0, hW1, hk1'⟩
  case round =>
    clear hF0 hW1 hk1'
    obtain ⟨i, W, rfl, hi, HF, hW, hkr⟩ := hrel
    generalize wr = wz at *
    rcases Nat.lt_or_ge i n with hlt | hge
    · have hil : i < us.length := by rw [← HL.out]; exact hlt
      have hip : i < ps.length := by rw [hpl]; exact hil
      have hiz : (i : Int) < (n : Int) := by omega
      obtain ⟨m1, hm1⟩ : ∃ q, q = i * n := ⟨_, rfl⟩
      have hp1 : (i : Int) * (n : Int) = (m1 : Int) := by rw [hm1, Int.natCast_mul]
      have hm1b : m1 ≤ 64 := by rw [hm1]; exact mul_le8 hi h8
      have hm1z : (m1 : Int) ≤ 64 := by omega
      have HM1 := Lib.hid hm1
      have hneed := ((HU.out).2 i _ _ (List.getElem?_eq_getElem hip) (List.getElem?_eq_getElem hil)).need
      have hndi : Hid (ndAt us i = us[i].2.need) := Lib.hid (ndAt_at hil)
      have hallu := HALL.out _ (List.getElem_mem hil)
      have hcell : ∀ W, Keep (fun j => j = gw) w0 W → ∃ g off, a2 = some ⟨g, off, none⟩ ∧ W.cell? ⟨g, off + i * 12 + 7, none⟩ = some (ps[i]).vn := fun W k => by
        obtain ⟨g, off, cap, ev, _, _, _, _, hc⟩ := (HO.out.keep k fun j hj _ e => absurd hj (by rw [show j = gw from e, HGW.out]; exact Nat.lt_irrefl _)).at encU_len hip
        injection ev with e1 e2 e3
        exact ⟨g, off, e1, hc 7 _ rfl⟩
      obtain ⟨g, off, rfl, c7⟩ := hcell wz hkr
      have hcell2 : ∀ W, Keep (fun j => j = gw) w0 W → W.cell? ⟨g, off + i * 12 + 7, none⟩ = some (ps[i]).vn := fun W k => by
        obtain ⟨g', off', e1, c⟩ := hcell W k
        cases e1
        exact c
      generalize (ps[i]).vn = pv at *
      generalize us[i].2.need = need at *
      obtain ⟨a3, p3, rfl, hq1, hq2⟩ := hneed.shape
      have hnl : (need.length : Int) ≤ 9223372036854775807 := by unfold maxLen at hq2; omega
      obtain ⟨m, hm⟩ : ∃ q, q = need.length := ⟨_, rfl⟩
      have HM := Lib.hid hm
      rw [← hm] at hnl hneed hcell2 c7
      have HNE := Lib.hid hneed
      have HC2 := Lib.hid hcell2
      have HAU := Lib.hid hallu
      clear hm1 hcell hcell2 hneed hallu hm hq1 hq2 c7
      go_wp2_with fail
      go_loopw [16] (fun kv wr => ∃ (k : Nat) (W : List Bool), kv = .int .i64 (k : Int) ∧ k ≤ m ∧ Hid (FillI us W i k) ∧ Blk wr gw (boolA W) 4 ∧ Keep (fun j => j = gw) w0 wr) (fun kv _ => m - (intOf kv).toNat)
      case atStart => exact ⟨0, W, rfl, Nat.zero_le _, HF, hW, hkr⟩
      case round =>
        clear HF hW hkr
        obtain ⟨k, W, rfl, hkm, HF, hW, hkr⟩ := hrel
        generalize wr = wy at *
        have c7 := HC2.out wy hkr
        rcases Nat.lt_or_ge k m with hklt | hkge
        · have hkl : k < need.length := by rw [← HM.out]; exact hklt
          have hkz : (k : Int) < (m : Int) := by omega
          have hkeep : ∀ P : Nat → Prop, ∀ j, j < w0.heap.size → P j → ¬ j = gw := fun P j hj _ e => absurd hj (by rw [e, HGW.out]; exact Nat.lt_irrefl _)
          obtain ⟨g3, off3, cap3, ev, _, _, _, _, hc3⟩ := (HNE.out.keep hkr (hkeep _)).at (fun _ => rfl) hkl
          rw [← HM.out] at ev
          injection ev with e1 e2 e3
          subst e1 e3
          have n0 := hc3 0 _ rfl
          rw [Nat.add_zero, Nat.mul_one] at n0
          have hmem := HAU.out _ (List.getElem_mem hkl)
          have hat := r15at_any (v := .slice a1 n p1) (w := wy) (us.map (·.1)) need[k] (HN.out.keep hkr (hkeep _))
          obtain ⟨p, hp, hsx, hpe⟩ := sIdx_mem hmem
          rw [List.length_map] at hp
          rw [List.getElem_map] at hpe
          have hsz : sIdxZ (us.map (·.1)) need[k] = (p : Int) := by unfold sIdxZ; rw [hsx]
          rw [hsz] at hat
          have hpn : p < n := by rw [HL.out]; exact hp
          obtain ⟨q, hq⟩ : ∃ q, q = m1 + p := ⟨_, rfl⟩
          have hpq : (m1 : Int) + (p : Int) = (q : Int) := by omega
          have hqi : q = i * us.length + p := by rw [hq, HM1.out, HL.out]
          have hqn : q < nn := by rw [hqi, HNN.out, HL.out]; exact idx_lt hil hp
          have hqz : (q : Int) < (nn : Int) := by omega
          have hWl := HF.out.len
          have hFS := HF.out.put HND.out hil hp (by rw [hndi.out, List.getElem?_eq_getElem hkl, nmAt_at hp, hpe])
          rw [← hqi] at hFS
          have HFS := Lib.hid hFS
          have hWq : q < W.length := by rw [hWl, ← HL.out, ← HNN.out]; exact hqn
          have hWc := (hW.cell q).trans (boolA_at hWq)
          have hWf := hW.frozen q
          have hW5 := hW.set (i := q) (.bool true)
          rw [boolA_set] at hW5
          have hk5 : Keep (fun j => j = gw) w0 (wy.setCell ⟨gw, q, none⟩ (.bool true)) := hkr.setCell (p := ⟨gw, q, none⟩) (fun _ => rfl) _
          generalize need[k] = nk at *
          have HX := Lib.hid (And.intro hW5 hk5)
          clear hW5 hk5 hsx hpe hsz hq hqi hWl hFS hc3 e2 hmem hWq hqn hpn
          go_wp2_with fail
          refine hat.mono ?_
          clear hat
          rintro e wq ⟨rfl, rfl⟩
          go_wp2_with fail
          obtain ⟨hW5, hk5⟩ := HX.out
          generalize wy.setCell ⟨gw, q, none⟩ (.bool true) = w5 at *
          clear HX hWc hWf
          go_roundw
          case rel => exact ⟨k + 1, _, by go_num, hklt, HFS, hW5, hk5⟩
          case measure => (simp [intOf]; try omega)
        · obtain rfl : k = m := Nat.le_antisymm hkm hkge
          have HF2 := Lib.hid (HF.out.next (by rw [hndi.out, HM.out]; exact Nat.le_refl _))
          go_wp2_with fail
          go_roundw
          case rel => exact ⟨i + 1, W, by go_num, hlt, HF2, hW, hkr⟩
          case measure => (simp [intOf]; try omega)
    · obtain rfl : i = n := Nat.le_antisymm hi hge
      have HWI : Hid (WI us W 0 0 0) := Lib.hid (by
        have h := HF.out
        rw [HL.out] at h
        exact h.start)
      clear HF
      go_wp2_with fail
      go_loopw [17, 18, 19] (fun kv _ _ wr => ∃ (k : Nat) (W : List Bool), kv = .int .i64 (k : Int) ∧ k ≤ i ∧ Hid (WI us W k 0 0) ∧ Blk wr gw (boolA W) 4 ∧ Keep (fun j => j = gw) w0 wr) (fun kv _ _ _ => i - (intOf kv).toNat)
      case atStart => exact ⟨0, W, rfl, Nat.zero_le _, HWI, hW, hkr⟩
      case round =>
        clear hW hkr hge hi HWI
        generalize hin : i = n at *
        clear hin
        obtain ⟨k, W, rfl, hkn, HWI, hW, hkr⟩ := hrel
        generalize wr = wz at *
        rcases Nat.lt_or_ge k n with hlt | hge
        · have hkl : k < us.length := by rw [← HL.out]; exact hlt
          have hkz : (k : Int) < (n : Int) := by omega
          obtain ⟨mk, hmk⟩ : ∃ q, q = k * n := ⟨_, rfl⟩
          have hpk : (k : Int) * (n : Int) = (mk : Int) := by rw [hmk, Int.natCast_mul]
          have hmkb : mk ≤ 64 := by rw [hmk]; exact mul_le8 hkn h8
          have HMK := Lib.hid hmk
          clear hmk
          go_wp2_with fail
          go_loopw [18, 19] (fun iv _ wr => ∃ (i : Nat) (W : List Bool), iv = .int .i64 (i : Int) ∧ i ≤ n ∧ Hid (WI us W k i 0) ∧ Blk wr gw (boolA W) 4 ∧ Keep (fun j => j = gw) w0 wr) (fun iv _ _ => n - (intOf iv).toNat)
          case atStart => exact ⟨0, W, rfl, Nat.zero_le _, HWI, hW, hkr⟩
          case round =>
            clear hW hkr HWI
            obtain ⟨i, W, rfl, hi, HWI, hW, hkr⟩ := hrel
            generalize wr = wz2 at *
            rcases Nat.lt_or_ge i n with hilt | hige
            · have hil : i < us.length := by rw [← HL.out]; exact hilt
              have hiz : (i : Int) < (n : Int) := by omega
              obtain ⟨m1, hm1⟩ : ∃ q, q = i * n := ⟨_, rfl⟩
              have hp1 : (i : Int) * (n : Int) = (m1 : Int) := by rw [hm1, Int.natCast_mul]
              have hm1b : m1 ≤ 64 := by rw [hm1]; exact mul_le8 hi h8
              have HM1 := Lib.hid hm1
              obtain ⟨qk, hqk⟩ : ∃ q, q = m1 + k := ⟨_, rfl⟩
              have hpqk : (m1 : Int) + (k : Int) = (qk : Int) := by omega
              have hqki : qk = i * us.length + k := by rw [hqk, hm1, HL.out]
              have hqkn : qk < nn := by rw [hqki, HNN.out, HL.out]; exact idx_lt hil hkl
              have hqkz : (qk : Int) < (nn : Int) := by omega
              have HQK := Lib.hid hqki
              clear hm1 hqk hqki
              go_wp2_with fail
              go_loopw [19] (fun jv wr => ∃ (j : Nat) (W : List Bool), jv = .int .i64 (j : Int) ∧ j ≤ n ∧ Hid (WI us W k i j) ∧ Blk wr gw (boolA W) 4 ∧ Keep (fun j => j = gw) w0 wr) (fun jv _ => n - (intOf jv).toNat)
              case atStart => exact ⟨0, W, rfl, Nat.zero_le _, HWI, hW, hkr⟩
              case round =>
                clear hW hkr HWI
                obtain ⟨j, W, rfl, hj, HWI, hW, hkr⟩ := hrel
                generalize wr = wy at *
                rcases Nat.lt_or_ge j n with hjlt | hjge
                · have hjl : j < us.length := by rw [← HL.out]; exact hjlt
                  have hjz : (j : Int) < (n : Int) := by omega
                  obtain ⟨qj, hqj⟩ : ∃ q, q = mk + j := ⟨_, rfl⟩
                  have hpqj : (mk : Int) + (j : Int) = (qj : Int) := by omega
                  have hqji : qj = k * us.length + j := by rw [hqj, HMK.out, HL.out]
                  have hqjn : qj < nn := by rw [hqji, HNN.out, HL.out]; exact idx_lt hkl hjl
                  have hqjz : (qj : Int) < (nn : Int) := by omega
                  obtain ⟨qs, hqs⟩ : ∃ q, q = m1 + j := ⟨_, rfl⟩
                  have hpqs : (m1 : Int) + (j : Int) = (qs : Int) := by omega
                  have hqsi : qs = i * us.length + j := by rw [hqs, HM1.out, HL.out]
                  have hqsn : qs < nn := by rw [hqsi, HNN.out, HL.out]; exact idx_lt hil hjl
                  have hqsz : (qs : Int) < (nn : Int) := by omega
                  have hWl : W.length = nn := by rw [HWI.out.len, HNN.out, HL.out]
                  have c1 := (hW.cell qk).trans (boolA_at (by omega))
                  have c2 := (hW.cell qj).trans (boolA_at (by omega))
                  have c3 := (hW.cell qs).trans (boolA_at (by omega))
                  have fr := hW.frozen qs
                  have e1 : W.getD qk false = atW us.length W i k := by rw [HQK.out]; rfl
                  have e2 : W.getD qj false = atW us.length W k j := by rw [hqji]; rfl
                  have hno := HWI.out.no
                  have hyes := HWI.out.yes hkl hil hjl
                  rw [← hqsi] at hyes
                  rw [e1] at c1
                  rw [e2] at c2
                  generalize atW us.length W i k = b1 at *
                  generalize atW us.length W k j = b2 at *
                  generalize W.getD qs false = b3 at *
                  have HNO := Lib.hid hno
                  have HYES := Lib.hid hyes
                  clear hno hyes e1 e2 hqj hqji hqs hqsi hWl HWI
                  cases b1 with
                  | false =>
                    have HW2 := Lib.hid (HNO.out (Bool.false_and _))
                    go_wp2_with fail
                    go_roundw
                    case rel => exact ⟨j + 1, W, by go_num, hjlt, HW2, hW, hkr⟩
                    case measure => (simp [intOf]; try omega)
                  | true =>
                    cases b2 with
                    | false =>
                      have HW2 := Lib.hid (HNO.out rfl)
                      go_wp2_with fail
                      go_roundw
                      case rel => exact ⟨j + 1, W, by go_num, hjlt, HW2, hW, hkr⟩
                      case measure => (simp [intOf]; try omega)
                    | true =>
                      have HW2 := Lib.hid (HYES.out rfl rfl)
                      have hW5 := hW.set (i := qs) (.bool true)
                      rw [boolA_set] at hW5
                      have hk5 : Keep (fun j => j = gw) w0 (wy.setCell ⟨gw, qs, none⟩ (.bool true)) := hkr.setCell (p := ⟨gw, qs, none⟩) (fun _ => rfl) _
                      have HX := Lib.hid (And.intro hW5 hk5)
                      clear hW5 hk5
                      go_wp2_with fail
                      obtain ⟨hW5, hk5⟩ := HX.out
                      generalize wy.setCell ⟨gw, qs, none⟩ (.bool true) = w5 at *
                      clear HX c1 c2 c3 fr
                      go_roundw
                      case rel => exact ⟨j + 1, _, by go_num, hjlt, HW2, hW5, hk5⟩
                      case measure => (simp [intOf]; try omega)
                · obtain rfl : j = n := Nat.le_antisymm hj hjge
                  have HW2 : Hid (WI us W k (i + 1) 0) := Lib.hid (by
                    have h := HWI.out
                    rw [HL.out] at h
                    exact h.row)
                  go_wp2_with fail
                  go_roundw
                  case rel => exact ⟨i + 1, W, by go_num, hilt, HW2, hW, hkr⟩
                  case measure => (simp [intOf]; try omega)
            · obtain rfl : i = n := Nat.le_antisymm hi hige
              have HW2 : Hid (WI us W (k + 1) 0 0) := Lib.hid (by
                have h := HWI.out
                rw [HL.out] at h
                exact h.stage)
              go_wp2_with fail
              go_roundw
              case rel => exact ⟨k + 1, W, by go_num, hlt, HW2, hW, hkr⟩
              case measure => (simp [intOf]; try omega)
        · obtain rfl : k = n := Nat.le_antisymm hkn hge
          have hd0 : Hid (∀ a, a < 0 → atW us.length W a a = false) := Lib.hid fun a h => absurd h (Nat.not_lt_zero _)
          have hkeep : ∀ P : Nat → Prop, ∀ j, j < w0.heap.size → P j → ¬ j = gw := fun P j hj _ e => absurd hj (by rw [e, HGW.out]; exact Nat.lt_irrefl _)
          have hkf : Keep No w wz := hk.trans hkr fun j hj e => by have e2 : j = gw := e; omega
          have hWl : W.length = nn := by rw [HWI.out.len, HNN.out, HL.out]
          have HW2 : Hid (WI us W us.length 0 0) := Lib.hid (by
            have h := HWI.out
            rw [HL.out] at h
            exact h)
          have HKE := Lib.hid hkeep
          clear hkeep
          go_wp2_with fail
          go_loopw [20] (fun iv wr => ∃ i : Nat, iv = .int .i64 (i : Int) ∧ i ≤ k ∧ Hid (∀ a, a < i → atW us.length W a a = false) ∧ wz = wr) (fun iv _ => k - (intOf iv).toNat)
          case atStart => exact ⟨0, rfl, Nat.zero_le _, hd0, rfl⟩
          case round =>
            clear hd0
            obtain ⟨i, rfl, hi, HD, rfl⟩ := hrel
            rcases Nat.lt_or_ge i k with hilt | hige
            · have hil : i < us.length := by rw [← HL.out]; exact hilt
              have hiz : (i : Int) < (k : Int) := by omega
              obtain ⟨m1, hm1⟩ : ∃ q, q = i * k := ⟨_, rfl⟩
              have hp1 : (i : Int) * (k : Int) = (m1 : Int) := by rw [hm1, Int.natCast_mul]
              have hm1b : m1 ≤ 64 := by rw [hm1]; exact mul_le8 hi h8
              obtain ⟨qs, hqs⟩ : ∃ q, q = m1 + i := ⟨_, rfl⟩
              have hpqs : (m1 : Int) + (i : Int) = (qs : Int) := by omega
              have hqsi : qs = i * us.length + i := by rw [hqs, hm1, HL.out]
              have hqsn : qs < nn := by rw [hqsi, HNN.out, HL.out]; exact idx_lt hil hil
              have hqsz : (qs : Int) < (nn : Int) := by omega
              have c1 := (hW.cell qs).trans (boolA_at (by omega))
              have e1 : W.getD qs false = atW us.length W i i := by rw [hqsi]; rfl
              rw [e1] at c1
              have hfound := fun h => HW2.out.found HND.out hil h
              generalize hb : atW us.length W i i = b1 at *
              have HB := Lib.hid hb
              have HFO := Lib.hid hfound
              clear hm1 hqs hqsi e1 hb hfound
              cases b1 with
              | true =>
                have hr := HR.out
                rw [if_pos (HFO.out rfl)] at hr
                subst hr
                go_wp2_with fail
                go_ret2
                exact ⟨_, [], rfl, Fl.nil, ⟨rfl, fun i p u hp => by simp at hp⟩, hkf⟩
              | false =>
                have HD2 : Hid (∀ a, a < i + 1 → atW us.length W a a = false) := Lib.hid fun a ha => by
                  rcases Nat.lt_or_ge a i with h | h
                  · exact HD.out a h
                  · obtain rfl : a = i := by omega
                    exact HB.out
                go_wp2_with fail
                go_roundw
                case rel => exact ⟨i + 1, by go_num, hilt, HD2, trivial⟩
                case measure => (simp [intOf]; try omega)
            · obtain rfl : i = k := Nat.le_antisymm hi hige
              have hr := HR.out
              rw [HW2.out.none HND.out fun a ha => HD.out a (by rw [HL.out]; exact ha), if_neg (by decide)] at hr
              subst hr
              have hOf := HO.out.keep hkr (HKE.out _)
              have hUf := HU.out.keep hkr (HKE.out _)
              go_wp2_with fail
              go_ret2
              exact ⟨_, ps, rfl, hOf, hUf, hkf⟩
end
end
end Go.Proofs.YtbnahidopemkiaaGreat
