/- Chapter 15: ClosureWhole behind the files. Chapter 15: ClosureWhole's files and their order. No condition. -/
import Derived.Test.YtbnahidopemkiaaWhN
import Derived.BigQuiet
set_option linter.unusedVariables false
set_option linter.unusedSimpArgs false
namespace Go.Proofs.Ytbnahidopemkiaa
open Go.RowKit Go.Dm Go.Dm.Oc Go.Dm.Ld
section
variable {A B : Nat → Prop} {w w1 w2 : World} {v fv : Value} {ps : List UC} {us : List (BS × Im)}
theorem us_all (hv : Fl A w 12 encU v ps) (hu : UsOk B w ps us) (hn : 0 < us.length) :
    ∃ g off c, v = .slice (some ⟨g, off, none⟩) us.length c ∧ us.length ≤ c ∧ c ≤ maxLen ∧ g < w.heap.size ∧ ∀ i, i < us.length →
      w.cell? ⟨g, off + i * 12, none⟩ = some (.string ⟨(nmAt us i).toArray⟩) ∧ ∃ vn, w.cell? ⟨g, off + i * 12 + 7, none⟩ = some vn ∧ Fl B w 1 encS vn (ndAt us i) := by
  have hlen := hu.1
  obtain ⟨a2, c2, e2, h2, h3⟩ := hv.shape
  obtain ⟨g, off, c, ev, _, hgl, _, _, _⟩ := hv.at encU_len (i := 0) (by omega)
  have ev2 := ev
  rw [e2] at ev
  injection ev with q1 q2 q3
  subst q1 q3
  refine ⟨g, off, c2, by rw [e2, hlen], by rw [← hlen]; exact h2, h3, hgl, fun i hi => ?_⟩
  have hi2 : i < ps.length := by omega
  obtain ⟨g', off', c', ev', _, _, _, _, hc⟩ := hv.at encU_len hi2
  rw [e2] at ev'
  injection ev' with q1 q2 q3
  injection q1 with q1
  injection q1 with q1 q4
  subst q1 q4
  have hun := hu.2 i _ _ (List.getElem?_eq_getElem hi2) (nmAt_get hi)
  obtain ⟨hnm, vs, vn, vm, vy, vr, vb, e, _, h6, _⟩ := hun
  have e3 := congrArg (fun l : List Value => l[6]?) e
  have e4 : some ps[i].vn = some vn := e3
  injection e4 with e4
  refine ⟨?_, ps[i].vn, ?_, ?_⟩
  · have h0 := hc 0 _ rfl
    rw [Nat.add_zero] at h0
    rw [h0, hnm]
    rfl
  · exact hc 7 _ rfl
  · rw [e4]; exact h6
theorem ba_eq2 (a b : List UInt8) : ((⟨a.toArray⟩ : ByteArray).toList == (⟨b.toArray⟩ : ByteArray).toList) = (a == b) := by
  rw [Lib.toList_data, Lib.toList_data]
set_option maxRecDepth 100000 in
set_option maxHeartbeats 4000000 in
theorem whole_rest {ps0 : List (Value × Value)} {fs : Fs} {z0 z1 z2 z3 z4 z5 z6 z7 z8 z9 z10 z11 z12 z13 z14 z15 z16 z17 z18 z19 z20 z21 z22 z23 z24 z25 z26 z27 z28 z29 z30 z31 z32 z33 z34 z35 z36 z37 z38 z39 z40 z41 z42 z43 z44 z45 z46 z47 z48 z49 z50 z51 z52 z53 z54 z55 z56 z57 z58 z59 z60 z61 z62 z63 z64 z65 z66 z67 z68 z69 z70 z71 z72 z73 z74 z75 z76 z77 z78 z79 z80 z81 z82 z83 z84 z85 z86 z87 z88 z89 z90 z91 z92 z93 z94 z95 z96 z97 z98 z99 z100 z101 z102 z103 z104 z105 z106 z107 z108 z109 z110 z111 z112 z113 z114 z115 z116 z117 z118 z119 z120 z121 z122 z123 z124 z125 z126 z127 z128 z129 z130 z131 z132 z133 z134 z135 z136 z137 z138 z139 z140 z141 z142 z143 z144 z145 z146 z147 z148 z149 z150 z151 z152 z153 z154 z155 z156 z157 z158 z159 z160 z161 z162 z163 z164 z165 z166 z167 z168 z169 z170 z171 z172 z173 z174 z175 z176 z177 z178 z179 z180 z181 z182 z183 z184 z185 z186 z187 z188 z189 z190 z191 z192 z193 : Value} (hF : FsS w1 w2 fv ps0 fs) (hfl : ∀ f ∈ fs, f.2.length ≤ 1099511627776) (hkA : Keep No w w1) :
    Code.wp Try.prog (bodyFrom Try.f3 17) (bodyPost Try.prog Try.f3 fun e w' => e = .returned (.bool true) ∧ Keep No w w')
      ⟨#[z0, z1, z2, z3, fv, z5, z6, z7, z8, z9, z10, z11, z12, z13, z14, z15, z16, z17, z18, z19, z20, z21, z22, z23, z24, z25, z26, z27, z28, z29, z30, z31, z32, z33, z34, z35, z36, z37, z38, z39, z40, z41, z42, z43, z44, z45, z46, z47, z48, z49, z50, z51, z52, z53, z54, z55, z56, z57, z58, z59, z60, z61, z62, z63, z64, z65, z66, z67, z68, z69, z70, z71, z72, z73, z74, z75, z76, z77, z78, z79, z80, z81, z82, z83, z84, z85, z86, z87, z88, z89, z90, z91, z92, z93, z94, z95, z96, z97, z98, z99, z100, z101, z102, z103, z104, z105, z106, z107, z108, z109, z110, z111, z112, z113, z114, z115, z116, z117, z118, z119, z120, z121, z122, z123, z124, z125, z126, z127, z128, z129, z130, z131, z132, z133, z134, z135, z136, z137, z138, z139, z140, z141, z142, z143, z144, z145, z146, z147, z148, z149, z150, z151, z152, z153, z154, z155, z156, z157, z158, z159, z160, z161, z162, z163, z164, z165, z166, z167, z168, z169, z170, z171, z172, z173, z174, z175, z176, z177, z178, z179, z180, z181, z182, z183, z184, z185, z186, z187, z188, z189, z190, z191, z192, z193], []⟩ w2 := by
  conv => arg 2; whnf
  obtain ⟨hq1, hq2⟩ := orderM_ok [97] fs
  have hf : FiR (fun _ => True) w2 fv fs := fir_own hF.row hF.len fun i p f hp hf => ⟨(hF.ok i p f hp hf).1, Sl.mono (hF.ok i p f hp hf).2 fun _ _ _ => trivial⟩
  have hcall := clorder_any (w := w2) [97] (by decide) hf hfl
  have hk2 : Keep No w w2 := hkA.trans hF.kept fun j hj e => absurd hj (Nat.not_lt.2 (Nat.le_trans hkA.size e))
  obtain ⟨af, nf, cf, rfl⟩ := FlO.sh hF.row
  clear hF hfl hkA hf
  generalize orderM [97] fs = o at *
  obtain ⟨oe, us⟩ := o
  dsimp only at hq1 hq2
  go_wp2_with fail
  refine hcall.mono ?_
  clear hcall
  rintro e w3 ⟨vo, ps, rfl, hvo, hus, k3⟩
  replace hk2 := hk2.trans' k3
  clear k3
  rcases Nat.eq_zero_or_pos oe with h0 | h0
  · subst h0
    have hW := hq2 rfl
    clear hq1 hq2
    rcases Nat.eq_zero_or_pos us.length with hn | hn
    · have hpl : ps.length = 0 := by rw [hus.1, hn]
      obtain ⟨ao, co, eo, _, _⟩ := hvo.shape
      rw [hpl] at eo
      subst eo
      clear hvo hus hW hn hpl
      go_wp2_with fail
      go_loopw [11, 12, 13, 14, 15, 16, 17] (fun iv _ _ _ _ _ _ wr => iv = .int .i64 0 ∧ Keep No w wr) (fun _ _ _ _ _ _ _ _ => 0)
      case atStart => exact ⟨rfl, hk2⟩
      case round =>
        obtain ⟨rfl, hk2⟩ := hrel
        go_wp2_with fail
        go_ret
        exact ⟨rfl, hk2⟩
    · obtain ⟨g, off, c, rfl, hc1, hc2, hg, hcell⟩ := us_all hvo hus hn
      have HC := Lib.hid hcell
      have h8 := hW.h8
      have HW := Lib.hid hW
      have hc3 : c ≤ 9223372036854775807 := by unfold maxLen at hc2; omega
      obtain ⟨n, hn'⟩ : ∃ n, n = us.length := ⟨_, rfl⟩
      rw [← hn'] at hc1 h8 HC hn ⊢
      have HN := Lib.hid hn'
      clear hcell hW hn' hvo hus hc2
      have hk0 : Keep No w3 w3 := Keep.refl _ _
      go_wp2_with fail
      go_loopw [11, 12, 13, 14, 15, 16, 17] (fun iv _ _ _ _ _ _ wr => ∃ i : Nat, iv = .int .i64 (i : Int) ∧ i ≤ n ∧ Keep No w3 wr) (fun iv _ _ _ _ _ _ _ => n - (intOf iv).toNat)
      case atStart => exact ⟨0, rfl, Nat.zero_le _, hk0⟩
      case round =>
        obtain ⟨i, rfl, hi, hkz⟩ := hrel
        clear hk0
        generalize wr = wz at *
        rcases Nat.lt_or_ge i n with hlt | hge
        · have hiz : (i : Int) < (n : Int) := by omega
          obtain ⟨ci, vi, cin, hvi⟩ := HC.out i hlt
          have hus : i < us.length := by rw [← HN.out]; exact hlt
          have HAH := Lib.hid (HW.out.ahead hus)
          have HTH := Lib.hid fun m (hm : m < (ndAt us i).length) => HW.out.there hus (List.getElem_mem hm)
          have HAP := Lib.hid fun k (hk : k < n) (hne : k ≠ i) => HW.out.apart hus (by rw [← HN.out]; exact hk) hne
          rw [← HN.out] at HAH HTH
          obtain ⟨bi, hbi⟩ : ∃ bi : ByteArray, bi = ⟨(nmAt us i).toArray⟩ := ⟨_, rfl⟩
          rw [← hbi] at ci
          have HBI := Lib.hid hbi
          have HCI := Lib.hid ci
          have HCN := Lib.hid cin
          have HVI := Lib.hid hvi
          clear hbi ci cin hvi hus
          go_upto_block 6 with fail
          go_cut [12, 13, 14] from 88 to 190 (fun s12 _ _ wc => s12 = .bool true ∧ Keep No w3 wc)
          case first =>
            go_wp2_with fail
            go_loopw [12, 13, 14] (fun bv kv _ wr => ∃ (k : Nat) (Bo : Bool), bv = .bool Bo ∧ Hid (Bo = aheadB us i k) ∧ kv = .int .i64 (k : Int) ∧ k ≤ n ∧ Keep No w3 wr) (fun _ kv _ _ => n - (intOf kv).toNat)
            case atStart =>
              refine ⟨0, _, rfl, Lib.hid ?_, rfl, Nat.zero_le _, hkz⟩
              unfold aheadB
              rw [List.range_zero, List.any_nil, Bool.or_false, Bool.eq_iff_iff, beq_iff_eq, decide_eq_true_eq]
              omega
            case round =>
              obtain ⟨k, Bo, rfl, HBo, rfl, hk, hky⟩ := hrel
              generalize wr = wy at *
              rcases Nat.lt_or_ge k n with hkl | hkg
              · have hkz1 : (k : Int) < (n : Int) := by omega
                obtain ⟨ck, vk, ckn, hvk⟩ := HC.out k hkl
                obtain ⟨bk, hbk⟩ : ∃ bk : ByteArray, bk = ⟨(nmAt us k).toArray⟩ := ⟨_, rfl⟩
                rw [← hbk] at ck
                have HBK := Lib.hid hbk
                have HCKN := Lib.hid ckn
                have HVK := Lib.hid hvk
                have cky := (hky.cell (p := ⟨g, off + k * 12, none⟩) hg fun h => h).trans ck
                have ciy := (hky.cell (p := ⟨g, off + i * 12, none⟩) hg fun h => h).trans HCI.out
                clear hbk ck ckn hvk
                go_upto_region 27 with fail
                go_cut [117] from 96 to 151 (fun s wc => s = .bool false ∧ Keep No w3 wc)
                case first =>
                  by_cases hki : k = i
                  · have hki1 : ((k : Int) != (i : Int)) = false := by rw [bne_eq_false_iff_eq]; omega
                    clear hki
                    go_quiet (fail)
                    go_wp2_with fail
                    go_meet
                    exact ⟨rfl, hky.drewN _⟩
                  · have hki1 : ((k : Int) != (i : Int)) = true := by rw [bne_iff_ne]; omega
                    have hbe : (bk.toList == bi.toList) = false := by rw [HBK.out, HBI.out, ba_eq2]; exact HAP.out k hkl hki
                    clear hki
                    go_quiet (fail)
                    go_wp2_with fail
                    go_meet
                    exact ⟨rfl, hky.drewN _⟩
                case rest =>
                  obtain ⟨rfl, hky2⟩ := hcut
                  clear hky cky ciy
                  generalize wc = wx at *
                  obtain ⟨ak, nk, cck, rfl⟩ : ∃ a n c, vk = .slice a n c := by
                    obtain ⟨a, c, e, _⟩ := HVK.out.shape
                    exact ⟨_, _, _, e⟩
                  have hnk := fl_len HVK.out
                  have hnkb : nk ≤ 9223372036854775807 := by
                    obtain ⟨a, c, e, h1, h2⟩ := HVK.out.shape
                    injection e with _ e2
                    unfold maxLen at h2
                    omega
                  have HNK := Lib.hid hnk
                  clear hnk
                  go_wp2_with fail
                  go_loopw [12, 14] (fun bv mv wr => ∃ (m : Nat) (B2 : Bool), bv = .bool B2 ∧ Hid (B2 = (Bo || (decide (k < i) && ((ndAt us k).take m).any (· == nmAt us i)))) ∧ mv = .int .i64 (m : Int) ∧ m ≤ nk ∧ Keep No w3 wr) (fun _ mv _ => nk - (intOf mv).toNat)
                  case atStart => exact ⟨0, Bo, rfl, Lib.hid (by rw [List.take_zero, List.any_nil, Bool.and_false, Bool.or_false]), rfl, Nat.zero_le _, hky2⟩
                  case round =>
                    obtain ⟨m, B2, rfl, HB2, rfl, hm, hkx⟩ := hrel
                    clear hky2
                    generalize wr = wx2 at *
                    have cnx := (hkx.cell (p := ⟨g, off + k * 12 + 7, none⟩) hg fun h => h).trans HCKN.out
                    rcases Nat.lt_or_ge m nk with hml | hmg
                    · have hmz : (m : Int) < (nk : Int) := by omega
                      have hml2 : m < (ndAt us k).length := by rw [← HNK.out]; exact hml
                      obtain ⟨g5, o5, c5, ev, _, hg5, _, _, hc5⟩ := HVK.out.at encS_len hml2
                      injection ev with q1 q2 q3
                      subst q1
                      have cm := hc5 0 _ rfl
                      rw [Nat.add_zero, Nat.mul_one] at cm
                      have htk : (ndAt us k).take (m + 1) = (ndAt us k).take m ++ [(ndAt us k)[m]] := List.take_succ_eq_append_getElem hml2
                      obtain ⟨x, hx⟩ : ∃ x, x = (ndAt us k)[m] := ⟨_, rfl⟩
                      rw [← hx] at htk cm
                      obtain ⟨bx, hbx⟩ : ∃ bx : ByteArray, bx = ⟨x.toArray⟩ := ⟨_, rfl⟩
                      rw [← hbx] at cm
                      have hbe : (bx.toList == bi.toList) = (x == nmAt us i) := by rw [hbx, HBI.out, ba_eq2]
                      have hst : ∀ q : Bool, (x == nmAt us i) = q → (B2 || (decide (k < i) && q)) = (Bo || (decide (k < i) && ((ndAt us k).take (m + 1)).any (· == nmAt us i))) := fun q hq => by
                        rw [HB2.out, htk, List.any_append, List.any_cons, List.any_nil, Bool.or_false, hq]
                        cases Bo <;> cases decide (k < i) <;> simp
                      have HST := Lib.hid hst
                      have cmx := (hkx.cell (p := ⟨g5, o5 + m, none⟩) hg5 fun h => h).trans cm
                      have ciy := (hkx.cell (p := ⟨g, off + i * 12, none⟩) hg fun h => h).trans HCI.out
                      clear hc5 q2 q3 htk hx hbx hst cm
                      cases hq : (x == nmAt us i) with
                      | _ =>
                        rw [hq] at hbe
                        have hst := HST.out _ hq
                        have HST2 := Lib.hid hst
                        clear hq hst HST HB2
                        cases B2 with
                        | true =>
                          go_wp2_with fail
                          go_quiet (fail)
                          go_wp2_with fail
                          go_roundw
                          case rel => exact ⟨m + 1, true, rfl, Lib.hid (by rw [← HST2.out]; rfl), by go_num, hml, hkx.drewN _⟩
                          case measure => simp [intOf]; omega
                        | false =>
                          by_cases hki : k < i
                          · have hki1 : (k : Int) < (i : Int) := by omega
                            have HKI := Lib.hid (decide_eq_true hki)
                            clear hki
                            go_wp2_with fail
                            go_quiet (fail)
                            go_wp2_with fail
                            go_roundw
                            case rel => exact ⟨m + 1, _, rfl, Lib.hid (by rw [← HST2.out, HKI.out]; rfl), by go_num, hml, hkx.drewN _⟩
                            case measure => simp [intOf]; omega
                          · have hki2 : decide ((k : Int) < (i : Int)) = false := decide_eq_false (by omega)
                            have hki3 : decide (k < i) = false := decide_eq_false hki
                            have HKI := Lib.hid (decide_eq_false hki)
                            clear hki
                            go_wp2_with fail
                            go_quiet (fail)
                            go_wp2_with fail
                            go_roundw
                            case rel => exact ⟨m + 1, false, rfl, Lib.hid (by rw [← HST2.out, HKI.out]; rfl), by go_num, hml, hkx.drewN _⟩
                            case measure => simp [intOf]; omega
                    · obtain rfl : m = nk := Nat.le_antisymm hm hmg
                      have hst : B2 = aheadB us i (k + 1) := by
                        rw [aheadB_succ, ← HBo.out, HB2.out, HNK.out, List.take_of_length_le (Nat.le_refl _)]
                      have HST := Lib.hid hst
                      clear hst
                      go_wp2_with fail
                      go_roundw
                      case rel => exact ⟨k + 1, B2, rfl, HST, by go_num, hkl, hkx⟩
                      case measure => simp [intOf]; omega
              · obtain rfl : k = n := Nat.le_antisymm hk hkg
                have hbt : Bo = true := HBo.out.trans HAH.out
                subst hbt
                clear HBo
                go_wp2_with fail
                go_meet
                exact ⟨rfl, hky⟩
          case rest =>
            obtain ⟨rfl, hky⟩ := hcut
            clear HAP HAH HBI HCI
            generalize wc = wy at *
            obtain ⟨ak, nk, cck, rfl⟩ : ∃ a n c, vi = .slice a n c := by
              obtain ⟨a, c, e, _⟩ := HVI.out.shape
              exact ⟨_, _, _, e⟩
            have hnk := fl_len HVI.out
            have hnkb : nk ≤ 9223372036854775807 := by
              obtain ⟨a, c, e, h1, h2⟩ := HVI.out.shape
              injection e with _ e2
              unfold maxLen at h2
              omega
            have HNK := Lib.hid hnk
            clear hnk
            go_wp2_with fail
            go_loopw [15, 16, 17] (fun mv _ _ wr => ∃ m : Nat, mv = .int .i64 (m : Int) ∧ m ≤ nk ∧ Keep No w3 wr) (fun mv _ _ _ => nk - (intOf mv).toNat)
            case atStart => exact ⟨0, rfl, Nat.zero_le _, hky⟩
            case round =>
              obtain ⟨m, rfl, hm, hkx⟩ := hrel
              clear hky
              generalize wr = wx at *
              have cnx := (hkx.cell (p := ⟨g, off + i * 12 + 7, none⟩) hg fun h => h).trans HCN.out
              rcases Nat.lt_or_ge m nk with hml | hmg
              · have hmz : (m : Int) < (nk : Int) := by omega
                have hml2 : m < (ndAt us i).length := by rw [← HNK.out]; exact hml
                obtain ⟨g5, o5, c5, ev, _, hg5, _, _, hc5⟩ := HVI.out.at encS_len hml2
                injection ev with q1 q2 q3
                subst q1
                have cm := hc5 0 _ rfl
                rw [Nat.add_zero, Nat.mul_one] at cm
                have hth := HTH.out m hml2
                obtain ⟨x, hx⟩ : ∃ x, x = (ndAt us i)[m] := ⟨_, rfl⟩
                rw [← hx] at hth cm
                obtain ⟨bx, hbx⟩ : ∃ bx : ByteArray, bx = ⟨x.toArray⟩ := ⟨_, rfl⟩
                rw [← hbx] at cm
                have HBX := Lib.hid hbx
                have HTX := Lib.hid hth
                have HCM := Lib.hid cm
                clear hc5 q2 q3 hx hbx cm hth hml2
                go_wp2_with fail
                go_loopw [16, 17] (fun tv kv wr => ∃ (k : Nat) (T : Bool), tv = .bool T ∧ Hid (T = thereB us x k) ∧ kv = .int .i64 (k : Int) ∧ k ≤ n ∧ Keep No w3 wr) (fun _ kv _ => n - (intOf kv).toNat)
                case atStart => exact ⟨0, false, rfl, Lib.hid rfl, rfl, Nat.zero_le _, hkx⟩
                case round =>
                  obtain ⟨k, T, rfl, HT, rfl, hk, hkv⟩ := hrel
                  clear hkx cnx
                  generalize wr = wv at *
                  have cnx := (hkv.cell (p := ⟨g, off + i * 12 + 7, none⟩) hg fun h => h).trans HCN.out
                  have cmx := (hkv.cell (p := ⟨g5, o5 + m, none⟩) hg5 fun h => h).trans HCM.out
                  rcases Nat.lt_or_ge k n with hkl | hkg
                  · have hkz1 : (k : Int) < (n : Int) := by omega
                    obtain ⟨ck, _⟩ := HC.out k hkl
                    obtain ⟨bk, hbk⟩ : ∃ bk : ByteArray, bk = ⟨(nmAt us k).toArray⟩ := ⟨_, rfl⟩
                    rw [← hbk] at ck
                    have cky := (hkv.cell (p := ⟨g, off + k * 12, none⟩) hg fun h => h).trans ck
                    have hbe : (bk.toList == bx.toList) = (nmAt us k == x) := by rw [hbk, HBX.out, ba_eq2]
                    have hst := thereB_succ us x k
                    rw [← HT.out] at hst
                    clear hbk ck
                    cases hq : (nmAt us k == x) with
                    | _ =>
                      rw [hq] at hbe hst
                      have HST := Lib.hid hst
                      clear hq hst HT
                      cases T with
                      | true =>
                        go_wp2_with fail
                        go_quiet (fail)
                        go_wp2_with fail
                        go_roundw
                        case rel => exact ⟨k + 1, true, rfl, Lib.hid (by rw [HST.out]; rfl), by go_num, hkl, hkv.drewN _⟩
                        case measure => simp [intOf]; omega
                      | false =>
                        go_wp2_with fail
                        go_quiet (fail)
                        go_wp2_with fail
                        go_roundw
                        case rel => exact ⟨k + 1, _, rfl, Lib.hid (by rw [HST.out]; rfl), by go_num, hkl, hkv.drewN _⟩
                        case measure => simp [intOf]; omega
                  · obtain rfl : k = n := Nat.le_antisymm hk hkg
                    have hbt : T = true := HT.out.trans HTX.out
                    subst hbt
                    clear HT
                    go_wp2_with fail
                    go_roundw
                    case rel => exact ⟨m + 1, by go_num, hml, hkv⟩
                    case measure => simp [intOf]; omega
              · obtain rfl : m = nk := Nat.le_antisymm hm hmg
                go_wp2_with fail
                go_roundw
                case rel => exact ⟨i + 1, by go_num, hlt, hkx⟩
                case measure => simp [intOf]; omega
        · obtain rfl : i = n := Nat.le_antisymm hi hge
          have h8z : (i : Int) ≤ 8 := by omega
          go_wp2_with fail
          go_ret
          exact ⟨rfl, hk2.trans' hkz⟩
  · have hz : us = [] := hq1 (by omega)
    have hpl : ps.length = 0 := by rw [hus.1, hz]; rfl
    obtain ⟨ao, co, eo, _, _⟩ := hvo.shape
    rw [hpl] at eo
    subst eo
    have hne : ((oe : Int) != 0) = true := by rw [bne_iff_ne]; omega
    clear hq1 hq2 hvo hus hz hpl h0
    go_wp2_with fail
    go_ret
    exact ⟨rfl, hk2⟩
end
end Go.Proofs.Ytbnahidopemkiaa
namespace Go.Proofs.Ytbnahidopemkiaa
open Go.RowKit Go.Dm Go.Dm.Oc Go.Dm.Ld
theorem ext12 : ∀ r, r < 12 → ({ data := #[97, 98, 99, 100, 101, 102, 103, 104, 105, 106, 107, 108] } : ByteArray).extract r (r + 1) = ⟨#[UInt8.ofNat (97 + r)]⟩ := fun r hr => by
  rcases (by omega : r = 0 ∨ r = 1 ∨ r = 2 ∨ r = 3 ∨ r = 4 ∨ r = 5 ∨ r = 6 ∨ r = 7 ∨ r = 8 ∨ r = 9 ∨ r = 10 ∨ r = 11) with rfl | rfl | rfl | rfl | rfl | rfl | rfl | rfl | rfl | rfl | rfl | rfl <;> rfl
theorem file_info : (Try.prog.info? 29).map (fun i => (i.zero, i.size, i.bytes)) = some (some (.agg #[.string ⟨#[]⟩, .slice none 0 0]), 2, 40) := by kernel_rfl
section
variable {A B : Nat → Prop} {w w1 wr w2 : World} {v v' fv fv' : Value}
set_option maxRecDepth 100000 in
set_option maxHeartbeats 4000000 in
theorem closurewhole_any (nd : List BS) (hv : Rd A w (.slice (.slice .u8)) [v] nd) : Calls Try.prog 3 #[v] w fun e w' => e = .returned (.bool true) ∧ Keep No w w' := by
  obtain ⟨av, cv, rfl, hv1, hv2, hvc⟩ := rd_bb hv
  have HV := Lib.hid hvc
  have hv3 : nd.length ≤ 9223372036854775807 := by unfold maxLen at hv2; omega
  clear hv hvc hv2
  go_enter Try.func3, Try.ntmps3
  go_wp2_with fail
  refine awake15_any.mono ?_
  rintro e w1 ⟨rfl, hkA⟩
  have hF0 : FsS w1 w1 (.slice none 0 0) [] (filesW nd 0) := ⟨FlO.nil, rfl, fun i p f h => by simp at h, Keep.refl _ _⟩
  go_upto_block 0 with fail
  go_cut [4, 5, 6, 7, 8] from 21 to 77 (fun fv _ _ _ _ wc => ∃ (i : Nat) (ps : List (Value × Value)), FsS w1 wc fv ps (filesW nd i))
  case first =>
    go_wp2_with fail
    go_loopw [4, 5, 6, 7, 8] (fun fv iv _ _ _ wr => ∃ (i : Nat) (ps : List (Value × Value)), iv = .int .i64 (i : Int) ∧ i ≤ nd.length ∧ i ≤ 11 ∧ FsS w1 wr fv ps (filesW nd i)) (fun _ iv _ _ _ _ => 11 - (intOf iv).toNat)
    case atStart => exact ⟨0, [], rfl, Nat.zero_le _, Nat.zero_le _, hF0⟩
    case round =>
      obtain ⟨i, ps, rfl, hi, hi11, hF⟩ := hrel
      clear hF0
      generalize wr = wz at *
      obtain ⟨af, nf, cf, rfl⟩ := FlO.sh hF.row
      by_cases hlt : i < nd.length ∧ i < 11
      · obtain ⟨h1, h2⟩ := hlt
        have hiz : (i : Int) < (nd.length : Int) := by omega
        have hiz2 : (i : Int) < 11 := by omega
        obtain ⟨gv, ov, x, rfl, cx, hgv, hbx⟩ := HV.out i h1
        have hkz : Keep No w wz := hkA.trans hF.kept fun j hj e => absurd hj (Nat.not_lt.2 (Nat.le_trans hkA.size e))
        replace cx := (hkz.cell (p := ⟨gv, ov + i, none⟩) hgv fun h => h).trans cx
        replace hbx := Sl.keep hbx hkz fun _ _ _ h => h
        obtain ⟨b, hb⟩ : ∃ b, b = nd.getD i [] := ⟨_, rfl⟩
        rw [← hb] at hbx
        have HB := Lib.hid hb
        clear hb
        obtain ⟨ax, cx2, rfl, hx1, hx2⟩ := Sl.shape hbx
        have hx3 : b.length ≤ 9223372036854775807 := by unfold maxLen at hx2; omega
        have hO0 : Out wz wz 9 1 encS (.slice none 0 0) ((b.take 0).map ltr) := ⟨FlO.nil, Keep.refl _ _⟩
        have HBX := Lib.hid hbx
        have HF := Lib.hid hF
        clear hbx hx2 hF
        go_upto_block 2 with fail
        go_cut [6, 7] from 21 to 77 (fun lv _ wc => Out wz wc 9 1 encS lv (needW b))
        case first =>
          go_wp2_with fail
          go_loopw [6, 7] (fun lv kv wr => ∃ k : Nat, kv = .int .i64 (k : Int) ∧ k ≤ b.length ∧ k ≤ 12 ∧ Out wz wr 9 1 encS lv ((b.take k).map ltr)) (fun _ kv _ => 12 - (intOf kv).toNat)
          case atStart => exact ⟨0, rfl, Nat.zero_le _, Nat.zero_le _, hO0⟩
          case round =>
            obtain ⟨k, rfl, hk, hk12, hO⟩ := hrel
            clear hO0
            generalize wr = wy at *
            obtain ⟨al, nl, cl, rfl⟩ := hO.sh
            have hgz : gv < wz.heap.size := Nat.lt_of_lt_of_le hgv hkz.size
            have cy := (hO.kept.cell (p := ⟨gv, ov + i, none⟩) hgz fun e => absurd hgz (Nat.not_lt.2 e)).trans cx
            by_cases hlt : k < b.length ∧ k < 12
            · obtain ⟨k1, k2⟩ := hlt
              have hkz1 : (k : Int) < (b.length : Int) := by omega
              have hkz2 : (k : Int) < 12 := by omega
              obtain ⟨ga, oa, cq, eq, _, hga, _, _, hcell⟩ := Sl.at HBX.out (by omega)
              injection eq with q1 q2 q3
              subst q1
              have cbz := hcell k (bv b[k]) (by rw [List.getElem?_map, List.getElem?_eq_getElem k1]; rfl)
              clear hcell q2 q3
              obtain ⟨y, hy⟩ : ∃ y, y = b[k] := ⟨_, rfl⟩
              rw [← hy] at cbz
              have HCB : Hid (wz.cell? ⟨ga, oa + k, none⟩ = some (.int .u8 (y.toNat : Int))) := Lib.hid cbz
              have cb := (hO.kept.cell (p := ⟨ga, oa + k, none⟩) hga fun e => absurd hga (Nat.not_lt.2 e)).trans cbz
              clear cbz
              have HY := Lib.hid hy
              clear hy
              have cb : wy.cell? ⟨ga, oa + k, none⟩ = some (.int .u8 (y.toNat : Int)) := cb
              obtain ⟨r, hr⟩ : ∃ r, r = y.toNat % 12 := ⟨_, rfl⟩
              have hr12 : r < 12 := by omega
              have hm : ((y.toNat : Int)).tmod 12 = (r : Int) := by rw [hr]; exact (Int.ofNat_tmod _ _).symm
              have hwr : IntKind.u8.wrap ((r : Int) + 1) = (r : Int) + 1 := by simp [IntKind.wrap, IntKind.bits, IntKind.signed]; omega
              have hr1 : (r : Int) + 1 ≤ 12 := by omega
              have hr2 : ((r : Int) + 1).toNat = r + 1 := by omega
              have hr3 : (0 : Int) ≤ (r : Int) + 1 := by omega
              have hr4 : (r : Int) ≤ (r : Int) + 1 := by omega
              obtain ⟨bs, hbs⟩ : ∃ bs : ByteArray, bs = ⟨(ltr y).toArray⟩ := ⟨_, rfl⟩
              have hext : ({ data := #[97, 98, 99, 100, 101, 102, 103, 104, 105, 106, 107, 108] } : ByteArray).extract r (r + 1) = bs := by
                rw [ext12 r hr12, hbs, hr]
                rfl
              have HBS := Lib.hid hbs
              clear hr hbs
              go_upto_region 12 with fail
              refine wp_region_sig (fun w' => w'.cell? ⟨gv, ov + i, none⟩ = some (.slice (some ⟨ga, oa, none⟩) b.length cx2) ∧ w'.cell? ⟨ga, oa + k, none⟩ = some (.int .u8 (y.toNat : Int))) (fun j => decide (j ≤ 21)) [(0, true), (1, true), (2, true), (3, true), (4, true), (5, true), (6, true), (7, true), (8, true), (9, true), (10, true), (11, true), (12, true), (13, true), (14, true), (15, true), (16, true), (17, true), (18, true), (19, false), (20, false), (21, false)] (by kernel_rfl) (by kernel_rfl) (by intro c a d v w h; cases d <;> exact h) ⟨cy, cb⟩ ?_
              apply sig_still (o := ⟨some 44, _, _, _, _, _⟩) rfl rfl
              · intro w' hS
                obtain ⟨q1, q2⟩ := hS
                first | (go_simp; done) | (go_simp; rfl) | rfl
              go_frame
              apply sig_still (o := ⟨some 45, _, _, _, _, _⟩) rfl rfl
              · intro w' hS
                obtain ⟨q1, q2⟩ := hS
                first | (go_simp; done) | (go_simp; rfl) | rfl
              go_frame
              apply sig_still (o := ⟨some 46, _, _, _, _, _⟩) rfl rfl
              · intro w' hS
                obtain ⟨q1, q2⟩ := hS
                first | (go_simp; done) | (go_simp; rfl) | rfl
              go_frame
              apply sig_still (o := ⟨some 47, _, _, _, _, _⟩) rfl rfl
              · intro w' hS
                obtain ⟨q1, q2⟩ := hS
                first | (go_simp; done) | (go_simp; rfl) | rfl
              go_frame
              apply sig_still (o := ⟨some 48, _, _, _, _, _⟩) rfl rfl
              · intro w' hS
                obtain ⟨q1, q2⟩ := hS
                first | (go_simp; done) | (go_simp; rfl) | rfl
              go_frame
              apply sig_still (o := ⟨some 49, _, _, _, _, _⟩) rfl rfl
              · intro w' hS
                obtain ⟨q1, q2⟩ := hS
                first | (go_simp; done) | (go_simp; rfl) | rfl
              go_frame
              apply sig_still (o := ⟨some 50, _, _, _, _, _⟩) rfl rfl
              · intro w' hS
                obtain ⟨q1, q2⟩ := hS
                first | (go_simp; done) | (go_simp; rfl) | rfl
              go_frame
              apply sig_still (o := ⟨some 51, _, _, _, _, _⟩) rfl rfl
              · intro w' hS
                obtain ⟨q1, q2⟩ := hS
                first | (go_simp; done) | (go_simp; rfl) | rfl
              go_frame
              apply sig_still (o := ⟨some 52, _, _, _, _, _⟩) rfl rfl
              · intro w' hS
                obtain ⟨q1, q2⟩ := hS
                first | (go_simp; done) | (go_simp; rfl) | rfl
              go_frame
              apply sig_still (o := ⟨some 53, _, _, _, _, _⟩) rfl rfl
              · intro w' hS
                obtain ⟨q1, q2⟩ := hS
                first | (go_simp; done) | (go_simp; rfl) | rfl
              go_frame
              apply sig_still (o := ⟨some 54, _, _, _, _, _⟩) rfl rfl
              · intro w' hS
                obtain ⟨q1, q2⟩ := hS
                first | (go_simp; done) | (go_simp; rfl) | rfl
              go_frame
              apply sig_still (o := ⟨some 55, _, _, _, _, _⟩) rfl rfl
              · intro w' hS
                obtain ⟨q1, q2⟩ := hS
                first | (go_simp; done) | (go_simp; rfl) | rfl
              go_frame
              apply sig_still (o := ⟨some 56, _, _, _, _, _⟩) rfl rfl
              · intro w' hS
                obtain ⟨q1, q2⟩ := hS
                first | (go_simp; done) | (go_simp; rfl) | rfl
              go_frame
              apply sig_still (o := ⟨some 57, _, _, _, _, _⟩) rfl rfl
              · intro w' hS
                obtain ⟨q1, q2⟩ := hS
                first | (go_simp; done) | (go_simp; rfl) | rfl
              go_frame
              apply sig_still (o := ⟨some 58, _, _, _, _, _⟩) rfl rfl
              · intro w' hS
                obtain ⟨q1, q2⟩ := hS
                first | (go_simp; done) | (go_simp; rfl) | rfl
              go_frame
              apply sig_still (o := ⟨some 59, _, _, _, _, _⟩) rfl rfl
              · intro w' hS
                obtain ⟨q1, q2⟩ := hS
                first | (go_simp; done) | (go_simp; rfl) | rfl
              go_frame
              apply sig_still (o := ⟨some 60, _, _, _, _, _⟩) rfl rfl
              · intro w' hS
                obtain ⟨q1, q2⟩ := hS
                first | (go_simp; done) | (go_simp; rfl) | rfl
              go_frame
              apply sig_still (o := ⟨some 61, _, _, _, _, _⟩) rfl rfl
              · intro w' hS
                obtain ⟨q1, q2⟩ := hS
                first | (go_simp; done) | (go_simp; rfl) | rfl
              go_frame
              apply sig_still (o := ⟨some 62, _, _, _, _, _⟩) rfl rfl
              · intro w' hS
                obtain ⟨q1, q2⟩ := hS
                first | (go_simp; done) | (go_simp; rfl) | rfl
              go_frame
              refine sig_eff (o := ⟨some 63, _, _, _, _, _⟩) rfl rfl (fun K hKe => ?_)
              go_wp2_with fail
              have hk0 : Keep No wy (wy.alloc (.cells #[.string bs] 9)).drew := ((Keep.refl _ _).alloc _).drew
              have hgy : gv < wy.heap.size := Nat.lt_of_lt_of_le hgz hO.base
              have hgay : ga < wy.heap.size := Nat.lt_of_lt_of_le hga hO.base
              refine ⟨fun _ => ⟨(hk0.cell (p := ⟨gv, ov + i, none⟩) hgy fun h => h).trans cy, (hk0.cell (p := ⟨ga, oa + k, none⟩) hgay fun h => h).trans cb⟩, ?_⟩
              clear hm hwr hr1 hr2 hr3 hr4 hext
              have hO1 := hO.drew
              have hlk : ((b.take k).map ltr).length ≤ 12 := by rw [List.length_map, List.length_take]; omega
              refine sig_eff (o := ⟨some 64, _, _, _, _, _⟩) rfl rfl (fun K hKe => ?_)
              refine wo_append _ _ _ _ rfl _ _ rfl rfl ?_
              refine rg_push (P := Try.prog) (enc := encS) (x := ltr y) _ _ Try.underlying25 str_info (by rfl) (by decide) (by rw [HBS.out]; rfl) (by rfl) (by intro u hu; rw [List.mem_singleton.1 hu]; rfl) hO1.row (by omega) (by decide) hO1.base ?_
              intro v4 w4 ho4 hk4 hn4
              have hO4 := hO1.push ho4 hk4
              have cy4 := (hO4.kept.cell (p := ⟨gv, ov + i, none⟩) hgz fun e => absurd hgz (Nat.not_lt.2 e)).trans cx
              have cb4 := (hO4.kept.cell (p := ⟨ga, oa + k, none⟩) hga fun e => absurd hga (Nat.not_lt.2 e)).trans HCB.out
              have htk : (b.take k).map ltr ++ [ltr y] = (b.take (k + 1)).map ltr := by
                rw [List.take_succ_eq_append_getElem k1, List.map_append, HY.out]
                rfl
              rw [htk] at hO4
              refine hKe _ _ ⟨fun _ => ⟨cy4, cb4⟩, ?_⟩
              obtain ⟨a4, n4, c4, rfl⟩ := hO4.sh
              refine sig_eff (o := ⟨some 6, _, _, _, _, _⟩) rfl rfl (fun K hKe => ?_)
              go_wp2_with fail
              refine ⟨fun _ => ⟨cy4, cb4⟩, ?_⟩
              refine sig_nil ?_
              clear ho4 hk4 hn4 cy4 cb4 htk hO1 hO hk0 cy cb
              go_wp2_with fail
              go_roundw
              case rel => exact ⟨k + 1, by go_num, k1, k2, hO4⟩
              case measure => simp [intOf]; omega
            · have hdone : (b.take k).map ltr = needW b := by
                unfold needW
                rcases Nat.lt_or_ge k 12 with h | h
                · have hge : b.length ≤ k := by
                    rcases Nat.lt_or_ge k b.length with h2 | h2
                    · exact absurd ⟨h2, h⟩ hlt
                    · exact h2
                  rw [List.take_of_length_le hge, List.take_of_length_le (by omega)]
                · rw [show k = 12 from by omega]
              rw [hdone] at hO
              rcases Nat.lt_or_ge k b.length with h2 | h2
              · have g1 : (k : Int) < (b.length : Int) := by omega
                have g2 : (12 : Int) ≤ (k : Int) := by omega
                clear hlt
                go_wp2_with fail
                go_meet
                exact hO
              · have g1 : (b.length : Int) ≤ (k : Int) := by omega
                clear hlt
                go_wp2_with fail
                go_meet
                exact hO
        case rest =>
          have hO := hcut
          clear hcut hO0
          generalize wc = wy at *
          have hF := HF.out.keep hO.kept
          have hF1 := Lib.hid hF
          obtain ⟨al, nl, cl, rfl⟩ := hO.sh
          go_upto_if 66 with fail
          go_cut [8] from 21 to 77 (fun s8 wc => s8 = .int .i64 (kindW i) ∧ wc = wy)
          case first =>
            by_cases h0 : i = 0
            · have h0b : ((i : Int) == 0) = true := by rw [beq_iff_eq]; omega
              have H0 := Lib.hid h0
              clear h0
              go_wp2_with fail
              go_meet
              exact ⟨by unfold kindW; rw [if_pos H0.out], rfl⟩
            · have h0b : ((i : Int) == 0) = false := by rw [beq_eq_false_iff_ne]; omega
              have H0 := Lib.hid h0
              clear h0
              go_wp2_with fail
              go_meet
              exact ⟨by unfold kindW; rw [if_neg H0.out], rfl⟩
          case rest =>
            obtain ⟨rfl, rfl⟩ := hcut
            obtain ⟨kd, hkd⟩ : ∃ kd, kd = kindW i := ⟨_, rfl⟩
            rw [← hkd]
            have HKD := Lib.hid hkd
            clear hkd hF
            have hwr : IntKind.i64.wrap ((i : Int) + 1) = (i : Int) + 1 := by simp [IntKind.wrap, IntKind.bits, IntKind.signed]; omega
            have hr1 : (i : Int) + 1 ≤ 12 := by omega
            have hr2 : ((i : Int) + 1).toNat = i + 1 := by omega
            have hr3 : (0 : Int) ≤ (i : Int) + 1 := by omega
            have hr4 : (i : Int) ≤ (i : Int) + 1 := by omega
            obtain ⟨bs, hbs⟩ : ∃ bs : ByteArray, bs = ⟨([UInt8.ofNat (97 + i)] : BS).toArray⟩ := ⟨_, rfl⟩
            have hext : ({ data := #[97, 98, 99, 100, 101, 102, 103, 104, 105, 106, 107, 108] } : ByteArray).extract i (i + 1) = bs := by
              rw [ext12 i (by omega), hbs]
            have HBS := Lib.hid hbs
            clear hbs
            go_upto_region 16 with fail
            refine wp_region_sig (fun _ => True) (fun j => decide (j ≤ 11)) [(0, true), (1, true), (2, true), (3, true), (4, true), (5, true), (6, true), (7, false), (8, true), (9, false), (10, false), (11, false)] (by kernel_rfl) (by kernel_rfl) (by intro c a d v w h; cases d <;> exact h) trivial ?_
            apply sig_still (o := ⟨some 67, _, _, _, _, _⟩) rfl rfl
            · intro w' hS
              first | (go_simp; done) | (go_simp; rfl) | rfl
            go_frame
            apply sig_still (o := ⟨some 68, _, _, _, _, _⟩) rfl rfl
            · intro w' hS
              first | (go_simp; done) | (go_simp; rfl) | rfl
            go_frame
            apply sig_still (o := ⟨some 69, _, _, _, _, _⟩) rfl rfl
            · intro w' hS
              first | (go_simp; done) | (go_simp; rfl) | rfl
            go_frame
            apply sig_still (o := ⟨some 70, _, _, _, _, _⟩) rfl rfl
            · intro w' hS
              first | (go_simp; done) | (go_simp; rfl) | rfl
            go_frame
            apply sig_still (o := ⟨some 71, _, _, _, _, _⟩) rfl rfl
            · intro w' hS
              first | (go_simp; done) | (go_simp; rfl) | rfl
            go_frame
            apply sig_still (o := ⟨some 72, _, _, _, _, _⟩) rfl rfl
            · intro w' hS
              first | (go_simp; done) | (go_simp; rfl) | rfl
            go_frame
            apply sig_still (o := ⟨some 73, _, _, _, _, _⟩) rfl rfl
            · intro w' hS
              first | (go_simp; done) | (go_simp; rfl) | rfl
            go_frame
            refine sig_eff (o := ⟨some 74, _, _, _, _, _⟩) rfl rfl (fun K hKe => ?_)
            go_wp2_with fail
            have hO1 := hO.drew
            have hcall := lib15_any (w := wc.drew) kd (needW b) hO1.row.fl (fun n hn => by
              unfold needW at hn
              obtain ⟨y, _, rfl⟩ := List.mem_map.1 hn
              show 1 ≤ 100000
              decide) (by unfold needW; rw [List.length_map, List.length_take]; omega)
            obtain ⟨fb, hfb⟩ : ∃ fb, fb = (buildM (libSp kd (needW b) [1])).2 := ⟨_, rfl⟩
            rw [← hfb] at hcall
            have HFB := Lib.hid hfb
            clear hfb
            refine hcall.mono ?_
            clear hcall
            rintro e w3 ⟨v3, rfl, h3, k3⟩
            refine hKe _ _ ⟨fun _ => trivial, ?_⟩
            clear hwr hr1 hr2 hr3 hr4 hext
            have hb3 := FlO.bts h3
            have hcw : Keep (fun j => wc.heap.size ≤ j) wc w3 := ((Keep.refl _ wc).drew).trans (k3.mono (B := fun j => wc.heap.size ≤ j) fun _ _ h => h.elim) fun j hj e => e
            have hF3 := hF1.out.keep hcw
            have hfo : ∀ k, some k = (Value.slice af nf cf).ownBlock → k < wc.heap.size := fun k hk => (World.ownsRow.lt hF1.out.row k hk.symm).2
            have hwb : w1.heap.size ≤ wc.heap.size := hF1.out.kept.size
            obtain ⟨a3, n3, c3, rfl⟩ := FlO.sh h3
            have hff : FileOk (fun k => w1.heap.size ≤ k ∧ some k ≠ (Value.slice af nf cf).ownBlock ∧ k < w3.heap.size) w3 (.string bs, .slice a3 n3 c3) (fileW nd i) := by
              refine ⟨by show Value.string bs = _; rw [HBS.out]; rfl, ?_⟩
              have e : (fileW nd i).2 = fb := by rw [HFB.out, HKD.out, HB.out]; rfl
              rw [e]
              refine Sl.mono hb3 fun k hk ha => ?_
              have hak : wc.heap.size ≤ k := ha.1
              exact ⟨Nat.le_trans hwb hak, fun e => absurd (hfo k e) (Nat.not_lt.2 hak), ha.2⟩
            have hpl : ps.length ≤ 11 := by rw [hF3.len, filesW_len]; exact hi11
            clear h3 k3 hb3 hO hO1
            apply sig_still (o := ⟨some 75, _, _, _, _, _⟩) rfl rfl
            · intro w' hS
              first | (go_simp; done) | (go_simp; rfl) | rfl
            go_frame
            refine sig_eff (o := ⟨some 76, _, _, _, _, _⟩) rfl rfl (fun K hKe => ?_)
            go_wp2_with fail
            refine ⟨fun _ => trivial, ?_⟩
            refine sig_eff (o := ⟨some 77, _, _, _, _, _⟩) rfl rfl (fun K hKe => ?_)
            refine wo_append _ _ _ _ rfl _ _ rfl rfl ?_
            refine rg_push (P := Try.prog) (enc := encP) (x := (.string bs, .slice a3 n3 c3)) _ _ Try.underlying24 file_info (by rfl) (by decide) (by rfl) (by rfl) (by
              intro u hu
              rcases List.mem_cons.1 hu with rfl | hu
              · rfl
              · rw [List.mem_singleton.1 hu]; rfl) hF3.row (by omega) (by decide) hF3.kept.size ?_
            intro v4 w4 ho4 hk4 hn4
            have hF4 := hF3.push ho4 hk4 hn4 hff
            rw [← filesW_succ] at hF4
            refine hKe _ _ ⟨fun _ => trivial, ?_⟩
            obtain ⟨a4, n4, c4, rfl⟩ := FlO.sh ho4
            clear ho4 hk4 hn4 hff hF3 hfo
            refine sig_eff (o := ⟨some 4, _, _, _, _, _⟩) rfl rfl (fun K hKe => ?_)
            go_wp2_with fail
            refine ⟨fun _ => trivial, ?_⟩
            refine sig_nil ?_
            go_wp2_with fail
            go_roundw
            case rel => exact ⟨i + 1, _, by go_num, h1, h2, hF4⟩
            case measure => simp [intOf]; omega
      · rcases Nat.lt_or_ge i nd.length with h2 | h2
        · have g1 : (i : Int) < (nd.length : Int) := by omega
          have g2 : (11 : Int) ≤ (i : Int) := by omega
          clear hlt
          go_wp2_with fail
          go_meet
          exact ⟨i, ps, hF⟩
        · have g1 : (nd.length : Int) ≤ (i : Int) := by omega
          clear hlt
          go_wp2_with fail
          go_meet
          exact ⟨i, ps, hF⟩
  case rest =>
    obtain ⟨i, ps, hF⟩ := hcut
    refine use_k (by assumption) ?_
    exact whole_rest (z4 := .bool true) hF (fun f hf => by
      unfold filesW at hf
      obtain ⟨j, _, rfl⟩ := List.mem_map.1 hf
      exact Nat.le_trans (buildM_le _) (by decide)) hkA
end
end Go.Proofs.Ytbnahidopemkiaa
