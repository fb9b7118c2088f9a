/- partialInsertionSortOrdered at uint64. No condition. -/
import Derived.Test.YthfekjnekaecaaaDoorSortW4
set_option linter.unusedVariables false
set_option linter.unusedSimpArgs false
namespace Go.Proofs.YthfekjnekaecaaaDoor
open Go.RowKit Go.Dm
section
variable {w : World} {base g cap a b : Nat} {D E : Array Nat}
set_option maxRecDepth 100000 in
set_option maxHeartbeats 16000000 in
theorem par_any (h : Nums w base g cap D) (hab : a < b) (hb : b ≤ D.size) (hn : D.size ≤ 1099511627776) :
    Calls Tryd.prog 80 #[.slice (some ⟨g, 0, none⟩) D.size cap, .int .i64 (a : Int), .int .i64 (b : Int)] w fun e w' => e = .returned (.bool (Sort.partialInsertionSort ltN D a b).2) ∧ Nums w' base g cap (Sort.partialInsertionSort ltN D a b).1 ∧ Keep (fun j => j = g) w w' := by
  generalize hR : Sort.partialInsertionSort ltN D a b = R
  unfold Sort.partialInsertionSort at hR
  generalize hN : D.size = n at *
  have HN := Lib.hid hN
  have HR := Lib.hid hR
  clear hN hR
  go_enter Tryd.func80, Tryd.ntmps80
  go_wp2_with (first | (at_builtin; refine wl_append rfl _ _ _ _ rfl _ _ rfl rfl ?_) | (at_make; refine wl_make rfl _ _ _ rfl _ _ rfl rfl ?_) | (at_mapUpdate; refine wl_mapUpdate rfl _ _ _ _ rfl _ _ _ rfl rfl rfl ?_) | (at_lookup; refine wl_lookup rfl _ _ _ _ rfl _ _ rfl rfl ?_) | (at_delete; refine wl_delete rfl _ _ _ _ rfl _ _ rfl rfl ?_) | (with_reducible refine wl_len rfl _ _ rfl _ rfl ?_) | (with_reducible refine wl_range rfl _ _ rfl _ rfl ?_) | (with_reducible refine wl_next rfl _ rfl _ rfl ?_) | (with_reducible refine wl_copy rfl _ _ _ _ rfl _ _ rfl rfl ?_) | (with_reducible refine wl_max rfl _ _ _ _ rfl _ _ rfl rfl ?_) | (with_reducible refine wl_min rfl _ _ _ _ rfl _ _ rfl rfl ?_))
  go_loopw [7, 8, 9, 10] (fun iv jv _ _ wr => ∃ (i s : Nat) (E : Array Nat), iv = .int .i64 (i : Int) ∧ (∃ z : Int, jv = .int .i64 z ∧ z = 5 - (s : Int)) ∧ s ≤ 5 ∧ a < i ∧ i ≤ b ∧ Sort.partialIns ltN a b s i E = R ∧ E.size = n ∧ Nums wr base g cap E ∧ Keep (fun j => j = g) w wr) (fun _ jv _ _ _ => (5 - intOf jv).toNat)
  case atStart => exact ⟨a + 1, 5, D, by go_num, ⟨0, rfl, rfl⟩, by omega, by omega, by omega, HR.out, HN.out, h, Keep.refl _ _⟩
  case round =>
    clear h HR HN
    obtain ⟨i, s, E, rfl, ⟨z, rfl, hz⟩, hs5, hai, hib, hE, hEs, hO, hk⟩ := hrel
    generalize wr = wz at *
    cases s with
    | zero =>
      have hE : (E, false) = R := hE
      subst hE
      obtain rfl : z = 5 := by omega
      clear hz
      go_wp2_with (first | (at_builtin; refine wl_append rfl _ _ _ _ rfl _ _ rfl rfl ?_) | (at_make; refine wl_make rfl _ _ _ rfl _ _ rfl rfl ?_) | (at_mapUpdate; refine wl_mapUpdate rfl _ _ _ _ rfl _ _ _ rfl rfl rfl ?_) | (at_lookup; refine wl_lookup rfl _ _ _ _ rfl _ _ rfl rfl ?_) | (at_delete; refine wl_delete rfl _ _ _ _ rfl _ _ rfl rfl ?_) | (with_reducible refine wl_len rfl _ _ rfl _ rfl ?_) | (with_reducible refine wl_range rfl _ _ rfl _ rfl ?_) | (with_reducible refine wl_next rfl _ rfl _ rfl ?_) | (with_reducible refine wl_copy rfl _ _ _ _ rfl _ _ rfl rfl ?_) | (with_reducible refine wl_max rfl _ _ _ _ rfl _ _ rfl rfl ?_) | (with_reducible refine wl_min rfl _ _ _ _ rfl _ _ rfl rfl ?_))
      go_ret
      exact ⟨rfl, hO, hk⟩
    | succ s =>
      have hzl : z < 5 := by omega
      have hz1 : z + 1 = 5 - (s : Int) := by omega
      have hz0 : 0 ≤ z := by omega
      rw [Sort.partialIns] at hE
      dsimp only at hE
      generalize hI : Sort.scanSorted ltN E b i = I at hE
      have HE := Lib.hid hE
      have HI := Lib.hid hI
      have HES := Lib.hid hEs
      have HZ1 := Lib.hid hz1
      clear hE hI hEs hz hz1
      go_wp2_with (first | (at_builtin; refine wl_append rfl _ _ _ _ rfl _ _ rfl rfl ?_) | (at_make; refine wl_make rfl _ _ _ rfl _ _ rfl rfl ?_) | (at_mapUpdate; refine wl_mapUpdate rfl _ _ _ _ rfl _ _ _ rfl rfl rfl ?_) | (at_lookup; refine wl_lookup rfl _ _ _ _ rfl _ _ rfl rfl ?_) | (at_delete; refine wl_delete rfl _ _ _ _ rfl _ _ rfl rfl ?_) | (with_reducible refine wl_len rfl _ _ rfl _ rfl ?_) | (with_reducible refine wl_range rfl _ _ rfl _ rfl ?_) | (with_reducible refine wl_next rfl _ rfl _ rfl ?_) | (with_reducible refine wl_copy rfl _ _ _ _ rfl _ _ rfl rfl ?_) | (with_reducible refine wl_max rfl _ _ _ _ rfl _ _ rfl rfl ?_) | (with_reducible refine wl_min rfl _ _ _ _ rfl _ _ rfl rfl ?_))
      go_loopw [7] (fun iv wr => ∃ k : Nat, iv = .int .i64 (k : Int) ∧ a < k ∧ k ≤ b ∧ Sort.scanSorted ltN E b k = I ∧ Nums wr base g cap E ∧ Keep (fun j => j = g) w wr) (fun iv _ => b - (intOf iv).toNat)
      case atStart => exact ⟨i, rfl, hai, hib, HI.out, hO, hk⟩
      case round =>
        clear HI hO hk
        obtain ⟨k, rfl, hak, hkb, hI, hO, hk⟩ := hrel
        generalize wr = wx at *
        have hEs := HES.out
        rw [Sort.scanSorted] at hI
        rcases Nat.lt_or_ge k b with hlt | hge
        · have hz : (k : Int) < (b : Int) := by omega
          have hz2 : decide ((k : Int) < (b : Int)) = true := by simp; omega
          have hz3 : decide (k < b) = true := by simp; omega
          have hzb : ((k : Int) == (b : Int)) = false := by simp; omega
          simp only [hz3, Bool.true_and] at hI
          obtain ⟨r, hr1, hr2⟩ : ∃ r, k ≤ r + 1 ∧ r + 1 ≤ k := ⟨k - 1, by omega, by omega⟩
          rw [show k - 1 = r by omega] at hI
          have e1 : (k : Int) - 1 = (r : Int) := by omega
          have w1 : IntKind.i64.wrap (r : Int) = (r : Int) := by rw [IntKind.wrap_i64]; omega
          have w2 : IntKind.i64.wrap ((k : Int) - 1) = (r : Int) := by rw [e1, IntKind.wrap_i64]; omega
          have b1 : (r : Int) < (n : Int) := by omega
          have b2 : (k : Int) < (n : Int) := by omega
          have hne : k ≠ r := by omega
          have c1 := (hO).cell (i := k) (by omega)
          have c2 := (hO).cell (i := r) (by omega)
          have f1 := (hO).frozen k
          have f2 := (hO).frozen r
          have hsw : Nums ((wx.setCell ⟨g, k, none⟩ (uv E[r]!)).setCell ⟨g, r, none⟩ (uv E[k]!)) base g cap (Sort.swp E k r) := ((hO).set k E[r]!).set r E[k]!
          have hkw : Keep (fun j => j = g) wx ((wx.setCell ⟨g, k, none⟩ (uv E[r]!)).setCell ⟨g, r, none⟩ (uv E[k]!)) := ((Keep.refl (fun j => j = g) wx).setCell (p := ⟨g, k, none⟩) (fun _ => rfl) _).setCell (p := ⟨g, r, none⟩) (fun _ => rfl) _
          unfold uv at c1 c2 hsw hkw
          generalize E[k]! = x0 at *
          generalize E[r]! = y0 at *
          have HSZ := Lib.hid ((Sort.size_swp E k r).trans hEs)
          have HI := Lib.hid hI
          have HSW := Lib.hid hsw
          have HKW := Lib.hid (hk.trans' hkw)
          have hark : a ≤ r := by omega
          clear hsw hkw hI hEs
          go_wp2_with (first | (at_builtin; refine wl_append rfl _ _ _ _ rfl _ _ rfl rfl ?_) | (at_make; refine wl_make rfl _ _ _ rfl _ _ rfl rfl ?_) | (at_mapUpdate; refine wl_mapUpdate rfl _ _ _ _ rfl _ _ _ rfl rfl rfl ?_) | (at_lookup; refine wl_lookup rfl _ _ _ _ rfl _ _ rfl rfl ?_) | (at_delete; refine wl_delete rfl _ _ _ _ rfl _ _ rfl rfl ?_) | (with_reducible refine wl_len rfl _ _ rfl _ rfl ?_) | (with_reducible refine wl_range rfl _ _ rfl _ rfl ?_) | (with_reducible refine wl_next rfl _ rfl _ rfl ?_) | (with_reducible refine wl_copy rfl _ _ _ _ rfl _ _ rfl rfl ?_) | (with_reducible refine wl_max rfl _ _ _ _ rfl _ _ rfl rfl ?_) | (with_reducible refine wl_min rfl _ _ _ _ rfl _ _ rfl rfl ?_))
          go_quiet (first | (go_at_call 81; exact Calls.quiet_of_same (less_same _ _ _)) | (go_at_call 81; exact quiet_on (less_same _ _ _)))
          cases hl : ltN x0 y0 with
          | false =>
            have hI := HI.out
            rw [hl, if_pos (by rfl)] at hI
            have HI2 := Lib.hid hI
            clear hI
            go_wp2_with (first | (at_builtin; refine wl_append rfl _ _ _ _ rfl _ _ rfl rfl ?_) | (at_make; refine wl_make rfl _ _ _ rfl _ _ rfl rfl ?_) | (at_mapUpdate; refine wl_mapUpdate rfl _ _ _ _ rfl _ _ _ rfl rfl rfl ?_) | (at_lookup; refine wl_lookup rfl _ _ _ _ rfl _ _ rfl rfl ?_) | (at_delete; refine wl_delete rfl _ _ _ _ rfl _ _ rfl rfl ?_) | (with_reducible refine wl_len rfl _ _ rfl _ rfl ?_) | (with_reducible refine wl_range rfl _ _ rfl _ rfl ?_) | (with_reducible refine wl_next rfl _ rfl _ rfl ?_) | (with_reducible refine wl_copy rfl _ _ _ _ rfl _ _ rfl rfl ?_) | (with_reducible refine wl_max rfl _ _ _ _ rfl _ _ rfl rfl ?_) | (with_reducible refine wl_min rfl _ _ _ _ rfl _ _ rfl rfl ?_))
            go_roundw
            case rel => exact ⟨k + 1, by go_num, by omega, by omega, HI2.out, hO, hk.drewN _⟩
            case measure => first | (simp [intOf]; done) | (simp [intOf]; omega)
          | true =>
            have hI := HI.out
            rw [hl, if_neg (by simp)] at hI
            have hE := HE.out
            rw [← hI, if_neg (by omega)] at hE
            clear hI
            by_cases h50 : b - a < 50
            · rw [if_pos h50] at hE
              subst hE
              have h50z : (b : Int) - (a : Int) < 50 := by omega
              go_wp2_with (first | (at_builtin; refine wl_append rfl _ _ _ _ rfl _ _ rfl rfl ?_) | (at_make; refine wl_make rfl _ _ _ rfl _ _ rfl rfl ?_) | (at_mapUpdate; refine wl_mapUpdate rfl _ _ _ _ rfl _ _ _ rfl rfl rfl ?_) | (at_lookup; refine wl_lookup rfl _ _ _ _ rfl _ _ rfl rfl ?_) | (at_delete; refine wl_delete rfl _ _ _ _ rfl _ _ rfl rfl ?_) | (with_reducible refine wl_len rfl _ _ rfl _ rfl ?_) | (with_reducible refine wl_range rfl _ _ rfl _ rfl ?_) | (with_reducible refine wl_next rfl _ rfl _ rfl ?_) | (with_reducible refine wl_copy rfl _ _ _ _ rfl _ _ rfl rfl ?_) | (with_reducible refine wl_max rfl _ _ _ _ rfl _ _ rfl rfl ?_) | (with_reducible refine wl_min rfl _ _ _ _ rfl _ _ rfl rfl ?_))
              go_ret
              exact ⟨rfl, hO, hk.drewN _⟩
            · rw [if_neg h50, show k - 1 = r by omega] at hE
              have h50z : ¬ (b : Int) - (a : Int) < 50 := by omega
              have HE2 := Lib.hid hE
              clear hE
              go_wp2_with (first | (at_builtin; refine wl_append rfl _ _ _ _ rfl _ _ rfl rfl ?_) | (at_make; refine wl_make rfl _ _ _ rfl _ _ rfl rfl ?_) | (at_mapUpdate; refine wl_mapUpdate rfl _ _ _ _ rfl _ _ _ rfl rfl rfl ?_) | (at_lookup; refine wl_lookup rfl _ _ _ _ rfl _ _ rfl rfl ?_) | (at_delete; refine wl_delete rfl _ _ _ _ rfl _ _ rfl rfl ?_) | (with_reducible refine wl_len rfl _ _ rfl _ rfl ?_) | (with_reducible refine wl_range rfl _ _ rfl _ rfl ?_) | (with_reducible refine wl_next rfl _ rfl _ rfl ?_) | (with_reducible refine wl_copy rfl _ _ _ _ rfl _ _ rfl rfl ?_) | (with_reducible refine wl_max rfl _ _ _ _ rfl _ _ rfl rfl ?_) | (with_reducible refine wl_min rfl _ _ _ _ rfl _ _ rfl rfl ?_))
              go_region
              generalize hwd : ((wx.drewN (nq + 1)).setCell ⟨g, k, none⟩ (.int .u64 (y0 : Int))).setCell ⟨g, r, none⟩ (.int .u64 (x0 : Int)) = wd
              have hOd : Nums wd base g cap (Sort.swp E k r) := by rw [← hwd]; exact HSW.out
              have hKd : Keep (fun j => j = g) w wd := by rw [← hwd]; exact keep_swap HKW.out _
              clear hwd HSW HKW c1 c2 f1 f2 hO hk HE HI HES
              generalize Sort.swp E k r = P1 at *
              by_cases h3 : 2 ≤ k - a
              · have hE := HE2.out
                rw [if_pos h3] at hE
                have h3z : (2 : Int) ≤ (k : Int) - (a : Int) := by omega
                generalize hX : Sort.shiftDown ltN r P1 = X at hE
                have HX := Lib.hid hX
                have HPI := Lib.hid (show Sort.partialIns ltN a b s k (if 2 ≤ b - k then Sort.shiftUp ltN b (k + 1) X else X) = R from hE)
                clear hE hX HE2 h3
                go_wp2_with (first | (at_builtin; refine wl_append rfl _ _ _ _ rfl _ _ rfl rfl ?_) | (at_make; refine wl_make rfl _ _ _ rfl _ _ rfl rfl ?_) | (at_mapUpdate; refine wl_mapUpdate rfl _ _ _ _ rfl _ _ _ rfl rfl rfl ?_) | (at_lookup; refine wl_lookup rfl _ _ _ _ rfl _ _ rfl rfl ?_) | (at_delete; refine wl_delete rfl _ _ _ _ rfl _ _ rfl rfl ?_) | (with_reducible refine wl_len rfl _ _ rfl _ rfl ?_) | (with_reducible refine wl_range rfl _ _ rfl _ rfl ?_) | (with_reducible refine wl_next rfl _ rfl _ rfl ?_) | (with_reducible refine wl_copy rfl _ _ _ _ rfl _ _ rfl rfl ?_) | (with_reducible refine wl_max rfl _ _ _ _ rfl _ _ rfl rfl ?_) | (with_reducible refine wl_min rfl _ _ _ _ rfl _ _ rfl rfl ?_))
                go_loopw [9] (fun tv wr => ∃ (t : Nat) (F : Array Nat), tv = .int .i64 (t : Int) ∧ t ≤ r ∧ Sort.shiftDown ltN t F = X ∧ F.size = n ∧ Nums wr base g cap F ∧ Keep (fun j => j = g) w wr) (fun tv _ => (intOf tv).toNat)
                case atStart => exact ⟨r, P1, rfl, Nat.le_refl _, HX.out, HSZ.out, hOd, hKd⟩
                case round =>
                  clear hOd hKd HX HSZ
                  obtain ⟨t, F, rfl, htr, hF, hFs, hO, hk⟩ := hrel
                  generalize wr = wv at *
                  cases t with
                  | zero =>
                    have hF : F = X := hF
                    subst hF
                    have HFS := Lib.hid hFs
                    clear hFs
                    by_cases h2 : 2 ≤ b - k
                    · have hpi := (HPI).out
                      rw [if_pos h2] at hpi
                      generalize hY : Sort.shiftUp ltN b (k + 1) F = Y at hpi
                      have HP2 := Lib.hid hpi
                      have HY := Lib.hid hY
                      have h2z : (2 : Int) ≤ (b : Int) - (k : Int) := by omega
                      have HSF := Lib.hid (HFS.out)
                      have hOf : Nums wv base g cap F := hO
                      have hKf : Keep (fun j => j = g) w wv := hk
                      clear hpi hY
                      go_wp2_with (first | (at_builtin; refine wl_append rfl _ _ _ _ rfl _ _ rfl rfl ?_) | (at_make; refine wl_make rfl _ _ _ rfl _ _ rfl rfl ?_) | (at_mapUpdate; refine wl_mapUpdate rfl _ _ _ _ rfl _ _ _ rfl rfl rfl ?_) | (at_lookup; refine wl_lookup rfl _ _ _ _ rfl _ _ rfl rfl ?_) | (at_delete; refine wl_delete rfl _ _ _ _ rfl _ _ rfl rfl ?_) | (with_reducible refine wl_len rfl _ _ rfl _ rfl ?_) | (with_reducible refine wl_range rfl _ _ rfl _ rfl ?_) | (with_reducible refine wl_next rfl _ rfl _ rfl ?_) | (with_reducible refine wl_copy rfl _ _ _ _ rfl _ _ rfl rfl ?_) | (with_reducible refine wl_max rfl _ _ _ _ rfl _ _ rfl rfl ?_) | (with_reducible refine wl_min rfl _ _ _ _ rfl _ _ rfl rfl ?_))
                      go_loopw [10] (fun tv wr => ∃ (t : Nat) (G : Array Nat), tv = .int .i64 (t : Int) ∧ k < t ∧ t ≤ b ∧ Sort.shiftUp ltN b t G = Y ∧ G.size = n ∧ Nums wr base g cap G ∧ Keep (fun j => j = g) w wr) (fun tv _ => b - (intOf tv).toNat)
                      case atStart => exact ⟨k + 1, F, by go_num, by omega, by omega, HY.out, HSF.out, hOf, hKf⟩
                      case round =>
                        clear hOf hKf HSF HY
                        obtain ⟨t, G, rfl, hkt, htb, hG, hGs, hO, hk⟩ := hrel
                        generalize wr = wu at *
                        rw [Sort.shiftUp] at hG
                        rcases Nat.lt_or_ge t b with hlt | hge
                        · rw [if_pos hlt] at hG
                          have htz : (t : Int) < (b : Int) := by omega
                          obtain ⟨r, hr⟩ : ∃ r, t = r + 1 := ⟨t - 1, by omega⟩
                          rw [show t - 1 = r by omega] at hG
                          have e1 : (t : Int) - 1 = (r : Int) := by omega
                          have w1 : IntKind.i64.wrap (r : Int) = (r : Int) := by rw [IntKind.wrap_i64]; omega
                          have w2 : IntKind.i64.wrap ((t : Int) - 1) = (r : Int) := by rw [e1, IntKind.wrap_i64]; omega
                          have b1 : (r : Int) < (n : Int) := by omega
                          have b2 : (t : Int) < (n : Int) := by omega
                          have hne : t ≠ r := by omega
                          have c1 := (hO).cell (i := t) (by omega)
                          have c2 := (hO).cell (i := r) (by omega)
                          have f1 := (hO).frozen t
                          have f2 := (hO).frozen r
                          have hsw : Nums ((wu.setCell ⟨g, t, none⟩ (uv G[r]!)).setCell ⟨g, r, none⟩ (uv G[t]!)) base g cap (Sort.swp G t r) := ((hO).set t G[r]!).set r G[t]!
                          have hkw : Keep (fun j => j = g) wu ((wu.setCell ⟨g, t, none⟩ (uv G[r]!)).setCell ⟨g, r, none⟩ (uv G[t]!)) := ((Keep.refl (fun j => j = g) wu).setCell (p := ⟨g, t, none⟩) (fun _ => rfl) _).setCell (p := ⟨g, r, none⟩) (fun _ => rfl) _
                          unfold uv at c1 c2 hsw hkw
                          generalize G[t]! = x1 at *
                          generalize G[r]! = y1 at *
                          have HSZ := Lib.hid ((Sort.size_swp G t r).trans hGs)
                          have HGS := Lib.hid hGs
                          have HG := Lib.hid hG
                          have HSW := Lib.hid hsw
                          have HKW := Lib.hid (hk.trans' hkw)
                          clear hsw hkw hG hGs hr
                          go_wp2_with (first | (at_builtin; refine wl_append rfl _ _ _ _ rfl _ _ rfl rfl ?_) | (at_make; refine wl_make rfl _ _ _ rfl _ _ rfl rfl ?_) | (at_mapUpdate; refine wl_mapUpdate rfl _ _ _ _ rfl _ _ _ rfl rfl rfl ?_) | (at_lookup; refine wl_lookup rfl _ _ _ _ rfl _ _ rfl rfl ?_) | (at_delete; refine wl_delete rfl _ _ _ _ rfl _ _ rfl rfl ?_) | (with_reducible refine wl_len rfl _ _ rfl _ rfl ?_) | (with_reducible refine wl_range rfl _ _ rfl _ rfl ?_) | (with_reducible refine wl_next rfl _ rfl _ rfl ?_) | (with_reducible refine wl_copy rfl _ _ _ _ rfl _ _ rfl rfl ?_) | (with_reducible refine wl_max rfl _ _ _ _ rfl _ _ rfl rfl ?_) | (with_reducible refine wl_min rfl _ _ _ _ rfl _ _ rfl rfl ?_))
                          go_quiet (first | (go_at_call 81; exact Calls.quiet_of_same (less_same _ _ _)) | (go_at_call 81; exact quiet_on (less_same _ _ _)))
                          cases hl : ltN x1 y1 with
                          | false =>
                            have hG := HG.out
                            rw [hl, if_pos (by rfl)] at hG
                            subst hG
                            go_wp2_with (first | (at_builtin; refine wl_append rfl _ _ _ _ rfl _ _ rfl rfl ?_) | (at_make; refine wl_make rfl _ _ _ rfl _ _ rfl rfl ?_) | (at_mapUpdate; refine wl_mapUpdate rfl _ _ _ _ rfl _ _ _ rfl rfl rfl ?_) | (at_lookup; refine wl_lookup rfl _ _ _ _ rfl _ _ rfl rfl ?_) | (at_delete; refine wl_delete rfl _ _ _ _ rfl _ _ rfl rfl ?_) | (with_reducible refine wl_len rfl _ _ rfl _ rfl ?_) | (with_reducible refine wl_range rfl _ _ rfl _ rfl ?_) | (with_reducible refine wl_next rfl _ rfl _ rfl ?_) | (with_reducible refine wl_copy rfl _ _ _ _ rfl _ _ rfl rfl ?_) | (with_reducible refine wl_max rfl _ _ _ _ rfl _ _ rfl rfl ?_) | (with_reducible refine wl_min rfl _ _ _ _ rfl _ _ rfl rfl ?_))
                            go_roundw
                            case rel => exact ⟨k, s, G, rfl, ⟨_, rfl, HZ1.out⟩, by omega, hak, hkb, (HP2).out, HGS.out, hO, (hk.drewN _)⟩
                            case measure => first | (simp [intOf]; done) | (simp [intOf]; omega)
                          | true =>
                            have hG := HG.out
                            rw [hl, if_neg (by simp)] at hG
                            have HG2 := Lib.hid hG
                            clear hG
                            go_wp2_with (first | (at_builtin; refine wl_append rfl _ _ _ _ rfl _ _ rfl rfl ?_) | (at_make; refine wl_make rfl _ _ _ rfl _ _ rfl rfl ?_) | (at_mapUpdate; refine wl_mapUpdate rfl _ _ _ _ rfl _ _ _ rfl rfl rfl ?_) | (at_lookup; refine wl_lookup rfl _ _ _ _ rfl _ _ rfl rfl ?_) | (at_delete; refine wl_delete rfl _ _ _ _ rfl _ _ rfl rfl ?_) | (with_reducible refine wl_len rfl _ _ rfl _ rfl ?_) | (with_reducible refine wl_range rfl _ _ rfl _ rfl ?_) | (with_reducible refine wl_next rfl _ rfl _ rfl ?_) | (with_reducible refine wl_copy rfl _ _ _ _ rfl _ _ rfl rfl ?_) | (with_reducible refine wl_max rfl _ _ _ _ rfl _ _ rfl rfl ?_) | (with_reducible refine wl_min rfl _ _ _ _ rfl _ _ rfl rfl ?_))
                            go_region
                            go_wp2_with (first | (at_builtin; refine wl_append rfl _ _ _ _ rfl _ _ rfl rfl ?_) | (at_make; refine wl_make rfl _ _ _ rfl _ _ rfl rfl ?_) | (at_mapUpdate; refine wl_mapUpdate rfl _ _ _ _ rfl _ _ _ rfl rfl rfl ?_) | (at_lookup; refine wl_lookup rfl _ _ _ _ rfl _ _ rfl rfl ?_) | (at_delete; refine wl_delete rfl _ _ _ _ rfl _ _ rfl rfl ?_) | (with_reducible refine wl_len rfl _ _ rfl _ rfl ?_) | (with_reducible refine wl_range rfl _ _ rfl _ rfl ?_) | (with_reducible refine wl_next rfl _ rfl _ rfl ?_) | (with_reducible refine wl_copy rfl _ _ _ _ rfl _ _ rfl rfl ?_) | (with_reducible refine wl_max rfl _ _ _ _ rfl _ _ rfl rfl ?_) | (with_reducible refine wl_min rfl _ _ _ _ rfl _ _ rfl rfl ?_))
                            go_roundw
                            case rel => exact ⟨t + 1, Sort.swp G t r, by go_num, by omega, by omega, HG2.out, HSZ.out, HSW.out, keep_swap HKW.out _⟩
                            case measure => first | (simp [intOf]; done) | (simp [intOf]; omega)
                        · rw [if_neg (by omega)] at hG
                          subst hG
                          have htz : ¬ (t : Int) < (b : Int) := by omega
                          go_wp2_with (first | (at_builtin; refine wl_append rfl _ _ _ _ rfl _ _ rfl rfl ?_) | (at_make; refine wl_make rfl _ _ _ rfl _ _ rfl rfl ?_) | (at_mapUpdate; refine wl_mapUpdate rfl _ _ _ _ rfl _ _ _ rfl rfl rfl ?_) | (at_lookup; refine wl_lookup rfl _ _ _ _ rfl _ _ rfl rfl ?_) | (at_delete; refine wl_delete rfl _ _ _ _ rfl _ _ rfl rfl ?_) | (with_reducible refine wl_len rfl _ _ rfl _ rfl ?_) | (with_reducible refine wl_range rfl _ _ rfl _ rfl ?_) | (with_reducible refine wl_next rfl _ rfl _ rfl ?_) | (with_reducible refine wl_copy rfl _ _ _ _ rfl _ _ rfl rfl ?_) | (with_reducible refine wl_max rfl _ _ _ _ rfl _ _ rfl rfl ?_) | (with_reducible refine wl_min rfl _ _ _ _ rfl _ _ rfl rfl ?_))
                          go_roundw
                          case rel => exact ⟨k, s, G, rfl, ⟨_, rfl, HZ1.out⟩, by omega, hak, hkb, (HP2).out, hGs, hO, hk⟩
                          case measure => first | (simp [intOf]; done) | (simp [intOf]; omega)
                    · have hpi := (HPI).out
                      rw [if_neg h2] at hpi
                      have HP2 := Lib.hid hpi
                      have h2z : ¬ (2 : Int) ≤ (b : Int) - (k : Int) := by omega
                      have HSF := Lib.hid (HFS.out)
                      have hOf : Nums wv base g cap F := hO
                      have hKf : Keep (fun j => j = g) w wv := hk
                      clear hpi
                      go_wp2_with (first | (at_builtin; refine wl_append rfl _ _ _ _ rfl _ _ rfl rfl ?_) | (at_make; refine wl_make rfl _ _ _ rfl _ _ rfl rfl ?_) | (at_mapUpdate; refine wl_mapUpdate rfl _ _ _ _ rfl _ _ _ rfl rfl rfl ?_) | (at_lookup; refine wl_lookup rfl _ _ _ _ rfl _ _ rfl rfl ?_) | (at_delete; refine wl_delete rfl _ _ _ _ rfl _ _ rfl rfl ?_) | (with_reducible refine wl_len rfl _ _ rfl _ rfl ?_) | (with_reducible refine wl_range rfl _ _ rfl _ rfl ?_) | (with_reducible refine wl_next rfl _ rfl _ rfl ?_) | (with_reducible refine wl_copy rfl _ _ _ _ rfl _ _ rfl rfl ?_) | (with_reducible refine wl_max rfl _ _ _ _ rfl _ _ rfl rfl ?_) | (with_reducible refine wl_min rfl _ _ _ _ rfl _ _ rfl rfl ?_))
                      go_roundw
                      case rel => exact ⟨k, s, F, rfl, ⟨_, rfl, HZ1.out⟩, by omega, hak, hkb, (HP2).out, HSF.out, hOf, hKf⟩
                      case measure => first | (simp [intOf]; done) | (simp [intOf]; omega)
                  | succ t1 =>
                    rw [Sort.shiftDown] at hF
                    have c1 := (hO).cell (i := (t1 + 1)) (by omega)
                    have c2 := (hO).cell (i := t1) (by omega)
                    have f1 := (hO).frozen (t1 + 1)
                    have f2 := (hO).frozen t1
                    have hsw : Nums ((wv.setCell ⟨g, (t1 + 1), none⟩ (uv F[t1]!)).setCell ⟨g, t1, none⟩ (uv F[(t1 + 1)]!)) base g cap (Sort.swp F (t1 + 1) t1) := ((hO).set (t1 + 1) F[t1]!).set t1 F[(t1 + 1)]!
                    have hkw : Keep (fun j => j = g) wv ((wv.setCell ⟨g, (t1 + 1), none⟩ (uv F[t1]!)).setCell ⟨g, t1, none⟩ (uv F[(t1 + 1)]!)) := ((Keep.refl (fun j => j = g) wv).setCell (p := ⟨g, (t1 + 1), none⟩) (fun _ => rfl) _).setCell (p := ⟨g, t1, none⟩) (fun _ => rfl) _
                    unfold uv at c1 c2 hsw hkw
                    generalize F[(t1 + 1)]! = x1 at *
                    generalize F[t1]! = y1 at *
                    have HSZ := Lib.hid ((Sort.size_swp F (t1 + 1) t1).trans hFs)
                    have HFS := Lib.hid hFs
                    have HF := Lib.hid hF
                    have HSW := Lib.hid hsw
                    have HKW := Lib.hid (hk.trans' hkw)
                    clear hsw hkw hF hFs
                    obtain ⟨t, ht⟩ : ∃ t, t = t1 + 1 := ⟨_, rfl⟩
                    rw [← ht] at c1 f1 HSZ HF HSW HKW htr ⊢
                    have htz : 1 ≤ (t : Int) := by omega
                    have e4 : (t : Int) - 1 = (t1 : Int) := by omega
                    have w3 : IntKind.i64.wrap (t1 : Int) = (t1 : Int) := by rw [IntKind.wrap_i64]; omega
                    have w4 : IntKind.i64.wrap ((t : Int) - 1) = (t1 : Int) := by rw [e4, IntKind.wrap_i64]; omega
                    have b3 : (t1 : Int) < (n : Int) := by omega
                    have b4 : (t : Int) < (n : Int) := by omega
                    have hne3 : t ≠ t1 := by omega
                    have htt : t1 ≤ r := by omega
                    have htm : t1 < t := by omega
                    clear ht
                    go_wp2_with (first | (at_builtin; refine wl_append rfl _ _ _ _ rfl _ _ rfl rfl ?_) | (at_make; refine wl_make rfl _ _ _ rfl _ _ rfl rfl ?_) | (at_mapUpdate; refine wl_mapUpdate rfl _ _ _ _ rfl _ _ _ rfl rfl rfl ?_) | (at_lookup; refine wl_lookup rfl _ _ _ _ rfl _ _ rfl rfl ?_) | (at_delete; refine wl_delete rfl _ _ _ _ rfl _ _ rfl rfl ?_) | (with_reducible refine wl_len rfl _ _ rfl _ rfl ?_) | (with_reducible refine wl_range rfl _ _ rfl _ rfl ?_) | (with_reducible refine wl_next rfl _ rfl _ rfl ?_) | (with_reducible refine wl_copy rfl _ _ _ _ rfl _ _ rfl rfl ?_) | (with_reducible refine wl_max rfl _ _ _ _ rfl _ _ rfl rfl ?_) | (with_reducible refine wl_min rfl _ _ _ _ rfl _ _ rfl rfl ?_))
                    go_quiet (first | (go_at_call 81; exact Calls.quiet_of_same (less_same _ _ _)) | (go_at_call 81; exact quiet_on (less_same _ _ _)))
                    cases hl2 : ltN x1 y1 with
                    | false =>
                      have hF := HF.out
                      rw [hl2, if_pos (by rfl)] at hF
                      subst hF
                      try simp only [Bool.not_false]
                      by_cases h2 : 2 ≤ b - k
                      · have hpi := (HPI).out
                        rw [if_pos h2] at hpi
                        generalize hY : Sort.shiftUp ltN b (k + 1) F = Y at hpi
                        have HP2 := Lib.hid hpi
                        have HY := Lib.hid hY
                        have h2z : (2 : Int) ≤ (b : Int) - (k : Int) := by omega
                        have HSF := Lib.hid (HFS.out)
                        have hOf : Nums (wv.drewN nq) base g cap F := hO
                        have hKf : Keep (fun j => j = g) w (wv.drewN nq) := (hk.drewN _)
                        clear hpi hY
                        go_wp2_with (first | (at_builtin; refine wl_append rfl _ _ _ _ rfl _ _ rfl rfl ?_) | (at_make; refine wl_make rfl _ _ _ rfl _ _ rfl rfl ?_) | (at_mapUpdate; refine wl_mapUpdate rfl _ _ _ _ rfl _ _ _ rfl rfl rfl ?_) | (at_lookup; refine wl_lookup rfl _ _ _ _ rfl _ _ rfl rfl ?_) | (at_delete; refine wl_delete rfl _ _ _ _ rfl _ _ rfl rfl ?_) | (with_reducible refine wl_len rfl _ _ rfl _ rfl ?_) | (with_reducible refine wl_range rfl _ _ rfl _ rfl ?_) | (with_reducible refine wl_next rfl _ rfl _ rfl ?_) | (with_reducible refine wl_copy rfl _ _ _ _ rfl _ _ rfl rfl ?_) | (with_reducible refine wl_max rfl _ _ _ _ rfl _ _ rfl rfl ?_) | (with_reducible refine wl_min rfl _ _ _ _ rfl _ _ rfl rfl ?_))
                        go_loopw [10] (fun tv wr => ∃ (t : Nat) (G : Array Nat), tv = .int .i64 (t : Int) ∧ k < t ∧ t ≤ b ∧ Sort.shiftUp ltN b t G = Y ∧ G.size = n ∧ Nums wr base g cap G ∧ Keep (fun j => j = g) w wr) (fun tv _ => b - (intOf tv).toNat)
                        case atStart => exact ⟨k + 1, F, by go_num, by omega, by omega, HY.out, HSF.out, hOf, hKf⟩
                        case round =>
                          clear hOf hKf HSF HY
                          obtain ⟨t, G, rfl, hkt, htb, hG, hGs, hO, hk⟩ := hrel
                          generalize wr = wu at *
                          rw [Sort.shiftUp] at hG
                          rcases Nat.lt_or_ge t b with hlt | hge
                          · rw [if_pos hlt] at hG
                            have htz : (t : Int) < (b : Int) := by omega
                            obtain ⟨r, hr⟩ : ∃ r, t = r + 1 := ⟨t - 1, by omega⟩
                            rw [show t - 1 = r by omega] at hG
                            have e1 : (t : Int) - 1 = (r : Int) := by omega
                            have w1 : IntKind.i64.wrap (r : Int) = (r : Int) := by rw [IntKind.wrap_i64]; omega
                            have w2 : IntKind.i64.wrap ((t : Int) - 1) = (r : Int) := by rw [e1, IntKind.wrap_i64]; omega
                            have b1 : (r : Int) < (n : Int) := by omega
                            have b2 : (t : Int) < (n : Int) := by omega
                            have hne : t ≠ r := by omega
                            have c1 := (hO).cell (i := t) (by omega)
                            have c2 := (hO).cell (i := r) (by omega)
                            have f1 := (hO).frozen t
                            have f2 := (hO).frozen r
                            have hsw : Nums ((wu.setCell ⟨g, t, none⟩ (uv G[r]!)).setCell ⟨g, r, none⟩ (uv G[t]!)) base g cap (Sort.swp G t r) := ((hO).set t G[r]!).set r G[t]!
                            have hkw : Keep (fun j => j = g) wu ((wu.setCell ⟨g, t, none⟩ (uv G[r]!)).setCell ⟨g, r, none⟩ (uv G[t]!)) := ((Keep.refl (fun j => j = g) wu).setCell (p := ⟨g, t, none⟩) (fun _ => rfl) _).setCell (p := ⟨g, r, none⟩) (fun _ => rfl) _
                            unfold uv at c1 c2 hsw hkw
                            generalize G[t]! = x1 at *
                            generalize G[r]! = y1 at *
                            have HSZ := Lib.hid ((Sort.size_swp G t r).trans hGs)
                            have HGS := Lib.hid hGs
                            have HG := Lib.hid hG
                            have HSW := Lib.hid hsw
                            have HKW := Lib.hid (hk.trans' hkw)
                            clear hsw hkw hG hGs hr
                            go_wp2_with (first | (at_builtin; refine wl_append rfl _ _ _ _ rfl _ _ rfl rfl ?_) | (at_make; refine wl_make rfl _ _ _ rfl _ _ rfl rfl ?_) | (at_mapUpdate; refine wl_mapUpdate rfl _ _ _ _ rfl _ _ _ rfl rfl rfl ?_) | (at_lookup; refine wl_lookup rfl _ _ _ _ rfl _ _ rfl rfl ?_) | (at_delete; refine wl_delete rfl _ _ _ _ rfl _ _ rfl rfl ?_) | (with_reducible refine wl_len rfl _ _ rfl _ rfl ?_) | (with_reducible refine wl_range rfl _ _ rfl _ rfl ?_) | (with_reducible refine wl_next rfl _ rfl _ rfl ?_) | (with_reducible refine wl_copy rfl _ _ _ _ rfl _ _ rfl rfl ?_) | (with_reducible refine wl_max rfl _ _ _ _ rfl _ _ rfl rfl ?_) | (with_reducible refine wl_min rfl _ _ _ _ rfl _ _ rfl rfl ?_))
                            go_quiet (first | (go_at_call 81; exact Calls.quiet_of_same (less_same _ _ _)) | (go_at_call 81; exact quiet_on (less_same _ _ _)))
                            cases hl : ltN x1 y1 with
                            | false =>
                              have hG := HG.out
                              rw [hl, if_pos (by rfl)] at hG
                              subst hG
                              go_wp2_with (first | (at_builtin; refine wl_append rfl _ _ _ _ rfl _ _ rfl rfl ?_) | (at_make; refine wl_make rfl _ _ _ rfl _ _ rfl rfl ?_) | (at_mapUpdate; refine wl_mapUpdate rfl _ _ _ _ rfl _ _ _ rfl rfl rfl ?_) | (at_lookup; refine wl_lookup rfl _ _ _ _ rfl _ _ rfl rfl ?_) | (at_delete; refine wl_delete rfl _ _ _ _ rfl _ _ rfl rfl ?_) | (with_reducible refine wl_len rfl _ _ rfl _ rfl ?_) | (with_reducible refine wl_range rfl _ _ rfl _ rfl ?_) | (with_reducible refine wl_next rfl _ rfl _ rfl ?_) | (with_reducible refine wl_copy rfl _ _ _ _ rfl _ _ rfl rfl ?_) | (with_reducible refine wl_max rfl _ _ _ _ rfl _ _ rfl rfl ?_) | (with_reducible refine wl_min rfl _ _ _ _ rfl _ _ rfl rfl ?_))
                              go_roundw
                              case rel => exact ⟨k, s, G, rfl, ⟨_, rfl, HZ1.out⟩, by omega, hak, hkb, (HP2).out, HGS.out, hO, (hk.drewN _)⟩
                              case measure => first | (simp [intOf]; done) | (simp [intOf]; omega)
                            | true =>
                              have hG := HG.out
                              rw [hl, if_neg (by simp)] at hG
                              have HG2 := Lib.hid hG
                              clear hG
                              go_wp2_with (first | (at_builtin; refine wl_append rfl _ _ _ _ rfl _ _ rfl rfl ?_) | (at_make; refine wl_make rfl _ _ _ rfl _ _ rfl rfl ?_) | (at_mapUpdate; refine wl_mapUpdate rfl _ _ _ _ rfl _ _ _ rfl rfl rfl ?_) | (at_lookup; refine wl_lookup rfl _ _ _ _ rfl _ _ rfl rfl ?_) | (at_delete; refine wl_delete rfl _ _ _ _ rfl _ _ rfl rfl ?_) | (with_reducible refine wl_len rfl _ _ rfl _ rfl ?_) | (with_reducible refine wl_range rfl _ _ rfl _ rfl ?_) | (with_reducible refine wl_next rfl _ rfl _ rfl ?_) | (with_reducible refine wl_copy rfl _ _ _ _ rfl _ _ rfl rfl ?_) | (with_reducible refine wl_max rfl _ _ _ _ rfl _ _ rfl rfl ?_) | (with_reducible refine wl_min rfl _ _ _ _ rfl _ _ rfl rfl ?_))
                              go_region
                              go_wp2_with (first | (at_builtin; refine wl_append rfl _ _ _ _ rfl _ _ rfl rfl ?_) | (at_make; refine wl_make rfl _ _ _ rfl _ _ rfl rfl ?_) | (at_mapUpdate; refine wl_mapUpdate rfl _ _ _ _ rfl _ _ _ rfl rfl rfl ?_) | (at_lookup; refine wl_lookup rfl _ _ _ _ rfl _ _ rfl rfl ?_) | (at_delete; refine wl_delete rfl _ _ _ _ rfl _ _ rfl rfl ?_) | (with_reducible refine wl_len rfl _ _ rfl _ rfl ?_) | (with_reducible refine wl_range rfl _ _ rfl _ rfl ?_) | (with_reducible refine wl_next rfl _ rfl _ rfl ?_) | (with_reducible refine wl_copy rfl _ _ _ _ rfl _ _ rfl rfl ?_) | (with_reducible refine wl_max rfl _ _ _ _ rfl _ _ rfl rfl ?_) | (with_reducible refine wl_min rfl _ _ _ _ rfl _ _ rfl rfl ?_))
                              go_roundw
                              case rel => exact ⟨t + 1, Sort.swp G t r, by go_num, by omega, by omega, HG2.out, HSZ.out, HSW.out, keep_swap HKW.out _⟩
                              case measure => first | (simp [intOf]; done) | (simp [intOf]; omega)
                          · rw [if_neg (by omega)] at hG
                            subst hG
                            have htz : ¬ (t : Int) < (b : Int) := by omega
                            go_wp2_with (first | (at_builtin; refine wl_append rfl _ _ _ _ rfl _ _ rfl rfl ?_) | (at_make; refine wl_make rfl _ _ _ rfl _ _ rfl rfl ?_) | (at_mapUpdate; refine wl_mapUpdate rfl _ _ _ _ rfl _ _ _ rfl rfl rfl ?_) | (at_lookup; refine wl_lookup rfl _ _ _ _ rfl _ _ rfl rfl ?_) | (at_delete; refine wl_delete rfl _ _ _ _ rfl _ _ rfl rfl ?_) | (with_reducible refine wl_len rfl _ _ rfl _ rfl ?_) | (with_reducible refine wl_range rfl _ _ rfl _ rfl ?_) | (with_reducible refine wl_next rfl _ rfl _ rfl ?_) | (with_reducible refine wl_copy rfl _ _ _ _ rfl _ _ rfl rfl ?_) | (with_reducible refine wl_max rfl _ _ _ _ rfl _ _ rfl rfl ?_) | (with_reducible refine wl_min rfl _ _ _ _ rfl _ _ rfl rfl ?_))
                            go_roundw
                            case rel => exact ⟨k, s, G, rfl, ⟨_, rfl, HZ1.out⟩, by omega, hak, hkb, (HP2).out, hGs, hO, hk⟩
                            case measure => first | (simp [intOf]; done) | (simp [intOf]; omega)
                      · have hpi := (HPI).out
                        rw [if_neg h2] at hpi
                        have HP2 := Lib.hid hpi
                        have h2z : ¬ (2 : Int) ≤ (b : Int) - (k : Int) := by omega
                        have HSF := Lib.hid (HFS.out)
                        have hOf : Nums (wv.drewN nq) base g cap F := hO
                        have hKf : Keep (fun j => j = g) w (wv.drewN nq) := (hk.drewN _)
                        clear hpi
                        go_wp2_with (first | (at_builtin; refine wl_append rfl _ _ _ _ rfl _ _ rfl rfl ?_) | (at_make; refine wl_make rfl _ _ _ rfl _ _ rfl rfl ?_) | (at_mapUpdate; refine wl_mapUpdate rfl _ _ _ _ rfl _ _ _ rfl rfl rfl ?_) | (at_lookup; refine wl_lookup rfl _ _ _ _ rfl _ _ rfl rfl ?_) | (at_delete; refine wl_delete rfl _ _ _ _ rfl _ _ rfl rfl ?_) | (with_reducible refine wl_len rfl _ _ rfl _ rfl ?_) | (with_reducible refine wl_range rfl _ _ rfl _ rfl ?_) | (with_reducible refine wl_next rfl _ rfl _ rfl ?_) | (with_reducible refine wl_copy rfl _ _ _ _ rfl _ _ rfl rfl ?_) | (with_reducible refine wl_max rfl _ _ _ _ rfl _ _ rfl rfl ?_) | (with_reducible refine wl_min rfl _ _ _ _ rfl _ _ rfl rfl ?_))
                        go_roundw
                        case rel => exact ⟨k, s, F, rfl, ⟨_, rfl, HZ1.out⟩, by omega, hak, hkb, (HP2).out, HSF.out, hOf, hKf⟩
                        case measure => first | (simp [intOf]; done) | (simp [intOf]; omega)
                    | true =>
                      have hF := HF.out
                      rw [hl2, if_neg (by simp)] at hF
                      have HF2 := Lib.hid hF
                      clear hF
                      go_wp2_with (first | (at_builtin; refine wl_append rfl _ _ _ _ rfl _ _ rfl rfl ?_) | (at_make; refine wl_make rfl _ _ _ rfl _ _ rfl rfl ?_) | (at_mapUpdate; refine wl_mapUpdate rfl _ _ _ _ rfl _ _ _ rfl rfl rfl ?_) | (at_lookup; refine wl_lookup rfl _ _ _ _ rfl _ _ rfl rfl ?_) | (at_delete; refine wl_delete rfl _ _ _ _ rfl _ _ rfl rfl ?_) | (with_reducible refine wl_len rfl _ _ rfl _ rfl ?_) | (with_reducible refine wl_range rfl _ _ rfl _ rfl ?_) | (with_reducible refine wl_next rfl _ rfl _ rfl ?_) | (with_reducible refine wl_copy rfl _ _ _ _ rfl _ _ rfl rfl ?_) | (with_reducible refine wl_max rfl _ _ _ _ rfl _ _ rfl rfl ?_) | (with_reducible refine wl_min rfl _ _ _ _ rfl _ _ rfl rfl ?_))
                      go_region
                      go_wp2_with (first | (at_builtin; refine wl_append rfl _ _ _ _ rfl _ _ rfl rfl ?_) | (at_make; refine wl_make rfl _ _ _ rfl _ _ rfl rfl ?_) | (at_mapUpdate; refine wl_mapUpdate rfl _ _ _ _ rfl _ _ _ rfl rfl rfl ?_) | (at_lookup; refine wl_lookup rfl _ _ _ _ rfl _ _ rfl rfl ?_) | (at_delete; refine wl_delete rfl _ _ _ _ rfl _ _ rfl rfl ?_) | (with_reducible refine wl_len rfl _ _ rfl _ rfl ?_) | (with_reducible refine wl_range rfl _ _ rfl _ rfl ?_) | (with_reducible refine wl_next rfl _ rfl _ rfl ?_) | (with_reducible refine wl_copy rfl _ _ _ _ rfl _ _ rfl rfl ?_) | (with_reducible refine wl_max rfl _ _ _ _ rfl _ _ rfl rfl ?_) | (with_reducible refine wl_min rfl _ _ _ _ rfl _ _ rfl rfl ?_))
                      go_roundw
                      case rel => exact ⟨t1, Sort.swp F t t1, by go_num, htt, HF2.out, HSZ.out, HSW.out, keep_swap HKW.out _⟩
                      case measure => first | (simp [intOf]; done) | (simp [intOf]; omega)
              · have hE := HE2.out
                rw [if_neg h3] at hE
                have h3z : ¬ (2 : Int) ≤ (k : Int) - (a : Int) := by omega
                have HPI := Lib.hid (show Sort.partialIns ltN a b s k (if 2 ≤ b - k then Sort.shiftUp ltN b (k + 1) P1 else P1) = R from hE)
                clear hE HE2 h3
                by_cases h2 : 2 ≤ b - k
                · have hpi := (HPI).out
                  rw [if_pos h2] at hpi
                  generalize hY : Sort.shiftUp ltN b (k + 1) P1 = Y at hpi
                  have HP2 := Lib.hid hpi
                  have HY := Lib.hid hY
                  have h2z : (2 : Int) ≤ (b : Int) - (k : Int) := by omega
                  have HSF := Lib.hid (HSZ.out)
                  have hOf : Nums wd base g cap P1 := hOd
                  have hKf : Keep (fun j => j = g) w wd := hKd
                  clear hpi hY
                  go_wp2_with (first | (at_builtin; refine wl_append rfl _ _ _ _ rfl _ _ rfl rfl ?_) | (at_make; refine wl_make rfl _ _ _ rfl _ _ rfl rfl ?_) | (at_mapUpdate; refine wl_mapUpdate rfl _ _ _ _ rfl _ _ _ rfl rfl rfl ?_) | (at_lookup; refine wl_lookup rfl _ _ _ _ rfl _ _ rfl rfl ?_) | (at_delete; refine wl_delete rfl _ _ _ _ rfl _ _ rfl rfl ?_) | (with_reducible refine wl_len rfl _ _ rfl _ rfl ?_) | (with_reducible refine wl_range rfl _ _ rfl _ rfl ?_) | (with_reducible refine wl_next rfl _ rfl _ rfl ?_) | (with_reducible refine wl_copy rfl _ _ _ _ rfl _ _ rfl rfl ?_) | (with_reducible refine wl_max rfl _ _ _ _ rfl _ _ rfl rfl ?_) | (with_reducible refine wl_min rfl _ _ _ _ rfl _ _ rfl rfl ?_))
                  go_loopw [10] (fun tv wr => ∃ (t : Nat) (G : Array Nat), tv = .int .i64 (t : Int) ∧ k < t ∧ t ≤ b ∧ Sort.shiftUp ltN b t G = Y ∧ G.size = n ∧ Nums wr base g cap G ∧ Keep (fun j => j = g) w wr) (fun tv _ => b - (intOf tv).toNat)
                  case atStart => exact ⟨k + 1, P1, by go_num, by omega, by omega, HY.out, HSF.out, hOf, hKf⟩
                  case round =>
                    clear hOf hKf HSF HY
                    obtain ⟨t, G, rfl, hkt, htb, hG, hGs, hO, hk⟩ := hrel
                    generalize wr = wu at *
                    rw [Sort.shiftUp] at hG
                    rcases Nat.lt_or_ge t b with hlt | hge
                    · rw [if_pos hlt] at hG
                      have htz : (t : Int) < (b : Int) := by omega
                      obtain ⟨r, hr⟩ : ∃ r, t = r + 1 := ⟨t - 1, by omega⟩
                      rw [show t - 1 = r by omega] at hG
                      have e1 : (t : Int) - 1 = (r : Int) := by omega
                      have w1 : IntKind.i64.wrap (r : Int) = (r : Int) := by rw [IntKind.wrap_i64]; omega
                      have w2 : IntKind.i64.wrap ((t : Int) - 1) = (r : Int) := by rw [e1, IntKind.wrap_i64]; omega
                      have b1 : (r : Int) < (n : Int) := by omega
                      have b2 : (t : Int) < (n : Int) := by omega
                      have hne : t ≠ r := by omega
                      have c1 := (hO).cell (i := t) (by omega)
                      have c2 := (hO).cell (i := r) (by omega)
                      have f1 := (hO).frozen t
                      have f2 := (hO).frozen r
                      have hsw : Nums ((wu.setCell ⟨g, t, none⟩ (uv G[r]!)).setCell ⟨g, r, none⟩ (uv G[t]!)) base g cap (Sort.swp G t r) := ((hO).set t G[r]!).set r G[t]!
                      have hkw : Keep (fun j => j = g) wu ((wu.setCell ⟨g, t, none⟩ (uv G[r]!)).setCell ⟨g, r, none⟩ (uv G[t]!)) := ((Keep.refl (fun j => j = g) wu).setCell (p := ⟨g, t, none⟩) (fun _ => rfl) _).setCell (p := ⟨g, r, none⟩) (fun _ => rfl) _
                      unfold uv at c1 c2 hsw hkw
                      generalize G[t]! = x1 at *
                      generalize G[r]! = y1 at *
                      have HSZ := Lib.hid ((Sort.size_swp G t r).trans hGs)
                      have HGS := Lib.hid hGs
                      have HG := Lib.hid hG
                      have HSW := Lib.hid hsw
                      have HKW := Lib.hid (hk.trans' hkw)
                      clear hsw hkw hG hGs hr
                      go_wp2_with (first | (at_builtin; refine wl_append rfl _ _ _ _ rfl _ _ rfl rfl ?_) | (at_make; refine wl_make rfl _ _ _ rfl _ _ rfl rfl ?_) | (at_mapUpdate; refine wl_mapUpdate rfl _ _ _ _ rfl _ _ _ rfl rfl rfl ?_) | (at_lookup; refine wl_lookup rfl _ _ _ _ rfl _ _ rfl rfl ?_) | (at_delete; refine wl_delete rfl _ _ _ _ rfl _ _ rfl rfl ?_) | (with_reducible refine wl_len rfl _ _ rfl _ rfl ?_) | (with_reducible refine wl_range rfl _ _ rfl _ rfl ?_) | (with_reducible refine wl_next rfl _ rfl _ rfl ?_) | (with_reducible refine wl_copy rfl _ _ _ _ rfl _ _ rfl rfl ?_) | (with_reducible refine wl_max rfl _ _ _ _ rfl _ _ rfl rfl ?_) | (with_reducible refine wl_min rfl _ _ _ _ rfl _ _ rfl rfl ?_))
                      go_quiet (first | (go_at_call 81; exact Calls.quiet_of_same (less_same _ _ _)) | (go_at_call 81; exact quiet_on (less_same _ _ _)))
                      cases hl : ltN x1 y1 with
                      | false =>
                        have hG := HG.out
                        rw [hl, if_pos (by rfl)] at hG
                        subst hG
                        go_wp2_with (first | (at_builtin; refine wl_append rfl _ _ _ _ rfl _ _ rfl rfl ?_) | (at_make; refine wl_make rfl _ _ _ rfl _ _ rfl rfl ?_) | (at_mapUpdate; refine wl_mapUpdate rfl _ _ _ _ rfl _ _ _ rfl rfl rfl ?_) | (at_lookup; refine wl_lookup rfl _ _ _ _ rfl _ _ rfl rfl ?_) | (at_delete; refine wl_delete rfl _ _ _ _ rfl _ _ rfl rfl ?_) | (with_reducible refine wl_len rfl _ _ rfl _ rfl ?_) | (with_reducible refine wl_range rfl _ _ rfl _ rfl ?_) | (with_reducible refine wl_next rfl _ rfl _ rfl ?_) | (with_reducible refine wl_copy rfl _ _ _ _ rfl _ _ rfl rfl ?_) | (with_reducible refine wl_max rfl _ _ _ _ rfl _ _ rfl rfl ?_) | (with_reducible refine wl_min rfl _ _ _ _ rfl _ _ rfl rfl ?_))
                        go_roundw
                        case rel => exact ⟨k, s, G, rfl, ⟨_, rfl, HZ1.out⟩, by omega, hak, hkb, (HP2).out, HGS.out, hO, (hk.drewN _)⟩
                        case measure => first | (simp [intOf]; done) | (simp [intOf]; omega)
                      | true =>
                        have hG := HG.out
                        rw [hl, if_neg (by simp)] at hG
                        have HG2 := Lib.hid hG
                        clear hG
                        go_wp2_with (first | (at_builtin; refine wl_append rfl _ _ _ _ rfl _ _ rfl rfl ?_) | (at_make; refine wl_make rfl _ _ _ rfl _ _ rfl rfl ?_) | (at_mapUpdate; refine wl_mapUpdate rfl _ _ _ _ rfl _ _ _ rfl rfl rfl ?_) | (at_lookup; refine wl_lookup rfl _ _ _ _ rfl _ _ rfl rfl ?_) | (at_delete; refine wl_delete rfl _ _ _ _ rfl _ _ rfl rfl ?_) | (with_reducible refine wl_len rfl _ _ rfl _ rfl ?_) | (with_reducible refine wl_range rfl _ _ rfl _ rfl ?_) | (with_reducible refine wl_next rfl _ rfl _ rfl ?_) | (with_reducible refine wl_copy rfl _ _ _ _ rfl _ _ rfl rfl ?_) | (with_reducible refine wl_max rfl _ _ _ _ rfl _ _ rfl rfl ?_) | (with_reducible refine wl_min rfl _ _ _ _ rfl _ _ rfl rfl ?_))
                        go_region
                        go_wp2_with (first | (at_builtin; refine wl_append rfl _ _ _ _ rfl _ _ rfl rfl ?_) | (at_make; refine wl_make rfl _ _ _ rfl _ _ rfl rfl ?_) | (at_mapUpdate; refine wl_mapUpdate rfl _ _ _ _ rfl _ _ _ rfl rfl rfl ?_) | (at_lookup; refine wl_lookup rfl _ _ _ _ rfl _ _ rfl rfl ?_) | (at_delete; refine wl_delete rfl _ _ _ _ rfl _ _ rfl rfl ?_) | (with_reducible refine wl_len rfl _ _ rfl _ rfl ?_) | (with_reducible refine wl_range rfl _ _ rfl _ rfl ?_) | (with_reducible refine wl_next rfl _ rfl _ rfl ?_) | (with_reducible refine wl_copy rfl _ _ _ _ rfl _ _ rfl rfl ?_) | (with_reducible refine wl_max rfl _ _ _ _ rfl _ _ rfl rfl ?_) | (with_reducible refine wl_min rfl _ _ _ _ rfl _ _ rfl rfl ?_))
                        go_roundw
                        case rel => exact ⟨t + 1, Sort.swp G t r, by go_num, by omega, by omega, HG2.out, HSZ.out, HSW.out, keep_swap HKW.out _⟩
                        case measure => first | (simp [intOf]; done) | (simp [intOf]; omega)
                    · rw [if_neg (by omega)] at hG
                      subst hG
                      have htz : ¬ (t : Int) < (b : Int) := by omega
                      go_wp2_with (first | (at_builtin; refine wl_append rfl _ _ _ _ rfl _ _ rfl rfl ?_) | (at_make; refine wl_make rfl _ _ _ rfl _ _ rfl rfl ?_) | (at_mapUpdate; refine wl_mapUpdate rfl _ _ _ _ rfl _ _ _ rfl rfl rfl ?_) | (at_lookup; refine wl_lookup rfl _ _ _ _ rfl _ _ rfl rfl ?_) | (at_delete; refine wl_delete rfl _ _ _ _ rfl _ _ rfl rfl ?_) | (with_reducible refine wl_len rfl _ _ rfl _ rfl ?_) | (with_reducible refine wl_range rfl _ _ rfl _ rfl ?_) | (with_reducible refine wl_next rfl _ rfl _ rfl ?_) | (with_reducible refine wl_copy rfl _ _ _ _ rfl _ _ rfl rfl ?_) | (with_reducible refine wl_max rfl _ _ _ _ rfl _ _ rfl rfl ?_) | (with_reducible refine wl_min rfl _ _ _ _ rfl _ _ rfl rfl ?_))
                      go_roundw
                      case rel => exact ⟨k, s, G, rfl, ⟨_, rfl, HZ1.out⟩, by omega, hak, hkb, (HP2).out, hGs, hO, hk⟩
                      case measure => first | (simp [intOf]; done) | (simp [intOf]; omega)
                · have hpi := (HPI).out
                  rw [if_neg h2] at hpi
                  have HP2 := Lib.hid hpi
                  have h2z : ¬ (2 : Int) ≤ (b : Int) - (k : Int) := by omega
                  have HSF := Lib.hid (HSZ.out)
                  have hOf : Nums wd base g cap P1 := hOd
                  have hKf : Keep (fun j => j = g) w wd := hKd
                  clear hpi
                  go_wp2_with (first | (at_builtin; refine wl_append rfl _ _ _ _ rfl _ _ rfl rfl ?_) | (at_make; refine wl_make rfl _ _ _ rfl _ _ rfl rfl ?_) | (at_mapUpdate; refine wl_mapUpdate rfl _ _ _ _ rfl _ _ _ rfl rfl rfl ?_) | (at_lookup; refine wl_lookup rfl _ _ _ _ rfl _ _ rfl rfl ?_) | (at_delete; refine wl_delete rfl _ _ _ _ rfl _ _ rfl rfl ?_) | (with_reducible refine wl_len rfl _ _ rfl _ rfl ?_) | (with_reducible refine wl_range rfl _ _ rfl _ rfl ?_) | (with_reducible refine wl_next rfl _ rfl _ rfl ?_) | (with_reducible refine wl_copy rfl _ _ _ _ rfl _ _ rfl rfl ?_) | (with_reducible refine wl_max rfl _ _ _ _ rfl _ _ rfl rfl ?_) | (with_reducible refine wl_min rfl _ _ _ _ rfl _ _ rfl rfl ?_))
                  go_roundw
                  case rel => exact ⟨k, s, P1, rfl, ⟨_, rfl, HZ1.out⟩, by omega, hak, hkb, (HP2).out, HSF.out, hOf, hKf⟩
                  case measure => first | (simp [intOf]; done) | (simp [intOf]; omega)
        · have hkI : I = k := by rw [if_neg (by simp; omega)] at hI; exact hI.symm
          obtain rfl : k = b := by omega
          have hE := HE.out
          rw [hkI, if_pos rfl] at hE
          clear hkI
          subst hE
          have hz : ¬ (k : Int) < (k : Int) := by omega
          clear hI
          go_wp2_with (first | (at_builtin; refine wl_append rfl _ _ _ _ rfl _ _ rfl rfl ?_) | (at_make; refine wl_make rfl _ _ _ rfl _ _ rfl rfl ?_) | (at_mapUpdate; refine wl_mapUpdate rfl _ _ _ _ rfl _ _ _ rfl rfl rfl ?_) | (at_lookup; refine wl_lookup rfl _ _ _ _ rfl _ _ rfl rfl ?_) | (at_delete; refine wl_delete rfl _ _ _ _ rfl _ _ rfl rfl ?_) | (with_reducible refine wl_len rfl _ _ rfl _ rfl ?_) | (with_reducible refine wl_range rfl _ _ rfl _ rfl ?_) | (with_reducible refine wl_next rfl _ rfl _ rfl ?_) | (with_reducible refine wl_copy rfl _ _ _ _ rfl _ _ rfl rfl ?_) | (with_reducible refine wl_max rfl _ _ _ _ rfl _ _ rfl rfl ?_) | (with_reducible refine wl_min rfl _ _ _ _ rfl _ _ rfl rfl ?_))
          go_quiet (first | (go_at_call 81; exact Calls.quiet_of_same (less_same _ _ _)) | (go_at_call 81; exact quiet_on (less_same _ _ _)))
          go_wp2_with (first | (at_builtin; refine wl_append rfl _ _ _ _ rfl _ _ rfl rfl ?_) | (at_make; refine wl_make rfl _ _ _ rfl _ _ rfl rfl ?_) | (at_mapUpdate; refine wl_mapUpdate rfl _ _ _ _ rfl _ _ _ rfl rfl rfl ?_) | (at_lookup; refine wl_lookup rfl _ _ _ _ rfl _ _ rfl rfl ?_) | (at_delete; refine wl_delete rfl _ _ _ _ rfl _ _ rfl rfl ?_) | (with_reducible refine wl_len rfl _ _ rfl _ rfl ?_) | (with_reducible refine wl_range rfl _ _ rfl _ rfl ?_) | (with_reducible refine wl_next rfl _ rfl _ rfl ?_) | (with_reducible refine wl_copy rfl _ _ _ _ rfl _ _ rfl rfl ?_) | (with_reducible refine wl_max rfl _ _ _ _ rfl _ _ rfl rfl ?_) | (with_reducible refine wl_min rfl _ _ _ _ rfl _ _ rfl rfl ?_))
          go_ret
          exact ⟨rfl, hO, hk.drewN _⟩
end
end Go.Proofs.YthfekjnekaecaaaDoor
