/- pdqsortOrdered at uint64: it sorts. slices.Sort, slices.Sorted(maps.Keys(m)) at uint64, of any length below 65536; Pages of any number. No condition. -/
import Derived.Test.YthfekjnekaecaaaDoorSortW5
import Derived.Deep.Cut
import Derived.Deep.CutRange
import Derived.Test.YthfekjnekaecaaaDoorCpuE
set_option linter.unusedVariables false
set_option linter.unusedSimpArgs false
namespace Go.Proofs.YthfekjnekaecaaaDoor
open Go.RowKit Go.Dm
/-- between a and b sorted; the numbers are the same -/
def SortTo (base g cap a b : Nat) (D : Array Nat) (w w' : World) : Prop := ∃ E, Sort.PermIn a b D E ∧ Srt a b E ∧ Nums w' base g cap E ∧ Keep (fun j => j = g) w w'
def LimR (base g cap a b x y limit : Nat) (D : Array Nat) (w : World) (s3 : Value) (wc : World) : Prop := ∃ (lim : Nat) (E : Array Nat), s3 = .int .i64 (lim : Int) ∧ lim ≤ limit ∧ Inv a b D E x y ∧ Nums wc base g cap E ∧ Keep (fun j => j = g) w wc
def PivR (base g cap a b x y : Nat) (D : Array Nat) (w : World) (s11 s12 : Value) (wc : World) : Prop := ∃ (p : Nat) (h : Int) (E : Array Nat), s11 = .int .i64 (p : Int) ∧ s12 = .int .i64 h ∧ x ≤ p ∧ p < y ∧ Inv a b D E x y ∧ Nums wc base g cap E ∧ Keep (fun j => j = g) w wc
def TstR (base g cap : Nat) (E : Array Nat) (w : World) (s68 : Value) (wc : World) : Prop := ∃ B : Bool, s68 = .bool B ∧ Nums wc base g cap E ∧ Keep (fun j => j = g) w wc
def RowR (base g cap a b x y : Nat) (D : Array Nat) (w : World) (wc : World) : Prop := ∃ E : Array Nat, Inv a b D E x y ∧ Nums wc base g cap E ∧ Keep (fun j => j = g) w wc
def EqlR (base g cap x p : Nat) (E : Array Nat) (w : World) (s87 : Value) (wc : World) : Prop := ∃ B : Bool, s87 = .bool B ∧ (B = true → 0 < x ∧ E[p]! ≤ E[x - 1]!) ∧ Nums wc base g cap E ∧ Keep (fun j => j = g) w wc
theorem prm_ins (E : Array Nat) {x y : Nat} (hxy : x ≤ y) (hy : y ≤ E.size) : Sort.PermIn x y E (Sort.insertionSort ltN E x y) ∧ Srt x y (Sort.insertionSort ltN E x y) := by
  have h := Sort.insertionSort_holds swoN E x y hxy hy
  exact ⟨h.1, srt_iff.1 h.2⟩
theorem prm_heap (E : Array Nat) {x y : Nat} (hxy : x ≤ y) (hy : y ≤ E.size) : Sort.PermIn x y E (Sort.heapSort ltN E x y) ∧ Srt x y (Sort.heapSort ltN E x y) := by
  have h := Sort.heapSort_holds swoN E x y hxy hy
  exact ⟨h.1, srt_iff.1 h.2⟩
theorem prm_par (E : Array Nat) {x y : Nat} (hxy : x < y) (hy : y ≤ E.size) (hb : Blw x y E) : Sort.PermIn x y E (Sort.partialInsertionSort ltN E x y).1 ∧ ((Sort.partialInsertionSort ltN E x y).2 = true → Srt x y (Sort.partialInsertionSort ltN E x y).1) := by
  have h := Sort.partialInsertionSort_holds swoN E x y hxy hy (hb.imp id fun k t h1 h2 => by simp only [ltN, decide_eq_false_iff_not, Nat.not_lt]; exact k t h1 h2)
  exact ⟨h.1, fun e => srt_iff.1 (h.2 e)⟩
section
variable {w : World} {base g cap : Nat}
set_option maxRecDepth 100000 in
set_option maxHeartbeats 32000000 in
theorem pdq_any : ∀ (N a b limit : Nat) (D : Array Nat) (w : World), b - a < N → Nums w base g cap D → a ≤ b → b ≤ D.size → D.size < 65536 → limit ≤ 64 → Blw a b D →
    Calls Tryd.prog 68 #[.slice (some ⟨g, 0, none⟩) D.size cap, .int .i64 (a : Int), .int .i64 (b : Int), .int .i64 (limit : Int)] w fun e w' => e = .returned (.tuple #[]) ∧ SortTo base g cap a b D w w' := by
  intro N
  induction N with
  | zero => intro _ _ _ _ _ h; exact absurd h (Nat.not_lt_zero _)
  | succ N ih =>
    intro a b limit D w hN h hab hb hn hlimit hbl
    have HIH := Lib.hid ih
    have HI0 := Lib.hid (Inv.start hab hbl)
    have HO0 := Lib.hid h
    generalize hDn : D.size = n at *
    have HN := Lib.hid hDn
    clear ih hbl h hDn
    go_enter Tryd.func68, Tryd.ntmps68
    go_wp2_with (first | (at_builtin; refine wl_append rfl _ _ _ _ rfl _ _ rfl rfl ?_) | (at_make; refine wl_make rfl _ _ _ rfl _ _ rfl rfl ?_) | (at_mapUpdate; refine wl_mapUpdate rfl _ _ _ _ rfl _ _ _ rfl rfl rfl ?_) | (at_lookup; refine wl_lookup rfl _ _ _ _ rfl _ _ rfl rfl ?_) | (at_delete; refine wl_delete rfl _ _ _ _ rfl _ _ rfl rfl ?_) | (with_reducible refine wl_len rfl _ _ rfl _ rfl ?_) | (with_reducible refine wl_range rfl _ _ rfl _ rfl ?_) | (with_reducible refine wl_next rfl _ rfl _ rfl ?_) | (with_reducible refine wl_copy rfl _ _ _ _ rfl _ _ rfl rfl ?_) | (with_reducible refine wl_max rfl _ _ _ _ rfl _ _ rfl rfl ?_) | (with_reducible refine wl_min rfl _ _ _ _ rfl _ _ rfl rfl ?_))
    go_loopw [1, 2, 3, 8, 9] (fun s1 s2 s3 s8 s9 wr => ∃ (x y lim : Nat) (wb wp : Bool) (E : Array Nat), s1 = .int .i64 (x : Int) ∧ s2 = .int .i64 (y : Int) ∧ s3 = .int .i64 (lim : Int) ∧ s8 = .bool wb ∧ s9 = .bool wp ∧ lim ≤ limit ∧ Inv a b D E x y ∧ Nums wr base g cap E ∧ Keep (fun j => j = g) w wr) (fun s1 s2 _ _ _ _ => (intOf s2 - intOf s1).toNat)
    case atStart => exact ⟨a, b, limit, true, true, D, rfl, rfl, rfl, rfl, rfl, Nat.le_refl _, HI0.out, HO0.out, Keep.refl _ _⟩
    case round =>
      clear HI0 HO0
      obtain ⟨x, y, lim, wb, wp, E, rfl, rfl, rfl, rfl, rfl, hlim, hI, hO, hk⟩ := hrel
      generalize wr = wz at *
      have hbD : b ≤ D.size := by rw [HN.out]; exact hb
      have hEs : E.size = n := hI.perm.1.trans HN.out
      have hxy := hI.xy
      have hyb := hI.yb
      have hax := hI.ax
      by_cases h12 : y - x ≤ 12
      · have h12z : (y : Int) - (x : Int) ≤ 12 := by omega
        have hc := insg_any hO hxy (by omega) (by omega)
        rw [hEs] at hc
        have hps := prm_ins E hxy (by omega)
        have hd := hI.done hbD hps.1 hps.2
        have HC := Lib.hid hc
        have HD := Lib.hid hd
        clear hc hps hd hEs hI hO
        go_wp2_with (first | (at_builtin; refine wl_append rfl _ _ _ _ rfl _ _ rfl rfl ?_) | (at_make; refine wl_make rfl _ _ _ rfl _ _ rfl rfl ?_) | (at_mapUpdate; refine wl_mapUpdate rfl _ _ _ _ rfl _ _ _ rfl rfl rfl ?_) | (at_lookup; refine wl_lookup rfl _ _ _ _ rfl _ _ rfl rfl ?_) | (at_delete; refine wl_delete rfl _ _ _ _ rfl _ _ rfl rfl ?_) | (with_reducible refine wl_len rfl _ _ rfl _ rfl ?_) | (with_reducible refine wl_range rfl _ _ rfl _ rfl ?_) | (with_reducible refine wl_next rfl _ rfl _ rfl ?_) | (with_reducible refine wl_copy rfl _ _ _ _ rfl _ _ rfl rfl ?_) | (with_reducible refine wl_max rfl _ _ _ _ rfl _ _ rfl rfl ?_) | (with_reducible refine wl_min rfl _ _ _ _ rfl _ _ rfl rfl ?_))
        refine HC.out.mono ?_
        rintro e w1 ⟨rfl, hO1, hk1⟩
        have hK1 := hk.trans' hk1
        go_wp2_with (first | (at_builtin; refine wl_append rfl _ _ _ _ rfl _ _ rfl rfl ?_) | (at_make; refine wl_make rfl _ _ _ rfl _ _ rfl rfl ?_) | (at_mapUpdate; refine wl_mapUpdate rfl _ _ _ _ rfl _ _ _ rfl rfl rfl ?_) | (at_lookup; refine wl_lookup rfl _ _ _ _ rfl _ _ rfl rfl ?_) | (at_delete; refine wl_delete rfl _ _ _ _ rfl _ _ rfl rfl ?_) | (with_reducible refine wl_len rfl _ _ rfl _ rfl ?_) | (with_reducible refine wl_range rfl _ _ rfl _ rfl ?_) | (with_reducible refine wl_next rfl _ rfl _ rfl ?_) | (with_reducible refine wl_copy rfl _ _ _ _ rfl _ _ rfl rfl ?_) | (with_reducible refine wl_max rfl _ _ _ _ rfl _ _ rfl rfl ?_) | (with_reducible refine wl_min rfl _ _ _ _ rfl _ _ rfl rfl ?_))
        refine bodyPost_ret (results_none rfl _ _ _) rfl ?_
        exact ⟨rfl, _, HD.out.1, HD.out.2, hO1, hK1⟩
      · have h12z : ¬ (y : Int) - (x : Int) ≤ 12 := by omega
        by_cases hl0 : lim = 0
        · have hl0z : ((lim : Int) == 0) = true := by simp; omega
          have hc := heap_any hO hxy (by omega) (by omega)
          rw [hEs] at hc
          have hps := prm_heap E hxy (by omega)
          have hd := hI.done hbD hps.1 hps.2
          have HC := Lib.hid hc
          have HD := Lib.hid hd
          clear hc hps hd hEs hI hO hl0
          go_wp2_with (first | (at_builtin; refine wl_append rfl _ _ _ _ rfl _ _ rfl rfl ?_) | (at_make; refine wl_make rfl _ _ _ rfl _ _ rfl rfl ?_) | (at_mapUpdate; refine wl_mapUpdate rfl _ _ _ _ rfl _ _ _ rfl rfl rfl ?_) | (at_lookup; refine wl_lookup rfl _ _ _ _ rfl _ _ rfl rfl ?_) | (at_delete; refine wl_delete rfl _ _ _ _ rfl _ _ rfl rfl ?_) | (with_reducible refine wl_len rfl _ _ rfl _ rfl ?_) | (with_reducible refine wl_range rfl _ _ rfl _ rfl ?_) | (with_reducible refine wl_next rfl _ rfl _ rfl ?_) | (with_reducible refine wl_copy rfl _ _ _ _ rfl _ _ rfl rfl ?_) | (with_reducible refine wl_max rfl _ _ _ _ rfl _ _ rfl rfl ?_) | (with_reducible refine wl_min rfl _ _ _ _ rfl _ _ rfl rfl ?_))
          refine HC.out.mono ?_
          rintro e w1 ⟨rfl, hO1, hk1⟩
          have hK1 := hk.trans' hk1
          go_wp2_with (first | (at_builtin; refine wl_append rfl _ _ _ _ rfl _ _ rfl rfl ?_) | (at_make; refine wl_make rfl _ _ _ rfl _ _ rfl rfl ?_) | (at_mapUpdate; refine wl_mapUpdate rfl _ _ _ _ rfl _ _ _ rfl rfl rfl ?_) | (at_lookup; refine wl_lookup rfl _ _ _ _ rfl _ _ rfl rfl ?_) | (at_delete; refine wl_delete rfl _ _ _ _ rfl _ _ rfl rfl ?_) | (with_reducible refine wl_len rfl _ _ rfl _ rfl ?_) | (with_reducible refine wl_range rfl _ _ rfl _ rfl ?_) | (with_reducible refine wl_next rfl _ rfl _ rfl ?_) | (with_reducible refine wl_copy rfl _ _ _ _ rfl _ _ rfl rfl ?_) | (with_reducible refine wl_max rfl _ _ _ _ rfl _ _ rfl rfl ?_) | (with_reducible refine wl_min rfl _ _ _ _ rfl _ _ rfl rfl ?_))
          refine bodyPost_ret (results_none rfl _ _ _) rfl ?_
          exact ⟨rfl, _, HD.out.1, HD.out.2, hO1, hK1⟩
        · have hl0z : ((lim : Int) == 0) = false := by simp; omega
          go_upto_if 35 with fail
          go_cut [3] from 19 to 133 (fun s3 wc => LimR base g cap a b x y limit D w s3 wc)
          case first =>
            cases wb
            · have hc := break_any hO (show x + 12 < y by omega) (by omega) (by omega)
              rw [hEs] at hc
              have HC := Lib.hid hc
              clear hc hEs
              go_wp2_with (first | (at_builtin; refine wl_append rfl _ _ _ _ rfl _ _ rfl rfl ?_) | (at_make; refine wl_make rfl _ _ _ rfl _ _ rfl rfl ?_) | (at_mapUpdate; refine wl_mapUpdate rfl _ _ _ _ rfl _ _ _ rfl rfl rfl ?_) | (at_lookup; refine wl_lookup rfl _ _ _ _ rfl _ _ rfl rfl ?_) | (at_delete; refine wl_delete rfl _ _ _ _ rfl _ _ rfl rfl ?_) | (with_reducible refine wl_len rfl _ _ rfl _ rfl ?_) | (with_reducible refine wl_range rfl _ _ rfl _ rfl ?_) | (with_reducible refine wl_next rfl _ rfl _ rfl ?_) | (with_reducible refine wl_copy rfl _ _ _ _ rfl _ _ rfl rfl ?_) | (with_reducible refine wl_max rfl _ _ _ _ rfl _ _ rfl rfl ?_) | (with_reducible refine wl_min rfl _ _ _ _ rfl _ _ rfl rfl ?_))
              refine HC.out.mono ?_
              rintro e w1 ⟨rfl, F, hp, hO1, hk1⟩
              have hK1 := hk.trans' hk1
              go_wp2_with (first | (at_builtin; refine wl_append rfl _ _ _ _ rfl _ _ rfl rfl ?_) | (at_make; refine wl_make rfl _ _ _ rfl _ _ rfl rfl ?_) | (at_mapUpdate; refine wl_mapUpdate rfl _ _ _ _ rfl _ _ _ rfl rfl rfl ?_) | (at_lookup; refine wl_lookup rfl _ _ _ _ rfl _ _ rfl rfl ?_) | (at_delete; refine wl_delete rfl _ _ _ _ rfl _ _ rfl rfl ?_) | (with_reducible refine wl_len rfl _ _ rfl _ rfl ?_) | (with_reducible refine wl_range rfl _ _ rfl _ rfl ?_) | (with_reducible refine wl_next rfl _ rfl _ rfl ?_) | (with_reducible refine wl_copy rfl _ _ _ _ rfl _ _ rfl rfl ?_) | (with_reducible refine wl_max rfl _ _ _ _ rfl _ _ rfl rfl ?_) | (with_reducible refine wl_min rfl _ _ _ _ rfl _ _ rfl rfl ?_))
              go_meet
              case rel => exact ⟨lim - 1, F, by go_num, by omega, hI.turn hbD hp, hO1, hK1⟩
            · go_wp2_with (first | (at_builtin; refine wl_append rfl _ _ _ _ rfl _ _ rfl rfl ?_) | (at_make; refine wl_make rfl _ _ _ rfl _ _ rfl rfl ?_) | (at_mapUpdate; refine wl_mapUpdate rfl _ _ _ _ rfl _ _ _ rfl rfl rfl ?_) | (at_lookup; refine wl_lookup rfl _ _ _ _ rfl _ _ rfl rfl ?_) | (at_delete; refine wl_delete rfl _ _ _ _ rfl _ _ rfl rfl ?_) | (with_reducible refine wl_len rfl _ _ rfl _ rfl ?_) | (with_reducible refine wl_range rfl _ _ rfl _ rfl ?_) | (with_reducible refine wl_next rfl _ rfl _ rfl ?_) | (with_reducible refine wl_copy rfl _ _ _ _ rfl _ _ rfl rfl ?_) | (with_reducible refine wl_max rfl _ _ _ _ rfl _ _ rfl rfl ?_) | (with_reducible refine wl_min rfl _ _ _ _ rfl _ _ rfl rfl ?_))
              go_meet
              case rel => exact ⟨lim, E, rfl, hlim, hI, hO, hk⟩
          case rest =>
            clear hI hO hk hEs hl0 hl0z hlim
            obtain ⟨lim, E, rfl, hlim, hI, hO, hk⟩ := hcut
            have hEs : E.size = n := hI.perm.1.trans HN.out
            have hc := piv_any hO (show x + 12 < y by omega) (by omega) (by omega)
            rw [hEs] at hc
            go_upto_if 50 with (go_at_call 78; refine hc.mono ?_; rintro e w2 ⟨p, ht, rfl, hp1, hp2, hk2⟩)
            have hO := hO.other hk2 fun h => h
            have hk := hk.trans hk2 fun _ _ h => h.elim
            clear hc hk2
            go_cut [11, 12] from 19 to 133 (fun s11 s12 wc => PivR base g cap a b x y D w s11 s12 wc)
            case first =>
              by_cases hh : ht = 2
              · have hc := rev_any hO (show x < y by omega) (by omega) (by omega)
                rw [hEs] at hc
                have HC := Lib.hid hc
                clear hc hEs
                subst hh
                go_wp2_with (first | (at_builtin; refine wl_append rfl _ _ _ _ rfl _ _ rfl rfl ?_) | (at_make; refine wl_make rfl _ _ _ rfl _ _ rfl rfl ?_) | (at_mapUpdate; refine wl_mapUpdate rfl _ _ _ _ rfl _ _ _ rfl rfl rfl ?_) | (at_lookup; refine wl_lookup rfl _ _ _ _ rfl _ _ rfl rfl ?_) | (at_delete; refine wl_delete rfl _ _ _ _ rfl _ _ rfl rfl ?_) | (with_reducible refine wl_len rfl _ _ rfl _ rfl ?_) | (with_reducible refine wl_range rfl _ _ rfl _ rfl ?_) | (with_reducible refine wl_next rfl _ rfl _ rfl ?_) | (with_reducible refine wl_copy rfl _ _ _ _ rfl _ _ rfl rfl ?_) | (with_reducible refine wl_max rfl _ _ _ _ rfl _ _ rfl rfl ?_) | (with_reducible refine wl_min rfl _ _ _ _ rfl _ _ rfl rfl ?_))
                refine HC.out.mono ?_
                rintro e w1 ⟨rfl, F, hp, hO1, hk1⟩
                have hK1 := hk.trans' hk1
                go_wp2_with (first | (at_builtin; refine wl_append rfl _ _ _ _ rfl _ _ rfl rfl ?_) | (at_make; refine wl_make rfl _ _ _ rfl _ _ rfl rfl ?_) | (at_mapUpdate; refine wl_mapUpdate rfl _ _ _ _ rfl _ _ _ rfl rfl rfl ?_) | (at_lookup; refine wl_lookup rfl _ _ _ _ rfl _ _ rfl rfl ?_) | (at_delete; refine wl_delete rfl _ _ _ _ rfl _ _ rfl rfl ?_) | (with_reducible refine wl_len rfl _ _ rfl _ rfl ?_) | (with_reducible refine wl_range rfl _ _ rfl _ rfl ?_) | (with_reducible refine wl_next rfl _ rfl _ rfl ?_) | (with_reducible refine wl_copy rfl _ _ _ _ rfl _ _ rfl rfl ?_) | (with_reducible refine wl_max rfl _ _ _ _ rfl _ _ rfl rfl ?_) | (with_reducible refine wl_min rfl _ _ _ _ rfl _ _ rfl rfl ?_))
                go_meet
                case rel => exact ⟨(y - 1) - (p - x), _, F, by go_num, rfl, by omega, by omega, hI.turn hbD hp, hO1, hK1⟩
              · have hhz : (ht == 2) = false := by simpa using hh
                go_wp2_with (first | (at_builtin; refine wl_append rfl _ _ _ _ rfl _ _ rfl rfl ?_) | (at_make; refine wl_make rfl _ _ _ rfl _ _ rfl rfl ?_) | (at_mapUpdate; refine wl_mapUpdate rfl _ _ _ _ rfl _ _ _ rfl rfl rfl ?_) | (at_lookup; refine wl_lookup rfl _ _ _ _ rfl _ _ rfl rfl ?_) | (at_delete; refine wl_delete rfl _ _ _ _ rfl _ _ rfl rfl ?_) | (with_reducible refine wl_len rfl _ _ rfl _ rfl ?_) | (with_reducible refine wl_range rfl _ _ rfl _ rfl ?_) | (with_reducible refine wl_next rfl _ rfl _ rfl ?_) | (with_reducible refine wl_copy rfl _ _ _ _ rfl _ _ rfl rfl ?_) | (with_reducible refine wl_max rfl _ _ _ _ rfl _ _ rfl rfl ?_) | (with_reducible refine wl_min rfl _ _ _ _ rfl _ _ rfl rfl ?_))
                go_meet
                case rel => exact ⟨p, ht, E, rfl, rfl, hp1, hp2, hI, hO, hk⟩
            case rest =>
              clear hI hO hk hEs hp1 hp2
              obtain ⟨p, ht, E, rfl, rfl, hp1, hp2, hI, hO, hk⟩ := hcut
              go_upto_region 15 with fail
              go_cut [68] from 19 to 133 (fun s68 wc => TstR base g cap E w s68 wc)
              case first =>
                cases wb <;> cases wp <;> by_cases hh : ht = 1
                all_goals
                  have hhz : (ht == 1) = decide (ht = 1) := by simp [hh]
                  simp only [hh, decide_true, decide_false] at hhz
                  go_wp2_with (first | (at_builtin; refine wl_append rfl _ _ _ _ rfl _ _ rfl rfl ?_) | (at_make; refine wl_make rfl _ _ _ rfl _ _ rfl rfl ?_) | (at_mapUpdate; refine wl_mapUpdate rfl _ _ _ _ rfl _ _ _ rfl rfl rfl ?_) | (at_lookup; refine wl_lookup rfl _ _ _ _ rfl _ _ rfl rfl ?_) | (at_delete; refine wl_delete rfl _ _ _ _ rfl _ _ rfl rfl ?_) | (with_reducible refine wl_len rfl _ _ rfl _ rfl ?_) | (with_reducible refine wl_range rfl _ _ rfl _ rfl ?_) | (with_reducible refine wl_next rfl _ rfl _ rfl ?_) | (with_reducible refine wl_copy rfl _ _ _ _ rfl _ _ rfl rfl ?_) | (with_reducible refine wl_max rfl _ _ _ _ rfl _ _ rfl rfl ?_) | (with_reducible refine wl_min rfl _ _ _ _ rfl _ _ rfl rfl ?_))
                  go_meet
                  exact ⟨_, rfl, hO, hk⟩
              case rest =>
                clear hO hk
                obtain ⟨B, rfl, hO, hk⟩ := hcut
                have hEs : E.size = n := hI.perm.1.trans HN.out
                go_upto_if 68 with fail
                go_cut [] from 19 to 133 (fun wc => RowR base g cap a b x y D w wc)
                case first =>
                  cases B
                  · go_wp2_with (first | (at_builtin; refine wl_append rfl _ _ _ _ rfl _ _ rfl rfl ?_) | (at_make; refine wl_make rfl _ _ _ rfl _ _ rfl rfl ?_) | (at_mapUpdate; refine wl_mapUpdate rfl _ _ _ _ rfl _ _ _ rfl rfl rfl ?_) | (at_lookup; refine wl_lookup rfl _ _ _ _ rfl _ _ rfl rfl ?_) | (at_delete; refine wl_delete rfl _ _ _ _ rfl _ _ rfl rfl ?_) | (with_reducible refine wl_len rfl _ _ rfl _ rfl ?_) | (with_reducible refine wl_range rfl _ _ rfl _ rfl ?_) | (with_reducible refine wl_next rfl _ rfl _ rfl ?_) | (with_reducible refine wl_copy rfl _ _ _ _ rfl _ _ rfl rfl ?_) | (with_reducible refine wl_max rfl _ _ _ _ rfl _ _ rfl rfl ?_) | (with_reducible refine wl_min rfl _ _ _ _ rfl _ _ rfl rfl ?_))
                    go_meet
                    case rel => exact ⟨E, hI, hO, hk⟩
                  · have hc := par_any hO (show x < y by omega) (by omega) (by omega)
                    have hps := prm_par E (show x < y by omega) (by omega) hI.blw
                    rw [hEs] at hc
                    have hd := fun e => hI.done hbD hps.1 (hps.2 e)
                    have ht1 := hI.turn hbD hps.1
                    generalize Sort.partialInsertionSort ltN E x y = PR at *
                    obtain ⟨F, B2⟩ := PR
                    dsimp only at hc hps hd ht1
                    have HC := Lib.hid hc
                    have HD := Lib.hid hd
                    have HT1 := Lib.hid ht1
                    clear hc hps hd ht1 hEs
                    go_wp2_with (first | (at_builtin; refine wl_append rfl _ _ _ _ rfl _ _ rfl rfl ?_) | (at_make; refine wl_make rfl _ _ _ rfl _ _ rfl rfl ?_) | (at_mapUpdate; refine wl_mapUpdate rfl _ _ _ _ rfl _ _ _ rfl rfl rfl ?_) | (at_lookup; refine wl_lookup rfl _ _ _ _ rfl _ _ rfl rfl ?_) | (at_delete; refine wl_delete rfl _ _ _ _ rfl _ _ rfl rfl ?_) | (with_reducible refine wl_len rfl _ _ rfl _ rfl ?_) | (with_reducible refine wl_range rfl _ _ rfl _ rfl ?_) | (with_reducible refine wl_next rfl _ rfl _ rfl ?_) | (with_reducible refine wl_copy rfl _ _ _ _ rfl _ _ rfl rfl ?_) | (with_reducible refine wl_max rfl _ _ _ _ rfl _ _ rfl rfl ?_) | (with_reducible refine wl_min rfl _ _ _ _ rfl _ _ rfl rfl ?_))
                    refine HC.out.mono ?_
                    rintro e w1 ⟨rfl, hO1, hk1⟩
                    have hK1 := hk.trans' hk1
                    cases B2
                    · go_wp2_with (first | (at_builtin; refine wl_append rfl _ _ _ _ rfl _ _ rfl rfl ?_) | (at_make; refine wl_make rfl _ _ _ rfl _ _ rfl rfl ?_) | (at_mapUpdate; refine wl_mapUpdate rfl _ _ _ _ rfl _ _ _ rfl rfl rfl ?_) | (at_lookup; refine wl_lookup rfl _ _ _ _ rfl _ _ rfl rfl ?_) | (at_delete; refine wl_delete rfl _ _ _ _ rfl _ _ rfl rfl ?_) | (with_reducible refine wl_len rfl _ _ rfl _ rfl ?_) | (with_reducible refine wl_range rfl _ _ rfl _ rfl ?_) | (with_reducible refine wl_next rfl _ rfl _ rfl ?_) | (with_reducible refine wl_copy rfl _ _ _ _ rfl _ _ rfl rfl ?_) | (with_reducible refine wl_max rfl _ _ _ _ rfl _ _ rfl rfl ?_) | (with_reducible refine wl_min rfl _ _ _ _ rfl _ _ rfl rfl ?_))
                      go_meet
                      case rel => exact ⟨F, HT1.out, hO1, hK1⟩
                    · go_wp2_with (first | (at_builtin; refine wl_append rfl _ _ _ _ rfl _ _ rfl rfl ?_) | (at_make; refine wl_make rfl _ _ _ rfl _ _ rfl rfl ?_) | (at_mapUpdate; refine wl_mapUpdate rfl _ _ _ _ rfl _ _ _ rfl rfl rfl ?_) | (at_lookup; refine wl_lookup rfl _ _ _ _ rfl _ _ rfl rfl ?_) | (at_delete; refine wl_delete rfl _ _ _ _ rfl _ _ rfl rfl ?_) | (with_reducible refine wl_len rfl _ _ rfl _ rfl ?_) | (with_reducible refine wl_range rfl _ _ rfl _ rfl ?_) | (with_reducible refine wl_next rfl _ rfl _ rfl ?_) | (with_reducible refine wl_copy rfl _ _ _ _ rfl _ _ rfl rfl ?_) | (with_reducible refine wl_max rfl _ _ _ _ rfl _ _ rfl rfl ?_) | (with_reducible refine wl_min rfl _ _ _ _ rfl _ _ rfl rfl ?_))
                      refine bodyPost_ret (results_none rfl _ _ _) rfl ?_
                      exact ⟨rfl, F, (HD.out (by simp)).1, (HD.out (by simp)).2, hO1, hK1⟩
                case rest =>
                  clear hI hO hk hEs
                  obtain ⟨E, hI, hO, hk⟩ := hcut
                  have hEs : E.size = n := hI.perm.1.trans HN.out
                  go_upto_region 17 with fail
                  go_cut [87] from 19 to 133 (fun s87 wc => EqlR base g cap x p E w s87 wc)
                  case first =>
                    rcases Nat.eq_zero_or_pos x with hx0 | hx0
                    · have hz : decide ((0 : Int) < (x : Int)) = false := by simp; omega
                      have hz2 : decide (0 < x) = false := by simp; omega
                      have hz3 : ¬ (0 : Int) < (x : Int) := by omega
                      have HX0 := Lib.hid hx0
                      clear hx0
                      go_quiet (first | (go_at_call 81; exact Calls.quiet_of_same (less_same _ _ _)) | (go_at_call 81; exact quiet_on (less_same _ _ _)))
                      go_wp2_with (first | (at_builtin; refine wl_append rfl _ _ _ _ rfl _ _ rfl rfl ?_) | (at_make; refine wl_make rfl _ _ _ rfl _ _ rfl rfl ?_) | (at_mapUpdate; refine wl_mapUpdate rfl _ _ _ _ rfl _ _ _ rfl rfl rfl ?_) | (at_lookup; refine wl_lookup rfl _ _ _ _ rfl _ _ rfl rfl ?_) | (at_delete; refine wl_delete rfl _ _ _ _ rfl _ _ rfl rfl ?_) | (with_reducible refine wl_len rfl _ _ rfl _ rfl ?_) | (with_reducible refine wl_range rfl _ _ rfl _ rfl ?_) | (with_reducible refine wl_next rfl _ rfl _ rfl ?_) | (with_reducible refine wl_copy rfl _ _ _ _ rfl _ _ rfl rfl ?_) | (with_reducible refine wl_max rfl _ _ _ _ rfl _ _ rfl rfl ?_) | (with_reducible refine wl_min rfl _ _ _ _ rfl _ _ rfl rfl ?_))
                      go_meet
                      case rel => exact ⟨false, rfl, (fun e => Bool.noConfusion e), hO, hk.drewN _⟩
                    · have hz : decide ((0 : Int) < (x : Int)) = true := by simp; omega
                      have hz2 : decide (0 < x) = true := by simp; omega
                      have hz3 : (0 : Int) < (x : Int) := by omega
                      obtain ⟨r, hr1, hr2⟩ : ∃ r, x ≤ r + 1 ∧ r + 1 ≤ x := ⟨x - 1, by omega, by omega⟩
                      have e1 : (x : Int) - 1 = (r : Int) := by omega
                      have w1 : IntKind.i64.wrap (r : Int) = (r : Int) := by rw [IntKind.wrap_i64]; omega
                      have w2 : IntKind.i64.wrap ((x : Int) - 1) = (r : Int) := by rw [e1, IntKind.wrap_i64]; omega
                      have b1 : (r : Int) < (n : Int) := by omega
                      have b2 : (p : Int) < (n : Int) := by omega
                      have c1 := hO.cell (i := r) (by omega)
                      have c2 := hO.cell (i := p) (by omega)
                      unfold uv at c1 c2
                      have HXR := Lib.hid (show x - 1 = r by omega)
                      have hrE : ∃ u v, u = E[r]! ∧ v = E[p]! := ⟨_, _, rfl, rfl⟩
                      obtain ⟨u, v, hu, hv⟩ := hrE
                      rw [← hu] at c1
                      rw [← hv] at c2
                      have HU := Lib.hid hu
                      have HV := Lib.hid hv
                      clear hu hv
                      go_quiet (first | (go_at_call 81; exact Calls.quiet_of_same (less_same _ _ _)) | (go_at_call 81; exact quiet_on (less_same _ _ _)))
                      cases hl : ltN u v with
                      | true =>
                        try simp only [Bool.not_true]
                        go_wp2_with (first | (at_builtin; refine wl_append rfl _ _ _ _ rfl _ _ rfl rfl ?_) | (at_make; refine wl_make rfl _ _ _ rfl _ _ rfl rfl ?_) | (at_mapUpdate; refine wl_mapUpdate rfl _ _ _ _ rfl _ _ _ rfl rfl rfl ?_) | (at_lookup; refine wl_lookup rfl _ _ _ _ rfl _ _ rfl rfl ?_) | (at_delete; refine wl_delete rfl _ _ _ _ rfl _ _ rfl rfl ?_) | (with_reducible refine wl_len rfl _ _ rfl _ rfl ?_) | (with_reducible refine wl_range rfl _ _ rfl _ rfl ?_) | (with_reducible refine wl_next rfl _ rfl _ rfl ?_) | (with_reducible refine wl_copy rfl _ _ _ _ rfl _ _ rfl rfl ?_) | (with_reducible refine wl_max rfl _ _ _ _ rfl _ _ rfl rfl ?_) | (with_reducible refine wl_min rfl _ _ _ _ rfl _ _ rfl rfl ?_))
                        go_meet
                        case rel => exact ⟨false, rfl, (fun e => Bool.noConfusion e), hO, hk.drewN _⟩
                      | false =>
                        try simp only [Bool.not_false]
                        go_wp2_with (first | (at_builtin; refine wl_append rfl _ _ _ _ rfl _ _ rfl rfl ?_) | (at_make; refine wl_make rfl _ _ _ rfl _ _ rfl rfl ?_) | (at_mapUpdate; refine wl_mapUpdate rfl _ _ _ _ rfl _ _ _ rfl rfl rfl ?_) | (at_lookup; refine wl_lookup rfl _ _ _ _ rfl _ _ rfl rfl ?_) | (at_delete; refine wl_delete rfl _ _ _ _ rfl _ _ rfl rfl ?_) | (with_reducible refine wl_len rfl _ _ rfl _ rfl ?_) | (with_reducible refine wl_range rfl _ _ rfl _ rfl ?_) | (with_reducible refine wl_next rfl _ rfl _ rfl ?_) | (with_reducible refine wl_copy rfl _ _ _ _ rfl _ _ rfl rfl ?_) | (with_reducible refine wl_max rfl _ _ _ _ rfl _ _ rfl rfl ?_) | (with_reducible refine wl_min rfl _ _ _ _ rfl _ _ rfl rfl ?_))
                        go_meet
                        case rel => exact ⟨true, rfl, fun _ => ⟨hx0, by rw [HXR.out, ← HU.out, ← HV.out]; simpa [ltN] using hl⟩, hO, hk.drewN _⟩
                  case rest =>
                    clear hO hk
                    obtain ⟨B, rfl, hBt, hO, hk⟩ := hcut
                    cases B
                    · clear hBt
                      have hc := prt_any hO (show x < y by omega) (by omega) hp1 hp2 (by omega)
                      rw [hEs] at hc
                      have HC := Lib.hid hc
                      clear hc
                      go_wp2_with (first | (at_builtin; refine wl_append rfl _ _ _ _ rfl _ _ rfl rfl ?_) | (at_make; refine wl_make rfl _ _ _ rfl _ _ rfl rfl ?_) | (at_mapUpdate; refine wl_mapUpdate rfl _ _ _ _ rfl _ _ _ rfl rfl rfl ?_) | (at_lookup; refine wl_lookup rfl _ _ _ _ rfl _ _ rfl rfl ?_) | (at_delete; refine wl_delete rfl _ _ _ _ rfl _ _ rfl rfl ?_) | (with_reducible refine wl_len rfl _ _ rfl _ rfl ?_) | (with_reducible refine wl_range rfl _ _ rfl _ rfl ?_) | (with_reducible refine wl_next rfl _ rfl _ rfl ?_) | (with_reducible refine wl_copy rfl _ _ _ _ rfl _ _ rfl rfl ?_) | (with_reducible refine wl_max rfl _ _ _ _ rfl _ _ rfl rfl ?_) | (with_reducible refine wl_min rfl _ _ _ _ rfl _ _ rfl rfl ?_))
                      refine HC.out.mono ?_
                      rintro e w1 ⟨m, B2, rfl, F, hpo, hO1, hk1⟩
                      have hK1 := hk.trans' hk1
                      have hFs : F.size = n := hpo.perm.1.trans hEs
                      have hxm := hpo.am
                      have hmy := hpo.mb
                      clear HC hO hk hk1 hEs
                      by_cases hside : m - x < y - m
                      · have hsz : (m : Int) - (x : Int) < (y : Int) - (m : Int) := by omega
                        have hih := HIH.out x m lim F w1 (by omega) hO1 hxm (by omega) (by omega) (by omega) (hI.lblw hbD hpo)
                        rw [hFs] at hih
                        have HIJ := Lib.hid hih
                        clear hih hFs
                        go_wp2_with (first | (at_builtin; refine wl_append rfl _ _ _ _ rfl _ _ rfl rfl ?_) | (at_make; refine wl_make rfl _ _ _ rfl _ _ rfl rfl ?_) | (at_mapUpdate; refine wl_mapUpdate rfl _ _ _ _ rfl _ _ _ rfl rfl rfl ?_) | (at_lookup; refine wl_lookup rfl _ _ _ _ rfl _ _ rfl rfl ?_) | (at_delete; refine wl_delete rfl _ _ _ _ rfl _ _ rfl rfl ?_) | (with_reducible refine wl_len rfl _ _ rfl _ rfl ?_) | (with_reducible refine wl_range rfl _ _ rfl _ rfl ?_) | (with_reducible refine wl_next rfl _ rfl _ rfl ?_) | (with_reducible refine wl_copy rfl _ _ _ _ rfl _ _ rfl rfl ?_) | (with_reducible refine wl_max rfl _ _ _ _ rfl _ _ rfl rfl ?_) | (with_reducible refine wl_min rfl _ _ _ _ rfl _ _ rfl rfl ?_))
                        refine HIJ.out.mono ?_
                        rintro e w2 ⟨rfl, G, g1, g2, hO2, hk2⟩
                        have hK2 := hK1.trans' hk2
                        have hI2 := hI.left hbD hpo g1 g2
                        clear HIJ
                        go_wp2_with (first | (at_builtin; refine wl_append rfl _ _ _ _ rfl _ _ rfl rfl ?_) | (at_make; refine wl_make rfl _ _ _ rfl _ _ rfl rfl ?_) | (at_mapUpdate; refine wl_mapUpdate rfl _ _ _ _ rfl _ _ _ rfl rfl rfl ?_) | (at_lookup; refine wl_lookup rfl _ _ _ _ rfl _ _ rfl rfl ?_) | (at_delete; refine wl_delete rfl _ _ _ _ rfl _ _ rfl rfl ?_) | (with_reducible refine wl_len rfl _ _ rfl _ rfl ?_) | (with_reducible refine wl_range rfl _ _ rfl _ rfl ?_) | (with_reducible refine wl_next rfl _ rfl _ rfl ?_) | (with_reducible refine wl_copy rfl _ _ _ _ rfl _ _ rfl rfl ?_) | (with_reducible refine wl_max rfl _ _ _ _ rfl _ _ rfl rfl ?_) | (with_reducible refine wl_min rfl _ _ _ _ rfl _ _ rfl rfl ?_))
                        go_roundw
                        case rel => exact ⟨m + 1, y, lim, _, B2, G, by go_num, rfl, rfl, rfl, rfl, hlim, hI2, hO2, hK2⟩
                        case measure => first | (simp [intOf]; done) | (simp [intOf]; omega)
                      · have hsz : ¬ (m : Int) - (x : Int) < (y : Int) - (m : Int) := by omega
                        have hih := HIH.out (m + 1) y lim F w1 (by omega) hO1 (by omega) (by omega) (by omega) (by omega) hpo.rblw
                        rw [hFs, show ((m + 1 : Nat) : Int) = (m : Int) + 1 by omega] at hih
                        have HIJ := Lib.hid hih
                        clear hih hFs
                        go_wp2_with (first | (at_builtin; refine wl_append rfl _ _ _ _ rfl _ _ rfl rfl ?_) | (at_make; refine wl_make rfl _ _ _ rfl _ _ rfl rfl ?_) | (at_mapUpdate; refine wl_mapUpdate rfl _ _ _ _ rfl _ _ _ rfl rfl rfl ?_) | (at_lookup; refine wl_lookup rfl _ _ _ _ rfl _ _ rfl rfl ?_) | (at_delete; refine wl_delete rfl _ _ _ _ rfl _ _ rfl rfl ?_) | (with_reducible refine wl_len rfl _ _ rfl _ rfl ?_) | (with_reducible refine wl_range rfl _ _ rfl _ rfl ?_) | (with_reducible refine wl_next rfl _ rfl _ rfl ?_) | (with_reducible refine wl_copy rfl _ _ _ _ rfl _ _ rfl rfl ?_) | (with_reducible refine wl_max rfl _ _ _ _ rfl _ _ rfl rfl ?_) | (with_reducible refine wl_min rfl _ _ _ _ rfl _ _ rfl rfl ?_))
                        refine HIJ.out.mono ?_
                        rintro e w2 ⟨rfl, G, g1, g2, hO2, hk2⟩
                        have hK2 := hK1.trans' hk2
                        have hI2 := hI.right hbD hpo g1 g2
                        clear HIJ
                        go_wp2_with (first | (at_builtin; refine wl_append rfl _ _ _ _ rfl _ _ rfl rfl ?_) | (at_make; refine wl_make rfl _ _ _ rfl _ _ rfl rfl ?_) | (at_mapUpdate; refine wl_mapUpdate rfl _ _ _ _ rfl _ _ _ rfl rfl rfl ?_) | (at_lookup; refine wl_lookup rfl _ _ _ _ rfl _ _ rfl rfl ?_) | (at_delete; refine wl_delete rfl _ _ _ _ rfl _ _ rfl rfl ?_) | (with_reducible refine wl_len rfl _ _ rfl _ rfl ?_) | (with_reducible refine wl_range rfl _ _ rfl _ rfl ?_) | (with_reducible refine wl_next rfl _ rfl _ rfl ?_) | (with_reducible refine wl_copy rfl _ _ _ _ rfl _ _ rfl rfl ?_) | (with_reducible refine wl_max rfl _ _ _ _ rfl _ _ rfl rfl ?_) | (with_reducible refine wl_min rfl _ _ _ _ rfl _ _ rfl rfl ?_))
                        go_roundw
                        case rel => exact ⟨x, m, lim, _, B2, G, rfl, rfl, rfl, rfl, rfl, hlim, hI2, hO2, hK2⟩
                        case measure => first | (simp [intOf]; done) | (simp [intOf]; omega)
                    · obtain ⟨hx0, hle⟩ := hBt rfl
                      have hc := peq_any hO (show x < y by omega) (by omega) hp1 hp2 (by omega)
                      rw [hEs] at hc
                      have HC := Lib.hid hc
                      have HLE := Lib.hid hle
                      clear hc hBt hle hEs
                      go_wp2_with (first | (at_builtin; refine wl_append rfl _ _ _ _ rfl _ _ rfl rfl ?_) | (at_make; refine wl_make rfl _ _ _ rfl _ _ rfl rfl ?_) | (at_mapUpdate; refine wl_mapUpdate rfl _ _ _ _ rfl _ _ _ rfl rfl rfl ?_) | (at_lookup; refine wl_lookup rfl _ _ _ _ rfl _ _ rfl rfl ?_) | (at_delete; refine wl_delete rfl _ _ _ _ rfl _ _ rfl rfl ?_) | (with_reducible refine wl_len rfl _ _ rfl _ rfl ?_) | (with_reducible refine wl_range rfl _ _ rfl _ rfl ?_) | (with_reducible refine wl_next rfl _ rfl _ rfl ?_) | (with_reducible refine wl_copy rfl _ _ _ _ rfl _ _ rfl rfl ?_) | (with_reducible refine wl_max rfl _ _ _ _ rfl _ _ rfl rfl ?_) | (with_reducible refine wl_min rfl _ _ _ _ rfl _ _ rfl rfl ?_))
                      refine HC.out.mono ?_
                      rintro e w1 ⟨m, rfl, F, hpo, hO1, hk1⟩
                      have hK1 := hk.trans' hk1
                      have hI2 := hI.equal hbD hx0 HLE.out hpo
                      have hxm := hpo.am
                      have hmy := hpo.mb
                      clear HC hO hk hk1
                      go_wp2_with (first | (at_builtin; refine wl_append rfl _ _ _ _ rfl _ _ rfl rfl ?_) | (at_make; refine wl_make rfl _ _ _ rfl _ _ rfl rfl ?_) | (at_mapUpdate; refine wl_mapUpdate rfl _ _ _ _ rfl _ _ _ rfl rfl rfl ?_) | (at_lookup; refine wl_lookup rfl _ _ _ _ rfl _ _ rfl rfl ?_) | (at_delete; refine wl_delete rfl _ _ _ _ rfl _ _ rfl rfl ?_) | (with_reducible refine wl_len rfl _ _ rfl _ rfl ?_) | (with_reducible refine wl_range rfl _ _ rfl _ rfl ?_) | (with_reducible refine wl_next rfl _ rfl _ rfl ?_) | (with_reducible refine wl_copy rfl _ _ _ _ rfl _ _ rfl rfl ?_) | (with_reducible refine wl_max rfl _ _ _ _ rfl _ _ rfl rfl ?_) | (with_reducible refine wl_min rfl _ _ _ _ rfl _ _ rfl rfl ?_))
                      go_roundw
                      case rel => exact ⟨m, y, lim, wb, wp, F, rfl, rfl, rfl, rfl, rfl, hlim, hI2, hO1, hK1⟩
                      case measure => first | (simp [intOf]; done) | (simp [intOf]; omega)
end
end Go.Proofs.YthfekjnekaecaaaDoor
namespace Go.Proofs.YthfekjnekaecaaaDoor
open Go.RowKit Go.Dm Go.Dm.Vm Go.Maps
theorem srt_list {E : Array Nat} (h : Srt 0 E.size E) : E.toList.Pairwise (· ≤ ·) := by
  rw [List.pairwise_iff_getElem]
  intro i j hi hj hij
  have := h i j (Nat.zero_le _) hij (by simpa using hj)
  rw [getElem!_pos E i (by simpa using hi), getElem!_pos E j (by simpa using hj)] at this
  simpa using this
section
variable {A : Nat → Prop} {w : World} {d mb : Nat} {f : Nat → Nat} {m : V} {b : Nat}
set_option maxRecDepth 100000 in
set_option maxHeartbeats 4000000 in
/-- slices.Sort: the numbers, sorted -/
theorem sort_any {base : Nat} {v : Value} {D : Array Nat} (h : w.ownsRow base 22 1 v D.size (D.toList.map uv)) (hn : D.size < 65536) :
    Calls Tryd.prog 56 #[v] w fun e w' => e = .returned (.tuple #[]) ∧ ∃ E : Array Nat, E.toList.Perm D.toList ∧ E.toList.Pairwise (· ≤ ·) ∧ w'.ownsRow base 22 1 v D.size (E.toList.map uv) ∧ Keep (fun j => some j = v.ownBlock) w w' := by
  have hlen := fun w => len_any (D.size : Int) (by omega) (by omega) w
  rw [Int.toNat_natCast] at hlen
  have hbl := Lib.bitLen_le D.size 16 (by omega) (by omega)
  rcases h.2 with ⟨rfl, h0⟩ | ⟨g, cap, cur, rfl, _⟩
  · have hD : D = #[] := Array.eq_empty_of_size_eq_zero h0
    subst hD
    have hlen0 := hlen
    simp only [List.size_toArray, List.length_nil] at hlen
    have HL := Lib.hid hlen
    clear hlen hlen0 hbl
    go_enter Tryd.func56, Tryd.ntmps56
    go_wp2_with (first | (at_builtin; refine wl_append rfl _ _ _ _ rfl _ _ rfl rfl ?_) | (at_make; refine wl_make rfl _ _ _ rfl _ _ rfl rfl ?_) | (at_mapUpdate; refine wl_mapUpdate rfl _ _ _ _ rfl _ _ _ rfl rfl rfl ?_) | (at_lookup; refine wl_lookup rfl _ _ _ _ rfl _ _ rfl rfl ?_) | (at_delete; refine wl_delete rfl _ _ _ _ rfl _ _ rfl rfl ?_) | (with_reducible refine wl_len rfl _ _ rfl _ rfl ?_) | (with_reducible refine wl_range rfl _ _ rfl _ rfl ?_) | (with_reducible refine wl_next rfl _ rfl _ rfl ?_) | (with_reducible refine wl_copy rfl _ _ _ _ rfl _ _ rfl rfl ?_) | (with_reducible refine wl_max rfl _ _ _ _ rfl _ _ rfl rfl ?_) | (with_reducible refine wl_min rfl _ _ _ _ rfl _ _ rfl rfl ?_))
    refine (HL.out _).mono ?_
    rintro e W ⟨rfl, rfl⟩
    go_wp2_with (first | (at_builtin; refine wl_append rfl _ _ _ _ rfl _ _ rfl rfl ?_) | (at_make; refine wl_make rfl _ _ _ rfl _ _ rfl rfl ?_) | (at_mapUpdate; refine wl_mapUpdate rfl _ _ _ _ rfl _ _ _ rfl rfl rfl ?_) | (at_lookup; refine wl_lookup rfl _ _ _ _ rfl _ _ rfl rfl ?_) | (at_delete; refine wl_delete rfl _ _ _ _ rfl _ _ rfl rfl ?_) | (with_reducible refine wl_len rfl _ _ rfl _ rfl ?_) | (with_reducible refine wl_range rfl _ _ rfl _ rfl ?_) | (with_reducible refine wl_next rfl _ rfl _ rfl ?_) | (with_reducible refine wl_copy rfl _ _ _ _ rfl _ _ rfl rfl ?_) | (with_reducible refine wl_max rfl _ _ _ _ rfl _ _ rfl rfl ?_) | (with_reducible refine wl_min rfl _ _ _ _ rfl _ _ rfl rfl ?_))
    refine (pdq_nil _ _).mono ?_
    rintro e W ⟨rfl, rfl⟩
    go_wp2_with (first | (at_builtin; refine wl_append rfl _ _ _ _ rfl _ _ rfl rfl ?_) | (at_make; refine wl_make rfl _ _ _ rfl _ _ rfl rfl ?_) | (at_mapUpdate; refine wl_mapUpdate rfl _ _ _ _ rfl _ _ _ rfl rfl rfl ?_) | (at_lookup; refine wl_lookup rfl _ _ _ _ rfl _ _ rfl rfl ?_) | (at_delete; refine wl_delete rfl _ _ _ _ rfl _ _ rfl rfl ?_) | (with_reducible refine wl_len rfl _ _ rfl _ rfl ?_) | (with_reducible refine wl_range rfl _ _ rfl _ rfl ?_) | (with_reducible refine wl_next rfl _ rfl _ rfl ?_) | (with_reducible refine wl_copy rfl _ _ _ _ rfl _ _ rfl rfl ?_) | (with_reducible refine wl_max rfl _ _ _ _ rfl _ _ rfl rfl ?_) | (with_reducible refine wl_min rfl _ _ _ _ rfl _ _ rfl rfl ?_))
    go_end0
    exact ⟨rfl, #[], List.Perm.refl _, by simp, h, Keep.refl _ _⟩
  · have hp := pdq_any (D.size + 1) 0 D.size (Lib.bitLen D.size) D w (by omega) (show Nums w base g cap D from h) (Nat.zero_le _) (Nat.le_refl _) hn (by omega) (.inl rfl)
    rw [show ((0 : Nat) : Int) = 0 from rfl] at hp
    obtain ⟨n, hnn⟩ : ∃ n, n = D.size := ⟨_, rfl⟩
    rw [← hnn] at hlen hbl hp hn ⊢
    generalize Lib.bitLen n = k at *
    have HP := Lib.hid hp
    have HL := Lib.hid hlen
    have HN := Lib.hid hnn
    clear hp hlen h hnn
    go_enter Tryd.func56, Tryd.ntmps56
    go_wp2_with (first | (at_builtin; refine wl_append rfl _ _ _ _ rfl _ _ rfl rfl ?_) | (at_make; refine wl_make rfl _ _ _ rfl _ _ rfl rfl ?_) | (at_mapUpdate; refine wl_mapUpdate rfl _ _ _ _ rfl _ _ _ rfl rfl rfl ?_) | (at_lookup; refine wl_lookup rfl _ _ _ _ rfl _ _ rfl rfl ?_) | (at_delete; refine wl_delete rfl _ _ _ _ rfl _ _ rfl rfl ?_) | (with_reducible refine wl_len rfl _ _ rfl _ rfl ?_) | (with_reducible refine wl_range rfl _ _ rfl _ rfl ?_) | (with_reducible refine wl_next rfl _ rfl _ rfl ?_) | (with_reducible refine wl_copy rfl _ _ _ _ rfl _ _ rfl rfl ?_) | (with_reducible refine wl_max rfl _ _ _ _ rfl _ _ rfl rfl ?_) | (with_reducible refine wl_min rfl _ _ _ _ rfl _ _ rfl rfl ?_))
    refine (HL.out _).mono ?_
    rintro e W ⟨rfl, rfl⟩
    go_wp2_with (first | (at_builtin; refine wl_append rfl _ _ _ _ rfl _ _ rfl rfl ?_) | (at_make; refine wl_make rfl _ _ _ rfl _ _ rfl rfl ?_) | (at_mapUpdate; refine wl_mapUpdate rfl _ _ _ _ rfl _ _ _ rfl rfl rfl ?_) | (at_lookup; refine wl_lookup rfl _ _ _ _ rfl _ _ rfl rfl ?_) | (at_delete; refine wl_delete rfl _ _ _ _ rfl _ _ rfl rfl ?_) | (with_reducible refine wl_len rfl _ _ rfl _ rfl ?_) | (with_reducible refine wl_range rfl _ _ rfl _ rfl ?_) | (with_reducible refine wl_next rfl _ rfl _ rfl ?_) | (with_reducible refine wl_copy rfl _ _ _ _ rfl _ _ rfl rfl ?_) | (with_reducible refine wl_max rfl _ _ _ _ rfl _ _ rfl rfl ?_) | (with_reducible refine wl_min rfl _ _ _ _ rfl _ _ rfl rfl ?_))
    refine HP.out.mono ?_
    rintro e W ⟨rfl, E, h1, h2, h3, h4⟩
    go_wp2_with (first | (at_builtin; refine wl_append rfl _ _ _ _ rfl _ _ rfl rfl ?_) | (at_make; refine wl_make rfl _ _ _ rfl _ _ rfl rfl ?_) | (at_mapUpdate; refine wl_mapUpdate rfl _ _ _ _ rfl _ _ _ rfl rfl rfl ?_) | (at_lookup; refine wl_lookup rfl _ _ _ _ rfl _ _ rfl rfl ?_) | (at_delete; refine wl_delete rfl _ _ _ _ rfl _ _ rfl rfl ?_) | (with_reducible refine wl_len rfl _ _ rfl _ rfl ?_) | (with_reducible refine wl_range rfl _ _ rfl _ rfl ?_) | (with_reducible refine wl_next rfl _ rfl _ rfl ?_) | (with_reducible refine wl_copy rfl _ _ _ _ rfl _ _ rfl rfl ?_) | (with_reducible refine wl_max rfl _ _ _ _ rfl _ _ rfl rfl ?_) | (with_reducible refine wl_min rfl _ _ _ _ rfl _ _ rfl rfl ?_))
    go_end0
    have hs : E.size = n := h1.1.trans HN.out.symm
    have hperm : E.toList.Perm D.toList := by
      have := h1.2.2
      rw [HN.out] at this hs
      rw [← hs] at this
      rw [Array.extract_size, hs, Array.extract_size] at this
      exact this
    refine ⟨rfl, E, hperm, srt_list (by rw [hs]; exact h2), ?_, h4.mono fun j _ e => by rw [e]; rfl⟩
    have h5 : w.heap.size = w.heap.size := rfl
    unfold Nums at h3
    rw [hs] at h3
    exact h3
theorem sort_addrs_all {v : Value} {base : Nat} (ss : List Nat) (hp : ss.Perm (addrs m)) (hsrt : (addrs m).Pairwise (· < ·)) (hlen : m.length ≤ 512) (ho : w.ownsRow base 22 1 v m.length (ss.map uv)) :
    Calls Tryd.prog 56 #[v] w fun e w' => e = .returned (.tuple #[]) ∧ w'.ownsRow base 22 1 v m.length ((addrs m).map uv) ∧ Keep (fun j => some j = v.ownBlock) w w' := by
  have hsl : m.length = ss.toArray.size := by rw [List.size_toArray, hp.length_eq]; simp [addrs]
  rw [hsl] at ho hlen ⊢
  refine (sort_any (w := w) (D := ss.toArray) (v := v) ho (by omega)).mono ?_
  rintro e W ⟨h1, E, h2, h3, h4, h5⟩
  have he : E.toList = addrs m := List.Perm.eq_of_pairwise (le := fun a b : Nat => a ≤ b) (fun a b _ _ h1 h2 => Nat.le_antisymm h1 h2) h3 (hsrt.imp fun h => Nat.le_of_lt h) (h2.trans hp)
  rw [he] at h4
  exact ⟨h1, h4, h5⟩
/-- the pages of any memory -/
theorem vpages_all (h : SRep A w d m mb f) (hA : ∀ k, A k → k < w.heap.size) :
    Calls Tryd.prog 43 #[ptrTo d] w fun e w' => ∃ v g, e = .returned v ∧ PgsV w.heap.size w' v m g ∧ Keep No w w' := by
  have hsrt : (addrs m).Pairwise (· < ·) := by unfold addrs; rw [List.pairwise_map]; exact h.ok.srt
  have hl := h.ok.len
  exact vpages_of h hA hl fun Bm W h1 h2 h3 => sortedU_of Bm hsrt W h1 h2 h3 hl fun W v ss hp ho => sort_addrs_all (w := W) ss hp hsrt hl ho
end
end Go.Proofs.YthfekjnekaecaaaDoor
