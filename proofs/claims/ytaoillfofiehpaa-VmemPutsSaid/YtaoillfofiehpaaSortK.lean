/- pdqsortOrdered at uint64: it sorts. maps.Keys at the pages' map: its iterator gives each address once; slices.AppendSeq, Collect over it. No condition. -/
import Derived.Test.YtaoillfofiehpaaSortW5
import Derived.Deep.Cut
import Derived.Deep.CutRange
import Derived.Test.YtaoillfofiehpaaSortV
import Derived.RangeFuncFrom
import Derived.RangeFuncBox
import Derived.RangeFuncBound
import Derived.Shelf.AbstractIn
import Derived.Shelf.RegionOpen
import Derived.Sort.MapsRangeIn
import Derived.Sort.KeysCollected
import Derived.OwnWalkIn
import Derived.TacticsInMore
import Derived.RegionIn
import Derived.LoopNIn
import Derived.LoopIn
set_option linter.unusedVariables false
set_option linter.unusedSimpArgs false
namespace Go.Proofs.Ytaoillfofiehpaa
open Go.RowKit Go.Dm
/-- between a and b sorted; the numbers are the same -/
def SortTo (base g cap a b : Nat) (D : Array Nat) (w w' : World) : Prop := ∃ E, Sort.PermIn a b D E ∧ Srt a b E ∧ Nums w' base g cap E ∧ Keep (fun j => j = g) w w'
def LimR (base g cap a b x y limit : Nat) (D : Array Nat) (w : World) (s3 : Value) (wc : World) : Prop := ∃ (lim : Nat) (E : Array Nat), s3 = .int .i64 (lim : Int) ∧ lim ≤ limit ∧ Inv a b D E x y ∧ Nums wc base g cap E ∧ Keep (fun j => j = g) w wc
def PivR (base g cap a b x y : Nat) (D : Array Nat) (w : World) (s11 s12 : Value) (wc : World) : Prop := ∃ (p : Nat) (h : Int) (E : Array Nat), s11 = .int .i64 (p : Int) ∧ s12 = .int .i64 h ∧ x ≤ p ∧ p < y ∧ Inv a b D E x y ∧ Nums wc base g cap E ∧ Keep (fun j => j = g) w wc
def TstR (base g cap : Nat) (E : Array Nat) (w : World) (s68 : Value) (wc : World) : Prop := ∃ B : Bool, s68 = .bool B ∧ Nums wc base g cap E ∧ Keep (fun j => j = g) w wc
def RowR (base g cap a b x y : Nat) (D : Array Nat) (w : World) (wc : World) : Prop := ∃ E : Array Nat, Inv a b D E x y ∧ Nums wc base g cap E ∧ Keep (fun j => j = g) w wc
def EqlR (base g cap x p : Nat) (E : Array Nat) (w : World) (s87 : Value) (wc : World) : Prop := ∃ B : Bool, s87 = .bool B ∧ (B = true → 0 < x ∧ E[p]! ≤ E[x - 1]!) ∧ Nums wc base g cap E ∧ Keep (fun j => j = g) w wc
theorem prm_ins (E : Array Nat) {x y : Nat} (hxy : x ≤ y) (hy : y ≤ E.size) : Sort.PermIn x y E (Sort.insertionSort ltN E x y) ∧ Srt x y (Sort.insertionSort ltN E x y) := by
  have h := Sort.insertionSort_holds swoN E x y hxy hy
  exact ⟨h.1, srt_iff.1 h.2⟩
theorem prm_heap (E : Array Nat) {x y : Nat} (hxy : x ≤ y) (hy : y ≤ E.size) : Sort.PermIn x y E (Sort.heapSort ltN E x y) ∧ Srt x y (Sort.heapSort ltN E x y) := by
  have h := Sort.heapSort_holds swoN E x y hxy hy
  exact ⟨h.1, srt_iff.1 h.2⟩
theorem prm_par (E : Array Nat) {x y : Nat} (hxy : x < y) (hy : y ≤ E.size) (hb : Blw x y E) : Sort.PermIn x y E (Sort.partialInsertionSort ltN E x y).1 ∧ ((Sort.partialInsertionSort ltN E x y).2 = true → Srt x y (Sort.partialInsertionSort ltN E x y).1) := by
  have h := Sort.partialInsertionSort_holds swoN E x y hxy hy (hb.imp id fun k t h1 h2 => by simp only [ltN, decide_eq_false_iff_not, Nat.not_lt]; exact k t h1 h2)
  exact ⟨h.1, fun e => srt_iff.1 (h.2 e)⟩
section
variable {w : World} {base g cap : Nat}
set_option maxRecDepth 100000 in
set_option maxHeartbeats 32000000 in
theorem pdq_any : ∀ (N a b limit : Nat) (D : Array Nat) (w : World), b - a < N → Nums w base g cap D → a ≤ b → b ≤ D.size → D.size < 65536 → limit ≤ 64 → Blw a b D →
    Calls Try.prog 60 #[.slice (some ⟨g, 0, none⟩) D.size cap, .int .i64 (a : Int), .int .i64 (b : Int), .int .i64 (limit : Int)] w fun e w' => e = .returned (.tuple #[]) ∧ SortTo base g cap a b D w w' := by
  intro N
  induction N with
  | zero => intro _ _ _ _ _ h; exact absurd h (Nat.not_lt_zero _)
  | succ N ih =>
    intro a b limit D w hN h hab hb hn hlimit hbl
    have HIH := Lib.hid ih
    have HI0 := Lib.hid (Inv.start hab hbl)
    have HO0 := Lib.hid h
    generalize hDn : D.size = n at *
    have HN := Lib.hid hDn
    clear ih hbl h hDn
    go_enter Try.func60, Try.ntmps60
    go_wp2_with (first | (at_builtin; refine wl_append rfl _ _ _ _ rfl _ _ rfl rfl ?_) | (at_make; refine wl_make rfl _ _ _ rfl _ _ rfl rfl ?_) | (at_mapUpdate; refine wl_mapUpdate rfl _ _ _ _ rfl _ _ _ rfl rfl rfl ?_) | (at_lookup; refine wl_lookup rfl _ _ _ _ rfl _ _ rfl rfl ?_) | (at_delete; refine wl_delete rfl _ _ _ _ rfl _ _ rfl rfl ?_) | (with_reducible refine wl_len rfl _ _ rfl _ rfl ?_) | (with_reducible refine wl_range rfl _ _ rfl _ rfl ?_) | (with_reducible refine wl_next rfl _ rfl _ rfl ?_) | (with_reducible refine wl_copy rfl _ _ _ _ rfl _ _ rfl rfl ?_) | (with_reducible refine wl_max rfl _ _ _ _ rfl _ _ rfl rfl ?_) | (with_reducible refine wl_min rfl _ _ _ _ rfl _ _ rfl rfl ?_))
    go_loopw [1, 2, 3, 8, 9] (fun s1 s2 s3 s8 s9 wr => ∃ (x y lim : Nat) (wb wp : Bool) (E : Array Nat), s1 = .int .i64 (x : Int) ∧ s2 = .int .i64 (y : Int) ∧ s3 = .int .i64 (lim : Int) ∧ s8 = .bool wb ∧ s9 = .bool wp ∧ lim ≤ limit ∧ Inv a b D E x y ∧ Nums wr base g cap E ∧ Keep (fun j => j = g) w wr) (fun s1 s2 _ _ _ _ => (intOf s2 - intOf s1).toNat)
    case atStart => exact ⟨a, b, limit, true, true, D, rfl, rfl, rfl, rfl, rfl, Nat.le_refl _, HI0.out, HO0.out, Keep.refl _ _⟩
    case round =>
      clear HI0 HO0
      obtain ⟨x, y, lim, wb, wp, E, rfl, rfl, rfl, rfl, rfl, hlim, hI, hO, hk⟩ := hrel
      generalize wr = wz at *
      have hbD : b ≤ D.size := by rw [HN.out]; exact hb
      have hEs : E.size = n := hI.perm.1.trans HN.out
      have hxy := hI.xy
      have hyb := hI.yb
      have hax := hI.ax
      by_cases h12 : y - x ≤ 12
      · have h12z : (y : Int) - (x : Int) ≤ 12 := by omega
        have hc := insg_any hO hxy (by omega) (by omega)
        rw [hEs] at hc
        have hps := prm_ins E hxy (by omega)
        have hd := hI.done hbD hps.1 hps.2
        have HC := Lib.hid hc
        have HD := Lib.hid hd
        clear hc hps hd hEs hI hO
        go_wp2_with (first | (at_builtin; refine wl_append rfl _ _ _ _ rfl _ _ rfl rfl ?_) | (at_make; refine wl_make rfl _ _ _ rfl _ _ rfl rfl ?_) | (at_mapUpdate; refine wl_mapUpdate rfl _ _ _ _ rfl _ _ _ rfl rfl rfl ?_) | (at_lookup; refine wl_lookup rfl _ _ _ _ rfl _ _ rfl rfl ?_) | (at_delete; refine wl_delete rfl _ _ _ _ rfl _ _ rfl rfl ?_) | (with_reducible refine wl_len rfl _ _ rfl _ rfl ?_) | (with_reducible refine wl_range rfl _ _ rfl _ rfl ?_) | (with_reducible refine wl_next rfl _ rfl _ rfl ?_) | (with_reducible refine wl_copy rfl _ _ _ _ rfl _ _ rfl rfl ?_) | (with_reducible refine wl_max rfl _ _ _ _ rfl _ _ rfl rfl ?_) | (with_reducible refine wl_min rfl _ _ _ _ rfl _ _ rfl rfl ?_))
        refine HC.out.mono ?_
        rintro e w1 ⟨rfl, hO1, hk1⟩
        have hK1 := hk.trans' hk1
        go_wp2_with (first | (at_builtin; refine wl_append rfl _ _ _ _ rfl _ _ rfl rfl ?_) | (at_make; refine wl_make rfl _ _ _ rfl _ _ rfl rfl ?_) | (at_mapUpdate; refine wl_mapUpdate rfl _ _ _ _ rfl _ _ _ rfl rfl rfl ?_) | (at_lookup; refine wl_lookup rfl _ _ _ _ rfl _ _ rfl rfl ?_) | (at_delete; refine wl_delete rfl _ _ _ _ rfl _ _ rfl rfl ?_) | (with_reducible refine wl_len rfl _ _ rfl _ rfl ?_) | (with_reducible refine wl_range rfl _ _ rfl _ rfl ?_) | (with_reducible refine wl_next rfl _ rfl _ rfl ?_) | (with_reducible refine wl_copy rfl _ _ _ _ rfl _ _ rfl rfl ?_) | (with_reducible refine wl_max rfl _ _ _ _ rfl _ _ rfl rfl ?_) | (with_reducible refine wl_min rfl _ _ _ _ rfl _ _ rfl rfl ?_))
        refine bodyPost_ret (results_none rfl _ _ _) rfl ?_
        exact ⟨rfl, _, HD.out.1, HD.out.2, hO1, hK1⟩
      · have h12z : ¬ (y : Int) - (x : Int) ≤ 12 := by omega
        by_cases hl0 : lim = 0
        · have hl0z : ((lim : Int) == 0) = true := by simp; omega
          have hc := heap_any hO hxy (by omega) (by omega)
          rw [hEs] at hc
          have hps := prm_heap E hxy (by omega)
          have hd := hI.done hbD hps.1 hps.2
          have HC := Lib.hid hc
          have HD := Lib.hid hd
          clear hc hps hd hEs hI hO hl0
          go_wp2_with (first | (at_builtin; refine wl_append rfl _ _ _ _ rfl _ _ rfl rfl ?_) | (at_make; refine wl_make rfl _ _ _ rfl _ _ rfl rfl ?_) | (at_mapUpdate; refine wl_mapUpdate rfl _ _ _ _ rfl _ _ _ rfl rfl rfl ?_) | (at_lookup; refine wl_lookup rfl _ _ _ _ rfl _ _ rfl rfl ?_) | (at_delete; refine wl_delete rfl _ _ _ _ rfl _ _ rfl rfl ?_) | (with_reducible refine wl_len rfl _ _ rfl _ rfl ?_) | (with_reducible refine wl_range rfl _ _ rfl _ rfl ?_) | (with_reducible refine wl_next rfl _ rfl _ rfl ?_) | (with_reducible refine wl_copy rfl _ _ _ _ rfl _ _ rfl rfl ?_) | (with_reducible refine wl_max rfl _ _ _ _ rfl _ _ rfl rfl ?_) | (with_reducible refine wl_min rfl _ _ _ _ rfl _ _ rfl rfl ?_))
          refine HC.out.mono ?_
          rintro e w1 ⟨rfl, hO1, hk1⟩
          have hK1 := hk.trans' hk1
          go_wp2_with (first | (at_builtin; refine wl_append rfl _ _ _ _ rfl _ _ rfl rfl ?_) | (at_make; refine wl_make rfl _ _ _ rfl _ _ rfl rfl ?_) | (at_mapUpdate; refine wl_mapUpdate rfl _ _ _ _ rfl _ _ _ rfl rfl rfl ?_) | (at_lookup; refine wl_lookup rfl _ _ _ _ rfl _ _ rfl rfl ?_) | (at_delete; refine wl_delete rfl _ _ _ _ rfl _ _ rfl rfl ?_) | (with_reducible refine wl_len rfl _ _ rfl _ rfl ?_) | (with_reducible refine wl_range rfl _ _ rfl _ rfl ?_) | (with_reducible refine wl_next rfl _ rfl _ rfl ?_) | (with_reducible refine wl_copy rfl _ _ _ _ rfl _ _ rfl rfl ?_) | (with_reducible refine wl_max rfl _ _ _ _ rfl _ _ rfl rfl ?_) | (with_reducible refine wl_min rfl _ _ _ _ rfl _ _ rfl rfl ?_))
          refine bodyPost_ret (results_none rfl _ _ _) rfl ?_
          exact ⟨rfl, _, HD.out.1, HD.out.2, hO1, hK1⟩
        · have hl0z : ((lim : Int) == 0) = false := by simp; omega
          go_upto_if 35 with fail
          go_cut [3] from 19 to 133 (fun s3 wc => LimR base g cap a b x y limit D w s3 wc)
          case first =>
            cases wb
            · have hc := break_any hO (show x + 12 < y by omega) (by omega) (by omega)
              rw [hEs] at hc
              have HC := Lib.hid hc
              clear hc hEs
              go_wp2_with (first | (at_builtin; refine wl_append rfl _ _ _ _ rfl _ _ rfl rfl ?_) | (at_make; refine wl_make rfl _ _ _ rfl _ _ rfl rfl ?_) | (at_mapUpdate; refine wl_mapUpdate rfl _ _ _ _ rfl _ _ _ rfl rfl rfl ?_) | (at_lookup; refine wl_lookup rfl _ _ _ _ rfl _ _ rfl rfl ?_) | (at_delete; refine wl_delete rfl _ _ _ _ rfl _ _ rfl rfl ?_) | (with_reducible refine wl_len rfl _ _ rfl _ rfl ?_) | (with_reducible refine wl_range rfl _ _ rfl _ rfl ?_) | (with_reducible refine wl_next rfl _ rfl _ rfl ?_) | (with_reducible refine wl_copy rfl _ _ _ _ rfl _ _ rfl rfl ?_) | (with_reducible refine wl_max rfl _ _ _ _ rfl _ _ rfl rfl ?_) | (with_reducible refine wl_min rfl _ _ _ _ rfl _ _ rfl rfl ?_))
              refine HC.out.mono ?_
              rintro e w1 ⟨rfl, F, hp, hO1, hk1⟩
              have hK1 := hk.trans' hk1
              go_wp2_with (first | (at_builtin; refine wl_append rfl _ _ _ _ rfl _ _ rfl rfl ?_) | (at_make; refine wl_make rfl _ _ _ rfl _ _ rfl rfl ?_) | (at_mapUpdate; refine wl_mapUpdate rfl _ _ _ _ rfl _ _ _ rfl rfl rfl ?_) | (at_lookup; refine wl_lookup rfl _ _ _ _ rfl _ _ rfl rfl ?_) | (at_delete; refine wl_delete rfl _ _ _ _ rfl _ _ rfl rfl ?_) | (with_reducible refine wl_len rfl _ _ rfl _ rfl ?_) | (with_reducible refine wl_range rfl _ _ rfl _ rfl ?_) | (with_reducible refine wl_next rfl _ rfl _ rfl ?_) | (with_reducible refine wl_copy rfl _ _ _ _ rfl _ _ rfl rfl ?_) | (with_reducible refine wl_max rfl _ _ _ _ rfl _ _ rfl rfl ?_) | (with_reducible refine wl_min rfl _ _ _ _ rfl _ _ rfl rfl ?_))
              go_meet
              case rel => exact ⟨lim - 1, F, by go_num, by omega, hI.turn hbD hp, hO1, hK1⟩
            · go_wp2_with (first | (at_builtin; refine wl_append rfl _ _ _ _ rfl _ _ rfl rfl ?_) | (at_make; refine wl_make rfl _ _ _ rfl _ _ rfl rfl ?_) | (at_mapUpdate; refine wl_mapUpdate rfl _ _ _ _ rfl _ _ _ rfl rfl rfl ?_) | (at_lookup; refine wl_lookup rfl _ _ _ _ rfl _ _ rfl rfl ?_) | (at_delete; refine wl_delete rfl _ _ _ _ rfl _ _ rfl rfl ?_) | (with_reducible refine wl_len rfl _ _ rfl _ rfl ?_) | (with_reducible refine wl_range rfl _ _ rfl _ rfl ?_) | (with_reducible refine wl_next rfl _ rfl _ rfl ?_) | (with_reducible refine wl_copy rfl _ _ _ _ rfl _ _ rfl rfl ?_) | (with_reducible refine wl_max rfl _ _ _ _ rfl _ _ rfl rfl ?_) | (with_reducible refine wl_min rfl _ _ _ _ rfl _ _ rfl rfl ?_))
              go_meet
              case rel => exact ⟨lim, E, rfl, hlim, hI, hO, hk⟩
          case rest =>
            clear hI hO hk hEs hl0 hl0z hlim
            obtain ⟨lim, E, rfl, hlim, hI, hO, hk⟩ := hcut
            have hEs : E.size = n := hI.perm.1.trans HN.out
            have hc := piv_any hO (show x + 12 < y by omega) (by omega) (by omega)
            rw [hEs] at hc
            go_upto_if 50 with (go_at_call 68; refine hc.mono ?_; rintro e w2 ⟨p, ht, rfl, hp1, hp2, hk2⟩)
            have hO := hO.other hk2 fun h => h
            have hk := hk.trans hk2 fun _ _ h => h.elim
            clear hc hk2
            go_cut [11, 12] from 19 to 133 (fun s11 s12 wc => PivR base g cap a b x y D w s11 s12 wc)
            case first =>
              by_cases hh : ht = 2
              · have hc := rev_any hO (show x < y by omega) (by omega) (by omega)
                rw [hEs] at hc
                have HC := Lib.hid hc
                clear hc hEs
                subst hh
                go_wp2_with (first | (at_builtin; refine wl_append rfl _ _ _ _ rfl _ _ rfl rfl ?_) | (at_make; refine wl_make rfl _ _ _ rfl _ _ rfl rfl ?_) | (at_mapUpdate; refine wl_mapUpdate rfl _ _ _ _ rfl _ _ _ rfl rfl rfl ?_) | (at_lookup; refine wl_lookup rfl _ _ _ _ rfl _ _ rfl rfl ?_) | (at_delete; refine wl_delete rfl _ _ _ _ rfl _ _ rfl rfl ?_) | (with_reducible refine wl_len rfl _ _ rfl _ rfl ?_) | (with_reducible refine wl_range rfl _ _ rfl _ rfl ?_) | (with_reducible refine wl_next rfl _ rfl _ rfl ?_) | (with_reducible refine wl_copy rfl _ _ _ _ rfl _ _ rfl rfl ?_) | (with_reducible refine wl_max rfl _ _ _ _ rfl _ _ rfl rfl ?_) | (with_reducible refine wl_min rfl _ _ _ _ rfl _ _ rfl rfl ?_))
                refine HC.out.mono ?_
                rintro e w1 ⟨rfl, F, hp, hO1, hk1⟩
                have hK1 := hk.trans' hk1
                go_wp2_with (first | (at_builtin; refine wl_append rfl _ _ _ _ rfl _ _ rfl rfl ?_) | (at_make; refine wl_make rfl _ _ _ rfl _ _ rfl rfl ?_) | (at_mapUpdate; refine wl_mapUpdate rfl _ _ _ _ rfl _ _ _ rfl rfl rfl ?_) | (at_lookup; refine wl_lookup rfl _ _ _ _ rfl _ _ rfl rfl ?_) | (at_delete; refine wl_delete rfl _ _ _ _ rfl _ _ rfl rfl ?_) | (with_reducible refine wl_len rfl _ _ rfl _ rfl ?_) | (with_reducible refine wl_range rfl _ _ rfl _ rfl ?_) | (with_reducible refine wl_next rfl _ rfl _ rfl ?_) | (with_reducible refine wl_copy rfl _ _ _ _ rfl _ _ rfl rfl ?_) | (with_reducible refine wl_max rfl _ _ _ _ rfl _ _ rfl rfl ?_) | (with_reducible refine wl_min rfl _ _ _ _ rfl _ _ rfl rfl ?_))
                go_meet
                case rel => exact ⟨(y - 1) - (p - x), _, F, by go_num, rfl, by omega, by omega, hI.turn hbD hp, hO1, hK1⟩
              · have hhz : (ht == 2) = false := by simpa using hh
                go_wp2_with (first | (at_builtin; refine wl_append rfl _ _ _ _ rfl _ _ rfl rfl ?_) | (at_make; refine wl_make rfl _ _ _ rfl _ _ rfl rfl ?_) | (at_mapUpdate; refine wl_mapUpdate rfl _ _ _ _ rfl _ _ _ rfl rfl rfl ?_) | (at_lookup; refine wl_lookup rfl _ _ _ _ rfl _ _ rfl rfl ?_) | (at_delete; refine wl_delete rfl _ _ _ _ rfl _ _ rfl rfl ?_) | (with_reducible refine wl_len rfl _ _ rfl _ rfl ?_) | (with_reducible refine wl_range rfl _ _ rfl _ rfl ?_) | (with_reducible refine wl_next rfl _ rfl _ rfl ?_) | (with_reducible refine wl_copy rfl _ _ _ _ rfl _ _ rfl rfl ?_) | (with_reducible refine wl_max rfl _ _ _ _ rfl _ _ rfl rfl ?_) | (with_reducible refine wl_min rfl _ _ _ _ rfl _ _ rfl rfl ?_))
                go_meet
                case rel => exact ⟨p, ht, E, rfl, rfl, hp1, hp2, hI, hO, hk⟩
            case rest =>
              clear hI hO hk hEs hp1 hp2
              obtain ⟨p, ht, E, rfl, rfl, hp1, hp2, hI, hO, hk⟩ := hcut
              go_upto_region 15 with fail
              go_cut [68] from 19 to 133 (fun s68 wc => TstR base g cap E w s68 wc)
              case first =>
                cases wb <;> cases wp <;> by_cases hh : ht = 1
                all_goals
                  have hhz : (ht == 1) = decide (ht = 1) := by simp [hh]
                  simp only [hh, decide_true, decide_false] at hhz
                  go_wp2_with (first | (at_builtin; refine wl_append rfl _ _ _ _ rfl _ _ rfl rfl ?_) | (at_make; refine wl_make rfl _ _ _ rfl _ _ rfl rfl ?_) | (at_mapUpdate; refine wl_mapUpdate rfl _ _ _ _ rfl _ _ _ rfl rfl rfl ?_) | (at_lookup; refine wl_lookup rfl _ _ _ _ rfl _ _ rfl rfl ?_) | (at_delete; refine wl_delete rfl _ _ _ _ rfl _ _ rfl rfl ?_) | (with_reducible refine wl_len rfl _ _ rfl _ rfl ?_) | (with_reducible refine wl_range rfl _ _ rfl _ rfl ?_) | (with_reducible refine wl_next rfl _ rfl _ rfl ?_) | (with_reducible refine wl_copy rfl _ _ _ _ rfl _ _ rfl rfl ?_) | (with_reducible refine wl_max rfl _ _ _ _ rfl _ _ rfl rfl ?_) | (with_reducible refine wl_min rfl _ _ _ _ rfl _ _ rfl rfl ?_))
                  go_meet
                  exact ⟨_, rfl, hO, hk⟩
              case rest =>
                clear hO hk
                obtain ⟨B, rfl, hO, hk⟩ := hcut
                have hEs : E.size = n := hI.perm.1.trans HN.out
                go_upto_if 68 with fail
                go_cut [] from 19 to 133 (fun wc => RowR base g cap a b x y D w wc)
                case first =>
                  cases B
                  · go_wp2_with (first | (at_builtin; refine wl_append rfl _ _ _ _ rfl _ _ rfl rfl ?_) | (at_make; refine wl_make rfl _ _ _ rfl _ _ rfl rfl ?_) | (at_mapUpdate; refine wl_mapUpdate rfl _ _ _ _ rfl _ _ _ rfl rfl rfl ?_) | (at_lookup; refine wl_lookup rfl _ _ _ _ rfl _ _ rfl rfl ?_) | (at_delete; refine wl_delete rfl _ _ _ _ rfl _ _ rfl rfl ?_) | (with_reducible refine wl_len rfl _ _ rfl _ rfl ?_) | (with_reducible refine wl_range rfl _ _ rfl _ rfl ?_) | (with_reducible refine wl_next rfl _ rfl _ rfl ?_) | (with_reducible refine wl_copy rfl _ _ _ _ rfl _ _ rfl rfl ?_) | (with_reducible refine wl_max rfl _ _ _ _ rfl _ _ rfl rfl ?_) | (with_reducible refine wl_min rfl _ _ _ _ rfl _ _ rfl rfl ?_))
                    go_meet
                    case rel => exact ⟨E, hI, hO, hk⟩
                  · have hc := par_any hO (show x < y by omega) (by omega) (by omega)
                    have hps := prm_par E (show x < y by omega) (by omega) hI.blw
                    rw [hEs] at hc
                    have hd := fun e => hI.done hbD hps.1 (hps.2 e)
                    have ht1 := hI.turn hbD hps.1
                    generalize Sort.partialInsertionSort ltN E x y = PR at *
                    obtain ⟨F, B2⟩ := PR
                    dsimp only at hc hps hd ht1
                    have HC := Lib.hid hc
                    have HD := Lib.hid hd
                    have HT1 := Lib.hid ht1
                    clear hc hps hd ht1 hEs
                    go_wp2_with (first | (at_builtin; refine wl_append rfl _ _ _ _ rfl _ _ rfl rfl ?_) | (at_make; refine wl_make rfl _ _ _ rfl _ _ rfl rfl ?_) | (at_mapUpdate; refine wl_mapUpdate rfl _ _ _ _ rfl _ _ _ rfl rfl rfl ?_) | (at_lookup; refine wl_lookup rfl _ _ _ _ rfl _ _ rfl rfl ?_) | (at_delete; refine wl_delete rfl _ _ _ _ rfl _ _ rfl rfl ?_) | (with_reducible refine wl_len rfl _ _ rfl _ rfl ?_) | (with_reducible refine wl_range rfl _ _ rfl _ rfl ?_) | (with_reducible refine wl_next rfl _ rfl _ rfl ?_) | (with_reducible refine wl_copy rfl _ _ _ _ rfl _ _ rfl rfl ?_) | (with_reducible refine wl_max rfl _ _ _ _ rfl _ _ rfl rfl ?_) | (with_reducible refine wl_min rfl _ _ _ _ rfl _ _ rfl rfl ?_))
                    refine HC.out.mono ?_
                    rintro e w1 ⟨rfl, hO1, hk1⟩
                    have hK1 := hk.trans' hk1
                    cases B2
                    · go_wp2_with (first | (at_builtin; refine wl_append rfl _ _ _ _ rfl _ _ rfl rfl ?_) | (at_make; refine wl_make rfl _ _ _ rfl _ _ rfl rfl ?_) | (at_mapUpdate; refine wl_mapUpdate rfl _ _ _ _ rfl _ _ _ rfl rfl rfl ?_) | (at_lookup; refine wl_lookup rfl _ _ _ _ rfl _ _ rfl rfl ?_) | (at_delete; refine wl_delete rfl _ _ _ _ rfl _ _ rfl rfl ?_) | (with_reducible refine wl_len rfl _ _ rfl _ rfl ?_) | (with_reducible refine wl_range rfl _ _ rfl _ rfl ?_) | (with_reducible refine wl_next rfl _ rfl _ rfl ?_) | (with_reducible refine wl_copy rfl _ _ _ _ rfl _ _ rfl rfl ?_) | (with_reducible refine wl_max rfl _ _ _ _ rfl _ _ rfl rfl ?_) | (with_reducible refine wl_min rfl _ _ _ _ rfl _ _ rfl rfl ?_))
                      go_meet
                      case rel => exact ⟨F, HT1.out, hO1, hK1⟩
                    · go_wp2_with (first | (at_builtin; refine wl_append rfl _ _ _ _ rfl _ _ rfl rfl ?_) | (at_make; refine wl_make rfl _ _ _ rfl _ _ rfl rfl ?_) | (at_mapUpdate; refine wl_mapUpdate rfl _ _ _ _ rfl _ _ _ rfl rfl rfl ?_) | (at_lookup; refine wl_lookup rfl _ _ _ _ rfl _ _ rfl rfl ?_) | (at_delete; refine wl_delete rfl _ _ _ _ rfl _ _ rfl rfl ?_) | (with_reducible refine wl_len rfl _ _ rfl _ rfl ?_) | (with_reducible refine wl_range rfl _ _ rfl _ rfl ?_) | (with_reducible refine wl_next rfl _ rfl _ rfl ?_) | (with_reducible refine wl_copy rfl _ _ _ _ rfl _ _ rfl rfl ?_) | (with_reducible refine wl_max rfl _ _ _ _ rfl _ _ rfl rfl ?_) | (with_reducible refine wl_min rfl _ _ _ _ rfl _ _ rfl rfl ?_))
                      refine bodyPost_ret (results_none rfl _ _ _) rfl ?_
                      exact ⟨rfl, F, (HD.out (by simp)).1, (HD.out (by simp)).2, hO1, hK1⟩
                case rest =>
                  clear hI hO hk hEs
                  obtain ⟨E, hI, hO, hk⟩ := hcut
                  have hEs : E.size = n := hI.perm.1.trans HN.out
                  go_upto_region 17 with fail
                  go_cut [87] from 19 to 133 (fun s87 wc => EqlR base g cap x p E w s87 wc)
                  case first =>
                    rcases Nat.eq_zero_or_pos x with hx0 | hx0
                    · have hz : decide ((0 : Int) < (x : Int)) = false := by simp; omega
                      have hz2 : decide (0 < x) = false := by simp; omega
                      have hz3 : ¬ (0 : Int) < (x : Int) := by omega
                      have HX0 := Lib.hid hx0
                      clear hx0
                      go_quiet (first | (go_at_call 71; exact Calls.quiet_of_same (less_same _ _ _)) | (go_at_call 71; exact quiet_on (less_same _ _ _)))
                      go_wp2_with (first | (at_builtin; refine wl_append rfl _ _ _ _ rfl _ _ rfl rfl ?_) | (at_make; refine wl_make rfl _ _ _ rfl _ _ rfl rfl ?_) | (at_mapUpdate; refine wl_mapUpdate rfl _ _ _ _ rfl _ _ _ rfl rfl rfl ?_) | (at_lookup; refine wl_lookup rfl _ _ _ _ rfl _ _ rfl rfl ?_) | (at_delete; refine wl_delete rfl _ _ _ _ rfl _ _ rfl rfl ?_) | (with_reducible refine wl_len rfl _ _ rfl _ rfl ?_) | (with_reducible refine wl_range rfl _ _ rfl _ rfl ?_) | (with_reducible refine wl_next rfl _ rfl _ rfl ?_) | (with_reducible refine wl_copy rfl _ _ _ _ rfl _ _ rfl rfl ?_) | (with_reducible refine wl_max rfl _ _ _ _ rfl _ _ rfl rfl ?_) | (with_reducible refine wl_min rfl _ _ _ _ rfl _ _ rfl rfl ?_))
                      go_meet
                      case rel => exact ⟨false, rfl, (fun e => Bool.noConfusion e), hO, hk.drewN _⟩
                    · have hz : decide ((0 : Int) < (x : Int)) = true := by simp; omega
                      have hz2 : decide (0 < x) = true := by simp; omega
                      have hz3 : (0 : Int) < (x : Int) := by omega
                      obtain ⟨r, hr1, hr2⟩ : ∃ r, x ≤ r + 1 ∧ r + 1 ≤ x := ⟨x - 1, by omega, by omega⟩
                      have e1 : (x : Int) - 1 = (r : Int) := by omega
                      have w1 : IntKind.i64.wrap (r : Int) = (r : Int) := by rw [IntKind.wrap_i64]; omega
                      have w2 : IntKind.i64.wrap ((x : Int) - 1) = (r : Int) := by rw [e1, IntKind.wrap_i64]; omega
                      have b1 : (r : Int) < (n : Int) := by omega
                      have b2 : (p : Int) < (n : Int) := by omega
                      have c1 := hO.cell (i := r) (by omega)
                      have c2 := hO.cell (i := p) (by omega)
                      unfold uv at c1 c2
                      have HXR := Lib.hid (show x - 1 = r by omega)
                      have hrE : ∃ u v, u = E[r]! ∧ v = E[p]! := ⟨_, _, rfl, rfl⟩
                      obtain ⟨u, v, hu, hv⟩ := hrE
                      rw [← hu] at c1
                      rw [← hv] at c2
                      have HU := Lib.hid hu
                      have HV := Lib.hid hv
                      clear hu hv
                      go_quiet (first | (go_at_call 71; exact Calls.quiet_of_same (less_same _ _ _)) | (go_at_call 71; exact quiet_on (less_same _ _ _)))
                      cases hl : ltN u v with
                      | true =>
                        try simp only [Bool.not_true]
                        go_wp2_with (first | (at_builtin; refine wl_append rfl _ _ _ _ rfl _ _ rfl rfl ?_) | (at_make; refine wl_make rfl _ _ _ rfl _ _ rfl rfl ?_) | (at_mapUpdate; refine wl_mapUpdate rfl _ _ _ _ rfl _ _ _ rfl rfl rfl ?_) | (at_lookup; refine wl_lookup rfl _ _ _ _ rfl _ _ rfl rfl ?_) | (at_delete; refine wl_delete rfl _ _ _ _ rfl _ _ rfl rfl ?_) | (with_reducible refine wl_len rfl _ _ rfl _ rfl ?_) | (with_reducible refine wl_range rfl _ _ rfl _ rfl ?_) | (with_reducible refine wl_next rfl _ rfl _ rfl ?_) | (with_reducible refine wl_copy rfl _ _ _ _ rfl _ _ rfl rfl ?_) | (with_reducible refine wl_max rfl _ _ _ _ rfl _ _ rfl rfl ?_) | (with_reducible refine wl_min rfl _ _ _ _ rfl _ _ rfl rfl ?_))
                        go_meet
                        case rel => exact ⟨false, rfl, (fun e => Bool.noConfusion e), hO, hk.drewN _⟩
                      | false =>
                        try simp only [Bool.not_false]
                        go_wp2_with (first | (at_builtin; refine wl_append rfl _ _ _ _ rfl _ _ rfl rfl ?_) | (at_make; refine wl_make rfl _ _ _ rfl _ _ rfl rfl ?_) | (at_mapUpdate; refine wl_mapUpdate rfl _ _ _ _ rfl _ _ _ rfl rfl rfl ?_) | (at_lookup; refine wl_lookup rfl _ _ _ _ rfl _ _ rfl rfl ?_) | (at_delete; refine wl_delete rfl _ _ _ _ rfl _ _ rfl rfl ?_) | (with_reducible refine wl_len rfl _ _ rfl _ rfl ?_) | (with_reducible refine wl_range rfl _ _ rfl _ rfl ?_) | (with_reducible refine wl_next rfl _ rfl _ rfl ?_) | (with_reducible refine wl_copy rfl _ _ _ _ rfl _ _ rfl rfl ?_) | (with_reducible refine wl_max rfl _ _ _ _ rfl _ _ rfl rfl ?_) | (with_reducible refine wl_min rfl _ _ _ _ rfl _ _ rfl rfl ?_))
                        go_meet
                        case rel => exact ⟨true, rfl, fun _ => ⟨hx0, by rw [HXR.out, ← HU.out, ← HV.out]; simpa [ltN] using hl⟩, hO, hk.drewN _⟩
                  case rest =>
                    clear hO hk
                    obtain ⟨B, rfl, hBt, hO, hk⟩ := hcut
                    cases B
                    · clear hBt
                      have hc := prt_any hO (show x < y by omega) (by omega) hp1 hp2 (by omega)
                      rw [hEs] at hc
                      have HC := Lib.hid hc
                      clear hc
                      go_wp2_with (first | (at_builtin; refine wl_append rfl _ _ _ _ rfl _ _ rfl rfl ?_) | (at_make; refine wl_make rfl _ _ _ rfl _ _ rfl rfl ?_) | (at_mapUpdate; refine wl_mapUpdate rfl _ _ _ _ rfl _ _ _ rfl rfl rfl ?_) | (at_lookup; refine wl_lookup rfl _ _ _ _ rfl _ _ rfl rfl ?_) | (at_delete; refine wl_delete rfl _ _ _ _ rfl _ _ rfl rfl ?_) | (with_reducible refine wl_len rfl _ _ rfl _ rfl ?_) | (with_reducible refine wl_range rfl _ _ rfl _ rfl ?_) | (with_reducible refine wl_next rfl _ rfl _ rfl ?_) | (with_reducible refine wl_copy rfl _ _ _ _ rfl _ _ rfl rfl ?_) | (with_reducible refine wl_max rfl _ _ _ _ rfl _ _ rfl rfl ?_) | (with_reducible refine wl_min rfl _ _ _ _ rfl _ _ rfl rfl ?_))
                      refine HC.out.mono ?_
                      rintro e w1 ⟨m, B2, rfl, F, hpo, hO1, hk1⟩
                      have hK1 := hk.trans' hk1
                      have hFs : F.size = n := hpo.perm.1.trans hEs
                      have hxm := hpo.am
                      have hmy := hpo.mb
                      clear HC hO hk hk1 hEs
                      by_cases hside : m - x < y - m
                      · have hsz : (m : Int) - (x : Int) < (y : Int) - (m : Int) := by omega
                        have hih := HIH.out x m lim F w1 (by omega) hO1 hxm (by omega) (by omega) (by omega) (hI.lblw hbD hpo)
                        rw [hFs] at hih
                        have HIJ := Lib.hid hih
                        clear hih hFs
                        go_wp2_with (first | (at_builtin; refine wl_append rfl _ _ _ _ rfl _ _ rfl rfl ?_) | (at_make; refine wl_make rfl _ _ _ rfl _ _ rfl rfl ?_) | (at_mapUpdate; refine wl_mapUpdate rfl _ _ _ _ rfl _ _ _ rfl rfl rfl ?_) | (at_lookup; refine wl_lookup rfl _ _ _ _ rfl _ _ rfl rfl ?_) | (at_delete; refine wl_delete rfl _ _ _ _ rfl _ _ rfl rfl ?_) | (with_reducible refine wl_len rfl _ _ rfl _ rfl ?_) | (with_reducible refine wl_range rfl _ _ rfl _ rfl ?_) | (with_reducible refine wl_next rfl _ rfl _ rfl ?_) | (with_reducible refine wl_copy rfl _ _ _ _ rfl _ _ rfl rfl ?_) | (with_reducible refine wl_max rfl _ _ _ _ rfl _ _ rfl rfl ?_) | (with_reducible refine wl_min rfl _ _ _ _ rfl _ _ rfl rfl ?_))
                        refine HIJ.out.mono ?_
                        rintro e w2 ⟨rfl, G, g1, g2, hO2, hk2⟩
                        have hK2 := hK1.trans' hk2
                        have hI2 := hI.left hbD hpo g1 g2
                        clear HIJ
                        go_wp2_with (first | (at_builtin; refine wl_append rfl _ _ _ _ rfl _ _ rfl rfl ?_) | (at_make; refine wl_make rfl _ _ _ rfl _ _ rfl rfl ?_) | (at_mapUpdate; refine wl_mapUpdate rfl _ _ _ _ rfl _ _ _ rfl rfl rfl ?_) | (at_lookup; refine wl_lookup rfl _ _ _ _ rfl _ _ rfl rfl ?_) | (at_delete; refine wl_delete rfl _ _ _ _ rfl _ _ rfl rfl ?_) | (with_reducible refine wl_len rfl _ _ rfl _ rfl ?_) | (with_reducible refine wl_range rfl _ _ rfl _ rfl ?_) | (with_reducible refine wl_next rfl _ rfl _ rfl ?_) | (with_reducible refine wl_copy rfl _ _ _ _ rfl _ _ rfl rfl ?_) | (with_reducible refine wl_max rfl _ _ _ _ rfl _ _ rfl rfl ?_) | (with_reducible refine wl_min rfl _ _ _ _ rfl _ _ rfl rfl ?_))
                        go_roundw
                        case rel => exact ⟨m + 1, y, lim, _, B2, G, by go_num, rfl, rfl, rfl, rfl, hlim, hI2, hO2, hK2⟩
                        case measure => first | (simp [intOf]; done) | (simp [intOf]; omega)
                      · have hsz : ¬ (m : Int) - (x : Int) < (y : Int) - (m : Int) := by omega
                        have hih := HIH.out (m + 1) y lim F w1 (by omega) hO1 (by omega) (by omega) (by omega) (by omega) hpo.rblw
                        rw [hFs, show ((m + 1 : Nat) : Int) = (m : Int) + 1 by omega] at hih
                        have HIJ := Lib.hid hih
                        clear hih hFs
                        go_wp2_with (first | (at_builtin; refine wl_append rfl _ _ _ _ rfl _ _ rfl rfl ?_) | (at_make; refine wl_make rfl _ _ _ rfl _ _ rfl rfl ?_) | (at_mapUpdate; refine wl_mapUpdate rfl _ _ _ _ rfl _ _ _ rfl rfl rfl ?_) | (at_lookup; refine wl_lookup rfl _ _ _ _ rfl _ _ rfl rfl ?_) | (at_delete; refine wl_delete rfl _ _ _ _ rfl _ _ rfl rfl ?_) | (with_reducible refine wl_len rfl _ _ rfl _ rfl ?_) | (with_reducible refine wl_range rfl _ _ rfl _ rfl ?_) | (with_reducible refine wl_next rfl _ rfl _ rfl ?_) | (with_reducible refine wl_copy rfl _ _ _ _ rfl _ _ rfl rfl ?_) | (with_reducible refine wl_max rfl _ _ _ _ rfl _ _ rfl rfl ?_) | (with_reducible refine wl_min rfl _ _ _ _ rfl _ _ rfl rfl ?_))
                        refine HIJ.out.mono ?_
                        rintro e w2 ⟨rfl, G, g1, g2, hO2, hk2⟩
                        have hK2 := hK1.trans' hk2
                        have hI2 := hI.right hbD hpo g1 g2
                        clear HIJ
                        go_wp2_with (first | (at_builtin; refine wl_append rfl _ _ _ _ rfl _ _ rfl rfl ?_) | (at_make; refine wl_make rfl _ _ _ rfl _ _ rfl rfl ?_) | (at_mapUpdate; refine wl_mapUpdate rfl _ _ _ _ rfl _ _ _ rfl rfl rfl ?_) | (at_lookup; refine wl_lookup rfl _ _ _ _ rfl _ _ rfl rfl ?_) | (at_delete; refine wl_delete rfl _ _ _ _ rfl _ _ rfl rfl ?_) | (with_reducible refine wl_len rfl _ _ rfl _ rfl ?_) | (with_reducible refine wl_range rfl _ _ rfl _ rfl ?_) | (with_reducible refine wl_next rfl _ rfl _ rfl ?_) | (with_reducible refine wl_copy rfl _ _ _ _ rfl _ _ rfl rfl ?_) | (with_reducible refine wl_max rfl _ _ _ _ rfl _ _ rfl rfl ?_) | (with_reducible refine wl_min rfl _ _ _ _ rfl _ _ rfl rfl ?_))
                        go_roundw
                        case rel => exact ⟨x, m, lim, _, B2, G, rfl, rfl, rfl, rfl, rfl, hlim, hI2, hO2, hK2⟩
                        case measure => first | (simp [intOf]; done) | (simp [intOf]; omega)
                    · obtain ⟨hx0, hle⟩ := hBt rfl
                      have hc := peq_any hO (show x < y by omega) (by omega) hp1 hp2 (by omega)
                      rw [hEs] at hc
                      have HC := Lib.hid hc
                      have HLE := Lib.hid hle
                      clear hc hBt hle hEs
                      go_wp2_with (first | (at_builtin; refine wl_append rfl _ _ _ _ rfl _ _ rfl rfl ?_) | (at_make; refine wl_make rfl _ _ _ rfl _ _ rfl rfl ?_) | (at_mapUpdate; refine wl_mapUpdate rfl _ _ _ _ rfl _ _ _ rfl rfl rfl ?_) | (at_lookup; refine wl_lookup rfl _ _ _ _ rfl _ _ rfl rfl ?_) | (at_delete; refine wl_delete rfl _ _ _ _ rfl _ _ rfl rfl ?_) | (with_reducible refine wl_len rfl _ _ rfl _ rfl ?_) | (with_reducible refine wl_range rfl _ _ rfl _ rfl ?_) | (with_reducible refine wl_next rfl _ rfl _ rfl ?_) | (with_reducible refine wl_copy rfl _ _ _ _ rfl _ _ rfl rfl ?_) | (with_reducible refine wl_max rfl _ _ _ _ rfl _ _ rfl rfl ?_) | (with_reducible refine wl_min rfl _ _ _ _ rfl _ _ rfl rfl ?_))
                      refine HC.out.mono ?_
                      rintro e w1 ⟨m, rfl, F, hpo, hO1, hk1⟩
                      have hK1 := hk.trans' hk1
                      have hI2 := hI.equal hbD hx0 HLE.out hpo
                      have hxm := hpo.am
                      have hmy := hpo.mb
                      clear HC hO hk hk1
                      go_wp2_with (first | (at_builtin; refine wl_append rfl _ _ _ _ rfl _ _ rfl rfl ?_) | (at_make; refine wl_make rfl _ _ _ rfl _ _ rfl rfl ?_) | (at_mapUpdate; refine wl_mapUpdate rfl _ _ _ _ rfl _ _ _ rfl rfl rfl ?_) | (at_lookup; refine wl_lookup rfl _ _ _ _ rfl _ _ rfl rfl ?_) | (at_delete; refine wl_delete rfl _ _ _ _ rfl _ _ rfl rfl ?_) | (with_reducible refine wl_len rfl _ _ rfl _ rfl ?_) | (with_reducible refine wl_range rfl _ _ rfl _ rfl ?_) | (with_reducible refine wl_next rfl _ rfl _ rfl ?_) | (with_reducible refine wl_copy rfl _ _ _ _ rfl _ _ rfl rfl ?_) | (with_reducible refine wl_max rfl _ _ _ _ rfl _ _ rfl rfl ?_) | (with_reducible refine wl_min rfl _ _ _ _ rfl _ _ rfl rfl ?_))
                      go_roundw
                      case rel => exact ⟨m, y, lim, wb, wp, F, rfl, rfl, rfl, rfl, rfl, hlim, hI2, hO1, hK1⟩
                      case measure => first | (simp [intOf]; done) | (simp [intOf]; omega)
end
end Go.Proofs.Ytaoillfofiehpaa
namespace Go.Proofs.Ytaoillfofiehpaa
open Go.RowKit Go.Dm Go.Dm.Vm Go.Maps Go.Shelf

attribute [local go_sem] Oper.semAt_some
section
variable {w : World} {f : Nat → Nat} {m : V} {b : Nat}
theorem has_VL {es : List (Lit × DataW Value)} (h : es.Perm ((VL f m).map hd)) (x : Nat) : Maps.has (DataW.map es) (.int .u64 (x : Int)) = true ↔ ∃ p ∈ m, p.addr = x := by
  rw [Maps.has_eq, List.any_eq_true]
  constructor
  · rintro ⟨q, hq, hs⟩
    obtain ⟨q', hq', rfl⟩ := List.mem_map.1 (h.mem_iff.1 hq)
    obtain ⟨p, hp, rfl⟩ := List.mem_map.1 hq'
    have := WideAt.sameKey_eq hs
    simp only [hd, Lit.int.injEq, true_and] at this
    exact ⟨p, hp, by omega⟩
  · rintro ⟨p, hp, rfl⟩
    refine ⟨hd (.int .u64 (p.addr : Int), ptrTo (f p.addr)), h.mem_iff.2 (List.mem_map_of_mem (List.mem_map.2 ⟨p, hp, rfl⟩)), ?_⟩
    simp [hd, Lit.sameKey]
theorem u64_info : (Try.prog.info? 24).map (fun i => (i.zero, i.size, i.bytes)) = some (some (.int .u64 0), 1, 8) := by kernel_rfl
def addrs (m : V) : List Nat := m.map (·.addr)
set_option maxRecDepth 100000 in
set_option maxHeartbeats 2000000 in
theorem keysU1_in (n : Nat) (hn : 1 ≤ n) (l Bm : Nat) (J Jx : List Nat → World → Prop) (hnd : (addrs m).Nodup)
    (hY : ∀ pre x W, J pre W → pre.length < m.length → YieldAt Fence.wide (n - 1) Try.prog l #[uv x] W fun e W' =>
      (e = .returned (.bool true) ∧ J (pre ++ [x]) W' ∧ KeepsWalks W W') ∨ (e = .returned (.bool false) ∧ Jx (pre ++ [x]) W'))
    (W : World) (hJ : AbidesFrom W.heap.size J) (hm : W.cell? ⟨Bm, 0, none⟩ = some (.map (some b))) (hown : MapL Try.prog 24 W b (VL f m)) (h0 : J [] W) :
    CallsIn Fence.wide n Try.prog 52 #[.func (.yield l) #[] #[], .pointer (some ⟨Bm, 0, none⟩)] W fun e W' => (∃ v, e = .returned v) ∧ ((∃ ss : List Nat, ss.Perm (addrs m) ∧ J ss W') ∨ ∃ pre : List Nat, True ∧ Jx pre W') := by
  obtain ⟨es, ho, hes, hsz⟩ := hown.size
  have hhas := fun x => has_VL (f := f) (m := m) hes x
  rw [VL_len] at ho hsz
  refine callsIn_of_wp Try.func52 rfl trivial ?_ rfl
  simp only [Try.ntmps52, List.size_toArray, List.length_cons, List.length_nil, Nat.reduceAdd, Nat.reduceSub, Array.replicate_succ, Array.replicate_zero, List.push_toArray, List.append_toArray, List.nil_append, List.cons_append]
  gi_wp2_with (first
    | (gi_at_range; refine wpListIn_range_own _ rfl _ 68 rfl 24 64 (int_keyed Try.underlying24) Try.underlying68 _ b m.length _ rfl ho ?_; intro w0 hrg0 hg0 hs0)
    | gi_in)
  go_frame
  gi_loopw [3] (fun _ wr => ∃ (left : Lit → Bool) (cnt : Nat) (ss : List Nat), wr.ranges Try.prog 24 Go.Dm.heldE b W.heap.size m.length (.map es) left cnt ∧ ss.length + cnt ≤ m.length ∧ (ss.Nodup ∧ ∀ x, x ∈ ss ↔ ((∃ p ∈ m, p.addr = x) ∧ left (.int .u64 (x : Int)) = false)) ∧ J ss wr)
    (fun _ wr => wr.rangeLeft b W.heap.size)
  case atStart =>
    refine ⟨_, _, [], hrg0, by rw [hsz]; simp, ⟨List.nodup_nil, fun x => ?_⟩, hJ [] W w0 none h0 hg0 (fun r e => by cases e)⟩
    simp only [List.not_mem_nil, false_iff, not_and]
    intro hx
    rw [(hhas x).2 hx]
    simp
  case round =>
    obtain ⟨left, cnt, ss, hrg, hcs, hC, hJs⟩ := hrel
    gi_wp2_with (first
      | (gi_at_next; refine wpListIn_next_ranges (α := Int) (β := Value) _ rfl _ rfl 24 (int_keyed Try.underlying24) Go.Dm.heldE (Value.int .u64) id (fun key kl hk => by obtain ⟨x, hx, _⟩ := Maps.keyOf_int_inv Try.underlying24 hk; exact ⟨x, hx⟩) (fun v _ _ => ⟨v, rfl⟩) b W.heap.size m.length _ _ _ rfl hrg ?_ ?_)
      | gi_in)
    · intro hc0 hl0
      gi_wp2
      go_end0
      refine ⟨⟨_, rfl⟩, .inl ⟨ss, ?_, hJs⟩⟩
      refine (List.perm_ext_iff_of_nodup hC.1 hnd).2 fun x => ?_
      rw [hC.2 x, hl0]
      simp only [and_true]
      exact ⟨fun ⟨p, hp, e⟩ => List.mem_map.2 ⟨p, hp, e⟩, fun h => by obtain ⟨p, hp, e⟩ := List.mem_map.1 h; exact ⟨p, hp, e⟩⟩
    · intro x c kl yd yp w2 cnt2 hkey hlk hv hat hrg2 hlt hg2 hs2 hen
      obtain ⟨x', ex, rfl, _⟩ := Maps.keyOf_int_inv Try.underlying24 hkey
      obtain rfl : x = x' := by simpa using ex
      have hh : Maps.has (DataW.map es) (.int .u64 x) = true := Maps.has_true_of_atKey hat
      obtain ⟨a, ha⟩ : ∃ a : Nat, x = (a : Int) := by
        rw [Maps.has_eq, List.any_eq_true] at hh
        obtain ⟨q, hq, hs⟩ := hh
        obtain ⟨q', hq', rfl⟩ := List.mem_map.1 (hes.mem_iff.1 hq)
        obtain ⟨p, hp, rfl⟩ := List.mem_map.1 hq'
        have := WideAt.sameKey_eq hs
        simp only [hd, Lit.int.injEq, true_and] at this
        exact ⟨p.addr, this.symm⟩
      subst ha
      have hex := (hhas a).1 hh
      have hnew : a ∉ ss := fun ha => by rw [((hC.2 a).1 ha).2] at hlk; cases hlk
      have hC2 : (ss ++ [a]).Nodup ∧ ∀ z, z ∈ ss ++ [a] ↔ ((∃ p ∈ m, p.addr = z) ∧ (left (.int .u64 (z : Int)) && !(Lit.int .u64 (z : Int)).sameKey (.int .u64 (a : Int))) = false) := by
        refine ⟨List.nodup_append.2 ⟨hC.1, by simp, fun x hx y hy e => by simp at hy; subst hy; exact hnew (e ▸ hx)⟩, fun z => ?_⟩
        by_cases hz : z = a
        · subst hz
          simp only [List.mem_append, List.mem_singleton, or_true, true_iff]
          exact ⟨hex, by simp [Lit.sameKey]⟩
        · have hk2 : (Lit.int .u64 (z : Int)).sameKey (.int .u64 (a : Int)) = false := by
            simp [Lit.sameKey]
            omega
          rw [hk2]
          simp only [List.mem_append, List.mem_singleton, hz, or_false, Bool.not_false, Bool.and_true]
          exact hC.2 z
      have hJ2 : J ss w2 := hJ ss wr w2 (some W.heap.size) hJs hg2 (fun r e => by cases e; exact ⟨Nat.le_refl _, hrg.iter_walk⟩)
      obtain ⟨fn, tmps, assign, body, hy, hR⟩ := hY ss a w2 hJ2 (by omega)
      unfold uv at hy
      clear hs2 hh hex hnew
      gi_wp2
      refine hR.mono ?_
      rintro e W3 (⟨rfl, hJ3, hk3⟩ | ⟨rfl, hJx3⟩)
      · gi_wp2
        have hrg3 := hrg2.of_walks hk3
        go_roundw
        case rel => exact ⟨_, cnt2, ss ++ [a], hrg3, by simp; omega, hC2, hJ3⟩
        case measure => rw [hrg3.left_eq, hrg.left_eq]; exact hlt
      · gi_wp2
        refine bodyPost_ret (results_none rfl _ _ _) rfl ?_
        exact ⟨⟨_, rfl⟩, .inr ⟨ss ++ [a], trivial, hJx3⟩⟩
theorem keysU_stops (n : Nat) (hn : 1 ≤ n) (Bm : Nat) (hnd : (addrs m).Nodup) (w : World) (hBm : Bm < w.heap.size) (hm : w.cell? ⟨Bm, 0, none⟩ = some (.map (some b))) (hown : MapL Try.prog 24 w b (VL f m)) :
    SeqStops Fence.wide n Try.prog 52 #[.pointer (some ⟨Bm, 0, none⟩)] uv (fun ss => ss.Perm (addrs m)) (fun _ => True) m.length w := fun l J Jx W hW hJ _ hY h0 =>
  keysU1_in n hn l Bm J Jx hnd hY W hJ ((hW.cell (p := ⟨Bm, 0, none⟩) hBm).trans hm) (hown.same (hW.block b hown.lt)) h0
set_option maxRecDepth 100000 in
set_option maxHeartbeats 4000000 in
theorem appendseqU_in (n : Nat) (hn : 3 ≤ n) (Bm : Nat) (hnd : (addrs m).Nodup) (w : World) (hBm : Bm < w.heap.size) (hm : w.cell? ⟨Bm, 0, none⟩ = some (.map (some b))) (hown : MapL Try.prog 24 w b (VL f m)) (hlen : m.length ≤ 512) :
    CallsIn Fence.wide n Try.prog 59 #[.slice none 0 0, .func (.func 52) #[] #[.pointer (some ⟨Bm, 0, none⟩)]] w fun e W' => ∃ (v : Value) (ss : List Nat), e = .returned v ∧ ss.Perm (addrs m) ∧ W'.ownsRow w.heap.size 24 1 v ss.length (ss.map uv) ∧ Below w.heap.size w W' := by
  have h1 : 1 ≤ n := by omega
  have hro : Fence.wide.round = none := rfl
  refine callsIn_of_wp_marks Try.func59 rfl trivial ?_ hro
  simp only [Try.ntmps59, List.size_toArray, List.length_cons, List.length_nil, Nat.reduceAdd, Nat.reduceSub, Array.replicate_succ, Array.replicate_zero, List.push_toArray, List.append_toArray, List.nil_append, List.cons_append]
  gi_wp2
  have hi := u64_info
  obtain ⟨i0, hi, hz0, hz1, hz2⟩ := info_parts hi
  have bO := Boxed.new w 73 (.slice none 0 0)
  have hB0 : Below w.heap.size w (w.alloc (.cells #[.slice none 0 0] 73)) := (Below.refl _ w).alloc (Nat.le_refl _) _
  refine wpIn_rangeFunc_ownF hro h1 (gf := 52) (lb := #[.pointer (some ⟨Bm, 0, none⟩)]) rfl trivial (enters_of Try.func52 (by kernel_rfl) rfl)
    (keysU_stops (n - 1) (by omega) Bm hnd _ (by rw [World.size_alloc]; omega) ((World.cell?_of_block (w := w) (Below.heap_alloc _ _ _ hBm)).trans hm) (hown.same (Below.heap_alloc _ _ _ hown.lt))) walksK_t (walksK_b) (Below.refl _ _) (fun _ => rfl)
    (fun (pre : List Nat) W => (∃ v, Boxed W w.heap.size 73 v ∧ W.ownsRow w.heap.size 24 1 v pre.length (pre.map uv) ∧ True) ∧ Below w.heap.size w W)
    (fun _ _ _ => False)
    (OwnFrom.and (Own.from (holdsRow_own w.heap.size w.heap.size 73 24 1 (fun pre : List Nat => pre.length) (fun pre => pre.map uv) (fun _ _ => True)) _) (ownFrom_below (Nat.le_refl _) (by simp)))
    (fun _ _ _ _ _ hs _ _ => hs)
    ⟨⟨_, bO, World.ownsRow_nil _ _ _ _, trivial⟩, hB0⟩
    (fun x => { tmps := #[.slice none 0 0, .func (.func 52) #[] #[.pointer (some ⟨Bm, 0, none⟩)], .pointer (some ⟨w.heap.size, 0, none⟩), undef, .slice none 0 0, uv x, .func (.func 52) #[] #[.pointer (some ⟨Bm, 0, none⟩)], uv x, undef, undef, undef, undef, undef], defers := [] }) ?assign ?body ?done ?stop
  case assign =>
    intro l x W K hK
    gi_wp2
    exact hK
  case body =>
    rintro l pre x W ⟨⟨v, hv, hrow, _⟩, hB⟩ hlt
    have hc := hv.cell
    unfold uv
    gi_wp2_with (gi_at_builtin; refine wpListIn_append_own _ rfl _ _ 73 rfl w.heap.size 24 i0 (.int .u64 0) 1 8 Try.underlying73 hi hz0 hz1 hz2 rfl (by decide) _ _ _ rfl (hrow.alloc _) ⟨W.heap.size, 0, none⟩ 1 1 [.int .u64 (x : Int)] rfl rfl (cell_one_new _ _ _) (by simp [Value.oneCell']) (by unfold maxLen; omega) (by omega) (by have := hB.size; simp; omega) ?_; intro v' w1 hown' hgrow _; obtain ⟨g', cap', rfl⟩ := ownsRow_succ hown'; obtain ⟨hv1, hv2, hr2, hk2, hb2⟩ := hv.appended (by decide) hrow hB.size (Nat.le_refl _) hown' hgrow; have hc1 := hv1.cell; have hf1 := hv1.frozen)
    exact ⟨hk2, hk2.walks, ⟨_, hv2, by rw [List.length_append, List.map_append]; exact hr2, trivial⟩, hB.trans hb2⟩
  case done =>
    rintro D ys W hD hS ⟨⟨v, hv, hrow, _⟩, hB⟩ hK
    have hc := hv.cell
    gi_wp2
    refine ⟨by simp, .inl ⟨_, _, rfl, run_takeDeferred hK, ?_⟩⟩
    exact ⟨_, results_tmp rfl _ _ _, v, ys, rfl, hS, ownsRow_putObj hrow _ hK rfl, hB.trans (belowK_b (w := w) (Nat.le_refl _) W D _ _ (by simp at hD; omega) hK rfl rfl)⟩
  case stop =>
    rintro D c pre W _ _ h _
    exact h.elim
theorem appendseqU_any (Bm : Nat) (hnd : (addrs m).Nodup) (w : World) (hBm : Bm < w.heap.size) (hm : w.cell? ⟨Bm, 0, none⟩ = some (.map (some b))) (hown : MapL Try.prog 24 w b (VL f m)) (hlen : m.length ≤ 512) :
    Calls Try.prog 59 #[.slice none 0 0, .func (.func 52) #[] #[.pointer (some ⟨Bm, 0, none⟩)]] w fun e W' => ∃ (v : Value) (ss : List Nat), e = .returned v ∧ ss.Perm (addrs m) ∧ W'.ownsRow w.heap.size 24 1 v ss.length (ss.map uv) ∧ Below w.heap.size w W' :=
  callsIn_wide.1 (appendseqU_in 3 (Nat.le_refl _) Bm hnd w hBm hm hown hlen)
theorem sorted_eq (ss : List Nat) (l : List Nat) (hp : ss.Perm l) (hl : l.Pairwise (· < ·)) : (Sort.insertionSort ltN ss.toArray 0 ss.toArray.size).toList = l := by
  have h := Sort.insertionSort_holds swoN ss.toArray 0 ss.toArray.size (Nat.zero_le _) (Nat.le_refl _)
  have h2 := Sort.sorted_unique_holds swoN (fun x y h1 h2 => by simp only [ltN, decide_eq_false_iff_not] at h1 h2; omega) ss.toArray _ h.1 h.2
  rw [h2]
  have e : (fun x y => !ltN y x) = fun x y => decide (x ≤ y) := by
    funext x y
    unfold ltN
    rw [Bool.eq_iff_iff]
    simp
  rw [e]
  refine List.Perm.eq_of_pairwise (le := fun a b : Nat => a ≤ b) (fun a b _ _ h1 h2 => Nat.le_antisymm h1 h2) ?_ (hl.imp fun h => Nat.le_of_lt h) ((List.mergeSort_perm _ _).trans hp)
  have := List.pairwise_mergeSort (le := fun x y : Nat => decide (x ≤ y)) (by simp; omega) (by simp; omega) ss
  simpa using this
set_option maxHeartbeats 2000000 in
theorem keysU_any (b : Nat) (w : World) : Calls Try.prog 32 #[.map (some b)] w fun e w' => e = .returned (.func (.func 52) #[] #[.pointer (some ⟨w.heap.size, 0, none⟩)]) ∧ w' = w.alloc (.cells #[.map (some b)] 68) := by
  go_enter Try.func32, Try.ntmps32
  go_wp2_with fail
  go_ret
  exact ⟨rfl, rfl⟩
theorem own_shape {base : Nat} {e : TypeId} {k n : Nat} {v : Value} {xs : List Value} (h : w.ownsRow base e k v n xs) : ∃ a2 c2, v = .slice a2 n c2 := by
  rcases h.2 with ⟨rfl, e0⟩ | ⟨g, cap, cur, rfl, _⟩
  · exact ⟨none, 0, by rw [e0]⟩
  · exact ⟨_, _, rfl⟩
set_option maxHeartbeats 1000000 in
theorem collectU_any (Bm : Nat) (hnd : (addrs m).Nodup) (w : World) (hBm : Bm < w.heap.size) (hm : w.cell? ⟨Bm, 0, none⟩ = some (.map (some b))) (hown : MapL Try.prog 24 w b (VL f m)) (hlen : m.length ≤ 512) :
    Calls Try.prog 50 #[.func (.func 52) #[] #[.pointer (some ⟨Bm, 0, none⟩)]] w fun e W' => ∃ (v : Value) (ss : List Nat), e = .returned v ∧ ss.Perm (addrs m) ∧ W'.ownsRow w.heap.size 24 1 v ss.length (ss.map uv) ∧ Below w.heap.size w W' := by
  have hap := appendseqU_any Bm hnd w hBm hm hown hlen
  go_enter Try.func50, Try.ntmps50
  go_wp2_with fail
  refine hap.mono ?_
  rintro e W ⟨v, ss, rfl, h1, h2, h3⟩
  obtain ⟨a2, c2, rfl⟩ := own_shape h2
  go_wp2_with fail
  go_ret
  exact ⟨_, ss, rfl, h1, h2, h3⟩
/-- sorting what came: the addresses -/
theorem sort_addrs {v : Value} {base : Nat} (ss : List Nat) (hp : ss.Perm (addrs m)) (hsrt : (addrs m).Pairwise (· < ·)) (hlen : m.length ≤ 12) (ho : w.ownsRow base 24 1 v m.length (ss.map uv)) :
    Calls Try.prog 51 #[v] w fun e w' => e = .returned (.tuple #[]) ∧ w'.ownsRow base 24 1 v m.length ((addrs m).map uv) ∧ Keep (fun j => some j = v.ownBlock) w w' ∧ w'.heap.size = w.heap.size := by
  have hsl : m.length = ss.toArray.size := by rw [List.size_toArray, hp.length_eq]; simp [addrs]
  have hse := sorted_eq ss (addrs m) hp hsrt
  rw [hsl] at ho hlen ⊢
  refine (sort_small (w := w) (D := ss.toArray) (v := v) ho hlen).mono ?_
  rintro e W ⟨h1, h2, h3, h4⟩
  rw [hse] at h2
  exact ⟨h1, h2, h3, h4⟩
set_option maxHeartbeats 1000000 in
/-- slices.Sorted(maps.Keys(m)), where the sort sorts -/
theorem sortedU_of (Bm : Nat) (hsrt : (addrs m).Pairwise (· < ·)) (w : World) (hBm : Bm < w.heap.size) (hm : w.cell? ⟨Bm, 0, none⟩ = some (.map (some b))) (hown : MapL Try.prog 24 w b (VL f m)) (hlen : m.length ≤ 512)
    (hso : ∀ (W : World) (v : Value) (ss : List Nat), ss.Perm (addrs m) → W.ownsRow w.heap.size 24 1 v m.length (ss.map uv) → Calls Try.prog 51 #[v] W fun e w' => e = .returned (.tuple #[]) ∧ w'.ownsRow w.heap.size 24 1 v m.length ((addrs m).map uv) ∧ Keep (fun j => some j = v.ownBlock) W w') :
    Calls Try.prog 31 #[.func (.func 52) #[] #[.pointer (some ⟨Bm, 0, none⟩)]] w fun e W' => ∃ v : Value, e = .returned v ∧ W'.ownsRow w.heap.size 24 1 v m.length ((addrs m).map uv) ∧ Keep No w W' := by
  have hco := collectU_any Bm (hsrt.imp fun h => Nat.ne_of_lt h) w hBm hm hown (by omega)
  have hal : (addrs m).length = m.length := by simp [addrs]
  generalize addrs m = l at *
  clear hsrt hown hm hlen
  generalize m.length = n at *
  go_enter Try.func31, Try.ntmps31
  go_wp2_with fail
  refine hco.mono ?_
  rintro e W ⟨v, ss, rfl, hp, ho, hB⟩
  rw [hp.length_eq, hal] at ho
  have hs := hso W v ss hp ho
  clear hso hco
  obtain ⟨a2, c2, rfl⟩ := own_shape ho
  go_wp2_with fail
  refine hs.mono ?_
  rintro e W2 ⟨rfl, h1, h2⟩
  go_wp2_with fail
  go_ret
  exact ⟨_, rfl, h1, (Keep.of_below hB).trans h2 fun j hj e => by have := (ho.lt j e.symm).1; omega⟩
/-- slices.Sorted(maps.Keys(m)), of up to twelve pages -/
theorem sortedU_any (Bm : Nat) (hsrt : (addrs m).Pairwise (· < ·)) (w : World) (hBm : Bm < w.heap.size) (hm : w.cell? ⟨Bm, 0, none⟩ = some (.map (some b))) (hown : MapL Try.prog 24 w b (VL f m)) (hlen : m.length ≤ 12) :
    Calls Try.prog 31 #[.func (.func 52) #[] #[.pointer (some ⟨Bm, 0, none⟩)]] w fun e W' => ∃ v : Value, e = .returned v ∧ W'.ownsRow w.heap.size 24 1 v m.length ((addrs m).map uv) ∧ Keep No w W' :=
  sortedU_of Bm hsrt w hBm hm hown (by omega) fun W v ss hp ho => (sort_addrs (w := W) ss hp hsrt hlen ho).mono fun _ _ h => ⟨h.1, h.2.1, h.2.2.1⟩
end
end Go.Proofs.Ytaoillfofiehpaa
