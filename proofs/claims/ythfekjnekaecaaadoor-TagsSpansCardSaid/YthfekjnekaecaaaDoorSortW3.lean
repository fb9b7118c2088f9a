/- insertionSortOrdered, siftDownOrdered, heapSortOrdered at uint64, between two places. No condition. -/
import Derived.Test.YthfekjnekaecaaaDoorSortW2
import Derived.Sort.LotB
set_option linter.unusedVariables false
set_option linter.unusedSimpArgs false
namespace Go.Proofs.YthfekjnekaecaaaDoor
open Go.RowKit Go.Dm
section
variable {w : World} {base g cap a b : Nat} {D E : Array Nat}
theorem quiet_on {P : Program} {f : FuncId} {args : Array Value} {w : World} {a n : Nat} {v : Value} (h : Calls P f args (w.drewN (a + n)) fun e w' => e = .returned v ∧ w' = w.drewN (a + n)) :
    Calls P f args (w.drewN (a + n)) fun e w' => e = .returned v ∧ ∃ m, w' = w.drewN (a + m) := h.mono fun _ _ hx => ⟨hx.1, n, hx.2⟩
theorem sift_size (lt : Nat → Nat → Bool) (hi first : Nat) : ∀ (m root : Nat) (d : Array Nat), hi - root ≤ m → (Sort.siftDown lt hi first root d).size = d.size
  | m, root, d, h => by
    rw [Sort.siftDown]
    split
    · rfl
    · cases m with
      | zero => omega
      | succ m =>
        split
        · split
          · rfl
          · split
            · rw [sift_size lt hi first m _ _ (by omega), Sort.size_swp]
            · rfl
        · split
          · rfl
          · rw [sift_size lt hi first m _ _ (by omega), Sort.size_swp]
theorem keep_swap {A : Nat → Prop} {w wz : World} {p1 p2 : Addr} {u v : Value} (h : Keep A w ((wz.setCell p1 u).setCell p2 v)) (q : Nat) : Keep A w (((wz.drewN q).setCell p1 u).setCell p2 v) := ⟨h.os, h.tape, h.output, h.size, h.block⟩
set_option maxRecDepth 100000 in
set_option maxHeartbeats 8000000 in
theorem insg_any (h : Nums w base g cap D) (hab : a ≤ b) (hb : b ≤ D.size) (hn : D.size ≤ 1099511627776) :
    Calls Tryd.prog 75 #[.slice (some ⟨g, 0, none⟩) D.size cap, .int .i64 (a : Int), .int .i64 (b : Int)] w fun e w' => e = .returned (.tuple #[]) ∧ Nums w' base g cap (Sort.insertionSort ltN D a b) ∧ Keep (fun j => j = g) w w' := by
  generalize hR : Sort.insertionSort ltN D a b = R
  generalize hN : D.size = n at *
  have hR2 : Sort.insOuter ltN a b (a + 1) D = R := hR
  have HN := Lib.hid hN
  clear hN hR
  have HR2 := Lib.hid hR2
  clear hR2
  go_enter Tryd.func75, Tryd.ntmps75
  go_wp2_with (first | (at_builtin; refine wl_append rfl _ _ _ _ rfl _ _ rfl rfl ?_) | (at_make; refine wl_make rfl _ _ _ rfl _ _ rfl rfl ?_) | (at_mapUpdate; refine wl_mapUpdate rfl _ _ _ _ rfl _ _ _ rfl rfl rfl ?_) | (at_lookup; refine wl_lookup rfl _ _ _ _ rfl _ _ rfl rfl ?_) | (at_delete; refine wl_delete rfl _ _ _ _ rfl _ _ rfl rfl ?_) | (with_reducible refine wl_len rfl _ _ rfl _ rfl ?_) | (with_reducible refine wl_range rfl _ _ rfl _ rfl ?_) | (with_reducible refine wl_next rfl _ rfl _ rfl ?_) | (with_reducible refine wl_copy rfl _ _ _ _ rfl _ _ rfl rfl ?_) | (with_reducible refine wl_max rfl _ _ _ _ rfl _ _ rfl rfl ?_) | (with_reducible refine wl_min rfl _ _ _ _ rfl _ _ rfl rfl ?_))
  go_loopw [6] (fun iv wr => ∃ i E, iv = .int .i64 ((i : Nat) : Int) ∧ a < i ∧ i ≤ b + 1 ∧ Sort.insOuter ltN a b i E = R ∧ E.size = n ∧ Nums wr base g cap E ∧ Keep (fun j => j = g) w wr) (fun iv _ => b + 1 - (intOf iv).toNat)
  case atStart => exact ⟨a + 1, D, by go_num, by omega, by omega, HR2.out, HN.out, h, Keep.refl _ _⟩
  case round =>
    clear h
    obtain ⟨i, E, rfl, hi1, hi2, hE, hEs, hO, hk⟩ := hrel
    rw [Sort.insOuter] at hE
    rcases Nat.lt_or_ge i b with hlt | hge
    · rw [if_pos hlt] at hE
      have hiz : (i : Int) < (b : Int) := by omega
      generalize hT : Sort.insInner ltN a i E = T at hE
      have HE := Lib.hid hE
      have HT0 := Lib.hid hT
      have HES := Lib.hid hEs
      clear hE hT hEs
      go_wp2_with (first | (at_builtin; refine wl_append rfl _ _ _ _ rfl _ _ rfl rfl ?_) | (at_make; refine wl_make rfl _ _ _ rfl _ _ rfl rfl ?_) | (at_mapUpdate; refine wl_mapUpdate rfl _ _ _ _ rfl _ _ _ rfl rfl rfl ?_) | (at_lookup; refine wl_lookup rfl _ _ _ _ rfl _ _ rfl rfl ?_) | (at_delete; refine wl_delete rfl _ _ _ _ rfl _ _ rfl rfl ?_) | (with_reducible refine wl_len rfl _ _ rfl _ rfl ?_) | (with_reducible refine wl_range rfl _ _ rfl _ rfl ?_) | (with_reducible refine wl_next rfl _ rfl _ rfl ?_) | (with_reducible refine wl_copy rfl _ _ _ _ rfl _ _ rfl rfl ?_) | (with_reducible refine wl_max rfl _ _ _ _ rfl _ _ rfl rfl ?_) | (with_reducible refine wl_min rfl _ _ _ _ rfl _ _ rfl rfl ?_))
      go_loopw [7] (fun jv wr => ∃ j F, jv = .int .i64 ((j : Nat) : Int) ∧ a ≤ j ∧ j ≤ i ∧ Sort.insInner ltN a j F = T ∧ F.size = n ∧ Nums wr base g cap F ∧ Keep (fun j => j = g) w wr) (fun jv _ => (intOf jv).toNat)
      case atStart => exact ⟨i, E, rfl, by omega, Nat.le_refl _, HT0.out, HES.out, hO, hk⟩
      case round =>
        clear hO hk HT0 HES
        obtain ⟨j, F, rfl, hja, hji, hT, hFs, hO, hk⟩ := hrel
        generalize wr = wz at *
        rcases Nat.eq_or_lt_of_le hja with hj | hj
        · subst hj
          have hT : F = T := by
            rw [← hT]
            cases a with
            | zero => rw [Sort.insInner]
            | succ k => rw [Sort.insInner, if_neg (by simp)]
          subst hT
          have HFS := Lib.hid hFs
          clear hFs
          go_wp2_with (first | (at_builtin; refine wl_append rfl _ _ _ _ rfl _ _ rfl rfl ?_) | (at_make; refine wl_make rfl _ _ _ rfl _ _ rfl rfl ?_) | (at_mapUpdate; refine wl_mapUpdate rfl _ _ _ _ rfl _ _ _ rfl rfl rfl ?_) | (at_lookup; refine wl_lookup rfl _ _ _ _ rfl _ _ rfl rfl ?_) | (at_delete; refine wl_delete rfl _ _ _ _ rfl _ _ rfl rfl ?_) | (with_reducible refine wl_len rfl _ _ rfl _ rfl ?_) | (with_reducible refine wl_range rfl _ _ rfl _ rfl ?_) | (with_reducible refine wl_next rfl _ rfl _ rfl ?_) | (with_reducible refine wl_copy rfl _ _ _ _ rfl _ _ rfl rfl ?_) | (with_reducible refine wl_max rfl _ _ _ _ rfl _ _ rfl rfl ?_) | (with_reducible refine wl_min rfl _ _ _ _ rfl _ _ rfl rfl ?_))
          go_quiet (first | (go_at_call 81; exact Calls.quiet_of_same (less_same _ _ _)) | (go_at_call 81; exact quiet_on (less_same _ _ _)))
          go_wp2_with (first | (at_builtin; refine wl_append rfl _ _ _ _ rfl _ _ rfl rfl ?_) | (at_make; refine wl_make rfl _ _ _ rfl _ _ rfl rfl ?_) | (at_mapUpdate; refine wl_mapUpdate rfl _ _ _ _ rfl _ _ _ rfl rfl rfl ?_) | (at_lookup; refine wl_lookup rfl _ _ _ _ rfl _ _ rfl rfl ?_) | (at_delete; refine wl_delete rfl _ _ _ _ rfl _ _ rfl rfl ?_) | (with_reducible refine wl_len rfl _ _ rfl _ rfl ?_) | (with_reducible refine wl_range rfl _ _ rfl _ rfl ?_) | (with_reducible refine wl_next rfl _ rfl _ rfl ?_) | (with_reducible refine wl_copy rfl _ _ _ _ rfl _ _ rfl rfl ?_) | (with_reducible refine wl_max rfl _ _ _ _ rfl _ _ rfl rfl ?_) | (with_reducible refine wl_min rfl _ _ _ _ rfl _ _ rfl rfl ?_))
          go_roundw
          case rel => exact ⟨i + 1, F, by go_num, by omega, by omega, HE.out, HFS.out, hO, hk.drewN nq⟩
          case measure => simp [intOf]; omega
        · obtain ⟨j, rfl⟩ : ∃ k, j = k + 1 := ⟨j - 1, by omega⟩
          rw [Sort.insInner] at hT
          simp only [show (j + 1 > a) = True from eq_true hj, decide_true, Bool.true_and] at hT
          have c1 := (hO).cell (i := (j + 1)) (by omega)
          have c2 := (hO).cell (i := j) (by omega)
          have f1 := (hO).frozen (j + 1)
          have f2 := (hO).frozen j
          have hsw : Nums ((wz.setCell ⟨g, (j + 1), none⟩ (uv F[j]!)).setCell ⟨g, j, none⟩ (uv F[(j + 1)]!)) base g cap (Sort.swp F (j + 1) j) := ((hO).set (j + 1) F[j]!).set j F[(j + 1)]!
          have hkw : Keep (fun j => j = g) wz ((wz.setCell ⟨g, (j + 1), none⟩ (uv F[j]!)).setCell ⟨g, j, none⟩ (uv F[(j + 1)]!)) := ((Keep.refl (fun j => j = g) wz).setCell (p := ⟨g, (j + 1), none⟩) (fun _ => rfl) _).setCell (p := ⟨g, j, none⟩) (fun _ => rfl) _
          unfold uv at c1 c2 hsw hkw
          have hss := (Sort.size_swp F (j + 1) j).trans hFs
          have HT := Lib.hid hT
          have HSS := Lib.hid hss
          have HFS := Lib.hid hFs
          clear hT hss hFs
          generalize F[j + 1]! = x at *
          generalize F[j]! = y at *
          have HSW := Lib.hid hsw
          have HKW := Lib.hid (hk.trans' hkw)
          clear hsw hkw
          obtain ⟨k, hkj⟩ : ∃ k, k = j + 1 := ⟨_, rfl⟩
          rw [← hkj] at c1 f1 HSW HKW HT HSS hj hji ⊢
          have hjz : decide ((a : Int) < (k : Int)) = true := by simp; omega
          have hjn : decide (a < k) = true := by simp; omega
          have hj1 : (k : Int) - 1 = (j : Int) := by omega
          have hjlt : (k : Int) < (n : Int) := by omega
          have hjl : (j : Int) < (n : Int) := by omega
          have hwj : IntKind.i64.wrap (j : Int) = (j : Int) := by rw [IntKind.wrap_i64]; omega
          have hjw : IntKind.i64.wrap ((k : Int) - 1) = (j : Int) := by rw [hj1, IntKind.wrap_i64]; omega
          have hne : k ≠ j := by omega
          have haj : a ≤ j := by omega
          have hj2 : j ≤ i := by omega
          have HKJ := Lib.hid hkj
          clear hkj
          go_wp2_with (first | (at_builtin; refine wl_append rfl _ _ _ _ rfl _ _ rfl rfl ?_) | (at_make; refine wl_make rfl _ _ _ rfl _ _ rfl rfl ?_) | (at_mapUpdate; refine wl_mapUpdate rfl _ _ _ _ rfl _ _ _ rfl rfl rfl ?_) | (at_lookup; refine wl_lookup rfl _ _ _ _ rfl _ _ rfl rfl ?_) | (at_delete; refine wl_delete rfl _ _ _ _ rfl _ _ rfl rfl ?_) | (with_reducible refine wl_len rfl _ _ rfl _ rfl ?_) | (with_reducible refine wl_range rfl _ _ rfl _ rfl ?_) | (with_reducible refine wl_next rfl _ rfl _ rfl ?_) | (with_reducible refine wl_copy rfl _ _ _ _ rfl _ _ rfl rfl ?_) | (with_reducible refine wl_max rfl _ _ _ _ rfl _ _ rfl rfl ?_) | (with_reducible refine wl_min rfl _ _ _ _ rfl _ _ rfl rfl ?_))
          go_quiet (first | (go_at_call 81; exact Calls.quiet_of_same (less_same _ _ _)) | (go_at_call 81; exact quiet_on (less_same _ _ _)))
          cases hl : ltN x y with
          | false =>
            have hT := HT.out
            rw [hl] at hT
            simp only [Bool.false_eq_true, if_false] at hT
            subst hT
            go_wp2_with (first | (at_builtin; refine wl_append rfl _ _ _ _ rfl _ _ rfl rfl ?_) | (at_make; refine wl_make rfl _ _ _ rfl _ _ rfl rfl ?_) | (at_mapUpdate; refine wl_mapUpdate rfl _ _ _ _ rfl _ _ _ rfl rfl rfl ?_) | (at_lookup; refine wl_lookup rfl _ _ _ _ rfl _ _ rfl rfl ?_) | (at_delete; refine wl_delete rfl _ _ _ _ rfl _ _ rfl rfl ?_) | (with_reducible refine wl_len rfl _ _ rfl _ rfl ?_) | (with_reducible refine wl_range rfl _ _ rfl _ rfl ?_) | (with_reducible refine wl_next rfl _ rfl _ rfl ?_) | (with_reducible refine wl_copy rfl _ _ _ _ rfl _ _ rfl rfl ?_) | (with_reducible refine wl_max rfl _ _ _ _ rfl _ _ rfl rfl ?_) | (with_reducible refine wl_min rfl _ _ _ _ rfl _ _ rfl rfl ?_))
            go_roundw
            case rel => exact ⟨i + 1, F, by go_num, by omega, by omega, HE.out, HFS.out, hO, hk.drewN nq⟩
            case measure => simp [intOf]; omega
          | true =>
            have hT := HT.out
            rw [hl, if_pos rfl] at hT
            have HT2 := Lib.hid hT
            clear hT
            go_wp2_with (first | (at_builtin; refine wl_append rfl _ _ _ _ rfl _ _ rfl rfl ?_) | (at_make; refine wl_make rfl _ _ _ rfl _ _ rfl rfl ?_) | (at_mapUpdate; refine wl_mapUpdate rfl _ _ _ _ rfl _ _ _ rfl rfl rfl ?_) | (at_lookup; refine wl_lookup rfl _ _ _ _ rfl _ _ rfl rfl ?_) | (at_delete; refine wl_delete rfl _ _ _ _ rfl _ _ rfl rfl ?_) | (with_reducible refine wl_len rfl _ _ rfl _ rfl ?_) | (with_reducible refine wl_range rfl _ _ rfl _ rfl ?_) | (with_reducible refine wl_next rfl _ rfl _ rfl ?_) | (with_reducible refine wl_copy rfl _ _ _ _ rfl _ _ rfl rfl ?_) | (with_reducible refine wl_max rfl _ _ _ _ rfl _ _ rfl rfl ?_) | (with_reducible refine wl_min rfl _ _ _ _ rfl _ _ rfl rfl ?_))
            go_region
            go_wp2_with (first | (at_builtin; refine wl_append rfl _ _ _ _ rfl _ _ rfl rfl ?_) | (at_make; refine wl_make rfl _ _ _ rfl _ _ rfl rfl ?_) | (at_mapUpdate; refine wl_mapUpdate rfl _ _ _ _ rfl _ _ _ rfl rfl rfl ?_) | (at_lookup; refine wl_lookup rfl _ _ _ _ rfl _ _ rfl rfl ?_) | (at_delete; refine wl_delete rfl _ _ _ _ rfl _ _ rfl rfl ?_) | (with_reducible refine wl_len rfl _ _ rfl _ rfl ?_) | (with_reducible refine wl_range rfl _ _ rfl _ rfl ?_) | (with_reducible refine wl_next rfl _ rfl _ rfl ?_) | (with_reducible refine wl_copy rfl _ _ _ _ rfl _ _ rfl rfl ?_) | (with_reducible refine wl_max rfl _ _ _ _ rfl _ _ rfl rfl ?_) | (with_reducible refine wl_min rfl _ _ _ _ rfl _ _ rfl rfl ?_))
            go_roundw
            case rel => exact ⟨j, _, by go_num, haj, hj2, HT2.out, HSS.out, HSW.out, keep_swap HKW.out _⟩
            case measure => simp [intOf]; omega
    · rw [if_neg (by omega)] at hE
      subst hE
      have hiz : (b : Int) ≤ (i : Int) := by omega
      go_wp2_with (first | (at_builtin; refine wl_append rfl _ _ _ _ rfl _ _ rfl rfl ?_) | (at_make; refine wl_make rfl _ _ _ rfl _ _ rfl rfl ?_) | (at_mapUpdate; refine wl_mapUpdate rfl _ _ _ _ rfl _ _ _ rfl rfl rfl ?_) | (at_lookup; refine wl_lookup rfl _ _ _ _ rfl _ _ rfl rfl ?_) | (at_delete; refine wl_delete rfl _ _ _ _ rfl _ _ rfl rfl ?_) | (with_reducible refine wl_len rfl _ _ rfl _ rfl ?_) | (with_reducible refine wl_range rfl _ _ rfl _ rfl ?_) | (with_reducible refine wl_next rfl _ rfl _ rfl ?_) | (with_reducible refine wl_copy rfl _ _ _ _ rfl _ _ rfl rfl ?_) | (with_reducible refine wl_max rfl _ _ _ _ rfl _ _ rfl rfl ?_) | (with_reducible refine wl_min rfl _ _ _ _ rfl _ _ rfl rfl ?_))
      go_end0
      exact ⟨rfl, hO, hk⟩
/-- one way through a heap: down from a root -/
theorem sift_any {hi first root : Nat} (h : Nums w base g cap D) (hr : root ≤ hi) (hb : first + hi ≤ D.size) (hn : D.size ≤ 1099511627776) :
    Calls Tryd.prog 88 #[.slice (some ⟨g, 0, none⟩) D.size cap, .int .i64 (root : Int), .int .i64 (hi : Int), .int .i64 (first : Int)] w fun e w' => e = .returned (.tuple #[]) ∧ Nums w' base g cap (Sort.siftDown ltN hi first root D) ∧ Keep (fun j => j = g) w w' := by
  generalize hR : Sort.siftDown ltN hi first root D = R
  generalize hN : D.size = n at *
  have HN := Lib.hid hN
  have HR := Lib.hid hR
  clear hN hR
  go_enter Tryd.func88, Tryd.ntmps88
  go_wp2_with (first | (at_builtin; refine wl_append rfl _ _ _ _ rfl _ _ rfl rfl ?_) | (at_make; refine wl_make rfl _ _ _ rfl _ _ rfl rfl ?_) | (at_mapUpdate; refine wl_mapUpdate rfl _ _ _ _ rfl _ _ _ rfl rfl rfl ?_) | (at_lookup; refine wl_lookup rfl _ _ _ _ rfl _ _ rfl rfl ?_) | (at_delete; refine wl_delete rfl _ _ _ _ rfl _ _ rfl rfl ?_) | (with_reducible refine wl_len rfl _ _ rfl _ rfl ?_) | (with_reducible refine wl_range rfl _ _ rfl _ rfl ?_) | (with_reducible refine wl_next rfl _ rfl _ rfl ?_) | (with_reducible refine wl_copy rfl _ _ _ _ rfl _ _ rfl rfl ?_) | (with_reducible refine wl_max rfl _ _ _ _ rfl _ _ rfl rfl ?_) | (with_reducible refine wl_min rfl _ _ _ _ rfl _ _ rfl rfl ?_))
  go_loopw [8, 9] (fun rv _ wr => ∃ (r : Nat) (E : Array Nat), rv = .int .i64 (r : Int) ∧ r ≤ hi ∧ Sort.siftDown ltN hi first r E = R ∧ E.size = n ∧ Nums wr base g cap E ∧ Keep (fun j => j = g) w wr) (fun rv _ _ => hi - (intOf rv).toNat)
  case atStart => exact ⟨root, D, rfl, hr, HR.out, HN.out, h, Keep.refl _ _⟩
  case round =>
    clear h HR HN
    obtain ⟨r, E, rfl, hrh, hE, hEs, hO, hk⟩ := hrel
    generalize wr = wz at *
    rw [Sort.siftDown] at hE
    obtain ⟨c, hc⟩ : ∃ c, c = 2 * r + 1 := ⟨_, rfl⟩
    have e1 : 2 * (r : Int) + 1 = (c : Int) := by omega
    rw [show 2 * r + 2 = c + 1 by omega, ← hc] at hE
    rcases Nat.lt_or_ge c hi with hlt | hge
    · have hz : ¬ (hi : Int) ≤ (c : Int) := by omega
      rw [dif_neg (by omega)] at hE
      obtain ⟨P, hP⟩ : ∃ P, P = first + c := ⟨_, rfl⟩
      obtain ⟨S, hS⟩ : ∃ P, P = first + r := ⟨_, rfl⟩
      obtain ⟨d, hd⟩ : ∃ P, P = c + 1 := ⟨_, rfl⟩
      obtain ⟨Q, hQ⟩ : ∃ Q, Q = P + 1 := ⟨_, rfl⟩
      rw [show first + (c + 1) = Q by omega, show first + c + 1 = Q by omega, ← hP, ← hS, ← hd] at hE
      have e2 : (first : Int) + (c : Int) = (P : Int) := by omega
      have e3 : (P : Int) + 1 = (Q : Int) := by omega
      have e4 : (c : Int) + 1 = (d : Int) := by omega
      have e5 : (first : Int) + (d : Int) = (Q : Int) := by omega
      have e6 : (first : Int) + (r : Int) = (S : Int) := by omega
      have hPn : P < n := by omega
      have hSn : S < n := by omega
      have hSP : S ≠ P := by omega
      have hSQ : S ≠ Q := by omega
      have w1 : IntKind.i64.wrap (P : Int) = (P : Int) := by rw [IntKind.wrap_i64]; omega
      have w2 : IntKind.i64.wrap (Q : Int) = (Q : Int) := by rw [IntKind.wrap_i64]; omega
      have w3 : IntKind.i64.wrap (S : Int) = (S : Int) := by rw [IntKind.wrap_i64]; omega
      have w4 : IntKind.i64.wrap (d : Int) = (d : Int) := by rw [IntKind.wrap_i64]; omega
      have b1 : (P : Int) < (n : Int) := by omega
      have b2 : (S : Int) < (n : Int) := by omega
      have hrc : r < c := by omega
      have hcd : c < d := by omega
      have hdh : d ≤ hi := by omega
      have HC := Lib.hid hc
      have cP := hO.cell (i := P) (by omega)
      have cS := hO.cell (i := S) (by omega)
      have fP := hO.frozen P
      have fS := hO.frozen S
      have HSP := Lib.hid (show Nums ((wz.setCell ⟨g, S, none⟩ (uv E[P]!)).setCell ⟨g, P, none⟩ (uv E[S]!)) base g cap (Sort.swp E S P) from (hO.set S E[P]!).set P E[S]!)
      have HKP := Lib.hid (show Keep (fun j => j = g) w ((wz.setCell ⟨g, S, none⟩ (uv E[P]!)).setCell ⟨g, P, none⟩ (uv E[S]!)) from (hk.setCell (p := ⟨g, S, none⟩) (fun _ => rfl) _).setCell (p := ⟨g, P, none⟩) (fun _ => rfl) _)
      have HZP := Lib.hid ((Sort.size_swp E S P).trans hEs)
      by_cases hdi : d < hi
      · have hQn : Q < n := by omega
        have b3 : (Q : Int) < (n : Int) := by omega
        have cQ := hO.cell (i := Q) (by omega)
        have fQ := hO.frozen Q
        have HSQ := Lib.hid (show Nums ((wz.setCell ⟨g, S, none⟩ (uv E[Q]!)).setCell ⟨g, Q, none⟩ (uv E[S]!)) base g cap (Sort.swp E S Q) from (hO.set S E[Q]!).set Q E[S]!)
        have HKQ := Lib.hid (show Keep (fun j => j = g) w ((wz.setCell ⟨g, S, none⟩ (uv E[Q]!)).setCell ⟨g, Q, none⟩ (uv E[S]!)) from (hk.setCell (p := ⟨g, S, none⟩) (fun _ => rfl) _).setCell (p := ⟨g, Q, none⟩) (fun _ => rfl) _)
        have HZQ := Lib.hid ((Sort.size_swp E S Q).trans hEs)
        have HES := Lib.hid hEs
        clear hc hP hS hd hQ hEs
        unfold uv at cP cS cQ
        simp only [decide_eq_true hdi, Bool.true_and] at hE
        generalize E[P]! = x at *
        generalize E[Q]! = y at *
        generalize E[S]! = z at *
        have HE := Lib.hid hE
        clear hE
        have hdz : (d : Int) < (hi : Int) := by omega
        have hdz2 : decide ((d : Int) < (hi : Int)) = true := by simpa using hdi
        have hdz3 : decide (d < hi) = true := by simpa using hdi
        go_wp2_with (first | (at_builtin; refine wl_append rfl _ _ _ _ rfl _ _ rfl rfl ?_) | (at_make; refine wl_make rfl _ _ _ rfl _ _ rfl rfl ?_) | (at_mapUpdate; refine wl_mapUpdate rfl _ _ _ _ rfl _ _ _ rfl rfl rfl ?_) | (at_lookup; refine wl_lookup rfl _ _ _ _ rfl _ _ rfl rfl ?_) | (at_delete; refine wl_delete rfl _ _ _ _ rfl _ _ rfl rfl ?_) | (with_reducible refine wl_len rfl _ _ rfl _ rfl ?_) | (with_reducible refine wl_range rfl _ _ rfl _ rfl ?_) | (with_reducible refine wl_next rfl _ rfl _ rfl ?_) | (with_reducible refine wl_copy rfl _ _ _ _ rfl _ _ rfl rfl ?_) | (with_reducible refine wl_max rfl _ _ _ _ rfl _ _ rfl rfl ?_) | (with_reducible refine wl_min rfl _ _ _ _ rfl _ _ rfl rfl ?_))
        go_quiet (first | (go_at_call 81; exact Calls.quiet_of_same (less_same _ _ _)) | (go_at_call 81; exact quiet_on (less_same _ _ _)))
        cases hl : ltN x y with
        | true =>
          have hE := HE.out
          rw [hl, if_pos rfl, dif_pos hdi] at hE
          have HE := Lib.hid hE
          clear hE
          go_wp2_with (first | (at_builtin; refine wl_append rfl _ _ _ _ rfl _ _ rfl rfl ?_) | (at_make; refine wl_make rfl _ _ _ rfl _ _ rfl rfl ?_) | (at_mapUpdate; refine wl_mapUpdate rfl _ _ _ _ rfl _ _ _ rfl rfl rfl ?_) | (at_lookup; refine wl_lookup rfl _ _ _ _ rfl _ _ rfl rfl ?_) | (at_delete; refine wl_delete rfl _ _ _ _ rfl _ _ rfl rfl ?_) | (with_reducible refine wl_len rfl _ _ rfl _ rfl ?_) | (with_reducible refine wl_range rfl _ _ rfl _ rfl ?_) | (with_reducible refine wl_next rfl _ rfl _ rfl ?_) | (with_reducible refine wl_copy rfl _ _ _ _ rfl _ _ rfl rfl ?_) | (with_reducible refine wl_max rfl _ _ _ _ rfl _ _ rfl rfl ?_) | (with_reducible refine wl_min rfl _ _ _ _ rfl _ _ rfl rfl ?_))
          go_quiet (first | (go_at_call 81; exact Calls.quiet_of_same (less_same _ _ _)) | (go_at_call 81; exact quiet_on (less_same _ _ _)))
          cases hl2 : ltN z y with
          | false =>
            have hE := HE.out
            rw [hl2, if_pos (by rfl)] at hE
            subst hE
            go_wp2_with (first | (at_builtin; refine wl_append rfl _ _ _ _ rfl _ _ rfl rfl ?_) | (at_make; refine wl_make rfl _ _ _ rfl _ _ rfl rfl ?_) | (at_mapUpdate; refine wl_mapUpdate rfl _ _ _ _ rfl _ _ _ rfl rfl rfl ?_) | (at_lookup; refine wl_lookup rfl _ _ _ _ rfl _ _ rfl rfl ?_) | (at_delete; refine wl_delete rfl _ _ _ _ rfl _ _ rfl rfl ?_) | (with_reducible refine wl_len rfl _ _ rfl _ rfl ?_) | (with_reducible refine wl_range rfl _ _ rfl _ rfl ?_) | (with_reducible refine wl_next rfl _ rfl _ rfl ?_) | (with_reducible refine wl_copy rfl _ _ _ _ rfl _ _ rfl rfl ?_) | (with_reducible refine wl_max rfl _ _ _ _ rfl _ _ rfl rfl ?_) | (with_reducible refine wl_min rfl _ _ _ _ rfl _ _ rfl rfl ?_))
            refine bodyPost_ret (results_none rfl _ _ _) rfl ?_
            exact ⟨rfl, hO, (hk.drewN _).drewN _⟩
          | true =>
            have hE := HE.out
            rw [hl2, if_neg (by simp)] at hE
            have HE2 := Lib.hid hE
            clear hE
            go_wp2_with (first | (at_builtin; refine wl_append rfl _ _ _ _ rfl _ _ rfl rfl ?_) | (at_make; refine wl_make rfl _ _ _ rfl _ _ rfl rfl ?_) | (at_mapUpdate; refine wl_mapUpdate rfl _ _ _ _ rfl _ _ _ rfl rfl rfl ?_) | (at_lookup; refine wl_lookup rfl _ _ _ _ rfl _ _ rfl rfl ?_) | (at_delete; refine wl_delete rfl _ _ _ _ rfl _ _ rfl rfl ?_) | (with_reducible refine wl_len rfl _ _ rfl _ rfl ?_) | (with_reducible refine wl_range rfl _ _ rfl _ rfl ?_) | (with_reducible refine wl_next rfl _ rfl _ rfl ?_) | (with_reducible refine wl_copy rfl _ _ _ _ rfl _ _ rfl rfl ?_) | (with_reducible refine wl_max rfl _ _ _ _ rfl _ _ rfl rfl ?_) | (with_reducible refine wl_min rfl _ _ _ _ rfl _ _ rfl rfl ?_))
            go_region
            go_wp2_with (first | (at_builtin; refine wl_append rfl _ _ _ _ rfl _ _ rfl rfl ?_) | (at_make; refine wl_make rfl _ _ _ rfl _ _ rfl rfl ?_) | (at_mapUpdate; refine wl_mapUpdate rfl _ _ _ _ rfl _ _ _ rfl rfl rfl ?_) | (at_lookup; refine wl_lookup rfl _ _ _ _ rfl _ _ rfl rfl ?_) | (at_delete; refine wl_delete rfl _ _ _ _ rfl _ _ rfl rfl ?_) | (with_reducible refine wl_len rfl _ _ rfl _ rfl ?_) | (with_reducible refine wl_range rfl _ _ rfl _ rfl ?_) | (with_reducible refine wl_next rfl _ rfl _ rfl ?_) | (with_reducible refine wl_copy rfl _ _ _ _ rfl _ _ rfl rfl ?_) | (with_reducible refine wl_max rfl _ _ _ _ rfl _ _ rfl rfl ?_) | (with_reducible refine wl_min rfl _ _ _ _ rfl _ _ rfl rfl ?_))
            go_roundw
            case rel => exact ⟨d, _, rfl, by omega, HE2.out, (HZQ).out, (HSQ).out, keep_swap (HKQ).out _⟩
            case measure => simp [intOf]; omega
        | false =>
          have hE := HE.out
          rw [hl, if_neg Bool.false_ne_true] at hE
          have HE := Lib.hid hE
          clear hE
          go_wp2_with (first | (at_builtin; refine wl_append rfl _ _ _ _ rfl _ _ rfl rfl ?_) | (at_make; refine wl_make rfl _ _ _ rfl _ _ rfl rfl ?_) | (at_mapUpdate; refine wl_mapUpdate rfl _ _ _ _ rfl _ _ _ rfl rfl rfl ?_) | (at_lookup; refine wl_lookup rfl _ _ _ _ rfl _ _ rfl rfl ?_) | (at_delete; refine wl_delete rfl _ _ _ _ rfl _ _ rfl rfl ?_) | (with_reducible refine wl_len rfl _ _ rfl _ rfl ?_) | (with_reducible refine wl_range rfl _ _ rfl _ rfl ?_) | (with_reducible refine wl_next rfl _ rfl _ rfl ?_) | (with_reducible refine wl_copy rfl _ _ _ _ rfl _ _ rfl rfl ?_) | (with_reducible refine wl_max rfl _ _ _ _ rfl _ _ rfl rfl ?_) | (with_reducible refine wl_min rfl _ _ _ _ rfl _ _ rfl rfl ?_))
          go_quiet (first | (go_at_call 81; exact Calls.quiet_of_same (less_same _ _ _)) | (go_at_call 81; exact quiet_on (less_same _ _ _)))
          cases hl2 : ltN z x with
          | false =>
            have hE := HE.out
            rw [hl2, if_pos (by rfl)] at hE
            subst hE
            go_wp2_with (first | (at_builtin; refine wl_append rfl _ _ _ _ rfl _ _ rfl rfl ?_) | (at_make; refine wl_make rfl _ _ _ rfl _ _ rfl rfl ?_) | (at_mapUpdate; refine wl_mapUpdate rfl _ _ _ _ rfl _ _ _ rfl rfl rfl ?_) | (at_lookup; refine wl_lookup rfl _ _ _ _ rfl _ _ rfl rfl ?_) | (at_delete; refine wl_delete rfl _ _ _ _ rfl _ _ rfl rfl ?_) | (with_reducible refine wl_len rfl _ _ rfl _ rfl ?_) | (with_reducible refine wl_range rfl _ _ rfl _ rfl ?_) | (with_reducible refine wl_next rfl _ rfl _ rfl ?_) | (with_reducible refine wl_copy rfl _ _ _ _ rfl _ _ rfl rfl ?_) | (with_reducible refine wl_max rfl _ _ _ _ rfl _ _ rfl rfl ?_) | (with_reducible refine wl_min rfl _ _ _ _ rfl _ _ rfl rfl ?_))
            refine bodyPost_ret (results_none rfl _ _ _) rfl ?_
            exact ⟨rfl, hO, (hk.drewN _).drewN _⟩
          | true =>
            have hE := HE.out
            rw [hl2, if_neg (by simp)] at hE
            have HE2 := Lib.hid hE
            clear hE
            go_wp2_with (first | (at_builtin; refine wl_append rfl _ _ _ _ rfl _ _ rfl rfl ?_) | (at_make; refine wl_make rfl _ _ _ rfl _ _ rfl rfl ?_) | (at_mapUpdate; refine wl_mapUpdate rfl _ _ _ _ rfl _ _ _ rfl rfl rfl ?_) | (at_lookup; refine wl_lookup rfl _ _ _ _ rfl _ _ rfl rfl ?_) | (at_delete; refine wl_delete rfl _ _ _ _ rfl _ _ rfl rfl ?_) | (with_reducible refine wl_len rfl _ _ rfl _ rfl ?_) | (with_reducible refine wl_range rfl _ _ rfl _ rfl ?_) | (with_reducible refine wl_next rfl _ rfl _ rfl ?_) | (with_reducible refine wl_copy rfl _ _ _ _ rfl _ _ rfl rfl ?_) | (with_reducible refine wl_max rfl _ _ _ _ rfl _ _ rfl rfl ?_) | (with_reducible refine wl_min rfl _ _ _ _ rfl _ _ rfl rfl ?_))
            go_region
            go_wp2_with (first | (at_builtin; refine wl_append rfl _ _ _ _ rfl _ _ rfl rfl ?_) | (at_make; refine wl_make rfl _ _ _ rfl _ _ rfl rfl ?_) | (at_mapUpdate; refine wl_mapUpdate rfl _ _ _ _ rfl _ _ _ rfl rfl rfl ?_) | (at_lookup; refine wl_lookup rfl _ _ _ _ rfl _ _ rfl rfl ?_) | (at_delete; refine wl_delete rfl _ _ _ _ rfl _ _ rfl rfl ?_) | (with_reducible refine wl_len rfl _ _ rfl _ rfl ?_) | (with_reducible refine wl_range rfl _ _ rfl _ rfl ?_) | (with_reducible refine wl_next rfl _ rfl _ rfl ?_) | (with_reducible refine wl_copy rfl _ _ _ _ rfl _ _ rfl rfl ?_) | (with_reducible refine wl_max rfl _ _ _ _ rfl _ _ rfl rfl ?_) | (with_reducible refine wl_min rfl _ _ _ _ rfl _ _ rfl rfl ?_))
            go_roundw
            case rel => exact ⟨c, _, rfl, by omega, HE2.out, (HZP).out, (HSP).out, keep_swap (HKP).out _⟩
            case measure => simp [intOf]; omega
      · have HES := Lib.hid hEs
        clear hc hP hS hd hQ hEs
        unfold uv at cP cS
        simp only [decide_eq_false hdi, Bool.false_and, Bool.false_eq_true, if_false] at hE
        generalize E[P]! = x at *
        generalize E[S]! = z at *
        have HE := Lib.hid hE
        clear hE
        have hdz : ¬ (d : Int) < (hi : Int) := by omega
        have hdz2 : decide ((d : Int) < (hi : Int)) = false := by simpa using hdi
        have hdz3 : decide (d < hi) = false := by simpa using hdi
        go_wp2_with (first | (at_builtin; refine wl_append rfl _ _ _ _ rfl _ _ rfl rfl ?_) | (at_make; refine wl_make rfl _ _ _ rfl _ _ rfl rfl ?_) | (at_mapUpdate; refine wl_mapUpdate rfl _ _ _ _ rfl _ _ _ rfl rfl rfl ?_) | (at_lookup; refine wl_lookup rfl _ _ _ _ rfl _ _ rfl rfl ?_) | (at_delete; refine wl_delete rfl _ _ _ _ rfl _ _ rfl rfl ?_) | (with_reducible refine wl_len rfl _ _ rfl _ rfl ?_) | (with_reducible refine wl_range rfl _ _ rfl _ rfl ?_) | (with_reducible refine wl_next rfl _ rfl _ rfl ?_) | (with_reducible refine wl_copy rfl _ _ _ _ rfl _ _ rfl rfl ?_) | (with_reducible refine wl_max rfl _ _ _ _ rfl _ _ rfl rfl ?_) | (with_reducible refine wl_min rfl _ _ _ _ rfl _ _ rfl rfl ?_))
        go_quiet (first | (go_at_call 81; exact Calls.quiet_of_same (less_same _ _ _)) | (go_at_call 81; exact quiet_on (less_same _ _ _)))
        go_wp2_with (first | (at_builtin; refine wl_append rfl _ _ _ _ rfl _ _ rfl rfl ?_) | (at_make; refine wl_make rfl _ _ _ rfl _ _ rfl rfl ?_) | (at_mapUpdate; refine wl_mapUpdate rfl _ _ _ _ rfl _ _ _ rfl rfl rfl ?_) | (at_lookup; refine wl_lookup rfl _ _ _ _ rfl _ _ rfl rfl ?_) | (at_delete; refine wl_delete rfl _ _ _ _ rfl _ _ rfl rfl ?_) | (with_reducible refine wl_len rfl _ _ rfl _ rfl ?_) | (with_reducible refine wl_range rfl _ _ rfl _ rfl ?_) | (with_reducible refine wl_next rfl _ rfl _ rfl ?_) | (with_reducible refine wl_copy rfl _ _ _ _ rfl _ _ rfl rfl ?_) | (with_reducible refine wl_max rfl _ _ _ _ rfl _ _ rfl rfl ?_) | (with_reducible refine wl_min rfl _ _ _ _ rfl _ _ rfl rfl ?_))
        go_quiet (first | (go_at_call 81; exact Calls.quiet_of_same (less_same _ _ _)) | (go_at_call 81; exact quiet_on (less_same _ _ _)))
        cases hl2 : ltN z x with
        | false =>
          have hE := HE.out
          rw [hl2, if_pos (by rfl)] at hE
          subst hE
          go_wp2_with (first | (at_builtin; refine wl_append rfl _ _ _ _ rfl _ _ rfl rfl ?_) | (at_make; refine wl_make rfl _ _ _ rfl _ _ rfl rfl ?_) | (at_mapUpdate; refine wl_mapUpdate rfl _ _ _ _ rfl _ _ _ rfl rfl rfl ?_) | (at_lookup; refine wl_lookup rfl _ _ _ _ rfl _ _ rfl rfl ?_) | (at_delete; refine wl_delete rfl _ _ _ _ rfl _ _ rfl rfl ?_) | (with_reducible refine wl_len rfl _ _ rfl _ rfl ?_) | (with_reducible refine wl_range rfl _ _ rfl _ rfl ?_) | (with_reducible refine wl_next rfl _ rfl _ rfl ?_) | (with_reducible refine wl_copy rfl _ _ _ _ rfl _ _ rfl rfl ?_) | (with_reducible refine wl_max rfl _ _ _ _ rfl _ _ rfl rfl ?_) | (with_reducible refine wl_min rfl _ _ _ _ rfl _ _ rfl rfl ?_))
          refine bodyPost_ret (results_none rfl _ _ _) rfl ?_
          exact ⟨rfl, hO, (hk.drewN _).drewN _⟩
        | true =>
          have hE := HE.out
          rw [hl2, if_neg (by simp)] at hE
          have HE2 := Lib.hid hE
          clear hE
          go_wp2_with (first | (at_builtin; refine wl_append rfl _ _ _ _ rfl _ _ rfl rfl ?_) | (at_make; refine wl_make rfl _ _ _ rfl _ _ rfl rfl ?_) | (at_mapUpdate; refine wl_mapUpdate rfl _ _ _ _ rfl _ _ _ rfl rfl rfl ?_) | (at_lookup; refine wl_lookup rfl _ _ _ _ rfl _ _ rfl rfl ?_) | (at_delete; refine wl_delete rfl _ _ _ _ rfl _ _ rfl rfl ?_) | (with_reducible refine wl_len rfl _ _ rfl _ rfl ?_) | (with_reducible refine wl_range rfl _ _ rfl _ rfl ?_) | (with_reducible refine wl_next rfl _ rfl _ rfl ?_) | (with_reducible refine wl_copy rfl _ _ _ _ rfl _ _ rfl rfl ?_) | (with_reducible refine wl_max rfl _ _ _ _ rfl _ _ rfl rfl ?_) | (with_reducible refine wl_min rfl _ _ _ _ rfl _ _ rfl rfl ?_))
          go_region
          go_wp2_with (first | (at_builtin; refine wl_append rfl _ _ _ _ rfl _ _ rfl rfl ?_) | (at_make; refine wl_make rfl _ _ _ rfl _ _ rfl rfl ?_) | (at_mapUpdate; refine wl_mapUpdate rfl _ _ _ _ rfl _ _ _ rfl rfl rfl ?_) | (at_lookup; refine wl_lookup rfl _ _ _ _ rfl _ _ rfl rfl ?_) | (at_delete; refine wl_delete rfl _ _ _ _ rfl _ _ rfl rfl ?_) | (with_reducible refine wl_len rfl _ _ rfl _ rfl ?_) | (with_reducible refine wl_range rfl _ _ rfl _ rfl ?_) | (with_reducible refine wl_next rfl _ rfl _ rfl ?_) | (with_reducible refine wl_copy rfl _ _ _ _ rfl _ _ rfl rfl ?_) | (with_reducible refine wl_max rfl _ _ _ _ rfl _ _ rfl rfl ?_) | (with_reducible refine wl_min rfl _ _ _ _ rfl _ _ rfl rfl ?_))
          go_roundw
          case rel => exact ⟨c, _, rfl, by omega, HE2.out, (HZP).out, (HSP).out, keep_swap (HKP).out _⟩
          case measure => simp [intOf]; omega
    · rw [dif_pos hge] at hE
      subst hE
      clear hc
      have hz : (hi : Int) ≤ (c : Int) := by omega
      go_wp2_with (first | (at_builtin; refine wl_append rfl _ _ _ _ rfl _ _ rfl rfl ?_) | (at_make; refine wl_make rfl _ _ _ rfl _ _ rfl rfl ?_) | (at_mapUpdate; refine wl_mapUpdate rfl _ _ _ _ rfl _ _ _ rfl rfl rfl ?_) | (at_lookup; refine wl_lookup rfl _ _ _ _ rfl _ _ rfl rfl ?_) | (at_delete; refine wl_delete rfl _ _ _ _ rfl _ _ rfl rfl ?_) | (with_reducible refine wl_len rfl _ _ rfl _ rfl ?_) | (with_reducible refine wl_range rfl _ _ rfl _ rfl ?_) | (with_reducible refine wl_next rfl _ rfl _ rfl ?_) | (with_reducible refine wl_copy rfl _ _ _ _ rfl _ _ rfl rfl ?_) | (with_reducible refine wl_max rfl _ _ _ _ rfl _ _ rfl rfl ?_) | (with_reducible refine wl_min rfl _ _ _ _ rfl _ _ rfl rfl ?_))
      go_end0
      exact ⟨rfl, hO, hk⟩
set_option maxRecDepth 100000 in
set_option maxHeartbeats 8000000 in
theorem heap_any (h : Nums w base g cap D) (hab : a ≤ b) (hb : b ≤ D.size) (hn : D.size ≤ 1099511627776) :
    Calls Tryd.prog 76 #[.slice (some ⟨g, 0, none⟩) D.size cap, .int .i64 (a : Int), .int .i64 (b : Int)] w fun e w' => e = .returned (.tuple #[]) ∧ Nums w' base g cap (Sort.heapSort ltN D a b) ∧ Keep (fun j => j = g) w w' := by
  generalize hR : Sort.heapSort ltN D a b = R
  unfold Sort.heapSort at hR
  generalize hN : D.size = n at *
  have HN := Lib.hid hN
  obtain ⟨L, hL⟩ : ∃ L, L = b - a := ⟨_, rfl⟩
  rw [← hL] at hR
  have e1 : (b : Int) - (a : Int) = (L : Int) := by omega
  have hLb : a + L ≤ b := by omega
  have hLn : L ≤ 1099511627776 := by omega
  have HR := Lib.hid hR
  clear hN hR hL
  have hsift := fun (W : World) (E : Array Nat) (h : Nums W base g cap E) (hE : E.size = n) (root hi : Nat) (hr : root ≤ hi) (hb : a + hi ≤ n) => sift_any (first := a) (hi := hi) (root := root) h hr (by rw [hE]; exact hb) (by rw [hE]; exact hn)
  have HSI := Lib.hid hsift
  have HO0 := Lib.hid h
  clear hsift h
  obtain ⟨K, hK⟩ : ∃ K, K = (L - 1) / 2 + 1 := ⟨_, rfl⟩
  have e2 : ((L : Int) - 1).tdiv 2 = (K : Int) - 1 := by
    rcases Nat.eq_zero_or_pos L with e | e
    · subst e; subst hK; rfl
    · rw [Int.tdiv_eq_ediv_of_nonneg (by omega)]; omega
  have hKL : K ≤ L + 1 := by omega
  rw [← hK] at HR
  have HKK := Lib.hid hK
  clear hK
  go_enter Tryd.func76, Tryd.ntmps76
  generalize hX : Sort.heapBuild ltN L a K D = X at *
  have HX := Lib.hid hX
  clear hX
  go_wp2_with (first | (at_builtin; refine wl_append rfl _ _ _ _ rfl _ _ rfl rfl ?_) | (at_make; refine wl_make rfl _ _ _ rfl _ _ rfl rfl ?_) | (at_mapUpdate; refine wl_mapUpdate rfl _ _ _ _ rfl _ _ _ rfl rfl rfl ?_) | (at_lookup; refine wl_lookup rfl _ _ _ _ rfl _ _ rfl rfl ?_) | (at_delete; refine wl_delete rfl _ _ _ _ rfl _ _ rfl rfl ?_) | (with_reducible refine wl_len rfl _ _ rfl _ rfl ?_) | (with_reducible refine wl_range rfl _ _ rfl _ rfl ?_) | (with_reducible refine wl_next rfl _ rfl _ rfl ?_) | (with_reducible refine wl_copy rfl _ _ _ _ rfl _ _ rfl rfl ?_) | (with_reducible refine wl_max rfl _ _ _ _ rfl _ _ rfl rfl ?_) | (with_reducible refine wl_min rfl _ _ _ _ rfl _ _ rfl rfl ?_))
  go_loopw [9] (fun iv wr => ∃ (z : Int) (k : Nat) (E : Array Nat), iv = .int .i64 z ∧ z + 1 = (k : Int) ∧ k ≤ K ∧ Sort.heapBuild ltN L a k E = X ∧ E.size = n ∧ Nums wr base g cap E ∧ Keep (fun j => j = g) w wr) (fun iv _ => (intOf iv + 1).toNat)
  case atStart => exact ⟨_, K, D, rfl, by omega, Nat.le_refl _, HX.out, HN.out, HO0.out, Keep.refl _ _⟩
  case round =>
    clear HX HN HO0
    obtain ⟨z, k, E, rfl, hz, hkK, hE, hEs, hO, hk⟩ := hrel
    generalize wr = wz at *
    cases k with
    | zero =>
      obtain rfl : z = -1 := by omega
      have hE : E = X := hE
      subst hE
      clear hz
      have HES := Lib.hid hEs
      clear hEs
      go_wp2_with (first | (at_builtin; refine wl_append rfl _ _ _ _ rfl _ _ rfl rfl ?_) | (at_make; refine wl_make rfl _ _ _ rfl _ _ rfl rfl ?_) | (at_mapUpdate; refine wl_mapUpdate rfl _ _ _ _ rfl _ _ _ rfl rfl rfl ?_) | (at_lookup; refine wl_lookup rfl _ _ _ _ rfl _ _ rfl rfl ?_) | (at_delete; refine wl_delete rfl _ _ _ _ rfl _ _ rfl rfl ?_) | (with_reducible refine wl_len rfl _ _ rfl _ rfl ?_) | (with_reducible refine wl_range rfl _ _ rfl _ rfl ?_) | (with_reducible refine wl_next rfl _ rfl _ rfl ?_) | (with_reducible refine wl_copy rfl _ _ _ _ rfl _ _ rfl rfl ?_) | (with_reducible refine wl_max rfl _ _ _ _ rfl _ _ rfl rfl ?_) | (with_reducible refine wl_min rfl _ _ _ _ rfl _ _ rfl rfl ?_))
      go_loopw [10] (fun iv wr => ∃ (z : Int) (k : Nat) (F : Array Nat), iv = .int .i64 z ∧ z + 1 = (k : Int) ∧ k ≤ L ∧ Sort.heapPop ltN a k F = R ∧ F.size = n ∧ Nums wr base g cap F ∧ Keep (fun j => j = g) w wr) (fun iv _ => (intOf iv + 1).toNat)
      case atStart => exact ⟨_, L, E, rfl, by omega, Nat.le_refl _, HR.out, HES.out, hO, hk⟩
      case round =>
        clear HR HES hO hk
        obtain ⟨z, k, F, rfl, hz, hkL, hF, hFs, hO, hk⟩ := hrel
        generalize wr = wy at *
        cases k with
        | zero =>
          obtain rfl : z = -1 := by omega
          have hF : F = R := hF
          subst hF
          clear hz
          go_wp2_with (first | (at_builtin; refine wl_append rfl _ _ _ _ rfl _ _ rfl rfl ?_) | (at_make; refine wl_make rfl _ _ _ rfl _ _ rfl rfl ?_) | (at_mapUpdate; refine wl_mapUpdate rfl _ _ _ _ rfl _ _ _ rfl rfl rfl ?_) | (at_lookup; refine wl_lookup rfl _ _ _ _ rfl _ _ rfl rfl ?_) | (at_delete; refine wl_delete rfl _ _ _ _ rfl _ _ rfl rfl ?_) | (with_reducible refine wl_len rfl _ _ rfl _ rfl ?_) | (with_reducible refine wl_range rfl _ _ rfl _ rfl ?_) | (with_reducible refine wl_next rfl _ rfl _ rfl ?_) | (with_reducible refine wl_copy rfl _ _ _ _ rfl _ _ rfl rfl ?_) | (with_reducible refine wl_max rfl _ _ _ _ rfl _ _ rfl rfl ?_) | (with_reducible refine wl_min rfl _ _ _ _ rfl _ _ rfl rfl ?_))
          go_end0
          exact ⟨rfl, hO, hk⟩
        | succ k =>
          have hF2 : Sort.heapPop ltN a k (Sort.siftDown ltN k a 0 (Sort.swp F a (a + k))) = R := hF
          clear hF hE
          have hF := hF2
          clear hF2
          by_cases hkz : k = 0
          · subst hkz
            obtain rfl : z = 0 := by omega
            rw [Nat.add_zero] at hF
            have b1 : (a : Int) < (n : Int) := by omega
            clear hz
            have c1 := (hO).cell (i := a) (by omega)
            have c2 := (hO).cell (i := a) (by omega)
            have f1 := (hO).frozen a
            have f2 := (hO).frozen a
            have hsw : Nums ((wy.setCell ⟨g, a, none⟩ (uv F[a]!)).setCell ⟨g, a, none⟩ (uv F[a]!)) base g cap (Sort.swp F a a) := ((hO).set a F[a]!).set a F[a]!
            have hkw : Keep (fun j => j = g) wy ((wy.setCell ⟨g, a, none⟩ (uv F[a]!)).setCell ⟨g, a, none⟩ (uv F[a]!)) := ((Keep.refl (fun j => j = g) wy).setCell (p := ⟨g, a, none⟩) (fun _ => rfl) _).setCell (p := ⟨g, a, none⟩) (fun _ => rfl) _
            unfold uv at c1 c2 hsw hkw
            have hss := (Sort.size_swp F a a).trans hFs
            have hsz := (sift_size ltN 0 a 0 0 (Sort.swp F a a) (by omega)).trans hss
            have hsi := HSI.out (((wy.setCell ⟨g, a, none⟩ (.int .u64 (F[a]! : Int))).setCell ⟨g, a, none⟩ (.int .u64 (F[a]! : Int))).drew) (Sort.swp F a a) hsw hss 0 0 (by omega) (by omega)
            rw [hss, show ((0 : Nat) : Int) = 0 from rfl] at hsi
            have HSJ := Lib.hid hsi
            have HF := Lib.hid hF
            have HSZ := Lib.hid hsz
            have HKW := Lib.hid (hk.trans' hkw).drew
            clear hsi hF hsz hss hsw hkw hFs
            generalize F[a]! = x at *
            generalize F[a]! = y at *
            go_wp2_with (first | (at_builtin; refine wl_append rfl _ _ _ _ rfl _ _ rfl rfl ?_) | (at_make; refine wl_make rfl _ _ _ rfl _ _ rfl rfl ?_) | (at_mapUpdate; refine wl_mapUpdate rfl _ _ _ _ rfl _ _ _ rfl rfl rfl ?_) | (at_lookup; refine wl_lookup rfl _ _ _ _ rfl _ _ rfl rfl ?_) | (at_delete; refine wl_delete rfl _ _ _ _ rfl _ _ rfl rfl ?_) | (with_reducible refine wl_len rfl _ _ rfl _ rfl ?_) | (with_reducible refine wl_range rfl _ _ rfl _ rfl ?_) | (with_reducible refine wl_next rfl _ rfl _ rfl ?_) | (with_reducible refine wl_copy rfl _ _ _ _ rfl _ _ rfl rfl ?_) | (with_reducible refine wl_max rfl _ _ _ _ rfl _ _ rfl rfl ?_) | (with_reducible refine wl_min rfl _ _ _ _ rfl _ _ rfl rfl ?_))
            go_region
            go_wp2_with (first | (at_builtin; refine wl_append rfl _ _ _ _ rfl _ _ rfl rfl ?_) | (at_make; refine wl_make rfl _ _ _ rfl _ _ rfl rfl ?_) | (at_mapUpdate; refine wl_mapUpdate rfl _ _ _ _ rfl _ _ _ rfl rfl rfl ?_) | (at_lookup; refine wl_lookup rfl _ _ _ _ rfl _ _ rfl rfl ?_) | (at_delete; refine wl_delete rfl _ _ _ _ rfl _ _ rfl rfl ?_) | (with_reducible refine wl_len rfl _ _ rfl _ rfl ?_) | (with_reducible refine wl_range rfl _ _ rfl _ rfl ?_) | (with_reducible refine wl_next rfl _ rfl _ rfl ?_) | (with_reducible refine wl_copy rfl _ _ _ _ rfl _ _ rfl rfl ?_) | (with_reducible refine wl_max rfl _ _ _ _ rfl _ _ rfl rfl ?_) | (with_reducible refine wl_min rfl _ _ _ _ rfl _ _ rfl rfl ?_))
            refine HSJ.out.mono ?_
            rintro e wn ⟨rfl, hOn, hkn⟩
            have hKn := HKW.out.trans' hkn
            clear HSJ hO hk HKW
            go_wp2_with (first | (at_builtin; refine wl_append rfl _ _ _ _ rfl _ _ rfl rfl ?_) | (at_make; refine wl_make rfl _ _ _ rfl _ _ rfl rfl ?_) | (at_mapUpdate; refine wl_mapUpdate rfl _ _ _ _ rfl _ _ _ rfl rfl rfl ?_) | (at_lookup; refine wl_lookup rfl _ _ _ _ rfl _ _ rfl rfl ?_) | (at_delete; refine wl_delete rfl _ _ _ _ rfl _ _ rfl rfl ?_) | (with_reducible refine wl_len rfl _ _ rfl _ rfl ?_) | (with_reducible refine wl_range rfl _ _ rfl _ rfl ?_) | (with_reducible refine wl_next rfl _ rfl _ rfl ?_) | (with_reducible refine wl_copy rfl _ _ _ _ rfl _ _ rfl rfl ?_) | (with_reducible refine wl_max rfl _ _ _ _ rfl _ _ rfl rfl ?_) | (with_reducible refine wl_min rfl _ _ _ _ rfl _ _ rfl rfl ?_))
            have hm1 : (-1) + 1 = ((0 : Nat) : Int) := by omega
            have hm2 : 0 ≤ L := Nat.le_of_succ_le hkL
            have hm3 : ((-1) + 1).toNat < (((0 : Nat) : Int) + 1).toNat := by omega
            exact ⟨⟨(-1), 0, Sort.siftDown ltN 0 a 0 (Sort.swp F a a), rfl, hm1, hm2, HF.out, HSZ.out, hOn, hKn⟩, hm3⟩
          · obtain rfl : z = (k : Int) := by omega
            obtain ⟨P, hP⟩ : ∃ P, P = a + k := ⟨_, rfl⟩
            rw [← hP] at hF
            have e3 : (a : Int) + (k : Int) = (P : Int) := by omega
            have w1 : IntKind.i64.wrap (P : Int) = (P : Int) := by rw [IntKind.wrap_i64]; omega
            have b1 : (P : Int) < (n : Int) := by omega
            have hk0 : 0 ≤ (k : Int) := by omega
            have haP : a ≠ P := by omega
            have hPn : P < n := by omega
            clear hz hP hkz
            have c1 := (hO).cell (i := a) (by omega)
            have c2 := (hO).cell (i := P) (by omega)
            have f1 := (hO).frozen a
            have f2 := (hO).frozen P
            have hsw : Nums ((wy.setCell ⟨g, a, none⟩ (uv F[P]!)).setCell ⟨g, P, none⟩ (uv F[a]!)) base g cap (Sort.swp F a P) := ((hO).set a F[P]!).set P F[a]!
            have hkw : Keep (fun j => j = g) wy ((wy.setCell ⟨g, a, none⟩ (uv F[P]!)).setCell ⟨g, P, none⟩ (uv F[a]!)) := ((Keep.refl (fun j => j = g) wy).setCell (p := ⟨g, a, none⟩) (fun _ => rfl) _).setCell (p := ⟨g, P, none⟩) (fun _ => rfl) _
            unfold uv at c1 c2 hsw hkw
            have hss := (Sort.size_swp F a P).trans hFs
            have hsz := (sift_size ltN k a k 0 (Sort.swp F a P) (by omega)).trans hss
            have hsi := HSI.out (((wy.setCell ⟨g, a, none⟩ (.int .u64 (F[P]! : Int))).setCell ⟨g, P, none⟩ (.int .u64 (F[a]! : Int))).drew) (Sort.swp F a P) hsw hss 0 k (by omega) (by omega)
            rw [hss, show ((0 : Nat) : Int) = 0 from rfl] at hsi
            have HSJ := Lib.hid hsi
            have HF := Lib.hid hF
            have HSZ := Lib.hid hsz
            have HKW := Lib.hid (hk.trans' hkw).drew
            clear hsi hF hsz hss hsw hkw hFs
            generalize F[P]! = x at *
            generalize F[a]! = y at *
            go_wp2_with (first | (at_builtin; refine wl_append rfl _ _ _ _ rfl _ _ rfl rfl ?_) | (at_make; refine wl_make rfl _ _ _ rfl _ _ rfl rfl ?_) | (at_mapUpdate; refine wl_mapUpdate rfl _ _ _ _ rfl _ _ _ rfl rfl rfl ?_) | (at_lookup; refine wl_lookup rfl _ _ _ _ rfl _ _ rfl rfl ?_) | (at_delete; refine wl_delete rfl _ _ _ _ rfl _ _ rfl rfl ?_) | (with_reducible refine wl_len rfl _ _ rfl _ rfl ?_) | (with_reducible refine wl_range rfl _ _ rfl _ rfl ?_) | (with_reducible refine wl_next rfl _ rfl _ rfl ?_) | (with_reducible refine wl_copy rfl _ _ _ _ rfl _ _ rfl rfl ?_) | (with_reducible refine wl_max rfl _ _ _ _ rfl _ _ rfl rfl ?_) | (with_reducible refine wl_min rfl _ _ _ _ rfl _ _ rfl rfl ?_))
            go_region
            go_wp2_with (first | (at_builtin; refine wl_append rfl _ _ _ _ rfl _ _ rfl rfl ?_) | (at_make; refine wl_make rfl _ _ _ rfl _ _ rfl rfl ?_) | (at_mapUpdate; refine wl_mapUpdate rfl _ _ _ _ rfl _ _ _ rfl rfl rfl ?_) | (at_lookup; refine wl_lookup rfl _ _ _ _ rfl _ _ rfl rfl ?_) | (at_delete; refine wl_delete rfl _ _ _ _ rfl _ _ rfl rfl ?_) | (with_reducible refine wl_len rfl _ _ rfl _ rfl ?_) | (with_reducible refine wl_range rfl _ _ rfl _ rfl ?_) | (with_reducible refine wl_next rfl _ rfl _ rfl ?_) | (with_reducible refine wl_copy rfl _ _ _ _ rfl _ _ rfl rfl ?_) | (with_reducible refine wl_max rfl _ _ _ _ rfl _ _ rfl rfl ?_) | (with_reducible refine wl_min rfl _ _ _ _ rfl _ _ rfl rfl ?_))
            refine HSJ.out.mono ?_
            rintro e wn ⟨rfl, hOn, hkn⟩
            have hKn := HKW.out.trans' hkn
            clear HSJ hO hk HKW
            go_wp2_with (first | (at_builtin; refine wl_append rfl _ _ _ _ rfl _ _ rfl rfl ?_) | (at_make; refine wl_make rfl _ _ _ rfl _ _ rfl rfl ?_) | (at_mapUpdate; refine wl_mapUpdate rfl _ _ _ _ rfl _ _ _ rfl rfl rfl ?_) | (at_lookup; refine wl_lookup rfl _ _ _ _ rfl _ _ rfl rfl ?_) | (at_delete; refine wl_delete rfl _ _ _ _ rfl _ _ rfl rfl ?_) | (with_reducible refine wl_len rfl _ _ rfl _ rfl ?_) | (with_reducible refine wl_range rfl _ _ rfl _ rfl ?_) | (with_reducible refine wl_next rfl _ rfl _ rfl ?_) | (with_reducible refine wl_copy rfl _ _ _ _ rfl _ _ rfl rfl ?_) | (with_reducible refine wl_max rfl _ _ _ _ rfl _ _ rfl rfl ?_) | (with_reducible refine wl_min rfl _ _ _ _ rfl _ _ rfl rfl ?_))
            have hm1 : ((k : Int) - 1) + 1 = ((k : Nat) : Int) := by omega
            have hm2 : k ≤ L := Nat.le_of_succ_le hkL
            have hm3 : (((k : Int) - 1) + 1).toNat < (((k : Nat) : Int) + 1).toNat := by omega
            exact ⟨⟨((k : Int) - 1), k, Sort.siftDown ltN k a 0 (Sort.swp F a P), rfl, hm1, hm2, HF.out, HSZ.out, hOn, hKn⟩, hm3⟩
    | succ k =>
      obtain rfl : z = (k : Int) := by omega
      have hE : Sort.heapBuild ltN L a k (Sort.siftDown ltN L a k E) = X := hE
      have hsz := (sift_size ltN L a L k E (by omega)).trans hEs
      have hsi := HSI.out wz E hO hEs k L (by omega) (by omega)
      rw [hEs] at hsi
      have HSJ := Lib.hid hsi
      have HE := Lib.hid hE
      have HSZ := Lib.hid hsz
      have hk0 : 0 ≤ (k : Int) := by omega
      clear hsi hE hsz hEs hz
      go_wp2_with (first | (at_builtin; refine wl_append rfl _ _ _ _ rfl _ _ rfl rfl ?_) | (at_make; refine wl_make rfl _ _ _ rfl _ _ rfl rfl ?_) | (at_mapUpdate; refine wl_mapUpdate rfl _ _ _ _ rfl _ _ _ rfl rfl rfl ?_) | (at_lookup; refine wl_lookup rfl _ _ _ _ rfl _ _ rfl rfl ?_) | (at_delete; refine wl_delete rfl _ _ _ _ rfl _ _ rfl rfl ?_) | (with_reducible refine wl_len rfl _ _ rfl _ rfl ?_) | (with_reducible refine wl_range rfl _ _ rfl _ rfl ?_) | (with_reducible refine wl_next rfl _ rfl _ rfl ?_) | (with_reducible refine wl_copy rfl _ _ _ _ rfl _ _ rfl rfl ?_) | (with_reducible refine wl_max rfl _ _ _ _ rfl _ _ rfl rfl ?_) | (with_reducible refine wl_min rfl _ _ _ _ rfl _ _ rfl rfl ?_))
      refine HSJ.out.mono ?_
      rintro e wn ⟨rfl, hOn, hkn⟩
      have hKn := hk.trans' hkn
      clear HSJ hO hk
      go_wp2_with (first | (at_builtin; refine wl_append rfl _ _ _ _ rfl _ _ rfl rfl ?_) | (at_make; refine wl_make rfl _ _ _ rfl _ _ rfl rfl ?_) | (at_mapUpdate; refine wl_mapUpdate rfl _ _ _ _ rfl _ _ _ rfl rfl rfl ?_) | (at_lookup; refine wl_lookup rfl _ _ _ _ rfl _ _ rfl rfl ?_) | (at_delete; refine wl_delete rfl _ _ _ _ rfl _ _ rfl rfl ?_) | (with_reducible refine wl_len rfl _ _ rfl _ rfl ?_) | (with_reducible refine wl_range rfl _ _ rfl _ rfl ?_) | (with_reducible refine wl_next rfl _ rfl _ rfl ?_) | (with_reducible refine wl_copy rfl _ _ _ _ rfl _ _ rfl rfl ?_) | (with_reducible refine wl_max rfl _ _ _ _ rfl _ _ rfl rfl ?_) | (with_reducible refine wl_min rfl _ _ _ _ rfl _ _ rfl rfl ?_))
      go_roundw
      case rel => exact ⟨_, k, _, rfl, by omega, by omega, HE.out, HSZ.out, hOn, hKn⟩
      case measure => simp [intOf]
end
end Go.Proofs.YthfekjnekaecaaaDoor
