/- The document's relocations: Table, Known, Check. The document's names: Check, At. The document's image: what the entries say: relocations. The document's symbols: Check. No condition. -/
import Derived.Test.YtbnahidopemkiaaGreatDz4
import Derived.Test.YtbnahidopemkiaaGreatRl2
import Derived.Test.YtbnahidopemkiaaGreatDzA
import Derived.BigQuiet
import Derived.Test.YtbnahidopemkiaaGreatDz9
import Derived.Test.YtbnahidopemkiaaGreatDzE
import Derived.Test.YtbnahidopemkiaaGreatWhN
set_option linter.unusedVariables false
set_option linter.unusedSimpArgs false
namespace Go.Proofs.YtbnahidopemkiaaGreat
open Go.RowKit Go.Dm Go.Dm.Oc Go.Dm.Ld
section
variable {A : Nat → Prop} {w : World} {v : Value}
theorem wrap64_addI (y : Nat) : wrap64 (y : Int) = addI y := by
  unfold wrap64 addI
  rw [IntKind.wrap_i64]
theorem r07known_any (t : Nat) (w : World) : Calls Tryz.prog 130 #[.int .u32 (t : Int)] w fun e w' => e = .returned (.bool (knownB t)) ∧ w = w' := by
  go_enter Tryz.func130, Tryz.ntmps130
  go_wp2_with fail
  all_goals
    go_ret
    refine ⟨congrArg (fun b => Ending.returned (Value.bool b)) ?_, rfl⟩
    rw [Bool.eq_iff_iff]
    simp only [knownB, decide_eq_true_eq, true_iff, Bool.or_eq_true, beq_iff_eq]
    omega
set_option maxRecDepth 100000 in
set_option maxHeartbeats 2000000 in
theorem r07tab_any (b : BS) (hb : Bts A w v b) (hl : b.length ≤ 1000000000) :
    Calls Tryz.prog 106 #[v] w fun e w' => ∃ v', e = .returned (.tuple #[v', .int .i64 ((rlTab b).1 : Nat)]) ∧ FlO w' w.heap.size 115 4 encRl v' (rlTab b).2 ∧ Keep No w w' := by
  have HB := Lib.hid hb
  obtain ⟨ao, co, rfl, hc1, hc2⟩ := hb.shape
  obtain ⟨r, hr⟩ : ∃ r, r = rlTab b := ⟨_, rfl⟩
  rw [← hr]
  unfold rlTab at hr
  have HR := Lib.hid hr
  clear hr hb
  have hg1 := fun W (k : Keep No w W) (p : Nat) (hp : p < 4000000000) => r01get_any (w := W) b p 8 (Sl.keep HB.out k fun _ _ _ h => h) (by omega) (by omega) (by decide) (by decide)
  have HG := Lib.hid hg1
  obtain ⟨n, hn⟩ : ∃ n, n = b.length := ⟨_, rfl⟩
  have HN := Lib.hid hn
  rw [← hn] at hl HG ⊢
  clear hg1 hc1 hc2 hn
  by_cases hm : n % 24 = 0
  · have hr := HR.out
    rw [if_pos (by rw [← HN.out]; exact hm)] at hr
    have HR2 := Lib.hid hr
    have g1 : ((n : Int) % 24 != 0) = false := by rw [bne_eq_false_iff_eq]; omega
    have g2 : ((n : Int).tmod 24 != 0) = false := by rw [bne_eq_false_iff_eq, Int.tmod_eq_emod_of_nonneg (by omega)]; omega
    have hnz : (n : Int) ≤ 1000000000 := by omega
    have hO0 : Out w w 115 4 encRl (.slice none 0 0) ((List.range 0).map fun i => rlIn b (24 * i)) := ⟨FlO.nil, Keep.refl _ _⟩
    clear hr HR
    go_enter Tryz.func106, Tryz.ntmps106
    go_wp2_with fail
    go_loopw [4, 5, 6, 7, 8, 9, 10, 11] (fun ov iv _ _ _ _ _ _ wr => ∃ j p : Nat, iv = .int .i64 (p : Int) ∧ p = 24 * j ∧ p ≤ n ∧ Out w wr 115 4 encRl ov ((List.range j).map fun i => rlIn b (24 * i))) (fun _ iv _ _ _ _ _ _ _ => n - (intOf iv).toNat)
    case atStart => exact ⟨0, 0, rfl, rfl, Nat.zero_le _, hO0⟩
    case round =>
      obtain ⟨j, p, rfl, hp, hpn, hO⟩ := hrel
      have HP := Lib.hid hp
      clear hO0
      generalize wr = wz at *
      have hkz := hO.old (Keep.refl _ _)
      obtain ⟨ax, nx, cx, rfl⟩ := hO.sh
      rcases Nat.lt_or_ge p n with hlt | hge
      · have hpz : (p : Int) < (n : Int) := by omega
        have hp24 : p + 24 ≤ n := by omega
        have c1 := HG.out wz hkz p (by omega)
        have c2 := HG.out wz hkz (p + 8) (by omega)
        have c3 := HG.out wz hkz (p + 16) (by omega)
        have hsp := getX_split (b := b) (at_ := p + 8) (by rw [← HN.out]; omega)
        have hlo : getX b (p + 8) 4 < 4294967296 := getX_lt b (p + 8) 4
        have hhi : getX b (p + 8 + 4) 4 < 4294967296 := getX_lt b (p + 8 + 4) 4
        have hin : rlIn b p = ⟨getX b p 8, getX b (p + 8) 4, getX b (p + 8 + 4) 4, getX b (p + 16) 8⟩ := rfl
        have hrg : (List.range (j + 1)).map (fun i => rlIn b (24 * i)) = (List.range j).map (fun i => rlIn b (24 * i)) ++ [rlIn b p] := by
          rw [List.range_succ, List.map_append, List.map_singleton, ← hp]
        have hx1 : getX b p 8 < 18446744073709551616 := getX_lt b p 8
        have hx2 : getX b (p + 8) 8 < 18446744073709551616 := getX_lt b (p + 8) 8
        have hx3 : getX b (p + 16) 8 < 18446744073709551616 := getX_lt b (p + 16) 8
        rw [hin] at hrg
        generalize getX b (p + 8) 4 = lo at *
        generalize getX b (p + 8 + 4) 4 = hi at *
        generalize getX b p 8 = y1 at *
        generalize getX b (p + 8) 8 = y2 at *
        generalize getX b (p + 16) 8 = y3 at *
        generalize fitsE n p 8 = e1 at *
        generalize fitsE n (p + 8) 8 = e2 at *
        generalize fitsE n (p + 16) 8 = e3 at *
        have q1 : (y2 : Int) % 4294967296 = (lo : Int) := by omega
        have q2 : (y2 : Int) / 4294967296 = (hi : Int) := by omega
        have q3 : IntKind.u64.wrap ((y2 : Int).tdiv 4294967296) = (hi : Int) := by rw [Int.tdiv_eq_ediv_of_nonneg (by omega), IntKind.wrap_u64]; omega
        have q4 : IntKind.u32.wrap (lo : Int) = (lo : Int) := by rw [IntKind.wrap_u32]; omega
        have q5 : IntKind.u32.wrap (hi : Int) = (hi : Int) := by rw [IntKind.wrap_u32]; omega
        have hw0 : IntKind.u64.wrap (p : Int) = (p : Int) := by rw [IntKind.wrap_u64]; omega
        obtain ⟨p8, hp8⟩ : ∃ q, q = p + 8 := ⟨_, rfl⟩
        obtain ⟨p16, hp16⟩ : ∃ q, q = p + 16 := ⟨_, rfl⟩
        rw [← hp8] at c2
        rw [← hp16] at c3
        have s8 : (p : Int) + 8 = (p8 : Int) := by omega
        have s16 : (p : Int) + 16 = (p16 : Int) := by omega
        have hw8 : IntKind.u64.wrap (p8 : Int) = (p8 : Int) := by rw [IntKind.wrap_u64]; omega
        have hw16 : IntKind.u64.wrap (p16 : Int) = (p16 : Int) := by rw [IntKind.wrap_u64]; omega
        have hll : ((List.range j).map fun i => rlIn b (24 * i)).length ≤ 1000000000 := by rw [List.length_map, List.length_range]; omega
        have hsz := hO.base
        have HRG := Lib.hid hrg
        have hh : IntKind.u64.wrap (hi : Int) % 4294967296 = (hi : Int) := by rw [IntKind.wrap_u64]; omega
        have HHH := Lib.hid hh
        clear hh
        have HQ := Lib.hid (And.intro q1 (And.intro q2 (And.intro q3 (And.intro q4 q5))))
        clear hp hsp hin hrg hp8 hp16 q1 q2 q3 q4 q5 hx1 hx2 hx3 hlo hhi
        go_wp2_with fail
        refine c1.mono ?_
        rintro e _ ⟨rfl, rfl⟩
        go_wp2_with fail
        refine c2.mono ?_
        rintro e _ ⟨rfl, rfl⟩
        go_wp2_with fail
        refine c3.mono ?_
        rintro e _ ⟨rfl, rfl⟩
        clear c1 c2 c3
        obtain ⟨q1, q2, q3, q4, q5⟩ := HQ.out
        go_wp2_with (at_builtin; refine wl_append rfl _ _ _ _ rfl _ _ rfl rfl ?_)
        rw [HHH.out]
        refine rg_push (P := Tryz.prog) (x := (⟨y1, lo, hi, y3⟩ : Rl)) (cs := #[.int .u64 (y1 : Int), .int .u32 (lo : Int), .int .u32 (hi : Int), .int .i64 (wrap64 (y3 : Int))]) _ _ Tryz.underlying58 relaT_info (by rfl) (by decide) (by rw [wrap64_addI]; rfl) (by rfl) (encRl_one _) hO.row (by omega) (by decide) hsz ?_
        intro v13 w13 ho13 hk13 hn13
        have hO13 := hO.push ho13 hk13
        rw [← HRG.out] at hO13
        obtain ⟨a13, n13, c13, rfl⟩ := hO13.sh
        clear ho13 hk13 hn13 hO hll hsz
        go_wp2_with fail
        go_roundw
        case rel => exact ⟨j + 1, p + 24, by go_num, by have := HP.out; omega, hp24, hO13⟩
        case measure => simp [intOf]; omega
      · obtain rfl : p = n := Nat.le_antisymm hpn hge
        have hr := HR2.out
        rw [← HN.out, show p / 24 = j from by omega] at hr
        subst hr
        clear hp
        go_wp2_with fail
        go_ret2
        exact ⟨_, rfl, hO.row, hkz⟩
  · have hr := HR.out
    rw [if_neg (by rw [← HN.out]; exact hm)] at hr
    subst hr
    have g1 : ((n : Int) % 24 != 0) = true := by rw [bne_iff_ne]; omega
    have g2 : ((n : Int).tmod 24 != 0) = true := by rw [bne_iff_ne, Int.tmod_eq_emod_of_nonneg (by omega)]; omega
    go_enter Tryz.func106, Tryz.ntmps106
    go_wp2_with fail
    go_ret2
    exact ⟨_, rfl, FlO.nil, Keep.refl _ _⟩
set_option maxRecDepth 100000 in
set_option maxHeartbeats 2000000 in
theorem r07chk_any (l : List Rl) (m : Nat) (hl : Fl A w 4 encRl v l) (hok : ∀ x ∈ l, RlOk x) (hm : m < 4294967296) :
    Calls Tryz.prog 107 #[v, .int .i64 (m : Int)] w fun e w' => e = .returned (.int .i64 (chkR m l : Nat)) ∧ Keep No w w' := by
  have HL := Lib.hid hl
  have HOK := Lib.hid hok
  obtain ⟨ao, co, rfl, hc1, hc2⟩ := hl.shape
  have hib : (l.length : Int) ≤ 9223372036854775807 := by unfold maxLen at hc2; omega
  obtain ⟨r, hr⟩ : ∃ r, r = chkR m l := ⟨_, rfl⟩
  rw [← hr]
  have HR : Hid (r = chkR m (l.drop 0)) := Lib.hid hr
  obtain ⟨n, hn⟩ : ∃ n, n = l.length := ⟨_, rfl⟩
  have HN := Lib.hid hn
  rw [← hn] at hib ⊢
  have hwm : IntKind.u64.wrap (m : Int) = (m : Int) := by rw [IntKind.wrap_u64]; omega
  have hm0 : (0 : Int) ≤ (m : Int) := by omega
  clear hl hc1 hc2 hr hn hok
  go_enter Tryz.func107, Tryz.ntmps107
  go_wp2_with fail
  go_loopw [5, 6] (fun iv _ wr => ∃ i : Nat, iv = .int .i64 (i : Int) ∧ i ≤ n ∧ Hid (r = chkR m (l.drop i)) ∧ Keep No w wr) (fun iv _ _ => n - (intOf iv).toNat)
  case atStart => exact ⟨0, rfl, Nat.zero_le _, HR, Keep.refl _ _⟩
  case round =>
    obtain ⟨i, rfl, hi, HM, hk⟩ := hrel
    clear HR
    generalize wr = wz at *
    rcases Nat.lt_or_ge i n with hlt | hge
    · have hil : i < l.length := by rw [← HN.out]; exact hlt
      obtain ⟨g, off, cap, ev, _, hg, _, _, hc⟩ := (HL.out.no hk).at encRl_len hil
      rw [← HN.out] at ev
      injection ev with e1 e2 e3
      subst e1 e3
      have hiz : (i : Int) < (n : Int) := by omega
      have hsk := HOK.out _ (List.getElem_mem hil)
      have hm2 := HM.out
      rw [List.drop_eq_getElem_cons hil] at hm2
      unfold chkR at hm2
      have d1 := hc 1 _ rfl
      have d2 := hc 2 _ rfl
      generalize l[i] = s at *
      obtain ⟨x0, x1, x2, x3⟩ := s
      obtain ⟨b0, b1, b2, b3⟩ := hsk
      dsimp only at b0 b1 b2 b3 d1 d2
      have hkn := r07known_any x1 wz
      have hgo : rlE m ⟨x0, x1, x2, x3⟩ = 0 → r = chkR m (l.drop (i + 1)) := fun h => by rw [hm2, if_pos h]
      have hst : rlE m ⟨x0, x1, x2, x3⟩ ≠ 0 → r = rlE m ⟨x0, x1, x2, x3⟩ := fun h => by rw [hm2, if_neg h]
      have HGO := Lib.hid hgo
      have HST := Lib.hid hst
      clear hgo hst hm2 HM e2 hc
      go_wp2_with fail
      refine hkn.mono ?_
      clear hkn
      rintro e _ ⟨rfl, rfl⟩
      cases hkb : knownB x1 with
      | false =>
        have hE : rlE m ⟨x0, x1, x2, x3⟩ = 33 := by unfold rlE; rw [if_pos hkb]
        have hr := HST.out (by rw [hE]; decide)
        rw [hE] at hr
        subst hr
        go_wp2_with fail
        go_ret
        exact ⟨rfl, hk⟩
      | true =>
        have hw2 : IntKind.u64.wrap (x2 : Int) = (x2 : Int) := by rw [IntKind.wrap_u64]; omega
        by_cases h2 : 0 < x2 ∧ m ≤ x2
        · have hE : rlE m ⟨x0, x1, x2, x3⟩ = 10 := by unfold rlE; rw [if_neg (by rw [hkb]; decide), if_pos h2]
          have hr := HST.out (by rw [hE]; decide)
          rw [hE] at hr
          subst hr
          have g1 : (0 : Int) < (x2 : Int) := by omega
          have g2 : (m : Int) ≤ (x2 : Int) := by omega
          clear HGO HST
          go_wp2_with fail
          go_ret
          exact ⟨rfl, hk⟩
        · have hE : rlE m ⟨x0, x1, x2, x3⟩ = if decide (x1 = 0 ∨ x1 = 8) = decide (x2 = 0) then 0 else 11 := by unfold rlE; rw [if_neg (by rw [hkb]; decide), if_neg h2]
          have hq0 : ((x2 : Int) == 0) = decide (x2 = 0) := by rw [Bool.eq_iff_iff, beq_iff_eq, decide_eq_true_eq]; omega
          have hp0 : ((x1 : Int) == 0) = decide (x1 = 0) := by rw [Bool.eq_iff_iff, beq_iff_eq, decide_eq_true_eq]; omega
          have hp8 : ((x1 : Int) == 8) = decide (x1 = 8) := by rw [Bool.eq_iff_iff, beq_iff_eq, decide_eq_true_eq]; omega
          have hG : ((0 : Int) < (x2 : Int) ∧ (x2 : Int) < (m : Int)) ∨ (x2 : Int) = 0 := by omega
          cases hd : (decide (x1 = 0 ∨ x1 = 8) == decide (x2 = 0)) with
          | true =>
            have hE0 : rlE m ⟨x0, x1, x2, x3⟩ = 0 := by rw [hE, if_pos (eq_of_beq hd)]
            have HG2 := Lib.hid (HGO.out hE0)
            clear HGO HST hE hE0
            rcases Nat.eq_zero_or_pos x2 with h20 | h20
            · subst h20
              by_cases h10 : x1 = 0
              · subst h10
                have hq := hd
                simp at hq
                try exact hq.elim
                all_goals
                  clear hd hq hq0 hp0 hp8 hG
                  go_wp2_with fail
                  try go_quiet (fail)
                  try go_wp2_with fail
                  go_roundw
                  case rel => exact ⟨i + 1, by go_num, hlt, HG2, by first | exact hk | exact hk.drewN _⟩
                  case measure => simp [intOf]; omega
              · by_cases h18 : x1 = 8
                · subst h18
                  have hq := hd
                  simp at hq
                  try exact hq.elim
                  all_goals
                    clear hd hq hq0 hp0 hp8 hG
                    go_wp2_with fail
                    try go_quiet (fail)
                    try go_wp2_with fail
                    go_roundw
                    case rel => exact ⟨i + 1, by go_num, hlt, HG2, by first | exact hk | exact hk.drewN _⟩
                    case measure => simp [intOf]; omega
                · have g0 : ((x1 : Int) == 0) = false := by rw [beq_eq_false_iff_ne]; omega
                  have g8 : ((x1 : Int) == 8) = false := by rw [beq_eq_false_iff_ne]; omega
                  have hq := hd
                  simp [h10, h18] at hq
                  try exact hq.elim
                  all_goals
                    clear hd hq hq0 hp0 hp8 hG
                    go_wp2_with fail
                    try go_quiet (fail)
                    try go_wp2_with fail
                    go_roundw
                    case rel => exact ⟨i + 1, by go_num, hlt, HG2, by first | exact hk | exact hk.drewN _⟩
                    case measure => simp [intOf]; omega
            · have g1 : (0 : Int) < (x2 : Int) := by omega
              have g2 : (x2 : Int) < (m : Int) := by omega
              have g20 : ((x2 : Int) == 0) = false := by rw [beq_eq_false_iff_ne]; omega
              have h2n : x2 ≠ 0 := by omega
              by_cases h10 : x1 = 0
              · subst h10
                have hq := hd
                simp [h2n] at hq
                try exact hq.elim
                all_goals
                  clear hd hq hq0 hp0 hp8 hG
                  go_wp2_with fail
                  try go_quiet (fail)
                  try go_wp2_with fail
                  go_roundw
                  case rel => exact ⟨i + 1, by go_num, hlt, HG2, by first | exact hk | exact hk.drewN _⟩
                  case measure => simp [intOf]; omega
              · by_cases h18 : x1 = 8
                · subst h18
                  have hq := hd
                  simp [h2n] at hq
                  try exact hq.elim
                  all_goals
                    clear hd hq hq0 hp0 hp8 hG
                    go_wp2_with fail
                    try go_quiet (fail)
                    try go_wp2_with fail
                    go_roundw
                    case rel => exact ⟨i + 1, by go_num, hlt, HG2, by first | exact hk | exact hk.drewN _⟩
                    case measure => simp [intOf]; omega
                · have g0 : ((x1 : Int) == 0) = false := by rw [beq_eq_false_iff_ne]; omega
                  have g8 : ((x1 : Int) == 8) = false := by rw [beq_eq_false_iff_ne]; omega
                  have hq := hd
                  simp [h10, h18, h2n] at hq
                  try exact hq.elim
                  all_goals
                    clear hd hq hq0 hp0 hp8 hG
                    go_wp2_with fail
                    try go_quiet (fail)
                    try go_wp2_with fail
                    go_roundw
                    case rel => exact ⟨i + 1, by go_num, hlt, HG2, by first | exact hk | exact hk.drewN _⟩
                    case measure => simp [intOf]; omega
          | false =>
            have hE0 : rlE m ⟨x0, x1, x2, x3⟩ = 11 := by rw [hE, if_neg fun h => by rw [h] at hd; simp at hd]
            have hr := HST.out (by rw [hE0]; decide)
            rw [hE0] at hr
            subst hr
            clear HGO HST hE hE0
            rcases Nat.eq_zero_or_pos x2 with h20 | h20
            · subst h20
              by_cases h10 : x1 = 0
              · subst h10
                have hq := hd
                simp at hq
                try exact hq.elim
                all_goals
                  clear hd hq hq0 hp0 hp8 hG
                  go_wp2_with fail
                  try go_quiet (fail)
                  try go_wp2_with fail
                  go_ret
                  exact ⟨rfl, by first | exact hk | exact hk.drewN _⟩
              · by_cases h18 : x1 = 8
                · subst h18
                  have hq := hd
                  simp at hq
                  try exact hq.elim
                  all_goals
                    clear hd hq hq0 hp0 hp8 hG
                    go_wp2_with fail
                    try go_quiet (fail)
                    try go_wp2_with fail
                    go_ret
                    exact ⟨rfl, by first | exact hk | exact hk.drewN _⟩
                · have g0 : ((x1 : Int) == 0) = false := by rw [beq_eq_false_iff_ne]; omega
                  have g8 : ((x1 : Int) == 8) = false := by rw [beq_eq_false_iff_ne]; omega
                  have hq := hd
                  simp [h10, h18] at hq
                  try exact hq.elim
                  all_goals
                    clear hd hq hq0 hp0 hp8 hG
                    go_wp2_with fail
                    try go_quiet (fail)
                    try go_wp2_with fail
                    go_ret
                    exact ⟨rfl, by first | exact hk | exact hk.drewN _⟩
            · have g1 : (0 : Int) < (x2 : Int) := by omega
              have g2 : (x2 : Int) < (m : Int) := by omega
              have g20 : ((x2 : Int) == 0) = false := by rw [beq_eq_false_iff_ne]; omega
              have h2n : x2 ≠ 0 := by omega
              by_cases h10 : x1 = 0
              · subst h10
                have hq := hd
                simp [h2n] at hq
                try exact hq.elim
                all_goals
                  clear hd hq hq0 hp0 hp8 hG
                  go_wp2_with fail
                  try go_quiet (fail)
                  try go_wp2_with fail
                  go_ret
                  exact ⟨rfl, by first | exact hk | exact hk.drewN _⟩
              · by_cases h18 : x1 = 8
                · subst h18
                  have hq := hd
                  simp [h2n] at hq
                  try exact hq.elim
                  all_goals
                    clear hd hq hq0 hp0 hp8 hG
                    go_wp2_with fail
                    try go_quiet (fail)
                    try go_wp2_with fail
                    go_ret
                    exact ⟨rfl, by first | exact hk | exact hk.drewN _⟩
                · have g0 : ((x1 : Int) == 0) = false := by rw [beq_eq_false_iff_ne]; omega
                  have g8 : ((x1 : Int) == 8) = false := by rw [beq_eq_false_iff_ne]; omega
                  have hq := hd
                  simp [h10, h18, h2n] at hq
                  try exact hq.elim
                  all_goals
                    clear hd hq hq0 hp0 hp8 hG
                    go_wp2_with fail
                    try go_quiet (fail)
                    try go_wp2_with fail
                    go_ret
                    exact ⟨rfl, by first | exact hk | exact hk.drewN _⟩
    · obtain rfl : i = n := Nat.le_antisymm hi hge
      have hr := HM.out
      rw [List.drop_of_length_le (by rw [← HN.out]; exact Nat.le_refl _)] at hr
      unfold chkR at hr
      subst hr
      go_wp2_with fail
      go_ret
      exact ⟨rfl, hk⟩
end
end Go.Proofs.YtbnahidopemkiaaGreat
namespace Go.Proofs.YtbnahidopemkiaaGreat
open Go.RowKit Go.Dm Go.Dm.Oc Go.Dm.Ld
section
variable {A : Nat → Prop} {w : World}
set_option maxRecDepth 100000 in
theorem r02chk_any {v : Value} (b : List UInt8) (hb : Bts A w v b) (hl : b.length ≤ 1099511627776) :
    Calls Tryz.prog 102 #[v] w fun e w' => e = .returned (.int .i64 (chkN b : Nat)) ∧ w = w' := by
  rcases Nat.eq_zero_or_pos b.length with h0 | hpos
  · obtain ⟨a, c, rfl, hc, hc2⟩ := hb.shape
    obtain rfl := List.eq_nil_of_length_eq_zero h0
    go_enter Tryz.func102, Tryz.ntmps102
    go_wp2_with fail
    go_ret
    exact ⟨rfl, rfl⟩
  · obtain ⟨g, off, cap, rfl, _, hg, hc, hc2, hr⟩ := Sl.at hb hpos
    have q0 : w.cell? ⟨g, off, none⟩ = some (.int .u8 ((b[0]'hpos).toNat : Int)) := hr 0 _ (by rw [List.getElem?_map, List.getElem?_eq_getElem hpos]; rfl)
    have q1 : w.cell? ⟨g, off + (b.length - 1), none⟩ = some (.int .u8 ((b[b.length - 1]'(by omega)).toNat : Int)) := hr (b.length - 1) _ (by rw [List.getElem?_map, List.getElem?_eq_getElem (by omega)]; rfl)
    have hres : chkN b = if (b[0]'hpos).toNat = 0 ∧ (b[b.length - 1]'(by omega)).toNat = 0 then 0 else 11 := by
      unfold chkN
      have e1 : b.head? = some (b[0]'hpos) := by rw [List.head?_eq_getElem?, List.getElem?_eq_getElem hpos]
      have e2 : b.getLast? = some (b[b.length - 1]'(by omega)) := by rw [List.getLast?_eq_getElem?, List.getElem?_eq_getElem (by omega)]
      rw [e1, e2]
      simp only [Option.some.injEq, ← UInt8.toNat_inj, UInt8.toNat_zero]
    have hx := (b[0]'hpos).toNat_lt
    have hy := (b[b.length - 1]'(by omega)).toNat_lt
    rw [hres]
    generalize (b[0]'hpos).toNat = x at *
    generalize (b[b.length - 1]'(by omega)).toNat = y at *
    clear hres hr hb
    generalize b.length = n at *
    have hn : ((n : Int) == 0) = false := by rw [beq_eq_false_iff_ne]; omega
    have hsub : (n : Int) - 1 = ((n - 1 : Nat) : Int) := by omega
    go_enter Tryz.func102, Tryz.ntmps102
    go_wp2_with fail
    all_goals
      go_ret
      refine ⟨?_, rfl⟩
      first
        | rfl
        | (exfalso
           simp_all
           done)
        | (exfalso
           simp only [bne_iff_ne, bne_eq_false_iff_eq, ne_eq] at *
           omega)
set_option maxRecDepth 100000 in
set_option maxHeartbeats 1000000 in
theorem r02at_any {v : Value} (b : List UInt8) (at_ : Nat) (hb : Bts A w v b) (hl : b.length ≤ 1099511627776) (ha : at_ < 18446744073709551616) :
    Calls Tryz.prog 103 #[v, .int .u64 (at_ : Int)] w fun e w' => e = .returned (.tuple #[.string ⟨(atM b at_).2.toArray⟩, .int .i64 ((atM b at_).1 : Int)]) ∧ w = w' := by
  obtain ⟨r, hr⟩ : ∃ r, r = atM b at_ := ⟨_, rfl⟩
  rw [← hr]
  unfold atM at hr
  have hlb : (b.length : Int) ≤ 1099511627776 := by omega
  have hwl : IntKind.u64.wrap (b.length : Int) = (b.length : Int) := by rw [IntKind.wrap_u64]; omega
  rcases Nat.lt_or_ge at_ b.length with hlt | hge
  · rw [if_neg (by omega)] at hr
    have HR := Lib.hid hr
    have HB := Lib.hid hb
    obtain ⟨a, c, rfl, hc, hc2⟩ := hb.shape

    have hat2 : (at_ : Int) < (b.length : Int) := by omega
    have hatz : IntKind.i64.wrap (at_ : Int) = (at_ : Int) := by rw [IntKind.wrap_i64]; omega
    have hge0 : decide ((b.length : Int) ≤ (at_ : Int)) = false := decide_eq_false (by omega)
    have H0 : Hid (∀ j, at_ ≤ j → j < at_ → ∀ (h : j < b.length), b[j] ≠ 0) := Lib.hid fun j h1 h2 => by omega
    clear hr hb
    obtain ⟨n, hn⟩ : ∃ n, n = b.length := ⟨_, rfl⟩
    rw [← hn] at hlb hwl hat2 hc hlt hge0 ⊢
    clear hl ha hc2
    have HN := Lib.hid hn
    clear hn
    go_enter Tryz.func103, Tryz.ntmps103
    go_wp2_with fail
    go_loopw [6] (fun iv wr => ∃ i : Nat, iv = .int .i64 (i : Int) ∧ at_ ≤ i ∧ i ≤ n ∧ Hid (∀ j, at_ ≤ j → j < i → ∀ (h : j < b.length), b[j] ≠ 0) ∧ w = wr) (fun iv _ => n - (intOf iv).toNat)
    case atStart => exact ⟨at_, rfl, Nat.le_refl _, Nat.le_of_lt hlt, H0, rfl⟩
    case round =>
      obtain ⟨i, rfl, hai, hi, HM, rfl⟩ := hrel
      clear H0
      rcases Nat.lt_or_ge i n with hin | hge
      · have hib : i < b.length := by rw [← HN.out]; exact hin
        obtain ⟨g, off, cap, e, hg0, hgl, _, _, hcell⟩ := HB.out.at (by omega : 0 < b.length)
        injection e with e1 e2 e3
        subst e1 e3
        have qb : w.cell? ⟨g, off + i, none⟩ = some (.int .u8 (b[i].toNat : Int)) := hcell i _ (by rw [List.getElem?_map, List.getElem?_eq_getElem hib]; rfl)
        have hiz : (i : Int) < (n : Int) := by omega
        by_cases h0 : b[i] = 0
        · have hy : b[i].toNat = 0 := by rw [h0]; rfl
          rw [hy] at qb
          have hd : i - at_ < (b.drop at_).length := by rw [List.length_drop]; omega
          obtain ⟨t1, t2⟩ := takeWhile_at (b := b.drop at_) (i := i - at_) hd (by rw [List.getElem_drop]; simpa [show at_ + (i - at_) = i from by omega] using h0) (fun j hj => by
            rw [List.getElem_drop]
            exact HM.out (at_ + j) (by omega) (by omega) (by omega))
          have hr := HR.out
          rw [t1, if_pos rfl, t2] at hr
          have hp := bts_part HB.out (lo := at_) (n := i - at_) (by omega)
          have hcs := conv_str hp
          have hs1 : (i : Int) - (at_ : Int) = ((i - at_ : Nat) : Int) := by omega
          have hs2 : (c : Int) - (at_ : Int) = ((c - at_ : Nat) : Int) := by omega
          have hneq : ¬ c = at_ := by omega
          have hat4 : (at_ : Int) ≤ (i : Int) := by omega
          have hic : (i : Int) ≤ (c : Int) := by omega
          generalize (b.drop at_).take (i - at_) = s at *
          subst hr
          clear hp t1 t2 hd hcell HM HR HB HN e2
          simp only [Option.map_some, Addr.add_lit] at hcs
          go_wp2_with fail

          go_ret2
          exact ⟨rfl, rfl⟩
        · have hy : b[i].toNat ≠ 0 := fun h => h0 (UInt8.toNat_inj.1 h)
          have hyz : ((b[i].toNat : Int) == 0) = false := by rw [beq_eq_false_iff_ne]; omega
          have HM2 : Hid (∀ j, at_ ≤ j → j < i + 1 → ∀ (h : j < b.length), b[j] ≠ 0) := Lib.hid fun j h1 h2 h3 => by
            rcases Nat.lt_or_ge j i with hj | hj
            · exact HM.out j h1 hj h3
            · obtain rfl : j = i := by omega
              exact h0
          generalize b[i].toNat = y at *
          clear hcell e2 h0 hy
          go_wp2_with fail
          go_roundw
          case rel => exact ⟨i + 1, by go_num, by omega, hin, HM2, trivial⟩
          case measure => simp [intOf]; omega
      · obtain rfl : i = n := Nat.le_antisymm hi hge
        have hc0 : (b.drop at_).contains 0 = false := by
          rw [Bool.eq_false_iff]
          intro h
          have h := List.contains_iff_mem.1 h
          obtain ⟨j, hj, he⟩ := List.getElem_of_mem h
          rw [List.length_drop] at hj
          rw [List.getElem_drop] at he
          exact HM.out (at_ + j) (by omega) (by rw [HN.out]; omega) (by omega) he
        have hr := HR.out
        rw [hc0, if_neg (by decide)] at hr
        subst hr
        go_wp2_with fail
        go_ret2
        exact ⟨rfl, rfl⟩
  · rw [if_pos hge] at hr
    subst hr
    obtain ⟨a, c, rfl, hc, hc2⟩ := hb.shape
    have hz : (b.length : Int) ≤ (at_ : Int) := by omega
    clear hb
    generalize b.length = n at *
    go_enter Tryz.func103, Tryz.ntmps103
    go_wp2_with fail
    go_ret2
    exact ⟨rfl, rfl⟩
end
end Go.Proofs.YtbnahidopemkiaaGreat
namespace Go.Dm.Ld
open Go Go.Dm.Oc
/-- what the entries make of an image -/
structure Nx where
  so : BS
  need : List BS
  names : List BS
  syms : List Sy
  rels : List Rl
def nx0 : Nx := ⟨[], [], [], [], []⟩
def finR (x : Nx) (y : Nat × List Rl) : Nat × Nx := if y.1 ≠ 0 then (y.1, nx0) else (0, { x with rels := y.2 })
theorem finR_1 (x : Nx) (y : Nat × List Rl) : (finR x y).1 = y.1 := by
  unfold finR
  split
  · rfl
  · rename_i h
    exact (Decidable.of_not_not h).symm
theorem finR_2 {x : Nx} {y : Nat × List Rl} (h : y.1 = 0) : (finR x y).2 = { x with rels := y.2 } := by
  unfold finR
  rw [if_neg (fun q => q h)]
theorem atI_len (b : BS) (l : List Sg) (a n : Nat) : (atI b l a n).2.length ≤ b.length := by
  unfold atI
  split
  · unfold cutM
    split
    · rw [List.length_take, List.length_drop]; omega
    · exact Nat.zero_le _
  · exact Nat.zero_le _
end Go.Dm.Ld
namespace Go.Proofs.YtbnahidopemkiaaGreat
open Go.RowKit Go.Dm Go.Dm.Oc Go.Dm.Ld
/-- what 'named' yields -/
def NmP (w : World) (h : Hd) (vs vb : Value) (r : Nat × Nx) (e : Ending) (w' : World) : Prop :=
  ∃ cs : Array Value, e = .returned (.tuple #[.agg cs, .int .i64 (r.1 : Nat)]) ∧ cs.size = 11 ∧ cs.all (·.oneCell') = true ∧ Keep No w w' ∧
    (r.1 = 0 → ∃ vn vm vy vr, cs = (imC h vs r.2.so vn vm vy vr vb).toArray ∧ Fl (fun k => w.heap.size + 3 ≤ k) w' 1 encS vn r.2.need ∧ Fl (fun k => w.heap.size + 3 ≤ k) w' 1 encS vm r.2.names ∧ Fl (fun k => w.heap.size + 3 ≤ k) w' 6 encSy vy r.2.syms ∧ Fl (fun k => w.heap.size + 3 ≤ k) w' 4 encRl vr r.2.rels)
theorem imC_one {h : Hd} {so : BS} {a1 a2 a3 a4 a5 a6 : Option Addr} {n1 n2 n3 n4 n5 n6 c1 c2 c3 c4 c5 c6 : Nat} :
    (imC h (.slice a1 n1 c1) so (.slice a2 n2 c2) (.slice a3 n3 c3) (.slice a4 n4 c4) (.slice a5 n5 c5) (.slice a6 n6 c6)).toArray.all (·.oneCell') = true := by
  simp [imC, Value.oneCell']
theorem fl_bts {A : Nat → Prop} {w : World} {v : Value} {l : List UInt8} (h : Fl A w 1 e8 v l) : Bts A w v l := by
  unfold Fl at h
  rw [e8_map] at h
  exact h
theorem im0C_one : im0C.toArray.all (·.oneCell') = true := by simp [im0C, Value.oneCell']
section
variable {A : Nat → Prop} {w : World} {v : Value}
section
variable {z0 z1 z2 z3 z4 z5 z6 z7 z8 z9 z10 z11 z12 z13 z14 z15 z16 z17 z18 z19 z20 z21 z22 z23 z24 z25 z26 z27 z28 z29 z30 z31 z32 z33 z34 z35 z36 z37 z38 z39 z40 z41 z42 z43 z44 z45 z46 z47 z48 z49 z50 z51 z52 z53 z54 z55 z56 z57 z58 z59 z60 z61 z62 z63 z64 z65 z66 z67 z68 z69 z70 z71 z72 z73 z74 z75 z76 z77 z78 z79 z80 z81 z82 z83 z84 z85 z86 z87 z88 z89 z90 z91 z92 z93 z94 z95 z96 z97 z98 z99 z100 z101 z102 z103 z104 z105 z106 z107 z108 z109 z110 z111 z112 z113 z114 z115 z116 z117 z118 z119 z120 z121 z122 z123 z124 z125 z126 z127 z128 z129 z130 z131 z132 z133 z134 z135 z136 z137 z138 z139 z140 z141 z142 z143 z144 z145 z146 z147 z148 z149 z150 z151 z152 z153 z154 z155 z156 z157 z158 z159 z160 z161 z162 z163 z164 z165 z166 z167 z168 z169 z170 z171 z172 z173 z174 z175 z176 z177 z178 z179 z180 z181 z182 z183 z184 z185 z186 z187 z188 z189 z190 z191 z192 z193 z194 z195 z196 z197 z198 z199 z200 z201 z202 z203 z204 z205 z206 z207 z208 z209 z210 z211 z212 z213 z214 z215 z216 z217 z218 z219 z220 z221 z222 z223 z224 z225 z226 z227 z228 z229 z230 : Value}
set_option maxRecDepth 100000 in
set_option maxHeartbeats 4000000 in
theorem named_c {db gv : Nat} {h : Hd} {so : BS} {vs vn vm vy vb vneed : Value} {V nd : List Nat} {l : List Sg} {b : BS} {need names : List BS} {syms : List Sy} {r : Nat × Nx} {w0 : World}
    (hX : Blk w0 w.heap.size (imC h vs so vn vm vy (.slice none 0 0) vb).toArray 70) (hR : Blk w0 (w.heap.size + 2) im0C.toArray 70)
    (hD : Blk w0 db #[vneed, .slice (some ⟨gv, 0, none⟩) 7 7] 121) (hV : Blk w0 gv (nums7 V) 44) (hV7 : V.length = 7) (hVl : ∀ x ∈ V, x < 18446744073709551616)
    (hs : Fl A w 7 encSg vs l) (hb : Bts A w vb b) (hbl : b.length ≤ 65536) (hok : ∀ x ∈ l, SgOk x) (hok2 : ∀ x ∈ l, x.ty = 1 → x.off + x.fi < 18446744073709551616)
    (hn : Fl (fun k => w.heap.size + 3 ≤ k) w0 1 encS vn need) (hm : Fl (fun k => w.heap.size + 3 ≤ k) w0 1 encS vm names) (hy : Fl (fun k => w.heap.size + 3 ≤ k) w0 6 encSy vy syms) (hsl : syms.length ≤ 1000000)
    (hr : r = finR ⟨so, need, names, syms, []⟩ (relsM b l ⟨nd, V⟩ syms.length)) (hk : Keep No w w0) (hw3 : w.heap.size + 3 ≤ w0.heap.size) (hdb : w.heap.size + 3 ≤ db) (hgv : w.heap.size + 3 ≤ gv) :
    Code.wp Tryz.prog (bodyFrom Tryz.f65 40) (bodyPost Tryz.prog Tryz.f65 (NmP w h vs vb r)) ⟨#[z0, z1, .pointer (some ⟨w.heap.size, 0, none⟩), z3, .pointer (some ⟨w.heap.size + 2, 0, none⟩), z5, z6, z7, .pointer (some ⟨db, 0, none⟩), z9, z10, z11, z12, z13, z14, z15, z16, z17, z18, z19, z20, z21, z22, z23, z24, z25, z26, z27, z28, z29, z30, z31, z32, z33, z34, z35, z36, z37, z38, z39, z40, z41, z42, z43, z44, z45, z46, z47, z48, z49, z50, z51, z52, z53, z54, z55, z56, z57, z58, z59, z60, z61, z62, z63, z64, z65, z66, z67, z68, z69, z70, z71, z72, z73, z74, z75, z76, z77, z78, z79, z80, z81, z82, z83, z84, z85, z86, z87, z88, z89, z90, z91, z92, z93, z94, z95, z96, z97, z98, z99, z100, z101, z102, z103, z104, z105, z106, z107, z108, z109, z110, z111, z112, z113, z114, z115, z116, z117, z118, z119, z120, z121, z122, z123, z124, z125, z126, z127, z128, z129, z130, z131, z132, z133, z134, z135, z136, z137, z138, z139, z140, z141, z142, z143, z144, z145, z146, z147, z148, z149, z150, z151, z152, z153, z154, z155, z156, z157, z158, z159, z160, z161, z162, z163, z164, z165, z166, z167, z168, z169, z170, z171, z172, z173, z174, z175, z176, z177, z178, z179, z180, z181, z182, z183, z184, z185, z186, z187, z188, z189, z190, z191, z192, z193, z194, z195, z196, z197, z198, z199, z200, z201, z202, z203, z204, z205, z206, z207, z208, z209, z210, z211, z212, z213, z214, z215, z216, z217, z218, z219, z220, z221, z222, z223, z224, z225, z226, z227, z228, z229, z230], []⟩ w0 := by
  have hby := fun W (k : Keep No w W) (addr size : Nat) (h1 : addr < 18446744073709551616) (h2 : size < 18446744073709551616) => r09bytes_any (w := W) h vs so vn vm vy (.slice none 0 0) vb l b addr size (hs.no k) (Sl.keep hb k fun _ _ _ h => h) (by omega) hok hok2 h1 h2
  have HBY := Lib.hid hby
  have l5 : V.getD 5 0 < 18446744073709551616 := hVl _ (by rw [List.getD_eq_getElem?_getD, List.getElem?_eq_getElem (by omega : 5 < V.length)]; exact List.getElem_mem _)
  have l6 : V.getD 6 0 < 18446744073709551616 := hVl _ (by rw [List.getD_eq_getElem?_getD, List.getElem?_eq_getElem (by omega : 6 < V.length)]; exact List.getElem_mem _)
  have c5 := (hV.cell 5).trans (nums7_at (by omega))
  have c6 := (hV.cell 6).trans (nums7_at (by omega))
  have cd : w0.cell? ⟨db, 1, none⟩ = some (.slice (some ⟨gv, 0, none⟩) 7 7) := hD.cell 1
  have hrel : relsM b l ⟨nd, V⟩ syms.length = if 65536 < V.getD 6 0 then (13, [])
    else if V.getD 6 0 = 0 then (0, [])
    else
      let c := atI b l (V.getD 5 0) (V.getD 6 0)
      if c.1 ≠ 0 then (c.1, [])
      else if (rlTab c.2).1 ≠ 0 then ((rlTab c.2).1, [])
      else (chkR syms.length (rlTab c.2).2, (rlTab c.2).2) := rfl
  rw [hrel] at hr
  have hal := atI_len b l (V.getD 5 0) (V.getD 6 0)
  have hbc := fun W (k : Keep No w W) => HBY.out W k (V.getD 5 0) (V.getD 6 0) l5 l6
  generalize V.getD 5 0 = v5 at *
  generalize V.getD 6 0 = v6 at *
  generalize atI b l v5 v6 = c at *
  have HR := Lib.hid hr
  have HBC := Lib.hid hbc
  obtain ⟨a1, p1, rfl, _, _⟩ := hs.shape
  obtain ⟨a2, p2, rfl, _, _⟩ := hn.shape
  obtain ⟨a3, p3, rfl, _, _⟩ := hm.shape
  obtain ⟨a4, p4, rfl, _, _⟩ := hy.shape
  obtain ⟨a6, p6, rfl, _, _⟩ := Sl.shape hb
  clear hr hrel hbc HBY hby hs hb hVl hok hok2
  conv => arg 2; whnf
  rcases Nat.lt_or_ge 65536 v6 with h6 | h6
  · have g6 : (65536 : Int) < (v6 : Int) := by omega
    have hr := HR.out
    rw [if_pos h6] at hr
    have hr : r = (13, nx0) := hr
    subst hr
    clear h6
    go_wp2_with (first | (with_reducible refine wl_ld rfl _ 70 rfl _ rfl ?_) | (with_reducible refine wl_stAgg rfl _ _ _ rfl _ _ rfl rfl ?_))
    refine rg_ld (hX) Tryz.underlying70 rfl (by kernel_rfl) ?_
    go_wp2_with (with_reducible refine wl_stAgg rfl _ _ _ rfl _ _ rfl rfl ?_)
    refine rg_stAgg (hR) (by kernel_rfl) (by rfl) imC_one ?_
    intro wf hBf hkf _
    go_wp2_with fail
    refine ret_blk_tmp rfl rfl hBf Tryz.underlying70 rfl (by kernel_rfl) rfl ?_
    exact ⟨_, rfl, rfl, imC_one, (hk).trans hkf (fun j hj e => by have e2 : j = w.heap.size + 2 := e; omega), fun q => absurd q (by first | assumption | omega | decide)⟩
  · have hr := HR.out
    rw [if_neg (by omega)] at hr
    have g6 : (v6 : Int) ≤ 65536 := by omega
    by_cases h0 : v6 = 0
    · rw [if_pos h0] at hr
      have hr : r = (0, ⟨so, need, names, syms, []⟩) := hr
      subst hr
      subst h0
      go_wp2_with (first | (with_reducible refine wl_ld rfl _ 70 rfl _ rfl ?_) | (with_reducible refine wl_stAgg rfl _ _ _ rfl _ _ rfl rfl ?_))
      refine rg_ld hX Tryz.underlying70 rfl (by kernel_rfl) ?_
      go_wp2_with (with_reducible refine wl_stAgg rfl _ _ _ rfl _ _ rfl rfl ?_)
      refine rg_stAgg hR (by kernel_rfl) (by rfl) imC_one ?_
      intro wf hBf hkf _
      go_wp2_with fail
      refine ret_blk_tmp rfl rfl hBf Tryz.underlying70 rfl (by kernel_rfl) rfl ?_
      have hne : ∀ j, j < w0.heap.size → w.heap.size + 3 ≤ j → ¬ j = w.heap.size + 2 := fun j _ ha e => by omega
      exact ⟨_, rfl, rfl, imC_one, hk.trans hkf (fun j hj e => by have e2 : j = w.heap.size + 2 := e; omega), fun _ => ⟨_, _, _, _, rfl, hn.keep hkf hne, hm.keep hkf hne, hy.keep hkf hne, Fl.nil⟩⟩
    · rw [if_neg h0] at hr
      have g0 : (0 : Int) < (v6 : Int) := by omega
      have HR2 := Lib.hid hr
      have hkd := hk.drew
      have hXd := hX.keep ((Keep.refl No w0).drew) fun h => h
      have hSS : ∀ W, Keep No w0 W → Blk W w.heap.size (imC h (.slice a1 l.length p1) so (.slice a2 need.length p2) (.slice a3 names.length p3) (.slice a4 syms.length p4) (.slice none 0 0) (.slice a6 b.length p6)).toArray 70 ∧ W.cell? ⟨db, 1, none⟩ = some (.slice (some ⟨gv, 0, none⟩) 7 7) ∧ W.cell? ⟨gv, 5, none⟩ = some (.int .u64 (v5 : Int)) ∧ W.cell? ⟨gv, 6, none⟩ = some (.int .u64 (v6 : Int)) := fun W k =>
        ⟨hX.keep k fun h => h, (k.cell (p := ⟨db, 1, none⟩) hD.lt fun h => h).trans cd, (k.cell (p := ⟨gv, 5, none⟩) hV.lt fun h => h).trans c5, (k.cell (p := ⟨gv, 6, none⟩) hV.lt fun h => h).trans c6⟩
      have HSS := Lib.hid hSS
      clear hr HR h0 h6 hSS
      go_upto_region 43 with fail
      refine wp_region_sig (fun W => Blk W w.heap.size (imC h (.slice a1 l.length p1) so (.slice a2 need.length p2) (.slice a3 names.length p3) (.slice a4 syms.length p4) (.slice none 0 0) (.slice a6 b.length p6)).toArray 70 ∧ W.cell? ⟨db, 1, none⟩ = some (.slice (some ⟨gv, 0, none⟩) 7 7) ∧ W.cell? ⟨gv, 5, none⟩ = some (.int .u64 (v5 : Int)) ∧ W.cell? ⟨gv, 6, none⟩ = some (.int .u64 (v6 : Int))) (fun j => decide (j ≤ 99)) [(0, true), (1, true), (2, true), (3, true), (4, true), (5, true), (6, true), (7, true), (8, true), (9, false), (10, true), (11, true), (12, true), (13, true), (14, true)] (by kernel_rfl) (by kernel_rfl) (by intro c a d v w h; cases d <;> exact h) (HSS.out _ (Keep.refl _ _).drew) ?_
      apply sig_still (o := ⟨some 197, _, _, _, _, _⟩) rfl rfl
      · intro w' hS
        exact run_ldo _ _ rfl w.heap.size 0 rfl (run_loadVar_row w' w.heap.size 70 70 _ _ _ hS.1 Tryz.underlying70 rfl (by kernel_rfl))
      go_frame
      apply sig_still (o := ⟨some 198, _, _, _, _, _⟩) rfl rfl
      · intro w' hS
        obtain ⟨q1, q2, q3, q4⟩ := hS
        first | (go_simp; done) | (go_simp; rfl) | rfl
      go_frame
      apply sig_still (o := ⟨some 199, _, _, _, _, _⟩) rfl rfl
      · intro w' hS
        obtain ⟨q1, q2, q3, q4⟩ := hS
        first | (go_simp; done) | (go_simp; rfl) | rfl
      go_frame
      apply sig_still (o := ⟨some 200, _, _, _, _, _⟩) rfl rfl
      · intro w' hS
        obtain ⟨q1, q2, q3, q4⟩ := hS
        first | (go_simp; done) | (go_simp; rfl) | rfl
      go_frame
      apply sig_still (o := ⟨some 201, _, _, _, _, _⟩) rfl rfl
      · intro w' hS
        obtain ⟨q1, q2, q3, q4⟩ := hS
        first | (go_simp; done) | (go_simp; rfl) | rfl
      go_frame
      apply sig_still (o := ⟨some 202, _, _, _, _, _⟩) rfl rfl
      · intro w' hS
        obtain ⟨q1, q2, q3, q4⟩ := hS
        first | (go_simp; done) | (go_simp; rfl) | rfl
      go_frame
      apply sig_still (o := ⟨some 203, _, _, _, _, _⟩) rfl rfl
      · intro w' hS
        obtain ⟨q1, q2, q3, q4⟩ := hS
        first | (go_simp; done) | (go_simp; rfl) | rfl
      go_frame
      apply sig_still (o := ⟨some 204, _, _, _, _, _⟩) rfl rfl
      · intro w' hS
        obtain ⟨q1, q2, q3, q4⟩ := hS
        first | (go_simp; done) | (go_simp; rfl) | rfl
      go_frame
      apply sig_still (o := ⟨some 205, _, _, _, _, _⟩) rfl rfl
      · intro w' hS
        obtain ⟨q1, q2, q3, q4⟩ := hS
        first | (go_simp; done) | (go_simp; rfl) | rfl
      go_frame
      refine sig_eff (o := ⟨some 206, _, _, _, _, _⟩) rfl rfl (fun K hKe => ?_)
      go_wp2_with fail
      refine (HBC.out _ hkd).mono ?_
      rintro e w3 ⟨v3, rfl, h3, hk3⟩
      have hk03 : Keep No w0 w3 := ((Keep.refl No w0).drew).trans' hk3
      refine hKe _ _ ⟨fun _ => HSS.out _ hk03, ?_⟩
      apply sig_still (o := ⟨some 196, _, _, _, _, _⟩) rfl rfl
      · intro w' hS
        obtain ⟨q1, q2, q3, q4⟩ := hS
        first | (go_simp; done) | (go_simp; rfl) | rfl
      go_frame
      apply sig_still (o := ⟨some 207, _, _, _, _, _⟩) rfl rfl
      · intro w' hS
        obtain ⟨q1, q2, q3, q4⟩ := hS
        first | (go_simp; done) | (go_simp; rfl) | rfl
      go_frame
      apply sig_still (o := ⟨some 208, _, _, _, _, _⟩) rfl rfl
      · intro w' hS
        obtain ⟨q1, q2, q3, q4⟩ := hS
        first | (go_simp; done) | (go_simp; rfl) | rfl
      go_frame
      apply sig_still (o := ⟨some 22, _, _, _, _, _⟩) rfl rfl
      · intro w' hS
        obtain ⟨q1, q2, q3, q4⟩ := hS
        first | (go_simp; done) | (go_simp; rfl) | rfl
      go_frame
      apply sig_still (o := ⟨some 23, _, _, _, _, _⟩) rfl rfl
      · intro w' hS
        obtain ⟨q1, q2, q3, q4⟩ := hS
        first | (go_simp; done) | (go_simp; rfl) | rfl
      go_frame
      refine sig_nil ?_
      have hkw3 := hk.trans' hk03
      have hX3 := hX.keep hk03 fun h => h
      have hR3 := hR.keep hk03 fun h => h
      have hn3 := hn.no hk03
      have hm3 := hm.no hk03
      have hy3 := hy.no hk03
      have hw33 := Nat.le_trans hw3 hk03.size
      obtain ⟨ce, cb⟩ := c
      dsimp only at h3 HR2 hal
      obtain ⟨av, nv, cv, rfl⟩ : ∃ a n c, v3 = .slice a n c := by
        obtain ⟨a, c, e, _⟩ := h3.fl.shape
        exact ⟨_, _, _, e⟩
      clear hX hR hn hm hy hk hXd hkd HSS hk3 hKe HBC c5 c6 cd hD hV
      by_cases hce : ce = 0
      · subst hce
        have hr := HR2.out
        rw [if_neg (by decide)] at hr
        have HR3 := Lib.hid hr
        clear hr HR2
        have hbc := fl_bts h3.fl
        have htab := r07tab_any cb hbc (by omega)
        have hrl := rlTab_ok cb
        generalize rlTab cb = rt at *
        obtain ⟨re, rl⟩ := rt
        dsimp only at htab HR3 hrl
        go_wp2_with fail
        refine htab.mono ?_
        clear htab
        rintro e w4 ⟨v4, rfl, h4, hk4⟩
        obtain ⟨ar, nr, cr, rfl⟩ : ∃ a n c, v4 = .slice a n c := by
          obtain ⟨a, c, e, _⟩ := h4.fl.shape
          exact ⟨_, _, _, e⟩
        have hX4 := hX3.keep hk4 fun h => h
        have hR4 := hR3.keep hk4 fun h => h
        have hn4 := hn3.no hk4
        have hm4 := hm3.no hk4
        have hy4 := hy3.no hk4
        have hkw4 := hkw3.trans' hk4
        have hw44 := Nat.le_trans hw33 hk4.size
        have hr4 : Fl (fun k => w.heap.size + 3 ≤ k) w4 4 encRl (.slice ar nr cr) rl := (h4.fl).mono fun j _ ha => Nat.le_trans hw33 ha.1
        clear hX3 hR3 hn3 hm3 hy3 h3 hk4 hbc
        by_cases hre : re = 0
        · subst hre
          have hr := HR3.out
          rw [if_neg (by decide)] at hr
          have HR4 := Lib.hid hr
          clear hr HR3
          have hchk := fun W (k : Keep (fun j => j = w.heap.size) w4 W) => r07chk_any (w := W) rl syms.length (hr4.keep k fun j _ ha e => by have e2 : j = w.heap.size := e; omega) hrl (by omega)
          obtain rfl := fl_len hr4
          generalize chkR syms.length rl = er at *
          have HCH := Lib.hid hchk
          clear hchk
          have x9 := hX4.cell 9
          have f9 := hX4.frozen 9
          have hX5 : Blk (w4.setCell ⟨w.heap.size, 9, none⟩ (.slice ar rl.length cr)) w.heap.size (imC h (.slice a1 l.length p1) so (.slice a2 need.length p2) (.slice a3 names.length p3) (.slice a4 syms.length p4) (.slice ar rl.length cr) (.slice a6 b.length p6)).toArray 70 := hX4.set (i := 9) (.slice ar rl.length cr)
          have hk5 : Keep (fun j => j = w.heap.size) w4 (w4.setCell ⟨w.heap.size, 9, none⟩ (.slice ar rl.length cr)) := (Keep.refl (fun j => j = w.heap.size) w4).setCell (p := ⟨w.heap.size, 9, none⟩) (fun _ => rfl) _
          go_wp2_with fail
          have hR5 := hR4.keep hk5 fun e => by have e2 : w.heap.size + 2 = w.heap.size := e; omega
          have hne5 : ∀ j, j < w4.heap.size → w.heap.size + 3 ≤ j → ¬ j = w.heap.size := fun j _ ha e => by omega
          have hn5 := hn4.keep hk5 hne5
          have hm5 := hm4.keep hk5 hne5
          have hy5 := hy4.keep hk5 hne5
          have hr5 := hr4.keep hk5 hne5
          have hkw5 : Keep No w _ := hkw4.trans hk5 fun j hj e => by have e2 : j = w.heap.size := e; omega
          have hc5 := fun W (k : Keep No _ W) => HCH.out W (hk5.trans k fun _ _ h => h.elim)
          generalize w4.setCell ⟨w.heap.size, 9, none⟩ (.slice ar rl.length cr) = w5 at *
          have HC5 := Lib.hid hc5
          have x5 : w5.cell? ⟨w.heap.size, 8, none⟩ = some (.slice a4 syms.length p4) := hX5.cell 8
          clear hX4 hR4 hn4 hm4 hy4 hr4 hkw4 hc5 HCH hk5 hne5 x9 f9
          go_upto_region 50 with fail
          refine wp_region_sig (fun W => Blk W w.heap.size (imC h (.slice a1 l.length p1) so (.slice a2 need.length p2) (.slice a3 names.length p3) (.slice a4 syms.length p4) (.slice ar rl.length cr) (.slice a6 b.length p6)).toArray 70 ∧ W.cell? ⟨w.heap.size, 8, none⟩ = some (.slice a4 syms.length p4)) (fun j => decide (j ≤ 99)) [(0, true), (1, true), (2, true), (3, true), (4, true), (5, false), (6, false), (7, false)] (by kernel_rfl) (by kernel_rfl) (by intro c a d v w h; cases d <;> exact h) ⟨hX5.keep (Keep.refl No w5).drew fun h => h, x5⟩ ?_
          apply sig_still (o := ⟨some 224, _, _, _, _, _⟩) rfl rfl
          · intro w' hS
            exact run_ldo _ _ rfl w.heap.size 0 rfl (run_loadVar_row w' w.heap.size 70 70 _ _ _ hS.1 Tryz.underlying70 rfl (by kernel_rfl))
          go_frame
          apply sig_still (o := ⟨some 225, _, _, _, _, _⟩) rfl rfl
          · intro w' hS
            obtain ⟨q1, q2⟩ := hS
            first | (go_simp; done) | (go_simp; rfl) | rfl
          go_frame
          apply sig_still (o := ⟨some 226, _, _, _, _, _⟩) rfl rfl
          · intro w' hS
            obtain ⟨q1, q2⟩ := hS
            first | (go_simp; done) | (go_simp; rfl) | rfl
          go_frame
          apply sig_still (o := ⟨some 227, _, _, _, _, _⟩) rfl rfl
          · intro w' hS
            obtain ⟨q1, q2⟩ := hS
            first | (go_simp; done) | (go_simp; rfl) | rfl
          go_frame
          apply sig_still (o := ⟨some 228, _, _, _, _, _⟩) rfl rfl
          · intro w' hS
            obtain ⟨q1, q2⟩ := hS
            first | (go_simp; done) | (go_simp; rfl) | rfl
          go_frame
          refine sig_eff (o := ⟨some 229, _, _, _, _, _⟩) rfl rfl (fun K hKe => ?_)
          go_wp2_with fail
          refine (HC5.out _ (Keep.refl No w5).drew).mono ?_
          rintro e w6 ⟨rfl, hk6⟩
          have hk56 : Keep No w5 w6 := ((Keep.refl No w5).drew).trans' hk6
          have hX6 := hX5.keep hk56 fun h => h
          have hR6 := hR5.keep hk56 fun h => h
          have hw65 := hk56.size
          refine hKe _ _ ⟨fun _ => ⟨hX6, hX6.cell 8⟩, ?_⟩
          refine sig_eff (o := ⟨none, _, _, _, _, _⟩) rfl rfl (fun K hKe => ?_)
          refine wo_stAgg (.tmp 4) (.tmp 224) 70 rfl _ _ rfl rfl ?_
          refine rg_stAgg hR6 (by kernel_rfl) (by rfl) imC_one ?_
          intro wf hBf hkf _
          have hXf := hX6.keep hkf fun e => by have e2 : w.heap.size = w.heap.size + 2 := e; omega
          refine hKe _ _ ⟨fun _ => ⟨hXf, hXf.cell 8⟩, ?_⟩
          refine sig_eff (o := ⟨some 5, _, _, _, _, _⟩) rfl rfl (fun K hKe => ?_)
          go_wp2_with fail
          refine ⟨fun _ => ⟨hXf, hXf.cell 8⟩, ?_⟩
          refine sig_nil ?_
          go_wp2_with fail
          refine ret_blk_tmp rfl rfl hBf Tryz.underlying70 rfl (by kernel_rfl) rfl ?_
          have hkf2 : Keep (fun j => j = w.heap.size + 2) w5 wf := (hk56.mono fun _ _ h => h.elim).trans' hkf
          have hne : ∀ j, j < w5.heap.size → w.heap.size + 3 ≤ j → ¬ j = w.heap.size + 2 := fun j _ ha e => by omega
          have hr1 : r.1 = er := by rw [HR4.out, finR_1]
          refine ⟨(imC h (.slice a1 l.length p1) so (.slice a2 need.length p2) (.slice a3 names.length p3) (.slice a4 syms.length p4) (.slice ar rl.length cr) (.slice a6 b.length p6)).toArray, by rw [hr1]; rfl, rfl, imC_one, hkw5.trans hkf2 (fun j hj e => by have e2 : j = w.heap.size + 2 := e; omega), fun q => ?_⟩
          have hr2 : r.2 = ⟨so, need, names, syms, rl⟩ := by rw [HR4.out, finR_2 (by rw [← hr1]; exact q)]
          rw [hr2]
          exact ⟨_, _, _, _, rfl, hn5.keep hkf2 hne, hm5.keep hkf2 hne, hy5.keep hkf2 hne, hr5.keep hkf2 hne⟩
        · have gr : ((re : Int) != 0) = true := by rw [bne_iff_ne]; omega
          have hr := HR3.out
          rw [if_pos hre] at hr
          have hr : r = (re, nx0) := by rw [hr]; unfold finR; rw [if_pos hre]
          subst hr
          go_wp2_with (first | (with_reducible refine wl_ld rfl _ 70 rfl _ rfl ?_) | (with_reducible refine wl_stAgg rfl _ _ _ rfl _ _ rfl rfl ?_))
          refine rg_ld (hX4) Tryz.underlying70 rfl (by kernel_rfl) ?_
          go_wp2_with (with_reducible refine wl_stAgg rfl _ _ _ rfl _ _ rfl rfl ?_)
          refine rg_stAgg (hR4) (by kernel_rfl) (by rfl) imC_one ?_
          intro wf hBf hkf _
          go_wp2_with fail
          refine ret_blk_tmp rfl rfl hBf Tryz.underlying70 rfl (by kernel_rfl) rfl ?_
          exact ⟨_, rfl, rfl, imC_one, (hkw4).trans hkf (fun j hj e => by have e2 : j = w.heap.size + 2 := e; omega), fun q => absurd q (by first | assumption | omega | decide)⟩
      · have gc : ((ce : Int) != 0) = true := by rw [bne_iff_ne]; omega
        have hr := HR2.out
        rw [if_pos hce] at hr
        have hr : r = (ce, nx0) := by rw [hr]; unfold finR; rw [if_pos hce]
        subst hr
        go_wp2_with (first | (with_reducible refine wl_ld rfl _ 70 rfl _ rfl ?_) | (with_reducible refine wl_stAgg rfl _ _ _ rfl _ _ rfl rfl ?_))
        refine rg_ld (hX3) Tryz.underlying70 rfl (by kernel_rfl) ?_
        go_wp2_with (with_reducible refine wl_stAgg rfl _ _ _ rfl _ _ rfl rfl ?_)
        refine rg_stAgg (hR3) (by kernel_rfl) (by rfl) imC_one ?_
        intro wf hBf hkf _
        go_wp2_with fail
        refine ret_blk_tmp rfl rfl hBf Tryz.underlying70 rfl (by kernel_rfl) rfl ?_
        exact ⟨_, rfl, rfl, imC_one, (hkw3).trans hkf (fun j hj e => by have e2 : j = w.heap.size + 2 := e; omega), fun q => absurd q (by first | assumption | omega | decide)⟩
end
end
end Go.Proofs.YtbnahidopemkiaaGreat
namespace Go.Dm.Ld
open Go
/-- chkS, from a place on -/
def chkSG (l : List Sy) (i : Nat) : Nat := if i = 0 then chkS l else if (l.drop i).all mayS then 0 else 11
theorem chkSG_step {l : List Sy} {i : Nat} (hi : i < l.length) : chkSG l i = if (if i = 0 then decide (l[i] = sy0) else mayS l[i]) = true then chkSG l (i + 1) else 11 := by
  unfold chkSG
  rw [if_neg (show ¬ i + 1 = 0 by omega)]
  by_cases h0 : i = 0
  · subst h0
    rw [if_pos rfl, if_pos rfl]
    cases l with
    | nil => simp at hi
    | cons s r =>
      have e : chkS (s :: r) = if s = sy0 ∧ r.all mayS = true then 0 else 11 := rfl
      rw [e, List.getElem_cons_zero, List.drop_succ_cons, List.drop_zero]
      by_cases hs : s = sy0 <;> cases hr : r.all mayS <;> simp [hs]
  · rw [if_neg h0, if_neg h0, List.drop_eq_getElem_cons hi, List.all_cons]
    cases mayS l[i] with
    | true => rw [Bool.true_and, if_pos rfl]
    | false => rw [Bool.false_and, if_neg (by decide), if_neg (by decide)]
end Go.Dm.Ld
namespace Go.Proofs.YtbnahidopemkiaaGreat
open Go.RowKit Go.Dm Go.Dm.Oc Go.Dm.Ld
section
variable {A : Nat → Prop} {w : World} {v : Value}
set_option maxRecDepth 100000 in
set_option maxHeartbeats 4000000 in
theorem r06chk_any (l : List Sy) (hl : Fl A w 6 encSy v l) (hok : ∀ x ∈ l, SyOk x) :
    Calls Tryz.prog 105 #[v] w fun e w' => e = .returned (.int .i64 (chkSG l 0 : Nat)) ∧ Keep No w w' := by
  have HL := Lib.hid hl
  have HOK := Lib.hid hok
  obtain ⟨ao, co, rfl, hc1, hc2⟩ := hl.shape
  have hib : (l.length : Int) ≤ 9223372036854775807 := by unfold maxLen at hc2; omega
  obtain ⟨r, hr⟩ : ∃ r, r = chkSG l 0 := ⟨_, rfl⟩
  rw [← hr]
  have HR : Hid (r = chkSG l 0 ∨ (l = [] ∧ r = chkSG l 0)) := Lib.hid (.inl hr)
  obtain ⟨n, hn⟩ : ∃ n, n = l.length := ⟨_, rfl⟩
  have HN := Lib.hid hn
  rw [← hn] at hib ⊢
  clear hl hc1 hc2 hr hn hok
  go_enter Tryz.func105, Tryz.ntmps105
  go_wp2_with fail
  go_loopw [3, 4, 5, 6] (fun iv _ _ _ wr => ∃ i : Nat, iv = .int .i64 (i : Int) ∧ i ≤ n ∧ Hid (r = chkSG l i ∨ (l = [] ∧ r = chkSG l 0)) ∧ Keep No w wr) (fun iv _ _ _ _ => n - (intOf iv).toNat)
  case atStart => exact ⟨0, rfl, Nat.zero_le _, HR, Keep.refl _ _⟩
  case round =>
    obtain ⟨i, rfl, hi, HM, hk⟩ := hrel
    clear HR
    generalize wr = wz at *
    rcases Nat.lt_or_ge i n with hlt | hge
    · have hil : i < l.length := by rw [← HN.out]; exact hlt
      obtain ⟨g, off, cap, ev, _, hg, _, _, hc⟩ := (HL.out.no hk).at encSy_len hil
      rw [← HN.out] at ev
      injection ev with e1 e2 e3
      subst e1 e3
      have hiz : (i : Int) < (n : Int) := by omega
      have hsk := HOK.out _ (List.getElem_mem hil)
      have hm2 : r = chkSG l i := by
        rcases HM.out with h | ⟨h, _⟩
        · exact h
        · rw [h] at hil; simp at hil
      rw [chkSG_step hil] at hm2
      generalize l[i] = s at *
      have hone : (encSy s).toArray.all (·.oneCell') = true := by simp [encSy, Value.oneCell']
      have hgo : (if i = 0 then decide (s = sy0) else mayS s) = true → (r = chkSG l (i + 1) ∨ (l = [] ∧ r = chkSG l 0)) := fun h => .inl (by rw [hm2, if_pos h])
      have hst : (if i = 0 then decide (s = sy0) else mayS s) = false → r = 11 := fun h => by rw [hm2, if_neg (by rw [h]; decide)]
      have HGO := Lib.hid hgo
      have HST := Lib.hid hst
      clear hgo hst hm2 HM e2
      go_wp2_with (first | (with_reducible refine wl_ld rfl _ 46 rfl _ rfl ?_) | (with_reducible refine wl_stAgg rfl _ _ _ rfl _ _ rfl rfl ?_))
      refine rg_lds (l := encSy s) hc Tryz.underlying46 rfl (by kernel_rfl) ?_
      go_wp2_with (first | (with_reducible refine wl_ld rfl _ 46 rfl _ rfl ?_) | (with_reducible refine wl_stAgg rfl _ _ _ rfl _ _ rfl rfl ?_))
      have hkW : Keep No wz (wz.alloc (.cells #[.int .u32 0, .int .u8 0, .int .u8 0, .int .u16 0, .int .u64 0, .int .u64 0] 46)) := (Keep.refl _ _).alloc _
      have hBW : Blk (wz.alloc (.cells #[.int .u32 0, .int .u8 0, .int .u8 0, .int .u16 0, .int .u64 0, .int .u64 0] 46)) wz.heap.size #[.int .u32 0, .int .u8 0, .int .u8 0, .int .u16 0, .int .u64 0, .int .u64 0] 46 := Blk.new _ _ _
      have hzW : (wz.alloc (.cells #[.int .u32 0, .int .u8 0, .int .u8 0, .int .u16 0, .int .u64 0, .int .u64 0] 46)).heap.size = wz.heap.size + 1 := World.size_alloc _ _
      generalize wz.alloc (.cells #[.int .u32 0, .int .u8 0, .int .u8 0, .int .u16 0, .int .u64 0, .int .u64 0] 46) = W at *
      refine rg_stAgg hBW (by kernel_rfl) (by rfl) hone ?_
      intro w3 hB3 hk3 hz3
      have hkF : Keep No w w3 := hk.trans' (hkW.trans hk3 fun j hj e => by have e2 : j = wz.heap.size := e; omega)
      clear hBW hkW hzW hk3 hz3 hc hk hone
      obtain ⟨y0, y1, y2, y3, y4, y5⟩ := s
      obtain ⟨b0, b1, b2, b3, b4, b5⟩ := hsk
      dsimp only at b0 b1 b2 b3 b4 b5
      have d0 : w3.cell? ⟨wz.heap.size, 0, none⟩ = some (.int .u32 (y0 : Int)) := hB3.cell 0
      have d1 : w3.cell? ⟨wz.heap.size, 1, none⟩ = some (.int .u8 (y1 : Int)) := hB3.cell 1
      have d2 : w3.cell? ⟨wz.heap.size, 2, none⟩ = some (.int .u8 (y2 : Int)) := hB3.cell 2
      have d3 : w3.cell? ⟨wz.heap.size, 3, none⟩ = some (.int .u16 (y3 : Int)) := hB3.cell 3
      have d4 : w3.cell? ⟨wz.heap.size, 4, none⟩ = some (.int .u64 (y4 : Int)) := hB3.cell 4
      have d5 : w3.cell? ⟨wz.heap.size, 5, none⟩ = some (.int .u64 (y5 : Int)) := hB3.cell 5
      clear hB3
      by_cases hi0 : i = 0
      · subst hi0
        rw [if_pos rfl] at HGO HST
        have hs0 : decide ((⟨y0, y1, y2, y3, y4, y5⟩ : Sy) = sy0) = decide (y0 = 0 ∧ y1 = 0 ∧ y2 = 0 ∧ y3 = 0 ∧ y4 = 0 ∧ y5 = 0) := by
          congr 1
          simp [sy0]
        rw [hs0] at HGO HST
        clear hs0
        go_wp2_with fail
        all_goals first
          | (go_roundw
             case rel => exact ⟨1, by go_num, hlt, Lib.hid (HGO.out (by rw [decide_eq_true_eq]; first | omega | (simp only [bne_eq_false_iff_eq, bne_iff_ne, ne_eq, beq_iff_eq] at *; omega))), hkF⟩
             case measure => simp [intOf]; omega)
          | (have hr := HST.out (by rw [decide_eq_false_iff_not]; first | omega | (simp only [bne_eq_false_iff_eq, bne_iff_ne, ne_eq, beq_iff_eq] at *; omega))
             subst hr
             go_ret
             exact ⟨rfl, hkF⟩)
      · rw [if_neg hi0] at HGO HST
        have gi : ((i : Int) == 0) = false := by rw [beq_eq_false_iff_ne]; omega
        have hmay : mayS ⟨y0, y1, y2, y3, y4, y5⟩ = decide ((y1 / 16 ≤ 2 ∧ (y1 % 16 = 0 ∨ y1 % 16 = 1 ∨ y1 % 16 = 2 ∨ y1 % 16 = 6) ∧ y2 = 0 ∧ y3 ≤ 1 ∧ y0 ≠ 0) ∧ (y3 ≠ 0 ∨ (y4 = 0 ∧ y5 = 0 ∧ y1 / 16 ≠ 0))) := by
          unfold mayS
          dsimp only
          rw [Bool.eq_iff_iff]
          simp only [Bool.and_eq_true, Bool.or_eq_true, decide_eq_true_eq]
          constructor <;> (intro h; omega)
        rw [hmay] at HGO HST
        clear hmay
        go_wp2_with fail
        all_goals first
          | (go_roundw
             case rel => exact ⟨i + 1, by go_num, hlt, Lib.hid (HGO.out (by rw [decide_eq_true_eq]; simp only [bne_eq_false_iff_eq, bne_iff_ne, ne_eq, beq_iff_eq, beq_eq_false_iff_ne] at *; omega)), hkF⟩
             case measure => simp [intOf]; omega)
          | (have hr := HST.out (by rw [decide_eq_false_iff_not]; simp only [bne_eq_false_iff_eq, bne_iff_ne, ne_eq, beq_iff_eq, beq_eq_false_iff_ne] at *; omega)
             subst hr
             go_ret
             exact ⟨rfl, hkF⟩)
    · obtain rfl : i = n := Nat.le_antisymm hi hge
      have hr : r = 0 := by
        rcases HM.out with h | ⟨h, h2⟩
        · rw [h]
          unfold chkSG
          by_cases h0 : i = 0
          · rw [if_pos h0]
            have : l = [] := List.length_eq_zero_iff.1 (by rw [← HN.out]; exact h0)
            rw [this]
            rfl
          · rw [if_neg h0, List.drop_of_length_le (by rw [← HN.out]; exact Nat.le_refl _)]
            rfl
        · rw [h2, h]
          rfl
      subst hr
      go_wp2_with fail
      go_ret
      exact ⟨rfl, hk⟩
end
end Go.Proofs.YtbnahidopemkiaaGreat
