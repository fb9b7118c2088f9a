/- The document's relocations: Table, Known, Check. No condition. -/
import Derived.Test.YtbnahidopemkiaaGreatDz5
import Derived.Test.YtbnahidopemkiaaGreatRl2
import Derived.BigQuiet
set_option linter.unusedVariables false
set_option linter.unusedSimpArgs false
namespace Go.Proofs.YtbnahidopemkiaaGreat
open Go.RowKit Go.Dm Go.Dm.Oc Go.Dm.Ld
section
variable {A : Nat → Prop} {w : World} {v : Value}
theorem wrap64_addI (y : Nat) : wrap64 (y : Int) = addI y := by
  unfold wrap64 addI
  rw [IntKind.wrap_i64]
theorem r07known_any (t : Nat) (w : World) : Calls Tryz.prog 130 #[.int .u32 (t : Int)] w fun e w' => e = .returned (.bool (knownB t)) ∧ w = w' := by
  go_enter Tryz.func130, Tryz.ntmps130
  go_wp2_with fail
  all_goals
    go_ret
    refine ⟨congrArg (fun b => Ending.returned (Value.bool b)) ?_, rfl⟩
    rw [Bool.eq_iff_iff]
    simp only [knownB, decide_eq_true_eq, true_iff, Bool.or_eq_true, beq_iff_eq]
    omega
set_option maxRecDepth 100000 in
set_option maxHeartbeats 2000000 in
theorem r07tab_any (b : BS) (hb : Bts A w v b) (hl : b.length ≤ 1000000000) :
    Calls Tryz.prog 106 #[v] w fun e w' => ∃ v', e = .returned (.tuple #[v', .int .i64 ((rlTab b).1 : Nat)]) ∧ FlO w' w.heap.size 115 4 encRl v' (rlTab b).2 ∧ Keep No w w' := by
  have HB := Lib.hid hb
  obtain ⟨ao, co, rfl, hc1, hc2⟩ := hb.shape
  obtain ⟨r, hr⟩ : ∃ r, r = rlTab b := ⟨_, rfl⟩
  rw [← hr]
  unfold rlTab at hr
  have HR := Lib.hid hr
  clear hr hb
  have hg1 := fun W (k : Keep No w W) (p : Nat) (hp : p < 4000000000) => r01get_any (w := W) b p 8 (Sl.keep HB.out k fun _ _ _ h => h) (by omega) (by omega) (by decide) (by decide)
  have HG := Lib.hid hg1
  obtain ⟨n, hn⟩ : ∃ n, n = b.length := ⟨_, rfl⟩
  have HN := Lib.hid hn
  rw [← hn] at hl HG ⊢
  clear hg1 hc1 hc2 hn
  by_cases hm : n % 24 = 0
  · have hr := HR.out
    rw [if_pos (by rw [← HN.out]; exact hm)] at hr
    have HR2 := Lib.hid hr
    have g1 : ((n : Int) % 24 != 0) = false := by rw [bne_eq_false_iff_eq]; omega
    have g2 : ((n : Int).tmod 24 != 0) = false := by rw [bne_eq_false_iff_eq, Int.tmod_eq_emod_of_nonneg (by omega)]; omega
    have hnz : (n : Int) ≤ 1000000000 := by omega
    have hO0 : Out w w 115 4 encRl (.slice none 0 0) ((List.range 0).map fun i => rlIn b (24 * i)) := ⟨FlO.nil, Keep.refl _ _⟩
    clear hr HR
    go_enter Tryz.func106, Tryz.ntmps106
    go_wp2_with fail
    go_loopw [4, 5, 6, 7, 8, 9, 10, 11] (fun ov iv _ _ _ _ _ _ wr => ∃ j p : Nat, iv = .int .i64 (p : Int) ∧ p = 24 * j ∧ p ≤ n ∧ Out w wr 115 4 encRl ov ((List.range j).map fun i => rlIn b (24 * i))) (fun _ iv _ _ _ _ _ _ _ => n - (intOf iv).toNat)
    case atStart => exact ⟨0, 0, rfl, rfl, Nat.zero_le _, hO0⟩
    case round =>
      obtain ⟨j, p, rfl, hp, hpn, hO⟩ := hrel
      have HP := Lib.hid hp
      clear hO0
      generalize wr = wz at *
      have hkz := hO.old (Keep.refl _ _)
      obtain ⟨ax, nx, cx, rfl⟩ := hO.sh
      rcases Nat.lt_or_ge p n with hlt | hge
      · have hpz : (p : Int) < (n : Int) := by omega
        have hp24 : p + 24 ≤ n := by omega
        have c1 := HG.out wz hkz p (by omega)
        have c2 := HG.out wz hkz (p + 8) (by omega)
        have c3 := HG.out wz hkz (p + 16) (by omega)
        have hsp := getX_split (b := b) (at_ := p + 8) (by rw [← HN.out]; omega)
        have hlo : getX b (p + 8) 4 < 4294967296 := getX_lt b (p + 8) 4
        have hhi : getX b (p + 8 + 4) 4 < 4294967296 := getX_lt b (p + 8 + 4) 4
        have hin : rlIn b p = ⟨getX b p 8, getX b (p + 8) 4, getX b (p + 8 + 4) 4, getX b (p + 16) 8⟩ := rfl
        have hrg : (List.range (j + 1)).map (fun i => rlIn b (24 * i)) = (List.range j).map (fun i => rlIn b (24 * i)) ++ [rlIn b p] := by
          rw [List.range_succ, List.map_append, List.map_singleton, ← hp]
        have hx1 : getX b p 8 < 18446744073709551616 := getX_lt b p 8
        have hx2 : getX b (p + 8) 8 < 18446744073709551616 := getX_lt b (p + 8) 8
        have hx3 : getX b (p + 16) 8 < 18446744073709551616 := getX_lt b (p + 16) 8
        rw [hin] at hrg
        generalize getX b (p + 8) 4 = lo at *
        generalize getX b (p + 8 + 4) 4 = hi at *
        generalize getX b p 8 = y1 at *
        generalize getX b (p + 8) 8 = y2 at *
        generalize getX b (p + 16) 8 = y3 at *
        generalize fitsE n p 8 = e1 at *
        generalize fitsE n (p + 8) 8 = e2 at *
        generalize fitsE n (p + 16) 8 = e3 at *
        have q1 : (y2 : Int) % 4294967296 = (lo : Int) := by omega
        have q2 : (y2 : Int) / 4294967296 = (hi : Int) := by omega
        have q3 : IntKind.u64.wrap ((y2 : Int).tdiv 4294967296) = (hi : Int) := by rw [Int.tdiv_eq_ediv_of_nonneg (by omega), IntKind.wrap_u64]; omega
        have q4 : IntKind.u32.wrap (lo : Int) = (lo : Int) := by rw [IntKind.wrap_u32]; omega
        have q5 : IntKind.u32.wrap (hi : Int) = (hi : Int) := by rw [IntKind.wrap_u32]; omega
        have hw0 : IntKind.u64.wrap (p : Int) = (p : Int) := by rw [IntKind.wrap_u64]; omega
        obtain ⟨p8, hp8⟩ : ∃ q, q = p + 8 := ⟨_, rfl⟩
        obtain ⟨p16, hp16⟩ : ∃ q, q = p + 16 := ⟨_, rfl⟩
        rw [← hp8] at c2
        rw [← hp16] at c3
        have s8 : (p : Int) + 8 = (p8 : Int) := by omega
        have s16 : (p : Int) + 16 = (p16 : Int) := by omega
        have hw8 : IntKind.u64.wrap (p8 : Int) = (p8 : Int) := by rw [IntKind.wrap_u64]; omega
        have hw16 : IntKind.u64.wrap (p16 : Int) = (p16 : Int) := by rw [IntKind.wrap_u64]; omega
        have hll : ((List.range j).map fun i => rlIn b (24 * i)).length ≤ 1000000000 := by rw [List.length_map, List.length_range]; omega
        have hsz := hO.base
        have HRG := Lib.hid hrg
        have hh : IntKind.u64.wrap (hi : Int) % 4294967296 = (hi : Int) := by rw [IntKind.wrap_u64]; omega
        have HHH := Lib.hid hh
        clear hh
        have HQ := Lib.hid (And.intro q1 (And.intro q2 (And.intro q3 (And.intro q4 q5))))
        clear hp hsp hin hrg hp8 hp16 q1 q2 q3 q4 q5 hx1 hx2 hx3 hlo hhi
        go_wp2_with fail
        refine c1.mono ?_
        rintro e _ ⟨rfl, rfl⟩
        go_wp2_with fail
        refine c2.mono ?_
        rintro e _ ⟨rfl, rfl⟩
        go_wp2_with fail
        refine c3.mono ?_
        rintro e _ ⟨rfl, rfl⟩
        clear c1 c2 c3
        obtain ⟨q1, q2, q3, q4, q5⟩ := HQ.out
        go_wp2_with (at_builtin; refine wl_append rfl _ _ _ _ rfl _ _ rfl rfl ?_)
        rw [HHH.out]
        refine rg_push (P := Tryz.prog) (x := (⟨y1, lo, hi, y3⟩ : Rl)) (cs := #[.int .u64 (y1 : Int), .int .u32 (lo : Int), .int .u32 (hi : Int), .int .i64 (wrap64 (y3 : Int))]) _ _ Tryz.underlying58 relaT_info (by rfl) (by decide) (by rw [wrap64_addI]; rfl) (by rfl) (encRl_one _) hO.row (by omega) (by decide) hsz ?_
        intro v13 w13 ho13 hk13 hn13
        have hO13 := hO.push ho13 hk13
        rw [← HRG.out] at hO13
        obtain ⟨a13, n13, c13, rfl⟩ := hO13.sh
        clear ho13 hk13 hn13 hO hll hsz
        go_wp2_with fail
        go_roundw
        case rel => exact ⟨j + 1, p + 24, by go_num, by have := HP.out; omega, hp24, hO13⟩
        case measure => simp [intOf]; omega
      · obtain rfl : p = n := Nat.le_antisymm hpn hge
        have hr := HR2.out
        rw [← HN.out, show p / 24 = j from by omega] at hr
        subst hr
        clear hp
        go_wp2_with fail
        go_ret2
        exact ⟨_, rfl, hO.row, hkz⟩
  · have hr := HR.out
    rw [if_neg (by rw [← HN.out]; exact hm)] at hr
    subst hr
    have g1 : ((n : Int) % 24 != 0) = true := by rw [bne_iff_ne]; omega
    have g2 : ((n : Int).tmod 24 != 0) = true := by rw [bne_iff_ne, Int.tmod_eq_emod_of_nonneg (by omega)]; omega
    go_enter Tryz.func106, Tryz.ntmps106
    go_wp2_with fail
    go_ret2
    exact ⟨_, rfl, FlO.nil, Keep.refl _ _⟩
set_option maxRecDepth 100000 in
set_option maxHeartbeats 2000000 in
theorem r07chk_any (l : List Rl) (m : Nat) (hl : Fl A w 4 encRl v l) (hok : ∀ x ∈ l, RlOk x) (hm : m < 4294967296) :
    Calls Tryz.prog 107 #[v, .int .i64 (m : Int)] w fun e w' => e = .returned (.int .i64 (chkR m l : Nat)) ∧ Keep No w w' := by
  have HL := Lib.hid hl
  have HOK := Lib.hid hok
  obtain ⟨ao, co, rfl, hc1, hc2⟩ := hl.shape
  have hib : (l.length : Int) ≤ 9223372036854775807 := by unfold maxLen at hc2; omega
  obtain ⟨r, hr⟩ : ∃ r, r = chkR m l := ⟨_, rfl⟩
  rw [← hr]
  have HR : Hid (r = chkR m (l.drop 0)) := Lib.hid hr
  obtain ⟨n, hn⟩ : ∃ n, n = l.length := ⟨_, rfl⟩
  have HN := Lib.hid hn
  rw [← hn] at hib ⊢
  have hwm : IntKind.u64.wrap (m : Int) = (m : Int) := by rw [IntKind.wrap_u64]; omega
  have hm0 : (0 : Int) ≤ (m : Int) := by omega
  clear hl hc1 hc2 hr hn hok
  go_enter Tryz.func107, Tryz.ntmps107
  go_wp2_with fail
  go_loopw [5, 6] (fun iv _ wr => ∃ i : Nat, iv = .int .i64 (i : Int) ∧ i ≤ n ∧ Hid (r = chkR m (l.drop i)) ∧ Keep No w wr) (fun iv _ _ => n - (intOf iv).toNat)
  case atStart => exact ⟨0, rfl, Nat.zero_le _, HR, Keep.refl _ _⟩
  case round =>
    obtain ⟨i, rfl, hi, HM, hk⟩ := hrel
    clear HR
    generalize wr = wz at *
    rcases Nat.lt_or_ge i n with hlt | hge
    · have hil : i < l.length := by rw [← HN.out]; exact hlt
      obtain ⟨g, off, cap, ev, _, hg, _, _, hc⟩ := (HL.out.no hk).at encRl_len hil
      rw [← HN.out] at ev
      injection ev with e1 e2 e3
      subst e1 e3
      have hiz : (i : Int) < (n : Int) := by omega
      have hsk := HOK.out _ (List.getElem_mem hil)
      have hm2 := HM.out
      rw [List.drop_eq_getElem_cons hil] at hm2
      unfold chkR at hm2
      have d1 := hc 1 _ rfl
      have d2 := hc 2 _ rfl
      generalize l[i] = s at *
      obtain ⟨x0, x1, x2, x3⟩ := s
      obtain ⟨b0, b1, b2, b3⟩ := hsk
      dsimp only at b0 b1 b2 b3 d1 d2
      have hkn := r07known_any x1 wz
      have hgo : rlE m ⟨x0, x1, x2, x3⟩ = 0 → r = chkR m (l.drop (i + 1)) := fun h => by rw [hm2, if_pos h]
      have hst : rlE m ⟨x0, x1, x2, x3⟩ ≠ 0 → r = rlE m ⟨x0, x1, x2, x3⟩ := fun h => by rw [hm2, if_neg h]
      have HGO := Lib.hid hgo
      have HST := Lib.hid hst
      clear hgo hst hm2 HM e2 hc
      go_wp2_with fail
      refine hkn.mono ?_
      clear hkn
      rintro e _ ⟨rfl, rfl⟩
      cases hkb : knownB x1 with
      | false =>
        have hE : rlE m ⟨x0, x1, x2, x3⟩ = 33 := by unfold rlE; rw [if_pos hkb]
        have hr := HST.out (by rw [hE]; decide)
        rw [hE] at hr
        subst hr
        go_wp2_with fail
        go_ret
        exact ⟨rfl, hk⟩
      | true =>
        have hw2 : IntKind.u64.wrap (x2 : Int) = (x2 : Int) := by rw [IntKind.wrap_u64]; omega
        by_cases h2 : 0 < x2 ∧ m ≤ x2
        · have hE : rlE m ⟨x0, x1, x2, x3⟩ = 10 := by unfold rlE; rw [if_neg (by rw [hkb]; decide), if_pos h2]
          have hr := HST.out (by rw [hE]; decide)
          rw [hE] at hr
          subst hr
          have g1 : (0 : Int) < (x2 : Int) := by omega
          have g2 : (m : Int) ≤ (x2 : Int) := by omega
          clear HGO HST
          go_wp2_with fail
          go_ret
          exact ⟨rfl, hk⟩
        · have hE : rlE m ⟨x0, x1, x2, x3⟩ = if decide (x1 = 0 ∨ x1 = 8) = decide (x2 = 0) then 0 else 11 := by unfold rlE; rw [if_neg (by rw [hkb]; decide), if_neg h2]
          have hq0 : ((x2 : Int) == 0) = decide (x2 = 0) := by rw [Bool.eq_iff_iff, beq_iff_eq, decide_eq_true_eq]; omega
          have hp0 : ((x1 : Int) == 0) = decide (x1 = 0) := by rw [Bool.eq_iff_iff, beq_iff_eq, decide_eq_true_eq]; omega
          have hp8 : ((x1 : Int) == 8) = decide (x1 = 8) := by rw [Bool.eq_iff_iff, beq_iff_eq, decide_eq_true_eq]; omega
          have hG : ((0 : Int) < (x2 : Int) ∧ (x2 : Int) < (m : Int)) ∨ (x2 : Int) = 0 := by omega
          cases hd : (decide (x1 = 0 ∨ x1 = 8) == decide (x2 = 0)) with
          | true =>
            have hE0 : rlE m ⟨x0, x1, x2, x3⟩ = 0 := by rw [hE, if_pos (eq_of_beq hd)]
            have HG2 := Lib.hid (HGO.out hE0)
            clear HGO HST hE hE0
            rcases Nat.eq_zero_or_pos x2 with h20 | h20
            · subst h20
              by_cases h10 : x1 = 0
              · subst h10
                have hq := hd
                simp at hq
                try exact hq.elim
                all_goals
                  clear hd hq hq0 hp0 hp8 hG
                  go_wp2_with fail
                  try go_quiet (fail)
                  try go_wp2_with fail
                  go_roundw
                  case rel => exact ⟨i + 1, by go_num, hlt, HG2, by first | exact hk | exact hk.drewN _⟩
                  case measure => simp [intOf]; omega
              · by_cases h18 : x1 = 8
                · subst h18
                  have hq := hd
                  simp at hq
                  try exact hq.elim
                  all_goals
                    clear hd hq hq0 hp0 hp8 hG
                    go_wp2_with fail
                    try go_quiet (fail)
                    try go_wp2_with fail
                    go_roundw
                    case rel => exact ⟨i + 1, by go_num, hlt, HG2, by first | exact hk | exact hk.drewN _⟩
                    case measure => simp [intOf]; omega
                · have g0 : ((x1 : Int) == 0) = false := by rw [beq_eq_false_iff_ne]; omega
                  have g8 : ((x1 : Int) == 8) = false := by rw [beq_eq_false_iff_ne]; omega
                  have hq := hd
                  simp [h10, h18] at hq
                  try exact hq.elim
                  all_goals
                    clear hd hq hq0 hp0 hp8 hG
                    go_wp2_with fail
                    try go_quiet (fail)
                    try go_wp2_with fail
                    go_roundw
                    case rel => exact ⟨i + 1, by go_num, hlt, HG2, by first | exact hk | exact hk.drewN _⟩
                    case measure => simp [intOf]; omega
            · have g1 : (0 : Int) < (x2 : Int) := by omega
              have g2 : (x2 : Int) < (m : Int) := by omega
              have g20 : ((x2 : Int) == 0) = false := by rw [beq_eq_false_iff_ne]; omega
              have h2n : x2 ≠ 0 := by omega
              by_cases h10 : x1 = 0
              · subst h10
                have hq := hd
                simp [h2n] at hq
                try exact hq.elim
                all_goals
                  clear hd hq hq0 hp0 hp8 hG
                  go_wp2_with fail
                  try go_quiet (fail)
                  try go_wp2_with fail
                  go_roundw
                  case rel => exact ⟨i + 1, by go_num, hlt, HG2, by first | exact hk | exact hk.drewN _⟩
                  case measure => simp [intOf]; omega
              · by_cases h18 : x1 = 8
                · subst h18
                  have hq := hd
                  simp [h2n] at hq
                  try exact hq.elim
                  all_goals
                    clear hd hq hq0 hp0 hp8 hG
                    go_wp2_with fail
                    try go_quiet (fail)
                    try go_wp2_with fail
                    go_roundw
                    case rel => exact ⟨i + 1, by go_num, hlt, HG2, by first | exact hk | exact hk.drewN _⟩
                    case measure => simp [intOf]; omega
                · have g0 : ((x1 : Int) == 0) = false := by rw [beq_eq_false_iff_ne]; omega
                  have g8 : ((x1 : Int) == 8) = false := by rw [beq_eq_false_iff_ne]; omega
                  have hq := hd
                  simp [h10, h18, h2n] at hq
                  try exact hq.elim
                  all_goals
                    clear hd hq hq0 hp0 hp8 hG
                    go_wp2_with fail
                    try go_quiet (fail)
                    try go_wp2_with fail
                    go_roundw
                    case rel => exact ⟨i + 1, by go_num, hlt, HG2, by first | exact hk | exact hk.drewN _⟩
                    case measure => simp [intOf]; omega
          | false =>
            have hE0 : rlE m ⟨x0, x1, x2, x3⟩ = 11 := by rw [hE, if_neg fun h => by rw [h] at hd; simp at hd]
            have hr := HST.out (by rw [hE0]; decide)
            rw [hE0] at hr
            subst hr
            clear HGO HST hE hE0
            rcases Nat.eq_zero_or_pos x2 with h20 | h20
            · subst h20
              by_cases h10 : x1 = 0
              · subst h10
                have hq := hd
                simp at hq
                try exact hq.elim
                all_goals
                  clear hd hq hq0 hp0 hp8 hG
                  go_wp2_with fail
                  try go_quiet (fail)
                  try go_wp2_with fail
                  go_ret
                  exact ⟨rfl, by first | exact hk | exact hk.drewN _⟩
              · by_cases h18 : x1 = 8
                · subst h18
                  have hq := hd
                  simp at hq
                  try exact hq.elim
                  all_goals
                    clear hd hq hq0 hp0 hp8 hG
                    go_wp2_with fail
                    try go_quiet (fail)
                    try go_wp2_with fail
                    go_ret
                    exact ⟨rfl, by first | exact hk | exact hk.drewN _⟩
                · have g0 : ((x1 : Int) == 0) = false := by rw [beq_eq_false_iff_ne]; omega
                  have g8 : ((x1 : Int) == 8) = false := by rw [beq_eq_false_iff_ne]; omega
                  have hq := hd
                  simp [h10, h18] at hq
                  try exact hq.elim
                  all_goals
                    clear hd hq hq0 hp0 hp8 hG
                    go_wp2_with fail
                    try go_quiet (fail)
                    try go_wp2_with fail
                    go_ret
                    exact ⟨rfl, by first | exact hk | exact hk.drewN _⟩
            · have g1 : (0 : Int) < (x2 : Int) := by omega
              have g2 : (x2 : Int) < (m : Int) := by omega
              have g20 : ((x2 : Int) == 0) = false := by rw [beq_eq_false_iff_ne]; omega
              have h2n : x2 ≠ 0 := by omega
              by_cases h10 : x1 = 0
              · subst h10
                have hq := hd
                simp [h2n] at hq
                try exact hq.elim
                all_goals
                  clear hd hq hq0 hp0 hp8 hG
                  go_wp2_with fail
                  try go_quiet (fail)
                  try go_wp2_with fail
                  go_ret
                  exact ⟨rfl, by first | exact hk | exact hk.drewN _⟩
              · by_cases h18 : x1 = 8
                · subst h18
                  have hq := hd
                  simp [h2n] at hq
                  try exact hq.elim
                  all_goals
                    clear hd hq hq0 hp0 hp8 hG
                    go_wp2_with fail
                    try go_quiet (fail)
                    try go_wp2_with fail
                    go_ret
                    exact ⟨rfl, by first | exact hk | exact hk.drewN _⟩
                · have g0 : ((x1 : Int) == 0) = false := by rw [beq_eq_false_iff_ne]; omega
                  have g8 : ((x1 : Int) == 8) = false := by rw [beq_eq_false_iff_ne]; omega
                  have hq := hd
                  simp [h10, h18, h2n] at hq
                  try exact hq.elim
                  all_goals
                    clear hd hq hq0 hp0 hp8 hG
                    go_wp2_with fail
                    try go_quiet (fail)
                    try go_wp2_with fail
                    go_ret
                    exact ⟨rfl, by first | exact hk | exact hk.drewN _⟩
    · obtain rfl : i = n := Nat.le_antisymm hi hge
      have hr := HM.out
      rw [List.drop_of_length_le (by rw [← HN.out]; exact Nat.le_refl _)] at hr
      unfold chkR at hr
      subst hr
      go_wp2_with fail
      go_ret
      exact ⟨rfl, hk⟩
end
end Go.Proofs.YtbnahidopemkiaaGreat
