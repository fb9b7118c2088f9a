/- symbols: Table. rela: Value, Table, Check. rela: Table, Check. No condition. -/
import Derived.Test.YtbnahidopemkiaaGreatSy2
set_option linter.unusedVariables false
set_option linter.unusedSimpArgs false
namespace Go.Dm.Ld
open Go Go.Dm.Oc
theorem syIn_part (b : BS) (o : Nat) (h : o + 24 ≤ b.length) : syIn ((b.drop o).take 24) 0 = syIn b o := by
  unfold syIn
  have e := fun (a n : Nat) (h2 : a + n ≤ 24) (hn : n = 1 ∨ n = 2 ∨ n = 4 ∨ n = 8) => getX_part b o 24 a n h h2 hn
  have e0 : getX ((b.drop o).take 24) 0 4 = getX b o 4 := e 0 4 (by decide) (by decide)
  have e1 : getX ((b.drop o).take 24) (0 + 4) 1 = getX b (o + 4) 1 := e 4 1 (by decide) (by decide)
  have e2 : getX ((b.drop o).take 24) (0 + 5) 1 = getX b (o + 5) 1 := e 5 1 (by decide) (by decide)
  have e3 : getX ((b.drop o).take 24) (0 + 6) 2 = getX b (o + 6) 2 := e 6 2 (by decide) (by decide)
  have e4 : getX ((b.drop o).take 24) (0 + 8) 8 = getX b (o + 8) 8 := e 8 8 (by decide) (by decide)
  have e5 : getX ((b.drop o).take 24) (0 + 16) 8 = getX b (o + 16) 8 := e 16 8 (by decide) (by decide)
  rw [e0, e1, e2, e3, e4, e5]
theorem syTab_ok (b : BS) : ∀ s ∈ (syTab b).2, SyOk s := by
  unfold syTab
  split
  · intro s hs
    obtain ⟨i, _, rfl⟩ := List.mem_map.1 hs
    exact Go.Proofs.YtbnahidopemkiaaGreat.syIn_ok _ _
  · intro s hs; cases hs
end Go.Dm.Ld
namespace Go.Proofs.YtbnahidopemkiaaGreat
open Go.RowKit Go.Dm Go.Dm.Oc Go.Dm.Ld
section
variable {A : Nat → Prop} {w : World}
set_option maxRecDepth 100000 in
set_option maxHeartbeats 4000000 in
theorem sytable_any {v : Value} (b : BS) (hb : Bts A w v b) (hl : b.length ≤ 1099511627776) :
    Calls Tryz.prog 88 #[v] w fun e w' => ∃ v', e = .returned (.tuple #[v', .int .i64 ((syTab b).1 : Nat)]) ∧ FlO w' w.heap.size 46 6 encSy v' (syTab b).2 ∧ Keep No w w' := by
  have hH : syTab b = if b.length % 24 = 0 then (0, (List.range (b.length / 24)).map fun i => syIn b (24 * i)) else (10, []) := rfl
  by_cases h24 : b.length % 24 = 0
  · rw [if_pos h24] at hH
    have HH := Lib.hid hH
    have HB := Lib.hid hb
    obtain ⟨ao, co, rfl, hc1, hc2⟩ := hb.shape
    clear hb hH
    have h24i : (b.length : Int) % 24 = 0 := by omega
    go_enter Tryz.func88, Tryz.ntmps88
    go_wp2_with fail
    go_loopw [0, 4] (fun sv ov wr => ∃ (k : Nat) (a : Option Addr) (c : Nat), sv = .slice a (b.length - 24 * k) c ∧ b.length - 24 * k ≤ c ∧ c ≤ maxLen ∧ k ≤ b.length / 24 ∧ Bts (fun j => j < w.heap.size) wr (.slice a (b.length - 24 * k) c) (b.drop (24 * k)) ∧ FlO wr w.heap.size 46 6 encSy ov ((List.range k).map fun i => syIn b (24 * i)) ∧ Keep No w wr) (fun sv _ _ => match sv with | .slice _ n _ => n | _ => 0)
    case atStart => exact ⟨0, ao, co, rfl, by omega, hc2, Nat.zero_le _, HB.out.mono (fun j hj _ => hj), FlO.nil, Keep.refl _ _⟩
    case round =>
      obtain ⟨k, a, c, rfl, hnc, hcm, hk24, hbt, hO, hK⟩ := hrel
      generalize wr = wz at *
      rcases Nat.lt_or_ge k (b.length / 24) with hlt | hge
      · have hdl : (b.drop (24 * k)).length = b.length - 24 * k := List.length_drop
        have hp : 24 ≤ b.length - 24 * k := by omega
        have hb24 := bts_upto (i := 24) (by rw [← hdl] at hbt; exact hbt) (by omega)
        have hb24' : Bts (fun j => j < w.heap.size) wz (.slice a 24 24) ((b.drop (24 * k)).take 24) := by
          have hl24 : ((b.drop (24 * k)).take 24).length = 24 := by rw [List.length_take, hdl]; omega
          have e := hb24
          unfold Bts at e ⊢
          rw [hl24] at e ⊢
          obtain ⟨h1, a', cap, ev, h2, h3, h4, h5⟩ := e
          cases ev
          exact ⟨h1, a, 24, rfl, Nat.le_refl _, by decide, fun h => absurd (h4 h) (by omega), h5⟩
        have hone := syone_any (w := wz) _ hb24' (by rw [List.length_take]; omega)
        rw [syIn_part b (24 * k) (by omega)] at hone
        have hnext := bts_part (lo := 24) (n := b.length - 24 * k - 24) (by rw [← hdl] at hbt; exact hbt) (by omega)
        have hdd : ((b.drop (24 * k)).drop 24).take (b.length - 24 * k - 24) = b.drop (24 * (k + 1)) := by
          rw [List.drop_drop, List.take_of_length_le (by rw [List.length_drop]; omega)]
          rfl
        rw [hdd] at hnext
        have hrl : ((List.range k).map fun i => syIn b (24 * i)).length = k := by rw [List.length_map, List.length_range]
        have hrs : ((List.range (k + 1)).map fun i => syIn b (24 * i)) = ((List.range k).map fun i => syIn b (24 * i)) ++ [syIn b (24 * k)] := by
          rw [List.range_succ, List.map_append]
          rfl
        have HRS := Lib.hid hrs
        have hn1 : b.length - 24 * (k + 1) = b.length - 24 * k - 24 := by omega
        have HN1 := Lib.hid hn1
        clear hb24 hb24' hbt hdd hrs hn1 hdl h24i
        generalize hnn : b.length - 24 * k = n at *
        have hni : (24 : Int) ≤ (n : Int) := by omega
        have hpos : (0 : Int) < (n : Int) := by omega
        have hsub : (n : Int) - 24 = ((n - 24 : Nat) : Int) := by omega
        have hci : (24 : Int) ≤ (c : Int) := by omega
        generalize syIn b (24 * k) = s at *
        have hcs : (encSy s).toArray = #[.int .u32 (s.nm : Int), .int .u8 (s.inf : Int), .int .u8 (s.oth : Int), .int .u16 (s.sec : Int), .int .u64 (s.val : Int), .int .u64 (s.sz : Int)] := rfl
        rw [hcs] at hone
        have HX := Lib.hid hnext
        have hkb : k < b.length := by omega
        clear hnext hnn hcs
        go_wp2_with fail
        refine hone.mono ?_
        clear hone
        rintro e w2 ⟨rfl, hk2⟩
        go_wp2_with (at_builtin; refine wl_append rfl _ _ _ _ rfl _ _ rfl rfl ?_)
        refine rg_push (x := s) _ _ Tryz.underlying57 symT_info (by rfl) (by decide) (by rfl) (by rfl) (encSy_one _) (hO.no hk2) (by rw [hrl]; omega) (by decide) (Nat.le_trans hK.size hk2.size) ?_
        intro v4 w4 ho4 hk4 _
        have hkF : Keep No w w4 := Keep.own (hK.trans' hk2) (hO.no hk2) hk4
        have HX4 := Lib.hid ((HX.out.keep hk2 fun _ _ _ h => h).keep hk4 fun j hj hl e => absurd (World.ownsRow.lt hO _ e.symm).1 (by omega))
        rw [← HRS.out] at ho4
        clear hO hk4 HX
        by_cases hc24 : c = 24
        · obtain rfl : n = 24 := by omega
          subst hc24
          go_wp2_with fail
          go_roundw
          case rel =>
            refine ⟨k + 1, a, 0, by rw [HN1.out], by rw [HN1.out]; exact Nat.le_refl _, Nat.zero_le _, hlt, ?_, ho4, hkF⟩
            have hdl : b.drop (24 * (k + 1)) = [] := List.drop_eq_nil_of_le (by have := HN1.out; omega)
            rw [HN1.out, hdl]
            have hx := HX4.out
            rw [hdl] at hx
            obtain ⟨h1, a', cap, ev, h2, h3, h4, h5⟩ := hx
            exact ⟨rfl, a, 0, rfl, Nat.le_refl _, Nat.zero_le _, fun _ => rfl, fun h => absurd h (Nat.lt_irrefl _)⟩
          case measure => simp
        · have hneq : ¬ c = 24 := hc24
          go_wp2_with fail
          go_roundw
          case rel => exact ⟨k + 1, _, _, by rw [HN1.out], by rw [HN1.out]; omega, by omega, hlt, by rw [HN1.out]; exact HX4.out, ho4, hkF⟩
          case measure => simp; omega
      · obtain rfl : k = b.length / 24 := by omega
        have h0 : b.length - 24 * (b.length / 24) = 0 := by omega
        clear h24i
        generalize b.length - 24 * (b.length / 24) = n at *
        subst h0
        go_wp2_with fail
        go_ret2
        rw [HH.out]
        exact ⟨_, rfl, hO, hK⟩
  · rw [if_neg h24] at hH
    rw [hH]
    clear hH
    obtain ⟨ao, co, rfl, hc1, hc2⟩ := hb.shape
    clear hb
    have h24i : ¬ ((b.length : Int) % 24 = 0) := by omega
    generalize b.length = n at *
    go_enter Tryz.func88, Tryz.ntmps88
    go_wp2_with fail
    go_ret2
    exact ⟨_, rfl, FlO.nil, Keep.refl _ _⟩
end
end Go.Proofs.YtbnahidopemkiaaGreat
namespace Go.Dm.Ld
open Go Go.Dm.Oc
/-- what a relocation writes -/
def valR (ty base sym : Nat) (add : Int) : Nat × Int :=
  if knownB ty = false then (33, 0) else if ty = 0 then (0, 0) else if ty = 8 then (0, ((base : Int) + add) % 18446744073709551616) else if ty = 6 ∨ ty = 7 ∨ ty = 16 then (0, (sym : Int)) else (0, ((sym : Int) + add) % 18446744073709551616)
theorem rlIn_ok (b : BS) (i : Nat) : RlOk (rlIn b i) := ⟨Go.Proofs.YtbnahidopemkiaaGreat.getX_lt b i 8, Go.Proofs.YtbnahidopemkiaaGreat.getX_lt b (i + 8) 4, Go.Proofs.YtbnahidopemkiaaGreat.getX_lt b (i + 12) 4, Go.Proofs.YtbnahidopemkiaaGreat.getX_lt b (i + 16) 8⟩
theorem rlTab_ok (b : BS) : ∀ s ∈ (rlTab b).2, RlOk s := by
  unfold rlTab
  split
  · intro s hs
    obtain ⟨i, _, rfl⟩ := List.mem_map.1 hs
    exact rlIn_ok _ _
  · intro s hs; cases hs
end Go.Dm.Ld
namespace Go.Proofs.YtbnahidopemkiaaGreat
open Go.RowKit Go.Dm Go.Dm.Oc Go.Dm.Ld
def addI (n : Nat) : Int := IntKind.i64.wrap (n : Int)
def encRl (s : Rl) : List Value := [.int .u64 (s.off : Int), .int .u32 (s.ty : Int), .int .u32 (s.sym : Int), .int .i64 (addI s.add)]
theorem encRl_len (s : Rl) : (encRl s).length = 4 := rfl
theorem encRl_one (s : Rl) : ∀ u ∈ encRl s, u.oneCell' = true := by
  intro u hu
  simp only [encRl, List.mem_cons, List.not_mem_nil, or_false] at hu
  rcases hu with rfl | rfl | rfl | rfl <;> rfl
theorem relaT_info : (Tryz.prog.info? 115).map (fun i => (i.zero, i.size, i.bytes)) = some (some (.agg #[.int .u64 0, .int .u32 0, .int .u32 0, .int .i64 0]), 4, 24) := by kernel_rfl
theorem ret2_ii {k1 k2 : IntKind} {a a' b b' : Int} (h1 : a = a') (h2 : b = b') : Ending.returned (Value.tuple #[.int k1 a, .int k2 b]) = Ending.returned (Value.tuple #[.int k1 a', .int k2 b']) := by rw [h1, h2]
section
variable {A : Nat → Prop} {w : World}
set_option maxRecDepth 100000 in
set_option maxHeartbeats 4000000 in
theorem rlvalue_any (ty base sym : Nat) (add : Int) (h1 : ty < 4294967296) (h2 : base < 18446744073709551616) (h3 : sym < 18446744073709551616) (h4 : -9223372036854775808 ≤ add ∧ add < 9223372036854775808) (w : World) :
    Calls Tryz.prog 79 #[.int .u32 (ty : Int), .int .u64 (base : Int), .int .u64 (sym : Int), .int .i64 add] w fun e w' => e = .returned (.tuple #[.int .u64 (valR ty base sym add).2, .int .i64 ((valR ty base sym add).1 : Nat)]) ∧ w = w' := by
  have hwb : IntKind.u64.wrap ((base : Int) + IntKind.u64.wrap add) = ((base : Int) + add) % 18446744073709551616 := by
    rw [IntKind.wrap_u64, IntKind.wrap_u64]
    omega
  have hws : IntKind.u64.wrap ((sym : Int) + IntKind.u64.wrap add) = ((sym : Int) + add) % 18446744073709551616 := by
    rw [IntKind.wrap_u64, IntKind.wrap_u64]
    omega
  have HR : Hid (valR ty base sym add = if ¬ (ty = 0 ∨ ty = 1 ∨ ty = 6 ∨ ty = 7 ∨ ty = 8 ∨ ty = 16 ∨ ty = 17 ∨ ty = 18) then (33, 0) else if ty = 0 then (0, 0) else if ty = 8 then (0, ((base : Int) + add) % 18446744073709551616) else if ty = 6 ∨ ty = 7 ∨ ty = 16 then (0, (sym : Int)) else (0, ((sym : Int) + add) % 18446744073709551616)) := Lib.hid (by
    unfold valR knownB
    simp only [decide_eq_false_iff_not])
  go_enter Tryz.func79, Tryz.ntmps79
  go_wp2_with fail
  all_goals
    go_ret2
    rw [HR.out]
    refine ⟨ret2_ii ?_ ?_, rfl⟩
    all_goals
      clear HR hwb hws
      simp only [beq_iff_eq, beq_eq_false_iff_ne, ne_eq] at *
      repeat' split
      all_goals first
        | rfl
        | (exfalso; omega)
        | (dsimp only; omega)
end
end Go.Proofs.YtbnahidopemkiaaGreat
namespace Go.Proofs.YtbnahidopemkiaaGreat
open Go.RowKit Go.Dm Go.Dm.Oc Go.Dm.Ld
section
variable {A : Nat → Prop} {w : World}
set_option maxRecDepth 100000 in
set_option maxHeartbeats 4000000 in
theorem rltable_any {v : Value} (b : BS) (hb : Bts A w v b) (hl : b.length ≤ 1099511627776) :
    Calls Tryz.prog 90 #[v] w fun e w' => ∃ v', e = .returned (.tuple #[v', .int .i64 ((rlTab b).1 : Nat)]) ∧ FlO w' w.heap.size 115 4 encRl v' (rlTab b).2 ∧ Keep No w w' := by
  have hH : rlTab b = if b.length % 24 = 0 then (0, (List.range (b.length / 24)).map fun i => rlIn b (24 * i)) else (10, []) := rfl
  by_cases h24 : b.length % 24 = 0
  · rw [if_pos h24] at hH
    have HH := Lib.hid hH
    have HB := Lib.hid hb
    obtain ⟨ao, co, rfl, hc1, hc2⟩ := hb.shape
    clear hb hH
    have h24i : (b.length : Int) % 24 = 0 := by omega
    go_enter Tryz.func90, Tryz.ntmps90
    go_wp2_with fail
    go_loopw [4, 5] (fun ov av wr => ∃ (k : Nat), av = .int .u64 ((24 * k : Nat) : Int) ∧ k ≤ b.length / 24 ∧ FlO wr w.heap.size 115 4 encRl ov ((List.range k).map fun i => rlIn b (24 * i)) ∧ Keep No w wr) (fun _ av _ => b.length - (intOf av).toNat)
    case atStart => exact ⟨0, rfl, Nat.zero_le _, FlO.nil, Keep.refl _ _⟩
    case round =>
      obtain ⟨k, rfl, hk24, hO, hK⟩ := hrel
      generalize wr = wz at *
      rcases Nat.lt_or_ge k (b.length / 24) with hlt | hge
      · have hg := fun (a : Nat) (n : Nat) (ha : a ≤ 1099511627776) (hn : n < 100) => oget_any (w := wz) b a n (Sl.keep HB.out hK fun _ _ _ h => h) hl (by omega) (by omega) (by omega)
        have g0 := hg (24 * k) 8 (by omega) (by decide)
        have g1 := hg (24 * k + 8) 4 (by omega) (by decide)
        have g2 := hg (24 * k + 12) 4 (by omega) (by decide)
        have g3 := hg (24 * k + 16) 8 (by omega) (by decide)
        clear hg
        obtain ⟨o0, o1, o2, o3⟩ := rlIn_ok b (24 * k)
        have hrl : ((List.range k).map fun i => rlIn b (24 * i)).length = k := by rw [List.length_map, List.length_range]
        have hrs : ((List.range (k + 1)).map fun i => rlIn b (24 * i)) = ((List.range k).map fun i => rlIn b (24 * i)) ++ [rlIn b (24 * k)] := by
          rw [List.range_succ, List.map_append]
          rfl
        have HRS := Lib.hid hrs
        clear hrs
        have e0 : getX b (24 * k) ((8 : Nat) : Int) = (rlIn b (24 * k)).off := rfl
        have e1 : getX b (24 * k + 8) ((4 : Nat) : Int) = (rlIn b (24 * k)).ty := rfl
        have e2 : getX b (24 * k + 12) ((4 : Nat) : Int) = (rlIn b (24 * k)).sym := rfl
        have e3 : getX b (24 * k + 16) ((8 : Nat) : Int) = (rlIn b (24 * k)).add := rfl
        rw [e0] at g0
        rw [e1] at g1
        rw [e2] at g2
        rw [e3] at g3
        clear e0 e1 e2 e3
        generalize rlIn b (24 * k) = s at *
        have hcs : encRl s = [.int .u64 (s.off : Int), .int .u32 (s.ty : Int), .int .u32 (s.sym : Int), .int .i64 (IntKind.i64.wrap (s.add : Int))] := rfl
        have hwr : IntKind.i64.wrap (s.add : Int) = addI s.add := rfl
        generalize addI s.add = ad at *
        generalize fitsE b.length (24 * k) ((8 : Nat) : Int) = f0 at *
        generalize fitsE b.length (24 * k + 8) ((4 : Nat) : Int) = f1 at *
        generalize fitsE b.length (24 * k + 12) ((4 : Nat) : Int) = f2 at *
        generalize fitsE b.length (24 * k + 16) ((8 : Nat) : Int) = f3 at *
        have hlti : ((24 * k : Nat) : Int) < (b.length : Int) := by omega
        have hq1 : 24 * (k + 1) = 24 * k + 24 := by omega
        have hqb : 24 * k ≤ 1099511627776 := by omega
        have HQ := Lib.hid hq1
        clear hq1 h24i
        generalize 24 * k = q at *
        go_wp2_with fail
        refine g0.mono ?_
        rintro e w1 ⟨rfl, rfl⟩
        go_wp2_with fail
        refine g1.mono ?_
        rintro e w1 ⟨rfl, rfl⟩
        go_wp2_with fail
        refine g2.mono ?_
        rintro e w1 ⟨rfl, rfl⟩
        go_wp2_with fail
        refine g3.mono ?_
        rintro e w1 ⟨rfl, rfl⟩
        clear g0 g1 g2 g3
        go_wp2_with (at_builtin; refine wl_append rfl _ _ _ _ rfl _ _ rfl rfl ?_)
        refine rg_push (x := s) _ _ Tryz.underlying58 relaT_info (by rfl) (by decide) (by rw [hcs, hwr]) (by rfl) (encRl_one _) hO (by rw [hrl]; omega) (by decide) hK.size ?_
        intro v4 w4 ho4 hk4 _
        have hkF : Keep No w w4 := Keep.own hK hO hk4
        rw [← HRS.out] at ho4
        clear hO hk4
        go_wp2_with fail
        go_roundw
        case rel =>
          exact ⟨k + 1, congrArg (Value.int .u64) (by have := HQ.out; omega), hlt, ho4, hkF⟩
        case measure => simp [intOf]; omega
      · obtain rfl : k = b.length / 24 := by omega
        have h0 : ((24 * (b.length / 24) : Nat) : Int) = (b.length : Int) := by omega
        clear h24i
        rw [h0]
        go_wp2_with fail
        go_ret2
        rw [HH.out]
        exact ⟨_, rfl, hO, hK⟩
  · rw [if_neg h24] at hH
    rw [hH]
    clear hH
    obtain ⟨ao, co, rfl, hc1, hc2⟩ := hb.shape
    clear hb
    have h24i : ¬ ((b.length : Int) % 24 = 0) := by omega
    generalize b.length = n at *
    go_enter Tryz.func90, Tryz.ntmps90
    go_wp2_with fail
    go_ret2
    exact ⟨_, rfl, FlO.nil, Keep.refl _ _⟩
theorem chkR_cons (n : Nat) (x : Rl) (r : List Rl) : chkR n (x :: r) = if rlE n x = 0 then chkR n r else rlE n x := rfl
set_option maxRecDepth 100000 in
set_option maxHeartbeats 4000000 in
theorem rlcheck_any {v : Value} (l : List Rl) (n : Nat) (hl : Fl A w 4 encRl v l) (hok : ∀ x ∈ l, RlOk x) (hn : n < 9223372036854775808) :
    Calls Tryz.prog 91 #[v, .int .i64 (n : Int)] w fun e w' => e = .returned (.int .i64 (chkR n l : Nat)) ∧ Keep No w w' := by
  have HL := Lib.hid hl
  obtain ⟨ao, co, rfl, hc1, hc2⟩ := hl.shape
  have hlen : l.length ≤ 9223372036854775807 := by unfold maxLen at hc2; omega
  clear hl hc1 hc2
  go_enter Tryz.func91, Tryz.ntmps91
  go_wp2_with fail
  go_loopw [12] (fun iv wr => ∃ i : Nat, iv = .int .i64 i ∧ i ≤ l.length ∧ chkR n (l.drop i) = chkR n l ∧ Keep No w wr) (fun iv _ => l.length - (intOf iv).toNat)
  case atStart => exact ⟨0, rfl, Nat.zero_le _, rfl, Keep.refl _ _⟩
  case round =>
    obtain ⟨i, rfl, hi, hA, hk⟩ := hrel
    generalize wr = wz at *
    rcases Nat.lt_or_ge i l.length with hlt | hge
    · obtain ⟨g1, off, cap, ev, _, hg1, _, _, hc⟩ := (HL.out.no hk).at encRl_len hlt
      cases ev
      have hiz : (i : Int) < (l.length : Int) := by omega
      obtain ⟨o0, o1, o2, o3⟩ := hok l[i] (List.getElem_mem hlt)
      rw [List.drop_eq_getElem_cons hlt, chkR_cons] at hA
      have hval := fun w => rlvalue_any l[i].ty 0 0 0 o1 (by decide) (by decide) (by decide) w
      have c0 := hc 0 _ rfl
      have c1 := hc 1 _ rfl
      have c2 := hc 2 _ rfl
      have c3 := hc 3 _ rfl
      rw [Nat.add_zero] at c0
      clear hc
      have hve : (valR l[i].ty 0 0 0).1 = if knownB l[i].ty = false then 33 else 0 := by
        unfold valR
        repeat' split
        all_goals rfl
      have hE : rlE n l[i] = if knownB l[i].ty = false then 33 else if 0 < l[i].sym ∧ n ≤ l[i].sym then 10 else if decide (l[i].ty = 0 ∨ l[i].ty = 8) = decide (l[i].sym = 0) then 0 else 11 := rfl
      generalize rlE n l[i] = E at *
      generalize (valR l[i].ty 0 0 0).1 = ve at *
      generalize (valR l[i].ty 0 0 0).2 = vx at *
      generalize addI l[i].add = x3 at *
      generalize l[i].off = x0 at *
      generalize l[i].ty = x1 at *
      generalize l[i].sym = x2 at *
      go_wp2_with fail
      have hkW : Keep No wz (wz.alloc (.cells #[.int .u64 (x0 : Int), .int .u32 (x1 : Int), .int .u32 (x2 : Int), .int .i64 x3] 115)) := (Keep.refl _ _).alloc _
      have hBW : Blk (wz.alloc (.cells #[.int .u64 (x0 : Int), .int .u32 (x1 : Int), .int .u32 (x2 : Int), .int .i64 x3] 115)) wz.heap.size #[.int .u64 (x0 : Int), .int .u32 (x1 : Int), .int .u32 (x2 : Int), .int .i64 x3] 115 := Blk.new _ _ _
      have hzW : (wz.alloc (.cells #[.int .u64 (x0 : Int), .int .u32 (x1 : Int), .int .u32 (x2 : Int), .int .i64 x3] 115)).heap.size = wz.heap.size + 1 := World.size_alloc _ _
      generalize wz.alloc (.cells #[.int .u64 (x0 : Int), .int .u32 (x1 : Int), .int .u32 (x2 : Int), .int .i64 x3] 115) = W at *
      refine (hval W).mono ?_
      rintro e W1 ⟨rfl, rfl⟩
      clear hval c0 c1 c2 c3
      have hkF := hk.trans' hkW
      cases hkn : knownB x1 with
      | false =>
        rw [hkn, if_pos rfl] at hve hE
        subst hve
        subst hE
        have HR := Lib.hid ((if_neg (by decide)).symm.trans hA)
        clear hA
        go_wp2_with fail
        go_ret
        rw [← HR.out]
        exact ⟨rfl, hkF⟩
      | true =>
        rw [hkn, if_neg (by decide)] at hve hE
        subst hve
        have d1 := hBW.cell 1
        have d2 := hBW.cell 2
        have HA := Lib.hid hA
        have HE := Lib.hid hE
        clear hA hE hBW
        have hx1 : (x1 = 0 ∨ x1 = 8) ∨ ¬ (x1 = 0 ∨ x1 = 8) := Decidable.em _
        rcases Nat.eq_zero_or_pos x2 with h20 | h20
        · have hE2 : E = if decide (x1 = 0 ∨ x1 = 8) = true then 0 else 11 := by
            rw [HE.out, if_neg (by omega), show decide (x2 = 0) = true from decide_eq_true h20]
          subst h20
          rcases hx1 with (h1 | h1) | h1
          · have HR : Hid (chkR n (l.drop (i + 1)) = chkR n l) := Lib.hid (by rw [← HA.out, show E = 0 by rw [hE2, if_pos (by simp [h1])]]; rfl)
            subst h1
            clear hE2 HA HE
            go_wp2_with fail
            go_roundw
            case rel => exact ⟨i + 1, rfl, hlt, HR.out, hkF⟩
            case measure => simp [intOf]; omega
          · have HR : Hid (chkR n (l.drop (i + 1)) = chkR n l) := Lib.hid (by rw [← HA.out, show E = 0 by rw [hE2, if_pos (by simp [h1])]]; rfl)
            subst h1
            clear hE2 HA HE
            go_wp2_with fail
            go_roundw
            case rel => exact ⟨i + 1, rfl, hlt, HR.out, hkF⟩
            case measure => simp [intOf]; omega
          · have HR : Hid (chkR n l = 11) := Lib.hid (by rw [← HA.out, show E = 11 by rw [hE2, if_neg (by simp; omega)]]; rfl)
            have b10 : ((x1 : Int) == 0) = false := by rw [beq_eq_false_iff_ne]; omega
            have b18 : ((x1 : Int) == 8) = false := by rw [beq_eq_false_iff_ne]; omega
            clear hE2 HA HE
            go_wp2_with fail
            go_ret
            rw [HR.out]
            exact ⟨rfl, hkF⟩
        · have h20i : (0 : Int) < (x2 : Int) := by omega
          have b20 : ((x2 : Int) == 0) = false := by rw [beq_eq_false_iff_ne]; omega
          by_cases hn2 : n ≤ x2
          · have HR : Hid (chkR n l = 10) := Lib.hid (by rw [← HA.out, show E = 10 by rw [HE.out, if_pos ⟨h20, hn2⟩]]; rfl)
            have hn2i : (n : Int) ≤ (x2 : Int) := by omega
            clear HA HE
            rcases hx1 with (h1 | h1) | h1
            · subst h1
              go_wp2_with fail
              go_ret
              rw [HR.out]
              exact ⟨rfl, hkF⟩
            · subst h1
              go_wp2_with fail
              go_ret
              rw [HR.out]
              exact ⟨rfl, hkF⟩
            · have b10 : ((x1 : Int) == 0) = false := by rw [beq_eq_false_iff_ne]; omega
              have b18 : ((x1 : Int) == 8) = false := by rw [beq_eq_false_iff_ne]; omega
              go_wp2_with fail
              go_ret
              rw [HR.out]
              exact ⟨rfl, hkF⟩
          · have hE2 : E = if decide (x1 = 0 ∨ x1 = 8) = false then 0 else 11 := by
              rw [HE.out, if_neg (by omega), show decide (x2 = 0) = false from decide_eq_false (by omega)]
            have hn2i : ¬ ((n : Int) ≤ (x2 : Int)) := by omega
            rcases hx1 with (h1 | h1) | h1
            · have HR : Hid (chkR n l = 11) := Lib.hid (by rw [← HA.out, show E = 11 by rw [hE2, if_neg (by simp [h1])]]; rfl)
              subst h1
              clear hE2 HA HE
              go_wp2_with fail
              go_ret
              rw [HR.out]
              exact ⟨rfl, hkF⟩
            · have HR : Hid (chkR n l = 11) := Lib.hid (by rw [← HA.out, show E = 11 by rw [hE2, if_neg (by simp [h1])]]; rfl)
              subst h1
              clear hE2 HA HE
              go_wp2_with fail
              go_ret
              rw [HR.out]
              exact ⟨rfl, hkF⟩
            · have HR : Hid (chkR n (l.drop (i + 1)) = chkR n l) := Lib.hid (by rw [← HA.out, show E = 0 by rw [hE2, if_pos (by simp; omega)]]; rfl)
              have b10 : ((x1 : Int) == 0) = false := by rw [beq_eq_false_iff_ne]; omega
              have b18 : ((x1 : Int) == 8) = false := by rw [beq_eq_false_iff_ne]; omega
              clear hE2 HA HE
              go_wp2_with fail
              go_roundw
              case rel => exact ⟨i + 1, rfl, hlt, HR.out, hkF⟩
              case measure => simp [intOf]; omega
    · obtain rfl : i = l.length := Nat.le_antisymm hi hge
      rw [List.drop_length] at hA
      have HR : Hid (chkR n l = 0) := Lib.hid hA.symm
      clear hA
      go_wp2_with fail
      go_ret
      rw [HR.out]
      exact ⟨rfl, hk⟩
end
end Go.Proofs.YtbnahidopemkiaaGreat
