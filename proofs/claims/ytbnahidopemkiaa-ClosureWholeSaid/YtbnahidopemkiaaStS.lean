/- symbols: Check, Table. rela: Table, Check. image.reader: at, loaded. image.reader: shape. image.reader: named. A store into a known block, at any place. No condition. -/
import Derived.Test.YtbnahidopemkiaaSy2
import Derived.Test.YtbnahidopemkiaaIns
import Derived.Test.YtbnahidopemkiaaSy4
import Derived.Test.YtbnahidopemkiaaDy1
import Derived.Test.YtbnahidopemkiaaLo2
import Derived.Laws.CopyRow
set_option linter.unusedVariables false
set_option linter.unusedSimpArgs false
namespace Go.Proofs.Ytbnahidopemkiaa
open Go.RowKit Go.Dm Go.Dm.Oc Go.Dm.Ld
section
variable {A : Nat → Prop} {w : World}
theorem chkS_cons (s : Sy) (r : List Sy) : chkS (s :: r) = if s = sy0 ∧ r.all mayS = true then 0 else 11 := rfl
theorem chkS_ok {l : List Sy} (h0 : ∀ s, l[0]? = some s → s = sy0) (h1 : ∀ j s, 0 < j → l[j]? = some s → mayS s = true) : chkS l = 0 := by
  cases l with
  | nil => rfl
  | cons s r =>
    have e0 := h0 s rfl
    have e1 : r.all mayS = true := by
      rw [List.all_eq_true]
      intro x hx
      obtain ⟨j, hj, rfl⟩ := List.getElem_of_mem hx
      exact h1 (j + 1) r[j] (by omega) (by rw [List.getElem?_cons_succ, List.getElem?_eq_getElem hj])
    rw [chkS_cons, if_pos ⟨e0, e1⟩]
theorem chkS_bad {l : List Sy} (h : (∃ s, l[0]? = some s ∧ s ≠ sy0) ∨ ∃ j s, 0 < j ∧ l[j]? = some s ∧ mayS s = false) : chkS l = 11 := by
  cases l with
  | nil =>
    rcases h with ⟨s, h, _⟩ | ⟨j, s, _, h, _⟩ <;> simp at h
  | cons s r =>
    rw [chkS_cons, if_neg]
    rintro ⟨e0, e1⟩
    rcases h with ⟨x, h, hx⟩ | ⟨j, x, hj, h, hx⟩
    · cases h
      exact hx e0
    · obtain ⟨j, rfl⟩ : ∃ k, j = k + 1 := ⟨j - 1, by omega⟩
      rw [List.getElem?_cons_succ] at h
      have hm := List.mem_of_getElem? h
      rw [List.all_eq_true] at e1
      rw [e1 x hm] at hx
      cases hx
set_option maxRecDepth 100000 in
set_option maxHeartbeats 4000000 in
theorem sycheck_any {v : Value} (l : List Sy) (hl : Fl A w 6 encSy v l) (hok : ∀ s ∈ l, SyOk s) :
    Calls Try.prog 89 #[v] w fun e w' => e = .returned (.int .i64 (chkS l : Nat)) ∧ Keep No w w' := by
  have HL := Lib.hid hl
  obtain ⟨ao, co, rfl, hc1, hc2⟩ := hl.shape
  have hlen : l.length ≤ 9223372036854775807 := by unfold maxLen at hc2; omega
  clear hl hc1 hc2
  go_enter Try.func89, Try.ntmps89
  go_wp2_with fail
  go_loopw [7] (fun iv wr => ∃ i : Nat, iv = .int .i64 i ∧ i ≤ l.length ∧ (0 < i → ∀ s, l[0]? = some s → s = sy0) ∧ (∀ j s, j < i → 0 < j → l[j]? = some s → mayS s = true) ∧ Keep No w wr) (fun iv _ => l.length - (intOf iv).toNat)
  case atStart => exact ⟨0, rfl, Nat.zero_le _, fun h => absurd h (by omega), fun j s hj => absurd hj (Nat.not_lt_zero _), Keep.refl _ _⟩
  case round =>
    obtain ⟨i, rfl, hi, hz, hno, hk⟩ := hrel
    generalize wr = wz at *
    rcases Nat.lt_or_ge i l.length with hlt | hge
    · obtain ⟨g1, off, cap, ev, _, hg1, _, _, hc⟩ := (HL.out.no hk).at encSy_len hlt
      cases ev
      have hiz : (i : Int) < (l.length : Int) := by omega
      have hsok := hok l[i] (List.getElem_mem hlt)
      have hmay := fun w => symay_any (w := w) l[i] hsok
      have c0 := hc 0 _ rfl
      have c1 := hc 1 _ rfl
      have c2 := hc 2 _ rfl
      have c3 := hc 3 _ rfl
      have c4 := hc 4 _ rfl
      have c5 := hc 5 _ rfl
      rw [Nat.add_zero] at c0
      clear hc
      have hli : l[i]? = some l[i] := List.getElem?_eq_getElem hlt
      generalize hsv : l[i] = s at *
      have hcs : (encSy s).toArray = #[.int .u32 (s.nm : Int), .int .u8 (s.inf : Int), .int .u8 (s.oth : Int), .int .u16 (s.sec : Int), .int .u64 (s.val : Int), .int .u64 (s.sz : Int)] := rfl
      rw [hcs] at hmay
      by_cases hi0 : i = 0
      · have hi0i : ((i : Int) == 0) = true := by rw [beq_iff_eq]; omega
        have hnp : ¬ (0 < i) := by omega
        have hl0 : l[0]? = some s := by rw [← hli, hi0]
        have HI := Lib.hid hi0
        clear hi0 hcs hsv hmay hli hno hz
        by_cases hs0 : s = sy0
        · have HZ := Lib.hid hl0
          have HS := Lib.hid hs0
          have HX := Lib.hid hsok
          subst hs0
          clear hl0 hsok
          unfold sy0 at c0 c1 c2 c3 c4 c5
          dsimp only at c0 c1 c2 c3 c4 c5
          go_wp2_with fail
          go_roundw
          case rel => exact ⟨i + 1, rfl, hlt, fun _ s h => by rw [HZ.out] at h; cases h; rfl, fun j s h1 h2 => by have := HI.out; omega, hk.alloc _⟩
          case measure => simp [intOf]; omega
        · have HR : Hid (chkS l = 11) := Lib.hid (chkS_bad (.inl ⟨_, hl0, hs0⟩))
          clear hl0
          obtain ⟨x0, x1, x2, x3, x4, x5⟩ := s
          dsimp only at *
          have hne : ¬ (x0 = 0 ∧ x1 = 0 ∧ x2 = 0 ∧ x3 = 0 ∧ x4 = 0 ∧ x5 = 0) := by
            rintro ⟨rfl, rfl, rfl, rfl, rfl, rfl⟩
            exact hs0 rfl
          clear hs0
          go_wp2_with fail
          all_goals first
            | (exfalso; omega)
            | (go_ret
               rw [HR.out]
               exact ⟨rfl, hk.alloc _⟩)
      · have hi0i : ((i : Int) == 0) = false := by rw [beq_eq_false_iff_ne]; omega
        have hi0p : (0 : Int) < (i : Int) := by omega
        have hi0p2 : 0 < i := by omega
        have hz2 := hz hi0p2
        have HZ := Lib.hid hz2
        have HN := Lib.hid hno
        clear hz hz2 hno hcs hsv hi0
        generalize hm : mayS s = m at *
        generalize s.nm = x0 at *
        generalize s.inf = x1 at *
        generalize s.oth = x2 at *
        generalize s.sec = x3 at *
        generalize s.val = x4 at *
        generalize s.sz = x5 at *
        go_wp2_with fail
        have hkW : Keep No wz (wz.alloc (.cells #[.int .u32 (x0 : Int), .int .u8 (x1 : Int), .int .u8 (x2 : Int), .int .u16 (x3 : Int), .int .u64 (x4 : Int), .int .u64 (x5 : Int)] 108)) := (Keep.refl _ _).alloc _
        have hBW : Blk (wz.alloc (.cells #[.int .u32 (x0 : Int), .int .u8 (x1 : Int), .int .u8 (x2 : Int), .int .u16 (x3 : Int), .int .u64 (x4 : Int), .int .u64 (x5 : Int)] 108)) wz.heap.size #[.int .u32 (x0 : Int), .int .u8 (x1 : Int), .int .u8 (x2 : Int), .int .u16 (x3 : Int), .int .u64 (x4 : Int), .int .u64 (x5 : Int)] 108 := Blk.new _ _ _
        have hzW : (wz.alloc (.cells #[.int .u32 (x0 : Int), .int .u8 (x1 : Int), .int .u8 (x2 : Int), .int .u16 (x3 : Int), .int .u64 (x4 : Int), .int .u64 (x5 : Int)] 108)).heap.size = wz.heap.size + 1 := World.size_alloc _ _
        generalize wz.alloc (.cells #[.int .u32 (x0 : Int), .int .u8 (x1 : Int), .int .u8 (x2 : Int), .int .u16 (x3 : Int), .int .u64 (x4 : Int), .int .u64 (x5 : Int)] 108) = W at *
        refine (hmay W).mono ?_
        rintro e w2 ⟨rfl, hk2⟩
        have hkF := (hk.trans' hkW).trans' hk2
        clear hmay c0 c1 c2 c3 c4 c5
        cases m with
        | true =>
          have HM := Lib.hid hm
          clear hm
          go_wp2_with fail
          go_roundw
          case rel => exact ⟨i + 1, rfl, hlt, fun _ => HZ.out, fun j x h1 h2 h3 => by
            rcases Nat.lt_or_ge j i with h | h
            · exact HN.out j x h h2 h3
            · obtain rfl : j = i := by omega
              rw [hli] at h3
              cases h3
              exact HM.out, hkF⟩
          case measure => simp [intOf]; omega
        | false =>
          have HR : Hid (chkS l = 11) := Lib.hid (chkS_bad (.inr ⟨i, s, hi0p2, hli, hm⟩))
          clear hm
          go_wp2_with fail
          go_ret
          rw [HR.out]
          exact ⟨rfl, hkF⟩
    · obtain rfl : i = l.length := Nat.le_antisymm hi hge
      have HR : Hid (chkS l = 0) := Lib.hid (chkS_ok (fun s h => hz (List.getElem?_eq_some_iff.1 h).1 s h) fun j s h1 h2 => hno j s (List.getElem?_eq_some_iff.1 h2).1 h1 h2)
      clear hz hno
      go_wp2_with fail
      go_ret
      rw [HR.out]
      exact ⟨rfl, hk⟩
end
end Go.Proofs.Ytbnahidopemkiaa
namespace Go.Proofs.Ytbnahidopemkiaa
open Go.RowKit Go.Dm Go.Dm.Oc Go.Dm.Ld
section
variable {A : Nat → Prop} {w : World}
set_option maxRecDepth 100000 in
set_option maxHeartbeats 4000000 in
theorem rltable_any {v : Value} (b : BS) (hb : Bts A w v b) (hl : b.length ≤ 1099511627776) :
    Calls Try.prog 90 #[v] w fun e w' => ∃ v', e = .returned (.tuple #[v', .int .i64 ((rlTab b).1 : Nat)]) ∧ FlO w' w.heap.size 111 4 encRl v' (rlTab b).2 ∧ Keep No w w' := by
  have hH : rlTab b = if b.length % 24 = 0 then (0, (List.range (b.length / 24)).map fun i => rlIn b (24 * i)) else (10, []) := rfl
  by_cases h24 : b.length % 24 = 0
  · rw [if_pos h24] at hH
    have HH := Lib.hid hH
    have HB := Lib.hid hb
    obtain ⟨ao, co, rfl, hc1, hc2⟩ := hb.shape
    clear hb hH
    have h24i : (b.length : Int) % 24 = 0 := by omega
    go_enter Try.func90, Try.ntmps90
    go_wp2_with fail
    go_loopw [4, 5] (fun ov av wr => ∃ (k : Nat), av = .int .u64 ((24 * k : Nat) : Int) ∧ k ≤ b.length / 24 ∧ FlO wr w.heap.size 111 4 encRl ov ((List.range k).map fun i => rlIn b (24 * i)) ∧ Keep No w wr) (fun _ av _ => b.length - (intOf av).toNat)
    case atStart => exact ⟨0, rfl, Nat.zero_le _, FlO.nil, Keep.refl _ _⟩
    case round =>
      obtain ⟨k, rfl, hk24, hO, hK⟩ := hrel
      generalize wr = wz at *
      rcases Nat.lt_or_ge k (b.length / 24) with hlt | hge
      · have hg := fun (a : Nat) (n : Nat) (ha : a ≤ 1099511627776) (hn : n < 100) => oget_any (w := wz) b a n (Sl.keep HB.out hK fun _ _ _ h => h) hl (by omega) (by omega) (by omega)
        have g0 := hg (24 * k) 8 (by omega) (by decide)
        have g1 := hg (24 * k + 8) 4 (by omega) (by decide)
        have g2 := hg (24 * k + 12) 4 (by omega) (by decide)
        have g3 := hg (24 * k + 16) 8 (by omega) (by decide)
        clear hg
        obtain ⟨o0, o1, o2, o3⟩ := rlIn_ok b (24 * k)
        have hrl : ((List.range k).map fun i => rlIn b (24 * i)).length = k := by rw [List.length_map, List.length_range]
        have hrs : ((List.range (k + 1)).map fun i => rlIn b (24 * i)) = ((List.range k).map fun i => rlIn b (24 * i)) ++ [rlIn b (24 * k)] := by
          rw [List.range_succ, List.map_append]
          rfl
        have HRS := Lib.hid hrs
        clear hrs
        have e0 : getX b (24 * k) ((8 : Nat) : Int) = (rlIn b (24 * k)).off := rfl
        have e1 : getX b (24 * k + 8) ((4 : Nat) : Int) = (rlIn b (24 * k)).ty := rfl
        have e2 : getX b (24 * k + 12) ((4 : Nat) : Int) = (rlIn b (24 * k)).sym := rfl
        have e3 : getX b (24 * k + 16) ((8 : Nat) : Int) = (rlIn b (24 * k)).add := rfl
        rw [e0] at g0
        rw [e1] at g1
        rw [e2] at g2
        rw [e3] at g3
        clear e0 e1 e2 e3
        generalize rlIn b (24 * k) = s at *
        have hcs : encRl s = [.int .u64 (s.off : Int), .int .u32 (s.ty : Int), .int .u32 (s.sym : Int), .int .i64 (IntKind.i64.wrap (s.add : Int))] := rfl
        have hwr : IntKind.i64.wrap (s.add : Int) = addI s.add := rfl
        generalize addI s.add = ad at *
        generalize fitsE b.length (24 * k) ((8 : Nat) : Int) = f0 at *
        generalize fitsE b.length (24 * k + 8) ((4 : Nat) : Int) = f1 at *
        generalize fitsE b.length (24 * k + 12) ((4 : Nat) : Int) = f2 at *
        generalize fitsE b.length (24 * k + 16) ((8 : Nat) : Int) = f3 at *
        have hlti : ((24 * k : Nat) : Int) < (b.length : Int) := by omega
        have hq1 : 24 * (k + 1) = 24 * k + 24 := by omega
        have hqb : 24 * k ≤ 1099511627776 := by omega
        have HQ := Lib.hid hq1
        clear hq1 h24i
        generalize 24 * k = q at *
        go_wp2_with fail
        refine g0.mono ?_
        rintro e w1 ⟨rfl, rfl⟩
        go_wp2_with fail
        refine g1.mono ?_
        rintro e w1 ⟨rfl, rfl⟩
        go_wp2_with fail
        refine g2.mono ?_
        rintro e w1 ⟨rfl, rfl⟩
        go_wp2_with fail
        refine g3.mono ?_
        rintro e w1 ⟨rfl, rfl⟩
        clear g0 g1 g2 g3
        go_wp2_with (at_builtin; refine wl_append rfl _ _ _ _ rfl _ _ rfl rfl ?_)
        refine rg_push (x := s) _ _ Try.underlying39 relaT_info (by rfl) (by decide) (by rw [hcs, hwr]) (by rfl) (encRl_one _) hO (by rw [hrl]; omega) (by decide) hK.size ?_
        intro v4 w4 ho4 hk4 _
        have hkF : Keep No w w4 := Keep.own hK hO hk4
        rw [← HRS.out] at ho4
        clear hO hk4
        go_wp2_with fail
        go_roundw
        case rel =>
          exact ⟨k + 1, congrArg (Value.int .u64) (by have := HQ.out; omega), hlt, ho4, hkF⟩
        case measure => simp [intOf]; omega
      · obtain rfl : k = b.length / 24 := by omega
        have h0 : ((24 * (b.length / 24) : Nat) : Int) = (b.length : Int) := by omega
        clear h24i
        rw [h0]
        go_wp2_with fail
        go_ret2
        rw [HH.out]
        exact ⟨_, rfl, hO, hK⟩
  · rw [if_neg h24] at hH
    rw [hH]
    clear hH
    obtain ⟨ao, co, rfl, hc1, hc2⟩ := hb.shape
    clear hb
    have h24i : ¬ ((b.length : Int) % 24 = 0) := by omega
    generalize b.length = n at *
    go_enter Try.func90, Try.ntmps90
    go_wp2_with fail
    go_ret2
    exact ⟨_, rfl, FlO.nil, Keep.refl _ _⟩
theorem chkR_cons (n : Nat) (x : Rl) (r : List Rl) : chkR n (x :: r) = if rlE n x = 0 then chkR n r else rlE n x := rfl
set_option maxRecDepth 100000 in
set_option maxHeartbeats 4000000 in
theorem rlcheck_any {v : Value} (l : List Rl) (n : Nat) (hl : Fl A w 4 encRl v l) (hok : ∀ x ∈ l, RlOk x) (hn : n < 9223372036854775808) :
    Calls Try.prog 91 #[v, .int .i64 (n : Int)] w fun e w' => e = .returned (.int .i64 (chkR n l : Nat)) ∧ Keep No w w' := by
  have HL := Lib.hid hl
  obtain ⟨ao, co, rfl, hc1, hc2⟩ := hl.shape
  have hlen : l.length ≤ 9223372036854775807 := by unfold maxLen at hc2; omega
  clear hl hc1 hc2
  go_enter Try.func91, Try.ntmps91
  go_wp2_with fail
  go_loopw [12] (fun iv wr => ∃ i : Nat, iv = .int .i64 i ∧ i ≤ l.length ∧ chkR n (l.drop i) = chkR n l ∧ Keep No w wr) (fun iv _ => l.length - (intOf iv).toNat)
  case atStart => exact ⟨0, rfl, Nat.zero_le _, rfl, Keep.refl _ _⟩
  case round =>
    obtain ⟨i, rfl, hi, hA, hk⟩ := hrel
    generalize wr = wz at *
    rcases Nat.lt_or_ge i l.length with hlt | hge
    · obtain ⟨g1, off, cap, ev, _, hg1, _, _, hc⟩ := (HL.out.no hk).at encRl_len hlt
      cases ev
      have hiz : (i : Int) < (l.length : Int) := by omega
      obtain ⟨o0, o1, o2, o3⟩ := hok l[i] (List.getElem_mem hlt)
      rw [List.drop_eq_getElem_cons hlt, chkR_cons] at hA
      have hval := fun w => rlvalue_any l[i].ty 0 0 0 o1 (by decide) (by decide) (by decide) w
      have c0 := hc 0 _ rfl
      have c1 := hc 1 _ rfl
      have c2 := hc 2 _ rfl
      have c3 := hc 3 _ rfl
      rw [Nat.add_zero] at c0
      clear hc
      have hve : (valR l[i].ty 0 0 0).1 = if knownB l[i].ty = false then 33 else 0 := by
        unfold valR
        repeat' split
        all_goals rfl
      have hE : rlE n l[i] = if knownB l[i].ty = false then 33 else if 0 < l[i].sym ∧ n ≤ l[i].sym then 10 else if decide (l[i].ty = 0 ∨ l[i].ty = 8) = decide (l[i].sym = 0) then 0 else 11 := rfl
      generalize rlE n l[i] = E at *
      generalize (valR l[i].ty 0 0 0).1 = ve at *
      generalize (valR l[i].ty 0 0 0).2 = vx at *
      generalize addI l[i].add = x3 at *
      generalize l[i].off = x0 at *
      generalize l[i].ty = x1 at *
      generalize l[i].sym = x2 at *
      go_wp2_with fail
      have hkW : Keep No wz (wz.alloc (.cells #[.int .u64 (x0 : Int), .int .u32 (x1 : Int), .int .u32 (x2 : Int), .int .i64 x3] 111)) := (Keep.refl _ _).alloc _
      have hBW : Blk (wz.alloc (.cells #[.int .u64 (x0 : Int), .int .u32 (x1 : Int), .int .u32 (x2 : Int), .int .i64 x3] 111)) wz.heap.size #[.int .u64 (x0 : Int), .int .u32 (x1 : Int), .int .u32 (x2 : Int), .int .i64 x3] 111 := Blk.new _ _ _
      have hzW : (wz.alloc (.cells #[.int .u64 (x0 : Int), .int .u32 (x1 : Int), .int .u32 (x2 : Int), .int .i64 x3] 111)).heap.size = wz.heap.size + 1 := World.size_alloc _ _
      generalize wz.alloc (.cells #[.int .u64 (x0 : Int), .int .u32 (x1 : Int), .int .u32 (x2 : Int), .int .i64 x3] 111) = W at *
      refine (hval W).mono ?_
      rintro e W1 ⟨rfl, rfl⟩
      clear hval c0 c1 c2 c3
      have hkF := hk.trans' hkW
      cases hkn : knownB x1 with
      | false =>
        rw [hkn, if_pos rfl] at hve hE
        subst hve
        subst hE
        have HR := Lib.hid ((if_neg (by decide)).symm.trans hA)
        clear hA
        go_wp2_with fail
        go_ret
        rw [← HR.out]
        exact ⟨rfl, hkF⟩
      | true =>
        rw [hkn, if_neg (by decide)] at hve hE
        subst hve
        have d1 := hBW.cell 1
        have d2 := hBW.cell 2
        have HA := Lib.hid hA
        have HE := Lib.hid hE
        clear hA hE hBW
        have hx1 : (x1 = 0 ∨ x1 = 8) ∨ ¬ (x1 = 0 ∨ x1 = 8) := Decidable.em _
        rcases Nat.eq_zero_or_pos x2 with h20 | h20
        · have hE2 : E = if decide (x1 = 0 ∨ x1 = 8) = true then 0 else 11 := by
            rw [HE.out, if_neg (by omega), show decide (x2 = 0) = true from decide_eq_true h20]
          subst h20
          rcases hx1 with (h1 | h1) | h1
          · have HR : Hid (chkR n (l.drop (i + 1)) = chkR n l) := Lib.hid (by rw [← HA.out, show E = 0 by rw [hE2, if_pos (by simp [h1])]]; rfl)
            subst h1
            clear hE2 HA HE
            go_wp2_with fail
            go_roundw
            case rel => exact ⟨i + 1, rfl, hlt, HR.out, hkF⟩
            case measure => simp [intOf]; omega
          · have HR : Hid (chkR n (l.drop (i + 1)) = chkR n l) := Lib.hid (by rw [← HA.out, show E = 0 by rw [hE2, if_pos (by simp [h1])]]; rfl)
            subst h1
            clear hE2 HA HE
            go_wp2_with fail
            go_roundw
            case rel => exact ⟨i + 1, rfl, hlt, HR.out, hkF⟩
            case measure => simp [intOf]; omega
          · have HR : Hid (chkR n l = 11) := Lib.hid (by rw [← HA.out, show E = 11 by rw [hE2, if_neg (by simp; omega)]]; rfl)
            have b10 : ((x1 : Int) == 0) = false := by rw [beq_eq_false_iff_ne]; omega
            have b18 : ((x1 : Int) == 8) = false := by rw [beq_eq_false_iff_ne]; omega
            clear hE2 HA HE
            go_wp2_with fail
            go_ret
            rw [HR.out]
            exact ⟨rfl, hkF⟩
        · have h20i : (0 : Int) < (x2 : Int) := by omega
          have b20 : ((x2 : Int) == 0) = false := by rw [beq_eq_false_iff_ne]; omega
          by_cases hn2 : n ≤ x2
          · have HR : Hid (chkR n l = 10) := Lib.hid (by rw [← HA.out, show E = 10 by rw [HE.out, if_pos ⟨h20, hn2⟩]]; rfl)
            have hn2i : (n : Int) ≤ (x2 : Int) := by omega
            clear HA HE
            rcases hx1 with (h1 | h1) | h1
            · subst h1
              go_wp2_with fail
              go_ret
              rw [HR.out]
              exact ⟨rfl, hkF⟩
            · subst h1
              go_wp2_with fail
              go_ret
              rw [HR.out]
              exact ⟨rfl, hkF⟩
            · have b10 : ((x1 : Int) == 0) = false := by rw [beq_eq_false_iff_ne]; omega
              have b18 : ((x1 : Int) == 8) = false := by rw [beq_eq_false_iff_ne]; omega
              go_wp2_with fail
              go_ret
              rw [HR.out]
              exact ⟨rfl, hkF⟩
          · have hE2 : E = if decide (x1 = 0 ∨ x1 = 8) = false then 0 else 11 := by
              rw [HE.out, if_neg (by omega), show decide (x2 = 0) = false from decide_eq_false (by omega)]
            have hn2i : ¬ ((n : Int) ≤ (x2 : Int)) := by omega
            rcases hx1 with (h1 | h1) | h1
            · have HR : Hid (chkR n l = 11) := Lib.hid (by rw [← HA.out, show E = 11 by rw [hE2, if_neg (by simp [h1])]]; rfl)
              subst h1
              clear hE2 HA HE
              go_wp2_with fail
              go_ret
              rw [HR.out]
              exact ⟨rfl, hkF⟩
            · have HR : Hid (chkR n l = 11) := Lib.hid (by rw [← HA.out, show E = 11 by rw [hE2, if_neg (by simp [h1])]]; rfl)
              subst h1
              clear hE2 HA HE
              go_wp2_with fail
              go_ret
              rw [HR.out]
              exact ⟨rfl, hkF⟩
            · have HR : Hid (chkR n (l.drop (i + 1)) = chkR n l) := Lib.hid (by rw [← HA.out, show E = 0 by rw [hE2, if_pos (by simp; omega)]]; rfl)
              have b10 : ((x1 : Int) == 0) = false := by rw [beq_eq_false_iff_ne]; omega
              have b18 : ((x1 : Int) == 8) = false := by rw [beq_eq_false_iff_ne]; omega
              clear hE2 HA HE
              go_wp2_with fail
              go_roundw
              case rel => exact ⟨i + 1, rfl, hlt, HR.out, hkF⟩
              case measure => simp [intOf]; omega
    · obtain rfl : i = l.length := Nat.le_antisymm hi hge
      rw [List.drop_length] at hA
      have HR : Hid (chkR n l = 0) := Lib.hid hA.symm
      clear hA
      go_wp2_with fail
      go_ret
      rw [HR.out]
      exact ⟨rfl, hk⟩
end
end Go.Proofs.Ytbnahidopemkiaa
namespace Go.Proofs.Ytbnahidopemkiaa
open Go.RowKit Go.Dm Go.Dm.Oc Go.Dm.Ld
/-- a reader's cells -/
def rdB (h : Hd) (vs : Value) (so : BS) (vn vm vy vr vb vi : Value) (d0 d1 d2 d3 d4 d5 d6 : Nat) (vt : Value) : Array Value :=
  #[.int .i64 (h.kind : Int), .int .u64 (h.entry : Int), .int .u64 (h.segs : Int), .int .i64 (h.count : Int), vs, .string ⟨so.toArray⟩, vn, vm, vy, vr, vb, vi,
    .int .u64 (d0 : Int), .int .u64 (d1 : Int), .int .u64 (d2 : Int), .int .u64 (d3 : Int), .int .u64 (d4 : Int), .int .u64 (d5 : Int), .int .u64 (d6 : Int), vt]
section
variable {A : Nat → Prop} {w : World} {R : Nat} {h : Hd} {vs vn vm vy vr vb vi vt : Value} {so : BS} {d0 d1 d2 d3 d4 d5 d6 : Nat}
theorem place_ok (l : List Sg) (addr size : Nat) (n : Nat) (h2 : ∀ x ∈ l, x.ty = 1 → x.off + x.fi < n) (hn : 0 < n) : (placeM l addr size).2 < n := by
  induction l with
  | nil => exact hn
  | cons s r ih =>
    rw [placeM_cons]
    split
    · rename_i hh
      simp only [holdsB, decide_eq_true_eq] at hh
      have := h2 s (List.mem_cons_self ..) hh.2.1
      dsimp only
      omega
    · exact ih fun x hx => h2 x (List.mem_cons_of_mem _ hx)
set_option maxRecDepth 100000 in
set_option maxHeartbeats 4000000 in
theorem imat_any (l : List Sg) (b : BS) (addr size : Nat) (hB : Blk w R (rdB h vs so vn vm vy vr vb vi d0 d1 d2 d3 d4 d5 d6 vt) 157) (hl : Fl A w 7 encSg vs l) (hb : Bts A w vb b) (hbl : b.length ≤ 1099511627776)
    (hok : ∀ x ∈ l, SgOk x) (hok2 : ∀ x ∈ l, x.ty = 1 → x.off + x.fi < 18446744073709551616) (ha : addr < 18446744073709551616) (hz : size < 18446744073709551616) :
    Calls Try.prog 85 #[.pointer (some ⟨R, 0, none⟩), .int .u64 (addr : Int), .int .u64 (size : Int)] w fun e w' => ∃ v', e = .returned (.tuple #[v', .int .i64 ((atI b l addr size).1 : Nat)]) ∧ w'.ownsRow w.heap.size 5 1 v' (atI b l addr size).2.length ((atI b l addr size).2.map bv) ∧ Keep No w w' := by
  have c4 : w.cell? ⟨R, 4, none⟩ = some vs := hB.cell 4
  have hpl := sgplace_any (w := w) l addr size hl hok hok2 ha hz
  have hp2 := place_ok l addr size _ hok2 (by decide)
  have hH : atI b l addr size = if (placeM l addr size).1 = 0 then cutM b (placeM l addr size).2 size else ((placeM l addr size).1, []) := rfl
  have hcut : ∀ W, Keep No w W → Calls Try.prog 83 #[vb, .int .u64 ((placeM l addr size).2 : Int), .int .u64 (size : Int)] W fun e w' => ∃ v', e = .returned (.tuple #[v', .int .i64 ((cutM b (placeM l addr size).2 size).1 : Int)]) ∧ w'.ownsRow W.heap.size 5 1 v' (cutM b (placeM l addr size).2 size).2.length ((cutM b (placeM l addr size).2 size).2.map bv) ∧ Keep No W w' := fun W hk =>
    ocut_any b _ size (Sl.keep hb hk fun _ _ _ h => h) hbl hp2 hz
  generalize atI b l addr size = res at *
  generalize placeM l addr size = pl at *
  obtain ⟨pe, pp⟩ := pl
  dsimp only at *
  by_cases h0 : pe = 0
  · subst h0
    rw [if_pos rfl] at hH
    subst hH
    obtain ⟨ab, cb, rfl, _, _⟩ := hb.shape
    obtain ⟨az, cs, rfl, _, _⟩ := hl.shape
    have HC := Lib.hid hcut
    clear hcut
    go_enter Try.func85, Try.ntmps85
    go_wp2_with fail
    refine hpl.mono ?_
    clear hpl
    rintro e w1 ⟨rfl, hk1⟩
    have hB1 := hB.keep hk1 fun h => h
    have d10 : w1.cell? ⟨R, 10, none⟩ = some (.slice ab b.length cb) := hB1.cell 10
    go_wp2_with fail
    refine (HC.out w1 hk1).mono ?_
    rintro e w2 ⟨v', rfl, ho, hk2⟩
    go_wp2_with fail
    go_ret2
    exact ⟨_, rfl, own_base ho hk1.size, hk1.trans' hk2⟩
  · rw [if_neg h0] at hH
    subst hH
    obtain ⟨az, cs, rfl, _, _⟩ := hl.shape
    have h0i : ((pe : Int) == 0) = false := by rw [beq_eq_false_iff_ne]; omega
    go_enter Try.func85, Try.ntmps85
    go_wp2_with fail
    refine hpl.mono ?_
    rintro e w1 ⟨rfl, hk1⟩
    go_wp2_with fail
    go_ret2
    exact ⟨_, rfl, World.ownsRow_nil _ _ _ _, hk1⟩
set_option maxRecDepth 100000 in
set_option maxHeartbeats 4000000 in
theorem imloaded1_any (s : Sg) (a q : Nat) (hs : SgOk s) (ha : a < 18446744073709551616) (hq : w.cell? ⟨q, 0, none⟩ = some (.int .u64 (a : Int))) (hql : q < w.heap.size) :
    Calls Try.prog 107 #[.agg (encSg s).toArray, .pointer (some ⟨q, 0, none⟩)] w fun e w' => e = .returned (.bool (decide (s.ty = 1 ∧ s.va ≤ a ∧ a - s.va ≤ s.me ∧ 8 ≤ s.me - (a - s.va)))) ∧ Keep No w w' := by
  have hne : q ≠ w.heap.size := Nat.ne_of_lt hql
  obtain ⟨x0, x1, x2, x3, x4, x5, x6⟩ := s
  obtain ⟨o0, o1, o2, o3, o4, o5, o6⟩ := hs
  unfold encSg
  dsimp only at *
  go_enter Try.func107, Try.ntmps107
  go_wp2_with fail
  all_goals
    go_ret
    refine ⟨congrArg (fun b => Ending.returned (Value.bool b)) ?_, (Keep.refl _ _).alloc _⟩
    clear hq
    rw [Bool.eq_iff_iff]
    simp only [Bool.and_eq_true, decide_eq_true_eq, beq_iff_eq, Bool.false_eq_true, false_iff, true_iff, not_and] at *
    omega
set_option maxRecDepth 100000 in
set_option maxHeartbeats 4000000 in
theorem imloaded_any (l : List Sg) (a : Nat) (hB : Blk w R (rdB h vs so vn vm vy vr vb vi d0 d1 d2 d3 d4 d5 d6 vt) 157) (hl : Fl A w 7 encSg vs l) (hok : ∀ x ∈ l, SgOk x) (ha : a < 18446744073709551616) :
    Calls Try.prog 92 #[.pointer (some ⟨R, 0, none⟩), .int .u64 (a : Int)] w fun e w' => e = .returned (.bool (loadedB l a)) ∧ Keep No w w' := by
  have HL := Lib.hid hl
  have HH : Hid (loadedB l a = l.any fun s => decide (s.ty = 1 ∧ s.va ≤ a ∧ a - s.va ≤ s.me ∧ 8 ≤ s.me - (a - s.va))) := Lib.hid rfl
  obtain ⟨az, cs, rfl, _, _⟩ := hl.shape
  clear hl
  have hlt := hB.lt
  have hne : R ≠ w.heap.size := Nat.ne_of_lt hlt
  have c4 : w.cell? ⟨R, 4, none⟩ = some (.slice az l.length cs) := hB.cell 4
  go_enter Try.func92, Try.ntmps92
  go_wp2_with fail
  have hkW : Keep No w (w.alloc (.cells #[.int .u64 (a : Int)] 34)) := (Keep.refl _ _).alloc _
  have hBW : Blk (w.alloc (.cells #[.int .u64 (a : Int)] 34)) w.heap.size #[.int .u64 (a : Int)] 34 := Blk.new _ _ _
  have hzW : (w.alloc (.cells #[.int .u64 (a : Int)] 34)).heap.size = w.heap.size + 1 := World.size_alloc _ _
  generalize w.alloc (.cells #[.int .u64 (a : Int)] 34) = W at *
  have hqc := hBW.cell 0
  have hql := hBW.lt
  refine (hasSg_any (w := W) l 107 #[.pointer (some ⟨w.heap.size, 0, none⟩)] _ (HL.out.no hkW) (fun a w => by kernel_rfl) (fun s hs wr hk => imloaded1_any s a w.heap.size (hok s hs) ha ((hk.cell (p := ⟨w.heap.size, 0, none⟩) hql fun h => h).trans hqc) (Nat.lt_of_lt_of_le hql hk.size))).mono ?_
  rintro e w2 ⟨rfl, hk2⟩
  rw [← HH.out]
  go_wp2_with fail
  go_ret
  exact ⟨rfl, hkW.trans' hk2⟩
end
end Go.Proofs.Ytbnahidopemkiaa
namespace Go.Dm.Ld
open Go Go.Dm.Oc
theorem headM_ok (b : BS) : (headM b).2.kind < 65536 ∧ (headM b).2.entry < 18446744073709551616 ∧ (headM b).2.segs < 18446744073709551616 ∧ (headM b).2.count < 65536 := by
  have h0 : getX b 16 2 < 65536 := Go.Proofs.Ytbnahidopemkiaa.getX_lt b 16 2
  have h1 : getX b 24 8 < 18446744073709551616 := Go.Proofs.Ytbnahidopemkiaa.getX_lt b 24 8
  have h2 : getX b 32 8 < 18446744073709551616 := Go.Proofs.Ytbnahidopemkiaa.getX_lt b 32 8
  have h3 : getX b 56 2 < 65536 := Go.Proofs.Ytbnahidopemkiaa.getX_lt b 56 2
  unfold headM
  split
  · decide
  · split
    · exact ⟨h0, h1, h2, h3⟩
    · decide
theorem chkA_ok {size : Nat} : ∀ (l pre : List Sg) (bh : Nat), chkA size pre bh l = 0 → ∀ s ∈ l, s.ty ≠ 0 → oneE s size = 0
  | [], _, _, _, s, hs, _ => by cases hs
  | x :: r, pre, bh, h, s, hs, h0 => by
    unfold chkA at h
    split at h
    · rename_i h1
      exact absurd h h1
    · rename_i h1
      split at h
      · cases h
      · rcases List.mem_cons.1 hs with rfl | hs
        · exact Decidable.not_not.1 h1
        · split at h
          · split at h
            · cases h
            · exact chkA_ok r _ _ h s hs h0
          · exact chkA_ok r _ _ h s hs h0
theorem chkE_ok {l : List Sg} {size : Nat} (h : chkE l size = 0) : ∀ s ∈ l, s.ty ≠ 0 → oneE s size = 0 := by
  unfold chkE at h
  split at h
  · rename_i h1
    exact absurd h h1
  · rename_i h1
    exact chkA_ok l [] 0 (Decidable.not_not.1 h1)
end Go.Dm.Ld
namespace Go.Proofs.Ytbnahidopemkiaa
open Go.RowKit Go.Dm Go.Dm.Oc Go.Dm.Ld
section
variable {A : Nat → Prop} {w : World} {R : Nat} {h : Hd} {vs vn vm vy vr vb vi vt : Value} {so : BS} {d0 d1 d2 d3 d4 d5 d6 : Nat}
set_option maxRecDepth 100000 in
set_option maxHeartbeats 8000000 in
theorem imshape_any {B : Nat → Prop} (hNe : ∀ k, B k → k ≠ R) (hNw : ∀ k, w.heap.size ≤ k → B k) (b : BS) (hB : Blk w R (rdB h vs so vn vm vy vr vb vi d0 d1 d2 d3 d4 d5 d6 vt) 157) (hb : Bts B w vb b) (hbl : b.length ≤ 1099511627776) :
    Calls Try.prog 67 #[.pointer (some ⟨R, 0, none⟩)] w fun e w' => e = .returned (.int .i64 ((shapeM b).1 : Nat)) ∧ Keep (fun j => j = R) w w' ∧ ((shapeM b).1 = 0 → ∃ vs', Blk w' R (rdB (shapeM b).2.1 vs' so vn vm vy vr vb vi d0 d1 d2 d3 d4 d5 d6 vt) 157 ∧ Fl B w' 7 encSg vs' (shapeM b).2.2) := by
  have c10 : w.cell? ⟨R, 10, none⟩ = some vb := hB.cell 10
  have hget := hget_any b hb hbl
  have hH : shapeM b = if (headM b).1 ≠ 0 then ((headM b).1, hd0, [])
      else if (headM b).2.kind = 4 then (11, hd0, [])
      else if (sgTab b (headM b).2.segs (headM b).2.count).1 ≠ 0 then ((sgTab b (headM b).2.segs (headM b).2.count).1, hd0, [])
      else if chkE (sgTab b (headM b).2.segs (headM b).2.count).2 b.length ≠ 0 then (chkE (sgTab b (headM b).2.segs (headM b).2.count).2 b.length, hd0, [])
      else if findM (sgTab b (headM b).2.segs (headM b).2.count).2 1 = none then (11, hd0, [])
      else (0, (headM b).2, (sgTab b (headM b).2.segs (headM b).2.count).2) := rfl
  obtain ⟨o0, o1, o2, o3⟩ := headM_ok b
  have hcs : (encHd (headM b).2).toArray = #[.int .i64 ((headM b).2.kind : Int), .int .u64 ((headM b).2.entry : Int), .int .u64 ((headM b).2.segs : Int), .int .i64 ((headM b).2.count : Int)] := rfl
  rw [hcs] at hget
  have htab : ∀ W, Keep (fun j => j = R) w W → Calls Try.prog 81 #[vb, .int .u64 ((headM b).2.segs : Int), .int .i64 ((headM b).2.count : Int)] W fun e w' => ∃ v', e = .returned (.tuple #[v', .int .i64 ((sgTab b (headM b).2.segs (headM b).2.count).1 : Nat)]) ∧ FlO w' W.heap.size 104 7 encSg v' (sgTab b (headM b).2.segs (headM b).2.count).2 ∧ Keep No W w' := fun W hk =>
    sgtable_any b _ _ (Sl.keep hb hk fun j _ h1 h2 => hNe j h1 h2) hbl o2 o3
  have htok := sgTab_ok b (headM b).2.segs (headM b).2.count
  generalize sgTab b (headM b).2.segs (headM b).2.count = tb at *
  generalize headM b = hm at *
  obtain ⟨he, ⟨x0, x1, x2, x3⟩⟩ := hm
  obtain ⟨te, l⟩ := tb
  dsimp only at *
  generalize shapeM b = res at *
  have HT := Lib.hid htab
  clear htab hcs
  obtain ⟨ab, cb, rfl, hcb1, hcb2⟩ := hb.shape
  have hfr : ∀ i, w.frozen? ⟨R, i, none⟩ = false := fun i => hB.frozen i
  go_enter Try.func67, Try.ntmps67
  go_wp2_with fail
  refine hget.mono ?_
  clear hget
  rintro e w1 ⟨rfl, hk1⟩
  have hB1 := hB.keep hk1 fun h => h
  have e0 : w1.cell? ⟨R, 0, none⟩ = some (.int .i64 (h.kind : Int)) := hB1.cell 0
  have e1 : w1.cell? ⟨R, 1, none⟩ = some (.int .u64 (h.entry : Int)) := hB1.cell 1
  have e2 : w1.cell? ⟨R, 2, none⟩ = some (.int .u64 (h.segs : Int)) := hB1.cell 2
  have e3 : w1.cell? ⟨R, 3, none⟩ = some (.int .i64 (h.count : Int)) := hB1.cell 3
  have f0 := hB1.frozen 0
  have f1 := hB1.frozen 1
  have f2 := hB1.frozen 2
  have f3 := hB1.frozen 3
  have hkS : Keep (fun j => j = R) w ((((w1.setCell ⟨R, 0, none⟩ (.int .i64 (x0 : Int))).setCell ⟨R, 1, none⟩ (.int .u64 (x1 : Int))).setCell ⟨R, 2, none⟩ (.int .u64 (x2 : Int))).setCell ⟨R, 3, none⟩ (.int .i64 (x3 : Int))) :=
    ((((hk1.mono (fun _ _ h => h.elim) : Keep (fun j => j = R) w w1).setCell (p := ⟨R, 0, none⟩) (fun _ => rfl) _).setCell (p := ⟨R, 1, none⟩) (fun _ => rfl) _).setCell (p := ⟨R, 2, none⟩) (fun _ => rfl) _).setCell (p := ⟨R, 3, none⟩) (fun _ => rfl) _
  have hBS : Blk ((((w1.setCell ⟨R, 0, none⟩ (.int .i64 (x0 : Int))).setCell ⟨R, 1, none⟩ (.int .u64 (x1 : Int))).setCell ⟨R, 2, none⟩ (.int .u64 (x2 : Int))).setCell ⟨R, 3, none⟩ (.int .i64 (x3 : Int))) R (rdB ⟨x0, x1, x2, x3⟩ vs so vn vm vy vr (.slice ab b.length cb) vi d0 d1 d2 d3 d4 d5 d6 vt) 157 :=
    (((hB1.set (i := 0) _).set (i := 1) _).set (i := 2) _).set (i := 3) _
  by_cases hz : he = 0
  · subst hz
    rw [if_neg (by decide)] at hH
    by_cases hx4 : x0 = 4
    · rw [if_pos hx4] at hH
      subst hH
      have hx4i : ((x0 : Int) == 4) = true := by rw [beq_iff_eq]; omega
      go_wp2_with fail
      subst hx4
      go_ret
      exact ⟨rfl, hkS⟩
    · rw [if_neg hx4] at hH
      have hx4i : ((x0 : Int) == 4) = false := by rw [beq_eq_false_iff_ne]; omega
      go_wp2_with fail
      generalize (((w1.setCell ⟨R, 0, none⟩ (.int .i64 (x0 : Int))).setCell ⟨R, 1, none⟩ (.int .u64 (x1 : Int))).setCell ⟨R, 2, none⟩ (.int .u64 (x2 : Int))).setCell ⟨R, 3, none⟩ (.int .i64 (x3 : Int)) = ws at *
      clear e0 e1 e2 e3 f0 f1 f2 f3 hB1 hB hk1 c10 hx4 hx4i hfr
      have q0 : ws.cell? ⟨R, 2, none⟩ = some (.int .u64 (x2 : Int)) := hBS.cell 2
      have q1 : ws.cell? ⟨R, 3, none⟩ = some (.int .i64 (x3 : Int)) := hBS.cell 3
      have q2 : ws.cell? ⟨R, 10, none⟩ = some (.slice ab b.length cb) := hBS.cell 10
      refine wp_region_sig (fun w' => w'.cell? ⟨R, 2, none⟩ = some (.int .u64 (x2 : Int)) ∧ w'.cell? ⟨R, 3, none⟩ = some (.int .i64 (x3 : Int)) ∧ w'.cell? ⟨R, 10, none⟩ = some (.slice ab b.length cb)) (fun j => decide (j ≤ 99)) [(0, true), (1, true), (2, true), (3, true), (4, true), (5, true), (6, true), (7, true), (8, true), (9, true), (10, true), (11, true), (12, true), (13, true), (14, true), (15, true), (16, true), (17, true), (18, false), (19, true), (20, true), (21, true), (22, true), (23, true), (24, true), (25, false), (26, true)] (by kernel_rfl) (by kernel_rfl) (by intro c a d v w h; cases d <;> exact h) ⟨q0, q1, q2⟩ ?_
      apply sig_still (o := ⟨some 30, _, _, _, _, _⟩) rfl rfl
      · intro w' hS
        obtain ⟨q1, q2, q3⟩ := hS
        first | (go_simp; done) | (go_simp; rfl) | rfl
      go_frame
      apply sig_still (o := ⟨some 31, _, _, _, _, _⟩) rfl rfl
      · intro w' hS
        obtain ⟨q1, q2, q3⟩ := hS
        first | (go_simp; done) | (go_simp; rfl) | rfl
      go_frame
      apply sig_still (o := ⟨some 32, _, _, _, _, _⟩) rfl rfl
      · intro w' hS
        obtain ⟨q1, q2, q3⟩ := hS
        first | (go_simp; done) | (go_simp; rfl) | rfl
      go_frame
      apply sig_still (o := ⟨some 33, _, _, _, _, _⟩) rfl rfl
      · intro w' hS
        obtain ⟨q1, q2, q3⟩ := hS
        first | (go_simp; done) | (go_simp; rfl) | rfl
      go_frame
      apply sig_still (o := ⟨some 34, _, _, _, _, _⟩) rfl rfl
      · intro w' hS
        obtain ⟨q1, q2, q3⟩ := hS
        first | (go_simp; done) | (go_simp; rfl) | rfl
      go_frame
      apply sig_still (o := ⟨some 35, _, _, _, _, _⟩) rfl rfl
      · intro w' hS
        obtain ⟨q1, q2, q3⟩ := hS
        first | (go_simp; done) | (go_simp; rfl) | rfl
      go_frame
      apply sig_still (o := ⟨some 36, _, _, _, _, _⟩) rfl rfl
      · intro w' hS
        obtain ⟨q1, q2, q3⟩ := hS
        first | (go_simp; done) | (go_simp; rfl) | rfl
      go_frame
      apply sig_still (o := ⟨some 37, _, _, _, _, _⟩) rfl rfl
      · intro w' hS
        obtain ⟨q1, q2, q3⟩ := hS
        first | (go_simp; done) | (go_simp; rfl) | rfl
      go_frame
      apply sig_still (o := ⟨some 38, _, _, _, _, _⟩) rfl rfl
      · intro w' hS
        obtain ⟨q1, q2, q3⟩ := hS
        first | (go_simp; done) | (go_simp; rfl) | rfl
      go_frame
      apply sig_still (o := ⟨some 39, _, _, _, _, _⟩) rfl rfl
      · intro w' hS
        obtain ⟨q1, q2, q3⟩ := hS
        first | (go_simp; done) | (go_simp; rfl) | rfl
      go_frame
      apply sig_still (o := ⟨some 40, _, _, _, _, _⟩) rfl rfl
      · intro w' hS
        obtain ⟨q1, q2, q3⟩ := hS
        first | (go_simp; done) | (go_simp; rfl) | rfl
      go_frame
      apply sig_still (o := ⟨some 41, _, _, _, _, _⟩) rfl rfl
      · intro w' hS
        obtain ⟨q1, q2, q3⟩ := hS
        first | (go_simp; done) | (go_simp; rfl) | rfl
      go_frame
      apply sig_still (o := ⟨some 42, _, _, _, _, _⟩) rfl rfl
      · intro w' hS
        obtain ⟨q1, q2, q3⟩ := hS
        first | (go_simp; done) | (go_simp; rfl) | rfl
      go_frame
      apply sig_still (o := ⟨some 43, _, _, _, _, _⟩) rfl rfl
      · intro w' hS
        obtain ⟨q1, q2, q3⟩ := hS
        first | (go_simp; done) | (go_simp; rfl) | rfl
      go_frame
      apply sig_still (o := ⟨some 44, _, _, _, _, _⟩) rfl rfl
      · intro w' hS
        obtain ⟨q1, q2, q3⟩ := hS
        first | (go_simp; done) | (go_simp; rfl) | rfl
      go_frame
      apply sig_still (o := ⟨some 45, _, _, _, _, _⟩) rfl rfl
      · intro w' hS
        obtain ⟨q1, q2, q3⟩ := hS
        first | (go_simp; done) | (go_simp; rfl) | rfl
      go_frame
      apply sig_still (o := ⟨some 46, _, _, _, _, _⟩) rfl rfl
      · intro w' hS
        obtain ⟨q1, q2, q3⟩ := hS
        first | (go_simp; done) | (go_simp; rfl) | rfl
      go_frame
      apply sig_still (o := ⟨some 47, _, _, _, _, _⟩) rfl rfl
      · intro w' hS
        obtain ⟨q1, q2, q3⟩ := hS
        first | (go_simp; done) | (go_simp; rfl) | rfl
      go_frame
      refine sig_eff (o := ⟨some 48, _, _, _, _, _⟩) rfl rfl (fun K hKe => ?_)
      go_wp2_with fail
      refine (HT.out _ hkS.drew).mono ?_
      rintro e w2 ⟨v2, rfl, ho2, hk2⟩
      have hk2' : Keep No ws w2 := (Keep.refl No ws).drew.trans' hk2
      have hB2 := hBS.keep hk2' fun h => h
      refine hKe _ _ ⟨fun _ => ⟨hB2.cell 2, hB2.cell 3, hB2.cell 10⟩, ?_⟩
      clear hKe
      have hsl := ho2.fl
      obtain ⟨av, cv, rfl, _, _⟩ := hsl.shape
      apply sig_still (o := ⟨some 29, _, _, _, _, _⟩) rfl rfl
      · intro w' hS
        obtain ⟨q1, q2, q3⟩ := hS
        first | (go_simp; done) | (go_simp; rfl) | rfl
      go_frame
      apply sig_still (o := ⟨some 49, _, _, _, _, _⟩) rfl rfl
      · intro w' hS
        obtain ⟨q1, q2, q3⟩ := hS
        first | (go_simp; done) | (go_simp; rfl) | rfl
      go_frame
      apply sig_still (o := ⟨some 50, _, _, _, _, _⟩) rfl rfl
      · intro w' hS
        obtain ⟨q1, q2, q3⟩ := hS
        first | (go_simp; done) | (go_simp; rfl) | rfl
      go_frame
      apply sig_still (o := ⟨some 51, _, _, _, _, _⟩) rfl rfl
      · intro w' hS
        obtain ⟨q1, q2, q3⟩ := hS
        first | (go_simp; done) | (go_simp; rfl) | rfl
      go_frame
      apply sig_still (o := ⟨some 52, _, _, _, _, _⟩) rfl rfl
      · intro w' hS
        obtain ⟨q1, q2, q3⟩ := hS
        first | (go_simp; done) | (go_simp; rfl) | rfl
      go_frame
      apply sig_still (o := ⟨some 53, _, _, _, _, _⟩) rfl rfl
      · intro w' hS
        obtain ⟨q1, q2, q3⟩ := hS
        first | (go_simp; done) | (go_simp; rfl) | rfl
      go_frame
      refine sig_eff (o := ⟨none, _, _, _, _, _⟩) rfl rfl (fun K hKe => ?_)
      have g4 : w2.cell? ⟨R, 4, none⟩ = some vs := hB2.cell 4
      have fr4 := hB2.frozen 4
      go_wp2_with fail
      have hB3 : Blk (w2.setCell ⟨R, 4, none⟩ (.slice av l.length cv)) R (rdB ⟨x0, x1, x2, x3⟩ (.slice av l.length cv) so vn vm vy vr (.slice ab b.length cb) vi d0 d1 d2 d3 d4 d5 d6 vt) 157 := hB2.set (i := 4) _
      have hk3 : Keep (fun j => j = R) w2 (w2.setCell ⟨R, 4, none⟩ (.slice av l.length cv)) := (Keep.refl (fun j => j = R) w2).setCell (p := ⟨R, 4, none⟩) (fun _ => rfl) _
      generalize w2.setCell ⟨R, 4, none⟩ (.slice av l.length cv) = w3 at *
      refine ⟨fun _ => ⟨hB3.cell 2, hB3.cell 3, hB3.cell 10⟩, ?_⟩
      apply sig_still (o := ⟨some 3, _, _, _, _, _⟩) rfl rfl
      · intro w' hS
        obtain ⟨q1, q2, q3⟩ := hS
        first | (go_simp; done) | (go_simp; rfl) | rfl
      go_frame
      refine sig_nil ?_
      have hsl3 : Fl B w3 7 encSg (.slice av l.length cv) l := (hsl.keep hk3 fun j hj h e => by
        have e2 : j = R := e
        have := hBS.lt
        have h1 : ws.heap.size ≤ j := h.1
        omega).mono fun j _ h => hNw j (Nat.le_trans hkS.size h.1)
      have hkw3 : Keep (fun j => j = R) w w3 := (hkS.trans hk2' fun _ _ h => h.elim).trans' hk3
      clear hsl ho2 hk2 hk2' hk3 hB2 g4 fr4 q0 q1 q2 hBS
      by_cases ht : te = 0
      · subst ht
        rw [if_neg (by decide)] at hH
        have hchk : ∀ W, Keep No w3 W → Calls Try.prog 82 #[.slice av l.length cv, .int .u64 (b.length : Int)] W fun e w' => e = .returned (.int .i64 (chkE l b.length : Nat)) ∧ Keep No W w' := fun W hk => sgcheck_any l b.length (hsl3.no hk) htok (by omega)
        have hfind : ∀ W, Keep No w3 W → Calls Try.prog 42 #[.slice av l.length cv, .int .u32 1] W fun e w' => e = .returned (.tuple #[.agg (encSg (sgD (findM l 1))).toArray, .bool (findM l 1).isSome]) ∧ Keep No W w' := fun W hk => sgfind_any l 1 (hsl3.no hk)
        have hfs : (findM l 1 = none) ↔ (findM l 1).isSome = false := by cases findM l 1 <;> simp
        generalize chkE l b.length = ce at *
        have g4 : w3.cell? ⟨R, 4, none⟩ = some (.slice av l.length cv) := hB3.cell 4
        have g10 : w3.cell? ⟨R, 10, none⟩ = some (.slice ab b.length cb) := hB3.cell 10
        go_wp2_with fail
        refine wp_region_sig (fun w' => w'.cell? ⟨R, 4, none⟩ = some (.slice av l.length cv) ∧ w'.cell? ⟨R, 10, none⟩ = some (.slice ab b.length cb)) (fun j => decide (j ≤ 99)) [(0, true), (1, true), (2, true), (3, true), (4, true), (5, true), (6, true), (7, true), (8, true), (9, true), (10, true), (11, true), (12, false), (13, true)] (by kernel_rfl) (by kernel_rfl) (by intro c a d v w h; cases d <;> exact h) ⟨g4, g10⟩ ?_
        apply sig_still (o := ⟨some 57, _, _, _, _, _⟩) rfl rfl
        · intro w' hS
          obtain ⟨q1, q2⟩ := hS
          first | (go_simp; done) | (go_simp; rfl) | rfl
        go_frame
        apply sig_still (o := ⟨some 58, _, _, _, _, _⟩) rfl rfl
        · intro w' hS
          obtain ⟨q1, q2⟩ := hS
          first | (go_simp; done) | (go_simp; rfl) | rfl
        go_frame
        apply sig_still (o := ⟨some 59, _, _, _, _, _⟩) rfl rfl
        · intro w' hS
          obtain ⟨q1, q2⟩ := hS
          first | (go_simp; done) | (go_simp; rfl) | rfl
        go_frame
        apply sig_still (o := ⟨some 60, _, _, _, _, _⟩) rfl rfl
        · intro w' hS
          obtain ⟨q1, q2⟩ := hS
          first | (go_simp; done) | (go_simp; rfl) | rfl
        go_frame
        apply sig_still (o := ⟨some 61, _, _, _, _, _⟩) rfl rfl
        · intro w' hS
          obtain ⟨q1, q2⟩ := hS
          first | (go_simp; done) | (go_simp; rfl) | rfl
        go_frame
        apply sig_still (o := ⟨some 62, _, _, _, _, _⟩) rfl rfl
        · intro w' hS
          obtain ⟨q1, q2⟩ := hS
          first | (go_simp; done) | (go_simp; rfl) | rfl
        go_frame
        apply sig_still (o := ⟨some 63, _, _, _, _, _⟩) rfl rfl
        · intro w' hS
          obtain ⟨q1, q2⟩ := hS
          first | (go_simp; done) | (go_simp; rfl) | rfl
        go_frame
        apply sig_still (o := ⟨some 64, _, _, _, _, _⟩) rfl rfl
        · intro w' hS
          obtain ⟨q1, q2⟩ := hS
          first | (go_simp; done) | (go_simp; rfl) | rfl
        go_frame
        apply sig_still (o := ⟨some 65, _, _, _, _, _⟩) rfl rfl
        · intro w' hS
          obtain ⟨q1, q2⟩ := hS
          first | (go_simp; done) | (go_simp; rfl) | rfl
        go_frame
        apply sig_still (o := ⟨some 66, _, _, _, _, _⟩) rfl rfl
        · intro w' hS
          obtain ⟨q1, q2⟩ := hS
          first | (go_simp; done) | (go_simp; rfl) | rfl
        go_frame
        apply sig_still (o := ⟨some 67, _, _, _, _, _⟩) rfl rfl
        · intro w' hS
          obtain ⟨q1, q2⟩ := hS
          first | (go_simp; done) | (go_simp; rfl) | rfl
        go_frame
        apply sig_still (o := ⟨some 68, _, _, _, _, _⟩) rfl rfl
        · intro w' hS
          obtain ⟨q1, q2⟩ := hS
          first | (go_simp; done) | (go_simp; rfl) | rfl
        go_frame
        refine sig_eff (o := ⟨some 69, _, _, _, _, _⟩) rfl rfl (fun K hKe => ?_)
        go_wp2_with fail
        refine (hchk _ (Keep.refl No w3).drew).mono ?_
        rintro e w4 ⟨rfl, hk4⟩
        have hk4' : Keep No w3 w4 := (Keep.refl No w3).drew.trans' hk4
        have hB4 := hB3.keep hk4' fun h => h
        refine hKe _ _ ⟨fun _ => ⟨hB4.cell 4, hB4.cell 10⟩, ?_⟩
        clear hKe hchk
        apply sig_still (o := ⟨some 3, _, _, _, _, _⟩) rfl rfl
        · intro w' hS
          obtain ⟨q1, q2⟩ := hS
          first | (go_simp; done) | (go_simp; rfl) | rfl
        go_frame
        refine sig_nil ?_
        have hkw4 : Keep (fun j => j = R) w w4 := hkw3.trans hk4' fun _ _ h => h.elim
        have hfind4 := hfind w4 hk4'
        have hsl4 := hsl3.no hk4'
        have g44 : w4.cell? ⟨R, 4, none⟩ = some (.slice av l.length cv) := hB4.cell 4
        clear hfind hk4 hB3 g4 g10 hsl3
        by_cases hc : ce = 0
        · subst hc
          rw [if_neg (by decide)] at hH
          have hcc : (encSg (sgD (findM l 1))).toArray = #[.int .u32 ((sgD (findM l 1)).ty : Int), .int .u32 ((sgD (findM l 1)).fl : Int), .int .u64 ((sgD (findM l 1)).off : Int), .int .u64 ((sgD (findM l 1)).va : Int), .int .u64 ((sgD (findM l 1)).fi : Int), .int .u64 ((sgD (findM l 1)).me : Int), .int .u64 ((sgD (findM l 1)).al : Int)] := rfl
          rw [hcc] at hfind4
          clear hcc
          generalize sgD (findM l 1) = sd at *
          cases hfb : (findM l 1).isSome with
          | false =>
            rw [hfb] at hfind4
            rw [if_pos (hfs.2 hfb)] at hH
            subst hH
            go_wp2_with fail
            refine hfind4.mono ?_
            rintro e w5 ⟨rfl, hk5⟩
            go_wp2_with fail
            go_ret
            exact ⟨rfl, (hkw4.trans hk5 fun _ _ h => h.elim).alloc _⟩
          | true =>
            rw [hfb] at hfind4
            rw [if_neg (fun h => by rw [hfs.1 h] at hfb; cases hfb)] at hH
            subst hH
            go_wp2_with fail
            refine hfind4.mono ?_
            rintro e w5 ⟨rfl, hk5⟩
            go_wp2_with fail
            go_ret
            have hk5' : ∀ o, Keep No w4 (w5.alloc o) := fun o => hk5.alloc o
            refine ⟨rfl, (hkw4.trans hk5 fun _ _ h => h.elim).alloc _, ?_⟩
            first
              | exact ⟨_, hB4.keep (hk5' _) fun h => h, hsl4.no (hk5' _)⟩
              | exact fun _ => ⟨_, hB4.keep (hk5' _) fun h => h, hsl4.no (hk5' _)⟩
        · have hci : ((ce : Int) == 0) = false := by rw [beq_eq_false_iff_ne]; omega
          rw [if_pos hc] at hH
          subst hH
          go_wp2_with fail
          go_ret
          first
            | exact ⟨rfl, hkw4⟩
            | exact ⟨rfl, hkw4, fun h0 => absurd h0 hc⟩
      · have hti : ((te : Int) == 0) = false := by rw [beq_eq_false_iff_ne]; omega
        rw [if_pos ht] at hH
        subst hH
        go_wp2_with fail
        go_ret
        first
          | exact ⟨rfl, hkw3⟩
          | exact ⟨rfl, hkw3, fun h0 => absurd h0 ht⟩
  · have hzi : ((he : Int) == 0) = false := by rw [beq_eq_false_iff_ne]; omega
    rw [if_pos hz] at hH
    subst hH
    go_wp2_with fail
    go_ret
    first
      | exact ⟨rfl, hkS⟩
      | exact ⟨rfl, hkS, fun h0 => absurd h0 hz⟩
end
end Go.Proofs.Ytbnahidopemkiaa
namespace Go.Dm.Ld
open Go Go.Dm.Oc
theorem tagAt_lt7 {t k : Nat} (h : tagAt t = some k) : k < 7 := Go.Proofs.Ytbnahidopemkiaa.tagAt_lt h
theorem dyGo_ok (b : BS) : ∀ (f at_ : Nat) (x : Dy) (seen : List Bool), x.v.length = 7 → (∀ n ∈ x.v, n < 18446744073709551616) → (∀ n ∈ x.need, n < 18446744073709551616) →
    (dyGo b f at_ x seen).2.v.length = 7 ∧ (∀ n ∈ (dyGo b f at_ x seen).2.v, n < 18446744073709551616) ∧ (∀ n ∈ (dyGo b f at_ x seen).2.need, n < 18446744073709551616) ∧ (dyGo b f at_ x seen).2.need.length ≤ x.need.length + f := by
  have h0 : dy0.v.length = 7 ∧ (∀ n ∈ dy0.v, n < 18446744073709551616) ∧ (∀ n ∈ dy0.need, n < 18446744073709551616) ∧ ∀ k, dy0.need.length ≤ k := by
    refine ⟨rfl, by decide, by decide, fun k => Nat.zero_le _⟩
  intro f
  induction f with
  | zero => intro at_ x seen _ _ _; exact ⟨h0.1, h0.2.1, h0.2.2.1, h0.2.2.2 _⟩
  | succ f ih =>
    intro at_ x seen h1 h2 h3
    unfold dyGo
    have hx : getX b (at_ + 8) 8 < 18446744073709551616 := Go.Proofs.Ytbnahidopemkiaa.getX_lt b (at_ + 8) 8
    split
    · exact ⟨h0.1, h0.2.1, h0.2.2.1, h0.2.2.2 _⟩
    · split
      · split
        · exact ⟨h1, h2, h3, Nat.le_add_right _ _⟩
        · exact ⟨h0.1, h0.2.1, h0.2.2.1, h0.2.2.2 _⟩
      · split
        · obtain ⟨a1, a2, a3, a4⟩ := ih (at_ + 16) { x with need := x.need ++ [getX b (at_ + 8) 8] } seen h1 h2 (by
            intro n hn
            rcases List.mem_append.1 hn with h | h
            · exact h3 n h
            · rw [List.mem_singleton.1 h]; exact hx)
          refine ⟨a1, a2, a3, ?_⟩
          simp only [List.length_append, List.length_singleton] at a4
          omega
        · split
          · exact ⟨h0.1, h0.2.1, h0.2.2.1, h0.2.2.2 _⟩
          · split
            · exact ⟨h0.1, h0.2.1, h0.2.2.1, h0.2.2.2 _⟩
            · rename_i k _ _
              obtain ⟨a1, a2, a3, a4⟩ := ih (at_ + 16) { x with v := x.v.set k (getX b (at_ + 8) 8) } (seen.set k true) (by rw [List.length_set]; exact h1) (by
                intro n hn
                rcases List.mem_or_eq_of_mem_set hn with h | h
                · exact h2 n h
                · rw [h]; exact hx) h3
              refine ⟨a1, a2, a3, ?_⟩
              dsimp only at a4
              omega
theorem dyM_ok (b : BS) : (dyM b).2.v.length = 7 ∧ (∀ n ∈ (dyM b).2.v, n < 18446744073709551616) ∧ (∀ n ∈ (dyM b).2.need, n < 18446744073709551616) ∧ (dyM b).2.need.length ≤ b.length / 16 + 1 := by
  have h := dyGo_ok b (b.length / 16 + 1) 0 dy0 [false, false, false, false, false, false, false] rfl (by decide) (by decide)
  refine ⟨h.1, h.2.1, h.2.2.1, ?_⟩
  have h4 := h.2.2.2
  have e : dy0.need.length = 0 := rfl
  rw [e] at h4
  unfold dyM
  omega
theorem cutM_lt (b : BS) (a n : Nat) : (cutM b a n).2.length ≤ b.length := by
  unfold cutM
  split
  · rw [List.length_take, List.length_drop]; omega
  · exact Nat.zero_le _
theorem atI_lt (b : BS) (l : List Sg) (a n : Nat) : (atI b l a n).2.length ≤ b.length := by
  unfold atI
  split
  · exact cutM_lt b _ _
  · exact Nat.zero_le _
theorem shapeM_ok {b : BS} (h : (shapeM b).1 = 0) : (∀ s ∈ (shapeM b).2.2, SgOk s) ∧ (∀ s ∈ (shapeM b).2.2, s.ty ≠ 0 → oneE s b.length = 0) := by
  have ht := Go.Proofs.Ytbnahidopemkiaa.sgTab_ok b (headM b).2.segs (headM b).2.count
  unfold shapeM at h ⊢
  split at h
  · rename_i h1; exact absurd h h1
  · rename_i h1
    rw [if_neg h1]
    split at h
    · cases h
    · rename_i h2
      rw [if_neg h2]
      split at h
      · rename_i h3; exact absurd h h3
      · rename_i h3
        rw [if_neg h3]
        split at h
        · rename_i h4; exact absurd h h4
        · rename_i h4
          rw [if_neg h4]
          split at h
          · cases h
          · rename_i h5
            rw [if_neg h5]
            exact ⟨ht, chkE_ok (Decidable.not_not.1 h4)⟩
end Go.Dm.Ld
namespace Go.Dm
open Go Go.RowKit
def StGoal (P : Program) (ty : TypeId) (g off : Nat) (v : Value) (w : World) (K : World → Prop) : Prop := RunGoal P (Instr.storeAt ty (.pointer (some ⟨g, off, none⟩)) v) w fun _ w' => K w'
/-- cells, with some turned from a place on -/
def putAt (old : Array Value) (off : Nat) (cs : List Value) : Array Value := (old.toList.take off ++ cs ++ old.toList.drop (off + cs.length)).toArray
section
variable {P : Program} {w : World}
theorem wl_st {ops : Array Oper} {rest : List Oper} {o : Oper} {a : Act} {Q : Exit → Act → World → Prop} (hgd : o.guard = none) (x y : Operand) (ty : TypeId) (ho : o.op = Op.store ty x y) (g off : Nat) (v : Value)
    (h1 : a.eval x = .pointer (some ⟨g, off, none⟩)) (h2 : a.eval y = v) (h : StGoal P ty g off v w fun w' => wpList P ops Q rest (a.put o.dst undef) w') : wpList P ops Q (o :: rest) a w := by
  obtain ⟨u, w', hr, hk⟩ := h
  refine wpList_plain hgd fun K hK => ?_
  unfold Oper.wp execOp
  simp only [ho, h1, h2, hr, Sem.run_bind, Sem.run_pure, Result.andThen_ok]
  exact hK _ _ hk
theorem wo_st {o : Oper} {a : Act} {Q : Exit → Act → World → Prop} {K : Act → World → Prop} (x y : Operand) (ty : TypeId) (ho : o.op = Op.store ty x y) (g off : Nat) (v : Value)
    (h1 : a.eval x = .pointer (some ⟨g, off, none⟩)) (h2 : a.eval y = v) (h : StGoal P ty g off v w fun w' => K (a.put o.dst undef) w') : o.wp P a w K Q := by
  obtain ⟨u, w', hr, hk⟩ := h
  unfold Oper.wp execOp
  simp only [ho, h1, h2, hr, Sem.run_bind, Sem.run_pure, Result.andThen_ok]
  exact hk
theorem rg_stN {g off : Nat} {old cells : Array Value} {t ty : TypeId} (hB : Blk w g old t) (hi : (P.info? ty).map (·.size) = some cells.size) (hfit : off + cells.size ≤ old.size) (h1 : cells.all (·.oneCell') = true) {K : World → Prop}
    (h : ∀ w', Blk w' g (putAt old off cells.toList) t → Keep (fun j => j = g) w w' → w'.heap.size = w.heap.size → K w') : StGoal P ty g off (.agg cells) w K := by
  have hst := run_storeCells_at P g off t cells.toList 0 old w hB (by simpa using hfit) (fun v hv => (Array.all_eq_true_iff_forall_mem.1 h1) v (by simpa using hv))
  simp only [Nat.add_zero] at hst
  refine .mk (v := ()) (w' := w.setRow g (putAt old off cells.toList)) ?_ (h _ (setRow_heap w g old _ t _ hB) ⟨rfl, rfl, rfl, by simp, fun k _ hk => setRow_other w g k _ hk⟩ (by simp))
  cases hq : P.info? ty with
  | none => simp [hq] at hi
  | some i =>
    have hs : cells.size = i.size := by simp [hq] at hi; omega
    simp only [Instr.storeAt, Instr.sureAddr, Sem.run_bind, Sem.run_pure, Result.andThen_ok]
    simp [storeVar, sizeOf, typeInfo, hq, Value.cells, hs, hst, putAt]
theorem rg_st1 {g off : Nat} {old : Array Value} {v : Value} {t ty : TypeId} (hB : Blk w g old t) (hi : (P.info? ty).map (·.size) = some 1) (hfit : off < old.size) (h1 : v.oneCell' = true) (hc : v.cells = #[v]) {K : World → Prop}
    (h : ∀ w', Blk w' g (putAt old off [v]) t → Keep (fun j => j = g) w w' → w'.heap.size = w.heap.size → K w') : StGoal P ty g off v w K := by
  have hst := run_storeCells_at P g off t [v] 0 old w hB hfit (fun u hu => by rw [List.mem_singleton.1 hu]; exact h1)
  simp only [Nat.add_zero] at hst
  refine .mk (v := ()) (w' := w.setRow g (putAt old off [v])) ?_ (h _ (setRow_heap w g old _ t _ hB) ⟨rfl, rfl, rfl, by simp, fun k _ hk => setRow_other w g k _ hk⟩ (by simp))
  cases hq : P.info? ty with
  | none => simp [hq] at hi
  | some i =>
    have hs : 1 = i.size := by simp [hq] at hi; omega
    simp only [Instr.storeAt, Instr.sureAddr, Sem.run_bind, Sem.run_pure, Result.andThen_ok]
    simp [storeVar, sizeOf, typeInfo, hq, hc, ← hs, hst, putAt]
end
end Go.Dm
