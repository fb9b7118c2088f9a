/- A module's span; small spans; numbers fit to be compared; a span that may be used, a span without a pointer. maps.Keys at the words' map: its iterator gives each address once; Collect, Sorted over it. No condition. -/
import Derived.Test.YthfekjnekaecaaaDoorCpuE
import Derived.Test.YthfekjnekaecaaaDoorSortK
import Derived.RangeFuncFrom
import Derived.RangeFuncBox
import Derived.RangeFuncBound
import Derived.Shelf.AbstractIn
import Derived.Shelf.RegionOpen
import Derived.Sort.MapsRangeIn
import Derived.Sort.KeysCollected
import Derived.OwnWalkIn
import Derived.TacticsInMore
import Derived.RegionIn
import Derived.LoopNIn
import Derived.LoopIn
set_option linter.unusedVariables false
set_option linter.unusedSimpArgs false
namespace Go.Proofs.YthfekjnekaecaaaDoor
open Go.RowKit Go.Dm Go.Dm.Vm Go.Dm.Cp Go.Dm.Tg Go.Maps
section
variable {A B S : Nat → Prop} {w w' : World} {d mb dm mbm : Nat} {v : Value} {L : Lg} {f : Nat → Nat} {m : V}
set_option maxRecDepth 100000 in
set_option maxHeartbeats 2000000 in
theorem twithin_any (a n : Nat) (t : Int) (ha : a < 18446744073709551616) (hn : n < 18446744073709551616) (h : LRep A w d L v mb) :
    Calls Tryd.prog 32 #[ptrTo d, .int .u64 (a : Int), .int .u64 (n : Int), .int .i64 t] w fun e w' => e = .returned (.bool (withinM L a n t)) ∧ Keep No w w' := by
  have q0 : w.cell? ⟨d, 0, none⟩ = some v := h.blk.cell 0
  obtain ⟨ao, co, rfl, hc1, hc2⟩ := h.ms.shape
  have hln := h.ok.ln
  unfold ptrTo
  by_cases h1 : t < 1
  · have e : withinM L a n t = false := by unfold withinM; rw [decide_eq_false (by omega)]; rfl
    rw [e]
    go_enter Tryd.func32, Tryd.ntmps32
    go_wp2_with fail
    go_ret
    exact ⟨rfl, Keep.refl _ _⟩
  · obtain ⟨i, rfl⟩ : ∃ i : Nat, t = (i : Int) + 1 := ⟨(t - 1).toNat, by omega⟩
    have ei : ((i : Int) + 1 - 1).toNat = i := by omega
    rcases Nat.lt_or_ge i L.m.length with hi | hi
    · have e : withinM L a n ((i : Int) + 1) = (decide (L.m[i].low ≤ a) && decide (a < L.m[i].high) && decide (n ≤ L.m[i].high - a)) := by
        unfold withinM
        rw [decide_eq_true (by omega), ei, List.getElem?_eq_getElem hi]
        rfl
      rw [e]
      have hok := h.ok.md L.m[i] (List.getElem_mem hi)
      have hll := hok.ll
      have hhl := hok.hl
      have hsub : (i : Int) + 1 - 1 = (i : Int) := by omega
      have hi1 : ¬ ((i : Int) + 1 < 1) := by omega
      have hi2 : (i : Int) + 1 ≤ (L.m.length : Int) := by omega
      have hi3 : (i : Int) < (L.m.length : Int) := by omega
      clear hok e
      obtain ⟨g, off, cap, ev, _, _, _, _, hc⟩ := h.ms.at encMd_len hi
      cases ev
      have c0 := hc 0 _ rfl
      have c1 := hc 1 _ rfl
      have c2 := hc 2 _ rfl
      have c3 := hc 3 _ rfl
      have c4 := hc 4 _ rfl
      have c5 := hc 5 _ rfl
      have c6 := hc 6 _ rfl
      rw [Nat.add_zero] at c0
      clear hc
      generalize (⟨L.m[i].name.toArray⟩ : ByteArray) = x0 at *
      generalize L.m[i].base = x1 at *
      generalize L.m[i].low = x2 at *
      generalize L.m[i].high = x3 at *
      generalize L.m[i].tls = x4 at *
      generalize L.m[i].off = x5 at *
      generalize L.m[i].mem = x6 at *
      clear h hc1 hc2
      generalize L.m.length = nm at *
      go_enter Tryd.func32, Tryd.ntmps32
      go_wp2_with (with_reducible refine wl_stAgg rfl _ _ _ rfl _ _ rfl rfl ?_)
      have hkW1 : Keep No w (w.alloc (.cells #[.string ⟨#[]⟩, .int .u64 0, .int .u64 0, .int .u64 0, .bool false, .int .u64 0, .int .u64 0] 66)) := (Keep.refl _ _).alloc _
      have hBW1 : Blk (w.alloc (.cells #[.string ⟨#[]⟩, .int .u64 0, .int .u64 0, .int .u64 0, .bool false, .int .u64 0, .int .u64 0] 66)) w.heap.size #[.string ⟨#[]⟩, .int .u64 0, .int .u64 0, .int .u64 0, .bool false, .int .u64 0, .int .u64 0] 66 := Blk.new _ _ _
      have hzW1 : (w.alloc (.cells #[.string ⟨#[]⟩, .int .u64 0, .int .u64 0, .int .u64 0, .bool false, .int .u64 0, .int .u64 0] 66)).heap.size = w.heap.size + 1 := World.size_alloc _ _
      generalize w.alloc (.cells #[.string ⟨#[]⟩, .int .u64 0, .int .u64 0, .int .u64 0, .bool false, .int .u64 0, .int .u64 0] 66) = W1 at *
      refine rg_stAgg hBW1 (by kernel_rfl) (by rfl) (by simp [Value.oneCell']) ?_
      intro W2 hB2 hk2 hs2
      have hk02 : Keep No w W2 := hkW1.trans hk2 fun j hj e => absurd hj (by have e2 : j = w.heap.size := e; omega)
      have q2 : W2.cell? ⟨w.heap.size, 2, none⟩ = some (.int .u64 (x2 : Int)) := hB2.cell 2
      have q3 : W2.cell? ⟨w.heap.size, 3, none⟩ = some (.int .u64 (x3 : Int)) := hB2.cell 3
      clear hkW1 hk2 hBW1 hs2
      go_wp2_with fail
      all_goals
        go_ret
        refine ⟨congrArg (fun b => Ending.returned (Value.bool b)) ?_, hk02⟩
        rw [Bool.eq_iff_iff]
        simp only [Bool.and_eq_true, decide_eq_true_eq, Bool.false_eq_true, false_iff]
        omega
    · have e : withinM L a n ((i : Int) + 1) = false := by
        unfold withinM
        rw [ei, List.getElem?_eq_none hi, Bool.and_false]
      rw [e]
      have hi1 : ¬ ((i : Int) + 1 < 1) := by omega
      have hi2 : (i : Int) + 1 > (L.m.length : Int) := by omega
      clear e h hc1 hc2
      generalize L.m.length = nm at *
      go_enter Tryd.func32, Tryd.ntmps32
      go_wp2_with fail
      go_ret
      exact ⟨rfl, Keep.refl _ _⟩
set_option maxHeartbeats 2000000 in
theorem tgoes_any (a n : Nat) (ha : a < 18446744073709551616) (hn : n < 18446744073709551616) (w : World) :
    Calls Tryd.prog 33 #[.int .u64 (a : Int), .int .u64 (n : Int)] w fun e w' => e = .returned (.bool (goesM a n)) ∧ w = w' := by
  have hg : goesM a n = (decide (n ≤ 65536) && decide (a + n ≤ 18446744073709551616)) := rfl
  rw [hg]
  have hw : IntKind.u64.wrap ((a : Int) + (n : Int)) = (((a + n) % 18446744073709551616 : Nat) : Int) := add_wrap a n
  by_cases h1 : (n : Int) ≤ 65536
  · by_cases h2 : a + n < 18446744073709551616
    · rw [Nat.mod_eq_of_lt h2] at hw
      have h3 : ((a + n : Nat) : Int) ≥ (a : Int) := by omega
      go_enter Tryd.func33, Tryd.ntmps33
      go_wp2_with fail
      go_ret
      refine ⟨congrArg (fun b => Ending.returned (Value.bool b)) ?_, rfl⟩
      rw [decide_eq_true (show n ≤ 65536 by omega), decide_eq_true (show a + n ≤ 18446744073709551616 by omega)]
      rfl
    · have e : (a + n) % 18446744073709551616 = a + n - 18446744073709551616 := by omega
      rw [e] at hw
      obtain ⟨z, hz⟩ : ∃ z, a + n = z + 18446744073709551616 := ⟨a + n - 18446744073709551616, by omega⟩
      rw [show a + n - 18446744073709551616 = z by omega] at hw
      have h3 : decide ((z : Int) ≥ (a : Int)) = false := by rw [decide_eq_false_iff_not]; omega
      rw [show decide (n ≤ 65536) = true from decide_eq_true (by omega), Bool.true_and]
      rw [show decide (a + n ≤ 18446744073709551616) = decide (z = 0) by rw [Bool.eq_iff_iff]; simp only [decide_eq_true_eq]; omega]
      rcases Nat.eq_zero_or_pos z with rfl | hz0
      · go_enter Tryd.func33, Tryd.ntmps33
        go_wp2_with fail
        go_ret
        exact ⟨rfl, rfl⟩
      · have h4 : ((z : Int) == 0) = false := by simp; omega
        have h5 : decide (z = 0) = false := by rw [decide_eq_false_iff_not]; omega
        rw [h5]
        have h6 : ¬ ((z : Int) ≥ (a : Int)) := by omega
        have h7 : ¬ ((z : Int) = 0) := by omega
        clear hz e h5 h3 h4
        go_enter Tryd.func33, Tryd.ntmps33
        go_wp2_with fail
        go_ret
        refine ⟨congrArg (fun b => Ending.returned (Value.bool b)) ?_, rfl⟩
        simp
        omega
  · rw [show decide (n ≤ 65536) = false from decide_eq_false (by omega), Bool.false_and]
    clear hw
    go_enter Tryd.func33, Tryd.ntmps33
    go_wp2_with fail
    go_ret
    exact ⟨rfl, rfl⟩
set_option maxRecDepth 100000 in
set_option maxHeartbeats 2000000 in
theorem tcomp_any (x y : Nat) (tx ty : Int) (htx : 0 ≤ tx ∧ tx ≤ (L.m.length : Int)) (hx : x < 18446744073709551616) (hy : y < 18446744073709551616) (h : LRep A w d L v mb) :
    Calls Tryd.prog 51 #[ptrTo d, .int .u64 (x : Int), .int .u64 (y : Int), .int .i64 tx, .int .i64 ty] w fun e w' => e = .returned (.bool (compM L x y tx ty)) ∧ Keep No w w' := by
  have q0 : w.cell? ⟨d, 0, none⟩ = some v := h.blk.cell 0
  obtain ⟨ao, co, rfl, hc1, hc2⟩ := h.ms.shape
  have hln := h.ok.ln
  unfold ptrTo
  by_cases h1 : tx = ty
  · subst h1
    by_cases h2 : tx = 0
    · subst h2
      have e : compM L x y 0 0 = true := by unfold compM; rw [if_pos (.inr rfl)]; rfl
      rw [e]
      go_enter Tryd.func51, Tryd.ntmps51
      go_wp2_with fail
      go_ret
      exact ⟨rfl, Keep.refl _ _⟩
    · obtain ⟨i, rfl⟩ : ∃ i : Nat, tx = (i : Int) + 1 := ⟨(tx - 1).toNat, by omega⟩
      have hi : i < L.m.length := by omega
      have ei : ((i : Int) + 1 - 1).toNat = i := by omega
      have e : compM L x y ((i : Int) + 1) ((i : Int) + 1) = (decide (L.m[i].low ≤ x) && decide (x ≤ L.m[i].high) && decide (L.m[i].low ≤ y) && decide (y ≤ L.m[i].high)) := by
        unfold compM
        rw [if_neg (by omega), ei, List.getElem?_eq_getElem hi]
      rw [e]
      have hok := h.ok.md L.m[i] (List.getElem_mem hi)
      have hll := hok.ll
      have hhl := hok.hl
      have hsub : (i : Int) + 1 - 1 = (i : Int) := by omega
      have hi2 : ((i : Int) + 1 == 0) = false := by simpa using h2
      have hi3 : (i : Int) < (L.m.length : Int) := by omega
      clear hok e htx h2
      obtain ⟨g, off, cap, ev, _, _, _, _, hc⟩ := h.ms.at encMd_len hi
      cases ev
      have c0 := hc 0 _ rfl
      have c1 := hc 1 _ rfl
      have c2 := hc 2 _ rfl
      have c3 := hc 3 _ rfl
      have c4 := hc 4 _ rfl
      have c5 := hc 5 _ rfl
      have c6 := hc 6 _ rfl
      rw [Nat.add_zero] at c0
      clear hc
      generalize (⟨L.m[i].name.toArray⟩ : ByteArray) = x0 at *
      generalize L.m[i].base = x1 at *
      generalize L.m[i].low = x2 at *
      generalize L.m[i].high = x3 at *
      generalize L.m[i].tls = x4 at *
      generalize L.m[i].off = x5 at *
      generalize L.m[i].mem = x6 at *
      clear h hc1 hc2
      generalize L.m.length = nm at *
      go_enter Tryd.func51, Tryd.ntmps51
      go_wp2_with (with_reducible refine wl_stAgg rfl _ _ _ rfl _ _ rfl rfl ?_)
      have hkW1 : Keep No w (w.alloc (.cells #[.string ⟨#[]⟩, .int .u64 0, .int .u64 0, .int .u64 0, .bool false, .int .u64 0, .int .u64 0] 66)) := (Keep.refl _ _).alloc _
      have hBW1 : Blk (w.alloc (.cells #[.string ⟨#[]⟩, .int .u64 0, .int .u64 0, .int .u64 0, .bool false, .int .u64 0, .int .u64 0] 66)) w.heap.size #[.string ⟨#[]⟩, .int .u64 0, .int .u64 0, .int .u64 0, .bool false, .int .u64 0, .int .u64 0] 66 := Blk.new _ _ _
      have hzW1 : (w.alloc (.cells #[.string ⟨#[]⟩, .int .u64 0, .int .u64 0, .int .u64 0, .bool false, .int .u64 0, .int .u64 0] 66)).heap.size = w.heap.size + 1 := World.size_alloc _ _
      generalize w.alloc (.cells #[.string ⟨#[]⟩, .int .u64 0, .int .u64 0, .int .u64 0, .bool false, .int .u64 0, .int .u64 0] 66) = W1 at *
      refine rg_stAgg hBW1 (by kernel_rfl) (by rfl) (by simp [Value.oneCell']) ?_
      intro W2 hB2 hk2 hs2
      have hk02 : Keep No w W2 := hkW1.trans hk2 fun j hj e => absurd hj (by have e2 : j = w.heap.size := e; omega)
      have q2 : W2.cell? ⟨w.heap.size, 2, none⟩ = some (.int .u64 (x2 : Int)) := hB2.cell 2
      have q3 : W2.cell? ⟨w.heap.size, 3, none⟩ = some (.int .u64 (x3 : Int)) := hB2.cell 3
      clear hkW1 hk2 hBW1 hs2
      go_wp2_with fail
      all_goals
        go_ret
        refine ⟨congrArg (fun b => Ending.returned (Value.bool b)) ?_, hk02⟩
        rw [Bool.eq_iff_iff]
        simp only [Bool.and_eq_true, decide_eq_true_eq, Bool.false_eq_true, false_iff]
        omega
  · have e : compM L x y tx ty = false := by unfold compM; rw [if_pos (.inl h1)]; exact decide_eq_false h1
    have hne : (tx != ty) = true := by simpa using h1
    have hne2 : (tx == ty) = false := by simpa using h1
    rw [e]
    clear htx hln h hc1 hc2
    go_enter Tryd.func51, Tryd.ntmps51
    go_wp2_with fail
    go_ret
    exact ⟨rfl, Keep.refl _ _⟩
def memV (A : Nat → Prop) (w : World) (u : Value) (mo : Option V) : Prop := match mo with
  | some m => ∃ dm mbm f, u = ptrTo dm ∧ SRep A w dm m mbm f
  | none => u = .pointer none
theorem memV.no {A : Nat → Prop} {w w' : World} {u : Value} {mo : Option V} (h : memV A w u mo) (hA : ∀ k, A k → k < w.heap.size) (hk : Keep No w w') : memV A w' u mo := by
  cases mo with
  | none => exact h
  | some m =>
    obtain ⟨dm, mbm, f, e, hS⟩ := h
    exact ⟨dm, mbm, f, e, hS.no hA hk⟩
set_option maxHeartbeats 1000000 in
theorem vpeek_nil (a n : Int) (w : World) : Calls Tryd.prog 58 #[.pointer none, .int .u64 a, .int .u64 n] w fun e w' => e = .returned (.tuple #[.slice none 0 0, .int .i64 1]) ∧ w = w' := by
  go_enter Tryd.func58, Tryd.ntmps58
  go_wp2_with fail
  go_ret2
  exact ⟨rfl, rfl⟩
theorem vpeekE (a : Nat) (ha : a < 18446744073709551616) {u : Value} {mo : Option V} (hm : memV A w u mo) (hA : ∀ k, A k → k < w.heap.size) :
    Calls Tryd.prog 58 #[u, .int .u64 (a : Int), .int .u64 1] w fun e w' => (∃ (v' : Value) (er : Nat), e = .returned (.tuple #[v', .int .i64 (er : Int)]) ∧ (er == 0) = heldO mo a) ∧ Keep No w w' := by
  cases mo with
  | none =>
    have hm : u = .pointer none := hm
    subst hm
    refine (vpeek_nil (a : Int) 1 w).mono ?_
    rintro e w' ⟨rfl, rfl⟩
    exact ⟨⟨_, 1, rfl, rfl⟩, Keep.refl _ _⟩
  | some m =>
    obtain ⟨dm, mbm, f, rfl, hS⟩ := hm
    refine (vpeek_any (w := w) a 1 ha (by decide) hS hA).mono ?_
    rintro e w' ⟨v', rfl, _, hk⟩
    exact ⟨⟨_, _, rfl, rfl⟩, hk⟩
set_option maxRecDepth 100000 in
set_option maxHeartbeats 2000000 in
theorem tfixed_any (a : Nat) (ha : a < 18446744073709551616) {u : Value} {mo : Option V} (hm : memV A w u mo) (hA : ∀ k, A k → k < w.heap.size) (h : LRep B w d L v mb) (hB : ∀ k, B k → k < w.heap.size) :
    Calls Tryd.prog 34 #[ptrTo d, .int .u64 (a : Int), u] w fun e w' => e = .returned (.bool (fixedM L mo a)) ∧ Keep No w w' := by
  have hf : fixedM L mo a = (heldO mo a && decide (ofM L.m a < 0)) := rfl
  rw [hf]
  have hp := vpeekE a ha hm hA
  generalize heldO mo a = hb at *
  have hof := fun (W : World) (hk : Keep No w W) => lof_any (w := W) L.m a (h.no hB hk).ms
  have hq := fun (W : World) (hk : Keep No w W) => (h.no hB hk).blk.cell 0
  have HO := Lib.hid hof
  have HQ := Lib.hid hq
  obtain ⟨ao, co, rfl, hc1, hc2⟩ := h.ms.shape
  generalize ofM L.m a = o at *
  clear hof hq hf hm h hc1 hc2
  generalize L.m.length = nl at *
  unfold ptrTo
  go_enter Tryd.func34, Tryd.ntmps34
  go_wp2_with fail
  refine hp.mono ?_
  rintro e W ⟨⟨v', er, rfl, he⟩, hk⟩
  have q0 := HQ.out W hk
  have ho := HO.out W hk
  simp only [List.getElem?_toArray, List.getElem?_cons_zero] at q0
  clear hp
  cases hb with
  | false =>
    have hez : ((er : Int) == 0) = false := by
      simp only [beq_eq_false_iff_ne, ne_eq] at he ⊢
      omega
    go_wp2_with fail
    go_ret
    exact ⟨rfl, hk⟩
  | true =>
    have hez : er = 0 := by simpa using he
    subst hez
    go_wp2_with fail
    refine ho.mono ?_
    rintro e W2 ⟨rfl, hk2⟩
    go_wp2_with fail
    go_ret
    exact ⟨rfl, hk.trans' hk2⟩
set_option maxHeartbeats 1000000 in
theorem tspan_nil (a n t : Int) (u : Value) (w : World) : Calls Tryd.prog 14 #[.pointer none, .int .u64 a, .int .u64 n, .int .i64 t, u] w fun e w' => e = .returned (.int .i64 50) ∧ w = w' := by
  go_enter Tryd.func14, Tryd.ntmps14
  go_wp2_with fail
  go_ret
  exact ⟨rfl, rfl⟩
set_option maxRecDepth 100000 in
set_option maxHeartbeats 4000000 in
theorem tspan_any (a n : Nat) (t : Int) (ha : a < 18446744073709551616) (hn : n < 18446744073709551616) {u : Value} {mo : Option V} (hm : memV A w u mo) (hA : ∀ k, A k → k < w.heap.size) (h : LRep B w d L v mb) (hB : ∀ k, B k → k < w.heap.size) :
    Calls Tryd.prog 14 #[ptrTo d, .int .u64 (a : Int), .int .u64 (n : Int), .int .i64 t, u] w fun e w' => e = .returned (.int .i64 (spanM L mo a n t : Nat)) ∧ Keep No w w' := by
  have hs : spanM L mo a n t = if n = 0 then 0 else if t ≠ 0 then (if withinM L a n t then 0 else 50) else if goesM a n then (if (List.range n).all fun i => fixedM L mo (a + i) then 0 else 50) else 50 := rfl
  by_cases h0 : n = 0
  · subst h0
    rw [if_pos rfl] at hs
    rw [hs]
    unfold ptrTo
    go_enter Tryd.func14, Tryd.ntmps14
    go_wp2_with fail
    go_ret
    exact ⟨rfl, Keep.refl _ _⟩
  · rw [if_neg h0] at hs
    have hne0 : ((n : Int) == 0) = false := by simpa using h0
    by_cases ht : t = 0
    · subst ht
      rw [if_neg (by simp)] at hs
      have hg := tgoes_any a n ha hn w
      have hgo : goesM a n = true → n ≤ 65536 ∧ a + n ≤ 18446744073709551616 := fun e => by
        unfold goesM at e
        simpa using e
      cases hb : goesM a n with
      | false =>
        rw [hb, if_neg (by decide)] at hs
        rw [hs]
        rw [hb] at hg
        clear hm h hs
        unfold ptrTo
        go_enter Tryd.func14, Tryd.ntmps14
        go_wp2_with fail
        refine hg.mono ?_
        rintro e W ⟨rfl, rfl⟩
        go_wp2_with fail
        go_ret
        exact ⟨rfl, Keep.refl _ _⟩
      | true =>
        rw [hb, if_pos rfl] at hs
        rw [hb] at hg
        obtain ⟨h1, h2⟩ := hgo hb
        have hfx := fun (W : World) (i : Nat) (hi : i < n) (hk : Keep No w W) => tfixed_any (w := W) (a + i) (by omega) (hm.no hA hk) (fun k ha => Nat.lt_of_lt_of_le (hA k ha) hk.size) (h.no hB hk) (fun k ha => Nat.lt_of_lt_of_le (hB k ha) hk.size)
        have HF := Lib.hid hfx
        have HS := Lib.hid hs
        clear hm h hs hfx hb hgo
        generalize spanM L mo a n 0 = R at *
        unfold ptrTo at *
        go_enter Tryd.func14, Tryd.ntmps14
        go_wp2_with fail
        refine hg.mono ?_
        rintro e W ⟨rfl, rfl⟩
        clear hg
        go_wp2_with fail
        go_loopw [11] (fun iv wr => ∃ i : Nat, iv = .int .u64 i ∧ i ≤ n ∧ (∀ j, j < i → fixedM L mo (a + j) = true) ∧ Keep No w wr) (fun iv _ => n - (intOf iv).toNat)
        case atStart => exact ⟨0, rfl, Nat.zero_le _, (fun j hj => absurd hj (Nat.not_lt_zero _)), Keep.refl _ _⟩
        case round =>
          obtain ⟨i, rfl, hi, hall, hk⟩ := hrel
          rcases Nat.lt_or_ge i n with hlt | hge
          · have hc := HF.out wr i hlt hk
            have hiz : (i : Int) < (n : Int) := by omega
            have hsum : (a : Int) + (i : Int) = ((a + i : Nat) : Int) := by omega
            have hal : a + i < 18446744073709551616 := by omega
            have hno : fixedM L mo (a + i) = false → R = 50 := fun e => by
              rw [HS.out, if_neg]
              intro hh
              rw [List.all_eq_true] at hh
              have := hh i (List.mem_range.2 hlt)
              rw [e] at this
              cases this
            have hyes : fixedM L mo (a + i) = true → ∀ j, j < i + 1 → fixedM L mo (a + j) = true := fun e j hj => by
              rcases Nat.lt_or_ge j i with h | h
              · exact hall j h
              · obtain rfl : j = i := by omega
                exact e
            have HN := Lib.hid hno
            have HY := Lib.hid hyes
            clear hno hyes hall
            generalize fixedM L mo (a + i) = b at *
            have H1 := Lib.hid hsum
            clear hsum
            generalize hat : a + i = at_ at *
            have h1' := H1.out
            clear H1 hat
            go_wp2_with fail
            refine hc.mono ?_
            rintro e W2 ⟨rfl, hk2⟩
            have hkk := hk.trans' hk2
            clear hc
            cases b with
            | false =>
              go_wp2_with fail
              go_ret
              rw [HN.out trivial]
              exact ⟨rfl, hkk⟩
            | true =>
              go_wp2_with fail
              go_roundw
              case rel => exact ⟨i + 1, by go_num, hlt, HY.out trivial, hkk⟩
              case measure => simp [intOf]; omega
          · obtain rfl : i = n := Nat.le_antisymm hi hge
            have hR : R = 0 := by
              rw [HS.out, if_pos]
              rw [List.all_eq_true]
              intro j hj
              exact hall j (List.mem_range.1 hj)
            go_wp2_with fail
            go_ret
            rw [hR]
            exact ⟨rfl, hk⟩
    · rw [if_pos ht] at hs
      have hw := twithin_any (w := w) a n t ha hn h
      rw [hs]
      have htn : (t != 0) = true := by simpa using ht
      clear hm h hs
      generalize withinM L a n t = b at *
      unfold ptrTo at *
      go_enter Tryd.func14, Tryd.ntmps14
      go_wp2_with fail
      refine hw.mono ?_
      rintro e W ⟨rfl, hk⟩
      cases b
      all_goals
        go_wp2_with fail
        go_ret
        exact ⟨rfl, hk⟩
set_option maxHeartbeats 1000000 in
theorem tplain_nil (a n : Int) (w : World) : Calls Tryd.prog 15 #[.pointer none, .int .u64 a, .int .u64 n] w fun e w' => e = .returned (.bool false) ∧ w = w' := by
  go_enter Tryd.func15, Tryd.ntmps15
  go_wp2_with fail
  go_ret
  exact ⟨rfl, rfl⟩
set_option maxRecDepth 100000 in
set_option maxHeartbeats 4000000 in
theorem tplain_any (a n : Nat) (ha : a < 18446744073709551616) (hn : n < 18446744073709551616) (h : LRep B w d L v mb) :
    Calls Tryd.prog 15 #[ptrTo d, .int .u64 (a : Int), .int .u64 (n : Int)] w fun e w' => e = .returned (.bool (plainM L a n)) ∧ w = w' := by
  have hs : plainM L a n = (goesM a n && (List.range n).all fun i => tagM L (a + i) == 0) := rfl
  have hg := tgoes_any a n ha hn w
  have hgo : goesM a n = true → n ≤ 65536 ∧ a + n ≤ 18446744073709551616 := fun e => by
    unfold goesM at e
    simpa using e
  cases hb : goesM a n with
  | false =>
    rw [hb, Bool.false_and] at hs
    rw [hs]
    rw [hb] at hg
    clear h hs
    unfold ptrTo
    go_enter Tryd.func15, Tryd.ntmps15
    go_wp2_with fail
    refine hg.mono ?_
    rintro e W ⟨rfl, rfl⟩
    go_wp2_with fail
    go_ret
    exact ⟨rfl, rfl⟩
  | true =>
    rw [hb, Bool.true_and] at hs
    rw [hb] at hg
    obtain ⟨h1, h2⟩ := hgo hb
    have hfx := fun (i : Nat) (hi : i < n) => ttag_any (w := w) (a + i) (by omega) h
    have HF := Lib.hid hfx
    have HS := Lib.hid hs
    clear h hs hfx hb hgo
    generalize plainM L a n = R at *
    unfold ptrTo at *
    go_enter Tryd.func15, Tryd.ntmps15
    go_wp2_with fail
    refine hg.mono ?_
    rintro e W ⟨rfl, rfl⟩
    clear hg
    go_wp2_with fail
    go_loopw [7] (fun iv wr => ∃ i : Nat, iv = .int .u64 i ∧ i ≤ n ∧ (∀ j, j < i → tagM L (a + j) = 0) ∧ wr = w) (fun iv _ => n - (intOf iv).toNat)
    case atStart => exact ⟨0, rfl, Nat.zero_le _, (fun j hj => absurd hj (Nat.not_lt_zero _)), rfl⟩
    case round =>
      obtain ⟨i, rfl, hi, hall, rfl⟩ := hrel
      rcases Nat.lt_or_ge i n with hlt | hge
      · have hc := HF.out i hlt
        have hiz : (i : Int) < (n : Int) := by omega
        have hsum : (a : Int) + (i : Int) = ((a + i : Nat) : Int) := by omega
        have hal : a + i < 18446744073709551616 := by omega
        have hno : tagM L (a + i) ≠ 0 → R = false := fun e => by
          rw [HS.out, List.all_eq_false]
          exact ⟨i, List.mem_range.2 hlt, by simpa using e⟩
        have hyes : tagM L (a + i) = 0 → ∀ j, j < i + 1 → tagM L (a + j) = 0 := fun e j hj => by
          rcases Nat.lt_or_ge j i with h | h
          · exact hall j h
          · obtain rfl : j = i := by omega
            exact e
        have HN := Lib.hid hno
        have HY := Lib.hid hyes
        clear hno hyes hall
        generalize tagM L (a + i) = b at *
        have H1 := Lib.hid hsum
        clear hsum
        generalize hat : a + i = at_ at *
        have h1' := H1.out
        clear H1 hat
        go_wp2_with fail
        refine hc.mono ?_
        rintro e W2 ⟨rfl, rfl⟩
        clear hc
        by_cases hb0 : b = 0
        · subst hb0
          go_wp2_with fail
          go_roundw
          case rel => exact ⟨i + 1, by go_num, hlt, HY.out trivial, trivial⟩
          case measure => simp [intOf]; omega
        · have hbz : ((b : Int) != 0) = true := by simpa using hb0
          go_wp2_with fail
          go_ret
          rw [HN.out hb0]
          exact ⟨rfl, rfl⟩
      · obtain rfl : i = n := Nat.le_antisymm hi hge
        have hR : R = true := by
          rw [HS.out, List.all_eq_true]
          intro j hj
          simpa using hall j (List.mem_range.1 hj)
        go_wp2_with fail
        go_ret
        rw [hR]
        exact ⟨rfl, rfl⟩
end
end Go.Proofs.YthfekjnekaecaaaDoor
namespace Go.Proofs.YthfekjnekaecaaaDoor
open Go.RowKit Go.Dm Go.Dm.Vm Go.Dm.Tg Go.Maps Go.Shelf

attribute [local go_sem] Oper.semAt_some
section
variable {w : World} {wl : List (Nat × Nat)} {b : Nat}
theorem has_WL {es : List (Lit × DataW Value)} (h : es.Perm ((WL wl).map hd)) (x : Nat) : Maps.has (DataW.map es) (.int .u64 (x : Int)) = true ↔ ∃ p ∈ wl, p.1 = x := by
  rw [Maps.has_eq, List.any_eq_true]
  constructor
  · rintro ⟨q, hq, hs⟩
    obtain ⟨q', hq', rfl⟩ := List.mem_map.1 (h.mem_iff.1 hq)
    obtain ⟨p, hp, rfl⟩ := List.mem_map.1 hq'
    have := WideAt.sameKey_eq hs
    simp only [hd, Lit.int.injEq, true_and] at this
    exact ⟨p, hp, by omega⟩
  · rintro ⟨p, hp, rfl⟩
    refine ⟨hd (.int .u64 (p.1 : Int), .int .i64 (p.2 : Int)), h.mem_iff.2 (List.mem_map_of_mem (List.mem_map.2 ⟨p, hp, rfl⟩)), ?_⟩
    simp [hd, Lit.sameKey]
def adW (wl : List (Nat × Nat)) : List Nat := wl.map (·.1)
set_option maxRecDepth 100000 in
set_option maxHeartbeats 2000000 in
theorem keysW1_in (n : Nat) (hn : 1 ≤ n) (l Bm : Nat) (J Jx : List Nat → World → Prop) (hnd : (adW wl).Nodup)
    (hY : ∀ pre x W, J pre W → pre.length < wl.length → YieldAt Fence.wide (n - 1) Tryd.prog l #[uv x] W fun e W' =>
      (e = .returned (.bool true) ∧ J (pre ++ [x]) W' ∧ KeepsWalks W W') ∨ (e = .returned (.bool false) ∧ Jx (pre ++ [x]) W'))
    (W : World) (hJ : AbidesFrom W.heap.size J) (hm : W.cell? ⟨Bm, 0, none⟩ = some (.map (some b))) (hown : MapL Tryd.prog 22 W b (WL wl)) (h0 : J [] W) :
    CallsIn Fence.wide n Tryd.prog 57 #[.func (.yield l) #[] #[], .pointer (some ⟨Bm, 0, none⟩)] W fun e W' => (∃ v, e = .returned v) ∧ ((∃ ss : List Nat, ss.Perm (adW wl) ∧ J ss W') ∨ ∃ pre : List Nat, True ∧ Jx pre W') := by
  obtain ⟨es, ho, hes, hsz⟩ := hown.size
  have hhas := fun x => has_WL (wl := wl) hes x
  rw [WL_len] at ho hsz
  refine callsIn_of_wp Tryd.func57 rfl trivial ?_ rfl
  simp only [Tryd.ntmps57, List.size_toArray, List.length_cons, List.length_nil, Nat.reduceAdd, Nat.reduceSub, Array.replicate_succ, Array.replicate_zero, List.push_toArray, List.append_toArray, List.nil_append, List.cons_append]
  gi_wp2_with (first
    | (gi_at_range; refine wpListIn_range_own _ rfl _ 67 rfl 22 3 (int_keyed Tryd.underlying22) Tryd.underlying67 _ b wl.length _ rfl ho ?_; intro w0 hrg0 hg0 hs0)
    | gi_in)
  go_frame
  gi_loopw [3] (fun _ wr => ∃ (left : Lit → Bool) (cnt : Nat) (ss : List Nat), wr.ranges Tryd.prog 22 Go.Dm.heldE b W.heap.size wl.length (.map es) left cnt ∧ ss.length + cnt ≤ wl.length ∧ (ss.Nodup ∧ ∀ x, x ∈ ss ↔ ((∃ p ∈ wl, p.1 = x) ∧ left (.int .u64 (x : Int)) = false)) ∧ J ss wr)
    (fun _ wr => wr.rangeLeft b W.heap.size)
  case atStart =>
    refine ⟨_, _, [], hrg0, by rw [hsz]; simp, ⟨List.nodup_nil, fun x => ?_⟩, hJ [] W w0 none h0 hg0 (fun r e => by cases e)⟩
    simp only [List.not_mem_nil, false_iff, not_and]
    intro hx
    rw [(hhas x).2 hx]
    simp
  case round =>
    obtain ⟨left, cnt, ss, hrg, hcs, hC, hJs⟩ := hrel
    gi_wp2_with (first
      | (gi_at_next; refine wpListIn_next_ranges (α := Int) (β := Value) _ rfl _ rfl 22 (int_keyed Tryd.underlying22) Go.Dm.heldE (Value.int .u64) id (fun key kl hk => by obtain ⟨x, hx, _⟩ := Maps.keyOf_int_inv Tryd.underlying22 hk; exact ⟨x, hx⟩) (fun v _ _ => ⟨v, rfl⟩) b W.heap.size wl.length _ _ _ rfl hrg ?_ ?_)
      | gi_in)
    · intro hc0 hl0
      gi_wp2
      go_end0
      refine ⟨⟨_, rfl⟩, .inl ⟨ss, ?_, hJs⟩⟩
      refine (List.perm_ext_iff_of_nodup hC.1 hnd).2 fun x => ?_
      rw [hC.2 x, hl0]
      simp only [and_true]
      exact ⟨fun ⟨p, hp, e⟩ => List.mem_map.2 ⟨p, hp, e⟩, fun h => by obtain ⟨p, hp, e⟩ := List.mem_map.1 h; exact ⟨p, hp, e⟩⟩
    · intro x c kl yd yp w2 cnt2 hkey hlk hv hat hrg2 hlt hg2 hs2 hen
      obtain ⟨x', ex, rfl, _⟩ := Maps.keyOf_int_inv Tryd.underlying22 hkey
      obtain rfl : x = x' := by simpa using ex
      have hh : Maps.has (DataW.map es) (.int .u64 x) = true := Maps.has_true_of_atKey hat
      obtain ⟨a, ha⟩ : ∃ a : Nat, x = (a : Int) := by
        rw [Maps.has_eq, List.any_eq_true] at hh
        obtain ⟨q, hq, hs⟩ := hh
        obtain ⟨q', hq', rfl⟩ := List.mem_map.1 (hes.mem_iff.1 hq)
        obtain ⟨p, hp, rfl⟩ := List.mem_map.1 hq'
        have := WideAt.sameKey_eq hs
        simp only [hd, Lit.int.injEq, true_and] at this
        exact ⟨p.1, this.symm⟩
      subst ha
      have hex := (hhas a).1 hh
      have hnew : a ∉ ss := fun ha => by rw [((hC.2 a).1 ha).2] at hlk; cases hlk
      have hC2 : (ss ++ [a]).Nodup ∧ ∀ z, z ∈ ss ++ [a] ↔ ((∃ p ∈ wl, p.1 = z) ∧ (left (.int .u64 (z : Int)) && !(Lit.int .u64 (z : Int)).sameKey (.int .u64 (a : Int))) = false) := by
        refine ⟨List.nodup_append.2 ⟨hC.1, by simp, fun x hx y hy e => by simp at hy; subst hy; exact hnew (e ▸ hx)⟩, fun z => ?_⟩
        by_cases hz : z = a
        · subst hz
          simp only [List.mem_append, List.mem_singleton, or_true, true_iff]
          exact ⟨hex, by simp [Lit.sameKey]⟩
        · have hk2 : (Lit.int .u64 (z : Int)).sameKey (.int .u64 (a : Int)) = false := by
            simp [Lit.sameKey]
            omega
          rw [hk2]
          simp only [List.mem_append, List.mem_singleton, hz, or_false, Bool.not_false, Bool.and_true]
          exact hC.2 z
      have hJ2 : J ss w2 := hJ ss wr w2 (some W.heap.size) hJs hg2 (fun r e => by cases e; exact ⟨Nat.le_refl _, hrg.iter_walk⟩)
      obtain ⟨fn, tmps, assign, body, hy, hR⟩ := hY ss a w2 hJ2 (by omega)
      unfold uv at hy
      clear hs2 hh hex hnew
      gi_wp2
      refine hR.mono ?_
      rintro e W3 (⟨rfl, hJ3, hk3⟩ | ⟨rfl, hJx3⟩)
      · gi_wp2
        have hrg3 := hrg2.of_walks hk3
        go_roundw
        case rel => exact ⟨_, cnt2, ss ++ [a], hrg3, by simp; omega, hC2, hJ3⟩
        case measure => rw [hrg3.left_eq, hrg.left_eq]; exact hlt
      · gi_wp2
        refine bodyPost_ret (results_none rfl _ _ _) rfl ?_
        exact ⟨⟨_, rfl⟩, .inr ⟨ss ++ [a], trivial, hJx3⟩⟩
theorem keysW_stops (n : Nat) (hn : 1 ≤ n) (Bm : Nat) (hnd : (adW wl).Nodup) (w : World) (hBm : Bm < w.heap.size) (hm : w.cell? ⟨Bm, 0, none⟩ = some (.map (some b))) (hown : MapL Tryd.prog 22 w b (WL wl)) :
    SeqStops Fence.wide n Tryd.prog 57 #[.pointer (some ⟨Bm, 0, none⟩)] uv (fun ss => ss.Perm (adW wl)) (fun _ => True) wl.length w := fun l J Jx W hW hJ _ hY h0 =>
  keysW1_in n hn l Bm J Jx hnd hY W hJ ((hW.cell (p := ⟨Bm, 0, none⟩) hBm).trans hm) (hown.same (hW.block b hown.lt)) h0
set_option maxRecDepth 100000 in
set_option maxHeartbeats 4000000 in
theorem appendseqW_in (n : Nat) (hn : 3 ≤ n) (Bm : Nat) (hnd : (adW wl).Nodup) (w : World) (hBm : Bm < w.heap.size) (hm : w.cell? ⟨Bm, 0, none⟩ = some (.map (some b))) (hown : MapL Tryd.prog 22 w b (WL wl)) (hlen : wl.length ≤ 65535) :
    CallsIn Fence.wide n Tryd.prog 67 #[.slice none 0 0, .func (.func 57) #[] #[.pointer (some ⟨Bm, 0, none⟩)]] w fun e W' => ∃ (v : Value) (ss : List Nat), e = .returned v ∧ ss.Perm (adW wl) ∧ W'.ownsRow w.heap.size 22 1 v ss.length (ss.map uv) ∧ Below w.heap.size w W' := by
  have h1 : 1 ≤ n := by omega
  have hro : Fence.wide.round = none := rfl
  refine callsIn_of_wp_marks Tryd.func67 rfl trivial ?_ hro
  simp only [Tryd.ntmps67, List.size_toArray, List.length_cons, List.length_nil, Nat.reduceAdd, Nat.reduceSub, Array.replicate_succ, Array.replicate_zero, List.push_toArray, List.append_toArray, List.nil_append, List.cons_append]
  gi_wp2
  have hi := u64_info
  obtain ⟨i0, hi, hz0, hz1, hz2⟩ := info_parts hi
  have bO := Boxed.new w 40 (.slice none 0 0)
  have hB0 : Below w.heap.size w (w.alloc (.cells #[.slice none 0 0] 40)) := (Below.refl _ w).alloc (Nat.le_refl _) _
  refine wpIn_rangeFunc_ownF hro h1 (gf := 57) (lb := #[.pointer (some ⟨Bm, 0, none⟩)]) rfl trivial (enters_of Tryd.func57 (by kernel_rfl) rfl)
    (keysW_stops (n - 1) (by omega) Bm hnd _ (by rw [World.size_alloc]; omega) ((World.cell?_of_block (w := w) (Below.heap_alloc _ _ _ hBm)).trans hm) (hown.same (Below.heap_alloc _ _ _ hown.lt))) walksK_t (walksK_b) (Below.refl _ _) (fun _ => rfl)
    (fun (pre : List Nat) W => (∃ v, Boxed W w.heap.size 40 v ∧ W.ownsRow w.heap.size 22 1 v pre.length (pre.map uv) ∧ True) ∧ Below w.heap.size w W)
    (fun _ _ _ => False)
    (OwnFrom.and (Own.from (holdsRow_own w.heap.size w.heap.size 40 22 1 (fun pre : List Nat => pre.length) (fun pre => pre.map uv) (fun _ _ => True)) _) (ownFrom_below (Nat.le_refl _) (by simp)))
    (fun _ _ _ _ _ hs _ _ => hs)
    ⟨⟨_, bO, World.ownsRow_nil _ _ _ _, trivial⟩, hB0⟩
    (fun x => { tmps := #[.slice none 0 0, .func (.func 57) #[] #[.pointer (some ⟨Bm, 0, none⟩)], .pointer (some ⟨w.heap.size, 0, none⟩), undef, .slice none 0 0, uv x, .func (.func 57) #[] #[.pointer (some ⟨Bm, 0, none⟩)], uv x, undef, undef, undef, undef, undef], defers := [] }) ?assign ?body ?done ?stop
  case assign =>
    intro l x W K hK
    gi_wp2
    exact hK
  case body =>
    rintro l pre x W ⟨⟨v, hv, hrow, _⟩, hB⟩ hlt
    have hc := hv.cell
    unfold uv
    gi_wp2_with (gi_at_builtin; refine wpListIn_append_own _ rfl _ _ 40 rfl w.heap.size 22 i0 (.int .u64 0) 1 8 Tryd.underlying40 hi hz0 hz1 hz2 rfl (by decide) _ _ _ rfl (hrow.alloc _) ⟨W.heap.size, 0, none⟩ 1 1 [.int .u64 (x : Int)] rfl rfl (cell_one_new _ _ _) (by simp [Value.oneCell']) (by unfold maxLen; omega) (by omega) (by have := hB.size; simp; omega) ?_; intro v' w1 hown' hgrow _; obtain ⟨g', cap', rfl⟩ := ownsRow_succ hown'; obtain ⟨hv1, hv2, hr2, hk2, hb2⟩ := hv.appended (by decide) hrow hB.size (Nat.le_refl _) hown' hgrow; have hc1 := hv1.cell; have hf1 := hv1.frozen)
    exact ⟨hk2, hk2.walks, ⟨_, hv2, by rw [List.length_append, List.map_append]; exact hr2, trivial⟩, hB.trans hb2⟩
  case done =>
    rintro D ys W hD hS ⟨⟨v, hv, hrow, _⟩, hB⟩ hK
    have hc := hv.cell
    gi_wp2
    refine ⟨by simp, .inl ⟨_, _, rfl, run_takeDeferred hK, ?_⟩⟩
    exact ⟨_, results_tmp rfl _ _ _, v, ys, rfl, hS, ownsRow_putObj hrow _ hK rfl, hB.trans (belowK_b (w := w) (Nat.le_refl _) W D _ _ (by simp at hD; omega) hK rfl rfl)⟩
  case stop =>
    rintro D c pre W _ _ h _
    exact h.elim
theorem appendseqW_any (Bm : Nat) (hnd : (adW wl).Nodup) (w : World) (hBm : Bm < w.heap.size) (hm : w.cell? ⟨Bm, 0, none⟩ = some (.map (some b))) (hown : MapL Tryd.prog 22 w b (WL wl)) (hlen : wl.length ≤ 65535) :
    Calls Tryd.prog 67 #[.slice none 0 0, .func (.func 57) #[] #[.pointer (some ⟨Bm, 0, none⟩)]] w fun e W' => ∃ (v : Value) (ss : List Nat), e = .returned v ∧ ss.Perm (adW wl) ∧ W'.ownsRow w.heap.size 22 1 v ss.length (ss.map uv) ∧ Below w.heap.size w W' :=
  callsIn_wide.1 (appendseqW_in 3 (Nat.le_refl _) Bm hnd w hBm hm hown hlen)
set_option maxHeartbeats 2000000 in
theorem keysW_any (b : Nat) (w : World) : Calls Tryd.prog 31 #[.map (some b)] w fun e w' => e = .returned (.func (.func 57) #[] #[.pointer (some ⟨w.heap.size, 0, none⟩)]) ∧ w' = w.alloc (.cells #[.map (some b)] 67) := by
  go_enter Tryd.func31, Tryd.ntmps31
  go_wp2_with fail
  go_ret
  exact ⟨rfl, rfl⟩
set_option maxHeartbeats 1000000 in
theorem collectW_any (Bm : Nat) (hnd : (adW wl).Nodup) (w : World) (hBm : Bm < w.heap.size) (hm : w.cell? ⟨Bm, 0, none⟩ = some (.map (some b))) (hown : MapL Tryd.prog 22 w b (WL wl)) (hlen : wl.length ≤ 65535) :
    Calls Tryd.prog 55 #[.func (.func 57) #[] #[.pointer (some ⟨Bm, 0, none⟩)]] w fun e W' => ∃ (v : Value) (ss : List Nat), e = .returned v ∧ ss.Perm (adW wl) ∧ W'.ownsRow w.heap.size 22 1 v ss.length (ss.map uv) ∧ Below w.heap.size w W' := by
  have hap := appendseqW_any Bm hnd w hBm hm hown hlen
  go_enter Tryd.func55, Tryd.ntmps55
  go_wp2_with fail
  refine hap.mono ?_
  rintro e W ⟨v, ss, rfl, h1, h2, h3⟩
  obtain ⟨a2, c2, rfl⟩ := own_shape h2
  go_wp2_with fail
  go_ret
  exact ⟨_, ss, rfl, h1, h2, h3⟩
set_option maxHeartbeats 1000000 in
/-- slices.Sorted(maps.Keys(m)), where the sort sorts -/
theorem sortedW_of (Bm : Nat) (hsrt : (adW wl).Pairwise (· < ·)) (w : World) (hBm : Bm < w.heap.size) (hm : w.cell? ⟨Bm, 0, none⟩ = some (.map (some b))) (hown : MapL Tryd.prog 22 w b (WL wl)) (hlen : wl.length ≤ 65535)
    (hso : ∀ (W : World) (v : Value) (ss : List Nat), ss.Perm (adW wl) → W.ownsRow w.heap.size 22 1 v wl.length (ss.map uv) → Calls Tryd.prog 56 #[v] W fun e w' => e = .returned (.tuple #[]) ∧ w'.ownsRow w.heap.size 22 1 v wl.length ((adW wl).map uv) ∧ Keep (fun j => some j = v.ownBlock) W w') :
    Calls Tryd.prog 30 #[.func (.func 57) #[] #[.pointer (some ⟨Bm, 0, none⟩)]] w fun e W' => ∃ v : Value, e = .returned v ∧ W'.ownsRow w.heap.size 22 1 v wl.length ((adW wl).map uv) ∧ Keep No w W' := by
  have hco := collectW_any Bm (hsrt.imp fun h => Nat.ne_of_lt h) w hBm hm hown (by omega)
  have hal : (adW wl).length = wl.length := by simp [adW]
  generalize adW wl = l at *
  clear hsrt hown hm hlen
  generalize wl.length = n at *
  go_enter Tryd.func30, Tryd.ntmps30
  go_wp2_with fail
  refine hco.mono ?_
  rintro e W ⟨v, ss, rfl, hp, ho, hB⟩
  rw [hp.length_eq, hal] at ho
  have hs := hso W v ss hp ho
  clear hso hco
  obtain ⟨a2, c2, rfl⟩ := own_shape ho
  go_wp2_with fail
  refine hs.mono ?_
  rintro e W2 ⟨rfl, h1, h2⟩
  go_wp2_with fail
  go_ret
  exact ⟨_, rfl, h1, (Keep.of_below hB).trans h2 fun j hj e => by have := (ho.lt j e.symm).1; omega⟩
end
end Go.Proofs.YthfekjnekaecaaaDoor
