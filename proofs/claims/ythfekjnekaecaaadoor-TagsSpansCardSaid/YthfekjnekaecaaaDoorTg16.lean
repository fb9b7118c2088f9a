/- The document's ledger (chapter 18): a word's tag, marking, spans; pages as the document has them. The document's spans (chapter 18); its marking. The document's marking (chapter 18). No condition. -/
import Derived.Test.YthfekjnekaecaaaDoorRv1
import Derived.Test.YthfekjnekaecaaaDoorRv6
set_option linter.unusedVariables false
set_option linter.unusedSimpArgs false
namespace Go.Dm.Tg
open Go Go.Dm.Vm Go.Dm.Cp
/-- the document's marking, entry by entry -/
def mkR (a t : Nat) : Bool → List (Nat × Nat) → List (Nat × Nat)
  | put, [] => if put then [] else [(a, t)]
  | put, p :: r => (if !put && decide (a ≤ p.1) then [(a, t)] else []) ++ ((if p.1 = a then [] else [p]) ++ mkR a t (put || decide (a ≤ p.1)) r)
theorem mkR_true (a t : Nat) (l : List (Nat × Nat)) : mkR a t true l = delW l a := by
  induction l with
  | nil => rfl
  | cons p r ih =>
    unfold mkR
    rw [Bool.true_or, ih]
    unfold delW
    by_cases h : p.1 = a
    · rw [List.filter_cons_of_neg (by simp [h]), if_pos h]; rfl
    · rw [List.filter_cons_of_pos (by simp [h]), if_neg h]; rfl
theorem delW_gt {l : List (Nat × Nat)} {a : Nat} (h : ∀ p ∈ l, a < p.1) : delW l a = l := by
  unfold delW
  rw [List.filter_eq_self]
  intro p hp
  have := h p hp
  simp
  omega
theorem insW_gt {l : List (Nat × Nat)} {p : Nat × Nat} (h : ∀ q ∈ l, p.1 < q.1) : insW p l = p :: l := by
  cases l with
  | nil => rfl
  | cons q r => unfold insW; rw [if_pos (h q (List.mem_cons_self ..))]
theorem mkR_false {a t : Nat} {l : List (Nat × Nat)} (h : l.Pairwise (fun p q => p.1 < q.1)) : mkR a t false l = insW (a, t) (delW l a) := by
  induction l with
  | nil => rfl
  | cons p r ih =>
    rw [List.pairwise_cons] at h
    unfold mkR
    rw [Bool.false_or, Bool.not_false, Bool.true_and]
    by_cases h1 : a ≤ p.1
    · rw [decide_eq_true h1, if_pos rfl, mkR_true, delW_gt (l := r) (fun q hq => by have := h.1 q hq; omega)]
      by_cases h2 : p.1 = a
      · have e : delW (p :: r) a = r := by
          unfold delW
          rw [List.filter_cons_of_neg (by simp [h2])]
          exact delW_gt (fun q hq => by have := h.1 q hq; omega)
        rw [if_pos h2, e, insW_gt (fun q hq => by have := h.1 q hq; simp only; omega)]
        rfl
      · have e : delW (p :: r) a = p :: r := delW_gt (fun q hq => by
          rcases List.mem_cons.1 hq with rfl | hq
          · omega
          · have := h.1 q hq; omega)
        rw [if_neg h2, e, insW_gt (fun q hq => by
          rcases List.mem_cons.1 hq with rfl | hq
          · simp only; omega
          · have := h.1 q hq; simp only; omega)]
        rfl
    · rw [decide_eq_false h1, if_neg (by decide), ih h.2, if_neg (by omega)]
      have e : delW (p :: r) a = p :: delW r a := by
        unfold delW
        rw [List.filter_cons_of_pos (by simp; omega)]
      rw [e]
      show _ = insW (a, t) (p :: delW r a)
      conv => rhs; unfold insW
      rw [if_neg (by simp only; omega)]
      rfl
theorem mkR_put {a t : Nat} {l : List (Nat × Nat)} (h : l.Pairwise (fun p q => p.1 < q.1)) : mkR a t (t == 0) l = putW l a t := by
  unfold putW
  by_cases h0 : t = 0
  · subst h0; rw [if_pos rfl]; exact mkR_true a 0 l
  · rw [if_neg h0, show (t == 0) = false by simpa using h0]; exact mkR_false h
theorem mkR_drop {a t i : Nat} {pt : Bool} {l : List (Nat × Nat)} (hi : i < l.length) : mkR a t pt (l.drop i) = (if !pt && decide (a ≤ l[i].1) then [(a, t)] else []) ++ ((if l[i].1 = a then [] else [l[i]]) ++ mkR a t (pt || decide (a ≤ l[i].1)) (l.drop (i + 1))) := by
  rw [List.drop_eq_getElem_cons hi]
  rfl
end Go.Dm.Tg
namespace Go.Proofs.YthfekjnekaecaaaDoor
open Go.RowKit Go.Dm Go.Dm.Vm Go.Dm.Cp Go.Dm.Tg Go.Maps Go.Dm.Oc
def encW (p : Nat × Nat) : List Value := [.int .u64 (p.1 : Int), .int .i64 (p.2 : Int)]
theorem encW_len (p : Nat × Nat) : (encW p).length = 2 := rfl
theorem encW_one (p : Nat × Nat) : ∀ u ∈ encW p, u.oneCell' = true := by
  intro u hu
  simp only [encW, List.mem_cons, List.not_mem_nil, or_false] at hu
  rcases hu with rfl | rfl <;> rfl
theorem w18_info : (Tryd.prog.info? 104).map (fun i => (i.zero, i.size, i.bytes)) = some (some (.agg #[.int .u64 0, .int .i64 0]), 2, 16) := by kernel_rfl
section
variable {A B : Nat → Prop} {w : World} {mv wv : Value} {L : Lg}
set_option maxRecDepth 100000 in
set_option maxHeartbeats 4000000 in
theorem r16of_any {v : Value} (l : List Md) (a : Nat) (hl : Fl A w 7 encMd v l) :
    Calls Tryd.prog 42 #[v, .int .u64 (a : Int)] w fun e w' => e = .returned (.int .i64 (ofM l a)) ∧ w' = w := by
  have HL := Lib.hid hl
  obtain ⟨ao, co, rfl, hc1, hc2⟩ := hl.shape
  have hlen : l.length ≤ 9223372036854775807 := by unfold maxLen at hc2; omega
  clear hl hc1 hc2
  go_enter Tryd.func42, Tryd.ntmps42
  go_wp2_with fail
  go_loopw [5] (fun iv wr => ∃ i : Nat, iv = .int .i64 i ∧ i ≤ l.length ∧ (∀ j, j < i → ∀ x, l[j]? = some x → inM a x = false) ∧ wr = w) (fun iv _ => l.length - (intOf iv).toNat)
  case atStart => exact ⟨0, rfl, Nat.zero_le _, (fun j hj => absurd hj (Nat.not_lt_zero _)), rfl⟩
  case round =>
    obtain ⟨i, rfl, hi, hno, rfl⟩ := hrel
    rcases Nat.lt_or_ge i l.length with hlt | hge
    · obtain ⟨g, off, cap, ev, _, _, _, _, hc⟩ := HL.out.at encMd_len hlt
      cases ev
      have hiz : (i : Int) < (l.length : Int) := by omega
      have hin : inM a l[i] = (decide (l[i].low ≤ a) && decide (a < l[i].high)) := rfl
      have hfin : inM a l[i] = true → ofM l a = (i : Int) := fun h => of_some hlt h fun j hj => hno j hj _ (List.getElem?_eq_getElem _)
      have hno2 : inM a l[i] = false → ∀ j, j < i + 1 → ∀ x, l[j]? = some x → inM a x = false := fun h j hji x hx => by
        rcases Nat.lt_or_ge j i with h2 | h2
        · exact hno j h2 x hx
        · obtain rfl : j = i := by omega
          rw [List.getElem?_eq_getElem hlt] at hx
          cases hx
          exact h
      rw [hin] at hfin hno2
      have HF := Lib.hid hfin
      have HN := Lib.hid hno2
      clear hno hfin hno2 hin
      have c2 := hc 2 _ rfl
      have c3 := hc 3 _ rfl
      clear hc
      generalize l[i].low = x2 at *
      generalize l[i].high = x3 at *
      by_cases h1 : x2 ≤ a
      · by_cases h2 : a < x3
        · have h3 : (x3 : Int) > (a : Int) := by omega
          have h4 : (x2 : Int) ≤ (a : Int) := by omega
          have hof := HF.out (by rw [decide_eq_true h1, decide_eq_true h2]; rfl)
          clear HF HN
          go_wp2_with fail
          go_ret
          rw [hof]
          exact ⟨rfl, rfl⟩
        · have h3 : decide ((x3 : Int) > (a : Int)) = false := by rw [decide_eq_false_iff_not]; omega
          have h4 : (x2 : Int) ≤ (a : Int) := by omega
          have h5 : (x3 : Int) ≤ (a : Int) := by omega
          have hnn := HN.out (by rw [decide_eq_false h2, Bool.and_false])
          clear HF HN
          go_wp2_with fail
          go_roundw
          case rel => exact ⟨i + 1, by go_num, hlt, hnn, trivial⟩
          case measure => simp [intOf]; omega
      · have h4 : decide ((x2 : Int) ≤ (a : Int)) = false := by rw [decide_eq_false_iff_not]; omega
        have h5 : (a : Int) < (x2 : Int) := by omega
        have hnn := HN.out (by rw [decide_eq_false h1, Bool.false_and])
        clear HF HN
        go_wp2_with fail
        go_roundw
        case rel => exact ⟨i + 1, by go_num, hlt, hnn, trivial⟩
        case measure => simp [intOf]; omega
    · obtain rfl : i = l.length := Nat.le_antisymm hi hge
      have hof := of_none (l := l) (a := a) fun j hj => hno j hj _ (List.getElem?_eq_getElem hj)
      go_wp2_with fail
      go_ret
      rw [hof]
      exact ⟨rfl, rfl⟩
set_option maxRecDepth 100000 in
set_option maxHeartbeats 4000000 in
theorem r18tag_any (l : List (Nat × Nat)) (a : Nat) (ha : a < 18446744073709551616) (n : Nat) (am : Option Addr) (cm : Nat) (hw : Fl B w 2 encW wv l) :
    Calls Tryd.prog 21 #[.agg #[.slice am n cm, wv], .int .u64 (a : Int)] w fun e w' => e = .returned (.int .i64 (wordAt l (a / 8 * 8) : Nat)) ∧ Keep No w w' := by
  have HL := Lib.hid hw
  obtain ⟨ao, co, rfl, hc1, hc2⟩ := hw.shape
  have hlen : l.length ≤ 9223372036854775807 := by unfold maxLen at hc2; omega
  have hq : ((a : Nat) : Int).tdiv 8 = ((a / 8 : Nat) : Int) := by rw [Int.tdiv_eq_ediv_of_nonneg (by omega)]; omega
  have hm8 : ((a / 8 : Nat) : Int) * 8 = ((a / 8 * 8 : Nat) : Int) := by omega
  have hl8 : a / 8 * 8 < 18446744073709551616 := by omega
  clear hw hc1 hc2
  generalize a / 8 * 8 = b at *
  generalize a / 8 = a8 at *
  go_enter Tryd.func21, Tryd.ntmps21
  go_wp2_with fail
  have hkW : Keep No w (w.alloc (.cells #[.slice am n cm, .slice ao l.length co] 53)) := (Keep.refl _ _).alloc _
  have hBW : Blk (w.alloc (.cells #[.slice am n cm, .slice ao l.length co] 53)) w.heap.size #[.slice am n cm, .slice ao l.length co] 53 := Blk.new _ _ _
  have hzW : (w.alloc (.cells #[.slice am n cm, .slice ao l.length co] 53)).heap.size = w.heap.size + 1 := World.size_alloc _ _
  generalize w.alloc (.cells #[.slice am n cm, .slice ao l.length co] 53) = W at *
  go_wp2_with fail
  go_loopw [5] (fun iv wr => ∃ i : Nat, iv = .int .i64 i ∧ i ≤ l.length ∧ (∀ j, j < i → ∀ x, l[j]? = some x → x.1 ≠ b) ∧ wr = W) (fun iv _ => l.length - (intOf iv).toNat)
  case atStart => exact ⟨0, rfl, Nat.zero_le _, (fun j hj => absurd hj (Nat.not_lt_zero _)), rfl⟩
  case round =>
    obtain ⟨i, rfl, hi, hno, rfl⟩ := hrel
    have q1 : wr.cell? ⟨w.heap.size, 1, none⟩ = some (.slice ao l.length co) := hBW.cell 1
    rcases Nat.lt_or_ge i l.length with hlt | hge
    · obtain ⟨g, off, cap, ev, _, _, _, _, hc⟩ := (HL.out.no hkW).at encW_len hlt
      cases ev
      have hiz : (i : Int) < (l.length : Int) := by omega
      have c0 := hc 0 _ rfl
      have c1 := hc 1 _ rfl
      rw [Nat.add_zero] at c0
      by_cases h1 : l[i].1 = b
      · have hwa : wordAt l b = l[i].2 := by
          unfold wordAt
          rw [List.find?_eq_some_iff_getElem.2 ⟨by simpa using h1, i, hlt, rfl, fun j hj => by
            have := hno j hj _ (List.getElem?_eq_getElem (by omega))
            simpa using this⟩]
          rfl
        rw [h1] at c0
        have HWA := Lib.hid hwa
        clear hc hno hwa h1
        generalize l[i].2 = t at *
        go_wp2_with fail
        go_ret
        rw [HWA.out]
        exact ⟨rfl, hkW⟩
      · have hno2 : ∀ j, j < i + 1 → ∀ x, l[j]? = some x → x.1 ≠ b := fun j hji x hx => by
          rcases Nat.lt_or_ge j i with h2 | h2
          · exact hno j h2 x hx
          · obtain rfl : j = i := by omega
            rw [List.getElem?_eq_getElem hlt] at hx
            cases hx
            exact h1
        have h1z : ((l[i].1 : Int) == (b : Int)) = false := by rw [beq_eq_false_iff_ne]; omega
        have HN := Lib.hid hno2
        clear hc hno hno2 h1
        generalize l[i].1 = z at *
        go_wp2_with fail
        go_roundw
        case rel => exact ⟨i + 1, by go_num, hlt, HN.out, trivial⟩
        case measure => simp [intOf]; omega
    · obtain rfl : i = l.length := Nat.le_antisymm hi hge
      have hwa : wordAt l b = 0 := word_none fun p hp => by
        obtain ⟨j, hj, rfl⟩ := List.mem_iff_getElem.1 hp
        exact hno j hj _ (List.getElem?_eq_getElem hj)
      go_wp2_with fail
      go_ret
      rw [hwa]
      exact ⟨rfl, hkW⟩
set_option maxHeartbeats 1000000 in
theorem r18runs_any (a n : Nat) (ha : a < 18446744073709551616) (hn : n < 18446744073709551616) (w : World) : Calls Tryd.prog 40 #[.int .u64 (a : Int), .int .u64 (n : Int)] w fun e w' => e = .returned (.bool (goesM a n)) ∧ w = w' := by
  have hg : goesM a n = (decide (n ≤ 65536) && decide (a + n ≤ 18446744073709551616)) := rfl
  rw [hg]
  clear hg
  by_cases h1 : (n : Int) > 65536
  · rw [decide_eq_false (show ¬ n ≤ 65536 by omega), Bool.false_and]
    go_enter Tryd.func40, Tryd.ntmps40
    go_wp2_with fail
    go_ret
    exact ⟨rfl, rfl⟩
  · have h1' : (n : Int) ≤ 65536 := by omega
    rw [decide_eq_true (show n ≤ 65536 by omega), Bool.true_and]
    by_cases h0 : n = 0
    · subst h0
      rw [decide_eq_true (by omega)]
      go_enter Tryd.func40, Tryd.ntmps40
      go_wp2_with fail
      go_ret
      exact ⟨rfl, rfl⟩
    · have hz : ((n : Int) == 0) = false := by simpa using h0
      obtain ⟨k, rfl⟩ : ∃ k, n = k + 1 := ⟨n - 1, by omega⟩
      have hk : ((k + 1 : Nat) : Int) - 1 = (k : Int) := by omega
      have hw : IntKind.u64.wrap ((a : Int) + (k : Int)) = (((a + k) % 18446744073709551616 : Nat) : Int) := add_wrap a k
      clear h1
      by_cases h2 : a + k < 18446744073709551616
      · rw [Nat.mod_eq_of_lt h2] at hw
        rw [decide_eq_true (by omega)]
        have h3 : ((a + k : Nat) : Int) ≥ (a : Int) := by omega
        generalize hs : ((k + 1 : Nat) : Int) = kk at *
        clear hs
        go_enter Tryd.func40, Tryd.ntmps40
        go_wp2_with fail
        go_ret
        refine ⟨congrArg (fun b => Ending.returned (Value.bool b)) ?_, rfl⟩
        simp
        try omega
      · have e : (a + k) % 18446744073709551616 = a + k - 18446744073709551616 := by omega
        rw [e] at hw
        obtain ⟨z, hz2⟩ : ∃ z, a + k = z + 18446744073709551616 := ⟨a + k - 18446744073709551616, by omega⟩
        rw [show a + k - 18446744073709551616 = z by omega] at hw
        rw [decide_eq_false (by omega)]
        have h3 : decide ((z : Int) ≥ (a : Int)) = false := by rw [decide_eq_false_iff_not]; omega
        have h4 : (z : Int) < (a : Int) := by omega
        clear e hz2 h2
        generalize hs : ((k + 1 : Nat) : Int) = kk at *
        clear hs
        go_enter Tryd.func40, Tryd.ntmps40
        go_wp2_with fail
        go_ret
        refine ⟨congrArg (fun b => Ending.returned (Value.bool b)) ?_, rfl⟩
        simp
        try omega
set_option maxRecDepth 100000 in
set_option maxHeartbeats 2000000 in
theorem r18within_any (a n : Nat) (t : Int) (wn wc : Nat) (aw : Option Addr) (ha : a < 18446744073709551616) (hn : n < 18446744073709551616) (hl : Fl A w 7 encMd mv L.m) (hok : ∀ x ∈ L.m, MdOk x) (hlen : L.m.length ≤ 1048576) :
    Calls Tryd.prog 39 #[.agg #[mv, .slice aw wn wc], .int .u64 (a : Int), .int .u64 (n : Int), .int .i64 t] w fun e w' => e = .returned (.bool (withinM L a n t)) ∧ Keep No w w' := by
  obtain ⟨ao, co, rfl, hc1, hc2⟩ := hl.shape
  by_cases h1 : t < 1
  · have e : withinM L a n t = false := by unfold withinM; rw [decide_eq_false (by omega)]; rfl
    rw [e]
    clear hl
    go_enter Tryd.func39, Tryd.ntmps39
    go_wp2_with fail
    go_ret
    exact ⟨rfl, (Keep.refl _ _).alloc _⟩
  · obtain ⟨i, rfl⟩ : ∃ i : Nat, t = (i : Int) + 1 := ⟨(t - 1).toNat, by omega⟩
    have ei : ((i : Int) + 1 - 1).toNat = i := by omega
    rcases Nat.lt_or_ge i L.m.length with hi | hi
    · have e : withinM L a n ((i : Int) + 1) = (decide (L.m[i].low ≤ a) && decide (a < L.m[i].high) && decide (n ≤ L.m[i].high - a)) := by
        unfold withinM
        rw [decide_eq_true (by omega), ei, List.getElem?_eq_getElem hi]
        rfl
      rw [e]
      have hok := hok L.m[i] (List.getElem_mem hi)
      have hll := hok.ll
      have hhl := hok.hl
      have hsub : (i : Int) + 1 - 1 = (i : Int) := by omega
      have hi1 : ¬ ((i : Int) + 1 < 1) := by omega
      have hi2 : (i : Int) + 1 ≤ (L.m.length : Int) := by omega
      have hi3 : (i : Int) < (L.m.length : Int) := by omega
      obtain ⟨g, off, cap, ev, _, hgl, _, _, hc⟩ := hl.at encMd_len hi
      cases ev
      have c0 := hc 0 _ rfl
      have c1 := hc 1 _ rfl
      have c2 := hc 2 _ rfl
      have c3 := hc 3 _ rfl
      have c4 := hc 4 _ rfl
      have c5 := hc 5 _ rfl
      have c6 := hc 6 _ rfl
      rw [Nat.add_zero] at c0
      clear hok e hl hc1 hc2 hc
      generalize (⟨L.m[i].name.toArray⟩ : ByteArray) = x0 at *
      generalize L.m[i].base = x1 at *
      generalize L.m[i].low = x2 at *
      generalize L.m[i].high = x3 at *
      generalize L.m[i].tls = x4 at *
      generalize L.m[i].off = x5 at *
      generalize L.m[i].mem = x6 at *
      generalize L.m.length = nm at *
      go_enter Tryd.func39, Tryd.ntmps39
      go_wp2_with (with_reducible refine wl_stAgg rfl _ _ _ rfl _ _ rfl rfl ?_)
      have hkW : Keep No w (w.alloc (.cells #[.slice (some ⟨g, off, none⟩) nm co, .slice aw wn wc] 53)) := (Keep.refl _ _).alloc _
      have hBW : Blk (w.alloc (.cells #[.slice (some ⟨g, off, none⟩) nm co, .slice aw wn wc] 53)) w.heap.size #[.slice (some ⟨g, off, none⟩) nm co, .slice aw wn wc] 53 := Blk.new _ _ _
      have hzW : (w.alloc (.cells #[.slice (some ⟨g, off, none⟩) nm co, .slice aw wn wc] 53)).heap.size = w.heap.size + 1 := World.size_alloc _ _
      generalize w.alloc (.cells #[.slice (some ⟨g, off, none⟩) nm co, .slice aw wn wc] 53) = W at *
      have hkW1 : Keep No W (W.alloc (.cells #[.string ⟨#[]⟩, .int .u64 0, .int .u64 0, .int .u64 0, .bool false, .int .u64 0, .int .u64 0] 132)) := (Keep.refl _ _).alloc _
      have hBW1 : Blk (W.alloc (.cells #[.string ⟨#[]⟩, .int .u64 0, .int .u64 0, .int .u64 0, .bool false, .int .u64 0, .int .u64 0] 132)) W.heap.size #[.string ⟨#[]⟩, .int .u64 0, .int .u64 0, .int .u64 0, .bool false, .int .u64 0, .int .u64 0] 132 := Blk.new _ _ _
      have hzW1 : (W.alloc (.cells #[.string ⟨#[]⟩, .int .u64 0, .int .u64 0, .int .u64 0, .bool false, .int .u64 0, .int .u64 0] 132)).heap.size = W.heap.size + 1 := World.size_alloc _ _
      generalize W.alloc (.cells #[.string ⟨#[]⟩, .int .u64 0, .int .u64 0, .int .u64 0, .bool false, .int .u64 0, .int .u64 0] 132) = W1 at *
      rw [hzW] at hBW1
      refine rg_stAgg hBW1 (by kernel_rfl) (by rfl) (by simp [Value.oneCell']) ?_
      intro W2 hB2 hk2 hs2
      have hk02 : Keep No w W2 := (hkW.trans' hkW1).trans hk2 fun j hj e => absurd hj (by have e2 : j = w.heap.size + 1 := e; omega)
      have q2 : W2.cell? ⟨w.heap.size + 1, 2, none⟩ = some (.int .u64 (x2 : Int)) := hB2.cell 2
      have q3 : W2.cell? ⟨w.heap.size + 1, 3, none⟩ = some (.int .u64 (x3 : Int)) := hB2.cell 3
      clear hkW1 hk2 hBW1 hs2
      go_wp2_with fail
      all_goals
        go_ret
        refine ⟨congrArg (fun b => Ending.returned (Value.bool b)) ?_, hk02⟩
        rw [Bool.eq_iff_iff]
        simp only [Bool.and_eq_true, decide_eq_true_eq, Bool.false_eq_true, false_iff]
        omega
    · have e : withinM L a n ((i : Int) + 1) = false := by
        unfold withinM
        rw [ei, List.getElem?_eq_none hi, Bool.and_false]
      rw [e]
      have hi1 : ¬ ((i : Int) + 1 < 1) := by omega
      have hi2 : (i : Int) + 1 > (L.m.length : Int) := by omega
      clear e hl hc1 hc2
      generalize L.m.length = nm at *
      go_enter Tryd.func39, Tryd.ntmps39
      go_wp2_with fail
      go_ret
      exact ⟨rfl, (Keep.refl _ _).alloc _⟩
end
end Go.Proofs.YthfekjnekaecaaaDoor
namespace Go.Proofs.YthfekjnekaecaaaDoor
open Go.RowKit Go.Dm Go.Dm.Vm Go.Dm.Cp Go.Dm.Tg Go.Maps Go.Dm.Oc
section
variable {A B C : Nat → Prop} {w : World} {mv wv pv : Value} {L : Lg} {m : V}
theorem peek1 (m : V) (a : Nat) : peekE m a 1 = Vm.heldE m a 1 := rfl
set_option maxRecDepth 100000 in
set_option maxHeartbeats 4000000 in
theorem r18span_any (a n : Nat) (t : Int) (wn wc : Nat) (aw : Option Addr) (ha : a < 18446744073709551616) (hn : n < 18446744073709551616) (hl : Fl A w 7 encMd mv L.m) (hok : ∀ x ∈ L.m, MdOk x) (hlen : L.m.length ≤ 1048576) (hp : Fl C w 6 encS pv m) (hmk : Ok m) :
    Calls Tryd.prog 18 #[.agg #[mv, .slice aw wn wc], .int .u64 (a : Int), .int .u64 (n : Int), .int .i64 t, .agg #[pv]] w fun e w' => e = .returned (.int .i64 (spanM L (some m) a n t : Nat)) ∧ Keep No w w' := by
  have hs : spanM L (some m) a n t = if n = 0 then 0 else if t ≠ 0 then (if withinM L a n t then 0 else 50) else if goesM a n then (if (List.range n).all fun i => fixedM L (some m) (a + i) then 0 else 50) else 50 := rfl
  generalize spanM L (some m) a n t = R at *
  have HR := Lib.hid hs
  have hwi := fun W (hk : Keep No w W) => r18within_any (L := L) (w := W) a n t wn wc aw ha hn (hl.no hk) hok hlen
  have hru := fun W => r18runs_any a n ha hn W
  have hof := fun W (hk : Keep No w W) x => r16of_any (w := W) L.m x (hl.no hk)
  have hpk := fun W (hk : Keep No w W) x (hx : x < 18446744073709551616) => rvpeek_any (w := W) x 1 hx (by decide) (hp.no hk) hmk
  have HWI := Lib.hid hwi
  have HRU := Lib.hid hru
  have HOF := Lib.hid hof
  have HPK := Lib.hid hpk
  obtain ⟨am, cm, rfl, _, _⟩ := hl.shape
  obtain ⟨ap, cp, rfl, _, _⟩ := hp.shape
  clear hs hwi hru hof hpk hl hp hok
  go_enter Tryd.func18, Tryd.ntmps18
  by_cases h0 : n = 0
  · subst h0
    rw [if_pos rfl] at HR
    go_wp2_with fail
    go_ret
    rw [HR.out]
    exact ⟨rfl, ((Keep.refl _ _).alloc _).alloc _⟩
  · rw [if_neg h0] at HR
    have hne0 : ((n : Int) == 0) = false := by simpa using h0
    by_cases ht : t = 0
    · subst ht
      rw [if_neg (by simp)] at HR
      go_wp2_with fail
      have hkW1 : Keep No w (w.alloc (.cells #[.slice am L.m.length cm, .slice aw wn wc] 53)) := (Keep.refl _ _).alloc _
      have hBW1 : Blk (w.alloc (.cells #[.slice am L.m.length cm, .slice aw wn wc] 53)) w.heap.size #[.slice am L.m.length cm, .slice aw wn wc] 53 := Blk.new _ _ _
      have hzW1 : (w.alloc (.cells #[.slice am L.m.length cm, .slice aw wn wc] 53)).heap.size = w.heap.size + 1 := World.size_alloc _ _
      generalize w.alloc (.cells #[.slice am L.m.length cm, .slice aw wn wc] 53) = W1 at *
      have hkW2 : Keep No W1 (W1.alloc (.cells #[.slice ap m.length cp] 59)) := (Keep.refl _ _).alloc _
      have hBW2 : Blk (W1.alloc (.cells #[.slice ap m.length cp] 59)) W1.heap.size #[.slice ap m.length cp] 59 := Blk.new _ _ _
      have hzW2 : (W1.alloc (.cells #[.slice ap m.length cp] 59)).heap.size = W1.heap.size + 1 := World.size_alloc _ _
      generalize W1.alloc (.cells #[.slice ap m.length cp] 59) = W2 at *
      rw [hzW1] at hBW2
      have hB1 := hBW1.keep hkW2 fun h => h
      have hkW := hkW1.trans' hkW2
      clear hBW1 hkW1 hkW2 hzW1 hzW2
      refine (HRU.out W2).mono ?_
      rintro e W ⟨rfl, rfl⟩
      have hgo : goesM a n = true → n ≤ 65536 ∧ a + n ≤ 18446744073709551616 := fun e => by
        unfold goesM at e
        simpa using e
      cases hb : goesM a n with
      | false =>
        rw [hb, if_neg (by decide)] at HR
        go_wp2_with fail
        go_ret
        rw [HR.out]
        exact ⟨rfl, hkW⟩
      | true =>
        rw [hb, if_pos rfl] at HR
        obtain ⟨g1, g2⟩ := hgo hb
        clear hgo hb HWI HRU
        go_wp2_with fail
        go_loopw [13, 14, 15] (fun iv _ _ wr => ∃ i : Nat, iv = .int .u64 i ∧ i ≤ n ∧ (∀ j, j < i → fixedM L (some m) (a + j) = true) ∧ Keep No W2 wr) (fun iv _ _ _ => n - (intOf iv).toNat)
        case atStart => exact ⟨0, rfl, Nat.zero_le _, (fun j hj => absurd hj (Nat.not_lt_zero _)), Keep.refl _ _⟩
        case round =>
          obtain ⟨i, rfl, hi, hall, hk⟩ := hrel
          rcases Nat.lt_or_ge i n with hlt | hge
          · have hiz : (i : Int) < (n : Int) := by omega
            have hsum : (a : Int) + (i : Int) = ((a + i : Nat) : Int) := by omega
            have hal : a + i < 18446744073709551616 := by omega
            have hc := HPK.out wr (hkW.trans' hk) (a + i) hal
            rw [peek1] at hc
            have hfx : fixedM L (some m) (a + i) = ((Vm.heldE m (a + i) 1 == 0) && decide (ofM L.m (a + i) < 0)) := rfl
            have hno : fixedM L (some m) (a + i) = false → R = 50 := fun e => by
              rw [HR.out, if_neg]
              intro hh
              rw [List.all_eq_true] at hh
              have := hh i (List.mem_range.2 hlt)
              rw [e] at this
              cases this
            have hyes : fixedM L (some m) (a + i) = true → ∀ j, j < i + 1 → fixedM L (some m) (a + j) = true := fun e j hj => by
              rcases Nat.lt_or_ge j i with h | h
              · exact hall j h
              · obtain rfl : j = i := by omega
                exact e
            have hoff := fun W (hk : Keep No w W) => HOF.out W hk (a + i)
            rw [hfx] at hno hyes
            have HN := Lib.hid hno
            have HY := Lib.hid hyes
            have HO := Lib.hid hoff
            clear hno hyes hall hfx hoff
            generalize ofM L.m (a + i) = o at *
            generalize Vm.heldE m (a + i) 1 = hh at *
            have q9 : wr.cell? ⟨w.heap.size + 1, 0, none⟩ = some (.slice ap m.length cp) := (hBW2.keep hk fun h => h).cell 0
            have H1 := Lib.hid hsum
            clear hsum
            generalize hat : a + i = at_ at *
            have h1' := H1.out
            clear H1 hat
            go_wp2_with fail
            refine hc.mono ?_
            rintro e W3 ⟨v', rfl, _, hk3⟩
            have hkk := hk.trans' hk3
            have q0 : W3.cell? ⟨w.heap.size, 0, none⟩ = some (.slice am L.m.length cm) := (hB1.keep hkk fun h => h).cell 0
            clear hc q9
            by_cases hh0 : hh = 0
            · subst hh0
              have ho := HO.out W3 (hkW.trans' hkk)
              go_wp2_with fail
              refine ho.mono ?_
              rintro e W4 ⟨rfl, rfl⟩
              by_cases ho0 : o < 0
              · have ho1 : decide (o ≥ 0) = false := by rw [decide_eq_false_iff_not]; omega
                have hy := HY.out (by rw [decide_eq_true ho0]; rfl)
                go_wp2_with fail
                go_roundw
                case rel => exact ⟨i + 1, by go_num, hlt, hy, hkk⟩
                case measure => simp [intOf]; omega
              · have ho1 : o ≥ 0 := by omega
                have hn := HN.out (by rw [decide_eq_false ho0]; rfl)
                go_wp2_with fail
                go_ret
                rw [hn]
                exact ⟨rfl, hkW.trans' hkk⟩
            · have hhz : ((hh : Int) != 0) = true := by simpa using hh0
              have hn := HN.out (by rw [show (hh == 0) = false by simpa using hh0]; rfl)
              go_wp2_with fail
              go_ret
              rw [hn]
              exact ⟨rfl, hkW.trans' hkk⟩
          · obtain rfl : i = n := Nat.le_antisymm hi hge
            have hR : R = 0 := by
              rw [HR.out, if_pos]
              rw [List.all_eq_true]
              intro j hj
              exact hall j (List.mem_range.1 hj)
            go_wp2_with fail
            go_ret
            rw [hR]
            exact ⟨rfl, hkW.trans' hk⟩
    · rw [if_pos ht] at HR
      have htn : (t != 0) = true := by simpa using ht
      go_wp2_with fail
      have hkW1 : Keep No w (w.alloc (.cells #[.slice am L.m.length cm, .slice aw wn wc] 53)) := (Keep.refl _ _).alloc _
      have hBW1 : Blk (w.alloc (.cells #[.slice am L.m.length cm, .slice aw wn wc] 53)) w.heap.size #[.slice am L.m.length cm, .slice aw wn wc] 53 := Blk.new _ _ _
      have hzW1 : (w.alloc (.cells #[.slice am L.m.length cm, .slice aw wn wc] 53)).heap.size = w.heap.size + 1 := World.size_alloc _ _
      generalize w.alloc (.cells #[.slice am L.m.length cm, .slice aw wn wc] 53) = W1 at *
      have hkW2 : Keep No W1 (W1.alloc (.cells #[.slice ap m.length cp] 59)) := (Keep.refl _ _).alloc _
      have hBW2 : Blk (W1.alloc (.cells #[.slice ap m.length cp] 59)) W1.heap.size #[.slice ap m.length cp] 59 := Blk.new _ _ _
      have hzW2 : (W1.alloc (.cells #[.slice ap m.length cp] 59)).heap.size = W1.heap.size + 1 := World.size_alloc _ _
      generalize W1.alloc (.cells #[.slice ap m.length cp] 59) = W2 at *
      have hkW := hkW1.trans' hkW2
      have hwi := HWI.out W2 hkW
      generalize withinM L a n t = b at *
      refine hwi.mono ?_
      rintro e W ⟨rfl, hk⟩
      cases b
      all_goals
        go_wp2_with fail
        go_ret
        rw [HR.out]
        exact ⟨rfl, hkW.trans' hk⟩
set_option maxRecDepth 100000 in
set_option maxHeartbeats 4000000 in
theorem r18plain_any (a n : Nat) (wn wc : Nat) (aw : Option Addr) (ha : a < 18446744073709551616) (hn : n < 18446744073709551616) (hw : Fl B w 2 encW wv L.w) :
    Calls Tryd.prog 20 #[.agg #[.slice aw wn wc, wv], .int .u64 (a : Int), .int .u64 (n : Int)] w fun e w' => e = .returned (.bool (plainM L a n)) ∧ Keep No w w' := by
  have hs : plainM L a n = (goesM a n && (List.range n).all fun i => tagM L (a + i) == 0) := rfl
  generalize plainM L a n = R at *
  have HR := Lib.hid hs
  have htg := fun W (hk : Keep No w W) x (hx : x < 18446744073709551616) => r18tag_any (w := W) L.w x hx wn aw wc (hw.no hk)
  have hru := fun W => r18runs_any a n ha hn W
  have HTG := Lib.hid htg
  have HRU := Lib.hid hru
  obtain ⟨ao, co, rfl, _, _⟩ := hw.shape
  clear hs htg hru hw
  go_enter Tryd.func20, Tryd.ntmps20
  go_wp2_with fail
  have hkW2 : Keep No w (w.alloc (.cells #[.slice aw wn wc, .slice ao L.w.length co] 53)) := (Keep.refl _ _).alloc _
  have hBW2 : Blk (w.alloc (.cells #[.slice aw wn wc, .slice ao L.w.length co] 53)) w.heap.size #[.slice aw wn wc, .slice ao L.w.length co] 53 := Blk.new _ _ _
  have hzW2 : (w.alloc (.cells #[.slice aw wn wc, .slice ao L.w.length co] 53)).heap.size = w.heap.size + 1 := World.size_alloc _ _
  generalize w.alloc (.cells #[.slice aw wn wc, .slice ao L.w.length co] 53) = W2 at *
  refine (HRU.out W2).mono ?_
  rintro e W ⟨rfl, rfl⟩
  have hgo : goesM a n = true → n ≤ 65536 ∧ a + n ≤ 18446744073709551616 := fun e => by
    unfold goesM at e
    simpa using e
  cases hb : goesM a n with
  | false =>
    rw [hb, Bool.false_and] at HR
    go_wp2_with fail
    go_ret
    rw [HR.out]
    exact ⟨rfl, hkW2⟩
  | true =>
    rw [hb, Bool.true_and] at HR
    obtain ⟨g1, g2⟩ := hgo hb
    clear hgo hb HRU
    go_wp2_with fail
    go_loopw [8] (fun iv wr => ∃ i : Nat, iv = .int .u64 i ∧ i ≤ n ∧ (∀ j, j < i → tagM L (a + j) = 0) ∧ Keep No W2 wr) (fun iv _ => n - (intOf iv).toNat)
    case atStart => exact ⟨0, rfl, Nat.zero_le _, (fun j hj => absurd hj (Nat.not_lt_zero _)), Keep.refl _ _⟩
    case round =>
      obtain ⟨i, rfl, hi, hall, hk⟩ := hrel
      rcases Nat.lt_or_ge i n with hlt | hge
      · have hiz : (i : Int) < (n : Int) := by omega
        have hsum : (a : Int) + (i : Int) = ((a + i : Nat) : Int) := by omega
        have hal : a + i < 18446744073709551616 := by omega
        have hc := HTG.out wr (hkW2.trans' hk) (a + i) hal
        have htd : wordAt L.w ((a + i) / 8 * 8) = tagM L (a + i) := rfl
        rw [htd] at hc
        have hno : tagM L (a + i) ≠ 0 → R = false := fun e => by
          rw [HR.out, List.all_eq_false]
          exact ⟨i, List.mem_range.2 hlt, by simpa using e⟩
        have hyes : tagM L (a + i) = 0 → ∀ j, j < i + 1 → tagM L (a + j) = 0 := fun e j hj => by
          rcases Nat.lt_or_ge j i with h | h
          · exact hall j h
          · obtain rfl : j = i := by omega
            exact e
        have HN := Lib.hid hno
        have HY := Lib.hid hyes
        clear hno hyes hall htd
        generalize tagM L (a + i) = b at *
        have q0 : wr.cell? ⟨w.heap.size, 0, none⟩ = some (.slice aw wn wc) := (hBW2.keep hk fun h => h).cell 0
        have q1 : wr.cell? ⟨w.heap.size, 1, none⟩ = some (.slice ao L.w.length co) := (hBW2.keep hk fun h => h).cell 1
        have H1 := Lib.hid hsum
        clear hsum
        generalize hat : a + i = at_ at *
        have h1' := H1.out
        clear H1 hat
        go_wp2_with fail
        refine hc.mono ?_
        rintro e W3 ⟨rfl, hk3⟩
        have hkk := hk.trans' hk3
        clear hc q0 q1
        by_cases hb0 : b = 0
        · subst hb0
          have hy := HY.out rfl
          go_wp2_with fail
          go_roundw
          case rel => exact ⟨i + 1, by go_num, hlt, hy, hkk⟩
          case measure => simp [intOf]; omega
        · have hbz : ((b : Int) != 0) = true := by simpa using hb0
          have hn := HN.out hb0
          go_wp2_with fail
          go_ret
          rw [hn]
          exact ⟨rfl, hkW2.trans' hkk⟩
      · obtain rfl : i = n := Nat.le_antisymm hi hge
        have hR : R = true := by
          rw [HR.out, List.all_eq_true]
          intro j hj
          simpa using hall j (List.mem_range.1 hj)
        go_wp2_with fail
        go_ret
        rw [hR]
        exact ⟨rfl, hkW2.trans' hk⟩
end
end Go.Proofs.YthfekjnekaecaaaDoor
namespace Go.Proofs.YthfekjnekaecaaaDoor
open Go.RowKit Go.Dm Go.Dm.Vm Go.Dm.Cp Go.Dm.Tg Go.Maps Go.Dm.Oc
section
variable {A B C : Nat → Prop} {w : World} {mv wv pv : Value} {L : Lg} {m : V}
theorem mk_le {a t : Nat} : ∀ {l : List (Nat × Nat)} {pt : Bool}, (mkR a t pt l).length ≤ 2 * l.length + 1
  | [], pt => by unfold mkR; split <;> simp
  | p :: r, pt => by
    have h := mk_le (a := a) (t := t) (l := r) (pt := pt || decide (a ≤ p.1))
    unfold mkR
    rw [List.length_append, List.length_append, List.length_cons]
    split <;> split <;> simp only [List.length_cons, List.length_nil] <;> omega
set_option maxRecDepth 100000 in
set_option maxHeartbeats 8000000 in
theorem r18mark_any (a : Nat) (t : Int) (ha : a < 18446744073709551616) (hl : Fl A w 7 encMd mv L.m) (hw : Fl B w 2 encW wv L.w) (hs : L.w.Pairwise (fun p q => p.1 < q.1)) (hlen : L.w.length ≤ 1000000) (hml : L.m.length ≤ 1048576) :
    Calls Tryd.prog 37 #[.agg #[mv, wv], .int .u64 (a : Int), .int .i64 t] w fun e w' => ∃ wv', e = .returned (.tuple #[.agg #[mv, wv'], .int .i64 (markE L a t : Nat)]) ∧ Fl (fun k => B k ∨ (w.heap.size ≤ k ∧ k < w'.heap.size)) w' 2 encW wv' (markM L a t).w ∧ Keep No w w' := by
  have hmod : ((a : Nat) : Int).tmod 8 = ((a % 8 : Nat) : Int) := by rw [IntWalk.rem_in _ _ (by omega)]; omega
  have HW := Lib.hid hw
  obtain ⟨am, cm, rfl, _, _⟩ := hl.shape
  obtain ⟨aw, cw, rfl, _, _⟩ := hw.shape
  clear hl hw
  by_cases hE : markE L a t = 0
  · have h3 : a % 8 = 0 ∧ 0 ≤ t ∧ t ≤ (L.m.length : Int) := by
      unfold markE at hE
      by_cases h3 : a % 8 = 0 ∧ 0 ≤ t ∧ t ≤ (L.m.length : Int)
      · exact h3
      · rw [if_neg h3] at hE; cases hE
    obtain ⟨h31, h32, h33⟩ := h3
    obtain ⟨k, rfl⟩ : ∃ k : Nat, t = (k : Int) := ⟨t.toNat, by omega⟩
    have hM : (markM L a (k : Int)).w = mkR a k (k == 0) L.w := by
      unfold markM
      rw [if_pos hE, Int.toNat_natCast, mkR_put hs]
    have hmle := mk_le (a := a) (t := k) (l := L.w) (pt := k == 0)
    rw [hM, hE]
    rw [h31] at hmod
    clear hM hE h31
    generalize hR : mkR a k (k == 0) L.w = R at *
    have HR := Lib.hid hR
    clear hR hs
    generalize L.m.length = nm at *
    have hpt : ((k : Int) == 0) = (k == 0) := by
      rw [Bool.eq_iff_iff]; simp
    generalize hkz : (k == 0) = kz at *
    have b1 : decide ((k : Int) < 0) = false := by rw [decide_eq_false_iff_not]; omega
    have b2 : decide ((k : Int) > (nm : Int)) = false := by rw [decide_eq_false_iff_not]; omega
    have b3 : decide (nm < k) = false := by rw [decide_eq_false_iff_not]; omega
    have b4 : decide ((nm : Int) < (k : Int)) = false := by rw [decide_eq_false_iff_not]; omega
    go_enter Tryd.func37, Tryd.ntmps37
    go_wp2_with fail
    have hkW1 : Keep No w (w.alloc (.cells #[.slice am nm cm, .slice aw L.w.length cw] 53)) := (Keep.refl _ _).alloc _
    have hBW1 : Blk (w.alloc (.cells #[.slice am nm cm, .slice aw L.w.length cw] 53)) w.heap.size #[.slice am nm cm, .slice aw L.w.length cw] 53 := Blk.new _ _ _
    have hzW1 : (w.alloc (.cells #[.slice am nm cm, .slice aw L.w.length cw] 53)).heap.size = w.heap.size + 1 := World.size_alloc _ _
    generalize w.alloc (.cells #[.slice am nm cm, .slice aw L.w.length cw] 53) = W1 at *
    have hkW2 : Keep No W1 (W1.alloc (.cells #[.slice none 0 0, .slice none 0 0] 53)) := (Keep.refl _ _).alloc _
    have hBW2 : Blk (W1.alloc (.cells #[.slice none 0 0, .slice none 0 0] 53)) W1.heap.size #[.slice none 0 0, .slice none 0 0] 53 := Blk.new _ _ _
    have hzW2 : (W1.alloc (.cells #[.slice none 0 0, .slice none 0 0] 53)).heap.size = W1.heap.size + 1 := World.size_alloc _ _
    generalize W1.alloc (.cells #[.slice none 0 0, .slice none 0 0] 53) = W2 at *
    rw [hzW1] at hBW2
    have hB1 := hBW1.keep hkW2 fun h => h
    have hkW := hkW1.trans' hkW2
    have hz2 : W2.heap.size = w.heap.size + 2 := by omega
    clear hBW1 hkW1 hkW2 hzW1 hzW2
    go_loopw [8, 9, 10] (fun vv pv iv wr => ∃ (i : Nat) (o : List (Nat × Nat)) (pt : Bool), iv = .int .i64 i ∧ pv = .bool pt ∧ i ≤ L.w.length ∧ FlO wr W2.heap.size 104 2 encW vv o ∧ o ++ mkR a k pt (L.w.drop i) = R ∧ Keep No W2 wr) (fun _ _ iv _ => L.w.length - (intOf iv).toNat)
    case atStart => exact ⟨0, [], kz, rfl, rfl, Nat.zero_le _, FlO.nil, by rw [List.drop_zero]; exact HR.out, Keep.refl _ _⟩
    case round =>
      obtain ⟨i, o, pt, rfl, rfl, hi, ho, hro, hk⟩ := hrel
      generalize wr = wz at *
      obtain ⟨a0, c0, rfl, _, _⟩ := ho.fl.shape
      have hol : o.length ≤ R.length := by rw [← hro, List.length_append]; omega
      have q1 : wz.cell? ⟨w.heap.size, 1, none⟩ = some (.slice aw L.w.length cw) := (hB1.keep hk fun h => h).cell 1
      have hw1 := hB1.lt
      rcases Nat.lt_or_ge i L.w.length with hlt | hge
      · obtain ⟨g, off, cap, ev, _, hgl, _, _, hc⟩ := (HW.out.no (hkW.trans' hk)).at encW_len hlt
        cases ev
        have hiz : (i : Int) < (L.w.length : Int) := by omega
        have d0 := hc 0 _ rfl
        have d1 := hc 1 _ rfl
        rw [Nat.add_zero] at d0
        rw [mkR_drop hlt] at hro
        clear hc
        have hly : L.w[i] = (L.w[i].1, L.w[i].2) := rfl
        generalize hzd : L.w[i].1 = z at *
        generalize hyd : L.w[i].2 = y at *
        rw [hly] at hro
        have hzl : z ≤ z := Nat.le_refl _
        have HRO := Lib.hid hro
        have HZY := Lib.hid (And.intro hzd hyd)
        have hole : o.length + 2 ≤ 1099511627776 := by omega
        clear hro hly hol hzd hyd
        cases pt with
        | true =>
          simp only [Bool.not_true, Bool.false_and, Bool.false_eq_true, if_false, List.nil_append, Bool.true_or] at HRO
          by_cases hza : z = a
          · subst hza
            simp only [if_true, List.nil_append] at HRO
            go_wp2_with fail
            go_roundw
            case rel => exact ⟨i + 1, o, true, by go_num, rfl, hlt, ho, HRO.out, hk⟩
            case measure => simp [intOf]; omega
          · have hz1 : ((z : Int) != (a : Int)) = true := by simp; omega
            rw [if_neg hza] at HRO
            go_wp2_with (at_builtin; refine wl_append rfl _ _ _ _ rfl _ _ rfl rfl ?_)
            refine rg_push (w := wz) (enc := encW) (x := (z, y)) (l := o) (base := W2.heap.size) _ 16 Tryd.underlying51 w18_info rfl (by decide) rfl rfl (encW_one _) ho (by omega) (by decide) (by have := (hk).size; omega) ?_
            intro v5 w5 ho5 hkp5 hx5
            have hk5 : Keep No W2 w5 := (hk).own ho hkp5
            obtain ⟨a5, c5, rfl, _, _⟩ := (FlO.fl ho5).shape
            obtain ⟨n5, hn5⟩ : ∃ n, n = (o ++ [(z, y)]).length := ⟨_, rfl⟩
            rw [← hn5] at ho5 ⊢
            replace hn5 := Lib.hid hn5
            clear hkp5 hx5
            go_wp2_with fail
            go_roundw
            case rel => exact ⟨i + 1, (o ++ [(z, y)]), true, by go_num, rfl, hlt, ho5, (by rw [List.append_assoc]; exact HRO.out), hk5⟩
            case measure => simp [intOf]; omega
        | false =>
          simp only [Bool.not_false, Bool.true_and, Bool.false_or] at HRO
          by_cases hge : a ≤ z
          · have hgz : (z : Int) ≥ (a : Int) := by omega
            simp only [decide_eq_true hge, if_true] at HRO
            go_wp2_with (at_builtin; refine wl_append rfl _ _ _ _ rfl _ _ rfl rfl ?_)
            refine rg_push (w := wz) (enc := encW) (x := (a, k)) (l := o) (base := W2.heap.size) _ 16 Tryd.underlying51 w18_info rfl (by decide) rfl rfl (encW_one _) ho (by omega) (by decide) (by have := (hk).size; omega) ?_
            intro v5 w5 ho5 hkp5 hx5
            have hk5 : Keep No W2 w5 := (hk).own ho hkp5
            obtain ⟨a5, c5, rfl, _, _⟩ := (FlO.fl ho5).shape
            obtain ⟨n5, hn5⟩ : ∃ n, n = (o ++ [(a, k)]).length := ⟨_, rfl⟩
            rw [← hn5] at ho5 ⊢
            replace hn5 := Lib.hid hn5
            clear hkp5 hx5
            clear d0 d1 q1
            obtain ⟨g', off', cap', ev', _, _, _, _, hc'⟩ := (HW.out.no (hkW.trans' hk5)).at encW_len hlt
            cases ev'
            have d0 := hc' 0 _ rfl
            have d1 := hc' 1 _ rfl
            rw [Nat.add_zero] at d0
            have q1 : (w5).cell? ⟨w.heap.size, 1, none⟩ = some (.slice (some ⟨g, off, none⟩) L.w.length cw) := (hB1.keep hk5 fun h => h).cell 1
            clear hc'
            rw [HZY.out.1] at d0
            rw [HZY.out.2] at d1
            by_cases hza : z = a
            · subst hza
              simp only [if_true, List.nil_append] at HRO
              go_wp2_with fail
              go_roundw
              case rel => exact ⟨i + 1, (o ++ [(z, k)]), true, by go_num, rfl, hlt, ho5, (by rw [List.append_assoc]; exact HRO.out), hk5⟩
              case measure => simp [intOf]; omega
            · have hz1 : ((z : Int) != (a : Int)) = true := by simp; omega
              rw [if_neg hza] at HRO
              have hol5 : (o ++ [(a, k)]).length + 1 ≤ 1099511627776 := by simp; omega
              go_wp2_with (at_builtin; refine wl_append rfl _ _ _ _ rfl _ _ rfl rfl ?_)
              refine rg_push (w := w5) (enc := encW) (x := (z, y)) (l := (o ++ [(a, k)])) (base := W2.heap.size) _ 16 Tryd.underlying51 w18_info rfl (by decide) rfl rfl (encW_one _) ho5 (by omega) (by decide) (by have := (hk5).size; omega) ?_
              intro v6 w6 ho6 hkp6 hx6
              have hk6 : Keep No W2 w6 := (hk5).own ho5 hkp6
              obtain ⟨a6, c6, rfl, _, _⟩ := (FlO.fl ho6).shape
              obtain ⟨n6, hn6⟩ : ∃ n, n = ((o ++ [(a, k)]) ++ [(z, y)]).length := ⟨_, rfl⟩
              rw [← hn6] at ho6 ⊢
              replace hn6 := Lib.hid hn6
              clear hkp6 hx6
              go_wp2_with fail
              go_roundw
              case rel => exact ⟨i + 1, (o ++ [(a, k)] ++ [(z, y)]), true, by go_num, rfl, hlt, ho6, (by rw [List.append_assoc, List.append_assoc]; exact HRO.out), hk6⟩
              case measure => simp [intOf]; omega
          · have hgz : decide ((z : Int) ≥ (a : Int)) = false := by rw [decide_eq_false_iff_not]; omega
            have hgz2 : (z : Int) < (a : Int) := by omega
            have hz1 : ((z : Int) != (a : Int)) = true := by simp; omega
            have hza : ¬ z = a := by omega
            simp only [decide_eq_false hge, Bool.false_eq_true, if_false, List.nil_append, if_neg hza] at HRO
            go_wp2_with (at_builtin; refine wl_append rfl _ _ _ _ rfl _ _ rfl rfl ?_)
            refine rg_push (w := wz) (enc := encW) (x := (z, y)) (l := o) (base := W2.heap.size) _ 16 Tryd.underlying51 w18_info rfl (by decide) rfl rfl (encW_one _) ho (by omega) (by decide) (by have := (hk).size; omega) ?_
            intro v5 w5 ho5 hkp5 hx5
            have hk5 : Keep No W2 w5 := (hk).own ho hkp5
            obtain ⟨a5, c5, rfl, _, _⟩ := (FlO.fl ho5).shape
            obtain ⟨n5, hn5⟩ : ∃ n, n = (o ++ [(z, y)]).length := ⟨_, rfl⟩
            rw [← hn5] at ho5 ⊢
            replace hn5 := Lib.hid hn5
            clear hkp5 hx5
            go_wp2_with fail
            go_roundw
            case rel => exact ⟨i + 1, (o ++ [(z, y)]), false, by go_num, rfl, hlt, ho5, (by rw [List.append_assoc]; exact HRO.out), hk5⟩
            case measure => simp [intOf]; omega
      · obtain rfl : i = L.w.length := Nat.le_antisymm hi hge
        rw [List.drop_eq_nil_of_le (Nat.le_refl _)] at hro
        have hw2 := hBW2.lt
        cases pt with
        | true =>
          have hoR : o = R := by rw [← hro]; exact (List.append_nil o).symm
          subst hoR
          have hf1 := (hB1.keep hk fun h => h).frozen 1
          have hBs := (hB1.keep hk fun h => h).set (i := 1) (.slice a0 o.length c0)
          have hkS := (Keep.refl (fun j => j = w.heap.size) wz).setCell (p := ⟨w.heap.size, 1, none⟩) (fun _ => rfl) (.slice a0 o.length c0)
          have hb2 := (hBW2.keep hk fun h => h).keep hkS fun e => by have e2 : w.heap.size + 1 = w.heap.size := e; omega
          have hoS : FlO (wz.setCell ⟨w.heap.size, 1, none⟩ (.slice a0 o.length c0)) W2.heap.size 104 2 encW (.slice a0 o.length c0) o := FlO.same ho fun g hg => hkS.block g (World.ownsRow.lt ho g hg).2 fun e => by
            have h1 := (World.ownsRow.lt ho g hg).1
            have e2 : g = w.heap.size := e
            omega
          have hkF : Keep No w (wz.setCell ⟨w.heap.size, 1, none⟩ (.slice a0 o.length c0)) := (hkW.trans' hk).trans hkS fun j hj e => absurd hj (by have e2 : j = w.heap.size := e; omega)
          clear hkS
          go_wp2_with (first | (with_reducible refine wl_ld rfl _ 53 rfl _ rfl ?_) | (with_reducible refine wl_stAgg rfl _ _ _ rfl _ _ rfl rfl ?_))
          refine rg_ld hBs Tryd.underlying53 rfl (by kernel_rfl) ?_
          go_wp2_with (with_reducible refine wl_stAgg rfl _ _ _ rfl _ _ rfl rfl ?_)
          refine rg_stAgg hb2 (by kernel_rfl) (by rfl) (by simp [Value.oneCell']) ?_
          intro wy hby hky hsy
          go_wp2_with fail
          refine ret_blk_tmp rfl rfl hby Tryd.underlying53 rfl (by kernel_rfl) rfl ?_
          have hoy := FlO.same hoS fun g hg => hky.block g (World.ownsRow.lt hoS g hg).2 fun e => by
            have h1 := (World.ownsRow.lt hoS g hg).1
            have e2 : g = w.heap.size + 1 := e
            omega
          refine ⟨_, rfl, Sl.mono hoy.fl fun j hj ha => .inr ⟨by have := ha.1; omega, ha.2⟩, hkF.trans hky fun j hj e => absurd hj (by have e2 : j = w.heap.size + 1 := e; omega)⟩
        | false =>
          have hoR : o ++ [(a, k)] = R := hro
          have hole : o.length + 2 ≤ 1099511627776 := by omega
          go_wp2_with (at_builtin; refine wl_append rfl _ _ _ _ rfl _ _ rfl rfl ?_)
          refine rg_push (w := wz) (enc := encW) (x := (a, k)) (l := o) (base := W2.heap.size) _ 16 Tryd.underlying51 w18_info rfl (by decide) rfl rfl (encW_one _) ho (by omega) (by decide) (by have := (hk).size; omega) ?_
          intro v5 w5 ho5 hkp5 hx5
          have hk5 : Keep No W2 w5 := (hk).own ho hkp5
          obtain ⟨a5, c5, rfl, _, _⟩ := (FlO.fl ho5).shape
          obtain ⟨n5, hn5⟩ : ∃ n, n = (o ++ [(a, k)]).length := ⟨_, rfl⟩
          rw [← hn5] at ho5 ⊢
          replace hn5 := Lib.hid hn5
          clear hkp5 hx5
          rw [hoR] at ho5
          have q1 : w5.cell? ⟨w.heap.size, 1, none⟩ = some (.slice aw L.w.length cw) := (hB1.keep hk5 fun h => h).cell 1
          have hf1 := (hB1.keep hk5 fun h => h).frozen 1
          have hBs := (hB1.keep hk5 fun h => h).set (i := 1) (.slice a5 n5 c5)
          have hkS := (Keep.refl (fun j => j = w.heap.size) w5).setCell (p := ⟨w.heap.size, 1, none⟩) (fun _ => rfl) (.slice a5 n5 c5)
          have hb2 := (hBW2.keep hk5 fun h => h).keep hkS fun e => by have e2 : w.heap.size + 1 = w.heap.size := e; omega
          have hoS : FlO (w5.setCell ⟨w.heap.size, 1, none⟩ (.slice a5 n5 c5)) W2.heap.size 104 2 encW (.slice a5 n5 c5) R := FlO.same ho5 fun g hg => hkS.block g (World.ownsRow.lt ho5 g hg).2 fun e => by
            have h1 := (World.ownsRow.lt ho5 g hg).1
            have e2 : g = w.heap.size := e
            omega
          have hkF : Keep No w (w5.setCell ⟨w.heap.size, 1, none⟩ (.slice a5 n5 c5)) := (hkW.trans' hk5).trans hkS fun j hj e => absurd hj (by have e2 : j = w.heap.size := e; omega)
          clear hkS
          go_wp2_with (first | (with_reducible refine wl_ld rfl _ 53 rfl _ rfl ?_) | (with_reducible refine wl_stAgg rfl _ _ _ rfl _ _ rfl rfl ?_))
          refine rg_ld hBs Tryd.underlying53 rfl (by kernel_rfl) ?_
          go_wp2_with (with_reducible refine wl_stAgg rfl _ _ _ rfl _ _ rfl rfl ?_)
          refine rg_stAgg hb2 (by kernel_rfl) (by rfl) (by simp [Value.oneCell']) ?_
          intro wy hby hky hsy
          go_wp2_with fail
          refine ret_blk_tmp rfl rfl hby Tryd.underlying53 rfl (by kernel_rfl) rfl ?_
          have hoy := FlO.same hoS fun g hg => hky.block g (World.ownsRow.lt hoS g hg).2 fun e => by
            have h1 := (World.ownsRow.lt hoS g hg).1
            have e2 : g = w.heap.size + 1 := e
            omega
          refine ⟨_, rfl, Sl.mono hoy.fl fun j hj ha => .inr ⟨by have := ha.1; omega, ha.2⟩, hkF.trans hky fun j hj e => absurd hj (by have e2 : j = w.heap.size + 1 := e; omega)⟩
  · have hM : markM L a t = L := by unfold markM; rw [if_neg hE]
    have hE1 : markE L a t = 1 := by
      unfold markE at hE ⊢
      split at hE
      · exact absurd rfl hE
      · rw [if_neg (by assumption)]
    have h3 : a % 8 ≠ 0 ∨ (a % 8 = 0 ∧ t < 0) ∨ (a % 8 = 0 ∧ 0 ≤ t ∧ t > (L.m.length : Int)) := by
      unfold markE at hE
      by_cases h3 : a % 8 = 0 ∧ 0 ≤ t ∧ t ≤ (L.m.length : Int)
      · rw [if_pos h3] at hE; exact absurd rfl hE
      · omega
    rw [hM, hE1]
    clear hE hM hE1 hs
    generalize L.m.length = n at *
    rcases h3 with h3 | ⟨h3, h4⟩ | ⟨h3, h4, h5⟩
    · generalize a % 8 = r at *
      have hr : ((r : Int) != 0) = true := by simpa using h3
      clear h3
      go_enter Tryd.func37, Tryd.ntmps37
      go_wp2_with (first | (with_reducible refine wl_ld rfl _ 53 rfl _ rfl ?_) | (with_reducible refine wl_stAgg rfl _ _ _ rfl _ _ rfl rfl ?_))
      have hkW1 : Keep No w (w.alloc (.cells #[.slice am n cm, .slice aw L.w.length cw] 53)) := (Keep.refl _ _).alloc _
      have hBW1 : Blk (w.alloc (.cells #[.slice am n cm, .slice aw L.w.length cw] 53)) w.heap.size #[.slice am n cm, .slice aw L.w.length cw] 53 := Blk.new _ _ _
      have hzW1 : (w.alloc (.cells #[.slice am n cm, .slice aw L.w.length cw] 53)).heap.size = w.heap.size + 1 := World.size_alloc _ _
      generalize w.alloc (.cells #[.slice am n cm, .slice aw L.w.length cw] 53) = W1 at *
      have hkW2 : Keep No W1 (W1.alloc (.cells #[.slice none 0 0, .slice none 0 0] 53)) := (Keep.refl _ _).alloc _
      have hBW2 : Blk (W1.alloc (.cells #[.slice none 0 0, .slice none 0 0] 53)) W1.heap.size #[.slice none 0 0, .slice none 0 0] 53 := Blk.new _ _ _
      have hzW2 : (W1.alloc (.cells #[.slice none 0 0, .slice none 0 0] 53)).heap.size = W1.heap.size + 1 := World.size_alloc _ _
      generalize W1.alloc (.cells #[.slice none 0 0, .slice none 0 0] 53) = W2 at *
      rw [hzW1] at hBW2
      have hB1 := hBW1.keep hkW2 fun h => h
      have hkW := hkW1.trans' hkW2
      refine rg_ld hB1 Tryd.underlying53 rfl (by kernel_rfl) ?_
      go_wp2_with (with_reducible refine wl_stAgg rfl _ _ _ rfl _ _ rfl rfl ?_)
      refine rg_stAgg hBW2 (by kernel_rfl) (by rfl) (by simp [Value.oneCell']) ?_
      intro wy hby hky hsy
      go_wp2_with fail
      refine ret_blk_tmp rfl rfl hby Tryd.underlying53 rfl (by kernel_rfl) rfl ?_
      have hkF : Keep No w wy := hkW.trans hky fun j hj e => absurd hj (by have e2 : j = w.heap.size + 1 := e; omega)
      refine ⟨_, rfl, Sl.mono (HW.out.no hkF) fun j hj ha => .inl ha, hkF⟩
    · rw [h3] at hmod
      go_enter Tryd.func37, Tryd.ntmps37
      go_wp2_with (first | (with_reducible refine wl_ld rfl _ 53 rfl _ rfl ?_) | (with_reducible refine wl_stAgg rfl _ _ _ rfl _ _ rfl rfl ?_))
      have hkW1 : Keep No w (w.alloc (.cells #[.slice am n cm, .slice aw L.w.length cw] 53)) := (Keep.refl _ _).alloc _
      have hBW1 : Blk (w.alloc (.cells #[.slice am n cm, .slice aw L.w.length cw] 53)) w.heap.size #[.slice am n cm, .slice aw L.w.length cw] 53 := Blk.new _ _ _
      have hzW1 : (w.alloc (.cells #[.slice am n cm, .slice aw L.w.length cw] 53)).heap.size = w.heap.size + 1 := World.size_alloc _ _
      generalize w.alloc (.cells #[.slice am n cm, .slice aw L.w.length cw] 53) = W1 at *
      have hkW2 : Keep No W1 (W1.alloc (.cells #[.slice none 0 0, .slice none 0 0] 53)) := (Keep.refl _ _).alloc _
      have hBW2 : Blk (W1.alloc (.cells #[.slice none 0 0, .slice none 0 0] 53)) W1.heap.size #[.slice none 0 0, .slice none 0 0] 53 := Blk.new _ _ _
      have hzW2 : (W1.alloc (.cells #[.slice none 0 0, .slice none 0 0] 53)).heap.size = W1.heap.size + 1 := World.size_alloc _ _
      generalize W1.alloc (.cells #[.slice none 0 0, .slice none 0 0] 53) = W2 at *
      rw [hzW1] at hBW2
      have hB1 := hBW1.keep hkW2 fun h => h
      have hkW := hkW1.trans' hkW2
      refine rg_ld hB1 Tryd.underlying53 rfl (by kernel_rfl) ?_
      go_wp2_with (with_reducible refine wl_stAgg rfl _ _ _ rfl _ _ rfl rfl ?_)
      refine rg_stAgg hBW2 (by kernel_rfl) (by rfl) (by simp [Value.oneCell']) ?_
      intro wy hby hky hsy
      go_wp2_with fail
      refine ret_blk_tmp rfl rfl hby Tryd.underlying53 rfl (by kernel_rfl) rfl ?_
      have hkF : Keep No w wy := hkW.trans hky fun j hj e => absurd hj (by have e2 : j = w.heap.size + 1 := e; omega)
      refine ⟨_, rfl, Sl.mono (HW.out.no hkF) fun j hj ha => .inl ha, hkF⟩
    · rw [h3] at hmod
      go_enter Tryd.func37, Tryd.ntmps37
      go_wp2_with (first | (with_reducible refine wl_ld rfl _ 53 rfl _ rfl ?_) | (with_reducible refine wl_stAgg rfl _ _ _ rfl _ _ rfl rfl ?_))
      have hkW1 : Keep No w (w.alloc (.cells #[.slice am n cm, .slice aw L.w.length cw] 53)) := (Keep.refl _ _).alloc _
      have hBW1 : Blk (w.alloc (.cells #[.slice am n cm, .slice aw L.w.length cw] 53)) w.heap.size #[.slice am n cm, .slice aw L.w.length cw] 53 := Blk.new _ _ _
      have hzW1 : (w.alloc (.cells #[.slice am n cm, .slice aw L.w.length cw] 53)).heap.size = w.heap.size + 1 := World.size_alloc _ _
      generalize w.alloc (.cells #[.slice am n cm, .slice aw L.w.length cw] 53) = W1 at *
      have hkW2 : Keep No W1 (W1.alloc (.cells #[.slice none 0 0, .slice none 0 0] 53)) := (Keep.refl _ _).alloc _
      have hBW2 : Blk (W1.alloc (.cells #[.slice none 0 0, .slice none 0 0] 53)) W1.heap.size #[.slice none 0 0, .slice none 0 0] 53 := Blk.new _ _ _
      have hzW2 : (W1.alloc (.cells #[.slice none 0 0, .slice none 0 0] 53)).heap.size = W1.heap.size + 1 := World.size_alloc _ _
      generalize W1.alloc (.cells #[.slice none 0 0, .slice none 0 0] 53) = W2 at *
      rw [hzW1] at hBW2
      have hB1 := hBW1.keep hkW2 fun h => h
      have hkW := hkW1.trans' hkW2
      refine rg_ld hB1 Tryd.underlying53 rfl (by kernel_rfl) ?_
      go_wp2_with (with_reducible refine wl_stAgg rfl _ _ _ rfl _ _ rfl rfl ?_)
      refine rg_stAgg hBW2 (by kernel_rfl) (by rfl) (by simp [Value.oneCell']) ?_
      intro wy hby hky hsy
      go_wp2_with fail
      refine ret_blk_tmp rfl rfl hby Tryd.underlying53 rfl (by kernel_rfl) rfl ?_
      have hkF : Keep No w wy := hkW.trans hky fun j hj e => absurd hj (by have e2 : j = w.heap.size + 1 := e; omega)
      refine ⟨_, rfl, Sl.mono (HW.out.no hkF) fun j hj ha => .inl ha, hkF⟩
end
end Go.Proofs.YthfekjnekaecaaaDoor
