/- segs: IndexFunc and ContainsFunc of segments, Find, single, kind, one, pages. segs: pages, one, within. A store into a known block, at any place. layout: Of, Block; Meet; the document's Of and Block. Loads of a whole block, and of a part of it; a struct that is built. A region that draws its order, walked in orders that are given as a tree: where two operations that turn memory may both come next, both ways are shown. No condition. -/
import Derived.Test.YtbnahidopemkiaaEnt
import Derived.Test.YtbnahidopemkiaaOct
import Derived.Laws.CopyRow
import Derived.Test.YtbnahidopemkiaaLyM
import Derived.Laws.StructEq
import Derived.Laws.Tables
set_option linter.unusedVariables false
set_option linter.unusedSimpArgs false
namespace Go.Proofs.Ytbnahidopemkiaa
open Go.RowKit Go.Dm Go.Dm.Oc Go.Dm.Ld
def encSg (s : Sg) : List Value := [.int .u32 (s.ty : Int), .int .u32 (s.fl : Int), .int .u64 (s.off : Int), .int .u64 (s.va : Int), .int .u64 (s.fi : Int), .int .u64 (s.me : Int), .int .u64 (s.al : Int)]
theorem encSg_len (s : Sg) : (encSg s).length = 7 := rfl
theorem encSg_one (s : Sg) : ∀ u ∈ encSg s, u.oneCell' = true := by
  intro u hu
  simp only [encSg, List.mem_cons, List.not_mem_nil, or_false] at hu
  rcases hu with rfl | rfl | rfl | rfl | rfl | rfl | rfl <;> rfl
theorem segT_info : (Try.prog.info? 104).map (fun i => (i.zero, i.size, i.bytes)) = some (some (.agg #[.int .u32 0, .int .u32 0, .int .u64 0, .int .u64 0, .int .u64 0, .int .u64 0, .int .u64 0]), 7, 48) := by kernel_rfl
/-- where the first one stands of which p says yes; -1: nowhere -/
def posM {α : Type} (p : α → Bool) (l : List α) : Int := if l.any p then (l.findIdx p : Int) else -1
theorem posM_some {α : Type} {p : α → Bool} {l : List α} {i : Nat} (hi : i < l.length) (h : p l[i] = true) (hno : ∀ j, (hj : j < i) → p (l[j]'(by omega)) = false) : posM p l = (i : Int) := by
  have e : l.findIdx p = i := (List.findIdx_eq hi).2 ⟨h, fun j hj => hno j hj⟩
  have ha : l.any p = true := List.any_eq_true.2 ⟨l[i], List.getElem_mem hi, h⟩
  unfold posM
  rw [if_pos ha, e]
theorem posM_none {α : Type} {p : α → Bool} {l : List α} (hno : ∀ j, (hj : j < l.length) → p l[j] = false) : posM p l = -1 := by
  unfold posM
  rw [if_neg]
  intro h
  obtain ⟨x, hx, h⟩ := List.any_eq_true.1 h
  obtain ⟨j, hj, rfl⟩ := List.getElem_of_mem hx
  rw [hno j hj] at h
  cases h
theorem posM_find {α : Type} (p : α → Bool) (l : List α) : (l.find? p = none ∧ posM p l = -1) ∨ ∃ i, ∃ h : i < l.length, l.find? p = some l[i] ∧ posM p l = (i : Int) := by
  unfold posM
  cases ha : l.any p with
  | false =>
    left
    refine ⟨List.find?_eq_none.2 fun x hx h => ?_, by rw [if_neg (by decide)]⟩
    rw [List.any_eq_true.2 ⟨x, hx, h⟩] at ha
    cases ha
  | true =>
    right
    obtain ⟨x, hx, h⟩ := List.any_eq_true.1 ha
    have hlt : l.findIdx p < l.length := List.findIdx_lt_length_of_exists ⟨x, hx, h⟩
    refine ⟨l.findIdx p, hlt, ?_, by rw [if_pos rfl]⟩
    rw [List.find?_eq_some_iff_getElem]
    refine ⟨List.findIdx_getElem, l.findIdx p, hlt, rfl, fun j hj => ?_⟩
    have := List.not_of_lt_findIdx hj
    simpa using this
section
variable {A : Nat → Prop} {w : World}
set_option maxRecDepth 100000 in
set_option maxHeartbeats 4000000 in
theorem idxSg_any {v : Value} (l : List Sg) (g : Nat) (caps : Array Value) (p : Sg → Bool) (hl : Fl A w 7 encSg v l) (hent : ∀ a, Enters g (#[a] ++ caps))
    (hcall : ∀ s ∈ l, ∀ wr, Keep No w wr → Calls Try.prog g (#[.agg (encSg s).toArray] ++ caps) wr fun e w' => e = .returned (.bool (p s)) ∧ Keep No wr w') :
    Calls Try.prog 60 #[v, .func (.func g) #[] caps] w fun e w' => e = .returned (.int .i64 (posM p l)) ∧ Keep No w w' := by
  unfold Enters at hent
  have HL := Lib.hid hl
  have HC := Lib.hid hcall
  obtain ⟨ao, co, rfl, hc1, hc2⟩ := hl.shape
  have hlen : l.length ≤ 9223372036854775807 := by unfold maxLen at hc2; omega
  clear hl hcall hc1 hc2
  go_enter Try.func60, Try.ntmps60
  go_wp2_with fail
  go_loopw [5, 8] (fun _ iv wr => ∃ i : Nat, iv = .int .i64 i ∧ i ≤ l.length ∧ (∀ j, j < i → ∀ x, l[j]? = some x → p x = false) ∧ Keep No w wr) (fun _ iv _ => l.length - (intOf iv).toNat)
  case atStart => exact ⟨0, rfl, Nat.zero_le _, (fun j hj => absurd hj (Nat.not_lt_zero _)), Keep.refl _ _⟩
  case round =>
    obtain ⟨i, rfl, hi, hno, hk⟩ := hrel
    generalize wr = wz at *
    rcases Nat.lt_or_ge i l.length with hlt | hge
    · obtain ⟨g1, off, cap, ev, _, _, _, _, hc⟩ := (HL.out.no hk).at encSg_len hlt
      cases ev
      have hiz : (i : Int) < (l.length : Int) := by omega
      have hcall := HC.out l[i] (List.getElem_mem hlt) wz hk
      have hfin : p l[i] = true → posM p l = (i : Int) := fun h => posM_some hlt h fun j hj => hno j hj _ (List.getElem?_eq_getElem _)
      have hno2 : p l[i] = false → ∀ j, j < i + 1 → ∀ x, l[j]? = some x → p x = false := fun h j hji x hx => by
        rcases Nat.lt_or_ge j i with h2 | h2
        · exact hno j h2 x hx
        · obtain rfl : j = i := by omega
          rw [List.getElem?_eq_getElem hlt] at hx
          cases hx
          exact h
      have HF := Lib.hid hfin
      have HN := Lib.hid hno2
      clear hno hfin hno2
      have c0 := hc 0 _ rfl
      have c1 := hc 1 _ rfl
      have c2 := hc 2 _ rfl
      have c3 := hc 3 _ rfl
      have c4 := hc 4 _ rfl
      have c5 := hc 5 _ rfl
      have c6 := hc 6 _ rfl
      clear hc
      generalize hb : p l[i] = b at *
      unfold encSg at hcall
      generalize l[i].ty = x0 at *
      generalize l[i].fl = x1 at *
      generalize l[i].off = x2 at *
      generalize l[i].va = x3 at *
      generalize l[i].fi = x4 at *
      generalize l[i].me = x5 at *
      generalize l[i].al = x6 at *
      clear hb
      rw [Nat.add_zero] at c0
      go_wp2_with fail
      refine hcall.mono ?_
      rintro e w2 ⟨rfl, hk2⟩
      have hk2' := hk.trans' hk2
      clear hcall c0 c1 c2 c3 c4 c5 c6
      cases b with
      | true =>
        go_wp2_with fail
        go_ret
        rw [HF.out trivial]
        exact ⟨rfl, hk2'⟩
      | false =>
        go_wp2_with fail
        go_roundw
        case rel => exact ⟨i + 1, by go_num, hlt, HN.out trivial, hk2'⟩
        case measure => simp [intOf]; omega
    · obtain rfl : i = l.length := Nat.le_antisymm hi hge
      have hof := posM_none (p := p) (l := l) fun j hj => hno j hj _ (List.getElem?_eq_getElem hj)
      go_wp2_with fail
      go_ret
      rw [hof]
      exact ⟨rfl, hk⟩
set_option maxHeartbeats 1000000 in
theorem hasSg_any {v : Value} (l : List Sg) (g : Nat) (caps : Array Value) (p : Sg → Bool) (hl : Fl A w 7 encSg v l) (hent : ∀ a, Enters g (#[a] ++ caps))
    (hcall : ∀ s ∈ l, ∀ wr, Keep No w wr → Calls Try.prog g (#[.agg (encSg s).toArray] ++ caps) wr fun e w' => e = .returned (.bool (p s)) ∧ Keep No wr w') :
    Calls Try.prog 106 #[v, .func (.func g) #[] caps] w fun e w' => e = .returned (.bool (l.any p)) ∧ Keep No w w' := by
  have hc := idxSg_any l g caps p hl hent hcall
  have hb : decide (0 ≤ posM p l) = l.any p := by
    unfold posM
    cases l.any p with
    | false => rfl
    | true => simp
  clear hcall hent hl
  generalize posM p l = r at *
  generalize l.any p = b at *
  go_enter Try.func106, Try.ntmps106
  go_wp2_with fail
  refine hc.mono ?_
  rintro e w2 ⟨rfl, hk2⟩
  go_wp2_with fail
  go_ret
  exact ⟨by rw [← hb]; rfl, hk2⟩
set_option maxHeartbeats 1000000 in
theorem sgfind1_any (s : Sg) (k q : Nat) (hq : w.cell? ⟨q, 0, none⟩ = some (.int .u32 (k : Int))) (hql : q < w.heap.size) :
    Calls Try.prog 61 #[.agg (encSg s).toArray, .pointer (some ⟨q, 0, none⟩)] w fun e w' => e = .returned (.bool (s.ty == k)) ∧ Keep No w w' := by
  have hne : q ≠ w.heap.size := Nat.ne_of_lt hql
  have hb : ((s.ty : Int) == (k : Int)) = (s.ty == k) := by
    rw [Bool.eq_iff_iff, beq_iff_eq, beq_iff_eq]
    omega
  unfold encSg
  generalize (s.ty == k) = b at *
  go_enter Try.func61, Try.ntmps61
  go_wp2_with fail
  go_ret
  exact ⟨by rw [← hb]; rfl, (Keep.refl _ _).alloc _⟩
/-- the segment that is told -/
def sgD (o : Option Sg) : Sg := o.getD sg0
theorem sgbuilt0 : Try.prog.built 104 [] = some (encSg sg0).toArray := by kernel_rfl
theorem segfits (cells : List Value) (h : cells.length = 7) : (Try.prog.info? 104).map (·.size) = some cells.toArray.size := by
  have := segT_info
  rw [List.size_toArray, h]
  cases hi : Try.prog.info? 104 with
  | none => rw [hi] at this; cases this
  | some i => rw [hi] at this; simp at this; simp [this.2.1]
set_option maxRecDepth 100000 in
set_option maxHeartbeats 4000000 in
theorem sgfind_any {v : Value} (l : List Sg) (k : Nat) (hl : Fl A w 7 encSg v l) :
    Calls Try.prog 42 #[v, .int .u32 (k : Int)] w fun e w' => e = .returned (.tuple #[.agg (encSg (sgD (findM l k))).toArray, .bool (findM l k).isSome]) ∧ Keep No w w' := by
  have HL := Lib.hid hl
  obtain ⟨ao, co, rfl, hc1, hc2⟩ := hl.shape
  clear hl
  go_enter Try.func42, Try.ntmps42
  go_wp2_with fail
  have hkW : Keep No w (w.alloc (.cells #[.int .u32 (k : Int)] 85)) := (Keep.refl _ _).alloc _
  have hBW : Blk (w.alloc (.cells #[.int .u32 (k : Int)] 85)) w.heap.size #[.int .u32 (k : Int)] 85 := Blk.new _ _ _
  have hzW : (w.alloc (.cells #[.int .u32 (k : Int)] 85)).heap.size = w.heap.size + 1 := World.size_alloc _ _
  generalize w.alloc (.cells #[.int .u32 (k : Int)] 85) = W at *
  have hkV : Keep No W (W.alloc (.cells #[.int .u32 0, .int .u32 0, .int .u64 0, .int .u64 0, .int .u64 0, .int .u64 0, .int .u64 0] 104)) := (Keep.refl _ _).alloc _
  have hBV : Blk (W.alloc (.cells #[.int .u32 0, .int .u32 0, .int .u64 0, .int .u64 0, .int .u64 0, .int .u64 0, .int .u64 0] 104)) W.heap.size #[.int .u32 0, .int .u32 0, .int .u64 0, .int .u64 0, .int .u64 0, .int .u64 0, .int .u64 0] 104 := Blk.new _ _ _
  have hzV : (W.alloc (.cells #[.int .u32 0, .int .u32 0, .int .u64 0, .int .u64 0, .int .u64 0, .int .u64 0, .int .u64 0] 104)).heap.size = W.heap.size + 1 := World.size_alloc _ _
  generalize W.alloc (.cells #[.int .u32 0, .int .u32 0, .int .u64 0, .int .u64 0, .int .u64 0, .int .u64 0, .int .u64 0] 104) = V at *
  have hqW := (hBW.keep hkV fun h => h).cell 0
  have hqlV := (hBW.keep hkV fun h => h).lt
  have hcall := idxSg_any (w := V) l 61 #[.pointer (some ⟨w.heap.size, 0, none⟩)] (fun s => s.ty == k) ((HL.out.no hkW).no hkV) (fun a w => by kernel_rfl) (fun s _ wr hk => by
    refine sgfind1_any s k w.heap.size ((hk.cell (p := ⟨w.heap.size, 0, none⟩) hqlV fun h => h).trans hqW) (Nat.lt_of_lt_of_le hqlV hk.size))
  refine hcall.mono ?_
  clear hcall
  rintro e w2 ⟨rfl, hk2⟩
  have hB2 := hBV.keep hk2 fun h => h
  have hkF : Keep No w w2 := (hkW.trans' hkV).trans' hk2
  rw [hzW] at hB2
  clear hqW hqlV hBW hBV hkV
  rcases posM_find (fun s : Sg => s.ty == k) l with ⟨h1, h2⟩ | ⟨i, hi, h1, h2⟩
  · have HF : Hid (findM l k = none) := Lib.hid h1
    rw [h2]
    clear HL h1 h2
    go_wp2_with (with_reducible refine wl_stAgg rfl _ _ _ rfl _ _ rfl rfl ?_)
    rw [show (Value.agg #[.int .u32 0, .int .u32 0, .int .u64 0, .int .u64 0, .int .u64 0, .int .u64 0, .int .u64 0]) = .agg (encSg sg0).toArray from rfl]
    refine rg_stAgg hB2 (by kernel_rfl) (by rfl) (by simp [Value.oneCell']) ?_
    intro w3 hB3 hk3 _
    go_wp2_with fail
    refine ret_blk_tmp rfl rfl hB3 Try.underlying104 rfl (by kernel_rfl) rfl ?_
    exact ⟨by rw [HF.out]; rfl, hkF.trans hk3 fun j hj e => by omega⟩
  · have HF : Hid (findM l k = some l[i]) := Lib.hid h1
    rw [h2]
    clear h1 h2
    obtain ⟨g1, off, cap, ev, _, _, _, _, hc⟩ := ((HL.out.no hkF)).at encSg_len hi
    cases ev
    have hlt : (i : Int) < (l.length : Int) := by omega
    have c0 := hc 0 _ rfl
    have c1 := hc 1 _ rfl
    have c2 := hc 2 _ rfl
    have c3 := hc 3 _ rfl
    have c4 := hc 4 _ rfl
    have c5 := hc 5 _ rfl
    have c6 := hc 6 _ rfl
    rw [Nat.add_zero] at c0
    clear hc HL
    generalize l[i] = s at *
    obtain ⟨x0, x1, x2, x3, x4, x5, x6⟩ := s
    dsimp only at c0 c1 c2 c3 c4 c5 c6
    go_wp2_with (with_reducible refine wl_stAgg rfl _ _ _ rfl _ _ rfl rfl ?_)
    refine rg_stAgg hB2 (by kernel_rfl) (by rfl) (by simp [Value.oneCell']) ?_
    intro w3 hB3 hk3 _
    go_wp2_with fail
    refine ret_blk_tmp rfl rfl hB3 Try.underlying104 rfl (by kernel_rfl) rfl ?_
    exact ⟨by rw [HF.out]; rfl, hkF.trans hk3 fun j hj e => by omega⟩
set_option maxHeartbeats 1000000 in
theorem sgsingle_any (s : Sg) (hs : SgOk s) :
    Calls Try.prog 99 #[.agg (encSg s).toArray] w fun e w' => e = .returned (.bool (singleB s)) ∧ Keep No w w' := by
  have hb : (decide (s.ty = 2) || decide (s.ty = 7)) = singleB s := by
    unfold singleB
    rw [Bool.decide_or]
  rw [← hb]
  unfold encSg
  generalize s.ty = x0 at *
  clear hb hs
  go_enter Try.func99, Try.ntmps99
  go_wp2_with fail
  all_goals
    go_ret
    refine ⟨congrArg (fun b => Ending.returned (Value.bool b)) ?_, (Keep.refl _ _).alloc _⟩
    rw [Bool.eq_iff_iff]
    simp only [Bool.or_eq_true, decide_eq_true_eq, Bool.false_eq_true, false_iff, true_iff, beq_iff_eq]
    omega
set_option maxRecDepth 100000 in
set_option maxHeartbeats 1000000 in
theorem idxU32_any {v : Value} (l : List Nat) (x : Nat) (hl : Fl A w 1 (fun n : Nat => [.int .u32 (n : Int)]) v l) :
    Calls Try.prog 118 #[v, .int .u32 (x : Int)] w fun e w' => e = .returned (.int .i64 (posM (fun n => n == x) l)) ∧ Keep No w w' := by
  have HL := Lib.hid hl
  obtain ⟨ao, co, rfl, hc1, hc2⟩ := hl.shape
  have hlen : l.length ≤ 9223372036854775807 := by unfold maxLen at hc2; omega
  clear hl hc1 hc2
  go_enter Try.func118, Try.ntmps118
  go_wp2_with fail
  go_loopw [5, 8] (fun _ iv wr => ∃ i : Nat, iv = .int .i64 i ∧ i ≤ l.length ∧ (∀ j, j < i → ∀ y, l[j]? = some y → (y == x) = false) ∧ Keep No w wr) (fun _ iv _ => l.length - (intOf iv).toNat)
  case atStart => exact ⟨0, rfl, Nat.zero_le _, (fun j hj => absurd hj (Nat.not_lt_zero _)), Keep.refl _ _⟩
  case round =>
    obtain ⟨i, rfl, hi, hno, hk⟩ := hrel
    generalize wr = wz at *
    rcases Nat.lt_or_ge i l.length with hlt | hge
    · obtain ⟨g1, off, cap, ev, _, _, _, _, hc⟩ := (HL.out.no hk).at (fun _ => rfl) hlt
      cases ev
      have hiz : (i : Int) < (l.length : Int) := by omega
      have hfin : (l[i] == x) = true → posM (fun n => n == x) l = (i : Int) := fun h => posM_some hlt h fun j hj => hno j hj _ (List.getElem?_eq_getElem _)
      have hno2 : (l[i] == x) = false → ∀ j, j < i + 1 → ∀ y, l[j]? = some y → (y == x) = false := fun h j hji y hy => by
        rcases Nat.lt_or_ge j i with h2 | h2
        · exact hno j h2 y hy
        · obtain rfl : j = i := by omega
          rw [List.getElem?_eq_getElem hlt] at hy
          cases hy
          exact h
      have HF := Lib.hid hfin
      have HN := Lib.hid hno2
      clear hno hfin hno2
      have c0 := hc 0 _ rfl
      rw [Nat.add_zero, Nat.mul_one] at c0
      clear hc
      generalize hy : l[i] = y at *
      rcases Nat.decEq y x with hne | rfl
      · have hni : ¬ ((y : Int) = (x : Int)) := by omega
        have hb : (y == x) = false := by rw [beq_eq_false_iff_ne]; exact hne
        have hbi : ((x : Int) == (y : Int)) = false := by rw [beq_eq_false_iff_ne]; omega
        have hbi2 : ((y : Int) == (x : Int)) = false := by rw [beq_eq_false_iff_ne]; omega
        go_wp2_with fail
        try go_quiet (fail)
        go_wp2_with fail
        go_roundw
        case rel => exact ⟨i + 1, by go_num, hlt, HN.out hb, by first | exact hk | exact hk.drewN _⟩
        case measure => simp [intOf]; omega
      · go_wp2_with fail
        try go_quiet (fail)
        go_wp2_with fail
        go_ret
        rw [HF.out (by simp)]
        exact ⟨rfl, by first | exact hk | exact hk.drewN _⟩
    · obtain rfl : i = l.length := Nat.le_antisymm hi hge
      have hof := posM_none (p := fun n => n == x) (l := l) fun j hj => hno j hj _ (List.getElem?_eq_getElem hj)
      go_wp2_with fail
      go_ret
      rw [hof]
      exact ⟨rfl, hk⟩
theorem u32_info : (Try.prog.info? 85).map (fun i => (i.zero, i.size, i.bytes)) = some (some (.int .u32 0), 1, 4) := by kernel_rfl
set_option maxHeartbeats 1000000 in
theorem hasU32_any {v : Value} (l : List Nat) (x : Nat) (hl : Fl A w 1 (fun n : Nat => [.int .u32 (n : Int)]) v l) :
    Calls Try.prog 116 #[v, .int .u32 (x : Int)] w fun e w' => e = .returned (.bool (l.contains x)) ∧ Keep No w w' := by
  have hc := idxU32_any l x hl
  have hb : decide (0 ≤ posM (fun n => n == x) l) = l.contains x := by
    unfold posM
    rw [List.contains_eq_any_beq]
    have e : l.any (fun n => n == x) = l.any fun n => x == n := by
      congr 1
      funext n
      exact Bool.beq_comm
    rw [← e]
    cases l.any (fun n => n == x) with
    | false => rfl
    | true => simp
  clear hl
  generalize posM (fun n => n == x) l = r at *
  generalize l.contains x = b at *
  go_enter Try.func116, Try.ntmps116
  go_wp2_with fail
  refine hc.mono ?_
  rintro e w2 ⟨rfl, hk2⟩
  go_wp2_with fail
  go_ret
  exact ⟨by rw [← hb]; rfl, hk2⟩
set_option maxRecDepth 100000 in
set_option maxHeartbeats 1000000 in
theorem sgkind_any (k : Nat) :
    Calls Try.prog 110 #[.int .u32 (k : Int)] w fun e w' => e = .returned (.bool (kindB k)) ∧ Keep No w w' := by
  go_enter Try.func110, Try.ntmps110
  go_wp2_with fail
  have hkW : Keep No w (w.alloc (.cells #[.int .u32 0, .int .u32 1, .int .u32 2, .int .u32 4, .int .u32 7] 85)) := (Keep.refl _ _).alloc _
  have hBW : Blk (w.alloc (.cells #[.int .u32 0, .int .u32 1, .int .u32 2, .int .u32 4, .int .u32 7] 85)) w.heap.size #[.int .u32 0, .int .u32 1, .int .u32 2, .int .u32 4, .int .u32 7] 85 := Blk.new _ _ _
  have hzW : (w.alloc (.cells #[.int .u32 0, .int .u32 1, .int .u32 2, .int .u32 4, .int .u32 7] 85)).heap.size = w.heap.size + 1 := World.size_alloc _ _
  generalize w.alloc (.cells #[.int .u32 0, .int .u32 1, .int .u32 2, .int .u32 4, .int .u32 7] 85) = W at *
  have hs : Fl (fun j => j = w.heap.size) W 1 (fun n : Nat => [.int .u32 (n : Int)]) (.slice (some ⟨w.heap.size, 0, none⟩) 5 5) [0, 1, 2, 4, 7] := by
    refine Sl.mk (by rfl) rfl hBW.lt (Nat.le_refl _) (by unfold maxLen; omega) fun j u hu => ?_
    rw [hBW.cell, Nat.zero_add, List.getElem?_toArray]
    exact hu
  have hc := hasU32_any _ k hs
  rw [show ([0, 1, 2, 4, 7] : List Nat).contains k = kindB k by
    unfold kindB
    rw [Bool.eq_iff_iff]
    simp] at hc
  refine hc.mono ?_
  rintro e w2 ⟨rfl, hk2⟩
  go_wp2_with fail
  go_ret
  exact ⟨rfl, hkW.trans' hk2⟩
end
end Go.Proofs.Ytbnahidopemkiaa
namespace Go.Proofs.Ytbnahidopemkiaa
open Go.RowKit Go.Dm Go.Dm.Oc Go.Dm.Ld
section
variable {A : Nat → Prop} {w : World}
set_option maxRecDepth 100000 in
set_option maxHeartbeats 1000000 in
theorem sgpages_any (s : Sg) (hs : SgOk s) (hm : s.va + s.me ≤ 18446744073709551360) :
    Calls Try.prog 59 #[.agg (encSg s).toArray] w fun e w' => e = .returned (.tuple #[.int .u64 (firstM s : Nat), .int .u64 (lastM s : Nat)]) ∧ Keep No w w' := by
  have h1 := fun w => odown_any s.va (by omega) w
  have h2 : ∀ w, Calls Try.prog 75 #[.int .u64 ((s.va : Int) + (s.me : Int)), .int .u64 256] w fun e w' => e = .returned (.tuple #[.int .u64 (((s.va + s.me + 255) / 256 * 256 : Nat) : Int), .int .i64 0]) ∧ w = w' := fun w => by
    have := oup_any (s.va + s.me) (by omega) w
    rwa [Int.natCast_add] at this
  have hsum : IntKind.u64.wrap ((s.va : Int) + (s.me : Int)) = ((s.va + s.me : Nat) : Int) := by
    rw [IntKind.wrap_u64]
    omega
  unfold firstM lastM
  unfold encSg
  generalize s.va / 256 * 256 = lo at *
  generalize (s.va + s.me + 255) / 256 * 256 = hi at *
  obtain ⟨x0, x1, x2, x3, x4, x5, x6⟩ := s
  dsimp only at *
  go_enter Try.func59, Try.ntmps59
  go_wp2_with fail
  refine (h1 _).mono ?_
  rintro e W ⟨rfl, rfl⟩
  go_wp2_with fail
  refine (h2 _).mono ?_
  rintro e W2 ⟨rfl, rfl⟩
  go_wp2_with fail
  go_ret2
  exact ⟨rfl, (Keep.refl _ _).alloc _⟩
set_option maxRecDepth 100000 in
set_option maxHeartbeats 1000000 in
theorem sgone_any (s : Sg) (size : Nat) (hs : SgOk s) (hz : size < 18446744073709551616) :
    Calls Try.prog 98 #[.agg (encSg s).toArray, .int .u64 (size : Int)] w fun e w' => e = .returned (.int .i64 (oneE s size : Nat)) ∧ Keep No w w' := by
  have h1 := fun w => sgkind_any (w := w) s.ty
  obtain ⟨x0, x1, x2, x3, x4, x5, x6⟩ := s
  obtain ⟨o0, o1, o2, o3, o4, o5, o6⟩ := hs
  unfold encSg
  dsimp only at *
  go_enter Try.func98, Try.ntmps98
  go_wp2_with fail
  have hkW : Keep No w (w.alloc (.cells #[.int .u32 (x0 : Int), .int .u32 (x1 : Int), .int .u64 (x2 : Int), .int .u64 (x3 : Int), .int .u64 (x4 : Int), .int .u64 (x5 : Int), .int .u64 (x6 : Int)] 104)) := (Keep.refl _ _).alloc _
  have hBW : Blk (w.alloc (.cells #[.int .u32 (x0 : Int), .int .u32 (x1 : Int), .int .u64 (x2 : Int), .int .u64 (x3 : Int), .int .u64 (x4 : Int), .int .u64 (x5 : Int), .int .u64 (x6 : Int)] 104)) w.heap.size #[.int .u32 (x0 : Int), .int .u32 (x1 : Int), .int .u64 (x2 : Int), .int .u64 (x3 : Int), .int .u64 (x4 : Int), .int .u64 (x5 : Int), .int .u64 (x6 : Int)] 104 := Blk.new _ _ _
  have hzW : (w.alloc (.cells #[.int .u32 (x0 : Int), .int .u32 (x1 : Int), .int .u64 (x2 : Int), .int .u64 (x3 : Int), .int .u64 (x4 : Int), .int .u64 (x5 : Int), .int .u64 (x6 : Int)] 104)).heap.size = w.heap.size + 1 := World.size_alloc _ _
  generalize w.alloc (.cells #[.int .u32 (x0 : Int), .int .u32 (x1 : Int), .int .u64 (x2 : Int), .int .u64 (x3 : Int), .int .u64 (x4 : Int), .int .u64 (x5 : Int), .int .u64 (x6 : Int)] 104) = W at *
  refine (h1 _).mono ?_
  rintro e w2 ⟨rfl, hk2⟩
  have hB2 := hBW.keep hk2 fun h => h
  have c0 := hB2.cell 0
  have c1 := hB2.cell 1
  have c2 := hB2.cell 2
  have c3 := hB2.cell 3
  have c4 := hB2.cell 4
  have c5 := hB2.cell 5
  clear hBW hB2 h1
  have hk := hkW.trans' hk2
  clear hkW hk2
  cases hkb : kindB x0 with
  | false =>
    clear c0 c1 c2 c3 c4 c5
    go_wp2_with fail
    go_ret
    refine ⟨?_, hk⟩
    unfold oneE
    rw [if_pos (.inl hkb)]
    rfl
  | true =>
    go_wp2_with fail
    all_goals
      go_ret
      refine ⟨?_, hk⟩
      clear c0 c1 c2 c3 c4 c5 hk hzW
      unfold oneE
      dsimp only
      repeat' split
      all_goals first
        | rfl
        | (exfalso
           simp only [hkb, beq_iff_eq, beq_eq_false_iff_ne, bne_iff_ne, bne_eq_false_iff_eq, decide_eq_true_eq, decide_eq_false_iff_not, ne_eq, not_or, not_and, Bool.and_eq_true, Bool.or_eq_true, Bool.and_eq_false_iff, Bool.or_eq_false_iff, Bool.true_eq_false, Bool.false_eq_true, not_true, not_false_eq_true, reduceCtorEq, false_or, or_false, true_and, and_true] at *
           omega)
set_option maxRecDepth 100000 in
set_option maxHeartbeats 2000000 in
theorem sgwithin1_any (x s : Sg) (q : Nat) (hx : SgOk x) (hs : SgOk s) (hq : ∀ j u, (encSg s)[j]? = some u → w.cell? ⟨q, j, none⟩ = some u) (hql : q < w.heap.size) :
    Calls Try.prog 111 #[.agg (encSg x).toArray, .pointer (some ⟨q, 0, none⟩)] w fun e w' => e = .returned (.bool (liesB x s)) ∧ Keep No w w' := by
  have hne : q ≠ w.heap.size := Nat.ne_of_lt hql
  have c2 := hq 2 _ rfl
  have c3 := hq 3 _ rfl
  have c4 := hq 4 _ rfl
  clear hq
  obtain ⟨x0, x1, x2, x3, x4, x5, x6⟩ := x
  obtain ⟨y0, y1, y2, y3, y4, y5, y6⟩ := s
  obtain ⟨o0, o1, o2, o3, o4, o5, o6⟩ := hx
  obtain ⟨p0, p1, p2, p3, p4, p5, p6⟩ := hs
  unfold encSg
  dsimp only at *
  have hw1 : IntKind.u64.wrap ((x3 : Int) - (x2 : Int)) = ((x3 : Int) - (x2 : Int)) % 18446744073709551616 := IntKind.wrap_u64 _
  have hw2 : IntKind.u64.wrap ((y3 : Int) - (y2 : Int)) = ((y3 : Int) - (y2 : Int)) % 18446744073709551616 := IntKind.wrap_u64 _
  go_enter Try.func111, Try.ntmps111
  go_wp2_with fail
  all_goals
    go_ret
    refine ⟨congrArg (fun b => Ending.returned (Value.bool b)) ?_, (Keep.refl _ _).alloc _⟩
    clear c2 c3 c4 hw1 hw2
    unfold liesB
    dsimp only
    rw [Bool.eq_iff_iff]
    simp only [Bool.and_eq_true, decide_eq_true_eq, beq_iff_eq, Bool.false_eq_true, false_iff, true_iff, not_and] at *
    omega
end
end Go.Proofs.Ytbnahidopemkiaa
namespace Go.Dm
open Go Go.RowKit
def StGoal (P : Program) (ty : TypeId) (g off : Nat) (v : Value) (w : World) (K : World → Prop) : Prop := RunGoal P (Instr.storeAt ty (.pointer (some ⟨g, off, none⟩)) v) w fun _ w' => K w'
/-- cells, with some turned from a place on -/
def putAt (old : Array Value) (off : Nat) (cs : List Value) : Array Value := (old.toList.take off ++ cs ++ old.toList.drop (off + cs.length)).toArray
section
variable {P : Program} {w : World}
theorem wl_st {ops : Array Oper} {rest : List Oper} {o : Oper} {a : Act} {Q : Exit → Act → World → Prop} (hgd : o.guard = none) (x y : Operand) (ty : TypeId) (ho : o.op = Op.store ty x y) (g off : Nat) (v : Value)
    (h1 : a.eval x = .pointer (some ⟨g, off, none⟩)) (h2 : a.eval y = v) (h : StGoal P ty g off v w fun w' => wpList P ops Q rest (a.put o.dst undef) w') : wpList P ops Q (o :: rest) a w := by
  obtain ⟨u, w', hr, hk⟩ := h
  refine wpList_plain hgd fun K hK => ?_
  unfold Oper.wp execOp
  simp only [ho, h1, h2, hr, Sem.run_bind, Sem.run_pure, Result.andThen_ok]
  exact hK _ _ hk
theorem wo_st {o : Oper} {a : Act} {Q : Exit → Act → World → Prop} {K : Act → World → Prop} (x y : Operand) (ty : TypeId) (ho : o.op = Op.store ty x y) (g off : Nat) (v : Value)
    (h1 : a.eval x = .pointer (some ⟨g, off, none⟩)) (h2 : a.eval y = v) (h : StGoal P ty g off v w fun w' => K (a.put o.dst undef) w') : o.wp P a w K Q := by
  obtain ⟨u, w', hr, hk⟩ := h
  unfold Oper.wp execOp
  simp only [ho, h1, h2, hr, Sem.run_bind, Sem.run_pure, Result.andThen_ok]
  exact hk
theorem rg_stN {g off : Nat} {old cells : Array Value} {t ty : TypeId} (hB : Blk w g old t) (hi : (P.info? ty).map (·.size) = some cells.size) (hfit : off + cells.size ≤ old.size) (h1 : cells.all (·.oneCell') = true) {K : World → Prop}
    (h : ∀ w', Blk w' g (putAt old off cells.toList) t → Keep (fun j => j = g) w w' → w'.heap.size = w.heap.size → K w') : StGoal P ty g off (.agg cells) w K := by
  have hst := run_storeCells_at P g off t cells.toList 0 old w hB (by simpa using hfit) (fun v hv => (Array.all_eq_true_iff_forall_mem.1 h1) v (by simpa using hv))
  simp only [Nat.add_zero] at hst
  refine .mk (v := ()) (w' := w.setRow g (putAt old off cells.toList)) ?_ (h _ (setRow_heap w g old _ t _ hB) ⟨rfl, rfl, rfl, by simp, fun k _ hk => setRow_other w g k _ hk⟩ (by simp))
  cases hq : P.info? ty with
  | none => simp [hq] at hi
  | some i =>
    have hs : cells.size = i.size := by simp [hq] at hi; omega
    simp only [Instr.storeAt, Instr.sureAddr, Sem.run_bind, Sem.run_pure, Result.andThen_ok]
    simp [storeVar, sizeOf, typeInfo, hq, Value.cells, hs, hst, putAt]
theorem rg_st1 {g off : Nat} {old : Array Value} {v : Value} {t ty : TypeId} (hB : Blk w g old t) (hi : (P.info? ty).map (·.size) = some 1) (hfit : off < old.size) (h1 : v.oneCell' = true) (hc : v.cells = #[v]) {K : World → Prop}
    (h : ∀ w', Blk w' g (putAt old off [v]) t → Keep (fun j => j = g) w w' → w'.heap.size = w.heap.size → K w') : StGoal P ty g off v w K := by
  have hst := run_storeCells_at P g off t [v] 0 old w hB hfit (fun u hu => by rw [List.mem_singleton.1 hu]; exact h1)
  simp only [Nat.add_zero] at hst
  refine .mk (v := ()) (w' := w.setRow g (putAt old off [v])) ?_ (h _ (setRow_heap w g old _ t _ hB) ⟨rfl, rfl, rfl, by simp, fun k _ hk => setRow_other w g k _ hk⟩ (by simp))
  cases hq : P.info? ty with
  | none => simp [hq] at hi
  | some i =>
    have hs : 1 = i.size := by simp [hq] at hi; omega
    simp only [Instr.storeAt, Instr.sureAddr, Sem.run_bind, Sem.run_pure, Result.andThen_ok]
    simp [storeVar, sizeOf, typeInfo, hq, hc, ← hs, hst, putAt]
end
end Go.Dm
namespace Go.Proofs.Ytbnahidopemkiaa
open Go.RowKit Go.Dm Go.Dm.Oc Go.Dm.Ld
def encMd (m : Md) : List Value := [.string ⟨m.name.toArray⟩, .int .u64 (m.base : Int), .int .u64 (m.low : Int), .int .u64 (m.high : Int), .bool m.tls, .int .u64 (m.off : Int), .int .u64 (m.mem : Int)]
theorem encMd_len (m : Md) : (encMd m).length = 7 := rfl
theorem encMd_one (m : Md) : ∀ u ∈ encMd m, u.oneCell' = true := by
  intro u hu
  simp only [encMd, List.mem_cons, List.not_mem_nil, or_false] at hu
  rcases hu with rfl | rfl | rfl | rfl | rfl | rfl | rfl <;> rfl
theorem modT_info : (Try.prog.info? 62).map (fun i => (i.zero, i.size, i.bytes)) = some (some (.agg #[.string ⟨#[]⟩, .int .u64 0, .int .u64 0, .int .u64 0, .bool false, .int .u64 0, .int .u64 0]), 7, 64) := by kernel_rfl
theorem and_up8 (a : Nat) (ha : a < 18446744073709551616) : a &&& 18446744073709551608 = a / 8 * 8 := by
  have h1 : 18446744073709551608 = (2 ^ 61 - 1) <<< 3 := by decide
  have h2 : a / 8 * 8 = (a >>> 3) <<< 3 := by rw [Nat.shiftLeft_eq, Nat.shiftRight_eq_div_pow]
  rw [h1, h2]
  refine Nat.eq_of_testBit_eq fun i => ?_
  rw [Nat.testBit_and, Nat.testBit_shiftLeft, Nat.testBit_shiftLeft, Nat.testBit_two_pow_sub_one, Nat.testBit_shiftRight]
  by_cases hi : i ≥ 3
  · rw [show 3 + (i - 3) = i from by omega, decide_eq_true hi, Bool.true_and, Bool.true_and]
    rcases Nat.lt_or_ge (i - 3) 61 with h | h
    · rw [decide_eq_true h, Bool.and_true]
    · rw [decide_eq_false (by omega), Bool.and_false, Nat.testBit_lt_two_pow (Nat.lt_of_lt_of_le ha (by
        have : 2 ^ 64 ≤ 2 ^ i := Nat.pow_le_pow_right (by decide) (by omega)
        exact this))]
  · rw [decide_eq_false hi, Bool.false_and, Bool.false_and, Bool.and_false]
theorem andNot8 (m : Nat) (hm : m ≤ 1099511627776) : bits .andNot .u64 ((m : Int) + 7) 7 = ((up8 m : Nat) : Int) := by
  have h := u64_andNot_nat (m + 7) 7 (by omega) (by decide)
  rw [show ((m + 7 : Nat) : Int) = (m : Int) + 7 from by omega] at h
  rw [show ((7 : Nat) : Int) = 7 from rfl] at h
  rw [h, and_up8 _ (by omega)]
  rfl
section
variable {A : Nat → Prop} {w : World}
set_option maxRecDepth 100000 in
set_option maxHeartbeats 4000000 in
theorem idxMod_any {v : Value} (l : List Md) (g : Nat) (caps : Array Value) (p : Md → Bool) (hl : Fl A w 7 encMd v l) (hent : ∀ a, Enters g (#[a] ++ caps))
    (hcall : ∀ s ∈ l, ∀ wr, Keep No w wr → Calls Try.prog g (#[.agg (encMd s).toArray] ++ caps) wr fun e w' => e = .returned (.bool (p s)) ∧ Keep No wr w') :
    Calls Try.prog 43 #[v, .func (.func g) #[] caps] w fun e w' => e = .returned (.int .i64 (posM p l)) ∧ Keep No w w' := by
  unfold Enters at hent
  have HL := Lib.hid hl
  have HC := Lib.hid hcall
  obtain ⟨ao, co, rfl, hc1, hc2⟩ := hl.shape
  have hlen : l.length ≤ 9223372036854775807 := by unfold maxLen at hc2; omega
  clear hl hcall hc1 hc2
  go_enter Try.func43, Try.ntmps43
  go_wp2_with fail
  go_loopw [5, 8] (fun _ iv wr => ∃ i : Nat, iv = .int .i64 i ∧ i ≤ l.length ∧ (∀ j, j < i → ∀ x, l[j]? = some x → p x = false) ∧ Keep No w wr) (fun _ iv _ => l.length - (intOf iv).toNat)
  case atStart => exact ⟨0, rfl, Nat.zero_le _, (fun j hj => absurd hj (Nat.not_lt_zero _)), Keep.refl _ _⟩
  case round =>
    obtain ⟨i, rfl, hi, hno, hk⟩ := hrel
    generalize wr = wz at *
    rcases Nat.lt_or_ge i l.length with hlt | hge
    · obtain ⟨g1, off, cap, ev, _, _, _, _, hc⟩ := (HL.out.no hk).at encMd_len hlt
      cases ev
      have hiz : (i : Int) < (l.length : Int) := by omega
      have hcall := HC.out l[i] (List.getElem_mem hlt) wz hk
      have hfin : p l[i] = true → posM p l = (i : Int) := fun h => posM_some hlt h fun j hj => hno j hj _ (List.getElem?_eq_getElem _)
      have hno2 : p l[i] = false → ∀ j, j < i + 1 → ∀ x, l[j]? = some x → p x = false := fun h j hji x hx => by
        rcases Nat.lt_or_ge j i with h2 | h2
        · exact hno j h2 x hx
        · obtain rfl : j = i := by omega
          rw [List.getElem?_eq_getElem hlt] at hx
          cases hx
          exact h
      have HF := Lib.hid hfin
      have HN := Lib.hid hno2
      clear hno hfin hno2
      have c0 := hc 0 _ rfl
      have c1 := hc 1 _ rfl
      have c2 := hc 2 _ rfl
      have c3 := hc 3 _ rfl
      have c4 := hc 4 _ rfl
      have c5 := hc 5 _ rfl
      have c6 := hc 6 _ rfl
      clear hc
      generalize hb : p l[i] = b at *
      unfold encMd at hcall
      generalize l[i].name = x0 at *
      generalize l[i].base = x1 at *
      generalize l[i].low = x2 at *
      generalize l[i].high = x3 at *
      generalize l[i].tls = x4 at *
      generalize l[i].off = x5 at *
      generalize l[i].mem = x6 at *
      clear hb
      rw [Nat.add_zero] at c0
      go_wp2_with fail
      refine hcall.mono ?_
      rintro e w2 ⟨rfl, hk2⟩
      have hk2' := hk.trans' hk2
      clear hcall c0 c1 c2 c3 c4 c5 c6
      cases b with
      | true =>
        go_wp2_with fail
        go_ret
        rw [HF.out trivial]
        exact ⟨rfl, hk2'⟩
      | false =>
        go_wp2_with fail
        go_roundw
        case rel => exact ⟨i + 1, by go_num, hlt, HN.out trivial, hk2'⟩
        case measure => simp [intOf]; omega
    · obtain rfl : i = l.length := Nat.le_antisymm hi hge
      have hof := posM_none (p := p) (l := l) fun j hj => hno j hj _ (List.getElem?_eq_getElem hj)
      go_wp2_with fail
      go_ret
      rw [hof]
      exact ⟨rfl, hk⟩
set_option maxHeartbeats 1000000 in
theorem hasMod_any {v : Value} (l : List Md) (g : Nat) (caps : Array Value) (p : Md → Bool) (hl : Fl A w 7 encMd v l) (hent : ∀ a, Enters g (#[a] ++ caps))
    (hcall : ∀ s ∈ l, ∀ wr, Keep No w wr → Calls Try.prog g (#[.agg (encMd s).toArray] ++ caps) wr fun e w' => e = .returned (.bool (p s)) ∧ Keep No wr w') :
    Calls Try.prog 41 #[v, .func (.func g) #[] caps] w fun e w' => e = .returned (.bool (l.any p)) ∧ Keep No w w' := by
  have hc := idxMod_any l g caps p hl hent hcall
  have hb : decide (0 ≤ posM p l) = l.any p := by
    unfold posM
    cases l.any p with
    | false => rfl
    | true => simp
  clear hcall hent hl
  generalize posM p l = r at *
  generalize l.any p = b at *
  go_enter Try.func41, Try.ntmps41
  go_wp2_with fail
  refine hc.mono ?_
  rintro e w2 ⟨rfl, hk2⟩
  go_wp2_with fail
  go_ret
  exact ⟨by rw [← hb]; rfl, hk2⟩
set_option maxRecDepth 100000 in
set_option maxHeartbeats 1000000 in
theorem lof1_any (m : Md) (a q : Nat) (hq : w.cell? ⟨q, 0, none⟩ = some (.int .u64 (a : Int))) (hql : q < w.heap.size) :
    Calls Try.prog 44 #[.agg (encMd m).toArray, .pointer (some ⟨q, 0, none⟩)] w fun e w' => e = .returned (.bool (inM a m)) ∧ Keep No w w' := by
  obtain ⟨nm, ba, lo, hi, tl, of_, me⟩ := m
  have hin : inM a ⟨nm, ba, lo, hi, tl, of_, me⟩ = (decide (lo ≤ a) && decide (a < hi)) := rfl
  rw [hin]
  clear hin
  unfold encMd
  have hne : q ≠ w.heap.size := Nat.ne_of_lt hql
  go_enter Try.func44, Try.ntmps44
  go_wp2_with fail
  all_goals
    go_ret
    refine ⟨congrArg (fun b => Ending.returned (Value.bool b)) ?_, (Keep.refl _ _).alloc _⟩
    rw [Bool.eq_iff_iff]
    simp only [Bool.and_eq_true, decide_eq_true_eq, Bool.false_eq_true, false_iff]
    omega
set_option maxHeartbeats 1000000 in
theorem lof_any {v : Value} (l : List Md) (a : Nat) (hl : Fl A w 7 encMd v l) :
    Calls Try.prog 19 #[v, .int .u64 (a : Int)] w fun e w' => e = .returned (.int .i64 (ofM l a)) ∧ Keep No w w' := by
  have HL := Lib.hid hl
  obtain ⟨ao, co, rfl, _, _⟩ := hl.shape
  clear hl
  go_enter Try.func19, Try.ntmps19
  go_wp2_with fail
  have hkW : Keep No w (w.alloc (.cells #[.int .u64 (a : Int)] 34)) := (Keep.refl _ _).alloc _
  have hBW : Blk (w.alloc (.cells #[.int .u64 (a : Int)] 34)) w.heap.size #[.int .u64 (a : Int)] 34 := Blk.new _ _ _
  have hzW : (w.alloc (.cells #[.int .u64 (a : Int)] 34)).heap.size = w.heap.size + 1 := World.size_alloc _ _
  generalize w.alloc (.cells #[.int .u64 (a : Int)] 34) = W at *
  have hq := hBW.cell 0
  have hql := hBW.lt
  have hcall := idxMod_any (w := W) l 44 #[.pointer (some ⟨w.heap.size, 0, none⟩)] (inM a) (HL.out.no hkW) (fun a w => by kernel_rfl) (fun s _ wr hk =>
    lof1_any s a w.heap.size ((hk.cell (p := ⟨w.heap.size, 0, none⟩) hql fun h => h).trans hq) (Nat.lt_of_lt_of_le hql hk.size))
  refine hcall.mono ?_
  clear hcall
  rintro e w2 ⟨rfl, hk2⟩
  have hkF := hkW.trans' hk2
  clear hq hql hBW hkW hzW HL
  have hof : posM (inM a) l = ofM l a := rfl
  rw [hof]
  clear hof
  go_wp2_with fail
  go_ret
  exact ⟨rfl, hkF⟩
set_option maxHeartbeats 1000000 in
theorem omeet_any (a n b m : Nat) (ha : a < 18446744073709551616) (hn : n < 18446744073709551616) (hb : b < 18446744073709551616) (hm : m < 18446744073709551616) :
    Calls Try.prog 40 #[.int .u64 (a : Int), .int .u64 (n : Int), .int .u64 (b : Int), .int .u64 (m : Int)] w fun e w' => e = .returned (.bool (meetM a n b m)) ∧ w = w' := by
  go_enter Try.func40, Try.ntmps40
  go_wp2_with fail
  all_goals
    go_ret
    refine ⟨congrArg (fun b => Ending.returned (Value.bool b)) ?_, rfl⟩
    unfold meetM
    rw [Bool.eq_iff_iff]
    split <;> simp only [beq_iff_eq, beq_eq_false_iff_ne, ne_eq, Bool.and_eq_true, decide_eq_true_eq, decide_eq_false_iff_not, Bool.false_eq_true, false_iff, iff_false, true_iff, iff_true] at * <;> omega
set_option maxHeartbeats 1000000 in
theorem r01meet_any (a n b m : Nat) (ha : a < 18446744073709551616) (hn : n < 18446744073709551616) (hb : b < 18446744073709551616) (hm : m < 18446744073709551616) :
    Calls Try.prog 18 #[.int .u64 (a : Int), .int .u64 (n : Int), .int .u64 (b : Int), .int .u64 (m : Int)] w fun e w' => e = .returned (.bool (meetM a n b m)) ∧ w = w' := by
  go_enter Try.func18, Try.ntmps18
  go_wp2_with fail
  all_goals
    go_ret
    refine ⟨congrArg (fun b => Ending.returned (Value.bool b)) ?_, rfl⟩
    unfold meetM
    rw [Bool.eq_iff_iff]
    split <;> simp only [beq_iff_eq, beq_eq_false_iff_ne, ne_eq, Bool.and_eq_true, decide_eq_true_eq, decide_eq_false_iff_not, Bool.false_eq_true, false_iff, iff_false, true_iff, iff_true] at * <;> omega
set_option maxRecDepth 100000 in
set_option maxHeartbeats 4000000 in
theorem lblock_any {v : Value} (l : List Md) (hl : Fl A w 7 encMd v l) (hm : ∀ m ∈ l, m.mem ≤ 1099511627776) (hn : l.length ≤ 1000) :
    Calls Try.prog 20 #[v] w fun e w' => e = .returned (.int .u64 (blockM l : Nat)) ∧ Keep No w w' := by
  have HL := Lib.hid hl
  have HM := Lib.hid hm
  obtain ⟨ao, co, rfl, hc1, hc2⟩ := hl.shape
  clear hl hc1 hc2 hm
  go_enter Try.func20, Try.ntmps20
  go_wp2_with fail
  go_loopw [3, 5, 8] (fun nv _ iv wr => ∃ i : Nat, iv = .int .i64 i ∧ nv = .int .u64 (blockM (l.take i) : Nat) ∧ i ≤ l.length ∧ Keep No w wr) (fun _ _ iv _ => l.length - (intOf iv).toNat)
  case atStart => exact ⟨0, rfl, rfl, Nat.zero_le _, Keep.refl _ _⟩
  case round =>
    obtain ⟨i, rfl, rfl, hi, hk⟩ := hrel
    generalize wr = wz at *
    rcases Nat.lt_or_ge i l.length with hlt | hge
    · obtain ⟨g1, off, cap, ev, _, _, _, _, hc⟩ := (HL.out.no hk).at encMd_len hlt
      cases ev
      have hiz : (i : Int) < (l.length : Int) := by omega
      have hmem := HM.out _ (List.getElem_mem hlt)
      have htk : blockM (l.take (i + 1)) = blockM (l.take i) + (if l[i].tls then up8 l[i].mem else 0) := by rw [List.take_succ_eq_append_getElem hlt, blockM_append]
      have hle := blockM_le (l.take i) fun m hm => HM.out m (List.mem_of_mem_take hm)
      rw [List.length_take] at hle
      have hle2 : blockM (l.take i) ≤ 1099511627784000 := by
        have : min i l.length ≤ 1000 := by omega
        omega
      have HTK := Lib.hid htk
      have c0 := hc 0 _ rfl
      have c1 := hc 1 _ rfl
      have c2 := hc 2 _ rfl
      have c3 := hc 3 _ rfl
      have c4 := hc 4 _ rfl
      have c5 := hc 5 _ rfl
      have c6 := hc 6 _ rfl
      rw [Nat.add_zero] at c0
      clear hc hle htk
      obtain ⟨n, hn'⟩ : ∃ n, n = blockM (l.take i) := ⟨_, rfl⟩
      rw [← hn'] at hle2 HTK ⊢
      clear hn'
      generalize l[i] = m at *
      obtain ⟨x0, x1, x2, x3, x4, x5, x6⟩ := m
      dsimp only at c0 c1 c2 c3 c4 c5 c6 hmem
      generalize (⟨x0.toArray⟩ : ByteArray) = b0 at *
      cases x4 with
      | false =>
        go_wp2_with fail
        go_roundw
        case rel => exact ⟨i + 1, by go_num, by rw [HTK.out]; rfl, hlt, hk.trans' ((Keep.refl _ _).alloc _)⟩
        case measure => simp [intOf]; omega
      | true =>
        have h8 := andNot8 x6 hmem
        have hu8 : up8 x6 ≤ 1099511627784 := by unfold up8; omega
        have HU8 : Hid (up8 x6 = up8 x6) := Lib.hid rfl
        obtain ⟨q, hq⟩ : ∃ q, q = up8 x6 := ⟨_, rfl⟩
        rw [← hq] at h8 hu8
        have HQ := Lib.hid hq
        clear hq HU8
        have hwr : IntKind.u64.wrap ((n : Int) + (q : Int)) = ((n + q : Nat) : Int) := by rw [IntKind.wrap_u64]; omega
        go_wp2_with fail
        go_roundw
        case rel => exact ⟨i + 1, by go_num, by rw [HTK.out, HQ.out]; first | rfl | (rw [← hwr]; rfl), hlt, hk.trans' ((Keep.refl _ _).alloc _)⟩
        case measure => simp [intOf]; omega
    · obtain rfl : i = l.length := Nat.le_antisymm hi hge
      have hte : l.take l.length = l := List.take_of_length_le (Nat.le_refl _)
      rw [hte]
      clear hte
      go_wp2_with fail
      go_ret
      exact ⟨rfl, hk⟩
theorem r16eight_any (n : Nat) (hn : n ≤ 1099511627776) : Calls Try.prog 45 #[.int .u64 (n : Int)] w fun e w' => e = .returned (.int .u64 (up8 n : Nat)) ∧ w = w' := by
  go_enter Try.func45, Try.ntmps45
  go_wp2_with fail
  go_ret
  refine ⟨?_, rfl⟩
  show Ending.returned (Value.int .u64 (((n : Int) + 7) / 8 * 8)) = _
  rw [show (((n : Int) + 7) / 8 * 8) = ((up8 n : Nat) : Int) from by unfold up8; omega]
set_option maxRecDepth 100000 in
set_option maxHeartbeats 4000000 in
theorem r16of_any {v : Value} (l : List Md) (a : Nat) (hl : Fl A w 7 encMd v l) :
    Calls Try.prog 22 #[v, .int .u64 (a : Int)] w fun e w' => e = .returned (.int .i64 (ofM l a)) ∧ Keep No w w' := by
  have HL := Lib.hid hl
  obtain ⟨ao, co, rfl, hc1, hc2⟩ := hl.shape
  have hlen : l.length ≤ 9223372036854775807 := by unfold maxLen at hc2; omega
  clear hl hc1 hc2
  go_enter Try.func22, Try.ntmps22
  go_wp2_with fail
  go_loopw [5] (fun iv wr => ∃ i : Nat, iv = .int .i64 i ∧ i ≤ l.length ∧ (∀ j, j < i → ∀ x, l[j]? = some x → inM a x = false) ∧ Keep No w wr) (fun iv _ => l.length - (intOf iv).toNat)
  case atStart => exact ⟨0, rfl, Nat.zero_le _, (fun j hj => absurd hj (Nat.not_lt_zero _)), Keep.refl _ _⟩
  case round =>
    obtain ⟨i, rfl, hi, hno, hk⟩ := hrel
    generalize wr = wz at *
    rcases Nat.lt_or_ge i l.length with hlt | hge
    · obtain ⟨g1, off, cap, ev, _, _, _, _, hc⟩ := (HL.out.no hk).at encMd_len hlt
      cases ev
      have hiz : (i : Int) < (l.length : Int) := by omega
      have hfin : inM a l[i] = true → posM (inM a) l = (i : Int) := fun h => posM_some hlt h fun j hj => hno j hj _ (List.getElem?_eq_getElem _)
      have hno2 : inM a l[i] = false → ∀ j, j < i + 1 → ∀ x, l[j]? = some x → inM a x = false := fun h j hji x hx => by
        rcases Nat.lt_or_ge j i with h2 | h2
        · exact hno j h2 x hx
        · obtain rfl : j = i := by omega
          rw [List.getElem?_eq_getElem hlt] at hx
          cases hx
          exact h
      have HF := Lib.hid hfin
      have HN := Lib.hid hno2
      have c2 := hc 2 _ rfl
      have c3 := hc 3 _ rfl
      have hin : inM a l[i] = (decide (l[i].low ≤ a) && decide (a < l[i].high)) := rfl
      clear hc hno hfin hno2
      generalize l[i].low = lo at *
      generalize l[i].high = hi2 at *
      rcases Nat.lt_or_ge a lo with h1 | h1
      · have g1' : decide ((lo : Int) ≤ (a : Int)) = false := decide_eq_false (by omega)
        have g2' : decide (lo ≤ a) = false := decide_eq_false (by omega)
        have HX : Hid (inM a l[i] = false) := Lib.hid (by rw [hin, g2']; rfl)
        clear hin h1
        go_wp2_with fail
        go_roundw
        case rel => exact ⟨i + 1, by go_num, hlt, HN.out HX.out, hk⟩
        case measure => simp [intOf]; omega
      · have g1' : (lo : Int) ≤ (a : Int) := by omega
        rcases Nat.lt_or_ge a hi2 with h3 | h3
        · have g2' : (a : Int) < (hi2 : Int) := by omega
          have HX : Hid (inM a l[i] = true) := Lib.hid (by rw [hin, decide_eq_true h1, decide_eq_true h3]; rfl)
          clear hin h1 h3
          go_wp2_with fail
          go_ret
          exact ⟨by rw [show ofM l a = posM (inM a) l from rfl, HF.out HX.out]; rfl, hk⟩
        · have g2' : (hi2 : Int) ≤ (a : Int) := by omega
          have HX : Hid (inM a l[i] = false) := Lib.hid (by rw [hin, decide_eq_false (by omega : ¬ a < hi2), Bool.and_false])
          clear hin h1 h3
          go_wp2_with fail
          go_roundw
          case rel => exact ⟨i + 1, by go_num, hlt, HN.out HX.out, hk⟩
          case measure => simp [intOf]; omega
    · obtain rfl : i = l.length := Nat.le_antisymm hi hge
      have hof := posM_none (p := inM a) (l := l) fun j hj => hno j hj _ (List.getElem?_eq_getElem hj)
      go_wp2_with fail
      go_ret
      exact ⟨by rw [show ofM l a = posM (inM a) l from rfl, hof]; rfl, hk⟩
set_option maxRecDepth 100000 in
set_option maxHeartbeats 4000000 in
theorem r16block_any {v : Value} (l : List Md) (hl : Fl A w 7 encMd v l) (hm : ∀ m ∈ l, m.mem ≤ 1099511627776) (hn : l.length ≤ 1000) :
    Calls Try.prog 21 #[v] w fun e w' => e = .returned (.int .u64 (blockM l : Nat)) ∧ Keep No w w' := by
  have HL := Lib.hid hl
  have HM := Lib.hid hm
  obtain ⟨ao, co, rfl, hc1, hc2⟩ := hl.shape
  clear hl hc1 hc2 hm
  go_enter Try.func21, Try.ntmps21
  go_wp2_with fail
  go_loopw [3, 4] (fun nv iv wr => ∃ i : Nat, iv = .int .i64 i ∧ nv = .int .u64 (blockM (l.take i) : Nat) ∧ i ≤ l.length ∧ Keep No w wr) (fun _ iv _ => l.length - (intOf iv).toNat)
  case atStart => exact ⟨0, rfl, rfl, Nat.zero_le _, Keep.refl _ _⟩
  case round =>
    obtain ⟨i, rfl, rfl, hi, hk⟩ := hrel
    generalize wr = wz at *
    rcases Nat.lt_or_ge i l.length with hlt | hge
    · obtain ⟨g1, off, cap, ev, _, _, _, _, hc⟩ := (HL.out.no hk).at encMd_len hlt
      cases ev
      have hiz : (i : Int) < (l.length : Int) := by omega
      have hmem := HM.out _ (List.getElem_mem hlt)
      have htk : blockM (l.take (i + 1)) = blockM (l.take i) + (if l[i].tls then up8 l[i].mem else 0) := by rw [List.take_succ_eq_append_getElem hlt, blockM_append]
      have hle := blockM_le (l.take i) fun m hm => HM.out m (List.mem_of_mem_take hm)
      rw [List.length_take] at hle
      have hle2 : blockM (l.take i) ≤ 1099511627784000 := by
        have : min i l.length ≤ 1000 := by omega
        omega
      have HTK := Lib.hid htk
      have c4 := hc 4 _ rfl
      have c6 := hc 6 _ rfl
      clear hc hle htk
      obtain ⟨n, hn'⟩ : ∃ n, n = blockM (l.take i) := ⟨_, rfl⟩
      rw [← hn'] at hle2 HTK ⊢
      clear hn'
      generalize l[i].tls = x4 at *
      generalize l[i].mem = x6 at *
      cases x4 with
      | false =>
        go_wp2_with fail
        go_roundw
        case rel => exact ⟨i + 1, by go_num, by rw [HTK.out]; rfl, hlt, hk⟩
        case measure => simp [intOf]; omega
      | true =>
        have hcall := r16eight_any (w := wz) x6 hmem
        have hu8 : up8 x6 ≤ 1099511627784 := by unfold up8; omega
        obtain ⟨q, hq⟩ : ∃ q, q = up8 x6 := ⟨_, rfl⟩
        rw [← hq] at hcall hu8
        have HQ := Lib.hid hq
        clear hq
        have hwr : IntKind.u64.wrap ((n : Int) + (q : Int)) = ((n + q : Nat) : Int) := by rw [IntKind.wrap_u64]; omega
        go_wp2_with fail
        refine hcall.mono ?_
        rintro e wx ⟨rfl, rfl⟩
        go_wp2_with fail
        go_roundw
        case rel => exact ⟨i + 1, by go_num, by rw [HTK.out, HQ.out]; first | rfl | (rw [← hwr]; rfl), hlt, hk⟩
        case measure => simp [intOf]; omega
    · obtain rfl : i = l.length := Nat.le_antisymm hi hge
      have hte : l.take l.length = l := List.take_of_length_le (Nat.le_refl _)
      rw [hte]
      clear hte
      go_wp2_with fail
      go_ret
      exact ⟨rfl, hk⟩
end
end Go.Proofs.Ytbnahidopemkiaa
namespace Go.Dm
open Go Go.RowKit
section
/-- the walk stops at a load -/
def LdGoal (P : Program) (ty : TypeId) (p : Addr) (w : World) (K : Value → World → Prop) : Prop := RunGoal P (Instr.loadAt ty (.pointer (some p))) w K
theorem wl_ld {P : Program} {w : World} {ops : Array Oper} {rest : List Oper} {o : Oper} {a : Act} {Q : Exit → Act → World → Prop} (hgd : o.guard = none) (x : Operand) (ty : TypeId) (ho : o.op = Op.load ty x) (p : Addr)
    (h1 : a.eval x = .pointer (some p)) (h : LdGoal P ty p w fun v w' => wpList P ops Q rest (a.put o.dst v) w') : wpList P ops Q (o :: rest) a w := by
  obtain ⟨v, w', hr, hk⟩ := h
  refine wpList_plain hgd fun K hK => ?_
  unfold Oper.wp execOp
  simp only [ho, h1, hr, Sem.run_bind, Sem.run_pure, Result.andThen_ok]
  exact hK _ _ hk
theorem rg_ld {P : Program} {w : World} {g : Nat} {ty t : TypeId} {cs : Array Value} {d : TypeDesc} (hB : Blk w g cs t) (hu : P.underlying ty = some d)
    (hd : (match d with | .struct _ | .array _ _ => true | _ => false) = true) (hi : (P.info? ty).map (·.size) = some cs.size) {K : Value → World → Prop} (h : K (.agg cs) w) : LdGoal P ty ⟨g, 0, none⟩ w K := by
  refine .mk (v := .agg cs) (w' := w) ?_ h
  simp only [Instr.loadAt, Instr.sureAddr, Sem.run_bind, Sem.run_pure, Result.andThen_ok, run_loadVar_row w g t ty cs _ d hB hu hd hi]
variable {P : Program}
/-- a part of a row is loaded -/
theorem run_loadVar_sub (w : World) (g off : Nat) (ty : TypeId) (l : List Value) (d : TypeDesc) (hc : ∀ j u, l[j]? = some u → w.cell? ⟨g, off + j, none⟩ = some u)
    (hu : P.underlying ty = some d) (hd : (match d with | .struct _ | .array _ _ => true | _ => false) = true) (hi : (P.info? ty).map (·.size) = some l.length) :
    (loadVar ty ⟨g, off, none⟩).run P w = .ok (.agg l.toArray) w := by
  have hl : (loadCells ⟨g, off, none⟩ l.length).run P w = .ok l.toArray w :=
    run_loadCells_list (P := P) w ⟨g, off, none⟩ l (fun j v hv => by
      have hadd : (⟨g, off, none⟩ : Addr).add j = ⟨g, off + j, none⟩ := by unfold Addr.add; split <;> simp_all
      rw [hadd]
      exact hc j v hv)
  cases hq : P.info? ty with
  | none => simp [hq] at hi
  | some i =>
    have hs : i.size = l.length := by simpa [hq] using hi
    have hagg : (isAgg ty).run P w = .ok true w := by
      unfold isAgg
      rw [Sem.run_bind, run_underlying hu w]
      cases d <;> simp_all
    simp [loadVar, Sem.run_bind, hagg, sizeOf, typeInfo, hq, hs, hl]
theorem rg_lds {w : World} {g off : Nat} {ty : TypeId} {l : List Value} {d : TypeDesc} (hc : ∀ j u, l[j]? = some u → w.cell? ⟨g, off + j, none⟩ = some u)
    (hu : P.underlying ty = some d) (hd : (match d with | .struct _ | .array _ _ => true | _ => false) = true) (hi : (P.info? ty).map (·.size) = some l.length) {K : Value → World → Prop} (h : K (.agg l.toArray) w) : LdGoal P ty ⟨g, off, none⟩ w K := by
  refine .mk (v := .agg l.toArray) (w' := w) ?_ h
  simp only [Instr.loadAt, Instr.sureAddr, Sem.run_bind, Sem.run_pure, Result.andThen_ok, run_loadVar_sub w g off ty l d hc hu hd hi]
end
section
variable {P : Program} {w : World} {ops : Array Oper} {rest : List Oper} {o : Oper} {a : Act} {Q : Exit → Act → World → Prop}
def BuildGoal (P : Program) (t : TypeId) (parts : Array (Nat × Value)) (w : World) (K : Value → World → Prop) : Prop := RunGoal P (Instr.build t parts) w K
theorem wl_build (hgd : o.guard = none) (t : TypeId) (ps : Array (Nat × Operand)) (ho : o.op = Op.build t ps) (h : BuildGoal P t (ps.map fun (i, x) => (i, a.eval x)) w fun v w' => wpList P ops Q rest (a.put o.dst v) w') : wpList P ops Q (o :: rest) a w := by
  obtain ⟨v, w', hr, hk⟩ := h
  refine wpList_plain hgd fun K hK => ?_
  unfold Oper.wp execOp
  simp only [ho, Sem.run_bind, hr, Result.andThen_ok, Sem.run_pure]
  exact hK _ _ hk
theorem rg_build {t : TypeId} {parts : Array (Nat × Value)} {cells : Array Value} {w : World} {K : Value → World → Prop} (hb : P.built t parts.toList = some cells) (h : K (.agg cells) w) : BuildGoal P t parts w K :=
  .mk (run_build w t parts cells hb) h
theorem wl_ldg (hgd : Region.wanted o (yielded ops a.tmps) = true) (x : Operand) (ty : TypeId) (ho : o.op = Op.load ty x) (p : Addr)
    (h1 : a.eval x = .pointer (some p)) (h : LdGoal P ty p w fun v w' => wpList P ops Q rest (a.put o.dst v) w') : wpList P ops Q (o :: rest) a w := by
  obtain ⟨v, w', hr, hk⟩ := h
  unfold wpList
  rw [if_pos hgd]
  refine .inl ?_
  unfold Oper.wp execOp
  simp only [ho, h1, hr, Sem.run_bind, Sem.run_pure, Result.andThen_ok]
  exact hk
end
end Go.Dm
namespace Go.Dm
open Go

/-- st: it yields the same in every world of S; ef: the only one that may come; br: i or j may come -/
inductive Tr where
  | nil
  | st (i : Nat) (r : Tr)
  | ef (i : Nat) (r : Tr)
  | br (i j : Nat) (l r : Tr)
def Tr.len : Tr → Nat
  | .nil => 0 | .st _ r => r.len + 1 | .ef _ r => r.len + 1 | .br _ _ l _ => l.len + 1

section
variable {P : Program} {ops : Array Oper} {Q : Exit → Act → World → Prop} {md : Region.Mode} {S : World → Prop} {kb : Nat → Bool}

def treeB (md : Region.Mode) (ops : Array Oper) (kb : Nat → Bool) : Tr → Array Bool → Bool → Bool
  | .nil, listed, _ => (Region.ready md ops listed).isEmpty
  | .st i r, listed, s => s && (Region.ready md ops listed).contains i && freeK md ops kb listed i && treeB md ops kb r (listed.setIfInBounds i true) s
  | .ef i r, listed, s => (Region.ready md ops listed == [i]) && treeB md ops kb r (listed.setIfInBounds i true) (s && kb i)
  | .br i j l r, listed, s => (Region.ready md ops listed == [i, j]) && (l.len == r.len) && treeB md ops kb l (listed.setIfInBounds i true) (s && kb i) && treeB md ops kb r (listed.setIfInBounds j true) (s && kb j)

def wpTree (P : Program) (ops : Array Oper) (Q : Exit → Act → World → Prop) (S : World → Prop) (kb : Nat → Bool) : Tr → Act → World → Prop
  | .nil, a, w => Q .normal a w
  | .st i r, a, w => ∃ o v, ops[i]? = some o ∧ YieldsIf P ops S o v a ∧ wpTree P ops Q S kb r (a.put o.dst v) w
  | .ef i r, a, w => wpOp P ops Q i (fun a' w' => (kb i = true → S w') ∧ wpTree P ops Q S kb r a' w') a w
  | .br i j l r, a, w => wpOp P ops Q i (fun a' w' => (kb i = true → S w') ∧ wpTree P ops Q S kb l a' w') a w ∧ wpOp P ops Q j (fun a' w' => (kb j = true → S w') ∧ wpTree P ops Q S kb r a' w') a w

theorem wpTree_sound (hs : Region.noSelect ops = true) (hQ : ∀ c a d v w, Q (.panic c) (a.put d v) w → Q (.panic c) a w) :
    ∀ (l : Tr) (listed : Array Bool) (s : Bool) (a : Act) (w : World), treeB md ops kb l listed s = true → Closed md ops listed → (s = true → S w) → wpTree P ops Q S kb l a w → wpAnyK P md ops Q S kb l.len listed a w
  | .nil, listed, s, a, w, h, _, _, hq => by
    have : Region.ready md ops listed = [] := by simpa [treeB] using h
    exact ⟨this, hq⟩
  | .st i r, listed, s, a, w, h, hcl, hS, ⟨o, v, ho, hy, hq⟩ => by
    simp only [treeB, Bool.and_eq_true] at h
    obtain ⟨⟨⟨h1, h2⟩, h3⟩, h4⟩ := h
    exact wpAnyK_first ho (Region.noSelect_spec hs) (fun c a w => hQ c a _ _ w) r.len listed a w (freeK_spec ho h3) hcl (by simpa using h2) hy (hS h1)
      (wpTree_sound hs hQ r _ s _ w h4 (hcl.step (by simpa using h2)) hS hq)
  | .ef i r, listed, s, a, w, h, hcl, hS, hq => by
    simp only [treeB, Bool.and_eq_true, beq_iff_eq] at h
    refine ⟨fun h0 => (by rw [h.1] at h0; cases h0), fun j hj => ?_⟩
    rw [h.1] at hj
    obtain rfl : j = i := by simpa using hj
    exact wpOp_mono (fun a' w' h' => ⟨h'.1, wpTree_sound hs hQ r _ (s && kb j) a' w' h.2 (hcl.step (by rw [h.1]; simp)) (fun hsk => h'.1 (Bool.and_eq_true_iff.1 hsk).2) h'.2⟩) hq
  | .br i j l r, listed, s, a, w, h, hcl, hS, hq => by
    simp only [treeB, Bool.and_eq_true, beq_iff_eq] at h
    obtain ⟨⟨⟨h1, h2⟩, h3⟩, h4⟩ := h
    refine ⟨fun h0 => (by rw [h1] at h0; cases h0), fun k hk => ?_⟩
    have hk0 := hk
    rw [h1] at hk
    rcases (by simpa using hk : k = i ∨ k = j) with rfl | rfl
    · exact wpOp_mono (fun a' w' h' => ⟨h'.1, wpTree_sound hs hQ l _ (s && kb k) a' w' h3 (hcl.step hk0) (fun hsk => h'.1 (Bool.and_eq_true_iff.1 hsk).2) h'.2⟩) hq.1
    · show wpOp P ops Q k (fun a' w' => (kb k = true → S w') ∧ wpAnyK P md ops Q S kb l.len _ a' w') a w
      rw [h2]
      exact wpOp_mono (fun a' w' h' => ⟨h'.1, wpTree_sound hs hQ r _ (s && kb k) a' w' h4 (hcl.step hk0) (fun hsk => h'.1 (Bool.and_eq_true_iff.1 hsk).2) h'.2⟩) hq.2

theorem wp_region_tree {id : Nat} {a : Act} {w : World} (S : World → Prop) (kb : Nat → Bool) (l : Tr) {o : List Oper} (hm : P.follows .mixedOrders = true)
    (hB : (Region.noSelect o.toArray && treeB .any o.toArray kb l (Array.replicate o.toArray.size false) true && (l.len == o.toArray.size)) = true)
    (hQ : ∀ c a d v w, Q (.panic c) (a.put d v) w → Q (.panic c) a w) (hS : S w.drew)
    (h : wpTree P o.toArray Q S kb l a w.drew) : (Code.region id o.toArray true).wp P Q a w := by
  simp only [Bool.and_eq_true, beq_iff_eq] at hB
  refine wp_region_any hm (wpAny_of_K (S := S) (kb := kb) _ _ _ _ ?_)
  have h2 := wpTree_sound (md := .any) hB.1.1 hQ l _ true a _ hB.1.2 (fun k ok _ hl => by rw [Array.getD_eq_getD_getElem?, Array.getElem?_replicate] at hl; split at hl <;> cases hl) (fun _ => hS) h
  rw [hB.2] at h2
  exact h2

theorem tr_nil {a : Act} {w : World} (h : Q .normal a w) : wpTree P ops Q S kb .nil a w := h
theorem tr_still {i : Nat} {r : Tr} {a : Act} {w : World} {o : Oper} {v : Value} (ho : ops[i]? = some o) (hg : o.guard = none)
    (hy : ∀ w', S w' → (execOp a.eval o).run P w' = .ok (.value v) w') (h : wpTree P ops Q S kb r (a.put o.dst v) w) : wpTree P ops Q S kb (.st i r) a w :=
  ⟨o, v, ho, .inl ⟨by simp [Region.wanted, hg], hy⟩, h⟩
theorem tr_guard {i : Nat} {r : Tr} {a : Act} {w : World} {o : Oper} {v : Value} (ho : ops[i]? = some o) (hg : Region.wanted o (yielded ops a.tmps) = true)
    (hy : ∀ w', S w' → (execOp a.eval o).run P w' = .ok (.value v) w') (h : wpTree P ops Q S kb r (a.put o.dst v) w) : wpTree P ops Q S kb (.st i r) a w :=
  ⟨o, v, ho, .inl ⟨hg, hy⟩, h⟩
theorem tr_skip {i : Nat} {r : Tr} {a : Act} {w : World} {o : Oper} (ho : ops[i]? = some o) (hg : Region.wanted o (yielded ops a.tmps) = false)
    (h : wpTree P ops Q S kb r (a.put o.dst undef) w) : wpTree P ops Q S kb (.st i r) a w :=
  ⟨o, undef, ho, .inr ⟨hg, rfl⟩, h⟩
theorem wo_eff {i : Nat} {a : Act} {w : World} {o : Oper} {R : Act → World → Prop} (ho : ops[i]? = some o) (hg : o.guard = none)
    (h : ∀ K : Act → World → Prop, (∀ a' w', R a' w' → K a' w') → o.wp P a w K Q) : wpOp P ops Q i R a w := by
  unfold wpOp
  simp only [ho, Region.wanted, hg, if_true]
  exact .inl (h _ fun _ _ h => h)
theorem tr_eff {i : Nat} {r : Tr} {a : Act} {w : World} {o : Oper} (ho : ops[i]? = some o) (hg : o.guard = none)
    (h : ∀ K : Act → World → Prop, (∀ a' w', ((kb i = true → S w') ∧ wpTree P ops Q S kb r a' w') → K a' w') → o.wp P a w K Q) : wpTree P ops Q S kb (.ef i r) a w := wo_eff ho hg h
theorem tr_br {i j : Nat} {l r : Tr} {a : Act} {w : World} {o o' : Oper} (ho : ops[i]? = some o) (hg : o.guard = none) (ho' : ops[j]? = some o') (hg' : o'.guard = none)
    (h : ∀ K : Act → World → Prop, (∀ a' w', ((kb i = true → S w') ∧ wpTree P ops Q S kb l a' w') → K a' w') → o.wp P a w K Q)
    (h' : ∀ K : Act → World → Prop, (∀ a' w', ((kb j = true → S w') ∧ wpTree P ops Q S kb r a' w') → K a' w') → o'.wp P a w K Q) : wpTree P ops Q S kb (.br i j l r) a w := ⟨wo_eff ho hg h, wo_eff ho' hg' h'⟩
end
end Go.Dm
