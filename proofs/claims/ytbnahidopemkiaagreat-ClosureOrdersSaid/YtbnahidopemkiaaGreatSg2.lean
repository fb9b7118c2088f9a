/- head.row: numbers, one behind the other. segs: IndexFunc and ContainsFunc of segments, Find, single, kind, one, pages. segs: pages, one, within. No condition. -/
import Derived.Test.YtbnahidopemkiaaGreatLdS
import Derived.Test.YtbnahidopemkiaaGreatSigT
import Derived.Test.YtbnahidopemkiaaGreatEnt
set_option linter.unusedVariables false
set_option linter.unusedSimpArgs false
namespace Go.Proofs.YtbnahidopemkiaaGreat
open Go.RowKit Go.Dm Go.Dm.Oc Go.Dm.Ld
theorem wo_make {P : Program} {o : Oper} {a : Act} {w : World} {Q : Exit → Act → World → Prop} {K : Act → World → Prop} (l c : Operand) (t : TypeId) (ho : o.op = Op.makeSlice t l c) (v1 v2 : Value) (h1 : a.eval l = v1) (h2 : a.eval c = v2)
    (h : MakeGoal P t v1 v2 w fun v w' => K (a.put o.dst v) w') : o.wp P a w K Q := by
  obtain ⟨v, w', hr, hk⟩ := h
  unfold Oper.wp execOp
  simp only [ho, h1, h2, hr, Sem.run_bind, Sem.run_pure, Result.andThen_ok]
  exact hk
/-- numbers of so many bytes, one behind the other -/
def rowB (l : List (Nat × Nat)) : BS := l.flatMap fun f => le f.1 f.2
def encF (f : Nat × Nat) : List Value := [.int .i64 (f.1 : Int), .int .u64 (f.2 : Int)]
theorem rowB_len (l : List (Nat × Nat)) (h : ∀ f ∈ l, f.1 ≤ 8) : (rowB l).length ≤ 8 * l.length := by
  induction l with
  | nil => simp [rowB]
  | cons f r ih =>
    have h1 := ih fun g hg => h g (List.mem_cons_of_mem _ hg)
    have h2 := h f (List.mem_cons_self ..)
    unfold rowB at *
    rw [List.flatMap_cons, List.length_append, le_len, List.length_cons]
    omega
theorem encF_len (f : Nat × Nat) : (encF f).length = 2 := rfl
section
variable {A : Nat → Prop} {w : World}
set_option maxRecDepth 100000 in
set_option maxHeartbeats 2000000 in
theorem hrow_any {v : Value} (l : List (Nat × Nat)) (hl : Fl A w 2 encF v l) (hn : l.length ≤ 1000) (hf : ∀ f ∈ l, (f.1 = 1 ∨ f.1 = 2 ∨ f.1 = 4 ∨ f.1 = 8) ∧ f.2 < 18446744073709551616) :
    Calls Tryz.prog 132 #[v] w fun e w' => ∃ v', e = .returned v' ∧ w'.ownsRow w.heap.size 5 1 v' (rowB l).length ((rowB l).map bv) ∧ Keep No w w' := by
  have HL := Lib.hid hl
  obtain ⟨a, c, rfl, hc1, hc2⟩ := hl.shape
  clear hl
  go_enter Tryz.func132, Tryz.ntmps132
  go_wp2_with fail
  go_loopw [3, 10] (fun vv iv wr => ∃ i : Nat, iv = .int .i64 i ∧ i ≤ l.length ∧ wr.ownsRow w.heap.size 5 1 vv (rowB (l.take i)).length ((rowB (l.take i)).map bv) ∧ Keep No w wr) (fun _ iv _ => l.length - (intOf iv).toNat)
  case atStart => exact ⟨0, rfl, Nat.zero_le _, World.ownsRow_nil _ _ _ _, Keep.refl _ _⟩
  case round =>
    obtain ⟨i, rfl, hi, ho, hK⟩ := hrel
    rcases Nat.lt_or_ge i l.length with hlt | hge
    · obtain ⟨g, off, cap, ev, _, _, _, _, hc⟩ := (HL.out.no hK).at encF_len hlt
      cases ev
      have hfi := hf _ (List.getElem_mem hlt)
      have htk : rowB (l.take (i + 1)) = rowB (l.take i) ++ le l[i].1 l[i].2 := by
        rw [List.take_succ_eq_append_getElem hlt, rowB, rowB, List.flatMap_append]
        simp
      have q0 : wr.cell? ⟨g, off + i * 2, none⟩ = some (.int .i64 (l[i].1 : Int)) := hc 0 _ rfl
      have q1 : wr.cell? ⟨g, off + i * 2 + 1, none⟩ = some (.int .u64 (l[i].2 : Int)) := hc 1 _ rfl
      have HT := Lib.hid htk
      clear htk hc
      generalize l[i].1 = n at *
      generalize l[i].2 = x at *
      go_wp2_with fail
      have hkw1 : Keep No wr (wr.alloc (.cells #[.int .i64 (n : Int), .int .u64 (x : Int)] 219)) := (Keep.refl _ _).alloc _
      have hBw1 : Blk (wr.alloc (.cells #[.int .i64 (n : Int), .int .u64 (x : Int)] 219)) wr.heap.size #[.int .i64 (n : Int), .int .u64 (x : Int)] 219 := Blk.new _ _ _
      have hzw1 : (wr.alloc (.cells #[.int .i64 (n : Int), .int .u64 (x : Int)] 219)).heap.size = wr.heap.size + 1 := World.size_alloc _ _
      generalize wr.alloc (.cells #[.int .i64 (n : Int), .int .u64 (x : Int)] 219) = w1 at *
      have c0 := hBw1.cell 0
      have c1 := hBw1.cell 1
      refine wp_region_sig (fun w' => w'.cell? ⟨wr.heap.size, 0, none⟩ = some (.int .i64 (n : Int)) ∧ w'.cell? ⟨wr.heap.size, 1, none⟩ = some (.int .u64 (x : Int))) (fun j => decide (j ≤ 12)) [(0, true), (1, true), (3, true), (4, true), (5, true), (6, true), (2, false), (7, false), (8, false), (9, true), (10, true), (11, true), (12, true)] (by kernel_rfl) (by kernel_rfl) (by intro c a d v w h; cases d <;> exact h) ⟨c0, c1⟩ ?_
      apply sig_still (o := ⟨some 15, _, _, _, _, _⟩) rfl rfl
      · intro w' hS
        obtain ⟨q1, q2⟩ := hS
        first | (go_simp; done) | (go_simp; rfl) | rfl
      go_frame
      apply sig_still (o := ⟨some 16, _, _, _, _, _⟩) rfl rfl
      · intro w' hS
        obtain ⟨q1, q2⟩ := hS
        first | (go_simp; done) | (go_simp; rfl) | rfl
      go_frame
      apply sig_still (o := ⟨some 18, _, _, _, _, _⟩) rfl rfl
      · intro w' hS
        obtain ⟨q1, q2⟩ := hS
        first | (go_simp; done) | (go_simp; rfl) | rfl
      go_frame
      apply sig_still (o := ⟨some 19, _, _, _, _, _⟩) rfl rfl
      · intro w' hS
        obtain ⟨q1, q2⟩ := hS
        first | (go_simp; done) | (go_simp; rfl) | rfl
      go_frame
      apply sig_still (o := ⟨some 20, _, _, _, _, _⟩) rfl rfl
      · intro w' hS
        obtain ⟨q1, q2⟩ := hS
        first | (go_simp; done) | (go_simp; rfl) | rfl
      go_frame
      apply sig_still (o := ⟨some 21, _, _, _, _, _⟩) rfl rfl
      · intro w' hS
        obtain ⟨q1, q2⟩ := hS
        first | (go_simp; done) | (go_simp; rfl) | rfl
      go_frame
      refine sig_eff (o := ⟨some 17, _, _, _, _, _⟩) rfl rfl (fun K hKe => ?_)
      refine wo_make (.tmp 16) (.tmp 16) 24 rfl _ _ rfl rfl ?_
      refine rg_make 5 (.int .u8 0) 1 1 Tryz.underlying24 o_info (by omega) (by unfold maxLen; omega) ?_
      intro W2 hmk hkm
      have hk2 : Keep No w1 W2 := ((Keep.refl No w1).drew).trans' hkm
      have hB2 := hBw1.keep hk2 fun h => h
      refine hKe _ _ ⟨fun _ => ⟨hB2.cell 0, hB2.cell 1⟩, ?_⟩
      have hmb : Bts (fun k => k = w1.heap.size) W2 (.slice (some ⟨w1.heap.size, 0, none⟩) n n) (List.replicate n 0) := by
        have := hmk
        rw [madeCells_u8] at this
        have hb := Bts.of_blk this (by rw [List.length_replicate]; unfold maxLen; omega)
        rw [List.length_replicate] at hb
        exact hb
      clear hKe hmk
      have hd0 : w1.drew.heap.size = w1.heap.size := rfl
      rw [hd0]
      clear hd0
      rw [hzw1] at hmb
      have hset := oset_any (List.replicate n 0) 0 (n : Int) x hmb (by rw [List.length_replicate]; omega) (by decide) hfi.2 (by
        unfold fitsE widthB hasB
        rw [List.length_replicate]
        rcases hfi.1 with rfl | rfl | rfl | rfl <;> decide)
      have hx0 : setX (List.replicate n 0) 0 (n : Int) x = le n x := by
        unfold setX
        rw [Int.toNat_natCast]
        exact setR_whole _ _ (by rw [le_len, List.length_replicate])
      rw [hx0, List.length_replicate] at hset
      clear hx0
      refine sig_eff (o := ⟨some 22, _, _, _, _, _⟩) rfl rfl (fun K hKe => ?_)
      go_wp2_with fail
      refine hset.mono ?_
      clear hset
      rintro e W3 ⟨v3, rfl, ho3, hk3⟩
      have hB3 := hB2.keep hk3 fun h => h
      go_wp2_with fail
      refine ⟨fun _ => ⟨hB3.cell 0, hB3.cell 1⟩, ?_⟩
      refine sig_eff (o := ⟨some 14, _, _, _, _, _⟩) rfl rfl (fun K hKe => ?_)
      go_wp2_with fail
      refine ⟨fun _ => ⟨hB3.cell 0, hB3.cell 1⟩, ?_⟩
      apply sig_still (o := ⟨some 23, _, _, _, _, _⟩) rfl rfl
      · intro w' hS
        obtain ⟨q1, q2⟩ := hS
        first | (go_simp; done) | (go_simp; rfl) | rfl
      go_frame
      apply sig_still (o := ⟨some 24, _, _, _, _, _⟩) rfl rfl
      · intro w' hS
        obtain ⟨q1, q2⟩ := hS
        first | (go_simp; done) | (go_simp; rfl) | rfl
      go_frame
      apply sig_still (o := ⟨some 6, _, _, _, _, _⟩) rfl rfl
      · intro w' hS
        obtain ⟨q1, q2⟩ := hS
        first | (go_simp; done) | (go_simp; rfl) | rfl
      go_frame
      apply sig_still (o := ⟨some 7, _, _, _, _, _⟩) rfl rfl
      · intro w' hS
        obtain ⟨q1, q2⟩ := hS
        first | (go_simp; done) | (go_simp; rfl) | rfl
      go_frame
      refine sig_nil ?_
      go_wp2_with (at_builtin; refine wl_append rfl _ _ _ _ rfl _ _ rfl rfl ?_)
      have hkA : Keep No wr W3 := (hkw1.trans' hk2).trans' hk3
      have hoA := own_no ho hkA
      have hbs : Bts _ W3 v3 (le n x) := bts_own (l := le n x) (by rw [le_len]; exact ho3)
      refine rg_bytes hoA hbs (by
        have := rowB_len (l.take i) fun f hm => by
          have := (hf f (List.mem_of_mem_take hm)).1
          omega
        rw [List.length_take] at this
        rw [le_len]
        omega) (Nat.le_trans hK.size hkA.size) ?_
      intro v4 W4 ho4 hk4 _
      rw [← HT.out] at ho4
      go_wp2_with fail
      go_roundw
      case rel => exact ⟨i + 1, rfl, hlt, ho4, Keep.own (hK.trans' hkA) hoA hk4⟩
      case measure => simp [intOf]; omega
    · obtain rfl : i = l.length := by omega
      rw [List.take_length] at ho
      go_wp2_with fail
      go_ret
      exact ⟨_, rfl, ho, hK⟩
end
end Go.Proofs.YtbnahidopemkiaaGreat
namespace Go.Proofs.YtbnahidopemkiaaGreat
open Go.RowKit Go.Dm Go.Dm.Oc Go.Dm.Ld
def encSg (s : Sg) : List Value := [.int .u32 (s.ty : Int), .int .u32 (s.fl : Int), .int .u64 (s.off : Int), .int .u64 (s.va : Int), .int .u64 (s.fi : Int), .int .u64 (s.me : Int), .int .u64 (s.al : Int)]
theorem encSg_len (s : Sg) : (encSg s).length = 7 := rfl
theorem encSg_one (s : Sg) : ∀ u ∈ encSg s, u.oneCell' = true := by
  intro u hu
  simp only [encSg, List.mem_cons, List.not_mem_nil, or_false] at hu
  rcases hu with rfl | rfl | rfl | rfl | rfl | rfl | rfl <;> rfl
theorem segT_info : (Tryz.prog.info? 113).map (fun i => (i.zero, i.size, i.bytes)) = some (some (.agg #[.int .u32 0, .int .u32 0, .int .u64 0, .int .u64 0, .int .u64 0, .int .u64 0, .int .u64 0]), 7, 48) := by kernel_rfl
/-- where the first one stands of which p says yes; -1: nowhere -/
def posM {α : Type} (p : α → Bool) (l : List α) : Int := if l.any p then (l.findIdx p : Int) else -1
theorem posM_some {α : Type} {p : α → Bool} {l : List α} {i : Nat} (hi : i < l.length) (h : p l[i] = true) (hno : ∀ j, (hj : j < i) → p (l[j]'(by omega)) = false) : posM p l = (i : Int) := by
  have e : l.findIdx p = i := (List.findIdx_eq hi).2 ⟨h, fun j hj => hno j hj⟩
  have ha : l.any p = true := List.any_eq_true.2 ⟨l[i], List.getElem_mem hi, h⟩
  unfold posM
  rw [if_pos ha, e]
theorem posM_none {α : Type} {p : α → Bool} {l : List α} (hno : ∀ j, (hj : j < l.length) → p l[j] = false) : posM p l = -1 := by
  unfold posM
  rw [if_neg]
  intro h
  obtain ⟨x, hx, h⟩ := List.any_eq_true.1 h
  obtain ⟨j, hj, rfl⟩ := List.getElem_of_mem hx
  rw [hno j hj] at h
  cases h
theorem posM_find {α : Type} (p : α → Bool) (l : List α) : (l.find? p = none ∧ posM p l = -1) ∨ ∃ i, ∃ h : i < l.length, l.find? p = some l[i] ∧ posM p l = (i : Int) := by
  unfold posM
  cases ha : l.any p with
  | false =>
    left
    refine ⟨List.find?_eq_none.2 fun x hx h => ?_, by rw [if_neg (by decide)]⟩
    rw [List.any_eq_true.2 ⟨x, hx, h⟩] at ha
    cases ha
  | true =>
    right
    obtain ⟨x, hx, h⟩ := List.any_eq_true.1 ha
    have hlt : l.findIdx p < l.length := List.findIdx_lt_length_of_exists ⟨x, hx, h⟩
    refine ⟨l.findIdx p, hlt, ?_, by rw [if_pos rfl]⟩
    rw [List.find?_eq_some_iff_getElem]
    refine ⟨List.findIdx_getElem, l.findIdx p, hlt, rfl, fun j hj => ?_⟩
    have := List.not_of_lt_findIdx hj
    simpa using this
section
variable {A : Nat → Prop} {w : World}
set_option maxRecDepth 100000 in
set_option maxHeartbeats 4000000 in
theorem idxSg_any {v : Value} (l : List Sg) (g : Nat) (caps : Array Value) (p : Sg → Bool) (hl : Fl A w 7 encSg v l) (hent : ∀ a, Enters g (#[a] ++ caps))
    (hcall : ∀ s ∈ l, ∀ wr, Keep No w wr → Calls Tryz.prog g (#[.agg (encSg s).toArray] ++ caps) wr fun e w' => e = .returned (.bool (p s)) ∧ Keep No wr w') :
    Calls Tryz.prog 75 #[v, .func (.func g) #[] caps] w fun e w' => e = .returned (.int .i64 (posM p l)) ∧ Keep No w w' := by
  unfold Enters at hent
  have HL := Lib.hid hl
  have HC := Lib.hid hcall
  obtain ⟨ao, co, rfl, hc1, hc2⟩ := hl.shape
  have hlen : l.length ≤ 9223372036854775807 := by unfold maxLen at hc2; omega
  clear hl hcall hc1 hc2
  go_enter Tryz.func75, Tryz.ntmps75
  go_wp2_with fail
  go_loopw [5, 8] (fun _ iv wr => ∃ i : Nat, iv = .int .i64 i ∧ i ≤ l.length ∧ (∀ j, j < i → ∀ x, l[j]? = some x → p x = false) ∧ Keep No w wr) (fun _ iv _ => l.length - (intOf iv).toNat)
  case atStart => exact ⟨0, rfl, Nat.zero_le _, (fun j hj => absurd hj (Nat.not_lt_zero _)), Keep.refl _ _⟩
  case round =>
    obtain ⟨i, rfl, hi, hno, hk⟩ := hrel
    generalize wr = wz at *
    rcases Nat.lt_or_ge i l.length with hlt | hge
    · obtain ⟨g1, off, cap, ev, _, _, _, _, hc⟩ := (HL.out.no hk).at encSg_len hlt
      cases ev
      have hiz : (i : Int) < (l.length : Int) := by omega
      have hcall := HC.out l[i] (List.getElem_mem hlt) wz hk
      have hfin : p l[i] = true → posM p l = (i : Int) := fun h => posM_some hlt h fun j hj => hno j hj _ (List.getElem?_eq_getElem _)
      have hno2 : p l[i] = false → ∀ j, j < i + 1 → ∀ x, l[j]? = some x → p x = false := fun h j hji x hx => by
        rcases Nat.lt_or_ge j i with h2 | h2
        · exact hno j h2 x hx
        · obtain rfl : j = i := by omega
          rw [List.getElem?_eq_getElem hlt] at hx
          cases hx
          exact h
      have HF := Lib.hid hfin
      have HN := Lib.hid hno2
      clear hno hfin hno2
      have c0 := hc 0 _ rfl
      have c1 := hc 1 _ rfl
      have c2 := hc 2 _ rfl
      have c3 := hc 3 _ rfl
      have c4 := hc 4 _ rfl
      have c5 := hc 5 _ rfl
      have c6 := hc 6 _ rfl
      clear hc
      generalize hb : p l[i] = b at *
      unfold encSg at hcall
      generalize l[i].ty = x0 at *
      generalize l[i].fl = x1 at *
      generalize l[i].off = x2 at *
      generalize l[i].va = x3 at *
      generalize l[i].fi = x4 at *
      generalize l[i].me = x5 at *
      generalize l[i].al = x6 at *
      clear hb
      rw [Nat.add_zero] at c0
      go_wp2_with fail
      refine hcall.mono ?_
      rintro e w2 ⟨rfl, hk2⟩
      have hk2' := hk.trans' hk2
      clear hcall c0 c1 c2 c3 c4 c5 c6
      cases b with
      | true =>
        go_wp2_with fail
        go_ret
        rw [HF.out trivial]
        exact ⟨rfl, hk2'⟩
      | false =>
        go_wp2_with fail
        go_roundw
        case rel => exact ⟨i + 1, by go_num, hlt, HN.out trivial, hk2'⟩
        case measure => simp [intOf]; omega
    · obtain rfl : i = l.length := Nat.le_antisymm hi hge
      have hof := posM_none (p := p) (l := l) fun j hj => hno j hj _ (List.getElem?_eq_getElem hj)
      go_wp2_with fail
      go_ret
      rw [hof]
      exact ⟨rfl, hk⟩
set_option maxHeartbeats 1000000 in
theorem hasSg_any {v : Value} (l : List Sg) (g : Nat) (caps : Array Value) (p : Sg → Bool) (hl : Fl A w 7 encSg v l) (hent : ∀ a, Enters g (#[a] ++ caps))
    (hcall : ∀ s ∈ l, ∀ wr, Keep No w wr → Calls Tryz.prog g (#[.agg (encSg s).toArray] ++ caps) wr fun e w' => e = .returned (.bool (p s)) ∧ Keep No wr w') :
    Calls Tryz.prog 123 #[v, .func (.func g) #[] caps] w fun e w' => e = .returned (.bool (l.any p)) ∧ Keep No w w' := by
  have hc := idxSg_any l g caps p hl hent hcall
  have hb : decide (0 ≤ posM p l) = l.any p := by
    unfold posM
    cases l.any p with
    | false => rfl
    | true => simp
  clear hcall hent hl
  generalize posM p l = r at *
  generalize l.any p = b at *
  go_enter Tryz.func123, Tryz.ntmps123
  go_wp2_with fail
  refine hc.mono ?_
  rintro e w2 ⟨rfl, hk2⟩
  go_wp2_with fail
  go_ret
  exact ⟨by rw [← hb]; rfl, hk2⟩
set_option maxHeartbeats 1000000 in
theorem sgfind1_any (s : Sg) (k q : Nat) (hq : w.cell? ⟨q, 0, none⟩ = some (.int .u32 (k : Int))) (hql : q < w.heap.size) :
    Calls Tryz.prog 76 #[.agg (encSg s).toArray, .pointer (some ⟨q, 0, none⟩)] w fun e w' => e = .returned (.bool (s.ty == k)) ∧ Keep No w w' := by
  have hne : q ≠ w.heap.size := Nat.ne_of_lt hql
  have hb : ((s.ty : Int) == (k : Int)) = (s.ty == k) := by
    rw [Bool.eq_iff_iff, beq_iff_eq, beq_iff_eq]
    omega
  unfold encSg
  generalize (s.ty == k) = b at *
  go_enter Tryz.func76, Tryz.ntmps76
  go_wp2_with fail
  go_ret
  exact ⟨by rw [← hb]; rfl, (Keep.refl _ _).alloc _⟩
/-- the segment that is told -/
def sgD (o : Option Sg) : Sg := o.getD sg0
set_option maxRecDepth 100000 in
set_option maxHeartbeats 4000000 in
theorem sgfind_any {v : Value} (l : List Sg) (k : Nat) (hl : Fl A w 7 encSg v l) :
    Calls Tryz.prog 47 #[v, .int .u32 (k : Int)] w fun e w' => e = .returned (.tuple #[.agg (encSg (sgD (findM l k))).toArray, .bool (findM l k).isSome]) ∧ Keep No w w' := by
  have HL := Lib.hid hl
  obtain ⟨ao, co, rfl, hc1, hc2⟩ := hl.shape
  clear hl
  go_enter Tryz.func47, Tryz.ntmps47
  go_wp2_with fail
  have hkW : Keep No w (w.alloc (.cells #[.int .u32 (k : Int)] 42)) := (Keep.refl _ _).alloc _
  have hBW : Blk (w.alloc (.cells #[.int .u32 (k : Int)] 42)) w.heap.size #[.int .u32 (k : Int)] 42 := Blk.new _ _ _
  have hzW : (w.alloc (.cells #[.int .u32 (k : Int)] 42)).heap.size = w.heap.size + 1 := World.size_alloc _ _
  generalize w.alloc (.cells #[.int .u32 (k : Int)] 42) = W at *
  have hkV : Keep No W (W.alloc (.cells #[.int .u32 0, .int .u32 0, .int .u64 0, .int .u64 0, .int .u64 0, .int .u64 0, .int .u64 0] 113)) := (Keep.refl _ _).alloc _
  have hBV : Blk (W.alloc (.cells #[.int .u32 0, .int .u32 0, .int .u64 0, .int .u64 0, .int .u64 0, .int .u64 0, .int .u64 0] 113)) W.heap.size #[.int .u32 0, .int .u32 0, .int .u64 0, .int .u64 0, .int .u64 0, .int .u64 0, .int .u64 0] 113 := Blk.new _ _ _
  have hzV : (W.alloc (.cells #[.int .u32 0, .int .u32 0, .int .u64 0, .int .u64 0, .int .u64 0, .int .u64 0, .int .u64 0] 113)).heap.size = W.heap.size + 1 := World.size_alloc _ _
  generalize W.alloc (.cells #[.int .u32 0, .int .u32 0, .int .u64 0, .int .u64 0, .int .u64 0, .int .u64 0, .int .u64 0] 113) = V at *
  have hqW := (hBW.keep hkV fun h => h).cell 0
  have hqlV := (hBW.keep hkV fun h => h).lt
  have hcall := idxSg_any (w := V) l 76 #[.pointer (some ⟨w.heap.size, 0, none⟩)] (fun s => s.ty == k) ((HL.out.no hkW).no hkV) (fun a w => by kernel_rfl) (fun s _ wr hk => by
    refine sgfind1_any s k w.heap.size ((hk.cell (p := ⟨w.heap.size, 0, none⟩) hqlV fun h => h).trans hqW) (Nat.lt_of_lt_of_le hqlV hk.size))
  refine hcall.mono ?_
  clear hcall
  rintro e w2 ⟨rfl, hk2⟩
  have hB2 := hBV.keep hk2 fun h => h
  have hkF : Keep No w w2 := (hkW.trans' hkV).trans' hk2
  rw [hzW] at hB2
  clear hqW hqlV hBW hBV hkV
  rcases posM_find (fun s : Sg => s.ty == k) l with ⟨h1, h2⟩ | ⟨i, hi, h1, h2⟩
  · have HF : Hid (findM l k = none) := Lib.hid h1
    rw [h2]
    clear HL h1 h2
    go_wp2_with (with_reducible refine wl_stAgg rfl _ _ _ rfl _ _ rfl rfl ?_)
    rw [show (Value.agg #[.int .u32 0, .int .u32 0, .int .u64 0, .int .u64 0, .int .u64 0, .int .u64 0, .int .u64 0]) = .agg (encSg sg0).toArray from rfl]
    refine rg_stAgg hB2 (by kernel_rfl) (by rfl) (by simp [Value.oneCell']) ?_
    intro w3 hB3 hk3 _
    go_wp2_with fail
    refine ret_blk_tmp rfl rfl hB3 Tryz.underlying113 rfl (by kernel_rfl) rfl ?_
    exact ⟨by rw [HF.out]; rfl, hkF.trans hk3 fun j hj e => by omega⟩
  · have HF : Hid (findM l k = some l[i]) := Lib.hid h1
    rw [h2]
    clear h1 h2
    obtain ⟨g1, off, cap, ev, _, _, _, _, hc⟩ := ((HL.out.no hkF)).at encSg_len hi
    cases ev
    have hlt : (i : Int) < (l.length : Int) := by omega
    have c0 := hc 0 _ rfl
    have c1 := hc 1 _ rfl
    have c2 := hc 2 _ rfl
    have c3 := hc 3 _ rfl
    have c4 := hc 4 _ rfl
    have c5 := hc 5 _ rfl
    have c6 := hc 6 _ rfl
    rw [Nat.add_zero] at c0
    clear hc HL
    generalize l[i] = s at *
    obtain ⟨x0, x1, x2, x3, x4, x5, x6⟩ := s
    dsimp only at c0 c1 c2 c3 c4 c5 c6
    go_wp2_with (with_reducible refine wl_stAgg rfl _ _ _ rfl _ _ rfl rfl ?_)
    refine rg_stAgg hB2 (by kernel_rfl) (by rfl) (by simp [Value.oneCell']) ?_
    intro w3 hB3 hk3 _
    go_wp2_with fail
    refine ret_blk_tmp rfl rfl hB3 Tryz.underlying113 rfl (by kernel_rfl) rfl ?_
    exact ⟨by rw [HF.out]; rfl, hkF.trans hk3 fun j hj e => by omega⟩
set_option maxHeartbeats 1000000 in
theorem sgsingle_any (s : Sg) (hs : SgOk s) :
    Calls Tryz.prog 116 #[.agg (encSg s).toArray] w fun e w' => e = .returned (.bool (singleB s)) ∧ Keep No w w' := by
  have hb : (decide (s.ty = 2) || decide (s.ty = 7)) = singleB s := by
    unfold singleB
    rw [Bool.decide_or]
  rw [← hb]
  unfold encSg
  generalize s.ty = x0 at *
  clear hb hs
  go_enter Tryz.func116, Tryz.ntmps116
  go_wp2_with fail
  all_goals
    go_ret
    refine ⟨congrArg (fun b => Ending.returned (Value.bool b)) ?_, (Keep.refl _ _).alloc _⟩
    rw [Bool.eq_iff_iff]
    simp only [Bool.or_eq_true, decide_eq_true_eq, Bool.false_eq_true, false_iff, true_iff, beq_iff_eq]
    omega
set_option maxRecDepth 100000 in
set_option maxHeartbeats 1000000 in
theorem idxU32_any {v : Value} (l : List Nat) (x : Nat) (hl : Fl A w 1 (fun n : Nat => [.int .u32 (n : Int)]) v l) :
    Calls Tryz.prog 141 #[v, .int .u32 (x : Int)] w fun e w' => e = .returned (.int .i64 (posM (fun n => n == x) l)) ∧ Keep No w w' := by
  have HL := Lib.hid hl
  obtain ⟨ao, co, rfl, hc1, hc2⟩ := hl.shape
  have hlen : l.length ≤ 9223372036854775807 := by unfold maxLen at hc2; omega
  clear hl hc1 hc2
  go_enter Tryz.func141, Tryz.ntmps141
  go_wp2_with fail
  go_loopw [5, 8] (fun _ iv wr => ∃ i : Nat, iv = .int .i64 i ∧ i ≤ l.length ∧ (∀ j, j < i → ∀ y, l[j]? = some y → (y == x) = false) ∧ Keep No w wr) (fun _ iv _ => l.length - (intOf iv).toNat)
  case atStart => exact ⟨0, rfl, Nat.zero_le _, (fun j hj => absurd hj (Nat.not_lt_zero _)), Keep.refl _ _⟩
  case round =>
    obtain ⟨i, rfl, hi, hno, hk⟩ := hrel
    generalize wr = wz at *
    rcases Nat.lt_or_ge i l.length with hlt | hge
    · obtain ⟨g1, off, cap, ev, _, _, _, _, hc⟩ := (HL.out.no hk).at (fun _ => rfl) hlt
      cases ev
      have hiz : (i : Int) < (l.length : Int) := by omega
      have hfin : (l[i] == x) = true → posM (fun n => n == x) l = (i : Int) := fun h => posM_some hlt h fun j hj => hno j hj _ (List.getElem?_eq_getElem _)
      have hno2 : (l[i] == x) = false → ∀ j, j < i + 1 → ∀ y, l[j]? = some y → (y == x) = false := fun h j hji y hy => by
        rcases Nat.lt_or_ge j i with h2 | h2
        · exact hno j h2 y hy
        · obtain rfl : j = i := by omega
          rw [List.getElem?_eq_getElem hlt] at hy
          cases hy
          exact h
      have HF := Lib.hid hfin
      have HN := Lib.hid hno2
      clear hno hfin hno2
      have c0 := hc 0 _ rfl
      rw [Nat.add_zero, Nat.mul_one] at c0
      clear hc
      generalize hy : l[i] = y at *
      rcases Nat.decEq y x with hne | rfl
      · have hni : ¬ ((y : Int) = (x : Int)) := by omega
        have hb : (y == x) = false := by rw [beq_eq_false_iff_ne]; exact hne
        have hbi : ((x : Int) == (y : Int)) = false := by rw [beq_eq_false_iff_ne]; omega
        have hbi2 : ((y : Int) == (x : Int)) = false := by rw [beq_eq_false_iff_ne]; omega
        go_wp2_with fail
        try go_quiet (fail)
        go_wp2_with fail
        go_roundw
        case rel => exact ⟨i + 1, by go_num, hlt, HN.out hb, by first | exact hk | exact hk.drewN _⟩
        case measure => simp [intOf]; omega
      · go_wp2_with fail
        try go_quiet (fail)
        go_wp2_with fail
        go_ret
        rw [HF.out (by simp)]
        exact ⟨rfl, by first | exact hk | exact hk.drewN _⟩
    · obtain rfl : i = l.length := Nat.le_antisymm hi hge
      have hof := posM_none (p := fun n => n == x) (l := l) fun j hj => hno j hj _ (List.getElem?_eq_getElem hj)
      go_wp2_with fail
      go_ret
      rw [hof]
      exact ⟨rfl, hk⟩
set_option maxHeartbeats 1000000 in
theorem hasU32_any {v : Value} (l : List Nat) (x : Nat) (hl : Fl A w 1 (fun n : Nat => [.int .u32 (n : Int)]) v l) :
    Calls Tryz.prog 139 #[v, .int .u32 (x : Int)] w fun e w' => e = .returned (.bool (l.contains x)) ∧ Keep No w w' := by
  have hc := idxU32_any l x hl
  have hb : decide (0 ≤ posM (fun n => n == x) l) = l.contains x := by
    unfold posM
    rw [List.contains_eq_any_beq]
    have e : l.any (fun n => n == x) = l.any fun n => x == n := by
      congr 1
      funext n
      exact Bool.beq_comm
    rw [← e]
    cases l.any (fun n => n == x) with
    | false => rfl
    | true => simp
  clear hl
  generalize posM (fun n => n == x) l = r at *
  generalize l.contains x = b at *
  go_enter Tryz.func139, Tryz.ntmps139
  go_wp2_with fail
  refine hc.mono ?_
  rintro e w2 ⟨rfl, hk2⟩
  go_wp2_with fail
  go_ret
  exact ⟨by rw [← hb]; rfl, hk2⟩
set_option maxRecDepth 100000 in
set_option maxHeartbeats 1000000 in
theorem sgkind_any (k : Nat) :
    Calls Tryz.prog 133 #[.int .u32 (k : Int)] w fun e w' => e = .returned (.bool (kindB k)) ∧ Keep No w w' := by
  go_enter Tryz.func133, Tryz.ntmps133
  go_wp2_with fail
  have hkW : Keep No w (w.alloc (.cells #[.int .u32 0, .int .u32 1, .int .u32 2, .int .u32 4, .int .u32 7] 42)) := (Keep.refl _ _).alloc _
  have hBW : Blk (w.alloc (.cells #[.int .u32 0, .int .u32 1, .int .u32 2, .int .u32 4, .int .u32 7] 42)) w.heap.size #[.int .u32 0, .int .u32 1, .int .u32 2, .int .u32 4, .int .u32 7] 42 := Blk.new _ _ _
  have hzW : (w.alloc (.cells #[.int .u32 0, .int .u32 1, .int .u32 2, .int .u32 4, .int .u32 7] 42)).heap.size = w.heap.size + 1 := World.size_alloc _ _
  generalize w.alloc (.cells #[.int .u32 0, .int .u32 1, .int .u32 2, .int .u32 4, .int .u32 7] 42) = W at *
  have hs : Fl (fun j => j = w.heap.size) W 1 (fun n : Nat => [.int .u32 (n : Int)]) (.slice (some ⟨w.heap.size, 0, none⟩) 5 5) [0, 1, 2, 4, 7] := by
    refine Sl.mk (by rfl) rfl hBW.lt (Nat.le_refl _) (by unfold maxLen; omega) fun j u hu => ?_
    rw [hBW.cell, Nat.zero_add, List.getElem?_toArray]
    exact hu
  have hc := hasU32_any _ k hs
  rw [show ([0, 1, 2, 4, 7] : List Nat).contains k = kindB k by
    unfold kindB
    rw [Bool.eq_iff_iff]
    simp] at hc
  refine hc.mono ?_
  rintro e w2 ⟨rfl, hk2⟩
  go_wp2_with fail
  go_ret
  exact ⟨rfl, hkW.trans' hk2⟩
end
end Go.Proofs.YtbnahidopemkiaaGreat
namespace Go.Proofs.YtbnahidopemkiaaGreat
open Go.RowKit Go.Dm Go.Dm.Oc Go.Dm.Ld
section
variable {A : Nat → Prop} {w : World}
set_option maxRecDepth 100000 in
set_option maxHeartbeats 1000000 in
theorem sgpages_any (s : Sg) (hs : SgOk s) (hm : s.va + s.me ≤ 18446744073709551360) :
    Calls Tryz.prog 73 #[.agg (encSg s).toArray] w fun e w' => e = .returned (.tuple #[.int .u64 (firstM s : Nat), .int .u64 (lastM s : Nat)]) ∧ Keep No w w' := by
  have h1 := fun w => odown_any s.va (by omega) w
  have h2 : ∀ w, Calls Tryz.prog 109 #[.int .u64 ((s.va : Int) + (s.me : Int)), .int .u64 256] w fun e w' => e = .returned (.tuple #[.int .u64 (((s.va + s.me + 255) / 256 * 256 : Nat) : Int), .int .i64 0]) ∧ w = w' := fun w => by
    have := oup_any (s.va + s.me) (by omega) w
    rwa [Int.natCast_add] at this
  have hsum : IntKind.u64.wrap ((s.va : Int) + (s.me : Int)) = ((s.va + s.me : Nat) : Int) := by
    rw [IntKind.wrap_u64]
    omega
  unfold firstM lastM
  unfold encSg
  generalize s.va / 256 * 256 = lo at *
  generalize (s.va + s.me + 255) / 256 * 256 = hi at *
  obtain ⟨x0, x1, x2, x3, x4, x5, x6⟩ := s
  dsimp only at *
  go_enter Tryz.func73, Tryz.ntmps73
  go_wp2_with fail
  refine (h1 _).mono ?_
  rintro e W ⟨rfl, rfl⟩
  go_wp2_with fail
  refine (h2 _).mono ?_
  rintro e W2 ⟨rfl, rfl⟩
  go_wp2_with fail
  go_ret2
  exact ⟨rfl, (Keep.refl _ _).alloc _⟩
set_option maxRecDepth 100000 in
set_option maxHeartbeats 1000000 in
theorem sgone_any (s : Sg) (size : Nat) (hs : SgOk s) (hz : size < 18446744073709551616) :
    Calls Tryz.prog 115 #[.agg (encSg s).toArray, .int .u64 (size : Int)] w fun e w' => e = .returned (.int .i64 (oneE s size : Nat)) ∧ Keep No w w' := by
  have h1 := fun w => sgkind_any (w := w) s.ty
  obtain ⟨x0, x1, x2, x3, x4, x5, x6⟩ := s
  obtain ⟨o0, o1, o2, o3, o4, o5, o6⟩ := hs
  unfold encSg
  dsimp only at *
  go_enter Tryz.func115, Tryz.ntmps115
  go_wp2_with fail
  have hkW : Keep No w (w.alloc (.cells #[.int .u32 (x0 : Int), .int .u32 (x1 : Int), .int .u64 (x2 : Int), .int .u64 (x3 : Int), .int .u64 (x4 : Int), .int .u64 (x5 : Int), .int .u64 (x6 : Int)] 113)) := (Keep.refl _ _).alloc _
  have hBW : Blk (w.alloc (.cells #[.int .u32 (x0 : Int), .int .u32 (x1 : Int), .int .u64 (x2 : Int), .int .u64 (x3 : Int), .int .u64 (x4 : Int), .int .u64 (x5 : Int), .int .u64 (x6 : Int)] 113)) w.heap.size #[.int .u32 (x0 : Int), .int .u32 (x1 : Int), .int .u64 (x2 : Int), .int .u64 (x3 : Int), .int .u64 (x4 : Int), .int .u64 (x5 : Int), .int .u64 (x6 : Int)] 113 := Blk.new _ _ _
  have hzW : (w.alloc (.cells #[.int .u32 (x0 : Int), .int .u32 (x1 : Int), .int .u64 (x2 : Int), .int .u64 (x3 : Int), .int .u64 (x4 : Int), .int .u64 (x5 : Int), .int .u64 (x6 : Int)] 113)).heap.size = w.heap.size + 1 := World.size_alloc _ _
  generalize w.alloc (.cells #[.int .u32 (x0 : Int), .int .u32 (x1 : Int), .int .u64 (x2 : Int), .int .u64 (x3 : Int), .int .u64 (x4 : Int), .int .u64 (x5 : Int), .int .u64 (x6 : Int)] 113) = W at *
  refine (h1 _).mono ?_
  rintro e w2 ⟨rfl, hk2⟩
  have hB2 := hBW.keep hk2 fun h => h
  have c0 := hB2.cell 0
  have c1 := hB2.cell 1
  have c2 := hB2.cell 2
  have c3 := hB2.cell 3
  have c4 := hB2.cell 4
  have c5 := hB2.cell 5
  clear hBW hB2 h1
  have hk := hkW.trans' hk2
  clear hkW hk2
  cases hkb : kindB x0 with
  | false =>
    clear c0 c1 c2 c3 c4 c5
    go_wp2_with fail
    go_ret
    refine ⟨?_, hk⟩
    unfold oneE
    rw [if_pos (.inl hkb)]
    rfl
  | true =>
    go_wp2_with fail
    all_goals
      go_ret
      refine ⟨?_, hk⟩
      clear c0 c1 c2 c3 c4 c5 hk hzW
      unfold oneE
      dsimp only
      repeat' split
      all_goals first
        | rfl
        | (exfalso
           simp only [hkb, beq_iff_eq, beq_eq_false_iff_ne, bne_iff_ne, bne_eq_false_iff_eq, decide_eq_true_eq, decide_eq_false_iff_not, ne_eq, not_or, not_and, Bool.and_eq_true, Bool.or_eq_true, Bool.and_eq_false_iff, Bool.or_eq_false_iff, Bool.true_eq_false, Bool.false_eq_true, not_true, not_false_eq_true, reduceCtorEq, false_or, or_false, true_and, and_true] at *
           omega)
set_option maxRecDepth 100000 in
set_option maxHeartbeats 2000000 in
theorem sgwithin1_any (x s : Sg) (q : Nat) (hx : SgOk x) (hs : SgOk s) (hq : ∀ j u, (encSg s)[j]? = some u → w.cell? ⟨q, j, none⟩ = some u) (hql : q < w.heap.size) :
    Calls Tryz.prog 134 #[.agg (encSg x).toArray, .pointer (some ⟨q, 0, none⟩)] w fun e w' => e = .returned (.bool (liesB x s)) ∧ Keep No w w' := by
  have hne : q ≠ w.heap.size := Nat.ne_of_lt hql
  have c2 := hq 2 _ rfl
  have c3 := hq 3 _ rfl
  have c4 := hq 4 _ rfl
  clear hq
  obtain ⟨x0, x1, x2, x3, x4, x5, x6⟩ := x
  obtain ⟨y0, y1, y2, y3, y4, y5, y6⟩ := s
  obtain ⟨o0, o1, o2, o3, o4, o5, o6⟩ := hx
  obtain ⟨p0, p1, p2, p3, p4, p5, p6⟩ := hs
  unfold encSg
  dsimp only at *
  have hw1 : IntKind.u64.wrap ((x3 : Int) - (x2 : Int)) = ((x3 : Int) - (x2 : Int)) % 18446744073709551616 := IntKind.wrap_u64 _
  have hw2 : IntKind.u64.wrap ((y3 : Int) - (y2 : Int)) = ((y3 : Int) - (y2 : Int)) % 18446744073709551616 := IntKind.wrap_u64 _
  go_enter Tryz.func134, Tryz.ntmps134
  go_wp2_with fail
  all_goals
    go_ret
    refine ⟨congrArg (fun b => Ending.returned (Value.bool b)) ?_, (Keep.refl _ _).alloc _⟩
    clear c2 c3 c4 hw1 hw2
    unfold liesB
    dsimp only
    rw [Bool.eq_iff_iff]
    simp only [Bool.and_eq_true, decide_eq_true_eq, beq_iff_eq, Bool.false_eq_true, false_iff, true_iff, not_and] at *
    omega
end
end Go.Proofs.YtbnahidopemkiaaGreat
