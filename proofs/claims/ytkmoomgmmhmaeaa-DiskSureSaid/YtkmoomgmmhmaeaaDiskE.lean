/- An operation of the disk, out of what its two closures do. No condition. -/
import Derived.Test.YtkmoomgmmhmaeaaDiskT
namespace Go.Proofs.Ytkmoomgmmhmaeaa
open Go.RowKit Go.Dm Go.Dm.Dk Go.Maps

/-- one of the disk's own cells (cut, off) is written -/
theorem DRep.set {A : Nat → Prop} {d i : Nat} {m m' : M} {fb : List Nat} {nb sb : Nat} {wv : Value} {rows : List (List Value)} {w : World} (v : Value) (h : DRep A w d m fb nb sb wv rows)
    (e : (#[.int .i64 m.room, .map (some nb), .map (some sb), wv, .bool m.off, .int .i64 m.cut] : Array Value).setIfInBounds i v = #[.int .i64 m'.room, .map (some nb), .map (some sb), wv, .bool m'.off, .int .i64 m'.cut])
    (e1 : m'.is = m.is) (e2 : m'.sure = m.sure) (e3 : m'.L = m.L) (e4 : m'.S = m.S) (e5 : m'.wait = m.wait) : DRep A (w.setCell ⟨d, i, none⟩ v) d m' fb nb sb wv rows := by
  have hW : ∀ k, k ≠ d → (w.setCell ⟨d, i, none⟩ v).heap[k]? = w.heap[k]? := fun k hk => Below.heap_setCell _ _ _ _ hk
  have hT : ∀ (k : Nat) (cs : Array Value) (t : TypeId) (fr : Nat × Nat), w.heap[k]? = some (Obj.cells cs t fr) → t ≠ 62 → (w.setCell ⟨d, i, none⟩ v).heap[k]? = w.heap[k]? := by
    intro k cs t fr hk h1
    refine hW k ?_
    rintro rfl
    rw [show w.heap[k]? = _ from h.blk] at hk; cases hk; exact h1 rfl
  have hle : w.heap.size ≤ (w.setCell ⟨d, i, none⟩ v).heap.size := by simp
  have hL : ∀ j, Live m' j → Live m j := by
    intro j hj
    unfold Live at hj ⊢
    rw [e3, e4, e5] at hj
    exact hj
  refine { blk := ?_, nm := by rw [e3]; exact h.nm.same (hW _ (h.nm.ne_blk h.blk)), sm := by rw [e4]; exact h.sm.same (hW _ (h.sm.ne_blk h.blk)), ne := h.ne, row := ?_, rowA := h.rowA, rlen := by rw [e5]; exact h.rlen, pend := ?_, fl := by rw [e1]; exact h.fl, sl := by rw [e1, e2]; exact h.sl, nd := h.nd, fbl := by simpa using h.fbl, file := ?_, Ad := h.Ad, An := h.An, As := h.As }
  · have := h.blk.set (i := i) v
    rw [e] at this
    exact this
  · rw [e5]
    exact ownsRow_same h.row fun g hg => hW g fun e => by subst e; exact own_ne h.row h.blk (by decide) hg.symm
  · intro j o ho
    rw [e5] at ho
    obtain ⟨cs, h1, h2⟩ := h.pend j o ho
    exact ⟨cs, h1, h2.same hle fun k _ ⟨cs, fr, t, hk, ht⟩ => hT k cs t fr hk (by rcases ht with rfl | rfl | rfl <;> decide)⟩
  · intro j hj
    obtain ⟨h1, h2, h3⟩ := h.file j (hL j hj)
    obtain ⟨v1, v2, h4, _⟩ := id h3
    rw [e1, e2]
    exact ⟨h1, h2, h3.same hle (hT _ _ _ _ h4 (by decide)) fun k _ _ ⟨cs, fr, hk⟩ => hT k cs _ fr hk (by decide)⟩

theorem DR.lt {A : Nat → Prop} {d : Nat} {m : M} {w : World} (h : DR A w d m) : A d ∧ d < w.heap.size := by
  obtain ⟨fb, nb, sb, wv, rows, h⟩ := h
  exact ⟨h.Ad, h.blk.lt⟩
theorem DR.setCut {A : Nat → Prop} {d : Nat} {m : M} {w : World} (h : DR A w d m) (k : Nat) : DR A (w.setCell ⟨d, 5, none⟩ (.int .i64 k)) d { m with cut := k } := by
  obtain ⟨fb, nb, sb, wv, rows, h⟩ := h
  exact ⟨fb, nb, sb, wv, rows, h.set _ rfl rfl rfl rfl rfl rfl⟩
theorem DR.setOff {A : Nat → Prop} {d : Nat} {m : M} {w : World} (h : DR A w d m) (b : Bool) : DR A (w.setCell ⟨d, 4, none⟩ (.bool b)) d { m with off := b } := by
  obtain ⟨fb, nb, sb, wv, rows, h⟩ := h
  exact ⟨fb, nb, sb, wv, rows, h.set _ rfl rfl rfl rfl rfl rfl⟩

theorem step_all {A B : Nat → Prop} {d f1 f2 : Nat} {c1 c2 : Array Value} {m : M} (kind : Nat) (a b : List UInt8) (at_ : Int) (body : List UInt8) (w : World) (h : DR A w d m) (hA : ∀ k, A k → k < w.heap.size) (hAB : ∀ k, A k → B k)
    (hcut : m.cut ≤ 9223372036854775807) (hf1 : Enters f1 c1) (hf2 : Enters f2 c2)
    (hown : m.off = false → Calls Try.prog f1 c1 w fun e w' => e = .returned (.int .i64 (own m kind a b at_ body : Nat)) ∧ Keep No w w')
    (hdo : ∀ w1, own m kind a b at_ body = 0 → DR A w1 d { m with cut := m.cut - 1 } → Keep A w w1 → Calls Try.prog f2 c2 w1 fun e w' => e = .returned (.tuple #[]) ∧ DR (Plus B w1 w') w' d (done { m with cut := m.cut - 1 } kind a b at_ body) ∧ Keep A w1 w') :
    Calls Try.prog 32 #[.pointer (some ⟨d, 0, none⟩), .func (.func f1) #[] c1, .func (.func f2) #[] c2] w fun e w' =>
      e = .returned (.int .i64 ((call m kind a b at_ body).2 : Nat)) ∧ DR (Plus B w w') w' d (call m kind a b at_ body).1 ∧ Keep A w w' := by
  obtain ⟨fb, nb, sb, wv, rows, h0⟩ := id h
  have hl := h.lt
  by_cases hoff : m.off = true
  · have h4 := h0.blk.cell 4
    simp only [hoff, List.getElem?_toArray, List.getElem?_cons_succ, List.getElem?_cons_zero] at h4
    refine (step_off _ _ w h4).mono ?_
    rintro e w' ⟨rfl, rfl⟩
    refine ⟨by simp [call, hoff], ?_, Keep.refl _ _⟩
    have : (call m kind a b at_ body).1 = m := by simp [call, hoff]
    rw [this]
    exact h.mono fun k _ ha => .inl (hAB k ha)
  · have hoff : m.off = false := by simpa using hoff
    have h4 := h0.blk.cell 4
    simp only [hoff, List.getElem?_toArray, List.getElem?_cons_succ, List.getElem?_cons_zero] at h4
    have hc4 : (#[.int .i64 m.room, .map (some nb), .map (some sb), wv, .bool m.off, .int .i64 m.cut] : Array Value)[4]? = some (.bool false) := by rw [hoff]; rfl
    by_cases ho : own m kind a b at_ body = 0
    · rw [ho] at hown
      have e1 : ∀ {x y : M × Nat}, call m kind a b at_ body = (if m.cut = 1 then x else y) → True := fun _ => trivial
      by_cases hc1 : m.cut = 1
      · have e2 : call m kind a b at_ body = ({ m with cut := 0, off := true }, 23) := by simp [call, hoff, ho, hc1]
        refine (step_cut _ w h0.blk hc4 (by rw [hc1]; rfl) hf1 (hown hoff)).mono ?_
        rintro e w' ⟨rfl, w1, hk, rfl⟩
        rw [e2]
        have h1 := h.keep hA hk fun _ _ h => h
        refine ⟨rfl, ((h1.setCut 0).setOff true).mono fun k _ ha => .inl (hAB k ha), ?_⟩
        exact ((hk.mono fun _ _ h => h.elim).setCell (fun _ => hl.1) _).setCell (fun _ => hl.1) _
      · have e2 : call m kind a b at_ body = (done { m with cut := m.cut - 1 } kind a b at_ body, 0) := by simp [call, hoff, ho, hc1]
        rw [e2]
        have fin : ∀ w1 w', Keep A w w1 → DR (Plus B w1 w') w' d (done { m with cut := m.cut - 1 } kind a b at_ body) → Keep A w1 w' →
            DR (Plus B w w') w' d (done { m with cut := m.cut - 1 } kind a b at_ body) ∧ Keep A w w' := by
          intro w1 w' k1 h2 k2
          refine ⟨h2.mono fun k _ ha => ?_, k1.trans' k2⟩
          rcases ha with ha | ⟨ha, hb⟩
          · exact .inl ha
          · exact .inr ⟨Nat.le_trans k1.size ha, hb⟩
        by_cases hc0 : m.cut = 0
        · have e3 : ({ m with cut := m.cut - 1 } : M) = m := by cases m; simp at hc0 ⊢; omega
          refine (step_do0 w (fun w1 w' => DR (Plus B w1 w') w' d (done { m with cut := m.cut - 1 } kind a b at_ body) ∧ Keep A w1 w') h0.blk hc4 (by rw [hc0]; rfl) hf1 hf2 (hown hoff) ?_).mono ?_
          · intro w1 hk
            have hk' : Keep A w w1 := hk.mono fun _ _ h => h.elim
            exact hdo w1 ho (by rw [e3]; exact h.keep hA hk fun _ _ h => h) hk'
          · rintro e w' ⟨rfl, w1, hk, h2, k2⟩
            obtain ⟨r1, r2⟩ := fin w1 w' (hk.mono fun _ _ h => h.elim) h2 k2
            exact ⟨rfl, r1, r2⟩
        · have e4 : ((m.cut - 1 : Nat) : Int) = (m.cut : Int) - 1 := by omega
          refine (step_do1 (m.cut : Int) w (fun w1 w' => DR (Plus B (w1.setCell ⟨d, 5, none⟩ (.int .i64 ((m.cut : Int) - 1))) w') w' d (done { m with cut := m.cut - 1 } kind a b at_ body) ∧ Keep A (w1.setCell ⟨d, 5, none⟩ (.int .i64 ((m.cut : Int) - 1))) w') h0.blk hc4 rfl (by omega) (by omega) hf1 hf2 (hown hoff) ?_).mono ?_
          · intro w1 hk
            have hk' : Keep A w (w1.setCell ⟨d, 5, none⟩ (.int .i64 ((m.cut : Int) - 1))) := (hk.mono fun _ _ h => h.elim).setCell (fun _ => hl.1) _
            refine hdo _ ho ?_ hk'
            have := (h.keep hA hk fun _ _ h => h).setCut (m.cut - 1)
            rw [e4] at this
            exact this
          · rintro e w' ⟨rfl, w1, hk, h2, k2⟩
            obtain ⟨r1, r2⟩ := fin _ w' ((hk.mono fun _ _ h => h.elim).setCell (fun _ => hl.1) _) h2 k2
            exact ⟨rfl, r1, r2⟩
    · refine (step_own _ w (own m kind a b at_ body : Nat) h4 hf1 (hown hoff) (by omega)).mono ?_
      rintro e w' ⟨rfl, hk⟩
      have e2 : call m kind a b at_ body = (m, own m kind a b at_ body) := by simp [call, hoff, ho]
      rw [e2]
      exact ⟨rfl, (h.keep hA hk fun _ _ h => h).mono fun k _ ha => .inl (hAB k ha), hk.mono fun _ _ h => h.elim⟩
end Go.Proofs.Ytkmoomgmmhmaeaa
