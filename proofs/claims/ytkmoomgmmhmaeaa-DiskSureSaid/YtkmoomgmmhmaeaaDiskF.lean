/- The disk behind a store into a file's cell, and behind the append of a pending write. No condition. -/
import Derived.Test.YtkmoomgmmhmaeaaDiskE
namespace Go.Proofs.Ytkmoomgmmhmaeaa
open Go.RowKit Go.Dm Go.Dm.Dk Go.Maps

theorem nodup_getD {fb : List Nat} (h : fb.Nodup) {i j : Nat} (hi : i < fb.length) (hj : j < fb.length) (e : fb.getD i 0 = fb.getD j 0) : i = j := by
  rw [List.getD_eq_getElem?_getD, List.getD_eq_getElem?_getD, List.getElem?_eq_getElem hi, List.getElem?_eq_getElem hj] at e
  exact (List.getElem_inj h).1 e

theorem DB.of_own {w : World} {base : Nat} {v : Value} {l : List UInt8} (h : w.ownsRow base 5 1 v l.length (l.map bv)) : DB (fun k => base ≤ k) w v l := by
  refine Sl.mono (Sl.of_own h) fun k _ ⟨h1, h2⟩ => ?_
  rcases h.2 with ⟨rfl, _⟩ | ⟨g, cap, cur, rfl, hb, hg, _⟩
  · cases h2
  · cases h2
    exact ⟨h1, cur, (0, 0), hg⟩

/-- one of a file's two cells is written, behind new memory -/
theorem DRep.filed {A : Nat → Prop} {d f j : Nat} {m m' : M} {fb : List Nat} {nb sb : Nat} {wv : Value} {rows : List (List Value)} {w w1 : World} {v' : Value} (h : DRep A w d m fb nb sb wv rows) (k1 : Keep No w w1)
    (hf : f < m.is.length) (e0 : m'.room = m.room ∧ m'.L = m.L ∧ m'.S = m.S ∧ m'.wait = m.wait ∧ m'.off = m.off ∧ m'.cut = m.cut) (e1 : m'.is.length = m.is.length) (e2 : m'.sure.length = m.sure.length)
    (e3 : ∀ i, i ≠ f → m'.is.getD i [] = m.is.getD i [] ∧ m'.sure.getD i [] = m.sure.getD i [])
    (hl : Live m f) (hfile : FileAt (Plus A w (w1.setCell ⟨fb.getD f 0, j, none⟩ v')) (w1.setCell ⟨fb.getD f 0, j, none⟩ v') (fb.getD f 0) (m'.is.getD f []) (m'.sure.getD f [])) :
    DRep (Plus A w (w1.setCell ⟨fb.getD f 0, j, none⟩ v')) (w1.setCell ⟨fb.getD f 0, j, none⟩ v') d m' fb nb sb wv rows := by
  obtain ⟨q0, q1, q2, q3, q4, q5⟩ := e0
  obtain ⟨_, hfA, x1, x2, hfb, _⟩ := h.file f hl
  have hW : ∀ k, k < w.heap.size → k ≠ fb.getD f 0 → (w1.setCell ⟨fb.getD f 0, j, none⟩ v').heap[k]? = w.heap[k]? := fun k hk h1 => by
    rw [Below.heap_setCell _ _ _ _ h1]; exact k1.block k hk fun h => h
  have hT : ∀ (k : Nat) (cs : Array Value) (t : TypeId) (fr : Nat × Nat), w.heap[k]? = some (Obj.cells cs t fr) → t ≠ 67 → (w1.setCell ⟨fb.getD f 0, j, none⟩ v').heap[k]? = w.heap[k]? := by
    intro k cs t fr hk h1
    refine hW k (Array.getElem?_eq_some_iff.1 hk).1 ?_
    rintro rfl
    rw [show w.heap[_]? = _ from hfb] at hk; cases hk; exact h1 rfl
  have hle : w.heap.size ≤ (w1.setCell ⟨fb.getD f 0, j, none⟩ v').heap.size := by have := k1.size; simpa using this
  have hP : ∀ k, k < (w1.setCell ⟨fb.getD f 0, j, none⟩ v').heap.size → A k → Plus A w (w1.setCell ⟨fb.getD f 0, j, none⟩ v') k := fun k _ a => .inl a
  have hmap : ∀ {b : Nat} {L : List (Lit × Value)}, MapL Try.prog 9 w b L → b ≠ fb.getD f 0 := fun hm => hm.ne_blk hfb
  have hL : ∀ i, Live m' i → Live m i := by
    intro i hi; unfold Live at hi ⊢; rw [q1, q2, q3] at hi; exact hi
  refine { blk := ?_, nm := by rw [q1]; exact h.nm.same (hW _ h.nm.lt (hmap h.nm)), sm := by rw [q2]; exact h.sm.same (hW _ h.sm.lt (hmap h.sm)), ne := h.ne, row := ?_, rowA := fun g hg => .inl (h.rowA g hg), rlen := by rw [q3]; exact h.rlen, pend := ?_, fl := by rw [e1]; exact h.fl, sl := by rw [e1, e2]; exact h.sl, nd := h.nd, fbl := fun b hb => Nat.lt_of_lt_of_le (h.fbl b hb) hle, file := ?_, Ad := .inl h.Ad, An := .inl h.An, As := .inl h.As }
  · rw [q0, q4, q5]; exact h.blk.same (hT _ _ _ _ h.blk (by decide))
  · rw [q3]
    exact ownsRow_same h.row fun g hg => hW g (h.row.lt g hg).2 fun e => by rw [e] at hg; exact own_ne h.row hfb (by decide) hg.symm
  · intro i o ho
    rw [q3] at ho
    obtain ⟨cs, h1, h2⟩ := h.pend i o ho
    exact ⟨cs, h1, (h2.same hle fun k _ ⟨cs, fr, t, hk, ht⟩ => hT k cs t fr hk (by rcases ht with rfl | rfl | rfl <;> decide)).mono hP⟩
  · intro i hi
    obtain ⟨h1, h2, h3⟩ := h.file i (hL i hi)
    by_cases hif : i = f
    · subst hif
      exact ⟨by rw [e1]; exact h1, .inl h2, hfile⟩
    · obtain ⟨v1, v2, h4, _⟩ := id h3
      rw [(e3 i hif).1, (e3 i hif).2]
      have hne : fb.getD i 0 ≠ fb.getD f 0 := fun e => hif (nodup_getD h.nd (by rw [h.fl]; exact h1) (by rw [h.fl]; exact hf) e)
      exact ⟨by rw [e1]; exact h1, .inl h2, (h3.same hle (hW _ h4.lt hne) fun k _ _ ⟨cs, fr, hk⟩ => hT k cs _ fr hk (by decide)).mono hP⟩

/-- one pending operation more -/
theorem DRep.pushed {A : Nat → Prop} {d : Nat} {m : M} {fb : List Nat} {nb sb : Nat} {wv : Value} {rows : List (List Value)} {w w1 w2 : World} {v' : Value} (h : DRep A w d m fb nb sb wv rows) {o : Dk.Op} {cs : List Value}
    (k1 : Keep No w w1) (hp : PendAt (Plus A w w1) w1 fb o cs) (hlive : (o.kind = 1 ∨ o.kind = 2) → Live m o.file)
    (hrow : w2.ownsRow 0 73 4 v' (m.wait.length + 1) (rows.flatten ++ cs)) (k2 : Keep (fun k => some k = wv.ownBlock) w1 w2) (hloc : v'.ownBlock = wv.ownBlock ∨ v'.ownBlock = some w1.heap.size) :
    DRep (Plus A w (w2.setCell ⟨d, 3, none⟩ v')) (w2.setCell ⟨d, 3, none⟩ v') d { m with wait := m.wait ++ [o] } fb nb sb v' (rows ++ [cs]) ∧ Keep (fun k => k = d ∨ some k = wv.ownBlock) w (w2.setCell ⟨d, 3, none⟩ v') := by
  have hdw : ¬ some d = wv.ownBlock := own_ne h.row h.blk (by decide)
  have hnw : ¬ wv.ownBlock = some nb := own_ne_map h.row h.nm
  have hsw : ¬ wv.ownBlock = some sb := own_ne_map h.row h.sm
  have hne : d ≠ nb := fun e => h.nm.ne_blk h.blk e.symm
  have hne2 : d ≠ sb := fun e => h.sm.ne_blk h.blk e.symm
  have hs1 : w.heap.size ≤ w1.heap.size := k1.size
  have hsz : w1.heap.size ≤ (w2.setCell ⟨d, 3, none⟩ v').heap.size := by have := k2.size; simpa using this
  have hW1 : ∀ k, k < w1.heap.size → k ≠ d → ¬ some k = wv.ownBlock → (w2.setCell ⟨d, 3, none⟩ v').heap[k]? = w1.heap[k]? := by
    intro k hk h2 h3
    rw [Below.heap_setCell _ _ _ _ h2, k2.block k hk h3]
  have hW : ∀ k, k < w.heap.size → k ≠ d → ¬ some k = wv.ownBlock → (w2.setCell ⟨d, 3, none⟩ v').heap[k]? = w.heap[k]? := by
    intro k hk h2 h3
    rw [hW1 k (by omega) h2 h3]; exact k1.block k hk fun h => h
  have hd1 := h.blk.keep k1 fun h => h
  have hrow1 := ownsRow_same (w' := w1) h.row fun g hg => k1.block g (h.row.lt g hg).2 fun h => h
  have hT1 : ∀ (k : Nat) (cs : Array Value) (t : TypeId) (fr : Nat × Nat), w1.heap[k]? = some (Obj.cells cs t fr) → t ≠ 62 → t ≠ 73 → (w2.setCell ⟨d, 3, none⟩ v').heap[k]? = w1.heap[k]? := by
    intro k cs t fr hk h1 h2
    refine hW1 k (Array.getElem?_eq_some_iff.1 hk).1 ?_ ?_
    · rintro rfl
      rw [show w1.heap[k]? = _ from hd1] at hk; cases hk; exact h1 rfl
    · intro e
      rcases hrow1.2 with ⟨rfl, _⟩ | ⟨g, cap, cur, rfl, _, hb, _⟩
      · cases e
      · cases e
        rw [hk] at hb; cases hb; exact h2 rfl
  have hT : ∀ (k : Nat) (cs : Array Value) (t : TypeId) (fr : Nat × Nat), w.heap[k]? = some (Obj.cells cs t fr) → t ≠ 62 → t ≠ 73 → (w2.setCell ⟨d, 3, none⟩ v').heap[k]? = w.heap[k]? := by
    intro k cs t fr hk h1 h2
    have e := k1.block k (Array.getElem?_eq_some_iff.1 hk).1 fun h => h
    rw [← e]
    exact hT1 k cs t fr (e.trans hk) h1 h2
  have hle : w.heap.size ≤ (w2.setCell ⟨d, 3, none⟩ v').heap.size := by omega
  have hP : ∀ k, k < (w2.setCell ⟨d, 3, none⟩ v').heap.size → A k → Plus A w (w2.setCell ⟨d, 3, none⟩ v') k := fun k _ a => .inl a
  have hd2 : Blk w2 d _ _ := hd1.keep k2 hdw
  refine ⟨{ blk := hd2.set v', nm := h.nm.same (hW nb h.nm.lt hne.symm (fun e => hnw e.symm)), sm := h.sm.same (hW sb h.sm.lt hne2.symm (fun e => hsw e.symm)), ne := h.ne, row := ?_, rowA := ?_, rlen := ?_, pend := ?_, fl := h.fl, sl := h.sl, nd := h.nd, fbl := fun b hb => Nat.lt_of_lt_of_le (h.fbl b hb) hle, file := ?_, Ad := .inl h.Ad, An := .inl h.An, As := .inl h.As }, ?_⟩
  · have := ownsRow_same (w' := w2.setCell ⟨d, 3, none⟩ v') hrow fun g hg => Below.heap_setCell _ _ _ _ fun e => by
      have e : g = d := e
      subst e
      exact own_ne hrow hd2 (by decide) hg.symm
    simpa [List.flatten_append] using this
  · intro g hg
    rcases hloc with e | e
    · exact .inl (h.rowA g (e.symm.trans hg))
    · rw [e] at hg; cases hg
      refine .inr ⟨by omega, ?_⟩
      have := (hrow.lt _ e).2
      simpa using this
  · simp [h.rlen]
  · intro i o' ho'
    rcases Nat.lt_or_ge i m.wait.length with hi | hi
    · have ho2 : m.wait[i]? = some o' := by
        rw [← ho']; exact (List.getElem?_append_left hi).symm
      obtain ⟨cs, h1, h2⟩ := h.pend i o' ho2
      refine ⟨cs, ?_, (h2.same hle fun k _ ⟨cs, fr, t, hk, ht⟩ => hT k cs t fr hk (by rcases ht with rfl | rfl | rfl <;> decide) (by rcases ht with rfl | rfl | rfl <;> decide)).mono hP⟩
      rw [List.getElem?_append_left (by rw [h.rlen]; exact hi)]; exact h1
    · have hi2 : i = m.wait.length := by
        have := (List.getElem?_eq_some_iff.1 ho').1
        simp at this; omega
      subst hi2
      simp at ho'
      subst ho'
      refine ⟨cs, by rw [List.getElem?_append_right (by rw [h.rlen]; exact Nat.le_refl _), h.rlen]; simp, ?_⟩
      refine (hp.same hsz fun k _ ⟨cs, fr, t, hk, ht⟩ => hT1 k cs t fr hk (by rcases ht with rfl | rfl | rfl <;> decide) (by rcases ht with rfl | rfl | rfl <;> decide)).mono fun k _ ha => ?_
      rcases ha with ha | ha
      · exact .inl ha
      · exact .inr ⟨ha.1, by omega⟩
  · intro i hi
    have hi' : Live m i := by
      rcases hi with hi | hi | ⟨o', ho', hk, rfl⟩
      · exact .inl hi
      · exact .inr (.inl hi)
      · rcases List.mem_append.1 ho' with ho' | ho'
        · exact .inr (.inr ⟨o', ho', hk, rfl⟩)
        · simp at ho'; subst ho'; exact hlive hk
    obtain ⟨h1, h2, h3⟩ := h.file i hi'
    obtain ⟨v1, v2, h4, _⟩ := id h3
    exact ⟨h1, .inl h2, (h3.same hle (hT _ _ _ _ h4 (by decide) (by decide)) fun k _ _ ⟨cs, fr, hk⟩ => hT k cs _ fr hk (by decide) (by decide)).mono hP⟩
  · exact ⟨k2.os.trans k1.os, k2.tape.trans k1.tape, k2.output.trans k1.output, hle, fun k hk hA' => hW k hk (fun e => hA' (.inl e)) fun e => hA' (.inr e)⟩
end Go.Proofs.Ytkmoomgmmhmaeaa
