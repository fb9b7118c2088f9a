/- What holds ahead of each round of settle, and that each kind of round leaves it. No condition. -/
import Derived.Test.YtkmoomgmmhmaeaaDiskG
namespace Go.Proofs.Ytkmoomgmmhmaeaa
open Go.RowKit Go.Dm Go.Dm.Dk Go.Maps

/-- what holds ahead of the k-th round -/
structure SInv (A C : Nat → Prop) (w : World) (d : Nat) (m : M) (sel : Nat → Bool) (fb : List Nat) (nb sb : Nat) (wv : Value) (rows : List (List Value)) (k : Nat) (lv : Value) (wr : World) : Prop where
  rep : DRep (Plus A w wr) wr d { st sel m k with wait := m.wait } fb nb sb wv rows
  left : ∃ lrows, LeftAt (Plus A w wr) wr w.heap.size fb lv (st sel m k).wait lrows
  keep : Keep (fun j => A j ∨ C j) w wr

theorem flat_at : ∀ (rows : List (List Value)), (∀ r ∈ rows, r.length = 4) → ∀ (k : Nat) (cs : List Value), rows[k]? = some cs → ∀ j, j < 4 → rows.flatten[k * 4 + j]? = cs[j]?
  | [], _, k, cs, h, _, _ => by simp at h
  | r :: t, h4, 0, cs, h, j, hj => by
    simp at h; subst h
    have := h4 r (by simp)
    rw [List.flatten_cons, List.getElem?_append_left (by omega), Nat.zero_mul, Nat.zero_add]
  | r :: t, h4, k + 1, cs, h, j, hj => by
    have h5 := h4 r (by simp)
    rw [List.flatten_cons, List.getElem?_append_right (by rw [h5]; omega), h5, show (k + 1) * 4 + j - 4 = k * 4 + j by omega]
    exact flat_at t (fun r hr => h4 r (by simp [hr])) k cs (by simpa using h) j hj
theorem PendAt.four {A : Nat → Prop} {w : World} {fb : List Nat} {o : Dk.Op} {cs : List Value} (h : PendAt A w fb o cs) : ∃ p0 p1 p2 p3, cs = [p0, p1, p2, p3] ∧ ((o.kind = 1 ∧ p0 = fptr fb o.file ∧ p1 = .int .i64 o.at_ ∧ p3 = .nilFunc ∧ DB A w p2 o.b) ∨ (o.kind ≠ 1 ∧ p0 = .pointer none ∧ p1 = .int .i64 0 ∧ p2 = .slice none 0 0 ∧ NameFn A w fb o p3)) := by
  rcases h with ⟨hk, v, rfl, hb⟩ | ⟨c, rfl, hn⟩
  · exact ⟨_, _, _, _, rfl, .inl ⟨hk, rfl, rfl, rfl, hb⟩⟩
  · refine ⟨_, _, _, _, rfl, .inr ⟨?_, rfl, rfl, rfl, hn⟩⟩
    obtain ⟨x, y, _, _, ⟨h, _⟩ | ⟨h, _⟩ | ⟨h, _⟩⟩ := hn <;> omega
theorem DRep.rows4 {A : Nat → Prop} {w : World} {d : Nat} {m : M} {fb : List Nat} {nb sb : Nat} {wv : Value} {rows : List (List Value)} (h : DRep A w d m fb nb sb wv rows) : ∀ r ∈ rows, r.length = 4 := by
  intro r hr
  obtain ⟨i, hi⟩ := List.getElem?_of_mem hr
  have hl := (List.getElem?_eq_some_iff.1 hi).1
  obtain ⟨cs, h1, h2⟩ := h.pend i _ (List.getElem?_eq_getElem (by rw [← h.rlen]; exact hl))
  obtain ⟨p0, p1, p2, p3, rfl, _⟩ := h2.four
  rw [hi] at h1; cases h1; rfl


section
variable {A C : Nat → Prop} {w wr w3 : World} {d : Nat} {m : M} {sel : Nat → Bool} {fb : List Nat} {nb sb : Nat} {wv lv : Value} {rows : List (List Value)} {k : Nat}

theorem SInv.lt (hI : SInv A C w d m sel fb nb sb wv rows k lv wr) (hA : ∀ k, A k → k < w.heap.size) {j : Nat} (hj : Plus A w wr j) : j < wr.heap.size := by
  have h1 := hI.keep.size
  rcases hj with hj | hj
  · have := hA j hj; omega
  · exact hj.2
theorem SInv.notC (hC : ∀ k, C k → k < w.heap.size ∧ ¬ A k) {j : Nat} (hj : Plus A w wr j) : ¬ C j := by
  intro hc
  have := hC j hc
  rcases hj with hj | hj
  · exact this.2 hj
  · omega
theorem plus_le {A : Nat → Prop} {w a b : World} (h : a.heap.size ≤ b.heap.size) : ∀ j, Plus A w a j → Plus A w b j := fun j hj => hj.imp id fun hj => ⟨hj.1, by omega⟩

/-- other memory is turned, or new -/
theorem SInv.carry (hI : SInv A C w d m sel fb nb sb wv rows k lv wr) (hA : ∀ k, A k → k < w.heap.size) (hC : ∀ k, C k → k < w.heap.size ∧ ¬ A k) (hk : Keep C wr w3) : SInv A C w d m sel fb nb sb wv rows k lv w3 := by
  have e : ∀ j, Plus A w wr j → w3.heap[j]? = wr.heap[j]? := fun j hj => hk.block j (hI.lt hA hj) (SInv.notC hC hj)
  obtain ⟨lrows, hl⟩ := hI.left
  exact ⟨(hI.rep.same hk.size e).mono fun j _ => plus_le hk.size j, ⟨lrows, (hl.same hk.size fun j hj _ => e j hj).mono fun j _ => plus_le hk.size j⟩, hI.keep.trans hk fun j _ hc => .inr hc⟩

/-- one operation is left -/
theorem SInv.pushed {w4 w5 : World} {v' p0 p1 p2 p3 : Value} {o : Dk.Op} {lrows : List (List Value)} (hI : SInv A C w d m sel fb nb sb wv rows k lv w3) (hA : ∀ k, A k → k < w.heap.size) (hwv : ∀ g, wv.ownBlock = some g → g < w.heap.size)
    (ho : m.wait[k]? = some o) (hs : sel k = false) (hl : LeftAt (Plus A w w3) w3 w.heap.size fb lv (st sel m k).wait lrows) (hp : PendAt (Plus A w w3) w3 fb o [p0, p1, p2, p3]) (k4 : Keep No w3 w4)
    (hrow : w5.ownsRow w.heap.size 73 4 v' ((st sel m k).wait.length + 1) (lrows.flatten ++ [p0, p1, p2, p3])) (k5 : Keep (fun j => some j = lv.ownBlock) w4 w5) (hloc : v'.ownBlock = lv.ownBlock ∨ v'.ownBlock = some w4.heap.size) :
    SInv A C w d m sel fb nb sb wv rows (k + 1) v' w5 ∧ Keep (fun j => w.heap.size ≤ j) w3 w5 := by
  have hst : st sel m (k + 1) = { st sel m k with wait := (st sel m k).wait ++ [o] } := by rw [st_succ sel m ho]; simp [settle1, hs]
  have hsz : w3.heap.size ≤ w5.heap.size := Nat.le_trans k4.size k5.size
  have hlg : ∀ j, some j = lv.ownBlock → w.heap.size ≤ j := fun j hj => (hl.row.lt j hj.symm).1
  have hB : ∀ j, j < w3.heap.size → ¬ some j = lv.ownBlock → w5.heap[j]? = w3.heap[j]? := fun j hj h1 => by
    rw [k5.block j (Nat.lt_of_lt_of_le hj k4.size) h1]; exact k4.block j hj fun h => h
  have hK : Keep (fun j => w.heap.size ≤ j) w3 w5 := (k4.mono fun _ _ h => h.elim).trans k5 fun j _ hj => hlg j hj
  have hT : ∀ (j : Nat) (cs : Array Value) (t : TypeId) (fr : Nat × Nat), w3.heap[j]? = some (Obj.cells cs t fr) → t ≠ 73 → w5.heap[j]? = w3.heap[j]? := by
    intro j cs t fr hk h1
    refine hB j (Array.getElem?_eq_some_iff.1 hk).1 ?_
    intro e
    rcases hl.row.2 with ⟨rfl, _⟩ | ⟨g, cap, cur, rfl, _, hb, _⟩
    · cases e
    · cases e
      rw [hk] at hb; cases hb; exact h1 rfl
  have hrep : DRep (Plus A w w3) w5 d { st sel m k with wait := m.wait } fb nb sb wv rows := by
    refine hI.rep.tags hsz fun j hj => ?_
    by_cases e : some j = lv.ownBlock
    · refine .inl ?_
      rcases hl.row.2 with ⟨rfl, _⟩ | ⟨g, cap, cur, rfl, hg, hb, _⟩
      · cases e
      · cases e
        exact ⟨_, _, hb, fun h => absurd (hwv _ h) (Nat.not_lt.2 hg)⟩
    · exact .inr (hB j (hI.lt hA hj) e)
  have hleft : LeftAt (Plus A w w5) w5 w.heap.size fb v' ((st sel m k).wait ++ [o]) (lrows ++ [[p0, p1, p2, p3]]) := by
    refine ⟨by simpa [List.flatten_append] using hrow, ?_, by simp [hl.rlen], ?_⟩
    · intro g hg
      rcases hloc with e | e
      · exact plus_le hsz g (hl.rowA g (e.symm.trans hg))
      · rw [e] at hg; cases hg
        exact .inr (hrow.lt _ e)
    · intro i o' ho'
      rcases Nat.lt_or_ge i (st sel m k).wait.length with hi | hi
      · rw [List.getElem?_append_left hi] at ho'
        obtain ⟨cs, h1, h2⟩ := hl.pend i o' ho'
        exact ⟨cs, by rw [List.getElem?_append_left (by rw [hl.rlen]; exact hi)]; exact h1,
          (h2.same hsz fun j _ ⟨cs, fr, t, hk, ht⟩ => hT j cs t fr hk (by rcases ht with rfl | rfl | rfl <;> decide)).mono fun j _ => plus_le hsz j⟩
      · have hi2 : i = (st sel m k).wait.length := by
          have := (List.getElem?_eq_some_iff.1 ho').1
          simp at this; omega
        subst hi2
        simp at ho'
        subst ho'
        exact ⟨_, by rw [List.getElem?_append_right (by rw [hl.rlen]; exact Nat.le_refl _), hl.rlen]; simp,
          (hp.same hsz fun j _ ⟨cs, fr, t, hk, ht⟩ => hT j cs t fr hk (by rcases ht with rfl | rfl | rfl <;> decide)).mono fun j _ => plus_le hsz j⟩
  refine ⟨⟨?_, ⟨lrows ++ [[p0, p1, p2, p3]], ?_⟩, hI.keep.trans hK fun j hj h => absurd hj (by omega)⟩, hK⟩
  · rw [hst]; exact hrep.mono fun j _ => plus_le hsz j
  · rw [hst]; exact hleft

/-- a write is made sure -/
theorem SInv.filed {w4 : World} {o : Dk.Op} (hI : SInv A C w d m sel fb nb sb wv rows k lv w3) (ho : m.wait[k]? = some o) (hs : sel k = true) (hk1 : o.kind = 1) (k4 : Keep No w3 w4)
    (hb : Blk w4 w3.heap.size ((laidB ((st sel m k).sure.getD o.file []) o.at_ o.b).map bv).toArray 5) (hll : (laidB ((st sel m k).sure.getD o.file []) o.at_ o.b).length ≤ maxLen) {nv : Value}
    (hnv : nv = .slice (some ⟨w3.heap.size, 0, none⟩) (laidB ((st sel m k).sure.getD o.file []) o.at_ o.b).length (laidB ((st sel m k).sure.getD o.file []) o.at_ o.b).length) :
    SInv A C w d m sel fb nb sb wv rows (k + 1) lv (w4.setCell ⟨fb.getD o.file 0, 1, none⟩ nv) ∧ Keep (Plus A w w3) w3 (w4.setCell ⟨fb.getD o.file 0, 1, none⟩ nv) := by
  have hm : o ∈ m.wait := List.mem_of_getElem? ho
  have hlive : Live { st sel m k with wait := m.wait } o.file := .inr (.inr ⟨o, hm, .inl hk1, rfl⟩)
  obtain ⟨hfl, hfA, v1, v2, hblk, hv1, hv2⟩ := hI.rep.file o.file hlive
  have hbl := hblk.lt
  have hblk4 := hblk.keep k4 fun h => h
  have hst : st sel m (k + 1) = { st sel m k with sure := putF (st sel m k).sure o.file (laidB ((st sel m k).sure.getD o.file []) o.at_ o.b) } := by rw [st_succ sel m ho]; simp [settle1, hs, hk1]
  have hset := hblk4.set (i := 1) nv
  generalize hw5 : w4.setCell ⟨fb.getD o.file 0, 1, none⟩ nv = w5 at *
  have hB : ∀ j, j < w3.heap.size → j ≠ fb.getD o.file 0 → w5.heap[j]? = w3.heap[j]? := fun j hj h1 => by
    rw [← hw5, Below.heap_setCell _ _ _ _ h1]; exact k4.block j hj fun h => h
  have hsz4 : w4.heap.size = w5.heap.size := by rw [← hw5]; simp
  have hsz : w3.heap.size ≤ w5.heap.size := by rw [← hsz4]; exact k4.size
  have hT : ∀ (j : Nat) (cs : Array Value) (t : TypeId) (fr : Nat × Nat), w3.heap[j]? = some (Obj.cells cs t fr) → t ≠ 67 → w5.heap[j]? = w3.heap[j]? := by
    intro j cs t fr hk h1
    refine hB j (Array.getElem?_eq_some_iff.1 hk).1 ?_
    rintro rfl
    rw [show w3.heap[_]? = _ from hblk] at hk; cases hk; exact h1 rfl
  have hne : w3.heap.size ≠ fb.getD o.file 0 := by omega
  have hDB : DB (Plus (Plus A w w3) w3 w5) w5 nv (laidB ((st sel m k).sure.getD o.file []) o.at_ o.b) := by
    have hb5 := hb.set_other (a := ⟨fb.getD o.file 0, 1, none⟩) hne nv
    rw [hw5] at hb5
    rw [hnv]
    refine (DB.blk hb5 hll).mono fun j hj e => ?_
    have e : j = w3.heap.size := e
    subst e
    exact .inr ⟨Nat.le_refl _, hj⟩
  have hv1' : DB (Plus (Plus A w w3) w3 w5) w5 v1 ((st sel m k).is.getD o.file []) :=
    (hv1.same hsz fun j _ _ ⟨cs, fr, hk⟩ => hT j cs _ fr hk (by decide)).mono fun j _ ha => .inl ha
  have hfl2 : o.file < (st sel m k).sure.length := by rw [hI.rep.sl]; exact hfl
  have hD := hI.rep.filed (m' := { st sel m k with sure := putF (st sel m k).sure o.file (laidB ((st sel m k).sure.getD o.file []) o.at_ o.b), wait := m.wait }) (v' := nv) (j := 1) k4 hfl ⟨rfl, rfl, rfl, rfl, rfl, rfl⟩ rfl (by simp [putF])
    (fun j hj => ⟨rfl, by simp [putF, List.getD, List.getElem?_set_ne (Ne.symm hj)]⟩) hlive (by
      rw [hw5]
      exact ⟨v1, _, hset, hv1', by simpa [putF, List.getD, hfl2] using hDB⟩)
  rw [hw5] at hD
  have hP : ∀ j, Plus (Plus A w w3) w3 w5 j → Plus A w w5 j := by
    have := hI.keep.size
    intro j hj
    rcases hj with hj | hj
    · exact plus_le hsz j hj
    · exact .inr ⟨by omega, hj.2⟩
  have hK : Keep (Plus A w w3) w3 w5 := by
    rw [← hw5]
    exact (k4.mono fun _ _ h => h.elim).setCell (fun _ => hfA) _
  obtain ⟨lrows, hl⟩ := hI.left
  refine ⟨⟨?_, ⟨lrows, ?_⟩, hI.keep.trans hK fun j hj h => ?_⟩, hK⟩
  · rw [hst]; exact hD.mono fun j _ => hP j
  · rw [hst]
    exact (hl.same hsz fun j _ ⟨cs, fr, t, hk, ht⟩ => hT j cs t fr hk (by rcases ht with rfl | rfl | rfl | rfl <;> decide)).mono fun j _ => plus_le hsz j
  · rcases h with h | h
    · exact .inl h
    · omega

/-- a change of names is made sure -/
theorem SInv.named {w4 : World} {o : Dk.Op} (hI : SInv A C w d m sel fb nb sb wv rows k lv w3) (ho : m.wait[k]? = some o) (hs : sel k = true) (hk1 : o.kind ≠ 1) (k4 : Keep (fun j => j = sb) w3 w4)
    (hm : MapL Try.prog 9 w4 sb (NL fb (namesOp (st sel m k).S o))) :
    SInv A C w d m sel fb nb sb wv rows (k + 1) lv w4 ∧ Keep (Plus A w w3) w3 w4 := by
  have hmem : o ∈ m.wait := List.mem_of_getElem? ho
  have hst : st sel m (k + 1) = { st sel m k with S := namesOp (st sel m k).S o } := by rw [st_succ sel m ho]; simp [settle1, hs, hk1]
  have hD := hI.rep.smapped (S' := namesOp (st sel m k).S o) k4 hm fun i ⟨s, hi⟩ => by
    rcases mem_namesOp hi with hi | ⟨h2, rfl⟩
    · exact .inr (.inl hi)
    · exact .inr (.inr ⟨o, hmem, .inr h2, rfl⟩)
  obtain ⟨lrows, hl⟩ := hI.left
  have hK : Keep (Plus A w w3) w3 w4 := k4.mono fun j _ e => by subst e; exact hI.rep.As
  refine ⟨⟨?_, ⟨lrows, ?_⟩, hI.keep.trans hK fun j hj h => ?_⟩, hK⟩
  · rw [hst]; exact hD.mono fun j _ => plus_le k4.size j
  · rw [hst]
    refine (hl.same k4.size fun j _ ⟨cs, fr, t, hk, ht⟩ => k4.block j (Array.getElem?_eq_some_iff.1 hk).1 ?_).mono fun j _ => plus_le k4.size j
    rintro rfl
    obtain ⟨es, c, e⟩ := hI.rep.sm.obj
    rw [e] at hk; cases hk
  · rcases h with h | h
    · exact .inl h
    · omega
end
end Go.Proofs.Ytkmoomgmmhmaeaa
