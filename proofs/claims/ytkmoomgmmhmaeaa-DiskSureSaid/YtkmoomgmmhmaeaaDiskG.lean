/- Settling: what it is step by step (no program), and what each step leaves of the disk in memory. No condition. -/
import Derived.Test.YtkmoomgmmhmaeaaDiskF
import Derived.Test.YtkmoomgmmhmaeaaDiskY
namespace Go.Dm.Dk

theorem settleGo_snoc (sel : Nat → Bool) (o : Op) : ∀ (l : List Op) (i : Nat) (m : M), settleGo sel i (l ++ [o]) m = settle1 (sel (i + l.length)) o (settleGo sel i l m)
  | [], i, m => by simp [settleGo]
  | p :: r, i, m => by
    simp only [List.cons_append, settleGo, List.length_cons]
    rw [settleGo_snoc sel o r]
    congr 2; omega
def st (sel : Nat → Bool) (m : M) (k : Nat) : M := settleGo sel 0 (m.wait.take k) { m with wait := [] }
theorem st_zero (sel : Nat → Bool) (m : M) : st sel m 0 = { m with wait := [] } := rfl
theorem st_succ (sel : Nat → Bool) (m : M) {k : Nat} {o : Op} (h : m.wait[k]? = some o) : st sel m (k + 1) = settle1 (sel k) o (st sel m k) := by
  unfold st
  have hk := (List.getElem?_eq_some_iff.1 h).1
  rw [List.take_add_one, h, Option.toList_some, settleGo_snoc]
  congr 2
  rw [List.length_take]; omega
theorem st_all (sel : Nat → Bool) (m : M) : st sel m m.wait.length = settle m sel := by
  unfold st settle; rw [List.take_length]

/-- no number of what is settled is too great -/
structure FitW (m : M) : Prop where
  wl : m.wait.length ≤ 1099511627776
  sl : m.S.length + m.wait.length ≤ 1099511627776
  ul : ∀ f, (m.sure.getD f []).length ≤ 1099511627776
  wb : ∀ o ∈ m.wait, o.at_ + o.b.length ≤ 1099511627776 ∧ o.frm.length ≤ maxLen ∧ o.to.length ≤ maxLen

structure StOk (m s : M) (k : Nat) : Prop where
  room : s.room = m.room
  is : s.is = m.is
  L : s.L = m.L
  off : s.off = m.off
  cut : s.cut = m.cut
  sl : s.sure.length = m.sure.length
  sub : ∀ o ∈ s.wait, o ∈ m.wait
  wl : s.wait.length ≤ k
  S : s.S.length ≤ m.S.length + k
  ul : ∀ f, (s.sure.getD f []).length ≤ 1099511627776

theorem length_withN (L : Names) (s : List UInt8) (i : Nat) : (withN L s i).length ≤ L.length + 1 := by
  unfold withN without
  rw [List.length_append]
  have := List.length_filter_le (fun p : List UInt8 × Nat => p.1 != s) L
  simp; omega
theorem length_without (L : Names) (s : List UInt8) : (without L s).length ≤ L.length := List.length_filter_le _ _
theorem length_namesOp (L : Names) (o : Op) : (namesOp L o).length ≤ L.length + 1 := by
  unfold namesOp
  split
  · exact length_withN _ _ _
  · split
    · have := length_without L o.frm; omega
    · split
      · omega
      · next f _ =>
        have h1 := length_withN (without L o.frm) o.to f
        have h2 := length_without L o.frm
        omega

theorem stOk (sel : Nat → Bool) (m : M) (hf : FitW m) : ∀ k, k ≤ m.wait.length → StOk m (st sel m k) k
  | 0, _ => by rw [st_zero]; exact ⟨rfl, rfl, rfl, rfl, rfl, rfl, fun o h => (by cases h), Nat.le_refl _, Nat.le_refl _, hf.ul⟩
  | k + 1, hk => by
    have ih := stOk sel m hf k (by omega)
    obtain ⟨o, ho⟩ : ∃ o, m.wait[k]? = some o := ⟨_, List.getElem?_eq_getElem (by omega)⟩
    have hm : o ∈ m.wait := List.mem_of_getElem? ho
    rw [st_succ sel m ho]
    unfold settle1
    split
    · refine { ih with sub := fun p hp => ?_, wl := ?_, S := ?_ }
      · rcases List.mem_append.1 hp with hp | hp
        · exact ih.sub p hp
        · simp at hp; subst hp; exact hm
      · have := ih.wl; simp; omega
      · have := ih.S; show (st sel m k).S.length ≤ m.S.length + (k + 1); omega
    · split
      · refine { ih with sl := ?_, wl := ?_, S := ?_, ul := ?_ }
        · simp [putF, ih.sl]
        · have := ih.wl; show (st sel m k).wait.length ≤ k + 1; omega
        · have := ih.S; show (st sel m k).S.length ≤ m.S.length + (k + 1); omega
        · intro f
          have h1 := ih.ul f
          have h2 := (hf.wb o hm).1
          simp only [putF, List.getD, List.getElem?_set]
          split
          · next e =>
            subst e
            split
            · have h3 := ih.ul o.file
              simp only [List.getD] at h3
              rw [Option.getD_some, length_laidB]; omega
            · simp
          · exact h1
      · refine { ih with wl := ?_, S := ?_ }
        · have := ih.wl; show (st sel m k).wait.length ≤ k + 1; omega
        · have := ih.S
          have h1 := length_namesOp (st sel m k).S o
          show (namesOp (st sel m k).S o).length ≤ m.S.length + (k + 1); omega
end Go.Dm.Dk

namespace Go.Proofs.Ytkmoomgmmhmaeaa
open Go.RowKit Go.Dm Go.Dm.Dk Go.Maps

/-- rows of waiting operations that don't belong to the disk (yet) -/
structure LeftAt (A : Nat → Prop) (w : World) (base : Nat) (fb : List Nat) (lv : Value) (W : List Dk.Op) (lrows : List (List Value)) : Prop where
  row : w.ownsRow base 73 4 lv W.length lrows.flatten
  rowA : ∀ g, lv.ownBlock = some g → A g
  rlen : lrows.length = W.length
  pend : ∀ (i : Nat) (o : Dk.Op), W[i]? = some o → ∃ cs : List Value, lrows[i]? = some cs ∧ PendAt A w fb o cs

theorem LeftAt.same {A : Nat → Prop} {w w' : World} {base : Nat} {fb : List Nat} {lv : Value} {W : List Dk.Op} {lrows : List (List Value)} (h : LeftAt A w base fb lv W lrows) (hs : w.heap.size ≤ w'.heap.size)
    (e : ∀ k, A k → (∃ cs fr t, w.heap[k]? = some (.cells cs t fr) ∧ (t = 64 ∨ t = 9 ∨ t = 5 ∨ t = 73)) → w'.heap[k]? = w.heap[k]?) : LeftAt A w' base fb lv W lrows where
  row := by
    refine ownsRow_same h.row fun g hg => ?_
    rcases h.row.2 with ⟨rfl, _⟩ | ⟨g', cap, cur, rfl, _, hb, _⟩
    · cases hg
    · cases hg; exact e _ (h.rowA _ rfl) ⟨_, _, _, hb, by simp⟩
  rowA := h.rowA
  rlen := h.rlen
  pend := fun i o ho => by
    obtain ⟨cs, h1, h2⟩ := h.pend i o ho
    refine ⟨cs, h1, h2.same hs fun k ha ⟨cs, fr, t, hk, ht⟩ => e k ha ⟨cs, fr, t, hk, ?_⟩⟩
    rcases ht with h | h | h <;> simp [h]
theorem LeftAt.mono {A B : Nat → Prop} {w : World} {base : Nat} {fb : List Nat} {lv : Value} {W : List Dk.Op} {lrows : List (List Value)} (h : LeftAt A w base fb lv W lrows) (hab : ∀ k, k < w.heap.size → A k → B k) : LeftAt B w base fb lv W lrows where
  row := h.row
  rowA := fun g hg => hab g (h.row.lt g hg).2 (h.rowA g hg)
  rlen := h.rlen
  pend := fun i o ho => by
    obtain ⟨cs, h1, h2⟩ := h.pend i o ho
    exact ⟨cs, h1, h2.mono hab⟩

/-- other rows of waiting operations are written -/
theorem DRep.tags {A : Nat → Prop} {w w' : World} {d : Nat} {m : M} {fb : List Nat} {nb sb : Nat} {wv : Value} {rows : List (List Value)} (h : DRep A w d m fb nb sb wv rows) (hs : w.heap.size ≤ w'.heap.size)
    (e : ∀ k, A k → (∃ cs fr, w.heap[k]? = some (.cells cs 73 fr) ∧ ¬ wv.ownBlock = some k) ∨ w'.heap[k]? = w.heap[k]?) : DRep A w' d m fb nb sb wv rows := by
  have hT : ∀ (k : Nat) (cs : Array Value) (t : TypeId) (fr : Nat × Nat), A k → w.heap[k]? = some (Obj.cells cs t fr) → t ≠ 73 → w'.heap[k]? = w.heap[k]? := by
    intro k cs t fr ha hk h1
    rcases e k ha with ⟨cs', fr', h2, _⟩ | h2
    · rw [hk] at h2; cases h2; exact absurd rfl h1
    · exact h2
  have hM : ∀ {b : Nat} {L : List (Lit × Value)}, A b → MapL Try.prog 9 w b L → w'.heap[b]? = w.heap[b]? := by
    intro b L ha hm
    rcases e b ha with ⟨cs', fr', h2, _⟩ | h2
    · obtain ⟨es, c, h3⟩ := hm.obj
      rw [h3] at h2; cases h2
    · exact h2
  refine { blk := h.blk.same (hT _ _ _ _ h.Ad h.blk (by decide)), nm := h.nm.same (hM h.An h.nm), sm := h.sm.same (hM h.As h.sm), ne := h.ne, row := ownsRow_same h.row fun g hg => ?_, rowA := h.rowA, rlen := h.rlen, pend := ?_, fl := h.fl, sl := h.sl, nd := h.nd, fbl := fun b hb => Nat.lt_of_lt_of_le (h.fbl b hb) hs, file := ?_, Ad := h.Ad, An := h.An, As := h.As }
  · rcases e g (h.rowA g hg) with ⟨_, _, _, h2⟩ | h2
    · exact absurd hg h2
    · exact h2
  · intro i o ho
    obtain ⟨cs, h1, h2⟩ := h.pend i o ho
    exact ⟨cs, h1, h2.same hs fun k ha ⟨cs, fr, t, hk, ht⟩ => hT k cs t fr ha hk (by rcases ht with rfl | rfl | rfl <;> decide)⟩
  · intro i hi
    obtain ⟨h1, h2, h3⟩ := h.file i hi
    obtain ⟨v1, v2, h4, _⟩ := id h3
    exact ⟨h1, h2, h3.same hs (hT _ _ _ _ h2 h4 (by decide)) fun k _ ha ⟨cs, fr, hk⟩ => hT k cs _ fr ha hk (by decide)⟩

/-- the map of sure names is another one -/
theorem DRep.smapped {A : Nat → Prop} {w w' : World} {d : Nat} {m : M} {fb : List Nat} {nb sb : Nat} {wv : Value} {rows : List (List Value)} {S' : Names} (h : DRep A w d m fb nb sb wv rows) (hk : Keep (fun k => k = sb) w w')
    (hm : MapL Try.prog 9 w' sb (NL fb S')) (hS : ∀ i, (∃ s, (s, i) ∈ S') → Live m i) : DRep A w' d { m with S := S' } fb nb sb wv rows := by
  have hT : ∀ (k : Nat) (cs : Array Value) (t : TypeId) (fr : Nat × Nat), w.heap[k]? = some (Obj.cells cs t fr) → w'.heap[k]? = w.heap[k]? := by
    intro k cs t fr hk2
    refine hk.block k (Array.getElem?_eq_some_iff.1 hk2).1 ?_
    rintro rfl
    obtain ⟨es, c, e⟩ := h.sm.obj
    rw [e] at hk2; cases hk2
  have hL : ∀ i, Live { m with S := S' } i → Live m i := by
    rintro i (hi | hi | hi)
    · exact .inl hi
    · exact hS i hi
    · exact .inr (.inr hi)
  refine { blk := h.blk.same (hT _ _ _ _ h.blk), nm := h.nm.keep hk h.ne, sm := hm, ne := h.ne, row := ownsRow_same h.row fun g hg => ?_, rowA := h.rowA, rlen := h.rlen, pend := ?_, fl := h.fl, sl := h.sl, nd := h.nd, fbl := fun b hb => Nat.lt_of_lt_of_le (h.fbl b hb) hk.size, file := ?_, Ad := h.Ad, An := h.An, As := h.As }
  · rcases h.row.2 with ⟨e, _⟩ | ⟨g', cap, cur, e, _, hb, _⟩
    · subst e; cases hg
    · subst e; cases hg; exact hT _ _ _ _ hb
  · intro i o ho
    obtain ⟨cs, h1, h2⟩ := h.pend i o ho
    exact ⟨cs, h1, h2.same hk.size fun k _ ⟨cs, fr, t, hk, _⟩ => hT k cs t fr hk⟩
  · intro i hi
    obtain ⟨h1, h2, h3⟩ := h.file i (hL i hi)
    obtain ⟨v1, v2, h4, _⟩ := id h3
    exact ⟨h1, h2, h3.same hk.size (hT _ _ _ _ h4) fun k _ _ ⟨cs, fr, hk⟩ => hT k cs _ fr hk⟩

/-- other rows are the disk's from now on -/
theorem DRep.rewait {A : Nat → Prop} {w : World} {d base : Nat} {m : M} {fb : List Nat} {nb sb : Nat} {wv lv : Value} {rows lrows : List (List Value)} {W : List Dk.Op} (h : DRep A w d m fb nb sb wv rows) (hl : LeftAt A w base fb lv W lrows)
    (hW : ∀ o ∈ W, o ∈ m.wait) : DRep A (w.setCell ⟨d, 3, none⟩ lv) d { m with wait := W } fb nb sb lv lrows := by
  have hB : ∀ k, k ≠ d → (w.setCell ⟨d, 3, none⟩ lv).heap[k]? = w.heap[k]? := fun k hk => Below.heap_setCell _ _ _ _ hk
  have hT : ∀ (k : Nat) (cs : Array Value) (t : TypeId) (fr : Nat × Nat), w.heap[k]? = some (Obj.cells cs t fr) → t ≠ 62 → (w.setCell ⟨d, 3, none⟩ lv).heap[k]? = w.heap[k]? := by
    intro k cs t fr hk h1
    refine hB k ?_
    rintro rfl
    rw [show w.heap[k]? = _ from h.blk] at hk; cases hk; exact h1 rfl
  have hs : w.heap.size ≤ (w.setCell ⟨d, 3, none⟩ lv).heap.size := by simp
  have hl2 : LeftAt A (w.setCell ⟨d, 3, none⟩ lv) base fb lv W lrows := hl.same hs fun k _ ⟨cs, fr, t, hk, ht⟩ => hT k cs t fr hk (by rcases ht with rfl | rfl | rfl | rfl <;> decide)
  have hL : ∀ i, Live { m with wait := W } i → Live m i := by
    rintro i (hi | hi | ⟨o, ho, h2⟩)
    · exact .inl hi
    · exact .inr (.inl hi)
    · exact .inr (.inr ⟨o, hW o ho, h2⟩)
  refine { blk := h.blk.set _, nm := h.nm.same (hB _ (h.nm.ne_blk h.blk)), sm := h.sm.same (hB _ (h.sm.ne_blk h.blk)), ne := h.ne, row := ⟨hl2.row.1, hl2.row.2.imp id ?_⟩, rowA := hl.rowA, rlen := hl.rlen, pend := hl2.pend, fl := h.fl, sl := h.sl, nd := h.nd, fbl := fun b hb => Nat.lt_of_lt_of_le (h.fbl b hb) hs, file := ?_, Ad := h.Ad, An := h.An, As := h.As }
  · rintro ⟨g, cap, cur, e, _, r⟩
    exact ⟨g, cap, cur, e, Nat.zero_le _, r⟩
  · intro i hi
    obtain ⟨h1, h2, h3⟩ := h.file i (hL i hi)
    obtain ⟨v1, v2, h4, _⟩ := id h3
    exact ⟨h1, h2, h3.same hs (hT _ _ _ _ h4 (by decide)) fun k _ _ ⟨cs, fr, hk⟩ => hT k cs _ fr hk (by decide)⟩

/-- the closure of a change of names, called with a map of names -/
theorem name_any {A : Nat → Prop} {sb : Nat} {fb : List Nat} {S : Names} {o : Dk.Op} {c : Value} (w : World) (h : NameFn A w fb o c) (hf : o.frm.length ≤ maxLen) (ht : o.to.length ≤ maxLen) (hS : S.length ≤ 1099511627776) (hm : MapL Try.prog 9 w sb (NL fb S)) :
    ∃ f caps, c = .func (.func f) #[] caps ∧ Enters f (#[.map (some sb)] ++ caps) ∧ Calls Try.prog f (#[.map (some sb)] ++ caps) w fun e w' => e = .returned (.tuple #[]) ∧ MapL Try.prog 9 w' sb (NL fb (namesOp S o)) ∧ Keep (fun k => k = sb) w w' := by
  obtain ⟨x, y, ax, ay, h⟩ := h
  rcases h with ⟨hk, hc, hx, hy⟩ | ⟨hk, hc, hx, hy⟩ | ⟨hk, hc, hx⟩
  · have e : namesOp S o = withN S o.to o.file := by simp [namesOp, hk]
    rw [e]
    exact ⟨_, _, hc, enters_create21 _ _ _, create21_any o.to w ht hS hm ((hx.cell 0).trans rfl) ((hy.cell 0).trans rfl)⟩
  · have e : namesOp S o = renamed S o.frm o.to := by simp only [namesOp, hk, renamed]; cases find S o.frm <;> rfl
    rw [e]
    exact ⟨_, _, hc, enters_rename21 _ _ _, rename21_any o.frm o.to w hf ht hS hm hx hy⟩
  · have e : namesOp S o = without S o.frm := by simp [namesOp, hk]
    rw [e]
    exact ⟨_, _, hc, enters_remove21 _ _, remove21_any o.frm w hf hm ((hx.cell 0).trans rfl)⟩
theorem mem_namesOp {S : Names} {o : Dk.Op} {s : List UInt8} {i : Nat} (h : (s, i) ∈ namesOp S o) : (∃ s, (s, i) ∈ S) ∨ (o.kind = 2 ∧ o.file = i) := by
  unfold namesOp at h
  split at h
  · next hk =>
    rcases List.mem_append.1 h with h | h
    · exact .inl ⟨s, (List.mem_filter.1 h).1⟩
    · simp at h; exact .inr ⟨hk, h.2.symm⟩
  · split at h
    · exact .inl ⟨s, (List.mem_filter.1 h).1⟩
    · exact .inl (mem_renamed (s := o.frm) (t := o.to) (by unfold renamed; exact h))
end Go.Proofs.Ytkmoomgmmhmaeaa
