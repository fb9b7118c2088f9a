/- Create. No condition. -/
import Derived.Test.YtkmoomgmmhmaeaaDiskS
namespace Go.Proofs.Ytkmoomgmmhmaeaa
open Go.RowKit Go.Dm Go.Dm.Dk Go.Maps

set_option maxRecDepth 100000 in
set_option maxHeartbeats 400000 in
theorem create1_any {nb x y d : Nat} {fb : List Nat} {L : Names} (s : List UInt8) (w : World) (hs : s.length ≤ maxLen) (hn : MapL Try.prog 9 w nb (NL fb L)) (hd : w.cell? ⟨d, 1, none⟩ = some (.map (some nb)))
    (hx : w.cell? ⟨x, 0, none⟩ = some (.string ⟨s.toArray⟩)) (hy : w.cell? ⟨y, 0, none⟩ = some (.pointer (some ⟨d, 0, none⟩))) :
    Calls Try.prog 33 #[.pointer (some ⟨x, 0, none⟩), .pointer (some ⟨y, 0, none⟩)] w fun e w' => e = .returned (.int .i64 ((if s = [] then 1 else if (find L s).isSome then 21 else 0 : Nat) : Int)) ∧ w = w' := by
  by_cases h0 : s = []
  · subst h0
    go_enter Try.func33, Try.ntmps33
    go_wp2_with (first | (at_builtin; refine wl_append rfl _ _ _ _ rfl _ _ rfl rfl ?_) | (at_make; refine wl_make rfl _ _ _ rfl _ _ rfl rfl ?_) | (at_mapUpdate; refine wl_mapUpdate rfl _ _ _ _ rfl _ _ _ rfl rfl rfl ?_) | (at_lookup; refine wl_lookup rfl _ _ _ _ rfl _ _ rfl rfl ?_) | (at_delete; refine wl_delete rfl _ _ _ _ rfl _ _ rfl rfl ?_) | (with_reducible refine wl_len rfl _ _ rfl _ rfl ?_) | (with_reducible refine wl_range rfl _ _ rfl _ rfl ?_) | (with_reducible refine wl_next rfl _ rfl _ rfl ?_) | (with_reducible refine wl_copy rfl _ _ _ _ rfl _ _ rfl rfl ?_) | (with_reducible refine wl_max rfl _ _ _ _ rfl _ _ rfl rfl ?_) | (with_reducible refine wl_min rfl _ _ _ _ rfl _ _ rfl rfl ?_))
    go_ret
    exact ⟨rfl, rfl⟩
  · have h1 : s.isEmpty = false := by cases s <;> simp_all
    cases hf : find L s with
    | none =>
      go_enter Try.func33, Try.ntmps33
      go_wp2_with (first | (at_builtin; refine wl_append rfl _ _ _ _ rfl _ _ rfl rfl ?_) | (at_make; refine wl_make rfl _ _ _ rfl _ _ rfl rfl ?_) | (at_mapUpdate; refine wl_mapUpdate rfl _ _ _ _ rfl _ _ _ rfl rfl rfl ?_) | (at_lookup; refine wl_lookup rfl _ _ _ _ rfl _ _ rfl rfl ?_) | (at_delete; refine wl_delete rfl _ _ _ _ rfl _ _ rfl rfl ?_) | (with_reducible refine wl_len rfl _ _ rfl _ rfl ?_) | (with_reducible refine wl_range rfl _ _ rfl _ rfl ?_) | (with_reducible refine wl_next rfl _ rfl _ rfl ?_) | (with_reducible refine wl_copy rfl _ _ _ _ rfl _ _ rfl rfl ?_) | (with_reducible refine wl_max rfl _ _ _ _ rfl _ _ rfl rfl ?_) | (with_reducible refine wl_min rfl _ _ _ _ rfl _ _ rfl rfl ?_))
      refine (of_any d s _ hs hn hd).mono ?_
      rintro e w1 ⟨rfl, rfl⟩
      simp only [ofV, hf, Option.map_none, Option.getD_none]
      go_wp2_with (first | (at_builtin; refine wl_append rfl _ _ _ _ rfl _ _ rfl rfl ?_) | (at_make; refine wl_make rfl _ _ _ rfl _ _ rfl rfl ?_) | (at_mapUpdate; refine wl_mapUpdate rfl _ _ _ _ rfl _ _ _ rfl rfl rfl ?_) | (at_lookup; refine wl_lookup rfl _ _ _ _ rfl _ _ rfl rfl ?_) | (at_delete; refine wl_delete rfl _ _ _ _ rfl _ _ rfl rfl ?_) | (with_reducible refine wl_len rfl _ _ rfl _ rfl ?_) | (with_reducible refine wl_range rfl _ _ rfl _ rfl ?_) | (with_reducible refine wl_next rfl _ rfl _ rfl ?_) | (with_reducible refine wl_copy rfl _ _ _ _ rfl _ _ rfl rfl ?_) | (with_reducible refine wl_max rfl _ _ _ _ rfl _ _ rfl rfl ?_) | (with_reducible refine wl_min rfl _ _ _ _ rfl _ _ rfl rfl ?_))
      go_ret
      exact ⟨rfl, rfl⟩
    | some i =>
      go_enter Try.func33, Try.ntmps33
      go_wp2_with (first | (at_builtin; refine wl_append rfl _ _ _ _ rfl _ _ rfl rfl ?_) | (at_make; refine wl_make rfl _ _ _ rfl _ _ rfl rfl ?_) | (at_mapUpdate; refine wl_mapUpdate rfl _ _ _ _ rfl _ _ _ rfl rfl rfl ?_) | (at_lookup; refine wl_lookup rfl _ _ _ _ rfl _ _ rfl rfl ?_) | (at_delete; refine wl_delete rfl _ _ _ _ rfl _ _ rfl rfl ?_) | (with_reducible refine wl_len rfl _ _ rfl _ rfl ?_) | (with_reducible refine wl_range rfl _ _ rfl _ rfl ?_) | (with_reducible refine wl_next rfl _ rfl _ rfl ?_) | (with_reducible refine wl_copy rfl _ _ _ _ rfl _ _ rfl rfl ?_) | (with_reducible refine wl_max rfl _ _ _ _ rfl _ _ rfl rfl ?_) | (with_reducible refine wl_min rfl _ _ _ _ rfl _ _ rfl rfl ?_))
      refine (of_any d s _ hs hn hd).mono ?_
      rintro e w1 ⟨rfl, rfl⟩
      simp only [ofV, hf, Option.map_some, Option.getD_some, fptr, ptrTo]
      go_wp2_with (first | (at_builtin; refine wl_append rfl _ _ _ _ rfl _ _ rfl rfl ?_) | (at_make; refine wl_make rfl _ _ _ rfl _ _ rfl rfl ?_) | (at_mapUpdate; refine wl_mapUpdate rfl _ _ _ _ rfl _ _ _ rfl rfl rfl ?_) | (at_lookup; refine wl_lookup rfl _ _ _ _ rfl _ _ rfl rfl ?_) | (at_delete; refine wl_delete rfl _ _ _ _ rfl _ _ rfl rfl ?_) | (with_reducible refine wl_len rfl _ _ rfl _ rfl ?_) | (with_reducible refine wl_range rfl _ _ rfl _ rfl ?_) | (with_reducible refine wl_next rfl _ rfl _ rfl ?_) | (with_reducible refine wl_copy rfl _ _ _ _ rfl _ _ rfl rfl ?_) | (with_reducible refine wl_max rfl _ _ _ _ rfl _ _ rfl rfl ?_) | (with_reducible refine wl_min rfl _ _ _ _ rfl _ _ rfl rfl ?_))
      go_ret
      exact ⟨rfl, rfl⟩

theorem info_pend : (Try.prog.info? 73).map (fun i => (i.zero, i.size, i.bytes)) = some (some (.agg #[.pointer none, .int .i64 0, .slice none 0 0, .nilFunc]), 4, 48) := by kernel_rfl

/-- behind a change of names and the append of its cells -/
theorem DRep.changed {A : Nat → Prop} {d : Nat} {m : M} {fb : List Nat} {nb sb : Nat} {wv : Value} {rows : List (List Value)} {w w1 w2 : World} {ob : Obj} {v' : Value} (h : DRep A w d m fb nb sb wv rows) {o : Dk.Op} {L' : Names} {c : Value}
    (hfn : NameFn A w fb o c) (hfile : ∀ i, Live { m with L := L', wait := m.wait ++ [o] } i → i < m.is.length ∧ A (fb.getD i 0) ∧ FileAt A w (fb.getD i 0) (m.is.getD i []) (m.sure.getD i []))
    (hm : MapL Try.prog 9 w1 nb (NL fb L')) (k1 : Keep (fun k => k = nb) w w1)
    (hrow : w2.ownsRow 0 73 4 v' (m.wait.length + 1) (rows.flatten ++ [.pointer none, .int .i64 0, .slice none 0 0, c])) (k2 : Keep (fun k => some k = wv.ownBlock) (w1.alloc ob) w2)
    (hloc : v'.ownBlock = wv.ownBlock ∨ v'.ownBlock = some (w1.alloc ob).heap.size) :
    DRep (Plus A w (w2.setCell ⟨d, 3, none⟩ v')) (w2.setCell ⟨d, 3, none⟩ v') d { m with L := L', wait := m.wait ++ [o] } fb nb sb v' (rows ++ [[.pointer none, .int .i64 0, .slice none 0 0, c]]) ∧ Keep (fun k => k = nb ∨ k = d ∨ some k = wv.ownBlock) w (w2.setCell ⟨d, 3, none⟩ v') := by
  have hds := h.blk.lt
  have hne : d ≠ nb := fun e => h.nm.ne_blk h.blk e.symm
  have hne2 : d ≠ sb := fun e => h.sm.ne_blk h.blk e.symm
  have hdw : ¬ some d = wv.ownBlock := own_ne h.row h.blk (by decide)
  have hnw : ¬ wv.ownBlock = some nb := own_ne_map h.row h.nm
  have hsw : ¬ wv.ownBlock = some sb := own_ne_map h.row h.sm
  have hs1 : w.heap.size < (w1.alloc ob).heap.size := by have := k1.size; simp; omega
  have hsz : (w1.alloc ob).heap.size ≤ (w2.setCell ⟨d, 3, none⟩ v').heap.size := by have := k2.size; simpa using this
  have hW : ∀ k, k < w.heap.size → k ≠ nb → k ≠ d → ¬ some k = wv.ownBlock → (w2.setCell ⟨d, 3, none⟩ v').heap[k]? = w.heap[k]? := by
    intro k hk h1 h2 h3
    rw [Below.heap_setCell _ _ _ _ h2, k2.block k (by omega) h3, Below.heap_alloc _ _ _ (by have := k1.size; omega)]
    exact k1.block k hk h1
  have hT : ∀ (k : Nat) (cs : Array Value) (t : TypeId) (fr : Nat × Nat), w.heap[k]? = some (Obj.cells cs t fr) → t ≠ 62 → t ≠ 73 → (w2.setCell ⟨d, 3, none⟩ v').heap[k]? = w.heap[k]? := by
    intro k cs t fr hk h1 h2
    refine hW k (Array.getElem?_eq_some_iff.1 hk).1 ?_ ?_ ?_
    · rintro rfl
      obtain ⟨es, c, e⟩ := h.nm.obj
      rw [e] at hk; cases hk
    · rintro rfl
      rw [show w.heap[k]? = _ from h.blk] at hk; cases hk; exact h1 rfl
    · intro e
      rcases h.row.2 with ⟨rfl, _⟩ | ⟨g, cap, cur, rfl, _, hb, _⟩
      · cases e
      · cases e
        rw [hk] at hb; cases hb; exact h2 rfl
  have hle : w.heap.size ≤ (w2.setCell ⟨d, 3, none⟩ v').heap.size := by omega
  have hP : ∀ k, k < (w2.setCell ⟨d, 3, none⟩ v').heap.size → A k → Plus A w (w2.setCell ⟨d, 3, none⟩ v') k := fun k _ a => .inl a
  have hd2 : Blk w2 d _ _ := ((h.blk.keep k1 hne).alloc ob).keep k2 hdw
  refine ⟨{ blk := hd2.set v', nm := ?_, sm := h.sm.same (hW sb h.sm.lt h.ne.symm hne2.symm (fun e => hsw e.symm)), ne := h.ne, row := ?_, rowA := ?_, rlen := ?_, pend := ?_, fl := h.fl, sl := h.sl, nd := h.nd, fbl := fun b hb => Nat.lt_of_lt_of_le (h.fbl b hb) hle, file := ?_, Ad := .inl h.Ad, An := .inl h.An, As := .inl h.As }, ?_⟩
  · refine ((hm.same (Below.heap_alloc _ _ _ hm.lt)).keep k2 (fun e => hnw e.symm)).same (Below.heap_setCell _ _ _ _ hne.symm)
  · have := ownsRow_same (w' := w2.setCell ⟨d, 3, none⟩ v') hrow fun g hg => Below.heap_setCell _ _ _ _ fun e => by
      have e : g = d := e
      subst e
      exact own_ne hrow hd2 (by decide) hg.symm
    simpa [List.flatten_append] using this
  · intro g hg
    rcases hloc with e | e
    · exact .inl (h.rowA g (e.symm.trans hg))
    · rw [e] at hg; cases hg
      refine .inr ⟨by omega, ?_⟩
      have := (hrow.lt _ e).2
      simpa using this
  · simp [h.rlen]
  · intro i o' ho'
    rcases Nat.lt_or_ge i m.wait.length with hi | hi
    · have ho2 : m.wait[i]? = some o' := by
        rw [← ho']; exact (List.getElem?_append_left hi).symm
      obtain ⟨cs, h1, h2⟩ := h.pend i o' ho2
      refine ⟨cs, ?_, (h2.same hle fun k _ ⟨cs, fr, t, hk, ht⟩ => hT k cs t fr hk (by rcases ht with rfl | rfl | rfl <;> decide) (by rcases ht with rfl | rfl | rfl <;> decide)).mono hP⟩
      rw [List.getElem?_append_left (by rw [h.rlen]; exact hi)]; exact h1
    · have hi2 : i = m.wait.length := by
        have := (List.getElem?_eq_some_iff.1 ho').1
        simp at this; omega
      subst hi2
      simp at ho'
      subst ho'
      refine ⟨_, by rw [List.getElem?_append_right (by rw [h.rlen]; exact Nat.le_refl _), h.rlen]; simp, .inr ⟨c, rfl, ?_⟩⟩
      exact (hfn.same fun k _ ⟨cs, fr, hk⟩ => by
        rcases hk with hk | hk
        · exact hT k cs _ fr hk (by decide) (by decide)
        · exact hT k cs _ fr hk (by decide) (by decide)).mono hP
  · intro i hi
    obtain ⟨h1, h2, h3⟩ := hfile i hi
    obtain ⟨v1, v2, h4, _⟩ := id h3
    exact ⟨h1, .inl h2, (h3.same hle (hT _ _ _ _ h4 (by decide) (by decide)) fun k _ _ ⟨cs, fr, hk⟩ => hT k cs _ fr hk (by decide) (by decide)).mono hP⟩
  · refine ⟨?_, ?_, ?_, hle, fun k hk hA' => hW k hk (fun e => hA' (.inl e)) (fun e => hA' (.inr (.inl e))) fun e => hA' (.inr (.inr e))⟩
    · exact k2.os.trans k1.os
    · exact k2.tape.trans k1.tape
    · exact k2.output.trans k1.output

set_option maxRecDepth 100000 in
set_option maxHeartbeats 400000 in
theorem change_any {A : Nat → Prop} {d f : Nat} {m : M} {fb : List Nat} {nb sb : Nat} {wv : Value} {rows : List (List Value)} {caps : Array Value} (w : World) (h : DRep A w d m fb nb sb wv rows) (o : Dk.Op) (L' : Names)
    (hwl : m.wait.length ≤ 1099511627776)
    (hfn : NameFn A w fb o (.func (.func f) #[] caps)) (hfile : ∀ i, Live { m with L := L', wait := m.wait ++ [o] } i → i < m.is.length ∧ A (fb.getD i 0) ∧ FileAt A w (fb.getD i 0) (m.is.getD i []) (m.sure.getD i []))
    (hf : Enters f (#[.map (some nb)] ++ caps)) (hdo : Calls Try.prog f (#[.map (some nb)] ++ caps) w fun e w' => e = .returned (.tuple #[]) ∧ MapL Try.prog 9 w' nb (NL fb L') ∧ Keep (fun k => k = nb) w w') :
    Calls Try.prog 36 #[.pointer (some ⟨d, 0, none⟩), .func (.func f) #[] caps] w fun e w' => e = .returned (.tuple #[]) ∧ DR (Plus A w w') w' d { m with L := L', wait := m.wait ++ [o] } ∧ Keep (fun k => k = nb ∨ k = d ∨ some k = wv.ownBlock) w w' := by
  have H := Lib.hid hdo
  clear hdo
  unfold Enters at hf
  have h1 := h.blk.cell 1
  simp only [List.getElem?_toArray, List.getElem?_cons_succ, List.getElem?_cons_zero] at h1
  have hne : d ≠ nb := fun e => h.nm.ne_blk h.blk e.symm
  go_enter Try.func36, Try.ntmps36
  go_wp2_with (first | (at_builtin; refine wl_append rfl _ _ _ _ rfl _ _ rfl rfl ?_) | (at_make; refine wl_make rfl _ _ _ rfl _ _ rfl rfl ?_) | (at_mapUpdate; refine wl_mapUpdate rfl _ _ _ _ rfl _ _ _ rfl rfl rfl ?_) | (at_lookup; refine wl_lookup rfl _ _ _ _ rfl _ _ rfl rfl ?_) | (at_delete; refine wl_delete rfl _ _ _ _ rfl _ _ rfl rfl ?_) | (with_reducible refine wl_len rfl _ _ rfl _ rfl ?_) | (with_reducible refine wl_range rfl _ _ rfl _ rfl ?_) | (with_reducible refine wl_next rfl _ rfl _ rfl ?_) | (with_reducible refine wl_copy rfl _ _ _ _ rfl _ _ rfl rfl ?_) | (with_reducible refine wl_max rfl _ _ _ _ rfl _ _ rfl rfl ?_) | (with_reducible refine wl_min rfl _ _ _ _ rfl _ _ rfl rfl ?_))
  refine H.out.mono ?_
  rintro e w1 ⟨rfl, hm1, hk1⟩
  have hd1 := h.blk.keep hk1 hne
  have h3 := hd1.cell 3
  simp only [List.getElem?_toArray, List.getElem?_cons_succ, List.getElem?_cons_zero] at h3
  go_wp2_with (first | (at_builtin; refine wl_append rfl _ _ _ _ rfl _ _ rfl rfl ?_) | (at_make; refine wl_make rfl _ _ _ rfl _ _ rfl rfl ?_) | (at_mapUpdate; refine wl_mapUpdate rfl _ _ _ _ rfl _ _ _ rfl rfl rfl ?_) | (at_lookup; refine wl_lookup rfl _ _ _ _ rfl _ _ rfl rfl ?_) | (at_delete; refine wl_delete rfl _ _ _ _ rfl _ _ rfl rfl ?_) | (with_reducible refine wl_len rfl _ _ rfl _ rfl ?_) | (with_reducible refine wl_range rfl _ _ rfl _ rfl ?_) | (with_reducible refine wl_next rfl _ rfl _ rfl ?_) | (with_reducible refine wl_copy rfl _ _ _ _ rfl _ _ rfl rfl ?_) | (with_reducible refine wl_max rfl _ _ _ _ rfl _ _ rfl rfl ?_) | (with_reducible refine wl_min rfl _ _ _ _ rfl _ _ rfl rfl ?_))
  have hro : (w1.alloc (.cells #[.pointer none, .int .i64 0, .slice none 0 0, .func (.func f) #[] caps] 73)).ownsRow 0 73 4 wv m.wait.length rows.flatten :=
    (ownsRow_same h.row fun g hg => hk1.block g (h.row.lt g hg).2 fun e => own_ne_map h.row h.nm (by rw [hg, e])).alloc _
  refine rg_append 0 73 _ 4 48 Try.underlying60 info_pend rfl (by decide) hro (Sl.new w1 _ _ (by rfl) (by unfold maxLen; omega)) (by simp [Value.oneCell']) (by unfold maxLen; omega) (by omega) (Nat.zero_le _) ?_
  intro v' w2 hro2 hk2 _ hloc
  have hd2 := (hd1.alloc (.cells #[.pointer none, .int .i64 0, .slice none 0 0, .func (.func f) #[] caps] 73)).keep hk2 (own_ne hro (hd1.alloc _) (by decide))
  obtain ⟨a', cap', rfl, _, _⟩ := (Sl.of_own hro2).shape
  have h3' := hd2.cell 3
  simp only [List.getElem?_toArray, List.getElem?_cons_succ, List.getElem?_cons_zero] at h3'
  have f3 := hd2.frozen 3
  go_wp2_with (first | (at_builtin; refine wl_append rfl _ _ _ _ rfl _ _ rfl rfl ?_) | (at_make; refine wl_make rfl _ _ _ rfl _ _ rfl rfl ?_) | (at_mapUpdate; refine wl_mapUpdate rfl _ _ _ _ rfl _ _ _ rfl rfl rfl ?_) | (at_lookup; refine wl_lookup rfl _ _ _ _ rfl _ _ rfl rfl ?_) | (at_delete; refine wl_delete rfl _ _ _ _ rfl _ _ rfl rfl ?_) | (with_reducible refine wl_len rfl _ _ rfl _ rfl ?_) | (with_reducible refine wl_range rfl _ _ rfl _ rfl ?_) | (with_reducible refine wl_next rfl _ rfl _ rfl ?_) | (with_reducible refine wl_copy rfl _ _ _ _ rfl _ _ rfl rfl ?_) | (with_reducible refine wl_max rfl _ _ _ _ rfl _ _ rfl rfl ?_) | (with_reducible refine wl_min rfl _ _ _ _ rfl _ _ rfl rfl ?_))
  go_end0
  obtain ⟨r1, r2⟩ := h.changed hfn hfile hm1 hk1 hro2 hk2 hloc
  exact ⟨rfl, ⟨fb, nb, sb, _, _, r1⟩, r2⟩
end Go.Proofs.Ytkmoomgmmhmaeaa
