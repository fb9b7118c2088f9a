/- Create. Create, whole. Used, Pending, Off, Cut. No condition. -/
import Derived.Test.YtkmoomgmmhmaeaaGreatDiskF
namespace Go.Proofs.YtkmoomgmmhmaeaaGreat
open Go.RowKit Go.Dm Go.Dm.Dk Go.Maps

set_option maxRecDepth 100000 in
set_option maxHeartbeats 400000 in
theorem create1_any {nb x y d : Nat} {fb : List Nat} {L : Names} (s : List UInt8) (w : World) (hs : s.length ≤ maxLen) (hn : MapL Tryz.prog 9 w nb (NL fb L)) (hd : w.cell? ⟨d, 1, none⟩ = some (.map (some nb)))
    (hx : w.cell? ⟨x, 0, none⟩ = some (.string ⟨s.toArray⟩)) (hy : w.cell? ⟨y, 0, none⟩ = some (.pointer (some ⟨d, 0, none⟩))) :
    Calls Tryz.prog 37 #[.pointer (some ⟨x, 0, none⟩), .pointer (some ⟨y, 0, none⟩)] w fun e w' => e = .returned (.int .i64 ((if s = [] then 1 else if (find L s).isSome then 21 else 0 : Nat) : Int)) ∧ w = w' := by
  by_cases h0 : s = []
  · subst h0
    go_enter Tryz.func37, Tryz.ntmps37
    go_wp2_with (first | (at_builtin; refine wl_append rfl _ _ _ _ rfl _ _ rfl rfl ?_) | (at_make; refine wl_make rfl _ _ _ rfl _ _ rfl rfl ?_) | (at_mapUpdate; refine wl_mapUpdate rfl _ _ _ _ rfl _ _ _ rfl rfl rfl ?_) | (at_lookup; refine wl_lookup rfl _ _ _ _ rfl _ _ rfl rfl ?_) | (at_delete; refine wl_delete rfl _ _ _ _ rfl _ _ rfl rfl ?_) | (with_reducible refine wl_len rfl _ _ rfl _ rfl ?_) | (with_reducible refine wl_range rfl _ _ rfl _ rfl ?_) | (with_reducible refine wl_next rfl _ rfl _ rfl ?_) | (with_reducible refine wl_copy rfl _ _ _ _ rfl _ _ rfl rfl ?_) | (with_reducible refine wl_max rfl _ _ _ _ rfl _ _ rfl rfl ?_) | (with_reducible refine wl_min rfl _ _ _ _ rfl _ _ rfl rfl ?_))
    go_ret
    exact ⟨rfl, rfl⟩
  · have h1 : s.isEmpty = false := by cases s <;> simp_all
    cases hf : find L s with
    | none =>
      go_enter Tryz.func37, Tryz.ntmps37
      go_wp2_with (first | (at_builtin; refine wl_append rfl _ _ _ _ rfl _ _ rfl rfl ?_) | (at_make; refine wl_make rfl _ _ _ rfl _ _ rfl rfl ?_) | (at_mapUpdate; refine wl_mapUpdate rfl _ _ _ _ rfl _ _ _ rfl rfl rfl ?_) | (at_lookup; refine wl_lookup rfl _ _ _ _ rfl _ _ rfl rfl ?_) | (at_delete; refine wl_delete rfl _ _ _ _ rfl _ _ rfl rfl ?_) | (with_reducible refine wl_len rfl _ _ rfl _ rfl ?_) | (with_reducible refine wl_range rfl _ _ rfl _ rfl ?_) | (with_reducible refine wl_next rfl _ rfl _ rfl ?_) | (with_reducible refine wl_copy rfl _ _ _ _ rfl _ _ rfl rfl ?_) | (with_reducible refine wl_max rfl _ _ _ _ rfl _ _ rfl rfl ?_) | (with_reducible refine wl_min rfl _ _ _ _ rfl _ _ rfl rfl ?_))
      refine (of_any d s _ hs hn hd).mono ?_
      rintro e w1 ⟨rfl, rfl⟩
      simp only [ofV, hf, Option.map_none, Option.getD_none]
      go_wp2_with (first | (at_builtin; refine wl_append rfl _ _ _ _ rfl _ _ rfl rfl ?_) | (at_make; refine wl_make rfl _ _ _ rfl _ _ rfl rfl ?_) | (at_mapUpdate; refine wl_mapUpdate rfl _ _ _ _ rfl _ _ _ rfl rfl rfl ?_) | (at_lookup; refine wl_lookup rfl _ _ _ _ rfl _ _ rfl rfl ?_) | (at_delete; refine wl_delete rfl _ _ _ _ rfl _ _ rfl rfl ?_) | (with_reducible refine wl_len rfl _ _ rfl _ rfl ?_) | (with_reducible refine wl_range rfl _ _ rfl _ rfl ?_) | (with_reducible refine wl_next rfl _ rfl _ rfl ?_) | (with_reducible refine wl_copy rfl _ _ _ _ rfl _ _ rfl rfl ?_) | (with_reducible refine wl_max rfl _ _ _ _ rfl _ _ rfl rfl ?_) | (with_reducible refine wl_min rfl _ _ _ _ rfl _ _ rfl rfl ?_))
      go_ret
      exact ⟨rfl, rfl⟩
    | some i =>
      go_enter Tryz.func37, Tryz.ntmps37
      go_wp2_with (first | (at_builtin; refine wl_append rfl _ _ _ _ rfl _ _ rfl rfl ?_) | (at_make; refine wl_make rfl _ _ _ rfl _ _ rfl rfl ?_) | (at_mapUpdate; refine wl_mapUpdate rfl _ _ _ _ rfl _ _ _ rfl rfl rfl ?_) | (at_lookup; refine wl_lookup rfl _ _ _ _ rfl _ _ rfl rfl ?_) | (at_delete; refine wl_delete rfl _ _ _ _ rfl _ _ rfl rfl ?_) | (with_reducible refine wl_len rfl _ _ rfl _ rfl ?_) | (with_reducible refine wl_range rfl _ _ rfl _ rfl ?_) | (with_reducible refine wl_next rfl _ rfl _ rfl ?_) | (with_reducible refine wl_copy rfl _ _ _ _ rfl _ _ rfl rfl ?_) | (with_reducible refine wl_max rfl _ _ _ _ rfl _ _ rfl rfl ?_) | (with_reducible refine wl_min rfl _ _ _ _ rfl _ _ rfl rfl ?_))
      refine (of_any d s _ hs hn hd).mono ?_
      rintro e w1 ⟨rfl, rfl⟩
      simp only [ofV, hf, Option.map_some, Option.getD_some, fptr, ptrTo]
      go_wp2_with (first | (at_builtin; refine wl_append rfl _ _ _ _ rfl _ _ rfl rfl ?_) | (at_make; refine wl_make rfl _ _ _ rfl _ _ rfl rfl ?_) | (at_mapUpdate; refine wl_mapUpdate rfl _ _ _ _ rfl _ _ _ rfl rfl rfl ?_) | (at_lookup; refine wl_lookup rfl _ _ _ _ rfl _ _ rfl rfl ?_) | (at_delete; refine wl_delete rfl _ _ _ _ rfl _ _ rfl rfl ?_) | (with_reducible refine wl_len rfl _ _ rfl _ rfl ?_) | (with_reducible refine wl_range rfl _ _ rfl _ rfl ?_) | (with_reducible refine wl_next rfl _ rfl _ rfl ?_) | (with_reducible refine wl_copy rfl _ _ _ _ rfl _ _ rfl rfl ?_) | (with_reducible refine wl_max rfl _ _ _ _ rfl _ _ rfl rfl ?_) | (with_reducible refine wl_min rfl _ _ _ _ rfl _ _ rfl rfl ?_))
      go_ret
      exact ⟨rfl, rfl⟩

theorem info_pend : (Tryz.prog.info? 71).map (fun i => (i.zero, i.size, i.bytes)) = some (some (.agg #[.pointer none, .int .i64 0, .slice none 0 0, .nilFunc]), 4, 48) := by kernel_rfl

/-- behind a change of names and the append of its cells -/
theorem DRep.changed {A : Nat → Prop} {d : Nat} {m : M} {fb : List Nat} {nb sb : Nat} {wv : Value} {rows : List (List Value)} {w w1 w2 : World} {ob : Obj} {v' : Value} (h : DRep A w d m fb nb sb wv rows) {o : Dk.Op} {L' : Names} {c : Value}
    (hfn : NameFn A w fb o c) (hfile : ∀ i, Live { m with L := L', wait := m.wait ++ [o] } i → i < m.is.length ∧ A (fb.getD i 0) ∧ FileAt A w (fb.getD i 0) (m.is.getD i []) (m.sure.getD i []))
    (hm : MapL Tryz.prog 9 w1 nb (NL fb L')) (k1 : Keep (fun k => k = nb) w w1)
    (hrow : w2.ownsRow 0 71 4 v' (m.wait.length + 1) (rows.flatten ++ [.pointer none, .int .i64 0, .slice none 0 0, c])) (k2 : Keep (fun k => some k = wv.ownBlock) (w1.alloc ob) w2)
    (hloc : v'.ownBlock = wv.ownBlock ∨ v'.ownBlock = some (w1.alloc ob).heap.size) :
    DRep (Plus A w (w2.setCell ⟨d, 3, none⟩ v')) (w2.setCell ⟨d, 3, none⟩ v') d { m with L := L', wait := m.wait ++ [o] } fb nb sb v' (rows ++ [[.pointer none, .int .i64 0, .slice none 0 0, c]]) ∧ Keep (fun k => k = nb ∨ k = d ∨ some k = wv.ownBlock) w (w2.setCell ⟨d, 3, none⟩ v') := by
  have hds := h.blk.lt
  have hne : d ≠ nb := fun e => h.nm.ne_blk h.blk e.symm
  have hne2 : d ≠ sb := fun e => h.sm.ne_blk h.blk e.symm
  have hdw : ¬ some d = wv.ownBlock := own_ne h.row h.blk (by decide)
  have hnw : ¬ wv.ownBlock = some nb := own_ne_map h.row h.nm
  have hsw : ¬ wv.ownBlock = some sb := own_ne_map h.row h.sm
  have hs1 : w.heap.size < (w1.alloc ob).heap.size := by have := k1.size; simp; omega
  have hsz : (w1.alloc ob).heap.size ≤ (w2.setCell ⟨d, 3, none⟩ v').heap.size := by have := k2.size; simpa using this
  have hW : ∀ k, k < w.heap.size → k ≠ nb → k ≠ d → ¬ some k = wv.ownBlock → (w2.setCell ⟨d, 3, none⟩ v').heap[k]? = w.heap[k]? := by
    intro k hk h1 h2 h3
    rw [Below.heap_setCell _ _ _ _ h2, k2.block k (by omega) h3, Below.heap_alloc _ _ _ (by have := k1.size; omega)]
    exact k1.block k hk h1
  have hT : ∀ (k : Nat) (cs : Array Value) (t : TypeId) (fr : Nat × Nat), w.heap[k]? = some (Obj.cells cs t fr) → t ≠ 60 → t ≠ 71 → (w2.setCell ⟨d, 3, none⟩ v').heap[k]? = w.heap[k]? := by
    intro k cs t fr hk h1 h2
    refine hW k (Array.getElem?_eq_some_iff.1 hk).1 ?_ ?_ ?_
    · rintro rfl
      obtain ⟨es, c, e⟩ := h.nm.obj
      rw [e] at hk; cases hk
    · rintro rfl
      rw [show w.heap[k]? = _ from h.blk] at hk; cases hk; exact h1 rfl
    · intro e
      rcases h.row.2 with ⟨rfl, _⟩ | ⟨g, cap, cur, rfl, _, hb, _⟩
      · cases e
      · cases e
        rw [hk] at hb; cases hb; exact h2 rfl
  have hle : w.heap.size ≤ (w2.setCell ⟨d, 3, none⟩ v').heap.size := by omega
  have hP : ∀ k, k < (w2.setCell ⟨d, 3, none⟩ v').heap.size → A k → Plus A w (w2.setCell ⟨d, 3, none⟩ v') k := fun k _ a => .inl a
  have hd2 : Blk w2 d _ _ := ((h.blk.keep k1 hne).alloc ob).keep k2 hdw
  refine ⟨{ blk := hd2.set v', nm := ?_, sm := h.sm.same (hW sb h.sm.lt h.ne.symm hne2.symm (fun e => hsw e.symm)), ne := h.ne, row := ?_, rowA := ?_, rlen := ?_, pend := ?_, fl := h.fl, sl := h.sl, nd := h.nd, fbl := fun b hb => Nat.lt_of_lt_of_le (h.fbl b hb) hle, file := ?_, Ad := .inl h.Ad, An := .inl h.An, As := .inl h.As }, ?_⟩
  · refine ((hm.same (Below.heap_alloc _ _ _ hm.lt)).keep k2 (fun e => hnw e.symm)).same (Below.heap_setCell _ _ _ _ hne.symm)
  · have := ownsRow_same (w' := w2.setCell ⟨d, 3, none⟩ v') hrow fun g hg => Below.heap_setCell _ _ _ _ fun e => by
      have e : g = d := e
      subst e
      exact own_ne hrow hd2 (by decide) hg.symm
    simpa [List.flatten_append] using this
  · intro g hg
    rcases hloc with e | e
    · exact .inl (h.rowA g (e.symm.trans hg))
    · rw [e] at hg; cases hg
      refine .inr ⟨by omega, ?_⟩
      have := (hrow.lt _ e).2
      simpa using this
  · simp [h.rlen]
  · intro i o' ho'
    rcases Nat.lt_or_ge i m.wait.length with hi | hi
    · have ho2 : m.wait[i]? = some o' := by
        rw [← ho']; exact (List.getElem?_append_left hi).symm
      obtain ⟨cs, h1, h2⟩ := h.pend i o' ho2
      refine ⟨cs, ?_, (h2.same hle fun k _ ⟨cs, fr, t, hk, ht⟩ => hT k cs t fr hk (by rcases ht with rfl | rfl | rfl <;> decide) (by rcases ht with rfl | rfl | rfl <;> decide)).mono hP⟩
      rw [List.getElem?_append_left (by rw [h.rlen]; exact hi)]; exact h1
    · have hi2 : i = m.wait.length := by
        have := (List.getElem?_eq_some_iff.1 ho').1
        simp at this; omega
      subst hi2
      simp at ho'
      subst ho'
      refine ⟨_, by rw [List.getElem?_append_right (by rw [h.rlen]; exact Nat.le_refl _), h.rlen]; simp, .inr ⟨c, rfl, ?_⟩⟩
      exact (hfn.same fun k _ ⟨cs, fr, hk⟩ => by
        rcases hk with hk | hk
        · exact hT k cs _ fr hk (by decide) (by decide)
        · exact hT k cs _ fr hk (by decide) (by decide)).mono hP
  · intro i hi
    obtain ⟨h1, h2, h3⟩ := hfile i hi
    obtain ⟨v1, v2, h4, _⟩ := id h3
    exact ⟨h1, .inl h2, (h3.same hle (hT _ _ _ _ h4 (by decide) (by decide)) fun k _ _ ⟨cs, fr, hk⟩ => hT k cs _ fr hk (by decide) (by decide)).mono hP⟩
  · refine ⟨?_, ?_, ?_, hle, fun k hk hA' => hW k hk (fun e => hA' (.inl e)) (fun e => hA' (.inr (.inl e))) fun e => hA' (.inr (.inr e))⟩
    · exact k2.os.trans k1.os
    · exact k2.tape.trans k1.tape
    · exact k2.output.trans k1.output

set_option maxRecDepth 100000 in
set_option maxHeartbeats 400000 in
theorem change_any {A : Nat → Prop} {d f : Nat} {m : M} {fb : List Nat} {nb sb : Nat} {wv : Value} {rows : List (List Value)} {caps : Array Value} (w : World) (h : DRep A w d m fb nb sb wv rows) (o : Dk.Op) (L' : Names)
    (hwl : m.wait.length ≤ 1099511627776)
    (hfn : NameFn A w fb o (.func (.func f) #[] caps)) (hfile : ∀ i, Live { m with L := L', wait := m.wait ++ [o] } i → i < m.is.length ∧ A (fb.getD i 0) ∧ FileAt A w (fb.getD i 0) (m.is.getD i []) (m.sure.getD i []))
    (hf : Enters f (#[.map (some nb)] ++ caps)) (hdo : Calls Tryz.prog f (#[.map (some nb)] ++ caps) w fun e w' => e = .returned (.tuple #[]) ∧ MapL Tryz.prog 9 w' nb (NL fb L') ∧ Keep (fun k => k = nb) w w') :
    Calls Tryz.prog 40 #[.pointer (some ⟨d, 0, none⟩), .func (.func f) #[] caps] w fun e w' => e = .returned (.tuple #[]) ∧ DR (Plus A w w') w' d { m with L := L', wait := m.wait ++ [o] } ∧ Keep (fun k => k = nb ∨ k = d ∨ some k = wv.ownBlock) w w' := by
  have H := Lib.hid hdo
  clear hdo
  unfold Enters at hf
  have h1 := h.blk.cell 1
  simp only [List.getElem?_toArray, List.getElem?_cons_succ, List.getElem?_cons_zero] at h1
  have hne : d ≠ nb := fun e => h.nm.ne_blk h.blk e.symm
  go_enter Tryz.func40, Tryz.ntmps40
  go_wp2_with (first | (at_builtin; refine wl_append rfl _ _ _ _ rfl _ _ rfl rfl ?_) | (at_make; refine wl_make rfl _ _ _ rfl _ _ rfl rfl ?_) | (at_mapUpdate; refine wl_mapUpdate rfl _ _ _ _ rfl _ _ _ rfl rfl rfl ?_) | (at_lookup; refine wl_lookup rfl _ _ _ _ rfl _ _ rfl rfl ?_) | (at_delete; refine wl_delete rfl _ _ _ _ rfl _ _ rfl rfl ?_) | (with_reducible refine wl_len rfl _ _ rfl _ rfl ?_) | (with_reducible refine wl_range rfl _ _ rfl _ rfl ?_) | (with_reducible refine wl_next rfl _ rfl _ rfl ?_) | (with_reducible refine wl_copy rfl _ _ _ _ rfl _ _ rfl rfl ?_) | (with_reducible refine wl_max rfl _ _ _ _ rfl _ _ rfl rfl ?_) | (with_reducible refine wl_min rfl _ _ _ _ rfl _ _ rfl rfl ?_))
  refine H.out.mono ?_
  rintro e w1 ⟨rfl, hm1, hk1⟩
  have hd1 := h.blk.keep hk1 hne
  have h3 := hd1.cell 3
  simp only [List.getElem?_toArray, List.getElem?_cons_succ, List.getElem?_cons_zero] at h3
  go_wp2_with (first | (at_builtin; refine wl_append rfl _ _ _ _ rfl _ _ rfl rfl ?_) | (at_make; refine wl_make rfl _ _ _ rfl _ _ rfl rfl ?_) | (at_mapUpdate; refine wl_mapUpdate rfl _ _ _ _ rfl _ _ _ rfl rfl rfl ?_) | (at_lookup; refine wl_lookup rfl _ _ _ _ rfl _ _ rfl rfl ?_) | (at_delete; refine wl_delete rfl _ _ _ _ rfl _ _ rfl rfl ?_) | (with_reducible refine wl_len rfl _ _ rfl _ rfl ?_) | (with_reducible refine wl_range rfl _ _ rfl _ rfl ?_) | (with_reducible refine wl_next rfl _ rfl _ rfl ?_) | (with_reducible refine wl_copy rfl _ _ _ _ rfl _ _ rfl rfl ?_) | (with_reducible refine wl_max rfl _ _ _ _ rfl _ _ rfl rfl ?_) | (with_reducible refine wl_min rfl _ _ _ _ rfl _ _ rfl rfl ?_))
  have hro : (w1.alloc (.cells #[.pointer none, .int .i64 0, .slice none 0 0, .func (.func f) #[] caps] 71)).ownsRow 0 71 4 wv m.wait.length rows.flatten :=
    (ownsRow_same h.row fun g hg => hk1.block g (h.row.lt g hg).2 fun e => own_ne_map h.row h.nm (by rw [hg, e])).alloc _
  refine rg_append 0 71 _ 4 48 Tryz.underlying58 info_pend rfl (by decide) hro (Sl.new w1 _ _ (by rfl) (by unfold maxLen; omega)) (by simp [Value.oneCell']) (by unfold maxLen; omega) (by omega) (Nat.zero_le _) ?_
  intro v' w2 hro2 hk2 _ hloc
  have hd2 := (hd1.alloc (.cells #[.pointer none, .int .i64 0, .slice none 0 0, .func (.func f) #[] caps] 71)).keep hk2 (own_ne hro (hd1.alloc _) (by decide))
  obtain ⟨a', cap', rfl, _, _⟩ := (Sl.of_own hro2).shape
  have h3' := hd2.cell 3
  simp only [List.getElem?_toArray, List.getElem?_cons_succ, List.getElem?_cons_zero] at h3'
  have f3 := hd2.frozen 3
  go_wp2_with (first | (at_builtin; refine wl_append rfl _ _ _ _ rfl _ _ rfl rfl ?_) | (at_make; refine wl_make rfl _ _ _ rfl _ _ rfl rfl ?_) | (at_mapUpdate; refine wl_mapUpdate rfl _ _ _ _ rfl _ _ _ rfl rfl rfl ?_) | (at_lookup; refine wl_lookup rfl _ _ _ _ rfl _ _ rfl rfl ?_) | (at_delete; refine wl_delete rfl _ _ _ _ rfl _ _ rfl rfl ?_) | (with_reducible refine wl_len rfl _ _ rfl _ rfl ?_) | (with_reducible refine wl_range rfl _ _ rfl _ rfl ?_) | (with_reducible refine wl_next rfl _ rfl _ rfl ?_) | (with_reducible refine wl_copy rfl _ _ _ _ rfl _ _ rfl rfl ?_) | (with_reducible refine wl_max rfl _ _ _ _ rfl _ _ rfl rfl ?_) | (with_reducible refine wl_min rfl _ _ _ _ rfl _ _ rfl rfl ?_))
  go_end0
  obtain ⟨r1, r2⟩ := h.changed hfn hfile hm1 hk1 hro2 hk2 hloc
  exact ⟨rfl, ⟨fb, nb, sb, _, _, r1⟩, r2⟩
end Go.Proofs.YtkmoomgmmhmaeaaGreat
namespace Go.Proofs.YtkmoomgmmhmaeaaGreat
open Go.RowKit Go.Dm Go.Dm.Dk Go.Maps

set_option maxHeartbeats 400000 in
theorem create21_any {nb x y i : Nat} {fb : List Nat} {L : Names} (s : List UInt8) (w : World) (hs : s.length ≤ maxLen) (hL : L.length ≤ 1099511627776) (hn : MapL Tryz.prog 9 w nb (NL fb L))
    (hx : w.cell? ⟨x, 0, none⟩ = some (fptr fb i)) (hy : w.cell? ⟨y, 0, none⟩ = some (.string ⟨s.toArray⟩)) :
    Calls Tryz.prog 41 #[.map (some nb), .pointer (some ⟨x, 0, none⟩), .pointer (some ⟨y, 0, none⟩)] w fun e w' => e = .returned (.tuple #[]) ∧ MapL Tryz.prog 9 w' nb (NL fb (withN L s i)) ∧ Keep (fun k => k = nb) w w' := by
  go_enter Tryz.func41, Tryz.ntmps41
  go_wp2_with (first | (at_builtin; refine wl_append rfl _ _ _ _ rfl _ _ rfl rfl ?_) | (at_make; refine wl_make rfl _ _ _ rfl _ _ rfl rfl ?_) | (at_mapUpdate; refine wl_mapUpdate rfl _ _ _ _ rfl _ _ _ rfl rfl rfl ?_) | (at_lookup; refine wl_lookup rfl _ _ _ _ rfl _ _ rfl rfl ?_) | (at_delete; refine wl_delete rfl _ _ _ _ rfl _ _ rfl rfl ?_) | (with_reducible refine wl_len rfl _ _ rfl _ rfl ?_) | (with_reducible refine wl_range rfl _ _ rfl _ rfl ?_) | (with_reducible refine wl_next rfl _ rfl _ rfl ?_) | (with_reducible refine wl_copy rfl _ _ _ _ rfl _ _ rfl rfl ?_) | (with_reducible refine wl_max rfl _ _ _ _ rfl _ _ rfl rfl ?_) | (with_reducible refine wl_min rfl _ _ _ _ rfl _ _ rfl rfl ?_))
  refine rg_store hn kStr Tryz.underlying57 (by unfold NL maxLen; rw [List.length_map]; omega) (kOf hs) ?_
  intro w' h1 h2 _
  go_wp2_with (first | (at_builtin; refine wl_append rfl _ _ _ _ rfl _ _ rfl rfl ?_) | (at_make; refine wl_make rfl _ _ _ rfl _ _ rfl rfl ?_) | (at_mapUpdate; refine wl_mapUpdate rfl _ _ _ _ rfl _ _ _ rfl rfl rfl ?_) | (at_lookup; refine wl_lookup rfl _ _ _ _ rfl _ _ rfl rfl ?_) | (at_delete; refine wl_delete rfl _ _ _ _ rfl _ _ rfl rfl ?_) | (with_reducible refine wl_len rfl _ _ rfl _ rfl ?_) | (with_reducible refine wl_range rfl _ _ rfl _ rfl ?_) | (with_reducible refine wl_next rfl _ rfl _ rfl ?_) | (with_reducible refine wl_copy rfl _ _ _ _ rfl _ _ rfl rfl ?_) | (with_reducible refine wl_max rfl _ _ _ _ rfl _ _ rfl rfl ?_) | (with_reducible refine wl_min rfl _ _ _ _ rfl _ _ rfl rfl ?_))
  go_end0
  exact ⟨rfl, h1.perm (putL_NL _ _ _ _), h2⟩

theorem enters_create21 (a b c : Value) : Enters 41 #[a, b, c] := fun w => by kernel_rfl
theorem enters_create1 (a b : Value) : Enters 37 #[a, b] := fun w => by kernel_rfl
theorem enters_create2 (a b : Value) : Enters 39 #[a, b] := fun w => by kernel_rfl

theorem getD_append_lt {α : Type} (l : List α) (x z : α) {i : Nat} (h : i < l.length) : (l ++ [x]).getD i z = l.getD i z := by rw [List.getD_eq_getElem?_getD, List.getD_eq_getElem?_getD, List.getElem?_append_left h]
theorem getD_append_eq {α : Type} (l : List α) (x z : α) : (l ++ [x]).getD l.length z = x := by simp [List.getD]

/-- one file more -/
theorem DRep.grow {A : Nat → Prop} {d f : Nat} {m : M} {fb : List Nat} {nb sb : Nat} {wv : Value} {rows : List (List Value)} {w : World} (h : DRep A w d m fb nb sb wv rows) (hf : f ∉ fb) (hl : f < w.heap.size) :
    DRep A w d { m with is := m.is ++ [[]], sure := m.sure ++ [[]] } (fb ++ [f]) nb sb wv rows := by
  have hlt : ∀ i, Live m i → i < fb.length := fun i hi => by rw [h.fl]; exact (h.file i hi).1
  have hp : ∀ i, Live m i → fptr (fb ++ [f]) i = fptr fb i := fun i hi => by unfold fptr; rw [getD_append_lt _ _ _ (hlt i hi)]
  have hN : ∀ L : Names, (∀ s i, (s, i) ∈ L → Live m i) → NL (fb ++ [f]) L = NL fb L := fun L hL => List.map_congr_left fun p hp' => by rw [hp p.2 (hL p.1 p.2 hp')]
  refine { h with nm := by rw [hN _ fun s i hi => .inl ⟨s, hi⟩]; exact h.nm, sm := by rw [hN _ fun s i hi => .inr (.inl ⟨s, hi⟩)]; exact h.sm, pend := ?_, fl := by simp [h.fl], sl := by simp [h.sl], nd := ?_, fbl := ?_, file := ?_ }
  · intro i o ho
    obtain ⟨cs, h1, h2⟩ := h.pend i o ho
    refine ⟨cs, h1, ?_⟩
    have hm : o ∈ m.wait := List.mem_of_getElem? ho
    rcases h2 with ⟨hk, v, hc, hb⟩ | ⟨c, hc, x, y, ax, ay, hn⟩
    · exact .inl ⟨hk, v, by rw [hp _ (.inr (.inr ⟨o, hm, .inl hk, rfl⟩))]; exact hc, hb⟩
    · refine .inr ⟨c, hc, x, y, ax, ay, ?_⟩
      rcases hn with ⟨hk, h3⟩ | hn | hn
      · exact .inl ⟨hk, by rw [hp _ (.inr (.inr ⟨o, hm, .inr hk, rfl⟩))]; exact h3⟩
      · exact .inr (.inl hn)
      · exact .inr (.inr hn)
  · rw [List.nodup_append]
    exact ⟨h.nd, by simp, fun a ha b hb e => by simp at hb; subst hb; subst e; exact hf ha⟩
  · intro b hb
    rcases List.mem_append.1 hb with hb | hb
    · exact h.fbl b hb
    · simp at hb; subst hb; exact hl
  · intro i hi
    have hi' : Live m i := hi
    obtain ⟨h1, h2, h3⟩ := h.file i hi'
    rw [getD_append_lt _ _ _ (hlt i hi')]
    simp only
    rw [getD_append_lt _ _ _ h1, getD_append_lt _ _ _ (by rw [h.sl]; exact h1)]
    exact ⟨by simp; omega, h2, h3⟩

set_option maxRecDepth 100000 in
set_option maxHeartbeats 400000 in
theorem create2_any {A : Nat → Prop} {d x y : Nat} {m : M} (s : List UInt8) (w : World) (h : DR A w d m) (hA : ∀ k, A k → k < w.heap.size) (hs : s.length ≤ maxLen) (hwl : m.wait.length ≤ 1099511627776) (hL : m.L.length ≤ 1099511627776)
    (hx : w.cell? ⟨x, 0, none⟩ = some (.pointer (some ⟨d, 0, none⟩))) (hy : Blk w y #[.string ⟨s.toArray⟩] 9) :
    Calls Tryz.prog 39 #[.pointer (some ⟨x, 0, none⟩), .pointer (some ⟨y, 0, none⟩)] w fun e w' => e = .returned (.tuple #[]) ∧ DR (Plus (fun k => A k ∨ k = y) w w') w' d (done m 1 s [] 0 []) ∧ Keep A w w' := by
  obtain ⟨fb, nb, sb, wv, rows, h⟩ := h
  have hxl := World.block_lt_of_cell? w _ hx
  simp only at hxl
  go_enter Tryz.func39, Tryz.ntmps39
  go_wp2_with (first | (at_builtin; refine wl_append rfl _ _ _ _ rfl _ _ rfl rfl ?_) | (at_make; refine wl_make rfl _ _ _ rfl _ _ rfl rfl ?_) | (at_mapUpdate; refine wl_mapUpdate rfl _ _ _ _ rfl _ _ _ rfl rfl rfl ?_) | (at_lookup; refine wl_lookup rfl _ _ _ _ rfl _ _ rfl rfl ?_) | (at_delete; refine wl_delete rfl _ _ _ _ rfl _ _ rfl rfl ?_) | (with_reducible refine wl_len rfl _ _ rfl _ rfl ?_) | (with_reducible refine wl_range rfl _ _ rfl _ rfl ?_) | (with_reducible refine wl_next rfl _ rfl _ rfl ?_) | (with_reducible refine wl_copy rfl _ _ _ _ rfl _ _ rfl rfl ?_) | (with_reducible refine wl_max rfl _ _ _ _ rfl _ _ rfl rfl ?_) | (with_reducible refine wl_min rfl _ _ _ _ rfl _ _ rfl rfl ?_))
  generalize hW : (w.alloc (Obj.cells #[Value.slice none 0 0, Value.slice none 0 0] 76)).alloc (Obj.cells #[Value.pointer (some { block := w.heap.size, off := 0 })] 68) = W
  have hWs : W.heap.size = w.heap.size + 2 := by subst hW; simp
  have hkW : Keep No w W := by subst hW; exact ((Keep.refl _ _).alloc _).alloc _
  have hF : Blk W w.heap.size #[Value.slice none 0 0, Value.slice none 0 0] 76 := by subst hW; exact (Blk.new _ _ _).alloc _
  have hV : Blk W (w.heap.size + 1) #[ptrTo w.heap.size] 68 := by
    subst hW
    have := Blk.new (w.alloc (Obj.cells #[Value.slice none 0 0, Value.slice none 0 0] 76)) #[ptrTo w.heap.size] 68
    rw [World.size_alloc] at this
    exact this
  have hy' := hy.keep hkW fun h => h
  have hnf : w.heap.size ∉ fb := fun hm => by have := h.fbl _ hm; omega
  have hAW : ∀ k, A k → W.heap[k]? = w.heap[k]? := fun k ha => hkW.block k (hA k ha) fun h => h
  have h1 : DRep (Plus (fun k => A k ∨ k = y) w W) W d { m with is := m.is ++ [[]], sure := m.sure ++ [[]] } (fb ++ [w.heap.size]) nb sb wv rows :=
    ((h.same hkW.size hAW).grow hnf (by omega)).mono fun k _ ha => .inl (.inl ha)
  have e0 : (fb ++ [w.heap.size]).getD m.is.length 0 = w.heap.size := by rw [← h.fl]; exact getD_append_eq _ _ _
  have hV' : Blk W (w.heap.size + 1) #[fptr (fb ++ [w.heap.size]) m.is.length] 68 := by unfold fptr; rw [e0]; exact hV
  have hfn : NameFn (Plus (fun k => A k ∨ k = y) w W) W (fb ++ [w.heap.size]) ⟨2, m.is.length, 0, [], [], s⟩ (.func (.func 41) #[] #[ptrTo (w.heap.size + 1), ptrTo y]) :=
    ⟨w.heap.size + 1, y, .inr ⟨by omega, by omega⟩, .inl (.inr rfl), .inl ⟨rfl, rfl, hV', hy'⟩⟩
  have hL2 : m.L.length = (NL fb m.L).length := by simp [NL]
  have hfile : ∀ i, Live { m with is := m.is ++ [[]], sure := m.sure ++ [[]], L := withN m.L s m.is.length, wait := m.wait ++ [⟨2, m.is.length, 0, [], [], s⟩] } i →
      i < (m.is ++ [[]]).length ∧ Plus (fun k => A k ∨ k = y) w W ((fb ++ [w.heap.size]).getD i 0) ∧ FileAt (Plus (fun k => A k ∨ k = y) w W) W ((fb ++ [w.heap.size]).getD i 0) ((m.is ++ [[]]).getD i []) ((m.sure ++ [[]]).getD i []) := by
    intro i hi
    have hc : i = m.is.length ∨ Live { m with is := m.is ++ [[]], sure := m.sure ++ [[]] } i := by
      rcases hi with ⟨s', hi⟩ | hi | ⟨o, ho, hk, rfl⟩
      · rcases List.mem_append.1 hi with hi | hi
        · exact .inr (.inl ⟨s', (List.mem_filter.1 hi).1⟩)
        · simp at hi; exact .inl hi.2
      · exact .inr (.inr (.inl hi))
      · rcases List.mem_append.1 ho with ho | ho
        · exact .inr (.inr (.inr ⟨o, ho, hk, rfl⟩))
        · simp at ho; subst ho; exact .inl rfl
    rcases hc with rfl | hc
    · rw [e0]
      have e1 : (m.is ++ [[]]).getD m.is.length [] = [] := getD_append_eq _ _ _
      have e2 : (m.sure ++ [[]]).getD m.is.length [] = [] := by rw [← h.sl]; exact getD_append_eq _ _ _
      rw [e1, e2]
      exact ⟨by simp, .inr ⟨by omega, by omega⟩, _, _, hF, DB.nil _ _, DB.nil _ _⟩
    · exact h1.file i hc
  refine (change_any W h1 ⟨2, m.is.length, 0, [], [], s⟩ (withN m.L s m.is.length) hwl hfn hfile (enters_create21 _ _ _)
    (create21_any s W hs hL h1.nm ((hV'.cell 0).trans rfl) ((hy'.cell 0).trans rfl))).mono ?_
  rintro e w' ⟨rfl, h2, h3⟩
  go_wp2_with (first | (at_builtin; refine wl_append rfl _ _ _ _ rfl _ _ rfl rfl ?_) | (at_make; refine wl_make rfl _ _ _ rfl _ _ rfl rfl ?_) | (at_mapUpdate; refine wl_mapUpdate rfl _ _ _ _ rfl _ _ _ rfl rfl rfl ?_) | (at_lookup; refine wl_lookup rfl _ _ _ _ rfl _ _ rfl rfl ?_) | (at_delete; refine wl_delete rfl _ _ _ _ rfl _ _ rfl rfl ?_) | (with_reducible refine wl_len rfl _ _ rfl _ rfl ?_) | (with_reducible refine wl_range rfl _ _ rfl _ rfl ?_) | (with_reducible refine wl_next rfl _ rfl _ rfl ?_) | (with_reducible refine wl_copy rfl _ _ _ _ rfl _ _ rfl rfl ?_) | (with_reducible refine wl_max rfl _ _ _ _ rfl _ _ rfl rfl ?_) | (with_reducible refine wl_min rfl _ _ _ _ rfl _ _ rfl rfl ?_))
  go_end0
  refine ⟨rfl, ?_, ?_⟩
  · have e3 : done m 1 s [] 0 [] = { m with is := m.is ++ [[]], sure := m.sure ++ [[]], L := withN m.L s m.is.length, wait := m.wait ++ [⟨2, m.is.length, 0, [], [], s⟩] } := rfl
    rw [e3]
    refine h2.mono fun k hk ha => ?_
    rcases ha with (ha | ha) | ha
    · exact .inl ha
    · exact .inr ⟨by omega, hk⟩
    · exact .inr ⟨by omega, hk⟩
  · exact (hkW.mono fun _ _ h => h.elim).trans h3 fun k hk hs => by
      rcases hs with rfl | rfl | hs
      · exact h.An
      · exact h.Ad
      · exact h.rowA k hs.symm

set_option maxRecDepth 100000 in
set_option maxHeartbeats 400000 in
theorem create_any {A : Nat → Prop} {d : Nat} {m : M} (s : List UInt8) (w : World) (h : DR A w d m) (hA : ∀ k, A k → k < w.heap.size) (hs : s.length ≤ maxLen) (hwl : m.wait.length ≤ 1099511627776) (hL : m.L.length ≤ 1099511627776) (hcut : m.cut ≤ 9223372036854775807) :
    Calls Tryz.prog 13 #[.pointer (some ⟨d, 0, none⟩), .string ⟨s.toArray⟩] w fun e w' => e = .returned (.int .i64 ((call m 1 s [] 0 []).2 : Nat)) ∧ DR (Plus A w w') w' d (call m 1 s [] 0 []).1 ∧ Keep A w w' := by
  go_enter Tryz.func13, Tryz.ntmps13
  go_wp2_with (first | (at_builtin; refine wl_append rfl _ _ _ _ rfl _ _ rfl rfl ?_) | (at_make; refine wl_make rfl _ _ _ rfl _ _ rfl rfl ?_) | (at_mapUpdate; refine wl_mapUpdate rfl _ _ _ _ rfl _ _ _ rfl rfl rfl ?_) | (at_lookup; refine wl_lookup rfl _ _ _ _ rfl _ _ rfl rfl ?_) | (at_delete; refine wl_delete rfl _ _ _ _ rfl _ _ rfl rfl ?_) | (with_reducible refine wl_len rfl _ _ rfl _ rfl ?_) | (with_reducible refine wl_range rfl _ _ rfl _ rfl ?_) | (with_reducible refine wl_next rfl _ rfl _ rfl ?_) | (with_reducible refine wl_copy rfl _ _ _ _ rfl _ _ rfl rfl ?_) | (with_reducible refine wl_max rfl _ _ _ _ rfl _ _ rfl rfl ?_) | (with_reducible refine wl_min rfl _ _ _ _ rfl _ _ rfl rfl ?_))
  generalize hW : (w.alloc (Obj.cells #[Value.pointer (some { block := d, off := 0 })] 24)).alloc (Obj.cells #[Value.string { data := s.toArray }] 9) = W
  have hWs : W.heap.size = w.heap.size + 2 := by subst hW; simp
  have hkW : Keep No w W := by subst hW; exact ((Keep.refl _ _).alloc _).alloc _
  have hF : Blk W w.heap.size #[Value.pointer (some { block := d, off := 0 })] 24 := by subst hW; exact (Blk.new _ _ _).alloc _
  have hV : Blk W (w.heap.size + 1) #[Value.string { data := s.toArray }] 9 := by
    subst hW
    have := Blk.new (w.alloc (Obj.cells #[Value.pointer (some { block := d, off := 0 })] 24)) #[Value.string { data := s.toArray }] 9
    rw [World.size_alloc] at this
    exact this
  have hA' : ∀ k, A k → k < W.heap.size := fun k ha => by have := hA k ha; omega
  have h1 := h.keep hA hkW fun _ _ h => h
  refine (step_all (B := fun k => A k ∨ k = w.heap.size + 1) 1 s [] 0 [] W h1 hA' (fun k ha => .inl ha) hcut (enters_create1 _ _) (enters_create2 _ _) ?_ ?_).mono ?_
  · intro _
    obtain ⟨fb, nb, sb, wv, rows, h0⟩ := h1
    have hb := h0.blk.cell 1
    simp only [List.getElem?_toArray, List.getElem?_cons_succ, List.getElem?_cons_zero] at hb
    refine (create1_any s W hs h0.nm hb ((hV.cell 0).trans rfl) ((hF.cell 0).trans rfl)).mono ?_
    rintro e w' ⟨rfl, rfl⟩
    exact ⟨rfl, Keep.refl _ _⟩
  · intro w1 _ h2 k2
    have n1 : ¬ A w.heap.size := fun ha => by have := hA _ ha; omega
    have n2 : ¬ A (w.heap.size + 1) := fun ha => by have := hA _ ha; omega
    exact create2_any s w1 h2 (fun k ha => Nat.lt_of_lt_of_le (hA' k ha) k2.size) hs hwl hL ((hF.keep k2 n1).cell 0 |>.trans rfl) (hV.keep k2 n2)
  · rintro e w' ⟨rfl, h2, k2⟩
    go_wp2_with (first | (at_builtin; refine wl_append rfl _ _ _ _ rfl _ _ rfl rfl ?_) | (at_make; refine wl_make rfl _ _ _ rfl _ _ rfl rfl ?_) | (at_mapUpdate; refine wl_mapUpdate rfl _ _ _ _ rfl _ _ _ rfl rfl rfl ?_) | (at_lookup; refine wl_lookup rfl _ _ _ _ rfl _ _ rfl rfl ?_) | (at_delete; refine wl_delete rfl _ _ _ _ rfl _ _ rfl rfl ?_) | (with_reducible refine wl_len rfl _ _ rfl _ rfl ?_) | (with_reducible refine wl_range rfl _ _ rfl _ rfl ?_) | (with_reducible refine wl_next rfl _ rfl _ rfl ?_) | (with_reducible refine wl_copy rfl _ _ _ _ rfl _ _ rfl rfl ?_) | (with_reducible refine wl_max rfl _ _ _ _ rfl _ _ rfl rfl ?_) | (with_reducible refine wl_min rfl _ _ _ _ rfl _ _ rfl rfl ?_))
    go_ret
    refine ⟨rfl, h2.mono fun k hk ha => ?_, (hkW.mono fun _ _ h => h.elim).trans' k2⟩
    rcases ha with (ha | ha) | ha
    · exact .inl ha
    · exact .inr ⟨by omega, hk⟩
    · exact .inr ⟨by omega, hk⟩
end Go.Proofs.YtkmoomgmmhmaeaaGreat
namespace Go.Proofs.YtkmoomgmmhmaeaaGreat
open Go.RowKit Go.Dm Go.Dm.Dk Go.Maps Go.WideMaps Go.WideElems

def usedOf (is : List (List UInt8)) (T : Names) : Nat := (T.map fun p => fileLen is p.2).sum
theorem usedOf_without (is : List (List UInt8)) (s : List UInt8) (i : Nat) : ∀ T : Names, T.Pairwise (fun p q => p.1 ≠ q.1) → (s, i) ∈ T → usedOf is T = fileLen is i + usedOf is (without T s)
  | [], _, h => by cases h
  | q :: r, hp, h => by
    rw [List.pairwise_cons] at hp
    rcases List.mem_cons.1 h with e | h
    · subst e
      have e1 : without ((s, i) :: r) s = r := by
        unfold without
        rw [List.filter_cons_of_neg (by simp)]
        exact List.filter_eq_self.2 fun p hp' => by simpa using fun e => (hp.1 p hp') e.symm
      rw [e1]; simp [usedOf]
    · have hne : q.1 ≠ s := fun e => hp.1 _ h e
      have e1 : without (q :: r) s = q :: without r s := by
        unfold without
        rw [List.filter_cons_of_pos (by simpa using hne)]
      have ih := usedOf_without is s i r hp.2 h
      rw [e1]
      simp only [usedOf, List.map_cons, List.sum_cons] at ih ⊢
      omega
theorem mem_NL {fb : List Nat} {T : Names} {kl : Lit} {v : Value} (h : (kl, v) ∈ NL fb T) : ∃ s i, (s, i) ∈ T ∧ kl = .string s ∧ v = fptr fb i := by
  obtain ⟨p, hp, e⟩ := List.mem_map.1 h
  cases e
  exact ⟨p.1, p.2, hp, rfl, rfl⟩
theorem pairwise_without {T : Names} (h : T.Pairwise (fun p q => p.1 ≠ q.1)) (s : List UInt8) : (without T s).Pairwise (fun p q => p.1 ≠ q.1) := h.filter _

set_option maxRecDepth 100000 in
set_option maxHeartbeats 1000000 in
theorem used_any {A : Nat → Prop} {d : Nat} {m : M} (w : World) (h : DR A w d m) (hu : used m ≤ 4611686018427387904) :
    Calls Tryz.prog 56 #[.pointer (some ⟨d, 0, none⟩)] w fun e w' => e = .returned (.int .i64 (used m)) ∧ Keep No w w' := by
  obtain ⟨fb, nb, sb, wv, rows, h⟩ := h
  have h1 := h.blk.cell 1
  simp only [List.getElem?_toArray, List.getElem?_cons_succ, List.getElem?_cons_zero] at h1
  have hu0 : usedOf m.is m.L = used m := rfl
  have HU := Lib.hid hu0; clear hu0
  go_enter Tryz.func56, Tryz.ntmps56
  go_wp2_with (first | (at_builtin; refine wl_append rfl _ _ _ _ rfl _ _ rfl rfl ?_) | (at_make; refine wl_make rfl _ _ _ rfl _ _ rfl rfl ?_) | (at_mapUpdate; refine wl_mapUpdate rfl _ _ _ _ rfl _ _ _ rfl rfl rfl ?_) | (at_lookup; refine wl_lookup rfl _ _ _ _ rfl _ _ rfl rfl ?_) | (at_delete; refine wl_delete rfl _ _ _ _ rfl _ _ rfl rfl ?_) | (with_reducible refine wl_len rfl _ _ rfl _ rfl ?_) | (with_reducible refine wl_range rfl _ _ rfl _ rfl ?_) | (with_reducible refine wl_next rfl _ rfl _ rfl ?_) | (with_reducible refine wl_copy rfl _ _ _ _ rfl _ _ rfl rfl ?_) | (with_reducible refine wl_max rfl _ _ _ _ rfl _ _ rfl rfl ?_) | (with_reducible refine wl_min rfl _ _ _ _ rfl _ _ rfl rfl ?_))
  refine rg_range h.nm kStr Tryz.underlying57 ?_
  intro w1 hr hk1 _
  go_wp2_with (first | (at_builtin; refine wl_append rfl _ _ _ _ rfl _ _ rfl rfl ?_) | (at_make; refine wl_make rfl _ _ _ rfl _ _ rfl rfl ?_) | (at_mapUpdate; refine wl_mapUpdate rfl _ _ _ _ rfl _ _ _ rfl rfl rfl ?_) | (at_lookup; refine wl_lookup rfl _ _ _ _ rfl _ _ rfl rfl ?_) | (at_delete; refine wl_delete rfl _ _ _ _ rfl _ _ rfl rfl ?_) | (with_reducible refine wl_len rfl _ _ rfl _ rfl ?_) | (with_reducible refine wl_range rfl _ _ rfl _ rfl ?_) | (with_reducible refine wl_next rfl _ rfl _ rfl ?_) | (with_reducible refine wl_copy rfl _ _ _ _ rfl _ _ rfl rfl ?_) | (with_reducible refine wl_max rfl _ _ _ _ rfl _ _ rfl rfl ?_) | (with_reducible refine wl_min rfl _ _ _ _ rfl _ _ rfl rfl ?_))
  go_loopw [3] (fun n wr => ∃ T, RangeL Tryz.prog 9 wr nb w.heap.size (NL fb m.L) (NL fb T) ∧ T.Pairwise (fun p q => p.1 ≠ q.1) ∧ (∀ p ∈ T, p ∈ m.L) ∧ usedOf m.is T ≤ used m ∧ n = .int .i64 ((used m : Int) - usedOf m.is T) ∧ Keep No w wr) (fun _ wr => wr.rangeLeft nb w.heap.size)
  case atStart => exact ⟨m.L, hr, apart_names h.nm.apart, fun _ h => h, by rw [HU.out]; exact Nat.le_refl _, by rw [HU.out]; simp, hk1⟩
  case round =>
    obtain ⟨T, hr, hT, hsub, hle, rfl, hk⟩ := hrel
    go_wp2_with (first | (at_builtin; refine wl_append rfl _ _ _ _ rfl _ _ rfl rfl ?_) | (at_make; refine wl_make rfl _ _ _ rfl _ _ rfl rfl ?_) | (at_mapUpdate; refine wl_mapUpdate rfl _ _ _ _ rfl _ _ _ rfl rfl rfl ?_) | (at_lookup; refine wl_lookup rfl _ _ _ _ rfl _ _ rfl rfl ?_) | (at_delete; refine wl_delete rfl _ _ _ _ rfl _ _ rfl rfl ?_) | (with_reducible refine wl_len rfl _ _ rfl _ rfl ?_) | (with_reducible refine wl_range rfl _ _ rfl _ rfl ?_) | (with_reducible refine wl_next rfl _ rfl _ rfl ?_) | (with_reducible refine wl_copy rfl _ _ _ _ rfl _ _ rfl rfl ?_) | (with_reducible refine wl_max rfl _ _ _ _ rfl _ _ rfl rfl ?_) | (with_reducible refine wl_min rfl _ _ _ _ rfl _ _ rfl rfl ?_))
    refine rg_next hr kStr ?_ ?_
    · intro e0
      have e1 : T = [] := by simpa [NL] using e0
      subst e1
      go_wp2_with (first | (at_builtin; refine wl_append rfl _ _ _ _ rfl _ _ rfl rfl ?_) | (at_make; refine wl_make rfl _ _ _ rfl _ _ rfl rfl ?_) | (at_mapUpdate; refine wl_mapUpdate rfl _ _ _ _ rfl _ _ _ rfl rfl rfl ?_) | (at_lookup; refine wl_lookup rfl _ _ _ _ rfl _ _ rfl rfl ?_) | (at_delete; refine wl_delete rfl _ _ _ _ rfl _ _ rfl rfl ?_) | (with_reducible refine wl_len rfl _ _ rfl _ rfl ?_) | (with_reducible refine wl_range rfl _ _ rfl _ rfl ?_) | (with_reducible refine wl_next rfl _ rfl _ rfl ?_) | (with_reducible refine wl_copy rfl _ _ _ _ rfl _ _ rfl rfl ?_) | (with_reducible refine wl_max rfl _ _ _ _ rfl _ _ rfl rfl ?_) | (with_reducible refine wl_min rfl _ _ _ _ rfl _ _ rfl rfl ?_))
      go_ret
      exact ⟨by simp [usedOf], hk⟩
    · intro key v kl w' hkey hmem hr' hlt hk' hs hen
      obtain ⟨s, i, hsi, rfl, rfl⟩ := mem_NL hmem
      rw [eraseL_NL] at hr'
      obtain ⟨_, _, v1, v2, hb, hv1, _⟩ := h.file i (.inl ⟨s, hsub _ hsi⟩)
      have hne : ¬ fb.getD i 0 = w.heap.size := fun e => by have := hb.lt; omega
      have hk2 : Keep (fun j => j = w.heap.size) w w' := (hk.mono fun _ _ h => h.elim).trans' hk'
      have hc := (hb.keep hk2 hne).cell 0
      simp only [fptr, ptrTo] at hen
      generalize fb.getD i 0 = b at *
      obtain ⟨a, cap, rfl, _, hcm⟩ := hv1.shape
      have hc' : w'.cell? ⟨b, 0, none⟩ = some (.slice a (m.is.getD i []).length cap) := hc
      have hw := usedOf_without m.is s i T hT hsi
      have hl : fileLen m.is i = (m.is.getD i []).length := rfl
      generalize (m.is.getD i []).length = n at *
      have HW := Lib.hid hw
      have HL := Lib.hid hl
      have hx : (used m : Int) - usedOf m.is T + n = (used m : Int) - usedOf m.is (without T s) := by omega
      have hb1 : (0 : Int) ≤ (used m : Int) - usedOf m.is T := by omega
      have hb2 : (used m : Int) - usedOf m.is T + n ≤ 4611686018427387904 := by omega
      have HX := Lib.hid hx
      clear hx hw hl hc
      go_wp2_with (first | (at_builtin; refine wl_append rfl _ _ _ _ rfl _ _ rfl rfl ?_) | (at_make; refine wl_make rfl _ _ _ rfl _ _ rfl rfl ?_) | (at_mapUpdate; refine wl_mapUpdate rfl _ _ _ _ rfl _ _ _ rfl rfl rfl ?_) | (at_lookup; refine wl_lookup rfl _ _ _ _ rfl _ _ rfl rfl ?_) | (at_delete; refine wl_delete rfl _ _ _ _ rfl _ _ rfl rfl ?_) | (with_reducible refine wl_len rfl _ _ rfl _ rfl ?_) | (with_reducible refine wl_range rfl _ _ rfl _ rfl ?_) | (with_reducible refine wl_next rfl _ rfl _ rfl ?_) | (with_reducible refine wl_copy rfl _ _ _ _ rfl _ _ rfl rfl ?_) | (with_reducible refine wl_max rfl _ _ _ _ rfl _ _ rfl rfl ?_) | (with_reducible refine wl_min rfl _ _ _ _ rfl _ _ rfl rfl ?_))
      go_roundw
      case rel =>
        refine ⟨without T s, hr', pairwise_without hT s, fun p hp => hsub p (List.mem_filter.1 hp).1, ?_, ?_, ?_⟩
        · have := HW.out; omega
        · rw [← HX.out]
        · exact (hk.trans hk' (fun j hj e => absurd e (by omega)))
      case measure => exact hlt
end Go.Proofs.YtkmoomgmmhmaeaaGreat
