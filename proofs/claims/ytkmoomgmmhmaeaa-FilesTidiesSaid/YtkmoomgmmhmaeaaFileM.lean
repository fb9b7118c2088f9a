/- Crash. New, Read, Off, Pending, Cut. New. slices.Sorted(maps.Keys(m)) at this seat, and Names. Names. Bounds of a disk under calls (no program), and the disk's contracts for a caller that owns its memory. Files put in place: steps of a disk, as lists: no program. No condition. -/
import Derived.Test.YtkmoomgmmhmaeaaDiskL
import Derived.Test.YtkmoomgmmhmaeaaDiskU
import Derived.Test.YtkmoomgmmhmaeaaLays
import Derived.Sort.KeysCollected
namespace Go.Proofs.Ytkmoomgmmhmaeaa
open Go.RowKit Go.Dm Go.Dm.Dk Go.Maps Go.WideMaps Go.WideElems

/-- behind the settling: nothing waits, the power is back -/
theorem DRep.woken {A : Nat → Prop} {w : World} {d : Nat} {m : M} {fb : List Nat} {nb sb : Nat} {wv : Value} {rows : List (List Value)} (h : DRep A w d m fb nb sb wv rows) :
    DRep A (((w.setCell ⟨d, 3, none⟩ (.slice none 0 0)).setCell ⟨d, 4, none⟩ (.bool false)).setCell ⟨d, 5, none⟩ (.int .i64 0)) d { m with wait := [], off := false, cut := 0 } fb nb sb (.slice none 0 0) [] := by
  have h1 := h.rewait (base := 0) (lv := .slice none 0 0) (lrows := []) (W := []) ⟨World.ownsRow_nil _ _ _ _, fun g hg => (by cases hg), rfl, fun i o ho => (by simp at ho)⟩ (fun o ho => (by cases ho))
  have h2 := h1.set (m' := { m with wait := [], off := false }) (i := 4) (.bool false) rfl rfl rfl rfl rfl rfl
  exact h2.set (m' := { m with wait := [], off := false, cut := 0 }) (i := 5) (.int .i64 0) rfl rfl rfl rfl rfl rfl

theorem pairwise_ne : ∀ {T : Names}, T.Pairwise (fun p q => p.1 ≠ q.1) → ∀ {p q : List UInt8 × Nat}, p ∈ T → q ∈ T → p ≠ q → p.1 ≠ q.1
  | [], _, _, _, h, _, _ => by cases h
  | a :: r, hp, p, q, h1, h2, hne => by
    rw [List.pairwise_cons] at hp
    rcases List.mem_cons.1 h1 with e1 | h3
    · rcases List.mem_cons.1 h2 with e2 | h4
      · exact absurd (e1.trans e2.symm) hne
      · rw [e1]; exact hp.1 q h4
    · rcases List.mem_cons.1 h2 with e2 | h4
      · rw [e2]; exact (hp.1 p h3).symm
      · exact pairwise_ne hp.2 h3 h4 hne

set_option maxRecDepth 100000 in
set_option maxHeartbeats 1000000 in
theorem crash_any {A B : Nat → Prop} {d : Nat} {m : M} {v : Value} (keep : List Bool) (w : World) (h : DR A w d m) (hA : ∀ k, A k → k < w.heap.size) (hfit : FitW m) (hv : Bls B w v keep) (hB : ∀ k, B k → ¬ A k) :
    Calls Try.prog 19 #[.pointer (some ⟨d, 0, none⟩), v] w fun e w' => e = .returned (.tuple #[]) ∧ DR (Plus A w w') w' d (crash m keep) ∧ Keep A w w' := by
  obtain ⟨av, cv, rfl, _, _⟩ := hv.shape
  have hwl := hfit.wl
  go_enter Try.func19, Try.ntmps19
  go_wp2_with (first | (at_builtin; refine wl_append rfl _ _ _ _ rfl _ _ rfl rfl ?_) | (at_make; refine wl_make rfl _ _ _ rfl _ _ rfl rfl ?_) | (at_mapUpdate; refine wl_mapUpdate rfl _ _ _ _ rfl _ _ _ rfl rfl rfl ?_) | (at_lookup; refine wl_lookup rfl _ _ _ _ rfl _ _ rfl rfl ?_) | (at_delete; refine wl_delete rfl _ _ _ _ rfl _ _ rfl rfl ?_) | (with_reducible refine wl_len rfl _ _ rfl _ rfl ?_) | (with_reducible refine wl_range rfl _ _ rfl _ rfl ?_) | (with_reducible refine wl_next rfl _ rfl _ rfl ?_) | (with_reducible refine wl_copy rfl _ _ _ _ rfl _ _ rfl rfl ?_) | (with_reducible refine wl_max rfl _ _ _ _ rfl _ _ rfl rfl ?_) | (with_reducible refine wl_min rfl _ _ _ _ rfl _ _ rfl rfl ?_))
  generalize hW : (w.alloc (Obj.cells #[Value.slice av keep.length cv] 41)).alloc (Obj.cells #[Value.int IntKind.i64 (-1)] 3) = W
  have hWs : W.heap.size = w.heap.size + 2 := by subst hW; simp
  have hkW : Keep No w W := by subst hW; exact ((Keep.refl _ _).alloc _).alloc _
  have hZ : Blk W w.heap.size #[Value.slice av keep.length cv] 41 := by subst hW; exact (Blk.new _ _ _).alloc _
  have hY : Blk W (w.heap.size + 1) #[Value.int IntKind.i64 (-1)] 3 := by
    subst hW
    have := Blk.new (w.alloc (Obj.cells #[Value.slice av keep.length cv] 41)) #[Value.int IntKind.i64 (-1)] 3
    rw [World.size_alloc] at this
    exact this
  clear hW
  have hA' : ∀ k, A k → k < W.heap.size := fun k ha => by have := hA k ha; omega
  obtain ⟨fb, nb, sb, wv, rows, h1⟩ := h.keep hA hkW fun _ _ h => h
  have hvW : Bls (fun k => B k ∧ k < w.heap.size) W (.slice av keep.length cv) keep := (Sl.mono (B := fun k => B k ∧ k < w.heap.size) hv fun k hk hb => ⟨hb, hk⟩).keep hkW fun _ _ _ h => h
  refine (settle_any (C := fun k => k = w.heap.size + 1 ∨ k = w.heap.size ∨ (B k ∧ k < w.heap.size)) (f := 46) (caps := #[ptrTo (w.heap.size + 1), ptrTo w.heap.size]) (fun i => keep.getD i false)
    (fun i w' => Blk w' (w.heap.size + 1) #[.int .i64 ((i : Int) - 1)] 3 ∧ ∀ j, (j = w.heap.size ∨ (B j ∧ j < w.heap.size)) → w'.heap[j]? = W.heap[j]?) W h1 hA' ?_ hfit (fun v => enters_crash1 v _ _) ⟨by simpa using hY, fun _ _ => rfl⟩ ?_ ?_).mono ?_
  · rintro k (rfl | rfl | ⟨hb, hk⟩)
    · exact ⟨by omega, fun ha => by have := hA _ ha; omega⟩
    · exact ⟨by omega, fun ha => by have := hA _ ha; omega⟩
    · exact ⟨by omega, hB k hb⟩
  · intro i w1 w2 hj _ e
    exact ⟨hj.1.same (e _ (.inl rfl)), fun j hjj => (e j (.inr hjj)).trans (hj.2 j hjj)⟩
  · intro i o p0 p1 p2 p3 w1 hj hD ho hp
    have hs1 : W.heap.size ≤ w1.heap.size := by
      have := hj.2 w.heap.size (.inl rfl)
      have h2 := hD.blk.lt
      have h3 := hj.1.lt
      omega
    have hZ1 : Blk w1 w.heap.size _ _ := hZ.same (hj.2 _ (.inl rfl))
    have hv1 := Sl.same hvW hs1 fun j _ hb => hj.2 j (.inr hb)
    have hio := (List.getElem?_eq_some_iff.1 ho).1
    refine (crash1_any (k := i) keep p0 p1 p2 p3 w1 hj.1 hZ1 hv1 (fun j hb => by omega) (by omega)).mono ?_
    rintro e w2 ⟨rfl, hy2, hk2⟩
    refine ⟨rfl, ⟨?_, fun j hjj => ?_⟩, hk2.mono fun j _ e => .inl e⟩
    · have e : ((i + 1 : Nat) : Int) - 1 = i := by omega
      rw [e]; exact hy2
    · rw [hk2.block j (by rcases hjj with hjj | hjj <;> omega) (by rcases hjj with hjj | hjj <;> omega)]
      exact hj.2 j hjj
  · rintro e w1 ⟨rfl, hR, hk1, hJ⟩
    have hk01 : Keep A w w1 := by
      refine ⟨hk1.os.trans hkW.os, hk1.tape.trans hkW.tape, hk1.output.trans hkW.output, Nat.le_trans hkW.size hk1.size, fun j hj hna => ?_⟩
      have e1 := hkW.block j hj fun h => h
      by_cases hb : B j
      · exact (hJ.2 j (.inr ⟨hb, hj⟩)).trans e1
      · exact (hk1.block j (by omega) (by rintro (h | h | h | h) <;> first | exact hna h | omega | exact hb h.1)).trans e1
    have hul := (stOk (fun i => keep.getD i false) m hfit _ (Nat.le_refl _)).ul
    rw [st_all] at hul
    have e0 : crash m keep = { Dk.settle m (fun i => keep.getD i false) with wait := [], off := false, cut := 0, L := (Dk.settle m (fun i => keep.getD i false)).S, is := (Dk.settle m (fun i => keep.getD i false)).sure } := rfl
    clear hJ hZ hY hvW
    generalize hs : Dk.settle m (fun i => keep.getD i false) = s at *
    clear hs
    have HE0 := Lib.hid e0
    clear e0
    obtain ⟨fb, nb, sb, wv, rows, hR⟩ := hR
    have q3 := hR.blk.cell 3
    have q4 := hR.blk.cell 4
    have q5 := hR.blk.cell 5
    have f3 := hR.blk.frozen 3
    have f4 := hR.blk.frozen 4
    have f5 := hR.blk.frozen 5
    have q2 := hR.blk.cell 2
    simp only [List.getElem?_toArray, List.getElem?_cons_succ, List.getElem?_cons_zero] at q2 q3 q4 q5
    have HUL := Lib.hid hul
    have HA := Lib.hid hA
    clear hul hA hA' hB h1 h
    go_wp2_with (first | (at_builtin; refine wl_append rfl _ _ _ _ rfl _ _ rfl rfl ?_) | (at_make; refine wl_make rfl _ _ _ rfl _ _ rfl rfl ?_) | (at_mapUpdate; refine wl_mapUpdate rfl _ _ _ _ rfl _ _ _ rfl rfl rfl ?_) | (at_lookup; refine wl_lookup rfl _ _ _ _ rfl _ _ rfl rfl ?_) | (at_delete; refine wl_delete rfl _ _ _ _ rfl _ _ rfl rfl ?_) | (with_reducible refine wl_len rfl _ _ rfl _ rfl ?_) | (with_reducible refine wl_range rfl _ _ rfl _ rfl ?_) | (with_reducible refine wl_next rfl _ rfl _ rfl ?_) | (with_reducible refine wl_copy rfl _ _ _ _ rfl _ _ rfl rfl ?_) | (with_reducible refine wl_max rfl _ _ _ _ rfl _ _ rfl rfl ?_) | (with_reducible refine wl_min rfl _ _ _ _ rfl _ _ rfl rfl ?_))
    have hR2 := hR.woken
    have hk2 : Keep (Plus A W w1) w1 (((w1.setCell ⟨d, 3, none⟩ (.slice none 0 0)).setCell ⟨d, 4, none⟩ (.bool false)).setCell ⟨d, 5, none⟩ (.int .i64 0)) :=
      (((Keep.refl _ _).setCell (fun _ => hR.Ad) _).setCell (fun _ => hR.Ad) _).setCell (fun _ => hR.Ad) _
    refine (mapsclone_any _ hR2.sm).mono ?_
    rintro e w3 ⟨rfl, hm3, hk3, hsz3⟩
    generalize ((w1.setCell ⟨d, 3, none⟩ (.slice none 0 0)).setCell ⟨d, 4, none⟩ (.bool false)).setCell ⟨d, 5, none⟩ (.int .i64 0) = w2 at *
    have hA2 : ∀ j, Plus A W w1 j → j < w2.heap.size := by
      intro j hj
      have h1 := hk2.size
      rcases hj with hj | hj
      · have := HA.out j hj; have := hk1.size; omega
      · omega
    have hR3 := hR2.same hk3.size fun j hj => hk3.block j (hA2 j hj) fun h => h
    have g1 := hR3.blk.cell 1
    have g2 := hR3.blk.frozen 1
    simp only [List.getElem?_toArray, List.getElem?_cons_succ, List.getElem?_cons_zero] at g1
    have hR4 := (hR3.mono (B := fun k => Plus A W w1 k ∨ k = w2.heap.size) fun k _ ha => .inl ha).named (nb' := w2.heap.size) (L' := s.S) hm3 (.inr rfl) (fun e => by have := hA2 sb hR.As; omega) (fun i hi => .inr (.inl hi))
    have hk4 : Keep (Plus A W w1) w3 (w3.setCell ⟨d, 1, none⟩ (.map (some w2.heap.size))) := (Keep.refl _ _).setCell (fun _ => hR.Ad) _
    clear q2 q3 q4 q5 f3 f4 f5
    go_wp2_with (first | (at_builtin; refine wl_append rfl _ _ _ _ rfl _ _ rfl rfl ?_) | (at_make; refine wl_make rfl _ _ _ rfl _ _ rfl rfl ?_) | (at_mapUpdate; refine wl_mapUpdate rfl _ _ _ _ rfl _ _ _ rfl rfl rfl ?_) | (at_lookup; refine wl_lookup rfl _ _ _ _ rfl _ _ rfl rfl ?_) | (at_delete; refine wl_delete rfl _ _ _ _ rfl _ _ rfl rfl ?_) | (with_reducible refine wl_len rfl _ _ rfl _ rfl ?_) | (with_reducible refine wl_range rfl _ _ rfl _ rfl ?_) | (with_reducible refine wl_next rfl _ rfl _ rfl ?_) | (with_reducible refine wl_copy rfl _ _ _ _ rfl _ _ rfl rfl ?_) | (with_reducible refine wl_max rfl _ _ _ _ rfl _ _ rfl rfl ?_) | (with_reducible refine wl_min rfl _ _ _ _ rfl _ _ rfl rfl ?_))
    have hk04 : Keep A w (w3.setCell ⟨d, 1, none⟩ (.map (some w2.heap.size))) := by
      have h1 := hk01.size
      have h2 := hk2.size
      have h3 := hk3.size
      refine ((hk01.trans hk2 fun j hj ha => ?_).trans hk3 fun j _ h => h.elim).trans hk4 fun j hj ha => ?_
      · rcases ha with ha | ha
        · exact ha
        · omega
      · rcases ha with ha | ha
        · exact ha
        · omega
    have hA4 : ∀ j, (fun k => Plus A W w1 k ∨ k = w2.heap.size) j → j < (w3.setCell ⟨d, 1, none⟩ (.map (some w2.heap.size))).heap.size := by
      intro j hj
      have h3 := hk3.size
      simp only [World.size_setCell]
      rcases hj with hj | hj
      · have := hA2 j hj; omega
      · omega
    have hApl : ∀ j, (fun k => Plus A W w1 k ∨ k = w2.heap.size) j → A j ∨ w.heap.size ≤ j := by
      intro j hj
      have h1 := hk01.size
      have h2 := hk2.size
      rcases hj with (hj | hj) | hj
      · exact .inl hj
      · exact .inr (by omega)
      · exact .inr (by omega)
    generalize (fun k => Plus A W w1 k ∨ k = w2.heap.size) = A4 at *
    generalize w3.setCell ⟨d, 1, none⟩ (.map (some w2.heap.size)) = w4 at *
    generalize w2.heap.size = nb' at *
    clear hk1 hR hk01 hR2 hk2 hA2 hm3 hk3 hsz3 hR3 g1 g2 hk4 hWs hkW
    refine rg_range hR4.nm kStr Try.underlying59 ?_
    intro w5 hr hk5 hsz5
    go_wp2_with (first | (at_builtin; refine wl_append rfl _ _ _ _ rfl _ _ rfl rfl ?_) | (at_make; refine wl_make rfl _ _ _ rfl _ _ rfl rfl ?_) | (at_mapUpdate; refine wl_mapUpdate rfl _ _ _ _ rfl _ _ _ rfl rfl rfl ?_) | (at_lookup; refine wl_lookup rfl _ _ _ _ rfl _ _ rfl rfl ?_) | (at_delete; refine wl_delete rfl _ _ _ _ rfl _ _ rfl rfl ?_) | (with_reducible refine wl_len rfl _ _ rfl _ rfl ?_) | (with_reducible refine wl_range rfl _ _ rfl _ rfl ?_) | (with_reducible refine wl_next rfl _ rfl _ rfl ?_) | (with_reducible refine wl_copy rfl _ _ _ _ rfl _ _ rfl rfl ?_) | (with_reducible refine wl_max rfl _ _ _ _ rfl _ _ rfl rfl ?_) | (with_reducible refine wl_min rfl _ _ _ _ rfl _ _ rfl rfl ?_))
    go_loopw [6] (fun _ wr => ∃ T is', RangeL Try.prog 9 wr nb' w4.heap.size (NL fb s.S) (NL fb T) ∧ T.Pairwise (fun p q => p.1 ≠ q.1) ∧ (∀ p ∈ T, p ∈ s.S) ∧
      DRep (fun k => Plus A4 w4 wr k ∧ k ≠ w4.heap.size) wr d { s with wait := [], off := false, cut := 0, L := s.S, is := is' } fb nb' sb (.slice none 0 0) [] ∧ is'.length = s.is.length ∧
      (∀ p ∈ s.S, p ∉ T → is'.getD p.2 [] = s.sure.getD p.2 []) ∧ Keep A4 w4 wr) (fun _ wr => wr.rangeLeft nb' w4.heap.size)
    case atStart =>
      refine ⟨s.S, s.is, hr, apart_names hR4.nm.apart, fun _ h => h, ?_, rfl, fun p h1 h2 => absurd h1 h2, hk5.mono fun _ _ h => h.elim⟩
      exact (hR4.same hk5.size fun j hj => hk5.block j (hA4 j hj) fun h => h).mono fun j _ hj => ⟨.inl hj, by have := hA4 j hj; omega⟩
    case round =>
      obtain ⟨T, is', hr, hT, hsub, hD, hlen, hdone, hk⟩ := hrel
      go_wp2_with (first | (at_builtin; refine wl_append rfl _ _ _ _ rfl _ _ rfl rfl ?_) | (at_make; refine wl_make rfl _ _ _ rfl _ _ rfl rfl ?_) | (at_mapUpdate; refine wl_mapUpdate rfl _ _ _ _ rfl _ _ _ rfl rfl rfl ?_) | (at_lookup; refine wl_lookup rfl _ _ _ _ rfl _ _ rfl rfl ?_) | (at_delete; refine wl_delete rfl _ _ _ _ rfl _ _ rfl rfl ?_) | (with_reducible refine wl_len rfl _ _ rfl _ rfl ?_) | (with_reducible refine wl_range rfl _ _ rfl _ rfl ?_) | (with_reducible refine wl_next rfl _ rfl _ rfl ?_) | (with_reducible refine wl_copy rfl _ _ _ _ rfl _ _ rfl rfl ?_) | (with_reducible refine wl_max rfl _ _ _ _ rfl _ _ rfl rfl ?_) | (with_reducible refine wl_min rfl _ _ _ _ rfl _ _ rfl rfl ?_))
      refine rg_next hr kStr ?_ ?_
      · intro e1
        have e2 : T = [] := by simpa [NL] using e1
        subst e2
        go_wp2_with (first | (at_builtin; refine wl_append rfl _ _ _ _ rfl _ _ rfl rfl ?_) | (at_make; refine wl_make rfl _ _ _ rfl _ _ rfl rfl ?_) | (at_mapUpdate; refine wl_mapUpdate rfl _ _ _ _ rfl _ _ _ rfl rfl rfl ?_) | (at_lookup; refine wl_lookup rfl _ _ _ _ rfl _ _ rfl rfl ?_) | (at_delete; refine wl_delete rfl _ _ _ _ rfl _ _ rfl rfl ?_) | (with_reducible refine wl_len rfl _ _ rfl _ rfl ?_) | (with_reducible refine wl_range rfl _ _ rfl _ rfl ?_) | (with_reducible refine wl_next rfl _ rfl _ rfl ?_) | (with_reducible refine wl_copy rfl _ _ _ _ rfl _ _ rfl rfl ?_) | (with_reducible refine wl_max rfl _ _ _ _ rfl _ _ rfl rfl ?_) | (with_reducible refine wl_min rfl _ _ _ _ rfl _ _ rfl rfl ?_))
        go_end0
        have hs4 := hk.size
        have hs04 := hk04.size
        refine ⟨rfl, ?_, hk04.trans hk fun j hj ha => ?_⟩
        · rw [HE0.out]
          have hsl : s.sure.length = is'.length := hD.sl
          have hfin := hD.files s.sure hsl fun i hi => by
            have : ∃ s', (s', i) ∈ s.S := by
              rcases hi with hi | hi | ⟨o, ho, _⟩
              · exact hi
              · exact hi
              · cases ho
            obtain ⟨s', hi⟩ := this
            exact (hdone _ hi (by simp)).symm
          refine ⟨fb, nb', sb, .slice none 0 0, [], hfin.mono fun j hj ha => ?_⟩
          rcases ha.1 with ha | ha
          · rcases hApl j ha with h | h
            · exact .inl h
            · exact .inr ⟨h, hj⟩
          · exact .inr ⟨by omega, hj⟩
        · rcases hApl j ha with h | h
          · exact h
          · omega
      · intro key v kl w' hkey hmem hr' hlt hk' hsz' hen
        obtain ⟨s0, i, hsi, rfl, rfl⟩ := mem_NL hmem
        rw [eraseL_NL] at hr'
        have hs4 := hk.size
        have hDA : ∀ j, (Plus A4 w4 wr j ∧ j ≠ w4.heap.size) → j < wr.heap.size := by
          intro j hj
          rcases hj.1 with h | h
          · have := hA4 j h; omega
          · exact h.2
        have hD' := hD.same hk'.size fun j hj => hk'.block j (hDA j hj) hj.2
        have hlive : Live { s with wait := [], off := false, cut := 0, L := s.S, is := is' } i := .inl ⟨s0, hsub _ hsi⟩
        obtain ⟨hil, hbA, v1, v2, hb, hv1, hv2⟩ := hD'.file i hlive
        have hsu := HUL.out i
        have hb0 := hb
        simp only [fptr, ptrTo] at hen
        obtain ⟨a2, c2, rfl, _, _⟩ := hv2.shape
        have hvv : DB (fun k => Plus A4 w4 wr k ∧ k ≠ w4.heap.size) w' (.slice a2 (s.sure.getD i []).length c2) (s.sure.getD i []) := hv2
        have hlb : Bts (fun j => j < w'.heap.size) w' (.slice a2 (s.sure.getD i []).length c2) (s.sure.getD i []) := Sl.mono hvv.bts (fun j hj _ => hj)
        have hc1 : w'.cell? ⟨fb.getD i 0, 1, none⟩ = some (.slice a2 (s.sure.getD i []).length c2) := hb.cell 1
        have hc0 : w'.cell? ⟨fb.getD i 0, 0, none⟩ = some v1 := hb.cell 0
        have hbl := hb.lt
        clear hv2
        have HVV := Lib.hid hvv
        clear hvv
        generalize hX : s.sure.getD i [] = X at *
        have HX := Lib.hid hX
        clear hX
        generalize hbb : fb.getD i 0 = b at *
        have HB := Lib.hid hbb
        clear hbb
        go_wp2_with (first | (at_builtin; refine wl_append rfl _ _ _ _ rfl _ _ rfl rfl ?_) | (at_make; refine wl_make rfl _ _ _ rfl _ _ rfl rfl ?_) | (at_mapUpdate; refine wl_mapUpdate rfl _ _ _ _ rfl _ _ _ rfl rfl rfl ?_) | (at_lookup; refine wl_lookup rfl _ _ _ _ rfl _ _ rfl rfl ?_) | (at_delete; refine wl_delete rfl _ _ _ _ rfl _ _ rfl rfl ?_) | (with_reducible refine wl_len rfl _ _ rfl _ rfl ?_) | (with_reducible refine wl_range rfl _ _ rfl _ rfl ?_) | (with_reducible refine wl_next rfl _ rfl _ rfl ?_) | (with_reducible refine wl_copy rfl _ _ _ _ rfl _ _ rfl rfl ?_) | (with_reducible refine wl_max rfl _ _ _ _ rfl _ _ rfl rfl ?_) | (with_reducible refine wl_min rfl _ _ _ _ rfl _ _ rfl rfl ?_))
        refine (clone_any _ X w' hlb hsu).mono ?_
        rintro e w6 ⟨v', rfl, hown, hk6⟩
        obtain ⟨a6, c6, rfl, _, _⟩ := (Sl.of_own hown).shape
        have hb6 := hb.keep hk6 fun h => h
        have r0 := hb6.cell 0
        have r1 := hb6.frozen 0
        simp only [List.getElem?_toArray, List.getElem?_cons_zero] at r0
        go_wp2_with (first | (at_builtin; refine wl_append rfl _ _ _ _ rfl _ _ rfl rfl ?_) | (at_make; refine wl_make rfl _ _ _ rfl _ _ rfl rfl ?_) | (at_mapUpdate; refine wl_mapUpdate rfl _ _ _ _ rfl _ _ _ rfl rfl rfl ?_) | (at_lookup; refine wl_lookup rfl _ _ _ _ rfl _ _ rfl rfl ?_) | (at_delete; refine wl_delete rfl _ _ _ _ rfl _ _ rfl rfl ?_) | (with_reducible refine wl_len rfl _ _ rfl _ rfl ?_) | (with_reducible refine wl_range rfl _ _ rfl _ rfl ?_) | (with_reducible refine wl_next rfl _ rfl _ rfl ?_) | (with_reducible refine wl_copy rfl _ _ _ _ rfl _ _ rfl rfl ?_) | (with_reducible refine wl_max rfl _ _ _ _ rfl _ _ rfl rfl ?_) | (with_reducible refine wl_min rfl _ _ _ _ rfl _ _ rfl rfl ?_))
        have hbn : b ≠ w4.heap.size := hbA.2
        have hbnb : nb' ≠ b := hD'.nm.ne_blk hb0
        have h6s := hk6.size
        have h7 : ∀ k, k < w'.heap.size → k ≠ b → (w6.setCell ⟨b, 0, none⟩ (.slice a6 X.length c6)).heap[k]? = w'.heap[k]? := fun k hk h1 => by
          rw [Below.heap_setCell _ _ _ _ h1]; exact hk6.block k hk fun h => h
        have h7s : (w6.setCell ⟨b, 0, none⟩ (.slice a6 X.length c6)).heap.size = w6.heap.size := by simp
        have hset := hb6.set (i := 0) (.slice a6 X.length c6)
        have hown7 : (w6.setCell ⟨b, 0, none⟩ (.slice a6 X.length c6)).ownsRow w'.heap.size 5 1 (.slice a6 X.length c6) X.length (X.map bv) :=
          ownsRow_same hown fun g hg => Below.heap_setCell _ _ _ _ fun e => by
            have e : g = b := e
            have := (hown.lt g hg).1
            omega
        have hv27 : DB (Plus (fun k => Plus A4 w4 wr k ∧ k ≠ w4.heap.size) w' (w6.setCell ⟨b, 0, none⟩ (.slice a6 X.length c6))) (w6.setCell ⟨b, 0, none⟩ (.slice a6 X.length c6)) (.slice a2 X.length c2) X := by
          refine (HVV.out.same (by omega) fun k hkl _ ⟨cs, fr, hkk⟩ => h7 k hkl ?_).mono fun k _ ha => .inl ha
          rintro rfl
          rw [show w'.heap[_]? = _ from hb0] at hkk; cases hkk
        have hfin := hD'.filed (m' := { s with wait := [], off := false, cut := 0, L := s.S, is := putF is' i X }) (v' := .slice a6 X.length c6) (j := 0) hk6 hil ⟨rfl, rfl, rfl, rfl, rfl, rfl⟩ (by simp [putF]) rfl
          (fun j hj => ⟨by simp [putF, List.getD, List.getElem?_set_ne (Ne.symm hj)], rfl⟩) hlive (by
            rw [HB.out]
            have hil' : i < is'.length := hil
            have e9 : (putF is' i X).getD i [] = X := by simp [putF, List.getD, hil']
            refine ⟨.slice a6 X.length c6, .slice a2 X.length c2, hset, ?_, ?_⟩
            · show DB _ _ _ ((putF is' i X).getD i [])
              rw [e9]
              exact (DB.of_own hown7).mono fun k hk hb => .inr ⟨hb, hk⟩
            · show DB _ _ _ (s.sure.getD i [])
              rw [HX.out]; exact hv27)
        rw [HB.out] at hfin
        have hr7 := hr'.same (h7 _ hr'.map.lt hbnb) (h7 _ hr'.lt hbn.symm)
        have hw's : wr.heap.size ≤ w'.heap.size := hk'.size
        have hr'l := hr'.lt
        refine ⟨⟨without T s0, putF is' i X, hr7, pairwise_without hT s0, fun p hp => hsub p (List.mem_filter.1 hp).1, hfin.mono fun k hk ha => ?_, by simp [putF, hlen], fun p hp hn => ?_, ?_⟩, ?_⟩
        · rcases ha with ha | ha
          · exact ⟨plus_le (by omega) k ha.1, ha.2⟩
          · obtain ⟨ha1, ha2⟩ := ha
            exact ⟨.inr ⟨by omega, ha2⟩, by omega⟩
        · by_cases hpi : p.2 = i
          · have hil' : i < is'.length := hil
            rw [hpi, HX.out]; simp [putF, List.getD, hil']
          · have hnT : ¬ p ∈ T := by
              intro hpT
              apply hn
              refine List.mem_filter.2 ⟨hpT, ?_⟩
              have : p.1 ≠ s0 := by
                intro e
                apply hpi
                by_cases hpe : p = (s0, i)
                · rw [hpe]
                · exact absurd e (pairwise_ne hT hpT hsi hpe)
              simpa using this
            have := hdone p hp hnT
            rw [← this]
            simp [putF, List.getD, List.getElem?_set_ne (Ne.symm hpi)]
        · have hkk : Keep A4 w4 w' := hk.trans hk' fun j hj e => absurd e (by omega)
          refine (hkk.trans hk6 fun j _ h => h.elim).setCell (fun hlt => ?_) _
          rcases hbA.1 with h | h
          · exact h
          · have h : w4.heap.size ≤ b ∧ _ := h
            have hlt : b < w4.heap.size := hlt
            omega
        · have e10 : (w6.setCell ⟨b, 0, none⟩ (.slice a6 X.length c6)).rangeLeft nb' w4.heap.size = w'.rangeLeft nb' w4.heap.size := by
            unfold World.rangeLeft
            rw [h7 _ hr'.map.lt hbnb, h7 _ hr'.lt hbn.symm]
          rw [e10]; exact hlt
end Go.Proofs.Ytkmoomgmmhmaeaa
namespace Go.Proofs.Ytkmoomgmmhmaeaa
open Go.RowKit Go.Dm Go.Dm.Dk Go.Maps Go.WideMaps Go.WideElems

set_option maxRecDepth 100000 in
set_option maxHeartbeats 1000000 in
theorem read_any {A : Nat → Prop} {d : Nat} {m : M} (s : List UInt8) (w : World) (h : DR A w d m) (hs : s.length ≤ maxLen) (hil : ∀ f, (m.is.getD f []).length ≤ 1099511627776) :
    Calls Try.prog 15 #[.pointer (some ⟨d, 0, none⟩), .string ⟨s.toArray⟩] w fun e w' => ∃ v', e = .returned (.tuple #[v', .int .i64 (readE m s : Nat)]) ∧ w'.ownsRow w.heap.size 5 1 v' (readB m s).length ((readB m s).map bv) ∧ Keep No w w' := by
  obtain ⟨fb, nb, sb, wv, rows, h⟩ := h
  have hd := h.blk.cell 1
  have h4 := h.blk.cell 4
  simp only [List.getElem?_toArray, List.getElem?_cons_succ, List.getElem?_cons_zero] at hd h4
  by_cases hoff : m.off = true
  · have e1 : readE m s = 23 := by simp [readE, hoff]
    have e2 : readB m s = [] := by simp [readB, hoff]
    rw [e1, e2]
    rw [hoff] at h4
    go_enter Try.func15, Try.ntmps15
    go_wp2_with (first | (at_builtin; refine wl_append rfl _ _ _ _ rfl _ _ rfl rfl ?_) | (at_make; refine wl_make rfl _ _ _ rfl _ _ rfl rfl ?_) | (at_mapUpdate; refine wl_mapUpdate rfl _ _ _ _ rfl _ _ _ rfl rfl rfl ?_) | (at_lookup; refine wl_lookup rfl _ _ _ _ rfl _ _ rfl rfl ?_) | (at_delete; refine wl_delete rfl _ _ _ _ rfl _ _ rfl rfl ?_) | (with_reducible refine wl_len rfl _ _ rfl _ rfl ?_) | (with_reducible refine wl_range rfl _ _ rfl _ rfl ?_) | (with_reducible refine wl_next rfl _ rfl _ rfl ?_) | (with_reducible refine wl_copy rfl _ _ _ _ rfl _ _ rfl rfl ?_) | (with_reducible refine wl_max rfl _ _ _ _ rfl _ _ rfl rfl ?_) | (with_reducible refine wl_min rfl _ _ _ _ rfl _ _ rfl rfl ?_))
    refine (of_any d s _ hs h.nm hd).mono ?_
    rintro e w1 ⟨rfl, rfl⟩
    go_wp2_with (first | (at_builtin; refine wl_append rfl _ _ _ _ rfl _ _ rfl rfl ?_) | (at_make; refine wl_make rfl _ _ _ rfl _ _ rfl rfl ?_) | (at_mapUpdate; refine wl_mapUpdate rfl _ _ _ _ rfl _ _ _ rfl rfl rfl ?_) | (at_lookup; refine wl_lookup rfl _ _ _ _ rfl _ _ rfl rfl ?_) | (at_delete; refine wl_delete rfl _ _ _ _ rfl _ _ rfl rfl ?_) | (with_reducible refine wl_len rfl _ _ rfl _ rfl ?_) | (with_reducible refine wl_range rfl _ _ rfl _ rfl ?_) | (with_reducible refine wl_next rfl _ rfl _ rfl ?_) | (with_reducible refine wl_copy rfl _ _ _ _ rfl _ _ rfl rfl ?_) | (with_reducible refine wl_max rfl _ _ _ _ rfl _ _ rfl rfl ?_) | (with_reducible refine wl_min rfl _ _ _ _ rfl _ _ rfl rfl ?_))
    go_ret2
    exact ⟨_, rfl, World.ownsRow_nil _ _ _ _, Keep.refl _ _⟩
  · have hoff : m.off = false := by simpa using hoff
    rw [hoff] at h4
    cases hf : find m.L s with
    | none =>
      have e1 : readE m s = 20 := by simp [readE, hoff, hf]
      have e2 : readB m s = [] := by simp [readB, hoff, hf]
      rw [e1, e2]
      clear e1 e2
      go_enter Try.func15, Try.ntmps15
      go_wp2_with (first | (at_builtin; refine wl_append rfl _ _ _ _ rfl _ _ rfl rfl ?_) | (at_make; refine wl_make rfl _ _ _ rfl _ _ rfl rfl ?_) | (at_mapUpdate; refine wl_mapUpdate rfl _ _ _ _ rfl _ _ _ rfl rfl rfl ?_) | (at_lookup; refine wl_lookup rfl _ _ _ _ rfl _ _ rfl rfl ?_) | (at_delete; refine wl_delete rfl _ _ _ _ rfl _ _ rfl rfl ?_) | (with_reducible refine wl_len rfl _ _ rfl _ rfl ?_) | (with_reducible refine wl_range rfl _ _ rfl _ rfl ?_) | (with_reducible refine wl_next rfl _ rfl _ rfl ?_) | (with_reducible refine wl_copy rfl _ _ _ _ rfl _ _ rfl rfl ?_) | (with_reducible refine wl_max rfl _ _ _ _ rfl _ _ rfl rfl ?_) | (with_reducible refine wl_min rfl _ _ _ _ rfl _ _ rfl rfl ?_))
      refine (of_any d s _ hs h.nm hd).mono ?_
      rintro e w1 ⟨rfl, rfl⟩
      simp only [ofV, hf, Option.map_none, Option.getD_none]
      go_wp2_with (first | (at_builtin; refine wl_append rfl _ _ _ _ rfl _ _ rfl rfl ?_) | (at_make; refine wl_make rfl _ _ _ rfl _ _ rfl rfl ?_) | (at_mapUpdate; refine wl_mapUpdate rfl _ _ _ _ rfl _ _ _ rfl rfl rfl ?_) | (at_lookup; refine wl_lookup rfl _ _ _ _ rfl _ _ rfl rfl ?_) | (at_delete; refine wl_delete rfl _ _ _ _ rfl _ _ rfl rfl ?_) | (with_reducible refine wl_len rfl _ _ rfl _ rfl ?_) | (with_reducible refine wl_range rfl _ _ rfl _ rfl ?_) | (with_reducible refine wl_next rfl _ rfl _ rfl ?_) | (with_reducible refine wl_copy rfl _ _ _ _ rfl _ _ rfl rfl ?_) | (with_reducible refine wl_max rfl _ _ _ _ rfl _ _ rfl rfl ?_) | (with_reducible refine wl_min rfl _ _ _ _ rfl _ _ rfl rfl ?_))
      go_ret2
      exact ⟨_, rfl, World.ownsRow_nil _ _ _ _, Keep.refl _ _⟩
    | some f =>
      have e1 : readE m s = 0 := by simp [readE, hoff, hf]
      have e2 : readB m s = m.is.getD f [] := by simp [readB, hoff, hf]
      rw [e1, e2]
      clear e1 e2
      obtain ⟨_, _, v1, v2, hb, hv1, _⟩ := h.file f (.inl ⟨s, find_mem hf⟩)
      have hn := hil f
      have hc := hb.cell 0
      simp only [List.getElem?_toArray, List.getElem?_cons_zero] at hc
      generalize m.is.getD f [] = X at *
      obtain ⟨a, c, rfl, _, _⟩ := hv1.shape
      go_enter Try.func15, Try.ntmps15
      go_wp2_with (first | (at_builtin; refine wl_append rfl _ _ _ _ rfl _ _ rfl rfl ?_) | (at_make; refine wl_make rfl _ _ _ rfl _ _ rfl rfl ?_) | (at_mapUpdate; refine wl_mapUpdate rfl _ _ _ _ rfl _ _ _ rfl rfl rfl ?_) | (at_lookup; refine wl_lookup rfl _ _ _ _ rfl _ _ rfl rfl ?_) | (at_delete; refine wl_delete rfl _ _ _ _ rfl _ _ rfl rfl ?_) | (with_reducible refine wl_len rfl _ _ rfl _ rfl ?_) | (with_reducible refine wl_range rfl _ _ rfl _ rfl ?_) | (with_reducible refine wl_next rfl _ rfl _ rfl ?_) | (with_reducible refine wl_copy rfl _ _ _ _ rfl _ _ rfl rfl ?_) | (with_reducible refine wl_max rfl _ _ _ _ rfl _ _ rfl rfl ?_) | (with_reducible refine wl_min rfl _ _ _ _ rfl _ _ rfl rfl ?_))
      refine (of_any d s _ hs h.nm hd).mono ?_
      rintro e w1 ⟨rfl, rfl⟩
      simp only [ofV, hf, Option.map_some, Option.getD_some, fptr, ptrTo]
      generalize fb.getD f 0 = b at *
      go_wp2_with (first | (at_builtin; refine wl_append rfl _ _ _ _ rfl _ _ rfl rfl ?_) | (at_make; refine wl_make rfl _ _ _ rfl _ _ rfl rfl ?_) | (at_mapUpdate; refine wl_mapUpdate rfl _ _ _ _ rfl _ _ _ rfl rfl rfl ?_) | (at_lookup; refine wl_lookup rfl _ _ _ _ rfl _ _ rfl rfl ?_) | (at_delete; refine wl_delete rfl _ _ _ _ rfl _ _ rfl rfl ?_) | (with_reducible refine wl_len rfl _ _ rfl _ rfl ?_) | (with_reducible refine wl_range rfl _ _ rfl _ rfl ?_) | (with_reducible refine wl_next rfl _ rfl _ rfl ?_) | (with_reducible refine wl_copy rfl _ _ _ _ rfl _ _ rfl rfl ?_) | (with_reducible refine wl_max rfl _ _ _ _ rfl _ _ rfl rfl ?_) | (with_reducible refine wl_min rfl _ _ _ _ rfl _ _ rfl rfl ?_))
      refine (clone_any (A := A) _ X _ hv1.bts hn).mono ?_
      rintro e w1 ⟨v', rfl, hown, hk⟩
      go_wp2_with (first | (at_builtin; refine wl_append rfl _ _ _ _ rfl _ _ rfl rfl ?_) | (at_make; refine wl_make rfl _ _ _ rfl _ _ rfl rfl ?_) | (at_mapUpdate; refine wl_mapUpdate rfl _ _ _ _ rfl _ _ _ rfl rfl rfl ?_) | (at_lookup; refine wl_lookup rfl _ _ _ _ rfl _ _ rfl rfl ?_) | (at_delete; refine wl_delete rfl _ _ _ _ rfl _ _ rfl rfl ?_) | (with_reducible refine wl_len rfl _ _ rfl _ rfl ?_) | (with_reducible refine wl_range rfl _ _ rfl _ rfl ?_) | (with_reducible refine wl_next rfl _ rfl _ rfl ?_) | (with_reducible refine wl_copy rfl _ _ _ _ rfl _ _ rfl rfl ?_) | (with_reducible refine wl_max rfl _ _ _ _ rfl _ _ rfl rfl ?_) | (with_reducible refine wl_min rfl _ _ _ _ rfl _ _ rfl rfl ?_))
      go_ret2
      exact ⟨_, rfl, hown, hk⟩

set_option maxRecDepth 100000 in
theorem off_any {A : Nat → Prop} {d : Nat} {m : M} (w : World) (h : DR A w d m) :
    Calls Try.prog 14 #[.pointer (some ⟨d, 0, none⟩)] w fun e w' => e = .returned (.bool m.off) ∧ w = w' := by
  obtain ⟨fb, nb, sb, wv, rows, h⟩ := h
  have h4 := h.blk.cell 4
  simp only [List.getElem?_toArray, List.getElem?_cons_succ, List.getElem?_cons_zero] at h4
  generalize m.off = b at *
  go_enter Try.func14, Try.ntmps14
  go_wp2_with (first | (at_builtin; refine wl_append rfl _ _ _ _ rfl _ _ rfl rfl ?_) | (at_make; refine wl_make rfl _ _ _ rfl _ _ rfl rfl ?_) | (at_mapUpdate; refine wl_mapUpdate rfl _ _ _ _ rfl _ _ _ rfl rfl rfl ?_) | (at_lookup; refine wl_lookup rfl _ _ _ _ rfl _ _ rfl rfl ?_) | (at_delete; refine wl_delete rfl _ _ _ _ rfl _ _ rfl rfl ?_) | (with_reducible refine wl_len rfl _ _ rfl _ rfl ?_) | (with_reducible refine wl_range rfl _ _ rfl _ rfl ?_) | (with_reducible refine wl_next rfl _ rfl _ rfl ?_) | (with_reducible refine wl_copy rfl _ _ _ _ rfl _ _ rfl rfl ?_) | (with_reducible refine wl_max rfl _ _ _ _ rfl _ _ rfl rfl ?_) | (with_reducible refine wl_min rfl _ _ _ _ rfl _ _ rfl rfl ?_))
  go_ret
  exact ⟨rfl, rfl⟩

set_option maxRecDepth 100000 in
theorem pending_any {A : Nat → Prop} {d : Nat} {m : M} (w : World) (h : DR A w d m) :
    Calls Try.prog 18 #[.pointer (some ⟨d, 0, none⟩)] w fun e w' => e = .returned (.int .i64 m.wait.length) ∧ w = w' := by
  obtain ⟨fb, nb, sb, wv, rows, h⟩ := h
  obtain ⟨a, c, rfl, _, _⟩ := (Sl.of_own h.row).shape
  have h4 := h.blk.cell 3
  simp only [List.getElem?_toArray, List.getElem?_cons_succ, List.getElem?_cons_zero] at h4
  go_enter Try.func18, Try.ntmps18
  go_wp2_with (first | (at_builtin; refine wl_append rfl _ _ _ _ rfl _ _ rfl rfl ?_) | (at_make; refine wl_make rfl _ _ _ rfl _ _ rfl rfl ?_) | (at_mapUpdate; refine wl_mapUpdate rfl _ _ _ _ rfl _ _ _ rfl rfl rfl ?_) | (at_lookup; refine wl_lookup rfl _ _ _ _ rfl _ _ rfl rfl ?_) | (at_delete; refine wl_delete rfl _ _ _ _ rfl _ _ rfl rfl ?_) | (with_reducible refine wl_len rfl _ _ rfl _ rfl ?_) | (with_reducible refine wl_range rfl _ _ rfl _ rfl ?_) | (with_reducible refine wl_next rfl _ rfl _ rfl ?_) | (with_reducible refine wl_copy rfl _ _ _ _ rfl _ _ rfl rfl ?_) | (with_reducible refine wl_max rfl _ _ _ _ rfl _ _ rfl rfl ?_) | (with_reducible refine wl_min rfl _ _ _ _ rfl _ _ rfl rfl ?_))
  go_ret
  exact ⟨rfl, rfl⟩

set_option maxRecDepth 100000 in
set_option maxHeartbeats 1000000 in
theorem cut_any {A : Nat → Prop} {d : Nat} {m : M} (steps : Int) (w : World) (h : DR A w d m) :
    Calls Try.prog 12 #[.pointer (some ⟨d, 0, none⟩), .int .i64 steps] w fun e w' => e = .returned (.tuple #[]) ∧ DR A w' d (cutD m steps) ∧ Keep A w w' := by
  obtain ⟨fb, nb, sb, wv, rows, h⟩ := h
  have h4 := h.blk.cell 4
  have h5 := h.blk.cell 5
  have f5 := h.blk.frozen 5
  simp only [List.getElem?_toArray, List.getElem?_cons_succ, List.getElem?_cons_zero] at h4 h5
  by_cases hoff : m.off = true
  · have e1 : cutD m steps = m := by simp [cutD, hoff]
    rw [e1]
    rw [hoff] at h4
    go_enter Try.func12, Try.ntmps12
    go_wp2_with (first | (at_builtin; refine wl_append rfl _ _ _ _ rfl _ _ rfl rfl ?_) | (at_make; refine wl_make rfl _ _ _ rfl _ _ rfl rfl ?_) | (at_mapUpdate; refine wl_mapUpdate rfl _ _ _ _ rfl _ _ _ rfl rfl rfl ?_) | (at_lookup; refine wl_lookup rfl _ _ _ _ rfl _ _ rfl rfl ?_) | (at_delete; refine wl_delete rfl _ _ _ _ rfl _ _ rfl rfl ?_) | (with_reducible refine wl_len rfl _ _ rfl _ rfl ?_) | (with_reducible refine wl_range rfl _ _ rfl _ rfl ?_) | (with_reducible refine wl_next rfl _ rfl _ rfl ?_) | (with_reducible refine wl_copy rfl _ _ _ _ rfl _ _ rfl rfl ?_) | (with_reducible refine wl_max rfl _ _ _ _ rfl _ _ rfl rfl ?_) | (with_reducible refine wl_min rfl _ _ _ _ rfl _ _ rfl rfl ?_))
    go_end0
    exact ⟨rfl, ⟨fb, nb, sb, wv, rows, h⟩, Keep.refl _ _⟩
  · have hoff : m.off = false := by simpa using hoff
    obtain ⟨n, hn⟩ : ∃ n : Nat, n = steps.toNat := ⟨_, rfl⟩
    have e1 : cutD m steps = { m with cut := n } := by simp [cutD, hoff, hn]
    rw [e1]
    have e2 : max steps 0 = (n : Int) := by omega
    have HE := Lib.hid e2
    clear e1 e2 hn
    rw [hoff] at h4
    go_enter Try.func12, Try.ntmps12
    go_wp2_with (first | (at_builtin; refine wl_append rfl _ _ _ _ rfl _ _ rfl rfl ?_) | (at_make; refine wl_make rfl _ _ _ rfl _ _ rfl rfl ?_) | (at_mapUpdate; refine wl_mapUpdate rfl _ _ _ _ rfl _ _ _ rfl rfl rfl ?_) | (at_lookup; refine wl_lookup rfl _ _ _ _ rfl _ _ rfl rfl ?_) | (at_delete; refine wl_delete rfl _ _ _ _ rfl _ _ rfl rfl ?_) | (with_reducible refine wl_len rfl _ _ rfl _ rfl ?_) | (with_reducible refine wl_range rfl _ _ rfl _ rfl ?_) | (with_reducible refine wl_next rfl _ rfl _ rfl ?_) | (with_reducible refine wl_copy rfl _ _ _ _ rfl _ _ rfl rfl ?_) | (with_reducible refine wl_max rfl _ _ _ _ rfl _ _ rfl rfl ?_) | (with_reducible refine wl_min rfl _ _ _ _ rfl _ _ rfl rfl ?_))
    refine rg_max2 ?_
    rw [HE.out]
    go_wp2_with (first | (at_builtin; refine wl_append rfl _ _ _ _ rfl _ _ rfl rfl ?_) | (at_make; refine wl_make rfl _ _ _ rfl _ _ rfl rfl ?_) | (at_mapUpdate; refine wl_mapUpdate rfl _ _ _ _ rfl _ _ _ rfl rfl rfl ?_) | (at_lookup; refine wl_lookup rfl _ _ _ _ rfl _ _ rfl rfl ?_) | (at_delete; refine wl_delete rfl _ _ _ _ rfl _ _ rfl rfl ?_) | (with_reducible refine wl_len rfl _ _ rfl _ rfl ?_) | (with_reducible refine wl_range rfl _ _ rfl _ rfl ?_) | (with_reducible refine wl_next rfl _ rfl _ rfl ?_) | (with_reducible refine wl_copy rfl _ _ _ _ rfl _ _ rfl rfl ?_) | (with_reducible refine wl_max rfl _ _ _ _ rfl _ _ rfl rfl ?_) | (with_reducible refine wl_min rfl _ _ _ _ rfl _ _ rfl rfl ?_))
    go_end0
    exact ⟨rfl, ⟨fb, nb, sb, wv, rows, h.set _ rfl rfl rfl rfl rfl rfl⟩, (Keep.refl _ _).setCell (fun _ => h.Ad) _⟩
end Go.Proofs.Ytkmoomgmmhmaeaa
namespace Go.Proofs.Ytkmoomgmmhmaeaa
open Go.RowKit Go.Dm Go.Dm.Dk Go.Maps Go.WideMaps Go.WideElems

set_option maxRecDepth 100000 in
set_option maxHeartbeats 1000000 in
theorem new_any (room : Int) (w : World) :
    Calls Try.prog 10 #[.int .i64 room] w fun e w' => ∃ d, e = .returned (ptrTo d) ∧ DR (fun k => w.heap.size ≤ k ∧ k < w'.heap.size) w' d (Dk.new room) ∧ Keep No w w' := by
  obtain ⟨n, hn⟩ : ∃ n : Nat, n = room.toNat := ⟨_, rfl⟩
  have e1 : Dk.new room = ⟨n, [], [], [], [], [], false, 0⟩ := by simp [Dk.new, hn]
  rw [e1]
  have e2 : max room 0 = (n : Int) := by omega
  have HE := Lib.hid e2
  clear e1 e2 hn
  have hmm := @run_makeMap
  go_enter Try.func10, Try.ntmps10
  go_wp2_with (first | (at_builtin; refine wl_append rfl _ _ _ _ rfl _ _ rfl rfl ?_) | (at_make; refine wl_make rfl _ _ _ rfl _ _ rfl rfl ?_) | (at_mapUpdate; refine wl_mapUpdate rfl _ _ _ _ rfl _ _ _ rfl rfl rfl ?_) | (at_lookup; refine wl_lookup rfl _ _ _ _ rfl _ _ rfl rfl ?_) | (at_delete; refine wl_delete rfl _ _ _ _ rfl _ _ rfl rfl ?_) | (with_reducible refine wl_len rfl _ _ rfl _ rfl ?_) | (with_reducible refine wl_range rfl _ _ rfl _ rfl ?_) | (with_reducible refine wl_next rfl _ rfl _ rfl ?_) | (with_reducible refine wl_copy rfl _ _ _ _ rfl _ _ rfl rfl ?_) | (with_reducible refine wl_max rfl _ _ _ _ rfl _ _ rfl rfl ?_) | (with_reducible refine wl_min rfl _ _ _ _ rfl _ _ rfl rfl ?_))
  refine rg_max2 ?_
  rw [HE.out]
  go_wp2_with (first | (at_builtin; refine wl_append rfl _ _ _ _ rfl _ _ rfl rfl ?_) | (at_make; refine wl_make rfl _ _ _ rfl _ _ rfl rfl ?_) | (at_mapUpdate; refine wl_mapUpdate rfl _ _ _ _ rfl _ _ _ rfl rfl rfl ?_) | (at_lookup; refine wl_lookup rfl _ _ _ _ rfl _ _ rfl rfl ?_) | (at_delete; refine wl_delete rfl _ _ _ _ rfl _ _ rfl rfl ?_) | (with_reducible refine wl_len rfl _ _ rfl _ rfl ?_) | (with_reducible refine wl_range rfl _ _ rfl _ rfl ?_) | (with_reducible refine wl_next rfl _ rfl _ rfl ?_) | (with_reducible refine wl_copy rfl _ _ _ _ rfl _ _ rfl rfl ?_) | (with_reducible refine wl_max rfl _ _ _ _ rfl _ _ rfl rfl ?_) | (with_reducible refine wl_min rfl _ _ _ _ rfl _ _ rfl rfl ?_))
  go_ret
  refine ⟨w.heap.size + 1 + 1, rfl, ⟨[], w.heap.size, w.heap.size + 1, .slice none 0 0, [], ?_⟩, (((Keep.refl _ _).alloc _).alloc _).alloc _⟩
  have m1 := MapL.made Try.prog 9 w
  have m2 := MapL.made Try.prog 9 (w.alloc (.map #[] 0))
  rw [World.size_alloc] at m2
  have b3 := Blk.new ((w.alloc (.map #[] 0)).alloc (.map #[] 0)) #[.int .i64 n, .map (some w.heap.size), .map (some (w.heap.size + 1)), .slice none 0 0, .bool false, .int .i64 0] 62
  simp only [World.size_alloc] at b3
  refine { blk := b3, nm := ?_, sm := ?_, ne := by omega, row := World.ownsRow_nil _ _ _ _, rowA := fun g hg => (by cases hg), rlen := rfl, pend := fun i o ho => (by simp at ho), fl := rfl, sl := rfl, nd := List.nodup_nil, fbl := fun b hb => (by cases hb), file := ?_, Ad := ⟨by omega, by simp⟩, An := ⟨by omega, by simp; omega⟩, As := ⟨by omega, by simp⟩ }
  · exact (m1.same (Below.heap_alloc _ _ _ (by simp))).same (Below.heap_alloc _ _ _ (by simp; omega))
  · exact m2.same (Below.heap_alloc _ _ _ (by simp))
  · rintro i (⟨s, hi⟩ | ⟨s, hi⟩ | ⟨o, ho, _⟩)
    · cases hi
    · cases hi
    · cases ho
end Go.Proofs.Ytkmoomgmmhmaeaa
namespace Go.Proofs
open Go.RowKit Go.Maps Go.Sort Go.Shelf

theorem Try.sortsN (m : Nat) : AnyZ.SortsIn Try.prog Try.sortedN_ren Fence.wide m :=
  ⟨fun blk off cap ss W hH hblk hsz => callsIn_wide.2 (AnyM.slices_Sort_string Try.sortN blk off cap ss W hH hblk hsz),
   fun p cap W => callsIn_wide.2 (AnyM.slices_Sort_string_none Try.sortN p cap W)⟩

theorem Try.keysAny (mb : Option Nat) (W : World) : Calls Try.prog 49 #[.map mb] W fun e w' => e = .returned (.func (.func 78) #[] #[.pointer (some ⟨W.heap.size, 0, none⟩)]) ∧ w' = W.alloc (.cells #[.map mb] 59) :=
  callsIn_wide.1 (AnyZ.keys_in Try.keysN Fence.wide 5 trivial rfl mb W)

set_option maxHeartbeats 1000000 in
theorem Try.sortedAny {H : Type} (b nn : Nat) (D0 : DataW H) (R : Value → Option (DataW H × List MemPlace)) (w : World) (hown : w.ownsMap Try.prog 9 R b nn D0) (hmax : Maps.size D0 ≤ maxLen) (hbytes : Maps.size D0 * 16 ≤ 140737488355328) :
    Calls Try.prog 48 #[.func (.func 78) #[] #[.pointer (some ⟨w.heap.size, 0, none⟩)]] (w.alloc (.cells #[.map (some b)] 59)) fun e w' => ∃ (v : Value) (ss : List (List UInt8)), e = .returned v ∧ ss.Perm (strKeys D0) ∧
      w'.ownsRow (w.alloc (.cells #[.map (some b)] 59)).heap.size 9 1 v ss.length ((ss.mergeSort (fun x y => decide (x ≤ y))).map encStr) ∧ (v = .slice none 0 0 ↔ ss = []) ∧ Below (w.alloc (.cells #[.map (some b)] 59)).heap.size (w.alloc (.cells #[.map (some b)] 59)) w' := by
  have hbl := hown.lt
  have hseq : SeqGives Fence.wide 2 Try.prog 78 #[.pointer (some ⟨w.heap.size, 0, none⟩)] encStr (fun ss => ss.Perm (strKeys D0)) (Maps.size D0) (w.alloc (.cells #[.map (some b)] 59)) :=
    AnyZ.keys_gives (ρ := Try.keysN_ren) { Try.keysN with } Fence.wide _ trivial rfl (by omega) w.heap.size b nn D0 _ (by simp) (by simp) (by
      obtain ⟨es, clock, hb, Ft, hs, hD⟩ := hown
      exact ⟨es, clock, (Below.heap_alloc _ _ b hbl).trans hb, Ft, hs, hD⟩)
  exact callsIn_wide.1 (AnyZ.sorted_in Try.sortedN Fence.wide 5 trivial trivial trivial trivial rfl (by omega) (Try.sortsN _) (enters_of Try.func77 (by kernel_rfl) rfl) 78 #[.pointer (some ⟨w.heap.size, 0, none⟩)] trivial (enters_of Try.func78 (by kernel_rfl) rfl) _ _ hmax hbytes _ hseq)
end Go.Proofs
namespace Go.Dm.Dk
/-- the names, rising -/
def namesOf (m : M) : List (List UInt8) := (m.L.map (·.1)).mergeSort (fun x y => decide (x ≤ y))
end Go.Dm.Dk
namespace Go.Proofs.Ytkmoomgmmhmaeaa
open Go.RowKit Go.Dm Go.Dm.Dk Go.Maps

theorem strKeys_NL {fb : List Nat} {L : Names} {es : List (Lit × DataW Value)} (h : es.Perm ((NL fb L).map hd)) : (strKeys (.map es)).Perm (L.map (·.1)) := by
  have h1 : (es.map fun p => strOf p.1).Perm (((NL fb L).map hd).map fun p => strOf p.1) := h.map _
  have h2 : (((NL fb L).map hd).map fun p => strOf p.1) = L.map (·.1) := by
    unfold NL
    rw [List.map_map, List.map_map]
    rfl
  rw [h2] at h1
  exact h1

set_option maxRecDepth 100000 in
set_option maxHeartbeats 1000000 in
theorem names_any {A : Nat → Prop} {d : Nat} {m : M} (w : World) (h : DR A w d m) (hl : m.L.length ≤ 1099511627776) :
    Calls Try.prog 20 #[.pointer (some ⟨d, 0, none⟩)] w fun e w' => ∃ v, e = .returned v ∧ w'.ownsRow w.heap.size 9 1 v (namesOf m).length ((namesOf m).map encStr) ∧ Keep No w w' := by
  obtain ⟨fb, nb, sb, wv, rows, h⟩ := h
  have hd := h.blk.cell 1
  simp only [List.getElem?_toArray, List.getElem?_cons_succ, List.getElem?_cons_zero] at hd
  obtain ⟨_, es, hperm, hown⟩ := h.nm
  have hsz : Maps.size (.map es) = m.L.length := by rw [Maps.size_eq, hperm.length_eq, List.length_map]; simp [NL]
  have hsr := Try.sortedAny nb _ (.map es) heldE w hown (by rw [hsz]; unfold maxLen; omega) (by rw [hsz]; omega)
  have HS := Lib.hid hsr
  have HSZ := Lib.hid hsz
  have HO := Lib.hid hown
  clear hsr hsz hown
  go_enter Try.func20, Try.ntmps20
  go_wp2_with (first | (at_builtin; refine wl_append rfl _ _ _ _ rfl _ _ rfl rfl ?_) | (at_make; refine wl_make rfl _ _ _ rfl _ _ rfl rfl ?_) | (at_mapUpdate; refine wl_mapUpdate rfl _ _ _ _ rfl _ _ _ rfl rfl rfl ?_) | (at_lookup; refine wl_lookup rfl _ _ _ _ rfl _ _ rfl rfl ?_) | (at_delete; refine wl_delete rfl _ _ _ _ rfl _ _ rfl rfl ?_) | (with_reducible refine wl_len rfl _ _ rfl _ rfl ?_) | (with_reducible refine wl_range rfl _ _ rfl _ rfl ?_) | (with_reducible refine wl_next rfl _ rfl _ rfl ?_) | (with_reducible refine wl_copy rfl _ _ _ _ rfl _ _ rfl rfl ?_) | (with_reducible refine wl_max rfl _ _ _ _ rfl _ _ rfl rfl ?_) | (with_reducible refine wl_min rfl _ _ _ _ rfl _ _ rfl rfl ?_))
  refine (Try.keysAny _ _).mono ?_
  rintro e w1 ⟨rfl, rfl⟩
  go_wp2_with (first | (at_builtin; refine wl_append rfl _ _ _ _ rfl _ _ rfl rfl ?_) | (at_make; refine wl_make rfl _ _ _ rfl _ _ rfl rfl ?_) | (at_mapUpdate; refine wl_mapUpdate rfl _ _ _ _ rfl _ _ _ rfl rfl rfl ?_) | (at_lookup; refine wl_lookup rfl _ _ _ _ rfl _ _ rfl rfl ?_) | (at_delete; refine wl_delete rfl _ _ _ _ rfl _ _ rfl rfl ?_) | (with_reducible refine wl_len rfl _ _ rfl _ rfl ?_) | (with_reducible refine wl_range rfl _ _ rfl _ rfl ?_) | (with_reducible refine wl_next rfl _ rfl _ rfl ?_) | (with_reducible refine wl_copy rfl _ _ _ _ rfl _ _ rfl rfl ?_) | (with_reducible refine wl_max rfl _ _ _ _ rfl _ _ rfl rfl ?_) | (with_reducible refine wl_min rfl _ _ _ _ rfl _ _ rfl rfl ?_))
  refine HS.out.mono ?_
  rintro e w2 ⟨v, ss, rfl, hp, hrow, _, hb⟩
  go_wp2_with (first | (at_builtin; refine wl_append rfl _ _ _ _ rfl _ _ rfl rfl ?_) | (at_make; refine wl_make rfl _ _ _ rfl _ _ rfl rfl ?_) | (at_mapUpdate; refine wl_mapUpdate rfl _ _ _ _ rfl _ _ _ rfl rfl rfl ?_) | (at_lookup; refine wl_lookup rfl _ _ _ _ rfl _ _ rfl rfl ?_) | (at_delete; refine wl_delete rfl _ _ _ _ rfl _ _ rfl rfl ?_) | (with_reducible refine wl_len rfl _ _ rfl _ rfl ?_) | (with_reducible refine wl_range rfl _ _ rfl _ rfl ?_) | (with_reducible refine wl_next rfl _ rfl _ rfl ?_) | (with_reducible refine wl_copy rfl _ _ _ _ rfl _ _ rfl rfl ?_) | (with_reducible refine wl_max rfl _ _ _ _ rfl _ _ rfl rfl ?_) | (with_reducible refine wl_min rfl _ _ _ _ rfl _ _ rfl rfl ?_))
  go_ret
  have e1 : ss.mergeSort (fun x y => decide (x ≤ y)) = namesOf m := mergeSort_of_perm (hp.trans (strKeys_NL hperm))
  have e2 : ss.length = (namesOf m).length := by rw [← e1, List.length_mergeSort]
  rw [e1, e2] at hrow
  refine ⟨v, rfl, ⟨hrow.1, hrow.2.imp id ?_⟩, ((Keep.refl _ _).alloc _).trans' (Keep.of_below hb)⟩
  rintro ⟨g, cap, cur, e3, hg, r⟩
  exact ⟨g, cap, cur, e3, by simp at hg; omega, r⟩
end Go.Proofs.Ytkmoomgmmhmaeaa
namespace Go.Dm.Dk

structure Small (m : M) (n N : Nat) : Prop where
  L : m.L.length ≤ n
  S : m.S.length + m.wait.length ≤ n
  is : ∀ f, (m.is.getD f []).length ≤ N
  sure : ∀ f, (m.sure.getD f []).length ≤ N
  wb : ∀ o ∈ m.wait, o.at_ + o.b.length ≤ N ∧ o.frm.length ≤ N ∧ o.to.length ≤ N
  rm : m.room ≤ 9223372036854775807
  ct : m.cut ≤ 9223372036854775807

theorem Small.mono {m : M} {n N n' N' : Nat} (h : Small m n N) (h1 : n ≤ n') (h2 : N ≤ N') : Small m n' N' :=
  ⟨Nat.le_trans h.L h1, Nat.le_trans h.S h1, fun f => Nat.le_trans (h.is f) h2, fun f => Nat.le_trans (h.sure f) h2, fun o ho => ⟨Nat.le_trans (h.wb o ho).1 h2, Nat.le_trans (h.wb o ho).2.1 h2, Nat.le_trans (h.wb o ho).2.2 h2⟩, h.rm, h.ct⟩
theorem Small.new (room : Int) (hr : room ≤ 9223372036854775807) : Small (Dk.new room) 0 0 := by
  refine ⟨Nat.le_refl _, Nat.le_refl _, fun f => by simp [Dk.new], fun f => by simp [Dk.new], fun o ho => (by cases ho), ?_, Nat.zero_le _⟩
  show room.toNat ≤ _
  omega
theorem used_le (m : M) (N : Nat) (h : ∀ f, (m.is.getD f []).length ≤ N) : used m ≤ m.L.length * N := by
  unfold used
  generalize m.L = L
  induction L with
  | nil => simp
  | cons p r ih =>
    have := h p.2
    simp only [List.map_cons, List.sum_cons, List.length_cons, fileLen, Nat.succ_mul] at *
    omega
theorem Small.fit {m : M} {n N : Nat} (h : Small m n N) (h1 : n ≤ 100000) (h2 : N ≤ 1000000) : Fit m := by
  have h3 := h.L
  have h4 := h.S
  refine ⟨by omega, by omega, by omega, fun f => by have := h.is f; omega, fun f => by have := h.sure f; omega, ?_, h.rm, h.ct⟩
  have h5 := used_le m N h.is
  have h6 : m.L.length * N ≤ 100000 * 1000000 := Nat.mul_le_mul (by omega) h2
  omega
theorem Small.fitW {m : M} {n N : Nat} (h : Small m n N) (h1 : n ≤ 100000) (h2 : N ≤ 1000000) : FitW m := by
  have h4 := h.S
  refine ⟨by omega, by omega, fun f => by have := h.sure f; omega, fun o ho => ?_⟩
  obtain ⟨a, b, c⟩ := h.wb o ho
  unfold maxLen
  exact ⟨by omega, by omega, by omega⟩

theorem getD_putF (l : List (List UInt8)) (i f : Nat) (s : List UInt8) : (putF l i s).getD f [] = s ∨ (putF l i s).getD f [] = l.getD f [] := by
  by_cases h : i = f
  · subst h
    by_cases hl : i < l.length
    · exact .inl (by simp [putF, List.getD, hl])
    · exact .inr (by rw [show putF l i s = l from List.set_eq_of_length_le (Nat.not_lt.1 hl)])
  · exact .inr (by simp [putF, List.getD, List.getElem?_set_ne h])
theorem settle1_small {m : M} {n N : Nat} (sel : Bool) (o : Op) (h : Small m n N) (hn : m.S.length + m.wait.length + 1 ≤ n) (ho : o.at_ + o.b.length ≤ N ∧ o.frm.length ≤ N ∧ o.to.length ≤ N) :
    Small (settle1 sel o m) n N ∧ (settle1 sel o m).S.length + (settle1 sel o m).wait.length ≤ m.S.length + m.wait.length + 1 := by
  unfold settle1
  split
  · refine ⟨{ h with S := ?_, wb := ?_ }, ?_⟩
    · simp; omega
    · intro p hp
      rcases List.mem_append.1 hp with hp | hp
      · exact h.wb p hp
      · simp at hp; subst hp; exact ho
    · simp; omega
  · split
    · refine ⟨{ h with sure := fun f => ?_ }, by show m.S.length + m.wait.length ≤ _; omega⟩
      rcases getD_putF m.sure o.file f (laidB (m.sure.getD o.file []) o.at_ o.b) with e | e
      · show ((putF _ _ _).getD f []).length ≤ N
        rw [e, length_laidB]
        have := h.sure o.file
        omega
      · show ((putF _ _ _).getD f []).length ≤ N
        rw [e]; exact h.sure f
    · have h1 := length_namesOp m.S o
      refine ⟨{ h with S := ?_ }, ?_⟩
      · show (namesOp m.S o).length + m.wait.length ≤ n; omega
      · show (namesOp m.S o).length + m.wait.length ≤ _; omega
theorem settleGo_small (sel : Nat → Bool) : ∀ (l : List Op) (i : Nat) (m : M) (n N : Nat), Small m n N → m.S.length + m.wait.length + l.length ≤ n → (∀ o ∈ l, o.at_ + o.b.length ≤ N ∧ o.frm.length ≤ N ∧ o.to.length ≤ N) → Small (settleGo sel i l m) n N
  | [], _, _, _, _, h, _, _ => h
  | o :: r, i, m, n, N, h, hn, hb => by
    simp only [List.length_cons] at hn
    obtain ⟨h1, h2⟩ := settle1_small (sel i) o h (by omega) (hb o (by simp))
    exact settleGo_small sel r (i + 1) _ n N h1 (by omega) fun p hp => hb p (by simp [hp])
theorem Small.settle {m : M} {n N : Nat} (h : Small m n N) (sel : Nat → Bool) : Small (Dk.settle m sel) n N := by
  have hS := h.S
  refine settleGo_small sel m.wait 0 { m with wait := [] } n N { h with S := ?_, wb := fun o ho => (by cases ho) } ?_ h.wb
  · show m.S.length + 0 ≤ n; omega
  · show m.S.length + 0 + m.wait.length ≤ n; omega
theorem Small.crash {m : M} {n N : Nat} (h : Small m n N) (keep : List Bool) : Small (Dk.crash m keep) n N := by
  have h1 := h.settle fun i => keep.getD i false
  have h2 := h1.S
  refine ⟨?_, ?_, h1.sure, h1.sure, fun o ho => (by cases ho), h1.rm, Nat.zero_le _⟩
  · show (Dk.settle m fun i => keep.getD i false).S.length ≤ n; omega
  · show (Dk.settle m fun i => keep.getD i false).S.length + 0 ≤ n; omega
theorem Small.cutD {m : M} {n N : Nat} (h : Small m n N) (steps : Int) (hs : steps ≤ 9223372036854775807) : Small (Dk.cutD m steps) n N := by
  unfold Dk.cutD
  split
  · exact h
  · exact { h with ct := by show steps.toNat ≤ _; omega }
theorem getD_snoc_nil (l : List (List UInt8)) (f : Nat) : (l ++ [[]]).getD f [] = l.getD f [] := by
  rcases Nat.lt_or_ge f l.length with h | h
  · simp [List.getD, List.getElem?_append_left h]
  · rw [List.getD_eq_getElem?_getD, List.getD_eq_getElem?_getD, List.getElem?_append_right h, List.getElem?_eq_none h]
    rcases Nat.eq_zero_or_pos (f - l.length) with e | e
    · simp [e]
    · rw [List.getElem?_eq_none (by simp; omega)]
theorem Small.waitD {m : M} {n N : Nat} (h : Small m n N) (o : Op) (ho : o.at_ + o.b.length ≤ N ∧ o.frm.length ≤ N ∧ o.to.length ≤ N) : Small (Dk.waitD m o) (n + 1) N := by
  have hS := h.S
  have hL := h.L
  have hwb : ∀ p ∈ m.wait ++ [o], p.at_ + p.b.length ≤ N ∧ p.frm.length ≤ N ∧ p.to.length ≤ N := by
    intro p hp
    rcases List.mem_append.1 hp with hp | hp
    · exact h.wb p hp
    · simp at hp; subst hp; exact ho
  unfold Dk.waitD
  split
  · refine ⟨by show m.L.length ≤ _; omega, by simp; omega, fun f => ?_, h.sure, hwb, h.rm, h.ct⟩
    rcases getD_putF m.is o.file f (laidB (m.is.getD o.file []) o.at_ o.b) with e | e
    · show ((putF _ _ _).getD f []).length ≤ N
      rw [e, length_laidB]
      have := h.is o.file
      omega
    · show ((putF _ _ _).getD f []).length ≤ N
      rw [e]; exact h.is f
  · have := length_namesOp m.L o
    exact ⟨by show (namesOp m.L o).length ≤ _; omega, by simp; omega, h.is, h.sure, hwb, h.rm, h.ct⟩
/-- a call, of a body of so many bytes -/
theorem Small.call {m : M} {n N b : Nat} (h : Small m n N) (kind : Nat) (s t : List UInt8) (at_ : Int) (body : List UInt8) (hs : s.length ≤ b) (ht : t.length ≤ b) (hb : body.length ≤ b) : Small (Dk.call m kind s t at_ body).1 (n + 1) (N + b) := by
  have hM : Small m (n + 1) (N + b) := h.mono (by omega) (by omega)
  unfold Dk.call
  split
  · exact hM
  · split
    · exact hM
    · next ho =>
      split
      · exact { hM with ct := Nat.zero_le _ }
      · have hc : Small { m with cut := m.cut - 1 } n (N + b) := { h.mono (Nat.le_refl n) (Nat.le_add_right N b) with ct := by have := h.ct; show m.cut - 1 ≤ _; omega }
        have hown : own m kind s t at_ body = 0 := by simpa using ho
        match kind, hown with
        | 1, _ => exact Small.waitD (m := { m with is := m.is ++ [[]], sure := m.sure ++ [[]], cut := m.cut - 1 }) { hc with is := fun f => by show ((m.is ++ [[]]).getD f []).length ≤ _; rw [getD_snoc_nil]; exact hc.is f, sure := fun f => by show ((m.sure ++ [[]]).getD f []).length ≤ _; rw [getD_snoc_nil]; exact hc.sure f } ⟨2, m.is.length, 0, [], [], s⟩ ⟨Nat.zero_le _, Nat.zero_le _, by show s.length ≤ _; omega⟩
        | 2, hown =>
          refine Small.waitD hc ⟨1, (find m.L s).getD 0, at_.toNat, body, [], []⟩ ⟨?_, Nat.zero_le _, Nat.zero_le _⟩
          show at_.toNat + body.length ≤ N + b
          cases hf : find m.L s with
          | none => simp [own, hf] at hown
          | some f =>
            simp only [own, hf] at hown
            split at hown
            · cases hown
            · next h1 =>
              have := h.is f
              simp only [fileLen] at h1
              omega
        | 3, _ => exact (hc.settle _).mono (by omega) (Nat.le_refl _)
        | 4, _ => exact Small.waitD hc ⟨3, 0, 0, [], s, t⟩ ⟨Nat.zero_le _, by show s.length ≤ _; omega, by show t.length ≤ _; omega⟩
        | 5, _ => exact Small.waitD hc ⟨4, 0, 0, [], s, []⟩ ⟨Nat.zero_le _, by show s.length ≤ _; omega, Nat.zero_le _⟩
        | 0, _ => exact (hc.settle _).mono (by omega) (Nat.le_refl _)
        | k + 6, _ => exact (hc.settle _).mono (by omega) (Nat.le_refl _)
end Go.Dm.Dk
namespace Go.Dm.Dk

/-- a step: a call of a disk -/
structure Cl where
  kind : Nat
  a : List UInt8
  b : List UInt8
  at_ : Nat
  body : List UInt8
def Cl.on (s : Cl) (m : M) : M × Nat := call m s.kind s.a s.b s.at_ s.body
/-- steps, up to the first error -/
def runS : M → List Cl → M × Nat
  | m, [] => (m, 0)
  | m, s :: r => if (s.on m).2 = 0 then runS (s.on m).1 r else s.on m
theorem runS_cons (m : M) (s : Cl) (r : List Cl) : runS m (s :: r) = if (s.on m).2 = 0 then runS (s.on m).1 r else s.on m := rfl
theorem runS_append (m : M) (l r : List Cl) : runS m (l ++ r) = if (runS m l).2 = 0 then runS (runS m l).1 r else runS m l := by
  induction l generalizing m with
  | nil => simp [runS]
  | cons s l ih =>
    rw [List.cons_append, runS_cons, runS_cons]
    split
    · exact ih _
    · rename_i h; simp [h]
def newS : List UInt8 := [110, 101, 119, 46]
def isDraft (s : List UInt8) : Bool := newS.isPrefixOf s
def mayF (s : List UInt8) : Bool := s != [] && !isDraft s
def pieces (n : Nat) : Nat := (n + 63) / 64
def writeS (t b : List UInt8) (k : Nat) : Cl := ⟨2, t, [], 64 * k, (b.drop (64 * k)).take 64⟩
def writesS (t b : List UInt8) : List Cl := (List.range (pieces b.length)).map (writeS t b)
def endS (t s : List UInt8) : List Cl := [⟨3, t, [], 0, []⟩, ⟨4, t, s, 0, []⟩, ⟨6, [], [], 0, []⟩]
def goneS (t : List UInt8) : List Cl := [⟨5, t, [], 0, []⟩, ⟨6, [], [], 0, []⟩]
/-- the steps of a Replace, where l are the names that are there -/
def stepsS (l : List (List UInt8)) (s b : List UInt8) : List Cl :=
  ((l.filter fun n => n == newS ++ s).flatMap fun _ => goneS (newS ++ s)) ++ [⟨1, newS ++ s, [], 0, []⟩] ++ writesS (newS ++ s) b ++ endS (newS ++ s) s
def replD (m : M) (s b : List UInt8) : M × Nat := if mayF s then runS m (stepsS (namesOf m) s b) else (m, 1)
def tidyS (l : List (List UInt8)) : List Cl := (l.filter isDraft).map fun n => ⟨5, n, [], 0, []⟩
def tidyD (m : M) : M × Nat := if tidyS (namesOf m) = [] then (m, 0) else runS m (tidyS (namesOf m) ++ [⟨6, [], [], 0, []⟩])
end Go.Dm.Dk
