/- Crash. No condition. -/
import Derived.Test.YtkmoomgmmhmaeaaDiskL
import Derived.Test.YtkmoomgmmhmaeaaDiskU
namespace Go.Proofs.Ytkmoomgmmhmaeaa
open Go.RowKit Go.Dm Go.Dm.Dk Go.Maps Go.WideMaps Go.WideElems

/-- behind the settling: nothing waits, the power is back -/
theorem DRep.woken {A : Nat → Prop} {w : World} {d : Nat} {m : M} {fb : List Nat} {nb sb : Nat} {wv : Value} {rows : List (List Value)} (h : DRep A w d m fb nb sb wv rows) :
    DRep A (((w.setCell ⟨d, 3, none⟩ (.slice none 0 0)).setCell ⟨d, 4, none⟩ (.bool false)).setCell ⟨d, 5, none⟩ (.int .i64 0)) d { m with wait := [], off := false, cut := 0 } fb nb sb (.slice none 0 0) [] := by
  have h1 := h.rewait (base := 0) (lv := .slice none 0 0) (lrows := []) (W := []) ⟨World.ownsRow_nil _ _ _ _, fun g hg => (by cases hg), rfl, fun i o ho => (by simp at ho)⟩ (fun o ho => (by cases ho))
  have h2 := h1.set (m' := { m with wait := [], off := false }) (i := 4) (.bool false) rfl rfl rfl rfl rfl rfl
  exact h2.set (m' := { m with wait := [], off := false, cut := 0 }) (i := 5) (.int .i64 0) rfl rfl rfl rfl rfl rfl

theorem pairwise_ne : ∀ {T : Names}, T.Pairwise (fun p q => p.1 ≠ q.1) → ∀ {p q : List UInt8 × Nat}, p ∈ T → q ∈ T → p ≠ q → p.1 ≠ q.1
  | [], _, _, _, h, _, _ => by cases h
  | a :: r, hp, p, q, h1, h2, hne => by
    rw [List.pairwise_cons] at hp
    rcases List.mem_cons.1 h1 with e1 | h3
    · rcases List.mem_cons.1 h2 with e2 | h4
      · exact absurd (e1.trans e2.symm) hne
      · rw [e1]; exact hp.1 q h4
    · rcases List.mem_cons.1 h2 with e2 | h4
      · rw [e2]; exact (hp.1 p h3).symm
      · exact pairwise_ne hp.2 h3 h4 hne

set_option maxRecDepth 100000 in
set_option maxHeartbeats 1000000 in
theorem crash_any {A B : Nat → Prop} {d : Nat} {m : M} {v : Value} (keep : List Bool) (w : World) (h : DR A w d m) (hA : ∀ k, A k → k < w.heap.size) (hfit : FitW m) (hv : Bls B w v keep) (hB : ∀ k, B k → ¬ A k) :
    Calls Try.prog 19 #[.pointer (some ⟨d, 0, none⟩), v] w fun e w' => e = .returned (.tuple #[]) ∧ DR (Plus A w w') w' d (crash m keep) ∧ Keep A w w' := by
  obtain ⟨av, cv, rfl, _, _⟩ := hv.shape
  have hwl := hfit.wl
  go_enter Try.func19, Try.ntmps19
  go_wp2_with (first | (at_builtin; refine wl_append rfl _ _ _ _ rfl _ _ rfl rfl ?_) | (at_make; refine wl_make rfl _ _ _ rfl _ _ rfl rfl ?_) | (at_mapUpdate; refine wl_mapUpdate rfl _ _ _ _ rfl _ _ _ rfl rfl rfl ?_) | (at_lookup; refine wl_lookup rfl _ _ _ _ rfl _ _ rfl rfl ?_) | (at_delete; refine wl_delete rfl _ _ _ _ rfl _ _ rfl rfl ?_) | (with_reducible refine wl_len rfl _ _ rfl _ rfl ?_) | (with_reducible refine wl_range rfl _ _ rfl _ rfl ?_) | (with_reducible refine wl_next rfl _ rfl _ rfl ?_) | (with_reducible refine wl_copy rfl _ _ _ _ rfl _ _ rfl rfl ?_) | (with_reducible refine wl_max rfl _ _ _ _ rfl _ _ rfl rfl ?_) | (with_reducible refine wl_min rfl _ _ _ _ rfl _ _ rfl rfl ?_))
  generalize hW : (w.alloc (Obj.cells #[Value.slice av keep.length cv] 41)).alloc (Obj.cells #[Value.int IntKind.i64 (-1)] 3) = W
  have hWs : W.heap.size = w.heap.size + 2 := by subst hW; simp
  have hkW : Keep No w W := by subst hW; exact ((Keep.refl _ _).alloc _).alloc _
  have hZ : Blk W w.heap.size #[Value.slice av keep.length cv] 41 := by subst hW; exact (Blk.new _ _ _).alloc _
  have hY : Blk W (w.heap.size + 1) #[Value.int IntKind.i64 (-1)] 3 := by
    subst hW
    have := Blk.new (w.alloc (Obj.cells #[Value.slice av keep.length cv] 41)) #[Value.int IntKind.i64 (-1)] 3
    rw [World.size_alloc] at this
    exact this
  clear hW
  have hA' : ∀ k, A k → k < W.heap.size := fun k ha => by have := hA k ha; omega
  obtain ⟨fb, nb, sb, wv, rows, h1⟩ := h.keep hA hkW fun _ _ h => h
  have hvW : Bls (fun k => B k ∧ k < w.heap.size) W (.slice av keep.length cv) keep := (Sl.mono (B := fun k => B k ∧ k < w.heap.size) hv fun k hk hb => ⟨hb, hk⟩).keep hkW fun _ _ _ h => h
  refine (settle_any (C := fun k => k = w.heap.size + 1 ∨ k = w.heap.size ∨ (B k ∧ k < w.heap.size)) (f := 46) (caps := #[ptrTo (w.heap.size + 1), ptrTo w.heap.size]) (fun i => keep.getD i false)
    (fun i w' => Blk w' (w.heap.size + 1) #[.int .i64 ((i : Int) - 1)] 3 ∧ ∀ j, (j = w.heap.size ∨ (B j ∧ j < w.heap.size)) → w'.heap[j]? = W.heap[j]?) W h1 hA' ?_ hfit (fun v => enters_crash1 v _ _) ⟨by simpa using hY, fun _ _ => rfl⟩ ?_ ?_).mono ?_
  · rintro k (rfl | rfl | ⟨hb, hk⟩)
    · exact ⟨by omega, fun ha => by have := hA _ ha; omega⟩
    · exact ⟨by omega, fun ha => by have := hA _ ha; omega⟩
    · exact ⟨by omega, hB k hb⟩
  · intro i w1 w2 hj _ e
    exact ⟨hj.1.same (e _ (.inl rfl)), fun j hjj => (e j (.inr hjj)).trans (hj.2 j hjj)⟩
  · intro i o p0 p1 p2 p3 w1 hj hD ho hp
    have hs1 : W.heap.size ≤ w1.heap.size := by
      have := hj.2 w.heap.size (.inl rfl)
      have h2 := hD.blk.lt
      have h3 := hj.1.lt
      omega
    have hZ1 : Blk w1 w.heap.size _ _ := hZ.same (hj.2 _ (.inl rfl))
    have hv1 := Sl.same hvW hs1 fun j _ hb => hj.2 j (.inr hb)
    have hio := (List.getElem?_eq_some_iff.1 ho).1
    refine (crash1_any (k := i) keep p0 p1 p2 p3 w1 hj.1 hZ1 hv1 (fun j hb => by omega) (by omega)).mono ?_
    rintro e w2 ⟨rfl, hy2, hk2⟩
    refine ⟨rfl, ⟨?_, fun j hjj => ?_⟩, hk2.mono fun j _ e => .inl e⟩
    · have e : ((i + 1 : Nat) : Int) - 1 = i := by omega
      rw [e]; exact hy2
    · rw [hk2.block j (by rcases hjj with hjj | hjj <;> omega) (by rcases hjj with hjj | hjj <;> omega)]
      exact hj.2 j hjj
  · rintro e w1 ⟨rfl, hR, hk1, hJ⟩
    have hk01 : Keep A w w1 := by
      refine ⟨hk1.os.trans hkW.os, hk1.tape.trans hkW.tape, hk1.output.trans hkW.output, Nat.le_trans hkW.size hk1.size, fun j hj hna => ?_⟩
      have e1 := hkW.block j hj fun h => h
      by_cases hb : B j
      · exact (hJ.2 j (.inr ⟨hb, hj⟩)).trans e1
      · exact (hk1.block j (by omega) (by rintro (h | h | h | h) <;> first | exact hna h | omega | exact hb h.1)).trans e1
    have hul := (stOk (fun i => keep.getD i false) m hfit _ (Nat.le_refl _)).ul
    rw [st_all] at hul
    have e0 : crash m keep = { Dk.settle m (fun i => keep.getD i false) with wait := [], off := false, cut := 0, L := (Dk.settle m (fun i => keep.getD i false)).S, is := (Dk.settle m (fun i => keep.getD i false)).sure } := rfl
    clear hJ hZ hY hvW
    generalize hs : Dk.settle m (fun i => keep.getD i false) = s at *
    clear hs
    have HE0 := Lib.hid e0
    clear e0
    obtain ⟨fb, nb, sb, wv, rows, hR⟩ := hR
    have q3 := hR.blk.cell 3
    have q4 := hR.blk.cell 4
    have q5 := hR.blk.cell 5
    have f3 := hR.blk.frozen 3
    have f4 := hR.blk.frozen 4
    have f5 := hR.blk.frozen 5
    have q2 := hR.blk.cell 2
    simp only [List.getElem?_toArray, List.getElem?_cons_succ, List.getElem?_cons_zero] at q2 q3 q4 q5
    have HUL := Lib.hid hul
    have HA := Lib.hid hA
    clear hul hA hA' hB h1 h
    go_wp2_with (first | (at_builtin; refine wl_append rfl _ _ _ _ rfl _ _ rfl rfl ?_) | (at_make; refine wl_make rfl _ _ _ rfl _ _ rfl rfl ?_) | (at_mapUpdate; refine wl_mapUpdate rfl _ _ _ _ rfl _ _ _ rfl rfl rfl ?_) | (at_lookup; refine wl_lookup rfl _ _ _ _ rfl _ _ rfl rfl ?_) | (at_delete; refine wl_delete rfl _ _ _ _ rfl _ _ rfl rfl ?_) | (with_reducible refine wl_len rfl _ _ rfl _ rfl ?_) | (with_reducible refine wl_range rfl _ _ rfl _ rfl ?_) | (with_reducible refine wl_next rfl _ rfl _ rfl ?_) | (with_reducible refine wl_copy rfl _ _ _ _ rfl _ _ rfl rfl ?_) | (with_reducible refine wl_max rfl _ _ _ _ rfl _ _ rfl rfl ?_) | (with_reducible refine wl_min rfl _ _ _ _ rfl _ _ rfl rfl ?_))
    have hR2 := hR.woken
    have hk2 : Keep (Plus A W w1) w1 (((w1.setCell ⟨d, 3, none⟩ (.slice none 0 0)).setCell ⟨d, 4, none⟩ (.bool false)).setCell ⟨d, 5, none⟩ (.int .i64 0)) :=
      (((Keep.refl _ _).setCell (fun _ => hR.Ad) _).setCell (fun _ => hR.Ad) _).setCell (fun _ => hR.Ad) _
    refine (mapsclone_any _ hR2.sm).mono ?_
    rintro e w3 ⟨rfl, hm3, hk3, hsz3⟩
    generalize ((w1.setCell ⟨d, 3, none⟩ (.slice none 0 0)).setCell ⟨d, 4, none⟩ (.bool false)).setCell ⟨d, 5, none⟩ (.int .i64 0) = w2 at *
    have hA2 : ∀ j, Plus A W w1 j → j < w2.heap.size := by
      intro j hj
      have h1 := hk2.size
      rcases hj with hj | hj
      · have := HA.out j hj; have := hk1.size; omega
      · omega
    have hR3 := hR2.same hk3.size fun j hj => hk3.block j (hA2 j hj) fun h => h
    have g1 := hR3.blk.cell 1
    have g2 := hR3.blk.frozen 1
    simp only [List.getElem?_toArray, List.getElem?_cons_succ, List.getElem?_cons_zero] at g1
    have hR4 := (hR3.mono (B := fun k => Plus A W w1 k ∨ k = w2.heap.size) fun k _ ha => .inl ha).named (nb' := w2.heap.size) (L' := s.S) hm3 (.inr rfl) (fun e => by have := hA2 sb hR.As; omega) (fun i hi => .inr (.inl hi))
    have hk4 : Keep (Plus A W w1) w3 (w3.setCell ⟨d, 1, none⟩ (.map (some w2.heap.size))) := (Keep.refl _ _).setCell (fun _ => hR.Ad) _
    clear q2 q3 q4 q5 f3 f4 f5
    go_wp2_with (first | (at_builtin; refine wl_append rfl _ _ _ _ rfl _ _ rfl rfl ?_) | (at_make; refine wl_make rfl _ _ _ rfl _ _ rfl rfl ?_) | (at_mapUpdate; refine wl_mapUpdate rfl _ _ _ _ rfl _ _ _ rfl rfl rfl ?_) | (at_lookup; refine wl_lookup rfl _ _ _ _ rfl _ _ rfl rfl ?_) | (at_delete; refine wl_delete rfl _ _ _ _ rfl _ _ rfl rfl ?_) | (with_reducible refine wl_len rfl _ _ rfl _ rfl ?_) | (with_reducible refine wl_range rfl _ _ rfl _ rfl ?_) | (with_reducible refine wl_next rfl _ rfl _ rfl ?_) | (with_reducible refine wl_copy rfl _ _ _ _ rfl _ _ rfl rfl ?_) | (with_reducible refine wl_max rfl _ _ _ _ rfl _ _ rfl rfl ?_) | (with_reducible refine wl_min rfl _ _ _ _ rfl _ _ rfl rfl ?_))
    have hk04 : Keep A w (w3.setCell ⟨d, 1, none⟩ (.map (some w2.heap.size))) := by
      have h1 := hk01.size
      have h2 := hk2.size
      have h3 := hk3.size
      refine ((hk01.trans hk2 fun j hj ha => ?_).trans hk3 fun j _ h => h.elim).trans hk4 fun j hj ha => ?_
      · rcases ha with ha | ha
        · exact ha
        · omega
      · rcases ha with ha | ha
        · exact ha
        · omega
    have hA4 : ∀ j, (fun k => Plus A W w1 k ∨ k = w2.heap.size) j → j < (w3.setCell ⟨d, 1, none⟩ (.map (some w2.heap.size))).heap.size := by
      intro j hj
      have h3 := hk3.size
      simp only [World.size_setCell]
      rcases hj with hj | hj
      · have := hA2 j hj; omega
      · omega
    have hApl : ∀ j, (fun k => Plus A W w1 k ∨ k = w2.heap.size) j → A j ∨ w.heap.size ≤ j := by
      intro j hj
      have h1 := hk01.size
      have h2 := hk2.size
      rcases hj with (hj | hj) | hj
      · exact .inl hj
      · exact .inr (by omega)
      · exact .inr (by omega)
    generalize (fun k => Plus A W w1 k ∨ k = w2.heap.size) = A4 at *
    generalize w3.setCell ⟨d, 1, none⟩ (.map (some w2.heap.size)) = w4 at *
    generalize w2.heap.size = nb' at *
    clear hk1 hR hk01 hR2 hk2 hA2 hm3 hk3 hsz3 hR3 g1 g2 hk4 hWs hkW
    refine rg_range hR4.nm kStr Try.underlying59 ?_
    intro w5 hr hk5 hsz5
    go_wp2_with (first | (at_builtin; refine wl_append rfl _ _ _ _ rfl _ _ rfl rfl ?_) | (at_make; refine wl_make rfl _ _ _ rfl _ _ rfl rfl ?_) | (at_mapUpdate; refine wl_mapUpdate rfl _ _ _ _ rfl _ _ _ rfl rfl rfl ?_) | (at_lookup; refine wl_lookup rfl _ _ _ _ rfl _ _ rfl rfl ?_) | (at_delete; refine wl_delete rfl _ _ _ _ rfl _ _ rfl rfl ?_) | (with_reducible refine wl_len rfl _ _ rfl _ rfl ?_) | (with_reducible refine wl_range rfl _ _ rfl _ rfl ?_) | (with_reducible refine wl_next rfl _ rfl _ rfl ?_) | (with_reducible refine wl_copy rfl _ _ _ _ rfl _ _ rfl rfl ?_) | (with_reducible refine wl_max rfl _ _ _ _ rfl _ _ rfl rfl ?_) | (with_reducible refine wl_min rfl _ _ _ _ rfl _ _ rfl rfl ?_))
    go_loopw [6] (fun _ wr => ∃ T is', RangeL Try.prog 9 wr nb' w4.heap.size (NL fb s.S) (NL fb T) ∧ T.Pairwise (fun p q => p.1 ≠ q.1) ∧ (∀ p ∈ T, p ∈ s.S) ∧
      DRep (fun k => Plus A4 w4 wr k ∧ k ≠ w4.heap.size) wr d { s with wait := [], off := false, cut := 0, L := s.S, is := is' } fb nb' sb (.slice none 0 0) [] ∧ is'.length = s.is.length ∧
      (∀ p ∈ s.S, p ∉ T → is'.getD p.2 [] = s.sure.getD p.2 []) ∧ Keep A4 w4 wr) (fun _ wr => wr.rangeLeft nb' w4.heap.size)
    case atStart =>
      refine ⟨s.S, s.is, hr, apart_names hR4.nm.apart, fun _ h => h, ?_, rfl, fun p h1 h2 => absurd h1 h2, hk5.mono fun _ _ h => h.elim⟩
      exact (hR4.same hk5.size fun j hj => hk5.block j (hA4 j hj) fun h => h).mono fun j _ hj => ⟨.inl hj, by have := hA4 j hj; omega⟩
    case round =>
      obtain ⟨T, is', hr, hT, hsub, hD, hlen, hdone, hk⟩ := hrel
      go_wp2_with (first | (at_builtin; refine wl_append rfl _ _ _ _ rfl _ _ rfl rfl ?_) | (at_make; refine wl_make rfl _ _ _ rfl _ _ rfl rfl ?_) | (at_mapUpdate; refine wl_mapUpdate rfl _ _ _ _ rfl _ _ _ rfl rfl rfl ?_) | (at_lookup; refine wl_lookup rfl _ _ _ _ rfl _ _ rfl rfl ?_) | (at_delete; refine wl_delete rfl _ _ _ _ rfl _ _ rfl rfl ?_) | (with_reducible refine wl_len rfl _ _ rfl _ rfl ?_) | (with_reducible refine wl_range rfl _ _ rfl _ rfl ?_) | (with_reducible refine wl_next rfl _ rfl _ rfl ?_) | (with_reducible refine wl_copy rfl _ _ _ _ rfl _ _ rfl rfl ?_) | (with_reducible refine wl_max rfl _ _ _ _ rfl _ _ rfl rfl ?_) | (with_reducible refine wl_min rfl _ _ _ _ rfl _ _ rfl rfl ?_))
      refine rg_next hr kStr ?_ ?_
      · intro e1
        have e2 : T = [] := by simpa [NL] using e1
        subst e2
        go_wp2_with (first | (at_builtin; refine wl_append rfl _ _ _ _ rfl _ _ rfl rfl ?_) | (at_make; refine wl_make rfl _ _ _ rfl _ _ rfl rfl ?_) | (at_mapUpdate; refine wl_mapUpdate rfl _ _ _ _ rfl _ _ _ rfl rfl rfl ?_) | (at_lookup; refine wl_lookup rfl _ _ _ _ rfl _ _ rfl rfl ?_) | (at_delete; refine wl_delete rfl _ _ _ _ rfl _ _ rfl rfl ?_) | (with_reducible refine wl_len rfl _ _ rfl _ rfl ?_) | (with_reducible refine wl_range rfl _ _ rfl _ rfl ?_) | (with_reducible refine wl_next rfl _ rfl _ rfl ?_) | (with_reducible refine wl_copy rfl _ _ _ _ rfl _ _ rfl rfl ?_) | (with_reducible refine wl_max rfl _ _ _ _ rfl _ _ rfl rfl ?_) | (with_reducible refine wl_min rfl _ _ _ _ rfl _ _ rfl rfl ?_))
        go_end0
        have hs4 := hk.size
        have hs04 := hk04.size
        refine ⟨rfl, ?_, hk04.trans hk fun j hj ha => ?_⟩
        · rw [HE0.out]
          have hsl : s.sure.length = is'.length := hD.sl
          have hfin := hD.files s.sure hsl fun i hi => by
            have : ∃ s', (s', i) ∈ s.S := by
              rcases hi with hi | hi | ⟨o, ho, _⟩
              · exact hi
              · exact hi
              · cases ho
            obtain ⟨s', hi⟩ := this
            exact (hdone _ hi (by simp)).symm
          refine ⟨fb, nb', sb, .slice none 0 0, [], hfin.mono fun j hj ha => ?_⟩
          rcases ha.1 with ha | ha
          · rcases hApl j ha with h | h
            · exact .inl h
            · exact .inr ⟨h, hj⟩
          · exact .inr ⟨by omega, hj⟩
        · rcases hApl j ha with h | h
          · exact h
          · omega
      · intro key v kl w' hkey hmem hr' hlt hk' hsz' hen
        obtain ⟨s0, i, hsi, rfl, rfl⟩ := mem_NL hmem
        rw [eraseL_NL] at hr'
        have hs4 := hk.size
        have hDA : ∀ j, (Plus A4 w4 wr j ∧ j ≠ w4.heap.size) → j < wr.heap.size := by
          intro j hj
          rcases hj.1 with h | h
          · have := hA4 j h; omega
          · exact h.2
        have hD' := hD.same hk'.size fun j hj => hk'.block j (hDA j hj) hj.2
        have hlive : Live { s with wait := [], off := false, cut := 0, L := s.S, is := is' } i := .inl ⟨s0, hsub _ hsi⟩
        obtain ⟨hil, hbA, v1, v2, hb, hv1, hv2⟩ := hD'.file i hlive
        have hsu := HUL.out i
        have hb0 := hb
        simp only [fptr, ptrTo] at hen
        obtain ⟨a2, c2, rfl, _, _⟩ := hv2.shape
        have hvv : DB (fun k => Plus A4 w4 wr k ∧ k ≠ w4.heap.size) w' (.slice a2 (s.sure.getD i []).length c2) (s.sure.getD i []) := hv2
        have hlb : Bts (fun j => j < w'.heap.size) w' (.slice a2 (s.sure.getD i []).length c2) (s.sure.getD i []) := Sl.mono hvv.bts (fun j hj _ => hj)
        have hc1 : w'.cell? ⟨fb.getD i 0, 1, none⟩ = some (.slice a2 (s.sure.getD i []).length c2) := hb.cell 1
        have hc0 : w'.cell? ⟨fb.getD i 0, 0, none⟩ = some v1 := hb.cell 0
        have hbl := hb.lt
        clear hv2
        have HVV := Lib.hid hvv
        clear hvv
        generalize hX : s.sure.getD i [] = X at *
        have HX := Lib.hid hX
        clear hX
        generalize hbb : fb.getD i 0 = b at *
        have HB := Lib.hid hbb
        clear hbb
        go_wp2_with (first | (at_builtin; refine wl_append rfl _ _ _ _ rfl _ _ rfl rfl ?_) | (at_make; refine wl_make rfl _ _ _ rfl _ _ rfl rfl ?_) | (at_mapUpdate; refine wl_mapUpdate rfl _ _ _ _ rfl _ _ _ rfl rfl rfl ?_) | (at_lookup; refine wl_lookup rfl _ _ _ _ rfl _ _ rfl rfl ?_) | (at_delete; refine wl_delete rfl _ _ _ _ rfl _ _ rfl rfl ?_) | (with_reducible refine wl_len rfl _ _ rfl _ rfl ?_) | (with_reducible refine wl_range rfl _ _ rfl _ rfl ?_) | (with_reducible refine wl_next rfl _ rfl _ rfl ?_) | (with_reducible refine wl_copy rfl _ _ _ _ rfl _ _ rfl rfl ?_) | (with_reducible refine wl_max rfl _ _ _ _ rfl _ _ rfl rfl ?_) | (with_reducible refine wl_min rfl _ _ _ _ rfl _ _ rfl rfl ?_))
        refine (clone_any _ X w' hlb hsu).mono ?_
        rintro e w6 ⟨v', rfl, hown, hk6⟩
        obtain ⟨a6, c6, rfl, _, _⟩ := (Sl.of_own hown).shape
        have hb6 := hb.keep hk6 fun h => h
        have r0 := hb6.cell 0
        have r1 := hb6.frozen 0
        simp only [List.getElem?_toArray, List.getElem?_cons_zero] at r0
        go_wp2_with (first | (at_builtin; refine wl_append rfl _ _ _ _ rfl _ _ rfl rfl ?_) | (at_make; refine wl_make rfl _ _ _ rfl _ _ rfl rfl ?_) | (at_mapUpdate; refine wl_mapUpdate rfl _ _ _ _ rfl _ _ _ rfl rfl rfl ?_) | (at_lookup; refine wl_lookup rfl _ _ _ _ rfl _ _ rfl rfl ?_) | (at_delete; refine wl_delete rfl _ _ _ _ rfl _ _ rfl rfl ?_) | (with_reducible refine wl_len rfl _ _ rfl _ rfl ?_) | (with_reducible refine wl_range rfl _ _ rfl _ rfl ?_) | (with_reducible refine wl_next rfl _ rfl _ rfl ?_) | (with_reducible refine wl_copy rfl _ _ _ _ rfl _ _ rfl rfl ?_) | (with_reducible refine wl_max rfl _ _ _ _ rfl _ _ rfl rfl ?_) | (with_reducible refine wl_min rfl _ _ _ _ rfl _ _ rfl rfl ?_))
        have hbn : b ≠ w4.heap.size := hbA.2
        have hbnb : nb' ≠ b := hD'.nm.ne_blk hb0
        have h6s := hk6.size
        have h7 : ∀ k, k < w'.heap.size → k ≠ b → (w6.setCell ⟨b, 0, none⟩ (.slice a6 X.length c6)).heap[k]? = w'.heap[k]? := fun k hk h1 => by
          rw [Below.heap_setCell _ _ _ _ h1]; exact hk6.block k hk fun h => h
        have h7s : (w6.setCell ⟨b, 0, none⟩ (.slice a6 X.length c6)).heap.size = w6.heap.size := by simp
        have hset := hb6.set (i := 0) (.slice a6 X.length c6)
        have hown7 : (w6.setCell ⟨b, 0, none⟩ (.slice a6 X.length c6)).ownsRow w'.heap.size 5 1 (.slice a6 X.length c6) X.length (X.map bv) :=
          ownsRow_same hown fun g hg => Below.heap_setCell _ _ _ _ fun e => by
            have e : g = b := e
            have := (hown.lt g hg).1
            omega
        have hv27 : DB (Plus (fun k => Plus A4 w4 wr k ∧ k ≠ w4.heap.size) w' (w6.setCell ⟨b, 0, none⟩ (.slice a6 X.length c6))) (w6.setCell ⟨b, 0, none⟩ (.slice a6 X.length c6)) (.slice a2 X.length c2) X := by
          refine (HVV.out.same (by omega) fun k hkl _ ⟨cs, fr, hkk⟩ => h7 k hkl ?_).mono fun k _ ha => .inl ha
          rintro rfl
          rw [show w'.heap[_]? = _ from hb0] at hkk; cases hkk
        have hfin := hD'.filed (m' := { s with wait := [], off := false, cut := 0, L := s.S, is := putF is' i X }) (v' := .slice a6 X.length c6) (j := 0) hk6 hil ⟨rfl, rfl, rfl, rfl, rfl, rfl⟩ (by simp [putF]) rfl
          (fun j hj => ⟨by simp [putF, List.getD, List.getElem?_set_ne (Ne.symm hj)], rfl⟩) hlive (by
            rw [HB.out]
            have hil' : i < is'.length := hil
            have e9 : (putF is' i X).getD i [] = X := by simp [putF, List.getD, hil']
            refine ⟨.slice a6 X.length c6, .slice a2 X.length c2, hset, ?_, ?_⟩
            · show DB _ _ _ ((putF is' i X).getD i [])
              rw [e9]
              exact (DB.of_own hown7).mono fun k hk hb => .inr ⟨hb, hk⟩
            · show DB _ _ _ (s.sure.getD i [])
              rw [HX.out]; exact hv27)
        rw [HB.out] at hfin
        have hr7 := hr'.same (h7 _ hr'.map.lt hbnb) (h7 _ hr'.lt hbn.symm)
        have hw's : wr.heap.size ≤ w'.heap.size := hk'.size
        have hr'l := hr'.lt
        refine ⟨⟨without T s0, putF is' i X, hr7, pairwise_without hT s0, fun p hp => hsub p (List.mem_filter.1 hp).1, hfin.mono fun k hk ha => ?_, by simp [putF, hlen], fun p hp hn => ?_, ?_⟩, ?_⟩
        · rcases ha with ha | ha
          · exact ⟨plus_le (by omega) k ha.1, ha.2⟩
          · obtain ⟨ha1, ha2⟩ := ha
            exact ⟨.inr ⟨by omega, ha2⟩, by omega⟩
        · by_cases hpi : p.2 = i
          · have hil' : i < is'.length := hil
            rw [hpi, HX.out]; simp [putF, List.getD, hil']
          · have hnT : ¬ p ∈ T := by
              intro hpT
              apply hn
              refine List.mem_filter.2 ⟨hpT, ?_⟩
              have : p.1 ≠ s0 := by
                intro e
                apply hpi
                by_cases hpe : p = (s0, i)
                · rw [hpe]
                · exact absurd e (pairwise_ne hT hpT hsi hpe)
              simpa using this
            have := hdone p hp hnT
            rw [← this]
            simp [putF, List.getD, List.getElem?_set_ne (Ne.symm hpi)]
        · have hkk : Keep A4 w4 w' := hk.trans hk' fun j hj e => absurd e (by omega)
          refine (hkk.trans hk6 fun j _ h => h.elim).setCell (fun hlt => ?_) _
          rcases hbA.1 with h | h
          · exact h
          · have h : w4.heap.size ≤ b ∧ _ := h
            have hlt : b < w4.heap.size := hlt
            omega
        · have e10 : (w6.setCell ⟨b, 0, none⟩ (.slice a6 X.length c6)).rangeLeft nb' w4.heap.size = w'.rangeLeft nb' w4.heap.size := by
            unfold World.rangeLeft
            rw [h7 _ hr'.map.lt hbnb, h7 _ hr'.lt hbn.symm]
          rw [e10]; exact hlt
end Go.Proofs.Ytkmoomgmmhmaeaa
