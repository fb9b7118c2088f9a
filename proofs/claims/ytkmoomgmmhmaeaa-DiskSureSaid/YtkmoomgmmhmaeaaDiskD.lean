/- Create, whole. No condition. -/
import Derived.Test.YtkmoomgmmhmaeaaDiskC
import Derived.Test.YtkmoomgmmhmaeaaDiskE
namespace Go.Proofs.Ytkmoomgmmhmaeaa
open Go.RowKit Go.Dm Go.Dm.Dk Go.Maps

set_option maxHeartbeats 400000 in
theorem create21_any {nb x y i : Nat} {fb : List Nat} {L : Names} (s : List UInt8) (w : World) (hs : s.length ≤ maxLen) (hL : L.length ≤ 1099511627776) (hn : MapL Try.prog 9 w nb (NL fb L))
    (hx : w.cell? ⟨x, 0, none⟩ = some (fptr fb i)) (hy : w.cell? ⟨y, 0, none⟩ = some (.string ⟨s.toArray⟩)) :
    Calls Try.prog 37 #[.map (some nb), .pointer (some ⟨x, 0, none⟩), .pointer (some ⟨y, 0, none⟩)] w fun e w' => e = .returned (.tuple #[]) ∧ MapL Try.prog 9 w' nb (NL fb (withN L s i)) ∧ Keep (fun k => k = nb) w w' := by
  go_enter Try.func37, Try.ntmps37
  go_wp2_with (first | (at_builtin; refine wl_append rfl _ _ _ _ rfl _ _ rfl rfl ?_) | (at_make; refine wl_make rfl _ _ _ rfl _ _ rfl rfl ?_) | (at_mapUpdate; refine wl_mapUpdate rfl _ _ _ _ rfl _ _ _ rfl rfl rfl ?_) | (at_lookup; refine wl_lookup rfl _ _ _ _ rfl _ _ rfl rfl ?_) | (at_delete; refine wl_delete rfl _ _ _ _ rfl _ _ rfl rfl ?_) | (with_reducible refine wl_len rfl _ _ rfl _ rfl ?_) | (with_reducible refine wl_range rfl _ _ rfl _ rfl ?_) | (with_reducible refine wl_next rfl _ rfl _ rfl ?_) | (with_reducible refine wl_copy rfl _ _ _ _ rfl _ _ rfl rfl ?_) | (with_reducible refine wl_max rfl _ _ _ _ rfl _ _ rfl rfl ?_) | (with_reducible refine wl_min rfl _ _ _ _ rfl _ _ rfl rfl ?_))
  refine rg_store hn kStr Try.underlying59 (by unfold NL maxLen; rw [List.length_map]; omega) (kOf hs) ?_
  intro w' h1 h2 _
  go_wp2_with (first | (at_builtin; refine wl_append rfl _ _ _ _ rfl _ _ rfl rfl ?_) | (at_make; refine wl_make rfl _ _ _ rfl _ _ rfl rfl ?_) | (at_mapUpdate; refine wl_mapUpdate rfl _ _ _ _ rfl _ _ _ rfl rfl rfl ?_) | (at_lookup; refine wl_lookup rfl _ _ _ _ rfl _ _ rfl rfl ?_) | (at_delete; refine wl_delete rfl _ _ _ _ rfl _ _ rfl rfl ?_) | (with_reducible refine wl_len rfl _ _ rfl _ rfl ?_) | (with_reducible refine wl_range rfl _ _ rfl _ rfl ?_) | (with_reducible refine wl_next rfl _ rfl _ rfl ?_) | (with_reducible refine wl_copy rfl _ _ _ _ rfl _ _ rfl rfl ?_) | (with_reducible refine wl_max rfl _ _ _ _ rfl _ _ rfl rfl ?_) | (with_reducible refine wl_min rfl _ _ _ _ rfl _ _ rfl rfl ?_))
  go_end0
  exact ⟨rfl, h1.perm (putL_NL _ _ _ _), h2⟩

theorem enters_create21 (a b c : Value) : Enters 37 #[a, b, c] := fun w => by kernel_rfl
theorem enters_create1 (a b : Value) : Enters 33 #[a, b] := fun w => by kernel_rfl
theorem enters_create2 (a b : Value) : Enters 35 #[a, b] := fun w => by kernel_rfl

theorem getD_append_lt {α : Type} (l : List α) (x z : α) {i : Nat} (h : i < l.length) : (l ++ [x]).getD i z = l.getD i z := by rw [List.getD_eq_getElem?_getD, List.getD_eq_getElem?_getD, List.getElem?_append_left h]
theorem getD_append_eq {α : Type} (l : List α) (x z : α) : (l ++ [x]).getD l.length z = x := by simp [List.getD]

/-- one file more -/
theorem DRep.grow {A : Nat → Prop} {d f : Nat} {m : M} {fb : List Nat} {nb sb : Nat} {wv : Value} {rows : List (List Value)} {w : World} (h : DRep A w d m fb nb sb wv rows) (hf : f ∉ fb) (hl : f < w.heap.size) :
    DRep A w d { m with is := m.is ++ [[]], sure := m.sure ++ [[]] } (fb ++ [f]) nb sb wv rows := by
  have hlt : ∀ i, Live m i → i < fb.length := fun i hi => by rw [h.fl]; exact (h.file i hi).1
  have hp : ∀ i, Live m i → fptr (fb ++ [f]) i = fptr fb i := fun i hi => by unfold fptr; rw [getD_append_lt _ _ _ (hlt i hi)]
  have hN : ∀ L : Names, (∀ s i, (s, i) ∈ L → Live m i) → NL (fb ++ [f]) L = NL fb L := fun L hL => List.map_congr_left fun p hp' => by rw [hp p.2 (hL p.1 p.2 hp')]
  refine { h with nm := by rw [hN _ fun s i hi => .inl ⟨s, hi⟩]; exact h.nm, sm := by rw [hN _ fun s i hi => .inr (.inl ⟨s, hi⟩)]; exact h.sm, pend := ?_, fl := by simp [h.fl], sl := by simp [h.sl], nd := ?_, fbl := ?_, file := ?_ }
  · intro i o ho
    obtain ⟨cs, h1, h2⟩ := h.pend i o ho
    refine ⟨cs, h1, ?_⟩
    have hm : o ∈ m.wait := List.mem_of_getElem? ho
    rcases h2 with ⟨hk, v, hc, hb⟩ | ⟨c, hc, x, y, ax, ay, hn⟩
    · exact .inl ⟨hk, v, by rw [hp _ (.inr (.inr ⟨o, hm, .inl hk, rfl⟩))]; exact hc, hb⟩
    · refine .inr ⟨c, hc, x, y, ax, ay, ?_⟩
      rcases hn with ⟨hk, h3⟩ | hn | hn
      · exact .inl ⟨hk, by rw [hp _ (.inr (.inr ⟨o, hm, .inr hk, rfl⟩))]; exact h3⟩
      · exact .inr (.inl hn)
      · exact .inr (.inr hn)
  · rw [List.nodup_append]
    exact ⟨h.nd, by simp, fun a ha b hb e => by simp at hb; subst hb; subst e; exact hf ha⟩
  · intro b hb
    rcases List.mem_append.1 hb with hb | hb
    · exact h.fbl b hb
    · simp at hb; subst hb; exact hl
  · intro i hi
    have hi' : Live m i := hi
    obtain ⟨h1, h2, h3⟩ := h.file i hi'
    rw [getD_append_lt _ _ _ (hlt i hi')]
    simp only
    rw [getD_append_lt _ _ _ h1, getD_append_lt _ _ _ (by rw [h.sl]; exact h1)]
    exact ⟨by simp; omega, h2, h3⟩

set_option maxRecDepth 100000 in
set_option maxHeartbeats 400000 in
theorem create2_any {A : Nat → Prop} {d x y : Nat} {m : M} (s : List UInt8) (w : World) (h : DR A w d m) (hA : ∀ k, A k → k < w.heap.size) (hs : s.length ≤ maxLen) (hwl : m.wait.length ≤ 1099511627776) (hL : m.L.length ≤ 1099511627776)
    (hx : w.cell? ⟨x, 0, none⟩ = some (.pointer (some ⟨d, 0, none⟩))) (hy : Blk w y #[.string ⟨s.toArray⟩] 9) :
    Calls Try.prog 35 #[.pointer (some ⟨x, 0, none⟩), .pointer (some ⟨y, 0, none⟩)] w fun e w' => e = .returned (.tuple #[]) ∧ DR (Plus (fun k => A k ∨ k = y) w w') w' d (done m 1 s [] 0 []) ∧ Keep A w w' := by
  obtain ⟨fb, nb, sb, wv, rows, h⟩ := h
  have hxl := World.block_lt_of_cell? w _ hx
  simp only at hxl
  go_enter Try.func35, Try.ntmps35
  go_wp2_with (first | (at_builtin; refine wl_append rfl _ _ _ _ rfl _ _ rfl rfl ?_) | (at_make; refine wl_make rfl _ _ _ rfl _ _ rfl rfl ?_) | (at_mapUpdate; refine wl_mapUpdate rfl _ _ _ _ rfl _ _ _ rfl rfl rfl ?_) | (at_lookup; refine wl_lookup rfl _ _ _ _ rfl _ _ rfl rfl ?_) | (at_delete; refine wl_delete rfl _ _ _ _ rfl _ _ rfl rfl ?_) | (with_reducible refine wl_len rfl _ _ rfl _ rfl ?_) | (with_reducible refine wl_range rfl _ _ rfl _ rfl ?_) | (with_reducible refine wl_next rfl _ rfl _ rfl ?_) | (with_reducible refine wl_copy rfl _ _ _ _ rfl _ _ rfl rfl ?_) | (with_reducible refine wl_max rfl _ _ _ _ rfl _ _ rfl rfl ?_) | (with_reducible refine wl_min rfl _ _ _ _ rfl _ _ rfl rfl ?_))
  generalize hW : (w.alloc (Obj.cells #[Value.slice none 0 0, Value.slice none 0 0] 67)).alloc (Obj.cells #[Value.pointer (some { block := w.heap.size, off := 0 })] 64) = W
  have hWs : W.heap.size = w.heap.size + 2 := by subst hW; simp
  have hkW : Keep No w W := by subst hW; exact ((Keep.refl _ _).alloc _).alloc _
  have hF : Blk W w.heap.size #[Value.slice none 0 0, Value.slice none 0 0] 67 := by subst hW; exact (Blk.new _ _ _).alloc _
  have hV : Blk W (w.heap.size + 1) #[ptrTo w.heap.size] 64 := by
    subst hW
    have := Blk.new (w.alloc (Obj.cells #[Value.slice none 0 0, Value.slice none 0 0] 67)) #[ptrTo w.heap.size] 64
    rw [World.size_alloc] at this
    exact this
  have hy' := hy.keep hkW fun h => h
  have hnf : w.heap.size ∉ fb := fun hm => by have := h.fbl _ hm; omega
  have hAW : ∀ k, A k → W.heap[k]? = w.heap[k]? := fun k ha => hkW.block k (hA k ha) fun h => h
  have h1 : DRep (Plus (fun k => A k ∨ k = y) w W) W d { m with is := m.is ++ [[]], sure := m.sure ++ [[]] } (fb ++ [w.heap.size]) nb sb wv rows :=
    ((h.same hkW.size hAW).grow hnf (by omega)).mono fun k _ ha => .inl (.inl ha)
  have e0 : (fb ++ [w.heap.size]).getD m.is.length 0 = w.heap.size := by rw [← h.fl]; exact getD_append_eq _ _ _
  have hV' : Blk W (w.heap.size + 1) #[fptr (fb ++ [w.heap.size]) m.is.length] 64 := by unfold fptr; rw [e0]; exact hV
  have hfn : NameFn (Plus (fun k => A k ∨ k = y) w W) W (fb ++ [w.heap.size]) ⟨2, m.is.length, 0, [], [], s⟩ (.func (.func 37) #[] #[ptrTo (w.heap.size + 1), ptrTo y]) :=
    ⟨w.heap.size + 1, y, .inr ⟨by omega, by omega⟩, .inl (.inr rfl), .inl ⟨rfl, rfl, hV', hy'⟩⟩
  have hL2 : m.L.length = (NL fb m.L).length := by simp [NL]
  have hfile : ∀ i, Live { m with is := m.is ++ [[]], sure := m.sure ++ [[]], L := withN m.L s m.is.length, wait := m.wait ++ [⟨2, m.is.length, 0, [], [], s⟩] } i →
      i < (m.is ++ [[]]).length ∧ Plus (fun k => A k ∨ k = y) w W ((fb ++ [w.heap.size]).getD i 0) ∧ FileAt (Plus (fun k => A k ∨ k = y) w W) W ((fb ++ [w.heap.size]).getD i 0) ((m.is ++ [[]]).getD i []) ((m.sure ++ [[]]).getD i []) := by
    intro i hi
    have hc : i = m.is.length ∨ Live { m with is := m.is ++ [[]], sure := m.sure ++ [[]] } i := by
      rcases hi with ⟨s', hi⟩ | hi | ⟨o, ho, hk, rfl⟩
      · rcases List.mem_append.1 hi with hi | hi
        · exact .inr (.inl ⟨s', (List.mem_filter.1 hi).1⟩)
        · simp at hi; exact .inl hi.2
      · exact .inr (.inr (.inl hi))
      · rcases List.mem_append.1 ho with ho | ho
        · exact .inr (.inr (.inr ⟨o, ho, hk, rfl⟩))
        · simp at ho; subst ho; exact .inl rfl
    rcases hc with rfl | hc
    · rw [e0]
      have e1 : (m.is ++ [[]]).getD m.is.length [] = [] := getD_append_eq _ _ _
      have e2 : (m.sure ++ [[]]).getD m.is.length [] = [] := by rw [← h.sl]; exact getD_append_eq _ _ _
      rw [e1, e2]
      exact ⟨by simp, .inr ⟨by omega, by omega⟩, _, _, hF, DB.nil _ _, DB.nil _ _⟩
    · exact h1.file i hc
  refine (change_any W h1 ⟨2, m.is.length, 0, [], [], s⟩ (withN m.L s m.is.length) hwl hfn hfile (enters_create21 _ _ _)
    (create21_any s W hs hL h1.nm ((hV'.cell 0).trans rfl) ((hy'.cell 0).trans rfl))).mono ?_
  rintro e w' ⟨rfl, h2, h3⟩
  go_wp2_with (first | (at_builtin; refine wl_append rfl _ _ _ _ rfl _ _ rfl rfl ?_) | (at_make; refine wl_make rfl _ _ _ rfl _ _ rfl rfl ?_) | (at_mapUpdate; refine wl_mapUpdate rfl _ _ _ _ rfl _ _ _ rfl rfl rfl ?_) | (at_lookup; refine wl_lookup rfl _ _ _ _ rfl _ _ rfl rfl ?_) | (at_delete; refine wl_delete rfl _ _ _ _ rfl _ _ rfl rfl ?_) | (with_reducible refine wl_len rfl _ _ rfl _ rfl ?_) | (with_reducible refine wl_range rfl _ _ rfl _ rfl ?_) | (with_reducible refine wl_next rfl _ rfl _ rfl ?_) | (with_reducible refine wl_copy rfl _ _ _ _ rfl _ _ rfl rfl ?_) | (with_reducible refine wl_max rfl _ _ _ _ rfl _ _ rfl rfl ?_) | (with_reducible refine wl_min rfl _ _ _ _ rfl _ _ rfl rfl ?_))
  go_end0
  refine ⟨rfl, ?_, ?_⟩
  · have e3 : done m 1 s [] 0 [] = { m with is := m.is ++ [[]], sure := m.sure ++ [[]], L := withN m.L s m.is.length, wait := m.wait ++ [⟨2, m.is.length, 0, [], [], s⟩] } := rfl
    rw [e3]
    refine h2.mono fun k hk ha => ?_
    rcases ha with (ha | ha) | ha
    · exact .inl ha
    · exact .inr ⟨by omega, hk⟩
    · exact .inr ⟨by omega, hk⟩
  · exact (hkW.mono fun _ _ h => h.elim).trans h3 fun k hk hs => by
      rcases hs with rfl | rfl | hs
      · exact h.An
      · exact h.Ad
      · exact h.rowA k hs.symm

set_option maxRecDepth 100000 in
set_option maxHeartbeats 400000 in
theorem create_any {A : Nat → Prop} {d : Nat} {m : M} (s : List UInt8) (w : World) (h : DR A w d m) (hA : ∀ k, A k → k < w.heap.size) (hs : s.length ≤ maxLen) (hwl : m.wait.length ≤ 1099511627776) (hL : m.L.length ≤ 1099511627776) (hcut : m.cut ≤ 9223372036854775807) :
    Calls Try.prog 11 #[.pointer (some ⟨d, 0, none⟩), .string ⟨s.toArray⟩] w fun e w' => e = .returned (.int .i64 ((call m 1 s [] 0 []).2 : Nat)) ∧ DR (Plus A w w') w' d (call m 1 s [] 0 []).1 ∧ Keep A w w' := by
  go_enter Try.func11, Try.ntmps11
  go_wp2_with (first | (at_builtin; refine wl_append rfl _ _ _ _ rfl _ _ rfl rfl ?_) | (at_make; refine wl_make rfl _ _ _ rfl _ _ rfl rfl ?_) | (at_mapUpdate; refine wl_mapUpdate rfl _ _ _ _ rfl _ _ _ rfl rfl rfl ?_) | (at_lookup; refine wl_lookup rfl _ _ _ _ rfl _ _ rfl rfl ?_) | (at_delete; refine wl_delete rfl _ _ _ _ rfl _ _ rfl rfl ?_) | (with_reducible refine wl_len rfl _ _ rfl _ rfl ?_) | (with_reducible refine wl_range rfl _ _ rfl _ rfl ?_) | (with_reducible refine wl_next rfl _ rfl _ rfl ?_) | (with_reducible refine wl_copy rfl _ _ _ _ rfl _ _ rfl rfl ?_) | (with_reducible refine wl_max rfl _ _ _ _ rfl _ _ rfl rfl ?_) | (with_reducible refine wl_min rfl _ _ _ _ rfl _ _ rfl rfl ?_))
  generalize hW : (w.alloc (Obj.cells #[Value.pointer (some { block := d, off := 0 })] 23)).alloc (Obj.cells #[Value.string { data := s.toArray }] 9) = W
  have hWs : W.heap.size = w.heap.size + 2 := by subst hW; simp
  have hkW : Keep No w W := by subst hW; exact ((Keep.refl _ _).alloc _).alloc _
  have hF : Blk W w.heap.size #[Value.pointer (some { block := d, off := 0 })] 23 := by subst hW; exact (Blk.new _ _ _).alloc _
  have hV : Blk W (w.heap.size + 1) #[Value.string { data := s.toArray }] 9 := by
    subst hW
    have := Blk.new (w.alloc (Obj.cells #[Value.pointer (some { block := d, off := 0 })] 23)) #[Value.string { data := s.toArray }] 9
    rw [World.size_alloc] at this
    exact this
  have hA' : ∀ k, A k → k < W.heap.size := fun k ha => by have := hA k ha; omega
  have h1 := h.keep hA hkW fun _ _ h => h
  refine (step_all (B := fun k => A k ∨ k = w.heap.size + 1) 1 s [] 0 [] W h1 hA' (fun k ha => .inl ha) hcut (enters_create1 _ _) (enters_create2 _ _) ?_ ?_).mono ?_
  · intro _
    obtain ⟨fb, nb, sb, wv, rows, h0⟩ := h1
    have hb := h0.blk.cell 1
    simp only [List.getElem?_toArray, List.getElem?_cons_succ, List.getElem?_cons_zero] at hb
    refine (create1_any s W hs h0.nm hb ((hV.cell 0).trans rfl) ((hF.cell 0).trans rfl)).mono ?_
    rintro e w' ⟨rfl, rfl⟩
    exact ⟨rfl, Keep.refl _ _⟩
  · intro w1 _ h2 k2
    have n1 : ¬ A w.heap.size := fun ha => by have := hA _ ha; omega
    have n2 : ¬ A (w.heap.size + 1) := fun ha => by have := hA _ ha; omega
    exact create2_any s w1 h2 (fun k ha => Nat.lt_of_lt_of_le (hA' k ha) k2.size) hs hwl hL ((hF.keep k2 n1).cell 0 |>.trans rfl) (hV.keep k2 n2)
  · rintro e w' ⟨rfl, h2, k2⟩
    go_wp2_with (first | (at_builtin; refine wl_append rfl _ _ _ _ rfl _ _ rfl rfl ?_) | (at_make; refine wl_make rfl _ _ _ rfl _ _ rfl rfl ?_) | (at_mapUpdate; refine wl_mapUpdate rfl _ _ _ _ rfl _ _ _ rfl rfl rfl ?_) | (at_lookup; refine wl_lookup rfl _ _ _ _ rfl _ _ rfl rfl ?_) | (at_delete; refine wl_delete rfl _ _ _ _ rfl _ _ rfl rfl ?_) | (with_reducible refine wl_len rfl _ _ rfl _ rfl ?_) | (with_reducible refine wl_range rfl _ _ rfl _ rfl ?_) | (with_reducible refine wl_next rfl _ rfl _ rfl ?_) | (with_reducible refine wl_copy rfl _ _ _ _ rfl _ _ rfl rfl ?_) | (with_reducible refine wl_max rfl _ _ _ _ rfl _ _ rfl rfl ?_) | (with_reducible refine wl_min rfl _ _ _ _ rfl _ _ rfl rfl ?_))
    go_ret
    refine ⟨rfl, h2.mono fun k hk ha => ?_, (hkW.mono fun _ _ h => h.elim).trans' k2⟩
    rcases ha with (ha | ha) | ha
    · exact .inl ha
    · exact .inr ⟨by omega, hk⟩
    · exact .inr ⟨by omega, hk⟩
end Go.Proofs.Ytkmoomgmmhmaeaa
