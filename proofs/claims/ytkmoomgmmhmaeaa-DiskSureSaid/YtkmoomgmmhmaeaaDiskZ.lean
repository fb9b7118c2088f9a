/- Rename and Remove, whole. No condition. -/
import Derived.Test.YtkmoomgmmhmaeaaDiskY
namespace Go.Proofs.Ytkmoomgmmhmaeaa
open Go.RowKit Go.Dm Go.Dm.Dk Go.Maps

set_option maxRecDepth 100000 in
set_option maxHeartbeats 400000 in
theorem remove2_any {A : Nat → Prop} {d x y : Nat} {m : M} (s : List UInt8) (w : World) (h : DR A w d m) (hs : s.length ≤ maxLen) (hwl : m.wait.length ≤ 1099511627776)
    (hx : w.cell? ⟨x, 0, none⟩ = some (.pointer (some ⟨d, 0, none⟩))) (hy : Blk w y #[.string ⟨s.toArray⟩] 9) :
    Calls Try.prog 55 #[.pointer (some ⟨x, 0, none⟩), .pointer (some ⟨y, 0, none⟩)] w fun e w' => e = .returned (.tuple #[]) ∧ DR (Plus (fun k => A k ∨ k = y) w w') w' d (done m 5 s [] 0 []) ∧ Keep A w w' := by
  obtain ⟨fb, nb, sb, wv, rows, h0⟩ := h
  have h := h0.mono (B := fun k => A k ∨ k = y) fun k _ ha => .inl ha
  have hxl := World.block_lt_of_cell? w _ hx
  simp only at hxl
  have hfn : NameFn (fun k => A k ∨ k = y) w fb ⟨4, 0, 0, [], s, []⟩ (.func (.func 56) #[] #[ptrTo y]) :=
    ⟨y, y, .inr rfl, .inr rfl, .inr (.inr ⟨rfl, rfl, hy⟩)⟩
  have hfile : ∀ i, Live { m with L := without m.L s, wait := m.wait ++ [⟨4, 0, 0, [], s, []⟩] } i →
      i < m.is.length ∧ (A (fb.getD i 0) ∨ fb.getD i 0 = y) ∧ FileAt (fun k => A k ∨ k = y) w (fb.getD i 0) (m.is.getD i []) (m.sure.getD i []) := by
    intro i hi
    refine h.file i ?_
    rcases hi with ⟨s', hi⟩ | hi | ⟨o, ho, hk, rfl⟩
    · exact .inl ⟨s', (List.mem_filter.1 hi).1⟩
    · exact .inr (.inl hi)
    · rcases List.mem_append.1 ho with ho | ho
      · exact .inr (.inr ⟨o, ho, hk, rfl⟩)
      · simp at ho; subst ho; rcases hk with hk | hk <;> cases hk
  have HF := Lib.hid hfn
  have HFi := Lib.hid hfile
  have HI := Lib.hid h
  clear hfn hfile
  go_enter Try.func55, Try.ntmps55
  go_wp2_with (first | (at_builtin; refine wl_append rfl _ _ _ _ rfl _ _ rfl rfl ?_) | (at_make; refine wl_make rfl _ _ _ rfl _ _ rfl rfl ?_) | (at_mapUpdate; refine wl_mapUpdate rfl _ _ _ _ rfl _ _ _ rfl rfl rfl ?_) | (at_lookup; refine wl_lookup rfl _ _ _ _ rfl _ _ rfl rfl ?_) | (at_delete; refine wl_delete rfl _ _ _ _ rfl _ _ rfl rfl ?_) | (with_reducible refine wl_len rfl _ _ rfl _ rfl ?_) | (with_reducible refine wl_range rfl _ _ rfl _ rfl ?_) | (with_reducible refine wl_next rfl _ rfl _ rfl ?_) | (with_reducible refine wl_copy rfl _ _ _ _ rfl _ _ rfl rfl ?_) | (with_reducible refine wl_max rfl _ _ _ _ rfl _ _ rfl rfl ?_) | (with_reducible refine wl_min rfl _ _ _ _ rfl _ _ rfl rfl ?_))
  refine (change_any w HI.out ⟨4, 0, 0, [], s, []⟩ (without m.L s) hwl HF.out HFi.out (enters_remove21 _ _)
    (remove21_any s w hs h.nm ((hy.cell 0).trans rfl))).mono ?_
  rintro e w' ⟨rfl, h2, h3⟩
  go_wp2_with (first | (at_builtin; refine wl_append rfl _ _ _ _ rfl _ _ rfl rfl ?_) | (at_make; refine wl_make rfl _ _ _ rfl _ _ rfl rfl ?_) | (at_mapUpdate; refine wl_mapUpdate rfl _ _ _ _ rfl _ _ _ rfl rfl rfl ?_) | (at_lookup; refine wl_lookup rfl _ _ _ _ rfl _ _ rfl rfl ?_) | (at_delete; refine wl_delete rfl _ _ _ _ rfl _ _ rfl rfl ?_) | (with_reducible refine wl_len rfl _ _ rfl _ rfl ?_) | (with_reducible refine wl_range rfl _ _ rfl _ rfl ?_) | (with_reducible refine wl_next rfl _ rfl _ rfl ?_) | (with_reducible refine wl_copy rfl _ _ _ _ rfl _ _ rfl rfl ?_) | (with_reducible refine wl_max rfl _ _ _ _ rfl _ _ rfl rfl ?_) | (with_reducible refine wl_min rfl _ _ _ _ rfl _ _ rfl rfl ?_))
  go_end0
  refine ⟨rfl, h2, h3.mono fun k hk hs => ?_⟩
  rcases hs with rfl | rfl | hs
  · exact h0.An
  · exact h0.Ad
  · exact h0.rowA k hs.symm

set_option maxRecDepth 100000 in
set_option maxHeartbeats 400000 in
theorem rename2_any {A : Nat → Prop} {d x y z : Nat} {m : M} (s t : List UInt8) (w : World) (h : DR A w d m) (hs : s.length ≤ maxLen) (ht : t.length ≤ maxLen) (hwl : m.wait.length ≤ 1099511627776) (hL : m.L.length ≤ 1099511627776)
    (hx : w.cell? ⟨x, 0, none⟩ = some (.pointer (some ⟨d, 0, none⟩))) (hy : Blk w y #[.string ⟨s.toArray⟩] 9) (hz : Blk w z #[.string ⟨t.toArray⟩] 9) :
    Calls Try.prog 52 #[.pointer (some ⟨x, 0, none⟩), .pointer (some ⟨y, 0, none⟩), .pointer (some ⟨z, 0, none⟩)] w fun e w' => e = .returned (.tuple #[]) ∧ DR (Plus (fun k => A k ∨ k = y ∨ k = z) w w') w' d (done m 4 s t 0 []) ∧ Keep A w w' := by
  obtain ⟨fb, nb, sb, wv, rows, h0⟩ := h
  have h := h0.mono (B := fun k => A k ∨ k = y ∨ k = z) fun k _ ha => .inl ha
  have hxl := World.block_lt_of_cell? w _ hx
  simp only at hxl
  have hfn : NameFn (fun k => A k ∨ k = y ∨ k = z) w fb ⟨3, 0, 0, [], s, t⟩ (.func (.func 53) #[] #[ptrTo y, ptrTo z]) :=
    ⟨y, z, .inr (.inl rfl), .inr (.inr rfl), .inr (.inl ⟨rfl, rfl, hy, hz⟩)⟩
  have hfile : ∀ i, Live { m with L := renamed m.L s t, wait := m.wait ++ [⟨3, 0, 0, [], s, t⟩] } i →
      i < m.is.length ∧ (A (fb.getD i 0) ∨ fb.getD i 0 = y ∨ fb.getD i 0 = z) ∧ FileAt (fun k => A k ∨ k = y ∨ k = z) w (fb.getD i 0) (m.is.getD i []) (m.sure.getD i []) := by
    intro i hi
    refine h.file i ?_
    rcases hi with ⟨s', hi⟩ | hi | ⟨o, ho, hk, rfl⟩
    · exact .inl (mem_renamed hi)
    · exact .inr (.inl hi)
    · rcases List.mem_append.1 ho with ho | ho
      · exact .inr (.inr ⟨o, ho, hk, rfl⟩)
      · simp at ho; subst ho; rcases hk with hk | hk <;> cases hk
  have HF := Lib.hid hfn
  have HFi := Lib.hid hfile
  have HI := Lib.hid h
  clear hfn hfile
  go_enter Try.func52, Try.ntmps52
  go_wp2_with (first | (at_builtin; refine wl_append rfl _ _ _ _ rfl _ _ rfl rfl ?_) | (at_make; refine wl_make rfl _ _ _ rfl _ _ rfl rfl ?_) | (at_mapUpdate; refine wl_mapUpdate rfl _ _ _ _ rfl _ _ _ rfl rfl rfl ?_) | (at_lookup; refine wl_lookup rfl _ _ _ _ rfl _ _ rfl rfl ?_) | (at_delete; refine wl_delete rfl _ _ _ _ rfl _ _ rfl rfl ?_) | (with_reducible refine wl_len rfl _ _ rfl _ rfl ?_) | (with_reducible refine wl_range rfl _ _ rfl _ rfl ?_) | (with_reducible refine wl_next rfl _ rfl _ rfl ?_) | (with_reducible refine wl_copy rfl _ _ _ _ rfl _ _ rfl rfl ?_) | (with_reducible refine wl_max rfl _ _ _ _ rfl _ _ rfl rfl ?_) | (with_reducible refine wl_min rfl _ _ _ _ rfl _ _ rfl rfl ?_))
  refine (change_any w HI.out ⟨3, 0, 0, [], s, t⟩ (renamed m.L s t) hwl HF.out HFi.out (enters_rename21 _ _ _)
    (rename21_any s t w hs ht hL h.nm hy hz)).mono ?_
  rintro e w' ⟨rfl, h2, h3⟩
  go_wp2_with (first | (at_builtin; refine wl_append rfl _ _ _ _ rfl _ _ rfl rfl ?_) | (at_make; refine wl_make rfl _ _ _ rfl _ _ rfl rfl ?_) | (at_mapUpdate; refine wl_mapUpdate rfl _ _ _ _ rfl _ _ _ rfl rfl rfl ?_) | (at_lookup; refine wl_lookup rfl _ _ _ _ rfl _ _ rfl rfl ?_) | (at_delete; refine wl_delete rfl _ _ _ _ rfl _ _ rfl rfl ?_) | (with_reducible refine wl_len rfl _ _ rfl _ rfl ?_) | (with_reducible refine wl_range rfl _ _ rfl _ rfl ?_) | (with_reducible refine wl_next rfl _ rfl _ rfl ?_) | (with_reducible refine wl_copy rfl _ _ _ _ rfl _ _ rfl rfl ?_) | (with_reducible refine wl_max rfl _ _ _ _ rfl _ _ rfl rfl ?_) | (with_reducible refine wl_min rfl _ _ _ _ rfl _ _ rfl rfl ?_))
  go_end0
  refine ⟨rfl, ?_, h3.mono fun k hk hs => ?_⟩
  · have e1 : done m 4 s t 0 [] = { m with L := renamed m.L s t, wait := m.wait ++ [⟨3, 0, 0, [], s, t⟩] } := by
      simp only [done, waitD, namesOp, renamed]
      cases hf : find m.L s <;> rfl
    rw [e1]; exact h2
  · rcases hs with rfl | rfl | hs
    · exact h0.An
    · exact h0.Ad
    · exact h0.rowA k hs.symm

set_option maxRecDepth 100000 in
set_option maxHeartbeats 400000 in
theorem remove_any {A : Nat → Prop} {d : Nat} {m : M} (s : List UInt8) (w : World) (h : DR A w d m) (hA : ∀ k, A k → k < w.heap.size) (hs : s.length ≤ maxLen) (hwl : m.wait.length ≤ 1099511627776) (hcut : m.cut ≤ 9223372036854775807) :
    Calls Try.prog 22 #[.pointer (some ⟨d, 0, none⟩), .string ⟨s.toArray⟩] w fun e w' => e = .returned (.int .i64 ((call m 5 s [] 0 []).2 : Nat)) ∧ DR (Plus A w w') w' d (call m 5 s [] 0 []).1 ∧ Keep A w w' := by
  go_enter Try.func22, Try.ntmps22
  go_wp2_with (first | (at_builtin; refine wl_append rfl _ _ _ _ rfl _ _ rfl rfl ?_) | (at_make; refine wl_make rfl _ _ _ rfl _ _ rfl rfl ?_) | (at_mapUpdate; refine wl_mapUpdate rfl _ _ _ _ rfl _ _ _ rfl rfl rfl ?_) | (at_lookup; refine wl_lookup rfl _ _ _ _ rfl _ _ rfl rfl ?_) | (at_delete; refine wl_delete rfl _ _ _ _ rfl _ _ rfl rfl ?_) | (with_reducible refine wl_len rfl _ _ rfl _ rfl ?_) | (with_reducible refine wl_range rfl _ _ rfl _ rfl ?_) | (with_reducible refine wl_next rfl _ rfl _ rfl ?_) | (with_reducible refine wl_copy rfl _ _ _ _ rfl _ _ rfl rfl ?_) | (with_reducible refine wl_max rfl _ _ _ _ rfl _ _ rfl rfl ?_) | (with_reducible refine wl_min rfl _ _ _ _ rfl _ _ rfl rfl ?_))
  generalize hW : (w.alloc (Obj.cells #[Value.pointer (some { block := d, off := 0 })] 23)).alloc (Obj.cells #[Value.string { data := s.toArray }] 9) = W
  have hWs : W.heap.size = w.heap.size + 2 := by subst hW; simp
  have hkW : Keep No w W := by subst hW; exact ((Keep.refl _ _).alloc _).alloc _
  have hF : Blk W w.heap.size #[Value.pointer (some { block := d, off := 0 })] 23 := by subst hW; exact (Blk.new _ _ _).alloc _
  have hV : Blk W (w.heap.size + 1) #[Value.string { data := s.toArray }] 9 := by
    subst hW
    have := Blk.new (w.alloc (Obj.cells #[Value.pointer (some { block := d, off := 0 })] 23)) #[Value.string { data := s.toArray }] 9
    rw [World.size_alloc] at this
    exact this
  have hA' : ∀ k, A k → k < W.heap.size := fun k ha => by have := hA k ha; omega
  have h1 := h.keep hA hkW fun _ _ h => h
  refine (step_all (B := fun k => A k ∨ k = w.heap.size + 1) 5 s [] 0 [] W h1 hA' (fun k ha => .inl ha) hcut (enters_remove1 _ _) (enters_remove2 _ _) ?_ ?_).mono ?_
  · intro _
    obtain ⟨fb, nb, sb, wv, rows, h0⟩ := h1
    have hb := h0.blk.cell 1
    simp only [List.getElem?_toArray, List.getElem?_cons_succ, List.getElem?_cons_zero] at hb
    refine (remove1_any s W hs h0.nm hb ((hF.cell 0).trans rfl) ((hV.cell 0).trans rfl)).mono ?_
    rintro e w' ⟨rfl, rfl⟩
    exact ⟨rfl, Keep.refl _ _⟩
  · intro w1 _ h2 k2
    have n1 : ¬ A w.heap.size := fun ha => by have := hA _ ha; omega
    have n2 : ¬ A (w.heap.size + 1) := fun ha => by have := hA _ ha; omega
    exact remove2_any s w1 h2 hs hwl ((hF.keep k2 n1).cell 0 |>.trans rfl) (hV.keep k2 n2)
  · rintro e w' ⟨rfl, h2, k2⟩
    go_wp2_with (first | (at_builtin; refine wl_append rfl _ _ _ _ rfl _ _ rfl rfl ?_) | (at_make; refine wl_make rfl _ _ _ rfl _ _ rfl rfl ?_) | (at_mapUpdate; refine wl_mapUpdate rfl _ _ _ _ rfl _ _ _ rfl rfl rfl ?_) | (at_lookup; refine wl_lookup rfl _ _ _ _ rfl _ _ rfl rfl ?_) | (at_delete; refine wl_delete rfl _ _ _ _ rfl _ _ rfl rfl ?_) | (with_reducible refine wl_len rfl _ _ rfl _ rfl ?_) | (with_reducible refine wl_range rfl _ _ rfl _ rfl ?_) | (with_reducible refine wl_next rfl _ rfl _ rfl ?_) | (with_reducible refine wl_copy rfl _ _ _ _ rfl _ _ rfl rfl ?_) | (with_reducible refine wl_max rfl _ _ _ _ rfl _ _ rfl rfl ?_) | (with_reducible refine wl_min rfl _ _ _ _ rfl _ _ rfl rfl ?_))
    go_ret
    refine ⟨rfl, h2.mono fun k hk ha => ?_, (hkW.mono fun _ _ h => h.elim).trans' k2⟩
    rcases ha with (ha | ha) | ha
    · exact .inl ha
    · exact .inr ⟨by omega, hk⟩
    · exact .inr ⟨by omega, hk⟩

set_option maxRecDepth 100000 in
set_option maxHeartbeats 400000 in
theorem rename_any {A : Nat → Prop} {d : Nat} {m : M} (s t : List UInt8) (w : World) (h : DR A w d m) (hA : ∀ k, A k → k < w.heap.size) (hs : s.length ≤ maxLen) (ht : t.length ≤ maxLen) (hwl : m.wait.length ≤ 1099511627776) (hL : m.L.length ≤ 1099511627776) (hcut : m.cut ≤ 9223372036854775807) :
    Calls Try.prog 21 #[.pointer (some ⟨d, 0, none⟩), .string ⟨s.toArray⟩, .string ⟨t.toArray⟩] w fun e w' => e = .returned (.int .i64 ((call m 4 s t 0 []).2 : Nat)) ∧ DR (Plus A w w') w' d (call m 4 s t 0 []).1 ∧ Keep A w w' := by
  go_enter Try.func21, Try.ntmps21
  go_wp2_with (first | (at_builtin; refine wl_append rfl _ _ _ _ rfl _ _ rfl rfl ?_) | (at_make; refine wl_make rfl _ _ _ rfl _ _ rfl rfl ?_) | (at_mapUpdate; refine wl_mapUpdate rfl _ _ _ _ rfl _ _ _ rfl rfl rfl ?_) | (at_lookup; refine wl_lookup rfl _ _ _ _ rfl _ _ rfl rfl ?_) | (at_delete; refine wl_delete rfl _ _ _ _ rfl _ _ rfl rfl ?_) | (with_reducible refine wl_len rfl _ _ rfl _ rfl ?_) | (with_reducible refine wl_range rfl _ _ rfl _ rfl ?_) | (with_reducible refine wl_next rfl _ rfl _ rfl ?_) | (with_reducible refine wl_copy rfl _ _ _ _ rfl _ _ rfl rfl ?_) | (with_reducible refine wl_max rfl _ _ _ _ rfl _ _ rfl rfl ?_) | (with_reducible refine wl_min rfl _ _ _ _ rfl _ _ rfl rfl ?_))
  generalize hW : ((w.alloc (Obj.cells #[Value.pointer (some { block := d, off := 0 })] 23)).alloc (Obj.cells #[Value.string { data := s.toArray }] 9)).alloc (Obj.cells #[Value.string { data := t.toArray }] 9) = W
  have hWs : W.heap.size = w.heap.size + 3 := by subst hW; simp
  have hkW : Keep No w W := by subst hW; exact (((Keep.refl _ _).alloc _).alloc _).alloc _
  have hF : Blk W w.heap.size #[Value.pointer (some { block := d, off := 0 })] 23 := by subst hW; exact ((Blk.new _ _ _).alloc _).alloc _
  have hV : Blk W (w.heap.size + 1) #[Value.string { data := s.toArray }] 9 := by
    subst hW
    have := Blk.new (w.alloc (Obj.cells #[Value.pointer (some { block := d, off := 0 })] 23)) #[Value.string { data := s.toArray }] 9
    rw [World.size_alloc] at this
    exact this.alloc _
  have hU : Blk W (w.heap.size + 1 + 1) #[Value.string { data := t.toArray }] 9 := by
    subst hW
    have := Blk.new ((w.alloc (Obj.cells #[Value.pointer (some { block := d, off := 0 })] 23)).alloc (Obj.cells #[Value.string { data := s.toArray }] 9)) #[Value.string { data := t.toArray }] 9
    simp only [World.size_alloc] at this
    exact this
  have hA' : ∀ k, A k → k < W.heap.size := fun k ha => by have := hA k ha; omega
  have h1 := h.keep hA hkW fun _ _ h => h
  refine (step_all (B := fun k => A k ∨ k = w.heap.size + 1 ∨ k = w.heap.size + 1 + 1) 4 s t 0 [] W h1 hA' (fun k ha => .inl ha) hcut (enters_rename1 _ _ _) (enters_rename2 _ _ _) ?_ ?_).mono ?_
  · intro _
    obtain ⟨fb, nb, sb, wv, rows, h0⟩ := h1
    have hb := h0.blk.cell 1
    simp only [List.getElem?_toArray, List.getElem?_cons_succ, List.getElem?_cons_zero] at hb
    refine (rename1_any s t W hs h0.nm hb ((hF.cell 0).trans rfl) ((hV.cell 0).trans rfl) ((hU.cell 0).trans rfl)).mono ?_
    rintro e w' ⟨rfl, rfl⟩
    exact ⟨rfl, Keep.refl _ _⟩
  · intro w1 _ h2 k2
    have n1 : ¬ A w.heap.size := fun ha => by have := hA _ ha; omega
    have n2 : ¬ A (w.heap.size + 1) := fun ha => by have := hA _ ha; omega
    have n3 : ¬ A (w.heap.size + 1 + 1) := fun ha => by have := hA _ ha; omega
    exact rename2_any s t w1 h2 hs ht hwl hL ((hF.keep k2 n1).cell 0 |>.trans rfl) (hV.keep k2 n2) (hU.keep k2 n3)
  · rintro e w' ⟨rfl, h2, k2⟩
    go_wp2_with (first | (at_builtin; refine wl_append rfl _ _ _ _ rfl _ _ rfl rfl ?_) | (at_make; refine wl_make rfl _ _ _ rfl _ _ rfl rfl ?_) | (at_mapUpdate; refine wl_mapUpdate rfl _ _ _ _ rfl _ _ _ rfl rfl rfl ?_) | (at_lookup; refine wl_lookup rfl _ _ _ _ rfl _ _ rfl rfl ?_) | (at_delete; refine wl_delete rfl _ _ _ _ rfl _ _ rfl rfl ?_) | (with_reducible refine wl_len rfl _ _ rfl _ rfl ?_) | (with_reducible refine wl_range rfl _ _ rfl _ rfl ?_) | (with_reducible refine wl_next rfl _ rfl _ rfl ?_) | (with_reducible refine wl_copy rfl _ _ _ _ rfl _ _ rfl rfl ?_) | (with_reducible refine wl_max rfl _ _ _ _ rfl _ _ rfl rfl ?_) | (with_reducible refine wl_min rfl _ _ _ _ rfl _ _ rfl rfl ?_))
    go_ret
    refine ⟨rfl, h2.mono fun k hk ha => ?_, (hkW.mono fun _ _ h => h.elim).trans' k2⟩
    rcases ha with (ha | ha) | ha
    · exact .inl ha
    · exact .inr ⟨by omega, hk⟩
    · exact .inr ⟨by omega, hk⟩
end Go.Proofs.Ytkmoomgmmhmaeaa
