/- Rename and Remove, whole. Sync and SyncNames. maps.Clone at the disk's type. Crash: its closure, and what its steps leave of the disk. No condition. -/
import Derived.Test.YtkmoomgmmhmaeaaDiskY
import Derived.Test.YtkmoomgmmhmaeaaDiskH
import Derived.LaidEqlPtr
import Derived.Test.YtkmoomgmmhmaeaaDiskF
import Derived.Shelf.SlMaps.Clone
namespace Go.Proofs.Ytkmoomgmmhmaeaa
open Go.RowKit Go.Dm Go.Dm.Dk Go.Maps

set_option maxRecDepth 100000 in
set_option maxHeartbeats 400000 in
theorem remove2_any {A : Nat → Prop} {d x y : Nat} {m : M} (s : List UInt8) (w : World) (h : DR A w d m) (hs : s.length ≤ maxLen) (hwl : m.wait.length ≤ 1099511627776)
    (hx : w.cell? ⟨x, 0, none⟩ = some (.pointer (some ⟨d, 0, none⟩))) (hy : Blk w y #[.string ⟨s.toArray⟩] 9) :
    Calls Try.prog 55 #[.pointer (some ⟨x, 0, none⟩), .pointer (some ⟨y, 0, none⟩)] w fun e w' => e = .returned (.tuple #[]) ∧ DR (Plus (fun k => A k ∨ k = y) w w') w' d (done m 5 s [] 0 []) ∧ Keep A w w' := by
  obtain ⟨fb, nb, sb, wv, rows, h0⟩ := h
  have h := h0.mono (B := fun k => A k ∨ k = y) fun k _ ha => .inl ha
  have hxl := World.block_lt_of_cell? w _ hx
  simp only at hxl
  have hfn : NameFn (fun k => A k ∨ k = y) w fb ⟨4, 0, 0, [], s, []⟩ (.func (.func 56) #[] #[ptrTo y]) :=
    ⟨y, y, .inr rfl, .inr rfl, .inr (.inr ⟨rfl, rfl, hy⟩)⟩
  have hfile : ∀ i, Live { m with L := without m.L s, wait := m.wait ++ [⟨4, 0, 0, [], s, []⟩] } i →
      i < m.is.length ∧ (A (fb.getD i 0) ∨ fb.getD i 0 = y) ∧ FileAt (fun k => A k ∨ k = y) w (fb.getD i 0) (m.is.getD i []) (m.sure.getD i []) := by
    intro i hi
    refine h.file i ?_
    rcases hi with ⟨s', hi⟩ | hi | ⟨o, ho, hk, rfl⟩
    · exact .inl ⟨s', (List.mem_filter.1 hi).1⟩
    · exact .inr (.inl hi)
    · rcases List.mem_append.1 ho with ho | ho
      · exact .inr (.inr ⟨o, ho, hk, rfl⟩)
      · simp at ho; subst ho; rcases hk with hk | hk <;> cases hk
  have HF := Lib.hid hfn
  have HFi := Lib.hid hfile
  have HI := Lib.hid h
  clear hfn hfile
  go_enter Try.func55, Try.ntmps55
  go_wp2_with (first | (at_builtin; refine wl_append rfl _ _ _ _ rfl _ _ rfl rfl ?_) | (at_make; refine wl_make rfl _ _ _ rfl _ _ rfl rfl ?_) | (at_mapUpdate; refine wl_mapUpdate rfl _ _ _ _ rfl _ _ _ rfl rfl rfl ?_) | (at_lookup; refine wl_lookup rfl _ _ _ _ rfl _ _ rfl rfl ?_) | (at_delete; refine wl_delete rfl _ _ _ _ rfl _ _ rfl rfl ?_) | (with_reducible refine wl_len rfl _ _ rfl _ rfl ?_) | (with_reducible refine wl_range rfl _ _ rfl _ rfl ?_) | (with_reducible refine wl_next rfl _ rfl _ rfl ?_) | (with_reducible refine wl_copy rfl _ _ _ _ rfl _ _ rfl rfl ?_) | (with_reducible refine wl_max rfl _ _ _ _ rfl _ _ rfl rfl ?_) | (with_reducible refine wl_min rfl _ _ _ _ rfl _ _ rfl rfl ?_))
  refine (change_any w HI.out ⟨4, 0, 0, [], s, []⟩ (without m.L s) hwl HF.out HFi.out (enters_remove21 _ _)
    (remove21_any s w hs h.nm ((hy.cell 0).trans rfl))).mono ?_
  rintro e w' ⟨rfl, h2, h3⟩
  go_wp2_with (first | (at_builtin; refine wl_append rfl _ _ _ _ rfl _ _ rfl rfl ?_) | (at_make; refine wl_make rfl _ _ _ rfl _ _ rfl rfl ?_) | (at_mapUpdate; refine wl_mapUpdate rfl _ _ _ _ rfl _ _ _ rfl rfl rfl ?_) | (at_lookup; refine wl_lookup rfl _ _ _ _ rfl _ _ rfl rfl ?_) | (at_delete; refine wl_delete rfl _ _ _ _ rfl _ _ rfl rfl ?_) | (with_reducible refine wl_len rfl _ _ rfl _ rfl ?_) | (with_reducible refine wl_range rfl _ _ rfl _ rfl ?_) | (with_reducible refine wl_next rfl _ rfl _ rfl ?_) | (with_reducible refine wl_copy rfl _ _ _ _ rfl _ _ rfl rfl ?_) | (with_reducible refine wl_max rfl _ _ _ _ rfl _ _ rfl rfl ?_) | (with_reducible refine wl_min rfl _ _ _ _ rfl _ _ rfl rfl ?_))
  go_end0
  refine ⟨rfl, h2, h3.mono fun k hk hs => ?_⟩
  rcases hs with rfl | rfl | hs
  · exact h0.An
  · exact h0.Ad
  · exact h0.rowA k hs.symm

set_option maxRecDepth 100000 in
set_option maxHeartbeats 400000 in
theorem rename2_any {A : Nat → Prop} {d x y z : Nat} {m : M} (s t : List UInt8) (w : World) (h : DR A w d m) (hs : s.length ≤ maxLen) (ht : t.length ≤ maxLen) (hwl : m.wait.length ≤ 1099511627776) (hL : m.L.length ≤ 1099511627776)
    (hx : w.cell? ⟨x, 0, none⟩ = some (.pointer (some ⟨d, 0, none⟩))) (hy : Blk w y #[.string ⟨s.toArray⟩] 9) (hz : Blk w z #[.string ⟨t.toArray⟩] 9) :
    Calls Try.prog 52 #[.pointer (some ⟨x, 0, none⟩), .pointer (some ⟨y, 0, none⟩), .pointer (some ⟨z, 0, none⟩)] w fun e w' => e = .returned (.tuple #[]) ∧ DR (Plus (fun k => A k ∨ k = y ∨ k = z) w w') w' d (done m 4 s t 0 []) ∧ Keep A w w' := by
  obtain ⟨fb, nb, sb, wv, rows, h0⟩ := h
  have h := h0.mono (B := fun k => A k ∨ k = y ∨ k = z) fun k _ ha => .inl ha
  have hxl := World.block_lt_of_cell? w _ hx
  simp only at hxl
  have hfn : NameFn (fun k => A k ∨ k = y ∨ k = z) w fb ⟨3, 0, 0, [], s, t⟩ (.func (.func 53) #[] #[ptrTo y, ptrTo z]) :=
    ⟨y, z, .inr (.inl rfl), .inr (.inr rfl), .inr (.inl ⟨rfl, rfl, hy, hz⟩)⟩
  have hfile : ∀ i, Live { m with L := renamed m.L s t, wait := m.wait ++ [⟨3, 0, 0, [], s, t⟩] } i →
      i < m.is.length ∧ (A (fb.getD i 0) ∨ fb.getD i 0 = y ∨ fb.getD i 0 = z) ∧ FileAt (fun k => A k ∨ k = y ∨ k = z) w (fb.getD i 0) (m.is.getD i []) (m.sure.getD i []) := by
    intro i hi
    refine h.file i ?_
    rcases hi with ⟨s', hi⟩ | hi | ⟨o, ho, hk, rfl⟩
    · exact .inl (mem_renamed hi)
    · exact .inr (.inl hi)
    · rcases List.mem_append.1 ho with ho | ho
      · exact .inr (.inr ⟨o, ho, hk, rfl⟩)
      · simp at ho; subst ho; rcases hk with hk | hk <;> cases hk
  have HF := Lib.hid hfn
  have HFi := Lib.hid hfile
  have HI := Lib.hid h
  clear hfn hfile
  go_enter Try.func52, Try.ntmps52
  go_wp2_with (first | (at_builtin; refine wl_append rfl _ _ _ _ rfl _ _ rfl rfl ?_) | (at_make; refine wl_make rfl _ _ _ rfl _ _ rfl rfl ?_) | (at_mapUpdate; refine wl_mapUpdate rfl _ _ _ _ rfl _ _ _ rfl rfl rfl ?_) | (at_lookup; refine wl_lookup rfl _ _ _ _ rfl _ _ rfl rfl ?_) | (at_delete; refine wl_delete rfl _ _ _ _ rfl _ _ rfl rfl ?_) | (with_reducible refine wl_len rfl _ _ rfl _ rfl ?_) | (with_reducible refine wl_range rfl _ _ rfl _ rfl ?_) | (with_reducible refine wl_next rfl _ rfl _ rfl ?_) | (with_reducible refine wl_copy rfl _ _ _ _ rfl _ _ rfl rfl ?_) | (with_reducible refine wl_max rfl _ _ _ _ rfl _ _ rfl rfl ?_) | (with_reducible refine wl_min rfl _ _ _ _ rfl _ _ rfl rfl ?_))
  refine (change_any w HI.out ⟨3, 0, 0, [], s, t⟩ (renamed m.L s t) hwl HF.out HFi.out (enters_rename21 _ _ _)
    (rename21_any s t w hs ht hL h.nm hy hz)).mono ?_
  rintro e w' ⟨rfl, h2, h3⟩
  go_wp2_with (first | (at_builtin; refine wl_append rfl _ _ _ _ rfl _ _ rfl rfl ?_) | (at_make; refine wl_make rfl _ _ _ rfl _ _ rfl rfl ?_) | (at_mapUpdate; refine wl_mapUpdate rfl _ _ _ _ rfl _ _ _ rfl rfl rfl ?_) | (at_lookup; refine wl_lookup rfl _ _ _ _ rfl _ _ rfl rfl ?_) | (at_delete; refine wl_delete rfl _ _ _ _ rfl _ _ rfl rfl ?_) | (with_reducible refine wl_len rfl _ _ rfl _ rfl ?_) | (with_reducible refine wl_range rfl _ _ rfl _ rfl ?_) | (with_reducible refine wl_next rfl _ rfl _ rfl ?_) | (with_reducible refine wl_copy rfl _ _ _ _ rfl _ _ rfl rfl ?_) | (with_reducible refine wl_max rfl _ _ _ _ rfl _ _ rfl rfl ?_) | (with_reducible refine wl_min rfl _ _ _ _ rfl _ _ rfl rfl ?_))
  go_end0
  refine ⟨rfl, ?_, h3.mono fun k hk hs => ?_⟩
  · have e1 : done m 4 s t 0 [] = { m with L := renamed m.L s t, wait := m.wait ++ [⟨3, 0, 0, [], s, t⟩] } := by
      simp only [done, waitD, namesOp, renamed]
      cases hf : find m.L s <;> rfl
    rw [e1]; exact h2
  · rcases hs with rfl | rfl | hs
    · exact h0.An
    · exact h0.Ad
    · exact h0.rowA k hs.symm

set_option maxRecDepth 100000 in
set_option maxHeartbeats 400000 in
theorem remove_any {A : Nat → Prop} {d : Nat} {m : M} (s : List UInt8) (w : World) (h : DR A w d m) (hA : ∀ k, A k → k < w.heap.size) (hs : s.length ≤ maxLen) (hwl : m.wait.length ≤ 1099511627776) (hcut : m.cut ≤ 9223372036854775807) :
    Calls Try.prog 22 #[.pointer (some ⟨d, 0, none⟩), .string ⟨s.toArray⟩] w fun e w' => e = .returned (.int .i64 ((call m 5 s [] 0 []).2 : Nat)) ∧ DR (Plus A w w') w' d (call m 5 s [] 0 []).1 ∧ Keep A w w' := by
  go_enter Try.func22, Try.ntmps22
  go_wp2_with (first | (at_builtin; refine wl_append rfl _ _ _ _ rfl _ _ rfl rfl ?_) | (at_make; refine wl_make rfl _ _ _ rfl _ _ rfl rfl ?_) | (at_mapUpdate; refine wl_mapUpdate rfl _ _ _ _ rfl _ _ _ rfl rfl rfl ?_) | (at_lookup; refine wl_lookup rfl _ _ _ _ rfl _ _ rfl rfl ?_) | (at_delete; refine wl_delete rfl _ _ _ _ rfl _ _ rfl rfl ?_) | (with_reducible refine wl_len rfl _ _ rfl _ rfl ?_) | (with_reducible refine wl_range rfl _ _ rfl _ rfl ?_) | (with_reducible refine wl_next rfl _ rfl _ rfl ?_) | (with_reducible refine wl_copy rfl _ _ _ _ rfl _ _ rfl rfl ?_) | (with_reducible refine wl_max rfl _ _ _ _ rfl _ _ rfl rfl ?_) | (with_reducible refine wl_min rfl _ _ _ _ rfl _ _ rfl rfl ?_))
  generalize hW : (w.alloc (Obj.cells #[Value.pointer (some { block := d, off := 0 })] 23)).alloc (Obj.cells #[Value.string { data := s.toArray }] 9) = W
  have hWs : W.heap.size = w.heap.size + 2 := by subst hW; simp
  have hkW : Keep No w W := by subst hW; exact ((Keep.refl _ _).alloc _).alloc _
  have hF : Blk W w.heap.size #[Value.pointer (some { block := d, off := 0 })] 23 := by subst hW; exact (Blk.new _ _ _).alloc _
  have hV : Blk W (w.heap.size + 1) #[Value.string { data := s.toArray }] 9 := by
    subst hW
    have := Blk.new (w.alloc (Obj.cells #[Value.pointer (some { block := d, off := 0 })] 23)) #[Value.string { data := s.toArray }] 9
    rw [World.size_alloc] at this
    exact this
  have hA' : ∀ k, A k → k < W.heap.size := fun k ha => by have := hA k ha; omega
  have h1 := h.keep hA hkW fun _ _ h => h
  refine (step_all (B := fun k => A k ∨ k = w.heap.size + 1) 5 s [] 0 [] W h1 hA' (fun k ha => .inl ha) hcut (enters_remove1 _ _) (enters_remove2 _ _) ?_ ?_).mono ?_
  · intro _
    obtain ⟨fb, nb, sb, wv, rows, h0⟩ := h1
    have hb := h0.blk.cell 1
    simp only [List.getElem?_toArray, List.getElem?_cons_succ, List.getElem?_cons_zero] at hb
    refine (remove1_any s W hs h0.nm hb ((hF.cell 0).trans rfl) ((hV.cell 0).trans rfl)).mono ?_
    rintro e w' ⟨rfl, rfl⟩
    exact ⟨rfl, Keep.refl _ _⟩
  · intro w1 _ h2 k2
    have n1 : ¬ A w.heap.size := fun ha => by have := hA _ ha; omega
    have n2 : ¬ A (w.heap.size + 1) := fun ha => by have := hA _ ha; omega
    exact remove2_any s w1 h2 hs hwl ((hF.keep k2 n1).cell 0 |>.trans rfl) (hV.keep k2 n2)
  · rintro e w' ⟨rfl, h2, k2⟩
    go_wp2_with (first | (at_builtin; refine wl_append rfl _ _ _ _ rfl _ _ rfl rfl ?_) | (at_make; refine wl_make rfl _ _ _ rfl _ _ rfl rfl ?_) | (at_mapUpdate; refine wl_mapUpdate rfl _ _ _ _ rfl _ _ _ rfl rfl rfl ?_) | (at_lookup; refine wl_lookup rfl _ _ _ _ rfl _ _ rfl rfl ?_) | (at_delete; refine wl_delete rfl _ _ _ _ rfl _ _ rfl rfl ?_) | (with_reducible refine wl_len rfl _ _ rfl _ rfl ?_) | (with_reducible refine wl_range rfl _ _ rfl _ rfl ?_) | (with_reducible refine wl_next rfl _ rfl _ rfl ?_) | (with_reducible refine wl_copy rfl _ _ _ _ rfl _ _ rfl rfl ?_) | (with_reducible refine wl_max rfl _ _ _ _ rfl _ _ rfl rfl ?_) | (with_reducible refine wl_min rfl _ _ _ _ rfl _ _ rfl rfl ?_))
    go_ret
    refine ⟨rfl, h2.mono fun k hk ha => ?_, (hkW.mono fun _ _ h => h.elim).trans' k2⟩
    rcases ha with (ha | ha) | ha
    · exact .inl ha
    · exact .inr ⟨by omega, hk⟩
    · exact .inr ⟨by omega, hk⟩

set_option maxRecDepth 100000 in
set_option maxHeartbeats 400000 in
theorem rename_any {A : Nat → Prop} {d : Nat} {m : M} (s t : List UInt8) (w : World) (h : DR A w d m) (hA : ∀ k, A k → k < w.heap.size) (hs : s.length ≤ maxLen) (ht : t.length ≤ maxLen) (hwl : m.wait.length ≤ 1099511627776) (hL : m.L.length ≤ 1099511627776) (hcut : m.cut ≤ 9223372036854775807) :
    Calls Try.prog 21 #[.pointer (some ⟨d, 0, none⟩), .string ⟨s.toArray⟩, .string ⟨t.toArray⟩] w fun e w' => e = .returned (.int .i64 ((call m 4 s t 0 []).2 : Nat)) ∧ DR (Plus A w w') w' d (call m 4 s t 0 []).1 ∧ Keep A w w' := by
  go_enter Try.func21, Try.ntmps21
  go_wp2_with (first | (at_builtin; refine wl_append rfl _ _ _ _ rfl _ _ rfl rfl ?_) | (at_make; refine wl_make rfl _ _ _ rfl _ _ rfl rfl ?_) | (at_mapUpdate; refine wl_mapUpdate rfl _ _ _ _ rfl _ _ _ rfl rfl rfl ?_) | (at_lookup; refine wl_lookup rfl _ _ _ _ rfl _ _ rfl rfl ?_) | (at_delete; refine wl_delete rfl _ _ _ _ rfl _ _ rfl rfl ?_) | (with_reducible refine wl_len rfl _ _ rfl _ rfl ?_) | (with_reducible refine wl_range rfl _ _ rfl _ rfl ?_) | (with_reducible refine wl_next rfl _ rfl _ rfl ?_) | (with_reducible refine wl_copy rfl _ _ _ _ rfl _ _ rfl rfl ?_) | (with_reducible refine wl_max rfl _ _ _ _ rfl _ _ rfl rfl ?_) | (with_reducible refine wl_min rfl _ _ _ _ rfl _ _ rfl rfl ?_))
  generalize hW : ((w.alloc (Obj.cells #[Value.pointer (some { block := d, off := 0 })] 23)).alloc (Obj.cells #[Value.string { data := s.toArray }] 9)).alloc (Obj.cells #[Value.string { data := t.toArray }] 9) = W
  have hWs : W.heap.size = w.heap.size + 3 := by subst hW; simp
  have hkW : Keep No w W := by subst hW; exact (((Keep.refl _ _).alloc _).alloc _).alloc _
  have hF : Blk W w.heap.size #[Value.pointer (some { block := d, off := 0 })] 23 := by subst hW; exact ((Blk.new _ _ _).alloc _).alloc _
  have hV : Blk W (w.heap.size + 1) #[Value.string { data := s.toArray }] 9 := by
    subst hW
    have := Blk.new (w.alloc (Obj.cells #[Value.pointer (some { block := d, off := 0 })] 23)) #[Value.string { data := s.toArray }] 9
    rw [World.size_alloc] at this
    exact this.alloc _
  have hU : Blk W (w.heap.size + 1 + 1) #[Value.string { data := t.toArray }] 9 := by
    subst hW
    have := Blk.new ((w.alloc (Obj.cells #[Value.pointer (some { block := d, off := 0 })] 23)).alloc (Obj.cells #[Value.string { data := s.toArray }] 9)) #[Value.string { data := t.toArray }] 9
    simp only [World.size_alloc] at this
    exact this
  have hA' : ∀ k, A k → k < W.heap.size := fun k ha => by have := hA k ha; omega
  have h1 := h.keep hA hkW fun _ _ h => h
  refine (step_all (B := fun k => A k ∨ k = w.heap.size + 1 ∨ k = w.heap.size + 1 + 1) 4 s t 0 [] W h1 hA' (fun k ha => .inl ha) hcut (enters_rename1 _ _ _) (enters_rename2 _ _ _) ?_ ?_).mono ?_
  · intro _
    obtain ⟨fb, nb, sb, wv, rows, h0⟩ := h1
    have hb := h0.blk.cell 1
    simp only [List.getElem?_toArray, List.getElem?_cons_succ, List.getElem?_cons_zero] at hb
    refine (rename1_any s t W hs h0.nm hb ((hF.cell 0).trans rfl) ((hV.cell 0).trans rfl) ((hU.cell 0).trans rfl)).mono ?_
    rintro e w' ⟨rfl, rfl⟩
    exact ⟨rfl, Keep.refl _ _⟩
  · intro w1 _ h2 k2
    have n1 : ¬ A w.heap.size := fun ha => by have := hA _ ha; omega
    have n2 : ¬ A (w.heap.size + 1) := fun ha => by have := hA _ ha; omega
    have n3 : ¬ A (w.heap.size + 1 + 1) := fun ha => by have := hA _ ha; omega
    exact rename2_any s t w1 h2 hs ht hwl hL ((hF.keep k2 n1).cell 0 |>.trans rfl) (hV.keep k2 n2) (hU.keep k2 n3)
  · rintro e w' ⟨rfl, h2, k2⟩
    go_wp2_with (first | (at_builtin; refine wl_append rfl _ _ _ _ rfl _ _ rfl rfl ?_) | (at_make; refine wl_make rfl _ _ _ rfl _ _ rfl rfl ?_) | (at_mapUpdate; refine wl_mapUpdate rfl _ _ _ _ rfl _ _ _ rfl rfl rfl ?_) | (at_lookup; refine wl_lookup rfl _ _ _ _ rfl _ _ rfl rfl ?_) | (at_delete; refine wl_delete rfl _ _ _ _ rfl _ _ rfl rfl ?_) | (with_reducible refine wl_len rfl _ _ rfl _ rfl ?_) | (with_reducible refine wl_range rfl _ _ rfl _ rfl ?_) | (with_reducible refine wl_next rfl _ rfl _ rfl ?_) | (with_reducible refine wl_copy rfl _ _ _ _ rfl _ _ rfl rfl ?_) | (with_reducible refine wl_max rfl _ _ _ _ rfl _ _ rfl rfl ?_) | (with_reducible refine wl_min rfl _ _ _ _ rfl _ _ rfl rfl ?_))
    go_ret
    refine ⟨rfl, h2.mono fun k hk ha => ?_, (hkW.mono fun _ _ h => h.elim).trans' k2⟩
    rcases ha with (ha | ha) | ha
    · exact .inl ha
    · exact .inr ⟨by omega, hk⟩
    · exact .inr ⟨by omega, hk⟩
end Go.Proofs.Ytkmoomgmmhmaeaa
namespace Go.Proofs.Ytkmoomgmmhmaeaa
open Go.RowKit Go.Dm Go.Dm.Dk Go.Maps

set_option maxRecDepth 100000 in
set_option maxHeartbeats 400000 in
theorem syncnames1_any (w : World) : Calls Try.prog 42 #[] w fun e w' => e = .returned (.int .i64 0) ∧ w = w' := by
  go_enter Try.func42, Try.ntmps42
  go_wp2_with (first | (at_builtin; refine wl_append rfl _ _ _ _ rfl _ _ rfl rfl ?_) | (at_make; refine wl_make rfl _ _ _ rfl _ _ rfl rfl ?_) | (at_mapUpdate; refine wl_mapUpdate rfl _ _ _ _ rfl _ _ _ rfl rfl rfl ?_) | (at_lookup; refine wl_lookup rfl _ _ _ _ rfl _ _ rfl rfl ?_) | (at_delete; refine wl_delete rfl _ _ _ _ rfl _ _ rfl rfl ?_) | (with_reducible refine wl_len rfl _ _ rfl _ rfl ?_) | (with_reducible refine wl_range rfl _ _ rfl _ rfl ?_) | (with_reducible refine wl_next rfl _ rfl _ rfl ?_) | (with_reducible refine wl_copy rfl _ _ _ _ rfl _ _ rfl rfl ?_) | (with_reducible refine wl_max rfl _ _ _ _ rfl _ _ rfl rfl ?_) | (with_reducible refine wl_min rfl _ _ _ _ rfl _ _ rfl rfl ?_))
  go_ret
  exact ⟨rfl, rfl⟩

set_option maxRecDepth 100000 in
set_option maxHeartbeats 400000 in
theorem syncnames21_any {fb : List Nat} {o : Dk.Op} (p0 p1 p2 p3 : Value) (w : World) (h : (o.kind = 1 ∧ p0 = fptr fb o.file) ∨ (o.kind ≠ 1 ∧ p0 = .pointer none)) :
    Calls Try.prog 45 #[.agg #[p0, p1, p2, p3]] w fun e w' => e = .returned (.bool (o.kind != 1)) ∧ Keep No w w' := by
  rcases h with ⟨hk, rfl⟩ | ⟨hk, rfl⟩
  · have e : (o.kind != 1) = false := by simp [hk]
    rw [e]
    unfold fptr ptrTo
    go_enter Try.func45, Try.ntmps45
    go_wp2_with (first | (at_builtin; refine wl_append rfl _ _ _ _ rfl _ _ rfl rfl ?_) | (at_make; refine wl_make rfl _ _ _ rfl _ _ rfl rfl ?_) | (at_mapUpdate; refine wl_mapUpdate rfl _ _ _ _ rfl _ _ _ rfl rfl rfl ?_) | (at_lookup; refine wl_lookup rfl _ _ _ _ rfl _ _ rfl rfl ?_) | (at_delete; refine wl_delete rfl _ _ _ _ rfl _ _ rfl rfl ?_) | (with_reducible refine wl_len rfl _ _ rfl _ rfl ?_) | (with_reducible refine wl_range rfl _ _ rfl _ rfl ?_) | (with_reducible refine wl_next rfl _ rfl _ rfl ?_) | (with_reducible refine wl_copy rfl _ _ _ _ rfl _ _ rfl rfl ?_) | (with_reducible refine wl_max rfl _ _ _ _ rfl _ _ rfl rfl ?_) | (with_reducible refine wl_min rfl _ _ _ _ rfl _ _ rfl rfl ?_))
    go_ret
    exact ⟨rfl, (Keep.refl _ _).alloc _⟩
  · have e : (o.kind != 1) = true := by simp [hk]
    rw [e]
    go_enter Try.func45, Try.ntmps45
    go_wp2_with (first | (at_builtin; refine wl_append rfl _ _ _ _ rfl _ _ rfl rfl ?_) | (at_make; refine wl_make rfl _ _ _ rfl _ _ rfl rfl ?_) | (at_mapUpdate; refine wl_mapUpdate rfl _ _ _ _ rfl _ _ _ rfl rfl rfl ?_) | (at_lookup; refine wl_lookup rfl _ _ _ _ rfl _ _ rfl rfl ?_) | (at_delete; refine wl_delete rfl _ _ _ _ rfl _ _ rfl rfl ?_) | (with_reducible refine wl_len rfl _ _ rfl _ rfl ?_) | (with_reducible refine wl_range rfl _ _ rfl _ rfl ?_) | (with_reducible refine wl_next rfl _ rfl _ rfl ?_) | (with_reducible refine wl_copy rfl _ _ _ _ rfl _ _ rfl rfl ?_) | (with_reducible refine wl_max rfl _ _ _ _ rfl _ _ rfl rfl ?_) | (with_reducible refine wl_min rfl _ _ _ _ rfl _ _ rfl rfl ?_))
    go_ret
    exact ⟨rfl, (Keep.refl _ _).alloc _⟩

theorem info_file : (Try.prog.info? 67).map (fun i => (i.zero, i.size, i.bytes)) = some (some (.agg #[.slice none 0 0, .slice none 0 0]), 2, 48) := by kernel_rfl
theorem eql_file {w : World} {a b : Nat} {ca cb : Array Value} {ta tb : TypeId} (ha : Blk w a ca ta) (hb : Blk w b cb tb) :
    (binOp .eql 64 (.pointer (some ⟨a, 0, none⟩)) (.pointer (some ⟨b, 0, none⟩))).run Try.prog w = .ok (.bool (a == b)) w := by
  obtain ⟨i, hi, _, h2, _⟩ := info_parts info_file
  by_cases e : a = b
  · subst e
    rw [beq_self_eq_true]
    exact run_eql_ptr_same (P := Try.prog) w ⟨a, 0, none⟩ Try.underlying64 hi
  · have e2 : (a == b) = false := by simpa using e
    rw [e2]
    exact run_eql_ptr_other (P := Try.prog) w Try.underlying64 hi (by rw [h2]; decide) (fun h => e (congrArg Addr.block h)) ha hb

theorem eql_nil_file (w : World) (a : Addr) : (binOp .eql 64 (.pointer none) (.pointer (some a))).run Try.prog w = .ok (.bool false) w := by
  have h : ∀ d : Nat, (Op.equalIn (d + 1) 64 (.pointer none) (.pointer (some a))).run Try.prog w = .ok false w := fun d => by
    simp [Op.equalIn, run_underlying Try.underlying64, sizeOf, typeInfo]
  simp only [binOp]
  simp [Op.equal, Op.maxDepth, h 9999]

set_option maxRecDepth 100000 in
set_option maxHeartbeats 400000 in
theorem sync21_any {fb : List Nat} {o : Dk.Op} {x f : Nat} (p0 p1 p2 p3 : Value) (w : World) (h : (o.kind = 1 ∧ p0 = fptr fb o.file) ∨ (o.kind ≠ 1 ∧ p0 = .pointer none)) (hx : w.cell? ⟨x, 0, none⟩ = some (fptr fb f))
    {ca : Array Value} (hf : Blk w (fb.getD f 0) ca 67) (ho : o.kind = 1 → ∃ cb, Blk w (fb.getD o.file 0) cb 67) (hinj : o.kind = 1 → fb.getD o.file 0 = fb.getD f 0 → o.file = f) :
    Calls Try.prog 59 #[.agg #[p0, p1, p2, p3], .pointer (some ⟨x, 0, none⟩)] w fun e w' => e = .returned (.bool (o.kind == 1 && o.file == f)) ∧ Keep No w w' := by
  have hxl := World.block_lt_of_cell? w _ hx
  simp only at hxl
  unfold fptr ptrTo at hx
  rcases h with ⟨hk, rfl⟩ | ⟨hk, rfl⟩
  · unfold fptr ptrTo
    have e : (o.kind == 1 && o.file == f) = (fb.getD o.file 0 == fb.getD f 0) := by
      simp only [hk, beq_self_eq_true, Bool.true_and]
      rw [Bool.eq_iff_iff, beq_iff_eq, beq_iff_eq]
      exact ⟨fun e => by rw [e], hinj hk⟩
    rw [e]
    clear hinj e
    obtain ⟨cb, ho⟩ := ho hk
    generalize fb.getD o.file 0 = a at *
    generalize fb.getD f 0 = b at *
    have q := eql_file (ho.alloc (.cells #[.pointer (some ⟨a, 0, none⟩), p1, p2, p3] 73)) (hf.alloc _)
    go_enter Try.func59, Try.ntmps59
    go_wp2_with (first | (at_builtin; refine wl_append rfl _ _ _ _ rfl _ _ rfl rfl ?_) | (at_make; refine wl_make rfl _ _ _ rfl _ _ rfl rfl ?_) | (at_mapUpdate; refine wl_mapUpdate rfl _ _ _ _ rfl _ _ _ rfl rfl rfl ?_) | (at_lookup; refine wl_lookup rfl _ _ _ _ rfl _ _ rfl rfl ?_) | (at_delete; refine wl_delete rfl _ _ _ _ rfl _ _ rfl rfl ?_) | (with_reducible refine wl_len rfl _ _ rfl _ rfl ?_) | (with_reducible refine wl_range rfl _ _ rfl _ rfl ?_) | (with_reducible refine wl_next rfl _ rfl _ rfl ?_) | (with_reducible refine wl_copy rfl _ _ _ _ rfl _ _ rfl rfl ?_) | (with_reducible refine wl_max rfl _ _ _ _ rfl _ _ rfl rfl ?_) | (with_reducible refine wl_min rfl _ _ _ _ rfl _ _ rfl rfl ?_))
    go_ret
    exact ⟨rfl, (Keep.refl _ _).alloc _⟩
  · have e : (o.kind == 1 && o.file == f) = false := by simp [hk]
    rw [e]
    generalize fb.getD f 0 = b at *
    have q := fun w => eql_nil_file w ⟨b, 0, none⟩
    go_enter Try.func59, Try.ntmps59
    go_wp2_with (first | (at_builtin; refine wl_append rfl _ _ _ _ rfl _ _ rfl rfl ?_) | (at_make; refine wl_make rfl _ _ _ rfl _ _ rfl rfl ?_) | (at_mapUpdate; refine wl_mapUpdate rfl _ _ _ _ rfl _ _ _ rfl rfl rfl ?_) | (at_lookup; refine wl_lookup rfl _ _ _ _ rfl _ _ rfl rfl ?_) | (at_delete; refine wl_delete rfl _ _ _ _ rfl _ _ rfl rfl ?_) | (with_reducible refine wl_len rfl _ _ rfl _ rfl ?_) | (with_reducible refine wl_range rfl _ _ rfl _ rfl ?_) | (with_reducible refine wl_next rfl _ rfl _ rfl ?_) | (with_reducible refine wl_copy rfl _ _ _ _ rfl _ _ rfl rfl ?_) | (with_reducible refine wl_max rfl _ _ _ _ rfl _ _ rfl rfl ?_) | (with_reducible refine wl_min rfl _ _ _ _ rfl _ _ rfl rfl ?_))
    go_ret
    exact ⟨rfl, (Keep.refl _ _).alloc _⟩
theorem enters_sync1 (a b : Value) : Enters 57 #[a, b] := fun w => by kernel_rfl
theorem enters_sync2 (a b : Value) : Enters 58 #[a, b] := fun w => by kernel_rfl
theorem enters_sync21 (a b : Value) : Enters 59 #[a, b] := fun w => by kernel_rfl
theorem enters_syncnames1 : Enters 42 #[] := fun w => by kernel_rfl
theorem enters_syncnames2 (a : Value) : Enters 43 #[a] := fun w => by kernel_rfl
theorem enters_syncnames21 (a : Value) : Enters 45 #[a] := fun w => by kernel_rfl

set_option maxRecDepth 100000 in
set_option maxHeartbeats 400000 in
theorem sync1_any {nb x y d : Nat} {fb : List Nat} {L : Names} (s : List UInt8) (w : World) (hs : s.length ≤ maxLen) (hn : MapL Try.prog 9 w nb (NL fb L)) (hd : w.cell? ⟨d, 1, none⟩ = some (.map (some nb)))
    (hx : w.cell? ⟨x, 0, none⟩ = some (.pointer (some ⟨d, 0, none⟩))) (hy : w.cell? ⟨y, 0, none⟩ = some (.string ⟨s.toArray⟩)) :
    Calls Try.prog 57 #[.pointer (some ⟨x, 0, none⟩), .pointer (some ⟨y, 0, none⟩)] w fun e w' => e = .returned (.int .i64 (thereN L s : Nat)) ∧ w = w' := by
  go_enter Try.func57, Try.ntmps57
  go_wp2_with (first | (at_builtin; refine wl_append rfl _ _ _ _ rfl _ _ rfl rfl ?_) | (at_make; refine wl_make rfl _ _ _ rfl _ _ rfl rfl ?_) | (at_mapUpdate; refine wl_mapUpdate rfl _ _ _ _ rfl _ _ _ rfl rfl rfl ?_) | (at_lookup; refine wl_lookup rfl _ _ _ _ rfl _ _ rfl rfl ?_) | (at_delete; refine wl_delete rfl _ _ _ _ rfl _ _ rfl rfl ?_) | (with_reducible refine wl_len rfl _ _ rfl _ rfl ?_) | (with_reducible refine wl_range rfl _ _ rfl _ rfl ?_) | (with_reducible refine wl_next rfl _ rfl _ rfl ?_) | (with_reducible refine wl_copy rfl _ _ _ _ rfl _ _ rfl rfl ?_) | (with_reducible refine wl_max rfl _ _ _ _ rfl _ _ rfl rfl ?_) | (with_reducible refine wl_min rfl _ _ _ _ rfl _ _ rfl rfl ?_))
  refine (there_any s _ hs hn hd).mono ?_
  rintro e w1 ⟨rfl, rfl⟩
  go_wp2_with (first | (at_builtin; refine wl_append rfl _ _ _ _ rfl _ _ rfl rfl ?_) | (at_make; refine wl_make rfl _ _ _ rfl _ _ rfl rfl ?_) | (at_mapUpdate; refine wl_mapUpdate rfl _ _ _ _ rfl _ _ _ rfl rfl rfl ?_) | (at_lookup; refine wl_lookup rfl _ _ _ _ rfl _ _ rfl rfl ?_) | (at_delete; refine wl_delete rfl _ _ _ _ rfl _ _ rfl rfl ?_) | (with_reducible refine wl_len rfl _ _ rfl _ rfl ?_) | (with_reducible refine wl_range rfl _ _ rfl _ rfl ?_) | (with_reducible refine wl_next rfl _ rfl _ rfl ?_) | (with_reducible refine wl_copy rfl _ _ _ _ rfl _ _ rfl rfl ?_) | (with_reducible refine wl_max rfl _ _ _ _ rfl _ _ rfl rfl ?_) | (with_reducible refine wl_min rfl _ _ _ _ rfl _ _ rfl rfl ?_))
  go_ret
  exact ⟨rfl, rfl⟩

set_option maxRecDepth 100000 in
set_option maxHeartbeats 400000 in
theorem syncnames2_any {A : Nat → Prop} {d x : Nat} {m : M} (w : World) (h : DR A w d m) (hA : ∀ k, A k → k < w.heap.size) (hfit : FitW m)
    (hx : w.cell? ⟨x, 0, none⟩ = some (.pointer (some ⟨d, 0, none⟩))) :
    Calls Try.prog 43 #[.pointer (some ⟨x, 0, none⟩)] w fun e w' => e = .returned (.tuple #[]) ∧ DR (Plus A w w') w' d (done m 6 [] [] 0 []) ∧ Keep A w w' := by
  obtain ⟨fb, nb, sb, wv, rows, h⟩ := h
  have hcall := settle_any (C := No) (f := 45) (caps := #[]) (fun i => match m.wait[i]? with | some o => o.kind != 1 | none => false) (fun _ _ => True) w h hA (fun k hk => hk.elim) hfit (fun v => enters_syncnames21 v) trivial
    (fun _ _ _ _ _ _ => trivial) (by
      intro i o p0 p1 p2 p3 w1 _ _ ho hp
      refine (syncnames21_any p0 p1 p2 p3 w1 hp).mono ?_
      rintro e w2 ⟨rfl, hk⟩
      exact ⟨by rw [ho], trivial, hk⟩)
  have HC := Lib.hid hcall
  clear hcall
  go_enter Try.func43, Try.ntmps43
  go_wp2_with (first | (at_builtin; refine wl_append rfl _ _ _ _ rfl _ _ rfl rfl ?_) | (at_make; refine wl_make rfl _ _ _ rfl _ _ rfl rfl ?_) | (at_mapUpdate; refine wl_mapUpdate rfl _ _ _ _ rfl _ _ _ rfl rfl rfl ?_) | (at_lookup; refine wl_lookup rfl _ _ _ _ rfl _ _ rfl rfl ?_) | (at_delete; refine wl_delete rfl _ _ _ _ rfl _ _ rfl rfl ?_) | (with_reducible refine wl_len rfl _ _ rfl _ rfl ?_) | (with_reducible refine wl_range rfl _ _ rfl _ rfl ?_) | (with_reducible refine wl_next rfl _ rfl _ rfl ?_) | (with_reducible refine wl_copy rfl _ _ _ _ rfl _ _ rfl rfl ?_) | (with_reducible refine wl_max rfl _ _ _ _ rfl _ _ rfl rfl ?_) | (with_reducible refine wl_min rfl _ _ _ _ rfl _ _ rfl rfl ?_))
  refine HC.out.mono ?_
  rintro e w' ⟨rfl, h2, h3, _⟩
  go_wp2_with (first | (at_builtin; refine wl_append rfl _ _ _ _ rfl _ _ rfl rfl ?_) | (at_make; refine wl_make rfl _ _ _ rfl _ _ rfl rfl ?_) | (at_mapUpdate; refine wl_mapUpdate rfl _ _ _ _ rfl _ _ _ rfl rfl rfl ?_) | (at_lookup; refine wl_lookup rfl _ _ _ _ rfl _ _ rfl rfl ?_) | (at_delete; refine wl_delete rfl _ _ _ _ rfl _ _ rfl rfl ?_) | (with_reducible refine wl_len rfl _ _ rfl _ rfl ?_) | (with_reducible refine wl_range rfl _ _ rfl _ rfl ?_) | (with_reducible refine wl_next rfl _ rfl _ rfl ?_) | (with_reducible refine wl_copy rfl _ _ _ _ rfl _ _ rfl rfl ?_) | (with_reducible refine wl_max rfl _ _ _ _ rfl _ _ rfl rfl ?_) | (with_reducible refine wl_min rfl _ _ _ _ rfl _ _ rfl rfl ?_))
  go_end0
  refine ⟨rfl, h2, h3.mono fun k _ hk => ?_⟩
  rcases hk with hk | hk
  · exact hk
  · exact hk.elim

set_option maxRecDepth 100000 in
set_option maxHeartbeats 400000 in
theorem sync2_any {A : Nat → Prop} {d x y f : Nat} {m : M} (s : List UInt8) (w : World) (h : DR A w d m) (hA : ∀ k, A k → k < w.heap.size) (hfit : FitW m) (hs : s.length ≤ maxLen) (hf : find m.L s = some f)
    (hx : w.cell? ⟨x, 0, none⟩ = some (.pointer (some ⟨d, 0, none⟩))) (hy : w.cell? ⟨y, 0, none⟩ = some (.string ⟨s.toArray⟩)) :
    Calls Try.prog 58 #[.pointer (some ⟨x, 0, none⟩), .pointer (some ⟨y, 0, none⟩)] w fun e w' => e = .returned (.tuple #[]) ∧ DR (Plus A w w') w' d (done m 3 s [] 0 []) ∧ Keep A w w' := by
  obtain ⟨fb, nb, sb, wv, rows, h⟩ := h
  have hd := h.blk.cell 1
  simp only [List.getElem?_toArray, List.getElem?_cons_succ, List.getElem?_cons_zero] at hd
  have hxl := World.block_lt_of_cell? w _ hx
  simp only at hxl
  have hff := find_mem hf
  go_enter Try.func58, Try.ntmps58
  go_wp2_with (first | (at_builtin; refine wl_append rfl _ _ _ _ rfl _ _ rfl rfl ?_) | (at_make; refine wl_make rfl _ _ _ rfl _ _ rfl rfl ?_) | (at_mapUpdate; refine wl_mapUpdate rfl _ _ _ _ rfl _ _ _ rfl rfl rfl ?_) | (at_lookup; refine wl_lookup rfl _ _ _ _ rfl _ _ rfl rfl ?_) | (at_delete; refine wl_delete rfl _ _ _ _ rfl _ _ rfl rfl ?_) | (with_reducible refine wl_len rfl _ _ rfl _ rfl ?_) | (with_reducible refine wl_range rfl _ _ rfl _ rfl ?_) | (with_reducible refine wl_next rfl _ rfl _ rfl ?_) | (with_reducible refine wl_copy rfl _ _ _ _ rfl _ _ rfl rfl ?_) | (with_reducible refine wl_max rfl _ _ _ _ rfl _ _ rfl rfl ?_) | (with_reducible refine wl_min rfl _ _ _ _ rfl _ _ rfl rfl ?_))
  refine (of_any d s _ hs h.nm hd).mono ?_
  rintro e w1 ⟨rfl, rfl⟩
  simp only [ofV, hf, Option.map_some, Option.getD_some, fptr, ptrTo]
  go_wp2_with (first | (at_builtin; refine wl_append rfl _ _ _ _ rfl _ _ rfl rfl ?_) | (at_make; refine wl_make rfl _ _ _ rfl _ _ rfl rfl ?_) | (at_mapUpdate; refine wl_mapUpdate rfl _ _ _ _ rfl _ _ _ rfl rfl rfl ?_) | (at_lookup; refine wl_lookup rfl _ _ _ _ rfl _ _ rfl rfl ?_) | (at_delete; refine wl_delete rfl _ _ _ _ rfl _ _ rfl rfl ?_) | (with_reducible refine wl_len rfl _ _ rfl _ rfl ?_) | (with_reducible refine wl_range rfl _ _ rfl _ rfl ?_) | (with_reducible refine wl_next rfl _ rfl _ rfl ?_) | (with_reducible refine wl_copy rfl _ _ _ _ rfl _ _ rfl rfl ?_) | (with_reducible refine wl_max rfl _ _ _ _ rfl _ _ rfl rfl ?_) | (with_reducible refine wl_min rfl _ _ _ _ rfl _ _ rfl rfl ?_))
  generalize hW : w.alloc (Obj.cells #[Value.pointer (some { block := fb[f]?.getD 0, off := 0 })] 64) = W
  have hWs : W.heap.size = w.heap.size + 1 := by subst hW; simp
  have hkW : Keep No w W := by subst hW; exact (Keep.refl _ _).alloc _
  have hB : Blk W w.heap.size #[fptr fb f] 64 := by subst hW; exact Blk.new _ _ _
  clear hW
  have hA' : ∀ k, A k → k < W.heap.size := fun k ha => by have := hA k ha; omega
  have h1 : DRep A W d m fb nb sb wv rows := h.same hkW.size fun k ha => hkW.block k (hA k ha) fun h => h
  refine (settle_any (C := fun k => k = w.heap.size) (f := 59) (caps := #[ptrTo w.heap.size]) (fun i => match m.wait[i]? with | some o => o.kind == 1 && o.file == f | none => false) (fun _ w' => Blk w' w.heap.size #[fptr fb f] 64) W h1 hA'
    (fun k hk => ⟨by omega, fun ha => by have := hA k ha; omega⟩) hfit (fun v => enters_sync21 v _) hB (fun _ w1 w2 hj _ e => hj.same (e _ rfl)) ?_).mono ?_
  · intro i o p0 p1 p2 p3 w1 hj hD ho hp
    have hok := stOk (fun i => match m.wait[i]? with | some o => o.kind == 1 && o.file == f | none => false) m hfit i (by have := (List.getElem?_eq_some_iff.1 ho).1; omega)
    obtain ⟨hfl, _, v1, v2, hb1, _⟩ := hD.file f (.inl ⟨s, by show (s, f) ∈ (st _ m i).L; rw [hok.L]; exact hff⟩)
    have hlive : o.kind = 1 → _ := fun hk => hD.file o.file (.inr (.inr ⟨o, List.mem_of_getElem? ho, .inl hk, rfl⟩))
    refine (sync21_any p0 p1 p2 p3 w1 hp ((hj.cell 0).trans rfl) hb1 (fun hk => ?_) (fun hk e => ?_)).mono ?_
    · obtain ⟨_, _, u1, u2, hb2, _⟩ := hlive hk
      exact ⟨_, hb2⟩
    · obtain ⟨hl, _⟩ := hlive hk
      have e1 := hD.fl
      exact nodup_getD hD.nd (by rw [e1]; exact hl) (by rw [e1]; exact hfl) e
    · rintro e w2 ⟨rfl, hk⟩
      exact ⟨by rw [ho], hj.keep hk fun h => h, hk.mono fun _ _ h => h.elim⟩
  · rintro e w' ⟨rfl, h2, h3, _⟩
    go_wp2_with (first | (at_builtin; refine wl_append rfl _ _ _ _ rfl _ _ rfl rfl ?_) | (at_make; refine wl_make rfl _ _ _ rfl _ _ rfl rfl ?_) | (at_mapUpdate; refine wl_mapUpdate rfl _ _ _ _ rfl _ _ _ rfl rfl rfl ?_) | (at_lookup; refine wl_lookup rfl _ _ _ _ rfl _ _ rfl rfl ?_) | (at_delete; refine wl_delete rfl _ _ _ _ rfl _ _ rfl rfl ?_) | (with_reducible refine wl_len rfl _ _ rfl _ rfl ?_) | (with_reducible refine wl_range rfl _ _ rfl _ rfl ?_) | (with_reducible refine wl_next rfl _ rfl _ rfl ?_) | (with_reducible refine wl_copy rfl _ _ _ _ rfl _ _ rfl rfl ?_) | (with_reducible refine wl_max rfl _ _ _ _ rfl _ _ rfl rfl ?_) | (with_reducible refine wl_min rfl _ _ _ _ rfl _ _ rfl rfl ?_))
    go_end0
    have e1 : done m 3 s [] 0 [] = Dk.settle m (fun i => match m.wait[i]? with | some o => o.kind == 1 && o.file == f | none => false) := by
      simp only [done, hf, Option.getD_some]
      rfl
    rw [e1]
    refine ⟨rfl, h2.mono fun k hk ha => ?_, ?_⟩
    · rcases ha with ha | ha
      · exact .inl ha
      · exact .inr ⟨by omega, hk⟩
    · refine (hkW.mono fun _ _ h => h.elim).trans h3 fun k hk hs => ?_
      rcases hs with hs | hs
      · exact hs
      · omega

set_option maxRecDepth 100000 in
set_option maxHeartbeats 400000 in
theorem syncnames_any {A : Nat → Prop} {d : Nat} {m : M} (w : World) (h : DR A w d m) (hA : ∀ k, A k → k < w.heap.size) (hfit : FitW m) (hcut : m.cut ≤ 9223372036854775807) :
    Calls Try.prog 16 #[.pointer (some ⟨d, 0, none⟩)] w fun e w' => e = .returned (.int .i64 ((call m 6 [] [] 0 []).2 : Nat)) ∧ DR (Plus A w w') w' d (call m 6 [] [] 0 []).1 ∧ Keep A w w' := by
  go_enter Try.func16, Try.ntmps16
  go_wp2_with (first | (at_builtin; refine wl_append rfl _ _ _ _ rfl _ _ rfl rfl ?_) | (at_make; refine wl_make rfl _ _ _ rfl _ _ rfl rfl ?_) | (at_mapUpdate; refine wl_mapUpdate rfl _ _ _ _ rfl _ _ _ rfl rfl rfl ?_) | (at_lookup; refine wl_lookup rfl _ _ _ _ rfl _ _ rfl rfl ?_) | (at_delete; refine wl_delete rfl _ _ _ _ rfl _ _ rfl rfl ?_) | (with_reducible refine wl_len rfl _ _ rfl _ rfl ?_) | (with_reducible refine wl_range rfl _ _ rfl _ rfl ?_) | (with_reducible refine wl_next rfl _ rfl _ rfl ?_) | (with_reducible refine wl_copy rfl _ _ _ _ rfl _ _ rfl rfl ?_) | (with_reducible refine wl_max rfl _ _ _ _ rfl _ _ rfl rfl ?_) | (with_reducible refine wl_min rfl _ _ _ _ rfl _ _ rfl rfl ?_))
  generalize hW : w.alloc (Obj.cells #[Value.pointer (some { block := d, off := 0 })] 23) = W
  have hWs : W.heap.size = w.heap.size + 1 := by subst hW; simp
  have hkW : Keep No w W := by subst hW; exact (Keep.refl _ _).alloc _
  have hF : Blk W w.heap.size #[Value.pointer (some { block := d, off := 0 })] 23 := by subst hW; exact Blk.new _ _ _
  have hA' : ∀ k, A k → k < W.heap.size := fun k ha => by have := hA k ha; omega
  have h1 := h.keep hA hkW fun _ _ h => h
  refine (step_all (B := A) 6 [] [] 0 [] W h1 hA' (fun k ha => ha) hcut enters_syncnames1 (enters_syncnames2 _) ?_ ?_).mono ?_
  · intro _
    refine (syncnames1_any W).mono ?_
    rintro e w' ⟨rfl, rfl⟩
    exact ⟨rfl, Keep.refl _ _⟩
  · intro w1 _ h2 k2
    have n1 : ¬ A w.heap.size := fun ha => by have := hA _ ha; omega
    exact syncnames2_any w1 h2 (fun k ha => Nat.lt_of_lt_of_le (hA' k ha) k2.size) ⟨hfit.wl, hfit.sl, hfit.ul, hfit.wb⟩ ((hF.keep k2 n1).cell 0 |>.trans rfl)
  · rintro e w' ⟨rfl, h2, k2⟩
    go_wp2_with (first | (at_builtin; refine wl_append rfl _ _ _ _ rfl _ _ rfl rfl ?_) | (at_make; refine wl_make rfl _ _ _ rfl _ _ rfl rfl ?_) | (at_mapUpdate; refine wl_mapUpdate rfl _ _ _ _ rfl _ _ _ rfl rfl rfl ?_) | (at_lookup; refine wl_lookup rfl _ _ _ _ rfl _ _ rfl rfl ?_) | (at_delete; refine wl_delete rfl _ _ _ _ rfl _ _ rfl rfl ?_) | (with_reducible refine wl_len rfl _ _ rfl _ rfl ?_) | (with_reducible refine wl_range rfl _ _ rfl _ rfl ?_) | (with_reducible refine wl_next rfl _ rfl _ rfl ?_) | (with_reducible refine wl_copy rfl _ _ _ _ rfl _ _ rfl rfl ?_) | (with_reducible refine wl_max rfl _ _ _ _ rfl _ _ rfl rfl ?_) | (with_reducible refine wl_min rfl _ _ _ _ rfl _ _ rfl rfl ?_))
    go_ret
    refine ⟨rfl, h2.mono fun k hk ha => ?_, (hkW.mono fun _ _ h => h.elim).trans' k2⟩
    rcases ha with ha | ha
    · exact .inl ha
    · exact .inr ⟨by omega, hk⟩

set_option maxRecDepth 100000 in
set_option maxHeartbeats 400000 in
theorem sync_any {A : Nat → Prop} {d : Nat} {m : M} (s : List UInt8) (w : World) (h : DR A w d m) (hA : ∀ k, A k → k < w.heap.size) (hs : s.length ≤ maxLen) (hfit : FitW m) (hcut : m.cut ≤ 9223372036854775807) :
    Calls Try.prog 23 #[.pointer (some ⟨d, 0, none⟩), .string ⟨s.toArray⟩] w fun e w' => e = .returned (.int .i64 ((call m 3 s [] 0 []).2 : Nat)) ∧ DR (Plus A w w') w' d (call m 3 s [] 0 []).1 ∧ Keep A w w' := by
  go_enter Try.func23, Try.ntmps23
  go_wp2_with (first | (at_builtin; refine wl_append rfl _ _ _ _ rfl _ _ rfl rfl ?_) | (at_make; refine wl_make rfl _ _ _ rfl _ _ rfl rfl ?_) | (at_mapUpdate; refine wl_mapUpdate rfl _ _ _ _ rfl _ _ _ rfl rfl rfl ?_) | (at_lookup; refine wl_lookup rfl _ _ _ _ rfl _ _ rfl rfl ?_) | (at_delete; refine wl_delete rfl _ _ _ _ rfl _ _ rfl rfl ?_) | (with_reducible refine wl_len rfl _ _ rfl _ rfl ?_) | (with_reducible refine wl_range rfl _ _ rfl _ rfl ?_) | (with_reducible refine wl_next rfl _ rfl _ rfl ?_) | (with_reducible refine wl_copy rfl _ _ _ _ rfl _ _ rfl rfl ?_) | (with_reducible refine wl_max rfl _ _ _ _ rfl _ _ rfl rfl ?_) | (with_reducible refine wl_min rfl _ _ _ _ rfl _ _ rfl rfl ?_))
  generalize hW : (w.alloc (Obj.cells #[Value.pointer (some { block := d, off := 0 })] 23)).alloc (Obj.cells #[Value.string { data := s.toArray }] 9) = W
  have hWs : W.heap.size = w.heap.size + 2 := by subst hW; simp
  have hkW : Keep No w W := by subst hW; exact ((Keep.refl _ _).alloc _).alloc _
  have hF : Blk W w.heap.size #[Value.pointer (some { block := d, off := 0 })] 23 := by subst hW; exact (Blk.new _ _ _).alloc _
  have hV : Blk W (w.heap.size + 1) #[Value.string { data := s.toArray }] 9 := by
    subst hW
    have := Blk.new (w.alloc (Obj.cells #[Value.pointer (some { block := d, off := 0 })] 23)) #[Value.string { data := s.toArray }] 9
    rw [World.size_alloc] at this
    exact this
  have hA' : ∀ k, A k → k < W.heap.size := fun k ha => by have := hA k ha; omega
  have h1 := h.keep hA hkW fun _ _ h => h
  refine (step_all (B := A) 3 s [] 0 [] W h1 hA' (fun k ha => ha) hcut (enters_sync1 _ _) (enters_sync2 _ _) ?_ ?_).mono ?_
  · intro _
    obtain ⟨fb, nb, sb, wv, rows, h0⟩ := h1
    have hb := h0.blk.cell 1
    simp only [List.getElem?_toArray, List.getElem?_cons_succ, List.getElem?_cons_zero] at hb
    refine (sync1_any s W hs h0.nm hb ((hF.cell 0).trans rfl) ((hV.cell 0).trans rfl)).mono ?_
    rintro e w' ⟨rfl, rfl⟩
    exact ⟨rfl, Keep.refl _ _⟩
  · intro w1 ho h2 k2
    have n1 : ¬ A w.heap.size := fun ha => by have := hA _ ha; omega
    have n2 : ¬ A (w.heap.size + 1) := fun ha => by have := hA _ ha; omega
    obtain ⟨f, hf⟩ : ∃ f, find m.L s = some f := by
      cases hf : find m.L s with
      | none => simp [own, hf] at ho
      | some f => exact ⟨f, rfl⟩
    exact sync2_any s w1 h2 (fun k ha => Nat.lt_of_lt_of_le (hA' k ha) k2.size) ⟨hfit.wl, hfit.sl, hfit.ul, hfit.wb⟩ hs hf ((hF.keep k2 n1).cell 0 |>.trans rfl) ((hV.keep k2 n2).cell 0 |>.trans rfl)
  · rintro e w' ⟨rfl, h2, k2⟩
    go_wp2_with (first | (at_builtin; refine wl_append rfl _ _ _ _ rfl _ _ rfl rfl ?_) | (at_make; refine wl_make rfl _ _ _ rfl _ _ rfl rfl ?_) | (at_mapUpdate; refine wl_mapUpdate rfl _ _ _ _ rfl _ _ _ rfl rfl rfl ?_) | (at_lookup; refine wl_lookup rfl _ _ _ _ rfl _ _ rfl rfl ?_) | (at_delete; refine wl_delete rfl _ _ _ _ rfl _ _ rfl rfl ?_) | (with_reducible refine wl_len rfl _ _ rfl _ rfl ?_) | (with_reducible refine wl_range rfl _ _ rfl _ rfl ?_) | (with_reducible refine wl_next rfl _ rfl _ rfl ?_) | (with_reducible refine wl_copy rfl _ _ _ _ rfl _ _ rfl rfl ?_) | (with_reducible refine wl_max rfl _ _ _ _ rfl _ _ rfl rfl ?_) | (with_reducible refine wl_min rfl _ _ _ _ rfl _ _ rfl rfl ?_))
    go_ret
    refine ⟨rfl, h2.mono fun k hk ha => ?_, (hkW.mono fun _ _ h => h.elim).trans' k2⟩
    rcases ha with ha | ha
    · exact .inl ha
    · exact .inr ⟨by omega, hk⟩
end Go.Proofs.Ytkmoomgmmhmaeaa
namespace Go.Proofs.Ytkmoomgmmhmaeaa
open Go.RowKit Go.Dm Go.Dm.Dk Go.Maps

set_option maxRecDepth 100000 in
set_option maxHeartbeats 1000000 in
theorem mapsclone_any {b : Nat} {L : List (Lit × Value)} (w : World) (h : MapL Try.prog 9 w b L) :
    Calls Try.prog 47 #[.map (some b)] w fun e w' => e = .returned (.map (some w.heap.size)) ∧ MapL Try.prog 9 w' w.heap.size L ∧ Keep No w w' ∧ w'.heap.size = w.heap.size + 1 := by
  obtain ⟨hap, es0, hperm, es, clock, hb, F, hs, hD⟩ := h
  have hq := fun w => run_eql_map_nil_sl (P := Try.prog) w 59 _ _ (some b) Try.underlying59
  go_enter Try.func47, Try.ntmps47
  go_wp2
  rw [run_callFunc_extern Try.func75 (by kernel_rfl) (by kernel_rfl) (by kernel_rfl) (e := Extern.MapsClone.clone) (by kernel_rfl), run_maps_clone_sl w 59 hb]
  simp only [Result.andThen]
  rw [Oper.upon_value]
  go_wp2
  rw [run_typeAssert_map_sl _ 59 _ _ _ _ Try.underlying59]
  simp only [Result.andThen]
  rw [Oper.upon_value]
  go_wp2
  go_ret
  exact ⟨rfl, ⟨hap, es0, hperm, es, clock, (MapKept.heap_alloc w _).1, F, hs, hD⟩, (Keep.refl _ _).alloc _, by simp⟩
end Go.Proofs.Ytkmoomgmmhmaeaa
namespace Go.Proofs.Ytkmoomgmmhmaeaa
open Go.RowKit Go.Dm Go.Dm.Dk Go.Maps

/-- a slice of bools -/
def Bls (A : Nat → Prop) (w : World) (v : Value) (l : List Bool) : Prop := Sl A w 1 v l.length (l.map Value.bool)

theorem enters_crash1 (a b c : Value) : Enters 46 #[a, b, c] := fun w => by kernel_rfl

set_option maxRecDepth 100000 in
set_option maxHeartbeats 1000000 in
theorem crash1_any {B : Nat → Prop} {y z k : Nat} {v : Value} (keep : List Bool) (p0 p1 p2 p3 : Value) (w : World) (hy : Blk w y #[.int .i64 ((k : Int) - 1)] 3) (hz : Blk w z #[v] 41) (hv : Bls B w v keep) (hBy : ∀ j, B j → j ≠ y) (hk : k ≤ 1099511627776) :
    Calls Try.prog 46 #[.agg #[p0, p1, p2, p3], .pointer (some ⟨y, 0, none⟩), .pointer (some ⟨z, 0, none⟩)] w fun e w' => e = .returned (.bool (keep.getD k false)) ∧ Blk w' y #[.int .i64 (k : Int)] 3 ∧ Keep (fun j => j = y) w w' := by
  obtain ⟨a, cap, rfl, _, _⟩ := hv.shape
  have hyz : y ≠ z := by
    rintro rfl
    have e := (show w.heap[y]? = _ from hy).symm.trans hz
    cases e
  have hyl := hy.lt
  have hzl := hz.lt
  have q0 : w.cell? ⟨y, 0, none⟩ = some (.int .i64 ((k : Int) - 1)) := hy.cell 0
  have q1 : w.frozen? ⟨y, 0, none⟩ = false := hy.frozen 0
  have q2 : w.cell? ⟨z, 0, none⟩ = some (.slice a keep.length cap) := hz.cell 0
  have hx : (k : Int) - 1 + 1 = k := by omega
  have HY := Lib.hid hy
  clear hy hz
  rcases Nat.lt_or_ge k keep.length with hlt | hge
  · obtain ⟨g, off, cap', e1, hg, hgl, _, _, hc⟩ := hv.at (by omega)
    cases e1
    have c0 := hc k (.bool (keep.getD k false)) (by simp [List.getD, hlt])
    have hgy : g ≠ y := hBy g hg
    clear hc
    generalize keep.getD k false = r at *
    go_enter Try.func46, Try.ntmps46
    go_wp2_with (first | (at_builtin; refine wl_append rfl _ _ _ _ rfl _ _ rfl rfl ?_) | (at_make; refine wl_make rfl _ _ _ rfl _ _ rfl rfl ?_) | (at_mapUpdate; refine wl_mapUpdate rfl _ _ _ _ rfl _ _ _ rfl rfl rfl ?_) | (at_lookup; refine wl_lookup rfl _ _ _ _ rfl _ _ rfl rfl ?_) | (at_delete; refine wl_delete rfl _ _ _ _ rfl _ _ rfl rfl ?_) | (with_reducible refine wl_len rfl _ _ rfl _ rfl ?_) | (with_reducible refine wl_range rfl _ _ rfl _ rfl ?_) | (with_reducible refine wl_next rfl _ rfl _ rfl ?_) | (with_reducible refine wl_copy rfl _ _ _ _ rfl _ _ rfl rfl ?_) | (with_reducible refine wl_max rfl _ _ _ _ rfl _ _ rfl rfl ?_) | (with_reducible refine wl_min rfl _ _ _ _ rfl _ _ rfl rfl ?_))
    go_ret
    have h2 := HY.out.set (i := 0) (.int .i64 (k : Int))
    exact ⟨rfl, h2.alloc _, ((Keep.refl (fun j => j = y) w).setCell (p := ⟨y, 0, none⟩) (fun _ => rfl) _).alloc _⟩
  · have e2 : keep.getD k false = false := by simp [List.getD, hge]
    rw [e2]
    go_enter Try.func46, Try.ntmps46
    go_wp2_with (first | (at_builtin; refine wl_append rfl _ _ _ _ rfl _ _ rfl rfl ?_) | (at_make; refine wl_make rfl _ _ _ rfl _ _ rfl rfl ?_) | (at_mapUpdate; refine wl_mapUpdate rfl _ _ _ _ rfl _ _ _ rfl rfl rfl ?_) | (at_lookup; refine wl_lookup rfl _ _ _ _ rfl _ _ rfl rfl ?_) | (at_delete; refine wl_delete rfl _ _ _ _ rfl _ _ rfl rfl ?_) | (with_reducible refine wl_len rfl _ _ rfl _ rfl ?_) | (with_reducible refine wl_range rfl _ _ rfl _ rfl ?_) | (with_reducible refine wl_next rfl _ rfl _ rfl ?_) | (with_reducible refine wl_copy rfl _ _ _ _ rfl _ _ rfl rfl ?_) | (with_reducible refine wl_max rfl _ _ _ _ rfl _ _ rfl rfl ?_) | (with_reducible refine wl_min rfl _ _ _ _ rfl _ _ rfl rfl ?_))
    go_ret
    have h2 := HY.out.set (i := 0) (.int .i64 (k : Int))
    exact ⟨rfl, h2.alloc _, ((Keep.refl (fun j => j = y) w).setCell (p := ⟨y, 0, none⟩) (fun _ => rfl) _).alloc _⟩

/-- the names are another map -/
theorem DRep.named {A : Nat → Prop} {w : World} {d nb' : Nat} {m : M} {fb : List Nat} {nb sb : Nat} {wv : Value} {rows : List (List Value)} {L' : Names} (h : DRep A w d m fb nb sb wv rows)
    (hm : MapL Try.prog 9 w nb' (NL fb L')) (ha : A nb') (hne : nb' ≠ sb) (hL : ∀ i, (∃ s, (s, i) ∈ L') → Live m i) : DRep A (w.setCell ⟨d, 1, none⟩ (.map (some nb'))) d { m with L := L' } fb nb' sb wv rows := by
  have hB : ∀ k, k ≠ d → (w.setCell ⟨d, 1, none⟩ (.map (some nb'))).heap[k]? = w.heap[k]? := fun k hk => Below.heap_setCell _ _ _ _ hk
  have hT : ∀ (k : Nat) (cs : Array Value) (t : TypeId) (fr : Nat × Nat), w.heap[k]? = some (Obj.cells cs t fr) → t ≠ 62 → (w.setCell ⟨d, 1, none⟩ (.map (some nb'))).heap[k]? = w.heap[k]? := by
    intro k cs t fr hk h1
    refine hB k ?_
    rintro rfl
    rw [show w.heap[k]? = _ from h.blk] at hk; cases hk; exact h1 rfl
  have hs : w.heap.size ≤ (w.setCell ⟨d, 1, none⟩ (.map (some nb'))).heap.size := by simp
  have hLive : ∀ i, Live { m with L := L' } i → Live m i := by
    rintro i (hi | hi | hi)
    · exact hL i hi
    · exact .inr (.inl hi)
    · exact .inr (.inr hi)
  refine { blk := h.blk.set _, nm := hm.same (hB _ (hm.ne_blk h.blk)), sm := h.sm.same (hB _ (h.sm.ne_blk h.blk)), ne := hne, row := ownsRow_same h.row fun g hg => hB g fun e => by subst e; exact own_ne h.row h.blk (by decide) hg.symm, rowA := h.rowA, rlen := h.rlen, pend := ?_, fl := h.fl, sl := h.sl, nd := h.nd, fbl := fun b hb => Nat.lt_of_lt_of_le (h.fbl b hb) hs, file := ?_, Ad := h.Ad, An := ha, As := h.As }
  · intro i o ho
    obtain ⟨cs, h1, h2⟩ := h.pend i o ho
    exact ⟨cs, h1, h2.same hs fun k _ ⟨cs, fr, t, hk, ht⟩ => hT k cs t fr hk (by rcases ht with rfl | rfl | rfl <;> decide)⟩
  · intro i hi
    obtain ⟨h1, h2, h3⟩ := h.file i (hLive i hi)
    obtain ⟨v1, v2, h4, _⟩ := id h3
    exact ⟨h1, h2, h3.same hs (hT _ _ _ _ h4 (by decide)) fun k _ _ ⟨cs, fr, hk⟩ => hT k cs _ fr hk (by decide)⟩

/-- files that are not alive may be anything -/
theorem DRep.files {A : Nat → Prop} {w : World} {d : Nat} {m : M} {fb : List Nat} {nb sb : Nat} {wv : Value} {rows : List (List Value)} (h : DRep A w d m fb nb sb wv rows) (is' : List (List UInt8)) (hl : is'.length = m.is.length)
    (e : ∀ i, Live m i → is'.getD i [] = m.is.getD i []) : DRep A w d { m with is := is' } fb nb sb wv rows := by
  refine { h with fl := h.fl.trans hl.symm, sl := h.sl.trans hl.symm, file := ?_ }
  intro i hi
  obtain ⟨h1, h2, h3⟩ := h.file i hi
  refine ⟨by show i < is'.length; rw [hl]; exact h1, h2, ?_⟩
  show FileAt A w (fb.getD i 0) (is'.getD i []) (m.sure.getD i [])
  rw [e i hi]; exact h3
end Go.Proofs.Ytkmoomgmmhmaeaa
