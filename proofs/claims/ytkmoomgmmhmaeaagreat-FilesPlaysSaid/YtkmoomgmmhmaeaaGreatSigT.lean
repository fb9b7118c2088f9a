/- The small functions of files: which names may be; a step, called. A region that draws its order, walked in orders that are given as a tree: where two operations that turn memory may both come next, both ways are shown. No condition. -/
import Derived.Test.YtkmoomgmmhmaeaaGreatLawAwake
import Derived.Test.YtkmoomgmmhmaeaaGreatRd
import Derived.Test.YtkmoomgmmhmaeaaGreatDiskR
import Derived.Lib.Strings
import Derived.Lib.Slices
import Derived.Lib.Walk
import Derived.Laws.Strings3
namespace Go.Proofs.YtkmoomgmmhmaeaaGreat
open Go.RowKit Go.Dm Go.Dm.Dk

set_option maxHeartbeats 1000000 in
theorem hasprefix1_any (s p : ByteArray) (w : World) : Calls Tryz.prog 61 #[.string s, .string p] w fun e w' => e = .returned (.bool (Lib.hasPrefix s.data.toList p.data.toList)) ∧ w = w' := by
  rw [← Lib.hasPrefix_of_take, ← Lib.size_eq, ← Lib.size_eq]
  go_enter Tryz.func61, Tryz.ntmps61
  go_wp2
  · rename_i h
    go_ret
    refine ⟨?_, rfl⟩
    show Ending.returned (Value.bool ((s.extract 0 p.size).toList == p.toList)) = _
    rw [Lib.extract_toList, Lib.toList_data]
    simp [h]
  · rename_i h
    go_ret
    refine ⟨?_, rfl⟩
    show Ending.returned (Value.bool false) = _
    simp [h]
set_option maxHeartbeats 1000000 in
theorem hasprefix_any (s p : ByteArray) (w : World) : Calls Tryz.prog 24 #[.string s, .string p] w fun e w' => e = .returned (.bool (Lib.hasPrefix s.data.toList p.data.toList)) ∧ w = w' := by
  go_enter Tryz.func24, Tryz.ntmps24
  go_wp2_with (first | (at_builtin; refine wl_append rfl _ _ _ _ rfl _ _ rfl rfl ?_) | (at_make; refine wl_make rfl _ _ _ rfl _ _ rfl rfl ?_) | (at_mapUpdate; refine wl_mapUpdate rfl _ _ _ _ rfl _ _ _ rfl rfl rfl ?_) | (at_lookup; refine wl_lookup rfl _ _ _ _ rfl _ _ rfl rfl ?_) | (at_delete; refine wl_delete rfl _ _ _ _ rfl _ _ rfl rfl ?_) | (with_reducible refine wl_len rfl _ _ rfl _ rfl ?_) | (with_reducible refine wl_range rfl _ _ rfl _ rfl ?_) | (with_reducible refine wl_next rfl _ rfl _ rfl ?_) | (with_reducible refine wl_copy rfl _ _ _ _ rfl _ _ rfl rfl ?_) | (with_reducible refine wl_max rfl _ _ _ _ rfl _ _ rfl rfl ?_) | (with_reducible refine wl_min rfl _ _ _ _ rfl _ _ rfl rfl ?_))
  refine (hasprefix1_any _ _ _).mono ?_
  rintro e w' ⟨rfl, rfl⟩
  go_wp2_with (first | (at_builtin; refine wl_append rfl _ _ _ _ rfl _ _ rfl rfl ?_) | (at_make; refine wl_make rfl _ _ _ rfl _ _ rfl rfl ?_) | (at_mapUpdate; refine wl_mapUpdate rfl _ _ _ _ rfl _ _ _ rfl rfl rfl ?_) | (at_lookup; refine wl_lookup rfl _ _ _ _ rfl _ _ rfl rfl ?_) | (at_delete; refine wl_delete rfl _ _ _ _ rfl _ _ rfl rfl ?_) | (with_reducible refine wl_len rfl _ _ rfl _ rfl ?_) | (with_reducible refine wl_range rfl _ _ rfl _ rfl ?_) | (with_reducible refine wl_next rfl _ rfl _ rfl ?_) | (with_reducible refine wl_copy rfl _ _ _ _ rfl _ _ rfl rfl ?_) | (with_reducible refine wl_max rfl _ _ _ _ rfl _ _ rfl rfl ?_) | (with_reducible refine wl_min rfl _ _ _ _ rfl _ _ rfl rfl ?_))
  go_ret
  exact ⟨rfl, rfl⟩
theorem draft_any (s : List UInt8) (w : World) : Calls Tryz.prog 24 #[.string ⟨s.toArray⟩, .string ⟨#[110, 101, 119, 46]⟩] w fun e w' => e = .returned (.bool (isDraft s)) ∧ w = w' := hasprefix_any _ _ _
set_option maxHeartbeats 1000000 in
theorem fmay_any (d : Nat) (s : List UInt8) (w : World) : Calls Tryz.prog 46 #[ptrTo d, .string ⟨s.toArray⟩] w fun e w' => e = .returned (.bool (mayF s)) ∧ w = w' := by
  unfold ptrTo mayF
  go_enter Tryz.func46, Tryz.ntmps46
  by_cases h : s = []
  · subst h
    go_wp2_with (first | (at_builtin; refine wl_append rfl _ _ _ _ rfl _ _ rfl rfl ?_) | (at_make; refine wl_make rfl _ _ _ rfl _ _ rfl rfl ?_) | (at_mapUpdate; refine wl_mapUpdate rfl _ _ _ _ rfl _ _ _ rfl rfl rfl ?_) | (at_lookup; refine wl_lookup rfl _ _ _ _ rfl _ _ rfl rfl ?_) | (at_delete; refine wl_delete rfl _ _ _ _ rfl _ _ rfl rfl ?_) | (with_reducible refine wl_len rfl _ _ rfl _ rfl ?_) | (with_reducible refine wl_range rfl _ _ rfl _ rfl ?_) | (with_reducible refine wl_next rfl _ rfl _ rfl ?_) | (with_reducible refine wl_copy rfl _ _ _ _ rfl _ _ rfl rfl ?_) | (with_reducible refine wl_max rfl _ _ _ _ rfl _ _ rfl rfl ?_) | (with_reducible refine wl_min rfl _ _ _ _ rfl _ _ rfl rfl ?_))
    go_ret
    exact ⟨rfl, rfl⟩
  · have h' : (s == []) = false := by simpa using h
    go_wp2_with (first | (at_builtin; refine wl_append rfl _ _ _ _ rfl _ _ rfl rfl ?_) | (at_make; refine wl_make rfl _ _ _ rfl _ _ rfl rfl ?_) | (at_mapUpdate; refine wl_mapUpdate rfl _ _ _ _ rfl _ _ _ rfl rfl rfl ?_) | (at_lookup; refine wl_lookup rfl _ _ _ _ rfl _ _ rfl rfl ?_) | (at_delete; refine wl_delete rfl _ _ _ _ rfl _ _ rfl rfl ?_) | (with_reducible refine wl_len rfl _ _ rfl _ rfl ?_) | (with_reducible refine wl_range rfl _ _ rfl _ rfl ?_) | (with_reducible refine wl_next rfl _ rfl _ rfl ?_) | (with_reducible refine wl_copy rfl _ _ _ _ rfl _ _ rfl rfl ?_) | (with_reducible refine wl_max rfl _ _ _ _ rfl _ _ rfl rfl ?_) | (with_reducible refine wl_min rfl _ _ _ _ rfl _ _ rfl rfl ?_))
    refine (draft_any _ _).mono ?_
    rintro e w' ⟨rfl, rfl⟩
    go_wp2_with (first | (at_builtin; refine wl_append rfl _ _ _ _ rfl _ _ rfl rfl ?_) | (at_make; refine wl_make rfl _ _ _ rfl _ _ rfl rfl ?_) | (at_mapUpdate; refine wl_mapUpdate rfl _ _ _ _ rfl _ _ _ rfl rfl rfl ?_) | (at_lookup; refine wl_lookup rfl _ _ _ _ rfl _ _ rfl rfl ?_) | (at_delete; refine wl_delete rfl _ _ _ _ rfl _ _ rfl rfl ?_) | (with_reducible refine wl_len rfl _ _ rfl _ rfl ?_) | (with_reducible refine wl_range rfl _ _ rfl _ rfl ?_) | (with_reducible refine wl_next rfl _ rfl _ rfl ?_) | (with_reducible refine wl_copy rfl _ _ _ _ rfl _ _ rfl rfl ?_) | (with_reducible refine wl_max rfl _ _ _ _ rfl _ _ rfl rfl ?_) | (with_reducible refine wl_min rfl _ _ _ _ rfl _ _ rfl rfl ?_))
    go_ret
    exact ⟨by simp [h], rfl⟩

/-- the value of a step; what it holds lies in F -/
def StepAt (F : Nat → Prop) (w : World) (d : Nat) (v : Value) (s : Cl) : Prop :=
  (∃ f x y t, s = ⟨5, t, [], 0, []⟩ ∧ (f = 48 ∨ f = 25) ∧ v = .func (.func f) #[] #[ptrTo x, ptrTo y] ∧ F x ∧ F y ∧ Blk w x #[ptrTo d] 24 ∧ Blk w y #[.string ⟨t.toArray⟩] 9) ∨
  (s = ⟨6, [], [], 0, []⟩ ∧ v = .func (.func 28) #[ptrTo d] #[]) ∨
  (∃ x y t, s = ⟨1, t, [], 0, []⟩ ∧ v = .func (.func 49) #[] #[ptrTo x, ptrTo y] ∧ F x ∧ F y ∧ Blk w x #[ptrTo d] 24 ∧ Blk w y #[.string ⟨t.toArray⟩] 9) ∨
  (∃ x y p q t b k vb, s = writeS t b k ∧ 64 * k < b.length ∧ b.length ≤ 1000000 ∧ v = .func (.func 50) #[] #[ptrTo x, ptrTo y, ptrTo p, ptrTo q] ∧ F x ∧ F y ∧ F p ∧ F q ∧ Blk w x #[ptrTo d] 24 ∧ Blk w y #[.string ⟨t.toArray⟩] 9 ∧
    Blk w p #[.int .i64 ((64 * k : Nat) : Int)] 3 ∧ Blk w q #[vb] 46 ∧ Bts F w vb b) ∨
  (∃ x y t, s = ⟨3, t, [], 0, []⟩ ∧ v = .func (.func 52) #[] #[ptrTo x, ptrTo y] ∧ F x ∧ F y ∧ Blk w x #[ptrTo d] 24 ∧ Blk w y #[.string ⟨t.toArray⟩] 9) ∨
  (∃ x y z t u, s = ⟨4, t, u, 0, []⟩ ∧ v = .func (.func 54) #[] #[ptrTo x, ptrTo y, ptrTo z] ∧ F x ∧ F y ∧ F z ∧ Blk w x #[ptrTo d] 24 ∧ Blk w y #[.string ⟨t.toArray⟩] 9 ∧ Blk w z #[.string ⟨u.toArray⟩] 9)
theorem StepAt.keep {F S : Nat → Prop} {w w' : World} {d : Nat} {v : Value} {s : Cl} (h : StepAt F w d v s) (hk : Keep S w w') (hF : ∀ k, F k → ¬ S k) : StepAt F w' d v s := by
  rcases h with ⟨f, x, y, t, e1, e2, e3, h1, h2, h3, h4⟩ | h | ⟨x, y, t, e1, e3, h1, h2, h3, h4⟩ | ⟨x, y, p, q, t, b, k, vb, e1, e2, e2', e3, h1, h2, h3, h4, h5, h6, h7, h8, h9⟩ | ⟨x, y, t, e1, e3, h1, h2, h3, h4⟩ | ⟨x, y, z, t, u, e1, e3, h1, h2, h3, h4, h5, h6⟩
  · exact .inl ⟨f, x, y, t, e1, e2, e3, h1, h2, h3.keep hk (hF _ h1), h4.keep hk (hF _ h2)⟩
  · exact .inr (.inl h)
  · exact .inr (.inr (.inl ⟨x, y, t, e1, e3, h1, h2, h3.keep hk (hF _ h1), h4.keep hk (hF _ h2)⟩))
  · exact .inr (.inr (.inr (.inl ⟨x, y, p, q, t, b, k, vb, e1, e2, e2', e3, h1, h2, h3, h4, h5.keep hk (hF _ h1), h6.keep hk (hF _ h2), h7.keep hk (hF _ h3), h8.keep hk (hF _ h4), Sl.keep h9 hk fun j _ hj => hF j hj⟩)))
  · exact .inr (.inr (.inr (.inr (.inl ⟨x, y, t, e1, e3, h1, h2, h3.keep hk (hF _ h1), h4.keep hk (hF _ h2)⟩))))
  · exact .inr (.inr (.inr (.inr (.inr ⟨x, y, z, t, u, e1, e3, h1, h2, h3, h4.keep hk (hF _ h1), h5.keep hk (hF _ h2), h6.keep hk (hF _ h3)⟩))))
/-- what a called step brings -/
def StepPost (P : Nat → Prop) (w : World) (d : Nat) (m : M) (s : Cl) (e : Ending) (w' : World) : Prop := e = .returned (.int .i64 ((s.on m).2 : Nat)) ∧ Own P w' d (s.on m).1 ∧ Keep P w w'
section
variable {P F : Nat → Prop} {w : World} {d n N : Nat} {m : M}
set_option maxRecDepth 100000 in
set_option maxHeartbeats 1000000 in
theorem s_remove {x y : Nat} (t : List UInt8) (h : Own P w d m) (hP : ∀ k, w.heap.size ≤ k → P k) (hm : Small m n N) (hn : n ≤ 100000) (hN : N ≤ 1000000) (ht : t.length ≤ 1000) (hx : Blk w x #[ptrTo d] 24) (hy : Blk w y #[.string ⟨t.toArray⟩] 9) :
    Calls Tryz.prog 48 #[ptrTo x, ptrTo y] w (StepPost P w d m ⟨5, t, [], 0, []⟩) := by
  have q0 : w.cell? ⟨x, 0, none⟩ = some (ptrTo d) := hx.cell 0
  have q1 : w.cell? ⟨y, 0, none⟩ = some (.string ⟨t.toArray⟩) := hy.cell 0
  unfold ptrTo at q0 ⊢
  clear hx hy
  go_enter Tryz.func48, Tryz.ntmps48
  go_wp2_with (first | (at_builtin; refine wl_append rfl _ _ _ _ rfl _ _ rfl rfl ?_) | (at_make; refine wl_make rfl _ _ _ rfl _ _ rfl rfl ?_) | (at_mapUpdate; refine wl_mapUpdate rfl _ _ _ _ rfl _ _ _ rfl rfl rfl ?_) | (at_lookup; refine wl_lookup rfl _ _ _ _ rfl _ _ rfl rfl ?_) | (at_delete; refine wl_delete rfl _ _ _ _ rfl _ _ rfl rfl ?_) | (with_reducible refine wl_len rfl _ _ rfl _ rfl ?_) | (with_reducible refine wl_range rfl _ _ rfl _ rfl ?_) | (with_reducible refine wl_next rfl _ rfl _ rfl ?_) | (with_reducible refine wl_copy rfl _ _ _ _ rfl _ _ rfl rfl ?_) | (with_reducible refine wl_max rfl _ _ _ _ rfl _ _ rfl rfl ?_) | (with_reducible refine wl_min rfl _ _ _ _ rfl _ _ rfl rfl ?_))
  refine (remove_own t h hP hm hn hN ht).mono ?_
  rintro e w' ⟨rfl, h2, hk⟩
  go_wp2_with (first | (at_builtin; refine wl_append rfl _ _ _ _ rfl _ _ rfl rfl ?_) | (at_make; refine wl_make rfl _ _ _ rfl _ _ rfl rfl ?_) | (at_mapUpdate; refine wl_mapUpdate rfl _ _ _ _ rfl _ _ _ rfl rfl rfl ?_) | (at_lookup; refine wl_lookup rfl _ _ _ _ rfl _ _ rfl rfl ?_) | (at_delete; refine wl_delete rfl _ _ _ _ rfl _ _ rfl rfl ?_) | (with_reducible refine wl_len rfl _ _ rfl _ rfl ?_) | (with_reducible refine wl_range rfl _ _ rfl _ rfl ?_) | (with_reducible refine wl_next rfl _ rfl _ rfl ?_) | (with_reducible refine wl_copy rfl _ _ _ _ rfl _ _ rfl rfl ?_) | (with_reducible refine wl_max rfl _ _ _ _ rfl _ _ rfl rfl ?_) | (with_reducible refine wl_min rfl _ _ _ _ rfl _ _ rfl rfl ?_))
  go_ret
  exact ⟨rfl, h2, hk⟩
set_option maxRecDepth 100000 in
set_option maxHeartbeats 1000000 in
theorem s_removet {x y : Nat} (t : List UInt8) (h : Own P w d m) (hP : ∀ k, w.heap.size ≤ k → P k) (hm : Small m n N) (hn : n ≤ 100000) (hN : N ≤ 1000000) (ht : t.length ≤ 1000) (hx : Blk w x #[ptrTo d] 24) (hy : Blk w y #[.string ⟨t.toArray⟩] 9) :
    Calls Tryz.prog 25 #[ptrTo x, ptrTo y] w (StepPost P w d m ⟨5, t, [], 0, []⟩) := by
  have q0 : w.cell? ⟨x, 0, none⟩ = some (ptrTo d) := hx.cell 0
  have q1 : w.cell? ⟨y, 0, none⟩ = some (.string ⟨t.toArray⟩) := hy.cell 0
  unfold ptrTo at q0 ⊢
  clear hx hy
  go_enter Tryz.func25, Tryz.ntmps25
  go_wp2_with (first | (at_builtin; refine wl_append rfl _ _ _ _ rfl _ _ rfl rfl ?_) | (at_make; refine wl_make rfl _ _ _ rfl _ _ rfl rfl ?_) | (at_mapUpdate; refine wl_mapUpdate rfl _ _ _ _ rfl _ _ _ rfl rfl rfl ?_) | (at_lookup; refine wl_lookup rfl _ _ _ _ rfl _ _ rfl rfl ?_) | (at_delete; refine wl_delete rfl _ _ _ _ rfl _ _ rfl rfl ?_) | (with_reducible refine wl_len rfl _ _ rfl _ rfl ?_) | (with_reducible refine wl_range rfl _ _ rfl _ rfl ?_) | (with_reducible refine wl_next rfl _ rfl _ rfl ?_) | (with_reducible refine wl_copy rfl _ _ _ _ rfl _ _ rfl rfl ?_) | (with_reducible refine wl_max rfl _ _ _ _ rfl _ _ rfl rfl ?_) | (with_reducible refine wl_min rfl _ _ _ _ rfl _ _ rfl rfl ?_))
  refine (remove_own t h hP hm hn hN ht).mono ?_
  rintro e w' ⟨rfl, h2, hk⟩
  go_wp2_with (first | (at_builtin; refine wl_append rfl _ _ _ _ rfl _ _ rfl rfl ?_) | (at_make; refine wl_make rfl _ _ _ rfl _ _ rfl rfl ?_) | (at_mapUpdate; refine wl_mapUpdate rfl _ _ _ _ rfl _ _ _ rfl rfl rfl ?_) | (at_lookup; refine wl_lookup rfl _ _ _ _ rfl _ _ rfl rfl ?_) | (at_delete; refine wl_delete rfl _ _ _ _ rfl _ _ rfl rfl ?_) | (with_reducible refine wl_len rfl _ _ rfl _ rfl ?_) | (with_reducible refine wl_range rfl _ _ rfl _ rfl ?_) | (with_reducible refine wl_next rfl _ rfl _ rfl ?_) | (with_reducible refine wl_copy rfl _ _ _ _ rfl _ _ rfl rfl ?_) | (with_reducible refine wl_max rfl _ _ _ _ rfl _ _ rfl rfl ?_) | (with_reducible refine wl_min rfl _ _ _ _ rfl _ _ rfl rfl ?_))
  go_ret
  exact ⟨rfl, h2, hk⟩
set_option maxRecDepth 100000 in
set_option maxHeartbeats 1000000 in
theorem s_create {x y : Nat} (t : List UInt8) (h : Own P w d m) (hP : ∀ k, w.heap.size ≤ k → P k) (hm : Small m n N) (hn : n ≤ 100000) (hN : N ≤ 1000000) (ht : t.length ≤ 1000) (hx : Blk w x #[ptrTo d] 24) (hy : Blk w y #[.string ⟨t.toArray⟩] 9) :
    Calls Tryz.prog 49 #[ptrTo x, ptrTo y] w (StepPost P w d m ⟨1, t, [], 0, []⟩) := by
  have q0 : w.cell? ⟨x, 0, none⟩ = some (ptrTo d) := hx.cell 0
  have q1 : w.cell? ⟨y, 0, none⟩ = some (.string ⟨t.toArray⟩) := hy.cell 0
  unfold ptrTo at q0 ⊢
  clear hx hy
  go_enter Tryz.func49, Tryz.ntmps49
  go_wp2_with (first | (at_builtin; refine wl_append rfl _ _ _ _ rfl _ _ rfl rfl ?_) | (at_make; refine wl_make rfl _ _ _ rfl _ _ rfl rfl ?_) | (at_mapUpdate; refine wl_mapUpdate rfl _ _ _ _ rfl _ _ _ rfl rfl rfl ?_) | (at_lookup; refine wl_lookup rfl _ _ _ _ rfl _ _ rfl rfl ?_) | (at_delete; refine wl_delete rfl _ _ _ _ rfl _ _ rfl rfl ?_) | (with_reducible refine wl_len rfl _ _ rfl _ rfl ?_) | (with_reducible refine wl_range rfl _ _ rfl _ rfl ?_) | (with_reducible refine wl_next rfl _ rfl _ rfl ?_) | (with_reducible refine wl_copy rfl _ _ _ _ rfl _ _ rfl rfl ?_) | (with_reducible refine wl_max rfl _ _ _ _ rfl _ _ rfl rfl ?_) | (with_reducible refine wl_min rfl _ _ _ _ rfl _ _ rfl rfl ?_))
  refine (create_own t h hP hm hn hN ht).mono ?_
  rintro e w' ⟨rfl, h2, hk⟩
  go_wp2_with (first | (at_builtin; refine wl_append rfl _ _ _ _ rfl _ _ rfl rfl ?_) | (at_make; refine wl_make rfl _ _ _ rfl _ _ rfl rfl ?_) | (at_mapUpdate; refine wl_mapUpdate rfl _ _ _ _ rfl _ _ _ rfl rfl rfl ?_) | (at_lookup; refine wl_lookup rfl _ _ _ _ rfl _ _ rfl rfl ?_) | (at_delete; refine wl_delete rfl _ _ _ _ rfl _ _ rfl rfl ?_) | (with_reducible refine wl_len rfl _ _ rfl _ rfl ?_) | (with_reducible refine wl_range rfl _ _ rfl _ rfl ?_) | (with_reducible refine wl_next rfl _ rfl _ rfl ?_) | (with_reducible refine wl_copy rfl _ _ _ _ rfl _ _ rfl rfl ?_) | (with_reducible refine wl_max rfl _ _ _ _ rfl _ _ rfl rfl ?_) | (with_reducible refine wl_min rfl _ _ _ _ rfl _ _ rfl rfl ?_))
  go_ret
  exact ⟨rfl, h2, hk⟩
set_option maxRecDepth 100000 in
set_option maxHeartbeats 1000000 in
theorem s_sync {x y : Nat} (t : List UInt8) (h : Own P w d m) (hP : ∀ k, w.heap.size ≤ k → P k) (hm : Small m n N) (hn : n ≤ 100000) (hN : N ≤ 1000000) (ht : t.length ≤ 1000) (hx : Blk w x #[ptrTo d] 24) (hy : Blk w y #[.string ⟨t.toArray⟩] 9) :
    Calls Tryz.prog 52 #[ptrTo x, ptrTo y] w (StepPost P w d m ⟨3, t, [], 0, []⟩) := by
  have q0 : w.cell? ⟨x, 0, none⟩ = some (ptrTo d) := hx.cell 0
  have q1 : w.cell? ⟨y, 0, none⟩ = some (.string ⟨t.toArray⟩) := hy.cell 0
  unfold ptrTo at q0 ⊢
  clear hx hy
  go_enter Tryz.func52, Tryz.ntmps52
  go_wp2_with (first | (at_builtin; refine wl_append rfl _ _ _ _ rfl _ _ rfl rfl ?_) | (at_make; refine wl_make rfl _ _ _ rfl _ _ rfl rfl ?_) | (at_mapUpdate; refine wl_mapUpdate rfl _ _ _ _ rfl _ _ _ rfl rfl rfl ?_) | (at_lookup; refine wl_lookup rfl _ _ _ _ rfl _ _ rfl rfl ?_) | (at_delete; refine wl_delete rfl _ _ _ _ rfl _ _ rfl rfl ?_) | (with_reducible refine wl_len rfl _ _ rfl _ rfl ?_) | (with_reducible refine wl_range rfl _ _ rfl _ rfl ?_) | (with_reducible refine wl_next rfl _ rfl _ rfl ?_) | (with_reducible refine wl_copy rfl _ _ _ _ rfl _ _ rfl rfl ?_) | (with_reducible refine wl_max rfl _ _ _ _ rfl _ _ rfl rfl ?_) | (with_reducible refine wl_min rfl _ _ _ _ rfl _ _ rfl rfl ?_))
  refine (sync_own t h hP hm hn hN ht).mono ?_
  rintro e w' ⟨rfl, h2, hk⟩
  go_wp2_with (first | (at_builtin; refine wl_append rfl _ _ _ _ rfl _ _ rfl rfl ?_) | (at_make; refine wl_make rfl _ _ _ rfl _ _ rfl rfl ?_) | (at_mapUpdate; refine wl_mapUpdate rfl _ _ _ _ rfl _ _ _ rfl rfl rfl ?_) | (at_lookup; refine wl_lookup rfl _ _ _ _ rfl _ _ rfl rfl ?_) | (at_delete; refine wl_delete rfl _ _ _ _ rfl _ _ rfl rfl ?_) | (with_reducible refine wl_len rfl _ _ rfl _ rfl ?_) | (with_reducible refine wl_range rfl _ _ rfl _ rfl ?_) | (with_reducible refine wl_next rfl _ rfl _ rfl ?_) | (with_reducible refine wl_copy rfl _ _ _ _ rfl _ _ rfl rfl ?_) | (with_reducible refine wl_max rfl _ _ _ _ rfl _ _ rfl rfl ?_) | (with_reducible refine wl_min rfl _ _ _ _ rfl _ _ rfl rfl ?_))
  go_ret
  exact ⟨rfl, h2, hk⟩
set_option maxRecDepth 100000 in
set_option maxHeartbeats 1000000 in
theorem s_rename {x y z : Nat} (t u : List UInt8) (h : Own P w d m) (hP : ∀ k, w.heap.size ≤ k → P k) (hm : Small m n N) (hn : n ≤ 100000) (hN : N ≤ 1000000) (ht : t.length ≤ 1000) (hu : u.length ≤ 1000) (hx : Blk w x #[ptrTo d] 24) (hy : Blk w y #[.string ⟨t.toArray⟩] 9) (hz : Blk w z #[.string ⟨u.toArray⟩] 9) :
    Calls Tryz.prog 54 #[ptrTo x, ptrTo y, ptrTo z] w (StepPost P w d m ⟨4, t, u, 0, []⟩) := by
  have q0 : w.cell? ⟨x, 0, none⟩ = some (ptrTo d) := hx.cell 0
  have q1 : w.cell? ⟨y, 0, none⟩ = some (.string ⟨t.toArray⟩) := hy.cell 0
  have q2 : w.cell? ⟨z, 0, none⟩ = some (.string ⟨u.toArray⟩) := hz.cell 0
  unfold ptrTo at q0 ⊢
  clear hx hy hz
  go_enter Tryz.func54, Tryz.ntmps54
  go_wp2_with (first | (at_builtin; refine wl_append rfl _ _ _ _ rfl _ _ rfl rfl ?_) | (at_make; refine wl_make rfl _ _ _ rfl _ _ rfl rfl ?_) | (at_mapUpdate; refine wl_mapUpdate rfl _ _ _ _ rfl _ _ _ rfl rfl rfl ?_) | (at_lookup; refine wl_lookup rfl _ _ _ _ rfl _ _ rfl rfl ?_) | (at_delete; refine wl_delete rfl _ _ _ _ rfl _ _ rfl rfl ?_) | (with_reducible refine wl_len rfl _ _ rfl _ rfl ?_) | (with_reducible refine wl_range rfl _ _ rfl _ rfl ?_) | (with_reducible refine wl_next rfl _ rfl _ rfl ?_) | (with_reducible refine wl_copy rfl _ _ _ _ rfl _ _ rfl rfl ?_) | (with_reducible refine wl_max rfl _ _ _ _ rfl _ _ rfl rfl ?_) | (with_reducible refine wl_min rfl _ _ _ _ rfl _ _ rfl rfl ?_))
  refine (rename_own t u h hP hm hn hN ht hu).mono ?_
  rintro e w' ⟨rfl, h2, hk⟩
  go_wp2_with (first | (at_builtin; refine wl_append rfl _ _ _ _ rfl _ _ rfl rfl ?_) | (at_make; refine wl_make rfl _ _ _ rfl _ _ rfl rfl ?_) | (at_mapUpdate; refine wl_mapUpdate rfl _ _ _ _ rfl _ _ _ rfl rfl rfl ?_) | (at_lookup; refine wl_lookup rfl _ _ _ _ rfl _ _ rfl rfl ?_) | (at_delete; refine wl_delete rfl _ _ _ _ rfl _ _ rfl rfl ?_) | (with_reducible refine wl_len rfl _ _ rfl _ rfl ?_) | (with_reducible refine wl_range rfl _ _ rfl _ rfl ?_) | (with_reducible refine wl_next rfl _ rfl _ rfl ?_) | (with_reducible refine wl_copy rfl _ _ _ _ rfl _ _ rfl rfl ?_) | (with_reducible refine wl_max rfl _ _ _ _ rfl _ _ rfl rfl ?_) | (with_reducible refine wl_min rfl _ _ _ _ rfl _ _ rfl rfl ?_))
  go_ret
  exact ⟨rfl, h2, hk⟩
set_option maxRecDepth 100000 in
set_option maxHeartbeats 1000000 in
theorem s_write {x y p q k : Nat} {vb : Value} (t b : List UInt8) (h : Own P w d m) (hP : ∀ k, w.heap.size ≤ k → P k) (hm : Small m n N) (hn : n ≤ 100000) (hN : N ≤ 1000000) (ht : t.length ≤ 1000) (hk : 64 * k < b.length) (hb : b.length ≤ 1000000) (hx : Blk w x #[ptrTo d] 24) (hy : Blk w y #[.string ⟨t.toArray⟩] 9) (hp : Blk w p #[.int .i64 ((64 * k : Nat) : Int)] 3) (hq : Blk w q #[vb] 46) (hvb : Bts F w vb b) (hF : ∀ k, F k → ¬ P k) :
    Calls Tryz.prog 50 #[ptrTo x, ptrTo y, ptrTo p, ptrTo q] w (StepPost P w d m (writeS t b k)) := by
  obtain ⟨ab, cb, rfl, _, _⟩ := hvb.shape
  have q0 : w.cell? ⟨x, 0, none⟩ = some (ptrTo d) := hx.cell 0
  have q1 : w.cell? ⟨y, 0, none⟩ = some (.string ⟨t.toArray⟩) := hy.cell 0
  have q2 : w.cell? ⟨p, 0, none⟩ = some (.int .i64 ((64 * k : Nat) : Int)) := hp.cell 0
  have q3 : w.cell? ⟨q, 0, none⟩ = some (.slice ab b.length cb) := hq.cell 0
  unfold ptrTo at q0 ⊢
  generalize hat : 64 * k = at_ at *
  have hmin : min (at_ + 64) b.length ≤ b.length := Nat.min_le_right _ _
  obtain ⟨a', cap', hrun, hsub⟩ := Bts.sub (P := Tryz.prog) (lo := at_) (hi := min (at_ + 64) b.length) 46 Tryz.underlying46 (fun W => by kernel_rfl) hvb (by omega) hmin
  have ebody : (b.drop at_).take (min (at_ + 64) b.length - at_) = (b.drop at_).take 64 := by
    rcases Nat.le_total (at_ + 64) b.length with h1 | h1
    · rw [Nat.min_eq_left h1, Nat.add_sub_cancel_left]
    · rw [Nat.min_eq_right h1, List.take_of_length_le (by rw [List.length_drop]; omega), List.take_of_length_le (by rw [List.length_drop]; omega)]
  rw [ebody] at hsub
  have hwr : writeS t b k = ⟨2, t, [], at_, (b.drop at_).take 64⟩ := by unfold writeS; rw [hat]
  rw [hwr]
  have hbl : ((b.drop at_).take 64).length ≤ 64 := by rw [List.length_take]; omega
  have hwrap : IntKind.i64.wrap ((at_ : Int) + 64) = (at_ : Int) + 64 := IntWalk.i64_in _ (by omega)
  have hsubd : Bts F w.drew _ _ := Sl.keep hsub (Keep.refl No w).drew fun _ _ _ h => h
  have hFA : ∀ k, F k → ¬ (P k ∧ k < w.heap.size) := fun k hf hp => hF k hf hp.1
  clear hx hy hp hq hwr ebody
  go_enter Tryz.func50, Tryz.ntmps50
  go_wp2_with (first | (at_builtin; refine wl_append rfl _ _ _ _ rfl _ _ rfl rfl ?_) | (at_make; refine wl_make rfl _ _ _ rfl _ _ rfl rfl ?_) | (at_mapUpdate; refine wl_mapUpdate rfl _ _ _ _ rfl _ _ _ rfl rfl rfl ?_) | (at_lookup; refine wl_lookup rfl _ _ _ _ rfl _ _ rfl rfl ?_) | (at_delete; refine wl_delete rfl _ _ _ _ rfl _ _ rfl rfl ?_) | (with_reducible refine wl_len rfl _ _ rfl _ rfl ?_) | (with_reducible refine wl_range rfl _ _ rfl _ rfl ?_) | (with_reducible refine wl_next rfl _ rfl _ rfl ?_) | (with_reducible refine wl_copy rfl _ _ _ _ rfl _ _ rfl rfl ?_) | (with_reducible refine wl_max rfl _ _ _ _ rfl _ _ rfl rfl ?_) | (with_reducible refine wl_min rfl _ _ _ _ rfl _ _ rfl rfl ?_))
  refine wp_region_sig (fun w' => w'.cell? ⟨x, 0, none⟩ = some (.pointer (some ⟨d, 0, none⟩)) ∧ w'.cell? ⟨y, 0, none⟩ = some (.string ⟨t.toArray⟩) ∧ w'.cell? ⟨p, 0, none⟩ = some (.int .i64 (at_ : Int)) ∧ w'.cell? ⟨q, 0, none⟩ = some (.slice ab b.length cb)) (fun j => decide (j ≤ 10)) [(0, true), (1, true), (2, true), (3, true), (4, true), (5, true), (6, true), (7, true), (8, true), (9, true), (10, true), (11, false), (12, false)] (by kernel_rfl) (by kernel_rfl) (by intro c a d v w h; cases d <;> exact h) ⟨q0, q1, q2, q3⟩ ?_
  apply sig_still (o := ⟨some 5, _, _, _, _, _⟩) rfl rfl
  · intro w' hS
    obtain ⟨q1, q2, q3, q4⟩ := hS
    first | (go_simp; done) | (go_simp; rfl) | rfl
  go_frame
  apply sig_still (o := ⟨some 6, _, _, _, _, _⟩) rfl rfl
  · intro w' hS
    obtain ⟨q1, q2, q3, q4⟩ := hS
    first | (go_simp; done) | (go_simp; rfl) | rfl
  go_frame
  apply sig_still (o := ⟨some 7, _, _, _, _, _⟩) rfl rfl
  · intro w' hS
    obtain ⟨q1, q2, q3, q4⟩ := hS
    first | (go_simp; done) | (go_simp; rfl) | rfl
  go_frame
  apply sig_still (o := ⟨some 8, _, _, _, _, _⟩) rfl rfl
  · intro w' hS
    obtain ⟨q1, q2, q3, q4⟩ := hS
    first | (go_simp; done) | (go_simp; rfl) | rfl
  go_frame
  apply sig_still (o := ⟨some 9, _, _, _, _, _⟩) rfl rfl
  · intro w' hS
    obtain ⟨q1, q2, q3, q4⟩ := hS
    first | (go_simp; done) | (go_simp; rfl) | rfl
  go_frame
  apply sig_still (o := ⟨some 10, _, _, _, _, _⟩) rfl rfl
  · intro w' hS
    obtain ⟨q1, q2, q3, q4⟩ := hS
    first | (go_simp; done) | (go_simp; rfl) | rfl
  go_frame
  apply sig_still (o := ⟨some 11, _, _, _, _, _⟩) rfl rfl
  · intro w' hS
    obtain ⟨q1, q2, q3, q4⟩ := hS
    first | (go_simp; done) | (go_simp; rfl) | rfl
  go_frame
  apply sig_still (o := ⟨some 12, _, _, _, _, _⟩) rfl rfl
  · intro w' hS
    obtain ⟨q1, q2, q3, q4⟩ := hS
    first | (go_simp; done) | (go_simp; rfl) | rfl
  go_frame
  apply sig_still (o := ⟨some 13, _, _, _, _, _⟩) rfl rfl
  · intro w' hS
    obtain ⟨q1, q2, q3, q4⟩ := hS
    first | (go_simp; done) | (go_simp; rfl) | rfl
  go_frame
  have hm2 : min ((at_ : Int) + 64) (b.length : Int) = ((min (at_ + 64) b.length : Nat) : Int) := by omega
  have hmn : ∀ W, (Builtin.min_ #[3, 3] 3 #[.int .i64 ((at_ : Int) + 64), .int .i64 (b.length : Int)]).run Tryz.prog W = .ok (.int .i64 ((min (at_ + 64) b.length : Nat) : Int)) W := fun W => by rw [run_min2, hm2]
  generalize min (at_ + 64) b.length = hi at *
  apply sig_still (o := ⟨some 14, _, _, _, _, _⟩) rfl rfl
  · intro w' hS
    obtain ⟨q1, q2, q3, q4⟩ := hS
    first | (go_simp; done) | (go_simp; rfl) | rfl
  go_frame
  apply sig_still (o := ⟨some 15, _, _, _, _, _⟩) rfl rfl
  · intro w' hS
    obtain ⟨q1, q2, q3, q4⟩ := hS
    first | (go_simp; done) | (go_simp; rfl) | rfl
  go_frame
  refine sig_eff (o := ⟨some 16, _, _, _, _, _⟩) rfl rfl (fun K hKe => ?_)
  go_wp2_with (first | (at_builtin; refine wl_append rfl _ _ _ _ rfl _ _ rfl rfl ?_) | (at_make; refine wl_make rfl _ _ _ rfl _ _ rfl rfl ?_) | (at_mapUpdate; refine wl_mapUpdate rfl _ _ _ _ rfl _ _ _ rfl rfl rfl ?_) | (at_lookup; refine wl_lookup rfl _ _ _ _ rfl _ _ rfl rfl ?_) | (at_delete; refine wl_delete rfl _ _ _ _ rfl _ _ rfl rfl ?_) | (with_reducible refine wl_len rfl _ _ rfl _ rfl ?_) | (with_reducible refine wl_range rfl _ _ rfl _ rfl ?_) | (with_reducible refine wl_next rfl _ rfl _ rfl ?_) | (with_reducible refine wl_copy rfl _ _ _ _ rfl _ _ rfl rfl ?_) | (with_reducible refine wl_max rfl _ _ _ _ rfl _ _ rfl rfl ?_) | (with_reducible refine wl_min rfl _ _ _ _ rfl _ _ rfl rfl ?_))
  refine (write_own (P := P) t ((b.drop at_).take 64) at_ (Own.keep h (Keep.refl No w).drew fun _ _ h => h) (fun k hk => hk) hP hm hn hN ht (by omega) hsubd hFA).mono ?_
  rintro e w' ⟨rfl, h2, hk⟩
  have hwk : w.drew.heap.size = w.heap.size := rfl
  go_wp2_with (first | (at_builtin; refine wl_append rfl _ _ _ _ rfl _ _ rfl rfl ?_) | (at_make; refine wl_make rfl _ _ _ rfl _ _ rfl rfl ?_) | (at_mapUpdate; refine wl_mapUpdate rfl _ _ _ _ rfl _ _ _ rfl rfl rfl ?_) | (at_lookup; refine wl_lookup rfl _ _ _ _ rfl _ _ rfl rfl ?_) | (at_delete; refine wl_delete rfl _ _ _ _ rfl _ _ rfl rfl ?_) | (with_reducible refine wl_len rfl _ _ rfl _ rfl ?_) | (with_reducible refine wl_range rfl _ _ rfl _ rfl ?_) | (with_reducible refine wl_next rfl _ rfl _ rfl ?_) | (with_reducible refine wl_copy rfl _ _ _ _ rfl _ _ rfl rfl ?_) | (with_reducible refine wl_max rfl _ _ _ _ rfl _ _ rfl rfl ?_) | (with_reducible refine wl_min rfl _ _ _ _ rfl _ _ rfl rfl ?_))
  refine ⟨fun h => by simp at h, ?_⟩
  refine sig_eff (o := ⟨some 4, _, _, _, _, _⟩) rfl rfl (fun K hKe => ?_)
  go_wp2_with (first | (at_builtin; refine wl_append rfl _ _ _ _ rfl _ _ rfl rfl ?_) | (at_make; refine wl_make rfl _ _ _ rfl _ _ rfl rfl ?_) | (at_mapUpdate; refine wl_mapUpdate rfl _ _ _ _ rfl _ _ _ rfl rfl rfl ?_) | (at_lookup; refine wl_lookup rfl _ _ _ _ rfl _ _ rfl rfl ?_) | (at_delete; refine wl_delete rfl _ _ _ _ rfl _ _ rfl rfl ?_) | (with_reducible refine wl_len rfl _ _ rfl _ rfl ?_) | (with_reducible refine wl_range rfl _ _ rfl _ rfl ?_) | (with_reducible refine wl_next rfl _ rfl _ rfl ?_) | (with_reducible refine wl_copy rfl _ _ _ _ rfl _ _ rfl rfl ?_) | (with_reducible refine wl_max rfl _ _ _ _ rfl _ _ rfl rfl ?_) | (with_reducible refine wl_min rfl _ _ _ _ rfl _ _ rfl rfl ?_))
  refine ⟨fun h => by simp at h, sig_nil ?_⟩
  go_wp2_with (first | (at_builtin; refine wl_append rfl _ _ _ _ rfl _ _ rfl rfl ?_) | (at_make; refine wl_make rfl _ _ _ rfl _ _ rfl rfl ?_) | (at_mapUpdate; refine wl_mapUpdate rfl _ _ _ _ rfl _ _ _ rfl rfl rfl ?_) | (at_lookup; refine wl_lookup rfl _ _ _ _ rfl _ _ rfl rfl ?_) | (at_delete; refine wl_delete rfl _ _ _ _ rfl _ _ rfl rfl ?_) | (with_reducible refine wl_len rfl _ _ rfl _ rfl ?_) | (with_reducible refine wl_range rfl _ _ rfl _ rfl ?_) | (with_reducible refine wl_next rfl _ rfl _ rfl ?_) | (with_reducible refine wl_copy rfl _ _ _ _ rfl _ _ rfl rfl ?_) | (with_reducible refine wl_max rfl _ _ _ _ rfl _ _ rfl rfl ?_) | (with_reducible refine wl_min rfl _ _ _ _ rfl _ _ rfl rfl ?_))
  go_ret
  exact ⟨rfl, h2, ⟨hk.os, hk.tape, hk.output, hk.size, fun j hj hp => hk.block j hj fun h => hp h.1⟩⟩
/-- a step's value, called -/
theorem step_run {v : Value} {s : Cl} (hS : StepAt F w d v s) (h : Own P w d m) (hP : ∀ k, w.heap.size ≤ k → P k) (hm : Small m n N) (hn : n ≤ 100000) (hN : N ≤ 1000000) (hF : ∀ k, F k → ¬ P k) (ha : s.a.length ≤ 1000) (hb : s.b.length ≤ 1000) :
    ∃ f c, (v = .func (.func f) #[] c ∨ v = .func (.func f) c #[]) ∧ Enters f c ∧ Calls Tryz.prog f c w (StepPost P w d m s) := by
  rcases hS with ⟨f, x, y, t, rfl, e2, e3, h1, h2, h3, h4⟩ | ⟨rfl, e3⟩ | ⟨x, y, t, rfl, e3, h1, h2, h3, h4⟩ | ⟨x, y, p, q, t, b, k, vb, rfl, e2, e2', e3, h1, h2, h3, h4, h5, h6, h7, h8, h9⟩ | ⟨x, y, t, rfl, e3, h1, h2, h3, h4⟩ | ⟨x, y, z, t, u, rfl, e3, h1, h2, h3, h4, h5, h6⟩
  · rcases e2 with rfl | rfl
    · exact ⟨_, _, .inl e3, fun w => by kernel_rfl, s_remove t h hP hm hn hN ha h3 h4⟩
    · exact ⟨_, _, .inl e3, fun w => by kernel_rfl, s_removet t h hP hm hn hN ha h3 h4⟩
  · refine ⟨_, _, .inr e3, fun w => by kernel_rfl, (syncnames_own h hP hm hn hN).mono ?_⟩
    rintro e w' ⟨rfl, h2, hk⟩
    exact ⟨rfl, h2, hk⟩
  · exact ⟨_, _, .inl e3, fun w => by kernel_rfl, s_create t h hP hm hn hN ha h3 h4⟩
  · exact ⟨_, _, .inl e3, fun w => by kernel_rfl, s_write t b h hP hm hn hN ha e2 e2' h5 h6 h7 h8 h9 hF⟩
  · exact ⟨_, _, .inl e3, fun w => by kernel_rfl, s_sync t h hP hm hn hN ha h3 h4⟩
  · exact ⟨_, _, .inl e3, fun w => by kernel_rfl, s_rename t u h hP hm hn hN ha hb h4 h5 h6⟩
end
def ClOk (s : Cl) : Prop := s.a.length ≤ 64 ∧ s.b.length ≤ 64 ∧ s.body.length ≤ 64
/-- a model behind steps stays small -/
theorem on_small {m : M} {n N : Nat} {s : Cl} (h : Small m n N) (hs : ClOk s) : Small (s.on m).1 (n + 1) (N + 64) := h.call _ _ _ _ _ hs.1 hs.2.1 hs.2.2
theorem runS_small {m : M} {n N : Nat} : ∀ (l : List Cl) {m : M} {n N : Nat}, Small m n N → (∀ s ∈ l, ClOk s) → Small (runS m l).1 (n + l.length) (N + 64 * l.length)
  | [], _, _, _, h, _ => h
  | s :: r, m, n, N, h, hl => by
    have h1 := on_small h (hl s (by simp))
    rw [runS_cons]
    split
    · exact (runS_small (m := m) (n := n) (N := N) r h1 fun s hs => hl s (by simp [hs])).mono (by simp only [List.length_cons]; omega) (by simp only [List.length_cons]; omega)
    · exact h1.mono (by simp only [List.length_cons]; omega) (by simp only [List.length_cons]; omega)

section
variable {P F : Nat → Prop} {w : World} {d n N : Nat} {m : M}
set_option maxRecDepth 100000 in
set_option maxHeartbeats 2000000 in
theorem all_any {va : Value} {vs : List Value} {l : List Cl} (hsl : Sl F w 1 va l.length vs) (hst : ∀ (i : Nat) (v : Value) (s : Cl), vs[i]? = some v → l[i]? = some s → StepAt F w d v s) (h : Own P w d m) (hP : ∀ k, w.heap.size ≤ k → P k) (hm : Small m n N)
    (hn : n + l.length ≤ 100000) (hN : N + 64 * l.length ≤ 1000000) (hF : ∀ k, F k → ¬ P k) (hl : ∀ s ∈ l, ClOk s) :
    Calls Tryz.prog 27 #[va] w fun e w' => e = .returned (.int .i64 ((runS m l).2 : Nat)) ∧ Own P w' d (runS m l).1 ∧ Keep P w w' := by
  obtain ⟨a, c, rfl, hlc, hcm⟩ := hsl.shape
  have hvl : vs.length = l.length := by have := hsl.1; omega
  go_enter Tryz.func27, Tryz.ntmps27
  go_wp2_with (first | (at_builtin; refine wl_append rfl _ _ _ _ rfl _ _ rfl rfl ?_) | (at_make; refine wl_make rfl _ _ _ rfl _ _ rfl rfl ?_) | (at_mapUpdate; refine wl_mapUpdate rfl _ _ _ _ rfl _ _ _ rfl rfl rfl ?_) | (at_lookup; refine wl_lookup rfl _ _ _ _ rfl _ _ rfl rfl ?_) | (at_delete; refine wl_delete rfl _ _ _ _ rfl _ _ rfl rfl ?_) | (with_reducible refine wl_len rfl _ _ rfl _ rfl ?_) | (with_reducible refine wl_range rfl _ _ rfl _ rfl ?_) | (with_reducible refine wl_next rfl _ rfl _ rfl ?_) | (with_reducible refine wl_copy rfl _ _ _ _ rfl _ _ rfl rfl ?_) | (with_reducible refine wl_max rfl _ _ _ _ rfl _ _ rfl rfl ?_) | (with_reducible refine wl_min rfl _ _ _ _ rfl _ _ rfl rfl ?_))
  go_loopw [8] (fun iv wr => ∃ (k : Nat) (mk : M), iv = .int .i64 k ∧ k ≤ l.length ∧ runS m l = runS mk (l.drop k) ∧ Small mk (n + k) (N + 64 * k) ∧ Own P wr d mk ∧ Keep P w wr) (fun iv _ => l.length - (intOf iv).toNat)
  case atStart => exact ⟨0, m, rfl, Nat.zero_le _, rfl, hm, h, Keep.refl _ _⟩
  case round =>
    clear h hm
    obtain ⟨k, mk, rfl, hk, he, hm, h, hK⟩ := hrel
    rcases Nat.lt_or_ge k l.length with hkl | hkl
    · obtain ⟨g, off, cap, e, hg, hgl, _, _, hcell⟩ := hsl.at (by omega)
      cases e
      have q := (hK.cell (p := ⟨g, off + k, none⟩) hgl (hF g hg)).trans (hcell k vs[k] (List.getElem?_eq_getElem (by omega)))
      have hs := (hst k _ _ (List.getElem?_eq_getElem (by omega)) (List.getElem?_eq_getElem hkl)).keep hK hF
      have hok := hl _ (List.getElem_mem hkl)
      obtain ⟨f, c', hv, hent, hcall⟩ := step_run hs h (fun j hj => hP j (Nat.le_trans hK.size hj)) hm (by omega) (by omega) hF (Nat.le_trans hok.1 (by omega)) (Nat.le_trans hok.2.1 (by omega))
      rw [List.drop_eq_getElem_cons hkl, runS_cons] at he
      have hsm := on_small hm hok
      generalize l[k] = s at *
      have HE := Lib.hid he
      have HC := Lib.hid hcall
      clear hcell hst hs he hcall
      unfold Enters at hent
      unfold StepPost at HC
      have hnl : l.length ≤ 100000 := by omega
      rcases hv with hv | hv
      all_goals
        rw [hv] at q
        go_wp2_with (first | (at_builtin; refine wl_append rfl _ _ _ _ rfl _ _ rfl rfl ?_) | (at_make; refine wl_make rfl _ _ _ rfl _ _ rfl rfl ?_) | (at_mapUpdate; refine wl_mapUpdate rfl _ _ _ _ rfl _ _ _ rfl rfl rfl ?_) | (at_lookup; refine wl_lookup rfl _ _ _ _ rfl _ _ rfl rfl ?_) | (at_delete; refine wl_delete rfl _ _ _ _ rfl _ _ rfl rfl ?_) | (with_reducible refine wl_len rfl _ _ rfl _ rfl ?_) | (with_reducible refine wl_range rfl _ _ rfl _ rfl ?_) | (with_reducible refine wl_next rfl _ rfl _ rfl ?_) | (with_reducible refine wl_copy rfl _ _ _ _ rfl _ _ rfl rfl ?_) | (with_reducible refine wl_max rfl _ _ _ _ rfl _ _ rfl rfl ?_) | (with_reducible refine wl_min rfl _ _ _ _ rfl _ _ rfl rfl ?_))
        refine HC.out.mono ?_
        rintro e w' ⟨rfl, h2, hk2⟩
        have hKn := hK.trans' hk2
        have he := HE.out
        clear h hm hK hk2 hcm HC HE
        by_cases h0 : (s.on mk).2 = 0
        · rw [if_pos h0] at he
          have HE := Lib.hid he
          clear he
          rw [h0]
          go_wp2_with (first | (at_builtin; refine wl_append rfl _ _ _ _ rfl _ _ rfl rfl ?_) | (at_make; refine wl_make rfl _ _ _ rfl _ _ rfl rfl ?_) | (at_mapUpdate; refine wl_mapUpdate rfl _ _ _ _ rfl _ _ _ rfl rfl rfl ?_) | (at_lookup; refine wl_lookup rfl _ _ _ _ rfl _ _ rfl rfl ?_) | (at_delete; refine wl_delete rfl _ _ _ _ rfl _ _ rfl rfl ?_) | (with_reducible refine wl_len rfl _ _ rfl _ rfl ?_) | (with_reducible refine wl_range rfl _ _ rfl _ rfl ?_) | (with_reducible refine wl_next rfl _ rfl _ rfl ?_) | (with_reducible refine wl_copy rfl _ _ _ _ rfl _ _ rfl rfl ?_) | (with_reducible refine wl_max rfl _ _ _ _ rfl _ _ rfl rfl ?_) | (with_reducible refine wl_min rfl _ _ _ _ rfl _ _ rfl rfl ?_))
          go_roundw
          case rel => exact ⟨k + 1, _, by go_num, hkl, HE.out, hsm.mono (by omega) (by omega), h2, hKn⟩
          case measure => simp [intOf]; omega
        · rw [if_neg h0] at he
          rw [← he] at h0 h2 ⊢
          have h0' : (((runS m l).2 : Nat) : Int) ≠ 0 := by omega
          clear he
          generalize hmr : runS m l = mr at *
          have HMR := Lib.hid hmr
          clear hmr
          have h0'' : ((mr.2 : Int) == 0) = false := by simpa using h0'
          go_wp2_with (first | (at_builtin; refine wl_append rfl _ _ _ _ rfl _ _ rfl rfl ?_) | (at_make; refine wl_make rfl _ _ _ rfl _ _ rfl rfl ?_) | (at_mapUpdate; refine wl_mapUpdate rfl _ _ _ _ rfl _ _ _ rfl rfl rfl ?_) | (at_lookup; refine wl_lookup rfl _ _ _ _ rfl _ _ rfl rfl ?_) | (at_delete; refine wl_delete rfl _ _ _ _ rfl _ _ rfl rfl ?_) | (with_reducible refine wl_len rfl _ _ rfl _ rfl ?_) | (with_reducible refine wl_range rfl _ _ rfl _ rfl ?_) | (with_reducible refine wl_next rfl _ rfl _ rfl ?_) | (with_reducible refine wl_copy rfl _ _ _ _ rfl _ _ rfl rfl ?_) | (with_reducible refine wl_max rfl _ _ _ _ rfl _ _ rfl rfl ?_) | (with_reducible refine wl_min rfl _ _ _ _ rfl _ _ rfl rfl ?_))
          go_ret
          rw [HMR.out]
          exact ⟨rfl, h2, hKn⟩
    · obtain rfl : k = l.length := Nat.le_antisymm hk hkl
      rw [List.drop_length] at he
      have HE := Lib.hid he
      have hKn := hK
      clear hK he
      go_wp2_with (first | (at_builtin; refine wl_append rfl _ _ _ _ rfl _ _ rfl rfl ?_) | (at_make; refine wl_make rfl _ _ _ rfl _ _ rfl rfl ?_) | (at_mapUpdate; refine wl_mapUpdate rfl _ _ _ _ rfl _ _ _ rfl rfl rfl ?_) | (at_lookup; refine wl_lookup rfl _ _ _ _ rfl _ _ rfl rfl ?_) | (at_delete; refine wl_delete rfl _ _ _ _ rfl _ _ rfl rfl ?_) | (with_reducible refine wl_len rfl _ _ rfl _ rfl ?_) | (with_reducible refine wl_range rfl _ _ rfl _ rfl ?_) | (with_reducible refine wl_next rfl _ rfl _ rfl ?_) | (with_reducible refine wl_copy rfl _ _ _ _ rfl _ _ rfl rfl ?_) | (with_reducible refine wl_max rfl _ _ _ _ rfl _ _ rfl rfl ?_) | (with_reducible refine wl_min rfl _ _ _ _ rfl _ _ rfl rfl ?_))
      go_ret
      rw [HE.out]
      exact ⟨rfl, h, hKn⟩
end
end Go.Proofs.YtkmoomgmmhmaeaaGreat
namespace Go.Dm
open Go

/-- st: it yields the same in every world of S; ef: the only one that may come; br: i or j may come -/
inductive Tr where
  | nil
  | st (i : Nat) (r : Tr)
  | ef (i : Nat) (r : Tr)
  | br (i j : Nat) (l r : Tr)
def Tr.len : Tr → Nat
  | .nil => 0 | .st _ r => r.len + 1 | .ef _ r => r.len + 1 | .br _ _ l _ => l.len + 1

section
variable {P : Program} {ops : Array Oper} {Q : Exit → Act → World → Prop} {md : Region.Mode} {S : World → Prop} {kb : Nat → Bool}

def treeB (md : Region.Mode) (ops : Array Oper) (kb : Nat → Bool) : Tr → Array Bool → Bool → Bool
  | .nil, listed, _ => (Region.ready md ops listed).isEmpty
  | .st i r, listed, s => s && (Region.ready md ops listed).contains i && freeK md ops kb listed i && treeB md ops kb r (listed.setIfInBounds i true) s
  | .ef i r, listed, s => (Region.ready md ops listed == [i]) && treeB md ops kb r (listed.setIfInBounds i true) (s && kb i)
  | .br i j l r, listed, s => (Region.ready md ops listed == [i, j]) && (l.len == r.len) && treeB md ops kb l (listed.setIfInBounds i true) (s && kb i) && treeB md ops kb r (listed.setIfInBounds j true) (s && kb j)

def wpTree (P : Program) (ops : Array Oper) (Q : Exit → Act → World → Prop) (S : World → Prop) (kb : Nat → Bool) : Tr → Act → World → Prop
  | .nil, a, w => Q .normal a w
  | .st i r, a, w => ∃ o v, ops[i]? = some o ∧ YieldsIf P ops S o v a ∧ wpTree P ops Q S kb r (a.put o.dst v) w
  | .ef i r, a, w => wpOp P ops Q i (fun a' w' => (kb i = true → S w') ∧ wpTree P ops Q S kb r a' w') a w
  | .br i j l r, a, w => wpOp P ops Q i (fun a' w' => (kb i = true → S w') ∧ wpTree P ops Q S kb l a' w') a w ∧ wpOp P ops Q j (fun a' w' => (kb j = true → S w') ∧ wpTree P ops Q S kb r a' w') a w

theorem wpTree_sound (hs : Region.noSelect ops = true) (hQ : ∀ c a d v w, Q (.panic c) (a.put d v) w → Q (.panic c) a w) :
    ∀ (l : Tr) (listed : Array Bool) (s : Bool) (a : Act) (w : World), treeB md ops kb l listed s = true → Closed md ops listed → (s = true → S w) → wpTree P ops Q S kb l a w → wpAnyK P md ops Q S kb l.len listed a w
  | .nil, listed, s, a, w, h, _, _, hq => by
    have : Region.ready md ops listed = [] := by simpa [treeB] using h
    exact ⟨this, hq⟩
  | .st i r, listed, s, a, w, h, hcl, hS, ⟨o, v, ho, hy, hq⟩ => by
    simp only [treeB, Bool.and_eq_true] at h
    obtain ⟨⟨⟨h1, h2⟩, h3⟩, h4⟩ := h
    exact wpAnyK_first ho (Region.noSelect_spec hs) (fun c a w => hQ c a _ _ w) r.len listed a w (freeK_spec ho h3) hcl (by simpa using h2) hy (hS h1)
      (wpTree_sound hs hQ r _ s _ w h4 (hcl.step (by simpa using h2)) hS hq)
  | .ef i r, listed, s, a, w, h, hcl, hS, hq => by
    simp only [treeB, Bool.and_eq_true, beq_iff_eq] at h
    refine ⟨fun h0 => (by rw [h.1] at h0; cases h0), fun j hj => ?_⟩
    rw [h.1] at hj
    obtain rfl : j = i := by simpa using hj
    exact wpOp_mono (fun a' w' h' => ⟨h'.1, wpTree_sound hs hQ r _ (s && kb j) a' w' h.2 (hcl.step (by rw [h.1]; simp)) (fun hsk => h'.1 (Bool.and_eq_true_iff.1 hsk).2) h'.2⟩) hq
  | .br i j l r, listed, s, a, w, h, hcl, hS, hq => by
    simp only [treeB, Bool.and_eq_true, beq_iff_eq] at h
    obtain ⟨⟨⟨h1, h2⟩, h3⟩, h4⟩ := h
    refine ⟨fun h0 => (by rw [h1] at h0; cases h0), fun k hk => ?_⟩
    have hk0 := hk
    rw [h1] at hk
    rcases (by simpa using hk : k = i ∨ k = j) with rfl | rfl
    · exact wpOp_mono (fun a' w' h' => ⟨h'.1, wpTree_sound hs hQ l _ (s && kb k) a' w' h3 (hcl.step hk0) (fun hsk => h'.1 (Bool.and_eq_true_iff.1 hsk).2) h'.2⟩) hq.1
    · show wpOp P ops Q k (fun a' w' => (kb k = true → S w') ∧ wpAnyK P md ops Q S kb l.len _ a' w') a w
      rw [h2]
      exact wpOp_mono (fun a' w' h' => ⟨h'.1, wpTree_sound hs hQ r _ (s && kb k) a' w' h4 (hcl.step hk0) (fun hsk => h'.1 (Bool.and_eq_true_iff.1 hsk).2) h'.2⟩) hq.2

theorem wp_region_tree {id : Nat} {a : Act} {w : World} (S : World → Prop) (kb : Nat → Bool) (l : Tr) {o : List Oper} (hm : P.follows .mixedOrders = true)
    (hB : (Region.noSelect o.toArray && treeB .any o.toArray kb l (Array.replicate o.toArray.size false) true && (l.len == o.toArray.size)) = true)
    (hQ : ∀ c a d v w, Q (.panic c) (a.put d v) w → Q (.panic c) a w) (hS : S w.drew)
    (h : wpTree P o.toArray Q S kb l a w.drew) : (Code.region id o.toArray true).wp P Q a w := by
  simp only [Bool.and_eq_true, beq_iff_eq] at hB
  refine wp_region_any hm (wpAny_of_K (S := S) (kb := kb) _ _ _ _ ?_)
  have h2 := wpTree_sound (md := .any) hB.1.1 hQ l _ true a _ hB.1.2 (fun k ok _ hl => by rw [Array.getD_eq_getD_getElem?, Array.getElem?_replicate] at hl; split at hl <;> cases hl) (fun _ => hS) h
  rw [hB.2] at h2
  exact h2

theorem tr_nil {a : Act} {w : World} (h : Q .normal a w) : wpTree P ops Q S kb .nil a w := h
theorem tr_still {i : Nat} {r : Tr} {a : Act} {w : World} {o : Oper} {v : Value} (ho : ops[i]? = some o) (hg : o.guard = none)
    (hy : ∀ w', S w' → (execOp a.eval o).run P w' = .ok (.value v) w') (h : wpTree P ops Q S kb r (a.put o.dst v) w) : wpTree P ops Q S kb (.st i r) a w :=
  ⟨o, v, ho, .inl ⟨by simp [Region.wanted, hg], hy⟩, h⟩
theorem tr_guard {i : Nat} {r : Tr} {a : Act} {w : World} {o : Oper} {v : Value} (ho : ops[i]? = some o) (hg : Region.wanted o (yielded ops a.tmps) = true)
    (hy : ∀ w', S w' → (execOp a.eval o).run P w' = .ok (.value v) w') (h : wpTree P ops Q S kb r (a.put o.dst v) w) : wpTree P ops Q S kb (.st i r) a w :=
  ⟨o, v, ho, .inl ⟨hg, hy⟩, h⟩
theorem tr_skip {i : Nat} {r : Tr} {a : Act} {w : World} {o : Oper} (ho : ops[i]? = some o) (hg : Region.wanted o (yielded ops a.tmps) = false)
    (h : wpTree P ops Q S kb r (a.put o.dst undef) w) : wpTree P ops Q S kb (.st i r) a w :=
  ⟨o, undef, ho, .inr ⟨hg, rfl⟩, h⟩
theorem wo_eff {i : Nat} {a : Act} {w : World} {o : Oper} {R : Act → World → Prop} (ho : ops[i]? = some o) (hg : o.guard = none)
    (h : ∀ K : Act → World → Prop, (∀ a' w', R a' w' → K a' w') → o.wp P a w K Q) : wpOp P ops Q i R a w := by
  unfold wpOp
  simp only [ho, Region.wanted, hg, if_true]
  exact .inl (h _ fun _ _ h => h)
theorem tr_eff {i : Nat} {r : Tr} {a : Act} {w : World} {o : Oper} (ho : ops[i]? = some o) (hg : o.guard = none)
    (h : ∀ K : Act → World → Prop, (∀ a' w', ((kb i = true → S w') ∧ wpTree P ops Q S kb r a' w') → K a' w') → o.wp P a w K Q) : wpTree P ops Q S kb (.ef i r) a w := wo_eff ho hg h
theorem tr_br {i j : Nat} {l r : Tr} {a : Act} {w : World} {o o' : Oper} (ho : ops[i]? = some o) (hg : o.guard = none) (ho' : ops[j]? = some o') (hg' : o'.guard = none)
    (h : ∀ K : Act → World → Prop, (∀ a' w', ((kb i = true → S w') ∧ wpTree P ops Q S kb l a' w') → K a' w') → o.wp P a w K Q)
    (h' : ∀ K : Act → World → Prop, (∀ a' w', ((kb j = true → S w') ∧ wpTree P ops Q S kb r a' w') → K a' w') → o'.wp P a w K Q) : wpTree P ops Q S kb (.br i j l r) a w := ⟨wo_eff ho hg h, wo_eff ho' hg' h'⟩
end
end Go.Dm
