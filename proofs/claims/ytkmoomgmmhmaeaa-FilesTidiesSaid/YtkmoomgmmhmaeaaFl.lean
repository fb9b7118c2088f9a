/- The small functions of files: which names may be; a step, called. Slices of flat elements: read at an index, pushed to, put one behind the other. No condition. -/
import Derived.Test.YtkmoomgmmhmaeaaFileM
import Derived.Test.YtkmoomgmmhmaeaaRd
import Derived.Test.YtkmoomgmmhmaeaaSig
import Derived.Lib.Strings
import Derived.Lib.Slices
import Derived.Lib.Walk
import Derived.Laws.Strings3
import Derived.Laws.Tables
import Derived.Laws.Rows
import Derived.Laws.ResultCell
namespace Go.Proofs.Ytkmoomgmmhmaeaa
open Go.RowKit Go.Dm Go.Dm.Dk

set_option maxHeartbeats 1000000 in
theorem hasprefix1_any (s p : ByteArray) (w : World) : Calls Try.prog 83 #[.string s, .string p] w fun e w' => e = .returned (.bool (Lib.hasPrefix s.data.toList p.data.toList)) ∧ w = w' := by
  rw [← Lib.hasPrefix_of_take, ← Lib.size_eq, ← Lib.size_eq]
  go_enter Try.func83, Try.ntmps83
  go_wp2
  · rename_i h
    go_ret
    refine ⟨?_, rfl⟩
    show Ending.returned (Value.bool ((s.extract 0 p.size).toList == p.toList)) = _
    rw [Lib.extract_toList, Lib.toList_data]
    simp [h]
  · rename_i h
    go_ret
    refine ⟨?_, rfl⟩
    show Ending.returned (Value.bool false) = _
    simp [h]
set_option maxHeartbeats 1000000 in
theorem hasprefix_any (s p : ByteArray) (w : World) : Calls Try.prog 73 #[.string s, .string p] w fun e w' => e = .returned (.bool (Lib.hasPrefix s.data.toList p.data.toList)) ∧ w = w' := by
  go_enter Try.func73, Try.ntmps73
  go_wp2_with (first | (at_builtin; refine wl_append rfl _ _ _ _ rfl _ _ rfl rfl ?_) | (at_make; refine wl_make rfl _ _ _ rfl _ _ rfl rfl ?_) | (at_mapUpdate; refine wl_mapUpdate rfl _ _ _ _ rfl _ _ _ rfl rfl rfl ?_) | (at_lookup; refine wl_lookup rfl _ _ _ _ rfl _ _ rfl rfl ?_) | (at_delete; refine wl_delete rfl _ _ _ _ rfl _ _ rfl rfl ?_) | (with_reducible refine wl_len rfl _ _ rfl _ rfl ?_) | (with_reducible refine wl_range rfl _ _ rfl _ rfl ?_) | (with_reducible refine wl_next rfl _ rfl _ rfl ?_) | (with_reducible refine wl_copy rfl _ _ _ _ rfl _ _ rfl rfl ?_) | (with_reducible refine wl_max rfl _ _ _ _ rfl _ _ rfl rfl ?_) | (with_reducible refine wl_min rfl _ _ _ _ rfl _ _ rfl rfl ?_))
  refine (hasprefix1_any _ _ _).mono ?_
  rintro e w' ⟨rfl, rfl⟩
  go_wp2_with (first | (at_builtin; refine wl_append rfl _ _ _ _ rfl _ _ rfl rfl ?_) | (at_make; refine wl_make rfl _ _ _ rfl _ _ rfl rfl ?_) | (at_mapUpdate; refine wl_mapUpdate rfl _ _ _ _ rfl _ _ _ rfl rfl rfl ?_) | (at_lookup; refine wl_lookup rfl _ _ _ _ rfl _ _ rfl rfl ?_) | (at_delete; refine wl_delete rfl _ _ _ _ rfl _ _ rfl rfl ?_) | (with_reducible refine wl_len rfl _ _ rfl _ rfl ?_) | (with_reducible refine wl_range rfl _ _ rfl _ rfl ?_) | (with_reducible refine wl_next rfl _ rfl _ rfl ?_) | (with_reducible refine wl_copy rfl _ _ _ _ rfl _ _ rfl rfl ?_) | (with_reducible refine wl_max rfl _ _ _ _ rfl _ _ rfl rfl ?_) | (with_reducible refine wl_min rfl _ _ _ _ rfl _ _ rfl rfl ?_))
  go_ret
  exact ⟨rfl, rfl⟩
theorem draft_any (s : List UInt8) (w : World) : Calls Try.prog 73 #[.string ⟨s.toArray⟩, .string ⟨#[110, 101, 119, 46]⟩] w fun e w' => e = .returned (.bool (isDraft s)) ∧ w = w' := hasprefix_any _ _ _
set_option maxHeartbeats 1000000 in
theorem fmay_any (d : Nat) (s : List UInt8) (w : World) : Calls Try.prog 66 #[ptrTo d, .string ⟨s.toArray⟩] w fun e w' => e = .returned (.bool (mayF s)) ∧ w = w' := by
  unfold ptrTo mayF
  go_enter Try.func66, Try.ntmps66
  by_cases h : s = []
  · subst h
    go_wp2_with (first | (at_builtin; refine wl_append rfl _ _ _ _ rfl _ _ rfl rfl ?_) | (at_make; refine wl_make rfl _ _ _ rfl _ _ rfl rfl ?_) | (at_mapUpdate; refine wl_mapUpdate rfl _ _ _ _ rfl _ _ _ rfl rfl rfl ?_) | (at_lookup; refine wl_lookup rfl _ _ _ _ rfl _ _ rfl rfl ?_) | (at_delete; refine wl_delete rfl _ _ _ _ rfl _ _ rfl rfl ?_) | (with_reducible refine wl_len rfl _ _ rfl _ rfl ?_) | (with_reducible refine wl_range rfl _ _ rfl _ rfl ?_) | (with_reducible refine wl_next rfl _ rfl _ rfl ?_) | (with_reducible refine wl_copy rfl _ _ _ _ rfl _ _ rfl rfl ?_) | (with_reducible refine wl_max rfl _ _ _ _ rfl _ _ rfl rfl ?_) | (with_reducible refine wl_min rfl _ _ _ _ rfl _ _ rfl rfl ?_))
    go_ret
    exact ⟨rfl, rfl⟩
  · have h' : (s == []) = false := by simpa using h
    go_wp2_with (first | (at_builtin; refine wl_append rfl _ _ _ _ rfl _ _ rfl rfl ?_) | (at_make; refine wl_make rfl _ _ _ rfl _ _ rfl rfl ?_) | (at_mapUpdate; refine wl_mapUpdate rfl _ _ _ _ rfl _ _ _ rfl rfl rfl ?_) | (at_lookup; refine wl_lookup rfl _ _ _ _ rfl _ _ rfl rfl ?_) | (at_delete; refine wl_delete rfl _ _ _ _ rfl _ _ rfl rfl ?_) | (with_reducible refine wl_len rfl _ _ rfl _ rfl ?_) | (with_reducible refine wl_range rfl _ _ rfl _ rfl ?_) | (with_reducible refine wl_next rfl _ rfl _ rfl ?_) | (with_reducible refine wl_copy rfl _ _ _ _ rfl _ _ rfl rfl ?_) | (with_reducible refine wl_max rfl _ _ _ _ rfl _ _ rfl rfl ?_) | (with_reducible refine wl_min rfl _ _ _ _ rfl _ _ rfl rfl ?_))
    refine (draft_any _ _).mono ?_
    rintro e w' ⟨rfl, rfl⟩
    go_wp2_with (first | (at_builtin; refine wl_append rfl _ _ _ _ rfl _ _ rfl rfl ?_) | (at_make; refine wl_make rfl _ _ _ rfl _ _ rfl rfl ?_) | (at_mapUpdate; refine wl_mapUpdate rfl _ _ _ _ rfl _ _ _ rfl rfl rfl ?_) | (at_lookup; refine wl_lookup rfl _ _ _ _ rfl _ _ rfl rfl ?_) | (at_delete; refine wl_delete rfl _ _ _ _ rfl _ _ rfl rfl ?_) | (with_reducible refine wl_len rfl _ _ rfl _ rfl ?_) | (with_reducible refine wl_range rfl _ _ rfl _ rfl ?_) | (with_reducible refine wl_next rfl _ rfl _ rfl ?_) | (with_reducible refine wl_copy rfl _ _ _ _ rfl _ _ rfl rfl ?_) | (with_reducible refine wl_max rfl _ _ _ _ rfl _ _ rfl rfl ?_) | (with_reducible refine wl_min rfl _ _ _ _ rfl _ _ rfl rfl ?_))
    go_ret
    exact ⟨by simp [h], rfl⟩

/-- the value of a step; what it holds lies in F -/
def StepAt (F : Nat → Prop) (w : World) (d : Nat) (v : Value) (s : Cl) : Prop :=
  (∃ f x y t, s = ⟨5, t, [], 0, []⟩ ∧ (f = 67 ∨ f = 74) ∧ v = .func (.func f) #[] #[ptrTo x, ptrTo y] ∧ F x ∧ F y ∧ Blk w x #[ptrTo d] 23 ∧ Blk w y #[.string ⟨t.toArray⟩] 9) ∨
  (s = ⟨6, [], [], 0, []⟩ ∧ v = .func (.func 16) #[ptrTo d] #[]) ∨
  (∃ x y t, s = ⟨1, t, [], 0, []⟩ ∧ v = .func (.func 68) #[] #[ptrTo x, ptrTo y] ∧ F x ∧ F y ∧ Blk w x #[ptrTo d] 23 ∧ Blk w y #[.string ⟨t.toArray⟩] 9) ∨
  (∃ x y p q t b k vb, s = writeS t b k ∧ 64 * k < b.length ∧ b.length ≤ 1000000 ∧ v = .func (.func 69) #[] #[ptrTo x, ptrTo y, ptrTo p, ptrTo q] ∧ F x ∧ F y ∧ F p ∧ F q ∧ Blk w x #[ptrTo d] 23 ∧ Blk w y #[.string ⟨t.toArray⟩] 9 ∧
    Blk w p #[.int .i64 ((64 * k : Nat) : Int)] 3 ∧ Blk w q #[vb] 29 ∧ Bts F w vb b) ∨
  (∃ x y t, s = ⟨3, t, [], 0, []⟩ ∧ v = .func (.func 70) #[] #[ptrTo x, ptrTo y] ∧ F x ∧ F y ∧ Blk w x #[ptrTo d] 23 ∧ Blk w y #[.string ⟨t.toArray⟩] 9) ∨
  (∃ x y z t u, s = ⟨4, t, u, 0, []⟩ ∧ v = .func (.func 71) #[] #[ptrTo x, ptrTo y, ptrTo z] ∧ F x ∧ F y ∧ F z ∧ Blk w x #[ptrTo d] 23 ∧ Blk w y #[.string ⟨t.toArray⟩] 9 ∧ Blk w z #[.string ⟨u.toArray⟩] 9)
theorem StepAt.keep {F S : Nat → Prop} {w w' : World} {d : Nat} {v : Value} {s : Cl} (h : StepAt F w d v s) (hk : Keep S w w') (hF : ∀ k, F k → ¬ S k) : StepAt F w' d v s := by
  rcases h with ⟨f, x, y, t, e1, e2, e3, h1, h2, h3, h4⟩ | h | ⟨x, y, t, e1, e3, h1, h2, h3, h4⟩ | ⟨x, y, p, q, t, b, k, vb, e1, e2, e2', e3, h1, h2, h3, h4, h5, h6, h7, h8, h9⟩ | ⟨x, y, t, e1, e3, h1, h2, h3, h4⟩ | ⟨x, y, z, t, u, e1, e3, h1, h2, h3, h4, h5, h6⟩
  · exact .inl ⟨f, x, y, t, e1, e2, e3, h1, h2, h3.keep hk (hF _ h1), h4.keep hk (hF _ h2)⟩
  · exact .inr (.inl h)
  · exact .inr (.inr (.inl ⟨x, y, t, e1, e3, h1, h2, h3.keep hk (hF _ h1), h4.keep hk (hF _ h2)⟩))
  · exact .inr (.inr (.inr (.inl ⟨x, y, p, q, t, b, k, vb, e1, e2, e2', e3, h1, h2, h3, h4, h5.keep hk (hF _ h1), h6.keep hk (hF _ h2), h7.keep hk (hF _ h3), h8.keep hk (hF _ h4), Sl.keep h9 hk fun j _ hj => hF j hj⟩)))
  · exact .inr (.inr (.inr (.inr (.inl ⟨x, y, t, e1, e3, h1, h2, h3.keep hk (hF _ h1), h4.keep hk (hF _ h2)⟩))))
  · exact .inr (.inr (.inr (.inr (.inr ⟨x, y, z, t, u, e1, e3, h1, h2, h3, h4.keep hk (hF _ h1), h5.keep hk (hF _ h2), h6.keep hk (hF _ h3)⟩))))
/-- what a called step brings -/
def StepPost (P : Nat → Prop) (w : World) (d : Nat) (m : M) (s : Cl) (e : Ending) (w' : World) : Prop := e = .returned (.int .i64 ((s.on m).2 : Nat)) ∧ Own P w' d (s.on m).1 ∧ Keep P w w'
section
variable {P F : Nat → Prop} {w : World} {d n N : Nat} {m : M}
set_option maxRecDepth 100000 in
set_option maxHeartbeats 1000000 in
theorem s_remove {x y : Nat} (t : List UInt8) (h : Own P w d m) (hP : ∀ k, w.heap.size ≤ k → P k) (hm : Small m n N) (hn : n ≤ 100000) (hN : N ≤ 1000000) (ht : t.length ≤ 1000) (hx : Blk w x #[ptrTo d] 23) (hy : Blk w y #[.string ⟨t.toArray⟩] 9) :
    Calls Try.prog 67 #[ptrTo x, ptrTo y] w (StepPost P w d m ⟨5, t, [], 0, []⟩) := by
  have q0 : w.cell? ⟨x, 0, none⟩ = some (ptrTo d) := hx.cell 0
  have q1 : w.cell? ⟨y, 0, none⟩ = some (.string ⟨t.toArray⟩) := hy.cell 0
  unfold ptrTo at q0 ⊢
  clear hx hy
  go_enter Try.func67, Try.ntmps67
  go_wp2_with (first | (at_builtin; refine wl_append rfl _ _ _ _ rfl _ _ rfl rfl ?_) | (at_make; refine wl_make rfl _ _ _ rfl _ _ rfl rfl ?_) | (at_mapUpdate; refine wl_mapUpdate rfl _ _ _ _ rfl _ _ _ rfl rfl rfl ?_) | (at_lookup; refine wl_lookup rfl _ _ _ _ rfl _ _ rfl rfl ?_) | (at_delete; refine wl_delete rfl _ _ _ _ rfl _ _ rfl rfl ?_) | (with_reducible refine wl_len rfl _ _ rfl _ rfl ?_) | (with_reducible refine wl_range rfl _ _ rfl _ rfl ?_) | (with_reducible refine wl_next rfl _ rfl _ rfl ?_) | (with_reducible refine wl_copy rfl _ _ _ _ rfl _ _ rfl rfl ?_) | (with_reducible refine wl_max rfl _ _ _ _ rfl _ _ rfl rfl ?_) | (with_reducible refine wl_min rfl _ _ _ _ rfl _ _ rfl rfl ?_))
  refine (remove_own t h hP hm hn hN ht).mono ?_
  rintro e w' ⟨rfl, h2, hk⟩
  go_wp2_with (first | (at_builtin; refine wl_append rfl _ _ _ _ rfl _ _ rfl rfl ?_) | (at_make; refine wl_make rfl _ _ _ rfl _ _ rfl rfl ?_) | (at_mapUpdate; refine wl_mapUpdate rfl _ _ _ _ rfl _ _ _ rfl rfl rfl ?_) | (at_lookup; refine wl_lookup rfl _ _ _ _ rfl _ _ rfl rfl ?_) | (at_delete; refine wl_delete rfl _ _ _ _ rfl _ _ rfl rfl ?_) | (with_reducible refine wl_len rfl _ _ rfl _ rfl ?_) | (with_reducible refine wl_range rfl _ _ rfl _ rfl ?_) | (with_reducible refine wl_next rfl _ rfl _ rfl ?_) | (with_reducible refine wl_copy rfl _ _ _ _ rfl _ _ rfl rfl ?_) | (with_reducible refine wl_max rfl _ _ _ _ rfl _ _ rfl rfl ?_) | (with_reducible refine wl_min rfl _ _ _ _ rfl _ _ rfl rfl ?_))
  go_ret
  exact ⟨rfl, h2, hk⟩
set_option maxRecDepth 100000 in
set_option maxHeartbeats 1000000 in
theorem s_removet {x y : Nat} (t : List UInt8) (h : Own P w d m) (hP : ∀ k, w.heap.size ≤ k → P k) (hm : Small m n N) (hn : n ≤ 100000) (hN : N ≤ 1000000) (ht : t.length ≤ 1000) (hx : Blk w x #[ptrTo d] 23) (hy : Blk w y #[.string ⟨t.toArray⟩] 9) :
    Calls Try.prog 74 #[ptrTo x, ptrTo y] w (StepPost P w d m ⟨5, t, [], 0, []⟩) := by
  have q0 : w.cell? ⟨x, 0, none⟩ = some (ptrTo d) := hx.cell 0
  have q1 : w.cell? ⟨y, 0, none⟩ = some (.string ⟨t.toArray⟩) := hy.cell 0
  unfold ptrTo at q0 ⊢
  clear hx hy
  go_enter Try.func74, Try.ntmps74
  go_wp2_with (first | (at_builtin; refine wl_append rfl _ _ _ _ rfl _ _ rfl rfl ?_) | (at_make; refine wl_make rfl _ _ _ rfl _ _ rfl rfl ?_) | (at_mapUpdate; refine wl_mapUpdate rfl _ _ _ _ rfl _ _ _ rfl rfl rfl ?_) | (at_lookup; refine wl_lookup rfl _ _ _ _ rfl _ _ rfl rfl ?_) | (at_delete; refine wl_delete rfl _ _ _ _ rfl _ _ rfl rfl ?_) | (with_reducible refine wl_len rfl _ _ rfl _ rfl ?_) | (with_reducible refine wl_range rfl _ _ rfl _ rfl ?_) | (with_reducible refine wl_next rfl _ rfl _ rfl ?_) | (with_reducible refine wl_copy rfl _ _ _ _ rfl _ _ rfl rfl ?_) | (with_reducible refine wl_max rfl _ _ _ _ rfl _ _ rfl rfl ?_) | (with_reducible refine wl_min rfl _ _ _ _ rfl _ _ rfl rfl ?_))
  refine (remove_own t h hP hm hn hN ht).mono ?_
  rintro e w' ⟨rfl, h2, hk⟩
  go_wp2_with (first | (at_builtin; refine wl_append rfl _ _ _ _ rfl _ _ rfl rfl ?_) | (at_make; refine wl_make rfl _ _ _ rfl _ _ rfl rfl ?_) | (at_mapUpdate; refine wl_mapUpdate rfl _ _ _ _ rfl _ _ _ rfl rfl rfl ?_) | (at_lookup; refine wl_lookup rfl _ _ _ _ rfl _ _ rfl rfl ?_) | (at_delete; refine wl_delete rfl _ _ _ _ rfl _ _ rfl rfl ?_) | (with_reducible refine wl_len rfl _ _ rfl _ rfl ?_) | (with_reducible refine wl_range rfl _ _ rfl _ rfl ?_) | (with_reducible refine wl_next rfl _ rfl _ rfl ?_) | (with_reducible refine wl_copy rfl _ _ _ _ rfl _ _ rfl rfl ?_) | (with_reducible refine wl_max rfl _ _ _ _ rfl _ _ rfl rfl ?_) | (with_reducible refine wl_min rfl _ _ _ _ rfl _ _ rfl rfl ?_))
  go_ret
  exact ⟨rfl, h2, hk⟩
set_option maxRecDepth 100000 in
set_option maxHeartbeats 1000000 in
theorem s_create {x y : Nat} (t : List UInt8) (h : Own P w d m) (hP : ∀ k, w.heap.size ≤ k → P k) (hm : Small m n N) (hn : n ≤ 100000) (hN : N ≤ 1000000) (ht : t.length ≤ 1000) (hx : Blk w x #[ptrTo d] 23) (hy : Blk w y #[.string ⟨t.toArray⟩] 9) :
    Calls Try.prog 68 #[ptrTo x, ptrTo y] w (StepPost P w d m ⟨1, t, [], 0, []⟩) := by
  have q0 : w.cell? ⟨x, 0, none⟩ = some (ptrTo d) := hx.cell 0
  have q1 : w.cell? ⟨y, 0, none⟩ = some (.string ⟨t.toArray⟩) := hy.cell 0
  unfold ptrTo at q0 ⊢
  clear hx hy
  go_enter Try.func68, Try.ntmps68
  go_wp2_with (first | (at_builtin; refine wl_append rfl _ _ _ _ rfl _ _ rfl rfl ?_) | (at_make; refine wl_make rfl _ _ _ rfl _ _ rfl rfl ?_) | (at_mapUpdate; refine wl_mapUpdate rfl _ _ _ _ rfl _ _ _ rfl rfl rfl ?_) | (at_lookup; refine wl_lookup rfl _ _ _ _ rfl _ _ rfl rfl ?_) | (at_delete; refine wl_delete rfl _ _ _ _ rfl _ _ rfl rfl ?_) | (with_reducible refine wl_len rfl _ _ rfl _ rfl ?_) | (with_reducible refine wl_range rfl _ _ rfl _ rfl ?_) | (with_reducible refine wl_next rfl _ rfl _ rfl ?_) | (with_reducible refine wl_copy rfl _ _ _ _ rfl _ _ rfl rfl ?_) | (with_reducible refine wl_max rfl _ _ _ _ rfl _ _ rfl rfl ?_) | (with_reducible refine wl_min rfl _ _ _ _ rfl _ _ rfl rfl ?_))
  refine (create_own t h hP hm hn hN ht).mono ?_
  rintro e w' ⟨rfl, h2, hk⟩
  go_wp2_with (first | (at_builtin; refine wl_append rfl _ _ _ _ rfl _ _ rfl rfl ?_) | (at_make; refine wl_make rfl _ _ _ rfl _ _ rfl rfl ?_) | (at_mapUpdate; refine wl_mapUpdate rfl _ _ _ _ rfl _ _ _ rfl rfl rfl ?_) | (at_lookup; refine wl_lookup rfl _ _ _ _ rfl _ _ rfl rfl ?_) | (at_delete; refine wl_delete rfl _ _ _ _ rfl _ _ rfl rfl ?_) | (with_reducible refine wl_len rfl _ _ rfl _ rfl ?_) | (with_reducible refine wl_range rfl _ _ rfl _ rfl ?_) | (with_reducible refine wl_next rfl _ rfl _ rfl ?_) | (with_reducible refine wl_copy rfl _ _ _ _ rfl _ _ rfl rfl ?_) | (with_reducible refine wl_max rfl _ _ _ _ rfl _ _ rfl rfl ?_) | (with_reducible refine wl_min rfl _ _ _ _ rfl _ _ rfl rfl ?_))
  go_ret
  exact ⟨rfl, h2, hk⟩
set_option maxRecDepth 100000 in
set_option maxHeartbeats 1000000 in
theorem s_sync {x y : Nat} (t : List UInt8) (h : Own P w d m) (hP : ∀ k, w.heap.size ≤ k → P k) (hm : Small m n N) (hn : n ≤ 100000) (hN : N ≤ 1000000) (ht : t.length ≤ 1000) (hx : Blk w x #[ptrTo d] 23) (hy : Blk w y #[.string ⟨t.toArray⟩] 9) :
    Calls Try.prog 70 #[ptrTo x, ptrTo y] w (StepPost P w d m ⟨3, t, [], 0, []⟩) := by
  have q0 : w.cell? ⟨x, 0, none⟩ = some (ptrTo d) := hx.cell 0
  have q1 : w.cell? ⟨y, 0, none⟩ = some (.string ⟨t.toArray⟩) := hy.cell 0
  unfold ptrTo at q0 ⊢
  clear hx hy
  go_enter Try.func70, Try.ntmps70
  go_wp2_with (first | (at_builtin; refine wl_append rfl _ _ _ _ rfl _ _ rfl rfl ?_) | (at_make; refine wl_make rfl _ _ _ rfl _ _ rfl rfl ?_) | (at_mapUpdate; refine wl_mapUpdate rfl _ _ _ _ rfl _ _ _ rfl rfl rfl ?_) | (at_lookup; refine wl_lookup rfl _ _ _ _ rfl _ _ rfl rfl ?_) | (at_delete; refine wl_delete rfl _ _ _ _ rfl _ _ rfl rfl ?_) | (with_reducible refine wl_len rfl _ _ rfl _ rfl ?_) | (with_reducible refine wl_range rfl _ _ rfl _ rfl ?_) | (with_reducible refine wl_next rfl _ rfl _ rfl ?_) | (with_reducible refine wl_copy rfl _ _ _ _ rfl _ _ rfl rfl ?_) | (with_reducible refine wl_max rfl _ _ _ _ rfl _ _ rfl rfl ?_) | (with_reducible refine wl_min rfl _ _ _ _ rfl _ _ rfl rfl ?_))
  refine (sync_own t h hP hm hn hN ht).mono ?_
  rintro e w' ⟨rfl, h2, hk⟩
  go_wp2_with (first | (at_builtin; refine wl_append rfl _ _ _ _ rfl _ _ rfl rfl ?_) | (at_make; refine wl_make rfl _ _ _ rfl _ _ rfl rfl ?_) | (at_mapUpdate; refine wl_mapUpdate rfl _ _ _ _ rfl _ _ _ rfl rfl rfl ?_) | (at_lookup; refine wl_lookup rfl _ _ _ _ rfl _ _ rfl rfl ?_) | (at_delete; refine wl_delete rfl _ _ _ _ rfl _ _ rfl rfl ?_) | (with_reducible refine wl_len rfl _ _ rfl _ rfl ?_) | (with_reducible refine wl_range rfl _ _ rfl _ rfl ?_) | (with_reducible refine wl_next rfl _ rfl _ rfl ?_) | (with_reducible refine wl_copy rfl _ _ _ _ rfl _ _ rfl rfl ?_) | (with_reducible refine wl_max rfl _ _ _ _ rfl _ _ rfl rfl ?_) | (with_reducible refine wl_min rfl _ _ _ _ rfl _ _ rfl rfl ?_))
  go_ret
  exact ⟨rfl, h2, hk⟩
set_option maxRecDepth 100000 in
set_option maxHeartbeats 1000000 in
theorem s_rename {x y z : Nat} (t u : List UInt8) (h : Own P w d m) (hP : ∀ k, w.heap.size ≤ k → P k) (hm : Small m n N) (hn : n ≤ 100000) (hN : N ≤ 1000000) (ht : t.length ≤ 1000) (hu : u.length ≤ 1000) (hx : Blk w x #[ptrTo d] 23) (hy : Blk w y #[.string ⟨t.toArray⟩] 9) (hz : Blk w z #[.string ⟨u.toArray⟩] 9) :
    Calls Try.prog 71 #[ptrTo x, ptrTo y, ptrTo z] w (StepPost P w d m ⟨4, t, u, 0, []⟩) := by
  have q0 : w.cell? ⟨x, 0, none⟩ = some (ptrTo d) := hx.cell 0
  have q1 : w.cell? ⟨y, 0, none⟩ = some (.string ⟨t.toArray⟩) := hy.cell 0
  have q2 : w.cell? ⟨z, 0, none⟩ = some (.string ⟨u.toArray⟩) := hz.cell 0
  unfold ptrTo at q0 ⊢
  clear hx hy hz
  go_enter Try.func71, Try.ntmps71
  go_wp2_with (first | (at_builtin; refine wl_append rfl _ _ _ _ rfl _ _ rfl rfl ?_) | (at_make; refine wl_make rfl _ _ _ rfl _ _ rfl rfl ?_) | (at_mapUpdate; refine wl_mapUpdate rfl _ _ _ _ rfl _ _ _ rfl rfl rfl ?_) | (at_lookup; refine wl_lookup rfl _ _ _ _ rfl _ _ rfl rfl ?_) | (at_delete; refine wl_delete rfl _ _ _ _ rfl _ _ rfl rfl ?_) | (with_reducible refine wl_len rfl _ _ rfl _ rfl ?_) | (with_reducible refine wl_range rfl _ _ rfl _ rfl ?_) | (with_reducible refine wl_next rfl _ rfl _ rfl ?_) | (with_reducible refine wl_copy rfl _ _ _ _ rfl _ _ rfl rfl ?_) | (with_reducible refine wl_max rfl _ _ _ _ rfl _ _ rfl rfl ?_) | (with_reducible refine wl_min rfl _ _ _ _ rfl _ _ rfl rfl ?_))
  refine (rename_own t u h hP hm hn hN ht hu).mono ?_
  rintro e w' ⟨rfl, h2, hk⟩
  go_wp2_with (first | (at_builtin; refine wl_append rfl _ _ _ _ rfl _ _ rfl rfl ?_) | (at_make; refine wl_make rfl _ _ _ rfl _ _ rfl rfl ?_) | (at_mapUpdate; refine wl_mapUpdate rfl _ _ _ _ rfl _ _ _ rfl rfl rfl ?_) | (at_lookup; refine wl_lookup rfl _ _ _ _ rfl _ _ rfl rfl ?_) | (at_delete; refine wl_delete rfl _ _ _ _ rfl _ _ rfl rfl ?_) | (with_reducible refine wl_len rfl _ _ rfl _ rfl ?_) | (with_reducible refine wl_range rfl _ _ rfl _ rfl ?_) | (with_reducible refine wl_next rfl _ rfl _ rfl ?_) | (with_reducible refine wl_copy rfl _ _ _ _ rfl _ _ rfl rfl ?_) | (with_reducible refine wl_max rfl _ _ _ _ rfl _ _ rfl rfl ?_) | (with_reducible refine wl_min rfl _ _ _ _ rfl _ _ rfl rfl ?_))
  go_ret
  exact ⟨rfl, h2, hk⟩
set_option maxRecDepth 100000 in
set_option maxHeartbeats 1000000 in
theorem s_write {x y p q k : Nat} {vb : Value} (t b : List UInt8) (h : Own P w d m) (hP : ∀ k, w.heap.size ≤ k → P k) (hm : Small m n N) (hn : n ≤ 100000) (hN : N ≤ 1000000) (ht : t.length ≤ 1000) (hk : 64 * k < b.length) (hb : b.length ≤ 1000000) (hx : Blk w x #[ptrTo d] 23) (hy : Blk w y #[.string ⟨t.toArray⟩] 9) (hp : Blk w p #[.int .i64 ((64 * k : Nat) : Int)] 3) (hq : Blk w q #[vb] 29) (hvb : Bts F w vb b) (hF : ∀ k, F k → ¬ P k) :
    Calls Try.prog 69 #[ptrTo x, ptrTo y, ptrTo p, ptrTo q] w (StepPost P w d m (writeS t b k)) := by
  obtain ⟨ab, cb, rfl, _, _⟩ := hvb.shape
  have q0 : w.cell? ⟨x, 0, none⟩ = some (ptrTo d) := hx.cell 0
  have q1 : w.cell? ⟨y, 0, none⟩ = some (.string ⟨t.toArray⟩) := hy.cell 0
  have q2 : w.cell? ⟨p, 0, none⟩ = some (.int .i64 ((64 * k : Nat) : Int)) := hp.cell 0
  have q3 : w.cell? ⟨q, 0, none⟩ = some (.slice ab b.length cb) := hq.cell 0
  unfold ptrTo at q0 ⊢
  generalize hat : 64 * k = at_ at *
  have hmin : min (at_ + 64) b.length ≤ b.length := Nat.min_le_right _ _
  obtain ⟨a', cap', hrun, hsub⟩ := Bts.sub (P := Try.prog) (lo := at_) (hi := min (at_ + 64) b.length) 29 Try.underlying29 (fun W => by kernel_rfl) hvb (by omega) hmin
  have ebody : (b.drop at_).take (min (at_ + 64) b.length - at_) = (b.drop at_).take 64 := by
    rcases Nat.le_total (at_ + 64) b.length with h1 | h1
    · rw [Nat.min_eq_left h1, Nat.add_sub_cancel_left]
    · rw [Nat.min_eq_right h1, List.take_of_length_le (by rw [List.length_drop]; omega), List.take_of_length_le (by rw [List.length_drop]; omega)]
  rw [ebody] at hsub
  have hwr : writeS t b k = ⟨2, t, [], at_, (b.drop at_).take 64⟩ := by unfold writeS; rw [hat]
  rw [hwr]
  have hbl : ((b.drop at_).take 64).length ≤ 64 := by rw [List.length_take]; omega
  have hwrap : IntKind.i64.wrap ((at_ : Int) + 64) = (at_ : Int) + 64 := IntWalk.i64_in _ (by omega)
  have hsubd : Bts F w.drew _ _ := Sl.keep hsub (Keep.refl No w).drew fun _ _ _ h => h
  have hFA : ∀ k, F k → ¬ (P k ∧ k < w.heap.size) := fun k hf hp => hF k hf hp.1
  clear hx hy hp hq hwr ebody
  go_enter Try.func69, Try.ntmps69
  go_wp2_with (first | (at_builtin; refine wl_append rfl _ _ _ _ rfl _ _ rfl rfl ?_) | (at_make; refine wl_make rfl _ _ _ rfl _ _ rfl rfl ?_) | (at_mapUpdate; refine wl_mapUpdate rfl _ _ _ _ rfl _ _ _ rfl rfl rfl ?_) | (at_lookup; refine wl_lookup rfl _ _ _ _ rfl _ _ rfl rfl ?_) | (at_delete; refine wl_delete rfl _ _ _ _ rfl _ _ rfl rfl ?_) | (with_reducible refine wl_len rfl _ _ rfl _ rfl ?_) | (with_reducible refine wl_range rfl _ _ rfl _ rfl ?_) | (with_reducible refine wl_next rfl _ rfl _ rfl ?_) | (with_reducible refine wl_copy rfl _ _ _ _ rfl _ _ rfl rfl ?_) | (with_reducible refine wl_max rfl _ _ _ _ rfl _ _ rfl rfl ?_) | (with_reducible refine wl_min rfl _ _ _ _ rfl _ _ rfl rfl ?_))
  refine wp_region_sig (fun w' => w'.cell? ⟨x, 0, none⟩ = some (.pointer (some ⟨d, 0, none⟩)) ∧ w'.cell? ⟨y, 0, none⟩ = some (.string ⟨t.toArray⟩) ∧ w'.cell? ⟨p, 0, none⟩ = some (.int .i64 (at_ : Int)) ∧ w'.cell? ⟨q, 0, none⟩ = some (.slice ab b.length cb)) (fun j => decide (j ≤ 10)) [(0, true), (1, true), (2, true), (3, true), (4, true), (5, true), (6, true), (7, true), (8, true), (9, true), (10, true), (11, false), (12, false)] (by kernel_rfl) (by kernel_rfl) (by intro c a d v w h; cases d <;> exact h) ⟨q0, q1, q2, q3⟩ ?_
  apply sig_still (o := ⟨some 5, _, _, _, _, _⟩) rfl rfl
  · intro w' hS
    obtain ⟨q1, q2, q3, q4⟩ := hS
    first | (go_simp; done) | (go_simp; rfl) | rfl
  go_frame
  apply sig_still (o := ⟨some 6, _, _, _, _, _⟩) rfl rfl
  · intro w' hS
    obtain ⟨q1, q2, q3, q4⟩ := hS
    first | (go_simp; done) | (go_simp; rfl) | rfl
  go_frame
  apply sig_still (o := ⟨some 7, _, _, _, _, _⟩) rfl rfl
  · intro w' hS
    obtain ⟨q1, q2, q3, q4⟩ := hS
    first | (go_simp; done) | (go_simp; rfl) | rfl
  go_frame
  apply sig_still (o := ⟨some 8, _, _, _, _, _⟩) rfl rfl
  · intro w' hS
    obtain ⟨q1, q2, q3, q4⟩ := hS
    first | (go_simp; done) | (go_simp; rfl) | rfl
  go_frame
  apply sig_still (o := ⟨some 9, _, _, _, _, _⟩) rfl rfl
  · intro w' hS
    obtain ⟨q1, q2, q3, q4⟩ := hS
    first | (go_simp; done) | (go_simp; rfl) | rfl
  go_frame
  apply sig_still (o := ⟨some 10, _, _, _, _, _⟩) rfl rfl
  · intro w' hS
    obtain ⟨q1, q2, q3, q4⟩ := hS
    first | (go_simp; done) | (go_simp; rfl) | rfl
  go_frame
  apply sig_still (o := ⟨some 11, _, _, _, _, _⟩) rfl rfl
  · intro w' hS
    obtain ⟨q1, q2, q3, q4⟩ := hS
    first | (go_simp; done) | (go_simp; rfl) | rfl
  go_frame
  apply sig_still (o := ⟨some 12, _, _, _, _, _⟩) rfl rfl
  · intro w' hS
    obtain ⟨q1, q2, q3, q4⟩ := hS
    first | (go_simp; done) | (go_simp; rfl) | rfl
  go_frame
  apply sig_still (o := ⟨some 13, _, _, _, _, _⟩) rfl rfl
  · intro w' hS
    obtain ⟨q1, q2, q3, q4⟩ := hS
    first | (go_simp; done) | (go_simp; rfl) | rfl
  go_frame
  have hm2 : min ((at_ : Int) + 64) (b.length : Int) = ((min (at_ + 64) b.length : Nat) : Int) := by omega
  have hmn : ∀ W, (Builtin.min_ #[3, 3] 3 #[.int .i64 ((at_ : Int) + 64), .int .i64 (b.length : Int)]).run Try.prog W = .ok (.int .i64 ((min (at_ + 64) b.length : Nat) : Int)) W := fun W => by rw [run_min2, hm2]
  generalize min (at_ + 64) b.length = hi at *
  apply sig_still (o := ⟨some 14, _, _, _, _, _⟩) rfl rfl
  · intro w' hS
    obtain ⟨q1, q2, q3, q4⟩ := hS
    first | (go_simp; done) | (go_simp; rfl) | rfl
  go_frame
  apply sig_still (o := ⟨some 15, _, _, _, _, _⟩) rfl rfl
  · intro w' hS
    obtain ⟨q1, q2, q3, q4⟩ := hS
    first | (go_simp; done) | (go_simp; rfl) | rfl
  go_frame
  refine sig_eff (o := ⟨some 16, _, _, _, _, _⟩) rfl rfl (fun K hKe => ?_)
  go_wp2_with (first | (at_builtin; refine wl_append rfl _ _ _ _ rfl _ _ rfl rfl ?_) | (at_make; refine wl_make rfl _ _ _ rfl _ _ rfl rfl ?_) | (at_mapUpdate; refine wl_mapUpdate rfl _ _ _ _ rfl _ _ _ rfl rfl rfl ?_) | (at_lookup; refine wl_lookup rfl _ _ _ _ rfl _ _ rfl rfl ?_) | (at_delete; refine wl_delete rfl _ _ _ _ rfl _ _ rfl rfl ?_) | (with_reducible refine wl_len rfl _ _ rfl _ rfl ?_) | (with_reducible refine wl_range rfl _ _ rfl _ rfl ?_) | (with_reducible refine wl_next rfl _ rfl _ rfl ?_) | (with_reducible refine wl_copy rfl _ _ _ _ rfl _ _ rfl rfl ?_) | (with_reducible refine wl_max rfl _ _ _ _ rfl _ _ rfl rfl ?_) | (with_reducible refine wl_min rfl _ _ _ _ rfl _ _ rfl rfl ?_))
  refine (write_own (P := P) t ((b.drop at_).take 64) at_ (Own.keep h (Keep.refl No w).drew fun _ _ h => h) (fun k hk => hk) hP hm hn hN ht (by omega) hsubd hFA).mono ?_
  rintro e w' ⟨rfl, h2, hk⟩
  have hwk : w.drew.heap.size = w.heap.size := rfl
  go_wp2_with (first | (at_builtin; refine wl_append rfl _ _ _ _ rfl _ _ rfl rfl ?_) | (at_make; refine wl_make rfl _ _ _ rfl _ _ rfl rfl ?_) | (at_mapUpdate; refine wl_mapUpdate rfl _ _ _ _ rfl _ _ _ rfl rfl rfl ?_) | (at_lookup; refine wl_lookup rfl _ _ _ _ rfl _ _ rfl rfl ?_) | (at_delete; refine wl_delete rfl _ _ _ _ rfl _ _ rfl rfl ?_) | (with_reducible refine wl_len rfl _ _ rfl _ rfl ?_) | (with_reducible refine wl_range rfl _ _ rfl _ rfl ?_) | (with_reducible refine wl_next rfl _ rfl _ rfl ?_) | (with_reducible refine wl_copy rfl _ _ _ _ rfl _ _ rfl rfl ?_) | (with_reducible refine wl_max rfl _ _ _ _ rfl _ _ rfl rfl ?_) | (with_reducible refine wl_min rfl _ _ _ _ rfl _ _ rfl rfl ?_))
  refine ⟨fun h => by simp at h, ?_⟩
  refine sig_eff (o := ⟨some 4, _, _, _, _, _⟩) rfl rfl (fun K hKe => ?_)
  go_wp2_with (first | (at_builtin; refine wl_append rfl _ _ _ _ rfl _ _ rfl rfl ?_) | (at_make; refine wl_make rfl _ _ _ rfl _ _ rfl rfl ?_) | (at_mapUpdate; refine wl_mapUpdate rfl _ _ _ _ rfl _ _ _ rfl rfl rfl ?_) | (at_lookup; refine wl_lookup rfl _ _ _ _ rfl _ _ rfl rfl ?_) | (at_delete; refine wl_delete rfl _ _ _ _ rfl _ _ rfl rfl ?_) | (with_reducible refine wl_len rfl _ _ rfl _ rfl ?_) | (with_reducible refine wl_range rfl _ _ rfl _ rfl ?_) | (with_reducible refine wl_next rfl _ rfl _ rfl ?_) | (with_reducible refine wl_copy rfl _ _ _ _ rfl _ _ rfl rfl ?_) | (with_reducible refine wl_max rfl _ _ _ _ rfl _ _ rfl rfl ?_) | (with_reducible refine wl_min rfl _ _ _ _ rfl _ _ rfl rfl ?_))
  refine ⟨fun h => by simp at h, sig_nil ?_⟩
  go_wp2_with (first | (at_builtin; refine wl_append rfl _ _ _ _ rfl _ _ rfl rfl ?_) | (at_make; refine wl_make rfl _ _ _ rfl _ _ rfl rfl ?_) | (at_mapUpdate; refine wl_mapUpdate rfl _ _ _ _ rfl _ _ _ rfl rfl rfl ?_) | (at_lookup; refine wl_lookup rfl _ _ _ _ rfl _ _ rfl rfl ?_) | (at_delete; refine wl_delete rfl _ _ _ _ rfl _ _ rfl rfl ?_) | (with_reducible refine wl_len rfl _ _ rfl _ rfl ?_) | (with_reducible refine wl_range rfl _ _ rfl _ rfl ?_) | (with_reducible refine wl_next rfl _ rfl _ rfl ?_) | (with_reducible refine wl_copy rfl _ _ _ _ rfl _ _ rfl rfl ?_) | (with_reducible refine wl_max rfl _ _ _ _ rfl _ _ rfl rfl ?_) | (with_reducible refine wl_min rfl _ _ _ _ rfl _ _ rfl rfl ?_))
  go_ret
  exact ⟨rfl, h2, ⟨hk.os, hk.tape, hk.output, hk.size, fun j hj hp => hk.block j hj fun h => hp h.1⟩⟩
/-- a step's value, called -/
theorem step_run {v : Value} {s : Cl} (hS : StepAt F w d v s) (h : Own P w d m) (hP : ∀ k, w.heap.size ≤ k → P k) (hm : Small m n N) (hn : n ≤ 100000) (hN : N ≤ 1000000) (hF : ∀ k, F k → ¬ P k) (ha : s.a.length ≤ 1000) (hb : s.b.length ≤ 1000) :
    ∃ f c, (v = .func (.func f) #[] c ∨ v = .func (.func f) c #[]) ∧ Enters f c ∧ Calls Try.prog f c w (StepPost P w d m s) := by
  rcases hS with ⟨f, x, y, t, rfl, e2, e3, h1, h2, h3, h4⟩ | ⟨rfl, e3⟩ | ⟨x, y, t, rfl, e3, h1, h2, h3, h4⟩ | ⟨x, y, p, q, t, b, k, vb, rfl, e2, e2', e3, h1, h2, h3, h4, h5, h6, h7, h8, h9⟩ | ⟨x, y, t, rfl, e3, h1, h2, h3, h4⟩ | ⟨x, y, z, t, u, rfl, e3, h1, h2, h3, h4, h5, h6⟩
  · rcases e2 with rfl | rfl
    · exact ⟨_, _, .inl e3, fun w => by kernel_rfl, s_remove t h hP hm hn hN ha h3 h4⟩
    · exact ⟨_, _, .inl e3, fun w => by kernel_rfl, s_removet t h hP hm hn hN ha h3 h4⟩
  · refine ⟨_, _, .inr e3, fun w => by kernel_rfl, (syncnames_own h hP hm hn hN).mono ?_⟩
    rintro e w' ⟨rfl, h2, hk⟩
    exact ⟨rfl, h2, hk⟩
  · exact ⟨_, _, .inl e3, fun w => by kernel_rfl, s_create t h hP hm hn hN ha h3 h4⟩
  · exact ⟨_, _, .inl e3, fun w => by kernel_rfl, s_write t b h hP hm hn hN ha e2 e2' h5 h6 h7 h8 h9 hF⟩
  · exact ⟨_, _, .inl e3, fun w => by kernel_rfl, s_sync t h hP hm hn hN ha h3 h4⟩
  · exact ⟨_, _, .inl e3, fun w => by kernel_rfl, s_rename t u h hP hm hn hN ha hb h4 h5 h6⟩
end
def ClOk (s : Cl) : Prop := s.a.length ≤ 64 ∧ s.b.length ≤ 64 ∧ s.body.length ≤ 64
/-- a model behind steps stays small -/
theorem on_small {m : M} {n N : Nat} {s : Cl} (h : Small m n N) (hs : ClOk s) : Small (s.on m).1 (n + 1) (N + 64) := h.call _ _ _ _ _ hs.1 hs.2.1 hs.2.2
theorem runS_small {m : M} {n N : Nat} : ∀ (l : List Cl) {m : M} {n N : Nat}, Small m n N → (∀ s ∈ l, ClOk s) → Small (runS m l).1 (n + l.length) (N + 64 * l.length)
  | [], _, _, _, h, _ => h
  | s :: r, m, n, N, h, hl => by
    have h1 := on_small h (hl s (by simp))
    rw [runS_cons]
    split
    · exact (runS_small (m := m) (n := n) (N := N) r h1 fun s hs => hl s (by simp [hs])).mono (by simp only [List.length_cons]; omega) (by simp only [List.length_cons]; omega)
    · exact h1.mono (by simp only [List.length_cons]; omega) (by simp only [List.length_cons]; omega)

section
variable {P F : Nat → Prop} {w : World} {d n N : Nat} {m : M}
set_option maxRecDepth 100000 in
set_option maxHeartbeats 2000000 in
theorem all_any {va : Value} {vs : List Value} {l : List Cl} (hsl : Sl F w 1 va l.length vs) (hst : ∀ (i : Nat) (v : Value) (s : Cl), vs[i]? = some v → l[i]? = some s → StepAt F w d v s) (h : Own P w d m) (hP : ∀ k, w.heap.size ≤ k → P k) (hm : Small m n N)
    (hn : n + l.length ≤ 100000) (hN : N + 64 * l.length ≤ 1000000) (hF : ∀ k, F k → ¬ P k) (hl : ∀ s ∈ l, ClOk s) :
    Calls Try.prog 72 #[va] w fun e w' => e = .returned (.int .i64 ((runS m l).2 : Nat)) ∧ Own P w' d (runS m l).1 ∧ Keep P w w' := by
  obtain ⟨a, c, rfl, hlc, hcm⟩ := hsl.shape
  have hvl : vs.length = l.length := by have := hsl.1; omega
  go_enter Try.func72, Try.ntmps72
  go_wp2_with (first | (at_builtin; refine wl_append rfl _ _ _ _ rfl _ _ rfl rfl ?_) | (at_make; refine wl_make rfl _ _ _ rfl _ _ rfl rfl ?_) | (at_mapUpdate; refine wl_mapUpdate rfl _ _ _ _ rfl _ _ _ rfl rfl rfl ?_) | (at_lookup; refine wl_lookup rfl _ _ _ _ rfl _ _ rfl rfl ?_) | (at_delete; refine wl_delete rfl _ _ _ _ rfl _ _ rfl rfl ?_) | (with_reducible refine wl_len rfl _ _ rfl _ rfl ?_) | (with_reducible refine wl_range rfl _ _ rfl _ rfl ?_) | (with_reducible refine wl_next rfl _ rfl _ rfl ?_) | (with_reducible refine wl_copy rfl _ _ _ _ rfl _ _ rfl rfl ?_) | (with_reducible refine wl_max rfl _ _ _ _ rfl _ _ rfl rfl ?_) | (with_reducible refine wl_min rfl _ _ _ _ rfl _ _ rfl rfl ?_))
  go_loopw [8] (fun iv wr => ∃ (k : Nat) (mk : M), iv = .int .i64 k ∧ k ≤ l.length ∧ runS m l = runS mk (l.drop k) ∧ Small mk (n + k) (N + 64 * k) ∧ Own P wr d mk ∧ Keep P w wr) (fun iv _ => l.length - (intOf iv).toNat)
  case atStart => exact ⟨0, m, rfl, Nat.zero_le _, rfl, hm, h, Keep.refl _ _⟩
  case round =>
    clear h hm
    obtain ⟨k, mk, rfl, hk, he, hm, h, hK⟩ := hrel
    rcases Nat.lt_or_ge k l.length with hkl | hkl
    · obtain ⟨g, off, cap, e, hg, hgl, _, _, hcell⟩ := hsl.at (by omega)
      cases e
      have q := (hK.cell (p := ⟨g, off + k, none⟩) hgl (hF g hg)).trans (hcell k vs[k] (List.getElem?_eq_getElem (by omega)))
      have hs := (hst k _ _ (List.getElem?_eq_getElem (by omega)) (List.getElem?_eq_getElem hkl)).keep hK hF
      have hok := hl _ (List.getElem_mem hkl)
      obtain ⟨f, c', hv, hent, hcall⟩ := step_run hs h (fun j hj => hP j (Nat.le_trans hK.size hj)) hm (by omega) (by omega) hF (Nat.le_trans hok.1 (by omega)) (Nat.le_trans hok.2.1 (by omega))
      rw [List.drop_eq_getElem_cons hkl, runS_cons] at he
      have hsm := on_small hm hok
      generalize l[k] = s at *
      have HE := Lib.hid he
      have HC := Lib.hid hcall
      clear hcell hst hs he hcall
      unfold Enters at hent
      unfold StepPost at HC
      have hnl : l.length ≤ 100000 := by omega
      rcases hv with hv | hv
      all_goals
        rw [hv] at q
        go_wp2_with (first | (at_builtin; refine wl_append rfl _ _ _ _ rfl _ _ rfl rfl ?_) | (at_make; refine wl_make rfl _ _ _ rfl _ _ rfl rfl ?_) | (at_mapUpdate; refine wl_mapUpdate rfl _ _ _ _ rfl _ _ _ rfl rfl rfl ?_) | (at_lookup; refine wl_lookup rfl _ _ _ _ rfl _ _ rfl rfl ?_) | (at_delete; refine wl_delete rfl _ _ _ _ rfl _ _ rfl rfl ?_) | (with_reducible refine wl_len rfl _ _ rfl _ rfl ?_) | (with_reducible refine wl_range rfl _ _ rfl _ rfl ?_) | (with_reducible refine wl_next rfl _ rfl _ rfl ?_) | (with_reducible refine wl_copy rfl _ _ _ _ rfl _ _ rfl rfl ?_) | (with_reducible refine wl_max rfl _ _ _ _ rfl _ _ rfl rfl ?_) | (with_reducible refine wl_min rfl _ _ _ _ rfl _ _ rfl rfl ?_))
        refine HC.out.mono ?_
        rintro e w' ⟨rfl, h2, hk2⟩
        have hKn := hK.trans' hk2
        have he := HE.out
        clear h hm hK hk2 hcm HC HE
        by_cases h0 : (s.on mk).2 = 0
        · rw [if_pos h0] at he
          have HE := Lib.hid he
          clear he
          rw [h0]
          go_wp2_with (first | (at_builtin; refine wl_append rfl _ _ _ _ rfl _ _ rfl rfl ?_) | (at_make; refine wl_make rfl _ _ _ rfl _ _ rfl rfl ?_) | (at_mapUpdate; refine wl_mapUpdate rfl _ _ _ _ rfl _ _ _ rfl rfl rfl ?_) | (at_lookup; refine wl_lookup rfl _ _ _ _ rfl _ _ rfl rfl ?_) | (at_delete; refine wl_delete rfl _ _ _ _ rfl _ _ rfl rfl ?_) | (with_reducible refine wl_len rfl _ _ rfl _ rfl ?_) | (with_reducible refine wl_range rfl _ _ rfl _ rfl ?_) | (with_reducible refine wl_next rfl _ rfl _ rfl ?_) | (with_reducible refine wl_copy rfl _ _ _ _ rfl _ _ rfl rfl ?_) | (with_reducible refine wl_max rfl _ _ _ _ rfl _ _ rfl rfl ?_) | (with_reducible refine wl_min rfl _ _ _ _ rfl _ _ rfl rfl ?_))
          go_roundw
          case rel => exact ⟨k + 1, _, by go_num, hkl, HE.out, hsm.mono (by omega) (by omega), h2, hKn⟩
          case measure => simp [intOf]; omega
        · rw [if_neg h0] at he
          rw [← he] at h0 h2 ⊢
          have h0' : (((runS m l).2 : Nat) : Int) ≠ 0 := by omega
          clear he
          generalize hmr : runS m l = mr at *
          have HMR := Lib.hid hmr
          clear hmr
          have h0'' : ((mr.2 : Int) == 0) = false := by simpa using h0'
          go_wp2_with (first | (at_builtin; refine wl_append rfl _ _ _ _ rfl _ _ rfl rfl ?_) | (at_make; refine wl_make rfl _ _ _ rfl _ _ rfl rfl ?_) | (at_mapUpdate; refine wl_mapUpdate rfl _ _ _ _ rfl _ _ _ rfl rfl rfl ?_) | (at_lookup; refine wl_lookup rfl _ _ _ _ rfl _ _ rfl rfl ?_) | (at_delete; refine wl_delete rfl _ _ _ _ rfl _ _ rfl rfl ?_) | (with_reducible refine wl_len rfl _ _ rfl _ rfl ?_) | (with_reducible refine wl_range rfl _ _ rfl _ rfl ?_) | (with_reducible refine wl_next rfl _ rfl _ rfl ?_) | (with_reducible refine wl_copy rfl _ _ _ _ rfl _ _ rfl rfl ?_) | (with_reducible refine wl_max rfl _ _ _ _ rfl _ _ rfl rfl ?_) | (with_reducible refine wl_min rfl _ _ _ _ rfl _ _ rfl rfl ?_))
          go_ret
          rw [HMR.out]
          exact ⟨rfl, h2, hKn⟩
    · obtain rfl : k = l.length := Nat.le_antisymm hk hkl
      rw [List.drop_length] at he
      have HE := Lib.hid he
      have hKn := hK
      clear hK he
      go_wp2_with (first | (at_builtin; refine wl_append rfl _ _ _ _ rfl _ _ rfl rfl ?_) | (at_make; refine wl_make rfl _ _ _ rfl _ _ rfl rfl ?_) | (at_mapUpdate; refine wl_mapUpdate rfl _ _ _ _ rfl _ _ _ rfl rfl rfl ?_) | (at_lookup; refine wl_lookup rfl _ _ _ _ rfl _ _ rfl rfl ?_) | (at_delete; refine wl_delete rfl _ _ _ _ rfl _ _ rfl rfl ?_) | (with_reducible refine wl_len rfl _ _ rfl _ rfl ?_) | (with_reducible refine wl_range rfl _ _ rfl _ rfl ?_) | (with_reducible refine wl_next rfl _ rfl _ rfl ?_) | (with_reducible refine wl_copy rfl _ _ _ _ rfl _ _ rfl rfl ?_) | (with_reducible refine wl_max rfl _ _ _ _ rfl _ _ rfl rfl ?_) | (with_reducible refine wl_min rfl _ _ _ _ rfl _ _ rfl rfl ?_))
      go_ret
      rw [HE.out]
      exact ⟨rfl, h, hKn⟩
end
end Go.Proofs.Ytkmoomgmmhmaeaa
namespace Go.Dm
open Go Go.RowKit

/-- a slice whose elements x are the cells enc x -/
def Fl {α : Type} (A : Nat → Prop) (w : World) (k : Nat) (enc : α → List Value) (v : Value) (l : List α) : Prop := Sl A w k v l.length (l.flatMap enc)
/-- the same in a row of one's own -/
def FlO {α : Type} (w : World) (base : Nat) (e : TypeId) (k : Nat) (enc : α → List Value) (v : Value) (l : List α) : Prop := w.ownsRow base e k v l.length (l.flatMap enc)

section
variable {α : Type} {A : Nat → Prop} {w : World} {k : Nat} {enc : α → List Value} {v : Value} {l : List α}
theorem Fl.keep {S : Nat → Prop} {w' : World} (h : Fl A w k enc v l) (hk : Keep S w w') (hS : ∀ j, j < w.heap.size → A j → ¬ S j) : Fl A w' k enc v l := Sl.keep h hk hS
theorem Fl.no {w' : World} (h : Fl A w k enc v l) (hk : Keep No w w') : Fl A w' k enc v l := Sl.keep h hk fun _ _ _ h => h
theorem Fl.mono {B : Nat → Prop} (h : Fl A w k enc v l) (hab : ∀ j, j < w.heap.size → A j → B j) : Fl B w k enc v l := Sl.mono h hab
theorem Fl.shape (h : Fl A w k enc v l) : ∃ a cap, v = .slice a l.length cap ∧ l.length ≤ cap ∧ cap ≤ maxLen := Sl.shape h
theorem Fl.nil : Fl A w k enc (.slice none 0 0) [] := Sl.nil _ _ _
theorem Fl.at (h : Fl A w k enc v l) (hk : ∀ x, (enc x).length = k) {i : Nat} (hi : i < l.length) :
    ∃ g off cap, v = .slice (some ⟨g, off, none⟩) l.length cap ∧ A g ∧ g < w.heap.size ∧ l.length ≤ cap ∧ cap ≤ maxLen ∧ ∀ r u, (enc l[i])[r]? = some u → w.cell? ⟨g, off + i * k + r, none⟩ = some u := by
  obtain ⟨g, off, cap, e, ha, hg, hc, hm, hr⟩ := Sl.at h (by omega)
  refine ⟨g, off, cap, e, ha, hg, hc, hm, fun r u hu => ?_⟩
  have hel : ∀ c ∈ l.map enc, c.length = k := by
    intro c hc
    obtain ⟨x, _, rfl⟩ := List.mem_map.1 hc
    exact hk x
  have hrk : r < k := by rw [← hk l[i]]; exact (List.getElem?_eq_some_iff.1 hu).1
  rw [Nat.add_assoc]
  refine hr _ _ ?_
  rw [List.flatMap_def, flatten_get hel i r hrk, List.getElem?_map, List.getElem?_eq_getElem hi]
  exact hu
variable {base : Nat} {e : TypeId}
theorem FlO.fl (h : FlO w base e k enc v l) : Fl (fun j => base ≤ j ∧ j < w.heap.size) w k enc v l := Sl.mono (Sl.of_own h) fun j hj ha => ⟨ha.1, hj⟩
theorem FlO.flO (h : FlO w base e k enc v l) : Fl (fun j => base ≤ j ∧ some j = v.ownBlock) w k enc v l := Sl.of_own h
theorem FlO.same {w' : World} (h : FlO w base e k enc v l) (hs : ∀ g, v.ownBlock = some g → w'.heap[g]? = w.heap[g]?) : FlO w' base e k enc v l := by
  refine ⟨h.1, h.2.imp id ?_⟩
  rintro ⟨g, cap, cur, rfl, a, b, r⟩
  exact ⟨g, cap, cur, rfl, a, (hs g rfl).trans b, r⟩
theorem FlO.no {w' : World} (h : FlO w base e k enc v l) (hk : Keep No w w') : FlO w' base e k enc v l := h.same fun g hg => hk.block g (World.ownsRow.lt h g hg).2 fun h => h
theorem FlO.nil : FlO w base e k enc (.slice none 0 0) [] := World.ownsRow_nil _ _ _ _
/-- what is written into a row of one's own is nobody else's -/
theorem Keep.own {w0 w' : World} {n : Nat} {xs : List Value} (hK : Keep No w0 w) (ho : w.ownsRow w0.heap.size e k v n xs) (hk : Keep (fun j => some j = v.ownBlock) w w') : Keep No w0 w' :=
  hK.trans hk fun j hj h => absurd (ho.lt j h.symm).1 (Nat.not_le.2 hj)

theorem Keep.new {w w1 : World} (h : Keep No w w1) {p : Addr} (hp : w.heap.size ≤ p.block) (u : Value) : Keep No w (w1.setCell p u) := h.setCell (fun hl => absurd hl (Nat.not_lt.2 hp)) u
theorem Blk.own {w w' : World} {b base : Nat} {cs : Array Value} {t e : TypeId} {k n : Nat} {v : Value} {xs : List Value} (h : Blk w b cs t) (ho : w.ownsRow base e k v n xs) (hk : Keep (fun j => some j = v.ownBlock) w w') (hb : b < base) : Blk w' b cs t :=
  h.keep hk fun e => absurd (ho.lt b e.symm).1 (Nat.not_le.2 hb)

variable {P : Program}
/-- append(v, x) -/
theorem rg_push (z : Value) (bytes : Nat) {t ty : TypeId} (ht : P.underlying t = some (.slice e)) (hi : (P.info? e).map (fun i => (i.zero, i.size, i.bytes)) = some (some z, k, bytes)) (hzs : z.cells.size = k) (hk0 : 0 < k)
    {x : α} {cs : Array Value} (hcs : cs.toList = enc x) (hx : (enc x).length = k) (hone : ∀ u ∈ enc x, u.oneCell' = true) (ho : FlO w base e k enc v l) (hlen : l.length + 1 ≤ 1099511627776) (hb : bytes ≤ 128) (hbase : base ≤ w.heap.size) {K : Value → World → Prop}
    (h : ∀ v' w', FlO w' base e k enc v' (l ++ [x]) → Keep (fun j => some j = v.ownBlock) w w' → (v'.ownBlock = v.ownBlock ∨ v'.ownBlock = some (w.heap.size + 1)) → K v' w') : AppendGoal P t t ty v (.slice (some ⟨w.heap.size, 0, none⟩) 1 1) (w.alloc (.cells cs e)) K := by
  have hs : Sl (fun j => j = w.heap.size) (w.alloc (.cells cs e)) k (.slice (some ⟨w.heap.size, 0, none⟩) 1 1) 1 (enc x) := by
    rw [← hcs]
    exact Sl.new w cs e (by rw [← Array.length_toList, hcs, hx, Nat.one_mul]) (by unfold maxLen; omega)
  have hbb : (l.length + 1) * bytes ≤ 140737488355328 := Nat.le_trans (Nat.mul_le_mul hlen hb) (by decide)
  refine rg_append base e z k bytes ht hi hzs hk0 (ho.alloc _) hs hone (by unfold maxLen; omega) hbb (by rw [World.size_alloc]; omega) ?_
  intro v' w' ho' hk' _ hn
  refine h v' w' ?_ (((Keep.refl _ w).alloc _).trans' hk') ?_
  · unfold FlO
    rw [List.length_append, List.flatMap_append]
    simpa using ho'
  · rw [World.size_alloc] at hn; exact hn
/-- append(v, vs...) -/
theorem rg_cat (z : Value) (bytes : Nat) {t ty : TypeId} (ht : P.underlying t = some (.slice e)) (hi : (P.info? e).map (fun i => (i.zero, i.size, i.bytes)) = some (some z, k, bytes)) (hzs : z.cells.size = k) (hk0 : 0 < k)
    {vs : Value} {m : List α} (hs : Fl A w k enc vs m) (hone : ∀ x, ∀ u ∈ enc x, u.oneCell' = true) (ho : FlO w base e k enc v l) (hlen : l.length + m.length ≤ 1099511627776) (hb : bytes ≤ 128) (hbase : base ≤ w.heap.size) {K : Value → World → Prop}
    (h : ∀ v' w', FlO w' base e k enc v' (l ++ m) → Keep (fun j => some j = v.ownBlock) w w' → (v'.ownBlock = v.ownBlock ∨ v'.ownBlock = some w.heap.size) → K v' w') : AppendGoal P t t ty v vs w K := by
  have hbb : (l.length + m.length) * bytes ≤ 140737488355328 := Nat.le_trans (Nat.mul_le_mul hlen hb) (by decide)
  refine rg_append base e z k bytes ht hi hzs hk0 ho hs (fun u hu => ?_) (by unfold maxLen; omega) hbb hbase ?_
  · obtain ⟨x, _, hx⟩ := List.mem_flatMap.1 hu
    exact hone x u hx
  · intro v' w' ho' hk' _ hn
    refine h v' w' ?_ hk' hn
    unfold FlO
    rw [List.length_append, List.flatMap_append]
    exact ho'
end

/-! a whole struct is stored; a struct is the result -/
def StAggGoal (P : Program) (ty : TypeId) (g : Nat) (cells : Array Value) (w : World) (K : World → Prop) : Prop := RunGoal P (Instr.storeAt ty (.pointer (some ⟨g, 0, none⟩)) (.agg cells)) w fun _ w' => K w'
section
variable {P : Program} {w : World}
theorem wl_stAgg {ops : Array Oper} {rest : List Oper} {o : Oper} {a : Act} {Q : Exit → Act → World → Prop} (hgd : o.guard = none) (x y : Operand) (ty : TypeId) (ho : o.op = Op.store ty x y) (g : Nat) (cells : Array Value)
    (h1 : a.eval x = .pointer (some ⟨g, 0, none⟩)) (h2 : a.eval y = .agg cells) (h : StAggGoal P ty g cells w fun w' => wpList P ops Q rest (a.put o.dst undef) w') : wpList P ops Q (o :: rest) a w := by
  obtain ⟨v, w', hr, hk⟩ := h
  refine wpList_plain hgd fun K hK => ?_
  unfold Oper.wp execOp
  simp only [ho, h1, h2, hr, Sem.run_bind, Sem.run_pure, Result.andThen_ok]
  exact hK _ _ hk
theorem wo_stAgg {o : Oper} {a : Act} {Q : Exit → Act → World → Prop} {K : Act → World → Prop} (x y : Operand) (ty : TypeId) (ho : o.op = Op.store ty x y) (g : Nat) (cells : Array Value)
    (h1 : a.eval x = .pointer (some ⟨g, 0, none⟩)) (h2 : a.eval y = .agg cells) (h : StAggGoal P ty g cells w fun w' => K (a.put o.dst undef) w') : o.wp P a w K Q := by
  obtain ⟨v, w', hr, hk⟩ := h
  unfold Oper.wp execOp
  simp only [ho, h1, h2, hr, Sem.run_bind, Sem.run_pure, Result.andThen_ok]
  exact hk
theorem rg_stAgg {g : Nat} {old cells : Array Value} {t ty : TypeId} (hB : Blk w g old t) (hi : (P.info? ty).map (·.size) = some cells.size) (hold : old.size = cells.size) (h1 : cells.all (·.oneCell') = true) {K : World → Prop}
    (h : ∀ w', Blk w' g cells t → Keep (fun j => j = g) w w' → w'.heap.size = w.heap.size → K w') : StAggGoal P ty g cells w K := by
  refine .mk (v := ()) (w' := w.setRow g cells) ?_ (h _ (setRow_heap w g old cells t _ hB) ⟨rfl, rfl, rfl, by simp, fun k _ hk => setRow_other w g k cells hk⟩ (by simp))
  simp only [Instr.storeAt, Instr.sureAddr, Sem.run_bind, Sem.run_pure, Result.andThen_ok, run_storeVar_row w g t ty old cells hB hi hold h1]
/-- the result lies in block g -/
theorem ret_blk {fn : Func} {R : Ending → World → Prop} {a : Act} {p : Tmp} {ty t : TypeId} {g : Nat} {cs : Array Value} {d : TypeDesc} (h : fn.results = #[.cell p ty]) (hp : a.tmps.getD p undef = .pointer (some ⟨g, 0, none⟩)) (hB : Blk w g cs t) (hu : P.underlying ty = some d)
    (hd : (match d with | .struct _ | .array _ _ => true | _ => false) = true) (hi : (P.info? ty).map (·.size) = some cs.size) (hdf : a.defers = []) (hR : R (.returned (.agg cs)) w) : bodyPost P fn R .ret a w :=
  bodyPost_ret (results_cell_row h a.tmps w g t cs _ d hp hB hu hd hi) hdf hR
theorem ret_blk_tmp {fn : Func} {R : Ending → World → Prop} {a : Act} {p u : Tmp} {ty t : TypeId} {g : Nat} {cs : Array Value} {d : TypeDesc} (h : fn.results = #[.cell p ty, .tmp u]) (hp : a.tmps.getD p undef = .pointer (some ⟨g, 0, none⟩)) (hB : Blk w g cs t) (hu : P.underlying ty = some d)
    (hd : (match d with | .struct _ | .array _ _ => true | _ => false) = true) (hi : (P.info? ty).map (·.size) = some cs.size) (hdf : a.defers = []) (hR : R (.returned (.tuple #[.agg cs, a.tmps.getD u undef])) w) : bodyPost P fn R .ret a w :=
  bodyPost_ret (by rw [results_cell_tmp h, hp]; simp [asAddr, run_loadVar_row w g t ty cs _ d hB hu hd hi, Result.andThen]) hdf hR
end
end Go.Dm
