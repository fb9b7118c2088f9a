/- The step of a disk's operations. No condition. -/
import Derived.Test.YtkmoomgmmhmaeaaDiskS
namespace Go.Proofs.Ytkmoomgmmhmaeaa
open Go.RowKit Go.Dm Go.Dm.Dk Go.Maps

set_option maxRecDepth 100000 in
set_option maxHeartbeats 1000000 in
theorem step_off {d : Nat} (own do_ : Value) (w : World) (h4 : w.cell? ⟨d, 4, none⟩ = some (.bool true)) :
    Calls Try.prog 32 #[.pointer (some ⟨d, 0, none⟩), own, do_] w fun e w' => e = .returned (.int .i64 23) ∧ w = w' := by
  go_enter Try.func32, Try.ntmps32
  go_wp2_with (first | (at_builtin; refine wl_append rfl _ _ _ _ rfl _ _ rfl rfl ?_) | (at_make; refine wl_make rfl _ _ _ rfl _ _ rfl rfl ?_) | (at_mapUpdate; refine wl_mapUpdate rfl _ _ _ _ rfl _ _ _ rfl rfl rfl ?_) | (at_lookup; refine wl_lookup rfl _ _ _ _ rfl _ _ rfl rfl ?_) | (at_delete; refine wl_delete rfl _ _ _ _ rfl _ _ rfl rfl ?_) | (with_reducible refine wl_len rfl _ _ rfl _ rfl ?_) | (with_reducible refine wl_range rfl _ _ rfl _ rfl ?_) | (with_reducible refine wl_next rfl _ rfl _ rfl ?_) | (with_reducible refine wl_copy rfl _ _ _ _ rfl _ _ rfl rfl ?_) | (with_reducible refine wl_max rfl _ _ _ _ rfl _ _ rfl rfl ?_) | (with_reducible refine wl_min rfl _ _ _ _ rfl _ _ rfl rfl ?_))
  go_ret
  exact ⟨rfl, rfl⟩

set_option maxRecDepth 100000 in
set_option maxHeartbeats 1000000 in
theorem step_own {d f1 : Nat} {c1 : Array Value} (do_ : Value) (w : World) (e0 : Int) (h4 : w.cell? ⟨d, 4, none⟩ = some (.bool false)) (hf1 : Enters f1 c1)
    (hown : Calls Try.prog f1 c1 w fun e w' => e = .returned (.int .i64 e0) ∧ Keep No w w') (he : e0 ≠ 0) :
    Calls Try.prog 32 #[.pointer (some ⟨d, 0, none⟩), .func (.func f1) #[] c1, do_] w fun e w' => e = .returned (.int .i64 e0) ∧ Keep No w w' := by
  have hb : (e0 == 0) = false := by simpa using he
  have hb' : (e0 != 0) = true := by simpa using he
  have H := Lib.hid hown
  clear hown
  unfold Enters at hf1
  go_enter Try.func32, Try.ntmps32
  go_wp2_with (first | (at_builtin; refine wl_append rfl _ _ _ _ rfl _ _ rfl rfl ?_) | (at_make; refine wl_make rfl _ _ _ rfl _ _ rfl rfl ?_) | (at_mapUpdate; refine wl_mapUpdate rfl _ _ _ _ rfl _ _ _ rfl rfl rfl ?_) | (at_lookup; refine wl_lookup rfl _ _ _ _ rfl _ _ rfl rfl ?_) | (at_delete; refine wl_delete rfl _ _ _ _ rfl _ _ rfl rfl ?_) | (with_reducible refine wl_len rfl _ _ rfl _ rfl ?_) | (with_reducible refine wl_range rfl _ _ rfl _ rfl ?_) | (with_reducible refine wl_next rfl _ rfl _ rfl ?_) | (with_reducible refine wl_copy rfl _ _ _ _ rfl _ _ rfl rfl ?_) | (with_reducible refine wl_max rfl _ _ _ _ rfl _ _ rfl rfl ?_) | (with_reducible refine wl_min rfl _ _ _ _ rfl _ _ rfl rfl ?_))
  refine H.out.mono ?_
  rintro e w1 ⟨rfl, hk⟩
  go_wp2_with (first | (at_builtin; refine wl_append rfl _ _ _ _ rfl _ _ rfl rfl ?_) | (at_make; refine wl_make rfl _ _ _ rfl _ _ rfl rfl ?_) | (at_mapUpdate; refine wl_mapUpdate rfl _ _ _ _ rfl _ _ _ rfl rfl rfl ?_) | (at_lookup; refine wl_lookup rfl _ _ _ _ rfl _ _ rfl rfl ?_) | (at_delete; refine wl_delete rfl _ _ _ _ rfl _ _ rfl rfl ?_) | (with_reducible refine wl_len rfl _ _ rfl _ rfl ?_) | (with_reducible refine wl_range rfl _ _ rfl _ rfl ?_) | (with_reducible refine wl_next rfl _ rfl _ rfl ?_) | (with_reducible refine wl_copy rfl _ _ _ _ rfl _ _ rfl rfl ?_) | (with_reducible refine wl_max rfl _ _ _ _ rfl _ _ rfl rfl ?_) | (with_reducible refine wl_min rfl _ _ _ _ rfl _ _ rfl rfl ?_))
  go_ret
  exact ⟨rfl, hk⟩

set_option maxRecDepth 100000 in
set_option maxHeartbeats 1000000 in
theorem step_cut {d f1 : Nat} {c1 cs : Array Value} {t : TypeId} (do_ : Value) (w : World) (hd : Blk w d cs t) (hc4 : cs[4]? = some (.bool false)) (hc5 : cs[5]? = some (.int .i64 1)) (hf1 : Enters f1 c1)
    (hown : Calls Try.prog f1 c1 w fun e w' => e = .returned (.int .i64 0) ∧ Keep No w w') :
    Calls Try.prog 32 #[.pointer (some ⟨d, 0, none⟩), .func (.func f1) #[] c1, do_] w fun e w' => e = .returned (.int .i64 23) ∧ ∃ w1, Keep No w w1 ∧ w' = (w1.setCell ⟨d, 5, none⟩ (.int .i64 0)).setCell ⟨d, 4, none⟩ (.bool true) := by
  have h4 := (hd.cell 4).trans hc4
  have h5 := (hd.cell 5).trans hc5
  have H := Lib.hid hown
  clear hown
  unfold Enters at hf1
  go_enter Try.func32, Try.ntmps32
  go_wp2_with (first | (at_builtin; refine wl_append rfl _ _ _ _ rfl _ _ rfl rfl ?_) | (at_make; refine wl_make rfl _ _ _ rfl _ _ rfl rfl ?_) | (at_mapUpdate; refine wl_mapUpdate rfl _ _ _ _ rfl _ _ _ rfl rfl rfl ?_) | (at_lookup; refine wl_lookup rfl _ _ _ _ rfl _ _ rfl rfl ?_) | (at_delete; refine wl_delete rfl _ _ _ _ rfl _ _ rfl rfl ?_) | (with_reducible refine wl_len rfl _ _ rfl _ rfl ?_) | (with_reducible refine wl_range rfl _ _ rfl _ rfl ?_) | (with_reducible refine wl_next rfl _ rfl _ rfl ?_) | (with_reducible refine wl_copy rfl _ _ _ _ rfl _ _ rfl rfl ?_) | (with_reducible refine wl_max rfl _ _ _ _ rfl _ _ rfl rfl ?_) | (with_reducible refine wl_min rfl _ _ _ _ rfl _ _ rfl rfl ?_))
  refine H.out.mono ?_
  rintro e w1 ⟨rfl, hk⟩
  have hd1 := hd.keep hk fun h => h
  have h4' := (hd1.cell 4).trans hc4
  have h5' := (hd1.cell 5).trans hc5
  have f4 := hd1.frozen 4
  have f5 := hd1.frozen 5
  go_wp2_with (first | (at_builtin; refine wl_append rfl _ _ _ _ rfl _ _ rfl rfl ?_) | (at_make; refine wl_make rfl _ _ _ rfl _ _ rfl rfl ?_) | (at_mapUpdate; refine wl_mapUpdate rfl _ _ _ _ rfl _ _ _ rfl rfl rfl ?_) | (at_lookup; refine wl_lookup rfl _ _ _ _ rfl _ _ rfl rfl ?_) | (at_delete; refine wl_delete rfl _ _ _ _ rfl _ _ rfl rfl ?_) | (with_reducible refine wl_len rfl _ _ rfl _ rfl ?_) | (with_reducible refine wl_range rfl _ _ rfl _ rfl ?_) | (with_reducible refine wl_next rfl _ rfl _ rfl ?_) | (with_reducible refine wl_copy rfl _ _ _ _ rfl _ _ rfl rfl ?_) | (with_reducible refine wl_max rfl _ _ _ _ rfl _ _ rfl rfl ?_) | (with_reducible refine wl_min rfl _ _ _ _ rfl _ _ rfl rfl ?_))
  go_ret
  exact ⟨rfl, w1, hk, rfl⟩

set_option maxRecDepth 100000 in
set_option maxHeartbeats 1000000 in
theorem step_do0 {d f1 f2 : Nat} {c1 c2 cs : Array Value} {t : TypeId} (w : World) (R : World → World → Prop) (hd : Blk w d cs t) (hc4 : cs[4]? = some (.bool false)) (hc5 : cs[5]? = some (.int .i64 0)) (hf1 : Enters f1 c1) (hf2 : Enters f2 c2)
    (hown : Calls Try.prog f1 c1 w fun e w' => e = .returned (.int .i64 0) ∧ Keep No w w')
    (hdo : ∀ w1, Keep No w w1 → Calls Try.prog f2 c2 w1 fun e w' => e = .returned (.tuple #[]) ∧ R w1 w') :
    Calls Try.prog 32 #[.pointer (some ⟨d, 0, none⟩), .func (.func f1) #[] c1, .func (.func f2) #[] c2] w fun e w' => e = .returned (.int .i64 0) ∧ ∃ w1, Keep No w w1 ∧ R w1 w' := by
  have h4 := (hd.cell 4).trans hc4
  have h5 := (hd.cell 5).trans hc5
  have H := Lib.hid hown
  have H2 := Lib.hid hdo
  clear hown hdo
  unfold Enters at hf1 hf2
  go_enter Try.func32, Try.ntmps32
  go_wp2_with (first | (at_builtin; refine wl_append rfl _ _ _ _ rfl _ _ rfl rfl ?_) | (at_make; refine wl_make rfl _ _ _ rfl _ _ rfl rfl ?_) | (at_mapUpdate; refine wl_mapUpdate rfl _ _ _ _ rfl _ _ _ rfl rfl rfl ?_) | (at_lookup; refine wl_lookup rfl _ _ _ _ rfl _ _ rfl rfl ?_) | (at_delete; refine wl_delete rfl _ _ _ _ rfl _ _ rfl rfl ?_) | (with_reducible refine wl_len rfl _ _ rfl _ rfl ?_) | (with_reducible refine wl_range rfl _ _ rfl _ rfl ?_) | (with_reducible refine wl_next rfl _ rfl _ rfl ?_) | (with_reducible refine wl_copy rfl _ _ _ _ rfl _ _ rfl rfl ?_) | (with_reducible refine wl_max rfl _ _ _ _ rfl _ _ rfl rfl ?_) | (with_reducible refine wl_min rfl _ _ _ _ rfl _ _ rfl rfl ?_))
  refine H.out.mono ?_
  rintro e w1 ⟨rfl, hk⟩
  have hd1 := hd.keep hk fun h => h
  have h4' := (hd1.cell 4).trans hc4
  have h5' := (hd1.cell 5).trans hc5
  go_wp2_with (first | (at_builtin; refine wl_append rfl _ _ _ _ rfl _ _ rfl rfl ?_) | (at_make; refine wl_make rfl _ _ _ rfl _ _ rfl rfl ?_) | (at_mapUpdate; refine wl_mapUpdate rfl _ _ _ _ rfl _ _ _ rfl rfl rfl ?_) | (at_lookup; refine wl_lookup rfl _ _ _ _ rfl _ _ rfl rfl ?_) | (at_delete; refine wl_delete rfl _ _ _ _ rfl _ _ rfl rfl ?_) | (with_reducible refine wl_len rfl _ _ rfl _ rfl ?_) | (with_reducible refine wl_range rfl _ _ rfl _ rfl ?_) | (with_reducible refine wl_next rfl _ rfl _ rfl ?_) | (with_reducible refine wl_copy rfl _ _ _ _ rfl _ _ rfl rfl ?_) | (with_reducible refine wl_max rfl _ _ _ _ rfl _ _ rfl rfl ?_) | (with_reducible refine wl_min rfl _ _ _ _ rfl _ _ rfl rfl ?_))
  refine (H2.out w1 hk).mono ?_
  rintro e w2 ⟨rfl, hr⟩
  go_wp2_with (first | (at_builtin; refine wl_append rfl _ _ _ _ rfl _ _ rfl rfl ?_) | (at_make; refine wl_make rfl _ _ _ rfl _ _ rfl rfl ?_) | (at_mapUpdate; refine wl_mapUpdate rfl _ _ _ _ rfl _ _ _ rfl rfl rfl ?_) | (at_lookup; refine wl_lookup rfl _ _ _ _ rfl _ _ rfl rfl ?_) | (at_delete; refine wl_delete rfl _ _ _ _ rfl _ _ rfl rfl ?_) | (with_reducible refine wl_len rfl _ _ rfl _ rfl ?_) | (with_reducible refine wl_range rfl _ _ rfl _ rfl ?_) | (with_reducible refine wl_next rfl _ rfl _ rfl ?_) | (with_reducible refine wl_copy rfl _ _ _ _ rfl _ _ rfl rfl ?_) | (with_reducible refine wl_max rfl _ _ _ _ rfl _ _ rfl rfl ?_) | (with_reducible refine wl_min rfl _ _ _ _ rfl _ _ rfl rfl ?_))
  go_ret
  exact ⟨rfl, w1, hk, hr⟩

set_option maxRecDepth 100000 in
set_option maxHeartbeats 1000000 in
theorem step_do1 {d f1 f2 : Nat} {c1 c2 cs : Array Value} {t : TypeId} (k : Int) (w : World) (R : World → World → Prop) (hd : Blk w d cs t) (hc4 : cs[4]? = some (.bool false)) (hc5 : cs[5]? = some (.int .i64 k)) (h1k : 1 < k) (hk2 : k ≤ 9223372036854775807)
    (hf1 : Enters f1 c1) (hf2 : Enters f2 c2)
    (hown : Calls Try.prog f1 c1 w fun e w' => e = .returned (.int .i64 0) ∧ Keep No w w')
    (hdo : ∀ w1, Keep No w w1 → Calls Try.prog f2 c2 (w1.setCell ⟨d, 5, none⟩ (.int .i64 (k - 1))) fun e w' => e = .returned (.tuple #[]) ∧ R w1 w') :
    Calls Try.prog 32 #[.pointer (some ⟨d, 0, none⟩), .func (.func f1) #[] c1, .func (.func f2) #[] c2] w fun e w' => e = .returned (.int .i64 0) ∧ ∃ w1, Keep No w w1 ∧ R w1 w' := by
  have h4 := (hd.cell 4).trans hc4
  have h5 := (hd.cell 5).trans hc5
  have H := Lib.hid hown
  have H2 := Lib.hid hdo
  clear hown hdo
  unfold Enters at hf1 hf2
  have hne : ((k - 1) == 0) = false := by simp; omega
  go_enter Try.func32, Try.ntmps32
  go_wp2_with (first | (at_builtin; refine wl_append rfl _ _ _ _ rfl _ _ rfl rfl ?_) | (at_make; refine wl_make rfl _ _ _ rfl _ _ rfl rfl ?_) | (at_mapUpdate; refine wl_mapUpdate rfl _ _ _ _ rfl _ _ _ rfl rfl rfl ?_) | (at_lookup; refine wl_lookup rfl _ _ _ _ rfl _ _ rfl rfl ?_) | (at_delete; refine wl_delete rfl _ _ _ _ rfl _ _ rfl rfl ?_) | (with_reducible refine wl_len rfl _ _ rfl _ rfl ?_) | (with_reducible refine wl_range rfl _ _ rfl _ rfl ?_) | (with_reducible refine wl_next rfl _ rfl _ rfl ?_) | (with_reducible refine wl_copy rfl _ _ _ _ rfl _ _ rfl rfl ?_) | (with_reducible refine wl_max rfl _ _ _ _ rfl _ _ rfl rfl ?_) | (with_reducible refine wl_min rfl _ _ _ _ rfl _ _ rfl rfl ?_))
  refine H.out.mono ?_
  rintro e w1 ⟨rfl, hk⟩
  have hd1 := hd.keep hk fun h => h
  have h4' := (hd1.cell 4).trans hc4
  have h5' := (hd1.cell 5).trans hc5
  have f4 := hd1.frozen 4
  have f5 := hd1.frozen 5
  go_wp2_with (first | (at_builtin; refine wl_append rfl _ _ _ _ rfl _ _ rfl rfl ?_) | (at_make; refine wl_make rfl _ _ _ rfl _ _ rfl rfl ?_) | (at_mapUpdate; refine wl_mapUpdate rfl _ _ _ _ rfl _ _ _ rfl rfl rfl ?_) | (at_lookup; refine wl_lookup rfl _ _ _ _ rfl _ _ rfl rfl ?_) | (at_delete; refine wl_delete rfl _ _ _ _ rfl _ _ rfl rfl ?_) | (with_reducible refine wl_len rfl _ _ rfl _ rfl ?_) | (with_reducible refine wl_range rfl _ _ rfl _ rfl ?_) | (with_reducible refine wl_next rfl _ rfl _ rfl ?_) | (with_reducible refine wl_copy rfl _ _ _ _ rfl _ _ rfl rfl ?_) | (with_reducible refine wl_max rfl _ _ _ _ rfl _ _ rfl rfl ?_) | (with_reducible refine wl_min rfl _ _ _ _ rfl _ _ rfl rfl ?_))
  refine (H2.out w1 hk).mono ?_
  rintro e w2 ⟨rfl, hr⟩
  go_wp2_with (first | (at_builtin; refine wl_append rfl _ _ _ _ rfl _ _ rfl rfl ?_) | (at_make; refine wl_make rfl _ _ _ rfl _ _ rfl rfl ?_) | (at_mapUpdate; refine wl_mapUpdate rfl _ _ _ _ rfl _ _ _ rfl rfl rfl ?_) | (at_lookup; refine wl_lookup rfl _ _ _ _ rfl _ _ rfl rfl ?_) | (at_delete; refine wl_delete rfl _ _ _ _ rfl _ _ rfl rfl ?_) | (with_reducible refine wl_len rfl _ _ rfl _ rfl ?_) | (with_reducible refine wl_range rfl _ _ rfl _ rfl ?_) | (with_reducible refine wl_next rfl _ rfl _ rfl ?_) | (with_reducible refine wl_copy rfl _ _ _ _ rfl _ _ rfl rfl ?_) | (with_reducible refine wl_max rfl _ _ _ _ rfl _ _ rfl rfl ?_) | (with_reducible refine wl_min rfl _ _ _ _ rfl _ _ rfl rfl ?_))
  go_ret
  exact ⟨rfl, w1, hk, hr⟩
end Go.Proofs.Ytkmoomgmmhmaeaa
