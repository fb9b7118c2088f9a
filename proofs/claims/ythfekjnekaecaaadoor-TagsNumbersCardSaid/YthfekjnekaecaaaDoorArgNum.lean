/- TagsNone. TagsNumbers. Arguments that came in: registers, numbers. No condition. -/
import Derived.Test.YthfekjnekaecaaaDoorTg11
import Derived.Test.YthfekjnekaecaaaDoorRd
import Derived.Test.YthfekjnekaecaaaDoorTg6
import Derived.WalkKit
import Derived.ProofKit
import Derived.OpenShut
set_option linter.unusedVariables false
set_option linter.unusedSimpArgs false
namespace Go.Dm.Tg
open Go Go.Dm.Vm Go.Dm.Cp
theorem none_sp : spanM awL none 4096 1 0 = 50 := by kernel_rfl
theorem mk_len (a : Nat) (t : Int) : (markM awL a t).w.length = if a % 8 = 0 ∧ 0 < t ∧ t ≤ 2 then 1 else 0 := by
  have hm : (awL.m.length : Int) = 2 := rfl
  unfold markM
  by_cases h : markE awL a t = 0
  · rw [if_pos h]
    have h3 : a % 8 = 0 ∧ 0 ≤ t ∧ t ≤ (awL.m.length : Int) := by
      unfold markE at h
      by_cases h3 : a % 8 = 0 ∧ 0 ≤ t ∧ t ≤ (awL.m.length : Int)
      · exact h3
      · rw [if_neg h3] at h; cases h
    rw [hm] at h3
    unfold putW
    by_cases h0 : t.toNat = 0
    · rw [if_pos h0, if_neg (by omega)]; rfl
    · rw [if_neg h0, if_pos (by omega)]; rfl
  · rw [if_neg h]
    have h3 : ¬ (a % 8 = 0 ∧ 0 ≤ t ∧ t ≤ (awL.m.length : Int)) := fun h3 => h (by unfold markE; rw [if_pos h3])
    rw [hm] at h3
    rw [if_neg (by omega)]; rfl
theorem mk_E (a : Nat) (t : Int) : markE awL a t = if a % 8 = 0 ∧ 0 ≤ t ∧ t ≤ 2 then 0 else 1 := rfl
end Go.Dm.Tg
namespace Go.Proofs.YthfekjnekaecaaaDoor
open Go.RowKit Go.Dm Go.Dm.Vm Go.Dm.Cp Go.Dm.Tg Go.Maps
section
variable {w : World}
set_option maxRecDepth 100000 in
set_option maxHeartbeats 4000000 in
theorem tstep_nil (T C : Array Value) (I u : Value) (hts : T.size = 32) (hto : T.all (·.oneCell') = true) (hcs : C.size = 34) (op a b c imm : Int) : Calls Tryd.prog 9 #[.pointer none, .agg T, .agg C, .agg #[.int .i64 op, .int .i64 a, .int .i64 b, .int .i64 c, .int .i32 imm], u] w fun e w' => e = .returned (.tuple #[.agg T, .int .i64 50]) ∧ Keep No w w' := by
  go_enter Tryd.func9, Tryd.ntmps9
  go_wp2_with (first | (with_reducible refine wl_ld rfl _ 30 rfl _ rfl ?_) | (with_reducible refine wl_stAgg rfl _ _ _ rfl _ _ rfl rfl ?_))
  have hkW1 : Keep No w (w.alloc (.cells #[.pointer none] 25)) := (Keep.refl _ _).alloc _
  have hBW1 : Blk (w.alloc (.cells #[.pointer none] 25)) w.heap.size #[.pointer none] 25 := Blk.new _ _ _
  have hzW1 : (w.alloc (.cells #[.pointer none] 25)).heap.size = w.heap.size + 1 := World.size_alloc _ _
  generalize w.alloc (.cells #[.pointer none] 25) = W1 at *
  have hkW2 : Keep No W1 (W1.alloc (.cells T 30)) := (Keep.refl _ _).alloc _
  have hBW2 : Blk (W1.alloc (.cells T 30)) W1.heap.size T 30 := Blk.new _ _ _
  have hzW2 : (W1.alloc (.cells T 30)).heap.size = W1.heap.size + 1 := World.size_alloc _ _
  generalize W1.alloc (.cells T 30) = W2 at *
  have hkW3 : Keep No W2 (W2.alloc (.cells C 35)) := (Keep.refl _ _).alloc _
  have hBW3 : Blk (W2.alloc (.cells C 35)) W2.heap.size C 35 := Blk.new _ _ _
  have hzW3 : (W2.alloc (.cells C 35)).heap.size = W2.heap.size + 1 := World.size_alloc _ _
  generalize W2.alloc (.cells C 35) = W3 at *
  have hkW4 : Keep No W3 (W3.alloc (.cells #[.int .i64 op, .int .i64 a, .int .i64 b, .int .i64 c, .int .i32 imm] 37)) := (Keep.refl _ _).alloc _
  have hBW4 : Blk (W3.alloc (.cells #[.int .i64 op, .int .i64 a, .int .i64 b, .int .i64 c, .int .i32 imm] 37)) W3.heap.size #[.int .i64 op, .int .i64 a, .int .i64 b, .int .i64 c, .int .i32 imm] 37 := Blk.new _ _ _
  have hzW4 : (W3.alloc (.cells #[.int .i64 op, .int .i64 a, .int .i64 b, .int .i64 c, .int .i32 imm] 37)).heap.size = W3.heap.size + 1 := World.size_alloc _ _
  generalize W3.alloc (.cells #[.int .i64 op, .int .i64 a, .int .i64 b, .int .i64 c, .int .i32 imm] 37) = W4 at *
  have hkW5 : Keep No W4 (W4.alloc (.cells #[.int .i64 0, .int .i64 0, .int .i64 0, .int .i64 0, .int .i64 0, .int .i64 0, .int .i64 0, .int .i64 0, .int .i64 0, .int .i64 0, .int .i64 0, .int .i64 0, .int .i64 0, .int .i64 0, .int .i64 0, .int .i64 0, .int .i64 0, .int .i64 0, .int .i64 0, .int .i64 0, .int .i64 0, .int .i64 0, .int .i64 0, .int .i64 0, .int .i64 0, .int .i64 0, .int .i64 0, .int .i64 0, .int .i64 0, .int .i64 0, .int .i64 0, .int .i64 0] 30)) := (Keep.refl _ _).alloc _
  have hBW5 : Blk (W4.alloc (.cells #[.int .i64 0, .int .i64 0, .int .i64 0, .int .i64 0, .int .i64 0, .int .i64 0, .int .i64 0, .int .i64 0, .int .i64 0, .int .i64 0, .int .i64 0, .int .i64 0, .int .i64 0, .int .i64 0, .int .i64 0, .int .i64 0, .int .i64 0, .int .i64 0, .int .i64 0, .int .i64 0, .int .i64 0, .int .i64 0, .int .i64 0, .int .i64 0, .int .i64 0, .int .i64 0, .int .i64 0, .int .i64 0, .int .i64 0, .int .i64 0, .int .i64 0, .int .i64 0] 30)) W4.heap.size #[.int .i64 0, .int .i64 0, .int .i64 0, .int .i64 0, .int .i64 0, .int .i64 0, .int .i64 0, .int .i64 0, .int .i64 0, .int .i64 0, .int .i64 0, .int .i64 0, .int .i64 0, .int .i64 0, .int .i64 0, .int .i64 0, .int .i64 0, .int .i64 0, .int .i64 0, .int .i64 0, .int .i64 0, .int .i64 0, .int .i64 0, .int .i64 0, .int .i64 0, .int .i64 0, .int .i64 0, .int .i64 0, .int .i64 0, .int .i64 0, .int .i64 0, .int .i64 0] 30 := Blk.new _ _ _
  have hzW5 : (W4.alloc (.cells #[.int .i64 0, .int .i64 0, .int .i64 0, .int .i64 0, .int .i64 0, .int .i64 0, .int .i64 0, .int .i64 0, .int .i64 0, .int .i64 0, .int .i64 0, .int .i64 0, .int .i64 0, .int .i64 0, .int .i64 0, .int .i64 0, .int .i64 0, .int .i64 0, .int .i64 0, .int .i64 0, .int .i64 0, .int .i64 0, .int .i64 0, .int .i64 0, .int .i64 0, .int .i64 0, .int .i64 0, .int .i64 0, .int .i64 0, .int .i64 0, .int .i64 0, .int .i64 0] 30)).heap.size = W4.heap.size + 1 := World.size_alloc _ _
  generalize W4.alloc (.cells #[.int .i64 0, .int .i64 0, .int .i64 0, .int .i64 0, .int .i64 0, .int .i64 0, .int .i64 0, .int .i64 0, .int .i64 0, .int .i64 0, .int .i64 0, .int .i64 0, .int .i64 0, .int .i64 0, .int .i64 0, .int .i64 0, .int .i64 0, .int .i64 0, .int .i64 0, .int .i64 0, .int .i64 0, .int .i64 0, .int .i64 0, .int .i64 0, .int .i64 0, .int .i64 0, .int .i64 0, .int .i64 0, .int .i64 0, .int .i64 0, .int .i64 0, .int .i64 0] 30) = W5 at *
  rw [hzW1] at hBW2 hzW2
  rw [hzW2] at hBW3 hzW3
  rw [hzW3] at hBW4 hzW4
  rw [hzW4] at hBW5 hzW5
  have hk5 := (((hkW1.trans' hkW2).trans' hkW3).trans' hkW4).trans' hkW5
  have b6 := ((hBW2.keep hkW3 fun h => h).keep hkW4 fun h => h).keep hkW5 fun h => h
  refine rg_ld b6 Tryd.underlying30 rfl (by rw [hts]; kernel_rfl) ?_
  go_wp2_with (with_reducible refine wl_stAgg rfl _ _ _ rfl _ _ rfl rfl ?_)
  refine rg_stAgg hBW5 (by rw [hts]; kernel_rfl) (by rw [hts]; rfl) hto ?_
  intro Wa hBa hka hza
  go_wp2_with fail
  refine ret_blk_tmp rfl rfl hBa Tryd.underlying30 rfl (by rw [hts]; kernel_rfl) rfl ?_
  exact ⟨rfl, hk5.trans hka fun j hj e => absurd hj (by have e2 : j = w.heap.size + 1 + 1 + 1 + 1 := e; omega)⟩
set_option maxRecDepth 100000 in
set_option maxHeartbeats 8000000 in
theorem tagsnone_any (addr : Nat) (tag : Int) (ha : addr < 18446744073709551616) (hT : Tabs w) : Calls Tryd.prog 4 #[.int .u64 (addr : Int), .int .i64 tag] w fun e w' => e = .returned (.bool true) ∧ Keep No w w' := by
  have haw := awake18_any hT
  clear hT
  go_enter Tryd.func4, Tryd.ntmps4
  go_wp2_with fail
  refine haw.mono ?_
  rintro e w1 ⟨rfl, hk1⟩
  clear haw
  have hst := tstep_nil (w := w1) #[.int .i64 0, .int .i64 0, .int .i64 0, .int .i64 0, .int .i64 0, .int .i64 0, .int .i64 0, .int .i64 0, .int .i64 0, .int .i64 0, .int .i64 0, .int .i64 0, .int .i64 0, .int .i64 0, .int .i64 0, .int .i64 0, .int .i64 0, .int .i64 0, .int .i64 0, .int .i64 0, .int .i64 0, .int .i64 0, .int .i64 0, .int .i64 0, .int .i64 0, .int .i64 0, .int .i64 0, .int .i64 0, .int .i64 0, .int .i64 0, .int .i64 0, .int .i64 0] #[.int .u64 0, .int .u64 0, .int .u64 0, .int .u64 0, .int .u64 0, .int .u64 0, .int .u64 0, .int .u64 0, .int .u64 0, .int .u64 0, .int .u64 0, .int .u64 0, .int .u64 0, .int .u64 0, .int .u64 0, .int .u64 0, .int .u64 0, .int .u64 0, .int .u64 0, .int .u64 0, .int .u64 0, .int .u64 0, .int .u64 0, .int .u64 0, .int .u64 0, .int .u64 0, .int .u64 0, .int .u64 0, .int .u64 0, .int .u64 0, .int .u64 0, .int .u64 0, .int .u64 0, .int .u64 0] (.int .i64 0) (.pointer none) rfl (by simp [Value.oneCell']) rfl 1 0 0 0 0
  go_wp2_with fail
  refine hst.mono ?_
  rintro e w2 ⟨rfl, hk2⟩
  clear hst
  have hkw2 := hk1.trans' hk2
  go_wp2_with (with_reducible refine wl_stAgg rfl _ _ _ rfl _ _ rfl rfl ?_)
  have hkW3 : Keep No w2 (w2.alloc (.cells #[.int .i64 0, .int .i64 0, .int .i64 0, .int .i64 0, .int .i64 0, .int .i64 0, .int .i64 0, .int .i64 0, .int .i64 0, .int .i64 0, .int .i64 0, .int .i64 0, .int .i64 0, .int .i64 0, .int .i64 0, .int .i64 0, .int .i64 0, .int .i64 0, .int .i64 0, .int .i64 0, .int .i64 0, .int .i64 0, .int .i64 0, .int .i64 0, .int .i64 0, .int .i64 0, .int .i64 0, .int .i64 0, .int .i64 0, .int .i64 0, .int .i64 0, .int .i64 0] 30)) := (Keep.refl _ _).alloc _
  have hBW3 : Blk (w2.alloc (.cells #[.int .i64 0, .int .i64 0, .int .i64 0, .int .i64 0, .int .i64 0, .int .i64 0, .int .i64 0, .int .i64 0, .int .i64 0, .int .i64 0, .int .i64 0, .int .i64 0, .int .i64 0, .int .i64 0, .int .i64 0, .int .i64 0, .int .i64 0, .int .i64 0, .int .i64 0, .int .i64 0, .int .i64 0, .int .i64 0, .int .i64 0, .int .i64 0, .int .i64 0, .int .i64 0, .int .i64 0, .int .i64 0, .int .i64 0, .int .i64 0, .int .i64 0, .int .i64 0] 30)) w2.heap.size #[.int .i64 0, .int .i64 0, .int .i64 0, .int .i64 0, .int .i64 0, .int .i64 0, .int .i64 0, .int .i64 0, .int .i64 0, .int .i64 0, .int .i64 0, .int .i64 0, .int .i64 0, .int .i64 0, .int .i64 0, .int .i64 0, .int .i64 0, .int .i64 0, .int .i64 0, .int .i64 0, .int .i64 0, .int .i64 0, .int .i64 0, .int .i64 0, .int .i64 0, .int .i64 0, .int .i64 0, .int .i64 0, .int .i64 0, .int .i64 0, .int .i64 0, .int .i64 0] 30 := Blk.new _ _ _
  have hzW3 : (w2.alloc (.cells #[.int .i64 0, .int .i64 0, .int .i64 0, .int .i64 0, .int .i64 0, .int .i64 0, .int .i64 0, .int .i64 0, .int .i64 0, .int .i64 0, .int .i64 0, .int .i64 0, .int .i64 0, .int .i64 0, .int .i64 0, .int .i64 0, .int .i64 0, .int .i64 0, .int .i64 0, .int .i64 0, .int .i64 0, .int .i64 0, .int .i64 0, .int .i64 0, .int .i64 0, .int .i64 0, .int .i64 0, .int .i64 0, .int .i64 0, .int .i64 0, .int .i64 0, .int .i64 0] 30)).heap.size = w2.heap.size + 1 := World.size_alloc _ _
  generalize w2.alloc (.cells #[.int .i64 0, .int .i64 0, .int .i64 0, .int .i64 0, .int .i64 0, .int .i64 0, .int .i64 0, .int .i64 0, .int .i64 0, .int .i64 0, .int .i64 0, .int .i64 0, .int .i64 0, .int .i64 0, .int .i64 0, .int .i64 0, .int .i64 0, .int .i64 0, .int .i64 0, .int .i64 0, .int .i64 0, .int .i64 0, .int .i64 0, .int .i64 0, .int .i64 0, .int .i64 0, .int .i64 0, .int .i64 0, .int .i64 0, .int .i64 0, .int .i64 0, .int .i64 0] 30) = W3 at *
  refine rg_stAgg hBW3 (by kernel_rfl) (by rfl) (by simp [Value.oneCell']) ?_
  intro w3 hB3 hk3 hz3
  have hkw3 : Keep No w w3 := (hkw2.trans' hkW3).trans hk3 fun j hj e => absurd hj (by have e2 : j = w2.heap.size := e; have := hkw2.size; omega)
  clear hk1 hk2 hkw2 hkW3 hk3 hz3 hBW3 hB3 hzW3
  go_wp2_with fail
  refine (tmark_nil 0 0 w3).mono ?_
  rintro e w' ⟨rfl, rfl⟩
  go_wp2_with fail
  refine (ttag_nil addr w3).mono ?_
  rintro e w' ⟨rfl, rfl⟩
  go_wp2_with fail
  refine (tmarked_nil w3).mono ?_
  rintro e w' ⟨rfl, rfl⟩
  go_wp2_with fail
  refine (tspan_nil addr 0 0 (.pointer none) w3).mono ?_
  rintro e w' ⟨rfl, rfl⟩
  go_wp2_with fail
  refine (tplain_nil addr 1 w3).mono ?_
  rintro e w' ⟨rfl, rfl⟩
  go_wp2_with fail
  refine (tcopy_nil w3).mono ?_
  rintro e w' ⟨rfl, rfl⟩
  go_wp2_with fail
  refine (modules18_any w3).mono ?_
  rintro e w4 ⟨vm, rfl, hm1, hk4⟩
  have htn := tnew_any vm mods2 w4 hm1 mods2_ok (by decide)
  obtain ⟨am, cm, rfl, _, _⟩ := hm1.shape
  clear hm1
  go_wp2_with fail
  refine htn.mono ?_
  rintro e w5 ⟨d, v, mb, rfl, hL, hk5⟩
  have hL : LRep (fun k => w4.heap.size ≤ k ∧ k < w5.heap.size) w5 d awL v mb := hL
  have hkw5 := (hkw3.trans' hk4).trans' hk5
  have hA5 : ∀ k, (w4.heap.size ≤ k ∧ k < w5.heap.size) → k < w5.heap.size := fun k hk => hk.2
  clear htn hk4 hk5 hkw3
  have hcp := tcopy_any (w := w5) hL hA5
  unfold ptrTo at hcp ⊢
  go_wp2_with fail
  refine hcp.mono ?_
  rintro e w6 ⟨d2, v2, mb2, rfl, hL2, hk6⟩
  have hkw6 := hkw5.trans' hk6
  have hL6 := hL.no hA5 hk6
  have hA6 : ∀ k, (w5.heap.size ≤ k ∧ k < w6.heap.size) → k < w6.heap.size := fun k hk => hk.2
  clear hcp hL
  have hmk := tmark_any (w := w6) addr tag ha hL2 hA6
  unfold ptrTo at hmk
  go_wp2_with fail
  refine hmk.mono ?_
  rintro e w7 ⟨rfl, hL7, hk7⟩
  clear hmk
  have hmb := hL2.Am
  have hkw7 : Keep No w w7 := hkw6.trans hk7 fun j hj e => absurd hj (by have e2 : j = mb2 := e; have := hkw5.size; have := hmb.1; omega)
  have hLb := hL6.keep hk7 (fun j hj e => by have e2 : j = mb2 := e; have := hmb.1; have := hj.2; omega) fun j hj => Nat.lt_of_lt_of_le hj.2 hk6.size
  have hAb : ∀ k, (w4.heap.size ≤ k ∧ k < w5.heap.size) → k < w7.heap.size := fun k hk => Nat.lt_of_lt_of_le (Nat.lt_of_lt_of_le hk.2 hk6.size) hk7.size
  have hA7 : ∀ k, (w5.heap.size ≤ k ∧ k < w6.heap.size) → k < w7.heap.size := fun k hk => Nat.lt_of_lt_of_le hk.2 hk7.size
  have hml := tmarked_any (w := w7) hLb (by decide)
  have hwl := mk_len addr tag
  have hmc := fun W (hk : Keep No w7 W) => tmarked_any (w := W) (hL7.no hA7 hk) (by rw [hwl]; split <;> decide)
  have hsp := fun W (hk : Keep No w7 W) => tspan_any (w := W) 4096 1 0 (by decide) (by decide) (u := .pointer none) (mo := none) (A := fun _ => False) rfl (fun k h => h.elim) (hLb.no hAb hk) fun k hk2 => Nat.lt_of_lt_of_le (hAb k hk2) hk.size
  rw [none_sp] at hsp
  have hE := mk_E addr tag
  have HMC := Lib.hid hmc
  have HSP := Lib.hid hsp
  unfold ptrTo at hml
  have hmod : ((addr : Nat) : Int).tmod 8 = ((addr % 8 : Nat) : Int) := by rw [IntWalk.rem_in _ _ (by omega)]; omega
  have hcs : (addr % 8 = 0 ∧ 0 < tag ∧ tag ≤ 2) ∨ (addr % 8 = 0 ∧ tag = 0) ∨ addr % 8 ≠ 0 ∨ (addr % 8 = 0 ∧ tag < 0) ∨ (addr % 8 = 0 ∧ tag > 2) := by omega
  clear hmc hsp hL7 hLb hL6 hL2 hmb
  generalize markE awL addr tag = E at *
  generalize markM awL addr tag = LM at *
  rcases hcs with ⟨h1, h2, h3⟩ | ⟨h1, h2⟩ | h1 | ⟨h1, h2⟩ | ⟨h1, h2⟩
  · rw [if_pos ⟨h1, h2, h3⟩] at hwl
    rw [if_pos ⟨h1, by omega, h3⟩] at hE
    subst hE
    have HN := Lib.hid hwl
    rw [h1] at hmod
    have h4 : tag ≥ 0 := by omega
    clear hwl h1
    go_wp2_with fail
    refine hml.mono ?_
    rintro e w8 ⟨v8, rfl, ho8, hk8⟩
    clear hml
    obtain ⟨a8, c8, rfl⟩ := own_shape ho8
    rw [show awL.w.length = 0 from rfl] at *
    have hmc8 := HMC.out w8 hk8
    unfold ptrTo at hmc8
    go_wp2_with fail
    refine hmc8.mono ?_
    rintro e w9 ⟨v9, rfl, ho9, hk9⟩
    clear hmc8
    obtain ⟨a9, c9, rfl⟩ := own_shape ho9
    have hk79 := hk8.trans' hk9
    have hsp9 := HSP.out w9 hk79
    unfold ptrTo at hsp9
    rw [HN.out]
    go_wp2_with fail
    refine hsp9.mono ?_
    rintro e w10 ⟨rfl, hk10⟩
    go_wp2_with fail
    go_ret
    exact ⟨rfl, (hkw7.trans' hk79).trans' hk10⟩
  · subst h2
    rw [if_neg (by omega)] at hwl
    rw [if_pos ⟨h1, by decide, by decide⟩] at hE
    subst hE
    have HN := Lib.hid hwl
    rw [h1] at hmod
    clear hwl h1
    go_wp2_with fail
    refine hml.mono ?_
    rintro e w8 ⟨v8, rfl, ho8, hk8⟩
    clear hml
    obtain ⟨a8, c8, rfl⟩ := own_shape ho8
    rw [show awL.w.length = 0 from rfl] at *
    have hmc8 := HMC.out w8 hk8
    unfold ptrTo at hmc8
    go_wp2_with fail
    refine hmc8.mono ?_
    rintro e w9 ⟨v9, rfl, ho9, hk9⟩
    clear hmc8
    obtain ⟨a9, c9, rfl⟩ := own_shape ho9
    have hk79 := hk8.trans' hk9
    have hsp9 := HSP.out w9 hk79
    unfold ptrTo at hsp9
    rw [HN.out]
    go_wp2_with fail
    refine hsp9.mono ?_
    rintro e w10 ⟨rfl, hk10⟩
    go_wp2_with fail
    go_ret
    exact ⟨rfl, (hkw7.trans' hk79).trans' hk10⟩
  · rw [if_neg (fun h => h1 h.1)] at hwl hE
    subst hE
    have HN := Lib.hid hwl
    generalize addr % 8 = r at *
    have hr : ((r : Int) == 0) = false := by simpa using h1
    clear hwl h1
    go_wp2_with fail
    refine hml.mono ?_
    rintro e w8 ⟨v8, rfl, ho8, hk8⟩
    clear hml
    obtain ⟨a8, c8, rfl⟩ := own_shape ho8
    rw [show awL.w.length = 0 from rfl] at *
    have hmc8 := HMC.out w8 hk8
    unfold ptrTo at hmc8
    go_wp2_with fail
    refine hmc8.mono ?_
    rintro e w9 ⟨v9, rfl, ho9, hk9⟩
    clear hmc8
    obtain ⟨a9, c9, rfl⟩ := own_shape ho9
    have hk79 := hk8.trans' hk9
    have hsp9 := HSP.out w9 hk79
    unfold ptrTo at hsp9
    rw [HN.out]
    go_wp2_with fail
    refine hsp9.mono ?_
    rintro e w10 ⟨rfl, hk10⟩
    go_wp2_with fail
    go_ret
    exact ⟨rfl, (hkw7.trans' hk79).trans' hk10⟩
  · rw [if_neg (by omega)] at hwl hE
    subst hE
    have HN := Lib.hid hwl
    rw [h1] at hmod
    clear hwl h1
    go_wp2_with fail
    refine hml.mono ?_
    rintro e w8 ⟨v8, rfl, ho8, hk8⟩
    clear hml
    obtain ⟨a8, c8, rfl⟩ := own_shape ho8
    rw [show awL.w.length = 0 from rfl] at *
    have hmc8 := HMC.out w8 hk8
    unfold ptrTo at hmc8
    go_wp2_with fail
    refine hmc8.mono ?_
    rintro e w9 ⟨v9, rfl, ho9, hk9⟩
    clear hmc8
    obtain ⟨a9, c9, rfl⟩ := own_shape ho9
    have hk79 := hk8.trans' hk9
    have hsp9 := HSP.out w9 hk79
    unfold ptrTo at hsp9
    rw [HN.out]
    go_wp2_with fail
    refine hsp9.mono ?_
    rintro e w10 ⟨rfl, hk10⟩
    go_wp2_with fail
    go_ret
    exact ⟨rfl, (hkw7.trans' hk79).trans' hk10⟩
  · rw [if_neg (by omega)] at hwl hE
    subst hE
    have HN := Lib.hid hwl
    rw [h1] at hmod
    have h4 : tag ≥ 0 := by omega
    have h5 : decide (tag ≤ 2) = false := by rw [decide_eq_false_iff_not]; omega
    clear hwl h1
    go_wp2_with fail
    refine hml.mono ?_
    rintro e w8 ⟨v8, rfl, ho8, hk8⟩
    clear hml
    obtain ⟨a8, c8, rfl⟩ := own_shape ho8
    rw [show awL.w.length = 0 from rfl] at *
    have hmc8 := HMC.out w8 hk8
    unfold ptrTo at hmc8
    go_wp2_with fail
    refine hmc8.mono ?_
    rintro e w9 ⟨v9, rfl, ho9, hk9⟩
    clear hmc8
    obtain ⟨a9, c9, rfl⟩ := own_shape ho9
    have hk79 := hk8.trans' hk9
    have hsp9 := HSP.out w9 hk79
    unfold ptrTo at hsp9
    rw [HN.out]
    go_wp2_with fail
    refine hsp9.mono ?_
    rintro e w10 ⟨rfl, hk10⟩
    go_wp2_with fail
    go_ret
    exact ⟨rfl, (hkw7.trans' hk79).trans' hk10⟩
end
end Go.Proofs.YthfekjnekaecaaaDoor
namespace Go.Dm.Tg
open Go Go.Dm.Vm Go.Dm.Cp
def zT : List Int := List.replicate 32 0
theorem zT_get (k : Nat) : zT.getD k 0 = 0 := by
  unfold zT
  rw [List.getD_eq_getElem?_getD, List.getElem?_replicate]
  split <;> rfl
theorem zT_set (k : Nat) : zT.set k 0 = zT := by
  apply List.ext_getElem?
  intro i
  rw [List.getElem?_set]
  split
  · rename_i h
    subst h
    unfold zT
    rw [List.getElem?_replicate, List.length_replicate]
  · rfl
/-- what comes of numbers alone -/
def Num (op a : Nat) (o : Option (List Int × Lg)) : Prop := ∀ t' L', o = some (t', L') → L'.w = [] ∧ ∃ x, t' = zT.set a x ∧ (x = 0 ∨ op = 35 ∨ op = 37 ∨ op = 38)
theorem Num.same {op a : Nat} {L : Lg} (h : L.w = []) : Num op a (some (zT, L)) := fun t' L' e => by
  cases e
  exact ⟨h, 0, (zT_set a).symm, .inl rfl⟩
theorem Num.put {op a : Nat} {L : Lg} {x : Int} (h : L.w = []) (hx : x = 0 ∨ op = 35 ∨ op = 37 ∨ op = 38) : Num op a (some (zT.set a x, L)) := fun t' L' e => by
  cases e
  exact ⟨h, x, rfl, hx⟩
theorem Num.none {op a : Nat} : Num op a Option.none := fun _ _ e => by cases e
theorem Num.ite {op a : Nat} {c : Prop} [Decidable c] {x y : Option (List Int × Lg)} (h1 : c → Num op a x) (h2 : ¬ c → Num op a y) : Num op a (if c then x else y) := by
  split
  · exact h1 (by assumption)
  · exact h2 (by assumption)
theorem tag_none {L : Lg} (h : L.w = []) (a : Nat) : tagM L a = 0 := by unfold tagM wordAt; rw [h]; rfl
theorem mark_none {L : Lg} (h : L.w = []) (a : Nat) : (markM L a 0).w = [] := by
  unfold markM
  split
  · show putW L.w a (0 : Int).toNat = []
    rw [h]; rfl
  · exact h
theorem num_mem {L : Lg} (h : L.w = []) (mo : Option V) (s : St) (i : Ins) : Num i.op i.a (memM L mo zT s i) := by
  unfold memM
  simp only [zT_get, tag_none h]
  repeat' split
  all_goals first
    | exact Num.none
    | exact Num.same h
    | exact Num.put h (.inl rfl)
    | exact Num.same (mark_none h _)
theorem num_reck {L : Lg} (s : St) (i : Ins) : (reckM L zT s i).1 = 0 := by
  unfold reckM
  simp only [zT_get]
  repeat' split
  all_goals rfl
theorem num_look {L : Lg} (h : L.w = []) (mo : Option V) (s : St) (i : Ins) (own : Int) : Num i.op i.a (lookM L mo zT s i own) := by
  unfold lookM
  split
  · exact Num.none
  · unfold lookB
    simp only [zT_get, num_reck, if_true, true_and]
    repeat' (first | exact num_mem h mo s i | refine Num.ite (fun _ => ?_) (fun _ => ?_))
    all_goals first
      | exact Num.none
      | exact Num.same h
      | exact Num.put h (.inl rfl)
      | exact num_mem h mo s i
      | exact Num.put h (.inr (by omega))
theorem num_step (mo : Option V) (s : St) (i : Ins) (may : Bool) : (tstepM awL mo zT s i may).2.1.w = [] ∧
    (((tstepM awL mo zT s i may).2.2 = 0 ∧ may = true ∧ ∃ x, (tstepM awL mo zT s i may).1 = zT.set i.a x ∧ (x = 0 ∨ i.op = 35 ∨ i.op = 37 ∨ i.op = 38)) ∨ ((tstepM awL mo zT s i may).2.2 = 50 ∧ (tstepM awL mo zT s i may).1 = zT)) := by
  unfold tstepM
  split
  · exact ⟨rfl, .inr ⟨rfl, rfl⟩⟩
  · rename_i hg
    have hmay : may = true := by
      cases may
      · exact absurd (.inr (.inl rfl)) hg
      · rfl
    have hn := num_look (L := awL) rfl mo s i (ofM awL.m s.pc + 1)
    cases hl : lookM awL mo zT s i (ofM awL.m s.pc + 1) with
    | none => exact ⟨rfl, .inr ⟨rfl, rfl⟩⟩
    | some r =>
      obtain ⟨t', L'⟩ := r
      obtain ⟨h1, h2⟩ := hn t' L' hl
      exact ⟨h1, .inl ⟨rfl, hmay, h2⟩⟩
end Go.Dm.Tg
namespace Go.Proofs.YthfekjnekaecaaaDoor
open Go.RowKit Go.Dm Go.Dm.Vm Go.Dm.Cp Go.Dm.Tg Go.Maps
theorem still_build {P : Program} {a : Act} {o : Oper} {w' : World} (t : TypeId) (ps : Array (Nat × Operand)) (ho : o.op = Op.build t ps) {cells : Array Value} (hb : P.built t (ps.map fun (i, x) => (i, a.eval x)).toList = some cells) : (execOp a.eval o).run P w' = .ok (.value (.agg cells)) w' := by
  unfold execOp
  simp only [ho, Sem.run_bind, run_build w' t _ cells hb, Result.andThen_ok, Sem.run_pure]
theorem built_st20 (v0 v1 v2 v3 v4 v5 v6 v7 v8 v9 v10 v11 v12 v13 v14 v15 v16 v17 v18 v19 v20 v21 v22 v23 v24 v25 v26 v27 v28 v29 v30 v31 : Value) (a : Int) : Tryd.prog.built 35 [(0, .agg #[v0, v1, v2, v3, v4, v5, v6, v7, v8, v9, v10, v11, v12, v13, v14, v15, v16, v17, v18, v19, v20, v21, v22, v23, v24, v25, v26, v27, v28, v29, v30, v31]), (1, .int .u64 a)] = some #[v0, v1, v2, v3, v4, v5, v6, v7, v8, v9, v10, v11, v12, v13, v14, v15, v16, v17, v18, v19, v20, v21, v22, v23, v24, v25, v26, v27, v28, v29, v30, v31, .int .u64 a, .int .u64 0] := by kernel_rfl
theorem built_st2 (l : List Value) (h : l.length = 32) (a : Int) : Tryd.prog.built 35 [(0, .agg l.toArray), (1, .int .u64 a)] = some (l ++ [Value.int .u64 a, Value.int .u64 0]).toArray :=
  match l, h with
  | [v0, v1, v2, v3, v4, v5, v6, v7, v8, v9, v10, v11, v12, v13, v14, v15, v16, v17, v18, v19, v20, v21, v22, v23, v24, v25, v26, v27, v28, v29, v30, v31], _ => built_st20 v0 v1 v2 v3 v4 v5 v6 v7 v8 v9 v10 v11 v12 v13 v14 v15 v16 v17 v18 v19 v20 v21 v22 v23 v24 v25 v26 v27 v28 v29 v30 v31 a
section
variable {w : World}
set_option maxRecDepth 100000 in
set_option maxHeartbeats 8000000 in
theorem tagsnumbers_any (r : List Nat) (pc : Nat) (op a b c imm : Int) (hrl : r.length = 32) (hr : ∀ x ∈ r, x < 18446744073709551616) (hpc : pc < 18446744073709551616) (h1 : -2147483648 ≤ imm ∧ imm ≤ 2147483647) (hT : Tabs w) : Calls Tryd.prog 3 #[.agg (r.map ru).toArray, .int .u64 (pc : Int), .int .i64 op, .int .i64 a, .int .i64 b, .int .i64 c, .int .i32 imm] w fun e w' => e = .returned (.bool true) ∧ Keep No w w' := by
  have HT := Lib.hid hT
  have hrs : (r.map ru).toArray.size = 32 := by simp [hrl]
  have hsk : StOk ⟨r, pc, 0⟩ := ⟨hrl, hr, hpc, by simp only; decide⟩
  have hns := num_step (some mem18) ⟨r, pc, 0⟩ ⟨op.toNat, a.toNat, b.toNat, c.toNat, imm⟩ (mayF op a b c imm)
  generalize hRd : tstepM awL (some mem18) zT ⟨r, pc, 0⟩ ⟨op.toNat, a.toNat, b.toNat, c.toNat, imm⟩ (mayF op a b c imm) = R at *
  have HRD := Lib.hid hRd
  have hbt := built_st2 (r.map ru) (by simp [hrl]) (pc : Int)
  have HBT := Lib.hid hbt
  have HNS := Lib.hid hns
  have haw := fun (W : World) (hk : Keep No w W) => awake18_any (HT.out.no hk)
  have HAW := Lib.hid haw
  clear hT hRd hbt hns haw
  go_enter Tryd.func3, Tryd.ntmps3
  go_wp2_with fail
  have hkw0 : Keep No w (w.alloc (.cells (r.map ru).toArray 23)) := (Keep.refl _ _).alloc _
  have hBw0 : Blk (w.alloc (.cells (r.map ru).toArray 23)) w.heap.size (r.map ru).toArray 23 := Blk.new _ _ _
  have hzw0 : (w.alloc (.cells (r.map ru).toArray 23)).heap.size = w.heap.size + 1 := World.size_alloc _ _
  generalize w.alloc (.cells (r.map ru).toArray 23) = w0 at *
  refine (HAW.out w0 hkw0).mono ?_
  rintro e w00 ⟨rfl, hk00⟩
  have hkw00 := hkw0.trans' hk00
  have bi0 := hBw0.keep hk00 fun h => h
  clear HAW hkw0 hk00 hBw0
  go_wp2_with fail
  refine (modules18_any w00).mono ?_
  rintro e w1 ⟨vm, rfl, hm1, hk1⟩
  have htn := tnew_any vm mods2 w1 hm1 mods2_ok (by decide)
  obtain ⟨am, cm, rfl, _, _⟩ := hm1.shape
  clear hm1
  go_wp2_with fail
  refine htn.mono ?_
  rintro e w2 ⟨d, v, mb, rfl, hL, hk2⟩
  have hkw2 := (hkw00.trans' hk1).trans' hk2
  have hL : LRep (fun k => w1.heap.size ≤ k ∧ k < w2.heap.size) w2 d awL v mb := hL
  have bi := (bi0.keep hk1 fun h => h).keep hk2 fun h => h
  have hw01 : w.heap.size < w1.heap.size := (bi0.keep hk1 fun h => h).lt
  clear htn hk1 hk2 bi0 hkw00
  unfold ptrTo
  go_wp2_with fail
  have htm := fun (W : World) (hk : Keep (fun j => j = mb) w W) => HT.out.keep hk (fun e => by have := tabs_lt HT.out; have h1 := hL.Am.1; have e2 : 0 = mb := e; omega)
  have HTM := Lib.hid htm
  have hA2 : ∀ k, (w1.heap.size ≤ k ∧ k < w2.heap.size) → k < w2.heap.size := fun k hk => hk.2
  have hmbw : w1.heap.size ≤ mb := hL.Am.1
  have hbm : ¬ w.heap.size = mb := fun e => by omega
  have hww2 : w.heap.size ≤ w2.heap.size := hkw2.size
  have hbl := bi.lt
  have hmb2 : mb < w2.heap.size := hL.Am.2
  obtain ⟨n2, hn2⟩ : ∃ n, n = w2.heap.size := ⟨_, rfl⟩
  have hw2 : n2 ≤ w2.heap.size := Nat.le_of_eq hn2
  rw [← hn2] at hmb2 hww2 hbl
  obtain ⟨TR, hTR⟩ : ∃ T, T = (R.1.map it).toArray := ⟨_, rfl⟩
  obtain ⟨er, her⟩ : ∃ n : Nat, n = R.2.2 := ⟨_, rfl⟩
  obtain ⟨RL, hRL⟩ : ∃ l, l = R.2.1 := ⟨_, rfl⟩
  have hst : ∀ {W : World} {dm mbm x y : Nat} {fm : Nat → Nat}, Tabs W → LRep (fun k => w1.heap.size ≤ k ∧ k < w2.heap.size) W d awL v mb → (∀ k, (w1.heap.size ≤ k ∧ k < w2.heap.size) → k < W.heap.size) → y ≤ W.heap.size → mb < x → SRep (fun k => x ≤ k ∧ k < y) W dm mem18 mbm fm →
      Calls Tryd.prog 9 #[.pointer (some ⟨d, 0, none⟩), .agg #[.int .i64 0, .int .i64 0, .int .i64 0, .int .i64 0, .int .i64 0, .int .i64 0, .int .i64 0, .int .i64 0, .int .i64 0, .int .i64 0, .int .i64 0, .int .i64 0, .int .i64 0, .int .i64 0, .int .i64 0, .int .i64 0, .int .i64 0, .int .i64 0, .int .i64 0, .int .i64 0, .int .i64 0, .int .i64 0, .int .i64 0, .int .i64 0, .int .i64 0, .int .i64 0, .int .i64 0, .int .i64 0, .int .i64 0, .int .i64 0, .int .i64 0, .int .i64 0], .agg (r.map ru ++ [Value.int .u64 (pc : Int), Value.int .u64 0]).toArray, .agg #[.int .i64 op, .int .i64 a, .int .i64 b, .int .i64 c, .int .i32 imm], .pointer (some ⟨dm, 0, none⟩)] W fun e w' => e = .returned (.tuple #[.agg TR, .int .i64 (er : Int)]) ∧ LRep (fun k => w1.heap.size ≤ k ∧ k < w2.heap.size) w' d RL v mb ∧ Keep (fun j => j = mb) W w' := by
    intro W dm mbm x y fm hT hLW hA hy hmb hS
    have h := tstep_any (w := W) zT ⟨r, pc, 0⟩ op a b c imm (some ⟨dm, 0, none⟩) (some mem18) rfl hsk h1.1 h1.2 hT ⟨dm, mbm, fm, rfl, hS⟩ (fun k hk => Nat.lt_of_lt_of_le hk.2 hy) (fun k hk e => by have := hk.1; omega) hLW hA
    rw [HRD.out] at h
    rw [hTR, her, hRL]
    exact h
  have hto : TR.size = 32 ∧ TR.all (·.oneCell') = true := by
    have hl : R.1.length = 32 := by
      rcases HNS.out.2 with ⟨_, _, x, e, _⟩ | ⟨_, e⟩
      · rw [e]; simp [zT]
      · rw [e]; simp [zT]
    rw [hTR]
    refine ⟨by simp [hl], ?_⟩
    simp only [List.all_toArray, List.all_map, List.all_eq_true]
    exact fun _ _ => rfl
  have hk : Keep (fun j => j = mb) w w2 := hkw2.mono fun _ _ h => h.elim
  have hAw := hA2
  have HTR := Lib.hid hTR
  have HER := Lib.hid her
  have HRL := Lib.hid hRL
  clear htm hTR her hRL HT
  apply joinG
  · intro HJ
    have hkd := hk.drew
    have hLd := hL.no hAw (Keep.refl No w2).drew
    have bid := bi.keep (Keep.refl No w2).drew fun h => h
    refine wp_region_tree (fun w' => Blk w' w.heap.size (r.map ru).toArray 23 ∧ True) (fun j => decide (j ≤ 99)) (.st 0 (.st 1 (.st 2 (.st 3 (.st 4 (.st 5 (.st 6 (.st 7 (.st 8 (.st 9 (.st 10 (.br 11 16 (.br 12 16 (.st 13 (.st 14 (.st 15 (.ef 16 (.ef 17 (.st 18 .nil)))))) (.ef 12 (.st 13 (.st 14 (.st 15 (.ef 17 (.st 18 .nil))))))) (.ef 11 (.ef 12 (.st 13 (.st 14 (.st 15 (.ef 17 (.st 18 .nil))))))))))))))))))) (by kernel_rfl) (by kernel_rfl) (by intro c a d v w h; cases d <;> exact h) ⟨bid, trivial⟩ ?_
    apply tr_still (o := ⟨some 27, _, _, _, _, _⟩) rfl rfl
    · intro w' hS
      obtain ⟨q1, q2⟩ := hS
      first | (go_simp; done) | (go_simp; rfl) | rfl
    go_frame
    apply tr_still (o := ⟨some 28, _, _, _, _, _⟩) rfl rfl
    · intro w' hS
      obtain ⟨q1, q2⟩ := hS
      first | (go_simp; done) | (go_simp; rfl) | rfl
    go_frame
    apply tr_still (o := ⟨some 29, _, _, _, _, _⟩) rfl rfl
    · intro w' hS
      exact run_ldoC _ _ rfl w.heap.size 0 rfl (run_loadVar_row w' w.heap.size 23 23 _ _ _ hS.1 Tryd.underlying23 rfl (by rw [hrs]; kernel_rfl))
    go_frame
    apply tr_still (o := ⟨some 30, _, _, _, _, _⟩) rfl rfl
    · intro w' hS
      obtain ⟨q1, q2⟩ := hS
      first | (go_simp; done) | (go_simp; rfl) | rfl
    go_frame
    apply tr_still (o := ⟨some 31, _, _, _, _, _⟩) rfl rfl
    · intro w' hS
      exact still_build _ _ rfl (by first | exact HBT.out | (go_simp; exact HBT.out) | (simp [Act.eval]; exact HBT.out))
    go_frame
    apply tr_still (o := ⟨some 32, _, _, _, _, _⟩) rfl rfl
    · intro w' hS
      obtain ⟨q1, q2⟩ := hS
      first | (go_simp; done) | (go_simp; rfl) | rfl
    go_frame
    apply tr_still (o := ⟨some 33, _, _, _, _, _⟩) rfl rfl
    · intro w' hS
      obtain ⟨q1, q2⟩ := hS
      first | (go_simp; done) | (go_simp; rfl) | rfl
    go_frame
    apply tr_still (o := ⟨some 34, _, _, _, _, _⟩) rfl rfl
    · intro w' hS
      obtain ⟨q1, q2⟩ := hS
      first | (go_simp; done) | (go_simp; rfl) | rfl
    go_frame
    apply tr_still (o := ⟨some 35, _, _, _, _, _⟩) rfl rfl
    · intro w' hS
      obtain ⟨q1, q2⟩ := hS
      first | (go_simp; done) | (go_simp; rfl) | rfl
    go_frame
    apply tr_still (o := ⟨some 36, _, _, _, _, _⟩) rfl rfl
    · intro w' hS
      obtain ⟨q1, q2⟩ := hS
      first | (go_simp; done) | (go_simp; rfl) | rfl
    go_frame
    apply tr_still (o := ⟨some 37, _, _, _, _, _⟩) rfl rfl
    · intro w' hS
      obtain ⟨q1, q2⟩ := hS
      first | (go_simp; done) | (go_simp; rfl) | rfl
    go_frame
    refine tr_br (o := ⟨some 38, _, _, _, _, _⟩) (o' := ⟨some 17, _, _, _, _, _⟩) rfl rfl rfl rfl (fun K hKe => ?_) (fun K hKe => ?_)
    · go_wp2_with fail
      refine (memory18_any w2.drew).mono ?_
      rintro e wm ⟨dm, mbm, fm, rfl, hSm, hkm⟩
      have bim := bid.keep hkm fun h => h
      have hLm := hLd.no hAw hkm
      have hkM : Keep (fun j => j = mb) w wm := hkd.trans hkm fun _ _ h => h.elim
      have hwz : n2 ≤ w2.drew.heap.size := hw2
      refine hKe _ _ ⟨fun _ => ⟨bim, trivial⟩, ?_⟩
      refine tr_br (o := ⟨some 39, _, _, _, _, _⟩) (o' := ⟨some 17, _, _, _, _, _⟩) rfl rfl rfl rfl (fun K hKe => ?_) (fun K hKe => ?_)
      · go_wp2_with fail
        refine (hst (HTM.out wm hkM) hLm (fun k hk => Nat.lt_of_lt_of_le (hAw k hk) hkm.size) (Nat.le_refl _) (Nat.lt_of_lt_of_le hmb2 hwz) hSm).mono ?_
        rintro e ws ⟨rfl, hLs, hks⟩
        have bis := bim.keep hks hbm
        have hkS := hkM.trans' hks
        refine hKe _ _ ⟨fun _ => ⟨bis, trivial⟩, ?_⟩
        apply tr_still (o := ⟨some 26, _, _, _, _, _⟩) rfl rfl
        · intro w' hS
          obtain ⟨q1, q2⟩ := hS
          first | (go_simp; done) | (go_simp; rfl) | rfl
        go_frame
        apply tr_still (o := ⟨some 40, _, _, _, _, _⟩) rfl rfl
        · intro w' hS
          obtain ⟨q1, q2⟩ := hS
          first | (go_simp; done) | (go_simp; rfl) | rfl
        go_frame
        apply tr_still (o := ⟨some 41, _, _, _, _, _⟩) rfl rfl
        · intro w' hS
          obtain ⟨q1, q2⟩ := hS
          first | (go_simp; done) | (go_simp; rfl) | rfl
        go_frame
        refine tr_eff (o := ⟨some 17, _, _, _, _, _⟩) rfl rfl (fun K hKe => ?_)
        go_wp2_with fail
        have hkwa : Keep No ws (ws.alloc (.cells #[.int .i64 0, .int .i64 0, .int .i64 0, .int .i64 0, .int .i64 0, .int .i64 0, .int .i64 0, .int .i64 0, .int .i64 0, .int .i64 0, .int .i64 0, .int .i64 0, .int .i64 0, .int .i64 0, .int .i64 0, .int .i64 0, .int .i64 0, .int .i64 0, .int .i64 0, .int .i64 0, .int .i64 0, .int .i64 0, .int .i64 0, .int .i64 0, .int .i64 0, .int .i64 0, .int .i64 0, .int .i64 0, .int .i64 0, .int .i64 0, .int .i64 0, .int .i64 0] 30)) := (Keep.refl _ _).alloc _
        have hBwa : Blk (ws.alloc (.cells #[.int .i64 0, .int .i64 0, .int .i64 0, .int .i64 0, .int .i64 0, .int .i64 0, .int .i64 0, .int .i64 0, .int .i64 0, .int .i64 0, .int .i64 0, .int .i64 0, .int .i64 0, .int .i64 0, .int .i64 0, .int .i64 0, .int .i64 0, .int .i64 0, .int .i64 0, .int .i64 0, .int .i64 0, .int .i64 0, .int .i64 0, .int .i64 0, .int .i64 0, .int .i64 0, .int .i64 0, .int .i64 0, .int .i64 0, .int .i64 0, .int .i64 0, .int .i64 0] 30)) ws.heap.size #[.int .i64 0, .int .i64 0, .int .i64 0, .int .i64 0, .int .i64 0, .int .i64 0, .int .i64 0, .int .i64 0, .int .i64 0, .int .i64 0, .int .i64 0, .int .i64 0, .int .i64 0, .int .i64 0, .int .i64 0, .int .i64 0, .int .i64 0, .int .i64 0, .int .i64 0, .int .i64 0, .int .i64 0, .int .i64 0, .int .i64 0, .int .i64 0, .int .i64 0, .int .i64 0, .int .i64 0, .int .i64 0, .int .i64 0, .int .i64 0, .int .i64 0, .int .i64 0] 30 := Blk.new _ _ _
        have hzwa : (ws.alloc (.cells #[.int .i64 0, .int .i64 0, .int .i64 0, .int .i64 0, .int .i64 0, .int .i64 0, .int .i64 0, .int .i64 0, .int .i64 0, .int .i64 0, .int .i64 0, .int .i64 0, .int .i64 0, .int .i64 0, .int .i64 0, .int .i64 0, .int .i64 0, .int .i64 0, .int .i64 0, .int .i64 0, .int .i64 0, .int .i64 0, .int .i64 0, .int .i64 0, .int .i64 0, .int .i64 0, .int .i64 0, .int .i64 0, .int .i64 0, .int .i64 0, .int .i64 0, .int .i64 0] 30)).heap.size = ws.heap.size + 1 := World.size_alloc _ _
        generalize ws.alloc (.cells #[.int .i64 0, .int .i64 0, .int .i64 0, .int .i64 0, .int .i64 0, .int .i64 0, .int .i64 0, .int .i64 0, .int .i64 0, .int .i64 0, .int .i64 0, .int .i64 0, .int .i64 0, .int .i64 0, .int .i64 0, .int .i64 0, .int .i64 0, .int .i64 0, .int .i64 0, .int .i64 0, .int .i64 0, .int .i64 0, .int .i64 0, .int .i64 0, .int .i64 0, .int .i64 0, .int .i64 0, .int .i64 0, .int .i64 0, .int .i64 0, .int .i64 0, .int .i64 0] 30) = wa at *
        have bi := bis.keep hkwa fun h => h
        have hL := hLs.no (fun k hk => Nat.lt_of_lt_of_le (Nat.lt_of_lt_of_le (hAw k hk) hkm.size) hks.size) hkwa
        have hk : Keep (fun j => j = mb) w wa := hkS.trans hkwa fun _ _ h => h.elim
        have hsz : n2 ≤ ws.heap.size := Nat.le_trans hwz (Nat.le_trans hkm.size hks.size)
        refine ⟨fun _ => ⟨bi, trivial⟩, ?_⟩
        refine tr_eff (o := ⟨none, _, _, _, _, _⟩) rfl rfl (fun K hKe => ?_)
        refine wo_stAgg (.tmp 17) (.tmp 40) 30 rfl _ _ rfl rfl ?_
        refine rg_stAgg hBwa (by rw [hto.1]; kernel_rfl) (by rw [hto.1]; rfl) hto.2 ?_
        intro wf hBf hkf hzf
        have bi_f := bi.keep hkf fun e => by have e2 : w.heap.size = ws.heap.size := e; omega
        have hLf := hL.keep hkf (fun j hj e => by have e2 : j = ws.heap.size := e; have := hj.2; omega) (fun j hj => by have := hj.2; have := hBwa.lt; omega)
        have hkF : Keep (fun j => j = mb) w wf := hk.trans hkf fun j hj e => absurd hj (by have e2 : j = ws.heap.size := e; omega)
        refine hKe _ _ ⟨fun _ => ⟨bi_f, trivial⟩, ?_⟩
        apply tr_still (o := ⟨some 18, _, _, _, _, _⟩) rfl rfl
        · intro w' hS
          obtain ⟨q1, q2⟩ := hS
          first | (go_simp; done) | (go_simp; rfl) | rfl
        go_frame
        apply tr_nil
        have hgl : n2 ≤ ws.heap.size := hsz
        obtain ⟨gg, hgg⟩ : ∃ g, g = ws.heap.size := ⟨_, rfl⟩
        rw [← hgg] at hBf hgl
        try rw [← hgg]
        clear hgg hkf hzf bi hL hk hSm hKe
        revert hgl hkF hLf bi_f hBf
        revert gg dm wf
        exact HJ.out
      · skip
        go_wp2_with fail
        have hkwa : Keep No wm (wm.alloc (.cells #[.int .i64 0, .int .i64 0, .int .i64 0, .int .i64 0, .int .i64 0, .int .i64 0, .int .i64 0, .int .i64 0, .int .i64 0, .int .i64 0, .int .i64 0, .int .i64 0, .int .i64 0, .int .i64 0, .int .i64 0, .int .i64 0, .int .i64 0, .int .i64 0, .int .i64 0, .int .i64 0, .int .i64 0, .int .i64 0, .int .i64 0, .int .i64 0, .int .i64 0, .int .i64 0, .int .i64 0, .int .i64 0, .int .i64 0, .int .i64 0, .int .i64 0, .int .i64 0] 30)) := (Keep.refl _ _).alloc _
        have hBwa : Blk (wm.alloc (.cells #[.int .i64 0, .int .i64 0, .int .i64 0, .int .i64 0, .int .i64 0, .int .i64 0, .int .i64 0, .int .i64 0, .int .i64 0, .int .i64 0, .int .i64 0, .int .i64 0, .int .i64 0, .int .i64 0, .int .i64 0, .int .i64 0, .int .i64 0, .int .i64 0, .int .i64 0, .int .i64 0, .int .i64 0, .int .i64 0, .int .i64 0, .int .i64 0, .int .i64 0, .int .i64 0, .int .i64 0, .int .i64 0, .int .i64 0, .int .i64 0, .int .i64 0, .int .i64 0] 30)) wm.heap.size #[.int .i64 0, .int .i64 0, .int .i64 0, .int .i64 0, .int .i64 0, .int .i64 0, .int .i64 0, .int .i64 0, .int .i64 0, .int .i64 0, .int .i64 0, .int .i64 0, .int .i64 0, .int .i64 0, .int .i64 0, .int .i64 0, .int .i64 0, .int .i64 0, .int .i64 0, .int .i64 0, .int .i64 0, .int .i64 0, .int .i64 0, .int .i64 0, .int .i64 0, .int .i64 0, .int .i64 0, .int .i64 0, .int .i64 0, .int .i64 0, .int .i64 0, .int .i64 0] 30 := Blk.new _ _ _
        have hzwa : (wm.alloc (.cells #[.int .i64 0, .int .i64 0, .int .i64 0, .int .i64 0, .int .i64 0, .int .i64 0, .int .i64 0, .int .i64 0, .int .i64 0, .int .i64 0, .int .i64 0, .int .i64 0, .int .i64 0, .int .i64 0, .int .i64 0, .int .i64 0, .int .i64 0, .int .i64 0, .int .i64 0, .int .i64 0, .int .i64 0, .int .i64 0, .int .i64 0, .int .i64 0, .int .i64 0, .int .i64 0, .int .i64 0, .int .i64 0, .int .i64 0, .int .i64 0, .int .i64 0, .int .i64 0] 30)).heap.size = wm.heap.size + 1 := World.size_alloc _ _
        generalize wm.alloc (.cells #[.int .i64 0, .int .i64 0, .int .i64 0, .int .i64 0, .int .i64 0, .int .i64 0, .int .i64 0, .int .i64 0, .int .i64 0, .int .i64 0, .int .i64 0, .int .i64 0, .int .i64 0, .int .i64 0, .int .i64 0, .int .i64 0, .int .i64 0, .int .i64 0, .int .i64 0, .int .i64 0, .int .i64 0, .int .i64 0, .int .i64 0, .int .i64 0, .int .i64 0, .int .i64 0, .int .i64 0, .int .i64 0, .int .i64 0, .int .i64 0, .int .i64 0, .int .i64 0] 30) = wa at *
        have bia := bim.keep hkwa fun h => h
        have hLa := hLm.no (fun k hk => Nat.lt_of_lt_of_le (hAw k hk) hkm.size) hkwa
        have hkA : Keep (fun j => j = mb) w wa := hkM.trans hkwa fun _ _ h => h.elim
        have hsz : n2 ≤ wm.heap.size := Nat.le_trans hwz hkm.size
        refine ⟨fun _ => ⟨bia, trivial⟩, ?_⟩
        refine tr_eff (o := ⟨some 39, _, _, _, _, _⟩) rfl rfl (fun K hKe => ?_)
        go_wp2_with fail
        refine (hst (HTM.out wa hkA) hLa (fun k hk => Nat.lt_of_lt_of_le (Nat.lt_of_lt_of_le (hAw k hk) hkm.size) hkwa.size) hkwa.size (Nat.lt_of_lt_of_le hmb2 hwz) (hSm.no (fun k hk => hk.2) hkwa)).mono ?_
        rintro e ws ⟨rfl, hL, hks⟩
        have bi := bia.keep hks hbm
        have hk := hkA.trans' hks
        have hBs := hBwa.keep hks fun e => by have e2 : wm.heap.size = mb := e; omega
        refine hKe _ _ ⟨fun _ => ⟨bi, trivial⟩, ?_⟩
        apply tr_still (o := ⟨some 26, _, _, _, _, _⟩) rfl rfl
        · intro w' hS
          obtain ⟨q1, q2⟩ := hS
          first | (go_simp; done) | (go_simp; rfl) | rfl
        go_frame
        apply tr_still (o := ⟨some 40, _, _, _, _, _⟩) rfl rfl
        · intro w' hS
          obtain ⟨q1, q2⟩ := hS
          first | (go_simp; done) | (go_simp; rfl) | rfl
        go_frame
        apply tr_still (o := ⟨some 41, _, _, _, _, _⟩) rfl rfl
        · intro w' hS
          obtain ⟨q1, q2⟩ := hS
          first | (go_simp; done) | (go_simp; rfl) | rfl
        go_frame
        refine tr_eff (o := ⟨none, _, _, _, _, _⟩) rfl rfl (fun K hKe => ?_)
        refine wo_stAgg (.tmp 17) (.tmp 40) 30 rfl _ _ rfl rfl ?_
        refine rg_stAgg hBs (by rw [hto.1]; kernel_rfl) (by rw [hto.1]; rfl) hto.2 ?_
        intro wf hBf hkf hzf
        have bi_f := bi.keep hkf fun e => by have e2 : w.heap.size = wm.heap.size := e; omega
        have hLf := hL.keep hkf (fun j hj e => by have e2 : j = wm.heap.size := e; have := hj.2; omega) (fun j hj => by have := hj.2; have := hBs.lt; omega)
        have hkF : Keep (fun j => j = mb) w wf := hk.trans hkf fun j hj e => absurd hj (by have e2 : j = wm.heap.size := e; omega)
        refine hKe _ _ ⟨fun _ => ⟨bi_f, trivial⟩, ?_⟩
        apply tr_still (o := ⟨some 18, _, _, _, _, _⟩) rfl rfl
        · intro w' hS
          obtain ⟨q1, q2⟩ := hS
          first | (go_simp; done) | (go_simp; rfl) | rfl
        go_frame
        apply tr_nil
        have hgl : n2 ≤ wm.heap.size := hsz
        obtain ⟨gg, hgg⟩ : ∃ g, g = wm.heap.size := ⟨_, rfl⟩
        rw [← hgg] at hBf hgl
        try rw [← hgg]
        clear hgg hkf hzf bi hL hk hSm hKe
        revert hgl hkF hLf bi_f hBf
        revert gg dm wf
        exact HJ.out
    · have hwz : n2 ≤ w2.drew.heap.size := hw2
      go_wp2_with fail
      have hkwa : Keep No w2.drew (w2.alloc (.cells #[.int .i64 0, .int .i64 0, .int .i64 0, .int .i64 0, .int .i64 0, .int .i64 0, .int .i64 0, .int .i64 0, .int .i64 0, .int .i64 0, .int .i64 0, .int .i64 0, .int .i64 0, .int .i64 0, .int .i64 0, .int .i64 0, .int .i64 0, .int .i64 0, .int .i64 0, .int .i64 0, .int .i64 0, .int .i64 0, .int .i64 0, .int .i64 0, .int .i64 0, .int .i64 0, .int .i64 0, .int .i64 0, .int .i64 0, .int .i64 0, .int .i64 0, .int .i64 0] 30)).drew := ((Keep.refl No w2.drew).alloc _)
      have hBwa : Blk (w2.alloc (.cells #[.int .i64 0, .int .i64 0, .int .i64 0, .int .i64 0, .int .i64 0, .int .i64 0, .int .i64 0, .int .i64 0, .int .i64 0, .int .i64 0, .int .i64 0, .int .i64 0, .int .i64 0, .int .i64 0, .int .i64 0, .int .i64 0, .int .i64 0, .int .i64 0, .int .i64 0, .int .i64 0, .int .i64 0, .int .i64 0, .int .i64 0, .int .i64 0, .int .i64 0, .int .i64 0, .int .i64 0, .int .i64 0, .int .i64 0, .int .i64 0, .int .i64 0, .int .i64 0] 30)).drew w2.heap.size #[.int .i64 0, .int .i64 0, .int .i64 0, .int .i64 0, .int .i64 0, .int .i64 0, .int .i64 0, .int .i64 0, .int .i64 0, .int .i64 0, .int .i64 0, .int .i64 0, .int .i64 0, .int .i64 0, .int .i64 0, .int .i64 0, .int .i64 0, .int .i64 0, .int .i64 0, .int .i64 0, .int .i64 0, .int .i64 0, .int .i64 0, .int .i64 0, .int .i64 0, .int .i64 0, .int .i64 0, .int .i64 0, .int .i64 0, .int .i64 0, .int .i64 0, .int .i64 0] 30 := (Blk.new w2 _ _).keep (Keep.refl No _).drew fun h => h
      generalize (w2.alloc (.cells #[.int .i64 0, .int .i64 0, .int .i64 0, .int .i64 0, .int .i64 0, .int .i64 0, .int .i64 0, .int .i64 0, .int .i64 0, .int .i64 0, .int .i64 0, .int .i64 0, .int .i64 0, .int .i64 0, .int .i64 0, .int .i64 0, .int .i64 0, .int .i64 0, .int .i64 0, .int .i64 0, .int .i64 0, .int .i64 0, .int .i64 0, .int .i64 0, .int .i64 0, .int .i64 0, .int .i64 0, .int .i64 0, .int .i64 0, .int .i64 0, .int .i64 0, .int .i64 0] 30)).drew = wa at *
      have bia := bid.keep hkwa fun h => h
      have hLa := hLd.no hAw hkwa
      have hkA : Keep (fun j => j = mb) w wa := hkd.trans hkwa fun _ _ h => h.elim
      refine ⟨fun _ => ⟨bia, trivial⟩, ?_⟩
      refine tr_eff (o := ⟨some 38, _, _, _, _, _⟩) rfl rfl (fun K hKe => ?_)
      go_wp2_with fail
      refine (memory18_any wa).mono ?_
      rintro e wm ⟨dm, mbm, fm, rfl, hSm, hkm⟩
      have bim := bia.keep hkm fun h => h
      have hLm := hLa.no (fun k hk => Nat.lt_of_lt_of_le (hAw k hk) hkwa.size) hkm
      have hkM : Keep (fun j => j = mb) w wm := hkA.trans hkm fun _ _ h => h.elim
      have hBm := hBwa.keep hkm fun h => h
      refine hKe _ _ ⟨fun _ => ⟨bim, trivial⟩, ?_⟩
      refine tr_eff (o := ⟨some 39, _, _, _, _, _⟩) rfl rfl (fun K hKe => ?_)
      go_wp2_with fail
      refine (hst (HTM.out wm hkM) hLm (fun k hk => Nat.lt_of_lt_of_le (Nat.lt_of_lt_of_le (hAw k hk) hkwa.size) hkm.size) (Nat.le_refl _) (Nat.lt_of_lt_of_le (Nat.lt_of_lt_of_le hmb2 hwz) hkwa.size) hSm).mono ?_
      rintro e ws ⟨rfl, hL, hks⟩
      have bi := bim.keep hks hbm
      have hk := hkM.trans' hks
      have hBs := hBm.keep hks fun e => by have e2 : w2.heap.size = mb := e; omega
      have hsz := hwz
      refine hKe _ _ ⟨fun _ => ⟨bi, trivial⟩, ?_⟩
      apply tr_still (o := ⟨some 26, _, _, _, _, _⟩) rfl rfl
      · intro w' hS
        obtain ⟨q1, q2⟩ := hS
        first | (go_simp; done) | (go_simp; rfl) | rfl
      go_frame
      apply tr_still (o := ⟨some 40, _, _, _, _, _⟩) rfl rfl
      · intro w' hS
        obtain ⟨q1, q2⟩ := hS
        first | (go_simp; done) | (go_simp; rfl) | rfl
      go_frame
      apply tr_still (o := ⟨some 41, _, _, _, _, _⟩) rfl rfl
      · intro w' hS
        obtain ⟨q1, q2⟩ := hS
        first | (go_simp; done) | (go_simp; rfl) | rfl
      go_frame
      refine tr_eff (o := ⟨none, _, _, _, _, _⟩) rfl rfl (fun K hKe => ?_)
      refine wo_stAgg (.tmp 17) (.tmp 40) 30 rfl _ _ rfl rfl ?_
      refine rg_stAgg hBs (by rw [hto.1]; kernel_rfl) (by rw [hto.1]; rfl) hto.2 ?_
      intro wf hBf hkf hzf
      have bi_f := bi.keep hkf fun e => by have e2 : w.heap.size = w2.heap.size := e; omega
      have hLf := hL.keep hkf (fun j hj e => by have e2 : j = w2.heap.size := e; have := hj.2; omega) (fun j hj => by have := hj.2; have := hBs.lt; omega)
      have hkF : Keep (fun j => j = mb) w wf := hk.trans hkf fun j hj e => absurd hj (by have e2 : j = w2.heap.size := e; omega)
      refine hKe _ _ ⟨fun _ => ⟨bi_f, trivial⟩, ?_⟩
      apply tr_still (o := ⟨some 18, _, _, _, _, _⟩) rfl rfl
      · intro w' hS
        obtain ⟨q1, q2⟩ := hS
        first | (go_simp; done) | (go_simp; rfl) | rfl
      go_frame
      apply tr_nil
      have hgl : n2 ≤ w2.heap.size := hsz
      obtain ⟨gg, hgg⟩ : ∃ g, g = w2.heap.size := ⟨_, rfl⟩
      rw [← hgg] at hBf hgl
      try rw [← hgg]
      clear hgg hkf hzf bi hL hk hSm hKe
      revert hgl hkF hLf bi_f hBf
      revert gg dm wf
      exact HJ.out
  intro dm0 wx gx bi2 hL2 hk2 hgl hBf
  have hlg := hBf.lt
  have hns := HNS.out
  rw [← HRL.out, ← HER.out] at hns
  have hRw := hns.1
  have HW0 := Lib.hid hRw
  have hAx : ∀ k, (w1.heap.size ≤ k ∧ k < w2.heap.size) → k < wx.heap.size := fun k hk => by omega
  have hmd := fun W (hk : Keep No wx W) => tmarked_any (w := W) (hL2.no hAx hk) (by rw [HW0.out]; decide)
  rw [show RL.w.length = 0 by rw [HW0.out]; rfl] at hmd
  have HMD := Lib.hid hmd
  have hkend : ∀ W, Keep No wx W → Keep No w W := fun W hk => (hk2.trans hk fun _ _ h => h.elim).mono fun k hk3 e => absurd hk3 (by have e2 : k = mb := e; omega)
  have HKE := Lib.hid hkend
  rcases hns.2 with ⟨he, hmy, x, hx, hx2⟩ | ⟨he, hx⟩
  · obtain rfl : er = 0 := he
    obtain ⟨ho, ha, -, -⟩ := may_op hmy
    have hop : 1 ≤ op ∧ op ≤ 41 := by
      unfold isOp at ho
      simp at ho
      omega
    have hTR : TR = ((zT.set a.toNat x).map it).toArray := by rw [HTR.out, hx]
    have hcl : ∀ i, i < 32 → wx.cell? ⟨gx, i, none⟩ = some (.int .i64 (if i = a.toNat then x else 0)) := fun i hi => by
      rw [hBf.cell, hTR, List.getElem?_toArray, List.getElem?_map, List.getElem?_set]
      unfold zT
      rw [List.length_replicate, List.getElem?_replicate, if_pos hi]
      by_cases hia : a.toNat = i
      · rw [if_pos hia, if_pos (by omega), if_pos hia.symm]; rfl
      · rw [if_neg hia, if_neg (fun e => hia e.symm)]; rfl
    have HC := Lib.hid hcl
    have hgl2 : gx < wx.heap.size := hlg
    clear hns hx hTR hmy ho hcl hmd hBf bi2 hL2 hk2 hto hkend hRw
    go_wp2_with fail
    go_loopw [19, 20] (fun iv _ wr => ∃ i : Nat, iv = .int .i64 i ∧ i ≤ 32 ∧ wr = wx) (fun iv _ _ => 32 - (intOf iv).toNat)
    case atStart => exact ⟨0, rfl, by omega, rfl⟩
    case round =>
      obtain ⟨i, rfl, hi, rfl⟩ := hrel
      rcases Nat.lt_or_ge i 32 with hlt | hge
      · have hiz : (i : Int) < 32 := by omega
        have c0 := HC.out i hlt
        by_cases hv : (if i = a.toNat then x else 0) = 0
        · rw [hv] at c0
          have ho3 : op = 38 ∨ op = 35 ∨ op = 37 ∨ (op ≠ 38 ∧ op ≠ 35 ∧ op ≠ 37) := by omega
          rcases ho3 with rfl | rfl | rfl | ⟨g1, g2, g3⟩
          any_goals
            have g1' : (op == 38) = false := by simpa using g1
            have g2' : (op == 35) = false := by simpa using g2
            have g3' : (op == 37) = false := by simpa using g3
            clear g1 g2 g3
          all_goals
            go_wp2_with fail
            go_roundw
            case rel => exact ⟨i + 1, by go_num, hlt, trivial⟩
            case measure => simp [intOf]; omega
        · have hia : i = a.toNat := Classical.byContradiction fun e => hv (if_neg e)
          rw [if_pos hia] at c0 hv
          have hxz : (x != 0) = true := by simpa using hv
          have ha0 : a = (i : Int) := by
            subst hia
            rcases hx2 with h | h
            · exact absurd h hv
            · omega
          have ho3 : op = 38 ∨ op = 35 ∨ op = 37 := by omega
          clear hia
          subst ha0
          clear hx2
          rcases ho3 with rfl | rfl | rfl
          all_goals
            go_wp2_with fail
            go_roundw
            case rel => exact ⟨i + 1, by go_num, hlt, trivial⟩
            case measure => simp [intOf]; omega
      · obtain rfl : i = 32 := Nat.le_antisymm hi hge
        have hmd := HMD.out wr (Keep.refl _ _)
        unfold ptrTo at hmd
        go_wp2_with fail
        refine hmd.mono ?_
        rintro e W ⟨v2, rfl, ho, hkk⟩
        obtain ⟨a2, c2, rfl⟩ := own_shape ho
        go_wp2_with fail
        go_ret
        exact ⟨rfl, HKE.out W hkk⟩
  · obtain rfl : er = 50 := he
    have hTRz : TR = #[.int .i64 0, .int .i64 0, .int .i64 0, .int .i64 0, .int .i64 0, .int .i64 0, .int .i64 0, .int .i64 0, .int .i64 0, .int .i64 0, .int .i64 0, .int .i64 0, .int .i64 0, .int .i64 0, .int .i64 0, .int .i64 0, .int .i64 0, .int .i64 0, .int .i64 0, .int .i64 0, .int .i64 0, .int .i64 0, .int .i64 0, .int .i64 0, .int .i64 0, .int .i64 0, .int .i64 0, .int .i64 0, .int .i64 0, .int .i64 0, .int .i64 0, .int .i64 0] := by rw [HTR.out, hx]; rfl
    rw [hTRz] at hBf
    clear hns hx hTRz hmd bi2 hL2 hk2 hto hkend hRw HTR
    go_wp2_with (first | (with_reducible refine wl_ld rfl _ 30 rfl _ rfl ?_) | (with_reducible refine wl_eqg (by with_unfolding_all rfl) _ _ 30 _ rfl _ rfl rfl ?_))
    refine rg_ld hBf Tryd.underlying30 rfl (by kernel_rfl) ?_
    go_wp2_with (first | (with_reducible refine wl_ld rfl _ 30 rfl _ rfl ?_) | (with_reducible refine wl_eqg (by with_unfolding_all rfl) _ _ 30 _ rfl _ rfl rfl ?_))
    refine ⟨by kernel_rfl, run_equalIn_ints 9998 30 3 32 .i64 Tryd.underlying30 Tryd.underlying3 (fun w => by kernel_rfl) _ _ (fun i hi => ⟨0, ?_⟩), ?_⟩
    · have e : (#[.int .i64 0, .int .i64 0, .int .i64 0, .int .i64 0, .int .i64 0, .int .i64 0, .int .i64 0, .int .i64 0, .int .i64 0, .int .i64 0, .int .i64 0, .int .i64 0, .int .i64 0, .int .i64 0, .int .i64 0, .int .i64 0, .int .i64 0, .int .i64 0, .int .i64 0, .int .i64 0, .int .i64 0, .int .i64 0, .int .i64 0, .int .i64 0, .int .i64 0, .int .i64 0, .int .i64 0, .int .i64 0, .int .i64 0, .int .i64 0, .int .i64 0, .int .i64 0] : Array Value) = (List.replicate 32 (.int .i64 0)).toArray := rfl
      rw [e, List.getElem?_toArray, List.getElem?_replicate, if_pos hi]
    have hmd := HMD.out wx (Keep.refl _ _)
    unfold ptrTo at hmd
    go_wp2_with fail
    refine hmd.mono ?_
    rintro e W ⟨v2, rfl, ho, hkk⟩
    obtain ⟨a2, c2, rfl⟩ := own_shape ho
    go_wp2_with fail
    go_ret
    exact ⟨rfl, HKE.out W hkk⟩
end
end Go.Proofs.YthfekjnekaecaaaDoor
namespace Go.Proofs.YthfekjnekaecaaaDoor
open Go.Dm Go.Dm.Cp Go.ChangeShapes Go.WideShapes Go.ChangeAt Go.RowKit
theorem u64_nat {a : Int} (h : (Lit.int .u64 a).wf = true) : ∃ n : Nat, a = n ∧ n < 18446744073709551616 := by
  simp [Lit.wf, IntKind.min, IntKind.max, IntKind.signed, IntKind.bits] at h
  exact ⟨a.toNat, by omega, by omega⟩
theorem i32_bound {a : Int} (h : (Lit.int .i32 a).wf = true) : -2147483648 ≤ a ∧ a ≤ 2147483647 := by
  simp [Lit.wf, IntKind.min, IntKind.max, IntKind.signed, IntKind.bits] at h
  omega
/-- registers that came in -/
theorem regs_list {A : Nat → Prop} {W : World} {cs : List Value} {y : List Int} (h : Rd A W (.arr 32 (.int .u64)) cs y) : ∃ r : List Nat, r.length = 32 ∧ (∀ x ∈ r, x < 18446744073709551616) ∧ cs = r.map ru := by
  obtain ⟨css, rfl, h1, h2, h3⟩ := h
  have h2 : List.length y = 32 := h2
  have hw : ∀ i (hi : i < 32), css[i] = [Value.int .u64 (y[i]'(by omega))] ∧ (Lit.int .u64 (y[i]'(by omega))).wf = true := fun i hi =>
    h3 i _ _ (List.getElem?_eq_getElem (by omega)) (List.getElem?_eq_getElem (by omega))
  refine ⟨y.map Int.toNat, by simpa using h2, fun x hx => ?_, ?_⟩
  · obtain ⟨z, hz, rfl⟩ := List.mem_map.1 hx
    obtain ⟨i, hi, rfl⟩ := List.mem_iff_getElem.1 hz
    obtain ⟨n, e, hn⟩ := u64_nat (hw i (by omega)).2
    rw [e, Int.toNat_natCast]; exact hn
  · have e : css = (y.map Int.toNat).map fun x => [ru x] := by
      apply List.ext_getElem (by simp; omega)
      intro i hi hj
      have hi32 : i < 32 := by omega
      rw [(hw i hi32).1, List.getElem_map, List.getElem_map]
      obtain ⟨n, e, _⟩ := u64_nat (hw i hi32).2
      unfold ru
      rw [e, Int.toNat_natCast]
    rw [e]
    generalize y.map Int.toNat = l
    induction l with
    | nil => rfl
    | cons a r ih => simp only [List.map_cons, List.flatten_cons, ih]; rfl
end Go.Proofs.YthfekjnekaecaaaDoor
