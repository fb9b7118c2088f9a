/- FilesTidies. No condition. -/
import Derived.Test.YtkmoomgmmhmaeaaLawTidM
import Derived.Test.YtkmoomgmmhmaeaaLawNil
namespace Go.Proofs.Ytkmoomgmmhmaeaa
open Go.RowKit Go.Dm Go.Dm.Dk Go.Maps

theorem rsure_small (room : Nat) (s b : List UInt8) (hr : room ≤ 9223372036854775807) : Small (rsure room s b) 1 b.length := by
  refine ⟨Nat.le_refl _, Nat.le_refl _, fun f => ?_, fun f => ?_, (fun o ho => by cases ho), hr, Nat.zero_le _⟩
  · cases f <;> simp [rsure]
  · cases f <;> simp [rsure]
theorem rsure_crash (room : Nat) (s b : List UInt8) (k : List Bool) : Dk.crash (rsure room s b) k = rsure room s b := rfl
theorem rsure_readB (room : Nat) (s b : List UInt8) : readB (rsure room s b) s = b := by simp [readB, rsure, find]
theorem rsure_readE (room : Nat) (s b : List UInt8) : readE (rsure room s b) s = 0 := by simp [readE, rsure, find]
theorem rsure_tidy (room : Nat) (b : List UInt8) : tidyD (rsure room sa b) = (rsure room sa b, 0) := by
  unfold tidyD
  rw [sa_names rfl]
  rfl
theorem rsure_nm (room : Nat) (b : List UInt8) : NmOk (rsure room sa b) := by
  intro p hp
  simp only [rsure, List.mem_singleton] at hp
  subst hp
  decide
set_option maxRecDepth 100000 in
set_option maxHeartbeats 4000000 in
theorem awake11_any (w : World) : Calls Try.prog 28 #[] w fun e w' => e = .returned (.bool true) ∧ Keep No w w' := by
  have hs0 : Small (Dk.new 1000) 0 0 := Small.new 1000 (by omega)
  have hma : mayF [97] = true := by decide
  have hmn : mayF [110, 101, 119, 46, 97] = false := by decide
  have hz : (List.replicate 100 (0 : UInt8)).length = 100 := List.length_replicate
  have hr : replD (Dk.new 1000) [97] (List.replicate 100 0) = (rsure 1000 [97] (List.replicate 100 0), 0) := repl_new 1000 [97] (List.replicate 100 0) hma (by rw [hz]; omega)
  have hr2 : ∀ m, replD m [110, 101, 119, 46, 97] [] = (m, 1) := fun m => by simp [replD, hmn]
  have hpc : pieces 100 = 2 := by decide
  have hs1 := rsure_small 1000 [97] (List.replicate 100 0) (by omega)
  rw [hz] at hs1
  go_enter Try.func28, Try.ntmps28
  go_wp2_with (first | (at_builtin; refine wl_append rfl _ _ _ _ rfl _ _ rfl rfl ?_) | (at_make; refine wl_make rfl _ _ _ rfl _ _ rfl rfl ?_) | (at_mapUpdate; refine wl_mapUpdate rfl _ _ _ _ rfl _ _ _ rfl rfl rfl ?_) | (at_lookup; refine wl_lookup rfl _ _ _ _ rfl _ _ rfl rfl ?_) | (at_delete; refine wl_delete rfl _ _ _ _ rfl _ _ rfl rfl ?_) | (with_reducible refine wl_len rfl _ _ rfl _ rfl ?_) | (with_reducible refine wl_range rfl _ _ rfl _ rfl ?_) | (with_reducible refine wl_next rfl _ rfl _ rfl ?_) | (with_reducible refine wl_copy rfl _ _ _ _ rfl _ _ rfl rfl ?_) | (with_reducible refine wl_max rfl _ _ _ _ rfl _ _ rfl rfl ?_) | (with_reducible refine wl_min rfl _ _ _ _ rfl _ _ rfl rfl ?_))
  refine (new_own 1000 w (fun k => w.heap.size ≤ k) (fun _ h => h)).mono ?_
  rintro e w1 ⟨d, rfl, h1, k1⟩
  unfold ptrTo
  go_wp2_with (first | (at_builtin; refine wl_append rfl _ _ _ _ rfl _ _ rfl rfl ?_) | (at_make; refine wl_make rfl _ _ _ rfl _ _ rfl rfl ?_) | (at_mapUpdate; refine wl_mapUpdate rfl _ _ _ _ rfl _ _ _ rfl rfl rfl ?_) | (at_lookup; refine wl_lookup rfl _ _ _ _ rfl _ _ rfl rfl ?_) | (at_delete; refine wl_delete rfl _ _ _ _ rfl _ _ rfl rfl ?_) | (with_reducible refine wl_len rfl _ _ rfl _ rfl ?_) | (with_reducible refine wl_range rfl _ _ rfl _ rfl ?_) | (with_reducible refine wl_next rfl _ rfl _ rfl ?_) | (with_reducible refine wl_copy rfl _ _ _ _ rfl _ _ rfl rfl ?_) | (with_reducible refine wl_max rfl _ _ _ _ rfl _ _ rfl rfl ?_) | (with_reducible refine wl_min rfl _ _ _ _ rfl _ _ rfl rfl ?_))
  refine rg_make 5 (.int .u8 0) 1 1 Try.underlying29 info_u8 (n := 100) (by decide) (by unfold maxLen; decide) ?_
  intro w2 hb2 k2
  have hb : Bts (fun k => k = w1.heap.size) w2 (.slice (some ⟨w1.heap.size, 0, none⟩) (List.replicate 100 (0 : UInt8)).length (List.replicate 100 (0 : UInt8)).length) (List.replicate 100 0) := by
    rw [madeCells_u8] at hb2
    exact Bts.of_blk hb2 (by rw [hz]; unfold maxLen; decide)
  have hO2 : Own (fun k => w.heap.size ≤ k ∧ k ≠ w1.heap.size) w2 d (Dk.new 1000) := by
    have h2 : DR (fun k => w.heap.size ≤ k ∧ k < w1.heap.size) w1 d (Dk.new 1000) := h1
    exact (DR.keep h2 (fun k hk => hk.2) k2 fun _ _ h => h).mono fun k hk ha => ⟨⟨ha.1, by have := ha.2; omega⟩, hk⟩
  have hlt2 := hb2.lt
  have hkw2 := k1.trans' k2
  have hsz2 := k1.size
  rw [hz] at hb
  have hz100 : (List.replicate 100 (0 : UInt8)).length = 100 := hz
  generalize hzz : List.replicate 100 (0 : UInt8) = zs at *
  clear h1 k1 k2 hb2
  unfold Bts at hb
  rw [hz] at hb
  have hb3 : Bts (fun k => k = w1.heap.size) w2 (.slice (some ⟨w1.heap.size, 0, none⟩) 100 100) zs := by unfold Bts; rw [hz]; exact hb
  go_wp2_with (first | (at_builtin; refine wl_append rfl _ _ _ _ rfl _ _ rfl rfl ?_) | (at_make; refine wl_make rfl _ _ _ rfl _ _ rfl rfl ?_) | (at_mapUpdate; refine wl_mapUpdate rfl _ _ _ _ rfl _ _ _ rfl rfl rfl ?_) | (at_lookup; refine wl_lookup rfl _ _ _ _ rfl _ _ rfl rfl ?_) | (at_delete; refine wl_delete rfl _ _ _ _ rfl _ _ rfl rfl ?_) | (with_reducible refine wl_len rfl _ _ rfl _ rfl ?_) | (with_reducible refine wl_range rfl _ _ rfl _ rfl ?_) | (with_reducible refine wl_next rfl _ rfl _ rfl ?_) | (with_reducible refine wl_copy rfl _ _ _ _ rfl _ _ rfl rfl ?_) | (with_reducible refine wl_max rfl _ _ _ _ rfl _ _ rfl rfl ?_) | (with_reducible refine wl_min rfl _ _ _ _ rfl _ _ rfl rfl ?_))
  refine (freplace_any (P := fun k => w.heap.size ≤ k ∧ k ≠ w1.heap.size) [97] zs hO2 (fun k hk => ⟨by omega, by omega⟩) hs0 (by rw [hz, hpc]; omega) (by rw [hz, hpc]; omega) (by decide) hb3 (fun k hk hp => hp.2 hk)).mono ?_
  rintro e w3 ⟨rfl, h3, k3⟩
  rw [hr] at h3 ⊢
  have hO3 : Own (fun k => w.heap.size ≤ k) w3 d (rsure 1000 [97] zs) := DR.mono h3 fun k hk ha => ⟨ha.1.1, hk⟩
  have hK3 : Keep (fun k => w.heap.size ≤ k) w w3 := (hkw2.mono fun _ _ h => h.elim).trans k3 fun j _ hj => hj.1
  clear hO2 hkw2 h3 k3 hb hb3 hlt2 hsz2 hr
  have hcr := rsure_crash 1000 [97] zs []
  have hrb := rsure_readB 1000 [97] zs
  have hre := rsure_readE 1000 [97] zs
  have htd := rsure_tidy 1000 zs
  have hnm := rsure_nm 1000 zs
  unfold sa at htd hnm
  generalize rsure 1000 [97] zs = m1 at *
  go_wp2_with (first | (at_builtin; refine wl_append rfl _ _ _ _ rfl _ _ rfl rfl ?_) | (at_make; refine wl_make rfl _ _ _ rfl _ _ rfl rfl ?_) | (at_mapUpdate; refine wl_mapUpdate rfl _ _ _ _ rfl _ _ _ rfl rfl rfl ?_) | (at_lookup; refine wl_lookup rfl _ _ _ _ rfl _ _ rfl rfl ?_) | (at_delete; refine wl_delete rfl _ _ _ _ rfl _ _ rfl rfl ?_) | (with_reducible refine wl_len rfl _ _ rfl _ rfl ?_) | (with_reducible refine wl_range rfl _ _ rfl _ rfl ?_) | (with_reducible refine wl_next rfl _ rfl _ rfl ?_) | (with_reducible refine wl_copy rfl _ _ _ _ rfl _ _ rfl rfl ?_) | (with_reducible refine wl_max rfl _ _ _ _ rfl _ _ rfl rfl ?_) | (with_reducible refine wl_min rfl _ _ _ _ rfl _ _ rfl rfl ?_))
  refine (crash_own (P := fun k => w.heap.size ≤ k) (B := No) [] hO3 (fun j hj => hj) (fun j hj => Nat.le_trans hK3.size hj) hs1 (by omega) (by omega) (Sl.nil _ _ _) (fun _ h => h.elim)).mono ?_
  rintro e w4 ⟨rfl, hO4, k4⟩
  rw [hcr] at hO4
  have hK4 := hK3.trans k4 fun j _ h => h.1
  clear hO3 hK3 k4 hcr
  go_wp2_with (first | (at_builtin; refine wl_append rfl _ _ _ _ rfl _ _ rfl rfl ?_) | (at_make; refine wl_make rfl _ _ _ rfl _ _ rfl rfl ?_) | (at_mapUpdate; refine wl_mapUpdate rfl _ _ _ _ rfl _ _ _ rfl rfl rfl ?_) | (at_lookup; refine wl_lookup rfl _ _ _ _ rfl _ _ rfl rfl ?_) | (at_delete; refine wl_delete rfl _ _ _ _ rfl _ _ rfl rfl ?_) | (with_reducible refine wl_len rfl _ _ rfl _ rfl ?_) | (with_reducible refine wl_range rfl _ _ rfl _ rfl ?_) | (with_reducible refine wl_next rfl _ rfl _ rfl ?_) | (with_reducible refine wl_copy rfl _ _ _ _ rfl _ _ rfl rfl ?_) | (with_reducible refine wl_max rfl _ _ _ _ rfl _ _ rfl rfl ?_) | (with_reducible refine wl_min rfl _ _ _ _ rfl _ _ rfl rfl ?_))
  refine (fload_ok [97] hO4 hs1 (by omega) (by decide) hma).mono ?_
  rintro e w5 ⟨v', rfl, hv, k5⟩
  rw [hrb] at hv
  rw [hre]
  obtain ⟨av, cv, rfl, _, _⟩ := (Sl.of_own hv).shape
  have hO5 := hO4.keep k5 fun _ _ h => h
  have hK5 := hK4.trans' (k5.mono fun _ _ h => h.elim)
  clear hO4 hK4 k5 hv hrb hre
  have hz' : (zs.length : Int) = 100 := by omega
  rw [hz]
  go_wp2_with (first | (at_builtin; refine wl_append rfl _ _ _ _ rfl _ _ rfl rfl ?_) | (at_make; refine wl_make rfl _ _ _ rfl _ _ rfl rfl ?_) | (at_mapUpdate; refine wl_mapUpdate rfl _ _ _ _ rfl _ _ _ rfl rfl rfl ?_) | (at_lookup; refine wl_lookup rfl _ _ _ _ rfl _ _ rfl rfl ?_) | (at_delete; refine wl_delete rfl _ _ _ _ rfl _ _ rfl rfl ?_) | (with_reducible refine wl_len rfl _ _ rfl _ rfl ?_) | (with_reducible refine wl_range rfl _ _ rfl _ rfl ?_) | (with_reducible refine wl_next rfl _ rfl _ rfl ?_) | (with_reducible refine wl_copy rfl _ _ _ _ rfl _ _ rfl rfl ?_) | (with_reducible refine wl_max rfl _ _ _ _ rfl _ _ rfl rfl ?_) | (with_reducible refine wl_min rfl _ _ _ _ rfl _ _ rfl rfl ?_))
  refine (freplace_any (P := fun k => w.heap.size ≤ k) (B := No) [110, 101, 119, 46, 97] [] hO5 (fun k hk => Nat.le_trans hK5.size hk) hs1 (by decide) (by decide) (by decide) (Sl.nil _ _ _) (fun k hk => hk.elim)).mono ?_
  rintro e w6 ⟨rfl, hO6, k6⟩
  rw [hr2] at hO6 ⊢
  have hK6 := hK5.trans' k6
  clear hO5 hK5 k6
  go_wp2_with (first | (at_builtin; refine wl_append rfl _ _ _ _ rfl _ _ rfl rfl ?_) | (at_make; refine wl_make rfl _ _ _ rfl _ _ rfl rfl ?_) | (at_mapUpdate; refine wl_mapUpdate rfl _ _ _ _ rfl _ _ _ rfl rfl rfl ?_) | (at_lookup; refine wl_lookup rfl _ _ _ _ rfl _ _ rfl rfl ?_) | (at_delete; refine wl_delete rfl _ _ _ _ rfl _ _ rfl rfl ?_) | (with_reducible refine wl_len rfl _ _ rfl _ rfl ?_) | (with_reducible refine wl_range rfl _ _ rfl _ rfl ?_) | (with_reducible refine wl_next rfl _ rfl _ rfl ?_) | (with_reducible refine wl_copy rfl _ _ _ _ rfl _ _ rfl rfl ?_) | (with_reducible refine wl_max rfl _ _ _ _ rfl _ _ rfl rfl ?_) | (with_reducible refine wl_min rfl _ _ _ _ rfl _ _ rfl rfl ?_))
  refine (ftidy_any hO6 (fun k hk => Nat.le_trans hK6.size hk) hs1 (by omega) (by omega) hnm).mono ?_
  rintro e w7 ⟨rfl, hO7, k7⟩
  rw [htd]
  have hK7 := hK6.trans' k7
  go_wp2_with (first | (at_builtin; refine wl_append rfl _ _ _ _ rfl _ _ rfl rfl ?_) | (at_make; refine wl_make rfl _ _ _ rfl _ _ rfl rfl ?_) | (at_mapUpdate; refine wl_mapUpdate rfl _ _ _ _ rfl _ _ _ rfl rfl rfl ?_) | (at_lookup; refine wl_lookup rfl _ _ _ _ rfl _ _ rfl rfl ?_) | (at_delete; refine wl_delete rfl _ _ _ _ rfl _ _ rfl rfl ?_) | (with_reducible refine wl_len rfl _ _ rfl _ rfl ?_) | (with_reducible refine wl_range rfl _ _ rfl _ rfl ?_) | (with_reducible refine wl_next rfl _ rfl _ rfl ?_) | (with_reducible refine wl_copy rfl _ _ _ _ rfl _ _ rfl rfl ?_) | (with_reducible refine wl_max rfl _ _ _ _ rfl _ _ rfl rfl ?_) | (with_reducible refine wl_min rfl _ _ _ _ rfl _ _ rfl rfl ?_))
  go_ret
  exact ⟨rfl, hK7.os, hK7.tape, hK7.output, hK7.size, fun j hj _ => hK7.block j hj (by omega)⟩

theorem rep_getD (i f : Nat) : ((List.replicate i ([] : List UInt8)).getD f []).length = 0 := by
  rw [List.getD_eq_getElem?_getD, List.getElem?_replicate]
  by_cases h : f < i <;> simp [h]
theorem tdr_small (b : List UInt8) : ∀ i, i ≤ 3 → Small (tdr b i) (1 + i) (b.length + 5 * i)
  | 0, _ => rsure_small 5000 sa b (by omega)
  | i + 1, h => by
    have h1 := (tdr_small b i (by omega)).call (b := 5) 1 (drafts3 i) [] 0 [] (by unfold drafts3; split <;> decide) (by decide) (by decide)
    exact h1.mono (by omega) (by omega)
theorem tdr_nm (b : List UInt8) (i : Nat) (hi : i ≤ 3) : NmOk (tdr b i) := by
  rcases (by omega : i = 0 ∨ i = 1 ∨ i = 2 ∨ i = 3) with rfl | rfl | rfl | rfl
  · exact rsure_nm 5000 b
  · show ∀ p ∈ ([(sa, 0), (drafts3 0, 1)] : Names), p.1.length ≤ 64
    decide
  · show ∀ p ∈ ([(sa, 0), (drafts3 0, 1), (drafts3 1, 2)] : Names), p.1.length ≤ 64
    decide
  · show ∀ p ∈ ([(sa, 0), (drafts3 0, 1), (drafts3 1, 2), (drafts3 2, 3)] : Names), p.1.length ≤ 64
    decide
set_option maxRecDepth 100000 in
set_option maxHeartbeats 4000000 in
theorem filestidies_any (body : List UInt8) (vb : Value) (dr : Int) (w : World) (hb : Bts (fun k => k < w.heap.size) w vb body) :
    Calls Try.prog 8 #[vb, .int .i64 dr] w fun e w' => e = .returned (.bool true) ∧ Keep No w w' := by
  obtain ⟨ba, bc, rfl, hbc, hbm⟩ := hb.shape
  unfold maxLen at hbm
  have er : bits .and .i64 dr 3 = (mask dr 3 : Int) := mask_eq dr 3 (by omega)
  have hr3 := mask_le dr 3
  generalize mask dr 3 = r at *
  have hma : mayF [97] = true := by decide
  go_enter Try.func8, Try.ntmps8
  go_wp2_with (first | (at_builtin; refine wl_append rfl _ _ _ _ rfl _ _ rfl rfl ?_) | (at_make; refine wl_make rfl _ _ _ rfl _ _ rfl rfl ?_) | (at_mapUpdate; refine wl_mapUpdate rfl _ _ _ _ rfl _ _ _ rfl rfl rfl ?_) | (at_lookup; refine wl_lookup rfl _ _ _ _ rfl _ _ rfl rfl ?_) | (at_delete; refine wl_delete rfl _ _ _ _ rfl _ _ rfl rfl ?_) | (with_reducible refine wl_len rfl _ _ rfl _ rfl ?_) | (with_reducible refine wl_range rfl _ _ rfl _ rfl ?_) | (with_reducible refine wl_next rfl _ rfl _ rfl ?_) | (with_reducible refine wl_copy rfl _ _ _ _ rfl _ _ rfl rfl ?_) | (with_reducible refine wl_max rfl _ _ _ _ rfl _ _ rfl rfl ?_) | (with_reducible refine wl_min rfl _ _ _ _ rfl _ _ rfl rfl ?_))
  refine (awake11_any w).mono ?_
  rintro e w0 ⟨rfl, k0⟩
  have hlb : 500 < body.length ∨ body.length ≤ 500 := by omega
  rcases hlb with hlb | hlb
  · have hlb' : (500 : Int) < (body.length : Int) := by omega
    go_wp2_with (first | (at_builtin; refine wl_append rfl _ _ _ _ rfl _ _ rfl rfl ?_) | (at_make; refine wl_make rfl _ _ _ rfl _ _ rfl rfl ?_) | (at_mapUpdate; refine wl_mapUpdate rfl _ _ _ _ rfl _ _ _ rfl rfl rfl ?_) | (at_lookup; refine wl_lookup rfl _ _ _ _ rfl _ _ rfl rfl ?_) | (at_delete; refine wl_delete rfl _ _ _ _ rfl _ _ rfl rfl ?_) | (with_reducible refine wl_len rfl _ _ rfl _ rfl ?_) | (with_reducible refine wl_range rfl _ _ rfl _ rfl ?_) | (with_reducible refine wl_next rfl _ rfl _ rfl ?_) | (with_reducible refine wl_copy rfl _ _ _ _ rfl _ _ rfl rfl ?_) | (with_reducible refine wl_max rfl _ _ _ _ rfl _ _ rfl rfl ?_) | (with_reducible refine wl_min rfl _ _ _ _ rfl _ _ rfl rfl ?_))
    go_ret
    exact ⟨rfl, k0⟩
  have hlb' : (body.length : Int) ≤ 500 := by omega
  go_wp2_with (first | (at_builtin; refine wl_append rfl _ _ _ _ rfl _ _ rfl rfl ?_) | (at_make; refine wl_make rfl _ _ _ rfl _ _ rfl rfl ?_) | (at_mapUpdate; refine wl_mapUpdate rfl _ _ _ _ rfl _ _ _ rfl rfl rfl ?_) | (at_lookup; refine wl_lookup rfl _ _ _ _ rfl _ _ rfl rfl ?_) | (at_delete; refine wl_delete rfl _ _ _ _ rfl _ _ rfl rfl ?_) | (with_reducible refine wl_len rfl _ _ rfl _ rfl ?_) | (with_reducible refine wl_range rfl _ _ rfl _ rfl ?_) | (with_reducible refine wl_next rfl _ rfl _ rfl ?_) | (with_reducible refine wl_copy rfl _ _ _ _ rfl _ _ rfl rfl ?_) | (with_reducible refine wl_max rfl _ _ _ _ rfl _ _ rfl rfl ?_) | (with_reducible refine wl_min rfl _ _ _ _ rfl _ _ rfl rfl ?_))
  refine (new_own 5000 w0 (fun k => w.heap.size ≤ k) (fun _ h => Nat.le_trans k0.size h)).mono ?_
  rintro e w1 ⟨d, rfl, h1, k1⟩
  unfold ptrTo
  have hK1 : Keep (fun k => w.heap.size ≤ k) w w1 := (k0.trans' k1).mono fun _ _ h => h.elim
  clear k0 k1
  have hs0 : Small (Dk.new 5000) 0 0 := Small.new 5000 (by omega)
  have hr : replD (Dk.new 5000) [97] body = (rsure 5000 [97] body, 0) := repl_new 5000 [97] body hma (by omega)
  have hpc : pieces body.length ≤ 8 := by unfold pieces; omega
  have hs1 := rsure_small 5000 [97] body (by omega)
  have hb1 : Bts (fun k => k < w.heap.size) w1 (.slice ba body.length bc) body := Sl.keep hb hK1 fun j hj _ h => absurd h (Nat.not_le.2 hj)
  go_wp2_with (first | (at_builtin; refine wl_append rfl _ _ _ _ rfl _ _ rfl rfl ?_) | (at_make; refine wl_make rfl _ _ _ rfl _ _ rfl rfl ?_) | (at_mapUpdate; refine wl_mapUpdate rfl _ _ _ _ rfl _ _ _ rfl rfl rfl ?_) | (at_lookup; refine wl_lookup rfl _ _ _ _ rfl _ _ rfl rfl ?_) | (at_delete; refine wl_delete rfl _ _ _ _ rfl _ _ rfl rfl ?_) | (with_reducible refine wl_len rfl _ _ rfl _ rfl ?_) | (with_reducible refine wl_range rfl _ _ rfl _ rfl ?_) | (with_reducible refine wl_next rfl _ rfl _ rfl ?_) | (with_reducible refine wl_copy rfl _ _ _ _ rfl _ _ rfl rfl ?_) | (with_reducible refine wl_max rfl _ _ _ _ rfl _ _ rfl rfl ?_) | (with_reducible refine wl_min rfl _ _ _ _ rfl _ _ rfl rfl ?_))
  refine (freplace_any (P := fun k => w.heap.size ≤ k) [97] body h1 (fun k hk => Nat.le_trans hK1.size hk) hs0 (by omega) (by omega) (by decide) hb1 (fun k hk hp => absurd hk (Nat.not_lt.2 hp))).mono ?_
  rintro e w2 ⟨rfl, h2, k2⟩
  rw [hr] at h2 ⊢
  have hK2 := hK1.trans' k2
  clear h1 hK1 k2 hb1 hr hpc hs0
  go_wp2_with (first | (at_builtin; refine wl_append rfl _ _ _ _ rfl _ _ rfl rfl ?_) | (at_make; refine wl_make rfl _ _ _ rfl _ _ rfl rfl ?_) | (at_mapUpdate; refine wl_mapUpdate rfl _ _ _ _ rfl _ _ _ rfl rfl rfl ?_) | (at_lookup; refine wl_lookup rfl _ _ _ _ rfl _ _ rfl rfl ?_) | (at_delete; refine wl_delete rfl _ _ _ _ rfl _ _ rfl rfl ?_) | (with_reducible refine wl_len rfl _ _ rfl _ rfl ?_) | (with_reducible refine wl_range rfl _ _ rfl _ rfl ?_) | (with_reducible refine wl_next rfl _ rfl _ rfl ?_) | (with_reducible refine wl_copy rfl _ _ _ _ rfl _ _ rfl rfl ?_) | (with_reducible refine wl_max rfl _ _ _ _ rfl _ _ rfl rfl ?_) | (with_reducible refine wl_min rfl _ _ _ _ rfl _ _ rfl rfl ?_))
  have hka : Keep No w2 (w2.alloc (.cells #[.string ⟨#[110, 101, 119, 46, 97]⟩, .string ⟨#[110, 101, 119, 46]⟩, .string ⟨#[110, 101, 119, 46, 98]⟩] 9)) := (Keep.refl _ _).alloc _
  have hBl : Blk (w2.alloc (.cells #[.string ⟨#[110, 101, 119, 46, 97]⟩, .string ⟨#[110, 101, 119, 46]⟩, .string ⟨#[110, 101, 119, 46, 98]⟩] 9)) w2.heap.size #[.string ⟨#[110, 101, 119, 46, 97]⟩, .string ⟨#[110, 101, 119, 46]⟩, .string ⟨#[110, 101, 119, 46, 98]⟩] 9 := Blk.new _ _ _
  have hza : (w2.alloc (.cells #[.string ⟨#[110, 101, 119, 46, 97]⟩, .string ⟨#[110, 101, 119, 46]⟩, .string ⟨#[110, 101, 119, 46, 98]⟩] 9)).heap.size = w2.heap.size + 1 := World.size_alloc _ _
  generalize w2.alloc (.cells #[.string ⟨#[110, 101, 119, 46, 97]⟩, .string ⟨#[110, 101, 119, 46]⟩, .string ⟨#[110, 101, 119, 46, 98]⟩] 9) = w3 at *
  have hO3 : Own (fun k => w.heap.size ≤ k ∧ k ≠ w2.heap.size) w3 d (tdr body 0) := by
    have h3 : DR (fun k => w.heap.size ≤ k ∧ k < w2.heap.size) w2 d (rsure 5000 [97] body) := h2
    exact (DR.keep h3 (fun k hk => hk.2) hka fun _ _ h => h).mono fun k hk ha => ⟨⟨ha.1, by have := ha.2; omega⟩, hk⟩
  have hK3 := hK2.trans' (hka.mono fun _ _ h => h.elim)
  have hwl : w.heap.size ≤ w2.heap.size := hK2.size
  clear h2 hK2 hka hs1
  go_loopw [8] (fun iv wr => ∃ i : Nat, iv = .int .i64 i ∧ i ≤ r ∧ Own (fun k => w.heap.size ≤ k ∧ k ≠ w2.heap.size) wr d (tdr body i) ∧ Keep (fun k => w.heap.size ≤ k ∧ k ≠ w2.heap.size) w3 wr) (fun iv _ => r - (intOf iv).toNat)
  case atStart => exact ⟨0, rfl, Nat.zero_le _, hO3, Keep.refl _ _⟩
  case round =>
    clear hO3
    obtain ⟨i, rfl, hi, hO, hK⟩ := hrel
    have hB := hBl.keep hK fun h => h.2 rfl
    rcases Nat.lt_or_ge i r with hir | hir
    · have hi3 : i < 3 := by omega
      have q : wr.cell? ⟨w2.heap.size, i, none⟩ = some (.string ⟨(drafts3 i).toArray⟩) := by
        rw [hB.cell]
        rcases (by omega : i = 0 ∨ i = 1 ∨ i = 2) with rfl | rfl | rfl <;> rfl
      have hir' : (i : Int) < (r : Int) := by omega
      have hi3' : (i : Int) < 3 := by omega
      have herr := tdr_err body i hi3
      have hsm := tdr_small body i (by omega)
      have hdl : (drafts3 i).length ≤ 1000 := by unfold drafts3; split <;> decide
      have hnx : tdr body (i + 1) = (call (tdr body i) 1 (drafts3 i) [] 0 []).1 := rfl
      have HN := Lib.hid hnx
      clear hnx
      generalize tdr body i = mi at *
      generalize drafts3 i = di at *
      go_wp2_with (first | (at_builtin; refine wl_append rfl _ _ _ _ rfl _ _ rfl rfl ?_) | (at_make; refine wl_make rfl _ _ _ rfl _ _ rfl rfl ?_) | (at_mapUpdate; refine wl_mapUpdate rfl _ _ _ _ rfl _ _ _ rfl rfl rfl ?_) | (at_lookup; refine wl_lookup rfl _ _ _ _ rfl _ _ rfl rfl ?_) | (at_delete; refine wl_delete rfl _ _ _ _ rfl _ _ rfl rfl ?_) | (with_reducible refine wl_len rfl _ _ rfl _ rfl ?_) | (with_reducible refine wl_range rfl _ _ rfl _ rfl ?_) | (with_reducible refine wl_next rfl _ rfl _ rfl ?_) | (with_reducible refine wl_copy rfl _ _ _ _ rfl _ _ rfl rfl ?_) | (with_reducible refine wl_max rfl _ _ _ _ rfl _ _ rfl rfl ?_) | (with_reducible refine wl_min rfl _ _ _ _ rfl _ _ rfl rfl ?_))
      refine (create_own di hO (fun k hk => ⟨by have := hK.size; omega, by have := hK.size; omega⟩) hsm (by omega) (by omega) hdl).mono ?_
      rintro e x ⟨rfl, hO2, k2⟩
      rw [herr]
      rw [← HN.out] at hO2
      have hKx := hK.trans' k2
      clear hO hK k2 hsm herr
      go_wp2_with (first | (at_builtin; refine wl_append rfl _ _ _ _ rfl _ _ rfl rfl ?_) | (at_make; refine wl_make rfl _ _ _ rfl _ _ rfl rfl ?_) | (at_mapUpdate; refine wl_mapUpdate rfl _ _ _ _ rfl _ _ _ rfl rfl rfl ?_) | (at_lookup; refine wl_lookup rfl _ _ _ _ rfl _ _ rfl rfl ?_) | (at_delete; refine wl_delete rfl _ _ _ _ rfl _ _ rfl rfl ?_) | (with_reducible refine wl_len rfl _ _ rfl _ rfl ?_) | (with_reducible refine wl_range rfl _ _ rfl _ rfl ?_) | (with_reducible refine wl_next rfl _ rfl _ rfl ?_) | (with_reducible refine wl_copy rfl _ _ _ _ rfl _ _ rfl rfl ?_) | (with_reducible refine wl_max rfl _ _ _ _ rfl _ _ rfl rfl ?_) | (with_reducible refine wl_min rfl _ _ _ _ rfl _ _ rfl rfl ?_))
      go_roundw
      case rel => exact ⟨i + 1, by go_num, by omega, hO2, hKx⟩
      case measure => simp [intOf]; omega
    · obtain rfl : i = r := by omega
      have hO2 : Own (fun k => w.heap.size ≤ k) wr d (tdr body i) := DR.mono hO fun k hk ha => ⟨ha.1.1, hk⟩
      have hK2 : Keep (fun k => w.heap.size ≤ k) w wr := hK3.trans hK fun j _ h => h.1
      have hsm := tdr_small body i hr3
      have hnm := tdr_nm body i hr3
      have htd := tdr_tidy body i hr3
      have hr4 : (i : Int) ≤ 3 := by omega
      generalize tdr body i = mi at *
      clear hO hK hB hBl hK3 hza
      go_wp2_with (first | (at_builtin; refine wl_append rfl _ _ _ _ rfl _ _ rfl rfl ?_) | (at_make; refine wl_make rfl _ _ _ rfl _ _ rfl rfl ?_) | (at_mapUpdate; refine wl_mapUpdate rfl _ _ _ _ rfl _ _ _ rfl rfl rfl ?_) | (at_lookup; refine wl_lookup rfl _ _ _ _ rfl _ _ rfl rfl ?_) | (at_delete; refine wl_delete rfl _ _ _ _ rfl _ _ rfl rfl ?_) | (with_reducible refine wl_len rfl _ _ rfl _ rfl ?_) | (with_reducible refine wl_range rfl _ _ rfl _ rfl ?_) | (with_reducible refine wl_next rfl _ rfl _ rfl ?_) | (with_reducible refine wl_copy rfl _ _ _ _ rfl _ _ rfl rfl ?_) | (with_reducible refine wl_max rfl _ _ _ _ rfl _ _ rfl rfl ?_) | (with_reducible refine wl_min rfl _ _ _ _ rfl _ _ rfl rfl ?_))
      refine (ftidy_any hO2 (fun k hk => Nat.le_trans hK2.size hk) hsm (by omega) (by omega) hnm).mono ?_
      rintro e x ⟨rfl, hO4, k4⟩
      rw [htd] at hO4 ⊢
      have hK4 := hK2.trans' k4
      have hrb : readB ⟨5000, body :: List.replicate i [], body :: List.replicate i [], [(sa, 0)], [(sa, 0)], [], false, 0⟩ [97] = body := rfl
      have hre : readE ⟨5000, body :: List.replicate i [], body :: List.replicate i [], [(sa, 0)], [(sa, 0)], [], false, 0⟩ [97] = 0 := rfl
      have hnl : (namesOf ⟨5000, body :: List.replicate i [], body :: List.replicate i [], [(sa, 0)], [(sa, 0)], [], false, 0⟩).length = 1 := by rw [sa_names rfl]; rfl
      have hsx : Small ⟨5000, body :: List.replicate i [], body :: List.replicate i [], [(sa, 0)], [(sa, 0)], [], false, 0⟩ 1 500 := by
        refine ⟨Nat.le_refl _, Nat.le_refl _, fun f => ?_, fun f => ?_, (fun o ho => by cases ho), by show 5000 ≤ _; omega, Nat.zero_le _⟩
        · cases f with
          | zero => simpa using hlb
          | succ f => show ((List.replicate i ([] : List UInt8)).getD f []).length ≤ 500; rw [rep_getD]; omega
        · cases f with
          | zero => simpa using hlb
          | succ f => show ((List.replicate i ([] : List UInt8)).getD f []).length ≤ 500; rw [rep_getD]; omega
      have hwt : (⟨5000, body :: List.replicate i [], body :: List.replicate i [], [(sa, 0)], [(sa, 0)], [], false, 0⟩ : M).wait.length = 0 := rfl
      generalize (⟨5000, body :: List.replicate i [], body :: List.replicate i [], [(sa, 0)], [(sa, 0)], [], false, 0⟩ : M) = mx at *
      clear hO2 hK2 k4 hsm hnm htd
      go_wp2_with (first | (at_builtin; refine wl_append rfl _ _ _ _ rfl _ _ rfl rfl ?_) | (at_make; refine wl_make rfl _ _ _ rfl _ _ rfl rfl ?_) | (at_mapUpdate; refine wl_mapUpdate rfl _ _ _ _ rfl _ _ _ rfl rfl rfl ?_) | (at_lookup; refine wl_lookup rfl _ _ _ _ rfl _ _ rfl rfl ?_) | (at_delete; refine wl_delete rfl _ _ _ _ rfl _ _ rfl rfl ?_) | (with_reducible refine wl_len rfl _ _ rfl _ rfl ?_) | (with_reducible refine wl_range rfl _ _ rfl _ rfl ?_) | (with_reducible refine wl_next rfl _ rfl _ rfl ?_) | (with_reducible refine wl_copy rfl _ _ _ _ rfl _ _ rfl rfl ?_) | (with_reducible refine wl_max rfl _ _ _ _ rfl _ _ rfl rfl ?_) | (with_reducible refine wl_min rfl _ _ _ _ rfl _ _ rfl rfl ?_))
      refine (fload_ok [97] hO4 hsx (by omega) (by decide) hma).mono ?_
      rintro e x5 ⟨v', rfl, hv, k5⟩
      rw [hrb] at hv
      rw [hre]
      obtain ⟨av, cv, rfl, _, _⟩ := (Sl.of_own hv).shape
      have hO5 := hO4.keep k5 fun _ _ h => h
      have hK5 := hK4.trans' (k5.mono fun _ _ h => h.elim)
      have hc1 := conv_str (Sl.of_own hv)
      have hc2 := conv_str (Sl.keep hb hK5 fun j hj _ h => absurd h (Nat.not_le.2 hj))
      clear hO4 hK4 k5
      go_wp2_with (first | (at_builtin; refine wl_append rfl _ _ _ _ rfl _ _ rfl rfl ?_) | (at_make; refine wl_make rfl _ _ _ rfl _ _ rfl rfl ?_) | (at_mapUpdate; refine wl_mapUpdate rfl _ _ _ _ rfl _ _ _ rfl rfl rfl ?_) | (at_lookup; refine wl_lookup rfl _ _ _ _ rfl _ _ rfl rfl ?_) | (at_delete; refine wl_delete rfl _ _ _ _ rfl _ _ rfl rfl ?_) | (with_reducible refine wl_len rfl _ _ rfl _ rfl ?_) | (with_reducible refine wl_range rfl _ _ rfl _ rfl ?_) | (with_reducible refine wl_next rfl _ rfl _ rfl ?_) | (with_reducible refine wl_copy rfl _ _ _ _ rfl _ _ rfl rfl ?_) | (with_reducible refine wl_max rfl _ _ _ _ rfl _ _ rfl rfl ?_) | (with_reducible refine wl_min rfl _ _ _ _ rfl _ _ rfl rfl ?_))
      refine (names_own hO5 hsx (by omega)).mono ?_
      rintro e x6 ⟨v6, rfl, hv6, k6⟩
      rw [hnl] at hv6
      obtain ⟨av6, cv6, rfl, _, _⟩ := (Sl.of_own hv6).shape
      have hO6 := hO5.keep k6 fun _ _ h => h
      have hK6 := hK5.trans' (k6.mono fun _ _ h => h.elim)
      clear hO5 hK5 k6 hc1 hc2
      go_wp2_with (first | (at_builtin; refine wl_append rfl _ _ _ _ rfl _ _ rfl rfl ?_) | (at_make; refine wl_make rfl _ _ _ rfl _ _ rfl rfl ?_) | (at_mapUpdate; refine wl_mapUpdate rfl _ _ _ _ rfl _ _ _ rfl rfl rfl ?_) | (at_lookup; refine wl_lookup rfl _ _ _ _ rfl _ _ rfl rfl ?_) | (at_delete; refine wl_delete rfl _ _ _ _ rfl _ _ rfl rfl ?_) | (with_reducible refine wl_len rfl _ _ rfl _ rfl ?_) | (with_reducible refine wl_range rfl _ _ rfl _ rfl ?_) | (with_reducible refine wl_next rfl _ rfl _ rfl ?_) | (with_reducible refine wl_copy rfl _ _ _ _ rfl _ _ rfl rfl ?_) | (with_reducible refine wl_max rfl _ _ _ _ rfl _ _ rfl rfl ?_) | (with_reducible refine wl_min rfl _ _ _ _ rfl _ _ rfl rfl ?_))
      refine (pending_any _ hO6).mono ?_
      rintro e x7 ⟨rfl, rfl⟩
      rw [hwt]
      go_wp2_with (first | (at_builtin; refine wl_append rfl _ _ _ _ rfl _ _ rfl rfl ?_) | (at_make; refine wl_make rfl _ _ _ rfl _ _ rfl rfl ?_) | (at_mapUpdate; refine wl_mapUpdate rfl _ _ _ _ rfl _ _ _ rfl rfl rfl ?_) | (at_lookup; refine wl_lookup rfl _ _ _ _ rfl _ _ rfl rfl ?_) | (at_delete; refine wl_delete rfl _ _ _ _ rfl _ _ rfl rfl ?_) | (with_reducible refine wl_len rfl _ _ rfl _ rfl ?_) | (with_reducible refine wl_range rfl _ _ rfl _ rfl ?_) | (with_reducible refine wl_next rfl _ rfl _ rfl ?_) | (with_reducible refine wl_copy rfl _ _ _ _ rfl _ _ rfl rfl ?_) | (with_reducible refine wl_max rfl _ _ _ _ rfl _ _ rfl rfl ?_) | (with_reducible refine wl_min rfl _ _ _ _ rfl _ _ rfl rfl ?_))
      refine (ftidy_nil _).mono ?_
      rintro e x8 ⟨rfl, k8⟩
      have hK8 := hK6.trans' (k8.mono fun _ _ h => h.elim)
      go_wp2_with (first | (at_builtin; refine wl_append rfl _ _ _ _ rfl _ _ rfl rfl ?_) | (at_make; refine wl_make rfl _ _ _ rfl _ _ rfl rfl ?_) | (at_mapUpdate; refine wl_mapUpdate rfl _ _ _ _ rfl _ _ _ rfl rfl rfl ?_) | (at_lookup; refine wl_lookup rfl _ _ _ _ rfl _ _ rfl rfl ?_) | (at_delete; refine wl_delete rfl _ _ _ _ rfl _ _ rfl rfl ?_) | (with_reducible refine wl_len rfl _ _ rfl _ rfl ?_) | (with_reducible refine wl_range rfl _ _ rfl _ rfl ?_) | (with_reducible refine wl_next rfl _ rfl _ rfl ?_) | (with_reducible refine wl_copy rfl _ _ _ _ rfl _ _ rfl rfl ?_) | (with_reducible refine wl_max rfl _ _ _ _ rfl _ _ rfl rfl ?_) | (with_reducible refine wl_min rfl _ _ _ _ rfl _ _ rfl rfl ?_))
      go_ret
      exact ⟨rfl, hK8.os, hK8.tape, hK8.output, hK8.size, fun j hj _ => hK8.block j hj (by omega)⟩
end Go.Proofs.Ytkmoomgmmhmaeaa
