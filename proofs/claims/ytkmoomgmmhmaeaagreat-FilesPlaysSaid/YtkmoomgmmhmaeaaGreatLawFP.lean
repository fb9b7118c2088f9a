/- FilesTidies: files as lists: no program. awake of the files. Masks of few bits. Names and bodies of the files' law. Which names a disk of the files' law has: no program. FilesPlays. No condition. -/
import Derived.Test.YtkmoomgmmhmaeaaGreatLawAwake
import Derived.Test.YtkmoomgmmhmaeaaGreatRefNmM
import Derived.Test.YtkmoomgmmhmaeaaGreatFileT
import Derived.Test.YtkmoomgmmhmaeaaGreatRd
import Derived.Test.YtkmoomgmmhmaeaaGreatDiskF
import Derived.Test.YtkmoomgmmhmaeaaGreatDiskR
import Derived.Test.YtkmoomgmmhmaeaaGreatLikeF
import Derived.Test.YtkmoomgmmhmaeaaGreatFileR
namespace Go.Dm.Dk

/-- a file that is made, and written up to its k-th piece -/
def rw1 (room : Nat) (t b : List UInt8) (k : Nat) : M := ⟨room, [b.take (64 * k)], [[]], [(t, 0)], [], ⟨2, 0, 0, [], [], t⟩ :: (List.range k).map (fun j => ⟨1, 0, 64 * j, (b.drop (64 * j)).take 64, [], []⟩), false, 0⟩
theorem laid_take (b : List UInt8) (k : Nat) (h : 64 * k < b.length) : laidB (b.take (64 * k)) (64 * k) ((b.drop (64 * k)).take 64) = b.take (64 * (k + 1)) := by
  have hl : (b.take (64 * k)).length = 64 * k := by rw [List.length_take]; omega
  unfold laidB
  have e0 : splice (List.replicate (max (b.take (64 * k)).length (64 * k + ((b.drop (64 * k)).take 64).length)) (0 : UInt8)) 0 (b.take (64 * k)) = b.take (64 * k) ++ List.replicate ((b.drop (64 * k)).take 64).length 0 := by
    unfold splice
    rw [List.take_zero, List.nil_append, Nat.zero_add, List.drop_replicate, hl]
    congr 2; omega
  rw [e0]
  unfold splice
  rw [List.take_left' hl, List.drop_append, hl]
  have e1 : (b.take (64 * k)).drop (64 * k + ((b.drop (64 * k)).take 64).length) = [] := List.drop_eq_nil_of_le (by omega)
  have e2 : (List.replicate ((b.drop (64 * k)).take 64).length (0 : UInt8)).drop (64 * k + ((b.drop (64 * k)).take 64).length - 64 * k) = [] := List.drop_eq_nil_of_le (by rw [List.length_replicate]; omega)
  rw [e1, e2, List.append_nil, List.append_nil]
  rw [show 64 * (k + 1) = 64 * k + 64 by omega, List.take_add]
theorem rw1_step (room : Nat) (t b : List UInt8) (k : Nat) (h : 64 * k < b.length) (hr : b.length ≤ room) : (writeS t b k).on (rw1 room t b k) = (rw1 room t b (k + 1), 0) := by
  have hl : (b.take (64 * k)).length = 64 * k := by rw [List.length_take]; omega
  have hf : find (rw1 room t b k).L t = some 0 := by simp [rw1, find]
  have hfl : fileLen (rw1 room t b k).is 0 = 64 * k := by simp only [fileLen, rw1, List.getD_cons_zero]; exact hl
  have hu : used (rw1 room t b k) = 64 * k := by simp only [used, rw1, List.map_cons, List.map_nil, List.sum_cons, List.sum_nil]; exact hfl
  have hc : ((b.drop (64 * k)).take 64).length ≤ b.length - 64 * k := by rw [List.length_take, List.length_drop]; omega
  have hown : own (rw1 room t b k) 2 t [] ((64 * k : Nat) : Int) ((b.drop (64 * k)).take 64) = 0 := by
    simp only [own, hf, hfl, hu]
    rw [if_neg (by omega), if_neg]
    rintro ⟨_, h2⟩
    have h3 : ((rw1 room t b k).room : Int) = room := rfl
    rw [h3, Int.toNat_natCast] at h2
    omega
  unfold Cl.on writeS call
  simp only
  rw [hown]
  rw [if_neg (by simp [rw1]), if_neg (by simp), if_neg (by simp [rw1])]
  congr 1
  have e1 : done { rw1 room t b k with cut := (rw1 room t b k).cut - 1 } 2 t [] ((64 * k : Nat) : Int) ((b.drop (64 * k)).take 64) = waitD (rw1 room t b k) ⟨1, 0, 64 * k, (b.drop (64 * k)).take 64, [], []⟩ := by
    simp only [done]
    rw [show find ({ rw1 room t b k with cut := (rw1 room t b k).cut - 1 } : M).L t = some 0 from hf]
    rfl
  rw [e1]
  simp only [waitD, if_pos, rw1, putF, List.getD_cons_zero, laid_take b k h]
  simp [List.range_succ]
theorem rw1_go (room : Nat) (t b : List UInt8) (hr : b.length ≤ room) : ∀ k, k ≤ pieces b.length → runS (rw1 room t b 0) ((List.range k).map (writeS t b)) = (rw1 room t b k, 0)
  | 0, _ => rfl
  | k + 1, h => by
    have h64 : 64 * k < b.length := by unfold pieces at h; omega
    rw [List.range_succ, List.map_append, runS_append, rw1_go room t b hr k (by omega)]
    simp only [if_true]
    rw [List.map_cons, List.map_nil, runS_cons, rw1_step room t b k h64 hr]
    rfl
/-- what is sure, behind a sync of all writes -/
theorem settle_writes (room : Nat) (b : List UInt8) (sel : Nat → Bool) (n : Nat) (hsel : ∀ j, 1 ≤ j → j ≤ pieces b.length → sel j = true) (is : List (List UInt8)) (L S : Names) (wt : List Op) : ∀ k, k ≤ pieces b.length →
    settleGo sel (pieces b.length - k + 1) ((List.range' (pieces b.length - k) k).map (fun j => ⟨1, 0, 64 * j, (b.drop (64 * j)).take 64, [], []⟩)) ⟨room, is, [b.take (64 * (pieces b.length - k))], L, S, wt, false, n⟩ = ⟨room, is, [b], L, S, wt, false, n⟩
  | 0, _ => by
    simp only [List.range'_zero, List.map_nil, settleGo, Nat.sub_zero]
    rw [List.take_of_length_le (by unfold pieces; omega)]
  | k + 1, hk => by
    rw [List.range'_succ, List.map_cons]
    have hp : pieces b.length - (k + 1) + 1 = pieces b.length - k := by omega
    have ih := settle_writes room b sel n hsel is L S wt k (by omega)
    have hs1 : settle1 (sel (pieces b.length - (k + 1) + 1)) ⟨1, 0, 64 * (pieces b.length - (k + 1)), (b.drop (64 * (pieces b.length - (k + 1)))).take 64, [], []⟩ ⟨room, is, [b.take (64 * (pieces b.length - (k + 1)))], L, S, wt, false, n⟩ = ⟨room, is, [b.take (64 * (pieces b.length - k))], L, S, wt, false, n⟩ := by
      unfold settle1
      rw [hsel _ (by omega) (by omega)]
      simp only [Bool.not_true, Bool.false_eq_true, if_false, if_true, putF, List.getD_cons_zero, List.set_cons_zero]
      rw [laid_take b _ (by unfold pieces at hk ⊢; omega), hp]
    show settleGo sel (pieces b.length - (k + 1) + 1 + 1) _ (settle1 _ _ _) = _
    rw [hs1, hp]
    exact ih
def rsure (room : Nat) (s b : List UInt8) : M := ⟨room, [b], [b], [(s, 0)], [(s, 0)], [], false, 0⟩
theorem repl_new (room : Nat) (s b : List UInt8) (hs : mayF s = true) (hr : b.length ≤ room) : replD (Dk.new (room : Int)) s b = (rsure room s b, 0) := by
  have hne : s ≠ [] := by
    intro e; subst e; simp [mayF] at hs
  have ht : newS ++ s ≠ s := fun e => by have := congrArg List.length e; rw [List.length_append] at this; simp [newS] at this
  unfold replD
  rw [if_pos hs]
  have hnm : namesOf (Dk.new (room : Int)) = [] := by simp [namesOf, Dk.new]
  unfold stepsS
  rw [hnm, List.filter_nil, List.flatMap_nil, List.nil_append]
  generalize htt : newS ++ s = t at *
  have htn : t ≠ [] := by rw [← htt]; simp [newS]
  rw [runS_append, runS_append]
  have h1 : runS (Dk.new (room : Int)) [⟨1, t, [], 0, []⟩] = (rw1 room t b 0, 0) := by
    have e1 : (⟨1, t, [], 0, []⟩ : Cl).on (Dk.new (room : Int)) = (rw1 room t b 0, 0) := by
      unfold Cl.on call
      have hown : own (Dk.new (room : Int)) 1 t [] 0 [] = 0 := by simp [own, htn, find, Dk.new]
      simp only
      rw [show ((0 : Nat) : Int) = 0 from rfl, hown, if_neg (by simp [Dk.new]), if_neg (by simp), if_neg (by simp [Dk.new])]
      simp [done, waitD, Dk.new, rw1, namesOp, withN, without]
    rw [runS_cons, e1]; rfl
  rw [h1]
  simp only [if_true]
  have h2 := rw1_go room t b hr (pieces b.length) (Nat.le_refl _)
  unfold writesS
  rw [h2]
  simp only [if_true]
  have hfull : b.take (64 * pieces b.length) = b := List.take_of_length_le (by unfold pieces; omega)
  -- the sync
  have h3 : (⟨3, t, [], 0, []⟩ : Cl).on (rw1 room t b (pieces b.length)) = (⟨room, [b], [b], [(t, 0)], [], [⟨2, 0, 0, [], [], t⟩], false, 0⟩, 0) := by
    unfold Cl.on call
    have hown : own (rw1 room t b (pieces b.length)) 3 t [] ((0 : Nat) : Int) [] = 0 := by simp [own, rw1, find]
    simp only
    rw [hown, if_neg (by simp [rw1]), if_neg (by simp), if_neg (by simp [rw1])]
    congr 1
    simp only [done, settle]
    have hf : (find ({ rw1 room t b (pieces b.length) with cut := (rw1 room t b (pieces b.length)).cut - 1 } : M).L t).getD 0 = 0 := by simp [rw1, find]
    rw [hf]
    show settleGo (fun i => match (rw1 room t b (pieces b.length)).wait[i]? with | some o => o.kind == 1 && o.file == 0 | none => false) 0 (rw1 room t b (pieces b.length)).wait _ = _
    have hsel : ∀ j, 1 ≤ j → j ≤ pieces b.length → (fun i => match (rw1 room t b (pieces b.length)).wait[i]? with | some o => o.kind == 1 && o.file == 0 | none => false) j = true := by
      intro j h1 h2
      obtain ⟨j, rfl⟩ : ∃ i, j = i + 1 := ⟨j - 1, by omega⟩
      simp only [rw1, List.getElem?_cons_succ, List.getElem?_map, List.getElem?_range (show j < pieces b.length by omega), Option.map_some]
      rfl
    have hsel0 : (fun i => match (rw1 room t b (pieces b.length)).wait[i]? with | some o => o.kind == 1 && o.file == 0 | none => false) 0 = false := rfl
    generalize (fun (i : Nat) => match (rw1 room t b (pieces b.length)).wait[i]? with | some (o : Op) => o.kind == 1 && o.file == 0 | none => false) = sel at *
    have h := settle_writes room b sel 0 hsel [b] [(t, 0)] [] [⟨2, 0, 0, [], [], t⟩] (pieces b.length) (Nat.le_refl _)
    rw [Nat.sub_self, Nat.mul_zero, List.take_zero, ← List.range_eq_range'] at h
    simp only [rw1, hfull]
    show settleGo sel (0 + 1) _ (settle1 (sel 0) _ _) = _
    rw [hsel0]
    exact h
  have h4 : runS (rw1 room t b (pieces b.length)) (endS t s) = (rsure room s b, 0) := by
    unfold endS
    rw [runS_cons, h3]
    simp only [if_true]
    have hts : (t == s) = false := by simpa using ht
    have h5 : (⟨4, t, s, 0, []⟩ : Cl).on ⟨room, [b], [b], [(t, 0)], [], [⟨2, 0, 0, [], [], t⟩], false, 0⟩ = (⟨room, [b], [b], [(s, 0)], [], [⟨2, 0, 0, [], [], t⟩, ⟨3, 0, 0, [], t, s⟩], false, 0⟩, 0) := by
      simp [Cl.on, call, own, find, hne, done, waitD, namesOp, withN, without]
    rw [runS_cons, h5]
    simp only [if_true]
    have h6 : (⟨6, [], [], 0, []⟩ : Cl).on ⟨room, [b], [b], [(s, 0)], [], [⟨2, 0, 0, [], [], t⟩, ⟨3, 0, 0, [], t, s⟩], false, 0⟩ = (rsure room s b, 0) := by
      simp [Cl.on, call, own, done, settle, settleGo, settle1, namesOp, withN, without, find, rsure]
    rw [runS_cons, h6]
    rfl
  exact h4

def sa : List UInt8 := [97]
def drafts3 : Nat → List UInt8
  | 0 => [110, 101, 119, 46, 97] | 1 => [110, 101, 119, 46] | _ => [110, 101, 119, 46, 98]
def tdr (b : List UInt8) : Nat → M
  | 0 => rsure 5000 sa b
  | i + 1 => (call (tdr b i) 1 (drafts3 i) [] 0 []).1
theorem tdr_err (b : List UInt8) (i : Nat) (hi : i < 3) : (call (tdr b i) 1 (drafts3 i) [] 0 []).2 = 0 := by
  rcases (by omega : i = 0 ∨ i = 1 ∨ i = 2) with rfl | rfl | rfl <;> rfl
theorem names_unique {m : M} {l : List (List UInt8)} (hp : l.Perm (m.L.map (·.1))) (hs : l.Pairwise (· < ·)) : namesOf m = l := by
  have h1 : (namesOf m).Perm (m.L.map (·.1)) := List.mergeSort_perm _ _
  have hnd : (m.L.map (·.1)).Nodup := hp.nodup_iff.1 (hs.imp fun h e => by subst e; exact List.lt_irrefl _ h)
  have h2 : (namesOf m).Pairwise (· < ·) := sorted_strict hnd
  exact (h1.trans hp.symm).eq_of_pairwise (fun a b _ _ h1 h2 => absurd (List.lt_trans h1 h2) (List.lt_irrefl _)) h2 hs
def tnames : Nat → List (List UInt8)
  | 0 => [sa] | 1 => [sa, drafts3 0] | 2 => [sa, drafts3 1, drafts3 0] | _ => [sa, drafts3 1, drafts3 0, drafts3 2]
theorem tdr_names (b : List UInt8) (i : Nat) (hi : i ≤ 3) : namesOf (tdr b i) = tnames i := by
  rcases (by omega : i = 0 ∨ i = 1 ∨ i = 2 ∨ i = 3) with rfl | rfl | rfl | rfl
  · exact names_unique (show [sa].Perm [sa] from List.Perm.refl _) (by decide)
  · exact names_unique (show [sa, drafts3 0].Perm [sa, drafts3 0] from List.Perm.refl _) (by decide)
  · exact names_unique (show [sa, drafts3 1, drafts3 0].Perm [sa, drafts3 0, drafts3 1] from by decide) (by decide)
  · exact names_unique (show [sa, drafts3 1, drafts3 0, drafts3 2].Perm [sa, drafts3 0, drafts3 1, drafts3 2] from by decide) (by decide)
theorem tdr_tidy (b : List UInt8) (i : Nat) (hi : i ≤ 3) : tidyD (tdr b i) = (⟨5000, b :: List.replicate i [], b :: List.replicate i [], [(sa, 0)], [(sa, 0)], [], false, 0⟩, 0) := by
  unfold tidyD
  rw [tdr_names b i hi]
  rcases (by omega : i = 0 ∨ i = 1 ∨ i = 2 ∨ i = 3) with rfl | rfl | rfl | rfl
  · kernel_rfl
  · kernel_rfl
  · kernel_rfl
  · kernel_rfl
theorem sa_names {m : M} (h : m.L = [(sa, 0)]) : namesOf m = [sa] := names_unique (by rw [h]; exact List.Perm.refl _) (by decide)
end Go.Dm.Dk
namespace Go.Proofs.YtkmoomgmmhmaeaaGreat
open Go.RowKit Go.Dm Go.Dm.Dk Go.Maps

theorem rsure_small (room : Nat) (s b : List UInt8) (hr : room ≤ 9223372036854775807) : Small (rsure room s b) 1 b.length := by
  refine ⟨Nat.le_refl _, Nat.le_refl _, fun f => ?_, fun f => ?_, (fun o ho => by cases ho), hr, Nat.zero_le _⟩
  · cases f <;> simp [rsure]
  · cases f <;> simp [rsure]
theorem rsure_crash (room : Nat) (s b : List UInt8) (k : List Bool) : Dk.crash (rsure room s b) k = rsure room s b := rfl
theorem rsure_readB (room : Nat) (s b : List UInt8) : readB (rsure room s b) s = b := by simp [readB, rsure, find]
theorem rsure_readE (room : Nat) (s b : List UInt8) : readE (rsure room s b) s = 0 := by simp [readE, rsure, find]
theorem rsure_tidy (room : Nat) (b : List UInt8) : tidyD (rsure room sa b) = (rsure room sa b, 0) := by
  unfold tidyD
  rw [sa_names rfl]
  rfl
theorem rsure_nm (room : Nat) (b : List UInt8) : NmOk (rsure room sa b) := by
  intro p hp
  simp only [rsure, List.mem_singleton] at hp
  subst hp
  decide
set_option maxRecDepth 100000 in
set_option maxHeartbeats 4000000 in
theorem awake11_any (w : World) : Calls Tryz.prog 4 #[] w fun e w' => e = .returned (.bool true) ∧ Keep No w w' := by
  have hs0 : Small (Dk.new 1000) 0 0 := Small.new 1000 (by omega)
  have hma : mayF [97] = true := by decide
  have hmn : mayF [110, 101, 119, 46, 97] = false := by decide
  have hz : (List.replicate 100 (0 : UInt8)).length = 100 := List.length_replicate
  have hr : replD (Dk.new 1000) [97] (List.replicate 100 0) = (rsure 1000 [97] (List.replicate 100 0), 0) := repl_new 1000 [97] (List.replicate 100 0) hma (by rw [hz]; omega)
  have hr2 : ∀ m, replD m [110, 101, 119, 46, 97] [] = (m, 1) := fun m => by simp [replD, hmn]
  have hpc : pieces 100 = 2 := by decide
  have hs1 := rsure_small 1000 [97] (List.replicate 100 0) (by omega)
  rw [hz] at hs1
  go_enter Tryz.func4, Tryz.ntmps4
  go_wp2_with (first | (at_builtin; refine wl_append rfl _ _ _ _ rfl _ _ rfl rfl ?_) | (at_make; refine wl_make rfl _ _ _ rfl _ _ rfl rfl ?_) | (at_mapUpdate; refine wl_mapUpdate rfl _ _ _ _ rfl _ _ _ rfl rfl rfl ?_) | (at_lookup; refine wl_lookup rfl _ _ _ _ rfl _ _ rfl rfl ?_) | (at_delete; refine wl_delete rfl _ _ _ _ rfl _ _ rfl rfl ?_) | (with_reducible refine wl_len rfl _ _ rfl _ rfl ?_) | (with_reducible refine wl_range rfl _ _ rfl _ rfl ?_) | (with_reducible refine wl_next rfl _ rfl _ rfl ?_) | (with_reducible refine wl_copy rfl _ _ _ _ rfl _ _ rfl rfl ?_) | (with_reducible refine wl_max rfl _ _ _ _ rfl _ _ rfl rfl ?_) | (with_reducible refine wl_min rfl _ _ _ _ rfl _ _ rfl rfl ?_))
  refine (new_own 1000 w (fun k => w.heap.size ≤ k) (fun _ h => h)).mono ?_
  rintro e w1 ⟨d, rfl, h1, k1⟩
  unfold ptrTo
  go_wp2_with (first | (at_builtin; refine wl_append rfl _ _ _ _ rfl _ _ rfl rfl ?_) | (at_make; refine wl_make rfl _ _ _ rfl _ _ rfl rfl ?_) | (at_mapUpdate; refine wl_mapUpdate rfl _ _ _ _ rfl _ _ _ rfl rfl rfl ?_) | (at_lookup; refine wl_lookup rfl _ _ _ _ rfl _ _ rfl rfl ?_) | (at_delete; refine wl_delete rfl _ _ _ _ rfl _ _ rfl rfl ?_) | (with_reducible refine wl_len rfl _ _ rfl _ rfl ?_) | (with_reducible refine wl_range rfl _ _ rfl _ rfl ?_) | (with_reducible refine wl_next rfl _ rfl _ rfl ?_) | (with_reducible refine wl_copy rfl _ _ _ _ rfl _ _ rfl rfl ?_) | (with_reducible refine wl_max rfl _ _ _ _ rfl _ _ rfl rfl ?_) | (with_reducible refine wl_min rfl _ _ _ _ rfl _ _ rfl rfl ?_))
  refine rg_make 5 (.int .u8 0) 1 1 Tryz.underlying46 info_u8 (n := 100) (by decide) (by unfold maxLen; decide) ?_
  intro w2 hb2 k2
  have hb : Bts (fun k => k = w1.heap.size) w2 (.slice (some ⟨w1.heap.size, 0, none⟩) (List.replicate 100 (0 : UInt8)).length (List.replicate 100 (0 : UInt8)).length) (List.replicate 100 0) := by
    rw [madeCells_u8] at hb2
    exact Bts.of_blk hb2 (by rw [hz]; unfold maxLen; decide)
  have hO2 : Own (fun k => w.heap.size ≤ k ∧ k ≠ w1.heap.size) w2 d (Dk.new 1000) := by
    have h2 : DR (fun k => w.heap.size ≤ k ∧ k < w1.heap.size) w1 d (Dk.new 1000) := h1
    exact (DR.keep h2 (fun k hk => hk.2) k2 fun _ _ h => h).mono fun k hk ha => ⟨⟨ha.1, by have := ha.2; omega⟩, hk⟩
  have hlt2 := hb2.lt
  have hkw2 := k1.trans' k2
  have hsz2 := k1.size
  rw [hz] at hb
  have hz100 : (List.replicate 100 (0 : UInt8)).length = 100 := hz
  generalize hzz : List.replicate 100 (0 : UInt8) = zs at *
  clear h1 k1 k2 hb2
  unfold Bts at hb
  rw [hz] at hb
  have hb3 : Bts (fun k => k = w1.heap.size) w2 (.slice (some ⟨w1.heap.size, 0, none⟩) 100 100) zs := by unfold Bts; rw [hz]; exact hb
  go_wp2_with (first | (at_builtin; refine wl_append rfl _ _ _ _ rfl _ _ rfl rfl ?_) | (at_make; refine wl_make rfl _ _ _ rfl _ _ rfl rfl ?_) | (at_mapUpdate; refine wl_mapUpdate rfl _ _ _ _ rfl _ _ _ rfl rfl rfl ?_) | (at_lookup; refine wl_lookup rfl _ _ _ _ rfl _ _ rfl rfl ?_) | (at_delete; refine wl_delete rfl _ _ _ _ rfl _ _ rfl rfl ?_) | (with_reducible refine wl_len rfl _ _ rfl _ rfl ?_) | (with_reducible refine wl_range rfl _ _ rfl _ rfl ?_) | (with_reducible refine wl_next rfl _ rfl _ rfl ?_) | (with_reducible refine wl_copy rfl _ _ _ _ rfl _ _ rfl rfl ?_) | (with_reducible refine wl_max rfl _ _ _ _ rfl _ _ rfl rfl ?_) | (with_reducible refine wl_min rfl _ _ _ _ rfl _ _ rfl rfl ?_))
  refine (freplace_any (P := fun k => w.heap.size ≤ k ∧ k ≠ w1.heap.size) [97] zs hO2 (fun k hk => ⟨by omega, by omega⟩) hs0 (by rw [hz, hpc]; omega) (by rw [hz, hpc]; omega) (by decide) hb3 (fun k hk hp => hp.2 hk)).mono ?_
  rintro e w3 ⟨rfl, h3, k3⟩
  rw [hr] at h3 ⊢
  have hO3 : Own (fun k => w.heap.size ≤ k) w3 d (rsure 1000 [97] zs) := DR.mono h3 fun k hk ha => ⟨ha.1.1, hk⟩
  have hK3 : Keep (fun k => w.heap.size ≤ k) w w3 := (hkw2.mono fun _ _ h => h.elim).trans k3 fun j _ hj => hj.1
  clear hO2 hkw2 h3 k3 hb hb3 hlt2 hsz2 hr
  have hcr := rsure_crash 1000 [97] zs []
  have hrb := rsure_readB 1000 [97] zs
  have hre := rsure_readE 1000 [97] zs
  have htd := rsure_tidy 1000 zs
  have hnm := rsure_nm 1000 zs
  unfold sa at htd hnm
  generalize rsure 1000 [97] zs = m1 at *
  go_wp2_with (first | (at_builtin; refine wl_append rfl _ _ _ _ rfl _ _ rfl rfl ?_) | (at_make; refine wl_make rfl _ _ _ rfl _ _ rfl rfl ?_) | (at_mapUpdate; refine wl_mapUpdate rfl _ _ _ _ rfl _ _ _ rfl rfl rfl ?_) | (at_lookup; refine wl_lookup rfl _ _ _ _ rfl _ _ rfl rfl ?_) | (at_delete; refine wl_delete rfl _ _ _ _ rfl _ _ rfl rfl ?_) | (with_reducible refine wl_len rfl _ _ rfl _ rfl ?_) | (with_reducible refine wl_range rfl _ _ rfl _ rfl ?_) | (with_reducible refine wl_next rfl _ rfl _ rfl ?_) | (with_reducible refine wl_copy rfl _ _ _ _ rfl _ _ rfl rfl ?_) | (with_reducible refine wl_max rfl _ _ _ _ rfl _ _ rfl rfl ?_) | (with_reducible refine wl_min rfl _ _ _ _ rfl _ _ rfl rfl ?_))
  refine (crash_own (P := fun k => w.heap.size ≤ k) (B := No) [] hO3 (fun j hj => hj) (fun j hj => Nat.le_trans hK3.size hj) hs1 (by omega) (by omega) (Sl.nil _ _ _) (fun _ h => h.elim)).mono ?_
  rintro e w4 ⟨rfl, hO4, k4⟩
  rw [hcr] at hO4
  have hK4 := hK3.trans k4 fun j _ h => h.1
  clear hO3 hK3 k4 hcr
  go_wp2_with (first | (at_builtin; refine wl_append rfl _ _ _ _ rfl _ _ rfl rfl ?_) | (at_make; refine wl_make rfl _ _ _ rfl _ _ rfl rfl ?_) | (at_mapUpdate; refine wl_mapUpdate rfl _ _ _ _ rfl _ _ _ rfl rfl rfl ?_) | (at_lookup; refine wl_lookup rfl _ _ _ _ rfl _ _ rfl rfl ?_) | (at_delete; refine wl_delete rfl _ _ _ _ rfl _ _ rfl rfl ?_) | (with_reducible refine wl_len rfl _ _ rfl _ rfl ?_) | (with_reducible refine wl_range rfl _ _ rfl _ rfl ?_) | (with_reducible refine wl_next rfl _ rfl _ rfl ?_) | (with_reducible refine wl_copy rfl _ _ _ _ rfl _ _ rfl rfl ?_) | (with_reducible refine wl_max rfl _ _ _ _ rfl _ _ rfl rfl ?_) | (with_reducible refine wl_min rfl _ _ _ _ rfl _ _ rfl rfl ?_))
  refine (fload_ok [97] hO4 hs1 (by omega) (by decide) hma).mono ?_
  rintro e w5 ⟨v', rfl, hv, k5⟩
  rw [hrb] at hv
  rw [hre]
  obtain ⟨av, cv, rfl, _, _⟩ := (Sl.of_own hv).shape
  have hO5 := hO4.keep k5 fun _ _ h => h
  have hK5 := hK4.trans' (k5.mono fun _ _ h => h.elim)
  clear hO4 hK4 k5 hv hrb hre
  have hz' : (zs.length : Int) = 100 := by omega
  rw [hz]
  go_wp2_with (first | (at_builtin; refine wl_append rfl _ _ _ _ rfl _ _ rfl rfl ?_) | (at_make; refine wl_make rfl _ _ _ rfl _ _ rfl rfl ?_) | (at_mapUpdate; refine wl_mapUpdate rfl _ _ _ _ rfl _ _ _ rfl rfl rfl ?_) | (at_lookup; refine wl_lookup rfl _ _ _ _ rfl _ _ rfl rfl ?_) | (at_delete; refine wl_delete rfl _ _ _ _ rfl _ _ rfl rfl ?_) | (with_reducible refine wl_len rfl _ _ rfl _ rfl ?_) | (with_reducible refine wl_range rfl _ _ rfl _ rfl ?_) | (with_reducible refine wl_next rfl _ rfl _ rfl ?_) | (with_reducible refine wl_copy rfl _ _ _ _ rfl _ _ rfl rfl ?_) | (with_reducible refine wl_max rfl _ _ _ _ rfl _ _ rfl rfl ?_) | (with_reducible refine wl_min rfl _ _ _ _ rfl _ _ rfl rfl ?_))
  refine (freplace_any (P := fun k => w.heap.size ≤ k) (B := No) [110, 101, 119, 46, 97] [] hO5 (fun k hk => Nat.le_trans hK5.size hk) hs1 (by decide) (by decide) (by decide) (Sl.nil _ _ _) (fun k hk => hk.elim)).mono ?_
  rintro e w6 ⟨rfl, hO6, k6⟩
  rw [hr2] at hO6 ⊢
  have hK6 := hK5.trans' k6
  clear hO5 hK5 k6
  go_wp2_with (first | (at_builtin; refine wl_append rfl _ _ _ _ rfl _ _ rfl rfl ?_) | (at_make; refine wl_make rfl _ _ _ rfl _ _ rfl rfl ?_) | (at_mapUpdate; refine wl_mapUpdate rfl _ _ _ _ rfl _ _ _ rfl rfl rfl ?_) | (at_lookup; refine wl_lookup rfl _ _ _ _ rfl _ _ rfl rfl ?_) | (at_delete; refine wl_delete rfl _ _ _ _ rfl _ _ rfl rfl ?_) | (with_reducible refine wl_len rfl _ _ rfl _ rfl ?_) | (with_reducible refine wl_range rfl _ _ rfl _ rfl ?_) | (with_reducible refine wl_next rfl _ rfl _ rfl ?_) | (with_reducible refine wl_copy rfl _ _ _ _ rfl _ _ rfl rfl ?_) | (with_reducible refine wl_max rfl _ _ _ _ rfl _ _ rfl rfl ?_) | (with_reducible refine wl_min rfl _ _ _ _ rfl _ _ rfl rfl ?_))
  refine (ftidy_any hO6 (fun k hk => Nat.le_trans hK6.size hk) hs1 (by omega) (by omega) hnm).mono ?_
  rintro e w7 ⟨rfl, hO7, k7⟩
  rw [htd]
  have hK7 := hK6.trans' k7
  go_wp2_with (first | (at_builtin; refine wl_append rfl _ _ _ _ rfl _ _ rfl rfl ?_) | (at_make; refine wl_make rfl _ _ _ rfl _ _ rfl rfl ?_) | (at_mapUpdate; refine wl_mapUpdate rfl _ _ _ _ rfl _ _ _ rfl rfl rfl ?_) | (at_lookup; refine wl_lookup rfl _ _ _ _ rfl _ _ rfl rfl ?_) | (at_delete; refine wl_delete rfl _ _ _ _ rfl _ _ rfl rfl ?_) | (with_reducible refine wl_len rfl _ _ rfl _ rfl ?_) | (with_reducible refine wl_range rfl _ _ rfl _ rfl ?_) | (with_reducible refine wl_next rfl _ rfl _ rfl ?_) | (with_reducible refine wl_copy rfl _ _ _ _ rfl _ _ rfl rfl ?_) | (with_reducible refine wl_max rfl _ _ _ _ rfl _ _ rfl rfl ?_) | (with_reducible refine wl_min rfl _ _ _ _ rfl _ _ rfl rfl ?_))
  go_ret
  exact ⟨rfl, hK7.os, hK7.tape, hK7.output, hK7.size, fun j hj _ => hK7.block j hj (by omega)⟩
end Go.Proofs.YtkmoomgmmhmaeaaGreat
namespace Go.Dm
open Go Go.RowKit

/-- x & b, for numbers b of few bits -/
def mask (x : Int) (b : Nat) : Nat := (BitVec.ofInt 64 x).toNat &&& b
theorem mask_le (x : Int) (b : Nat) : mask x b ≤ b := Nat.and_le_right
theorem mask_eq (x : Int) (b : Nat) (hb : b < 4294967296) : bits .and .i64 x (b : Int) = (mask x b : Int) := by
  have h2 : (BitVec.ofInt 64 (b : Int)).toNat = b := by
    rw [BitVec.ofInt_natCast, BitVec.toNat_ofNat]; exact Nat.mod_eq_of_lt (by omega)
  have hx := mask_le x b
  unfold mask at hx
  show IntKind.i64.wrap ((BitVec.ofInt 64 x &&& BitVec.ofInt 64 (b : Int)).toNat : Int) = _
  rw [BitVec.toNat_and, h2, IntKind.wrap_i64]
  unfold mask
  omega
end Go.Dm
namespace Go.Proofs.YtkmoomgmmhmaeaaGreat
open Go.RowKit Go.Dm Go.Dm.Dk

def nmF (i : Int) : List UInt8 := ([[97], [98], [110, 101, 119, 46, 97], [], [110, 101, 119, 46, 120]] : List (List UInt8)).getD (mask i 7 % 5) []
def bodyB (n : Int) (c : UInt8) : List UInt8 := (List.range (mask n 511)).map fun i => c + UInt8.ofNat i
theorem bodyB_len (n : Int) (c : UInt8) : (bodyB n c).length ≤ 511 := by
  unfold bodyB; rw [List.length_map, List.length_range]; exact mask_le n 511
set_option maxRecDepth 100000 in
set_option maxHeartbeats 1000000 in
theorem nmF_any (i : Int) (w : World) : Calls Tryz.prog 14 #[.int .i64 i] w fun e w' => e = .returned (.string ⟨(nmF i).toArray⟩) ∧ Keep No w w' := by
  have e : bits .and .i64 i 7 = (mask i 7 : Int) := mask_eq i 7 (by omega)
  have hr := mask_le i 7
  unfold nmF
  generalize mask i 7 = r at *
  have hq : r = 0 ∨ r = 1 ∨ r = 2 ∨ r = 3 ∨ r = 4 ∨ r = 5 ∨ r = 6 ∨ r = 7 := by omega
  rcases hq with rfl | rfl | rfl | rfl | rfl | rfl | rfl | rfl
  all_goals
    go_enter Tryz.func14, Tryz.ntmps14
    go_wp2_with (first | (at_builtin; refine wl_append rfl _ _ _ _ rfl _ _ rfl rfl ?_) | (at_make; refine wl_make rfl _ _ _ rfl _ _ rfl rfl ?_) | (at_mapUpdate; refine wl_mapUpdate rfl _ _ _ _ rfl _ _ _ rfl rfl rfl ?_) | (at_lookup; refine wl_lookup rfl _ _ _ _ rfl _ _ rfl rfl ?_) | (at_delete; refine wl_delete rfl _ _ _ _ rfl _ _ rfl rfl ?_) | (with_reducible refine wl_len rfl _ _ rfl _ rfl ?_) | (with_reducible refine wl_range rfl _ _ rfl _ rfl ?_) | (with_reducible refine wl_next rfl _ rfl _ rfl ?_) | (with_reducible refine wl_copy rfl _ _ _ _ rfl _ _ rfl rfl ?_) | (with_reducible refine wl_max rfl _ _ _ _ rfl _ _ rfl rfl ?_) | (with_reducible refine wl_min rfl _ _ _ _ rfl _ _ rfl rfl ?_))
    go_ret
    exact ⟨rfl, (Keep.refl _ _).alloc _⟩
theorem u8_step (c : UInt8) (i : Nat) : ((c.toNat : Int) + (i : Int)) % 256 = ((c + UInt8.ofNat i).toNat : Int) := by
  rw [UInt8.toNat_add, UInt8.toNat_ofNat']
  omega
set_option maxRecDepth 100000 in
set_option maxHeartbeats 2000000 in
theorem body11_any (n : Int) (c : UInt8) (w : World) : Calls Tryz.prog 20 #[.int .i64 n, bv c] w fun e w' => e = .returned (.slice (some ⟨w.heap.size, 0, none⟩) (bodyB n c).length (bodyB n c).length) ∧ Bts (fun k => k = w.heap.size) w' (.slice (some ⟨w.heap.size, 0, none⟩) (bodyB n c).length (bodyB n c).length) (bodyB n c) ∧ Keep No w w' ∧ w.heap.size < w'.heap.size := by
  have e : bits .and .i64 n 511 = (mask n 511 : Int) := mask_eq n 511 (by omega)
  have hr := mask_le n 511
  have hlen : (bodyB n c).length = mask n 511 := by unfold bodyB; rw [List.length_map, List.length_range]
  rw [hlen]
  have hB : bodyB n c = (List.range (mask n 511)).map fun i => c + UInt8.ofNat i := rfl
  rw [hB]
  clear hlen hB
  generalize mask n 511 = r at *
  unfold bv
  go_enter Tryz.func20, Tryz.ntmps20
  go_wp2_with (first | (at_builtin; refine wl_append rfl _ _ _ _ rfl _ _ rfl rfl ?_) | (at_make; refine wl_make rfl _ _ _ rfl _ _ rfl rfl ?_) | (at_mapUpdate; refine wl_mapUpdate rfl _ _ _ _ rfl _ _ _ rfl rfl rfl ?_) | (at_lookup; refine wl_lookup rfl _ _ _ _ rfl _ _ rfl rfl ?_) | (at_delete; refine wl_delete rfl _ _ _ _ rfl _ _ rfl rfl ?_) | (with_reducible refine wl_len rfl _ _ rfl _ rfl ?_) | (with_reducible refine wl_range rfl _ _ rfl _ rfl ?_) | (with_reducible refine wl_next rfl _ rfl _ rfl ?_) | (with_reducible refine wl_copy rfl _ _ _ _ rfl _ _ rfl rfl ?_) | (with_reducible refine wl_max rfl _ _ _ _ rfl _ _ rfl rfl ?_) | (with_reducible refine wl_min rfl _ _ _ _ rfl _ _ rfl rfl ?_))
  refine rg_make 5 (.int .u8 0) 1 1 Tryz.underlying46 info_u8 (n := r) (by omega) (by unfold maxLen; omega) ?_
  intro w1 hb1 k1
  rw [madeCells_u8] at hb1
  go_wp2_with (first | (at_builtin; refine wl_append rfl _ _ _ _ rfl _ _ rfl rfl ?_) | (at_make; refine wl_make rfl _ _ _ rfl _ _ rfl rfl ?_) | (at_mapUpdate; refine wl_mapUpdate rfl _ _ _ _ rfl _ _ _ rfl rfl rfl ?_) | (at_lookup; refine wl_lookup rfl _ _ _ _ rfl _ _ rfl rfl ?_) | (at_delete; refine wl_delete rfl _ _ _ _ rfl _ _ rfl rfl ?_) | (with_reducible refine wl_len rfl _ _ rfl _ rfl ?_) | (with_reducible refine wl_range rfl _ _ rfl _ rfl ?_) | (with_reducible refine wl_next rfl _ rfl _ rfl ?_) | (with_reducible refine wl_copy rfl _ _ _ _ rfl _ _ rfl rfl ?_) | (with_reducible refine wl_max rfl _ _ _ _ rfl _ _ rfl rfl ?_) | (with_reducible refine wl_min rfl _ _ _ _ rfl _ _ rfl rfl ?_))
  go_loopw [6] (fun iv wr => ∃ i : Nat, iv = .int .i64 i ∧ i ≤ r ∧ Blk wr w.heap.size ((((List.range i).map fun i => c + UInt8.ofNat i) ++ List.replicate (r - i) 0).map bv).toArray 5 ∧ Keep No w wr) (fun iv _ => r - (intOf iv).toNat)
  case atStart => exact ⟨0, rfl, Nat.zero_le _, by simpa using hb1, k1⟩
  case round =>
    clear hb1 k1
    obtain ⟨i, rfl, hi, hB, hK⟩ := hrel
    rcases Nat.lt_or_ge i r with hir | hir
    · have hir' : (i : Int) < (r : Int) := by omega
      have hu := u8_step c i
      have q : wr.cell? ⟨w.heap.size, i, none⟩ = some (bv 0) := by
        rw [hB.cell]
        simp only [List.getElem?_toArray, List.map_append, List.map_replicate]
        rw [List.getElem?_append_right (by simp)]
        simp only [List.length_map, List.length_range, Nat.sub_self, List.getElem?_replicate]
        rw [if_pos (by omega)]
      have hfr := hB.frozen i
      unfold bv at q
      have hset := hB.set (i := i) (bv (c + UInt8.ofNat i))
      have harr : ((((List.range i).map fun i => c + UInt8.ofNat i) ++ List.replicate (r - i) 0).map bv).toArray.setIfInBounds i (bv (c + UInt8.ofNat i)) = ((((List.range (i + 1)).map fun i => c + UInt8.ofNat i) ++ List.replicate (r - (i + 1)) 0).map bv).toArray := by
        apply Array.toList_inj.1
        simp only [Array.toList_setIfInBounds, List.map_append, List.map_map, List.map_replicate]
        rw [show r - i = (r - (i + 1)) + 1 by omega, List.replicate_succ]
        rw [List.set_append_right _ _ (by simp)]
        simp [List.range_succ]
      rw [harr] at hset
      have hk2 := hK.setCell (p := ⟨w.heap.size, i, none⟩) (fun h => absurd h (Nat.lt_irrefl _)) (bv (c + UInt8.ofNat i))
      unfold bv at hset hk2
      rw [← hu] at hset hk2
      clear harr hB hK hu
      go_wp2_with (first | (at_builtin; refine wl_append rfl _ _ _ _ rfl _ _ rfl rfl ?_) | (at_make; refine wl_make rfl _ _ _ rfl _ _ rfl rfl ?_) | (at_mapUpdate; refine wl_mapUpdate rfl _ _ _ _ rfl _ _ _ rfl rfl rfl ?_) | (at_lookup; refine wl_lookup rfl _ _ _ _ rfl _ _ rfl rfl ?_) | (at_delete; refine wl_delete rfl _ _ _ _ rfl _ _ rfl rfl ?_) | (with_reducible refine wl_len rfl _ _ rfl _ rfl ?_) | (with_reducible refine wl_range rfl _ _ rfl _ rfl ?_) | (with_reducible refine wl_next rfl _ rfl _ rfl ?_) | (with_reducible refine wl_copy rfl _ _ _ _ rfl _ _ rfl rfl ?_) | (with_reducible refine wl_max rfl _ _ _ _ rfl _ _ rfl rfl ?_) | (with_reducible refine wl_min rfl _ _ _ _ rfl _ _ rfl rfl ?_))
      go_roundw
      case rel => exact ⟨i + 1, by go_num, by omega, hset, hk2⟩
      case measure => simp [intOf]; omega
    · obtain rfl : i = r := by omega
      rw [Nat.sub_self, List.replicate_zero, List.append_nil] at hB
      go_wp2_with (first | (at_builtin; refine wl_append rfl _ _ _ _ rfl _ _ rfl rfl ?_) | (at_make; refine wl_make rfl _ _ _ rfl _ _ rfl rfl ?_) | (at_mapUpdate; refine wl_mapUpdate rfl _ _ _ _ rfl _ _ _ rfl rfl rfl ?_) | (at_lookup; refine wl_lookup rfl _ _ _ _ rfl _ _ rfl rfl ?_) | (at_delete; refine wl_delete rfl _ _ _ _ rfl _ _ rfl rfl ?_) | (with_reducible refine wl_len rfl _ _ rfl _ rfl ?_) | (with_reducible refine wl_range rfl _ _ rfl _ rfl ?_) | (with_reducible refine wl_next rfl _ rfl _ rfl ?_) | (with_reducible refine wl_copy rfl _ _ _ _ rfl _ _ rfl rfl ?_) | (with_reducible refine wl_max rfl _ _ _ _ rfl _ _ rfl rfl ?_) | (with_reducible refine wl_min rfl _ _ _ _ rfl _ _ rfl rfl ?_))
      go_ret
      have hlt := hB.lt
      refine ⟨by simp, ?_, hK, hlt⟩
      have := Bts.of_blk hB (by simp; unfold maxLen; omega)
      simpa using this
end Go.Proofs.YtkmoomgmmhmaeaaGreat
namespace Go.Dm.Dk

theorem nodup_len {α : Type} [BEq α] [LawfulBEq α] : ∀ (l s : List α), l.Nodup → (∀ x ∈ l, x ∈ s) → l.length ≤ s.length
  | [], _, _, _ => Nat.zero_le _
  | x :: r, s, hn, h => by
    have hx := h x (by simp)
    rw [List.nodup_cons] at hn
    have h1 := nodup_len r (s.erase x) hn.2 fun y hy => (List.mem_erase_of_ne (fun e => hn.1 (by rw [← e]; exact hy))).2 (h y (by simp [hy]))
    rw [List.length_erase_of_mem hx] at h1
    have h2 : 0 < s.length := List.length_pos_of_mem hx
    rw [List.length_cons]
    omega
def NSet : List (List UInt8) := [[97], [98], [110, 101, 119, 46, 97], [110, 101, 119, 46, 98], [110, 101, 119, 46, 120]]
abbrev InN (s : List UInt8) : Prop := s ∈ NSet
structure NI (m : M) : Prop where
  L : ∀ p ∈ m.L, InN p.1
  S : ∀ p ∈ m.S, InN p.1
  W : ∀ o ∈ m.wait, o.kind = 1 ∨ o.kind = 4 ∨ InN o.to
theorem namesOp_in {L : Names} {o : Op} (h : ∀ p ∈ L, InN p.1) (ho : o.kind = 4 ∨ InN o.to) : ∀ p ∈ namesOp L o, InN p.1 := by
  have hw : ∀ s, ∀ p ∈ without L s, InN p.1 := fun s p hp => h p (List.mem_filter.1 hp).1
  intro p hp
  unfold namesOp at hp
  split at hp
  · rename_i hk
    rcases List.mem_append.1 hp with hp | hp
    · exact hw _ p hp
    · simp only [List.mem_singleton] at hp; subst hp
      rcases ho with ho | ho
      · omega
      · exact ho
  · split at hp
    · exact hw _ p hp
    · rename_i h4
      split at hp
      · exact h p hp
      · rcases List.mem_append.1 hp with hp | hp
        · exact hw _ p (List.mem_filter.1 hp).1
        · simp only [List.mem_singleton] at hp; subst hp
          rcases ho with ho | ho
          · exact absurd ho h4
          · exact ho
section
variable {m : M}
theorem NI.wait (h : NI m) {o : Op} (ho : o.kind = 1 ∨ o.kind = 4 ∨ InN o.to) : NI (waitD m o) := by
  have hw : ∀ p ∈ m.wait ++ [o], p.kind = 1 ∨ p.kind = 4 ∨ InN p.to := by
    intro p hp
    rcases List.mem_append.1 hp with hp | hp
    · exact h.W p hp
    · simp only [List.mem_singleton] at hp; subst hp; exact ho
  unfold waitD
  split
  · exact ⟨h.L, h.S, hw⟩
  · rename_i hk
    exact ⟨namesOp_in h.L (by rcases ho with ho | ho; exact absurd ho hk; exact ho), h.S, hw⟩
theorem NI.settle1 (h : NI m) {o : Op} (b : Bool) (ho : o.kind = 1 ∨ o.kind = 4 ∨ InN o.to) : NI (Dk.settle1 b o m) := by
  unfold Dk.settle1
  split
  · exact ⟨h.L, h.S, fun p hp => by
      rcases List.mem_append.1 hp with hp | hp
      · exact h.W p hp
      · simp only [List.mem_singleton] at hp; subst hp; exact ho⟩
  · split
    · exact ⟨h.L, h.S, h.W⟩
    · rename_i hk
      exact ⟨h.L, namesOp_in h.S (by rcases ho with ho | ho; exact absurd ho hk; exact ho), h.W⟩
theorem NI.go (sel : Nat → Bool) : ∀ (l : List Op) (i : Nat) (m : M), (∀ o ∈ l, o.kind = 1 ∨ o.kind = 4 ∨ InN o.to) → NI m → NI (settleGo sel i l m)
  | [], _, _, _, h => h
  | o :: r, i, m, hw, h => NI.go sel r (i + 1) _ (fun p hp => hw p (by simp [hp])) (h.settle1 (sel i) (hw o (by simp)))
theorem NI.settle (h : NI m) (sel : Nat → Bool) : NI (Dk.settle m sel) :=
  NI.go sel m.wait 0 { m with wait := [] } h.W ⟨h.L, h.S, (fun o ho => by cases ho)⟩
theorem NI.crash (h : NI m) (keep : List Bool) : NI (Dk.crash m keep) := by
  have h1 := h.settle fun i => keep.getD i false
  exact ⟨h1.S, h1.S, (fun o ho => by cases ho)⟩
theorem NI.cutD (h : NI m) (s : Int) : NI (Dk.cutD m s) := by
  unfold Dk.cutD
  split
  · exact h
  · exact ⟨h.L, h.S, h.W⟩
theorem NI.call (h : NI m) (k : Nat) (a b : List UInt8) (at_ : Int) (body : List UInt8) (ha : k = 1 → InN a ∨ a = []) (hb : k = 4 → InN b ∨ b = []) : NI (Dk.call m k a b at_ body).1 := by
  unfold Dk.call
  split
  · exact h
  · split
    · exact h
    · rename_i h0
      split
      · exact ⟨h.L, h.S, h.W⟩
      · have h1 : NI { m with cut := m.cut - 1 } := ⟨h.L, h.S, h.W⟩
        show NI (Dk.done _ k a b at_ body)
        unfold Dk.done
        split
        · refine NI.wait (m := { m with cut := m.cut - 1, is := m.is ++ [[]], sure := m.sure ++ [[]] }) ⟨h.L, h.S, h.W⟩ (.inr (.inr ?_))
          rcases ha rfl with ha | ha
          · exact ha
          · subst ha; simp [own] at h0
        · exact h1.wait (.inl rfl)
        · exact h1.settle _
        · refine h1.wait (.inr (.inr ?_))
          rcases hb rfl with hb | hb
          · exact hb
          · subst hb; simp only [own] at h0; split at h0 <;> simp at h0
        · exact h1.wait (.inr (.inl rfl))
        · exact h1.settle _
theorem NI.nm (h : NI m) : ∀ p ∈ m.L, p.1.length ≤ 64 := by
  intro p hp
  have h1 := h.L p hp
  have h2 : ∀ s ∈ NSet, s.length ≤ 64 := by decide
  exact h2 _ h1
theorem NI.len (h : NI m) (hap : m.L.Pairwise (fun p q => p.1 ≠ q.1)) : m.L.length ≤ 5 := by
  have h1 := nodup_len (m.L.map (·.1)) NSet (by unfold List.Nodup; rw [List.pairwise_map]; exact hap) fun x hx => by
    obtain ⟨p, hp, rfl⟩ := List.mem_map.1 hx
    exact h.L p hp
  rw [List.length_map] at h1
  exact h1
theorem NI.run : ∀ (l : List Cl) {m : M}, NI m → (∀ s ∈ l, (s.kind = 1 → InN s.a ∨ s.a = []) ∧ (s.kind = 4 → InN s.b ∨ s.b = [])) → NI (runS m l).1
  | [], _, h, _ => h
  | s :: r, m, h, hl => by
    have h1 : NI (s.on m).1 := h.call _ _ _ _ _ (hl s (by simp)).1 (hl s (by simp)).2
    rw [runS_cons]
    split
    · exact NI.run r h1 fun s hs => hl s (by simp [hs])
    · exact h1
theorem NI.tidy (h : NI m) : NI (tidyD m).1 := by
  unfold tidyD
  split
  · exact h
  · refine NI.run _ h fun s hs => ?_
    rcases List.mem_append.1 hs with hs | hs
    · obtain ⟨x, _, rfl⟩ := List.mem_map.1 hs
      exact ⟨(fun e => by cases e), (fun e => by cases e)⟩
    · simp only [List.mem_singleton] at hs; subst hs
      exact ⟨(fun e => by cases e), (fun e => by cases e)⟩
theorem NI.repl (h : NI m) (s b : List UInt8) (hs : s = [97] ∨ s = [98] ∨ mayF s = false) : NI (replD m s b).1 := by
  unfold replD
  split
  · rename_i hm
    have hs2 : InN (newS ++ s) ∧ InN s := by
      rcases hs with hs | hs | hs
      · subst hs; exact ⟨by decide, by decide⟩
      · subst hs; exact ⟨by decide, by decide⟩
      · rw [hs] at hm; cases hm
    refine NI.run _ h fun c hc => ?_
    simp only [stepsS, List.mem_append, List.mem_singleton] at hc
    rcases hc with ((hc | hc) | hc) | hc
    · simp only [List.mem_flatMap, goneS, List.mem_cons, List.not_mem_nil, or_false] at hc
      obtain ⟨_, _, hc | hc⟩ := hc <;> subst hc <;> exact ⟨(fun e => by cases e), (fun e => by cases e)⟩
    · subst hc; exact ⟨fun _ => .inl hs2.1, (fun e => by cases e)⟩
    · obtain ⟨k, _, rfl⟩ := List.mem_map.1 hc
      exact ⟨(fun e => by cases e), (fun e => by cases e)⟩
    · simp only [endS, List.mem_cons, List.not_mem_nil, or_false] at hc
      rcases hc with hc | hc | hc <;> subst hc
      · exact ⟨(fun e => by cases e), (fun e => by cases e)⟩
      · exact ⟨(fun e => by cases e), fun _ => .inl hs2.2⟩
      · exact ⟨(fun e => by cases e), (fun e => by cases e)⟩
  · exact h
end
end Go.Dm.Dk
namespace Go.Proofs.YtkmoomgmmhmaeaaGreat
open Go.RowKit Go.Dm Go.Dm.Dk Go.Maps Go.ChangeShapes Go.WideShapes

theorem nmF_len (i : Int) : (nmF i).length ≤ 5 := by
  unfold nmF
  have hr := mask_le i 7
  generalize mask i 7 = r at *
  have hq : r = 0 ∨ r = 1 ∨ r = 2 ∨ r = 3 ∨ r = 4 ∨ r = 5 ∨ r = 6 ∨ r = 7 := by omega
  rcases hq with rfl | rfl | rfl | rfl | rfl | rfl | rfl | rfl <;> decide
theorem nmF_in (i : Int) : (InN (nmF i) ∨ nmF i = []) ∧ (nmF i = [97] ∨ nmF i = [98] ∨ mayF (nmF i) = false) := by
  unfold nmF
  have hr := mask_le i 7
  generalize mask i 7 = r at *
  have hq : r = 0 ∨ r = 1 ∨ r = 2 ∨ r = 3 ∨ r = 4 ∨ r = 5 ∨ r = 6 ∨ r = 7 := by omega
  rcases hq with rfl | rfl | rfl | rfl | rfl | rfl | rfl | rfl <;> decide
theorem stepsS_ok {l : List (List UInt8)} {s b : List UInt8} (hs : s.length ≤ 60) : ∀ c ∈ stepsS l s b, ClOk c := by
  have ht : (newS ++ s).length ≤ 64 := by rw [List.length_append]; simp [newS]; omega
  intro c hc
  simp only [stepsS, List.mem_append, List.mem_singleton] at hc
  rcases hc with ((hc | hc) | hc) | hc
  · simp only [List.mem_flatMap, goneS, List.mem_cons, List.not_mem_nil, or_false] at hc
    obtain ⟨_, _, hc | hc⟩ := hc <;> subst hc
    · exact ⟨ht, by simp, by simp⟩
    · exact ⟨by simp, by simp, by simp⟩
  · subst hc; exact ⟨ht, by simp, by simp⟩
  · obtain ⟨k, _, rfl⟩ := List.mem_map.1 hc
    exact ⟨ht, by simp [writeS], by simp only [writeS, List.length_take]; omega⟩
  · simp only [endS, List.mem_cons, List.not_mem_nil, or_false] at hc
    rcases hc with hc | hc | hc <;> subst hc
    · exact ⟨ht, by simp, by simp⟩
    · exact ⟨ht, by simp only; omega, by simp⟩
    · exact ⟨by simp, by simp, by simp⟩
theorem stepsS_len {m : M} (hap : m.L.Pairwise (fun p q => p.1 ≠ q.1)) (s b : List UInt8) : (stepsS (namesOf m) s b).length ≤ 6 + pieces b.length := by
  unfold stepsS
  rw [names_filter hap]
  simp only [List.length_append, List.length_singleton, writesS, endS, List.length_map, List.length_range, List.length_cons, List.length_nil]
  split
  · simp [goneS]; omega
  · simp; omega
theorem tidyS_ok {l : List (List UInt8)} (h : ∀ s ∈ l, s.length ≤ 64) : ∀ c ∈ tidyS l ++ [(⟨6, [], [], 0, []⟩ : Cl)], ClOk c := by
  intro c hc
  rcases List.mem_append.1 hc with hc | hc
  · obtain ⟨s, hs, rfl⟩ := List.mem_map.1 hc
    exact ⟨h s (List.mem_filter.1 hs).1, by simp, by simp⟩
  · simp only [List.mem_singleton] at hc
    subst hc
    exact ⟨by simp, by simp, by simp⟩
theorem Files.run {m : M} : ∀ (l : List Cl) {m : M} {n : Nat}, Files m n → Files (runS m l).1 (n + l.length)
  | [], _, _, h => h
  | s :: r, m, n, h => by
    have h1 := h.on (s := s)
    rw [runS_cons]
    split
    · exact (Files.run (m := m) r h1).mono (by simp only [List.length_cons]; omega)
    · exact h1.mono (by simp only [List.length_cons]; omega)
/-- what a disk of this law is like, behind i rounds -/
structure FG (m : M) (i : Nat) : Prop where
  sm : Small m (16 * i) (1024 * i)
  fl : Files m (16 * i)
  ni : NI m
section
variable {m : M} {i : Nat}
theorem FG.cutD (h : FG m i) (s : Int) (hs : s ≤ 9223372036854775807) : FG (Dk.cutD m s) i := ⟨h.sm.cutD s hs, h.fl.cutD s, h.ni.cutD s⟩
theorem FG.crash (h : FG m i) (k : List Bool) : FG (Dk.crash m k) i := ⟨h.sm.crash k, h.fl.crash k, h.ni.crash k⟩
theorem FG.up (h : FG m i) : FG m (i + 1) := ⟨h.sm.mono (by omega) (by omega), h.fl.mono (by omega), h.ni⟩
theorem FG.create (h : FG m i) (a : List UInt8) (ha : InN a ∨ a = []) (hl : a.length ≤ 5) : FG (call m 1 a [] 0 []).1 (i + 1) :=
  ⟨(h.sm.call (b := 5) 1 a [] 0 [] hl (by simp) (by simp)).mono (by omega) (by omega), (h.fl.call 1 a [] 0 []).mono (by omega), h.ni.call 1 a [] 0 [] (fun _ => ha) (fun e => by cases e)⟩
theorem FG.repl (h : FG m i) (hap : m.L.Pairwise (fun p q => p.1 ≠ q.1)) (s b : List UInt8) (hs : s.length ≤ 60) (hb : b.length ≤ 511) (hn : s = [97] ∨ s = [98] ∨ mayF s = false) : FG (replD m s b).1 (i + 1) := by
  refine ⟨?_, ?_, h.ni.repl s b hn⟩
  · unfold replD
    split
    · have h1 := stepsS_len hap s b
      have h2 : pieces b.length ≤ 8 := by unfold pieces; omega
      exact (runS_small (m := m) (n := 16 * i) (N := 1024 * i) _ h.sm (stepsS_ok hs)).mono (by omega) (by omega)
    · exact h.up.sm
  · unfold replD
    split
    · have h1 := stepsS_len hap s b
      have h2 : pieces b.length ≤ 8 := by unfold pieces; omega
      exact (Files.run (m := m) _ h.fl).mono (by omega)
    · exact h.up.fl
theorem FG.tidy (h : FG m i) (hap : m.L.Pairwise (fun p q => p.1 ≠ q.1)) : FG (tidyD m).1 (i + 1) := by
  have hl := h.ni.len hap
  have hpm : (namesOf m).Perm (m.L.map (·.1)) := List.mergeSort_perm _ _
  have hN : (namesOf m).length ≤ 5 := by rw [hpm.length_eq, List.length_map]; exact hl
  have hNo : ∀ s ∈ namesOf m, s.length ≤ 64 := by
    intro s hs
    obtain ⟨p, hp, rfl⟩ := List.mem_map.1 (hpm.mem_iff.1 hs)
    exact h.ni.nm p hp
  have hlen : (tidyS (namesOf m) ++ [(⟨6, [], [], 0, []⟩ : Cl)]).length ≤ 6 := by
    have h1 : (tidyS (namesOf m)).length ≤ (namesOf m).length := by unfold tidyS; rw [List.length_map]; exact List.length_filter_le _ _
    rw [List.length_append, List.length_singleton]; omega
  refine ⟨?_, ?_, h.ni.tidy⟩
  · unfold tidyD
    split
    · exact h.up.sm
    · exact (runS_small (m := m) (n := 16 * i) (N := 1024 * i) _ h.sm (tidyS_ok hNo)).mono (by omega) (by omega)
  · unfold tidyD
    split
    · exact h.up.fl
    · exact (Files.run (m := m) _ h.fl).mono (by omega)
end

/-- within a round: the disk, the model, the model's box, the act's box -/
structure FI (w0 X : World) (d : Nat) (m m2 : M) (R U : Nat → Prop) (v1 v2 v3 v4 v5 : Value) (b7 b9 : Nat) (c9 : Array Value) : Prop where
  own : Own (fun k => w0.heap.size ≤ k ∧ ¬ U k) X d m
  ref : DV R X v1 v2 v3 v4 v5 m2
  lt : ∀ k, U k → k < X.heap.size
  sub : ∀ k, R k → U k
  keep : Keep (fun k => w0.heap.size ≤ k) w0 X
  B7 : Blk X b7 (cel m2 v1 v2 v3 v4 v5) 30
  B9 : Blk X b9 c9 34
  U7 : U b7
  U9 : U b9
  R7 : ¬ R b7
  ne : b9 ≠ b7
  l7 : w0.heap.size ≤ b7
section
variable {w0 X Y Z : World} {d b b7 b9 : Nat} {m m' m2 m2' : M} {R U : Nat → Prop} {v1 v2 v3 v4 v5 u1 u2 u3 u4 u5 : Value} {c9 : Array Value}
theorem FI.hP (h : FI w0 X d m m2 R U v1 v2 v3 v4 v5 b7 b9 c9) : ∀ k, X.heap.size ≤ k → w0.heap.size ≤ k ∧ ¬ U k := fun k hk => ⟨Nat.le_trans h.keep.size hk, fun hu => by have := h.lt k hu; omega⟩
theorem FI.op (h : FI w0 X d m m2 R U v1 v2 v3 v4 v5 b7 b9 c9) (ho : Own (fun k => w0.heap.size ≤ k ∧ ¬ U k) Y d m') (hk : Keep (fun k => w0.heap.size ≤ k ∧ ¬ U k) X Y) : FI w0 Y d m' m2 R U v1 v2 v3 v4 v5 b7 b9 c9 :=
  ⟨ho, h.ref.keep hk fun j _ ha hs => hs.2 (h.sub j ha), fun k hu => Nat.lt_of_lt_of_le (h.lt k hu) hk.size, h.sub, h.keep.trans hk fun j _ hs => hs.1, h.B7.keep hk fun hs => hs.2 h.U7, h.B9.keep hk fun hs => hs.2 h.U9, h.U7, h.U9, h.R7, h.ne, h.l7⟩
theorem FI.no (h : FI w0 X d m m2 R U v1 v2 v3 v4 v5 b7 b9 c9) (hk : Keep No X Y) : FI w0 Y d m m2 R U v1 v2 v3 v4 v5 b7 b9 c9 :=
  h.op (h.own.keep hk fun _ _ h => h) (hk.mono fun _ _ h => h.elim)
theorem FI.box (h : FI w0 X d m m2 R U v1 v2 v3 v4 v5 b7 b9 c9) (hk : Keep No X Y) (hb : X.heap.size ≤ b) (hz : b < Y.heap.size) : FI w0 Y d m m2 R (fun k => U k ∨ k = b) v1 v2 v3 v4 v5 b7 b9 c9 where
  own := by
    have h1 : DR (fun k => (w0.heap.size ≤ k ∧ ¬ U k) ∧ k < X.heap.size) X d m := h.own
    exact (DR.keep h1 (fun k hk => hk.2) hk fun _ _ h => h).mono fun k hk ha => ⟨⟨ha.1.1, fun hr => by
      rcases hr with hr | hr
      · exact ha.1.2 hr
      · have := ha.2; omega⟩, hk⟩
  ref := h.ref.no hk
  lt := fun k hu => by
    rcases hu with hu | hu
    · have := h.lt k hu; have := hk.size; omega
    · omega
  sub := fun k hr => .inl (h.sub k hr)
  keep := h.keep.trans' (hk.mono fun _ _ h => h.elim)
  B7 := h.B7.keep hk fun h => h
  B9 := h.B9.keep hk fun h => h
  U7 := .inl h.U7
  U9 := .inl h.U9
  R7 := h.R7
  ne := h.ne
  l7 := h.l7
/-- the model is turned, and laid into its box -/
theorem FI.model (h : FI w0 X d m m2 R U v1 v2 v3 v4 v5 b7 b9 c9) (hD : DV (Plus R X Y) Y u1 u2 u3 u4 u5 m2') (hk : Keep No X Y) (hB : Blk Z b7 (cel m2' u1 u2 u3 u4 u5) 30) (hkZ : Keep (fun j => j = b7) Y Z) :
    ∃ R' U' : Nat → Prop, FI w0 Z d m m2' R' U' u1 u2 u3 u4 u5 b7 b9 c9 := by
  have hl7 := h.l7
  have hxy := hk.size
  have hyz := hkZ.size
  have h7 := h.lt _ h.U7
  have hX := h.keep.size
  refine ⟨fun k => Plus R X Y k ∧ k < Y.heap.size, fun k => Plus U X Y k ∧ k < Y.heap.size, ?_, ?_, fun k hu => Nat.lt_of_lt_of_le hu.2 hyz, fun k hr => ⟨?_, hr.2⟩, ?_, hB, (h.B9.keep hk fun h => h).keep hkZ h.ne, ⟨.inl h.U7, by omega⟩, ⟨.inl h.U9, by have := h.lt _ h.U9; omega⟩, ?_, h.ne, h.l7⟩
  · have h1 : DR (fun k => (w0.heap.size ≤ k ∧ ¬ U k) ∧ k < X.heap.size) X d m := h.own
    refine (DR.keep (DR.keep h1 (fun k hk => hk.2) hk fun _ _ h => h) (fun k hk => by have := hk.2; omega) hkZ fun k ha e => ?_).mono fun k hk ha => ⟨⟨ha.1.1, fun hr => ?_⟩, hk⟩
    · have e : k = b7 := e
      subst e
      exact ha.1.2 h.U7
    · rcases hr.1 with hr | hr
      · exact ha.1.2 hr
      · have := ha.2; omega
  · refine (hD.mono (B := fun k => Plus R X Y k ∧ k < Y.heap.size) fun j hj ha => ⟨ha, hj⟩).keep hkZ fun j _ ha e => ?_
    have e : j = b7 := e
    subst e
    rcases ha.1 with hr | hr
    · exact h.R7 hr
    · omega
  · rcases hr.1 with hr | hr
    · exact .inl (h.sub k hr)
    · exact .inr hr
  · exact (h.keep.trans' (hk.mono fun _ _ h => h.elim)).trans hkZ fun j _ e => by have e : j = b7 := e; show w0.heap.size ≤ j; omega
  · intro hr
    rcases hr.1 with hr | hr
    · exact h.R7 hr
    · omega
end
abbrev ActF : Sh := .pair (.int .i64) (.pair (.int .i64) (.pair (.int .i64) (.pair .u8 (.pair (.int .i64) (.pair (.slice .bool) .unit)))))
theorem actF_cells {A : Nat → Prop} {w : World} {c : List Value} {y : ActF.Ty} (h : Rd A w ActF c y) :
    ∃ vk, c = [.int .i64 y.1, .int .i64 y.2.1, .int .i64 y.2.2.1, bv y.2.2.2.1, .int .i64 y.2.2.2.2.1, vk] ∧ Bls A w vk y.2.2.2.2.2.1 ∧ (Lit.int .i64 y.2.2.2.2.1).wf = true := by
  obtain ⟨_, _, rfl, ⟨rfl, _⟩, _, _, rfl, ⟨rfl, _⟩, _, _, rfl, ⟨rfl, _⟩, _, _, rfl, h4, _, _, rfl, ⟨rfl, hwf⟩, _, _, rfl, h6, h7⟩ := h
  have h6' := h6
  obtain ⟨vk, _, rfl, _⟩ := h6'
  obtain rfl := h7
  obtain rfl := h4
  exact ⟨vk, rfl, h6.bools, hwf⟩
theorem actF_at {w : World} {va : Option Addr} {vc : Nat} {l : List ActF.Ty} (hl : Rd (fun k => k < w.heap.size) w (.slice ActF) [.slice va l.length vc] l) {i : Nat} (hi : i < l.length) :
    ∃ g off k1 k2, va = some ⟨g, off, none⟩ ∧ g < w.heap.size ∧ (Lit.int .i64 l[i].2.2.2.2.1).wf = true ∧ Bls (fun k => k < w.heap.size) w (.slice k1 l[i].2.2.2.2.2.1.length k2) l[i].2.2.2.2.2.1 ∧ ∀ W, Keep (fun j => w.heap.size ≤ j) w W →
      W.cell? ⟨g, off + i * 6, none⟩ = some (.int .i64 l[i].1) ∧ W.cell? ⟨g, off + i * 6 + 1, none⟩ = some (.int .i64 l[i].2.1) ∧ W.cell? ⟨g, off + i * 6 + 2, none⟩ = some (.int .i64 l[i].2.2.1) ∧ W.cell? ⟨g, off + i * 6 + 3, none⟩ = some (bv l[i].2.2.2.1) ∧
      W.cell? ⟨g, off + i * 6 + 4, none⟩ = some (.int .i64 l[i].2.2.2.2.1) ∧ W.cell? ⟨g, off + i * 6 + 5, none⟩ = some (.slice k1 l[i].2.2.2.2.2.1.length k2) := by
  obtain ⟨g, off, cap, e1, hg1, hg2, _, _, c, hc, hcell⟩ := hl.at (n := 6) rfl hi
  cases e1
  obtain ⟨vk, rfl, hvk, hwf⟩ := actF_cells hc
  obtain ⟨k1, k2, rfl, hk3, hk4⟩ := hvk.shape
  refine ⟨g, off, k1, k2, rfl, hg1, hwf, hvk, fun W hK => ?_⟩
  have hL : ∀ (o : Nat) (u : Value), w.cell? ⟨g, o, none⟩ = some u → W.cell? ⟨g, o, none⟩ = some u := fun o u h => (hK.cell (p := ⟨g, o, none⟩) hg1 (fun h => absurd hg1 (Nat.not_lt.2 h))).trans h
  exact ⟨hL _ _ (hcell 0 _ rfl), hL _ _ (hcell 1 _ rfl), hL _ _ (hcell 2 _ rfl), hL _ _ (hcell 3 _ rfl), hL _ _ (hcell 4 _ rfl), hL _ _ (hcell 5 _ rfl)⟩
end Go.Proofs.YtkmoomgmmhmaeaaGreat
