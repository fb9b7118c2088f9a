/- A new ledger, its marked words, a copy; the modules and the memory of the document's examples. The table of operations, as a list, and what a field's letter says. isa: the table of operations in memory (Tabs), the search in it (find). isa: may. No condition. -/
import Derived.Test.YthfekjnekaecaaaDoorSortKW
import Derived.Test.YthfekjnekaecaaaDoorSortW7
import Derived.Test.YthfekjnekaecaaaDoorSortK
import Derived.Shelf.SlMaps.Clone
import Derived.Test.YthfekjnekaecaaaDoorCpuE
import Derived.Test.YthfekjnekaecaaaDoorCpuM
import Derived.Test.YthfekjnekaecaaaDoorRd
import Derived.Lib.Bytealg
import Derived.Deep.QuietTactic
import Derived.BigQuiet
set_option linter.unusedVariables false
set_option linter.unusedSimpArgs false
namespace Go.Dm.Tg
open Go Go.Dm.Vm
def mods2 : List Md := [⟨[97], 1024, 1024, 1536, false, 0, 0⟩, ⟨[98], 2048, 2048, 2560, false, 0, 0⟩]
def mem18 : V := mapV (mapV (mapV [] 1024 512 7 [] 0) 2048 512 7 [] 0) 4096 256 6 [] 0
theorem mods2_ok : ∀ x ∈ mods2, MdOk x := by
  intro x hx
  simp only [mods2, List.mem_cons, List.not_mem_nil, or_false] at hx
  rcases hx with rfl | rfl
  all_goals exact ⟨by unfold maxLen; decide, by decide, by decide, by decide, by decide, by decide⟩
end Go.Dm.Tg
namespace Go.Proofs.YthfekjnekaecaaaDoor
open Go.RowKit Go.Dm Go.Dm.Vm Go.Dm.Cp Go.Dm.Tg Go.Maps
section
variable {A B S : Nat → Prop} {w w' : World} {d mb : Nat} {v : Value} {L : Lg}
set_option maxRecDepth 100000 in
set_option maxHeartbeats 1000000 in
theorem clmod_any (v : Value) (ms : List Md) (w : World) (h : Fl A w 7 encMd v ms) (b1 : ms.length ≤ 1048576) :
    Calls Tryd.prog 22 #[v] w fun e w' => ∃ v', e = .returned v' ∧ FlO w' w.heap.size 66 7 encMd v' ms ∧ Keep No w w' := by
  obtain ⟨a, c, rfl, hc, hc2⟩ := h.shape
  have qT := fun (w : World) (a : Option Addr) (n c n' c' : Nat) => Lib.run_eql_slice_nil (P := Tryd.prog) w _ _ a n c n' c' Tryd.underlying27
  cases a with
  | none =>
    have e0 : ms.length = 0 := by
      obtain ⟨_, a', cap, e, c1, _, c2, _⟩ := h
      cases e
      have := c2 rfl
      omega
    obtain rfl : ms = [] := List.eq_nil_of_length_eq_zero e0
    go_enter Tryd.func22, Tryd.ntmps22
    go_wp2_with fail
    go_ret
    exact ⟨_, rfl, FlO.nil, Keep.refl _ _⟩
  | some a =>
    go_enter Tryd.func22, Tryd.ntmps22
    go_wp2_with (at_builtin; refine wl_append rfl _ _ _ _ rfl _ _ rfl rfl ?_)
    have hown : FlO (w.alloc (.cells #[] 66)) w.heap.size 66 7 encMd (.slice (some ⟨w.heap.size, 0, none⟩) 0 0) [] := World.ownsRow_made w #[] 0 (Nat.le_refl _) (Nat.zero_le _) rfl
    refine rg_cat _ 64 Tryd.underlying27 modT_info rfl (by decide) (h.no ((Keep.refl No w).alloc _)) encMd_one hown (by simp; omega) (by decide) (by simp) ?_
    intro v' w2 ho hk _
    rw [List.nil_append] at ho
    obtain ⟨ao2, co2, rfl, _, _⟩ := ho.fl.shape
    go_wp2_with fail
    go_ret
    exact ⟨_, rfl, ho, ((Keep.refl No w).alloc _).trans hk fun j hj e => by
      simp only [Value.ownBlock, Option.some.injEq] at e; omega⟩
set_option maxRecDepth 100000 in
set_option maxHeartbeats 1000000 in
theorem tnew_any (v : Value) (ms : List Md) (w : World) (h : Fl A w 7 encMd v ms) (hok : ∀ x ∈ ms, MdOk x) (b1 : ms.length ≤ 1048576) :
    Calls Tryd.prog 7 #[v] w fun e w' => ∃ d v' mb, e = .returned (ptrTo d) ∧ LRep (fun k => w.heap.size ≤ k ∧ k < w'.heap.size) w' d ⟨ms, []⟩ v' mb ∧ Keep No w w' := by
  have hc := clmod_any v ms w h b1
  obtain ⟨a, c, rfl, _, _⟩ := h.shape
  have hmm := @run_makeMap
  clear h
  go_enter Tryd.func7, Tryd.ntmps7
  go_wp2_with fail
  refine hc.mono ?_
  rintro e W ⟨v', rfl, ho, hk⟩
  clear hc
  obtain ⟨ao2, co2, rfl, _, _⟩ := ho.fl.shape
  go_wp2_with fail
  go_ret
  have hk1 : Keep No W (W.alloc (.map #[] 0)) := (Keep.refl _ _).alloc _
  have m1 := MapL.made Tryd.prog 22 W
  have b2 := Blk.new (W.alloc (.map #[] 0)) #[.slice ao2 ms.length co2, .map (some W.heap.size)] 69
  have hk2 : Keep No (W.alloc (.map #[] 0)) ((W.alloc (.map #[] 0)).alloc (.cells #[.slice ao2 ms.length co2, .map (some W.heap.size)] 69)) := (Keep.refl _ _).alloc _
  have hk12 := hk1.trans' hk2
  simp only [World.size_alloc] at b2
  have hsz := hk.size
  have fl2 := Sl.mono (ho.fl.no hk12) (B := fun k => (w.heap.size ≤ k ∧ k < W.heap.size + 1 + 1) ∧ k ≠ W.heap.size) fun k hk1 ha => ⟨⟨ha.1, by have := ha.2; omega⟩, by have := ha.2; omega⟩
  refine ⟨_, _, _, rfl, ⟨b2, ?_, m1.same (Below.heap_alloc _ _ _ (by simp)), ⟨hok, b1, List.Pairwise.nil, fun p hp => (by cases hp), fun p hp => (by cases hp)⟩, ⟨by omega, by simp⟩, ⟨by omega, by simp; omega⟩⟩, hk.trans' hk12⟩
  unfold Fl
  simpa only [World.size_alloc] using fl2
set_option maxRecDepth 100000 in
set_option maxHeartbeats 1000000 in
theorem modules18_any (w : World) : Calls Tryd.prog 8 #[] w fun e w' => ∃ v, e = .returned v ∧ Fl (fun k => k = w.heap.size) w' 7 encMd v mods2 ∧ Keep No w w' := by
  go_enter Tryd.func8, Tryd.ntmps8
  go_wp2_with fail
  have hkW : Keep No w (w.alloc (.cells #[.string ⟨#[97]⟩, .int .u64 1024, .int .u64 1024, .int .u64 1536, .bool false, .int .u64 0, .int .u64 0, .string ⟨#[98]⟩, .int .u64 2048, .int .u64 2048, .int .u64 2560, .bool false, .int .u64 0, .int .u64 0] 66)) := (Keep.refl _ _).alloc _
  have hBW : Blk (w.alloc (.cells #[.string ⟨#[97]⟩, .int .u64 1024, .int .u64 1024, .int .u64 1536, .bool false, .int .u64 0, .int .u64 0, .string ⟨#[98]⟩, .int .u64 2048, .int .u64 2048, .int .u64 2560, .bool false, .int .u64 0, .int .u64 0] 66)) w.heap.size #[.string ⟨#[97]⟩, .int .u64 1024, .int .u64 1024, .int .u64 1536, .bool false, .int .u64 0, .int .u64 0, .string ⟨#[98]⟩, .int .u64 2048, .int .u64 2048, .int .u64 2560, .bool false, .int .u64 0, .int .u64 0] 66 := Blk.new _ _ _
  have hzW : (w.alloc (.cells #[.string ⟨#[97]⟩, .int .u64 1024, .int .u64 1024, .int .u64 1536, .bool false, .int .u64 0, .int .u64 0, .string ⟨#[98]⟩, .int .u64 2048, .int .u64 2048, .int .u64 2560, .bool false, .int .u64 0, .int .u64 0] 66)).heap.size = w.heap.size + 1 := World.size_alloc _ _
  generalize w.alloc (.cells #[.string ⟨#[97]⟩, .int .u64 1024, .int .u64 1024, .int .u64 1536, .bool false, .int .u64 0, .int .u64 0, .string ⟨#[98]⟩, .int .u64 2048, .int .u64 2048, .int .u64 2560, .bool false, .int .u64 0, .int .u64 0] 66) = W at *
  go_ret
  refine ⟨_, rfl, ?_, hkW⟩
  exact Sl.mk rfl rfl hBW.lt (Nat.le_refl _) (by unfold maxLen; decide) fun j u hu => by rw [hBW.cell, Nat.zero_add]; rw [← List.getElem?_toArray] at hu; exact hu
set_option maxRecDepth 100000 in
set_option maxHeartbeats 2000000 in
theorem memory18_any (w : World) : Calls Tryd.prog 10 #[] w fun e w' => ∃ d mb f, e = .returned (ptrTo d) ∧ SRep (fun k => w.heap.size ≤ k ∧ k < w'.heap.size) w' d mem18 mb f ∧ Keep No w w' := by
  go_enter Tryd.func10, Tryd.ntmps10
  go_wp2_with fail
  refine (vnew_any _).mono ?_
  rintro e w1 ⟨mb, d, f, rfl, hS, hk1⟩
  unfold ptrTo
  go_wp2_with fail
  refine (vmap_any 1024 512 0 7 [] (by omega) (by omega) (by omega) (by unfold maxLen; simp) hS (fun k hk => hk.2)).mono ?_
  rintro e w2 ⟨rfl, ⟨f2, hS2⟩, hk2⟩
  have hS2' : SRep (fun k => w.heap.size ≤ k ∧ k < w2.heap.size) w2 d (mapV [] 1024 512 7 [] 0) mb f2 := hS2.mono fun k hk ha => by
    rcases ha with ha | ha
    · exact ⟨ha.1, hk⟩
    · exact ⟨Nat.le_trans hk1.size ha.1, hk⟩
  have hK2 : Keep No w w2 := hk1.trans hk2 fun j hj ha => absurd ha.1 (Nat.not_le.2 (by omega))
  clear hS hS2 hk1 hk2
  go_wp2_with fail
  refine (vmap_any 2048 512 0 7 [] (by omega) (by omega) (by omega) (by unfold maxLen; simp) hS2' (fun k hk => hk.2)).mono ?_
  rintro e w3 ⟨rfl, ⟨f3, hS3⟩, hk3⟩
  have hS3' : SRep (fun k => w.heap.size ≤ k ∧ k < w3.heap.size) w3 d (mapV (mapV [] 1024 512 7 [] 0) 2048 512 7 [] 0) mb f3 := hS3.mono fun k hk ha => by
    rcases ha with ha | ha
    · exact ⟨ha.1, hk⟩
    · exact ⟨Nat.le_trans hK2.size ha.1, hk⟩
  have hK3 : Keep No w w3 := hK2.trans hk3 fun j hj ha => absurd ha.1 (Nat.not_le.2 (by omega))
  clear hS2' hS3 hK2 hk3
  go_wp2_with fail
  refine (vmap_any 4096 256 0 6 [] (by omega) (by omega) (by omega) (by unfold maxLen; simp) hS3' (fun k hk => hk.2)).mono ?_
  rintro e w4 ⟨rfl, ⟨f4, hS4⟩, hk4⟩
  have hS4' : SRep (fun k => w.heap.size ≤ k ∧ k < w4.heap.size) w4 d mem18 mb f4 := hS4.mono fun k hk ha => by
    rcases ha with ha | ha
    · exact ⟨ha.1, hk⟩
    · exact ⟨Nat.le_trans hK3.size ha.1, hk⟩
  have hK4 : Keep No w w4 := hK3.trans hk4 fun j hj ha => absurd ha.1 (Nat.not_le.2 (by omega))
  clear hS3' hS4 hK3 hk4
  go_wp2_with fail
  go_ret
  exact ⟨_, _, _, rfl, hS4', hK4⟩
/-- sorting what came in any order -/
theorem sortW_all {v : Value} {base : Nat} (ss l : List Nat) (hp : ss.Perm l) (hsrt : l.Pairwise (· < ·)) (hlen : l.length ≤ 65535) (ho : w.ownsRow base 22 1 v l.length (ss.map uv)) :
    Calls Tryd.prog 56 #[v] w fun e w' => e = .returned (.tuple #[]) ∧ w'.ownsRow base 22 1 v l.length (l.map uv) ∧ Keep (fun j => some j = v.ownBlock) w w' := by
  have hsl : l.length = ss.toArray.size := by rw [List.size_toArray, hp.length_eq]
  rw [hsl] at ho hlen ⊢
  refine (sort_any (w := w) (D := ss.toArray) (v := v) ho (by omega)).mono ?_
  rintro e W ⟨h1, E, h2, h3, h4, h5⟩
  have he : E.toList = l := List.Perm.eq_of_pairwise (le := fun a b : Nat => a ≤ b) (fun a b _ _ h1 h2 => Nat.le_antisymm h1 h2) h3 (hsrt.imp fun h => Nat.le_of_lt h) (h2.trans hp)
  rw [he] at h4
  exact ⟨h1, h4, h5⟩
set_option maxHeartbeats 1000000 in
theorem tmarked_nil (w : World) : Calls Tryd.prog 11 #[.pointer none] w fun e w' => e = .returned (.slice none 0 0) ∧ w = w' := by
  go_enter Tryd.func11, Tryd.ntmps11
  go_wp2_with fail
  go_ret
  exact ⟨rfl, rfl⟩
set_option maxRecDepth 100000 in
set_option maxHeartbeats 1000000 in
theorem tmarked_any (h : LRep A w d L v mb) (hlen : L.w.length ≤ 65535) :
    Calls Tryd.prog 11 #[ptrTo d] w fun e w' => ∃ v', e = .returned v' ∧ w'.ownsRow w.heap.size 22 1 v' L.w.length ((adW L.w).map uv) ∧ Keep No w w' := by
  have q1 : w.cell? ⟨d, 1, none⟩ = some (.map (some mb)) := h.blk.cell 1
  have hsrt : (adW L.w).Pairwise (· < ·) := by unfold adW; rw [List.pairwise_map]; exact h.ok.srt
  have hal : (adW L.w).length = L.w.length := by simp [adW]
  have hmp := h.mp
  clear h
  unfold ptrTo
  go_enter Tryd.func11, Tryd.ntmps11
  go_wp2_with fail
  refine (keysW_any mb w).mono ?_
  rintro e W ⟨rfl, rfl⟩
  have hkW : Keep No w (w.alloc (.cells #[.map (some mb)] 67)) := (Keep.refl _ _).alloc _
  have hBW : Blk (w.alloc (.cells #[.map (some mb)] 67)) w.heap.size #[.map (some mb)] 67 := Blk.new _ _ _
  have hzW : (w.alloc (.cells #[.map (some mb)] 67)).heap.size = w.heap.size + 1 := World.size_alloc _ _
  generalize w.alloc (.cells #[.map (some mb)] 67) = W at *
  have hso := sortedW_of (w := W) w.heap.size hsrt hBW.lt (hBW.cell 0) (hmp.keep hkW fun h => h) hlen fun W2 v ss hp ho => sortW_all (w := W2) ss _ hp hsrt (by rw [hal]; exact hlen) (by rw [hal]; exact ho) |>.mono fun _ _ h => by rw [hal] at h; exact h
  clear hmp
  go_wp2_with fail
  refine hso.mono ?_
  rintro e W2 ⟨v', rfl, ho, hk2⟩
  clear hso
  obtain ⟨a2, c2, rfl⟩ := own_shape ho
  go_wp2_with fail
  go_ret
  exact ⟨_, rfl, World.ownsRow.base_le ho (by rw [hzW]; omega), hkW.trans' hk2⟩
set_option maxHeartbeats 1000000 in
theorem tcopy_nil (w : World) : Calls Tryd.prog 16 #[.pointer none] w fun e w' => e = .returned (.pointer none) ∧ w = w' := by
  go_enter Tryd.func16, Tryd.ntmps16
  go_wp2_with fail
  go_ret
  exact ⟨rfl, rfl⟩
set_option maxRecDepth 100000 in
set_option maxHeartbeats 1000000 in
theorem mcloneW_any {b : Nat} {l : List (Lit × Value)} (w : World) (h : MapL Tryd.prog 22 w b l) :
    Calls Tryd.prog 35 #[.map (some b)] w fun e w' => e = .returned (.map (some w.heap.size)) ∧ MapL Tryd.prog 22 w' w.heap.size l ∧ Keep No w w' ∧ w'.heap.size = w.heap.size + 1 := by
  obtain ⟨hap, es0, hperm, es, clock, hb, F, hs, hD⟩ := h
  have hq := fun w => run_eql_map_nil_sl (P := Tryd.prog) w 67 _ _ (some b) Tryd.underlying67
  go_enter Tryd.func35, Tryd.ntmps35
  go_wp2
  rw [run_callFunc_extern Tryd.func59 (by kernel_rfl) (by kernel_rfl) (by kernel_rfl) (e := Extern.MapsClone.clone) (by kernel_rfl), run_maps_clone_sl w 67 hb]
  simp only [Result.andThen]
  rw [Oper.upon_value]
  go_wp2
  rw [run_typeAssert_map_sl _ 67 _ _ _ _ Tryd.underlying67]
  simp only [Result.andThen]
  rw [Oper.upon_value]
  go_wp2
  go_ret
  exact ⟨rfl, ⟨hap, es0, hperm, es, clock, (MapKept.heap_alloc w _).1, F, hs, hD⟩, (Keep.refl _ _).alloc _, by simp⟩
set_option maxRecDepth 100000 in
set_option maxHeartbeats 2000000 in
theorem tcopy_any (h : LRep A w d L v mb) (hA : ∀ k, A k → k < w.heap.size) :
    Calls Tryd.prog 16 #[ptrTo d] w fun e w' => ∃ d' v' mb', e = .returned (ptrTo d') ∧ LRep (fun k => w.heap.size ≤ k ∧ k < w'.heap.size) w' d' L v' mb' ∧ Keep No w w' := by
  have q0 : w.cell? ⟨d, 0, none⟩ = some v := h.blk.cell 0
  have q1 : w.cell? ⟨d, 1, none⟩ = some (.map (some mb)) := h.blk.cell 1
  obtain ⟨a, c, rfl, _, _⟩ := h.ms.shape
  unfold ptrTo
  go_enter Tryd.func16, Tryd.ntmps16
  go_wp2_with fail
  have q0d : w.drew.cell? ⟨d, 0, none⟩ = some (.slice a L.m.length c) := q0
  have q1d : w.drew.cell? ⟨d, 1, none⟩ = some (.map (some mb)) := q1
  refine wp_region_sig (fun w' => w'.cell? ⟨d, 0, none⟩ = some (.slice a L.m.length c) ∧ w'.cell? ⟨d, 1, none⟩ = some (.map (some mb))) (fun j => decide (j ≤ 99)) [(0, true), (1, true), (2, true), (3, true), (5, true), (6, true), (7, true), (8, true), (4, false), (9, false), (10, true), (11, false), (12, true)] (by kernel_rfl) (by kernel_rfl) (by intro c a d v w h; cases d <;> exact h) ⟨q0d, q1d⟩ ?_
  apply sig_still (o := ⟨some 5, _, _, _, _, _⟩) rfl rfl
  · intro w' hS
    obtain ⟨q1, q2⟩ := hS
    first | (go_simp; done) | (go_simp; rfl) | rfl
  go_frame
  apply sig_still (o := ⟨some 6, _, _, _, _, _⟩) rfl rfl
  · intro w' hS
    obtain ⟨q1, q2⟩ := hS
    first | (go_simp; done) | (go_simp; rfl) | rfl
  go_frame
  apply sig_still (o := ⟨some 7, _, _, _, _, _⟩) rfl rfl
  · intro w' hS
    obtain ⟨q1, q2⟩ := hS
    first | (go_simp; done) | (go_simp; rfl) | rfl
  go_frame
  apply sig_still (o := ⟨some 8, _, _, _, _, _⟩) rfl rfl
  · intro w' hS
    obtain ⟨q1, q2⟩ := hS
    first | (go_simp; done) | (go_simp; rfl) | rfl
  go_frame
  apply sig_still (o := ⟨some 10, _, _, _, _, _⟩) rfl rfl
  · intro w' hS
    obtain ⟨q1, q2⟩ := hS
    first | (go_simp; done) | (go_simp; rfl) | rfl
  go_frame
  apply sig_still (o := ⟨some 11, _, _, _, _, _⟩) rfl rfl
  · intro w' hS
    obtain ⟨q1, q2⟩ := hS
    first | (go_simp; done) | (go_simp; rfl) | rfl
  go_frame
  apply sig_still (o := ⟨some 12, _, _, _, _, _⟩) rfl rfl
  · intro w' hS
    obtain ⟨q1, q2⟩ := hS
    first | (go_simp; done) | (go_simp; rfl) | rfl
  go_frame
  apply sig_still (o := ⟨some 13, _, _, _, _, _⟩) rfl rfl
  · intro w' hS
    obtain ⟨q1, q2⟩ := hS
    first | (go_simp; done) | (go_simp; rfl) | rfl
  go_frame
  refine sig_eff (o := ⟨some 9, _, _, _, _, _⟩) rfl rfl (fun K hKe => ?_)
  have hcl := clmod_any _ L.m w.drew (h.ms.no (Keep.refl No w).drew) h.ok.ln
  go_wp2_with fail
  refine hcl.mono ?_
  rintro e W ⟨v', rfl, ho, hk⟩
  clear hcl
  have hkw : Keep No w W := (Keep.refl No w).drew.trans' hk
  have hW := h.no hA hkw
  refine hKe _ _ ⟨fun _ => ⟨hW.blk.cell 0, hW.blk.cell 1⟩, ?_⟩
  refine sig_eff (o := ⟨some 14, _, _, _, _, _⟩) rfl rfl (fun K hKe => ?_)
  go_wp2_with fail
  refine (mcloneW_any W hW.mp).mono ?_
  rintro e W2 ⟨rfl, hm2, hk2, hs2⟩
  have hkw2 := hkw.trans' hk2
  have hW2 := h.no hA hkw2
  refine hKe _ _ ⟨fun _ => ⟨hW2.blk.cell 0, hW2.blk.cell 1⟩, ?_⟩
  obtain ⟨ao2, co2, rfl, _, _⟩ := ho.fl.shape
  have ho2 := ho.fl.no hk2
  apply sig_still (o := ⟨some 15, _, _, _, _, _⟩) rfl rfl
  · intro w' hS
    obtain ⟨q1, q2⟩ := hS
    first | (go_simp; done) | (go_simp; rfl) | rfl
  go_frame
  refine sig_eff (o := ⟨some 16, _, _, _, _, _⟩) rfl rfl (fun K hKe => ?_)
  go_wp2_with fail
  have hkW3 : Keep No W2 (W2.alloc (.cells #[.slice ao2 L.m.length co2, .map (some W.heap.size)] 69)) := (Keep.refl _ _).alloc _
  have hBW3 : Blk (W2.alloc (.cells #[.slice ao2 L.m.length co2, .map (some W.heap.size)] 69)) W2.heap.size #[.slice ao2 L.m.length co2, .map (some W.heap.size)] 69 := Blk.new _ _ _
  have hzW3 : (W2.alloc (.cells #[.slice ao2 L.m.length co2, .map (some W.heap.size)] 69)).heap.size = W2.heap.size + 1 := World.size_alloc _ _
  generalize W2.alloc (.cells #[.slice ao2 L.m.length co2, .map (some W.heap.size)] 69) = W3 at *
  have hkw3 := hkw2.trans' hkW3
  have hW3 := h.no hA hkw3
  refine ⟨fun _ => ⟨hW3.blk.cell 0, hW3.blk.cell 1⟩, ?_⟩
  apply sig_still (o := ⟨some 2, _, _, _, _, _⟩) rfl rfl
  · intro w' hS
    obtain ⟨q1, q2⟩ := hS
    first | (go_simp; done) | (go_simp; rfl) | rfl
  go_frame
  refine sig_nil ?_
  go_wp2_with fail
  go_ret
  have ho3 := ho2.no hkW3
  have hws : w.drew.heap.size = w.heap.size := rfl
  rw [hws] at ho3
  rw [hs2] at hBW3
  have hsz := hkw.size
  have hlt := hBW3.lt
  refine ⟨_, _, _, rfl, ⟨hBW3, Sl.mono ho3 fun k hk1 ha => ⟨⟨ha.1, hk1⟩, by have := ha.2; omega⟩, hm2.keep hkW3 fun h => h, h.ok, ⟨by omega, hlt⟩, ⟨by omega, by omega⟩⟩, hkw3⟩
end
end Go.Proofs.YthfekjnekaecaaaDoor
namespace Go.Dm.Cp
open Go Go.Dm.Vm
def opsT : List (Nat × List UInt8 × List UInt8) := [(1, [110, 111, 112], []), (2, [109, 111, 118], [97, 98]), (3, [97, 100, 100], [97, 98, 99]), (4, [115, 117, 98], [97, 98, 99]), (5, [109, 117, 108], [97, 98, 99]), (6, [100, 105, 118], [97, 98, 99]), (7, [114, 101, 109], [97, 98, 99]), (8, [97, 110, 100], [97, 98, 99]), (9, [111, 114], [97, 98, 99]), (10, [120, 111, 114], [97, 98, 99]), (11, [115, 104, 108], [97, 98, 99]), (12, [115, 104, 114], [97, 98, 99]), (13, [115, 97, 114], [97, 98, 99]), (14, [115, 108, 116], [97, 98, 99]), (15, [115, 108, 116, 117], [97, 98, 99]), (16, [97, 100, 100, 105], [97, 98, 105]), (17, [109, 111, 118, 105], [97, 105]), (18, [109, 111, 118, 104, 105], [97, 105]), (20, [108, 100, 49], [97, 98, 105]), (21, [108, 100, 50], [97, 98, 105]), (22, [108, 100, 52], [97, 98, 105]), (23, [108, 100, 56], [97, 98, 105]), (24, [115, 116, 49], [97, 98, 105]), (25, [115, 116, 50], [97, 98, 105]), (26, [115, 116, 52], [97, 98, 105]), (27, [115, 116, 56], [97, 98, 105]), (30, [98, 101, 113], [97, 98, 105]), (31, [98, 110, 101], [97, 98, 105]), (32, [98, 108, 116], [97, 98, 105]), (33, [98, 108, 116, 117], [97, 98, 105]), (34, [106, 109, 112], [105]), (35, [99, 97, 108, 108], [97, 105]), (36, [106, 114], [98]), (37, [99, 97, 108, 108, 114], [97, 98]), (38, [108, 101, 97], [97, 105]), (39, [116, 108, 115], [97, 105]), (40, [115, 121, 115], []), (41, [116, 114, 97, 112], [105])]
theorem opsT_len : opsT.length = 38 := by decide
theorem opsT_get : ∀ i, i < 38 → isOp ((opsT.getD i (0, [], [])).1 : Nat) = true ∧ (opsT.getD i (0, [], [])).2.2 = fieldsL ((opsT.getD i (0, [], [])).1 : Nat) := by decide
theorem opsT_all' : ∀ k, k < 42 → isOp (k : Nat) = true → ∃ i, i < 38 ∧ (opsT.getD i (0, [], [])).1 = k := by decide
theorem opsT_all {n : Int} (h : isOp n = true) : ∃ i, i < 38 ∧ ((opsT.getD i (0, [], [])).1 : Int) = n := by
  have h2 : 1 ≤ n ∧ n ≤ 41 := by
    unfold isOp at h
    have := of_decide_eq_true h
    exact ⟨this.1, this.2.1⟩
  obtain ⟨k, rfl⟩ : ∃ k : Nat, n = k := ⟨n.toNat, by omega⟩
  obtain ⟨i, hi, he⟩ := opsT_all' k (by omega) h
  exact ⟨i, hi, by omega⟩
/-- is a letter among an operation's fields? -/
theorem fields_has (h : Nat) : ∀ k, k < 4 → ((((if h % 2 = 1 then [97] else []) ++ (if h / 2 % 2 = 1 then [98] else []) ++ (if h / 4 % 2 = 1 then [99] else []) ++ (if h / 8 % 2 = 1 then [105] else []) : List UInt8).contains (([97, 98, 99, 105] : List UInt8).getD k 0)) = decide (h / 2 ^ k % 2 = 1)) := by
  intro k hk
  have : k = 0 ∨ k = 1 ∨ k = 2 ∨ k = 3 := by omega
  rcases this with rfl | rfl | rfl | rfl <;> (by_cases h1 : h % 2 = 1 <;> by_cases h2 : h / 2 % 2 = 1 <;> by_cases h3 : h / 4 % 2 = 1 <;> by_cases h4 : h / 8 % 2 = 1 <;> simp [h1, h2, h3, h4])
end Go.Dm.Cp
namespace Go.Proofs.YthfekjnekaecaaaDoor
open Go.RowKit Go.Dm Go.Dm.Vm Go.Dm.Cp Go.Maps

def encO (o : Nat × List UInt8 × List UInt8) : List Value := [.int .i64 (o.1 : Int), .string ⟨o.2.1.toArray⟩, .string ⟨o.2.2.toArray⟩]
theorem encO_len (o : Nat × List UInt8 × List UInt8) : (encO o).length = 3 := rfl
/-- the tables that start-up lays -/
structure Tabs (w : World) : Prop where
  ops : Fl (fun k => k = 0) w 3 encO (.slice (some ⟨0, 0, none⟩) 38 38) opsT
theorem Tabs.keep {S : Nat → Prop} {w w' : World} (h : Tabs w) (hk : Keep S w w') (h1 : ¬ S 0) : Tabs w' where
  ops := h.ops.keep hk fun j _ e => by subst e; exact h1
theorem Tabs.no {w w' : World} (h : Tabs w) (hk : Keep No w w') : Tabs w' := h.keep hk (fun h => h)
theorem Tabs.at {w : World} (h : Tabs w) {i : Nat} (hi : i < 38) : w.cell? ⟨0, i * 3, none⟩ = some (.int .i64 ((opsT.getD i (0, [], [])).1 : Int)) ∧ w.cell? ⟨0, i * 3 + 1, none⟩ = some (.string ⟨(opsT.getD i (0, [], [])).2.1.toArray⟩) ∧ w.cell? ⟨0, i * 3 + 2, none⟩ = some (.string ⟨(opsT.getD i (0, [], [])).2.2.toArray⟩) := by
  have hl : i < opsT.length := by rw [opsT_len]; exact hi
  obtain ⟨g, off, cap, e, _, _, _, _, hc⟩ := h.ops.at encO_len hl
  rw [opsT_len] at e
  have e1 := (Value.slice.inj e).1
  have e2 := Option.some.inj e1
  obtain ⟨rfl, rfl⟩ : 0 = g ∧ 0 = off := ⟨congrArg Addr.block e2, congrArg Addr.off e2⟩
  rw [List.getD_eq_getElem?_getD, List.getElem?_eq_getElem hl]
  have c0 := hc 0 _ rfl
  have c1 := hc 1 _ rfl
  have c2 := hc 2 _ rfl
  rw [Nat.zero_add] at c0 c1 c2
  exact ⟨c0, c1, c2⟩
section
variable {w : World}
set_option maxRecDepth 100000 in
theorem isamay1_any (a n : Int) (s t : ByteArray) (q : Nat) (hq : w.cell? ⟨q, 0, none⟩ = some (.int .i64 n)) (hql : q < w.heap.size) :
    Calls Tryd.prog 64 #[.agg #[.int .i64 a, .string s, .string t], .pointer (some ⟨q, 0, none⟩)] w fun e w' => e = .returned (.bool (a == n)) ∧ Keep No w w' := by
  have hne : q ≠ w.heap.size := Nat.ne_of_lt hql
  go_enter Tryd.func64, Tryd.ntmps64
  go_wp2_with fail
  have hkW : Keep No w (w.alloc (.cells #[.int .i64 a, .string s, .string t] 108)) := (Keep.refl _ _).alloc _
  have hBW : Blk (w.alloc (.cells #[.int .i64 a, .string s, .string t] 108)) w.heap.size #[.int .i64 a, .string s, .string t] 108 := Blk.new _ _ _
  have hzW : (w.alloc (.cells #[.int .i64 a, .string s, .string t] 108)).heap.size = w.heap.size + 1 := World.size_alloc _ _
  generalize w.alloc (.cells #[.int .i64 a, .string s, .string t] 108) = W at *
  have q0 : W.cell? ⟨w.heap.size, 0, none⟩ = some (.int .i64 a) := hBW.cell 0
  have q1 : W.cell? ⟨q, 0, none⟩ = some (.int .i64 n) := (hkW.cell (p := ⟨q, 0, none⟩) hql fun h => h).trans hq
  go_wp2_with fail
  go_ret
  exact ⟨rfl, hkW⟩
set_option maxRecDepth 100000 in
set_option maxHeartbeats 4000000 in
theorem idxop_any (n : Int) (q : Nat) (hT : Tabs w) (hq : w.cell? ⟨q, 0, none⟩ = some (.int .i64 n)) (hql : q < w.heap.size) :
    Calls Tryd.prog 73 #[.slice (some ⟨0, 0, none⟩) 38 38, .func (.func 64) #[] #[.pointer (some ⟨q, 0, none⟩)]] w fun e w' => ∃ r : Int, e = .returned (.int .i64 r) ∧ ((∃ i, i < 38 ∧ r = (i : Nat) ∧ ((opsT.getD i (0, [], [])).1 : Int) = n) ∨ (r = -1 ∧ ∀ i, i < 38 → ((opsT.getD i (0, [], [])).1 : Int) ≠ n)) ∧ Keep No w w' := by
  have hent : ∀ a, Enters 64 (#[a] ++ #[.pointer (some ⟨q, 0, none⟩)]) := fun a w => by kernel_rfl
  unfold Enters at hent
  have HT := Lib.hid hT
  have HQ := Lib.hid hq
  clear hT hq
  go_enter Tryd.func73, Tryd.ntmps73
  go_wp2_with fail
  go_loopw [5, 8] (fun _ iv wr => ∃ i : Nat, iv = .int .i64 i ∧ i ≤ 38 ∧ (∀ j, j < i → ((opsT.getD j (0, [], [])).1 : Int) ≠ n) ∧ Keep No w wr) (fun _ iv _ => 38 - (intOf iv).toNat)
  case atStart => exact ⟨0, rfl, Nat.zero_le _, (fun j hj => absurd hj (Nat.not_lt_zero _)), Keep.refl _ _⟩
  case round =>
    obtain ⟨i, rfl, hi, hno, hk⟩ := hrel
    generalize wr = wz at *
    rcases Nat.lt_or_ge i 38 with hlt | hge
    · obtain ⟨c0, c1, c2⟩ := (HT.out.no hk).at hlt
      have hiz : (i : Int) < 38 := by omega
      have hcall := isamay1_any (w := wz) ((opsT.getD i (0, [], [])).1 : Int) n ⟨(opsT.getD i (0, [], [])).2.1.toArray⟩ ⟨(opsT.getD i (0, [], [])).2.2.toArray⟩ q ((hk.cell (p := ⟨q, 0, none⟩) hql fun h => h).trans HQ.out) (Nat.lt_of_lt_of_le hql hk.size)
      have hfin : ((opsT.getD i (0, [], [])).1 : Int) = n → ∃ k, k < 38 ∧ (i : Int) = (k : Nat) ∧ ((opsT.getD k (0, [], [])).1 : Int) = n := fun h => ⟨i, hlt, rfl, h⟩
      have hno2 : ((opsT.getD i (0, [], [])).1 : Int) ≠ n → ∀ j, j < i + 1 → ((opsT.getD j (0, [], [])).1 : Int) ≠ n := fun h j hji => by
        rcases Nat.lt_or_ge j i with h2 | h2
        · exact hno j h2
        · obtain rfl : j = i := by omega
          exact h
      have HF := Lib.hid hfin
      have HN := Lib.hid hno2
      clear hno hfin hno2
      generalize ((opsT.getD i (0, [], [])).1 : Int) = x at *
      generalize (⟨(opsT.getD i (0, [], [])).2.1.toArray⟩ : ByteArray) = s1 at *
      generalize (⟨(opsT.getD i (0, [], [])).2.2.toArray⟩ : ByteArray) = s2 at *
      go_wp2_with fail
      refine hcall.mono ?_
      rintro e w2 ⟨rfl, hk2⟩
      have hk2' := hk.trans' hk2
      clear hcall c0 c1 c2
      by_cases e : x = n
      · have e1 : (x == n) = true := by simpa using e
        rw [e1]
        go_wp2_with fail
        go_ret
        exact ⟨_, rfl, .inl (HF.out e), hk2'⟩
      · have e1 : (x == n) = false := by simpa using e
        rw [e1]
        go_wp2_with fail
        go_roundw
        case rel => exact ⟨i + 1, by go_num, hlt, HN.out e, hk2'⟩
        case measure => simp [intOf]; omega
    · obtain rfl : i = 38 := Nat.le_antisymm hi hge
      go_wp2_with fail
      go_ret
      exact ⟨_, rfl, .inr ⟨rfl, hno⟩, hk⟩
set_option maxRecDepth 100000 in
set_option maxHeartbeats 4000000 in
theorem isafind_any (n : Int) (q : Nat) (hT : Tabs w) (hq : w.cell? ⟨q, 0, none⟩ = some (.int .i64 n)) (hql : q < w.heap.size) :
    Calls Tryd.prog 63 #[.func (.func 64) #[] #[.pointer (some ⟨q, 0, none⟩)]] w fun e w' => (∃ a s t, e = .returned (.tuple #[.agg #[.int .i64 a, .string s, .string t], .bool (isOp n)]) ∧ (isOp n = true → a = n ∧ t = ⟨(fieldsL n).toArray⟩)) ∧ Keep No w w' := by
  have hcal := fun (W : World) (hk : Keep No w W) => idxop_any (w := W) n q (hT.no hk) ((hk.cell (p := ⟨q, 0, none⟩) hql fun h => h).trans hq) (Nat.lt_of_lt_of_le hql hk.size)
  have HC := Lib.hid hcal
  have HT := Lib.hid hT
  clear hcal hT hq
  go_enter Tryd.func63, Tryd.ntmps63
  go_wp2_with fail
  have hkW : Keep No w (w.alloc (.cells #[.int .i64 0, .string ⟨#[]⟩, .string ⟨#[]⟩] 108)) := (Keep.refl _ _).alloc _
  have hBW : Blk (w.alloc (.cells #[.int .i64 0, .string ⟨#[]⟩, .string ⟨#[]⟩] 108)) w.heap.size #[.int .i64 0, .string ⟨#[]⟩, .string ⟨#[]⟩] 108 := Blk.new _ _ _
  have hzW : (w.alloc (.cells #[.int .i64 0, .string ⟨#[]⟩, .string ⟨#[]⟩] 108)).heap.size = w.heap.size + 1 := World.size_alloc _ _
  generalize w.alloc (.cells #[.int .i64 0, .string ⟨#[]⟩, .string ⟨#[]⟩] 108) = W at *
  have hc := HC.out W hkW
  go_wp2_with fail
  refine hc.mono ?_
  rintro e w2 ⟨r, rfl, hr, hk2⟩
  clear hc
  have hB2 := hBW.keep hk2 fun h => h
  have hkk := hkW.trans' hk2
  rcases hr with ⟨i, hi, rfl, hin⟩ | ⟨rfl, hno⟩
  · obtain ⟨c0, c1, c2⟩ := (HT.out.no hkk).at hi
    obtain ⟨g1, g2⟩ := opsT_get i hi
    rw [hin] at g1 g2 c0
    have hiz : (i : Int) < 38 := by omega
    have G1 := Lib.hid g1
    have G2 := Lib.hid g2
    clear g1 g2 hin
    generalize (opsT.getD i (0, [], [])).2.2 = fl at *
    generalize (⟨(opsT.getD i (0, [], [])).2.1.toArray⟩ : ByteArray) = s1 at *
    go_wp2_with (with_reducible refine wl_stAgg rfl _ _ _ rfl _ _ rfl rfl ?_)
    refine rg_stAgg hB2 (by kernel_rfl) (by rfl) (by simp [Value.oneCell']) ?_
    intro w3 hB3 hk3 _
    go_wp2_with fail
    refine ret_blk_tmp rfl rfl hB3 Tryd.underlying108 rfl (by kernel_rfl) rfl ?_
    refine ⟨⟨n, s1, _, by rw [G1.out]; rfl, fun _ => ⟨rfl, by rw [G2.out]⟩⟩, hkk.trans hk3 fun j hj e => ?_⟩
    have e2 : j = w.heap.size := e
    omega
  · have hf : isOp n = false := by
      cases h : isOp n with
      | false => rfl
      | true =>
        obtain ⟨i, hi, he⟩ := opsT_all h
        exact absurd he (hno i hi)
    have HF := Lib.hid hf
    clear hf hno
    go_wp2_with (with_reducible refine wl_stAgg rfl _ _ _ rfl _ _ rfl rfl ?_)
    refine rg_stAgg hB2 (by kernel_rfl) (by rfl) (by simp [Value.oneCell']) ?_
    intro w3 hB3 hk3 _
    go_wp2_with fail
    refine ret_blk_tmp rfl rfl hB3 Tryd.underlying108 rfl (by kernel_rfl) rfl ?_
    refine ⟨⟨0, _, _, by rw [HF.out]; rfl, fun h => by rw [HF.out] at h; cases h⟩, hkk.trans hk3 fun j hj e => ?_⟩
    have e2 : j = w.heap.size := e
    omega
end
end Go.Proofs.YthfekjnekaecaaaDoor
namespace Go.Proofs.YthfekjnekaecaaaDoor
open Go.RowKit Go.Dm Go.Dm.Vm Go.Dm.Cp Go.Maps

def mayK (op a b c imm : Int) : Nat → Bool
  | 0 => fieldB (hasM op) a
  | 1 => fieldB (hasM op / 2) b
  | 2 => fieldB (hasM op / 4) c
  | _ => immB (hasM op / 8) imm
theorem mayF_no {op a b c imm : Int} : ∀ k, k < 4 → mayK op a b c imm k = false → mayF op a b c imm = false := by
  intro k hk h
  have : k = 0 ∨ k = 1 ∨ k = 2 ∨ k = 3 := by omega
  unfold mayF
  rcases this with rfl | rfl | rfl | rfl <;> simp only [mayK] at h <;> rw [h] <;> simp
theorem mayF_yes {op a b c imm : Int} (ho : isOp op = true) (h : ∀ j, j < 4 → mayK op a b c imm j = true) : mayF op a b c imm = true := by
  unfold mayF
  have h0 := h 0 (by omega)
  have h1 := h 1 (by omega)
  have h2 := h 2 (by omega)
  have h3 := h 3 (by omega)
  simp only [mayK] at h0 h1 h2 h3
  rw [ho, h0, h1, h2, h3]
  rfl
theorem idx4_0 (a b c d : Int) (w : World) : (Instr.index 138 (.agg #[.int .i64 a, .int .i64 b, .int .i64 c, .int .i64 d]) (.int .i64 0)).run Tryd.prog w = .ok (.int .i64 a) w := by kernel_rfl
theorem idx4_1 (a b c d : Int) (w : World) : (Instr.index 138 (.agg #[.int .i64 a, .int .i64 b, .int .i64 c, .int .i64 d]) (.int .i64 1)).run Tryd.prog w = .ok (.int .i64 b) w := by kernel_rfl
theorem idx4_2 (a b c d : Int) (w : World) : (Instr.index 138 (.agg #[.int .i64 a, .int .i64 b, .int .i64 c, .int .i64 d]) (.int .i64 2)).run Tryd.prog w = .ok (.int .i64 c) w := by kernel_rfl
theorem idx4_3 (a b c d : Int) (w : World) : (Instr.index 138 (.agg #[.int .i64 a, .int .i64 b, .int .i64 c, .int .i64 d]) (.int .i64 3)).run Tryd.prog w = .ok (.int .i64 d) w := by kernel_rfl
theorem idx_contains (l : List UInt8) (c : UInt8) : decide (0 ≤ Lib.indexByte l c) = l.contains c := by
  induction l with
  | nil => rfl
  | cons b r ih =>
    rw [List.contains_cons]
    unfold Lib.indexByte
    have hge : -1 ≤ Lib.indexByte r c := by
      clear ih
      induction r with
      | nil => exact Int.le_refl _
      | cons x t ih2 =>
        unfold Lib.indexByte
        split
        · decide
        · split
          · decide
          · omega
    by_cases h : b = c
    · subst h
      simp
    · have h1 : (b == c) = false := by simpa using h
      have h2 : (c == b) = false := by simpa using fun e => h e.symm
      rw [h1, h2, Bool.false_or, ← ih]
      simp only [Bool.false_eq_true, if_false]
      by_cases h3 : Lib.indexByte r c = -1
      · rw [h3]; decide
      · have h4 : (Lib.indexByte r c == -1) = false := by simpa using h3
        rw [h4]
        simp only [Bool.false_eq_true, if_false]
        rw [Bool.eq_iff_iff, decide_eq_true_eq, decide_eq_true_eq]
        omega
section
variable {w : World}
set_option maxRecDepth 100000 in
theorem slidxb_any (s : ByteArray) (c : Int) (w : World) : Calls Tryd.prog 94 #[.string s, .int .u8 c] w fun e w' => e = .returned (.int .i64 (Lib.indexByte s.data.toList c.toNat.toUInt8)) ∧ w' = w := by
  go_enter Tryd.func94, Tryd.ntmps94
  go_wp2
  rw [run_callFunc_extern Tryd.func99 (by kernel_rfl) (by kernel_rfl) (by kernel_rfl) (e := Extern.BytealgIndexByte.indexByte) (by kernel_rfl), Lib.run_indexByteString]
  simp only [Result.andThen]
  rw [Oper.upon_value]
  go_wp2
  go_ret
  exact ⟨rfl, rfl⟩
set_option maxRecDepth 100000 in
theorem slidx_any (s : ByteArray) (c : UInt8) (w : World) : Calls Tryd.prog 87 #[.string s, .string ⟨#[c]⟩] w fun e w' => e = .returned (.int .i64 (Lib.indexByte s.data.toList c)) ∧ w' = w := by
  go_enter Tryd.func87, Tryd.ntmps87
  go_wp2_with fail
  · have h : ([c] == s.toList) = true := by assumption
    go_ret
    refine ⟨?_, rfl⟩
    have e : s.data.toList = [c] := by rw [← Lib.toList_data]; exact (beq_iff_eq.1 h).symm
    rw [e]
    simp [Lib.indexByte]
  · refine (slidxb_any s _ _).mono ?_
    rintro e w' ⟨rfl, rfl⟩
    go_wp2_with fail
    go_ret
    exact ⟨rfl, rfl⟩
set_option maxRecDepth 100000 in
theorem sindex_any (s : ByteArray) (c : UInt8) (w : World) : Calls Tryd.prog 74 #[.string s, .string ⟨#[c]⟩] w fun e w' => e = .returned (.int .i64 (Lib.indexByte s.data.toList c)) ∧ w' = w := by
  go_enter Tryd.func74, Tryd.ntmps74
  go_wp2_with fail
  refine (slidx_any s c _).mono ?_
  rintro e w' ⟨rfl, rfl⟩
  go_wp2_with fail
  go_ret
  exact ⟨rfl, rfl⟩
set_option maxRecDepth 100000 in
theorem scontains_any (l : List UInt8) (c : UInt8) (w : World) : Calls Tryd.prog 65 #[.string ⟨l.toArray⟩, .string ⟨#[c]⟩] w fun e w' => e = .returned (.bool (l.contains c)) ∧ w' = w := by
  have h := sindex_any ⟨l.toArray⟩ c w
  rw [show (⟨l.toArray⟩ : ByteArray).data.toList = l from rfl] at h
  rw [← idx_contains]
  generalize (⟨l.toArray⟩ : ByteArray) = s at *
  generalize Lib.indexByte l c = r at *
  go_enter Tryd.func65, Tryd.ntmps65
  go_wp2_with fail
  refine h.mono ?_
  rintro e w' ⟨rfl, rfl⟩
  go_wp2_with fail
  go_ret
  exact ⟨rfl, rfl⟩
def sabci : ByteArray := ⟨#[97, 98, 99, 105]⟩
set_option maxRecDepth 100000 in
set_option maxHeartbeats 8000000 in
theorem isamay_any (op a b c imm : Int) (h1 : -2147483648 ≤ imm) (h2 : imm ≤ 2147483647) (hT : Tabs w) :
    Calls Tryd.prog 46 #[.agg #[.int .i64 op, .int .i64 a, .int .i64 b, .int .i64 c, .int .i32 imm]] w fun e w' => (∃ x y z, e = .returned (.tuple #[.agg #[.int .i64 x, .string y, .string z], .bool (mayF op a b c imm)])) ∧ Keep No w w' := by
  have HT := Lib.hid hT
  clear hT
  go_enter Tryd.func46, Tryd.ntmps46
  go_wp2_with fail
  have hkW1 : Keep No w (w.alloc (.cells #[.int .i64 op, .int .i64 a, .int .i64 b, .int .i64 c, .int .i32 imm] 37)) := (Keep.refl _ _).alloc _
  have hBW1 : Blk (w.alloc (.cells #[.int .i64 op, .int .i64 a, .int .i64 b, .int .i64 c, .int .i32 imm] 37)) w.heap.size #[.int .i64 op, .int .i64 a, .int .i64 b, .int .i64 c, .int .i32 imm] 37 := Blk.new _ _ _
  have hzW1 : (w.alloc (.cells #[.int .i64 op, .int .i64 a, .int .i64 b, .int .i64 c, .int .i32 imm] 37)).heap.size = w.heap.size + 1 := World.size_alloc _ _
  generalize w.alloc (.cells #[.int .i64 op, .int .i64 a, .int .i64 b, .int .i64 c, .int .i32 imm] 37) = W1 at *
  have hkW2 : Keep No W1 (W1.alloc (.cells #[.int .i64 0, .string ⟨#[]⟩, .string ⟨#[]⟩] 108)) := (Keep.refl _ _).alloc _
  have hBW2 : Blk (W1.alloc (.cells #[.int .i64 0, .string ⟨#[]⟩, .string ⟨#[]⟩] 108)) W1.heap.size #[.int .i64 0, .string ⟨#[]⟩, .string ⟨#[]⟩] 108 := Blk.new _ _ _
  have hzW2 : (W1.alloc (.cells #[.int .i64 0, .string ⟨#[]⟩, .string ⟨#[]⟩] 108)).heap.size = W1.heap.size + 1 := World.size_alloc _ _
  generalize W1.alloc (.cells #[.int .i64 0, .string ⟨#[]⟩, .string ⟨#[]⟩] 108) = W2 at *
  rw [hzW1] at hBW2 hzW2
  have b1 := hBW1.keep hkW2 fun h => h
  have hkW := hkW1.trans' hkW2
  have hfi := isafind_any (w := W2) op w.heap.size (HT.out.no hkW) (b1.cell 0) b1.lt
  go_wp2_with fail
  refine hfi.mono ?_
  rintro e w2 ⟨⟨n, s, t, rfl, hn⟩, hk2⟩
  have hB2 := hBW2.keep hk2 fun h => h
  have b12 := b1.keep hk2 fun h => h
  have hkw2 := hkW.trans' hk2
  have hz2 : w.heap.size + 2 ≤ w2.heap.size := by have := hk2.size; omega
  have hlt : w.heap.size < w2.heap.size := by omega
  clear hfi hBW1 hBW2 b1 hkW1 hkW2 hkW hk2 hzW1 hzW2
  cases hop : isOp op with
  | false =>
    have hff : mayF op a b c imm = false := by unfold mayF; rw [hop]; rfl
    clear hn
    go_wp2_with (with_reducible refine wl_stAgg rfl _ _ _ rfl _ _ rfl rfl ?_)
    have hka := (Keep.refl No w2).alloc (.cells #[.int .i64 0, .string ⟨#[]⟩, .string ⟨#[]⟩] 108)
    have hza : (w2.alloc (.cells #[.int .i64 0, .string ⟨#[]⟩, .string ⟨#[]⟩] 108)).heap.size = w2.heap.size + 1 := World.size_alloc _ _
    refine rg_stAgg (Blk.new _ _ _) (by kernel_rfl) (by rfl) (by simp [Value.oneCell']) ?_
    intro w3 hB3 hk3 hs3
    have hk23 : Keep No w2 w3 := hka.trans hk3 fun j hj e => absurd hj (by have e2 : j = w2.heap.size := e; omega)
    have hkw3 := hkw2.trans' hk23
    have hB23 := hB2.keep hk23 fun h => h
    have b13 := b12.keep hk23 fun h => h
    have hlt3 : w2.heap.size < w3.heap.size := hB3.lt
    clear hka hza hk3 hs3 hk23
    go_wp2_with (with_reducible refine wl_stAgg rfl _ _ _ rfl _ _ rfl rfl ?_)
    refine rg_stAgg hB23 (by kernel_rfl) (by rfl) (by simp [Value.oneCell']) ?_
    intro w5 hB5 hk5 _
    go_wp2_with fail
    refine ret_blk_tmp rfl rfl hB5 Tryd.underlying108 rfl (by kernel_rfl) rfl ?_
    refine ⟨⟨_, _, _, by rw [hff]; rfl⟩, hkw3.trans hk5 fun j hj e => ?_⟩
    have e2 : j = w.heap.size + 1 := e
    omega
  | true =>
    obtain ⟨rfl, rfl⟩ := hn hop
    have hfl : fieldsL n = (if hasM n % 2 = 1 then [97] else []) ++ (if hasM n / 2 % 2 = 1 then [98] else []) ++ (if hasM n / 4 % 2 = 1 then [99] else []) ++ (if hasM n / 8 % 2 = 1 then [105] else []) := rfl
    have HFL := Lib.hid hfl
    have HOP := Lib.hid hop
    clear hn hfl hop
    generalize fieldsL n = fl at *
    obtain ⟨hm, hmE⟩ : ∃ h, hasM n = h := ⟨_, rfl⟩
    rw [hmE] at HFL
    go_wp2_with (with_reducible refine wl_stAgg rfl _ _ _ rfl _ _ rfl rfl ?_)
    have hka := (Keep.refl No w2).alloc (.cells #[.int .i64 0, .string ⟨#[]⟩, .string ⟨#[]⟩] 108)
    have hza : (w2.alloc (.cells #[.int .i64 0, .string ⟨#[]⟩, .string ⟨#[]⟩] 108)).heap.size = w2.heap.size + 1 := World.size_alloc _ _
    refine rg_stAgg (Blk.new _ _ _) (by kernel_rfl) (by rfl) (by simp [Value.oneCell']) ?_
    intro w3 hB3 hk3 hs3
    have hk23 : Keep No w2 w3 := hka.trans hk3 fun j hj e => absurd hj (by have e2 : j = w2.heap.size := e; omega)
    have hkw3 := hkw2.trans' hk23
    have hB23 := hB2.keep hk23 fun h => h
    have b13 := b12.keep hk23 fun h => h
    have hlt3 : w2.heap.size < w3.heap.size := hB3.lt
    clear hka hza hk3 hs3 hk23
    have q1 : w3.cell? ⟨w.heap.size, 1, none⟩ = some (.int .i64 a) := b13.cell 1
    have q2 : w3.cell? ⟨w.heap.size, 2, none⟩ = some (.int .i64 b) := b13.cell 2
    have q3 : w3.cell? ⟨w.heap.size, 3, none⟩ = some (.int .i64 c) := b13.cell 3
    have q4 : w3.cell? ⟨w.heap.size, 4, none⟩ = some (.int .i32 imm) := b13.cell 4
    go_wp2_with fail
    go_loopw [6, 7, 8, 27] (fun _ _ _ iv wr => ∃ k : Nat, iv = .int .i64 (k : Int) ∧ k ≤ 4 ∧ (∀ j, j < k → mayK n a b c imm j = true) ∧ Keep No w3 wr) (fun _ _ _ iv _ => 4 - (intOf iv).toNat)
    case atStart => exact ⟨0, rfl, by omega, (fun j hj => absurd hj (Nat.not_lt_zero _)), Keep.refl _ _⟩
    case round =>
      obtain ⟨k, rfl, hk4, hall, hk⟩ := hrel
      generalize wr = wz at *
      have hB3z := hB3.keep hk fun h => h
      have q5 : wz.cell? ⟨w2.heap.size, 2, none⟩ = some (.string ⟨fl.toArray⟩) := hB3z.cell 2
      clear q1 q2 q3 q4
      have hkc : k = 0 ∨ k = 1 ∨ k = 2 ∨ k = 3 ∨ k = 4 := by omega
      rcases hkc with rfl | rfl | rfl | rfl | rfl
      · skip
        have hidx := idx4_0 a b c imm
        have hcon : fl.contains 97 = decide (hm / 2 ^ 0 % 2 = 1) := by rw [HFL.out]; exact fields_has hm 0 (by omega)
        have hct := fun W => scontains_any fl 97 W
        generalize fl.contains 97 = hv at *
        go_wp2_with fail
        go_quiet (first | (go_at_call 65; exact Calls.quiet_of_same (hct _)))
        have hkq := hk.drewN nq
        have hB2z := hB23.keep hkq fun h => h
        cases hv with
        | true =>
          have hb1 : hm / 2 ^ 0 % 2 = 1 := of_decide_eq_true hcon.symm
          clear hcon hct hidx
          by_cases hx : a < 0
          · have hff := mayF_no (imm := imm) (b := b) (c := c) (a := a) (op := n) 0 (by omega) (by simp only [mayK, fieldB]; simp; omega)
            go_wp2_with (with_reducible refine wl_stAgg rfl _ _ _ rfl _ _ rfl rfl ?_)
            refine rg_stAgg hB2z (by kernel_rfl) (by rfl) (by simp [Value.oneCell']) ?_
            intro w5 hB5 hk5 _
            go_wp2_with fail
            refine ret_blk_tmp rfl rfl hB5 Tryd.underlying108 rfl (by kernel_rfl) rfl ?_
            refine ⟨⟨_, _, _, by rw [hff]; rfl⟩, (hkw3.trans' hkq).trans hk5 fun j hj e => ?_⟩
            have e2 : j = w.heap.size + 1 := e
            omega
          · by_cases hx2 : a > 31
            · have hff := mayF_no (imm := imm) (b := b) (c := c) (a := a) (op := n) 0 (by omega) (by simp only [mayK, fieldB]; simp; omega)
              go_wp2_with (with_reducible refine wl_stAgg rfl _ _ _ rfl _ _ rfl rfl ?_)
              refine rg_stAgg hB2z (by kernel_rfl) (by rfl) (by simp [Value.oneCell']) ?_
              intro w5 hB5 hk5 _
              go_wp2_with fail
              refine ret_blk_tmp rfl rfl hB5 Tryd.underlying108 rfl (by kernel_rfl) rfl ?_
              refine ⟨⟨_, _, _, by rw [hff]; rfl⟩, (hkw3.trans' hkq).trans hk5 fun j hj e => ?_⟩
              have e2 : j = w.heap.size + 1 := e
              omega
            · have hokk : mayK n a b c imm 0 = true := by
                simp only [mayK, fieldB, hmE]
                simp at hb1
                simp [hb1]
                omega
              go_wp2_with fail
              go_roundw
              case rel =>
                refine ⟨0 + 1, by go_num, by omega, fun j hj => ?_, hkq⟩
                rcases Nat.lt_or_ge j 0 with h | h
                · exact hall j h
                · obtain rfl : j = 0 := by omega
                  exact hokk
              case measure => simp [intOf]
        | false =>
          have hb1 : ¬ hm / 2 ^ 0 % 2 = 1 := of_decide_eq_false hcon.symm
          clear hcon hct hidx
          by_cases hx : a = 0
          · have hxz : (a != 0) = false := by simpa using hx
            have hxl : ¬ a < 0 := by omega
            have hxg : ¬ a > 31 := by omega
            have hokk : mayK n a b c imm 0 = true := by
              simp only [mayK, fieldB, immB, hmE, Nat.pow_zero, Nat.div_one, Nat.pow_one] at *
              simp [hx]
            go_wp2_with fail
            go_roundw
            case rel =>
              refine ⟨0 + 1, by go_num, by omega, fun j hj => ?_, hkq⟩
              rcases Nat.lt_or_ge j 0 with h | h
              · exact hall j h
              · obtain rfl : j = 0 := by omega
                exact hokk
            case measure => simp [intOf]
          · have hxz : (a != 0) = true := by simpa using hx
            have hokk : mayK n a b c imm 0 = false := by
              simp only [mayK, fieldB, immB, hmE]
              simp at hb1
              simp [hx, hb1]
            have hff := mayF_no (imm := imm) (b := b) (c := c) (a := a) (op := n) 0 (by omega) hokk
            go_wp2_with (with_reducible refine wl_stAgg rfl _ _ _ rfl _ _ rfl rfl ?_)
            refine rg_stAgg hB2z (by kernel_rfl) (by rfl) (by simp [Value.oneCell']) ?_
            intro w5 hB5 hk5 _
            go_wp2_with fail
            refine ret_blk_tmp rfl rfl hB5 Tryd.underlying108 rfl (by kernel_rfl) rfl ?_
            refine ⟨⟨_, _, _, by rw [hff]; rfl⟩, (hkw3.trans' hkq).trans hk5 fun j hj e => ?_⟩
            have e2 : j = w.heap.size + 1 := e
            omega
      · skip
        have hidx := idx4_1 a b c imm
        have hcon : fl.contains 98 = decide (hm / 2 ^ 1 % 2 = 1) := by rw [HFL.out]; exact fields_has hm 1 (by omega)
        have hct := fun W => scontains_any fl 98 W
        generalize fl.contains 98 = hv at *
        go_wp2_with fail
        go_quiet (first | (go_at_call 65; exact Calls.quiet_of_same (hct _)))
        have hkq := hk.drewN nq
        have hB2z := hB23.keep hkq fun h => h
        cases hv with
        | true =>
          have hb1 : hm / 2 ^ 1 % 2 = 1 := of_decide_eq_true hcon.symm
          clear hcon hct hidx
          by_cases hx : b < 0
          · have hff := mayF_no (imm := imm) (b := b) (c := c) (a := a) (op := n) 1 (by omega) (by simp only [mayK, fieldB]; simp; omega)
            go_wp2_with (with_reducible refine wl_stAgg rfl _ _ _ rfl _ _ rfl rfl ?_)
            refine rg_stAgg hB2z (by kernel_rfl) (by rfl) (by simp [Value.oneCell']) ?_
            intro w5 hB5 hk5 _
            go_wp2_with fail
            refine ret_blk_tmp rfl rfl hB5 Tryd.underlying108 rfl (by kernel_rfl) rfl ?_
            refine ⟨⟨_, _, _, by rw [hff]; rfl⟩, (hkw3.trans' hkq).trans hk5 fun j hj e => ?_⟩
            have e2 : j = w.heap.size + 1 := e
            omega
          · by_cases hx2 : b > 31
            · have hff := mayF_no (imm := imm) (b := b) (c := c) (a := a) (op := n) 1 (by omega) (by simp only [mayK, fieldB]; simp; omega)
              go_wp2_with (with_reducible refine wl_stAgg rfl _ _ _ rfl _ _ rfl rfl ?_)
              refine rg_stAgg hB2z (by kernel_rfl) (by rfl) (by simp [Value.oneCell']) ?_
              intro w5 hB5 hk5 _
              go_wp2_with fail
              refine ret_blk_tmp rfl rfl hB5 Tryd.underlying108 rfl (by kernel_rfl) rfl ?_
              refine ⟨⟨_, _, _, by rw [hff]; rfl⟩, (hkw3.trans' hkq).trans hk5 fun j hj e => ?_⟩
              have e2 : j = w.heap.size + 1 := e
              omega
            · have hokk : mayK n a b c imm 1 = true := by
                simp only [mayK, fieldB, hmE]
                simp at hb1
                simp [hb1]
                omega
              go_wp2_with fail
              go_roundw
              case rel =>
                refine ⟨1 + 1, by go_num, by omega, fun j hj => ?_, hkq⟩
                rcases Nat.lt_or_ge j 1 with h | h
                · exact hall j h
                · obtain rfl : j = 1 := by omega
                  exact hokk
              case measure => simp [intOf]
        | false =>
          have hb1 : ¬ hm / 2 ^ 1 % 2 = 1 := of_decide_eq_false hcon.symm
          clear hcon hct hidx
          by_cases hx : b = 0
          · have hxz : (b != 0) = false := by simpa using hx
            have hxl : ¬ b < 0 := by omega
            have hxg : ¬ b > 31 := by omega
            have hokk : mayK n a b c imm 1 = true := by
              simp only [mayK, fieldB, immB, hmE, Nat.pow_zero, Nat.div_one, Nat.pow_one] at *
              simp [hx]
            go_wp2_with fail
            go_roundw
            case rel =>
              refine ⟨1 + 1, by go_num, by omega, fun j hj => ?_, hkq⟩
              rcases Nat.lt_or_ge j 1 with h | h
              · exact hall j h
              · obtain rfl : j = 1 := by omega
                exact hokk
            case measure => simp [intOf]
          · have hxz : (b != 0) = true := by simpa using hx
            have hokk : mayK n a b c imm 1 = false := by
              simp only [mayK, fieldB, immB, hmE]
              simp at hb1
              simp [hx, hb1]
            have hff := mayF_no (imm := imm) (b := b) (c := c) (a := a) (op := n) 1 (by omega) hokk
            go_wp2_with (with_reducible refine wl_stAgg rfl _ _ _ rfl _ _ rfl rfl ?_)
            refine rg_stAgg hB2z (by kernel_rfl) (by rfl) (by simp [Value.oneCell']) ?_
            intro w5 hB5 hk5 _
            go_wp2_with fail
            refine ret_blk_tmp rfl rfl hB5 Tryd.underlying108 rfl (by kernel_rfl) rfl ?_
            refine ⟨⟨_, _, _, by rw [hff]; rfl⟩, (hkw3.trans' hkq).trans hk5 fun j hj e => ?_⟩
            have e2 : j = w.heap.size + 1 := e
            omega
      · skip
        have hidx := idx4_2 a b c imm
        have hcon : fl.contains 99 = decide (hm / 2 ^ 2 % 2 = 1) := by rw [HFL.out]; exact fields_has hm 2 (by omega)
        have hct := fun W => scontains_any fl 99 W
        generalize fl.contains 99 = hv at *
        go_wp2_with fail
        go_quiet (first | (go_at_call 65; exact Calls.quiet_of_same (hct _)))
        have hkq := hk.drewN nq
        have hB2z := hB23.keep hkq fun h => h
        cases hv with
        | true =>
          have hb1 : hm / 2 ^ 2 % 2 = 1 := of_decide_eq_true hcon.symm
          clear hcon hct hidx
          by_cases hx : c < 0
          · have hff := mayF_no (imm := imm) (b := b) (c := c) (a := a) (op := n) 2 (by omega) (by simp only [mayK, fieldB]; simp; omega)
            go_wp2_with (with_reducible refine wl_stAgg rfl _ _ _ rfl _ _ rfl rfl ?_)
            refine rg_stAgg hB2z (by kernel_rfl) (by rfl) (by simp [Value.oneCell']) ?_
            intro w5 hB5 hk5 _
            go_wp2_with fail
            refine ret_blk_tmp rfl rfl hB5 Tryd.underlying108 rfl (by kernel_rfl) rfl ?_
            refine ⟨⟨_, _, _, by rw [hff]; rfl⟩, (hkw3.trans' hkq).trans hk5 fun j hj e => ?_⟩
            have e2 : j = w.heap.size + 1 := e
            omega
          · by_cases hx2 : c > 31
            · have hff := mayF_no (imm := imm) (b := b) (c := c) (a := a) (op := n) 2 (by omega) (by simp only [mayK, fieldB]; simp; omega)
              go_wp2_with (with_reducible refine wl_stAgg rfl _ _ _ rfl _ _ rfl rfl ?_)
              refine rg_stAgg hB2z (by kernel_rfl) (by rfl) (by simp [Value.oneCell']) ?_
              intro w5 hB5 hk5 _
              go_wp2_with fail
              refine ret_blk_tmp rfl rfl hB5 Tryd.underlying108 rfl (by kernel_rfl) rfl ?_
              refine ⟨⟨_, _, _, by rw [hff]; rfl⟩, (hkw3.trans' hkq).trans hk5 fun j hj e => ?_⟩
              have e2 : j = w.heap.size + 1 := e
              omega
            · have hokk : mayK n a b c imm 2 = true := by
                simp only [mayK, fieldB, hmE]
                simp at hb1
                simp [hb1]
                omega
              go_wp2_with fail
              go_roundw
              case rel =>
                refine ⟨2 + 1, by go_num, by omega, fun j hj => ?_, hkq⟩
                rcases Nat.lt_or_ge j 2 with h | h
                · exact hall j h
                · obtain rfl : j = 2 := by omega
                  exact hokk
              case measure => simp [intOf]
        | false =>
          have hb1 : ¬ hm / 2 ^ 2 % 2 = 1 := of_decide_eq_false hcon.symm
          clear hcon hct hidx
          by_cases hx : c = 0
          · have hxz : (c != 0) = false := by simpa using hx
            have hxl : ¬ c < 0 := by omega
            have hxg : ¬ c > 31 := by omega
            have hokk : mayK n a b c imm 2 = true := by
              simp only [mayK, fieldB, immB, hmE, Nat.pow_zero, Nat.div_one, Nat.pow_one] at *
              simp [hx]
            go_wp2_with fail
            go_roundw
            case rel =>
              refine ⟨2 + 1, by go_num, by omega, fun j hj => ?_, hkq⟩
              rcases Nat.lt_or_ge j 2 with h | h
              · exact hall j h
              · obtain rfl : j = 2 := by omega
                exact hokk
            case measure => simp [intOf]
          · have hxz : (c != 0) = true := by simpa using hx
            have hokk : mayK n a b c imm 2 = false := by
              simp only [mayK, fieldB, immB, hmE]
              simp at hb1
              simp [hx, hb1]
            have hff := mayF_no (imm := imm) (b := b) (c := c) (a := a) (op := n) 2 (by omega) hokk
            go_wp2_with (with_reducible refine wl_stAgg rfl _ _ _ rfl _ _ rfl rfl ?_)
            refine rg_stAgg hB2z (by kernel_rfl) (by rfl) (by simp [Value.oneCell']) ?_
            intro w5 hB5 hk5 _
            go_wp2_with fail
            refine ret_blk_tmp rfl rfl hB5 Tryd.underlying108 rfl (by kernel_rfl) rfl ?_
            refine ⟨⟨_, _, _, by rw [hff]; rfl⟩, (hkw3.trans' hkq).trans hk5 fun j hj e => ?_⟩
            have e2 : j = w.heap.size + 1 := e
            omega
      · skip
        have hidx := idx4_3 a b c imm
        have hcon : fl.contains 105 = decide (hm / 2 ^ 3 % 2 = 1) := by rw [HFL.out]; exact fields_has hm 3 (by omega)
        have hct := fun W => scontains_any fl 105 W
        generalize fl.contains 105 = hv at *
        go_wp2_with fail
        go_quiet (first | (go_at_call 65; exact Calls.quiet_of_same (hct _)))
        have hkq := hk.drewN nq
        have hB2z := hB23.keep hkq fun h => h
        cases hv with
        | true =>
          have hb1 : hm / 2 ^ 3 % 2 = 1 := of_decide_eq_true hcon.symm
          clear hcon hct hidx
          have hokk : mayK n a b c imm 3 = true := by
            simp only [mayK, immB, hmE]
            simp at hb1
            simp [hb1]
          go_wp2_with fail
          go_roundw
          case rel =>
            refine ⟨3 + 1, by go_num, by omega, fun j hj => ?_, hkq⟩
            rcases Nat.lt_or_ge j 3 with h | h
            · exact hall j h
            · obtain rfl : j = 3 := by omega
              exact hokk
          case measure => simp [intOf]
        | false =>
          have hb1 : ¬ hm / 2 ^ 3 % 2 = 1 := of_decide_eq_false hcon.symm
          clear hcon hct hidx
          by_cases hx : imm = 0
          · have hxz : (imm != 0) = false := by simpa using hx
            have hxl : ¬ imm < 0 := by omega
            have hxg : ¬ imm > 31 := by omega
            have hokk : mayK n a b c imm 3 = true := by
              simp only [mayK, fieldB, immB, hmE, Nat.pow_zero, Nat.div_one, Nat.pow_one] at *
              simp [hx]
            go_wp2_with fail
            go_roundw
            case rel =>
              refine ⟨3 + 1, by go_num, by omega, fun j hj => ?_, hkq⟩
              rcases Nat.lt_or_ge j 3 with h | h
              · exact hall j h
              · obtain rfl : j = 3 := by omega
                exact hokk
            case measure => simp [intOf]
          · have hxz : (imm != 0) = true := by simpa using hx
            have hokk : mayK n a b c imm 3 = false := by
              simp only [mayK, fieldB, immB, hmE]
              simp at hb1
              simp [hx, hb1]
            have hff := mayF_no (imm := imm) (b := b) (c := c) (a := a) (op := n) 3 (by omega) hokk
            go_wp2_with (with_reducible refine wl_stAgg rfl _ _ _ rfl _ _ rfl rfl ?_)
            refine rg_stAgg hB2z (by kernel_rfl) (by rfl) (by simp [Value.oneCell']) ?_
            intro w5 hB5 hk5 _
            go_wp2_with fail
            refine ret_blk_tmp rfl rfl hB5 Tryd.underlying108 rfl (by kernel_rfl) rfl ?_
            refine ⟨⟨_, _, _, by rw [hff]; rfl⟩, (hkw3.trans' hkq).trans hk5 fun j hj e => ?_⟩
            have e2 : j = w.heap.size + 1 := e
            omega
      · have hyes := mayF_yes HOP.out hall
        have q6 : wz.cell? ⟨w2.heap.size, 0, none⟩ = some (.int .i64 n) := hB3z.cell 0
        have q7 : wz.cell? ⟨w2.heap.size, 1, none⟩ = some (.string s) := hB3z.cell 1
        go_wp2_with (with_reducible refine wl_stAgg rfl _ _ _ rfl _ _ rfl rfl ?_)
        refine rg_stAgg (hB23.keep hk fun h => h) (by kernel_rfl) (by rfl) (by simp [Value.oneCell']) ?_
        intro w5 hB5 hk5 _
        go_wp2_with fail
        refine ret_blk_tmp rfl rfl hB5 Tryd.underlying108 rfl (by kernel_rfl) rfl ?_
        refine ⟨⟨_, _, _, by rw [hyes]; rfl⟩, (hkw3.trans' hk).trans hk5 fun j hj e => ?_⟩
        have e2 : j = w.heap.size + 1 := e
        omega
end
end Go.Proofs.YthfekjnekaecaaaDoor
