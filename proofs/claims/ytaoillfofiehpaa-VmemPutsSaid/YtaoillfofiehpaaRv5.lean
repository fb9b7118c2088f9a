/- The document's example of chapter 13 comes out as it should (awake). Pages as the document's list, and the document's comparison (chapter 13). No condition. -/
import Derived.Test.YtaoillfofiehpaaVmPut
import Derived.Test.YtaoillfofiehpaaRv4
import Derived.Laws.StructEq
set_option linter.unusedVariables false
set_option linter.unusedSimpArgs false
namespace Go.Dm.Vm
open Go Go.Proofs.Ytaoillfofiehpaa
def awM2 : V := mapV [] 256 512 7 [102] 0
def awM3 : V := storeV awM2 300 8 7
theorem aw_map : mapE [] 256 512 7 = 0 := by decide
theorem aw_store : numE awM2 300 8 2 = 0 := by kernel_rfl
theorem aw_loadE : loadE awM3 300 8 = 0 := by kernel_rfl
theorem aw_loadX : loadX awM3 300 8 = 7 := by kernel_rfl
theorem aw_len : awM3.length = 2 := by kernel_rfl
theorem aw_fetch : fetchE awM3 256 = 0 := by kernel_rfl
theorem aw_dirty : awM3.map (fun p => (p.dirty, p.off)) = [(true, 0), (false, 256)] := by kernel_rfl
theorem aw_prot : protE awM3 256 256 4 = 0 := by kernel_rfl
theorem aw_unmap : unmapE (protV awM3 256 256 4) 256 256 = 0 := by kernel_rfl
def rawR (p : Pg) : PgR := ⟨p.addr, p.prot, p.dirty, p.file, p.off, p.b⟩
theorem aw_put : putE none (awM3.map rawR) = 0 := by kernel_rfl
theorem toPg_raw (m : V) : (m.map rawR).map toPg = m := by
  rw [List.map_map]
  conv => rhs; rw [← List.map_id m]
  apply List.map_congr_left
  intro p _
  simp [toPg, rawR]
end Go.Dm.Vm
namespace Go.Proofs.Ytaoillfofiehpaa
open Go.RowKit Go.Dm Go.Dm.Vm Go.Maps Go.Dm.Oc Go.WideMaps Go.WideElems

def rawP (g : Nat → Nat) (p : Pg) : PgR × Value := (rawR p, .slice (some ⟨g p.addr, 4, none⟩) 256 256)
section
variable {A : Nat → Prop} {w : World} {base : Nat} {m : V}
theorem pgs_in {v : Value} {g : Nat → Nat} (h : PgsV base w v m g) (ok : ∀ p ∈ m, PgOk p) :
    Fl (fun k => base ≤ k ∧ k < w.heap.size) w 6 encR v (m.map (rawP g)) ∧ (∀ x ∈ m.map (rawP g), Bts (fun k => base ≤ k ∧ k < w.heap.size) w x.2 x.1.b) ∧ (∀ x ∈ m.map (rawP g), x.1.addr < 18446744073709551616 ∧ x.1.off < 18446744073709551616 ∧ x.1.file.length ≤ maxLen ∧ x.1.b.length ≤ 1099511627776) ∧ (m.map (rawP g)).map (·.1) = m.map rawR := by
  refine ⟨?_, fun x hx => ?_, fun x hx => ?_, by rw [List.map_map]; rfl⟩
  · have h1 := h.row.fl
    unfold Fl at h1 ⊢
    rw [List.length_map, List.flatMap_map]
    exact h1
  · obtain ⟨p, hp, rfl⟩ := List.mem_map.1 hx
    have hb := (h.pg p hp).2
    have hl := (ok p hp).bl
    show Sl _ w 1 (.slice (some ⟨g p.addr, 4, none⟩) 256 256) p.b.length (p.b.map bv)
    rw [hl]
    refine Sl.mk (by rw [List.length_map, hl]) ⟨(h.pg p hp).1, hb.lt⟩ hb.lt (Nat.le_refl _) (by unfold maxLen; omega) fun j u hu => ?_
    rw [hb.cell, pgC_byte, ← hu, List.getElem?_map]
  · obtain ⟨p, hp, rfl⟩ := List.mem_map.1 hx
    have h1 := ok p hp
    have := h1.lt
    unfold top at this
    exact ⟨by show p.addr < _; omega, h1.ol, h1.fl, by show p.b.length ≤ _; rw [h1.bl]; omega⟩
theorem PgsV.cells {v : Value} {g : Nat → Nat} (h : PgsV base w v m g) {i : Nat} (hi : i < m.length) : ∃ g0 cap, v = .slice (some ⟨g0, 0, none⟩) m.length cap ∧ ∀ r u, (encP g m[i])[r]? = some u → w.cell? ⟨g0, i * 6 + r, none⟩ = some u := by
  obtain ⟨g0, off, cap, e, _, _, _, _, hc⟩ := h.row.fl.at (encP_len g) hi
  rcases h.row.2 with ⟨e2, _⟩ | ⟨g1, cap1, cur, e2, _⟩
  · rw [e] at e2; cases e2
  · rw [e] at e2
    cases e2
    exact ⟨g0, cap, e, fun r u hu => by have := hc r u hu; rwa [Nat.zero_add] at this⟩
set_option maxRecDepth 100000 in
set_option maxHeartbeats 4000000 in
theorem awake13_any (w : World) : Calls Try.prog 8 #[] w fun e w' => e = .returned (.bool true) ∧ Keep No w w' := by
  go_enter Try.func8, Try.ntmps8
  go_wp2_with (first | (at_builtin; refine wl_append rfl _ _ _ _ rfl _ _ rfl rfl ?_) | (at_make; refine wl_make rfl _ _ _ rfl _ _ rfl rfl ?_) | (at_mapUpdate; refine wl_mapUpdate rfl _ _ _ _ rfl _ _ _ rfl rfl rfl ?_) | (at_lookup; refine wl_lookup rfl _ _ _ _ rfl _ _ rfl rfl ?_) | (at_delete; refine wl_delete rfl _ _ _ _ rfl _ _ rfl rfl ?_) | (with_reducible refine wl_len rfl _ _ rfl _ rfl ?_) | (with_reducible refine wl_range rfl _ _ rfl _ rfl ?_) | (with_reducible refine wl_next rfl _ rfl _ rfl ?_) | (with_reducible refine wl_copy rfl _ _ _ _ rfl _ _ rfl rfl ?_) | (with_reducible refine wl_max rfl _ _ _ _ rfl _ _ rfl rfl ?_) | (with_reducible refine wl_min rfl _ _ _ _ rfl _ _ rfl rfl ?_))
  refine (vnew_any _).mono ?_
  rintro e w1 ⟨mb, d, f, rfl, hS, hk1⟩
  unfold ptrTo
  go_wp2_with (first | (at_builtin; refine wl_append rfl _ _ _ _ rfl _ _ rfl rfl ?_) | (at_make; refine wl_make rfl _ _ _ rfl _ _ rfl rfl ?_) | (at_mapUpdate; refine wl_mapUpdate rfl _ _ _ _ rfl _ _ _ rfl rfl rfl ?_) | (at_lookup; refine wl_lookup rfl _ _ _ _ rfl _ _ rfl rfl ?_) | (at_delete; refine wl_delete rfl _ _ _ _ rfl _ _ rfl rfl ?_) | (with_reducible refine wl_len rfl _ _ rfl _ rfl ?_) | (with_reducible refine wl_range rfl _ _ rfl _ rfl ?_) | (with_reducible refine wl_next rfl _ rfl _ rfl ?_) | (with_reducible refine wl_copy rfl _ _ _ _ rfl _ _ rfl rfl ?_) | (with_reducible refine wl_max rfl _ _ _ _ rfl _ _ rfl rfl ?_) | (with_reducible refine wl_min rfl _ _ _ _ rfl _ _ rfl rfl ?_))
  refine (vmap_any 256 512 0 7 [102] (by omega) (by omega) (by omega) (by unfold maxLen; simp) hS (fun k hk => hk.2)).mono ?_
  rintro e w2 ⟨rfl, ⟨f2, hS2⟩, hk2⟩
  rw [aw_map]
  have hS2' : SRep (fun k => w.heap.size ≤ k ∧ k < w2.heap.size) w2 d awM2 mb f2 := hS2.mono fun k hk ha => by
    rcases ha with ha | ha
    · exact ⟨ha.1, hk⟩
    · exact ⟨Nat.le_trans hk1.size ha.1, hk⟩
  have hK2 : Keep No w w2 := hk1.trans hk2 fun j hj ha => absurd ha.1 (Nat.not_le.2 hj)
  clear hS hS2 hk1 hk2
  go_wp2_with (first | (at_builtin; refine wl_append rfl _ _ _ _ rfl _ _ rfl rfl ?_) | (at_make; refine wl_make rfl _ _ _ rfl _ _ rfl rfl ?_) | (at_mapUpdate; refine wl_mapUpdate rfl _ _ _ _ rfl _ _ _ rfl rfl rfl ?_) | (at_lookup; refine wl_lookup rfl _ _ _ _ rfl _ _ rfl rfl ?_) | (at_delete; refine wl_delete rfl _ _ _ _ rfl _ _ rfl rfl ?_) | (with_reducible refine wl_len rfl _ _ rfl _ rfl ?_) | (with_reducible refine wl_range rfl _ _ rfl _ rfl ?_) | (with_reducible refine wl_next rfl _ rfl _ rfl ?_) | (with_reducible refine wl_copy rfl _ _ _ _ rfl _ _ rfl rfl ?_) | (with_reducible refine wl_max rfl _ _ _ _ rfl _ _ rfl rfl ?_) | (with_reducible refine wl_min rfl _ _ _ _ rfl _ _ rfl rfl ?_))
  refine (vstore_any 300 8 7 (by omega) (by omega) (by omega) (by omega) hS2' (fun k hk => hk.2)).mono ?_
  rintro e w3 ⟨rfl, hS3, hk3⟩
  rw [aw_store]
  have hK3 : Keep No w w3 := hK2.trans hk3 fun j hj ha => absurd ha.1 (Nat.not_le.2 hj)
  have hA3 : ∀ k, (w.heap.size ≤ k ∧ k < w2.heap.size) → k < w3.heap.size := fun k hk => Nat.lt_of_lt_of_le hk.2 hk3.size
  have hS3' : SRep (fun k => w.heap.size ≤ k ∧ k < w2.heap.size) w3 d awM3 mb f2 := hS3
  clear hS3 hS2' hk3
  go_wp2_with (first | (at_builtin; refine wl_append rfl _ _ _ _ rfl _ _ rfl rfl ?_) | (at_make; refine wl_make rfl _ _ _ rfl _ _ rfl rfl ?_) | (at_mapUpdate; refine wl_mapUpdate rfl _ _ _ _ rfl _ _ _ rfl rfl rfl ?_) | (at_lookup; refine wl_lookup rfl _ _ _ _ rfl _ _ rfl rfl ?_) | (at_delete; refine wl_delete rfl _ _ _ _ rfl _ _ rfl rfl ?_) | (with_reducible refine wl_len rfl _ _ rfl _ rfl ?_) | (with_reducible refine wl_range rfl _ _ rfl _ rfl ?_) | (with_reducible refine wl_next rfl _ rfl _ rfl ?_) | (with_reducible refine wl_copy rfl _ _ _ _ rfl _ _ rfl rfl ?_) | (with_reducible refine wl_max rfl _ _ _ _ rfl _ _ rfl rfl ?_) | (with_reducible refine wl_min rfl _ _ _ _ rfl _ _ rfl rfl ?_))
  refine (vload_any 300 8 (by omega) (by omega) (by omega) hS3' hA3).mono ?_
  rintro e w4 ⟨rfl, hk4⟩
  rw [aw_loadE, aw_loadX]
  have hS4 := hS3'.no hA3 hk4
  have hA4 : ∀ k, (w.heap.size ≤ k ∧ k < w2.heap.size) → k < w4.heap.size := fun k hk => Nat.lt_of_lt_of_le (hA3 k hk) hk4.size
  have hK4 := hK3.trans' hk4
  clear hS3' hA3 hk4 hK3
  go_wp2_with (first | (at_builtin; refine wl_append rfl _ _ _ _ rfl _ _ rfl rfl ?_) | (at_make; refine wl_make rfl _ _ _ rfl _ _ rfl rfl ?_) | (at_mapUpdate; refine wl_mapUpdate rfl _ _ _ _ rfl _ _ _ rfl rfl rfl ?_) | (at_lookup; refine wl_lookup rfl _ _ _ _ rfl _ _ rfl rfl ?_) | (at_delete; refine wl_delete rfl _ _ _ _ rfl _ _ rfl rfl ?_) | (with_reducible refine wl_len rfl _ _ rfl _ rfl ?_) | (with_reducible refine wl_range rfl _ _ rfl _ rfl ?_) | (with_reducible refine wl_next rfl _ rfl _ rfl ?_) | (with_reducible refine wl_copy rfl _ _ _ _ rfl _ _ rfl rfl ?_) | (with_reducible refine wl_max rfl _ _ _ _ rfl _ _ rfl rfl ?_) | (with_reducible refine wl_min rfl _ _ _ _ rfl _ _ rfl rfl ?_))
  refine (vpages_any hS4 hA4 (by rw [aw_len]; omega)).mono ?_
  rintro e w5 ⟨v, g, rfl, hP, hk5⟩
  have hS5 := hS4.no hA4 hk5
  have hA5 : ∀ k, (w.heap.size ≤ k ∧ k < w2.heap.size) → k < w5.heap.size := fun k hk => Nat.lt_of_lt_of_le (hA4 k hk) hk5.size
  have hK5 := hK4.trans' hk5
  clear hS4 hA4 hk5 hK4
  have hl2 : awM3.length = 2 := aw_len
  have hok3 : Ok awM3 := hS5.ok
  obtain ⟨g0, cap, rfl, hc0⟩ := hP.cells (i := 0) (by omega)
  obtain ⟨g0', cap', e1, hc1⟩ := hP.cells (i := 1) (by omega)
  cases e1
  have d0 : awM3[0].dirty = true := by
    have := congrArg (fun l => l[0]?) aw_dirty
    simp only [List.getElem?_map, List.getElem?_cons_zero] at this
    rw [List.getElem?_eq_getElem (by omega)] at this
    exact congrArg Prod.fst (Option.some.inj this)
  have d1 : (awM3[1].dirty, awM3[1].off) = (false, 256) := by
    have := congrArg (fun l => l[1]?) aw_dirty
    simp only [List.getElem?_map, List.getElem?_cons_zero, List.getElem?_cons_succ] at this
    rw [List.getElem?_eq_getElem (by omega)] at this
    exact Option.some.inj this
  have q0 : w5.cell? ⟨g0, 2, none⟩ = some (.bool true) := by
    have := hc0 2 _ rfl
    rw [d0] at this
    exact this
  have q1 : w5.cell? ⟨g0, 8, none⟩ = some (.bool false) := by
    have := hc1 2 _ rfl
    rw [(Prod.mk.inj d1).1] at this
    exact this
  have q2 : w5.cell? ⟨g0, 10, none⟩ = some (.int .u64 256) := by
    have := hc1 4 _ rfl
    rw [(Prod.mk.inj d1).2] at this
    exact this
  have hg0 : g0 < w5.heap.size := (World.ownsRow.lt hP.row g0 rfl).2
  obtain ⟨hFl, hBt, hRr, hmm⟩ := pgs_in hP hok3.pg
  rw [hl2]
  clear hc0 hc1 d0 d1
  go_wp2_with (first | (at_builtin; refine wl_append rfl _ _ _ _ rfl _ _ rfl rfl ?_) | (at_make; refine wl_make rfl _ _ _ rfl _ _ rfl rfl ?_) | (at_mapUpdate; refine wl_mapUpdate rfl _ _ _ _ rfl _ _ _ rfl rfl rfl ?_) | (at_lookup; refine wl_lookup rfl _ _ _ _ rfl _ _ rfl rfl ?_) | (at_delete; refine wl_delete rfl _ _ _ _ rfl _ _ rfl rfl ?_) | (with_reducible refine wl_len rfl _ _ rfl _ rfl ?_) | (with_reducible refine wl_range rfl _ _ rfl _ rfl ?_) | (with_reducible refine wl_next rfl _ rfl _ rfl ?_) | (with_reducible refine wl_copy rfl _ _ _ _ rfl _ _ rfl rfl ?_) | (with_reducible refine wl_max rfl _ _ _ _ rfl _ _ rfl rfl ?_) | (with_reducible refine wl_min rfl _ _ _ _ rfl _ _ rfl rfl ?_))
  refine (vfetch_any 256 (by omega) hS5 hA5).mono ?_
  rintro e w6 ⟨rfl, hk6⟩
  rw [aw_fetch]
  have hS6 := hS5.no hA5 hk6
  have hA6 : ∀ k, (w.heap.size ≤ k ∧ k < w2.heap.size) → k < w6.heap.size := fun k hk => Nat.lt_of_lt_of_le (hA5 k hk) hk6.size
  have hput := vput_any (w := w6) _ (hFl.no hk6) (fun x hx => (hBt x hx).keep hk6 fun _ _ _ h => h) hRr (by rw [List.length_map, hl2]; omega)
  rw [hmm, aw_put, toPg_raw] at hput
  rw [hl2] at hput
  go_wp2_with (first | (at_builtin; refine wl_append rfl _ _ _ _ rfl _ _ rfl rfl ?_) | (at_make; refine wl_make rfl _ _ _ rfl _ _ rfl rfl ?_) | (at_mapUpdate; refine wl_mapUpdate rfl _ _ _ _ rfl _ _ _ rfl rfl rfl ?_) | (at_lookup; refine wl_lookup rfl _ _ _ _ rfl _ _ rfl rfl ?_) | (at_delete; refine wl_delete rfl _ _ _ _ rfl _ _ rfl rfl ?_) | (with_reducible refine wl_len rfl _ _ rfl _ rfl ?_) | (with_reducible refine wl_range rfl _ _ rfl _ rfl ?_) | (with_reducible refine wl_next rfl _ rfl _ rfl ?_) | (with_reducible refine wl_copy rfl _ _ _ _ rfl _ _ rfl rfl ?_) | (with_reducible refine wl_max rfl _ _ _ _ rfl _ _ rfl rfl ?_) | (with_reducible refine wl_min rfl _ _ _ _ rfl _ _ rfl rfl ?_))
  refine hput.mono ?_
  rintro e w7 ⟨hk7, ⟨_, dt, mbt, ft, rfl, hT⟩ | ⟨h0, _⟩⟩
  rotate_left
  · cases h0
  unfold ptrTo
  have hk57 := hk6.trans' hk7
  have p0 := (hk57.cell (p := ⟨g0, 2, none⟩) hg0 fun h => h).trans q0
  have p1 := (hk57.cell (p := ⟨g0, 8, none⟩) hg0 fun h => h).trans q1
  have p2 := (hk57.cell (p := ⟨g0, 10, none⟩) hg0 fun h => h).trans q2
  have hS7 := hS6.no hA6 hk7
  have hA7 : ∀ k, (w.heap.size ≤ k ∧ k < w2.heap.size) → k < w7.heap.size := fun k hk => Nat.lt_of_lt_of_le (hA6 k hk) hk7.size
  have hK7 := hK5.trans' hk57
  clear hput hFl hBt hRr hmm q0 q1 q2 hP hS5 hA5 hS6 hA6 hK5 hk57
  go_wp2_with (first | (at_builtin; refine wl_append rfl _ _ _ _ rfl _ _ rfl rfl ?_) | (at_make; refine wl_make rfl _ _ _ rfl _ _ rfl rfl ?_) | (at_mapUpdate; refine wl_mapUpdate rfl _ _ _ _ rfl _ _ _ rfl rfl rfl ?_) | (at_lookup; refine wl_lookup rfl _ _ _ _ rfl _ _ rfl rfl ?_) | (at_delete; refine wl_delete rfl _ _ _ _ rfl _ _ rfl rfl ?_) | (with_reducible refine wl_len rfl _ _ rfl _ rfl ?_) | (with_reducible refine wl_range rfl _ _ rfl _ rfl ?_) | (with_reducible refine wl_next rfl _ rfl _ rfl ?_) | (with_reducible refine wl_copy rfl _ _ _ _ rfl _ _ rfl rfl ?_) | (with_reducible refine wl_max rfl _ _ _ _ rfl _ _ rfl rfl ?_) | (with_reducible refine wl_min rfl _ _ _ _ rfl _ _ rfl rfl ?_))
  refine (vpages_any hT (fun k hk => hk.2) (by rw [hl2]; omega)).mono ?_
  rintro e w8 ⟨v8, g8, rfl, hP8, hk8⟩
  obtain ⟨a8, c8, rfl, _, _⟩ := hP8.row.fl.shape
  rw [hl2]
  have hS8 := hS7.no hA7 hk8
  have hA8 : ∀ k, (w.heap.size ≤ k ∧ k < w2.heap.size) → k < w8.heap.size := fun k hk => Nat.lt_of_lt_of_le (hA7 k hk) hk8.size
  have hK8 := hK7.trans' hk8
  clear hS7 hA7 hK7 hP8 hT
  go_wp2_with (first | (at_builtin; refine wl_append rfl _ _ _ _ rfl _ _ rfl rfl ?_) | (at_make; refine wl_make rfl _ _ _ rfl _ _ rfl rfl ?_) | (at_mapUpdate; refine wl_mapUpdate rfl _ _ _ _ rfl _ _ _ rfl rfl rfl ?_) | (at_lookup; refine wl_lookup rfl _ _ _ _ rfl _ _ rfl rfl ?_) | (at_delete; refine wl_delete rfl _ _ _ _ rfl _ _ rfl rfl ?_) | (with_reducible refine wl_len rfl _ _ rfl _ rfl ?_) | (with_reducible refine wl_range rfl _ _ rfl _ rfl ?_) | (with_reducible refine wl_next rfl _ rfl _ rfl ?_) | (with_reducible refine wl_copy rfl _ _ _ _ rfl _ _ rfl rfl ?_) | (with_reducible refine wl_max rfl _ _ _ _ rfl _ _ rfl rfl ?_) | (with_reducible refine wl_min rfl _ _ _ _ rfl _ _ rfl rfl ?_))
  refine (vcopy_any hS8 hA8).mono ?_
  rintro e w9 ⟨dc, mbc, fc, rfl, hC, hk9⟩
  unfold ptrTo
  have hS9 := hS8.no hA8 hk9
  have hA9 : ∀ k, (w.heap.size ≤ k ∧ k < w2.heap.size) → k < w9.heap.size := fun k hk => Nat.lt_of_lt_of_le (hA8 k hk) hk9.size
  have hK9 := hK8.trans' hk9
  clear hS8 hA8 hK8
  go_wp2_with (first | (at_builtin; refine wl_append rfl _ _ _ _ rfl _ _ rfl rfl ?_) | (at_make; refine wl_make rfl _ _ _ rfl _ _ rfl rfl ?_) | (at_mapUpdate; refine wl_mapUpdate rfl _ _ _ _ rfl _ _ _ rfl rfl rfl ?_) | (at_lookup; refine wl_lookup rfl _ _ _ _ rfl _ _ rfl rfl ?_) | (at_delete; refine wl_delete rfl _ _ _ _ rfl _ _ rfl rfl ?_) | (with_reducible refine wl_len rfl _ _ rfl _ rfl ?_) | (with_reducible refine wl_range rfl _ _ rfl _ rfl ?_) | (with_reducible refine wl_next rfl _ rfl _ rfl ?_) | (with_reducible refine wl_copy rfl _ _ _ _ rfl _ _ rfl rfl ?_) | (with_reducible refine wl_max rfl _ _ _ _ rfl _ _ rfl rfl ?_) | (with_reducible refine wl_min rfl _ _ _ _ rfl _ _ rfl rfl ?_))
  refine (vpages_any hC (fun k hk => hk.2) (by rw [hl2]; omega)).mono ?_
  rintro e w10 ⟨v10, g10, rfl, hP10, hk10⟩
  obtain ⟨a10, c10, rfl, _, _⟩ := hP10.row.fl.shape
  rw [hl2]
  have hS10 := hS9.no hA9 hk10
  have hA10 : ∀ k, (w.heap.size ≤ k ∧ k < w2.heap.size) → k < w10.heap.size := fun k hk => Nat.lt_of_lt_of_le (hA9 k hk) hk10.size
  have hK10 := hK9.trans' hk10
  clear hS9 hA9 hK9 hP10 hC
  go_wp2_with (first | (at_builtin; refine wl_append rfl _ _ _ _ rfl _ _ rfl rfl ?_) | (at_make; refine wl_make rfl _ _ _ rfl _ _ rfl rfl ?_) | (at_mapUpdate; refine wl_mapUpdate rfl _ _ _ _ rfl _ _ _ rfl rfl rfl ?_) | (at_lookup; refine wl_lookup rfl _ _ _ _ rfl _ _ rfl rfl ?_) | (at_delete; refine wl_delete rfl _ _ _ _ rfl _ _ rfl rfl ?_) | (with_reducible refine wl_len rfl _ _ rfl _ rfl ?_) | (with_reducible refine wl_range rfl _ _ rfl _ rfl ?_) | (with_reducible refine wl_next rfl _ rfl _ rfl ?_) | (with_reducible refine wl_copy rfl _ _ _ _ rfl _ _ rfl rfl ?_) | (with_reducible refine wl_max rfl _ _ _ _ rfl _ _ rfl rfl ?_) | (with_reducible refine wl_min rfl _ _ _ _ rfl _ _ rfl rfl ?_))
  refine (vprot_any 256 256 4 (by omega) (by omega) hS10 hA10).mono ?_
  rintro e w11 ⟨rfl, hS11, hk11⟩
  rw [aw_prot]
  have hA11 : ∀ k, (w.heap.size ≤ k ∧ k < w2.heap.size) → k < w11.heap.size := fun k hk => Nat.lt_of_lt_of_le (hA10 k hk) hk11.size
  have hK11 : Keep No w w11 := hK10.trans hk11 fun j hj ha => absurd ha.1 (Nat.not_le.2 hj)
  go_wp2_with (first | (at_builtin; refine wl_append rfl _ _ _ _ rfl _ _ rfl rfl ?_) | (at_make; refine wl_make rfl _ _ _ rfl _ _ rfl rfl ?_) | (at_mapUpdate; refine wl_mapUpdate rfl _ _ _ _ rfl _ _ _ rfl rfl rfl ?_) | (at_lookup; refine wl_lookup rfl _ _ _ _ rfl _ _ rfl rfl ?_) | (at_delete; refine wl_delete rfl _ _ _ _ rfl _ _ rfl rfl ?_) | (with_reducible refine wl_len rfl _ _ rfl _ rfl ?_) | (with_reducible refine wl_range rfl _ _ rfl _ rfl ?_) | (with_reducible refine wl_next rfl _ rfl _ rfl ?_) | (with_reducible refine wl_copy rfl _ _ _ _ rfl _ _ rfl rfl ?_) | (with_reducible refine wl_max rfl _ _ _ _ rfl _ _ rfl rfl ?_) | (with_reducible refine wl_min rfl _ _ _ _ rfl _ _ rfl rfl ?_))
  refine (vunmap_any 256 256 (by omega) (by omega) hS11 hA11).mono ?_
  rintro e w12 ⟨rfl, hS12, hk12⟩
  rw [aw_unmap]
  have hK12 : Keep No w w12 := hK11.trans hk12 fun j hj ha => absurd ha.1 (Nat.not_le.2 hj)
  go_wp2_with (first | (at_builtin; refine wl_append rfl _ _ _ _ rfl _ _ rfl rfl ?_) | (at_make; refine wl_make rfl _ _ _ rfl _ _ rfl rfl ?_) | (at_mapUpdate; refine wl_mapUpdate rfl _ _ _ _ rfl _ _ _ rfl rfl rfl ?_) | (at_lookup; refine wl_lookup rfl _ _ _ _ rfl _ _ rfl rfl ?_) | (at_delete; refine wl_delete rfl _ _ _ _ rfl _ _ rfl rfl ?_) | (with_reducible refine wl_len rfl _ _ rfl _ rfl ?_) | (with_reducible refine wl_range rfl _ _ rfl _ rfl ?_) | (with_reducible refine wl_next rfl _ rfl _ rfl ?_) | (with_reducible refine wl_copy rfl _ _ _ _ rfl _ _ rfl rfl ?_) | (with_reducible refine wl_max rfl _ _ _ _ rfl _ _ rfl rfl ?_) | (with_reducible refine wl_min rfl _ _ _ _ rfl _ _ rfl rfl ?_))
  go_ret
  exact ⟨rfl, hK12⟩
end
end Go.Proofs.Ytaoillfofiehpaa
namespace Go.Proofs.Ytaoillfofiehpaa
open Go.RowKit Go.Dm Go.Dm.Vm Go.Maps Go.Dm.Oc

/-- pages of any numbers, as the document has them -/
def encT (r : PgR) : List Value := [.int .u64 (r.addr : Int), .int .i64 r.prot, .bool r.dirty, .string ⟨r.file.toArray⟩, .int .u64 (r.off : Int), .string ⟨r.b.toArray⟩]
theorem encT_len (p : PgR) : (encT p).length = 6 := rfl
theorem encT_one (p : PgR) : ∀ u ∈ encT p, u.oneCell' = true := by
  intro u hu
  simp only [encT, List.mem_cons, List.not_mem_nil, or_false] at hu
  rcases hu with rfl | rfl | rfl | rfl | rfl | rfl <;> rfl
theorem encT_raw (p : Pg) : encT (rawR p) = encS p := rfl
set_option maxRecDepth 100000 in
theorem neq_same (a b e : Int) (c : Bool) (d f : ByteArray) (w : World) : (binOp .neq 72 (.agg #[.int .u64 a, .int .i64 b, .bool c, .string d, .int .u64 e, .string f]) (.agg #[.int .u64 a, .int .i64 b, .bool c, .string d, .int .u64 e, .string f])).run Try.prog w = .ok (.bool false) w := by
  go_simp
section
variable {A B : Nat → Prop} {w : World} {v v2 : Value} {m : V}
set_option maxRecDepth 100000 in
set_option maxHeartbeats 2000000 in
theorem rvsame_any (L : List PgR) (h : Fl A w 6 encT v L) (h2 : Fl B w 6 encT v2 L) (hl : L.length ≤ 1099511627776) :
    Calls Try.prog 12 #[.agg #[v], .agg #[v2]] w fun e w' => e = .returned (.bool true) ∧ Keep No w w' := by
  obtain ⟨av, cv, rfl, _, _⟩ := h.shape
  obtain ⟨av2, cv2, rfl, _, _⟩ := h2.shape
  go_enter Try.func12, Try.ntmps12
  go_wp2_with fail
  have hkW1 : Keep No w (w.alloc (.cells #[.slice av L.length cv] 34)) := (Keep.refl _ _).alloc _
  have hBW1 : Blk (w.alloc (.cells #[.slice av L.length cv] 34)) w.heap.size #[.slice av L.length cv] 34 := Blk.new _ _ _
  have hzW1 : (w.alloc (.cells #[.slice av L.length cv] 34)).heap.size = w.heap.size + 1 := World.size_alloc _ _
  generalize w.alloc (.cells #[.slice av L.length cv] 34) = W1 at *
  have hkW2 : Keep No W1 (W1.alloc (.cells #[.slice av2 L.length cv2] 34)) := (Keep.refl _ _).alloc _
  have hBW2 : Blk (W1.alloc (.cells #[.slice av2 L.length cv2] 34)) W1.heap.size #[.slice av2 L.length cv2] 34 := Blk.new _ _ _
  have hzW2 : (W1.alloc (.cells #[.slice av2 L.length cv2] 34)).heap.size = W1.heap.size + 1 := World.size_alloc _ _
  generalize W1.alloc (.cells #[.slice av2 L.length cv2] 34) = W2 at *
  rw [hzW1] at hBW2 hzW2
  have b1 := hBW1.keep hkW2 fun h => h
  have hkW : Keep No w W2 := hkW1.trans' hkW2
  have q1 : W2.cell? ⟨w.heap.size, 0, none⟩ = some (.slice av L.length cv) := b1.cell 0
  have q2 : W2.cell? ⟨w.heap.size + 1, 0, none⟩ = some (.slice av2 L.length cv2) := hBW2.cell 0
  have HL := Lib.hid (rfl : L.length = L.length)
  go_wp2_with fail
  go_loopw [5] (fun iv wr => ∃ i : Nat, iv = .int .i64 i ∧ i ≤ L.length ∧ Keep No W2 wr) (fun iv _ => L.length - (intOf iv).toNat)
  case atStart => exact ⟨0, rfl, Nat.zero_le _, Keep.refl _ _⟩
  case round =>
    obtain ⟨i, rfl, hi, hk⟩ := hrel
    have p1 : wr.cell? ⟨w.heap.size, 0, none⟩ = _ := (hk.cell (p := ⟨w.heap.size, 0, none⟩) b1.lt fun h => h).trans q1
    have p2 : wr.cell? ⟨w.heap.size + 1, 0, none⟩ = _ := (hk.cell (p := ⟨w.heap.size + 1, 0, none⟩) hBW2.lt fun h => h).trans q2
    clear q1 q2
    rcases Nat.lt_or_ge i L.length with hlt | hge
    · obtain ⟨g, off, cap, e, _, hgl, _, _, hc⟩ := (h.no (hkW.trans' hk)).at encT_len hlt
      cases e
      obtain ⟨g2, off2, cap2, e, _, hgl2, _, _, hc2⟩ := (h2.no (hkW.trans' hk)).at encT_len hlt
      cases e
      have hiz : (i : Int) < (L.length : Int) := by omega
      generalize L[i] = r at *
      have c0 : wr.cell? ⟨g, off + i * 6, none⟩ = some (.int .u64 (r.addr : Int)) := hc 0 _ rfl
      have c1 : wr.cell? ⟨g, off + i * 6 + 1, none⟩ = some (.int .i64 r.prot) := hc 1 _ rfl
      have c2 : wr.cell? ⟨g, off + i * 6 + 2, none⟩ = some (.bool r.dirty) := hc 2 _ rfl
      have c3 : wr.cell? ⟨g, off + i * 6 + 3, none⟩ = some (.string ⟨r.file.toArray⟩) := hc 3 _ rfl
      have c4 : wr.cell? ⟨g, off + i * 6 + 4, none⟩ = some (.int .u64 (r.off : Int)) := hc 4 _ rfl
      have c5 : wr.cell? ⟨g, off + i * 6 + 5, none⟩ = some (.string ⟨r.b.toArray⟩) := hc 5 _ rfl
      have d0 : wr.cell? ⟨g2, off2 + i * 6, none⟩ = some (.int .u64 (r.addr : Int)) := hc2 0 _ rfl
      have d1 : wr.cell? ⟨g2, off2 + i * 6 + 1, none⟩ = some (.int .i64 r.prot) := hc2 1 _ rfl
      have d2 : wr.cell? ⟨g2, off2 + i * 6 + 2, none⟩ = some (.bool r.dirty) := hc2 2 _ rfl
      have d3 : wr.cell? ⟨g2, off2 + i * 6 + 3, none⟩ = some (.string ⟨r.file.toArray⟩) := hc2 3 _ rfl
      have d4 : wr.cell? ⟨g2, off2 + i * 6 + 4, none⟩ = some (.int .u64 (r.off : Int)) := hc2 4 _ rfl
      have d5 : wr.cell? ⟨g2, off2 + i * 6 + 5, none⟩ = some (.string ⟨r.b.toArray⟩) := hc2 5 _ rfl
      clear hc hc2
      generalize (⟨r.file.toArray⟩ : ByteArray) = fs at *
      generalize (⟨r.b.toArray⟩ : ByteArray) = bs at *
      have hcmp := neq_same r.addr r.prot r.off r.dirty fs bs
      go_wp2_with fail
      go_quiet (fail)
      go_wp2_with fail
      go_roundw
      case rel => exact ⟨i + 1, by go_num, hlt, hk.drewN _⟩
      case measure => simp [intOf]; omega
    · obtain rfl : i = L.length := Nat.le_antisymm hi hge
      go_wp2_with fail
      go_ret
      exact ⟨rfl, hkW.trans' hk⟩
set_option maxRecDepth 100000 in
set_option maxHeartbeats 4000000 in
theorem model13_any (L : List (PgR × Value)) (h : Fl A w 6 encR v L) (hB : ∀ x ∈ L, Bts B w x.2 x.1.b) (hA : ∀ k, A k → k < w.heap.size) (hBw : ∀ k, B k → k < w.heap.size) (hl : L.length ≤ 1000000) :
    Calls Try.prog 11 #[v] w fun e w' => ∃ v', e = .returned (.agg #[v']) ∧ FlO w' w.heap.size 72 6 encT v' (L.map (·.1)) ∧ Keep No w w' := by
  obtain ⟨av, cv, rfl, _, _⟩ := h.shape
  have HB := Lib.hid hB
  clear hB
  go_enter Try.func11, Try.ntmps11
  go_wp2_with fail
  have hkW1 : Keep No w (w.alloc (.cells #[.slice none 0 0] 34)) := (Keep.refl _ _).alloc _
  have hBW1 : Blk (w.alloc (.cells #[.slice none 0 0] 34)) w.heap.size #[.slice none 0 0] 34 := Blk.new _ _ _
  have hzW1 : (w.alloc (.cells #[.slice none 0 0] 34)).heap.size = w.heap.size + 1 := World.size_alloc _ _
  generalize w.alloc (.cells #[.slice none 0 0] 34) = W1 at *
  have hkW2 : Keep No W1 (W1.alloc (.cells #[.slice none 0 0] 34)) := (Keep.refl _ _).alloc _
  have hBW2 : Blk (W1.alloc (.cells #[.slice none 0 0] 34)) W1.heap.size #[.slice none 0 0] 34 := Blk.new _ _ _
  have hzW2 : (W1.alloc (.cells #[.slice none 0 0] 34)).heap.size = W1.heap.size + 1 := World.size_alloc _ _
  generalize W1.alloc (.cells #[.slice none 0 0] 34) = W2 at *
  rw [hzW1] at hBW2 hzW2
  have b2 := hBW1.keep hkW2 fun h => h
  have b3 := hBW2
  have hkW : Keep No w W2 := hkW1.trans' hkW2
  have hz2 : W2.heap.size = w.heap.size + 2 := by omega
  clear hBW1 hBW2 hkW1 hkW2 hzW1 hzW2
  go_wp2_with fail
  go_loopw [4] (fun iv wr => ∃ (i : Nat) (lv : Value), iv = .int .i64 i ∧ i ≤ L.length ∧ Blk wr w.heap.size #[.slice none 0 0] 34 ∧ Blk wr (w.heap.size + 1) #[lv] 34 ∧ FlO wr W2.heap.size 72 6 encT lv ((L.take i).map (·.1)) ∧ Keep No w wr) (fun iv _ => L.length - (intOf iv).toNat)
  case atStart => exact ⟨0, _, rfl, Nat.zero_le _, b2, b3, FlO.nil, hkW⟩
  case round =>
    obtain ⟨i, lv, rfl, hi, hb2, hb3, ho, hk⟩ := hrel
    generalize wr = wz at *
    clear b2 b3
    obtain ⟨al, cl, rfl, _, _⟩ := ho.fl.shape
    have hil : ((L.take i).map (·.1)).length = i := by rw [List.length_map, List.length_take]; omega
    rw [hil] at hb3 ho
    have q3 : wz.cell? ⟨w.heap.size + 1, 0, none⟩ = some (.slice al i cl) := hb3.cell 0
    have hf3 := hb3.frozen 0
    have hw2 : w.heap.size + 2 ≤ wz.heap.size := by have := hb3.lt; omega
    rcases Nat.lt_or_ge i L.length with hlt | hge
    · obtain ⟨g, off, cap, e, hAg, hgl, _, _, hc⟩ := (h.no hk).at encR_len hlt
      cases e
      have hiz : (i : Int) < (L.length : Int) := by omega
      have hbt := HB.out L[i] (List.getElem_mem hlt)
      have htk : (L.take (i + 1)).map (·.1) = (L.take i).map (·.1) ++ [L[i].1] := by rw [List.take_succ_eq_append_getElem hlt, List.map_append]; rfl
      have HTK := Lib.hid htk
      clear htk
      generalize L[i] = x at *
      obtain ⟨r, bsl⟩ := x
      have hcva : ∀ W, Keep (fun j => w.heap.size + 2 ≤ j) wz W → (convert 25 9 bsl).run Try.prog W = .ok (.string ⟨r.b.toArray⟩) W := fun W hkw => conv_str (Sl.keep (Sl.keep hbt hk fun _ _ _ h => h) hkw fun j _ hb h => by have := hBw j hb; omega)
      have HCV := Lib.hid hcva
      clear hcva
      have c0 : wz.cell? ⟨g, off + i * 6, none⟩ = some (.int .u64 (r.addr : Int)) := hc 0 _ rfl
      have c1 : wz.cell? ⟨g, off + i * 6 + 1, none⟩ = some (.int .i64 r.prot) := hc 1 _ rfl
      have c2 : wz.cell? ⟨g, off + i * 6 + 2, none⟩ = some (.bool r.dirty) := hc 2 _ rfl
      have c3 : wz.cell? ⟨g, off + i * 6 + 3, none⟩ = some (.string ⟨r.file.toArray⟩) := hc 3 _ rfl
      have c4 : wz.cell? ⟨g, off + i * 6 + 4, none⟩ = some (.int .u64 (r.off : Int)) := hc 4 _ rfl
      have c5 : wz.cell? ⟨g, off + i * 6 + 5, none⟩ = some bsl := hc 5 _ rfl
      clear hc hbt
      have hgA : ¬ (w.heap.size + 2 ≤ g) := by have := hA g hAg; omega
      have hgB : ¬ (w.heap.size + 2 ≤ w.heap.size + 1) := by omega
      have hgC : ¬ (w.heap.size + 2 ≤ w.heap.size) := by omega
      have hkd : Keep No wz wz.drew := (Keep.refl No wz).drew
      have hkdX : Keep (fun j => w.heap.size + 2 ≤ j) wz wz.drew := (Keep.refl _ wz).drew
      have hcvd := HCV.out wz.drew hkdX
      go_wp2_with fail
      refine wp_region_sig (fun w' => w'.cell? ⟨w.heap.size + 1, 0, none⟩ = some (.slice al i cl) ∧ w'.cell? ⟨g, off + i * 6, none⟩ = some (.int .u64 (r.addr : Int)) ∧ w'.cell? ⟨g, off + i * 6 + 1, none⟩ = some (.int .i64 r.prot) ∧ w'.cell? ⟨g, off + i * 6 + 2, none⟩ = some (.bool r.dirty) ∧ w'.cell? ⟨g, off + i * 6 + 3, none⟩ = some (.string ⟨r.file.toArray⟩) ∧ w'.cell? ⟨g, off + i * 6 + 4, none⟩ = some (.int .u64 (r.off : Int)) ∧ w'.cell? ⟨g, off + i * 6 + 5, none⟩ = some bsl ∧ (convert 25 9 bsl).run Try.prog w' = .ok (.string ⟨r.b.toArray⟩) w') (fun j => decide (j ≤ 36)) [(0, true), (1, true), (2, true), (3, true), (4, true), (5, true), (6, true), (7, true), (8, true), (9, true), (10, true), (11, true), (12, true), (13, true), (14, true), (15, true), (16, true), (17, true), (18, true), (19, true), (20, true), (21, true), (22, true), (23, true), (24, true), (25, true), (26, true), (27, true), (28, true), (29, true), (30, true), (31, true), (32, true), (33, true), (34, false), (35, false), (36, true), (37, false)] (by kernel_rfl) (by kernel_rfl) (by intro c a d v w h; cases d <;> exact h) ⟨q3, c0, c1, c2, c3, c4, c5, hcvd⟩ ?_
      apply sig_still (o := ⟨some 11, _, _, _, _, _⟩) rfl rfl
      · intro w' hS
        obtain ⟨q1, q2, q3, q4, q5, q6, q7, q8⟩ := hS
        first | (go_simp; done) | (go_simp; rfl) | rfl
      go_frame
      apply sig_still (o := ⟨some 12, _, _, _, _, _⟩) rfl rfl
      · intro w' hS
        obtain ⟨q1, q2, q3, q4, q5, q6, q7, q8⟩ := hS
        first | (go_simp; done) | (go_simp; rfl) | rfl
      go_frame
      apply sig_still (o := ⟨some 13, _, _, _, _, _⟩) rfl rfl
      · intro w' hS
        obtain ⟨q1, q2, q3, q4, q5, q6, q7, q8⟩ := hS
        first | (go_simp; done) | (go_simp; rfl) | rfl
      go_frame
      apply sig_still (o := ⟨some 14, _, _, _, _, _⟩) rfl rfl
      · intro w' hS
        obtain ⟨q1, q2, q3, q4, q5, q6, q7, q8⟩ := hS
        first | (go_simp; done) | (go_simp; rfl) | rfl
      go_frame
      apply sig_still (o := ⟨some 15, _, _, _, _, _⟩) rfl rfl
      · intro w' hS
        obtain ⟨q1, q2, q3, q4, q5, q6, q7, q8⟩ := hS
        first | (go_simp; done) | (go_simp; rfl) | rfl
      go_frame
      apply sig_still (o := ⟨some 16, _, _, _, _, _⟩) rfl rfl
      · intro w' hS
        obtain ⟨q1, q2, q3, q4, q5, q6, q7, q8⟩ := hS
        first | (go_simp; done) | (go_simp; rfl) | rfl
      go_frame
      apply sig_still (o := ⟨some 17, _, _, _, _, _⟩) rfl rfl
      · intro w' hS
        obtain ⟨q1, q2, q3, q4, q5, q6, q7, q8⟩ := hS
        first | (go_simp; done) | (go_simp; rfl) | rfl
      go_frame
      apply sig_still (o := ⟨some 18, _, _, _, _, _⟩) rfl rfl
      · intro w' hS
        obtain ⟨q1, q2, q3, q4, q5, q6, q7, q8⟩ := hS
        first | (go_simp; done) | (go_simp; rfl) | rfl
      go_frame
      apply sig_still (o := ⟨some 19, _, _, _, _, _⟩) rfl rfl
      · intro w' hS
        obtain ⟨q1, q2, q3, q4, q5, q6, q7, q8⟩ := hS
        first | (go_simp; done) | (go_simp; rfl) | rfl
      go_frame
      apply sig_still (o := ⟨some 20, _, _, _, _, _⟩) rfl rfl
      · intro w' hS
        obtain ⟨q1, q2, q3, q4, q5, q6, q7, q8⟩ := hS
        first | (go_simp; done) | (go_simp; rfl) | rfl
      go_frame
      apply sig_still (o := ⟨some 21, _, _, _, _, _⟩) rfl rfl
      · intro w' hS
        obtain ⟨q1, q2, q3, q4, q5, q6, q7, q8⟩ := hS
        first | (go_simp; done) | (go_simp; rfl) | rfl
      go_frame
      apply sig_still (o := ⟨some 22, _, _, _, _, _⟩) rfl rfl
      · intro w' hS
        obtain ⟨q1, q2, q3, q4, q5, q6, q7, q8⟩ := hS
        first | (go_simp; done) | (go_simp; rfl) | rfl
      go_frame
      apply sig_still (o := ⟨some 23, _, _, _, _, _⟩) rfl rfl
      · intro w' hS
        obtain ⟨q1, q2, q3, q4, q5, q6, q7, q8⟩ := hS
        first | (go_simp; done) | (go_simp; rfl) | rfl
      go_frame
      apply sig_still (o := ⟨some 24, _, _, _, _, _⟩) rfl rfl
      · intro w' hS
        obtain ⟨q1, q2, q3, q4, q5, q6, q7, q8⟩ := hS
        first | (go_simp; done) | (go_simp; rfl) | rfl
      go_frame
      apply sig_still (o := ⟨some 25, _, _, _, _, _⟩) rfl rfl
      · intro w' hS
        obtain ⟨q1, q2, q3, q4, q5, q6, q7, q8⟩ := hS
        first | (go_simp; done) | (go_simp; rfl) | rfl
      go_frame
      apply sig_still (o := ⟨some 26, _, _, _, _, _⟩) rfl rfl
      · intro w' hS
        obtain ⟨q1, q2, q3, q4, q5, q6, q7, q8⟩ := hS
        first | (go_simp; done) | (go_simp; rfl) | rfl
      go_frame
      apply sig_still (o := ⟨some 27, _, _, _, _, _⟩) rfl rfl
      · intro w' hS
        obtain ⟨q1, q2, q3, q4, q5, q6, q7, q8⟩ := hS
        first | (go_simp; done) | (go_simp; rfl) | rfl
      go_frame
      apply sig_still (o := ⟨some 28, _, _, _, _, _⟩) rfl rfl
      · intro w' hS
        obtain ⟨q1, q2, q3, q4, q5, q6, q7, q8⟩ := hS
        first | (go_simp; done) | (go_simp; rfl) | rfl
      go_frame
      apply sig_still (o := ⟨some 29, _, _, _, _, _⟩) rfl rfl
      · intro w' hS
        obtain ⟨q1, q2, q3, q4, q5, q6, q7, q8⟩ := hS
        first | (go_simp; done) | (go_simp; rfl) | rfl
      go_frame
      apply sig_still (o := ⟨some 30, _, _, _, _, _⟩) rfl rfl
      · intro w' hS
        obtain ⟨q1, q2, q3, q4, q5, q6, q7, q8⟩ := hS
        first | (go_simp; done) | (go_simp; rfl) | rfl
      go_frame
      apply sig_still (o := ⟨some 31, _, _, _, _, _⟩) rfl rfl
      · intro w' hS
        obtain ⟨q1, q2, q3, q4, q5, q6, q7, q8⟩ := hS
        first | (go_simp; done) | (go_simp; rfl) | rfl
      go_frame
      apply sig_still (o := ⟨some 32, _, _, _, _, _⟩) rfl rfl
      · intro w' hS
        obtain ⟨q1, q2, q3, q4, q5, q6, q7, q8⟩ := hS
        first | (go_simp; done) | (go_simp; rfl) | rfl
      go_frame
      apply sig_still (o := ⟨some 33, _, _, _, _, _⟩) rfl rfl
      · intro w' hS
        obtain ⟨q1, q2, q3, q4, q5, q6, q7, q8⟩ := hS
        first | (go_simp; done) | (go_simp; rfl) | rfl
      go_frame
      apply sig_still (o := ⟨some 34, _, _, _, _, _⟩) rfl rfl
      · intro w' hS
        obtain ⟨q1, q2, q3, q4, q5, q6, q7, q8⟩ := hS
        first | (go_simp; done) | (go_simp; rfl) | rfl
      go_frame
      apply sig_still (o := ⟨some 35, _, _, _, _, _⟩) rfl rfl
      · intro w' hS
        obtain ⟨q1, q2, q3, q4, q5, q6, q7, q8⟩ := hS
        first | (go_simp; done) | (go_simp; rfl) | rfl
      go_frame
      apply sig_still (o := ⟨some 36, _, _, _, _, _⟩) rfl rfl
      · intro w' hS
        obtain ⟨q1, q2, q3, q4, q5, q6, q7, q8⟩ := hS
        first | (go_simp; done) | (go_simp; rfl) | rfl
      go_frame
      apply sig_still (o := ⟨some 37, _, _, _, _, _⟩) rfl rfl
      · intro w' hS
        obtain ⟨q1, q2, q3, q4, q5, q6, q7, q8⟩ := hS
        first | (go_simp; done) | (go_simp; rfl) | rfl
      go_frame
      apply sig_still (o := ⟨some 38, _, _, _, _, _⟩) rfl rfl
      · intro w' hS
        obtain ⟨q1, q2, q3, q4, q5, q6, q7, q8⟩ := hS
        first | (go_simp; done) | (go_simp; rfl) | rfl
      go_frame
      apply sig_still (o := ⟨some 39, _, _, _, _, _⟩) rfl rfl
      · intro w' hS
        obtain ⟨q1, q2, q3, q4, q5, q6, q7, q8⟩ := hS
        first | (go_simp; done) | (go_simp; rfl) | rfl
      go_frame
      apply sig_still (o := ⟨some 40, _, _, _, _, _⟩) rfl rfl
      · intro w' hS
        obtain ⟨q1, q2, q3, q4, q5, q6, q7, q8⟩ := hS
        first | (go_simp; done) | (go_simp; rfl) | rfl
      go_frame
      apply sig_still (o := ⟨some 41, _, _, _, _, _⟩) rfl rfl
      · intro w' hS
        obtain ⟨q1, q2, q3, q4, q5, q6, q7, q8⟩ := hS
        first | (go_simp; done) | (go_simp; rfl) | rfl
      go_frame
      apply sig_still (o := ⟨some 42, _, _, _, _, _⟩) rfl rfl
      · intro w' hS
        obtain ⟨q1, q2, q3, q4, q5, q6, q7, q8⟩ := hS
        first | (go_simp; done) | (go_simp; rfl) | rfl
      go_frame
      apply sig_still (o := ⟨some 43, _, _, _, _, _⟩) rfl rfl
      · intro w' hS
        obtain ⟨q1, q2, q3, q4, q5, q6, q7, q8⟩ := hS
        first | (go_simp; done) | (go_simp; rfl) | rfl
      go_frame
      apply sig_still (o := ⟨some 44, _, _, _, _, _⟩) rfl rfl
      · intro w' hS
        obtain ⟨q1, q2, q3, q4, q5, q6, q7, q8⟩ := hS
        first | (go_simp; done) | (go_simp; rfl) | rfl
      go_frame
      refine sig_eff (o := ⟨some 45, _, _, _, _, _⟩) rfl rfl (fun K hKe => ?_)
      have hka : Keep (fun j => w.heap.size + 2 ≤ j) wz (wz.drew.alloc (.cells #[.int .u64 (r.addr : Int), .int .i64 r.prot, .bool r.dirty, .string ⟨r.file.toArray⟩, .int .u64 (r.off : Int), .string ⟨r.b.toArray⟩] 72)) := hkdX.alloc _
      have hcv2 := HCV.out _ hka
      have q3x : ((wz.drew.alloc (.cells #[.int .u64 (r.addr : Int), .int .i64 r.prot, .bool r.dirty, .string ⟨r.file.toArray⟩, .int .u64 (r.off : Int), .string ⟨r.b.toArray⟩] 72))).cell? ⟨w.heap.size + 1, 0, none⟩ = _ := ((hka).cell (p := ⟨w.heap.size + 1, 0, none⟩) hb3.lt hgB).trans q3
      have c0x : ((wz.drew.alloc (.cells #[.int .u64 (r.addr : Int), .int .i64 r.prot, .bool r.dirty, .string ⟨r.file.toArray⟩, .int .u64 (r.off : Int), .string ⟨r.b.toArray⟩] 72))).cell? ⟨g, off + i * 6, none⟩ = _ := ((hka).cell (p := ⟨g, off + i * 6, none⟩) hgl hgA).trans c0
      have c1x : ((wz.drew.alloc (.cells #[.int .u64 (r.addr : Int), .int .i64 r.prot, .bool r.dirty, .string ⟨r.file.toArray⟩, .int .u64 (r.off : Int), .string ⟨r.b.toArray⟩] 72))).cell? ⟨g, off + i * 6 + 1, none⟩ = _ := ((hka).cell (p := ⟨g, off + i * 6 + 1, none⟩) hgl hgA).trans c1
      have c2x : ((wz.drew.alloc (.cells #[.int .u64 (r.addr : Int), .int .i64 r.prot, .bool r.dirty, .string ⟨r.file.toArray⟩, .int .u64 (r.off : Int), .string ⟨r.b.toArray⟩] 72))).cell? ⟨g, off + i * 6 + 2, none⟩ = _ := ((hka).cell (p := ⟨g, off + i * 6 + 2, none⟩) hgl hgA).trans c2
      have c3x : ((wz.drew.alloc (.cells #[.int .u64 (r.addr : Int), .int .i64 r.prot, .bool r.dirty, .string ⟨r.file.toArray⟩, .int .u64 (r.off : Int), .string ⟨r.b.toArray⟩] 72))).cell? ⟨g, off + i * 6 + 3, none⟩ = _ := ((hka).cell (p := ⟨g, off + i * 6 + 3, none⟩) hgl hgA).trans c3
      have c4x : ((wz.drew.alloc (.cells #[.int .u64 (r.addr : Int), .int .i64 r.prot, .bool r.dirty, .string ⟨r.file.toArray⟩, .int .u64 (r.off : Int), .string ⟨r.b.toArray⟩] 72))).cell? ⟨g, off + i * 6 + 4, none⟩ = _ := ((hka).cell (p := ⟨g, off + i * 6 + 4, none⟩) hgl hgA).trans c4
      have c5x : ((wz.drew.alloc (.cells #[.int .u64 (r.addr : Int), .int .i64 r.prot, .bool r.dirty, .string ⟨r.file.toArray⟩, .int .u64 (r.off : Int), .string ⟨r.b.toArray⟩] 72))).cell? ⟨g, off + i * 6 + 5, none⟩ = _ := ((hka).cell (p := ⟨g, off + i * 6 + 5, none⟩) hgl hgA).trans c5
      go_wp2_with fail
      refine ⟨fun _ => ⟨q3x, c0x, c1x, c2x, c3x, c4x, c5x, hcv2⟩, ?_⟩
      refine sig_eff (o := ⟨some 46, _, _, _, _, _⟩) rfl rfl (fun K hKe => ?_)
      refine wo_append (.tmp 12) (.tmp 45) 32 32 rfl _ _ rfl rfl ?_
      refine rg_push (w := wz.drew) (cs := #[.int .u64 (r.addr : Int), .int .i64 r.prot, .bool r.dirty, .string ⟨r.file.toArray⟩, .int .u64 (r.off : Int), .string ⟨r.b.toArray⟩]) (enc := encT) (x := r) (l := (L.take i).map (·.1)) (base := W2.heap.size) _ 64 Try.underlying32 rvP_info rfl (by decide) rfl rfl (encT_one _) (by exact ho.no hkd) (by rw [hil]; omega) (by decide) (by show W2.heap.size ≤ wz.heap.size; omega) ?_
      intro lv2 w2 ho2 hk2 _
      have hkN : Keep (fun j => w.heap.size + 2 ≤ j) wz w2 := hkdX.trans hk2 fun j _ hj => by
        have h1 := (World.ownsRow.lt ho j hj.symm).1
        omega
      have hcv3 := HCV.out _ hkN
      have q3y : (w2).cell? ⟨w.heap.size + 1, 0, none⟩ = _ := ((hkN).cell (p := ⟨w.heap.size + 1, 0, none⟩) hb3.lt hgB).trans q3
      have c0y : (w2).cell? ⟨g, off + i * 6, none⟩ = _ := ((hkN).cell (p := ⟨g, off + i * 6, none⟩) hgl hgA).trans c0
      have c1y : (w2).cell? ⟨g, off + i * 6 + 1, none⟩ = _ := ((hkN).cell (p := ⟨g, off + i * 6 + 1, none⟩) hgl hgA).trans c1
      have c2y : (w2).cell? ⟨g, off + i * 6 + 2, none⟩ = _ := ((hkN).cell (p := ⟨g, off + i * 6 + 2, none⟩) hgl hgA).trans c2
      have c3y : (w2).cell? ⟨g, off + i * 6 + 3, none⟩ = _ := ((hkN).cell (p := ⟨g, off + i * 6 + 3, none⟩) hgl hgA).trans c3
      have c4y : (w2).cell? ⟨g, off + i * 6 + 4, none⟩ = _ := ((hkN).cell (p := ⟨g, off + i * 6 + 4, none⟩) hgl hgA).trans c4
      have c5y : (w2).cell? ⟨g, off + i * 6 + 5, none⟩ = _ := ((hkN).cell (p := ⟨g, off + i * 6 + 5, none⟩) hgl hgA).trans c5
      have hb3y := hb3.keep hkN hgB
      have hf3y := hb3y.frozen 0
      have hb2y := hb2.keep hkN hgC
      obtain ⟨a2, c2', rfl, _, _⟩ := ho2.fl.shape
      have hil2 : ((L.take i).map (·.1) ++ [r]).length = i + 1 := by rw [List.length_append, hil]; rfl
      rw [hil2] at ho2 ⊢
      refine hKe _ _ ⟨fun _ => ⟨q3y, c0y, c1y, c2y, c3y, c4y, c5y, hcv3⟩, ?_⟩
      apply sig_still (o := ⟨some 47, _, _, _, _, _⟩) rfl rfl
      · intro w' hS
        obtain ⟨q1, q2, q3, q4, q5, q6, q7, q8⟩ := hS
        first | (go_simp; done) | (go_simp; rfl) | rfl
      go_frame
      refine sig_eff (o := ⟨none, _, _, _, _, _⟩) rfl rfl (fun K hKe => ?_)
      go_wp2_with fail
      refine ⟨fun h => by simp at h, sig_nil ?_⟩
      go_wp2_with fail
      go_roundw
      case rel =>
        have h3 := hb3y.set (i := 0) (.slice a2 (i + 1) c2')
        rw [← HTK.out] at ho2
        have hkS := (Keep.refl (fun j => j = w.heap.size + 1) w2).setCell (p := ⟨w.heap.size + 1, 0, none⟩) (fun _ => rfl) (.slice a2 (i + 1) c2')
        refine ⟨i + 1, .slice a2 (i + 1) c2', by go_num, hlt, ?_, ?_, ?_, ?_⟩
        · exact hb2y.keep hkS (by omega)
        · exact h3
        · exact FlO.same ho2 fun g hg => hkS.block g (World.ownsRow.lt ho2 g hg).2 fun e => by
            have h1 := (World.ownsRow.lt ho2 g hg).1
            have e2 : g = w.heap.size + 1 := e
            omega
        · exact (hk.trans hkN fun j hj h => by omega).trans hkS fun j hj e => absurd hj (by have e2 : j = w.heap.size + 1 := e; omega)
      case measure => simp [intOf]; omega
    · obtain rfl : i = L.length := Nat.le_antisymm hi hge
      rw [List.take_length] at ho
      go_wp2_with (with_reducible refine wl_stAgg rfl _ _ _ rfl _ _ rfl rfl ?_)
      refine rg_stAgg hb2 (by kernel_rfl) (by rfl) (by simp [Value.oneCell']) ?_
      intro wy hby hky hsy
      go_wp2_with fail
      refine ret_blk rfl rfl hby Try.underlying34 rfl (by kernel_rfl) rfl ?_
      refine ⟨_, rfl, World.ownsRow.base_le (FlO.same ho fun g hg => hky.block g (World.ownsRow.lt ho g hg).2 fun e => ?_) (by omega), hk.trans hky fun j hj e => absurd hj (by have e2 : j = w.heap.size := e; omega)⟩
      have h1 := (World.ownsRow.lt ho g hg).1
      have e2 : g = w.heap.size := e
      omega
end
end Go.Proofs.Ytaoillfofiehpaa
