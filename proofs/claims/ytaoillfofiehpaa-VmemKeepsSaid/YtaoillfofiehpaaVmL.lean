/- The document's example of chapter 13 comes out as it should (awake). The document's functions on lists of pages (chapter 13), as plain lists: they make what the model makes. Laws of memory in pages, in plain lists: what is stored is loaded; all else stays. No condition. -/
import Derived.Test.YtaoillfofiehpaaVmPut
import Derived.Test.YtaoillfofiehpaaVmS
namespace Go.Dm.Vm
open Go Go.Proofs.Ytaoillfofiehpaa
def awM2 : V := mapV [] 256 512 7 [102] 0
def awM3 : V := storeV awM2 300 8 7
theorem aw_map : mapE [] 256 512 7 = 0 := by decide
theorem aw_store : numE awM2 300 8 2 = 0 := by kernel_rfl
theorem aw_loadE : loadE awM3 300 8 = 0 := by kernel_rfl
theorem aw_loadX : loadX awM3 300 8 = 7 := by kernel_rfl
theorem aw_len : awM3.length = 2 := by kernel_rfl
theorem aw_fetch : fetchE awM3 256 = 0 := by kernel_rfl
theorem aw_dirty : awM3.map (fun p => (p.dirty, p.off)) = [(true, 0), (false, 256)] := by kernel_rfl
theorem aw_prot : protE awM3 256 256 4 = 0 := by kernel_rfl
theorem aw_unmap : unmapE (protV awM3 256 256 4) 256 256 = 0 := by kernel_rfl
def rawR (p : Pg) : PgR := ⟨p.addr, p.prot, p.dirty, p.file, p.off, p.b⟩
theorem aw_put : putE none (awM3.map rawR) = 0 := by kernel_rfl
theorem toPg_raw (m : V) : (m.map rawR).map toPg = m := by
  rw [List.map_map]
  conv => rhs; rw [← List.map_id m]
  apply List.map_congr_left
  intro p _
  simp [toPg, rawR]
end Go.Dm.Vm
namespace Go.Proofs.Ytaoillfofiehpaa
open Go.RowKit Go.Dm Go.Dm.Vm Go.Maps Go.Dm.Oc Go.WideMaps Go.WideElems

def rawP (g : Nat → Nat) (p : Pg) : PgR × Value := (rawR p, .slice (some ⟨g p.addr, 4, none⟩) 256 256)
section
variable {A : Nat → Prop} {w : World} {base : Nat} {m : V}
theorem pgs_in {v : Value} {g : Nat → Nat} (h : PgsV base w v m g) (ok : ∀ p ∈ m, PgOk p) :
    Fl (fun k => base ≤ k ∧ k < w.heap.size) w 6 encR v (m.map (rawP g)) ∧ (∀ x ∈ m.map (rawP g), Bts (fun k => base ≤ k ∧ k < w.heap.size) w x.2 x.1.b) ∧ (∀ x ∈ m.map (rawP g), x.1.addr < 18446744073709551616 ∧ x.1.off < 18446744073709551616 ∧ x.1.file.length ≤ maxLen ∧ x.1.b.length ≤ 1099511627776) ∧ (m.map (rawP g)).map (·.1) = m.map rawR := by
  refine ⟨?_, fun x hx => ?_, fun x hx => ?_, by rw [List.map_map]; rfl⟩
  · have h1 := h.row.fl
    unfold Fl at h1 ⊢
    rw [List.length_map, List.flatMap_map]
    exact h1
  · obtain ⟨p, hp, rfl⟩ := List.mem_map.1 hx
    have hb := (h.pg p hp).2
    have hl := (ok p hp).bl
    show Sl _ w 1 (.slice (some ⟨g p.addr, 4, none⟩) 256 256) p.b.length (p.b.map bv)
    rw [hl]
    refine Sl.mk (by rw [List.length_map, hl]) ⟨(h.pg p hp).1, hb.lt⟩ hb.lt (Nat.le_refl _) (by unfold maxLen; omega) fun j u hu => ?_
    rw [hb.cell, pgC_byte, ← hu, List.getElem?_map]
  · obtain ⟨p, hp, rfl⟩ := List.mem_map.1 hx
    have h1 := ok p hp
    have := h1.lt
    unfold top at this
    exact ⟨by show p.addr < _; omega, h1.ol, h1.fl, by show p.b.length ≤ _; rw [h1.bl]; omega⟩
theorem PgsV.cells {v : Value} {g : Nat → Nat} (h : PgsV base w v m g) {i : Nat} (hi : i < m.length) : ∃ g0 cap, v = .slice (some ⟨g0, 0, none⟩) m.length cap ∧ ∀ r u, (encP g m[i])[r]? = some u → w.cell? ⟨g0, i * 6 + r, none⟩ = some u := by
  obtain ⟨g0, off, cap, e, _, _, _, _, hc⟩ := h.row.fl.at (encP_len g) hi
  rcases h.row.2 with ⟨e2, _⟩ | ⟨g1, cap1, cur, e2, _⟩
  · rw [e] at e2; cases e2
  · rw [e] at e2
    cases e2
    exact ⟨g0, cap, e, fun r u hu => by have := hc r u hu; rwa [Nat.zero_add] at this⟩
set_option maxRecDepth 100000 in
set_option maxHeartbeats 4000000 in
theorem awake13_any (w : World) : Calls Try.prog 8 #[] w fun e w' => e = .returned (.bool true) ∧ Keep No w w' := by
  go_enter Try.func8, Try.ntmps8
  go_wp2_with (first | (at_builtin; refine wl_append rfl _ _ _ _ rfl _ _ rfl rfl ?_) | (at_make; refine wl_make rfl _ _ _ rfl _ _ rfl rfl ?_) | (at_mapUpdate; refine wl_mapUpdate rfl _ _ _ _ rfl _ _ _ rfl rfl rfl ?_) | (at_lookup; refine wl_lookup rfl _ _ _ _ rfl _ _ rfl rfl ?_) | (at_delete; refine wl_delete rfl _ _ _ _ rfl _ _ rfl rfl ?_) | (with_reducible refine wl_len rfl _ _ rfl _ rfl ?_) | (with_reducible refine wl_range rfl _ _ rfl _ rfl ?_) | (with_reducible refine wl_next rfl _ rfl _ rfl ?_) | (with_reducible refine wl_copy rfl _ _ _ _ rfl _ _ rfl rfl ?_) | (with_reducible refine wl_max rfl _ _ _ _ rfl _ _ rfl rfl ?_) | (with_reducible refine wl_min rfl _ _ _ _ rfl _ _ rfl rfl ?_))
  refine (vnew_any _).mono ?_
  rintro e w1 ⟨mb, d, f, rfl, hS, hk1⟩
  unfold ptrTo
  go_wp2_with (first | (at_builtin; refine wl_append rfl _ _ _ _ rfl _ _ rfl rfl ?_) | (at_make; refine wl_make rfl _ _ _ rfl _ _ rfl rfl ?_) | (at_mapUpdate; refine wl_mapUpdate rfl _ _ _ _ rfl _ _ _ rfl rfl rfl ?_) | (at_lookup; refine wl_lookup rfl _ _ _ _ rfl _ _ rfl rfl ?_) | (at_delete; refine wl_delete rfl _ _ _ _ rfl _ _ rfl rfl ?_) | (with_reducible refine wl_len rfl _ _ rfl _ rfl ?_) | (with_reducible refine wl_range rfl _ _ rfl _ rfl ?_) | (with_reducible refine wl_next rfl _ rfl _ rfl ?_) | (with_reducible refine wl_copy rfl _ _ _ _ rfl _ _ rfl rfl ?_) | (with_reducible refine wl_max rfl _ _ _ _ rfl _ _ rfl rfl ?_) | (with_reducible refine wl_min rfl _ _ _ _ rfl _ _ rfl rfl ?_))
  refine (vmap_any 256 512 0 7 [102] (by omega) (by omega) (by omega) (by unfold maxLen; simp) hS (fun k hk => hk.2)).mono ?_
  rintro e w2 ⟨rfl, ⟨f2, hS2⟩, hk2⟩
  rw [aw_map]
  have hS2' : SRep (fun k => w.heap.size ≤ k ∧ k < w2.heap.size) w2 d awM2 mb f2 := hS2.mono fun k hk ha => by
    rcases ha with ha | ha
    · exact ⟨ha.1, hk⟩
    · exact ⟨Nat.le_trans hk1.size ha.1, hk⟩
  have hK2 : Keep No w w2 := hk1.trans hk2 fun j hj ha => absurd ha.1 (Nat.not_le.2 hj)
  clear hS hS2 hk1 hk2
  go_wp2_with (first | (at_builtin; refine wl_append rfl _ _ _ _ rfl _ _ rfl rfl ?_) | (at_make; refine wl_make rfl _ _ _ rfl _ _ rfl rfl ?_) | (at_mapUpdate; refine wl_mapUpdate rfl _ _ _ _ rfl _ _ _ rfl rfl rfl ?_) | (at_lookup; refine wl_lookup rfl _ _ _ _ rfl _ _ rfl rfl ?_) | (at_delete; refine wl_delete rfl _ _ _ _ rfl _ _ rfl rfl ?_) | (with_reducible refine wl_len rfl _ _ rfl _ rfl ?_) | (with_reducible refine wl_range rfl _ _ rfl _ rfl ?_) | (with_reducible refine wl_next rfl _ rfl _ rfl ?_) | (with_reducible refine wl_copy rfl _ _ _ _ rfl _ _ rfl rfl ?_) | (with_reducible refine wl_max rfl _ _ _ _ rfl _ _ rfl rfl ?_) | (with_reducible refine wl_min rfl _ _ _ _ rfl _ _ rfl rfl ?_))
  refine (vstore_any 300 8 7 (by omega) (by omega) (by omega) (by omega) hS2' (fun k hk => hk.2)).mono ?_
  rintro e w3 ⟨rfl, hS3, hk3⟩
  rw [aw_store]
  have hK3 : Keep No w w3 := hK2.trans hk3 fun j hj ha => absurd ha.1 (Nat.not_le.2 hj)
  have hA3 : ∀ k, (w.heap.size ≤ k ∧ k < w2.heap.size) → k < w3.heap.size := fun k hk => Nat.lt_of_lt_of_le hk.2 hk3.size
  have hS3' : SRep (fun k => w.heap.size ≤ k ∧ k < w2.heap.size) w3 d awM3 mb f2 := hS3
  clear hS3 hS2' hk3
  go_wp2_with (first | (at_builtin; refine wl_append rfl _ _ _ _ rfl _ _ rfl rfl ?_) | (at_make; refine wl_make rfl _ _ _ rfl _ _ rfl rfl ?_) | (at_mapUpdate; refine wl_mapUpdate rfl _ _ _ _ rfl _ _ _ rfl rfl rfl ?_) | (at_lookup; refine wl_lookup rfl _ _ _ _ rfl _ _ rfl rfl ?_) | (at_delete; refine wl_delete rfl _ _ _ _ rfl _ _ rfl rfl ?_) | (with_reducible refine wl_len rfl _ _ rfl _ rfl ?_) | (with_reducible refine wl_range rfl _ _ rfl _ rfl ?_) | (with_reducible refine wl_next rfl _ rfl _ rfl ?_) | (with_reducible refine wl_copy rfl _ _ _ _ rfl _ _ rfl rfl ?_) | (with_reducible refine wl_max rfl _ _ _ _ rfl _ _ rfl rfl ?_) | (with_reducible refine wl_min rfl _ _ _ _ rfl _ _ rfl rfl ?_))
  refine (vload_any 300 8 (by omega) (by omega) (by omega) hS3' hA3).mono ?_
  rintro e w4 ⟨rfl, hk4⟩
  rw [aw_loadE, aw_loadX]
  have hS4 := hS3'.no hA3 hk4
  have hA4 : ∀ k, (w.heap.size ≤ k ∧ k < w2.heap.size) → k < w4.heap.size := fun k hk => Nat.lt_of_lt_of_le (hA3 k hk) hk4.size
  have hK4 := hK3.trans' hk4
  clear hS3' hA3 hk4 hK3
  go_wp2_with (first | (at_builtin; refine wl_append rfl _ _ _ _ rfl _ _ rfl rfl ?_) | (at_make; refine wl_make rfl _ _ _ rfl _ _ rfl rfl ?_) | (at_mapUpdate; refine wl_mapUpdate rfl _ _ _ _ rfl _ _ _ rfl rfl rfl ?_) | (at_lookup; refine wl_lookup rfl _ _ _ _ rfl _ _ rfl rfl ?_) | (at_delete; refine wl_delete rfl _ _ _ _ rfl _ _ rfl rfl ?_) | (with_reducible refine wl_len rfl _ _ rfl _ rfl ?_) | (with_reducible refine wl_range rfl _ _ rfl _ rfl ?_) | (with_reducible refine wl_next rfl _ rfl _ rfl ?_) | (with_reducible refine wl_copy rfl _ _ _ _ rfl _ _ rfl rfl ?_) | (with_reducible refine wl_max rfl _ _ _ _ rfl _ _ rfl rfl ?_) | (with_reducible refine wl_min rfl _ _ _ _ rfl _ _ rfl rfl ?_))
  refine (vpages_any hS4 hA4 (by rw [aw_len]; omega)).mono ?_
  rintro e w5 ⟨v, g, rfl, hP, hk5⟩
  have hS5 := hS4.no hA4 hk5
  have hA5 : ∀ k, (w.heap.size ≤ k ∧ k < w2.heap.size) → k < w5.heap.size := fun k hk => Nat.lt_of_lt_of_le (hA4 k hk) hk5.size
  have hK5 := hK4.trans' hk5
  clear hS4 hA4 hk5 hK4
  have hl2 : awM3.length = 2 := aw_len
  have hok3 : Ok awM3 := hS5.ok
  obtain ⟨g0, cap, rfl, hc0⟩ := hP.cells (i := 0) (by omega)
  obtain ⟨g0', cap', e1, hc1⟩ := hP.cells (i := 1) (by omega)
  cases e1
  have d0 : awM3[0].dirty = true := by
    have := congrArg (fun l => l[0]?) aw_dirty
    simp only [List.getElem?_map, List.getElem?_cons_zero] at this
    rw [List.getElem?_eq_getElem (by omega)] at this
    exact congrArg Prod.fst (Option.some.inj this)
  have d1 : (awM3[1].dirty, awM3[1].off) = (false, 256) := by
    have := congrArg (fun l => l[1]?) aw_dirty
    simp only [List.getElem?_map, List.getElem?_cons_zero, List.getElem?_cons_succ] at this
    rw [List.getElem?_eq_getElem (by omega)] at this
    exact Option.some.inj this
  have q0 : w5.cell? ⟨g0, 2, none⟩ = some (.bool true) := by
    have := hc0 2 _ rfl
    rw [d0] at this
    exact this
  have q1 : w5.cell? ⟨g0, 8, none⟩ = some (.bool false) := by
    have := hc1 2 _ rfl
    rw [(Prod.mk.inj d1).1] at this
    exact this
  have q2 : w5.cell? ⟨g0, 10, none⟩ = some (.int .u64 256) := by
    have := hc1 4 _ rfl
    rw [(Prod.mk.inj d1).2] at this
    exact this
  have hg0 : g0 < w5.heap.size := (World.ownsRow.lt hP.row g0 rfl).2
  obtain ⟨hFl, hBt, hRr, hmm⟩ := pgs_in hP hok3.pg
  rw [hl2]
  clear hc0 hc1 d0 d1
  go_wp2_with (first | (at_builtin; refine wl_append rfl _ _ _ _ rfl _ _ rfl rfl ?_) | (at_make; refine wl_make rfl _ _ _ rfl _ _ rfl rfl ?_) | (at_mapUpdate; refine wl_mapUpdate rfl _ _ _ _ rfl _ _ _ rfl rfl rfl ?_) | (at_lookup; refine wl_lookup rfl _ _ _ _ rfl _ _ rfl rfl ?_) | (at_delete; refine wl_delete rfl _ _ _ _ rfl _ _ rfl rfl ?_) | (with_reducible refine wl_len rfl _ _ rfl _ rfl ?_) | (with_reducible refine wl_range rfl _ _ rfl _ rfl ?_) | (with_reducible refine wl_next rfl _ rfl _ rfl ?_) | (with_reducible refine wl_copy rfl _ _ _ _ rfl _ _ rfl rfl ?_) | (with_reducible refine wl_max rfl _ _ _ _ rfl _ _ rfl rfl ?_) | (with_reducible refine wl_min rfl _ _ _ _ rfl _ _ rfl rfl ?_))
  refine (vfetch_any 256 (by omega) hS5 hA5).mono ?_
  rintro e w6 ⟨rfl, hk6⟩
  rw [aw_fetch]
  have hS6 := hS5.no hA5 hk6
  have hA6 : ∀ k, (w.heap.size ≤ k ∧ k < w2.heap.size) → k < w6.heap.size := fun k hk => Nat.lt_of_lt_of_le (hA5 k hk) hk6.size
  have hput := vput_any (w := w6) _ (hFl.no hk6) (fun x hx => (hBt x hx).keep hk6 fun _ _ _ h => h) hRr (by rw [List.length_map, hl2]; omega)
  rw [hmm, aw_put, toPg_raw] at hput
  rw [hl2] at hput
  go_wp2_with (first | (at_builtin; refine wl_append rfl _ _ _ _ rfl _ _ rfl rfl ?_) | (at_make; refine wl_make rfl _ _ _ rfl _ _ rfl rfl ?_) | (at_mapUpdate; refine wl_mapUpdate rfl _ _ _ _ rfl _ _ _ rfl rfl rfl ?_) | (at_lookup; refine wl_lookup rfl _ _ _ _ rfl _ _ rfl rfl ?_) | (at_delete; refine wl_delete rfl _ _ _ _ rfl _ _ rfl rfl ?_) | (with_reducible refine wl_len rfl _ _ rfl _ rfl ?_) | (with_reducible refine wl_range rfl _ _ rfl _ rfl ?_) | (with_reducible refine wl_next rfl _ rfl _ rfl ?_) | (with_reducible refine wl_copy rfl _ _ _ _ rfl _ _ rfl rfl ?_) | (with_reducible refine wl_max rfl _ _ _ _ rfl _ _ rfl rfl ?_) | (with_reducible refine wl_min rfl _ _ _ _ rfl _ _ rfl rfl ?_))
  refine hput.mono ?_
  rintro e w7 ⟨hk7, ⟨_, dt, mbt, ft, rfl, hT⟩ | ⟨h0, _⟩⟩
  rotate_left
  · cases h0
  unfold ptrTo
  have hk57 := hk6.trans' hk7
  have p0 := (hk57.cell (p := ⟨g0, 2, none⟩) hg0 fun h => h).trans q0
  have p1 := (hk57.cell (p := ⟨g0, 8, none⟩) hg0 fun h => h).trans q1
  have p2 := (hk57.cell (p := ⟨g0, 10, none⟩) hg0 fun h => h).trans q2
  have hS7 := hS6.no hA6 hk7
  have hA7 : ∀ k, (w.heap.size ≤ k ∧ k < w2.heap.size) → k < w7.heap.size := fun k hk => Nat.lt_of_lt_of_le (hA6 k hk) hk7.size
  have hK7 := hK5.trans' hk57
  clear hput hFl hBt hRr hmm q0 q1 q2 hP hS5 hA5 hS6 hA6 hK5 hk57
  go_wp2_with (first | (at_builtin; refine wl_append rfl _ _ _ _ rfl _ _ rfl rfl ?_) | (at_make; refine wl_make rfl _ _ _ rfl _ _ rfl rfl ?_) | (at_mapUpdate; refine wl_mapUpdate rfl _ _ _ _ rfl _ _ _ rfl rfl rfl ?_) | (at_lookup; refine wl_lookup rfl _ _ _ _ rfl _ _ rfl rfl ?_) | (at_delete; refine wl_delete rfl _ _ _ _ rfl _ _ rfl rfl ?_) | (with_reducible refine wl_len rfl _ _ rfl _ rfl ?_) | (with_reducible refine wl_range rfl _ _ rfl _ rfl ?_) | (with_reducible refine wl_next rfl _ rfl _ rfl ?_) | (with_reducible refine wl_copy rfl _ _ _ _ rfl _ _ rfl rfl ?_) | (with_reducible refine wl_max rfl _ _ _ _ rfl _ _ rfl rfl ?_) | (with_reducible refine wl_min rfl _ _ _ _ rfl _ _ rfl rfl ?_))
  refine (vpages_any hT (fun k hk => hk.2) (by rw [hl2]; omega)).mono ?_
  rintro e w8 ⟨v8, g8, rfl, hP8, hk8⟩
  obtain ⟨a8, c8, rfl, _, _⟩ := hP8.row.fl.shape
  rw [hl2]
  have hS8 := hS7.no hA7 hk8
  have hA8 : ∀ k, (w.heap.size ≤ k ∧ k < w2.heap.size) → k < w8.heap.size := fun k hk => Nat.lt_of_lt_of_le (hA7 k hk) hk8.size
  have hK8 := hK7.trans' hk8
  clear hS7 hA7 hK7 hP8 hT
  go_wp2_with (first | (at_builtin; refine wl_append rfl _ _ _ _ rfl _ _ rfl rfl ?_) | (at_make; refine wl_make rfl _ _ _ rfl _ _ rfl rfl ?_) | (at_mapUpdate; refine wl_mapUpdate rfl _ _ _ _ rfl _ _ _ rfl rfl rfl ?_) | (at_lookup; refine wl_lookup rfl _ _ _ _ rfl _ _ rfl rfl ?_) | (at_delete; refine wl_delete rfl _ _ _ _ rfl _ _ rfl rfl ?_) | (with_reducible refine wl_len rfl _ _ rfl _ rfl ?_) | (with_reducible refine wl_range rfl _ _ rfl _ rfl ?_) | (with_reducible refine wl_next rfl _ rfl _ rfl ?_) | (with_reducible refine wl_copy rfl _ _ _ _ rfl _ _ rfl rfl ?_) | (with_reducible refine wl_max rfl _ _ _ _ rfl _ _ rfl rfl ?_) | (with_reducible refine wl_min rfl _ _ _ _ rfl _ _ rfl rfl ?_))
  refine (vcopy_any hS8 hA8).mono ?_
  rintro e w9 ⟨dc, mbc, fc, rfl, hC, hk9⟩
  unfold ptrTo
  have hS9 := hS8.no hA8 hk9
  have hA9 : ∀ k, (w.heap.size ≤ k ∧ k < w2.heap.size) → k < w9.heap.size := fun k hk => Nat.lt_of_lt_of_le (hA8 k hk) hk9.size
  have hK9 := hK8.trans' hk9
  clear hS8 hA8 hK8
  go_wp2_with (first | (at_builtin; refine wl_append rfl _ _ _ _ rfl _ _ rfl rfl ?_) | (at_make; refine wl_make rfl _ _ _ rfl _ _ rfl rfl ?_) | (at_mapUpdate; refine wl_mapUpdate rfl _ _ _ _ rfl _ _ _ rfl rfl rfl ?_) | (at_lookup; refine wl_lookup rfl _ _ _ _ rfl _ _ rfl rfl ?_) | (at_delete; refine wl_delete rfl _ _ _ _ rfl _ _ rfl rfl ?_) | (with_reducible refine wl_len rfl _ _ rfl _ rfl ?_) | (with_reducible refine wl_range rfl _ _ rfl _ rfl ?_) | (with_reducible refine wl_next rfl _ rfl _ rfl ?_) | (with_reducible refine wl_copy rfl _ _ _ _ rfl _ _ rfl rfl ?_) | (with_reducible refine wl_max rfl _ _ _ _ rfl _ _ rfl rfl ?_) | (with_reducible refine wl_min rfl _ _ _ _ rfl _ _ rfl rfl ?_))
  refine (vpages_any hC (fun k hk => hk.2) (by rw [hl2]; omega)).mono ?_
  rintro e w10 ⟨v10, g10, rfl, hP10, hk10⟩
  obtain ⟨a10, c10, rfl, _, _⟩ := hP10.row.fl.shape
  rw [hl2]
  have hS10 := hS9.no hA9 hk10
  have hA10 : ∀ k, (w.heap.size ≤ k ∧ k < w2.heap.size) → k < w10.heap.size := fun k hk => Nat.lt_of_lt_of_le (hA9 k hk) hk10.size
  have hK10 := hK9.trans' hk10
  clear hS9 hA9 hK9 hP10 hC
  go_wp2_with (first | (at_builtin; refine wl_append rfl _ _ _ _ rfl _ _ rfl rfl ?_) | (at_make; refine wl_make rfl _ _ _ rfl _ _ rfl rfl ?_) | (at_mapUpdate; refine wl_mapUpdate rfl _ _ _ _ rfl _ _ _ rfl rfl rfl ?_) | (at_lookup; refine wl_lookup rfl _ _ _ _ rfl _ _ rfl rfl ?_) | (at_delete; refine wl_delete rfl _ _ _ _ rfl _ _ rfl rfl ?_) | (with_reducible refine wl_len rfl _ _ rfl _ rfl ?_) | (with_reducible refine wl_range rfl _ _ rfl _ rfl ?_) | (with_reducible refine wl_next rfl _ rfl _ rfl ?_) | (with_reducible refine wl_copy rfl _ _ _ _ rfl _ _ rfl rfl ?_) | (with_reducible refine wl_max rfl _ _ _ _ rfl _ _ rfl rfl ?_) | (with_reducible refine wl_min rfl _ _ _ _ rfl _ _ rfl rfl ?_))
  refine (vprot_any 256 256 4 (by omega) (by omega) hS10 hA10).mono ?_
  rintro e w11 ⟨rfl, hS11, hk11⟩
  rw [aw_prot]
  have hA11 : ∀ k, (w.heap.size ≤ k ∧ k < w2.heap.size) → k < w11.heap.size := fun k hk => Nat.lt_of_lt_of_le (hA10 k hk) hk11.size
  have hK11 : Keep No w w11 := hK10.trans hk11 fun j hj ha => absurd ha.1 (Nat.not_le.2 hj)
  go_wp2_with (first | (at_builtin; refine wl_append rfl _ _ _ _ rfl _ _ rfl rfl ?_) | (at_make; refine wl_make rfl _ _ _ rfl _ _ rfl rfl ?_) | (at_mapUpdate; refine wl_mapUpdate rfl _ _ _ _ rfl _ _ _ rfl rfl rfl ?_) | (at_lookup; refine wl_lookup rfl _ _ _ _ rfl _ _ rfl rfl ?_) | (at_delete; refine wl_delete rfl _ _ _ _ rfl _ _ rfl rfl ?_) | (with_reducible refine wl_len rfl _ _ rfl _ rfl ?_) | (with_reducible refine wl_range rfl _ _ rfl _ rfl ?_) | (with_reducible refine wl_next rfl _ rfl _ rfl ?_) | (with_reducible refine wl_copy rfl _ _ _ _ rfl _ _ rfl rfl ?_) | (with_reducible refine wl_max rfl _ _ _ _ rfl _ _ rfl rfl ?_) | (with_reducible refine wl_min rfl _ _ _ _ rfl _ _ rfl rfl ?_))
  refine (vunmap_any 256 256 (by omega) (by omega) hS11 hA11).mono ?_
  rintro e w12 ⟨rfl, hS12, hk12⟩
  rw [aw_unmap]
  have hK12 : Keep No w w12 := hK11.trans hk12 fun j hj ha => absurd ha.1 (Nat.not_le.2 hj)
  go_wp2_with (first | (at_builtin; refine wl_append rfl _ _ _ _ rfl _ _ rfl rfl ?_) | (at_make; refine wl_make rfl _ _ _ rfl _ _ rfl rfl ?_) | (at_mapUpdate; refine wl_mapUpdate rfl _ _ _ _ rfl _ _ _ rfl rfl rfl ?_) | (at_lookup; refine wl_lookup rfl _ _ _ _ rfl _ _ rfl rfl ?_) | (at_delete; refine wl_delete rfl _ _ _ _ rfl _ _ rfl rfl ?_) | (with_reducible refine wl_len rfl _ _ rfl _ rfl ?_) | (with_reducible refine wl_range rfl _ _ rfl _ rfl ?_) | (with_reducible refine wl_next rfl _ rfl _ rfl ?_) | (with_reducible refine wl_copy rfl _ _ _ _ rfl _ _ rfl rfl ?_) | (with_reducible refine wl_max rfl _ _ _ _ rfl _ _ rfl rfl ?_) | (with_reducible refine wl_min rfl _ _ _ _ rfl _ _ rfl rfl ?_))
  go_ret
  exact ⟨rfl, hK12⟩
end
end Go.Proofs.Ytaoillfofiehpaa
namespace Go.Dm.Vm
open Go Go.Proofs.Ytaoillfofiehpaa Go.Dm.Oc

/-- a page in the place of its like, or where it belongs: the rest of the list, and whether it was put -/
def withP (p : Pg) : V → Bool → V
  | [], true => []
  | [], false => [p]
  | q :: r, put => (if !put && decide (p.addr ≤ q.addr) then [p] else []) ++ ((if q.addr ≠ p.addr then [q] else []) ++ withP p r (put || decide (p.addr ≤ q.addr)))
theorem withP_done {p : Pg} {m : V} (h : ∀ q ∈ m, q.addr ≠ p.addr) : withP p m true = m := by
  induction m with
  | nil => rfl
  | cons q r ih =>
    simp only [withP, Bool.not_true, Bool.false_and, Bool.false_eq_true, if_false, List.nil_append, Bool.true_or]
    rw [if_pos (h q (List.mem_cons_self ..)), ih fun x hx => h x (List.mem_cons_of_mem _ hx)]
    rfl
theorem withP_new {p : Pg} {m : V} (hs : m.Pairwise (fun p q => p.addr < q.addr)) (h : ∀ q ∈ m, q.addr ≠ p.addr) : withP p m false = insP p m := by
  induction m with
  | nil => rfl
  | cons q r ih =>
    rw [List.pairwise_cons] at hs
    have hq := h q (List.mem_cons_self ..)
    have hr : ∀ x ∈ r, x.addr ≠ p.addr := fun x hx => h x (List.mem_cons_of_mem _ hx)
    unfold withP insP
    rw [if_pos hq]
    by_cases hlt : p.addr < q.addr
    · have hle : p.addr ≤ q.addr := by omega
      simp only [hle, hlt, decide_true, Bool.not_false, Bool.and_self, if_true, Bool.or_true, withP_done hr]
      rfl
    · have hle : ¬ p.addr ≤ q.addr := by omega
      simp only [hle, hlt, decide_false, Bool.not_false, Bool.and_false, Bool.false_eq_true, if_false, Bool.or_false, List.nil_append, ih hs.2 hr]
      rfl
theorem withP_upd {p : Pg} {m : V} (hs : m.Pairwise (fun p q => p.addr < q.addr)) (h : ∃ q ∈ m, q.addr = p.addr) : withP p m false = upd m p.addr (fun _ => p) := by
  induction m with
  | nil => obtain ⟨_, h, _⟩ := h; cases h
  | cons q r ih =>
    rw [List.pairwise_cons] at hs
    unfold withP upd
    by_cases hq : q.addr = p.addr
    · have hr : ∀ x ∈ r, x.addr ≠ p.addr := fun x hx => by have := hs.1 x hx; omega
      have hle : p.addr ≤ q.addr := by omega
      simp only [hle, decide_true, Bool.not_false, Bool.and_self, if_true, Bool.or_true, withP_done hr, List.map_cons]
      rw [if_pos hq, if_neg (by simpa using hq)]
      show p :: r = p :: _
      congr 1
      conv => lhs; rw [← List.map_id r]
      apply List.map_congr_left
      intro x hx
      rw [if_neg (hr x hx)]
      rfl
    · obtain ⟨x, hx, ex⟩ := h
      have hxr : x ∈ r := (List.mem_cons.1 hx).resolve_left fun e => hq (e ▸ ex)
      have hle : ¬ p.addr ≤ q.addr := by have := hs.1 x hxr; omega
      have := ih hs.2 ⟨x, hxr, ex⟩
      unfold upd at this
      simp only [hle, decide_false, Bool.not_false, Bool.and_false, Bool.false_eq_true, if_false, Bool.or_false, List.nil_append, this, List.map_cons]
      rw [if_pos hq, if_neg hq]
      rfl
theorem upd_upd (m : V) (a : Nat) {g1 g2 : Pg → Pg} (h1 : ∀ p, (g1 p).addr = p.addr) : upd (upd m a g1) a g2 = upd m a (fun p => g2 (g1 p)) := by
  unfold upd
  rw [List.map_map]
  apply List.map_congr_left
  intro p _
  simp only [Function.comp]
  by_cases e : p.addr = a
  · rw [if_pos e, if_pos (by rw [h1]; exact e), if_pos e]
  · rw [if_neg e, if_neg e, if_neg e]
theorem upd_id (m : V) (a : Nat) {g : Pg → Pg} (h : ∀ p ∈ m, p.addr = a → g p = p) : upd m a g = m := by
  unfold upd
  conv => rhs; rw [← List.map_id m]
  apply List.map_congr_left
  intro p hp
  split
  · rename_i e; exact h p hp e
  · rfl
theorem setB_upd (m : V) (a : Nat) (c : UInt8) : setB m a c = upd m (pageOf a) (fun p => { p with b := p.b.set (a % 256) c }) := rfl
/-- bytes within one page -/
theorem writeB_page (m : V) (a : Nat) (c : List UInt8) (h : a % 256 + c.length ≤ 256) : writeB m a c = upd m (pageOf a) (fun p => { p with b := setR p.b (a % 256) c }) := by
  induction c generalizing m a with
  | nil => exact (upd_id m _ fun p _ _ => rfl).symm
  | cons x r ih =>
    rw [List.length_cons] at h
    unfold writeB
    cases r with
    | nil => rw [setB_upd]; rfl
    | cons y t =>
      rw [List.length_cons] at h
      have e1 : pageOf (a + 1) = pageOf a := by unfold pageOf; omega
      have e2 : (a + 1) % 256 = a % 256 + 1 := by omega
      rw [ih _ (a + 1) (by rw [e2, List.length_cons]; omega), e1, e2, setB_upd, upd_upd]
      · rfl
      · intro p; rfl
theorem writeB_append (m : V) (a : Nat) (b c : List UInt8) : writeB m a (b ++ c) = writeB (writeB m a b) (a + b.length) c := by
  induction b generalizing m a with
  | nil => rfl
  | cons x r ih =>
    show writeB (setB m a x) (a + 1) (r ++ c) = writeB (writeB (setB m a x) (a + 1) r) (a + (r.length + 1)) c
    rw [ih, show a + 1 + r.length = a + (r.length + 1) by omega]
end Go.Dm.Vm
namespace Go.Dm.Vm
open Go Go.Proofs.Ytaoillfofiehpaa Go.Dm.Oc

/-- all pages from lo up to hi are there, and that may be done with them -/
def Full (m : V) (lo hi prot : Nat) : Prop := ∀ x, x % 256 = 0 → lo ≤ x → x < hi → ∃ p, pageAt m x = some p ∧ p.prot = prot
theorem Full.there {m : V} {lo hi prot a n : Nat} (h : Full m lo hi prot) (hlo : lo % 256 = 0) (h1 : lo ≤ a) (h2 : a + n ≤ hi) (hn : 0 < n) : there m a n = true := by
  rw [there_take]
  intro k hk
  have := (pages_step a n k hn).2 hk
  obtain ⟨p, hp, _⟩ := h (pageOf a + 256 * k) (by unfold pageOf; omega) (by unfold pageOf; omega) (by omega)
  rw [hp]; rfl
theorem Full.held {m : V} {lo hi prot a n : Nat} (h : Full m lo hi prot) (hlo : lo % 256 = 0) (h1 : lo ≤ a) (h2 : a + n ≤ hi) (hn : 0 < n) (hh : hi ≤ top) (hs : n ≤ 131328) : heldE m a n = 0 := by
  unfold heldE
  rw [if_neg (by omega), if_pos (h.there hlo h1 h2 hn)]
theorem Full.allowed {m : V} {lo hi prot a n what : Nat} (h : Full m lo hi prot) (hlo : lo % 256 = 0) (h1 : lo ≤ a) (h2 : a + n ≤ hi) (hn : 0 < n) (hp : prot &&& what ≠ 0) : allowedE m a n what = 0 := by
  unfold allowedE
  rw [if_pos]
  unfold pagesOf
  rw [List.all_eq_true]
  intro x hx
  obtain ⟨k, hk, rfl⟩ := List.mem_map.1 hx
  have := (pages_step a n k hn).2 (List.mem_range.1 hk)
  obtain ⟨p, hpp, hpr⟩ := h (pageOf a + 256 * k) (by unfold pageOf; omega) (by unfold pageOf; omega) (by omega)
  unfold allow1E
  rw [hpp]
  simp only [hpr]
  rw [if_neg hp]
  rfl
theorem Full.num {m : V} {lo hi prot a what : Nat} {n : Int} (h : Full m lo hi prot) (hlo : lo % 256 = 0) (hw : n = 1 ∨ n = 2 ∨ n = 4 ∨ n = 8) (h1 : lo ≤ a) (h2 : a + n.toNat ≤ hi) (hh : hi ≤ top) (hp : prot &&& what ≠ 0) : numE m a n what = 0 := by
  unfold numE
  rw [if_pos hw, if_pos (h.held hlo h1 h2 (by omega) hh (by omega))]
  exact h.allowed hlo h1 h2 (by omega) hp
theorem Full.upd {m : V} {lo hi prot a : Nat} {g : Pg → Pg} (h : Full m lo hi prot) (hg : ∀ p, (g p).addr = p.addr) (hp : ∀ p, (g p).prot = p.prot) : Full (upd m a g) lo hi prot := by
  intro x h1 h2 h3
  obtain ⟨p, hpp, hpr⟩ := h x h1 h2 h3
  refine ⟨_, by rw [pageAt_upd m hg, hpp]; rfl, ?_⟩
  show (if p.addr = a then g p else p).prot = prot
  split
  · rw [hp, hpr]
  · exact hpr
theorem Full.updN {m : V} {lo hi prot a k : Nat} {g : Pg → Pg} (h : Full m lo hi prot) (hg : ∀ p, (g p).addr = p.addr) (hp : ∀ p, (g p).prot = p.prot) : Full (updN g m a k) lo hi prot := by
  induction k with
  | zero => exact h
  | succ k ih => exact ih.upd hg hp
theorem Full.write {m : V} {lo hi prot : Nat} (h : Full m lo hi prot) (a : Nat) (b : List UInt8) : Full (writeB m a b) lo hi prot := by
  induction b generalizing m a with
  | nil => exact h
  | cons c r ih => exact ih (Full.upd (g := fun p => { p with b := p.b.set (a % 256) c }) h (fun _ => rfl) (fun _ => rfl)) (a + 1)
theorem Full.store {m : V} {lo hi prot : Nat} (h : Full m lo hi prot) (a : Nat) (n : Int) (x : Nat) : Full (storeV m a n x) lo hi prot := by
  unfold storeV
  split
  · exact (h.write _ _).updN (g := dirt) (fun _ => rfl) (fun _ => rfl)
  · exact h
theorem byteAt_upd {m : V} {a y : Nat} {g : Pg → Pg} (hg : ∀ p, (g p).addr = p.addr) (hb : ∀ p, (g p).b = p.b) : byteAt (upd m a g) y = byteAt m y := by
  unfold byteAt
  rw [pageAt_upd m hg]
  cases pageAt m (pageOf y) with
  | none => rfl
  | some p =>
    simp only [Option.map_some]
    split
    · rw [hb]
    · rfl
theorem byteAt_updN {m : V} {a y k : Nat} {g : Pg → Pg} (hg : ∀ p, (g p).addr = p.addr) (hb : ∀ p, (g p).b = p.b) : byteAt (updN g m a k) y = byteAt m y := by
  induction k with
  | zero => rfl
  | succ k ih => unfold updN; rw [byteAt_upd hg hb, ih]
theorem byteAt_setB {m : V} {a y : Nat} {c : UInt8} (ho : Ok m) (hp : ∃ p, pageAt m (pageOf a) = some p) : byteAt (setB m a c) y = if y = a then c else byteAt m y := by
  unfold byteAt
  rw [pageAt_setB]
  by_cases hpg : pageOf y = pageOf a
  · obtain ⟨p, hp⟩ := hp
    rw [hpg, hp]
    obtain ⟨hpm, hpa⟩ := get_mem hp
    have hl := (ho.pg p hpm).bl
    simp only [Option.map_some]
    rw [if_pos hpa]
    simp only
    by_cases e : y = a
    · subst e
      rw [if_pos rfl, List.getD_eq_getElem?_getD, List.getElem?_set_self (by rw [hl]; exact Nat.mod_lt _ (by decide))]
      rfl
    · rw [if_neg e, List.getD_eq_getElem?_getD, List.getElem?_set_ne (by unfold pageOf at hpg; omega), List.getD_eq_getElem?_getD]
  · rw [if_neg (fun e => hpg (by rw [e]))]
    cases hq : pageAt m (pageOf y) with
    | none => rfl
    | some p =>
      simp only [Option.map_some]
      rw [if_neg (by rw [(get_mem hq).2]; exact hpg)]
theorem byteAt_writeB {m : V} (b : List UInt8) (ho : Ok m) (a y : Nat) (ht : ∀ i, i < b.length → ∃ p, pageAt m (pageOf (a + i)) = some p) : byteAt (writeB m a b) y = if a ≤ y ∧ y < a + b.length then b.getD (y - a) 0 else byteAt m y := by
  induction b generalizing m a with
  | nil => rw [if_neg (by rw [List.length_nil]; omega)]; rfl
  | cons c r ih =>
    have h0 := ht 0 (by simp)
    rw [Nat.add_zero] at h0
    show byteAt (writeB (setB m a c) (a + 1) r) y = _
    rw [ih (setB_ok ho a c) (a + 1) fun i hi => ?_, byteAt_setB ho h0]
    · rw [List.length_cons]
      by_cases e : y = a
      · subst e
        rw [if_neg (by omega), if_pos rfl, if_pos (by omega), Nat.sub_self]
        rfl
      · rw [if_neg e]
        by_cases h : a + 1 ≤ y ∧ y < a + 1 + r.length
        · rw [if_pos h, if_pos (by omega), show y - a = (y - (a + 1)) + 1 by omega]
          rfl
        · rw [if_neg h, if_neg (by omega)]
    · obtain ⟨p, hp⟩ := ht (i + 1) (by simpa using hi)
      rw [show a + 1 + i = a + (i + 1) by omega]
      exact ⟨_, by rw [pageAt_setB, hp]; rfl⟩
/-- what is stored is loaded -/
theorem read_store {m : V} (ho : Ok m) {a : Nat} {n : Int} {x : Nat} (hE : numE m a n 2 = 0) (y k : Nat) : readB (storeV m a n x) y k = (List.range k).map fun i => if a ≤ y + i ∧ y + i < a + n.toNat then (le n.toNat x).getD (y + i - a) 0 else byteAt m (y + i) := by
  unfold readB
  apply List.map_congr_left
  intro i _
  unfold storeV
  rw [if_pos hE, byteAt_updN (g := dirt) (fun _ => rfl) (fun _ => rfl), byteAt_writeB _ ho, le_len]
  intro j hj
  rw [le_len] at hj
  have hp : heldE m a n.toNat = 0 := by
    unfold numE at hE
    split at hE
    · split at hE
      · assumption
      · rename_i h; exact absurd hE h
    · cases hE
  exact there_at (held_parts hp).2.2.2 hj
theorem load_store {m : V} (ho : Ok m) {a : Nat} {n : Int} {x : Nat} (hE : numE m a n 2 = 0) (hL : numE (storeV m a n x) a n 4 = 0) : loadX (storeV m a n x) a n = x % 256 ^ n.toNat := by
  unfold loadX
  rw [if_pos (show loadE (storeV m a n x) a n = 0 from hL), read_store ho hE]
  have e : ((List.range n.toNat).map fun i => if a ≤ a + i ∧ a + i < a + n.toNat then (le n.toNat x).getD (a + i - a) 0 else byteAt m (a + i)) = le n.toNat x := by
    apply List.ext_getElem
    · rw [List.length_map, List.length_range, le_len]
    · intro i h1 h2
      rw [List.length_map, List.length_range] at h1
      rw [List.getElem_map, List.getElem_range, if_pos (by omega), Nat.add_sub_cancel_left, List.getD_eq_getElem?_getD, List.getElem?_eq_getElem h2]
      rfl
  rw [e, leN_le]
theorem dirt_ok' (p : Pg) (h : PgOk p) : PgOk (dirt p) := ⟨h.al, h.lt, h.pr, h.bl, h.ol, h.fl⟩
theorem store_ok {m : V} (ho : Ok m) (a : Nat) (n : Int) (x : Nat) : Ok (storeV m a n x) := by
  unfold storeV
  split
  · exact updN_ok (g := dirt) (writeB_ok ho _ _) (fun _ => rfl) dirt_ok' _ _
  · exact ho
end Go.Dm.Vm
