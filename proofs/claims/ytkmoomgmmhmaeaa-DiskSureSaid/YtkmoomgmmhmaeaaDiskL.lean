/- Crash: its closure, and what its steps leave of the disk. No condition. -/
import Derived.Test.YtkmoomgmmhmaeaaDiskJ
import Derived.Test.YtkmoomgmmhmaeaaDiskK
namespace Go.Proofs.Ytkmoomgmmhmaeaa
open Go.RowKit Go.Dm Go.Dm.Dk Go.Maps

/-- a slice of bools -/
def Bls (A : Nat → Prop) (w : World) (v : Value) (l : List Bool) : Prop := Sl A w 1 v l.length (l.map Value.bool)

theorem enters_crash1 (a b c : Value) : Enters 46 #[a, b, c] := fun w => by kernel_rfl

set_option maxRecDepth 100000 in
set_option maxHeartbeats 1000000 in
theorem crash1_any {B : Nat → Prop} {y z k : Nat} {v : Value} (keep : List Bool) (p0 p1 p2 p3 : Value) (w : World) (hy : Blk w y #[.int .i64 ((k : Int) - 1)] 3) (hz : Blk w z #[v] 41) (hv : Bls B w v keep) (hBy : ∀ j, B j → j ≠ y) (hk : k ≤ 1099511627776) :
    Calls Try.prog 46 #[.agg #[p0, p1, p2, p3], .pointer (some ⟨y, 0, none⟩), .pointer (some ⟨z, 0, none⟩)] w fun e w' => e = .returned (.bool (keep.getD k false)) ∧ Blk w' y #[.int .i64 (k : Int)] 3 ∧ Keep (fun j => j = y) w w' := by
  obtain ⟨a, cap, rfl, _, _⟩ := hv.shape
  have hyz : y ≠ z := by
    rintro rfl
    have e := (show w.heap[y]? = _ from hy).symm.trans hz
    cases e
  have hyl := hy.lt
  have hzl := hz.lt
  have q0 : w.cell? ⟨y, 0, none⟩ = some (.int .i64 ((k : Int) - 1)) := hy.cell 0
  have q1 : w.frozen? ⟨y, 0, none⟩ = false := hy.frozen 0
  have q2 : w.cell? ⟨z, 0, none⟩ = some (.slice a keep.length cap) := hz.cell 0
  have hx : (k : Int) - 1 + 1 = k := by omega
  have HY := Lib.hid hy
  clear hy hz
  rcases Nat.lt_or_ge k keep.length with hlt | hge
  · obtain ⟨g, off, cap', e1, hg, hgl, _, _, hc⟩ := hv.at (by omega)
    cases e1
    have c0 := hc k (.bool (keep.getD k false)) (by simp [List.getD, hlt])
    have hgy : g ≠ y := hBy g hg
    clear hc
    generalize keep.getD k false = r at *
    go_enter Try.func46, Try.ntmps46
    go_wp2_with (first | (at_builtin; refine wl_append rfl _ _ _ _ rfl _ _ rfl rfl ?_) | (at_make; refine wl_make rfl _ _ _ rfl _ _ rfl rfl ?_) | (at_mapUpdate; refine wl_mapUpdate rfl _ _ _ _ rfl _ _ _ rfl rfl rfl ?_) | (at_lookup; refine wl_lookup rfl _ _ _ _ rfl _ _ rfl rfl ?_) | (at_delete; refine wl_delete rfl _ _ _ _ rfl _ _ rfl rfl ?_) | (with_reducible refine wl_len rfl _ _ rfl _ rfl ?_) | (with_reducible refine wl_range rfl _ _ rfl _ rfl ?_) | (with_reducible refine wl_next rfl _ rfl _ rfl ?_) | (with_reducible refine wl_copy rfl _ _ _ _ rfl _ _ rfl rfl ?_) | (with_reducible refine wl_max rfl _ _ _ _ rfl _ _ rfl rfl ?_) | (with_reducible refine wl_min rfl _ _ _ _ rfl _ _ rfl rfl ?_))
    go_ret
    have h2 := HY.out.set (i := 0) (.int .i64 (k : Int))
    exact ⟨rfl, h2.alloc _, ((Keep.refl (fun j => j = y) w).setCell (p := ⟨y, 0, none⟩) (fun _ => rfl) _).alloc _⟩
  · have e2 : keep.getD k false = false := by simp [List.getD, hge]
    rw [e2]
    go_enter Try.func46, Try.ntmps46
    go_wp2_with (first | (at_builtin; refine wl_append rfl _ _ _ _ rfl _ _ rfl rfl ?_) | (at_make; refine wl_make rfl _ _ _ rfl _ _ rfl rfl ?_) | (at_mapUpdate; refine wl_mapUpdate rfl _ _ _ _ rfl _ _ _ rfl rfl rfl ?_) | (at_lookup; refine wl_lookup rfl _ _ _ _ rfl _ _ rfl rfl ?_) | (at_delete; refine wl_delete rfl _ _ _ _ rfl _ _ rfl rfl ?_) | (with_reducible refine wl_len rfl _ _ rfl _ rfl ?_) | (with_reducible refine wl_range rfl _ _ rfl _ rfl ?_) | (with_reducible refine wl_next rfl _ rfl _ rfl ?_) | (with_reducible refine wl_copy rfl _ _ _ _ rfl _ _ rfl rfl ?_) | (with_reducible refine wl_max rfl _ _ _ _ rfl _ _ rfl rfl ?_) | (with_reducible refine wl_min rfl _ _ _ _ rfl _ _ rfl rfl ?_))
    go_ret
    have h2 := HY.out.set (i := 0) (.int .i64 (k : Int))
    exact ⟨rfl, h2.alloc _, ((Keep.refl (fun j => j = y) w).setCell (p := ⟨y, 0, none⟩) (fun _ => rfl) _).alloc _⟩

/-- the names are another map -/
theorem DRep.named {A : Nat → Prop} {w : World} {d nb' : Nat} {m : M} {fb : List Nat} {nb sb : Nat} {wv : Value} {rows : List (List Value)} {L' : Names} (h : DRep A w d m fb nb sb wv rows)
    (hm : MapL Try.prog 9 w nb' (NL fb L')) (ha : A nb') (hne : nb' ≠ sb) (hL : ∀ i, (∃ s, (s, i) ∈ L') → Live m i) : DRep A (w.setCell ⟨d, 1, none⟩ (.map (some nb'))) d { m with L := L' } fb nb' sb wv rows := by
  have hB : ∀ k, k ≠ d → (w.setCell ⟨d, 1, none⟩ (.map (some nb'))).heap[k]? = w.heap[k]? := fun k hk => Below.heap_setCell _ _ _ _ hk
  have hT : ∀ (k : Nat) (cs : Array Value) (t : TypeId) (fr : Nat × Nat), w.heap[k]? = some (Obj.cells cs t fr) → t ≠ 62 → (w.setCell ⟨d, 1, none⟩ (.map (some nb'))).heap[k]? = w.heap[k]? := by
    intro k cs t fr hk h1
    refine hB k ?_
    rintro rfl
    rw [show w.heap[k]? = _ from h.blk] at hk; cases hk; exact h1 rfl
  have hs : w.heap.size ≤ (w.setCell ⟨d, 1, none⟩ (.map (some nb'))).heap.size := by simp
  have hLive : ∀ i, Live { m with L := L' } i → Live m i := by
    rintro i (hi | hi | hi)
    · exact hL i hi
    · exact .inr (.inl hi)
    · exact .inr (.inr hi)
  refine { blk := h.blk.set _, nm := hm.same (hB _ (hm.ne_blk h.blk)), sm := h.sm.same (hB _ (h.sm.ne_blk h.blk)), ne := hne, row := ownsRow_same h.row fun g hg => hB g fun e => by subst e; exact own_ne h.row h.blk (by decide) hg.symm, rowA := h.rowA, rlen := h.rlen, pend := ?_, fl := h.fl, sl := h.sl, nd := h.nd, fbl := fun b hb => Nat.lt_of_lt_of_le (h.fbl b hb) hs, file := ?_, Ad := h.Ad, An := ha, As := h.As }
  · intro i o ho
    obtain ⟨cs, h1, h2⟩ := h.pend i o ho
    exact ⟨cs, h1, h2.same hs fun k _ ⟨cs, fr, t, hk, ht⟩ => hT k cs t fr hk (by rcases ht with rfl | rfl | rfl <;> decide)⟩
  · intro i hi
    obtain ⟨h1, h2, h3⟩ := h.file i (hLive i hi)
    obtain ⟨v1, v2, h4, _⟩ := id h3
    exact ⟨h1, h2, h3.same hs (hT _ _ _ _ h4 (by decide)) fun k _ _ ⟨cs, fr, hk⟩ => hT k cs _ fr hk (by decide)⟩

/-- files that are not alive may be anything -/
theorem DRep.files {A : Nat → Prop} {w : World} {d : Nat} {m : M} {fb : List Nat} {nb sb : Nat} {wv : Value} {rows : List (List Value)} (h : DRep A w d m fb nb sb wv rows) (is' : List (List UInt8)) (hl : is'.length = m.is.length)
    (e : ∀ i, Live m i → is'.getD i [] = m.is.getD i []) : DRep A w d { m with is := is' } fb nb sb wv rows := by
  refine { h with fl := h.fl.trans hl.symm, sl := h.sl.trans hl.symm, file := ?_ }
  intro i hi
  obtain ⟨h1, h2, h3⟩ := h.file i hi
  refine ⟨by show i < is'.length; rw [hl]; exact h1, h2, ?_⟩
  show FileAt A w (fb.getD i 0) (is'.getD i []) (m.sure.getD i [])
  rw [e i hi]; exact h3
end Go.Proofs.Ytkmoomgmmhmaeaa
