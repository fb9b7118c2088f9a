/- The reference of the disk: settle. No condition. -/
import Derived.Test.YtkmoomgmmhmaeaaGreatRef4
namespace Go.Proofs.YtkmoomgmmhmaeaaGreat
open Go.RowKit Go.Dm Go.Dm.Dk

theorem st_small {m : M} {n N : Nat} (h : Small m n N) (sel : Nat → Bool) (k : Nat) : Small (st sel m k) n N := by
  have hS := h.S
  refine settleGo_small sel _ 0 { m with wait := [] } n N { h with S := ?_, wb := fun o ho => (by cases ho) } ?_ fun o ho => h.wb o (List.mem_of_mem_take ho)
  · show m.S.length + 0 ≤ n; omega
  · show m.S.length + 0 + (m.wait.take k).length ≤ n
    rw [List.length_take]; omega
structure StSame (m s : M) : Prop where
  room : s.room = m.room
  is : s.is = m.is
  L : s.L = m.L
  off : s.off = m.off
  cut : s.cut = m.cut
  sl : s.sure.length = m.sure.length
theorem settleGo_same (sel : Nat → Bool) (m : M) : ∀ (l : List Dk.Op) (i : Nat) (s : M), StSame m s → StSame m (settleGo sel i l s)
  | [], _, _, h => h
  | o :: r, i, s, h => by
    refine settleGo_same sel m r (i + 1) _ ?_
    unfold settle1
    split
    · exact ⟨h.room, h.is, h.L, h.off, h.cut, h.sl⟩
    · split
      · exact ⟨h.room, h.is, h.L, h.off, h.cut, by simp only [putF, List.length_set]; exact h.sl⟩
      · exact ⟨h.room, h.is, h.L, h.off, h.cut, h.sl⟩
theorem st_same (sel : Nat → Bool) (m : M) (k : Nat) : StSame m (st sel m k) := settleGo_same sel m _ 0 _ ⟨rfl, rfl, rfl, rfl, rfl, rfl⟩

set_option maxRecDepth 100000 in
set_option maxHeartbeats 4000000 in
theorem rsettle_any {A B : Nat → Prop} {w : World} {v1 v2 v3 v4 v5 kv : Value} {m : M} {n N n2 : Nat} (keep : List Bool) (h : DV A w v1 v2 v3 v4 v5 m) (hkp : Fl B w 1 encB kv keep) (hs : Small m n N) (hf : Files m n2) (hn : n ≤ 100000) (hN : N ≤ 1000000) (hn2 : n2 ≤ 1000000) :
    Calls Tryz.prog 35 #[dv m v1 v2 v3 v4 v5, kv] w (RetD A w (Dk.settle m fun i => keep.getD i false)) := by
  replace h := h.mono (B := fun k => A k ∧ k < w.heap.size) fun j hj ha => ⟨ha, hj⟩
  replace hkp := hkp.mono (B := fun k => B k ∧ k < w.heap.size) fun j hj ha => ⟨ha, hj⟩
  have hwl : m.wait.length ≤ 100000 := by have := hs.S; omega
  obtain ⟨a1, d1, a2, d2, a3, d3, a4, d4, a5, d5, rfl, rfl, rfl, rfl, rfl⟩ := h.shape
  obtain ⟨ak, dk, rfl, _, hdk⟩ := hkp.shape
  unfold maxLen at hdk
  rw [← st_all]
  obtain ⟨sel, hsel⟩ : ∃ sel : Nat → Bool, sel = fun i => keep.getD i false := ⟨_, rfl⟩
  rw [← hsel]
  have HSEL : ∀ i, sel i = keep.getD i false := fun i => by rw [hsel]
  clear hsel
  have HS := Lib.hid HSEL
  clear HSEL
  unfold dv
  go_enter Tryz.func35, Tryz.ntmps35
  go_wp2_with (first | (at_builtin; refine wl_append rfl _ _ _ _ rfl _ _ rfl rfl ?_) | (at_make; refine wl_make rfl _ _ _ rfl _ _ rfl rfl ?_) | (at_mapUpdate; refine wl_mapUpdate rfl _ _ _ _ rfl _ _ _ rfl rfl rfl ?_) | (at_lookup; refine wl_lookup rfl _ _ _ _ rfl _ _ rfl rfl ?_) | (at_delete; refine wl_delete rfl _ _ _ _ rfl _ _ rfl rfl ?_) | (with_reducible refine wl_len rfl _ _ rfl _ rfl ?_) | (with_reducible refine wl_range rfl _ _ rfl _ rfl ?_) | (with_reducible refine wl_next rfl _ rfl _ rfl ?_) | (with_reducible refine wl_copy rfl _ _ _ _ rfl _ _ rfl rfl ?_) | (with_reducible refine wl_max rfl _ _ _ _ rfl _ _ rfl rfl ?_) | (with_reducible refine wl_min rfl _ _ _ _ rfl _ _ rfl rfl ?_))
  have hkW1 : Keep No w (w.alloc (.cells #[.int .i64 m.room, .slice a1 m.is.length d1, .slice a2 m.sure.length d2, .slice a3 m.L.length d3, .slice a4 m.S.length d4, .slice a5 m.wait.length d5, .bool m.off, .int .i64 m.cut] 30)) := (Keep.refl _ _).alloc _
  have hBW1 : Blk (w.alloc (.cells #[.int .i64 m.room, .slice a1 m.is.length d1, .slice a2 m.sure.length d2, .slice a3 m.L.length d3, .slice a4 m.S.length d4, .slice a5 m.wait.length d5, .bool m.off, .int .i64 m.cut] 30)) w.heap.size #[.int .i64 m.room, .slice a1 m.is.length d1, .slice a2 m.sure.length d2, .slice a3 m.L.length d3, .slice a4 m.S.length d4, .slice a5 m.wait.length d5, .bool m.off, .int .i64 m.cut] 30 := Blk.new _ _ _
  have hzW1 : (w.alloc (.cells #[.int .i64 m.room, .slice a1 m.is.length d1, .slice a2 m.sure.length d2, .slice a3 m.L.length d3, .slice a4 m.S.length d4, .slice a5 m.wait.length d5, .bool m.off, .int .i64 m.cut] 30)).heap.size = w.heap.size + 1 := World.size_alloc _ _
  generalize w.alloc (.cells #[.int .i64 m.room, .slice a1 m.is.length d1, .slice a2 m.sure.length d2, .slice a3 m.L.length d3, .slice a4 m.S.length d4, .slice a5 m.wait.length d5, .bool m.off, .int .i64 m.cut] 30) = W1 at *
  have hkW : Keep No W1 (W1.alloc (.cells #[.int .i64 0, .slice none 0 0, .slice none 0 0, .slice none 0 0, .slice none 0 0, .slice none 0 0, .bool false, .int .i64 0] 30)) := (Keep.refl _ _).alloc _
  have hBW : Blk (W1.alloc (.cells #[.int .i64 0, .slice none 0 0, .slice none 0 0, .slice none 0 0, .slice none 0 0, .slice none 0 0, .bool false, .int .i64 0] 30)) W1.heap.size #[.int .i64 0, .slice none 0 0, .slice none 0 0, .slice none 0 0, .slice none 0 0, .slice none 0 0, .bool false, .int .i64 0] 30 := Blk.new _ _ _
  have hzW : (W1.alloc (.cells #[.int .i64 0, .slice none 0 0, .slice none 0 0, .slice none 0 0, .slice none 0 0, .slice none 0 0, .bool false, .int .i64 0] 30)).heap.size = W1.heap.size + 1 := World.size_alloc _ _
  generalize W1.alloc (.cells #[.int .i64 0, .slice none 0 0, .slice none 0 0, .slice none 0 0, .slice none 0 0, .slice none 0 0, .bool false, .int .i64 0] 30) = W at *
  rw [hzW1] at hBW
  replace hBW1 := hBW1.keep hkW fun h => h
  replace hkW := hkW1.trans' hkW
  have h' := h.no hkW
  replace hkp := hkp.no hkW
  have hzz : W.heap.size = w.heap.size + 2 := by omega
  clear hkW1 hzW1 hzW
  clear W1
  go_loopw [5, 6] (fun lv iv wr => ∃ (k : Nat) (b2 : Option Addr) (e2 : Nat) (b4 : Option Addr) (e4 : Nat), iv = .int .i64 k ∧ k ≤ m.wait.length ∧
    Blk wr w.heap.size #[.int .i64 m.room, .slice a1 m.is.length d1, .slice b2 (st sel m k).sure.length e2, .slice a3 m.L.length d3, .slice b4 (st sel m k).S.length e4, .slice a5 m.wait.length d5, .bool m.off, .int .i64 m.cut] 30 ∧ Blk wr (w.heap.size + 1) #[.int .i64 0, .slice none 0 0, .slice none 0 0, .slice none 0 0, .slice none 0 0, .slice none 0 0, .bool false, .int .i64 0] 30 ∧
    FlO wr W.heap.size 100 6 encOp lv (st sel m k).wait ∧ DV (fun j => ((A j ∧ j < w.heap.size) ∨ w.heap.size + 2 ≤ j) ∧ some j ≠ lv.ownBlock) wr (.slice a1 m.is.length d1) (.slice b2 (st sel m k).sure.length e2) (.slice a3 m.L.length d3) (.slice b4 (st sel m k).S.length e4) (.slice none 0 0) { st sel m k with wait := [] } ∧ Keep (fun k => w.heap.size ≤ k) w wr ∧ Keep (fun k => k = w.heap.size ∨ W.heap.size ≤ k) W wr) (fun _ iv _ => m.wait.length - (intOf iv).toNat)
  case atStart =>
    refine ⟨0, a2, d2, a4, d4, rfl, Nat.zero_le _, hBW1, hBW, FlO.nil, ?_, hkW.mono fun _ _ h => h.elim, Keep.refl _ _⟩
    have := h'.mono (B := fun j => ((A j ∧ j < w.heap.size) ∨ w.heap.size + 2 ≤ j) ∧ some j ≠ (Value.slice none 0 0).ownBlock) fun j _ h => ⟨.inl h, fun e => by cases e⟩
    exact ⟨this.is, this.sure, this.L, this.S, Fl.nil⟩
  case round =>
    obtain ⟨k, b2, e2, b4, e4, rfl, hk, hB1, hB3, ho, hD, hK, hK2⟩ := hrel
    have hsS := st_small hs sel k
    have hsame := st_same sel m k
    rcases Nat.lt_or_ge k m.wait.length with hkl | hkl
    · have hwk : m.wait[k]? = some m.wait[k] := List.getElem?_eq_getElem hkl
      have hst := st_succ sel m hwk
      have hmem := List.getElem_mem hkl
      have hwb := hs.wb _ hmem
      have hfW := hf.W _ hmem
      obtain ⟨g, off, cap, e, hgA, hg, _, _, hcell⟩ := (h'.W.keep hK2 fun j _ ha hs => by have := ha.2; rcases hs with hs | hs <;> omega).at (fun _ => rfl) hkl
      cases e
      generalize m.wait[k] = o at *
      obtain ⟨kind, file, at_, b, frm, to⟩ := o
      simp only at hwb hfW
      generalize st sel m k = s at *
      have q0 : wr.cell? ⟨g, off + k * 6, none⟩ = _ := hcell 0 _ rfl
      have q1 := hcell 1 _ rfl
      have q2 := hcell 2 _ rfl
      have q3 := hcell 3 _ rfl
      have q4 := hcell 4 _ rfl
      have q5 := hcell 5 _ rfl
      have c1 := hB1.cell
      have HST := Lib.hid hst
      clear hcell hst hwk
      have hsw : s.wait.length ≤ 100000 := by have := hsS.S; omega
      have hsSl : s.S.length ≤ 100000 := by have := hsS.S; omega
      obtain ⟨a6, d6, rfl, _, _⟩ := ho.fl.shape
      go_wp2_with (first | (at_builtin; refine wl_append rfl _ _ _ _ rfl _ _ rfl rfl ?_) | (at_make; refine wl_make rfl _ _ _ rfl _ _ rfl rfl ?_) | (at_mapUpdate; refine wl_mapUpdate rfl _ _ _ _ rfl _ _ _ rfl rfl rfl ?_) | (at_lookup; refine wl_lookup rfl _ _ _ _ rfl _ _ rfl rfl ?_) | (at_delete; refine wl_delete rfl _ _ _ _ rfl _ _ rfl rfl ?_) | (with_reducible refine wl_len rfl _ _ rfl _ rfl ?_) | (with_reducible refine wl_range rfl _ _ rfl _ rfl ?_) | (with_reducible refine wl_next rfl _ rfl _ rfl ?_) | (with_reducible refine wl_copy rfl _ _ _ _ rfl _ _ rfl rfl ?_) | (with_reducible refine wl_max rfl _ _ _ _ rfl _ _ rfl rfl ?_) | (with_reducible refine wl_min rfl _ _ _ _ rfl _ _ rfl rfl ?_) | (with_reducible refine wl_stAgg rfl _ _ _ rfl _ _ rfl rfl ?_))
      refine rg_stAgg (Blk.new _ _ _) (by kernel_rfl) (by rfl) (by simp [Value.oneCell']) ?_
      intro X hBO hkO hzO
      have hX : Keep No wr X := ((Keep.refl No wr).alloc _).trans hkO fun j hj e => absurd e (Nat.ne_of_lt hj)
      replace hzO : wr.heap.size + 1 ≤ X.heap.size := by rw [hzO, World.size_alloc]; exact Nat.le_refl _
      clear hkO c1 q0 q1 q2 q3 q4 q5
      have hwrs := hK2.size
      replace hB1 := hB1.keep hX fun h => h
      replace hB3 := hB3.keep hX fun h => h
      replace ho := ho.no hX
      replace hD := hD.no hX
      replace hK := hK.trans' (hX.mono fun _ _ h => h.elim)
      replace hK2 := hK2.trans' (hX.mono fun _ _ h => h.elim)
      have c1 := hB1.cell
      have f1 := hB1.frozen
      have cO := hBO.cell
      have hselk := HS.out k
      by_cases hskip : sel k = false
      · have HE : Hid (st sel m (k + 1) = { s with wait := s.wait ++ [⟨kind, file, at_, b, frm, to⟩] }) := Lib.hid (by rw [HST.out]; simp only [settle1, hskip]; rfl)
        clear HST
        have hstop : (∃ hl : k < keep.length, keep[k] = false) ∨ keep.length ≤ k := by
          rcases Nat.lt_or_ge k keep.length with hl | hl
          · left
            rw [hskip, List.getD_eq_getElem?_getD, List.getElem?_eq_getElem hl] at hselk
            exact ⟨hl, hselk.symm⟩
          · exact .inr hl
        clear hselk hskip
        rcases hstop with ⟨hl, hkb⟩ | hl
        · obtain ⟨gk, offk, capk, e, hgkA, hgk, _, _, hck⟩ := (hkp.keep hK2 fun j _ ha hs => by have := ha.2; rcases hs with hs | hs <;> omega).at (fun _ => rfl) hl
          cases e
          have qk := hck 0 _ rfl
          simp only [Nat.mul_one, Nat.add_zero] at qk
          rw [hkb] at qk
          clear hck
          go_wp2_with (first | (at_builtin; refine wl_append rfl _ _ _ _ rfl _ _ rfl rfl ?_) | (at_make; refine wl_make rfl _ _ _ rfl _ _ rfl rfl ?_) | (at_mapUpdate; refine wl_mapUpdate rfl _ _ _ _ rfl _ _ _ rfl rfl rfl ?_) | (at_lookup; refine wl_lookup rfl _ _ _ _ rfl _ _ rfl rfl ?_) | (at_delete; refine wl_delete rfl _ _ _ _ rfl _ _ rfl rfl ?_) | (with_reducible refine wl_len rfl _ _ rfl _ rfl ?_) | (with_reducible refine wl_range rfl _ _ rfl _ rfl ?_) | (with_reducible refine wl_next rfl _ rfl _ rfl ?_) | (with_reducible refine wl_copy rfl _ _ _ _ rfl _ _ rfl rfl ?_) | (with_reducible refine wl_max rfl _ _ _ _ rfl _ _ rfl rfl ?_) | (with_reducible refine wl_min rfl _ _ _ _ rfl _ _ rfl rfl ?_))
          refine rg_push _ 72 Tryz.underlying28 info_op rfl (by decide) (enc := encOp) (x := (⟨kind, file, at_, b, frm, to⟩ : Dk.Op)) rfl rfl (op_one _) ho (by omega) (by decide) (by omega) ?_
          intro v' Y ho2 hkY hnb
          have hB1' := hB1.own ho hkY (by omega)
          have hB3' := hB3.own ho hkY (by omega)
          have hD2 := (hD.mono (B := fun j => (((A j ∧ j < w.heap.size) ∨ w.heap.size + 2 ≤ j) ∧ some j ≠ (Value.slice a6 s.wait.length d6).ownBlock) ∧ j < X.heap.size) fun j hj ha => ⟨ha, hj⟩).keep hkY fun j _ ha e => ha.1.2 e
          have hK' := hK.trans hkY fun j hj e => Nat.le_trans (by omega) (World.ownsRow.lt ho j e.symm).1
          have hK2' := hK2.trans hkY fun j hj e => .inr (World.ownsRow.lt ho j e.symm).1
          obtain ⟨a7, d7, e7, _, _⟩ := ho2.fl.shape
          rw [List.length_append, List.length_singleton] at e7
          subst e7
          go_wp2_with (first | (at_builtin; refine wl_append rfl _ _ _ _ rfl _ _ rfl rfl ?_) | (at_make; refine wl_make rfl _ _ _ rfl _ _ rfl rfl ?_) | (at_mapUpdate; refine wl_mapUpdate rfl _ _ _ _ rfl _ _ _ rfl rfl rfl ?_) | (at_lookup; refine wl_lookup rfl _ _ _ _ rfl _ _ rfl rfl ?_) | (at_delete; refine wl_delete rfl _ _ _ _ rfl _ _ rfl rfl ?_) | (with_reducible refine wl_len rfl _ _ rfl _ rfl ?_) | (with_reducible refine wl_range rfl _ _ rfl _ rfl ?_) | (with_reducible refine wl_next rfl _ rfl _ rfl ?_) | (with_reducible refine wl_copy rfl _ _ _ _ rfl _ _ rfl rfl ?_) | (with_reducible refine wl_max rfl _ _ _ _ rfl _ _ rfl rfl ?_) | (with_reducible refine wl_min rfl _ _ _ _ rfl _ _ rfl rfl ?_))
          go_roundw
          case rel =>
            refine ⟨k + 1, b2, e2, b4, e4, by go_num, by omega, ?_, hB3', ?_, ?_, hK', hK2'⟩
            · rw [HE.out]; exact hB1'
            · rw [HE.out]; exact ho2
            · rw [HE.out]
              exact hD2.mono fun j _ ha => ⟨ha.1.1, fun e => by
                rcases hnb with hnb | hnb
                · rw [hnb] at e; exact ha.1.2 e
                · rw [hnb] at e; cases e; have := ha.2; omega⟩
          case measure => simp [intOf]; omega
        · have hl' : (keep.length : Int) ≤ (k : Int) := by omega
          go_wp2_with (first | (at_builtin; refine wl_append rfl _ _ _ _ rfl _ _ rfl rfl ?_) | (at_make; refine wl_make rfl _ _ _ rfl _ _ rfl rfl ?_) | (at_mapUpdate; refine wl_mapUpdate rfl _ _ _ _ rfl _ _ _ rfl rfl rfl ?_) | (at_lookup; refine wl_lookup rfl _ _ _ _ rfl _ _ rfl rfl ?_) | (at_delete; refine wl_delete rfl _ _ _ _ rfl _ _ rfl rfl ?_) | (with_reducible refine wl_len rfl _ _ rfl _ rfl ?_) | (with_reducible refine wl_range rfl _ _ rfl _ rfl ?_) | (with_reducible refine wl_next rfl _ rfl _ rfl ?_) | (with_reducible refine wl_copy rfl _ _ _ _ rfl _ _ rfl rfl ?_) | (with_reducible refine wl_max rfl _ _ _ _ rfl _ _ rfl rfl ?_) | (with_reducible refine wl_min rfl _ _ _ _ rfl _ _ rfl rfl ?_))
          refine rg_push _ 72 Tryz.underlying28 info_op rfl (by decide) (enc := encOp) (x := (⟨kind, file, at_, b, frm, to⟩ : Dk.Op)) rfl rfl (op_one _) ho (by omega) (by decide) (by omega) ?_
          intro v' Y ho2 hkY hnb
          have hB1' := hB1.own ho hkY (by omega)
          have hB3' := hB3.own ho hkY (by omega)
          have hD2 := (hD.mono (B := fun j => (((A j ∧ j < w.heap.size) ∨ w.heap.size + 2 ≤ j) ∧ some j ≠ (Value.slice a6 s.wait.length d6).ownBlock) ∧ j < X.heap.size) fun j hj ha => ⟨ha, hj⟩).keep hkY fun j _ ha e => ha.1.2 e
          have hK' := hK.trans hkY fun j hj e => Nat.le_trans (by omega) (World.ownsRow.lt ho j e.symm).1
          have hK2' := hK2.trans hkY fun j hj e => .inr (World.ownsRow.lt ho j e.symm).1
          obtain ⟨a7, d7, e7, _, _⟩ := ho2.fl.shape
          rw [List.length_append, List.length_singleton] at e7
          subst e7
          go_wp2_with (first | (at_builtin; refine wl_append rfl _ _ _ _ rfl _ _ rfl rfl ?_) | (at_make; refine wl_make rfl _ _ _ rfl _ _ rfl rfl ?_) | (at_mapUpdate; refine wl_mapUpdate rfl _ _ _ _ rfl _ _ _ rfl rfl rfl ?_) | (at_lookup; refine wl_lookup rfl _ _ _ _ rfl _ _ rfl rfl ?_) | (at_delete; refine wl_delete rfl _ _ _ _ rfl _ _ rfl rfl ?_) | (with_reducible refine wl_len rfl _ _ rfl _ rfl ?_) | (with_reducible refine wl_range rfl _ _ rfl _ rfl ?_) | (with_reducible refine wl_next rfl _ rfl _ rfl ?_) | (with_reducible refine wl_copy rfl _ _ _ _ rfl _ _ rfl rfl ?_) | (with_reducible refine wl_max rfl _ _ _ _ rfl _ _ rfl rfl ?_) | (with_reducible refine wl_min rfl _ _ _ _ rfl _ _ rfl rfl ?_))
          go_roundw
          case rel =>
            refine ⟨k + 1, b2, e2, b4, e4, by go_num, by omega, ?_, hB3', ?_, ?_, hK', hK2'⟩
            · rw [HE.out]; exact hB1'
            · rw [HE.out]; exact ho2
            · rw [HE.out]
              exact hD2.mono fun j _ ha => ⟨ha.1.1, fun e => by
                rcases hnb with hnb | hnb
                · rw [hnb] at e; exact ha.1.2 e
                · rw [hnb] at e; cases e; have := ha.2; omega⟩
          case measure => simp [intOf]; omega
      · have hsk : sel k = true := by simpa using hskip
        rw [hsk] at hselk
        have hl : k < keep.length := by
          rcases Nat.lt_or_ge k keep.length with hl | hl
          · exact hl
          · rw [List.getD_eq_getElem?_getD, List.getElem?_eq_none hl] at hselk; cases hselk
        have hkb : keep[k] = true := by
          rw [List.getD_eq_getElem?_getD, List.getElem?_eq_getElem hl] at hselk; exact hselk.symm
        obtain ⟨gk, offk, capk, e, hgkA, hgk, _, _, hck⟩ := (hkp.keep hK2 fun j _ ha hs => by have := ha.2; rcases hs with hs | hs <;> omega).at (fun _ => rfl) hl
        cases e
        have qk := hck 0 _ rfl
        simp only [Nat.mul_one, Nat.add_zero] at qk
        rw [hkb] at qk
        clear hck hskip hselk
        by_cases hkd : kind = 1
        · subst hkd
          have HE : Hid (st sel m (k + 1) = { s with sure := putF s.sure file (laidB (s.sure.getD file []) at_ b) }) := Lib.hid (by rw [HST.out]; simp only [settle1, hsk, if_true]; rfl)
          clear HST hsk
          have hfl : file < s.sure.length := by have := hfW (.inl rfl); have := hsame.sl; have := hf.ln; omega
          obtain ⟨g2, off2, cap2, e, hgA2, hg2, _, _, hc2⟩ := hD.sure.at (fun _ => rfl) hfl
          cases e
          have qs := hc2 0 _ rfl
          simp only [Nat.mul_one, Nat.add_zero] at qs
          have hsl : s.sure[file].length ≤ 1000000 := by have := hsS.sure file; rw [List.getD_eq_getElem?_getD, List.getElem?_eq_getElem hfl, Option.getD_some] at this; omega
          have hXe : s.sure.getD file [] = s.sure[file] := by rw [List.getD_eq_getElem?_getD, List.getElem?_eq_getElem hfl, Option.getD_some]
          rw [hXe] at HE
          generalize s.sure[file] = Z at *
          clear hc2 hXe
          have hat : at_ ≤ 1000000 := by omega
          have hbl : b.length ≤ 1000000 := by omega
          have hfl' : (file : Int) < (s.sure.length : Int) := by omega
          go_wp2_with (first | (at_builtin; refine wl_append rfl _ _ _ _ rfl _ _ rfl rfl ?_) | (at_make; refine wl_make rfl _ _ _ rfl _ _ rfl rfl ?_) | (at_mapUpdate; refine wl_mapUpdate rfl _ _ _ _ rfl _ _ _ rfl rfl rfl ?_) | (at_lookup; refine wl_lookup rfl _ _ _ _ rfl _ _ rfl rfl ?_) | (at_delete; refine wl_delete rfl _ _ _ _ rfl _ _ rfl rfl ?_) | (with_reducible refine wl_len rfl _ _ rfl _ rfl ?_) | (with_reducible refine wl_range rfl _ _ rfl _ rfl ?_) | (with_reducible refine wl_next rfl _ rfl _ rfl ?_) | (with_reducible refine wl_copy rfl _ _ _ _ rfl _ _ rfl rfl ?_) | (with_reducible refine wl_max rfl _ _ _ _ rfl _ _ rfl rfl ?_) | (with_reducible refine wl_min rfl _ _ _ _ rfl _ _ rfl rfl ?_))
          refine wp_region_sig (fun w' => (∀ i, w'.cell? ⟨w.heap.size, i, none⟩ = #[.int .i64 m.room, .slice a1 m.is.length d1, .slice (some ⟨g2, off2, none⟩) s.sure.length e2, .slice a3 m.L.length d3, .slice b4 s.S.length e4, .slice (some ⟨g, off, none⟩) m.wait.length d5, .bool m.off, .int .i64 m.cut][i]?) ∧ (∀ i, w'.cell? ⟨wr.heap.size, i, none⟩ = #[.int .i64 (1 : Nat), .int .i64 file, .int .i64 at_, .string ⟨b.toArray⟩, .string ⟨frm.toArray⟩, .string ⟨to.toArray⟩][i]?) ∧ w'.cell? ⟨g2, off2 + file, none⟩ = some (.string ⟨Z.toArray⟩)) (fun j => decide (j ≤ 16)) [(0, true), (1, true), (2, true), (3, true), (4, true), (5, true), (6, true), (7, true), (8, true), (9, true), (10, true), (11, true), (12, true), (13, true), (14, false), (15, false), (16, false), (17, false)] (by kernel_rfl) (by kernel_rfl) (by intro c a d v w h; cases d <;> exact h) ⟨c1, cO, qs⟩ ?_
          apply sig_still (o := ⟨some 38, _, _, _, _, _⟩) rfl rfl
          · intro w' hS
            obtain ⟨q1, q2, q3⟩ := hS
            first | (go_simp; done) | (go_simp; rfl) | rfl
          go_frame
          apply sig_still (o := ⟨some 39, _, _, _, _, _⟩) rfl rfl
          · intro w' hS
            obtain ⟨q1, q2, q3⟩ := hS
            first | (go_simp; done) | (go_simp; rfl) | rfl
          go_frame
          apply sig_still (o := ⟨some 40, _, _, _, _, _⟩) rfl rfl
          · intro w' hS
            obtain ⟨q1, q2, q3⟩ := hS
            first | (go_simp; done) | (go_simp; rfl) | rfl
          go_frame
          apply sig_still (o := ⟨some 41, _, _, _, _, _⟩) rfl rfl
          · intro w' hS
            obtain ⟨q1, q2, q3⟩ := hS
            first | (go_simp; done) | (go_simp; rfl) | rfl
          go_frame
          apply sig_still (o := ⟨some 42, _, _, _, _, _⟩) rfl rfl
          · intro w' hS
            obtain ⟨q1, q2, q3⟩ := hS
            first | (go_simp; done) | (go_simp; rfl) | rfl
          go_frame
          apply sig_still (o := ⟨some 43, _, _, _, _, _⟩) rfl rfl
          · intro w' hS
            obtain ⟨q1, q2, q3⟩ := hS
            first | (go_simp; done) | (go_simp; rfl) | rfl
          go_frame
          apply sig_still (o := ⟨some 44, _, _, _, _, _⟩) rfl rfl
          · intro w' hS
            obtain ⟨q1, q2, q3⟩ := hS
            first | (go_simp; done) | (go_simp; rfl) | rfl
          go_frame
          apply sig_still (o := ⟨some 45, _, _, _, _, _⟩) rfl rfl
          · intro w' hS
            obtain ⟨q1, q2, q3⟩ := hS
            first | (go_simp; done) | (go_simp; rfl) | rfl
          go_frame
          apply sig_still (o := ⟨some 46, _, _, _, _, _⟩) rfl rfl
          · intro w' hS
            obtain ⟨q1, q2, q3⟩ := hS
            first | (go_simp; done) | (go_simp; rfl) | rfl
          go_frame
          apply sig_still (o := ⟨some 47, _, _, _, _, _⟩) rfl rfl
          · intro w' hS
            obtain ⟨q1, q2, q3⟩ := hS
            first | (go_simp; done) | (go_simp; rfl) | rfl
          go_frame
          apply sig_still (o := ⟨some 48, _, _, _, _, _⟩) rfl rfl
          · intro w' hS
            obtain ⟨q1, q2, q3⟩ := hS
            first | (go_simp; done) | (go_simp; rfl) | rfl
          go_frame
          apply sig_still (o := ⟨some 49, _, _, _, _, _⟩) rfl rfl
          · intro w' hS
            obtain ⟨q1, q2, q3⟩ := hS
            first | (go_simp; done) | (go_simp; rfl) | rfl
          go_frame
          apply sig_still (o := ⟨some 50, _, _, _, _, _⟩) rfl rfl
          · intro w' hS
            obtain ⟨q1, q2, q3⟩ := hS
            first | (go_simp; done) | (go_simp; rfl) | rfl
          go_frame
          apply sig_still (o := ⟨some 51, _, _, _, _, _⟩) rfl rfl
          · intro w' hS
            obtain ⟨q1, q2, q3⟩ := hS
            first | (go_simp; done) | (go_simp; rfl) | rfl
          go_frame
          refine sig_eff (o := ⟨some 52, _, _, _, _, _⟩) rfl rfl (fun K hKe => ?_)
          go_wp2_with (first | (at_builtin; refine wl_append rfl _ _ _ _ rfl _ _ rfl rfl ?_) | (at_make; refine wl_make rfl _ _ _ rfl _ _ rfl rfl ?_) | (at_mapUpdate; refine wl_mapUpdate rfl _ _ _ _ rfl _ _ _ rfl rfl rfl ?_) | (at_lookup; refine wl_lookup rfl _ _ _ _ rfl _ _ rfl rfl ?_) | (at_delete; refine wl_delete rfl _ _ _ _ rfl _ _ rfl rfl ?_) | (with_reducible refine wl_len rfl _ _ rfl _ rfl ?_) | (with_reducible refine wl_range rfl _ _ rfl _ rfl ?_) | (with_reducible refine wl_next rfl _ rfl _ rfl ?_) | (with_reducible refine wl_copy rfl _ _ _ _ rfl _ _ rfl rfl ?_) | (with_reducible refine wl_max rfl _ _ _ _ rfl _ _ rfl rfl ?_) | (with_reducible refine wl_min rfl _ _ _ _ rfl _ _ rfl rfl ?_))
          refine (rlaid_any Z at_ b hsl hat hbl).mono ?_
          rintro e Y1 ⟨rfl, hk4⟩
          replace hk4 : Keep No X Y1 := ⟨hk4.os, hk4.tape, hk4.output, hk4.size, hk4.block⟩
          go_wp2_with (first | (at_builtin; refine wl_append rfl _ _ _ _ rfl _ _ rfl rfl ?_) | (at_make; refine wl_make rfl _ _ _ rfl _ _ rfl rfl ?_) | (at_mapUpdate; refine wl_mapUpdate rfl _ _ _ _ rfl _ _ _ rfl rfl rfl ?_) | (at_lookup; refine wl_lookup rfl _ _ _ _ rfl _ _ rfl rfl ?_) | (at_delete; refine wl_delete rfl _ _ _ _ rfl _ _ rfl rfl ?_) | (with_reducible refine wl_len rfl _ _ rfl _ rfl ?_) | (with_reducible refine wl_range rfl _ _ rfl _ rfl ?_) | (with_reducible refine wl_next rfl _ rfl _ rfl ?_) | (with_reducible refine wl_copy rfl _ _ _ _ rfl _ _ rfl rfl ?_) | (with_reducible refine wl_max rfl _ _ _ _ rfl _ _ rfl rfl ?_) | (with_reducible refine wl_min rfl _ _ _ _ rfl _ _ rfl rfl ?_))
          refine ⟨fun _ => ⟨(hB1.keep hk4 fun h => h).cell, (hBO.keep hk4 fun h => h).cell, (hk4.cell (p := ⟨g2, off2 + file, none⟩) hg2 fun h => h).trans qs⟩, ?_⟩
          refine sig_eff (o := ⟨some 53, _, _, _, _, _⟩) rfl rfl (fun K hKe => ?_)
          go_wp2_with (first | (at_builtin; refine wl_append rfl _ _ _ _ rfl _ _ rfl rfl ?_) | (at_make; refine wl_make rfl _ _ _ rfl _ _ rfl rfl ?_) | (at_mapUpdate; refine wl_mapUpdate rfl _ _ _ _ rfl _ _ _ rfl rfl rfl ?_) | (at_lookup; refine wl_lookup rfl _ _ _ _ rfl _ _ rfl rfl ?_) | (at_delete; refine wl_delete rfl _ _ _ _ rfl _ _ rfl rfl ?_) | (with_reducible refine wl_len rfl _ _ rfl _ rfl ?_) | (with_reducible refine wl_range rfl _ _ rfl _ rfl ?_) | (with_reducible refine wl_next rfl _ rfl _ rfl ?_) | (with_reducible refine wl_copy rfl _ _ _ _ rfl _ _ rfl rfl ?_) | (with_reducible refine wl_max rfl _ _ _ _ rfl _ _ rfl rfl ?_) | (with_reducible refine wl_min rfl _ _ _ _ rfl _ _ rfl rfl ?_))
          refine (rput_any file (laidB Z at_ b) (hD.no hk4).sure (by have := hf.il; have := hf.ln; have := hsame.sl; show s.sure.length ≤ _; omega) hfl).mono ?_
          rintro e Y ⟨v', rfl, hpt, hk5⟩
          obtain ⟨b7, cc7, e7, _, _⟩ := hpt.fl.shape
          rw [putF, List.length_set] at e7
          replace e7 : v' = .slice b7 s.sure.length cc7 := e7
          subst e7
          have hkY := hk4.trans' hk5
          have hzX := hk4.size
          have q5 := (hkY.cell (p := ⟨g2, off2 + file, none⟩) hg2 fun h => h).trans qs
          replace hB1 := hB1.keep hkY fun h => h
          replace hB3 := hB3.keep hkY fun h => h
          replace hBO := hBO.keep hkY fun h => h
          have hlo := fun j e => (World.ownsRow.lt ho j e).2
          replace ho := ho.no hkY
          replace hD := hD.no hkY
          replace hK := hK.trans' (hkY.mono fun _ _ h => h.elim)
          replace hK2 := hK2.trans' (hkY.mono fun _ _ h => h.elim)
          clear c1 f1 cO qk
          have c1 := hB1.cell
          have f1 := hB1.frozen
          have cO := hBO.cell
          go_wp2_with (first | (at_builtin; refine wl_append rfl _ _ _ _ rfl _ _ rfl rfl ?_) | (at_make; refine wl_make rfl _ _ _ rfl _ _ rfl rfl ?_) | (at_mapUpdate; refine wl_mapUpdate rfl _ _ _ _ rfl _ _ _ rfl rfl rfl ?_) | (at_lookup; refine wl_lookup rfl _ _ _ _ rfl _ _ rfl rfl ?_) | (at_delete; refine wl_delete rfl _ _ _ _ rfl _ _ rfl rfl ?_) | (with_reducible refine wl_len rfl _ _ rfl _ rfl ?_) | (with_reducible refine wl_range rfl _ _ rfl _ rfl ?_) | (with_reducible refine wl_next rfl _ rfl _ rfl ?_) | (with_reducible refine wl_copy rfl _ _ _ _ rfl _ _ rfl rfl ?_) | (with_reducible refine wl_max rfl _ _ _ _ rfl _ _ rfl rfl ?_) | (with_reducible refine wl_min rfl _ _ _ _ rfl _ _ rfl rfl ?_))
          refine ⟨fun _ => ⟨c1, cO, q5⟩, ?_⟩
          refine sig_eff (o := ⟨some 54, _, _, _, _, _⟩) rfl rfl (fun K hKe => ?_)
          go_wp2_with (first | (at_builtin; refine wl_append rfl _ _ _ _ rfl _ _ rfl rfl ?_) | (at_make; refine wl_make rfl _ _ _ rfl _ _ rfl rfl ?_) | (at_mapUpdate; refine wl_mapUpdate rfl _ _ _ _ rfl _ _ _ rfl rfl rfl ?_) | (at_lookup; refine wl_lookup rfl _ _ _ _ rfl _ _ rfl rfl ?_) | (at_delete; refine wl_delete rfl _ _ _ _ rfl _ _ rfl rfl ?_) | (with_reducible refine wl_len rfl _ _ rfl _ rfl ?_) | (with_reducible refine wl_range rfl _ _ rfl _ rfl ?_) | (with_reducible refine wl_next rfl _ rfl _ rfl ?_) | (with_reducible refine wl_copy rfl _ _ _ _ rfl _ _ rfl rfl ?_) | (with_reducible refine wl_max rfl _ _ _ _ rfl _ _ rfl rfl ?_) | (with_reducible refine wl_min rfl _ _ _ _ rfl _ _ rfl rfl ?_))
          refine ⟨fun _ => ⟨c1, cO, q5⟩, ?_⟩
          refine sig_eff (o := ⟨none, _, _, _, _, _⟩) rfl rfl (fun K hKe => ?_)
          go_wp2_with (first | (at_builtin; refine wl_append rfl _ _ _ _ rfl _ _ rfl rfl ?_) | (at_make; refine wl_make rfl _ _ _ rfl _ _ rfl rfl ?_) | (at_mapUpdate; refine wl_mapUpdate rfl _ _ _ _ rfl _ _ _ rfl rfl rfl ?_) | (at_lookup; refine wl_lookup rfl _ _ _ _ rfl _ _ rfl rfl ?_) | (at_delete; refine wl_delete rfl _ _ _ _ rfl _ _ rfl rfl ?_) | (with_reducible refine wl_len rfl _ _ rfl _ rfl ?_) | (with_reducible refine wl_range rfl _ _ rfl _ rfl ?_) | (with_reducible refine wl_next rfl _ rfl _ rfl ?_) | (with_reducible refine wl_copy rfl _ _ _ _ rfl _ _ rfl rfl ?_) | (with_reducible refine wl_max rfl _ _ _ _ rfl _ _ rfl rfl ?_) | (with_reducible refine wl_min rfl _ _ _ _ rfl _ _ rfl rfl ?_))
          refine ⟨fun h => (by cases h), sig_nil ?_⟩
          go_wp2_with (first | (at_builtin; refine wl_append rfl _ _ _ _ rfl _ _ rfl rfl ?_) | (at_make; refine wl_make rfl _ _ _ rfl _ _ rfl rfl ?_) | (at_mapUpdate; refine wl_mapUpdate rfl _ _ _ _ rfl _ _ _ rfl rfl rfl ?_) | (at_lookup; refine wl_lookup rfl _ _ _ _ rfl _ _ rfl rfl ?_) | (at_delete; refine wl_delete rfl _ _ _ _ rfl _ _ rfl rfl ?_) | (with_reducible refine wl_len rfl _ _ rfl _ rfl ?_) | (with_reducible refine wl_range rfl _ _ rfl _ rfl ?_) | (with_reducible refine wl_next rfl _ rfl _ rfl ?_) | (with_reducible refine wl_copy rfl _ _ _ _ rfl _ _ rfl rfl ?_) | (with_reducible refine wl_max rfl _ _ _ _ rfl _ _ rfl rfl ?_) | (with_reducible refine wl_min rfl _ _ _ _ rfl _ _ rfl rfl ?_))
          have hkZ : Keep (fun j => j = w.heap.size) Y (Y.setCell ⟨w.heap.size, 2, none⟩ (.slice b7 s.sure.length cc7)) := Keep.setCell (A := fun j => j = w.heap.size) (Keep.refl _ _) (p := ⟨w.heap.size, 2, none⟩) (fun _ => rfl) _
          have hB1' : Blk (Y.setCell ⟨w.heap.size, 2, none⟩ (.slice b7 s.sure.length cc7)) w.heap.size #[.int .i64 m.room, .slice a1 m.is.length d1, (.slice b7 s.sure.length cc7), .slice a3 m.L.length d3, .slice b4 s.S.length e4, .slice (some ⟨g, off, none⟩) m.wait.length d5, .bool m.off, .int .i64 m.cut] 30 := hB1.set (i := 2) _
          have hD2 := hD.keep hkZ fun j _ ha e => by have e : j = w.heap.size := e; rcases ha.1 with ha | ha <;> omega
          have ho2 := ho.same (w' := Y.setCell ⟨w.heap.size, 2, none⟩ (.slice b7 s.sure.length cc7)) fun g hg => hkZ.block g (World.ownsRow.lt ho g hg).2 fun e => by have := (World.ownsRow.lt ho g hg).1; have e : g = w.heap.size := e; omega
          have hpt2 := hpt.fl.keep hkZ fun j _ ha e => by have e : j = w.heap.size := e; have := ha.1; omega
          have hlen : (putF s.sure file (laidB Z at_ b)).length = s.sure.length := by simp [putF]
          go_roundw
          case rel =>
            refine ⟨k + 1, b7, cc7, b4, e4, by go_num, by omega, ?_, hB3.keep hkZ (fun e => by have e : w.heap.size + 1 = w.heap.size := e; omega), ?_, ?_, hK.trans' (hkZ.mono fun j _ e => by have e : j = w.heap.size := e; show w.heap.size ≤ j; omega), hK2.trans' (hkZ.mono fun j _ e => .inl e)⟩
            · rw [HE.out]; simp only [hlen]; exact hB1'
            · rw [HE.out]; exact ho2
            · rw [HE.out]
              simp only [hlen]
              refine ⟨hD2.is, ?_, hD2.L, hD2.S, Fl.nil⟩
              refine Fl.mono (A := fun j => Y1.heap.size ≤ j ∧ j < Y.heap.size) ?_ fun j _ ha => ⟨.inr (by have := ha.1; omega), fun e => by have := hlo j e.symm; have := ha.1; omega⟩
              exact hpt2
          case measure => simp [intOf]; omega
        · have b1 : ((kind : Int) == 1) = false := by simp; omega
          have HE : Hid (st sel m (k + 1) = { s with S := namesOp s.S ⟨kind, file, at_, b, frm, to⟩ }) := Lib.hid (by rw [HST.out]; simp only [settle1, hsk, if_neg hkd]; rfl)
          clear HST hsk
          go_wp2_with (first | (at_builtin; refine wl_append rfl _ _ _ _ rfl _ _ rfl rfl ?_) | (at_make; refine wl_make rfl _ _ _ rfl _ _ rfl rfl ?_) | (at_mapUpdate; refine wl_mapUpdate rfl _ _ _ _ rfl _ _ _ rfl rfl rfl ?_) | (at_lookup; refine wl_lookup rfl _ _ _ _ rfl _ _ rfl rfl ?_) | (at_delete; refine wl_delete rfl _ _ _ _ rfl _ _ rfl rfl ?_) | (with_reducible refine wl_len rfl _ _ rfl _ rfl ?_) | (with_reducible refine wl_range rfl _ _ rfl _ rfl ?_) | (with_reducible refine wl_next rfl _ rfl _ rfl ?_) | (with_reducible refine wl_copy rfl _ _ _ _ rfl _ _ rfl rfl ?_) | (with_reducible refine wl_max rfl _ _ _ _ rfl _ _ rfl rfl ?_) | (with_reducible refine wl_min rfl _ _ _ _ rfl _ _ rfl rfl ?_))
          refine (rnames_any ⟨kind, file, at_, b, frm, to⟩ hD.S (Nat.le_trans hsSl (by decide))).mono ?_
          rintro e Y ⟨v', rfl, hnm, hkY⟩
          obtain ⟨b7, cc7, rfl, _, _⟩ := hnm.shape
          have hzX := hkY.size
          replace hB1 := hB1.keep hkY fun h => h
          replace hB3 := hB3.keep hkY fun h => h
          have hlo := fun j e => (World.ownsRow.lt ho j e).2
          replace ho := ho.no hkY
          replace hD := hD.no hkY
          replace hK := hK.trans' (hkY.mono fun _ _ h => h.elim)
          replace hK2 := hK2.trans' (hkY.mono fun _ _ h => h.elim)
          clear c1 f1 cO qk
          have c1 := hB1.cell
          have f1 := hB1.frozen
          go_wp2_with (first | (at_builtin; refine wl_append rfl _ _ _ _ rfl _ _ rfl rfl ?_) | (at_make; refine wl_make rfl _ _ _ rfl _ _ rfl rfl ?_) | (at_mapUpdate; refine wl_mapUpdate rfl _ _ _ _ rfl _ _ _ rfl rfl rfl ?_) | (at_lookup; refine wl_lookup rfl _ _ _ _ rfl _ _ rfl rfl ?_) | (at_delete; refine wl_delete rfl _ _ _ _ rfl _ _ rfl rfl ?_) | (with_reducible refine wl_len rfl _ _ rfl _ rfl ?_) | (with_reducible refine wl_range rfl _ _ rfl _ rfl ?_) | (with_reducible refine wl_next rfl _ rfl _ rfl ?_) | (with_reducible refine wl_copy rfl _ _ _ _ rfl _ _ rfl rfl ?_) | (with_reducible refine wl_max rfl _ _ _ _ rfl _ _ rfl rfl ?_) | (with_reducible refine wl_min rfl _ _ _ _ rfl _ _ rfl rfl ?_))
          have hkZ : Keep (fun j => j = w.heap.size) Y (Y.setCell ⟨w.heap.size, 4, none⟩ (.slice b7 (namesOp s.S ⟨kind, file, at_, b, frm, to⟩).length cc7)) := Keep.setCell (A := fun j => j = w.heap.size) (Keep.refl _ _) (p := ⟨w.heap.size, 4, none⟩) (fun _ => rfl) _
          have hB1' : Blk (Y.setCell ⟨w.heap.size, 4, none⟩ (.slice b7 (namesOp s.S ⟨kind, file, at_, b, frm, to⟩).length cc7)) w.heap.size #[.int .i64 m.room, .slice a1 m.is.length d1, .slice b2 s.sure.length e2, .slice a3 m.L.length d3, (.slice b7 (namesOp s.S ⟨kind, file, at_, b, frm, to⟩).length cc7), .slice (some ⟨g, off, none⟩) m.wait.length d5, .bool m.off, .int .i64 m.cut] 30 := hB1.set (i := 4) _
          have hD2 := hD.keep hkZ fun j _ ha e => by have e : j = w.heap.size := e; rcases ha.1 with ha | ha <;> omega
          have ho2 := ho.same (w' := Y.setCell ⟨w.heap.size, 4, none⟩ (.slice b7 (namesOp s.S ⟨kind, file, at_, b, frm, to⟩).length cc7)) fun g hg => hkZ.block g (World.ownsRow.lt ho g hg).2 fun e => by have := (World.ownsRow.lt ho g hg).1; have e : g = w.heap.size := e; omega
          have hnm2 := hnm.keep hkZ fun j _ ha e => by
            have e : j = w.heap.size := e
            rcases ha with ha | ha
            · rcases ha.1 with ha | ha <;> omega
            · have := ha.1; omega
          go_roundw
          case rel =>
            refine ⟨k + 1, b2, e2, b7, cc7, by go_num, by omega, ?_, hB3.keep hkZ (fun e => by have e : w.heap.size + 1 = w.heap.size := e; omega), ?_, ?_, hK.trans' (hkZ.mono fun j _ e => by have e : j = w.heap.size := e; show w.heap.size ≤ j; omega), hK2.trans' (hkZ.mono fun j _ e => .inl e)⟩
            · rw [HE.out]; exact hB1'
            · rw [HE.out]; exact ho2
            · rw [HE.out]
              refine ⟨hD2.is, hD2.sure, hD2.L, hnm2.mono fun j _ ha => ?_, Fl.nil⟩
              rcases ha with ha | ha
              · exact ha
              · exact ⟨.inr (by have := ha.1; omega), fun e => by have := hlo j e.symm; have := ha.1; omega⟩
          case measure => simp [intOf]; omega
    · obtain rfl : k = m.wait.length := by omega
      obtain ⟨a6, d6, rfl, _, _⟩ := ho.fl.shape
      have c1 := hB1.cell
      have f1 := hB1.frozen
      generalize st sel m m.wait.length = s at *
      go_wp2_with (first | (at_builtin; refine wl_append rfl _ _ _ _ rfl _ _ rfl rfl ?_) | (at_make; refine wl_make rfl _ _ _ rfl _ _ rfl rfl ?_) | (at_mapUpdate; refine wl_mapUpdate rfl _ _ _ _ rfl _ _ _ rfl rfl rfl ?_) | (at_lookup; refine wl_lookup rfl _ _ _ _ rfl _ _ rfl rfl ?_) | (at_delete; refine wl_delete rfl _ _ _ _ rfl _ _ rfl rfl ?_) | (with_reducible refine wl_len rfl _ _ rfl _ rfl ?_) | (with_reducible refine wl_range rfl _ _ rfl _ rfl ?_) | (with_reducible refine wl_next rfl _ rfl _ rfl ?_) | (with_reducible refine wl_copy rfl _ _ _ _ rfl _ _ rfl rfl ?_) | (with_reducible refine wl_max rfl _ _ _ _ rfl _ _ rfl rfl ?_) | (with_reducible refine wl_min rfl _ _ _ _ rfl _ _ rfl rfl ?_) | (with_reducible refine wl_stAgg rfl _ _ _ rfl _ _ rfl rfl ?_))
      have hkZ : Keep (fun j => w.heap.size ≤ j ∧ j < w.heap.size + 2) wr (wr.setCell ⟨w.heap.size, 5, none⟩ (.slice a6 s.wait.length d6)) := Keep.setCell (A := fun j => w.heap.size ≤ j ∧ j < w.heap.size + 2) (Keep.refl _ _) (p := ⟨w.heap.size, 5, none⟩) (fun _ => ⟨Nat.le_refl _, Nat.lt_add_of_pos_right (by decide)⟩) _
      refine rg_stAgg (hB3.set_other (a := ⟨w.heap.size, 5, none⟩) (by show w.heap.size + 1 ≠ w.heap.size; omega) (.slice a6 s.wait.length d6)) (by kernel_rfl) (by rfl) (by simp [Value.oneCell']) ?_
      intro Y hBY hkY _
      go_wp2_with (first | (at_builtin; refine wl_append rfl _ _ _ _ rfl _ _ rfl rfl ?_) | (at_make; refine wl_make rfl _ _ _ rfl _ _ rfl rfl ?_) | (at_mapUpdate; refine wl_mapUpdate rfl _ _ _ _ rfl _ _ _ rfl rfl rfl ?_) | (at_lookup; refine wl_lookup rfl _ _ _ _ rfl _ _ rfl rfl ?_) | (at_delete; refine wl_delete rfl _ _ _ _ rfl _ _ rfl rfl ?_) | (with_reducible refine wl_len rfl _ _ rfl _ rfl ?_) | (with_reducible refine wl_range rfl _ _ rfl _ rfl ?_) | (with_reducible refine wl_next rfl _ rfl _ rfl ?_) | (with_reducible refine wl_copy rfl _ _ _ _ rfl _ _ rfl rfl ?_) | (with_reducible refine wl_max rfl _ _ _ _ rfl _ _ rfl rfl ?_) | (with_reducible refine wl_min rfl _ _ _ _ rfl _ _ rfl rfl ?_) | (with_reducible refine wl_stAgg rfl _ _ _ rfl _ _ rfl rfl ?_))
      refine ret_blk rfl rfl hBY Tryz.underlying30 rfl (by kernel_rfl) rfl ?_
      have hfin := RetD.fin 2 (A := A) (w := w) (x := wr) (Y := Y) (u1 := .slice a1 m.is.length d1) (u2 := .slice b2 s.sure.length e2) (u3 := .slice a3 m.L.length d3) (u4 := .slice b4 s.S.length e4) (u5 := (.slice a6 s.wait.length d6)) (m := s) (hK.mono fun j hj h => absurd h (Nat.not_le.2 hj)) ⟨hD.is.mono fun j _ ha => ha.1, hD.sure.mono fun j _ ha => ha.1, hD.L.mono fun j _ ha => ha.1, hD.S.mono fun j _ ha => ha.1, ho.fl.mono fun j _ ha => .inr (by have := ha.1; omega)⟩ (hkZ.trans hkY fun j _ e => ⟨by have e : j = w.heap.size + 1 := e; omega, by have e : j = w.heap.size + 1 := e; omega⟩)
      unfold dv at hfin
      rw [hsame.room, hsame.off, hsame.cut] at hfin
      exact hfin
end Go.Proofs.YtkmoomgmmhmaeaaGreat
