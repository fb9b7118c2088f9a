/- Pages, of up to twelve. How a ledger lies in memory (LRep); the module of an address; a module's span; a word's tag, and marking. How a ledger lies in memory (LRep); a word's tag, and marking; a module's span. A processor's step: that the two ways of reckoning make the same (plain numbers). No condition. -/
import Derived.Test.YthfekjnekaecaaaDoorSortK
import Derived.Test.YthfekjnekaecaaaDoorVmG
import Derived.Test.YthfekjnekaecaaaDoorCpuM
import Derived.Laws.BitsAllLaws
set_option linter.unusedVariables false
set_option linter.unusedSimpArgs false
namespace Go.Proofs.YthfekjnekaecaaaDoor
open Go.RowKit Go.Dm Go.Dm.Vm Go.Maps Go.Dm.Oc Go.WideMaps Go.WideElems

/-- a page as it is told; its bytes lie in block g addr, from 4 on -/
def encP (g : Nat → Nat) (p : Pg) : List Value := [.int .u64 (p.addr : Int), .int .i64 (p.prot : Int), .bool p.dirty, .string ⟨p.file.toArray⟩, .int .u64 (p.off : Int), .slice (some ⟨g p.addr, 4, none⟩) 256 256]
structure PgsV (base : Nat) (w : World) (v : Value) (m : V) (g : Nat → Nat) : Prop where
  row : FlO w base 101 6 (encP g) v m
  pg : ∀ p ∈ m, base ≤ g p.addr ∧ Blk w (g p.addr) (pgC p) 125
theorem PgsV.no {base : Nat} {w w' : World} {v : Value} {m : V} {g : Nat → Nat} (h : PgsV base w v m g) (hk : Keep No w w') : PgsV base w' v m g :=
  ⟨h.row.no hk, fun p hp => ⟨(h.pg p hp).1, (h.pg p hp).2.keep hk fun h => h⟩⟩
theorem PgsV.base_le {base b2 : Nat} {w : World} {v : Value} {m : V} {g : Nat → Nat} (h : PgsV base w v m g) (hb : b2 ≤ base) : PgsV b2 w v m g :=
  ⟨World.ownsRow.base_le h.row hb, fun p hp => ⟨Nat.le_trans hb (h.pg p hp).1, (h.pg p hp).2⟩⟩
theorem encP_len (g : Nat → Nat) (p : Pg) : (encP g p).length = 6 := rfl
theorem encP_one (g : Nat → Nat) (p : Pg) : ∀ u ∈ encP g p, u.oneCell' = true := by
  intro u hu
  simp only [encP, List.mem_cons, List.not_mem_nil, or_false] at hu
  rcases hu with rfl | rfl | rfl | rfl | rfl | rfl <;> rfl
theorem pgT_info : (Tryd.prog.info? 101).map (fun i => (i.zero, i.size, i.bytes)) = some (some (.agg #[.int .u64 0, .int .i64 0, .bool false, .string ⟨#[]⟩, .int .u64 0, .slice none 0 0]), 6, 72) := by kernel_rfl
section
variable {A : Nat → Prop} {w : World} {d mb x y z u v : Nat} {f : Nat → Nat} {m : V}
set_option maxRecDepth 100000 in
set_option maxHeartbeats 4000000 in
theorem vpages_of (h : SRep A w d m mb f) (hA : ∀ k, A k → k < w.heap.size) (hlen : m.length ≤ 512)
    (hS : ∀ (Bm : Nat) (W : World), Bm < W.heap.size → W.cell? ⟨Bm, 0, none⟩ = some (.map (some mb)) → MapL Tryd.prog 22 W mb (VL f m) → Calls Tryd.prog 30 #[.func (.func 72) #[] #[.pointer (some ⟨Bm, 0, none⟩)]] W fun e W' => ∃ v : Value, e = .returned v ∧ W'.ownsRow W.heap.size 22 1 v m.length ((addrs m).map uv) ∧ Keep No W W') :
    Calls Tryd.prog 43 #[ptrTo d] w fun e w' => ∃ v g, e = .returned v ∧ PgsV w.heap.size w' v m g ∧ Keep No w w' := by
  have hsrt : (addrs m).Pairwise (· < ·) := by unfold addrs; rw [List.pairwise_map]; exact h.ok.srt
  have qd : w.cell? ⟨d, 0, none⟩ = some (.map (some mb)) := h.blk.cell 0
  have HS := Lib.hid hS
  clear hS
  unfold ptrTo
  go_enter Tryd.func43, Tryd.ntmps43
  go_wp2_with fail
  refine (keysU_any mb _).mono ?_
  rintro e W0 ⟨rfl, rfl⟩
  have hm1 := h.mp.same (w' := w.alloc (.cells #[.map (some mb)] 118)) (Below.heap_alloc _ _ _ h.mp.lt)
  have hk1 : Keep No w (w.alloc (.cells #[.map (some mb)] 118)) := (Keep.refl _ _).alloc _
  have hc1 : (w.alloc (.cells #[.map (some mb)] 118)).cell? ⟨w.heap.size, 0, none⟩ = some (.map (some mb)) := (Blk.new w _ _).cell 0
  have hs1 : (w.alloc (.cells #[.map (some mb)] 118)).heap.size = w.heap.size + 1 := World.size_alloc _ _
  generalize w.alloc (.cells #[.map (some mb)] 118) = W1 at *
  have hso := HS.out w.heap.size W1 (by omega) hc1 hm1
  clear hc1 hm1
  go_wp2_with fail
  refine hso.mono ?_
  rintro e W2 ⟨kv, rfl, ho, hk2⟩
  clear hso
  have hkw := hk1.trans' hk2
  have hbase : w.heap.size ≤ W1.heap.size := by omega
  clear hk1 hk2 hs1
  obtain ⟨a2, c2, rfl⟩ := own_shape ho
  have hal : (addrs m).length = m.length := by simp [addrs]
  have hkey : ∀ i (hi : i < m.length), ∃ g0, a2 = some ⟨g0, 0, none⟩ ∧ W2.cell? ⟨g0, i, none⟩ = some (.int .u64 (m[i].addr : Int)) ∧ w.heap.size ≤ g0 ∧ g0 < W2.heap.size := fun i hi => by
    rcases ho.2 with ⟨_, e0⟩ | ⟨g0, cap, cur, e, hb, _⟩
    · omega
    · cases e
      refine ⟨g0, rfl, ?_, by omega, (ho.lt g0 rfl).2⟩
      rw [ho.cellAt i (by omega), List.getElem?_map]
      unfold addrs
      rw [List.getElem?_map, List.getElem?_eq_getElem hi]
      rfl
  clear ho hsrt
  go_wp2_with fail
  go_loopw [3, 16] (fun ov iv wr => ∃ (i : Nat) (g : Nat → Nat), iv = .int .i64 i ∧ i ≤ m.length ∧ PgsV W2.heap.size wr ov (m.take i) g ∧ Keep No W2 wr) (fun _ iv _ => m.length - (intOf iv).toNat)
  case atStart => exact ⟨0, fun _ => 0, rfl, Nat.zero_le _, ⟨FlO.nil, fun p hp => (by simp at hp)⟩, Keep.refl _ _⟩
  case round =>
    obtain ⟨i, g, rfl, hi, hP, hk⟩ := hrel
    obtain ⟨ao, co, rfl, _, _⟩ := hP.row.fl.shape
    have hil : (m.take i).length = i := by rw [List.length_take]; omega
    rw [hil] at hP ⊢
    rcases Nat.lt_or_ge i m.length with hlt | hge
    · obtain ⟨g0, rfl, hkc, hg0, hgl⟩ := hkey i hlt
      have hkw2 := hkw.trans' hk
      have qd' : wr.cell? ⟨d, 0, none⟩ = some (.map (some mb)) := (hkw2.cell (p := ⟨d, 0, none⟩) h.blk.lt fun h => h).trans qd
      have qk : wr.cell? ⟨g0, i, none⟩ = some (.int .u64 (m[i].addr : Int)) := (hk.cell (p := ⟨g0, i, none⟩) hgl fun h => h).trans hkc
      have hS := h.no hA hkw2
      have hpm : m[i] ∈ m := List.getElem_mem hlt
      have hat := get_of_mem h.ok.srt hpm
      have hpok := h.ok.pg _ hpm
      have hlk := hS.lk (by have := hpok.lt; unfold top at this; omega) hat wr rfl
      have hBp := (hS.pg _ hpm).2
      have htk : m.take (i + 1) = m.take i ++ [m[i]] := List.take_succ_eq_append_getElem hlt
      have hne : ∀ q ∈ m.take i, q.addr ≠ m[i].addr := fun q hq e => by
        obtain ⟨j, hj, rfl⟩ := List.getElem_of_mem hq
        rw [List.getElem_take] at e
        have hj2 : j < i := by rw [hil] at hj; exact hj
        have := List.pairwise_iff_getElem.1 h.ok.srt j i (by omega) hlt hj2
        omega
      generalize m[i] = p at *
      have hltz : (i : Int) < (m.length : Int) := by omega
      have h1 := pgC_one p
      have hsz := pgC_size hpok.bl
      generalize hC : pgC p = C at *
      have hi2 : (Tryd.prog.info? 125).map (·.size) = some C.size := by rw [hsz]; kernel_rfl
      have hz0 : Tryd.zeroCells125.size = C.size := by rw [hsz]; kernel_rfl
      have HC := Lib.hid hC
      clear hC
      have HO := Lib.hid hpok
      clear hpok
      generalize f p.addr = gp at *
      go_wp2_with (at_lookup; refine wl_lookup rfl _ _ _ _ rfl _ _ rfl rfl ?_)
      refine .mk hlk ?_
      go_wp2_with (with_reducible refine wl_ld rfl _ 125 rfl _ rfl ?_)
      refine rg_ld hBp Tryd.underlying125 rfl hi2 ?_
      go_wp2_with (with_reducible refine wl_stAgg rfl _ _ _ rfl _ _ rfl rfl ?_)
      refine rg_stAgg (Blk.new wr _ _) hi2 hz0 h1 ?_
      intro w2 hb2 hk2 hs2
      have hka : Keep No wr (wr.alloc (.cells Tryd.zeroCells125 125)) := (Keep.refl _ _).alloc _
      have hk2' : Keep No wr w2 := hka.trans hk2 fun j hj e => by have e2 : j = wr.heap.size := e; omega
      have hsz2 : wr.heap.size < w2.heap.size := hb2.lt
      clear hk2 hs2 hka hlk hBp
      have hP2 : PgsV W2.heap.size w2 (.slice ao i co) (m.take i) g := hP.no hk2'
      have hkN := hk.trans' hk2'
      clear hP qk qd' hS hkw2 hkc hkey qd
      have hC := HC.out
      subst hC
      have b0 : w2.cell? ⟨wr.heap.size, 0, none⟩ = some (.int .i64 (p.prot : Int)) := hb2.cell 0
      have b1 : w2.cell? ⟨wr.heap.size, 1, none⟩ = some (.bool p.dirty) := hb2.cell 1
      have b2 : w2.cell? ⟨wr.heap.size, 2, none⟩ = some (.string ⟨p.file.toArray⟩) := hb2.cell 2
      have b3 : w2.cell? ⟨wr.heap.size, 3, none⟩ = some (.int .u64 (p.off : Int)) := hb2.cell 3
      have hwl : W2.heap.size ≤ wr.heap.size := hk.size
      have hw2l : W2.heap.size ≤ w2.heap.size := Nat.le_trans hwl hk2'.size
      clear h1 hsz hi2 hz0 HC hk hk2'
      have HB := Lib.hid hb2
      clear hb2
      generalize hnb : wr.heap.size = nb at *
      clear hnb
      go_wp2_with fail
      refine wp_region_sig (fun w' => w'.cell? ⟨nb, 0, none⟩ = some (.int .i64 (p.prot : Int)) ∧ w'.cell? ⟨nb, 1, none⟩ = some (.bool p.dirty) ∧ w'.cell? ⟨nb, 2, none⟩ = some (.string ⟨p.file.toArray⟩) ∧ w'.cell? ⟨nb, 3, none⟩ = some (.int .u64 (p.off : Int))) (fun j => decide (j ≤ 13)) [(0, true), (1, true), (2, true), (3, true), (4, true), (5, true), (6, true), (7, true), (8, true), (9, true), (10, true), (11, true), (12, true), (13, false), (14, false), (15, false)] (by kernel_rfl) (by kernel_rfl) (by intro c a d v w h; cases d <;> exact h) ⟨b0, b1, b2, b3⟩ ?_
      apply sig_still (o := ⟨some 28, _, _, _, _, _⟩) rfl rfl
      · intro w' hS
        obtain ⟨q1, q2, q3, q4⟩ := hS
        first | (go_simp; done) | (go_simp; rfl) | rfl
      go_frame
      apply sig_still (o := ⟨some 29, _, _, _, _, _⟩) rfl rfl
      · intro w' hS
        obtain ⟨q1, q2, q3, q4⟩ := hS
        first | (go_simp; done) | (go_simp; rfl) | rfl
      go_frame
      apply sig_still (o := ⟨some 30, _, _, _, _, _⟩) rfl rfl
      · intro w' hS
        obtain ⟨q1, q2, q3, q4⟩ := hS
        first | (go_simp; done) | (go_simp; rfl) | rfl
      go_frame
      apply sig_still (o := ⟨some 31, _, _, _, _, _⟩) rfl rfl
      · intro w' hS
        obtain ⟨q1, q2, q3, q4⟩ := hS
        first | (go_simp; done) | (go_simp; rfl) | rfl
      go_frame
      apply sig_still (o := ⟨some 32, _, _, _, _, _⟩) rfl rfl
      · intro w' hS
        obtain ⟨q1, q2, q3, q4⟩ := hS
        first | (go_simp; done) | (go_simp; rfl) | rfl
      go_frame
      apply sig_still (o := ⟨some 33, _, _, _, _, _⟩) rfl rfl
      · intro w' hS
        obtain ⟨q1, q2, q3, q4⟩ := hS
        first | (go_simp; done) | (go_simp; rfl) | rfl
      go_frame
      apply sig_still (o := ⟨some 34, _, _, _, _, _⟩) rfl rfl
      · intro w' hS
        obtain ⟨q1, q2, q3, q4⟩ := hS
        first | (go_simp; done) | (go_simp; rfl) | rfl
      go_frame
      apply sig_still (o := ⟨some 35, _, _, _, _, _⟩) rfl rfl
      · intro w' hS
        obtain ⟨q1, q2, q3, q4⟩ := hS
        first | (go_simp; done) | (go_simp; rfl) | rfl
      go_frame
      apply sig_still (o := ⟨some 36, _, _, _, _, _⟩) rfl rfl
      · intro w' hS
        obtain ⟨q1, q2, q3, q4⟩ := hS
        first | (go_simp; done) | (go_simp; rfl) | rfl
      go_frame
      apply sig_still (o := ⟨some 37, _, _, _, _, _⟩) rfl rfl
      · intro w' hS
        obtain ⟨q1, q2, q3, q4⟩ := hS
        first | (go_simp; done) | (go_simp; rfl) | rfl
      go_frame
      apply sig_still (o := ⟨some 38, _, _, _, _, _⟩) rfl rfl
      · intro w' hS
        obtain ⟨q1, q2, q3, q4⟩ := hS
        first | (go_simp; done) | (go_simp; rfl) | rfl
      go_frame
      apply sig_still (o := ⟨some 39, _, _, _, _, _⟩) rfl rfl
      · intro w' hS
        obtain ⟨q1, q2, q3, q4⟩ := hS
        first | (go_simp; done) | (go_simp; rfl) | rfl
      go_frame
      apply sig_still (o := ⟨some 40, _, _, _, _, _⟩) rfl rfl
      · intro w' hS
        obtain ⟨q1, q2, q3, q4⟩ := hS
        first | (go_simp; done) | (go_simp; rfl) | rfl
      go_frame
      refine sig_eff (o := ⟨some 41, _, _, _, _, _⟩) rfl rfl (fun K hKe => ?_)
      go_wp2_with fail
      have hwd : (w2.alloc (.cells #[.int .u64 (p.addr : Int), .int .i64 (p.prot : Int), .bool p.dirty, .string ⟨p.file.toArray⟩, .int .u64 (p.off : Int), .slice (some ⟨nb, 4, none⟩) 256 256] 101)).drew = w2.drew.alloc (.cells #[.int .u64 (p.addr : Int), .int .i64 (p.prot : Int), .bool p.dirty, .string ⟨p.file.toArray⟩, .int .u64 (p.off : Int), .slice (some ⟨nb, 4, none⟩) 256 256] 101) := rfl
      rw [hwd]
      clear hwd
      have hkd : Keep No w2 (w2.drew.alloc (.cells #[.int .u64 (p.addr : Int), .int .i64 (p.prot : Int), .bool p.dirty, .string ⟨p.file.toArray⟩, .int .u64 (p.off : Int), .slice (some ⟨nb, 4, none⟩) 256 256] 101)) := ((Keep.refl No w2).drew).alloc _
      refine ⟨fun _ => ⟨(hkd.cell (p := ⟨nb, 0, none⟩) hsz2 fun h => h).trans b0, (hkd.cell (p := ⟨nb, 1, none⟩) hsz2 fun h => h).trans b1, (hkd.cell (p := ⟨nb, 2, none⟩) hsz2 fun h => h).trans b2, (hkd.cell (p := ⟨nb, 3, none⟩) hsz2 fun h => h).trans b3⟩, ?_⟩
      clear b0 b1 b2 b3
      refine sig_eff (o := ⟨some 42, _, _, _, _, _⟩) rfl rfl (fun K hKe => ?_)
      refine wo_append _ _ _ _ rfl _ _ rfl rfl ?_
      have hrow : FlO w2.drew W2.heap.size 101 6 (encP fun a => if a = p.addr then nb else g a) (.slice ao i co) (m.take i) := by
        have h1 := hP2.row.no (Keep.refl No w2).drew
        unfold FlO at h1 ⊢
        have e : (m.take i).flatMap (encP fun a => if a = p.addr then nb else g a) = (m.take i).flatMap (encP g) := by
          rw [List.flatMap_def, List.flatMap_def]
          congr 1
          apply List.map_congr_left
          intro q hq
          simp only [encP, if_neg (hne q hq)]
        rw [e]
        exact h1
      refine rg_push (w := w2.drew) _ 72 Tryd.underlying98 pgT_info rfl (by decide) (enc := encP fun a => if a = p.addr then nb else g a) (x := p) (by simp [encP]) rfl (encP_one _ _) hrow (by rw [hil]; omega) (by decide) (by exact hw2l) ?_
      intro v' w3 ho3 hk3 _
      have hk3' : Keep No W2 w3 := (hkN.trans' (Keep.refl No w2).drew).own hrow hk3
      have hnbr : ∀ j, some j = (Value.slice ao i co).ownBlock → ∀ C, Blk w2 j C 125 → False := fun j hj C hB => by
        have h1 := hP2.row.2
        rcases h1 with ⟨e, _⟩ | ⟨g1, cap1, cur1, e, _, hB1, _⟩
        · rw [e] at hj; cases hj
        · rw [e] at hj
          simp only [Value.ownBlock, Option.some.injEq] at hj
          have hB' : w2.heap[j]? = some (Obj.cells C 125 (0, 0)) := hB
          rw [← hj, hB'] at hB1
          simp at hB1
      have hP3 : PgsV W2.heap.size w3 v' (m.take (i + 1)) (fun a => if a = p.addr then nb else g a) := by
        refine ⟨by rw [htk]; exact ho3, fun q hq => ?_⟩
        rw [htk, List.mem_append, List.mem_singleton] at hq
        have hkd2 : ∀ j C, Blk w2 j C 125 → Blk w3 j C 125 := fun j C hB => (hB.keep (Keep.refl No w2).drew fun h => h).keep hk3 fun e => hnbr j e C hB
        rcases hq with hq | rfl
        · simp only [if_neg (hne q hq)]
          exact ⟨(hP2.pg q hq).1, hkd2 _ _ (hP2.pg q hq).2⟩
        · simp only [if_true]
          exact ⟨hwl, hkd2 _ _ HB.out⟩
      clear hnbr hrow hkd hkN hP2 ho3 hk3
      refine hKe _ _ ⟨fun h => by simp at h, ?_⟩
      obtain ⟨ao2, co2, rfl, _, _⟩ := hP3.row.fl.shape
      have htl : (m.take (i + 1)).length = i + 1 := by rw [List.length_take]; omega
      rw [htl] at hP3 ⊢
      refine sig_eff (o := ⟨some 3, _, _, _, _, _⟩) rfl rfl (fun K hKe => ?_)
      go_wp2_with fail
      refine ⟨fun h => by simp at h, sig_nil ?_⟩
      go_wp2_with fail
      go_roundw
      case rel => exact ⟨i + 1, _, by go_num, hlt, hP3, hk3'⟩
      case measure => simp [intOf]; omega
    · obtain rfl : i = m.length := Nat.le_antisymm hi hge
      rw [List.take_length] at hP
      go_wp2_with fail
      go_ret
      exact ⟨_, g, rfl, hP.base_le hkw.size, hkw.trans' hk⟩
theorem vpages_any (h : SRep A w d m mb f) (hA : ∀ k, A k → k < w.heap.size) (hlen : m.length ≤ 12) :
    Calls Tryd.prog 43 #[ptrTo d] w fun e w' => ∃ v g, e = .returned v ∧ PgsV w.heap.size w' v m g ∧ Keep No w w' := by
  have hsrt : (addrs m).Pairwise (· < ·) := by unfold addrs; rw [List.pairwise_map]; exact h.ok.srt
  exact vpages_of h hA (by omega) fun Bm W h1 h2 h3 => sortedU_any Bm hsrt W h1 h2 h3 hlen
end
end Go.Proofs.YthfekjnekaecaaaDoor
namespace Go.Proofs.YthfekjnekaecaaaDoor
open Go.RowKit Go.Dm Go.Dm.Vm Go.Dm.Cp Go.Dm.Tg Go.Maps
def encMd (m : Md) : List Value := [.string ⟨m.name.toArray⟩, .int .u64 (m.base : Int), .int .u64 (m.low : Int), .int .u64 (m.high : Int), .bool m.tls, .int .u64 (m.off : Int), .int .u64 (m.mem : Int)]
theorem encMd_len (m : Md) : (encMd m).length = 7 := rfl
theorem encMd_one (m : Md) : ∀ u ∈ encMd m, u.oneCell' = true := by
  intro u hu
  simp only [encMd, List.mem_cons, List.not_mem_nil, or_false] at hu
  rcases hu with rfl | rfl | rfl | rfl | rfl | rfl | rfl <;> rfl
theorem modT_info : (Tryd.prog.info? 66).map (fun i => (i.zero, i.size, i.bytes)) = some (some (.agg #[.string ⟨#[]⟩, .int .u64 0, .int .u64 0, .int .u64 0, .bool false, .int .u64 0, .int .u64 0]), 7, 64) := by kernel_rfl
section
variable {w : World}
set_option maxRecDepth 100000 in
set_option maxHeartbeats 1000000 in
theorem lof1_any (m : Md) (a q : Nat) (hq : w.cell? ⟨q, 0, none⟩ = some (.int .u64 (a : Int))) (hql : q < w.heap.size) :
    Calls Tryd.prog 45 #[.agg (encMd m).toArray, .pointer (some ⟨q, 0, none⟩)] w fun e w' => e = .returned (.bool (inM a m)) ∧ Keep No w w' := by
  obtain ⟨nm, ba, lo, hi, tl, of_, me⟩ := m
  have hin : inM a ⟨nm, ba, lo, hi, tl, of_, me⟩ = (decide (lo ≤ a) && decide (a < hi)) := rfl
  rw [hin]
  clear hin
  unfold encMd
  have hne : q ≠ w.heap.size := Nat.ne_of_lt hql
  go_enter Tryd.func45, Tryd.ntmps45
  go_wp2_with fail
  all_goals
    go_ret
    refine ⟨congrArg (fun b => Ending.returned (Value.bool b)) ?_, (Keep.refl _ _).alloc _⟩
    rw [Bool.eq_iff_iff]
    simp only [Bool.and_eq_true, decide_eq_true_eq, Bool.false_eq_true, false_iff]
    omega
set_option maxRecDepth 100000 in
set_option maxHeartbeats 4000000 in
theorem idxmod_any {A : Nat → Prop} {v : Value} (l : List Md) (a q : Nat) (hl : Fl A w 7 encMd v l) (hq : w.cell? ⟨q, 0, none⟩ = some (.int .u64 (a : Int))) (hql : q < w.heap.size) :
    Calls Tryd.prog 44 #[v, .func (.func 45) #[] #[.pointer (some ⟨q, 0, none⟩)]] w fun e w' => e = .returned (.int .i64 (ofM l a)) ∧ Keep No w w' := by
  have hent : ∀ a, Enters 45 (#[a] ++ #[.pointer (some ⟨q, 0, none⟩)]) := fun a w => by kernel_rfl
  unfold Enters at hent
  have HL := Lib.hid hl
  have HQ := Lib.hid hq
  obtain ⟨ao, co, rfl, hc1, hc2⟩ := hl.shape
  have hlen : l.length ≤ 9223372036854775807 := by unfold maxLen at hc2; omega
  clear hl hq hc1 hc2
  go_enter Tryd.func44, Tryd.ntmps44
  go_wp2_with fail
  go_loopw [5, 8] (fun _ iv wr => ∃ i : Nat, iv = .int .i64 i ∧ i ≤ l.length ∧ (∀ j, j < i → ∀ x, l[j]? = some x → inM a x = false) ∧ Keep No w wr) (fun _ iv _ => l.length - (intOf iv).toNat)
  case atStart => exact ⟨0, rfl, Nat.zero_le _, (fun j hj => absurd hj (Nat.not_lt_zero _)), Keep.refl _ _⟩
  case round =>
    obtain ⟨i, rfl, hi, hno, hk⟩ := hrel
    generalize wr = wz at *
    rcases Nat.lt_or_ge i l.length with hlt | hge
    · obtain ⟨g, off, cap, ev, _, _, _, _, hc⟩ := (HL.out.no hk).at encMd_len hlt
      cases ev
      have hiz : (i : Int) < (l.length : Int) := by omega
      have hcall := lof1_any (w := wz) l[i] a q ((hk.cell (p := ⟨q, 0, none⟩) hql fun h => h).trans HQ.out) (Nat.lt_of_lt_of_le hql hk.size)
      have hfin : inM a l[i] = true → ofM l a = (i : Int) := fun h => of_some hlt h fun j hj => hno j hj _ (List.getElem?_eq_getElem _)
      have hno2 : inM a l[i] = false → ∀ j, j < i + 1 → ∀ x, l[j]? = some x → inM a x = false := fun h j hji x hx => by
        rcases Nat.lt_or_ge j i with h2 | h2
        · exact hno j h2 x hx
        · obtain rfl : j = i := by omega
          rw [List.getElem?_eq_getElem hlt] at hx
          cases hx
          exact h
      have HF := Lib.hid hfin
      have HN := Lib.hid hno2
      clear hno hfin hno2
      have c0 := hc 0 _ rfl
      have c1 := hc 1 _ rfl
      have c2 := hc 2 _ rfl
      have c3 := hc 3 _ rfl
      have c4 := hc 4 _ rfl
      have c5 := hc 5 _ rfl
      have c6 := hc 6 _ rfl
      clear hc
      generalize hb : inM a l[i] = b at *
      unfold encMd at hcall
      generalize (⟨l[i].name.toArray⟩ : ByteArray) = x0 at *
      generalize l[i].base = x1 at *
      generalize l[i].low = x2 at *
      generalize l[i].high = x3 at *
      generalize l[i].tls = x4 at *
      generalize l[i].off = x5 at *
      generalize l[i].mem = x6 at *
      clear hb
      rw [Nat.add_zero] at c0
      go_wp2_with fail
      refine hcall.mono ?_
      rintro e w2 ⟨rfl, hk2⟩
      have hk2' := hk.trans' hk2
      clear hcall c0 c1 c2 c3 c4 c5 c6
      cases b with
      | true =>
        go_wp2_with fail
        go_ret
        rw [HF.out trivial]
        exact ⟨rfl, hk2'⟩
      | false =>
        go_wp2_with fail
        go_roundw
        case rel => exact ⟨i + 1, by go_num, hlt, HN.out trivial, hk2'⟩
        case measure => simp [intOf]; omega
    · obtain rfl : i = l.length := Nat.le_antisymm hi hge
      have hof := of_none (l := l) (a := a) fun j hj => hno j hj _ (List.getElem?_eq_getElem hj)
      go_wp2_with fail
      go_ret
      rw [hof]
      exact ⟨rfl, hk⟩
set_option maxHeartbeats 1000000 in
theorem lof_any {A : Nat → Prop} {v : Value} (l : List Md) (a : Nat) (hl : Fl A w 7 encMd v l) :
    Calls Tryd.prog 23 #[v, .int .u64 (a : Int)] w fun e w' => e = .returned (.int .i64 (ofM l a)) ∧ Keep No w w' := by
  obtain ⟨ao, co, rfl, _, _⟩ := hl.shape
  go_enter Tryd.func23, Tryd.ntmps23
  go_wp2_with fail
  have hkW : Keep No w (w.alloc (.cells #[.int .u64 (a : Int)] 22)) := (Keep.refl _ _).alloc _
  have hBW : Blk (w.alloc (.cells #[.int .u64 (a : Int)] 22)) w.heap.size #[.int .u64 (a : Int)] 22 := Blk.new _ _ _
  have hzW : (w.alloc (.cells #[.int .u64 (a : Int)] 22)).heap.size = w.heap.size + 1 := World.size_alloc _ _
  generalize w.alloc (.cells #[.int .u64 (a : Int)] 22) = W at *
  have hc := idxmod_any (w := W) l a w.heap.size (hl.no hkW) (hBW.cell 0) hBW.lt
  go_wp2_with fail
  refine hc.mono ?_
  rintro e w2 ⟨rfl, hk2⟩
  go_wp2_with fail
  go_ret
  exact ⟨rfl, hkW.trans' hk2⟩
end
end Go.Proofs.YthfekjnekaecaaaDoor
namespace Go.Proofs.YthfekjnekaecaaaDoor
open Go.RowKit Go.Dm Go.Dm.Vm Go.Dm.Cp Go.Dm.Tg Go.Maps
def WL (w : List (Nat × Nat)) : List (Lit × Value) := w.map fun p => (.int .u64 (p.1 : Int), .int .i64 (p.2 : Int))
structure LRep (A : Nat → Prop) (w : World) (d : Nat) (L : Lg) (v : Value) (mb : Nat) : Prop where
  blk : Blk w d #[v, .map (some mb)] 69
  ms : Fl (fun k => A k ∧ k ≠ mb) w 7 encMd v L.m
  mp : MapL Tryd.prog 22 w mb (WL L.w)
  ok : LgOk L
  Ad : A d
  Am : A mb
section
variable {A B S : Nat → Prop} {w w' : World} {d mb : Nat} {v : Value} {L : Lg}
theorem LRep.same (h : LRep A w d L v mb) (hs : w.heap.size ≤ w'.heap.size) (e : ∀ k, A k → w'.heap[k]? = w.heap[k]?) : LRep A w' d L v mb where
  blk := h.blk.same (e d h.Ad)
  ms := Sl.same h.ms hs fun k _ ha => e k ha.1
  mp := h.mp.same (e mb h.Am)
  ok := h.ok
  Ad := h.Ad
  Am := h.Am
theorem LRep.keep (h : LRep A w d L v mb) (hk : Keep S w w') (hS : ∀ k, A k → ¬ S k) (hA : ∀ k, A k → k < w.heap.size) : LRep A w' d L v mb := h.same hk.size fun k ha => hk.block k (hA k ha) (hS k ha)
theorem LRep.no (h : LRep A w d L v mb) (hA : ∀ k, A k → k < w.heap.size) (hk : Keep No w w') : LRep A w' d L v mb := h.keep hk (fun _ _ h => h) hA
theorem LRep.mono (h : LRep A w d L v mb) (hab : ∀ k, k < w.heap.size → A k → B k) : LRep B w d L v mb where
  blk := h.blk
  ms := Sl.mono h.ms fun k hk ha => ⟨hab k hk ha.1, ha.2⟩
  mp := h.mp
  ok := h.ok
  Ad := hab _ h.blk.lt h.Ad
  Am := hab _ h.mp.lt h.Am
theorem findL_WL (l : List (Nat × Nat)) (a : Nat) : findL (WL l) (.int .u64 (a : Int)) = (l.find? fun p => p.1 == a).map fun p => .int .i64 (p.2 : Int) := by
  unfold findL WL
  rw [List.find?_map, Option.map_map]
  congr 1
  have e : ((fun p : Lit × Value => p.1.sameKey (Lit.int .u64 (a : Int))) ∘ fun p : Nat × Nat => (Lit.int .u64 (p.1 : Int), Value.int .i64 (p.2 : Int))) = fun p : Nat × Nat => p.1 == a := by
    funext p
    simp [Lit.sameKey]
    rw [Bool.eq_iff_iff]
    simp only [decide_eq_true_eq, beq_iff_eq]
    omega
  rw [e]
theorem eraseL_WL (l : List (Nat × Nat)) (a : Nat) : eraseL (WL l) (.int .u64 (a : Int)) = WL (delW l a) := by
  unfold eraseL WL delW
  rw [List.filter_map]
  congr 1
  apply List.filter_congr
  intro p _
  have e : (Lit.int IntKind.u64 (p.1 : Int)).sameKey (Lit.int .u64 (a : Int)) = (p.1 == a) := by
    simp [Lit.sameKey]
    rw [Bool.eq_iff_iff]
    simp only [decide_eq_true_eq, beq_iff_eq]
    omega
  simp only [Function.comp, e]
theorem WL_len (l : List (Nat × Nat)) : (WL l).length = l.length := by simp [WL]
theorem zInt (w : World) : (zeroValue 3).run Tryd.prog w = .ok (.int .i64 0) w := by kernel_rfl
theorem mask_hi3 (a : Nat) (h : a < 18446744073709551616) : a &&& 18446744073709551608 = a / 8 * 8 := by
  have e1 : (18446744073709551608 : Nat) = (2 ^ 61 - 1) <<< 3 := by decide
  have e2 : a / 8 * 8 = (a >>> 3) <<< 3 := by rw [Nat.shiftLeft_eq, Nat.shiftRight_eq_div_pow]
  rw [e1, e2]
  apply Nat.eq_of_testBit_eq
  intro i
  rw [Nat.testBit_and, Nat.testBit_shiftLeft, Nat.testBit_shiftLeft, Nat.testBit_shiftRight, Nat.testBit_two_pow_sub_one]
  by_cases h8 : 3 ≤ i
  · simp only [ge_iff_le, h8, decide_true, Bool.true_and]
    rw [show 3 + (i - 3) = i by omega]
    by_cases h64 : i - 3 < 61
    · simp [h64]
    · have : a.testBit i = false := Nat.testBit_lt_two_pow (Nat.lt_of_lt_of_le h (Nat.pow_le_pow_right (n := 2) (by decide) (show 64 ≤ i by omega)))
      simp [this]
  · simp [h8]
theorem andNot_7 (a : Nat) (h : a < 18446744073709551616) : bits .andNot .u64 (a : Int) 7 = ((a / 8 * 8 : Nat) : Int) := by
  have := u64_andNot_nat a 7 h (by decide)
  rw [show ((7 : Nat) : Int) = 7 from rfl] at this
  rw [this]
  rw [← mask_hi3 a h]
set_option maxHeartbeats 1000000 in
theorem ttag_nil (a : Int) (w : World) : Calls Tryd.prog 13 #[.pointer none, .int .u64 a] w fun e w' => e = .returned (.int .i64 0) ∧ w = w' := by
  go_enter Tryd.func13, Tryd.ntmps13
  go_wp2_with fail
  go_ret
  exact ⟨rfl, rfl⟩
set_option maxHeartbeats 1000000 in
theorem ttag_any (a : Nat) (ha : a < 18446744073709551616) (h : LRep A w d L v mb) :
    Calls Tryd.prog 13 #[ptrTo d, .int .u64 (a : Int)] w fun e w' => e = .returned (.int .i64 (tagM L a : Nat)) ∧ w = w' := by
  have q1 : w.cell? ⟨d, 1, none⟩ = some (.map (some mb)) := h.blk.cell 1
  have e7 := andNot_7 a ha
  have hal : a / 8 * 8 < 18446744073709551616 := by omega
  have HT : Hid (tagM L a = wordAt L.w (a / 8 * 8)) := Lib.hid rfl
  unfold ptrTo
  generalize a / 8 * 8 = b at *
  go_enter Tryd.func13, Tryd.ntmps13
  go_wp2_with (at_lookup; refine wl_lookup rfl _ _ _ _ rfl _ _ rfl rfl ?_)
  refine rg_lookup h.mp kU64 Tryd.underlying67 (zInt w) (kOf hal) ?_
  rw [findL_WL]
  have e : (((L.w.find? fun p => p.1 == b).map fun p => Value.int .i64 (p.2 : Int)).getD (.int .i64 0)) = .int .i64 ((wordAt L.w b : Nat) : Int) := by
    unfold wordAt
    cases L.w.find? fun p => p.1 == b <;> rfl
  rw [e]
  go_wp2_with fail
  go_ret
  rw [HT.out]
  exact ⟨rfl, rfl⟩
set_option maxHeartbeats 1000000 in
theorem tmark_nil (a t : Int) (w : World) : Calls Tryd.prog 12 #[.pointer none, .int .u64 a, .int .i64 t] w fun e w' => e = .returned (.int .i64 1) ∧ w = w' := by
  go_enter Tryd.func12, Tryd.ntmps12
  go_wp2_with fail
  go_ret
  exact ⟨rfl, rfl⟩
theorem wt_len {l : List (Nat × Nat)} (h : l.Pairwise (fun p q => p.1 < q.1)) (h2 : ∀ p ∈ l, p.1 % 8 = 0 ∧ p.1 < 18446744073709551616) : ∀ n, (∀ p ∈ l, n ≤ p.1 / 8) → l.length + n ≤ 2305843009213693952 ∨ l = [] := by
  induction l with
  | nil => intro n _; exact .inr rfl
  | cons p r ih =>
    intro n hn
    rw [List.pairwise_cons] at h
    have hp := h2 p (List.mem_cons_self ..)
    have hpn := hn p (List.mem_cons_self ..)
    left
    have hr := ih h.2 (fun q hq => h2 q (List.mem_cons_of_mem _ hq)) (p.1 / 8 + 1) fun q hq => by
      have := h.1 q hq
      have := h2 q (List.mem_cons_of_mem _ hq)
      omega
    rw [List.length_cons]
    rcases hr with hr | rfl
    · omega
    · simp only [List.length_nil]; omega
theorem lgok_wlen {L : Lg} (h : LgOk L) : L.w.length < maxLen := by
  rcases wt_len h.srt h.al 0 (fun _ _ => Nat.zero_le _) with h1 | h1
  · unfold maxLen; omega
  · rw [h1]; unfold maxLen; simp
set_option maxRecDepth 100000 in
set_option maxHeartbeats 2000000 in
theorem tmark_any (a : Nat) (t : Int) (ha : a < 18446744073709551616) (h : LRep A w d L v mb) (hA : ∀ k, A k → k < w.heap.size) :
    Calls Tryd.prog 12 #[ptrTo d, .int .u64 (a : Int), .int .i64 t] w fun e w' => e = .returned (.int .i64 (markE L a t : Nat)) ∧ LRep A w' d (markM L a t) v mb ∧ Keep (fun j => j = mb) w w' := by
  have q0 : w.cell? ⟨d, 0, none⟩ = some v := h.blk.cell 0
  have q1 : w.cell? ⟨d, 1, none⟩ = some (.map (some mb)) := h.blk.cell 1
  obtain ⟨ao, co, hv, hc1, hc2⟩ := h.ms.shape
  rw [hv] at q0
  have hln := h.ok.ln
  have hok2 := mark_ok h.ok ha t
  have hmod : ((a : Nat) : Int).tmod 8 = ((a % 8 : Nat) : Int) := by rw [IntWalk.rem_in _ _ (by omega)]; omega
  by_cases hE : markE L a t = 0
  · have h3 : a % 8 = 0 ∧ 0 ≤ t ∧ t ≤ (L.m.length : Int) := by
      unfold markE at hE
      by_cases h3 : a % 8 = 0 ∧ 0 ≤ t ∧ t ≤ (L.m.length : Int)
      · exact h3
      · rw [if_neg h3] at hE; cases hE
    obtain ⟨h31, h32, h33⟩ := h3
    have hM : markM L a t = { L with w := putW L.w a t.toNat } := by unfold markM; rw [if_pos hE]
    rw [hM] at hok2 ⊢
    rw [hE]
    rw [h31] at hmod
    have hrep : ∀ W, MapL Tryd.prog 22 W mb (WL (putW L.w a t.toNat)) → Keep (fun j => j = mb) w W → LRep A W d { L with w := putW L.w a t.toNat } v mb := fun W hm hk =>
      ⟨h.blk.keep hk fun e => h.mp.ne_blk h.blk e.symm, Sl.keep h.ms hk fun j _ ha e => ha.2 e, hm, hok2, h.Ad, h.Am⟩
    have HR := Lib.hid hrep
    have HP : Hid (putW L.w a t.toNat = if t.toNat = 0 then delW L.w a else insW (a, t.toNat) (delW L.w a)) := Lib.hid rfl
    have hwl := lgok_wlen h.ok
    have hmp := h.mp
    have HK := Lib.hid (kOf ha)
    clear hrep hok2 hE hM hA h hc1 hc2 h31 ha
    generalize putW L.w a t.toNat = pw at *
    generalize L.m.length = n at *
    unfold ptrTo
    by_cases h0 : t = 0
    · subst h0
      rw [show (0 : Int).toNat = 0 from rfl, if_pos rfl] at HP
      go_enter Tryd.func12, Tryd.ntmps12
      go_wp2_with (at_delete; refine wl_delete rfl _ _ _ _ rfl _ _ rfl rfl ?_)
      refine rg_delete hmp kU64 Tryd.underlying67 HK.out ?_
      intro w1 hm hk hs
      rw [eraseL_WL, ← HP.out] at hm
      go_wp2_with fail
      go_ret
      exact ⟨rfl, HR.out _ hm hk, hk⟩
    · obtain ⟨k, rfl⟩ : ∃ k : Nat, t = (k : Int) := ⟨t.toNat, by omega⟩
      rw [Int.toNat_natCast, if_neg (by omega)] at HP
      have hk1 : ((k : Int) == 0) = false := by simpa using h0
      go_enter Tryd.func12, Tryd.ntmps12
      go_wp2_with (at_mapUpdate; refine wl_mapUpdate rfl _ _ _ _ rfl _ _ _ rfl rfl rfl ?_)
      refine rg_store hmp kU64 Tryd.underlying67 (by rw [WL_len]; exact hwl) HK.out ?_
      intro w1 hm hk hs
      rw [eraseL_WL] at hm
      have hm2 : MapL Tryd.prog 22 w1 mb (WL pw) := by
        rw [HP.out]
        exact hm.perm ((insW_perm (a, k) (delW L.w a)).map (fun p : Nat × Nat => (Lit.int .u64 (p.1 : Int), Value.int .i64 (p.2 : Int)))).symm
      go_wp2_with fail
      go_ret
      exact ⟨rfl, HR.out _ hm2 hk, hk⟩
  · have hM : markM L a t = L := by unfold markM; rw [if_neg hE]
    have hE1 : markE L a t = 1 := by
      unfold markE at hE ⊢
      split at hE
      · exact absurd rfl hE
      · rw [if_neg (by assumption)]
    have h3 : a % 8 ≠ 0 ∨ (a % 8 = 0 ∧ t < 0) ∨ (a % 8 = 0 ∧ 0 ≤ t ∧ t > (L.m.length : Int)) := by
      unfold markE at hE
      by_cases h3 : a % 8 = 0 ∧ 0 ≤ t ∧ t ≤ (L.m.length : Int)
      · rw [if_pos h3] at hE; exact absurd rfl hE
      · omega
    rw [hM, hE1]
    have HH := Lib.hid h
    clear hok2 hE hM hE1 h hA
    generalize L.m.length = n at *
    unfold ptrTo
    rcases h3 with h3 | ⟨h3, h4⟩ | ⟨h3, h4, h5⟩
    · generalize a % 8 = r at *
      have hr : ((r : Int) != 0) = true := by simpa using h3
      go_enter Tryd.func12, Tryd.ntmps12
      go_wp2_with fail
      go_ret
      exact ⟨rfl, HH.out, Keep.refl _ _⟩
    all_goals
      rw [h3] at hmod
      go_enter Tryd.func12, Tryd.ntmps12
      go_wp2_with fail
      go_ret
      exact ⟨rfl, HH.out, Keep.refl _ _⟩
end
end Go.Proofs.YthfekjnekaecaaaDoor
namespace Go.Dm.Cp
open Go Go.Dm.Vm
theorem or_join (x y k : Nat) (h : x < 2 ^ k) : x ||| y * 2 ^ k = x + y * 2 ^ k := by
  rw [Nat.or_comm, Go.nat_join k (y * 2 ^ k) x (Nat.mul_mod_left _ _) h, Nat.add_comm]
theorem orE {op a b c u : Nat} (h0 : op < 256) (ha : a < 32) (hb : b < 32) (hc : c < 32) :
    (((op ||| a * 256) ||| b * 8192) ||| c * 262144) ||| u * 4294967296 = op + 256 * a + 8192 * b + 262144 * c + 4294967296 * u := by
  rw [or_join op a 8 (by omega), or_join (op + a * 2 ^ 8) b 13 (by omega), or_join (op + a * 2 ^ 8 + b * 2 ^ 13) c 18 (by omega), or_join (op + a * 2 ^ 8 + b * 2 ^ 13 + c * 2 ^ 18) u 32 (by omega)]
  omega
/-- the words and the fields -/
def fieldsL (op : Int) : List UInt8 := (if hasM op % 2 = 1 then [97] else []) ++ (if hasM op / 2 % 2 = 1 then [98] else []) ++ (if hasM op / 4 % 2 = 1 then [99] else []) ++ (if hasM op / 8 % 2 = 1 then [105] else [])
theorem dec_may_imm (w : Nat) (h : w < 18446744073709551616) : -2147483648 ≤ (decI w).imm ∧ (decI w).imm ≤ 2147483647 := s32_lo _ (by omega)
theorem dec_fits (w : Nat) : (decI w).op < 256 ∧ (decI w).a < 32 ∧ (decI w).b < 32 ∧ (decI w).c < 32 := ⟨Nat.mod_lt _ (by decide), Nat.mod_lt _ (by decide), Nat.mod_lt _ (by decide), Nat.mod_lt _ (by decide)⟩
theorem may_eq {op a b c imm : Int} (h : -2147483648 ≤ imm ∧ imm ≤ 2147483647) : mayB op a b c imm = mayF op a b c imm := by
  unfold mayB
  rw [decide_eq_true h, Bool.and_true]
theorem may_op {op a b c imm : Int} (h : mayF op a b c imm = true) : isOp op = true ∧ (0 ≤ a ∧ a ≤ 31) ∧ (0 ≤ b ∧ b ≤ 31) ∧ (0 ≤ c ∧ c ≤ 31) := by
  unfold mayF fieldB at h
  simp only [Bool.and_eq_true, decide_eq_true_eq] at h
  exact ⟨h.1.1.1.1, h.1.1.1.2.2, h.1.1.2.2, h.1.2.2⟩
/-- an arithmetic shift to the right -/
theorem sar_eq (b k : Nat) (hb : b < 18446744073709551616) (h1 : b / 9223372036854775808 = 1) :
    (((b : Int) - 18446744073709551616) / (2 ^ k : Nat)) % 18446744073709551616 = ((18446744073709551615 - (18446744073709551615 - b) / 2 ^ k : Nat) : Int) := by
  have hp := two_pos k
  generalize 2 ^ k = p at *
  have hd : (18446744073709551615 - b) / p ≤ 18446744073709551615 - b := Nat.div_le_self _ _
  have e : ((b : Int) - 18446744073709551616) / (p : Int) = -1 - (((18446744073709551615 - b) / p : Nat) : Int) := by
    have h2 := Nat.div_add_mod (18446744073709551615 - b) p
    have h3 := Nat.mod_lt (18446744073709551615 - b) hp
    generalize (18446744073709551615 - b) / p = q at *
    generalize (18446744073709551615 - b) % p = r at *
    have e2 : (b : Int) - 18446744073709551616 = (p - 1 - r : Int) + (p : Int) * (-1 - (q : Int)) := by
      have h4 : ((p * q + r : Nat) : Int) = 18446744073709551615 - (b : Int) := by omega
      rw [Int.natCast_add, Int.natCast_mul] at h4
      rw [Int.mul_sub, Int.mul_neg, Int.mul_one]
      omega
    rw [e2, Int.add_mul_ediv_left _ _ (by omega), Int.ediv_eq_zero_of_lt (by omega) (by omega)]
    omega
  rw [e]
  generalize (18446744073709551615 - b) / p = q at *
  omega
/-- signed below -/
theorem below_eq (x y : Nat) (hx : x < 18446744073709551616) (hy : y < 18446744073709551616) :
    belowM x y = decide ((if x < 9223372036854775808 then (x : Int) else (x : Int) - 18446744073709551616) < (if y < 9223372036854775808 then (y : Int) else (y : Int) - 18446744073709551616)) := by
  unfold belowM
  rw [Bool.eq_iff_iff]
  split
  · rw [decide_eq_true_eq, beq_iff_eq]
    split <;> split <;> omega
  · rw [decide_eq_true_eq, decide_eq_true_eq]
    split <;> split <;> omega
theorem mod_eq (b c : Nat) : b - b / c * c = b % c := by
  have := Nat.div_add_mod b c
  rw [Nat.mul_comm] at this
  omega
theorem movhi_or (a u : Nat) : a % 4294967296 ||| u * 4294967296 = a % 4294967296 + u * 4294967296 := or_join (a % 4294967296) u 32 (Nat.mod_lt _ (by decide))
theorem do_1 (s : St) (m : V) (a b c : Nat) (imm : Int) : doM s m ⟨1, a, b, c, imm⟩ = ((s.go (add s.pc 8)), m, ⟨0, 0, 0⟩) := by
  unfold doM
  dsimp only
  repeat (first | rw [if_pos (by decide)] | rw [if_neg (by decide)])
theorem do_2 (s : St) (m : V) (a b c : Nat) (imm : Int) : doM s m ⟨2, a, b, c, imm⟩ = ((s.go (add s.pc 8)).put a (s.reg b), m, ⟨0, 0, 0⟩) := by
  unfold doM
  dsimp only
  repeat (first | rw [if_pos (by decide)] | rw [if_neg (by decide)])
theorem do_16 (s : St) (m : V) (a b c : Nat) (imm : Int) : doM s m ⟨16, a, b, c, imm⟩ = ((s.go (add s.pc 8)).put a (add (s.reg b) (u64 imm)), m, ⟨0, 0, 0⟩) := by
  unfold doM
  dsimp only
  repeat (first | rw [if_pos (by decide)] | rw [if_neg (by decide)])
theorem do_17 (s : St) (m : V) (a b c : Nat) (imm : Int) : doM s m ⟨17, a, b, c, imm⟩ = ((s.go (add s.pc 8)).put a (u64 imm), m, ⟨0, 0, 0⟩) := by
  unfold doM
  dsimp only
  repeat (first | rw [if_pos (by decide)] | rw [if_neg (by decide)])
theorem do_18 (s : St) (m : V) (a b c : Nat) (imm : Int) : doM s m ⟨18, a, b, c, imm⟩ = ((s.go (add s.pc 8)).put a (s.reg a % 4294967296 + u64 imm % 4294967296 * 4294967296), m, ⟨0, 0, 0⟩) := by
  unfold doM
  dsimp only
  repeat (first | rw [if_pos (by decide)] | rw [if_neg (by decide)])
theorem do_34 (s : St) (m : V) (a b c : Nat) (imm : Int) : doM s m ⟨34, a, b, c, imm⟩ = ((s.go (add s.pc 8)).go (add s.pc (u64 imm)), m, ⟨0, 0, 0⟩) := by
  unfold doM
  dsimp only
  repeat (first | rw [if_pos (by decide)] | rw [if_neg (by decide)])
theorem do_35 (s : St) (m : V) (a b c : Nat) (imm : Int) : doM s m ⟨35, a, b, c, imm⟩ = (((s.go (add s.pc 8)).put a (add s.pc 8)).go (add s.pc (u64 imm)), m, ⟨0, 0, 0⟩) := by
  unfold doM
  dsimp only
  repeat (first | rw [if_pos (by decide)] | rw [if_neg (by decide)])
theorem do_36 (s : St) (m : V) (a b c : Nat) (imm : Int) : doM s m ⟨36, a, b, c, imm⟩ = ((s.go (add s.pc 8)).go (s.reg b), m, ⟨0, 0, 0⟩) := by
  unfold doM
  dsimp only
  repeat (first | rw [if_pos (by decide)] | rw [if_neg (by decide)])
theorem do_37 (s : St) (m : V) (a b c : Nat) (imm : Int) : doM s m ⟨37, a, b, c, imm⟩ = (((s.go (add s.pc 8)).put a (add s.pc 8)).go (s.reg b), m, ⟨0, 0, 0⟩) := by
  unfold doM
  dsimp only
  repeat (first | rw [if_pos (by decide)] | rw [if_neg (by decide)])
theorem do_38 (s : St) (m : V) (a b c : Nat) (imm : Int) : doM s m ⟨38, a, b, c, imm⟩ = ((s.go (add s.pc 8)).put a (add s.pc (u64 imm)), m, ⟨0, 0, 0⟩) := by
  unfold doM
  dsimp only
  repeat (first | rw [if_pos (by decide)] | rw [if_neg (by decide)])
theorem do_39 (s : St) (m : V) (a b c : Nat) (imm : Int) : doM s m ⟨39, a, b, c, imm⟩ = ((s.go (add s.pc 8)).put a (add s.tls (u64 imm)), m, ⟨0, 0, 0⟩) := by
  unfold doM
  dsimp only
  repeat (first | rw [if_pos (by decide)] | rw [if_neg (by decide)])
theorem do_40 (s : St) (m : V) (a b c : Nat) (imm : Int) : doM s m ⟨40, a, b, c, imm⟩ = ((s.go (add s.pc 8)), m, ⟨1, 0, 0⟩) := by
  unfold doM
  dsimp only
  repeat (first | rw [if_pos (by decide)] | rw [if_neg (by decide)])
theorem do_41 (s : St) (m : V) (a b c : Nat) (imm : Int) : doM s m ⟨41, a, b, c, imm⟩ = ((s.go (add s.pc 8)), m, ⟨2, 0, u64 imm⟩) := by
  unfold doM
  dsimp only
  repeat (first | rw [if_pos (by decide)] | rw [if_neg (by decide)])
theorem do_rk (s : St) (m : V) (op a b c : Nat) (imm : Int) (h : 3 ≤ op ∧ op ≤ 15) (hz : ¬ ((op = 6 ∨ op = 7) ∧ s.reg c = 0)) : doM s m ⟨op, a, b, c, imm⟩ = ((s.go (add s.pc 8)).put a (ofM op (s.reg b) (s.reg c)), m, ⟨0, 0, 0⟩) := by
  unfold doM
  dsimp only
  rw [if_neg (by omega), if_pos h, if_neg hz]
theorem do_rz (s : St) (m : V) (op a b c : Nat) (imm : Int) (h : 3 ≤ op ∧ op ≤ 15) (hz : (op = 6 ∨ op = 7) ∧ s.reg c = 0) : doM s m ⟨op, a, b, c, imm⟩ = (s, m, ⟨3, 43, s.pc⟩) := by
  unfold doM
  dsimp only
  rw [if_neg (by omega), if_pos h, if_pos hz]
theorem do_ld (s : St) (m : V) (op a b c : Nat) (imm : Int) (h : 20 ≤ op ∧ op ≤ 23) : doM s m ⟨op, a, b, c, imm⟩ = if loadE m (add (s.reg b) (u64 imm)) (wid (op - 20) : Nat) = 0 then ((s.go (add s.pc 8)).put a (loadX m (add (s.reg b) (u64 imm)) (wid (op - 20) : Nat)), m, ⟨0, 0, 0⟩) else (s, m, ⟨3, loadE m (add (s.reg b) (u64 imm)) (wid (op - 20) : Nat), add (s.reg b) (u64 imm)⟩) := by
  unfold doM
  dsimp only
  rw [if_neg (by omega), if_neg (by omega), if_neg (by omega), if_neg (by omega), if_neg (by omega), if_pos h]
theorem do_st (s : St) (m : V) (op a b c : Nat) (imm : Int) (h : 24 ≤ op ∧ op ≤ 27) : doM s m ⟨op, a, b, c, imm⟩ = if numE m (add (s.reg b) (u64 imm)) (wid (op - 24) : Nat) 2 = 0 then (s.go (add s.pc 8), storeV m (add (s.reg b) (u64 imm)) (wid (op - 24) : Nat) (s.reg a), ⟨0, 0, 0⟩) else (s, m, ⟨3, numE m (add (s.reg b) (u64 imm)) (wid (op - 24) : Nat) 2, add (s.reg b) (u64 imm)⟩) := by
  unfold doM
  dsimp only
  rw [if_neg (by omega), if_neg (by omega), if_neg (by omega), if_neg (by omega), if_neg (by omega), if_neg (by omega), if_pos h]
theorem do_jp (s : St) (m : V) (op a b c : Nat) (imm : Int) (h : 30 ≤ op ∧ op ≤ 33) : doM s m ⟨op, a, b, c, imm⟩ = (if jumpsM op (s.reg a) (s.reg b) then (s.go (add s.pc 8)).go (add s.pc (u64 imm)) else s.go (add s.pc 8), m, ⟨0, 0, 0⟩) := by
  unfold doM
  dsimp only
  rw [if_neg (by omega), if_neg (by omega), if_neg (by omega), if_neg (by omega), if_neg (by omega), if_neg (by omega), if_neg (by omega), if_pos h]
theorem op_cases {op : Nat} (h : isOp op = true) : op = 1 ∨ op = 2 ∨ (3 ≤ op ∧ op ≤ 15) ∨ op = 16 ∨ op = 17 ∨ op = 18 ∨ (20 ≤ op ∧ op ≤ 23) ∨ (24 ≤ op ∧ op ≤ 27) ∨ (30 ≤ op ∧ op ≤ 33) ∨ op = 34 ∨ op = 35 ∨ op = 36 ∨ op = 37 ∨ op = 38 ∨ op = 39 ∨ op = 40 ∨ op = 41 := by
  unfold isOp at h
  have h := of_decide_eq_true h
  omega
theorem add_wrap (x y : Nat) : IntKind.u64.wrap ((x : Int) + (y : Int)) = (add x y : Int) := by
  rw [IntKind.wrap_u64]
  unfold add
  omega
/-- registers that are not named stay -/
theorem put_reg (s : St) (k x j : Nat) (h : j ≠ k) : (s.put k x).reg j = s.reg j := by
  unfold St.put St.reg
  rw [List.getD_eq_getElem?_getD, List.getD_eq_getElem?_getD, List.getElem?_set_ne (Ne.symm h)]
def Stays (s : St) (a : Nat) (x : St × V × Out) : Prop := x.1.tls = s.tls ∧ (x.2.2.kind = 3 → x.1 = s) ∧ ∀ j, j ≠ a → x.1.reg j = s.reg j
theorem Stays.ite {s : St} {a : Nat} {c : Prop} [Decidable c] {x y : St × V × Out} (h1 : Stays s a x) (h2 : Stays s a y) : Stays s a (if c then x else y) := by
  split
  · exact h1
  · exact h2
theorem Stays.jump {s : St} {a : Nat} {c : Prop} [Decidable c] {x y : St} {z : V × Out} (h1 : Stays s a (x, z)) (h2 : Stays s a (y, z)) : Stays s a ((if c then x else y), z) := by
  split
  · exact h1
  · exact h2
theorem Stays.same {s : St} {a : Nat} {m : V} {o : Out} : Stays s a (s, m, o) := ⟨rfl, fun _ => rfl, fun _ _ => rfl⟩
theorem Stays.go {s : St} {a p : Nat} {m : V} {o : Out} (h : o.kind ≠ 3) : Stays s a (s.go p, m, o) := ⟨rfl, fun e => absurd e h, fun _ _ => rfl⟩
theorem Stays.go2 {s : St} {a p q : Nat} {m : V} {o : Out} (h : o.kind ≠ 3) : Stays s a ((s.go p).go q, m, o) := ⟨rfl, fun e => absurd e h, fun _ _ => rfl⟩
theorem Stays.put {s : St} {a p x : Nat} {m : V} {o : Out} (h : o.kind ≠ 3) : Stays s a ((s.go p).put a x, m, o) := ⟨rfl, fun e => absurd e h, fun _ hj => put_reg _ _ _ _ hj⟩
theorem Stays.put2 {s : St} {a p q x : Nat} {m : V} {o : Out} (h : o.kind ≠ 3) : Stays s a (((s.go p).put a x).go q, m, o) := ⟨rfl, fun e => absurd e h, fun j hj => put_reg (s.go p) a x j hj⟩
theorem do_stays (s : St) (m : V) (i : Ins) : Stays s i.a (doM s m i) := by
  unfold doM
  dsimp only
  repeat' first
    | exact Stays.same
    | exact Stays.go (by simp)
    | exact Stays.go2 (by decide)
    | exact Stays.put (by decide)
    | exact Stays.put2 (by decide)
    | refine Stays.ite ?_ ?_
    | refine Stays.jump ?_ ?_
theorem step_stays (s : St) (m : V) : (stepM s m).1.tls = s.tls ∧ ((stepM s m).2.2.kind = 3 → (stepM s m).1 = s) := by
  unfold stepM
  split
  · split
    · exact ⟨(do_stays s m _).1, (do_stays s m _).2.1⟩
    · exact ⟨rfl, fun _ => rfl⟩
  · exact ⟨rfl, fun _ => rfl⟩
theorem u32_eq {imm : Int} (h1 : -2147483648 ≤ imm) (h2 : imm ≤ 2147483647) : imm % 4294967296 = (u32 imm : Int) ∧ u32 imm < 4294967296 := by
  unfold u32; split <;> omega
theorem or_step {x y k : Nat} (h : x < 2 ^ k) (h2 : x + y * 2 ^ k < 18446744073709551616) : bits .or .u64 (x : Int) ((y : Int) * ((2 ^ k : Nat) : Int)) = ((x + y * 2 ^ k : Nat) : Int) := by
  rw [← Int.natCast_mul, u64_or_nat x (y * 2 ^ k) (by omega) (by omega), or_join x y k h]
theorem enc_bits {op a b c : Nat} {imm : Int} (ho : op < 256) (ha : a < 32) (hb : b < 32) (hc : c < 32) (h1 : -2147483648 ≤ imm) (h2 : imm ≤ 2147483647) :
    bits .or .u64 (bits .or .u64 (bits .or .u64 (bits .or .u64 (op : Int) ((a : Int) * 256)) ((b : Int) * 8192)) ((c : Int) * 262144)) (imm % 4294967296 * 4294967296) = (encM op a b c imm : Int) := by
  obtain ⟨e, hl⟩ := u32_eq h1 h2
  have s1 := or_step (x := op) (y := a) (k := 8) ho (by omega)
  have s2 := or_step (x := op + a * 2 ^ 8) (y := b) (k := 13) (by omega) (by omega)
  have s3 := or_step (x := op + a * 2 ^ 8 + b * 2 ^ 13) (y := c) (k := 18) (by omega) (by omega)
  have s4 := or_step (x := op + a * 2 ^ 8 + b * 2 ^ 13 + c * 2 ^ 18) (y := u32 imm) (k := 32) (by omega) (by omega)
  have e1 : (((2 ^ 8 : Nat)) : Int) = 256 := rfl
  have e2 : (((2 ^ 13 : Nat)) : Int) = 8192 := rfl
  have e3 : (((2 ^ 18 : Nat)) : Int) = 262144 := rfl
  have e4 : (((2 ^ 32 : Nat)) : Int) = 4294967296 := rfl
  rw [e1] at s1
  rw [e2] at s2
  rw [e3] at s3
  rw [e4] at s4
  rw [s1, s2, s3, e, s4]
  unfold encM
  omega
def Pf (s : St) (t : St × V × Out) : Prop := t.2.2.kind = 3 → t.1 = s
theorem pf_ite {s : St} {c : Prop} [Decidable c] {a b : St × V × Out} (h1 : Pf s a) (h2 : Pf s b) : Pf s (if c then a else b) := by
  split
  · exact h1
  · exact h2
theorem pf_0 (s a : St) (m : V) (k e x : Nat) (h : k ≠ 3) : Pf s (a, m, ⟨k, e, x⟩) := fun h2 => absurd h2 h
theorem pf_3 (s : St) (m : V) (o : Out) : Pf s (s, m, o) := fun _ => rfl
theorem do_fault {s : St} {m : V} {i : Ins} (h : (doM s m i).2.2.kind = 3) : (doM s m i).1 = s := by
  refine (?_ : Pf s (doM s m i)) h
  unfold doM
  dsimp only
  repeat' (refine pf_ite ?_ ?_)
  all_goals first | exact pf_3 _ _ _ | exact pf_0 _ _ _ _ _ _ (by decide)
end Go.Dm.Cp
