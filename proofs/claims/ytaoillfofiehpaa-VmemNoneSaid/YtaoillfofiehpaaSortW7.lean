/- Pages, of up to twelve. slices.Sort, slices.Sorted(maps.Keys(m)) at uint64, of any length below 65536; Pages of any number. No condition. -/
import Derived.Test.YtaoillfofiehpaaSortK
set_option linter.unusedVariables false
set_option linter.unusedSimpArgs false
namespace Go.Proofs.Ytaoillfofiehpaa
open Go.RowKit Go.Dm Go.Dm.Vm Go.Maps Go.Dm.Oc Go.WideMaps Go.WideElems

/-- a page as it is told; its bytes lie in block g addr, from 4 on -/
def encP (g : Nat → Nat) (p : Pg) : List Value := [.int .u64 (p.addr : Int), .int .i64 (p.prot : Int), .bool p.dirty, .string ⟨p.file.toArray⟩, .int .u64 (p.off : Int), .slice (some ⟨g p.addr, 4, none⟩) 256 256]
structure PgsV (base : Nat) (w : World) (v : Value) (m : V) (g : Nat → Nat) : Prop where
  row : FlO w base 27 6 (encP g) v m
  pg : ∀ p ∈ m, base ≤ g p.addr ∧ Blk w (g p.addr) (pgC p) 67
theorem PgsV.no {base : Nat} {w w' : World} {v : Value} {m : V} {g : Nat → Nat} (h : PgsV base w v m g) (hk : Keep No w w') : PgsV base w' v m g :=
  ⟨h.row.no hk, fun p hp => ⟨(h.pg p hp).1, (h.pg p hp).2.keep hk fun h => h⟩⟩
theorem PgsV.base_le {base b2 : Nat} {w : World} {v : Value} {m : V} {g : Nat → Nat} (h : PgsV base w v m g) (hb : b2 ≤ base) : PgsV b2 w v m g :=
  ⟨World.ownsRow.base_le h.row hb, fun p hp => ⟨Nat.le_trans hb (h.pg p hp).1, (h.pg p hp).2⟩⟩
theorem encP_len (g : Nat → Nat) (p : Pg) : (encP g p).length = 6 := rfl
theorem encP_one (g : Nat → Nat) (p : Pg) : ∀ u ∈ encP g p, u.oneCell' = true := by
  intro u hu
  simp only [encP, List.mem_cons, List.not_mem_nil, or_false] at hu
  rcases hu with rfl | rfl | rfl | rfl | rfl | rfl <;> rfl
theorem pgT_info : (Try.prog.info? 27).map (fun i => (i.zero, i.size, i.bytes)) = some (some (.agg #[.int .u64 0, .int .i64 0, .bool false, .string ⟨#[]⟩, .int .u64 0, .slice none 0 0]), 6, 72) := by kernel_rfl
section
variable {A : Nat → Prop} {w : World} {d mb x y z u v : Nat} {f : Nat → Nat} {m : V}
set_option maxRecDepth 100000 in
set_option maxHeartbeats 4000000 in
theorem vpages_of (h : SRep A w d m mb f) (hA : ∀ k, A k → k < w.heap.size) (hlen : m.length ≤ 512)
    (hS : ∀ (Bm : Nat) (W : World), Bm < W.heap.size → W.cell? ⟨Bm, 0, none⟩ = some (.map (some mb)) → MapL Try.prog 24 W mb (VL f m) → Calls Try.prog 31 #[.func (.func 52) #[] #[.pointer (some ⟨Bm, 0, none⟩)]] W fun e W' => ∃ v : Value, e = .returned v ∧ W'.ownsRow W.heap.size 24 1 v m.length ((addrs m).map uv) ∧ Keep No W W') :
    Calls Try.prog 13 #[ptrTo d] w fun e w' => ∃ v g, e = .returned v ∧ PgsV w.heap.size w' v m g ∧ Keep No w w' := by
  have hsrt : (addrs m).Pairwise (· < ·) := by unfold addrs; rw [List.pairwise_map]; exact h.ok.srt
  have qd : w.cell? ⟨d, 0, none⟩ = some (.map (some mb)) := h.blk.cell 0
  have HS := Lib.hid hS
  clear hS
  unfold ptrTo
  go_enter Try.func13, Try.ntmps13
  go_wp2_with fail
  refine (keysU_any mb _).mono ?_
  rintro e W0 ⟨rfl, rfl⟩
  have hm1 := h.mp.same (w' := w.alloc (.cells #[.map (some mb)] 68)) (Below.heap_alloc _ _ _ h.mp.lt)
  have hk1 : Keep No w (w.alloc (.cells #[.map (some mb)] 68)) := (Keep.refl _ _).alloc _
  have hc1 : (w.alloc (.cells #[.map (some mb)] 68)).cell? ⟨w.heap.size, 0, none⟩ = some (.map (some mb)) := (Blk.new w _ _).cell 0
  have hs1 : (w.alloc (.cells #[.map (some mb)] 68)).heap.size = w.heap.size + 1 := World.size_alloc _ _
  generalize w.alloc (.cells #[.map (some mb)] 68) = W1 at *
  have hso := HS.out w.heap.size W1 (by omega) hc1 hm1
  clear hc1 hm1
  go_wp2_with fail
  refine hso.mono ?_
  rintro e W2 ⟨kv, rfl, ho, hk2⟩
  clear hso
  have hkw := hk1.trans' hk2
  have hbase : w.heap.size ≤ W1.heap.size := by omega
  clear hk1 hk2 hs1
  obtain ⟨a2, c2, rfl⟩ := own_shape ho
  have hal : (addrs m).length = m.length := by simp [addrs]
  have hkey : ∀ i (hi : i < m.length), ∃ g0, a2 = some ⟨g0, 0, none⟩ ∧ W2.cell? ⟨g0, i, none⟩ = some (.int .u64 (m[i].addr : Int)) ∧ w.heap.size ≤ g0 ∧ g0 < W2.heap.size := fun i hi => by
    rcases ho.2 with ⟨_, e0⟩ | ⟨g0, cap, cur, e, hb, _⟩
    · omega
    · cases e
      refine ⟨g0, rfl, ?_, by omega, (ho.lt g0 rfl).2⟩
      rw [ho.cellAt i (by omega), List.getElem?_map]
      unfold addrs
      rw [List.getElem?_map, List.getElem?_eq_getElem hi]
      rfl
  clear ho hsrt
  go_wp2_with fail
  go_loopw [3, 16] (fun ov iv wr => ∃ (i : Nat) (g : Nat → Nat), iv = .int .i64 i ∧ i ≤ m.length ∧ PgsV W2.heap.size wr ov (m.take i) g ∧ Keep No W2 wr) (fun _ iv _ => m.length - (intOf iv).toNat)
  case atStart => exact ⟨0, fun _ => 0, rfl, Nat.zero_le _, ⟨FlO.nil, fun p hp => (by simp at hp)⟩, Keep.refl _ _⟩
  case round =>
    obtain ⟨i, g, rfl, hi, hP, hk⟩ := hrel
    obtain ⟨ao, co, rfl, _, _⟩ := hP.row.fl.shape
    have hil : (m.take i).length = i := by rw [List.length_take]; omega
    rw [hil] at hP ⊢
    rcases Nat.lt_or_ge i m.length with hlt | hge
    · obtain ⟨g0, rfl, hkc, hg0, hgl⟩ := hkey i hlt
      have hkw2 := hkw.trans' hk
      have qd' : wr.cell? ⟨d, 0, none⟩ = some (.map (some mb)) := (hkw2.cell (p := ⟨d, 0, none⟩) h.blk.lt fun h => h).trans qd
      have qk : wr.cell? ⟨g0, i, none⟩ = some (.int .u64 (m[i].addr : Int)) := (hk.cell (p := ⟨g0, i, none⟩) hgl fun h => h).trans hkc
      have hS := h.no hA hkw2
      have hpm : m[i] ∈ m := List.getElem_mem hlt
      have hat := get_of_mem h.ok.srt hpm
      have hpok := h.ok.pg _ hpm
      have hlk := hS.lk (by have := hpok.lt; unfold top at this; omega) hat wr rfl
      have hBp := (hS.pg _ hpm).2
      have htk : m.take (i + 1) = m.take i ++ [m[i]] := List.take_succ_eq_append_getElem hlt
      have hne : ∀ q ∈ m.take i, q.addr ≠ m[i].addr := fun q hq e => by
        obtain ⟨j, hj, rfl⟩ := List.getElem_of_mem hq
        rw [List.getElem_take] at e
        have hj2 : j < i := by rw [hil] at hj; exact hj
        have := List.pairwise_iff_getElem.1 h.ok.srt j i (by omega) hlt hj2
        omega
      generalize m[i] = p at *
      have hltz : (i : Int) < (m.length : Int) := by omega
      have h1 := pgC_one p
      have hsz := pgC_size hpok.bl
      generalize hC : pgC p = C at *
      have hi2 : (Try.prog.info? 67).map (·.size) = some C.size := by rw [hsz]; kernel_rfl
      have hz0 : Try.zeroCells67.size = C.size := by rw [hsz]; kernel_rfl
      have HC := Lib.hid hC
      clear hC
      have HO := Lib.hid hpok
      clear hpok
      generalize f p.addr = gp at *
      go_wp2_with (at_lookup; refine wl_lookup rfl _ _ _ _ rfl _ _ rfl rfl ?_)
      refine .mk hlk ?_
      go_wp2_with (with_reducible refine wl_ld rfl _ 67 rfl _ rfl ?_)
      refine rg_ld hBp Try.underlying67 rfl hi2 ?_
      go_wp2_with (with_reducible refine wl_stAgg rfl _ _ _ rfl _ _ rfl rfl ?_)
      refine rg_stAgg (Blk.new wr _ _) hi2 hz0 h1 ?_
      intro w2 hb2 hk2 hs2
      have hka : Keep No wr (wr.alloc (.cells Try.zeroCells67 67)) := (Keep.refl _ _).alloc _
      have hk2' : Keep No wr w2 := hka.trans hk2 fun j hj e => by have e2 : j = wr.heap.size := e; omega
      have hsz2 : wr.heap.size < w2.heap.size := hb2.lt
      clear hk2 hs2 hka hlk hBp
      have hP2 : PgsV W2.heap.size w2 (.slice ao i co) (m.take i) g := hP.no hk2'
      have hkN := hk.trans' hk2'
      clear hP qk qd' hS hkw2 hkc hkey qd
      have hC := HC.out
      subst hC
      have b0 : w2.cell? ⟨wr.heap.size, 0, none⟩ = some (.int .i64 (p.prot : Int)) := hb2.cell 0
      have b1 : w2.cell? ⟨wr.heap.size, 1, none⟩ = some (.bool p.dirty) := hb2.cell 1
      have b2 : w2.cell? ⟨wr.heap.size, 2, none⟩ = some (.string ⟨p.file.toArray⟩) := hb2.cell 2
      have b3 : w2.cell? ⟨wr.heap.size, 3, none⟩ = some (.int .u64 (p.off : Int)) := hb2.cell 3
      have hwl : W2.heap.size ≤ wr.heap.size := hk.size
      have hw2l : W2.heap.size ≤ w2.heap.size := Nat.le_trans hwl hk2'.size
      clear h1 hsz hi2 hz0 HC hk hk2'
      have HB := Lib.hid hb2
      clear hb2
      generalize hnb : wr.heap.size = nb at *
      clear hnb
      go_wp2_with fail
      refine wp_region_sig (fun w' => w'.cell? ⟨nb, 0, none⟩ = some (.int .i64 (p.prot : Int)) ∧ w'.cell? ⟨nb, 1, none⟩ = some (.bool p.dirty) ∧ w'.cell? ⟨nb, 2, none⟩ = some (.string ⟨p.file.toArray⟩) ∧ w'.cell? ⟨nb, 3, none⟩ = some (.int .u64 (p.off : Int))) (fun j => decide (j ≤ 13)) [(0, true), (1, true), (2, true), (3, true), (4, true), (5, true), (6, true), (7, true), (8, true), (9, true), (10, true), (11, true), (12, true), (13, false), (14, false), (15, false)] (by kernel_rfl) (by kernel_rfl) (by intro c a d v w h; cases d <;> exact h) ⟨b0, b1, b2, b3⟩ ?_
      apply sig_still (o := ⟨some 28, _, _, _, _, _⟩) rfl rfl
      · intro w' hS
        obtain ⟨q1, q2, q3, q4⟩ := hS
        first | (go_simp; done) | (go_simp; rfl) | rfl
      go_frame
      apply sig_still (o := ⟨some 29, _, _, _, _, _⟩) rfl rfl
      · intro w' hS
        obtain ⟨q1, q2, q3, q4⟩ := hS
        first | (go_simp; done) | (go_simp; rfl) | rfl
      go_frame
      apply sig_still (o := ⟨some 30, _, _, _, _, _⟩) rfl rfl
      · intro w' hS
        obtain ⟨q1, q2, q3, q4⟩ := hS
        first | (go_simp; done) | (go_simp; rfl) | rfl
      go_frame
      apply sig_still (o := ⟨some 31, _, _, _, _, _⟩) rfl rfl
      · intro w' hS
        obtain ⟨q1, q2, q3, q4⟩ := hS
        first | (go_simp; done) | (go_simp; rfl) | rfl
      go_frame
      apply sig_still (o := ⟨some 32, _, _, _, _, _⟩) rfl rfl
      · intro w' hS
        obtain ⟨q1, q2, q3, q4⟩ := hS
        first | (go_simp; done) | (go_simp; rfl) | rfl
      go_frame
      apply sig_still (o := ⟨some 33, _, _, _, _, _⟩) rfl rfl
      · intro w' hS
        obtain ⟨q1, q2, q3, q4⟩ := hS
        first | (go_simp; done) | (go_simp; rfl) | rfl
      go_frame
      apply sig_still (o := ⟨some 34, _, _, _, _, _⟩) rfl rfl
      · intro w' hS
        obtain ⟨q1, q2, q3, q4⟩ := hS
        first | (go_simp; done) | (go_simp; rfl) | rfl
      go_frame
      apply sig_still (o := ⟨some 35, _, _, _, _, _⟩) rfl rfl
      · intro w' hS
        obtain ⟨q1, q2, q3, q4⟩ := hS
        first | (go_simp; done) | (go_simp; rfl) | rfl
      go_frame
      apply sig_still (o := ⟨some 36, _, _, _, _, _⟩) rfl rfl
      · intro w' hS
        obtain ⟨q1, q2, q3, q4⟩ := hS
        first | (go_simp; done) | (go_simp; rfl) | rfl
      go_frame
      apply sig_still (o := ⟨some 37, _, _, _, _, _⟩) rfl rfl
      · intro w' hS
        obtain ⟨q1, q2, q3, q4⟩ := hS
        first | (go_simp; done) | (go_simp; rfl) | rfl
      go_frame
      apply sig_still (o := ⟨some 38, _, _, _, _, _⟩) rfl rfl
      · intro w' hS
        obtain ⟨q1, q2, q3, q4⟩ := hS
        first | (go_simp; done) | (go_simp; rfl) | rfl
      go_frame
      apply sig_still (o := ⟨some 39, _, _, _, _, _⟩) rfl rfl
      · intro w' hS
        obtain ⟨q1, q2, q3, q4⟩ := hS
        first | (go_simp; done) | (go_simp; rfl) | rfl
      go_frame
      apply sig_still (o := ⟨some 40, _, _, _, _, _⟩) rfl rfl
      · intro w' hS
        obtain ⟨q1, q2, q3, q4⟩ := hS
        first | (go_simp; done) | (go_simp; rfl) | rfl
      go_frame
      refine sig_eff (o := ⟨some 41, _, _, _, _, _⟩) rfl rfl (fun K hKe => ?_)
      go_wp2_with fail
      have hwd : (w2.alloc (.cells #[.int .u64 (p.addr : Int), .int .i64 (p.prot : Int), .bool p.dirty, .string ⟨p.file.toArray⟩, .int .u64 (p.off : Int), .slice (some ⟨nb, 4, none⟩) 256 256] 27)).drew = w2.drew.alloc (.cells #[.int .u64 (p.addr : Int), .int .i64 (p.prot : Int), .bool p.dirty, .string ⟨p.file.toArray⟩, .int .u64 (p.off : Int), .slice (some ⟨nb, 4, none⟩) 256 256] 27) := rfl
      rw [hwd]
      clear hwd
      have hkd : Keep No w2 (w2.drew.alloc (.cells #[.int .u64 (p.addr : Int), .int .i64 (p.prot : Int), .bool p.dirty, .string ⟨p.file.toArray⟩, .int .u64 (p.off : Int), .slice (some ⟨nb, 4, none⟩) 256 256] 27)) := ((Keep.refl No w2).drew).alloc _
      refine ⟨fun _ => ⟨(hkd.cell (p := ⟨nb, 0, none⟩) hsz2 fun h => h).trans b0, (hkd.cell (p := ⟨nb, 1, none⟩) hsz2 fun h => h).trans b1, (hkd.cell (p := ⟨nb, 2, none⟩) hsz2 fun h => h).trans b2, (hkd.cell (p := ⟨nb, 3, none⟩) hsz2 fun h => h).trans b3⟩, ?_⟩
      clear b0 b1 b2 b3
      refine sig_eff (o := ⟨some 42, _, _, _, _, _⟩) rfl rfl (fun K hKe => ?_)
      refine wo_append _ _ _ _ rfl _ _ rfl rfl ?_
      have hrow : FlO w2.drew W2.heap.size 27 6 (encP fun a => if a = p.addr then nb else g a) (.slice ao i co) (m.take i) := by
        have h1 := hP2.row.no (Keep.refl No w2).drew
        unfold FlO at h1 ⊢
        have e : (m.take i).flatMap (encP fun a => if a = p.addr then nb else g a) = (m.take i).flatMap (encP g) := by
          rw [List.flatMap_def, List.flatMap_def]
          congr 1
          apply List.map_congr_left
          intro q hq
          simp only [encP, if_neg (hne q hq)]
        rw [e]
        exact h1
      refine rg_push (w := w2.drew) _ 72 Try.underlying22 pgT_info rfl (by decide) (enc := encP fun a => if a = p.addr then nb else g a) (x := p) (by simp [encP]) rfl (encP_one _ _) hrow (by rw [hil]; omega) (by decide) (by exact hw2l) ?_
      intro v' w3 ho3 hk3 _
      have hk3' : Keep No W2 w3 := (hkN.trans' (Keep.refl No w2).drew).own hrow hk3
      have hnbr : ∀ j, some j = (Value.slice ao i co).ownBlock → ∀ C, Blk w2 j C 67 → False := fun j hj C hB => by
        have h1 := hP2.row.2
        rcases h1 with ⟨e, _⟩ | ⟨g1, cap1, cur1, e, _, hB1, _⟩
        · rw [e] at hj; cases hj
        · rw [e] at hj
          simp only [Value.ownBlock, Option.some.injEq] at hj
          have hB' : w2.heap[j]? = some (Obj.cells C 67 (0, 0)) := hB
          rw [← hj, hB'] at hB1
          simp at hB1
      have hP3 : PgsV W2.heap.size w3 v' (m.take (i + 1)) (fun a => if a = p.addr then nb else g a) := by
        refine ⟨by rw [htk]; exact ho3, fun q hq => ?_⟩
        rw [htk, List.mem_append, List.mem_singleton] at hq
        have hkd2 : ∀ j C, Blk w2 j C 67 → Blk w3 j C 67 := fun j C hB => (hB.keep (Keep.refl No w2).drew fun h => h).keep hk3 fun e => hnbr j e C hB
        rcases hq with hq | rfl
        · simp only [if_neg (hne q hq)]
          exact ⟨(hP2.pg q hq).1, hkd2 _ _ (hP2.pg q hq).2⟩
        · simp only [if_true]
          exact ⟨hwl, hkd2 _ _ HB.out⟩
      clear hnbr hrow hkd hkN hP2 ho3 hk3
      refine hKe _ _ ⟨fun h => by simp at h, ?_⟩
      obtain ⟨ao2, co2, rfl, _, _⟩ := hP3.row.fl.shape
      have htl : (m.take (i + 1)).length = i + 1 := by rw [List.length_take]; omega
      rw [htl] at hP3 ⊢
      refine sig_eff (o := ⟨some 3, _, _, _, _, _⟩) rfl rfl (fun K hKe => ?_)
      go_wp2_with fail
      refine ⟨fun h => by simp at h, sig_nil ?_⟩
      go_wp2_with fail
      go_roundw
      case rel => exact ⟨i + 1, _, by go_num, hlt, hP3, hk3'⟩
      case measure => simp [intOf]; omega
    · obtain rfl : i = m.length := Nat.le_antisymm hi hge
      rw [List.take_length] at hP
      go_wp2_with fail
      go_ret
      exact ⟨_, g, rfl, hP.base_le hkw.size, hkw.trans' hk⟩
theorem vpages_any (h : SRep A w d m mb f) (hA : ∀ k, A k → k < w.heap.size) (hlen : m.length ≤ 12) :
    Calls Try.prog 13 #[ptrTo d] w fun e w' => ∃ v g, e = .returned v ∧ PgsV w.heap.size w' v m g ∧ Keep No w w' := by
  have hsrt : (addrs m).Pairwise (· < ·) := by unfold addrs; rw [List.pairwise_map]; exact h.ok.srt
  exact vpages_of h hA (by omega) fun Bm W h1 h2 h3 => sortedU_any Bm hsrt W h1 h2 h3 hlen
end
end Go.Proofs.Ytaoillfofiehpaa
namespace Go.Proofs.Ytaoillfofiehpaa
open Go.RowKit Go.Dm Go.Dm.Vm Go.Maps
theorem srt_list {E : Array Nat} (h : Srt 0 E.size E) : E.toList.Pairwise (· ≤ ·) := by
  rw [List.pairwise_iff_getElem]
  intro i j hi hj hij
  have := h i j (Nat.zero_le _) hij (by simpa using hj)
  rw [getElem!_pos E i (by simpa using hi), getElem!_pos E j (by simpa using hj)] at this
  simpa using this
section
variable {A : Nat → Prop} {w : World} {d mb : Nat} {f : Nat → Nat} {m : V} {b : Nat}
set_option maxRecDepth 100000 in
set_option maxHeartbeats 4000000 in
/-- slices.Sort: the numbers, sorted -/
theorem sort_any {base : Nat} {v : Value} {D : Array Nat} (h : w.ownsRow base 24 1 v D.size (D.toList.map uv)) (hn : D.size < 65536) :
    Calls Try.prog 51 #[v] w fun e w' => e = .returned (.tuple #[]) ∧ ∃ E : Array Nat, E.toList.Perm D.toList ∧ E.toList.Pairwise (· ≤ ·) ∧ w'.ownsRow base 24 1 v D.size (E.toList.map uv) ∧ Keep (fun j => some j = v.ownBlock) w w' := by
  have hlen := fun w => len_any (D.size : Int) (by omega) (by omega) w
  rw [Int.toNat_natCast] at hlen
  have hbl := Lib.bitLen_le D.size 16 (by omega) (by omega)
  rcases h.2 with ⟨rfl, h0⟩ | ⟨g, cap, cur, rfl, _⟩
  · have hD : D = #[] := Array.eq_empty_of_size_eq_zero h0
    subst hD
    have hlen0 := hlen
    simp only [List.size_toArray, List.length_nil] at hlen
    have HL := Lib.hid hlen
    clear hlen hlen0 hbl
    go_enter Try.func51, Try.ntmps51
    go_wp2_with (first | (at_builtin; refine wl_append rfl _ _ _ _ rfl _ _ rfl rfl ?_) | (at_make; refine wl_make rfl _ _ _ rfl _ _ rfl rfl ?_) | (at_mapUpdate; refine wl_mapUpdate rfl _ _ _ _ rfl _ _ _ rfl rfl rfl ?_) | (at_lookup; refine wl_lookup rfl _ _ _ _ rfl _ _ rfl rfl ?_) | (at_delete; refine wl_delete rfl _ _ _ _ rfl _ _ rfl rfl ?_) | (with_reducible refine wl_len rfl _ _ rfl _ rfl ?_) | (with_reducible refine wl_range rfl _ _ rfl _ rfl ?_) | (with_reducible refine wl_next rfl _ rfl _ rfl ?_) | (with_reducible refine wl_copy rfl _ _ _ _ rfl _ _ rfl rfl ?_) | (with_reducible refine wl_max rfl _ _ _ _ rfl _ _ rfl rfl ?_) | (with_reducible refine wl_min rfl _ _ _ _ rfl _ _ rfl rfl ?_))
    refine (HL.out _).mono ?_
    rintro e W ⟨rfl, rfl⟩
    go_wp2_with (first | (at_builtin; refine wl_append rfl _ _ _ _ rfl _ _ rfl rfl ?_) | (at_make; refine wl_make rfl _ _ _ rfl _ _ rfl rfl ?_) | (at_mapUpdate; refine wl_mapUpdate rfl _ _ _ _ rfl _ _ _ rfl rfl rfl ?_) | (at_lookup; refine wl_lookup rfl _ _ _ _ rfl _ _ rfl rfl ?_) | (at_delete; refine wl_delete rfl _ _ _ _ rfl _ _ rfl rfl ?_) | (with_reducible refine wl_len rfl _ _ rfl _ rfl ?_) | (with_reducible refine wl_range rfl _ _ rfl _ rfl ?_) | (with_reducible refine wl_next rfl _ rfl _ rfl ?_) | (with_reducible refine wl_copy rfl _ _ _ _ rfl _ _ rfl rfl ?_) | (with_reducible refine wl_max rfl _ _ _ _ rfl _ _ rfl rfl ?_) | (with_reducible refine wl_min rfl _ _ _ _ rfl _ _ rfl rfl ?_))
    refine (pdq_nil _ _).mono ?_
    rintro e W ⟨rfl, rfl⟩
    go_wp2_with (first | (at_builtin; refine wl_append rfl _ _ _ _ rfl _ _ rfl rfl ?_) | (at_make; refine wl_make rfl _ _ _ rfl _ _ rfl rfl ?_) | (at_mapUpdate; refine wl_mapUpdate rfl _ _ _ _ rfl _ _ _ rfl rfl rfl ?_) | (at_lookup; refine wl_lookup rfl _ _ _ _ rfl _ _ rfl rfl ?_) | (at_delete; refine wl_delete rfl _ _ _ _ rfl _ _ rfl rfl ?_) | (with_reducible refine wl_len rfl _ _ rfl _ rfl ?_) | (with_reducible refine wl_range rfl _ _ rfl _ rfl ?_) | (with_reducible refine wl_next rfl _ rfl _ rfl ?_) | (with_reducible refine wl_copy rfl _ _ _ _ rfl _ _ rfl rfl ?_) | (with_reducible refine wl_max rfl _ _ _ _ rfl _ _ rfl rfl ?_) | (with_reducible refine wl_min rfl _ _ _ _ rfl _ _ rfl rfl ?_))
    go_end0
    exact ⟨rfl, #[], List.Perm.refl _, by simp, h, Keep.refl _ _⟩
  · have hp := pdq_any (D.size + 1) 0 D.size (Lib.bitLen D.size) D w (by omega) (show Nums w base g cap D from h) (Nat.zero_le _) (Nat.le_refl _) hn (by omega) (.inl rfl)
    rw [show ((0 : Nat) : Int) = 0 from rfl] at hp
    obtain ⟨n, hnn⟩ : ∃ n, n = D.size := ⟨_, rfl⟩
    rw [← hnn] at hlen hbl hp hn ⊢
    generalize Lib.bitLen n = k at *
    have HP := Lib.hid hp
    have HL := Lib.hid hlen
    have HN := Lib.hid hnn
    clear hp hlen h hnn
    go_enter Try.func51, Try.ntmps51
    go_wp2_with (first | (at_builtin; refine wl_append rfl _ _ _ _ rfl _ _ rfl rfl ?_) | (at_make; refine wl_make rfl _ _ _ rfl _ _ rfl rfl ?_) | (at_mapUpdate; refine wl_mapUpdate rfl _ _ _ _ rfl _ _ _ rfl rfl rfl ?_) | (at_lookup; refine wl_lookup rfl _ _ _ _ rfl _ _ rfl rfl ?_) | (at_delete; refine wl_delete rfl _ _ _ _ rfl _ _ rfl rfl ?_) | (with_reducible refine wl_len rfl _ _ rfl _ rfl ?_) | (with_reducible refine wl_range rfl _ _ rfl _ rfl ?_) | (with_reducible refine wl_next rfl _ rfl _ rfl ?_) | (with_reducible refine wl_copy rfl _ _ _ _ rfl _ _ rfl rfl ?_) | (with_reducible refine wl_max rfl _ _ _ _ rfl _ _ rfl rfl ?_) | (with_reducible refine wl_min rfl _ _ _ _ rfl _ _ rfl rfl ?_))
    refine (HL.out _).mono ?_
    rintro e W ⟨rfl, rfl⟩
    go_wp2_with (first | (at_builtin; refine wl_append rfl _ _ _ _ rfl _ _ rfl rfl ?_) | (at_make; refine wl_make rfl _ _ _ rfl _ _ rfl rfl ?_) | (at_mapUpdate; refine wl_mapUpdate rfl _ _ _ _ rfl _ _ _ rfl rfl rfl ?_) | (at_lookup; refine wl_lookup rfl _ _ _ _ rfl _ _ rfl rfl ?_) | (at_delete; refine wl_delete rfl _ _ _ _ rfl _ _ rfl rfl ?_) | (with_reducible refine wl_len rfl _ _ rfl _ rfl ?_) | (with_reducible refine wl_range rfl _ _ rfl _ rfl ?_) | (with_reducible refine wl_next rfl _ rfl _ rfl ?_) | (with_reducible refine wl_copy rfl _ _ _ _ rfl _ _ rfl rfl ?_) | (with_reducible refine wl_max rfl _ _ _ _ rfl _ _ rfl rfl ?_) | (with_reducible refine wl_min rfl _ _ _ _ rfl _ _ rfl rfl ?_))
    refine HP.out.mono ?_
    rintro e W ⟨rfl, E, h1, h2, h3, h4⟩
    go_wp2_with (first | (at_builtin; refine wl_append rfl _ _ _ _ rfl _ _ rfl rfl ?_) | (at_make; refine wl_make rfl _ _ _ rfl _ _ rfl rfl ?_) | (at_mapUpdate; refine wl_mapUpdate rfl _ _ _ _ rfl _ _ _ rfl rfl rfl ?_) | (at_lookup; refine wl_lookup rfl _ _ _ _ rfl _ _ rfl rfl ?_) | (at_delete; refine wl_delete rfl _ _ _ _ rfl _ _ rfl rfl ?_) | (with_reducible refine wl_len rfl _ _ rfl _ rfl ?_) | (with_reducible refine wl_range rfl _ _ rfl _ rfl ?_) | (with_reducible refine wl_next rfl _ rfl _ rfl ?_) | (with_reducible refine wl_copy rfl _ _ _ _ rfl _ _ rfl rfl ?_) | (with_reducible refine wl_max rfl _ _ _ _ rfl _ _ rfl rfl ?_) | (with_reducible refine wl_min rfl _ _ _ _ rfl _ _ rfl rfl ?_))
    go_end0
    have hs : E.size = n := h1.1.trans HN.out.symm
    have hperm : E.toList.Perm D.toList := by
      have := h1.2.2
      rw [HN.out] at this hs
      rw [← hs] at this
      rw [Array.extract_size, hs, Array.extract_size] at this
      exact this
    refine ⟨rfl, E, hperm, srt_list (by rw [hs]; exact h2), ?_, h4.mono fun j _ e => by rw [e]; rfl⟩
    have h5 : w.heap.size = w.heap.size := rfl
    unfold Nums at h3
    rw [hs] at h3
    exact h3
theorem sort_addrs_all {v : Value} {base : Nat} (ss : List Nat) (hp : ss.Perm (addrs m)) (hsrt : (addrs m).Pairwise (· < ·)) (hlen : m.length ≤ 512) (ho : w.ownsRow base 24 1 v m.length (ss.map uv)) :
    Calls Try.prog 51 #[v] w fun e w' => e = .returned (.tuple #[]) ∧ w'.ownsRow base 24 1 v m.length ((addrs m).map uv) ∧ Keep (fun j => some j = v.ownBlock) w w' := by
  have hsl : m.length = ss.toArray.size := by rw [List.size_toArray, hp.length_eq]; simp [addrs]
  rw [hsl] at ho hlen ⊢
  refine (sort_any (w := w) (D := ss.toArray) (v := v) ho (by omega)).mono ?_
  rintro e W ⟨h1, E, h2, h3, h4, h5⟩
  have he : E.toList = addrs m := List.Perm.eq_of_pairwise (le := fun a b : Nat => a ≤ b) (fun a b _ _ h1 h2 => Nat.le_antisymm h1 h2) h3 (hsrt.imp fun h => Nat.le_of_lt h) (h2.trans hp)
  rw [he] at h4
  exact ⟨h1, h4, h5⟩
/-- the pages of any memory -/
theorem vpages_all (h : SRep A w d m mb f) (hA : ∀ k, A k → k < w.heap.size) :
    Calls Try.prog 13 #[ptrTo d] w fun e w' => ∃ v g, e = .returned v ∧ PgsV w.heap.size w' v m g ∧ Keep No w w' := by
  have hsrt : (addrs m).Pairwise (· < ·) := by unfold addrs; rw [List.pairwise_map]; exact h.ok.srt
  have hl := h.ok.len
  exact vpages_of h hA hl fun Bm W h1 h2 h3 => sortedU_of Bm hsrt W h1 h2 h3 hl fun W v ss hp ho => sort_addrs_all (w := W) ss hp hsrt hl ho
end
end Go.Proofs.Ytaoillfofiehpaa
