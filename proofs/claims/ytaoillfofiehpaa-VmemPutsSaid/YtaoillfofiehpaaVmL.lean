/- Pages, of up to twelve. slices.Sort, slices.Sorted(maps.Keys(m)) at uint64, of any length below 65536; Pages of any number. The document's functions on lists of pages (chapter 13), as plain lists: they make what the model makes. Laws of memory in pages, in plain lists: what is stored is loaded; all else stays. No condition. -/
import Derived.Test.YtaoillfofiehpaaSortK
import Derived.Test.YtaoillfofiehpaaOct
set_option linter.unusedVariables false
set_option linter.unusedSimpArgs false
namespace Go.Proofs.Ytaoillfofiehpaa
open Go.RowKit Go.Dm Go.Dm.Vm Go.Maps Go.Dm.Oc Go.WideMaps Go.WideElems

/-- a page as it is told; its bytes lie in block g addr, from 4 on -/
def encP (g : Nat → Nat) (p : Pg) : List Value := [.int .u64 (p.addr : Int), .int .i64 (p.prot : Int), .bool p.dirty, .string ⟨p.file.toArray⟩, .int .u64 (p.off : Int), .slice (some ⟨g p.addr, 4, none⟩) 256 256]
structure PgsV (base : Nat) (w : World) (v : Value) (m : V) (g : Nat → Nat) : Prop where
  row : FlO w base 27 6 (encP g) v m
  pg : ∀ p ∈ m, base ≤ g p.addr ∧ Blk w (g p.addr) (pgC p) 67
theorem PgsV.no {base : Nat} {w w' : World} {v : Value} {m : V} {g : Nat → Nat} (h : PgsV base w v m g) (hk : Keep No w w') : PgsV base w' v m g :=
  ⟨h.row.no hk, fun p hp => ⟨(h.pg p hp).1, (h.pg p hp).2.keep hk fun h => h⟩⟩
theorem PgsV.base_le {base b2 : Nat} {w : World} {v : Value} {m : V} {g : Nat → Nat} (h : PgsV base w v m g) (hb : b2 ≤ base) : PgsV b2 w v m g :=
  ⟨World.ownsRow.base_le h.row hb, fun p hp => ⟨Nat.le_trans hb (h.pg p hp).1, (h.pg p hp).2⟩⟩
theorem encP_len (g : Nat → Nat) (p : Pg) : (encP g p).length = 6 := rfl
theorem encP_one (g : Nat → Nat) (p : Pg) : ∀ u ∈ encP g p, u.oneCell' = true := by
  intro u hu
  simp only [encP, List.mem_cons, List.not_mem_nil, or_false] at hu
  rcases hu with rfl | rfl | rfl | rfl | rfl | rfl <;> rfl
theorem pgT_info : (Try.prog.info? 27).map (fun i => (i.zero, i.size, i.bytes)) = some (some (.agg #[.int .u64 0, .int .i64 0, .bool false, .string ⟨#[]⟩, .int .u64 0, .slice none 0 0]), 6, 72) := by kernel_rfl
section
variable {A : Nat → Prop} {w : World} {d mb x y z u v : Nat} {f : Nat → Nat} {m : V}
set_option maxRecDepth 100000 in
set_option maxHeartbeats 4000000 in
theorem vpages_of (h : SRep A w d m mb f) (hA : ∀ k, A k → k < w.heap.size) (hlen : m.length ≤ 512)
    (hS : ∀ (Bm : Nat) (W : World), Bm < W.heap.size → W.cell? ⟨Bm, 0, none⟩ = some (.map (some mb)) → MapL Try.prog 24 W mb (VL f m) → Calls Try.prog 31 #[.func (.func 52) #[] #[.pointer (some ⟨Bm, 0, none⟩)]] W fun e W' => ∃ v : Value, e = .returned v ∧ W'.ownsRow W.heap.size 24 1 v m.length ((addrs m).map uv) ∧ Keep No W W') :
    Calls Try.prog 13 #[ptrTo d] w fun e w' => ∃ v g, e = .returned v ∧ PgsV w.heap.size w' v m g ∧ Keep No w w' := by
  have hsrt : (addrs m).Pairwise (· < ·) := by unfold addrs; rw [List.pairwise_map]; exact h.ok.srt
  have qd : w.cell? ⟨d, 0, none⟩ = some (.map (some mb)) := h.blk.cell 0
  have HS := Lib.hid hS
  clear hS
  unfold ptrTo
  go_enter Try.func13, Try.ntmps13
  go_wp2_with fail
  refine (keysU_any mb _).mono ?_
  rintro e W0 ⟨rfl, rfl⟩
  have hm1 := h.mp.same (w' := w.alloc (.cells #[.map (some mb)] 68)) (Below.heap_alloc _ _ _ h.mp.lt)
  have hk1 : Keep No w (w.alloc (.cells #[.map (some mb)] 68)) := (Keep.refl _ _).alloc _
  have hc1 : (w.alloc (.cells #[.map (some mb)] 68)).cell? ⟨w.heap.size, 0, none⟩ = some (.map (some mb)) := (Blk.new w _ _).cell 0
  have hs1 : (w.alloc (.cells #[.map (some mb)] 68)).heap.size = w.heap.size + 1 := World.size_alloc _ _
  generalize w.alloc (.cells #[.map (some mb)] 68) = W1 at *
  have hso := HS.out w.heap.size W1 (by omega) hc1 hm1
  clear hc1 hm1
  go_wp2_with fail
  refine hso.mono ?_
  rintro e W2 ⟨kv, rfl, ho, hk2⟩
  clear hso
  have hkw := hk1.trans' hk2
  have hbase : w.heap.size ≤ W1.heap.size := by omega
  clear hk1 hk2 hs1
  obtain ⟨a2, c2, rfl⟩ := own_shape ho
  have hal : (addrs m).length = m.length := by simp [addrs]
  have hkey : ∀ i (hi : i < m.length), ∃ g0, a2 = some ⟨g0, 0, none⟩ ∧ W2.cell? ⟨g0, i, none⟩ = some (.int .u64 (m[i].addr : Int)) ∧ w.heap.size ≤ g0 ∧ g0 < W2.heap.size := fun i hi => by
    rcases ho.2 with ⟨_, e0⟩ | ⟨g0, cap, cur, e, hb, _⟩
    · omega
    · cases e
      refine ⟨g0, rfl, ?_, by omega, (ho.lt g0 rfl).2⟩
      rw [ho.cellAt i (by omega), List.getElem?_map]
      unfold addrs
      rw [List.getElem?_map, List.getElem?_eq_getElem hi]
      rfl
  clear ho hsrt
  go_wp2_with fail
  go_loopw [3, 16] (fun ov iv wr => ∃ (i : Nat) (g : Nat → Nat), iv = .int .i64 i ∧ i ≤ m.length ∧ PgsV W2.heap.size wr ov (m.take i) g ∧ Keep No W2 wr) (fun _ iv _ => m.length - (intOf iv).toNat)
  case atStart => exact ⟨0, fun _ => 0, rfl, Nat.zero_le _, ⟨FlO.nil, fun p hp => (by simp at hp)⟩, Keep.refl _ _⟩
  case round =>
    obtain ⟨i, g, rfl, hi, hP, hk⟩ := hrel
    obtain ⟨ao, co, rfl, _, _⟩ := hP.row.fl.shape
    have hil : (m.take i).length = i := by rw [List.length_take]; omega
    rw [hil] at hP ⊢
    rcases Nat.lt_or_ge i m.length with hlt | hge
    · obtain ⟨g0, rfl, hkc, hg0, hgl⟩ := hkey i hlt
      have hkw2 := hkw.trans' hk
      have qd' : wr.cell? ⟨d, 0, none⟩ = some (.map (some mb)) := (hkw2.cell (p := ⟨d, 0, none⟩) h.blk.lt fun h => h).trans qd
      have qk : wr.cell? ⟨g0, i, none⟩ = some (.int .u64 (m[i].addr : Int)) := (hk.cell (p := ⟨g0, i, none⟩) hgl fun h => h).trans hkc
      have hS := h.no hA hkw2
      have hpm : m[i] ∈ m := List.getElem_mem hlt
      have hat := get_of_mem h.ok.srt hpm
      have hpok := h.ok.pg _ hpm
      have hlk := hS.lk (by have := hpok.lt; unfold top at this; omega) hat wr rfl
      have hBp := (hS.pg _ hpm).2
      have htk : m.take (i + 1) = m.take i ++ [m[i]] := List.take_succ_eq_append_getElem hlt
      have hne : ∀ q ∈ m.take i, q.addr ≠ m[i].addr := fun q hq e => by
        obtain ⟨j, hj, rfl⟩ := List.getElem_of_mem hq
        rw [List.getElem_take] at e
        have hj2 : j < i := by rw [hil] at hj; exact hj
        have := List.pairwise_iff_getElem.1 h.ok.srt j i (by omega) hlt hj2
        omega
      generalize m[i] = p at *
      have hltz : (i : Int) < (m.length : Int) := by omega
      have h1 := pgC_one p
      have hsz := pgC_size hpok.bl
      generalize hC : pgC p = C at *
      have hi2 : (Try.prog.info? 67).map (·.size) = some C.size := by rw [hsz]; kernel_rfl
      have hz0 : Try.zeroCells67.size = C.size := by rw [hsz]; kernel_rfl
      have HC := Lib.hid hC
      clear hC
      have HO := Lib.hid hpok
      clear hpok
      generalize f p.addr = gp at *
      go_wp2_with (at_lookup; refine wl_lookup rfl _ _ _ _ rfl _ _ rfl rfl ?_)
      refine .mk hlk ?_
      go_wp2_with (with_reducible refine wl_ld rfl _ 67 rfl _ rfl ?_)
      refine rg_ld hBp Try.underlying67 rfl hi2 ?_
      go_wp2_with (with_reducible refine wl_stAgg rfl _ _ _ rfl _ _ rfl rfl ?_)
      refine rg_stAgg (Blk.new wr _ _) hi2 hz0 h1 ?_
      intro w2 hb2 hk2 hs2
      have hka : Keep No wr (wr.alloc (.cells Try.zeroCells67 67)) := (Keep.refl _ _).alloc _
      have hk2' : Keep No wr w2 := hka.trans hk2 fun j hj e => by have e2 : j = wr.heap.size := e; omega
      have hsz2 : wr.heap.size < w2.heap.size := hb2.lt
      clear hk2 hs2 hka hlk hBp
      have hP2 : PgsV W2.heap.size w2 (.slice ao i co) (m.take i) g := hP.no hk2'
      have hkN := hk.trans' hk2'
      clear hP qk qd' hS hkw2 hkc hkey qd
      have hC := HC.out
      subst hC
      have b0 : w2.cell? ⟨wr.heap.size, 0, none⟩ = some (.int .i64 (p.prot : Int)) := hb2.cell 0
      have b1 : w2.cell? ⟨wr.heap.size, 1, none⟩ = some (.bool p.dirty) := hb2.cell 1
      have b2 : w2.cell? ⟨wr.heap.size, 2, none⟩ = some (.string ⟨p.file.toArray⟩) := hb2.cell 2
      have b3 : w2.cell? ⟨wr.heap.size, 3, none⟩ = some (.int .u64 (p.off : Int)) := hb2.cell 3
      have hwl : W2.heap.size ≤ wr.heap.size := hk.size
      have hw2l : W2.heap.size ≤ w2.heap.size := Nat.le_trans hwl hk2'.size
      clear h1 hsz hi2 hz0 HC hk hk2'
      have HB := Lib.hid hb2
      clear hb2
      generalize hnb : wr.heap.size = nb at *
      clear hnb
      go_wp2_with fail
      refine wp_region_sig (fun w' => w'.cell? ⟨nb, 0, none⟩ = some (.int .i64 (p.prot : Int)) ∧ w'.cell? ⟨nb, 1, none⟩ = some (.bool p.dirty) ∧ w'.cell? ⟨nb, 2, none⟩ = some (.string ⟨p.file.toArray⟩) ∧ w'.cell? ⟨nb, 3, none⟩ = some (.int .u64 (p.off : Int))) (fun j => decide (j ≤ 13)) [(0, true), (1, true), (2, true), (3, true), (4, true), (5, true), (6, true), (7, true), (8, true), (9, true), (10, true), (11, true), (12, true), (13, false), (14, false), (15, false)] (by kernel_rfl) (by kernel_rfl) (by intro c a d v w h; cases d <;> exact h) ⟨b0, b1, b2, b3⟩ ?_
      apply sig_still (o := ⟨some 28, _, _, _, _, _⟩) rfl rfl
      · intro w' hS
        obtain ⟨q1, q2, q3, q4⟩ := hS
        first | (go_simp; done) | (go_simp; rfl) | rfl
      go_frame
      apply sig_still (o := ⟨some 29, _, _, _, _, _⟩) rfl rfl
      · intro w' hS
        obtain ⟨q1, q2, q3, q4⟩ := hS
        first | (go_simp; done) | (go_simp; rfl) | rfl
      go_frame
      apply sig_still (o := ⟨some 30, _, _, _, _, _⟩) rfl rfl
      · intro w' hS
        obtain ⟨q1, q2, q3, q4⟩ := hS
        first | (go_simp; done) | (go_simp; rfl) | rfl
      go_frame
      apply sig_still (o := ⟨some 31, _, _, _, _, _⟩) rfl rfl
      · intro w' hS
        obtain ⟨q1, q2, q3, q4⟩ := hS
        first | (go_simp; done) | (go_simp; rfl) | rfl
      go_frame
      apply sig_still (o := ⟨some 32, _, _, _, _, _⟩) rfl rfl
      · intro w' hS
        obtain ⟨q1, q2, q3, q4⟩ := hS
        first | (go_simp; done) | (go_simp; rfl) | rfl
      go_frame
      apply sig_still (o := ⟨some 33, _, _, _, _, _⟩) rfl rfl
      · intro w' hS
        obtain ⟨q1, q2, q3, q4⟩ := hS
        first | (go_simp; done) | (go_simp; rfl) | rfl
      go_frame
      apply sig_still (o := ⟨some 34, _, _, _, _, _⟩) rfl rfl
      · intro w' hS
        obtain ⟨q1, q2, q3, q4⟩ := hS
        first | (go_simp; done) | (go_simp; rfl) | rfl
      go_frame
      apply sig_still (o := ⟨some 35, _, _, _, _, _⟩) rfl rfl
      · intro w' hS
        obtain ⟨q1, q2, q3, q4⟩ := hS
        first | (go_simp; done) | (go_simp; rfl) | rfl
      go_frame
      apply sig_still (o := ⟨some 36, _, _, _, _, _⟩) rfl rfl
      · intro w' hS
        obtain ⟨q1, q2, q3, q4⟩ := hS
        first | (go_simp; done) | (go_simp; rfl) | rfl
      go_frame
      apply sig_still (o := ⟨some 37, _, _, _, _, _⟩) rfl rfl
      · intro w' hS
        obtain ⟨q1, q2, q3, q4⟩ := hS
        first | (go_simp; done) | (go_simp; rfl) | rfl
      go_frame
      apply sig_still (o := ⟨some 38, _, _, _, _, _⟩) rfl rfl
      · intro w' hS
        obtain ⟨q1, q2, q3, q4⟩ := hS
        first | (go_simp; done) | (go_simp; rfl) | rfl
      go_frame
      apply sig_still (o := ⟨some 39, _, _, _, _, _⟩) rfl rfl
      · intro w' hS
        obtain ⟨q1, q2, q3, q4⟩ := hS
        first | (go_simp; done) | (go_simp; rfl) | rfl
      go_frame
      apply sig_still (o := ⟨some 40, _, _, _, _, _⟩) rfl rfl
      · intro w' hS
        obtain ⟨q1, q2, q3, q4⟩ := hS
        first | (go_simp; done) | (go_simp; rfl) | rfl
      go_frame
      refine sig_eff (o := ⟨some 41, _, _, _, _, _⟩) rfl rfl (fun K hKe => ?_)
      go_wp2_with fail
      have hwd : (w2.alloc (.cells #[.int .u64 (p.addr : Int), .int .i64 (p.prot : Int), .bool p.dirty, .string ⟨p.file.toArray⟩, .int .u64 (p.off : Int), .slice (some ⟨nb, 4, none⟩) 256 256] 27)).drew = w2.drew.alloc (.cells #[.int .u64 (p.addr : Int), .int .i64 (p.prot : Int), .bool p.dirty, .string ⟨p.file.toArray⟩, .int .u64 (p.off : Int), .slice (some ⟨nb, 4, none⟩) 256 256] 27) := rfl
      rw [hwd]
      clear hwd
      have hkd : Keep No w2 (w2.drew.alloc (.cells #[.int .u64 (p.addr : Int), .int .i64 (p.prot : Int), .bool p.dirty, .string ⟨p.file.toArray⟩, .int .u64 (p.off : Int), .slice (some ⟨nb, 4, none⟩) 256 256] 27)) := ((Keep.refl No w2).drew).alloc _
      refine ⟨fun _ => ⟨(hkd.cell (p := ⟨nb, 0, none⟩) hsz2 fun h => h).trans b0, (hkd.cell (p := ⟨nb, 1, none⟩) hsz2 fun h => h).trans b1, (hkd.cell (p := ⟨nb, 2, none⟩) hsz2 fun h => h).trans b2, (hkd.cell (p := ⟨nb, 3, none⟩) hsz2 fun h => h).trans b3⟩, ?_⟩
      clear b0 b1 b2 b3
      refine sig_eff (o := ⟨some 42, _, _, _, _, _⟩) rfl rfl (fun K hKe => ?_)
      refine wo_append _ _ _ _ rfl _ _ rfl rfl ?_
      have hrow : FlO w2.drew W2.heap.size 27 6 (encP fun a => if a = p.addr then nb else g a) (.slice ao i co) (m.take i) := by
        have h1 := hP2.row.no (Keep.refl No w2).drew
        unfold FlO at h1 ⊢
        have e : (m.take i).flatMap (encP fun a => if a = p.addr then nb else g a) = (m.take i).flatMap (encP g) := by
          rw [List.flatMap_def, List.flatMap_def]
          congr 1
          apply List.map_congr_left
          intro q hq
          simp only [encP, if_neg (hne q hq)]
        rw [e]
        exact h1
      refine rg_push (w := w2.drew) _ 72 Try.underlying22 pgT_info rfl (by decide) (enc := encP fun a => if a = p.addr then nb else g a) (x := p) (by simp [encP]) rfl (encP_one _ _) hrow (by rw [hil]; omega) (by decide) (by exact hw2l) ?_
      intro v' w3 ho3 hk3 _
      have hk3' : Keep No W2 w3 := (hkN.trans' (Keep.refl No w2).drew).own hrow hk3
      have hnbr : ∀ j, some j = (Value.slice ao i co).ownBlock → ∀ C, Blk w2 j C 67 → False := fun j hj C hB => by
        have h1 := hP2.row.2
        rcases h1 with ⟨e, _⟩ | ⟨g1, cap1, cur1, e, _, hB1, _⟩
        · rw [e] at hj; cases hj
        · rw [e] at hj
          simp only [Value.ownBlock, Option.some.injEq] at hj
          have hB' : w2.heap[j]? = some (Obj.cells C 67 (0, 0)) := hB
          rw [← hj, hB'] at hB1
          simp at hB1
      have hP3 : PgsV W2.heap.size w3 v' (m.take (i + 1)) (fun a => if a = p.addr then nb else g a) := by
        refine ⟨by rw [htk]; exact ho3, fun q hq => ?_⟩
        rw [htk, List.mem_append, List.mem_singleton] at hq
        have hkd2 : ∀ j C, Blk w2 j C 67 → Blk w3 j C 67 := fun j C hB => (hB.keep (Keep.refl No w2).drew fun h => h).keep hk3 fun e => hnbr j e C hB
        rcases hq with hq | rfl
        · simp only [if_neg (hne q hq)]
          exact ⟨(hP2.pg q hq).1, hkd2 _ _ (hP2.pg q hq).2⟩
        · simp only [if_true]
          exact ⟨hwl, hkd2 _ _ HB.out⟩
      clear hnbr hrow hkd hkN hP2 ho3 hk3
      refine hKe _ _ ⟨fun h => by simp at h, ?_⟩
      obtain ⟨ao2, co2, rfl, _, _⟩ := hP3.row.fl.shape
      have htl : (m.take (i + 1)).length = i + 1 := by rw [List.length_take]; omega
      rw [htl] at hP3 ⊢
      refine sig_eff (o := ⟨some 3, _, _, _, _, _⟩) rfl rfl (fun K hKe => ?_)
      go_wp2_with fail
      refine ⟨fun h => by simp at h, sig_nil ?_⟩
      go_wp2_with fail
      go_roundw
      case rel => exact ⟨i + 1, _, by go_num, hlt, hP3, hk3'⟩
      case measure => simp [intOf]; omega
    · obtain rfl : i = m.length := Nat.le_antisymm hi hge
      rw [List.take_length] at hP
      go_wp2_with fail
      go_ret
      exact ⟨_, g, rfl, hP.base_le hkw.size, hkw.trans' hk⟩
theorem vpages_any (h : SRep A w d m mb f) (hA : ∀ k, A k → k < w.heap.size) (hlen : m.length ≤ 12) :
    Calls Try.prog 13 #[ptrTo d] w fun e w' => ∃ v g, e = .returned v ∧ PgsV w.heap.size w' v m g ∧ Keep No w w' := by
  have hsrt : (addrs m).Pairwise (· < ·) := by unfold addrs; rw [List.pairwise_map]; exact h.ok.srt
  exact vpages_of h hA (by omega) fun Bm W h1 h2 h3 => sortedU_any Bm hsrt W h1 h2 h3 hlen
end
end Go.Proofs.Ytaoillfofiehpaa
namespace Go.Proofs.Ytaoillfofiehpaa
open Go.RowKit Go.Dm Go.Dm.Vm Go.Maps
theorem srt_list {E : Array Nat} (h : Srt 0 E.size E) : E.toList.Pairwise (· ≤ ·) := by
  rw [List.pairwise_iff_getElem]
  intro i j hi hj hij
  have := h i j (Nat.zero_le _) hij (by simpa using hj)
  rw [getElem!_pos E i (by simpa using hi), getElem!_pos E j (by simpa using hj)] at this
  simpa using this
section
variable {A : Nat → Prop} {w : World} {d mb : Nat} {f : Nat → Nat} {m : V} {b : Nat}
set_option maxRecDepth 100000 in
set_option maxHeartbeats 4000000 in
/-- slices.Sort: the numbers, sorted -/
theorem sort_any {base : Nat} {v : Value} {D : Array Nat} (h : w.ownsRow base 24 1 v D.size (D.toList.map uv)) (hn : D.size < 65536) :
    Calls Try.prog 51 #[v] w fun e w' => e = .returned (.tuple #[]) ∧ ∃ E : Array Nat, E.toList.Perm D.toList ∧ E.toList.Pairwise (· ≤ ·) ∧ w'.ownsRow base 24 1 v D.size (E.toList.map uv) ∧ Keep (fun j => some j = v.ownBlock) w w' := by
  have hlen := fun w => len_any (D.size : Int) (by omega) (by omega) w
  rw [Int.toNat_natCast] at hlen
  have hbl := Lib.bitLen_le D.size 16 (by omega) (by omega)
  rcases h.2 with ⟨rfl, h0⟩ | ⟨g, cap, cur, rfl, _⟩
  · have hD : D = #[] := Array.eq_empty_of_size_eq_zero h0
    subst hD
    have hlen0 := hlen
    simp only [List.size_toArray, List.length_nil] at hlen
    have HL := Lib.hid hlen
    clear hlen hlen0 hbl
    go_enter Try.func51, Try.ntmps51
    go_wp2_with (first | (at_builtin; refine wl_append rfl _ _ _ _ rfl _ _ rfl rfl ?_) | (at_make; refine wl_make rfl _ _ _ rfl _ _ rfl rfl ?_) | (at_mapUpdate; refine wl_mapUpdate rfl _ _ _ _ rfl _ _ _ rfl rfl rfl ?_) | (at_lookup; refine wl_lookup rfl _ _ _ _ rfl _ _ rfl rfl ?_) | (at_delete; refine wl_delete rfl _ _ _ _ rfl _ _ rfl rfl ?_) | (with_reducible refine wl_len rfl _ _ rfl _ rfl ?_) | (with_reducible refine wl_range rfl _ _ rfl _ rfl ?_) | (with_reducible refine wl_next rfl _ rfl _ rfl ?_) | (with_reducible refine wl_copy rfl _ _ _ _ rfl _ _ rfl rfl ?_) | (with_reducible refine wl_max rfl _ _ _ _ rfl _ _ rfl rfl ?_) | (with_reducible refine wl_min rfl _ _ _ _ rfl _ _ rfl rfl ?_))
    refine (HL.out _).mono ?_
    rintro e W ⟨rfl, rfl⟩
    go_wp2_with (first | (at_builtin; refine wl_append rfl _ _ _ _ rfl _ _ rfl rfl ?_) | (at_make; refine wl_make rfl _ _ _ rfl _ _ rfl rfl ?_) | (at_mapUpdate; refine wl_mapUpdate rfl _ _ _ _ rfl _ _ _ rfl rfl rfl ?_) | (at_lookup; refine wl_lookup rfl _ _ _ _ rfl _ _ rfl rfl ?_) | (at_delete; refine wl_delete rfl _ _ _ _ rfl _ _ rfl rfl ?_) | (with_reducible refine wl_len rfl _ _ rfl _ rfl ?_) | (with_reducible refine wl_range rfl _ _ rfl _ rfl ?_) | (with_reducible refine wl_next rfl _ rfl _ rfl ?_) | (with_reducible refine wl_copy rfl _ _ _ _ rfl _ _ rfl rfl ?_) | (with_reducible refine wl_max rfl _ _ _ _ rfl _ _ rfl rfl ?_) | (with_reducible refine wl_min rfl _ _ _ _ rfl _ _ rfl rfl ?_))
    refine (pdq_nil _ _).mono ?_
    rintro e W ⟨rfl, rfl⟩
    go_wp2_with (first | (at_builtin; refine wl_append rfl _ _ _ _ rfl _ _ rfl rfl ?_) | (at_make; refine wl_make rfl _ _ _ rfl _ _ rfl rfl ?_) | (at_mapUpdate; refine wl_mapUpdate rfl _ _ _ _ rfl _ _ _ rfl rfl rfl ?_) | (at_lookup; refine wl_lookup rfl _ _ _ _ rfl _ _ rfl rfl ?_) | (at_delete; refine wl_delete rfl _ _ _ _ rfl _ _ rfl rfl ?_) | (with_reducible refine wl_len rfl _ _ rfl _ rfl ?_) | (with_reducible refine wl_range rfl _ _ rfl _ rfl ?_) | (with_reducible refine wl_next rfl _ rfl _ rfl ?_) | (with_reducible refine wl_copy rfl _ _ _ _ rfl _ _ rfl rfl ?_) | (with_reducible refine wl_max rfl _ _ _ _ rfl _ _ rfl rfl ?_) | (with_reducible refine wl_min rfl _ _ _ _ rfl _ _ rfl rfl ?_))
    go_end0
    exact ⟨rfl, #[], List.Perm.refl _, by simp, h, Keep.refl _ _⟩
  · have hp := pdq_any (D.size + 1) 0 D.size (Lib.bitLen D.size) D w (by omega) (show Nums w base g cap D from h) (Nat.zero_le _) (Nat.le_refl _) hn (by omega) (.inl rfl)
    rw [show ((0 : Nat) : Int) = 0 from rfl] at hp
    obtain ⟨n, hnn⟩ : ∃ n, n = D.size := ⟨_, rfl⟩
    rw [← hnn] at hlen hbl hp hn ⊢
    generalize Lib.bitLen n = k at *
    have HP := Lib.hid hp
    have HL := Lib.hid hlen
    have HN := Lib.hid hnn
    clear hp hlen h hnn
    go_enter Try.func51, Try.ntmps51
    go_wp2_with (first | (at_builtin; refine wl_append rfl _ _ _ _ rfl _ _ rfl rfl ?_) | (at_make; refine wl_make rfl _ _ _ rfl _ _ rfl rfl ?_) | (at_mapUpdate; refine wl_mapUpdate rfl _ _ _ _ rfl _ _ _ rfl rfl rfl ?_) | (at_lookup; refine wl_lookup rfl _ _ _ _ rfl _ _ rfl rfl ?_) | (at_delete; refine wl_delete rfl _ _ _ _ rfl _ _ rfl rfl ?_) | (with_reducible refine wl_len rfl _ _ rfl _ rfl ?_) | (with_reducible refine wl_range rfl _ _ rfl _ rfl ?_) | (with_reducible refine wl_next rfl _ rfl _ rfl ?_) | (with_reducible refine wl_copy rfl _ _ _ _ rfl _ _ rfl rfl ?_) | (with_reducible refine wl_max rfl _ _ _ _ rfl _ _ rfl rfl ?_) | (with_reducible refine wl_min rfl _ _ _ _ rfl _ _ rfl rfl ?_))
    refine (HL.out _).mono ?_
    rintro e W ⟨rfl, rfl⟩
    go_wp2_with (first | (at_builtin; refine wl_append rfl _ _ _ _ rfl _ _ rfl rfl ?_) | (at_make; refine wl_make rfl _ _ _ rfl _ _ rfl rfl ?_) | (at_mapUpdate; refine wl_mapUpdate rfl _ _ _ _ rfl _ _ _ rfl rfl rfl ?_) | (at_lookup; refine wl_lookup rfl _ _ _ _ rfl _ _ rfl rfl ?_) | (at_delete; refine wl_delete rfl _ _ _ _ rfl _ _ rfl rfl ?_) | (with_reducible refine wl_len rfl _ _ rfl _ rfl ?_) | (with_reducible refine wl_range rfl _ _ rfl _ rfl ?_) | (with_reducible refine wl_next rfl _ rfl _ rfl ?_) | (with_reducible refine wl_copy rfl _ _ _ _ rfl _ _ rfl rfl ?_) | (with_reducible refine wl_max rfl _ _ _ _ rfl _ _ rfl rfl ?_) | (with_reducible refine wl_min rfl _ _ _ _ rfl _ _ rfl rfl ?_))
    refine HP.out.mono ?_
    rintro e W ⟨rfl, E, h1, h2, h3, h4⟩
    go_wp2_with (first | (at_builtin; refine wl_append rfl _ _ _ _ rfl _ _ rfl rfl ?_) | (at_make; refine wl_make rfl _ _ _ rfl _ _ rfl rfl ?_) | (at_mapUpdate; refine wl_mapUpdate rfl _ _ _ _ rfl _ _ _ rfl rfl rfl ?_) | (at_lookup; refine wl_lookup rfl _ _ _ _ rfl _ _ rfl rfl ?_) | (at_delete; refine wl_delete rfl _ _ _ _ rfl _ _ rfl rfl ?_) | (with_reducible refine wl_len rfl _ _ rfl _ rfl ?_) | (with_reducible refine wl_range rfl _ _ rfl _ rfl ?_) | (with_reducible refine wl_next rfl _ rfl _ rfl ?_) | (with_reducible refine wl_copy rfl _ _ _ _ rfl _ _ rfl rfl ?_) | (with_reducible refine wl_max rfl _ _ _ _ rfl _ _ rfl rfl ?_) | (with_reducible refine wl_min rfl _ _ _ _ rfl _ _ rfl rfl ?_))
    go_end0
    have hs : E.size = n := h1.1.trans HN.out.symm
    have hperm : E.toList.Perm D.toList := by
      have := h1.2.2
      rw [HN.out] at this hs
      rw [← hs] at this
      rw [Array.extract_size, hs, Array.extract_size] at this
      exact this
    refine ⟨rfl, E, hperm, srt_list (by rw [hs]; exact h2), ?_, h4.mono fun j _ e => by rw [e]; rfl⟩
    have h5 : w.heap.size = w.heap.size := rfl
    unfold Nums at h3
    rw [hs] at h3
    exact h3
theorem sort_addrs_all {v : Value} {base : Nat} (ss : List Nat) (hp : ss.Perm (addrs m)) (hsrt : (addrs m).Pairwise (· < ·)) (hlen : m.length ≤ 512) (ho : w.ownsRow base 24 1 v m.length (ss.map uv)) :
    Calls Try.prog 51 #[v] w fun e w' => e = .returned (.tuple #[]) ∧ w'.ownsRow base 24 1 v m.length ((addrs m).map uv) ∧ Keep (fun j => some j = v.ownBlock) w w' := by
  have hsl : m.length = ss.toArray.size := by rw [List.size_toArray, hp.length_eq]; simp [addrs]
  rw [hsl] at ho hlen ⊢
  refine (sort_any (w := w) (D := ss.toArray) (v := v) ho (by omega)).mono ?_
  rintro e W ⟨h1, E, h2, h3, h4, h5⟩
  have he : E.toList = addrs m := List.Perm.eq_of_pairwise (le := fun a b : Nat => a ≤ b) (fun a b _ _ h1 h2 => Nat.le_antisymm h1 h2) h3 (hsrt.imp fun h => Nat.le_of_lt h) (h2.trans hp)
  rw [he] at h4
  exact ⟨h1, h4, h5⟩
/-- the pages of any memory -/
theorem vpages_all (h : SRep A w d m mb f) (hA : ∀ k, A k → k < w.heap.size) :
    Calls Try.prog 13 #[ptrTo d] w fun e w' => ∃ v g, e = .returned v ∧ PgsV w.heap.size w' v m g ∧ Keep No w w' := by
  have hsrt : (addrs m).Pairwise (· < ·) := by unfold addrs; rw [List.pairwise_map]; exact h.ok.srt
  have hl := h.ok.len
  exact vpages_of h hA hl fun Bm W h1 h2 h3 => sortedU_of Bm hsrt W h1 h2 h3 hl fun W v ss hp ho => sort_addrs_all (w := W) ss hp hsrt hl ho
end
end Go.Proofs.Ytaoillfofiehpaa
namespace Go.Dm.Vm
open Go Go.Proofs.Ytaoillfofiehpaa Go.Dm.Oc

/-- a page in the place of its like, or where it belongs: the rest of the list, and whether it was put -/
def withP (p : Pg) : V → Bool → V
  | [], true => []
  | [], false => [p]
  | q :: r, put => (if !put && decide (p.addr ≤ q.addr) then [p] else []) ++ ((if q.addr ≠ p.addr then [q] else []) ++ withP p r (put || decide (p.addr ≤ q.addr)))
theorem withP_done {p : Pg} {m : V} (h : ∀ q ∈ m, q.addr ≠ p.addr) : withP p m true = m := by
  induction m with
  | nil => rfl
  | cons q r ih =>
    simp only [withP, Bool.not_true, Bool.false_and, Bool.false_eq_true, if_false, List.nil_append, Bool.true_or]
    rw [if_pos (h q (List.mem_cons_self ..)), ih fun x hx => h x (List.mem_cons_of_mem _ hx)]
    rfl
theorem withP_new {p : Pg} {m : V} (hs : m.Pairwise (fun p q => p.addr < q.addr)) (h : ∀ q ∈ m, q.addr ≠ p.addr) : withP p m false = insP p m := by
  induction m with
  | nil => rfl
  | cons q r ih =>
    rw [List.pairwise_cons] at hs
    have hq := h q (List.mem_cons_self ..)
    have hr : ∀ x ∈ r, x.addr ≠ p.addr := fun x hx => h x (List.mem_cons_of_mem _ hx)
    unfold withP insP
    rw [if_pos hq]
    by_cases hlt : p.addr < q.addr
    · have hle : p.addr ≤ q.addr := by omega
      simp only [hle, hlt, decide_true, Bool.not_false, Bool.and_self, if_true, Bool.or_true, withP_done hr]
      rfl
    · have hle : ¬ p.addr ≤ q.addr := by omega
      simp only [hle, hlt, decide_false, Bool.not_false, Bool.and_false, Bool.false_eq_true, if_false, Bool.or_false, List.nil_append, ih hs.2 hr]
      rfl
theorem withP_upd {p : Pg} {m : V} (hs : m.Pairwise (fun p q => p.addr < q.addr)) (h : ∃ q ∈ m, q.addr = p.addr) : withP p m false = upd m p.addr (fun _ => p) := by
  induction m with
  | nil => obtain ⟨_, h, _⟩ := h; cases h
  | cons q r ih =>
    rw [List.pairwise_cons] at hs
    unfold withP upd
    by_cases hq : q.addr = p.addr
    · have hr : ∀ x ∈ r, x.addr ≠ p.addr := fun x hx => by have := hs.1 x hx; omega
      have hle : p.addr ≤ q.addr := by omega
      simp only [hle, decide_true, Bool.not_false, Bool.and_self, if_true, Bool.or_true, withP_done hr, List.map_cons]
      rw [if_pos hq, if_neg (by simpa using hq)]
      show p :: r = p :: _
      congr 1
      conv => lhs; rw [← List.map_id r]
      apply List.map_congr_left
      intro x hx
      rw [if_neg (hr x hx)]
      rfl
    · obtain ⟨x, hx, ex⟩ := h
      have hxr : x ∈ r := (List.mem_cons.1 hx).resolve_left fun e => hq (e ▸ ex)
      have hle : ¬ p.addr ≤ q.addr := by have := hs.1 x hxr; omega
      have := ih hs.2 ⟨x, hxr, ex⟩
      unfold upd at this
      simp only [hle, decide_false, Bool.not_false, Bool.and_false, Bool.false_eq_true, if_false, Bool.or_false, List.nil_append, this, List.map_cons]
      rw [if_pos hq, if_neg hq]
      rfl
theorem upd_upd (m : V) (a : Nat) {g1 g2 : Pg → Pg} (h1 : ∀ p, (g1 p).addr = p.addr) : upd (upd m a g1) a g2 = upd m a (fun p => g2 (g1 p)) := by
  unfold upd
  rw [List.map_map]
  apply List.map_congr_left
  intro p _
  simp only [Function.comp]
  by_cases e : p.addr = a
  · rw [if_pos e, if_pos (by rw [h1]; exact e), if_pos e]
  · rw [if_neg e, if_neg e, if_neg e]
theorem upd_id (m : V) (a : Nat) {g : Pg → Pg} (h : ∀ p ∈ m, p.addr = a → g p = p) : upd m a g = m := by
  unfold upd
  conv => rhs; rw [← List.map_id m]
  apply List.map_congr_left
  intro p hp
  split
  · rename_i e; exact h p hp e
  · rfl
theorem setB_upd (m : V) (a : Nat) (c : UInt8) : setB m a c = upd m (pageOf a) (fun p => { p with b := p.b.set (a % 256) c }) := rfl
/-- bytes within one page -/
theorem writeB_page (m : V) (a : Nat) (c : List UInt8) (h : a % 256 + c.length ≤ 256) : writeB m a c = upd m (pageOf a) (fun p => { p with b := setR p.b (a % 256) c }) := by
  induction c generalizing m a with
  | nil => exact (upd_id m _ fun p _ _ => rfl).symm
  | cons x r ih =>
    rw [List.length_cons] at h
    unfold writeB
    cases r with
    | nil => rw [setB_upd]; rfl
    | cons y t =>
      rw [List.length_cons] at h
      have e1 : pageOf (a + 1) = pageOf a := by unfold pageOf; omega
      have e2 : (a + 1) % 256 = a % 256 + 1 := by omega
      rw [ih _ (a + 1) (by rw [e2, List.length_cons]; omega), e1, e2, setB_upd, upd_upd]
      · rfl
      · intro p; rfl
theorem writeB_append (m : V) (a : Nat) (b c : List UInt8) : writeB m a (b ++ c) = writeB (writeB m a b) (a + b.length) c := by
  induction b generalizing m a with
  | nil => rfl
  | cons x r ih =>
    show writeB (setB m a x) (a + 1) (r ++ c) = writeB (writeB (setB m a x) (a + 1) r) (a + (r.length + 1)) c
    rw [ih, show a + 1 + r.length = a + (r.length + 1) by omega]
end Go.Dm.Vm
namespace Go.Dm.Vm
open Go Go.Proofs.Ytaoillfofiehpaa Go.Dm.Oc

/-- all pages from lo up to hi are there, and that may be done with them -/
def Full (m : V) (lo hi prot : Nat) : Prop := ∀ x, x % 256 = 0 → lo ≤ x → x < hi → ∃ p, pageAt m x = some p ∧ p.prot = prot
theorem Full.there {m : V} {lo hi prot a n : Nat} (h : Full m lo hi prot) (hlo : lo % 256 = 0) (h1 : lo ≤ a) (h2 : a + n ≤ hi) (hn : 0 < n) : there m a n = true := by
  rw [there_take]
  intro k hk
  have := (pages_step a n k hn).2 hk
  obtain ⟨p, hp, _⟩ := h (pageOf a + 256 * k) (by unfold pageOf; omega) (by unfold pageOf; omega) (by omega)
  rw [hp]; rfl
theorem Full.held {m : V} {lo hi prot a n : Nat} (h : Full m lo hi prot) (hlo : lo % 256 = 0) (h1 : lo ≤ a) (h2 : a + n ≤ hi) (hn : 0 < n) (hh : hi ≤ top) (hs : n ≤ 131328) : heldE m a n = 0 := by
  unfold heldE
  rw [if_neg (by omega), if_pos (h.there hlo h1 h2 hn)]
theorem Full.allowed {m : V} {lo hi prot a n what : Nat} (h : Full m lo hi prot) (hlo : lo % 256 = 0) (h1 : lo ≤ a) (h2 : a + n ≤ hi) (hn : 0 < n) (hp : prot &&& what ≠ 0) : allowedE m a n what = 0 := by
  unfold allowedE
  rw [if_pos]
  unfold pagesOf
  rw [List.all_eq_true]
  intro x hx
  obtain ⟨k, hk, rfl⟩ := List.mem_map.1 hx
  have := (pages_step a n k hn).2 (List.mem_range.1 hk)
  obtain ⟨p, hpp, hpr⟩ := h (pageOf a + 256 * k) (by unfold pageOf; omega) (by unfold pageOf; omega) (by omega)
  unfold allow1E
  rw [hpp]
  simp only [hpr]
  rw [if_neg hp]
  rfl
theorem Full.num {m : V} {lo hi prot a what : Nat} {n : Int} (h : Full m lo hi prot) (hlo : lo % 256 = 0) (hw : n = 1 ∨ n = 2 ∨ n = 4 ∨ n = 8) (h1 : lo ≤ a) (h2 : a + n.toNat ≤ hi) (hh : hi ≤ top) (hp : prot &&& what ≠ 0) : numE m a n what = 0 := by
  unfold numE
  rw [if_pos hw, if_pos (h.held hlo h1 h2 (by omega) hh (by omega))]
  exact h.allowed hlo h1 h2 (by omega) hp
theorem Full.upd {m : V} {lo hi prot a : Nat} {g : Pg → Pg} (h : Full m lo hi prot) (hg : ∀ p, (g p).addr = p.addr) (hp : ∀ p, (g p).prot = p.prot) : Full (upd m a g) lo hi prot := by
  intro x h1 h2 h3
  obtain ⟨p, hpp, hpr⟩ := h x h1 h2 h3
  refine ⟨_, by rw [pageAt_upd m hg, hpp]; rfl, ?_⟩
  show (if p.addr = a then g p else p).prot = prot
  split
  · rw [hp, hpr]
  · exact hpr
theorem Full.updN {m : V} {lo hi prot a k : Nat} {g : Pg → Pg} (h : Full m lo hi prot) (hg : ∀ p, (g p).addr = p.addr) (hp : ∀ p, (g p).prot = p.prot) : Full (updN g m a k) lo hi prot := by
  induction k with
  | zero => exact h
  | succ k ih => exact ih.upd hg hp
theorem Full.write {m : V} {lo hi prot : Nat} (h : Full m lo hi prot) (a : Nat) (b : List UInt8) : Full (writeB m a b) lo hi prot := by
  induction b generalizing m a with
  | nil => exact h
  | cons c r ih => exact ih (Full.upd (g := fun p => { p with b := p.b.set (a % 256) c }) h (fun _ => rfl) (fun _ => rfl)) (a + 1)
theorem Full.store {m : V} {lo hi prot : Nat} (h : Full m lo hi prot) (a : Nat) (n : Int) (x : Nat) : Full (storeV m a n x) lo hi prot := by
  unfold storeV
  split
  · exact (h.write _ _).updN (g := dirt) (fun _ => rfl) (fun _ => rfl)
  · exact h
theorem byteAt_upd {m : V} {a y : Nat} {g : Pg → Pg} (hg : ∀ p, (g p).addr = p.addr) (hb : ∀ p, (g p).b = p.b) : byteAt (upd m a g) y = byteAt m y := by
  unfold byteAt
  rw [pageAt_upd m hg]
  cases pageAt m (pageOf y) with
  | none => rfl
  | some p =>
    simp only [Option.map_some]
    split
    · rw [hb]
    · rfl
theorem byteAt_updN {m : V} {a y k : Nat} {g : Pg → Pg} (hg : ∀ p, (g p).addr = p.addr) (hb : ∀ p, (g p).b = p.b) : byteAt (updN g m a k) y = byteAt m y := by
  induction k with
  | zero => rfl
  | succ k ih => unfold updN; rw [byteAt_upd hg hb, ih]
theorem byteAt_setB {m : V} {a y : Nat} {c : UInt8} (ho : Ok m) (hp : ∃ p, pageAt m (pageOf a) = some p) : byteAt (setB m a c) y = if y = a then c else byteAt m y := by
  unfold byteAt
  rw [pageAt_setB]
  by_cases hpg : pageOf y = pageOf a
  · obtain ⟨p, hp⟩ := hp
    rw [hpg, hp]
    obtain ⟨hpm, hpa⟩ := get_mem hp
    have hl := (ho.pg p hpm).bl
    simp only [Option.map_some]
    rw [if_pos hpa]
    simp only
    by_cases e : y = a
    · subst e
      rw [if_pos rfl, List.getD_eq_getElem?_getD, List.getElem?_set_self (by rw [hl]; exact Nat.mod_lt _ (by decide))]
      rfl
    · rw [if_neg e, List.getD_eq_getElem?_getD, List.getElem?_set_ne (by unfold pageOf at hpg; omega), List.getD_eq_getElem?_getD]
  · rw [if_neg (fun e => hpg (by rw [e]))]
    cases hq : pageAt m (pageOf y) with
    | none => rfl
    | some p =>
      simp only [Option.map_some]
      rw [if_neg (by rw [(get_mem hq).2]; exact hpg)]
theorem byteAt_writeB {m : V} (b : List UInt8) (ho : Ok m) (a y : Nat) (ht : ∀ i, i < b.length → ∃ p, pageAt m (pageOf (a + i)) = some p) : byteAt (writeB m a b) y = if a ≤ y ∧ y < a + b.length then b.getD (y - a) 0 else byteAt m y := by
  induction b generalizing m a with
  | nil => rw [if_neg (by rw [List.length_nil]; omega)]; rfl
  | cons c r ih =>
    have h0 := ht 0 (by simp)
    rw [Nat.add_zero] at h0
    show byteAt (writeB (setB m a c) (a + 1) r) y = _
    rw [ih (setB_ok ho a c) (a + 1) fun i hi => ?_, byteAt_setB ho h0]
    · rw [List.length_cons]
      by_cases e : y = a
      · subst e
        rw [if_neg (by omega), if_pos rfl, if_pos (by omega), Nat.sub_self]
        rfl
      · rw [if_neg e]
        by_cases h : a + 1 ≤ y ∧ y < a + 1 + r.length
        · rw [if_pos h, if_pos (by omega), show y - a = (y - (a + 1)) + 1 by omega]
          rfl
        · rw [if_neg h, if_neg (by omega)]
    · obtain ⟨p, hp⟩ := ht (i + 1) (by simpa using hi)
      rw [show a + 1 + i = a + (i + 1) by omega]
      exact ⟨_, by rw [pageAt_setB, hp]; rfl⟩
/-- what is stored is loaded -/
theorem read_store {m : V} (ho : Ok m) {a : Nat} {n : Int} {x : Nat} (hE : numE m a n 2 = 0) (y k : Nat) : readB (storeV m a n x) y k = (List.range k).map fun i => if a ≤ y + i ∧ y + i < a + n.toNat then (le n.toNat x).getD (y + i - a) 0 else byteAt m (y + i) := by
  unfold readB
  apply List.map_congr_left
  intro i _
  unfold storeV
  rw [if_pos hE, byteAt_updN (g := dirt) (fun _ => rfl) (fun _ => rfl), byteAt_writeB _ ho, le_len]
  intro j hj
  rw [le_len] at hj
  have hp : heldE m a n.toNat = 0 := by
    unfold numE at hE
    split at hE
    · split at hE
      · assumption
      · rename_i h; exact absurd hE h
    · cases hE
  exact there_at (held_parts hp).2.2.2 hj
theorem load_store {m : V} (ho : Ok m) {a : Nat} {n : Int} {x : Nat} (hE : numE m a n 2 = 0) (hL : numE (storeV m a n x) a n 4 = 0) : loadX (storeV m a n x) a n = x % 256 ^ n.toNat := by
  unfold loadX
  rw [if_pos (show loadE (storeV m a n x) a n = 0 from hL), read_store ho hE]
  have e : ((List.range n.toNat).map fun i => if a ≤ a + i ∧ a + i < a + n.toNat then (le n.toNat x).getD (a + i - a) 0 else byteAt m (a + i)) = le n.toNat x := by
    apply List.ext_getElem
    · rw [List.length_map, List.length_range, le_len]
    · intro i h1 h2
      rw [List.length_map, List.length_range] at h1
      rw [List.getElem_map, List.getElem_range, if_pos (by omega), Nat.add_sub_cancel_left, List.getD_eq_getElem?_getD, List.getElem?_eq_getElem h2]
      rfl
  rw [e, leN_le]
theorem dirt_ok' (p : Pg) (h : PgOk p) : PgOk (dirt p) := ⟨h.al, h.lt, h.pr, h.bl, h.ol, h.fl⟩
theorem store_ok {m : V} (ho : Ok m) (a : Nat) (n : Int) (x : Nat) : Ok (storeV m a n x) := by
  unfold storeV
  split
  · exact updN_ok (g := dirt) (writeB_ok ho _ _) (fun _ => rfl) dirt_ok' _ _
  · exact ho
theorem read_write {m : V} (ho : Ok m) {a : Nat} {b : List UInt8} (hh : heldE m a b.length = 0) : readB (writeB m a b) a b.length = b := by
  unfold readB
  apply List.ext_getElem
  · rw [List.length_map, List.length_range]
  · intro i h1 h2
    rw [List.length_map, List.length_range] at h1
    rw [List.getElem_map, List.getElem_range, byteAt_writeB b ho a (a + i) (fun j hj => there_at (held_parts hh).2.2.2 hj), if_pos (by omega), Nat.add_sub_cancel_left, List.getD_eq_getElem?_getD, List.getElem?_eq_getElem h2]
    rfl
end Go.Dm.Vm
