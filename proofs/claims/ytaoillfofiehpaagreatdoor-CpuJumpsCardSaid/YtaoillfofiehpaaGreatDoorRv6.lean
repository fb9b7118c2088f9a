/- The document's example of chapter 13 comes out as it should (awake). Pages as the document's list, and the document's comparison (chapter 13). The document's Peek, number (chapter 13). No condition. -/
import Derived.Test.YtaoillfofiehpaaGreatDoorVmPut
import Derived.Test.YtaoillfofiehpaaGreatDoorRv4
import Derived.Laws.StructEq
set_option linter.unusedVariables false
set_option linter.unusedSimpArgs false
namespace Go.Dm.Vm
open Go Go.Proofs.YtaoillfofiehpaaGreatDoor
def awM2 : V := mapV [] 256 512 7 [102] 0
def awM3 : V := storeV awM2 300 8 7
theorem aw_map : mapE [] 256 512 7 = 0 := by decide
theorem aw_store : numE awM2 300 8 2 = 0 := by kernel_rfl
theorem aw_loadE : loadE awM3 300 8 = 0 := by kernel_rfl
theorem aw_loadX : loadX awM3 300 8 = 7 := by kernel_rfl
theorem aw_len : awM3.length = 2 := by kernel_rfl
theorem aw_fetch : fetchE awM3 256 = 0 := by kernel_rfl
theorem aw_dirty : awM3.map (fun p => (p.dirty, p.off)) = [(true, 0), (false, 256)] := by kernel_rfl
theorem aw_prot : protE awM3 256 256 4 = 0 := by kernel_rfl
theorem aw_unmap : unmapE (protV awM3 256 256 4) 256 256 = 0 := by kernel_rfl
def rawR (p : Pg) : PgR := ⟨p.addr, p.prot, p.dirty, p.file, p.off, p.b⟩
theorem aw_put : putE none (awM3.map rawR) = 0 := by kernel_rfl
theorem toPg_raw (m : V) : (m.map rawR).map toPg = m := by
  rw [List.map_map]
  conv => rhs; rw [← List.map_id m]
  apply List.map_congr_left
  intro p _
  simp [toPg, rawR]
end Go.Dm.Vm
namespace Go.Proofs.YtaoillfofiehpaaGreatDoor
open Go.RowKit Go.Dm Go.Dm.Vm Go.Maps Go.Dm.Oc Go.WideMaps Go.WideElems

def rawP (g : Nat → Nat) (p : Pg) : PgR × Value := (rawR p, .slice (some ⟨g p.addr, 4, none⟩) 256 256)
section
variable {A : Nat → Prop} {w : World} {base : Nat} {m : V}
theorem pgs_in {v : Value} {g : Nat → Nat} (h : PgsV base w v m g) (ok : ∀ p ∈ m, PgOk p) :
    Fl (fun k => base ≤ k ∧ k < w.heap.size) w 6 encR v (m.map (rawP g)) ∧ (∀ x ∈ m.map (rawP g), Bts (fun k => base ≤ k ∧ k < w.heap.size) w x.2 x.1.b) ∧ (∀ x ∈ m.map (rawP g), x.1.addr < 18446744073709551616 ∧ x.1.off < 18446744073709551616 ∧ x.1.file.length ≤ maxLen ∧ x.1.b.length ≤ 1099511627776) ∧ (m.map (rawP g)).map (·.1) = m.map rawR := by
  refine ⟨?_, fun x hx => ?_, fun x hx => ?_, by rw [List.map_map]; rfl⟩
  · have h1 := h.row.fl
    unfold Fl at h1 ⊢
    rw [List.length_map, List.flatMap_map]
    exact h1
  · obtain ⟨p, hp, rfl⟩ := List.mem_map.1 hx
    have hb := (h.pg p hp).2
    have hl := (ok p hp).bl
    show Sl _ w 1 (.slice (some ⟨g p.addr, 4, none⟩) 256 256) p.b.length (p.b.map bv)
    rw [hl]
    refine Sl.mk (by rw [List.length_map, hl]) ⟨(h.pg p hp).1, hb.lt⟩ hb.lt (Nat.le_refl _) (by unfold maxLen; omega) fun j u hu => ?_
    rw [hb.cell, pgC_byte, ← hu, List.getElem?_map]
  · obtain ⟨p, hp, rfl⟩ := List.mem_map.1 hx
    have h1 := ok p hp
    have := h1.lt
    unfold top at this
    exact ⟨by show p.addr < _; omega, h1.ol, h1.fl, by show p.b.length ≤ _; rw [h1.bl]; omega⟩
theorem PgsV.cells {v : Value} {g : Nat → Nat} (h : PgsV base w v m g) {i : Nat} (hi : i < m.length) : ∃ g0 cap, v = .slice (some ⟨g0, 0, none⟩) m.length cap ∧ ∀ r u, (encP g m[i])[r]? = some u → w.cell? ⟨g0, i * 6 + r, none⟩ = some u := by
  obtain ⟨g0, off, cap, e, _, _, _, _, hc⟩ := h.row.fl.at (encP_len g) hi
  rcases h.row.2 with ⟨e2, _⟩ | ⟨g1, cap1, cur, e2, _⟩
  · rw [e] at e2; cases e2
  · rw [e] at e2
    cases e2
    exact ⟨g0, cap, e, fun r u hu => by have := hc r u hu; rwa [Nat.zero_add] at this⟩
end
end Go.Proofs.YtaoillfofiehpaaGreatDoor
namespace Go.Proofs.YtaoillfofiehpaaGreatDoor
open Go.RowKit Go.Dm Go.Dm.Vm Go.Maps Go.Dm.Oc

/-- pages of any numbers, as the document has them -/
def encT (r : PgR) : List Value := [.int .u64 (r.addr : Int), .int .i64 r.prot, .bool r.dirty, .string ⟨r.file.toArray⟩, .int .u64 (r.off : Int), .string ⟨r.b.toArray⟩]
theorem encT_len (p : PgR) : (encT p).length = 6 := rfl
theorem encT_one (p : PgR) : ∀ u ∈ encT p, u.oneCell' = true := by
  intro u hu
  simp only [encT, List.mem_cons, List.not_mem_nil, or_false] at hu
  rcases hu with rfl | rfl | rfl | rfl | rfl | rfl <;> rfl
theorem encT_raw (p : Pg) : encT (rawR p) = encS p := rfl
set_option maxRecDepth 100000 in
theorem neq_same (a b e : Int) (c : Bool) (d f : ByteArray) (w : World) : (binOp .neq 90 (.agg #[.int .u64 a, .int .i64 b, .bool c, .string d, .int .u64 e, .string f]) (.agg #[.int .u64 a, .int .i64 b, .bool c, .string d, .int .u64 e, .string f])).run Tryz.prog w = .ok (.bool false) w := by
  go_simp
section
variable {A B : Nat → Prop} {w : World} {v v2 : Value} {m : V}
set_option maxRecDepth 100000 in
set_option maxHeartbeats 2000000 in
theorem rvsame_any (L : List PgR) (h : Fl A w 6 encT v L) (h2 : Fl B w 6 encT v2 L) (hl : L.length ≤ 1099511627776) :
    Calls Tryz.prog 21 #[.agg #[v], .agg #[v2]] w fun e w' => e = .returned (.bool true) ∧ Keep No w w' := by
  obtain ⟨av, cv, rfl, _, _⟩ := h.shape
  obtain ⟨av2, cv2, rfl, _, _⟩ := h2.shape
  go_enter Tryz.func21, Tryz.ntmps21
  go_wp2_with fail
  have hkW1 : Keep No w (w.alloc (.cells #[.slice av L.length cv] 52)) := (Keep.refl _ _).alloc _
  have hBW1 : Blk (w.alloc (.cells #[.slice av L.length cv] 52)) w.heap.size #[.slice av L.length cv] 52 := Blk.new _ _ _
  have hzW1 : (w.alloc (.cells #[.slice av L.length cv] 52)).heap.size = w.heap.size + 1 := World.size_alloc _ _
  generalize w.alloc (.cells #[.slice av L.length cv] 52) = W1 at *
  have hkW2 : Keep No W1 (W1.alloc (.cells #[.slice av2 L.length cv2] 52)) := (Keep.refl _ _).alloc _
  have hBW2 : Blk (W1.alloc (.cells #[.slice av2 L.length cv2] 52)) W1.heap.size #[.slice av2 L.length cv2] 52 := Blk.new _ _ _
  have hzW2 : (W1.alloc (.cells #[.slice av2 L.length cv2] 52)).heap.size = W1.heap.size + 1 := World.size_alloc _ _
  generalize W1.alloc (.cells #[.slice av2 L.length cv2] 52) = W2 at *
  rw [hzW1] at hBW2 hzW2
  have b1 := hBW1.keep hkW2 fun h => h
  have hkW : Keep No w W2 := hkW1.trans' hkW2
  have q1 : W2.cell? ⟨w.heap.size, 0, none⟩ = some (.slice av L.length cv) := b1.cell 0
  have q2 : W2.cell? ⟨w.heap.size + 1, 0, none⟩ = some (.slice av2 L.length cv2) := hBW2.cell 0
  have HL := Lib.hid (rfl : L.length = L.length)
  go_wp2_with fail
  go_loopw [5] (fun iv wr => ∃ i : Nat, iv = .int .i64 i ∧ i ≤ L.length ∧ Keep No W2 wr) (fun iv _ => L.length - (intOf iv).toNat)
  case atStart => exact ⟨0, rfl, Nat.zero_le _, Keep.refl _ _⟩
  case round =>
    obtain ⟨i, rfl, hi, hk⟩ := hrel
    have p1 : wr.cell? ⟨w.heap.size, 0, none⟩ = _ := (hk.cell (p := ⟨w.heap.size, 0, none⟩) b1.lt fun h => h).trans q1
    have p2 : wr.cell? ⟨w.heap.size + 1, 0, none⟩ = _ := (hk.cell (p := ⟨w.heap.size + 1, 0, none⟩) hBW2.lt fun h => h).trans q2
    clear q1 q2
    rcases Nat.lt_or_ge i L.length with hlt | hge
    · obtain ⟨g, off, cap, e, _, hgl, _, _, hc⟩ := (h.no (hkW.trans' hk)).at encT_len hlt
      cases e
      obtain ⟨g2, off2, cap2, e, _, hgl2, _, _, hc2⟩ := (h2.no (hkW.trans' hk)).at encT_len hlt
      cases e
      have hiz : (i : Int) < (L.length : Int) := by omega
      generalize L[i] = r at *
      have c0 : wr.cell? ⟨g, off + i * 6, none⟩ = some (.int .u64 (r.addr : Int)) := hc 0 _ rfl
      have c1 : wr.cell? ⟨g, off + i * 6 + 1, none⟩ = some (.int .i64 r.prot) := hc 1 _ rfl
      have c2 : wr.cell? ⟨g, off + i * 6 + 2, none⟩ = some (.bool r.dirty) := hc 2 _ rfl
      have c3 : wr.cell? ⟨g, off + i * 6 + 3, none⟩ = some (.string ⟨r.file.toArray⟩) := hc 3 _ rfl
      have c4 : wr.cell? ⟨g, off + i * 6 + 4, none⟩ = some (.int .u64 (r.off : Int)) := hc 4 _ rfl
      have c5 : wr.cell? ⟨g, off + i * 6 + 5, none⟩ = some (.string ⟨r.b.toArray⟩) := hc 5 _ rfl
      have d0 : wr.cell? ⟨g2, off2 + i * 6, none⟩ = some (.int .u64 (r.addr : Int)) := hc2 0 _ rfl
      have d1 : wr.cell? ⟨g2, off2 + i * 6 + 1, none⟩ = some (.int .i64 r.prot) := hc2 1 _ rfl
      have d2 : wr.cell? ⟨g2, off2 + i * 6 + 2, none⟩ = some (.bool r.dirty) := hc2 2 _ rfl
      have d3 : wr.cell? ⟨g2, off2 + i * 6 + 3, none⟩ = some (.string ⟨r.file.toArray⟩) := hc2 3 _ rfl
      have d4 : wr.cell? ⟨g2, off2 + i * 6 + 4, none⟩ = some (.int .u64 (r.off : Int)) := hc2 4 _ rfl
      have d5 : wr.cell? ⟨g2, off2 + i * 6 + 5, none⟩ = some (.string ⟨r.b.toArray⟩) := hc2 5 _ rfl
      clear hc hc2
      generalize (⟨r.file.toArray⟩ : ByteArray) = fs at *
      generalize (⟨r.b.toArray⟩ : ByteArray) = bs at *
      have hcmp := neq_same r.addr r.prot r.off r.dirty fs bs
      go_wp2_with fail
      go_quiet (fail)
      go_wp2_with fail
      go_roundw
      case rel => exact ⟨i + 1, by go_num, hlt, hk.drewN _⟩
      case measure => simp [intOf]; omega
    · obtain rfl : i = L.length := Nat.le_antisymm hi hge
      go_wp2_with fail
      go_ret
      exact ⟨rfl, hkW.trans' hk⟩
set_option maxRecDepth 100000 in
set_option maxHeartbeats 4000000 in
theorem model13_any (L : List (PgR × Value)) (h : Fl A w 6 encR v L) (hB : ∀ x ∈ L, Bts B w x.2 x.1.b) (hA : ∀ k, A k → k < w.heap.size) (hBw : ∀ k, B k → k < w.heap.size) (hl : L.length ≤ 1000000) :
    Calls Tryz.prog 17 #[v] w fun e w' => ∃ v', e = .returned (.agg #[v']) ∧ FlO w' w.heap.size 90 6 encT v' (L.map (·.1)) ∧ Keep No w w' := by
  obtain ⟨av, cv, rfl, _, _⟩ := h.shape
  have HB := Lib.hid hB
  clear hB
  go_enter Tryz.func17, Tryz.ntmps17
  go_wp2_with fail
  have hkW1 : Keep No w (w.alloc (.cells #[.slice none 0 0] 52)) := (Keep.refl _ _).alloc _
  have hBW1 : Blk (w.alloc (.cells #[.slice none 0 0] 52)) w.heap.size #[.slice none 0 0] 52 := Blk.new _ _ _
  have hzW1 : (w.alloc (.cells #[.slice none 0 0] 52)).heap.size = w.heap.size + 1 := World.size_alloc _ _
  generalize w.alloc (.cells #[.slice none 0 0] 52) = W1 at *
  have hkW2 : Keep No W1 (W1.alloc (.cells #[.slice none 0 0] 52)) := (Keep.refl _ _).alloc _
  have hBW2 : Blk (W1.alloc (.cells #[.slice none 0 0] 52)) W1.heap.size #[.slice none 0 0] 52 := Blk.new _ _ _
  have hzW2 : (W1.alloc (.cells #[.slice none 0 0] 52)).heap.size = W1.heap.size + 1 := World.size_alloc _ _
  generalize W1.alloc (.cells #[.slice none 0 0] 52) = W2 at *
  rw [hzW1] at hBW2 hzW2
  have b2 := hBW1.keep hkW2 fun h => h
  have b3 := hBW2
  have hkW : Keep No w W2 := hkW1.trans' hkW2
  have hz2 : W2.heap.size = w.heap.size + 2 := by omega
  clear hBW1 hBW2 hkW1 hkW2 hzW1 hzW2
  go_wp2_with fail
  go_loopw [4] (fun iv wr => ∃ (i : Nat) (lv : Value), iv = .int .i64 i ∧ i ≤ L.length ∧ Blk wr w.heap.size #[.slice none 0 0] 52 ∧ Blk wr (w.heap.size + 1) #[lv] 52 ∧ FlO wr W2.heap.size 90 6 encT lv ((L.take i).map (·.1)) ∧ Keep No w wr) (fun iv _ => L.length - (intOf iv).toNat)
  case atStart => exact ⟨0, _, rfl, Nat.zero_le _, b2, b3, FlO.nil, hkW⟩
  case round =>
    obtain ⟨i, lv, rfl, hi, hb2, hb3, ho, hk⟩ := hrel
    generalize wr = wz at *
    clear b2 b3
    obtain ⟨al, cl, rfl, _, _⟩ := ho.fl.shape
    have hil : ((L.take i).map (·.1)).length = i := by rw [List.length_map, List.length_take]; omega
    rw [hil] at hb3 ho
    have q3 : wz.cell? ⟨w.heap.size + 1, 0, none⟩ = some (.slice al i cl) := hb3.cell 0
    have hf3 := hb3.frozen 0
    have hw2 : w.heap.size + 2 ≤ wz.heap.size := by have := hb3.lt; omega
    rcases Nat.lt_or_ge i L.length with hlt | hge
    · obtain ⟨g, off, cap, e, hAg, hgl, _, _, hc⟩ := (h.no hk).at encR_len hlt
      cases e
      have hiz : (i : Int) < (L.length : Int) := by omega
      have hbt := HB.out L[i] (List.getElem_mem hlt)
      have htk : (L.take (i + 1)).map (·.1) = (L.take i).map (·.1) ++ [L[i].1] := by rw [List.take_succ_eq_append_getElem hlt, List.map_append]; rfl
      have HTK := Lib.hid htk
      clear htk
      generalize L[i] = x at *
      obtain ⟨r, bsl⟩ := x
      have hcva : ∀ W, Keep (fun j => w.heap.size + 2 ≤ j) wz W → (convert 24 9 bsl).run Tryz.prog W = .ok (.string ⟨r.b.toArray⟩) W := fun W hkw => conv_str (Sl.keep (Sl.keep hbt hk fun _ _ _ h => h) hkw fun j _ hb h => by have := hBw j hb; omega)
      have HCV := Lib.hid hcva
      clear hcva
      have c0 : wz.cell? ⟨g, off + i * 6, none⟩ = some (.int .u64 (r.addr : Int)) := hc 0 _ rfl
      have c1 : wz.cell? ⟨g, off + i * 6 + 1, none⟩ = some (.int .i64 r.prot) := hc 1 _ rfl
      have c2 : wz.cell? ⟨g, off + i * 6 + 2, none⟩ = some (.bool r.dirty) := hc 2 _ rfl
      have c3 : wz.cell? ⟨g, off + i * 6 + 3, none⟩ = some (.string ⟨r.file.toArray⟩) := hc 3 _ rfl
      have c4 : wz.cell? ⟨g, off + i * 6 + 4, none⟩ = some (.int .u64 (r.off : Int)) := hc 4 _ rfl
      have c5 : wz.cell? ⟨g, off + i * 6 + 5, none⟩ = some bsl := hc 5 _ rfl
      clear hc hbt
      have hgA : ¬ (w.heap.size + 2 ≤ g) := by have := hA g hAg; omega
      have hgB : ¬ (w.heap.size + 2 ≤ w.heap.size + 1) := by omega
      have hgC : ¬ (w.heap.size + 2 ≤ w.heap.size) := by omega
      have hkd : Keep No wz wz.drew := (Keep.refl No wz).drew
      have hkdX : Keep (fun j => w.heap.size + 2 ≤ j) wz wz.drew := (Keep.refl _ wz).drew
      have hcvd := HCV.out wz.drew hkdX
      go_wp2_with fail
      refine wp_region_sig (fun w' => w'.cell? ⟨w.heap.size + 1, 0, none⟩ = some (.slice al i cl) ∧ w'.cell? ⟨g, off + i * 6, none⟩ = some (.int .u64 (r.addr : Int)) ∧ w'.cell? ⟨g, off + i * 6 + 1, none⟩ = some (.int .i64 r.prot) ∧ w'.cell? ⟨g, off + i * 6 + 2, none⟩ = some (.bool r.dirty) ∧ w'.cell? ⟨g, off + i * 6 + 3, none⟩ = some (.string ⟨r.file.toArray⟩) ∧ w'.cell? ⟨g, off + i * 6 + 4, none⟩ = some (.int .u64 (r.off : Int)) ∧ w'.cell? ⟨g, off + i * 6 + 5, none⟩ = some bsl ∧ (convert 24 9 bsl).run Tryz.prog w' = .ok (.string ⟨r.b.toArray⟩) w') (fun j => decide (j ≤ 36)) [(0, true), (1, true), (2, true), (3, true), (4, true), (5, true), (6, true), (7, true), (8, true), (9, true), (10, true), (11, true), (12, true), (13, true), (14, true), (15, true), (16, true), (17, true), (18, true), (19, true), (20, true), (21, true), (22, true), (23, true), (24, true), (25, true), (26, true), (27, true), (28, true), (29, true), (30, true), (31, true), (32, true), (33, true), (34, false), (35, false), (36, true), (37, false)] (by kernel_rfl) (by kernel_rfl) (by intro c a d v w h; cases d <;> exact h) ⟨q3, c0, c1, c2, c3, c4, c5, hcvd⟩ ?_
      apply sig_still (o := ⟨some 11, _, _, _, _, _⟩) rfl rfl
      · intro w' hS
        obtain ⟨q1, q2, q3, q4, q5, q6, q7, q8⟩ := hS
        first | (go_simp; done) | (go_simp; rfl) | rfl
      go_frame
      apply sig_still (o := ⟨some 12, _, _, _, _, _⟩) rfl rfl
      · intro w' hS
        obtain ⟨q1, q2, q3, q4, q5, q6, q7, q8⟩ := hS
        first | (go_simp; done) | (go_simp; rfl) | rfl
      go_frame
      apply sig_still (o := ⟨some 13, _, _, _, _, _⟩) rfl rfl
      · intro w' hS
        obtain ⟨q1, q2, q3, q4, q5, q6, q7, q8⟩ := hS
        first | (go_simp; done) | (go_simp; rfl) | rfl
      go_frame
      apply sig_still (o := ⟨some 14, _, _, _, _, _⟩) rfl rfl
      · intro w' hS
        obtain ⟨q1, q2, q3, q4, q5, q6, q7, q8⟩ := hS
        first | (go_simp; done) | (go_simp; rfl) | rfl
      go_frame
      apply sig_still (o := ⟨some 15, _, _, _, _, _⟩) rfl rfl
      · intro w' hS
        obtain ⟨q1, q2, q3, q4, q5, q6, q7, q8⟩ := hS
        first | (go_simp; done) | (go_simp; rfl) | rfl
      go_frame
      apply sig_still (o := ⟨some 16, _, _, _, _, _⟩) rfl rfl
      · intro w' hS
        obtain ⟨q1, q2, q3, q4, q5, q6, q7, q8⟩ := hS
        first | (go_simp; done) | (go_simp; rfl) | rfl
      go_frame
      apply sig_still (o := ⟨some 17, _, _, _, _, _⟩) rfl rfl
      · intro w' hS
        obtain ⟨q1, q2, q3, q4, q5, q6, q7, q8⟩ := hS
        first | (go_simp; done) | (go_simp; rfl) | rfl
      go_frame
      apply sig_still (o := ⟨some 18, _, _, _, _, _⟩) rfl rfl
      · intro w' hS
        obtain ⟨q1, q2, q3, q4, q5, q6, q7, q8⟩ := hS
        first | (go_simp; done) | (go_simp; rfl) | rfl
      go_frame
      apply sig_still (o := ⟨some 19, _, _, _, _, _⟩) rfl rfl
      · intro w' hS
        obtain ⟨q1, q2, q3, q4, q5, q6, q7, q8⟩ := hS
        first | (go_simp; done) | (go_simp; rfl) | rfl
      go_frame
      apply sig_still (o := ⟨some 20, _, _, _, _, _⟩) rfl rfl
      · intro w' hS
        obtain ⟨q1, q2, q3, q4, q5, q6, q7, q8⟩ := hS
        first | (go_simp; done) | (go_simp; rfl) | rfl
      go_frame
      apply sig_still (o := ⟨some 21, _, _, _, _, _⟩) rfl rfl
      · intro w' hS
        obtain ⟨q1, q2, q3, q4, q5, q6, q7, q8⟩ := hS
        first | (go_simp; done) | (go_simp; rfl) | rfl
      go_frame
      apply sig_still (o := ⟨some 22, _, _, _, _, _⟩) rfl rfl
      · intro w' hS
        obtain ⟨q1, q2, q3, q4, q5, q6, q7, q8⟩ := hS
        first | (go_simp; done) | (go_simp; rfl) | rfl
      go_frame
      apply sig_still (o := ⟨some 23, _, _, _, _, _⟩) rfl rfl
      · intro w' hS
        obtain ⟨q1, q2, q3, q4, q5, q6, q7, q8⟩ := hS
        first | (go_simp; done) | (go_simp; rfl) | rfl
      go_frame
      apply sig_still (o := ⟨some 24, _, _, _, _, _⟩) rfl rfl
      · intro w' hS
        obtain ⟨q1, q2, q3, q4, q5, q6, q7, q8⟩ := hS
        first | (go_simp; done) | (go_simp; rfl) | rfl
      go_frame
      apply sig_still (o := ⟨some 25, _, _, _, _, _⟩) rfl rfl
      · intro w' hS
        obtain ⟨q1, q2, q3, q4, q5, q6, q7, q8⟩ := hS
        first | (go_simp; done) | (go_simp; rfl) | rfl
      go_frame
      apply sig_still (o := ⟨some 26, _, _, _, _, _⟩) rfl rfl
      · intro w' hS
        obtain ⟨q1, q2, q3, q4, q5, q6, q7, q8⟩ := hS
        first | (go_simp; done) | (go_simp; rfl) | rfl
      go_frame
      apply sig_still (o := ⟨some 27, _, _, _, _, _⟩) rfl rfl
      · intro w' hS
        obtain ⟨q1, q2, q3, q4, q5, q6, q7, q8⟩ := hS
        first | (go_simp; done) | (go_simp; rfl) | rfl
      go_frame
      apply sig_still (o := ⟨some 28, _, _, _, _, _⟩) rfl rfl
      · intro w' hS
        obtain ⟨q1, q2, q3, q4, q5, q6, q7, q8⟩ := hS
        first | (go_simp; done) | (go_simp; rfl) | rfl
      go_frame
      apply sig_still (o := ⟨some 29, _, _, _, _, _⟩) rfl rfl
      · intro w' hS
        obtain ⟨q1, q2, q3, q4, q5, q6, q7, q8⟩ := hS
        first | (go_simp; done) | (go_simp; rfl) | rfl
      go_frame
      apply sig_still (o := ⟨some 30, _, _, _, _, _⟩) rfl rfl
      · intro w' hS
        obtain ⟨q1, q2, q3, q4, q5, q6, q7, q8⟩ := hS
        first | (go_simp; done) | (go_simp; rfl) | rfl
      go_frame
      apply sig_still (o := ⟨some 31, _, _, _, _, _⟩) rfl rfl
      · intro w' hS
        obtain ⟨q1, q2, q3, q4, q5, q6, q7, q8⟩ := hS
        first | (go_simp; done) | (go_simp; rfl) | rfl
      go_frame
      apply sig_still (o := ⟨some 32, _, _, _, _, _⟩) rfl rfl
      · intro w' hS
        obtain ⟨q1, q2, q3, q4, q5, q6, q7, q8⟩ := hS
        first | (go_simp; done) | (go_simp; rfl) | rfl
      go_frame
      apply sig_still (o := ⟨some 33, _, _, _, _, _⟩) rfl rfl
      · intro w' hS
        obtain ⟨q1, q2, q3, q4, q5, q6, q7, q8⟩ := hS
        first | (go_simp; done) | (go_simp; rfl) | rfl
      go_frame
      apply sig_still (o := ⟨some 34, _, _, _, _, _⟩) rfl rfl
      · intro w' hS
        obtain ⟨q1, q2, q3, q4, q5, q6, q7, q8⟩ := hS
        first | (go_simp; done) | (go_simp; rfl) | rfl
      go_frame
      apply sig_still (o := ⟨some 35, _, _, _, _, _⟩) rfl rfl
      · intro w' hS
        obtain ⟨q1, q2, q3, q4, q5, q6, q7, q8⟩ := hS
        first | (go_simp; done) | (go_simp; rfl) | rfl
      go_frame
      apply sig_still (o := ⟨some 36, _, _, _, _, _⟩) rfl rfl
      · intro w' hS
        obtain ⟨q1, q2, q3, q4, q5, q6, q7, q8⟩ := hS
        first | (go_simp; done) | (go_simp; rfl) | rfl
      go_frame
      apply sig_still (o := ⟨some 37, _, _, _, _, _⟩) rfl rfl
      · intro w' hS
        obtain ⟨q1, q2, q3, q4, q5, q6, q7, q8⟩ := hS
        first | (go_simp; done) | (go_simp; rfl) | rfl
      go_frame
      apply sig_still (o := ⟨some 38, _, _, _, _, _⟩) rfl rfl
      · intro w' hS
        obtain ⟨q1, q2, q3, q4, q5, q6, q7, q8⟩ := hS
        first | (go_simp; done) | (go_simp; rfl) | rfl
      go_frame
      apply sig_still (o := ⟨some 39, _, _, _, _, _⟩) rfl rfl
      · intro w' hS
        obtain ⟨q1, q2, q3, q4, q5, q6, q7, q8⟩ := hS
        first | (go_simp; done) | (go_simp; rfl) | rfl
      go_frame
      apply sig_still (o := ⟨some 40, _, _, _, _, _⟩) rfl rfl
      · intro w' hS
        obtain ⟨q1, q2, q3, q4, q5, q6, q7, q8⟩ := hS
        first | (go_simp; done) | (go_simp; rfl) | rfl
      go_frame
      apply sig_still (o := ⟨some 41, _, _, _, _, _⟩) rfl rfl
      · intro w' hS
        obtain ⟨q1, q2, q3, q4, q5, q6, q7, q8⟩ := hS
        first | (go_simp; done) | (go_simp; rfl) | rfl
      go_frame
      apply sig_still (o := ⟨some 42, _, _, _, _, _⟩) rfl rfl
      · intro w' hS
        obtain ⟨q1, q2, q3, q4, q5, q6, q7, q8⟩ := hS
        first | (go_simp; done) | (go_simp; rfl) | rfl
      go_frame
      apply sig_still (o := ⟨some 43, _, _, _, _, _⟩) rfl rfl
      · intro w' hS
        obtain ⟨q1, q2, q3, q4, q5, q6, q7, q8⟩ := hS
        first | (go_simp; done) | (go_simp; rfl) | rfl
      go_frame
      apply sig_still (o := ⟨some 44, _, _, _, _, _⟩) rfl rfl
      · intro w' hS
        obtain ⟨q1, q2, q3, q4, q5, q6, q7, q8⟩ := hS
        first | (go_simp; done) | (go_simp; rfl) | rfl
      go_frame
      refine sig_eff (o := ⟨some 45, _, _, _, _, _⟩) rfl rfl (fun K hKe => ?_)
      have hka : Keep (fun j => w.heap.size + 2 ≤ j) wz (wz.drew.alloc (.cells #[.int .u64 (r.addr : Int), .int .i64 r.prot, .bool r.dirty, .string ⟨r.file.toArray⟩, .int .u64 (r.off : Int), .string ⟨r.b.toArray⟩] 90)) := hkdX.alloc _
      have hcv2 := HCV.out _ hka
      have q3x : ((wz.drew.alloc (.cells #[.int .u64 (r.addr : Int), .int .i64 r.prot, .bool r.dirty, .string ⟨r.file.toArray⟩, .int .u64 (r.off : Int), .string ⟨r.b.toArray⟩] 90))).cell? ⟨w.heap.size + 1, 0, none⟩ = _ := ((hka).cell (p := ⟨w.heap.size + 1, 0, none⟩) hb3.lt hgB).trans q3
      have c0x : ((wz.drew.alloc (.cells #[.int .u64 (r.addr : Int), .int .i64 r.prot, .bool r.dirty, .string ⟨r.file.toArray⟩, .int .u64 (r.off : Int), .string ⟨r.b.toArray⟩] 90))).cell? ⟨g, off + i * 6, none⟩ = _ := ((hka).cell (p := ⟨g, off + i * 6, none⟩) hgl hgA).trans c0
      have c1x : ((wz.drew.alloc (.cells #[.int .u64 (r.addr : Int), .int .i64 r.prot, .bool r.dirty, .string ⟨r.file.toArray⟩, .int .u64 (r.off : Int), .string ⟨r.b.toArray⟩] 90))).cell? ⟨g, off + i * 6 + 1, none⟩ = _ := ((hka).cell (p := ⟨g, off + i * 6 + 1, none⟩) hgl hgA).trans c1
      have c2x : ((wz.drew.alloc (.cells #[.int .u64 (r.addr : Int), .int .i64 r.prot, .bool r.dirty, .string ⟨r.file.toArray⟩, .int .u64 (r.off : Int), .string ⟨r.b.toArray⟩] 90))).cell? ⟨g, off + i * 6 + 2, none⟩ = _ := ((hka).cell (p := ⟨g, off + i * 6 + 2, none⟩) hgl hgA).trans c2
      have c3x : ((wz.drew.alloc (.cells #[.int .u64 (r.addr : Int), .int .i64 r.prot, .bool r.dirty, .string ⟨r.file.toArray⟩, .int .u64 (r.off : Int), .string ⟨r.b.toArray⟩] 90))).cell? ⟨g, off + i * 6 + 3, none⟩ = _ := ((hka).cell (p := ⟨g, off + i * 6 + 3, none⟩) hgl hgA).trans c3
      have c4x : ((wz.drew.alloc (.cells #[.int .u64 (r.addr : Int), .int .i64 r.prot, .bool r.dirty, .string ⟨r.file.toArray⟩, .int .u64 (r.off : Int), .string ⟨r.b.toArray⟩] 90))).cell? ⟨g, off + i * 6 + 4, none⟩ = _ := ((hka).cell (p := ⟨g, off + i * 6 + 4, none⟩) hgl hgA).trans c4
      have c5x : ((wz.drew.alloc (.cells #[.int .u64 (r.addr : Int), .int .i64 r.prot, .bool r.dirty, .string ⟨r.file.toArray⟩, .int .u64 (r.off : Int), .string ⟨r.b.toArray⟩] 90))).cell? ⟨g, off + i * 6 + 5, none⟩ = _ := ((hka).cell (p := ⟨g, off + i * 6 + 5, none⟩) hgl hgA).trans c5
      go_wp2_with fail
      refine ⟨fun _ => ⟨q3x, c0x, c1x, c2x, c3x, c4x, c5x, hcv2⟩, ?_⟩
      refine sig_eff (o := ⟨some 46, _, _, _, _, _⟩) rfl rfl (fun K hKe => ?_)
      refine wo_append (.tmp 12) (.tmp 45) 50 50 rfl _ _ rfl rfl ?_
      refine rg_push (w := wz.drew) (cs := #[.int .u64 (r.addr : Int), .int .i64 r.prot, .bool r.dirty, .string ⟨r.file.toArray⟩, .int .u64 (r.off : Int), .string ⟨r.b.toArray⟩]) (enc := encT) (x := r) (l := (L.take i).map (·.1)) (base := W2.heap.size) _ 64 Tryz.underlying50 rvP_info rfl (by decide) rfl rfl (encT_one _) (by exact ho.no hkd) (by rw [hil]; omega) (by decide) (by show W2.heap.size ≤ wz.heap.size; omega) ?_
      intro lv2 w2 ho2 hk2 _
      have hkN : Keep (fun j => w.heap.size + 2 ≤ j) wz w2 := hkdX.trans hk2 fun j _ hj => by
        have h1 := (World.ownsRow.lt ho j hj.symm).1
        omega
      have hcv3 := HCV.out _ hkN
      have q3y : (w2).cell? ⟨w.heap.size + 1, 0, none⟩ = _ := ((hkN).cell (p := ⟨w.heap.size + 1, 0, none⟩) hb3.lt hgB).trans q3
      have c0y : (w2).cell? ⟨g, off + i * 6, none⟩ = _ := ((hkN).cell (p := ⟨g, off + i * 6, none⟩) hgl hgA).trans c0
      have c1y : (w2).cell? ⟨g, off + i * 6 + 1, none⟩ = _ := ((hkN).cell (p := ⟨g, off + i * 6 + 1, none⟩) hgl hgA).trans c1
      have c2y : (w2).cell? ⟨g, off + i * 6 + 2, none⟩ = _ := ((hkN).cell (p := ⟨g, off + i * 6 + 2, none⟩) hgl hgA).trans c2
      have c3y : (w2).cell? ⟨g, off + i * 6 + 3, none⟩ = _ := ((hkN).cell (p := ⟨g, off + i * 6 + 3, none⟩) hgl hgA).trans c3
      have c4y : (w2).cell? ⟨g, off + i * 6 + 4, none⟩ = _ := ((hkN).cell (p := ⟨g, off + i * 6 + 4, none⟩) hgl hgA).trans c4
      have c5y : (w2).cell? ⟨g, off + i * 6 + 5, none⟩ = _ := ((hkN).cell (p := ⟨g, off + i * 6 + 5, none⟩) hgl hgA).trans c5
      have hb3y := hb3.keep hkN hgB
      have hf3y := hb3y.frozen 0
      have hb2y := hb2.keep hkN hgC
      obtain ⟨a2, c2', rfl, _, _⟩ := ho2.fl.shape
      have hil2 : ((L.take i).map (·.1) ++ [r]).length = i + 1 := by rw [List.length_append, hil]; rfl
      rw [hil2] at ho2 ⊢
      refine hKe _ _ ⟨fun _ => ⟨q3y, c0y, c1y, c2y, c3y, c4y, c5y, hcv3⟩, ?_⟩
      apply sig_still (o := ⟨some 47, _, _, _, _, _⟩) rfl rfl
      · intro w' hS
        obtain ⟨q1, q2, q3, q4, q5, q6, q7, q8⟩ := hS
        first | (go_simp; done) | (go_simp; rfl) | rfl
      go_frame
      refine sig_eff (o := ⟨none, _, _, _, _, _⟩) rfl rfl (fun K hKe => ?_)
      go_wp2_with fail
      refine ⟨fun h => by simp at h, sig_nil ?_⟩
      go_wp2_with fail
      go_roundw
      case rel =>
        have h3 := hb3y.set (i := 0) (.slice a2 (i + 1) c2')
        rw [← HTK.out] at ho2
        have hkS := (Keep.refl (fun j => j = w.heap.size + 1) w2).setCell (p := ⟨w.heap.size + 1, 0, none⟩) (fun _ => rfl) (.slice a2 (i + 1) c2')
        refine ⟨i + 1, .slice a2 (i + 1) c2', by go_num, hlt, ?_, ?_, ?_, ?_⟩
        · exact hb2y.keep hkS (by omega)
        · exact h3
        · exact FlO.same ho2 fun g hg => hkS.block g (World.ownsRow.lt ho2 g hg).2 fun e => by
            have h1 := (World.ownsRow.lt ho2 g hg).1
            have e2 : g = w.heap.size + 1 := e
            omega
        · exact (hk.trans hkN fun j hj h => by omega).trans hkS fun j hj e => absurd hj (by have e2 : j = w.heap.size + 1 := e; omega)
      case measure => simp [intOf]; omega
    · obtain rfl : i = L.length := Nat.le_antisymm hi hge
      rw [List.take_length] at ho
      go_wp2_with (with_reducible refine wl_stAgg rfl _ _ _ rfl _ _ rfl rfl ?_)
      refine rg_stAgg hb2 (by kernel_rfl) (by rfl) (by simp [Value.oneCell']) ?_
      intro wy hby hky hsy
      go_wp2_with fail
      refine ret_blk rfl rfl hby Tryz.underlying52 rfl (by kernel_rfl) rfl ?_
      refine ⟨_, rfl, World.ownsRow.base_le (FlO.same ho fun g hg => hky.block g (World.ownsRow.lt ho g hg).2 fun e => ?_) (by omega), hk.trans hky fun j hj e => absurd hj (by have e2 : j = w.heap.size := e; omega)⟩
      have h1 := (World.ownsRow.lt ho g hg).1
      have e2 : g = w.heap.size := e
      omega
end
end Go.Proofs.YtaoillfofiehpaaGreatDoor
namespace Go.Proofs.YtaoillfofiehpaaGreatDoor
open Go.RowKit Go.Dm Go.Dm.Vm Go.Maps Go.Dm.Oc

section
variable {A : Nat → Prop} {w : World} {v : Value} {m : V}
theorem ok_small {m : V} (h : Ok m) : ∀ p ∈ m, p.addr < 18446744073709551616 := fun p hp => by have := (h.pg p hp).lt; unfold top at this; omega
theorem rvfind_at (a : Nat) (ha : a < 18446744073709551616) (h : Fl A w 6 encS v m) (hok : Ok m) {i : Nat} (hi : i < m.length) (hip : m[i].addr = pageOf a) :
    Calls Tryz.prog 69 #[.agg #[v], .int .u64 (a : Int)] w fun e w' => e = .returned (.int .i64 (i : Int)) ∧ Keep No w w' := by
  refine (rvfind_any a ha h (by have := hok.len; omega) (ok_small hok)).mono ?_
  rintro e w' ⟨r, rfl, hr, hk⟩
  rcases hr with ⟨rfl, hno⟩ | ⟨i', hi', rfl, hadr⟩
  · exact absurd hip (hno _ (List.getElem_mem hi))
  · obtain rfl := idx_unique hok.srt hi hi' (by rw [hip, hadr])
    exact ⟨rfl, hk⟩
theorem page_idx {m : V} {a : Nat} (h : ∃ p, pageAt m (pageOf a) = some p) : ∃ (i : Nat) (hi : i < m.length), m[i].addr = pageOf a ∧ pageAt m (pageOf a) = some m[i] := by
  obtain ⟨p, hp⟩ := h
  obtain ⟨hpm, hpa⟩ := get_mem hp
  obtain ⟨i, hi, rfl⟩ := List.getElem_of_mem hpm
  exact ⟨i, hi, hpa, hp⟩
theorem str_index (l : List UInt8) (k : Nat) (hk : k < l.length) (w : World) : (Instr.index 9 (.string ⟨l.toArray⟩) (.int .u64 (k : Int))).run Tryz.prog w = .ok (.int .u8 ((l.getD k 0).toNat : Int)) w := by
  rw [run_index_string _ _ _ _ _ Tryz.underlying9]
  have h1 : (0 : Int) ≤ (k : Int) ∧ (k : Int) < ((⟨l.toArray⟩ : ByteArray).size : Nat) := by
    refine ⟨by omega, ?_⟩
    show (k : Int) < (l.toArray.size : Nat)
    rw [List.size_toArray]; omega
  rw [dif_pos h1]
  congr 3
  have h2 : ((⟨l.toArray⟩ : ByteArray)[(k : Int).toNat]'(by omega)) = l[k] := by
    show l.toArray[(k : Int).toNat]'_ = l[k]
    simp
  rw [h2, List.getD_eq_getElem?_getD, List.getElem?_eq_getElem hk]
  rfl
def encB (b : UInt8) : List Value := [bv b]
theorem encB_map (l : List UInt8) : l.flatMap encB = l.map bv := by
  induction l with
  | nil => rfl
  | cons x r ih => rw [List.flatMap_cons, ih]; rfl
theorem encB_bts {base : Nat} {e : TypeId} {w : World} {v : Value} {l : List UInt8} (h : FlO w base e 1 encB v l) : Bts (fun j => base ≤ j ∧ j < w.heap.size) w v l := by
  have := h.fl
  unfold Fl at this
  rw [encB_map] at this
  exact this
theorem readB_succ (m : V) (a j : Nat) : readB m a (j + 1) = readB m a j ++ [byteAt m (a + j)] := by
  unfold readB
  rw [List.range_succ, List.map_append]
  rfl
set_option maxRecDepth 100000 in
set_option maxHeartbeats 4000000 in
theorem rvpeek_any (addr size : Nat) (ha : addr < 18446744073709551616) (hs : size ≤ 1000) (h : Fl A w 6 encS v m) (hok : Ok m) :
    Calls Tryz.prog 70 #[.agg #[v], .int .u64 (addr : Int), .int .u64 (size : Int)] w fun e w' => ∃ v', e = .returned (.tuple #[v', .int .i64 (peekE m addr size : Nat)]) ∧ FlO w' w.heap.size 5 1 encB v' (peekB m addr size) ∧ Keep No w w' := by
  obtain ⟨av, cv, rfl, _, _⟩ := h.shape
  have hX : peekB m addr size = if size = 0 then [] else if Vm.heldE m addr size = 0 then readB m addr size else [] := rfl
  have hE : peekE m addr size = if size = 0 then 0 else Vm.heldE m addr size := rfl
  have hpt := @held_parts m addr size
  have hml := hok.len
  generalize peekB m addr size = X at *
  generalize peekE m addr size = E at *
  by_cases h0 : size = 0
  · subst h0
    rw [if_pos rfl] at hX hE
    subst hX hE
    clear hs hpt hok
    go_enter Tryz.func70, Tryz.ntmps70
    go_wp2_with fail
    go_ret2
    exact ⟨_, rfl, FlO.nil, (Keep.refl _ _).alloc _⟩
  · rw [if_neg h0] at hX hE
    have hth := fun (W : World) (hk : Keep No w W) => rvthere_any (w := W) addr size ha (by omega) (by omega) (by omega) (h.no hk) (by omega) (ok_small hok)
    have hne0 : ((size : Int) == 0) = false := by simpa using h0
    have HX := Lib.hid hX
    have HOK := Lib.hid hok
    have HPT := Lib.hid hpt
    have hhe : Vm.heldE m addr size = 0 ∨ Vm.heldE m addr size = 40 := by
      unfold Vm.heldE
      split
      · exact .inr rfl
      · split
        · exact .inl rfl
        · exact .inr rfl
    clear hX hok hpt h0
    have HTH := Lib.hid hth
    have hsz : (size : Int) ≤ 1000 := by omega
    have HL := Lib.hid h
    clear hth h
    go_enter Tryz.func70, Tryz.ntmps70
    go_wp2_with fail
    have hkW : Keep No w (w.alloc (.cells #[.slice av m.length cv] 52)) := (Keep.refl _ _).alloc _
    have hBW : Blk (w.alloc (.cells #[.slice av m.length cv] 52)) w.heap.size #[.slice av m.length cv] 52 := Blk.new _ _ _
    have hzW : (w.alloc (.cells #[.slice av m.length cv] 52)).heap.size = w.heap.size + 1 := World.size_alloc _ _
    generalize w.alloc (.cells #[.slice av m.length cv] 52) = W at *
    have q3 : W.cell? ⟨w.heap.size, 0, none⟩ = some (.slice av m.length cv) := hBW.cell 0
    have hcall := HTH.out W hkW
    go_wp2_with fail
    refine hcall.mono ?_
    rintro e W2 ⟨rfl, hk2⟩
    have hB2 := hBW.keep hk2 fun h => h
    have hkw2 := hkW.trans' hk2
    rcases hhe with he | he
    · rw [he] at hE HX ⊢
      subst hE
      rw [if_pos rfl] at HX
      obtain ⟨p1, p2, _, p4⟩ := HPT.out he
      unfold top at p1 p2
      have hal : (addr : Int) ≤ 4294967296 := by omega
      have hsl : (addr : Int) + (size : Int) ≤ 4294967296 := by omega
      have HP4 := Lib.hid p4
      clear p1 p2 p4 he hcall q3 hBW hkW hk2
      go_wp2_with fail
      go_loopw [9, 10] (fun lv iv wr => ∃ j : Nat, iv = .int .u64 ((addr + j : Nat) : Int) ∧ j ≤ size ∧ FlO wr W2.heap.size 5 1 encB lv (readB m addr j) ∧ Keep No W2 wr) (fun _ iv _ => addr + size - (intOf iv).toNat)
      case atStart => exact ⟨0, rfl, Nat.zero_le _, FlO.nil, Keep.refl _ _⟩
      case round =>
        obtain ⟨j, rfl, hj, ho, hk⟩ := hrel
        generalize wr = wz at *
        have hB3 := hB2.keep hk fun h => h
        have p3 : wz.cell? ⟨w.heap.size, 0, none⟩ = some (.slice av m.length cv) := hB3.cell 0
        have hkz := hkw2.trans' hk
        obtain ⟨al, cl, rfl, _, _⟩ := ho.fl.shape
        have hlen := readB_len m addr j
        rw [hlen] at ho ⊢
        rcases Nat.lt_or_ge j size with hlt | hge
        · obtain ⟨i, hi, hpa, hpat⟩ := page_idx (there_at HP4.out hlt)
          have hby : byteAt m (addr + j) = m[i].b.getD ((addr + j) % 256) 0 := by unfold byteAt; rw [hpat]
          have hsu := readB_succ m addr j
          rw [hby] at hsu
          obtain ⟨g, off, cap, e, _, hgl, _, _, hc⟩ := (HL.out.no hkz).at encS_len hi
          cases e
          have c5 : wz.cell? ⟨g, off + i * 6 + 5, none⟩ = some (.string ⟨m[i].b.toArray⟩) := hc 5 _ rfl
          have hpb := (HOK.out.pg _ (List.getElem_mem hi)).bl
          have hix := str_index m[i].b ((addr + j) % 256) (by omega)
          have hfi : ∀ W, Keep No wz W → _ := fun W hkw => rvfind_at (w := W) (addr + j) (by omega) (HL.out.no (hkz.trans' hkw)) HOK.out hi hpa
          have HSU := Lib.hid hsu
          have HFI := Lib.hid hfi
          have hilz : (i : Int) < (m.length : Int) := by omega
          have hltz : ((addr + j : Nat) : Int) < (addr : Int) + (size : Int) := by omega
          have hmod : ((addr + j : Nat) : Int).tmod 256 = (((addr + j) % 256 : Nat) : Int) := by rw [Int.tmod_eq_emod_of_nonneg (by omega)]; omega
          have hA0 : addr + j < 4294967296 := by omega
          have hstp : addr + j + 1 = addr + (j + 1) := by omega
          have HST := Lib.hid hstp
          have HLEN := Lib.hid hlen
          clear hsu hfi hc hby hpa hpat hpb hstp hlen
          generalize m[i].b.getD ((addr + j) % 256) 0 = by_ at *
          generalize (addr + j) % 256 = k0 at *
          generalize (⟨m[i].b.toArray⟩ : ByteArray) = bs at *
          generalize addr + j = A0 at *
          have hkd : Keep No wz wz.drew := (Keep.refl No wz).drew
          go_wp2_with fail
          refine wp_region_sig (fun w' => w'.cell? ⟨w.heap.size, 0, none⟩ = some (.slice (some ⟨g, off, none⟩) m.length cv) ∧ w'.cell? ⟨g, off + i * 6 + 5, none⟩ = some (.string bs)) (fun j => decide (j ≤ 12)) [(0, true), (1, true), (2, true), (3, true), (4, true), (9, true), (10, true), (5, false), (6, true), (7, true), (8, true), (11, true), (12, false), (13, false), (14, false)] (by kernel_rfl) (by kernel_rfl) (by intro c a d v w h; cases d <;> exact h) ⟨p3, c5⟩ ?_
          apply sig_still (o := ⟨some 27, _, _, _, _, _⟩) rfl rfl
          · intro w' hS
            obtain ⟨q1, q2⟩ := hS
            first | (go_simp; done) | (go_simp; rfl) | rfl
          go_frame
          apply sig_still (o := ⟨some 28, _, _, _, _, _⟩) rfl rfl
          · intro w' hS
            obtain ⟨q1, q2⟩ := hS
            first | (go_simp; done) | (go_simp; rfl) | rfl
          go_frame
          apply sig_still (o := ⟨some 29, _, _, _, _, _⟩) rfl rfl
          · intro w' hS
            obtain ⟨q1, q2⟩ := hS
            first | (go_simp; done) | (go_simp; rfl) | rfl
          go_frame
          apply sig_still (o := ⟨some 30, _, _, _, _, _⟩) rfl rfl
          · intro w' hS
            obtain ⟨q1, q2⟩ := hS
            first | (go_simp; done) | (go_simp; rfl) | rfl
          go_frame
          apply sig_still (o := ⟨some 31, _, _, _, _, _⟩) rfl rfl
          · intro w' hS
            obtain ⟨q1, q2⟩ := hS
            first | (go_simp; done) | (go_simp; rfl) | rfl
          go_frame
          apply sig_still (o := ⟨some 36, _, _, _, _, _⟩) rfl rfl
          · intro w' hS
            obtain ⟨q1, q2⟩ := hS
            first | (go_simp; done) | (go_simp; rfl) | rfl
          go_frame
          apply sig_still (o := ⟨some 37, _, _, _, _, _⟩) rfl rfl
          · intro w' hS
            obtain ⟨q1, q2⟩ := hS
            first | (go_simp; done) | (go_simp; rfl) | rfl
          go_frame
          refine sig_eff (o := ⟨some 32, _, _, _, _, _⟩) rfl rfl (fun K hKe => ?_)
          have hfa := HFI.out _ hkd
          go_wp2_with fail
          refine hfa.mono ?_
          rintro e w3 ⟨rfl, hk3⟩
          replace hk3 := hkd.trans' hk3
          have p3a : w3.cell? ⟨w.heap.size, 0, none⟩ = _ := (hk3.cell (p := ⟨w.heap.size, 0, none⟩) hB3.lt fun h => h).trans p3
          have c5a : w3.cell? ⟨g, off + i * 6 + 5, none⟩ = _ := (hk3.cell (p := ⟨g, off + i * 6 + 5, none⟩) hgl fun h => h).trans c5
          go_wp2_with fail
          refine ⟨fun _ => ⟨p3a, c5a⟩, ?_⟩
          apply sig_still (o := ⟨some 33, _, _, _, _, _⟩) rfl rfl
          · intro w' hS
            obtain ⟨q1, q2⟩ := hS
            first | (go_simp; done) | (go_simp; rfl) | rfl
          go_frame
          apply sig_still (o := ⟨some 34, _, _, _, _, _⟩) rfl rfl
          · intro w' hS
            obtain ⟨q1, q2⟩ := hS
            first | (go_simp; done) | (go_simp; rfl) | rfl
          go_frame
          apply sig_still (o := ⟨some 35, _, _, _, _, _⟩) rfl rfl
          · intro w' hS
            obtain ⟨q1, q2⟩ := hS
            first | (go_simp; done) | (go_simp; rfl) | rfl
          go_frame
          apply sig_still (o := ⟨some 38, _, _, _, _, _⟩) rfl rfl
          · intro w' hS
            obtain ⟨q1, q2⟩ := hS
            first | (go_simp; done) | (go_simp; rfl) | rfl
          go_frame
          refine sig_eff (o := ⟨some 39, _, _, _, _, _⟩) rfl rfl (fun K hKe => ?_)
          go_wp2_with fail
          have hka : Keep No w3 (w3.alloc (.cells #[bv by_] 5)) := (Keep.refl _ _).alloc _
          refine ⟨fun _ => ⟨((hk3.trans' hka).cell (p := ⟨w.heap.size, 0, none⟩) hB3.lt fun h => h).trans p3, ((hk3.trans' hka).cell (p := ⟨g, off + i * 6 + 5, none⟩) hgl fun h => h).trans c5⟩, ?_⟩
          refine sig_eff (o := ⟨some 40, _, _, _, _, _⟩) rfl rfl (fun K hKe => ?_)
          refine wo_append (.tmp 27) (.tmp 39) 24 24 rfl _ _ rfl rfl ?_
          refine rg_push (w := w3) (cs := #[bv by_]) (enc := encB) (x := by_) (l := readB m addr j) (base := W2.heap.size) _ 1 Tryz.underlying24 o_info rfl (by decide) rfl rfl (by intro u hu; simp only [encB, List.mem_singleton] at hu; subst hu; rfl) (by exact ho.no hk3) (by rw [HLEN.out]; omega) (by decide) (by exact Nat.le_trans hk.size hk3.size) ?_
          intro lv2 w4 ho4 hk4 _
          have hk4' : Keep No W2 w4 := (hk.trans' hk3).own (ho.no hk3) hk4
          rw [← HSU.out] at ho4
          obtain ⟨a4, c4, rfl, _, _⟩ := ho4.fl.shape
          refine hKe _ _ ⟨fun h => by simp at h, ?_⟩
          refine sig_eff (o := ⟨some 9, _, _, _, _, _⟩) rfl rfl (fun K hKe => ?_)
          go_wp2_with fail
          refine ⟨fun h => by simp at h, sig_nil ?_⟩
          go_wp2_with fail
          go_roundw
          case rel => exact ⟨j + 1, by rw [← HST.out]; go_num, hlt, ho4, hk4'⟩
          case measure => have := HST.out; simp [intOf]; omega
        · obtain rfl : j = size := Nat.le_antisymm hj hge
          have hltz : ¬ ((addr + j : Nat) : Int) < (addr : Int) + (j : Int) := by omega
          clear hlen
          generalize addr + j = A0 at *
          go_wp2_with fail
          go_ret2
          rw [HX.out]
          exact ⟨_, rfl, World.ownsRow.base_le ho hkw2.size, hkz⟩
    · rw [he] at hE HX ⊢
      subst hE
      rw [if_neg (by decide)] at HX
      clear hcall HPT
      go_wp2_with fail
      go_ret2
      rw [HX.out]
      exact ⟨_, rfl, FlO.nil, hkw2⟩
set_option maxRecDepth 100000 in
set_option maxHeartbeats 4000000 in
theorem rvnumber_any (addr n : Nat) (ha : addr < 18446744073709551616) (hn : 0 < n) (hn8 : n ≤ 8) (hh : Vm.heldE m addr n = 0) (h : Fl A w 6 encS v m) (hok : Ok m) :
    Calls Tryz.prog 54 #[.agg #[v], .int .u64 (addr : Int), .int .i64 (n : Int)] w fun e w' => e = .returned (.int .u64 (leN (readB m addr n) : Nat)) ∧ Keep No w w' := by
  obtain ⟨av, cv, rfl, _, _⟩ := h.shape
  have hB : peekB m addr n = readB m addr n := by unfold peekB; rw [if_neg (by omega), if_pos hh]
  have hpk := fun (W : World) (hk : Keep No w W) => rvpeek_any (w := W) addr n ha (by omega) (h.no hk) hok
  have hlen := readB_len m addr n
  rw [hB] at hpk
  generalize peekE m addr n = E at *
  generalize readB m addr n = b at *
  have HPK := Lib.hid hpk
  have HLEN := Lib.hid hlen
  clear hpk hB hh hlen
  have hn8z : (n : Int) ≤ 8 := by omega
  go_enter Tryz.func54, Tryz.ntmps54
  go_wp2_with fail
  have hkW : Keep No w (w.alloc (.cells #[.slice av m.length cv] 52)) := (Keep.refl _ _).alloc _
  have hBW : Blk (w.alloc (.cells #[.slice av m.length cv] 52)) w.heap.size #[.slice av m.length cv] 52 := Blk.new _ _ _
  have hzW : (w.alloc (.cells #[.slice av m.length cv] 52)).heap.size = w.heap.size + 1 := World.size_alloc _ _
  generalize w.alloc (.cells #[.slice av m.length cv] 52) = W at *
  have q3 : W.cell? ⟨w.heap.size, 0, none⟩ = some (.slice av m.length cv) := hBW.cell 0
  have hpa := HPK.out W hkW
  go_wp2_with fail
  refine hpa.mono ?_
  rintro e W2 ⟨v2, rfl, ho, hk2⟩
  clear hpa q3
  obtain ⟨a2, c2, rfl, _, _⟩ := ho.fl.shape
  rw [HLEN.out] at ho ⊢
  have hb := encB_bts ho
  have hk2 := hkW.trans' hk2
  clear ho
  go_wp2_with fail
  go_loopw [9, 10] (fun xv iv wr => ∃ j : Nat, xv = .int .u64 (leN (b.drop j) : Nat) ∧ iv = .int .i64 ((j : Int) - 1) ∧ j ≤ n ∧ wr = W2) (fun _ iv _ => (intOf iv + 1).toNat)
  case atStart => exact ⟨n, by rw [List.drop_of_length_le (by rw [HLEN.out]; exact Nat.le_refl _)]; rfl, rfl, Nat.le_refl _, rfl⟩
  case round =>
    obtain ⟨j, rfl, rfl, hj, rfl⟩ := hrel
    generalize wr = wz at *
    rcases Nat.eq_zero_or_pos j with h0 | h0
    · subst h0
      rw [List.drop_zero]
      go_wp2_with fail
      go_ret
      exact ⟨rfl, hk2⟩
    · obtain ⟨i, rfl⟩ : ∃ i, j = i + 1 := ⟨j - 1, by omega⟩
      have hil : i < b.length := by rw [HLEN.out]; omega
      obtain ⟨g0, off, cap, e, hg0, hgl, _, _, hcell⟩ := hb.at (by omega)
      obtain rfl : a2 = some ⟨g0, off, none⟩ := (Value.slice.inj e).1
      have qb : wz.cell? ⟨g0, off + i, none⟩ = some (bv b[i]) := hcell i _ (by rw [List.getElem?_map, List.getElem?_eq_getElem hil]; rfl)
      have hd : b.drop i = b[i] :: b.drop (i + 1) := List.drop_eq_getElem_cons hil
      have hle : leN (b.drop i) = b[i].toNat + 256 * leN (b.drop (i + 1)) := by rw [hd]; rfl
      have hlt : leN (b.drop i) < 18446744073709551616 := by
        have h1 := leN_lt (b.drop i)
        rw [List.length_drop, HLEN.out] at h1
        have h2 : 256 ^ (n - i) ≤ 256 ^ 8 := Nat.pow_le_pow_right (by decide) (by omega)
        have h3 : (256 : Nat) ^ 8 = 18446744073709551616 := by decide
        omega
      have hiz : ((i + 1 : Nat) : Int) - 1 = (i : Int) := by omega
      rw [hiz]
      have hsum : ((leN (b.drop (i + 1)) : Nat) : Int) * 256 + (b[i].toNat : Int) = ((leN (b.drop i) : Nat) : Int) := by omega
      have hm : ((leN (b.drop (i + 1)) : Nat) : Int) * 256 ≤ 18446744073709551615 := by omega
      have hs : ((leN (b.drop (i + 1)) : Nat) : Int) * 256 + (b[i].toNat : Int) ≤ 18446744073709551615 := by omega
      have hby := b[i].toNat_lt
      have hiz2 : (i : Int) < (n : Int) := by omega
      unfold bv at qb
      have HI := Lib.hid hsum
      clear hd hle hlt hcell hsum e
      generalize leN (b.drop (i + 1)) = x at *
      generalize b[i].toNat = y at *
      clear hil
      go_wp2_with fail
      go_roundw
      case rel => exact ⟨i, by rw [← HI.out], by first | rfl | trivial, by omega, by first | rfl | trivial⟩
      case measure => simp [intOf]
end
end Go.Proofs.YtaoillfofiehpaaGreatDoor
