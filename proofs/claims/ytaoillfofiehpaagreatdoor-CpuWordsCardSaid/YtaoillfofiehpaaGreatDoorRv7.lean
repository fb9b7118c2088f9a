/- The document's fits, Load, Fetch, Store (chapter 13). No condition. -/
import Derived.Test.YtaoillfofiehpaaGreatDoorRv6
set_option linter.unusedVariables false
set_option linter.unusedSimpArgs false
namespace Go.Dm.Vm
open Go Go.Proofs.YtaoillfofiehpaaGreatDoor Go.Dm.Oc
theorem joinT {G T : Prop} (k : Go.RowKit.Hid T → G) (t : T) : G := k t
theorem allow_bit {what : Nat} (hw : what = 1 ∨ what = 2 ∨ what = 4) : ∀ p, p < 8 → (p &&& what = 0 ↔ p / what % 2 = 0) := by
  rcases hw with rfl | rfl | rfl <;> decide
theorem allowed_two {m : V} (hok : Ok m) {addr n what : Nat} (hn : 0 < n) (hn8 : n ≤ 8) (hw : what = 1 ∨ what = 2 ∨ what = 4) {p q : Pg} (hp : pageAt m (pageOf addr) = some p) (hq : pageAt m (pageOf (addr + n - 1)) = some q) :
    allowedE m addr n what = if p.prot / what % 2 = 0 ∨ q.prot / what % 2 = 0 then 41 else 0 := by
  have bp := allow_bit hw p.prot (by have := (hok.pg p (get_mem hp).1).pr; omega)
  have bq := allow_bit hw q.prot (by have := (hok.pg q (get_mem hq).1).pr; omega)
  have ap : allow1E m what (pageOf addr) = if p.prot / what % 2 = 0 then 41 else 0 := by
    unfold allow1E; rw [hp]; simp only [bp]
  have aq : allow1E m what (pageOf (addr + n - 1)) = if q.prot / what % 2 = 0 then 41 else 0 := by
    unfold allow1E; rw [hq]; simp only [bq]
  have hN : (pagesN addr n = 1 ∧ pageOf (addr + n - 1) = pageOf addr) ∨ (pagesN addr n = 2 ∧ pageOf (addr + n - 1) = pageOf addr + 256) := by
    unfold pagesN pageOf; omega
  unfold allowedE pagesOf
  rcases hN with ⟨h1, h2⟩ | ⟨h1, h2⟩
  · rw [h2] at hq aq
    rw [hp] at hq
    cases hq
    rw [h1]
    simp only [List.range_succ, List.range_zero, List.nil_append, List.map_cons, List.map_nil, Nat.mul_zero, Nat.add_zero, List.all_cons, List.all_nil, Bool.and_true, ap, or_self]
    split <;> simp_all
  · rw [h2] at aq
    rw [h1]
    simp only [List.range_succ, List.range_zero, List.nil_append, List.cons_append, List.map_cons, List.map_nil, Nat.mul_zero, Nat.mul_one, Nat.add_zero, List.all_cons, List.all_nil, Bool.and_true, ap, aq]
    by_cases h3 : p.prot / what % 2 = 0 <;> by_cases h4 : q.prot / what % 2 = 0 <;> simp [h3, h4]
end Go.Dm.Vm
namespace Go.Proofs.YtaoillfofiehpaaGreatDoor
open Go.RowKit Go.Dm Go.Dm.Vm Go.Maps Go.Dm.Oc

section
variable {A : Nat → Prop} {w : World} {v : Value} {m : V}
set_option maxRecDepth 100000 in
set_option maxHeartbeats 8000000 in
theorem rvfits8_any (addr what : Nat) (ha : addr < 18446744073709551616) (hw : what = 1 ∨ what = 2 ∨ what = 4) (h : Fl A w 6 encS v m) (hok : Ok m) :
    Calls Tryz.prog 53 #[.agg #[v], .int .u64 (addr : Int), .int .i64 8, .int .i64 (what : Int)] w fun e w' => e = .returned (.int .i64 (numE m addr 8 what : Nat)) ∧ Keep No w w' := by
  obtain ⟨av, cv, rfl, _, _⟩ := h.shape
  have hE : numE m addr 8 what = if Vm.heldE m addr 8 = 0 then allowedE m addr 8 what else Vm.heldE m addr 8 := by
    unfold numE; rw [if_pos (by decide)]; rfl
  have hpt := @held_parts m addr 8
  have hml := hok.len
  have hth : ∀ W, Keep No w W → Calls Tryz.prog 68 #[.agg #[.slice av m.length cv], .int .u64 (addr : Int), .int .u64 8] W _ := fun W hk => rvthere_any (w := W) addr 8 ha (by omega) (by omega) (by omega) (h.no hk) (by omega) (ok_small hok)
  have HOK := Lib.hid hok
  have HPT := Lib.hid hpt
  have hhe : Vm.heldE m addr 8 = 0 ∨ Vm.heldE m addr 8 = 40 := by
    unfold Vm.heldE
    split
    · exact .inr rfl
    · split
      · exact .inl rfl
      · exact .inr rfl
  generalize numE m addr 8 what = E at *
  have HE := Lib.hid hE
  have HTH := Lib.hid hth
  have HL := Lib.hid h
  clear hok hpt hth h hE
  go_enter Tryz.func53, Tryz.ntmps53
  go_wp2_with fail
  have hkW : Keep No w (w.alloc (.cells #[.slice av m.length cv] 52)) := (Keep.refl _ _).alloc _
  have hBW : Blk (w.alloc (.cells #[.slice av m.length cv] 52)) w.heap.size #[.slice av m.length cv] 52 := Blk.new _ _ _
  have hzW : (w.alloc (.cells #[.slice av m.length cv] 52)).heap.size = w.heap.size + 1 := World.size_alloc _ _
  generalize w.alloc (.cells #[.slice av m.length cv] 52) = W at *
  have q3 : W.cell? ⟨w.heap.size, 0, none⟩ = some (.slice av m.length cv) := hBW.cell 0
  have hcall := HTH.out W hkW
  go_wp2_with fail
  refine hcall.mono ?_
  rintro e wz ⟨rfl, hk2⟩
  have hB2 := hBW.keep hk2 fun h => h
  have hkz := hkW.trans' hk2
  rcases hhe with he | he
  · rw [he] at HE ⊢
    rw [if_pos rfl] at HE
    obtain ⟨p1, p2, _, p4⟩ := HPT.out he
    unfold top at p1 p2
    have hal : (addr : Int) ≤ 4294967296 := by omega
    have hsl : (addr : Int) + 8 ≤ 4294967296 := by omega
    obtain ⟨i, hi, hpa, hpat⟩ := page_idx (there_at p4 (i := 0) (by decide))
    obtain ⟨i2, hi2, hqa, hqat⟩ := page_idx (there_at p4 (i := 8 - 1) (by decide))
    rw [Nat.add_zero] at hpa hpat
    have hE := HE.out
    rw [allowed_two HOK.out (by decide) (by decide) hw hpat (q := m[i2]) (by rw [← hqat]; rfl)] at hE
    have HE2 := Lib.hid hE
    obtain ⟨g, off, cap, e, _, hglc, _, _, hc⟩ := (HL.out.no hkz).at encS_len hi
    cases e
    obtain ⟨g', off', cap', e, _, _, _, _, hc2⟩ := (HL.out.no hkz).at encS_len hi2
    cases e
    have hf1 : ∀ W, Keep No wz W → _ := fun W hkw => rvfind_at (w := W) addr ha (HL.out.no (hkz.trans' hkw)) HOK.out hi hpa
    have hf2 : ∀ W, Keep No wz W → _ := fun W hkw => rvfind_at (w := W) (addr + (8 - 1)) (by omega) (HL.out.no (hkz.trans' hkw)) HOK.out hi2 hqa
    have hz2 : ((addr + (8 - 1) : Nat) : Int) = (addr : Int) + 8 - 1 := by omega
    rw [hz2] at hf2
    have HW0 : what ≠ 0 := by omega
    have hd1 : (m[i].prot : Int).tdiv (what : Int) = ((m[i].prot / what : Nat) : Int) := by rw [Int.tdiv_eq_ediv_of_nonneg (by omega)]; rfl
    have hd2 : (m[i2].prot : Int).tdiv (what : Int) = ((m[i2].prot / what : Nat) : Int) := by rw [Int.tdiv_eq_ediv_of_nonneg (by omega)]; rfl
    have HD1 := Lib.hid hd1
    have HD2 := Lib.hid hd2
    clear hz2 hd1 hd2
    have HF1 := Lib.hid hf1
    have HF2 := Lib.hid hf2
    have hp7 := (HOK.out.pg _ (List.getElem_mem hi)).pr
    have hq7 := (HOK.out.pg _ (List.getElem_mem hi2)).pr
    have hil1 : (i : Int) < (m.length : Int) := by omega
    have hil2 : (i2 : Int) < (m.length : Int) := by omega
    clear hf1 hf2 hpa hqa hpat hqat HE hE HPT p1 p2 p4 he hcall q3 hkW hBW hk2 HTH
    generalize m[i] = p at *
    generalize m[i2] = q at *
    clear hi hi2
    have HC2 := Lib.hid hc2
    have b4c : wz.cell? ⟨w.heap.size, 0, none⟩ = some (.slice (some ⟨g, off, none⟩) m.length cv) := hB2.cell 0
    have c0 : wz.cell? ⟨g, off + i * 6, none⟩ = some (.int .u64 (p.addr : Int)) := hc 0 _ rfl
    have c1 : wz.cell? ⟨g, off + i * 6 + 1, none⟩ = some (.int .i64 (p.prot : Int)) := hc 1 _ rfl
    have c2 : wz.cell? ⟨g, off + i * 6 + 2, none⟩ = some (.bool p.dirty) := hc 2 _ rfl
    have c3 : wz.cell? ⟨g, off + i * 6 + 3, none⟩ = some (.string ⟨p.file.toArray⟩) := hc 3 _ rfl
    have c4 : wz.cell? ⟨g, off + i * 6 + 4, none⟩ = some (.int .u64 (p.off : Int)) := hc 4 _ rfl
    have c5 : wz.cell? ⟨g, off + i * 6 + 5, none⟩ = some (.string ⟨p.b.toArray⟩) := hc 5 _ rfl
    have hcw : w.heap.size < wz.heap.size := hB2.lt
    clear hc hc2
    go_wp2_with fail
    apply joinT
    · intro HJ
      have hkd : Keep No wz wz.drew := (Keep.refl No wz).drew
      refine wp_region_tree (fun w' => w'.cell? ⟨w.heap.size, 0, none⟩ = some (.slice (some ⟨g, off, none⟩) m.length cv) ∧ w'.cell? ⟨g, off + i * 6, none⟩ = some (.int .u64 (p.addr : Int)) ∧ w'.cell? ⟨g, off + i * 6 + 1, none⟩ = some (.int .i64 (p.prot : Int)) ∧ w'.cell? ⟨g, off + i * 6 + 2, none⟩ = some (.bool p.dirty) ∧ w'.cell? ⟨g, off + i * 6 + 3, none⟩ = some (.string ⟨p.file.toArray⟩) ∧ w'.cell? ⟨g, off + i * 6 + 4, none⟩ = some (.int .u64 (p.off : Int)) ∧ w'.cell? ⟨g, off + i * 6 + 5, none⟩ = some (.string ⟨p.b.toArray⟩)) (fun j => decide (j ≤ 7)) (.st 0 (.st 1 (.st 2 (.st 3 (.br 4 7 (.st 5 (.st 6 (.ef 7 (.ef 8 .nil)))) (.ef 4 (.st 5 (.st 6 (.ef 8 .nil))))))))) (by kernel_rfl) (by kernel_rfl) (by intro c a d v w h; cases d <;> exact h) ⟨b4c, c0, c1, c2, c3, c4, c5⟩ ?_
      apply tr_still (o := ⟨some 33, _, _, _, _, _⟩) rfl rfl
      · intro w' hS
        obtain ⟨q1, q2, q3, q4, q5, q6, q7⟩ := hS
        first | (go_simp; done) | (go_simp; rfl) | rfl
      go_frame
      apply tr_still (o := ⟨some 34, _, _, _, _, _⟩) rfl rfl
      · intro w' hS
        obtain ⟨q1, q2, q3, q4, q5, q6, q7⟩ := hS
        first | (go_simp; done) | (go_simp; rfl) | rfl
      go_frame
      apply tr_still (o := ⟨some 35, _, _, _, _, _⟩) rfl rfl
      · intro w' hS
        obtain ⟨q1, q2, q3, q4, q5, q6, q7⟩ := hS
        first | (go_simp; done) | (go_simp; rfl) | rfl
      go_frame
      apply tr_still (o := ⟨some 36, _, _, _, _, _⟩) rfl rfl
      · intro w' hS
        obtain ⟨q1, q2, q3, q4, q5, q6, q7⟩ := hS
        first | (go_simp; done) | (go_simp; rfl) | rfl
      go_frame
      refine tr_br (o := ⟨some 37, _, _, _, _, _⟩) (o' := ⟨some 10, _, _, _, _, _⟩) rfl rfl rfl rfl (fun K hKe => ?_) (fun K hKe => ?_)
      · have hfa := HF1.out _ hkd
        go_wp2_with fail
        refine hfa.mono ?_
        rintro e W3 ⟨rfl, hk3⟩
        replace hk3 := hkd.trans' hk3
        clear hfa
        have b4cx : (W3).cell? ⟨w.heap.size, 0, none⟩ = _ := ((hk3).cell (p := ⟨w.heap.size, 0, none⟩) hcw fun h => h).trans b4c
        have c0x : (W3).cell? ⟨g, off + i * 6, none⟩ = _ := ((hk3).cell (p := ⟨g, off + i * 6, none⟩) hglc fun h => h).trans c0
        have c1x : (W3).cell? ⟨g, off + i * 6 + 1, none⟩ = _ := ((hk3).cell (p := ⟨g, off + i * 6 + 1, none⟩) hglc fun h => h).trans c1
        have c2x : (W3).cell? ⟨g, off + i * 6 + 2, none⟩ = _ := ((hk3).cell (p := ⟨g, off + i * 6 + 2, none⟩) hglc fun h => h).trans c2
        have c3x : (W3).cell? ⟨g, off + i * 6 + 3, none⟩ = _ := ((hk3).cell (p := ⟨g, off + i * 6 + 3, none⟩) hglc fun h => h).trans c3
        have c4x : (W3).cell? ⟨g, off + i * 6 + 4, none⟩ = _ := ((hk3).cell (p := ⟨g, off + i * 6 + 4, none⟩) hglc fun h => h).trans c4
        have c5x : (W3).cell? ⟨g, off + i * 6 + 5, none⟩ = _ := ((hk3).cell (p := ⟨g, off + i * 6 + 5, none⟩) hglc fun h => h).trans c5
        go_wp2_with fail
        refine ⟨fun _ => ⟨b4cx, c0x, c1x, c2x, c3x, c4x, c5x⟩, ?_⟩
        apply tr_still (o := ⟨some 38, _, _, _, _, _⟩) rfl rfl
        · intro w' hS
          obtain ⟨q1, q2, q3, q4, q5, q6, q7⟩ := hS
          first | (go_simp; done) | (go_simp; rfl) | rfl
        go_frame
        apply tr_still (o := ⟨some 39, _, _, _, _, _⟩) rfl rfl
        · intro w' hS
          obtain ⟨q1, q2, q3, q4, q5, q6, q7⟩ := hS
          first | (go_simp; done) | (go_simp; rfl) | rfl
        go_frame
        refine tr_eff (o := ⟨some 10, _, _, _, _, _⟩) rfl rfl (fun K hKe => ?_)
        have hka : Keep No wz (W3.alloc (.cells #[.int .u64 0, .int .i64 0, .bool false, .string ⟨#[]⟩, .int .u64 0, .string ⟨#[]⟩] 90)) := hk3.alloc _
        have hBa : Blk (W3.alloc (.cells #[.int .u64 0, .int .i64 0, .bool false, .string ⟨#[]⟩, .int .u64 0, .string ⟨#[]⟩] 90)) W3.heap.size #[.int .u64 0, .int .i64 0, .bool false, .string ⟨#[]⟩, .int .u64 0, .string ⟨#[]⟩] 90 := Blk.new _ _ _
        have b4cy : ((W3.alloc (.cells #[.int .u64 0, .int .i64 0, .bool false, .string ⟨#[]⟩, .int .u64 0, .string ⟨#[]⟩] 90))).cell? ⟨w.heap.size, 0, none⟩ = _ := ((hka).cell (p := ⟨w.heap.size, 0, none⟩) hcw fun h => h).trans b4c
        have c0y : ((W3.alloc (.cells #[.int .u64 0, .int .i64 0, .bool false, .string ⟨#[]⟩, .int .u64 0, .string ⟨#[]⟩] 90))).cell? ⟨g, off + i * 6, none⟩ = _ := ((hka).cell (p := ⟨g, off + i * 6, none⟩) hglc fun h => h).trans c0
        have c1y : ((W3.alloc (.cells #[.int .u64 0, .int .i64 0, .bool false, .string ⟨#[]⟩, .int .u64 0, .string ⟨#[]⟩] 90))).cell? ⟨g, off + i * 6 + 1, none⟩ = _ := ((hka).cell (p := ⟨g, off + i * 6 + 1, none⟩) hglc fun h => h).trans c1
        have c2y : ((W3.alloc (.cells #[.int .u64 0, .int .i64 0, .bool false, .string ⟨#[]⟩, .int .u64 0, .string ⟨#[]⟩] 90))).cell? ⟨g, off + i * 6 + 2, none⟩ = _ := ((hka).cell (p := ⟨g, off + i * 6 + 2, none⟩) hglc fun h => h).trans c2
        have c3y : ((W3.alloc (.cells #[.int .u64 0, .int .i64 0, .bool false, .string ⟨#[]⟩, .int .u64 0, .string ⟨#[]⟩] 90))).cell? ⟨g, off + i * 6 + 3, none⟩ = _ := ((hka).cell (p := ⟨g, off + i * 6 + 3, none⟩) hglc fun h => h).trans c3
        have c4y : ((W3.alloc (.cells #[.int .u64 0, .int .i64 0, .bool false, .string ⟨#[]⟩, .int .u64 0, .string ⟨#[]⟩] 90))).cell? ⟨g, off + i * 6 + 4, none⟩ = _ := ((hka).cell (p := ⟨g, off + i * 6 + 4, none⟩) hglc fun h => h).trans c4
        have c5y : ((W3.alloc (.cells #[.int .u64 0, .int .i64 0, .bool false, .string ⟨#[]⟩, .int .u64 0, .string ⟨#[]⟩] 90))).cell? ⟨g, off + i * 6 + 5, none⟩ = _ := ((hka).cell (p := ⟨g, off + i * 6 + 5, none⟩) hglc fun h => h).trans c5
        go_wp2_with fail
        refine ⟨fun _ => ⟨b4cy, c0y, c1y, c2y, c3y, c4y, c5y⟩, ?_⟩
        refine tr_eff (o := ⟨none, _, _, _, _, _⟩) rfl rfl (fun K hKe => ?_)
        refine wo_stAgg (.tmp 10) (.tmp 39) 90 rfl _ _ rfl rfl ?_
        refine rg_stAgg hBa (by kernel_rfl) (by rfl) (by simp [Value.oneCell']) ?_
        intro cW hbpc hk5a hz5
        have hg2 : wz.heap.size ≤ W3.heap.size := hk3.size
        have hk5c : Keep No wz cW := hka.trans hk5a fun j hj e => by have e2 : j = W3.heap.size := e; omega
        refine hKe _ _ ⟨fun h => by simp at h, tr_nil ?_⟩
        clear b4cx c0x c1x c2x c3x c4x c5x b4cy c0y c1y c2y c3y c4y c5y hka hBa hk3 hkd hk5a hg2 hz5
        generalize W3.heap.size = ggc at *
        revert hk5c
        revert hbpc
        revert ggc cW
        exact HJ.out
      · have hka : Keep No wz (wz.alloc (.cells #[.int .u64 0, .int .i64 0, .bool false, .string ⟨#[]⟩, .int .u64 0, .string ⟨#[]⟩] 90)).drew := ((Keep.refl No wz).alloc _).drew
        have hBa : Blk (wz.alloc (.cells #[.int .u64 0, .int .i64 0, .bool false, .string ⟨#[]⟩, .int .u64 0, .string ⟨#[]⟩] 90)).drew wz.heap.size #[.int .u64 0, .int .i64 0, .bool false, .string ⟨#[]⟩, .int .u64 0, .string ⟨#[]⟩] 90 := (Blk.new wz _ _).keep (Keep.refl No _).drew fun h => h
        go_wp2_with fail
        refine tr_eff (o := ⟨some 37, _, _, _, _, _⟩) rfl rfl (fun K hKe => ?_)
        have hfa := HF1.out _ hka
        go_wp2_with fail
        refine hfa.mono ?_
        rintro e W3 ⟨rfl, hk3⟩
        have hBa3 := hBa.keep hk3 fun h => h
        replace hk3 := hka.trans' hk3
        clear hfa
        have b4cx : (W3).cell? ⟨w.heap.size, 0, none⟩ = _ := ((hk3).cell (p := ⟨w.heap.size, 0, none⟩) hcw fun h => h).trans b4c
        have c0x : (W3).cell? ⟨g, off + i * 6, none⟩ = _ := ((hk3).cell (p := ⟨g, off + i * 6, none⟩) hglc fun h => h).trans c0
        have c1x : (W3).cell? ⟨g, off + i * 6 + 1, none⟩ = _ := ((hk3).cell (p := ⟨g, off + i * 6 + 1, none⟩) hglc fun h => h).trans c1
        have c2x : (W3).cell? ⟨g, off + i * 6 + 2, none⟩ = _ := ((hk3).cell (p := ⟨g, off + i * 6 + 2, none⟩) hglc fun h => h).trans c2
        have c3x : (W3).cell? ⟨g, off + i * 6 + 3, none⟩ = _ := ((hk3).cell (p := ⟨g, off + i * 6 + 3, none⟩) hglc fun h => h).trans c3
        have c4x : (W3).cell? ⟨g, off + i * 6 + 4, none⟩ = _ := ((hk3).cell (p := ⟨g, off + i * 6 + 4, none⟩) hglc fun h => h).trans c4
        have c5x : (W3).cell? ⟨g, off + i * 6 + 5, none⟩ = _ := ((hk3).cell (p := ⟨g, off + i * 6 + 5, none⟩) hglc fun h => h).trans c5
        go_wp2_with fail
        refine ⟨fun _ => ⟨b4cx, c0x, c1x, c2x, c3x, c4x, c5x⟩, ?_⟩
        apply tr_still (o := ⟨some 38, _, _, _, _, _⟩) rfl rfl
        · intro w' hS
          obtain ⟨q1, q2, q3, q4, q5, q6, q7⟩ := hS
          first | (go_simp; done) | (go_simp; rfl) | rfl
        go_frame
        apply tr_still (o := ⟨some 39, _, _, _, _, _⟩) rfl rfl
        · intro w' hS
          obtain ⟨q1, q2, q3, q4, q5, q6, q7⟩ := hS
          first | (go_simp; done) | (go_simp; rfl) | rfl
        go_frame
        refine tr_eff (o := ⟨none, _, _, _, _, _⟩) rfl rfl (fun K hKe => ?_)
        refine wo_stAgg (.tmp 10) (.tmp 39) 90 rfl _ _ rfl rfl ?_
        refine rg_stAgg hBa3 (by kernel_rfl) (by rfl) (by simp [Value.oneCell']) ?_
        intro cW hbpc hk5a hz5
        have hk5c : Keep No wz cW := hk3.trans hk5a fun j hj e => by have e2 : j = wz.heap.size := e; omega
        obtain ⟨ggc, hg2e⟩ : ∃ g2, g2 = wz.heap.size := ⟨_, rfl⟩
        refine hKe _ _ ⟨fun h => by simp at h, tr_nil ?_⟩
        clear b4cx c0x c1x c2x c3x c4x c5x hka hBa hBa3 hk3 hkd hk5a hz5
        rw [← hg2e] at hbpc
        have e3 : wz.drew.heap.size = ggc := hg2e.symm
        try rw [e3]
        try rw [← hg2e]
        clear e3 hg2e
        revert hk5c
        revert hbpc
        revert ggc cW
        exact HJ.out
    · intro cW ggc hbpc hk5c
      have hcw2 := hk5c.size
      have b4d : cW.cell? ⟨w.heap.size, 0, none⟩ = _ := (hk5c.cell (p := ⟨w.heap.size, 0, none⟩) hcw fun h => h).trans b4c
      have d0 : cW.cell? ⟨g, off + i2 * 6, none⟩ = some (.int .u64 (q.addr : Int)) := (hk5c.cell (p := ⟨g, off + i2 * 6, none⟩) hglc fun h => h).trans (HC2.out 0 _ rfl)
      have d1 : cW.cell? ⟨g, off + i2 * 6 + 1, none⟩ = some (.int .i64 (q.prot : Int)) := (hk5c.cell (p := ⟨g, off + i2 * 6 + 1, none⟩) hglc fun h => h).trans (HC2.out 1 _ rfl)
      have d2 : cW.cell? ⟨g, off + i2 * 6 + 2, none⟩ = some (.bool q.dirty) := (hk5c.cell (p := ⟨g, off + i2 * 6 + 2, none⟩) hglc fun h => h).trans (HC2.out 2 _ rfl)
      have d3 : cW.cell? ⟨g, off + i2 * 6 + 3, none⟩ = some (.string ⟨q.file.toArray⟩) := (hk5c.cell (p := ⟨g, off + i2 * 6 + 3, none⟩) hglc fun h => h).trans (HC2.out 3 _ rfl)
      have d4 : cW.cell? ⟨g, off + i2 * 6 + 4, none⟩ = some (.int .u64 (q.off : Int)) := (hk5c.cell (p := ⟨g, off + i2 * 6 + 4, none⟩) hglc fun h => h).trans (HC2.out 4 _ rfl)
      have d5 : cW.cell? ⟨g, off + i2 * 6 + 5, none⟩ = some (.string ⟨q.b.toArray⟩) := (hk5c.cell (p := ⟨g, off + i2 * 6 + 5, none⟩) hglc fun h => h).trans (HC2.out 5 _ rfl)
      have hgld : g < cW.heap.size := Nat.lt_of_lt_of_le hglc hcw2
      clear c0 c1 c2 c3 c4 c5 b4c
      replace hcw : w.heap.size < cW.heap.size := Nat.lt_of_lt_of_le hcw hcw2
      have HFD : ∀ W, Keep No cW W → _ := fun W hk => HF2.out W (hk5c.trans' hk)
      have HF3 := Lib.hid HFD
      have hkk2 := hkz.trans' hk5c
      clear HFD hk5c hcw2 hglc HF1 HC2 HF2 hB2 hkz
      generalize cW = wz at *
      go_wp2_with fail
      apply joinT
      · intro HJ
        have hkd : Keep No wz wz.drew := (Keep.refl No wz).drew
        refine wp_region_tree (fun w' => w'.cell? ⟨w.heap.size, 0, none⟩ = some (.slice (some ⟨g, off, none⟩) m.length cv) ∧ w'.cell? ⟨g, off + i2 * 6, none⟩ = some (.int .u64 (q.addr : Int)) ∧ w'.cell? ⟨g, off + i2 * 6 + 1, none⟩ = some (.int .i64 (q.prot : Int)) ∧ w'.cell? ⟨g, off + i2 * 6 + 2, none⟩ = some (.bool q.dirty) ∧ w'.cell? ⟨g, off + i2 * 6 + 3, none⟩ = some (.string ⟨q.file.toArray⟩) ∧ w'.cell? ⟨g, off + i2 * 6 + 4, none⟩ = some (.int .u64 (q.off : Int)) ∧ w'.cell? ⟨g, off + i2 * 6 + 5, none⟩ = some (.string ⟨q.b.toArray⟩)) (fun j => decide (j ≤ 11)) (.st 0 (.st 1 (.st 2 (.st 3 (.st 4 (.st 5 (.st 6 (.st 7 (.br 8 11 (.st 9 (.st 10 (.ef 11 (.ef 12 .nil)))) (.ef 8 (.st 9 (.st 10 (.ef 12 .nil))))))))))))) (by kernel_rfl) (by kernel_rfl) (by intro c a d v w h; cases d <;> exact h) ⟨b4d, d0, d1, d2, d3, d4, d5⟩ ?_
        apply tr_still (o := ⟨some 40, _, _, _, _, _⟩) rfl rfl
        · intro w' hS
          obtain ⟨q1, q2, q3, q4, q5, q6, q7⟩ := hS
          first | (go_simp; done) | (go_simp; rfl) | rfl
        go_frame
        apply tr_still (o := ⟨some 41, _, _, _, _, _⟩) rfl rfl
        · intro w' hS
          obtain ⟨q1, q2, q3, q4, q5, q6, q7⟩ := hS
          first | (go_simp; done) | (go_simp; rfl) | rfl
        go_frame
        apply tr_still (o := ⟨some 42, _, _, _, _, _⟩) rfl rfl
        · intro w' hS
          obtain ⟨q1, q2, q3, q4, q5, q6, q7⟩ := hS
          first | (go_simp; done) | (go_simp; rfl) | rfl
        go_frame
        apply tr_still (o := ⟨some 43, _, _, _, _, _⟩) rfl rfl
        · intro w' hS
          obtain ⟨q1, q2, q3, q4, q5, q6, q7⟩ := hS
          first | (go_simp; done) | (go_simp; rfl) | rfl
        go_frame
        apply tr_still (o := ⟨some 44, _, _, _, _, _⟩) rfl rfl
        · intro w' hS
          obtain ⟨q1, q2, q3, q4, q5, q6, q7⟩ := hS
          first | (go_simp; done) | (go_simp; rfl) | rfl
        go_frame
        apply tr_still (o := ⟨some 45, _, _, _, _, _⟩) rfl rfl
        · intro w' hS
          obtain ⟨q1, q2, q3, q4, q5, q6, q7⟩ := hS
          first | (go_simp; done) | (go_simp; rfl) | rfl
        go_frame
        apply tr_still (o := ⟨some 46, _, _, _, _, _⟩) rfl rfl
        · intro w' hS
          obtain ⟨q1, q2, q3, q4, q5, q6, q7⟩ := hS
          first | (go_simp; done) | (go_simp; rfl) | rfl
        go_frame
        apply tr_still (o := ⟨some 47, _, _, _, _, _⟩) rfl rfl
        · intro w' hS
          obtain ⟨q1, q2, q3, q4, q5, q6, q7⟩ := hS
          first | (go_simp; done) | (go_simp; rfl) | rfl
        go_frame
        refine tr_br (o := ⟨some 48, _, _, _, _, _⟩) (o' := ⟨some 11, _, _, _, _, _⟩) rfl rfl rfl rfl (fun K hKe => ?_) (fun K hKe => ?_)
        · have hfa := HF3.out _ hkd
          go_wp2_with fail
          refine hfa.mono ?_
          rintro e W3 ⟨rfl, hk3⟩
          replace hk3 := hkd.trans' hk3
          clear hfa
          have b4dx : (W3).cell? ⟨w.heap.size, 0, none⟩ = _ := ((hk3).cell (p := ⟨w.heap.size, 0, none⟩) hcw fun h => h).trans b4d
          have d0x : (W3).cell? ⟨g, off + i2 * 6, none⟩ = _ := ((hk3).cell (p := ⟨g, off + i2 * 6, none⟩) hgld fun h => h).trans d0
          have d1x : (W3).cell? ⟨g, off + i2 * 6 + 1, none⟩ = _ := ((hk3).cell (p := ⟨g, off + i2 * 6 + 1, none⟩) hgld fun h => h).trans d1
          have d2x : (W3).cell? ⟨g, off + i2 * 6 + 2, none⟩ = _ := ((hk3).cell (p := ⟨g, off + i2 * 6 + 2, none⟩) hgld fun h => h).trans d2
          have d3x : (W3).cell? ⟨g, off + i2 * 6 + 3, none⟩ = _ := ((hk3).cell (p := ⟨g, off + i2 * 6 + 3, none⟩) hgld fun h => h).trans d3
          have d4x : (W3).cell? ⟨g, off + i2 * 6 + 4, none⟩ = _ := ((hk3).cell (p := ⟨g, off + i2 * 6 + 4, none⟩) hgld fun h => h).trans d4
          have d5x : (W3).cell? ⟨g, off + i2 * 6 + 5, none⟩ = _ := ((hk3).cell (p := ⟨g, off + i2 * 6 + 5, none⟩) hgld fun h => h).trans d5
          go_wp2_with fail
          refine ⟨fun _ => ⟨b4dx, d0x, d1x, d2x, d3x, d4x, d5x⟩, ?_⟩
          apply tr_still (o := ⟨some 49, _, _, _, _, _⟩) rfl rfl
          · intro w' hS
            obtain ⟨q1, q2, q3, q4, q5, q6, q7⟩ := hS
            first | (go_simp; done) | (go_simp; rfl) | rfl
          go_frame
          apply tr_still (o := ⟨some 50, _, _, _, _, _⟩) rfl rfl
          · intro w' hS
            obtain ⟨q1, q2, q3, q4, q5, q6, q7⟩ := hS
            first | (go_simp; done) | (go_simp; rfl) | rfl
          go_frame
          refine tr_eff (o := ⟨some 11, _, _, _, _, _⟩) rfl rfl (fun K hKe => ?_)
          have hka : Keep No wz (W3.alloc (.cells #[.int .u64 0, .int .i64 0, .bool false, .string ⟨#[]⟩, .int .u64 0, .string ⟨#[]⟩] 90)) := hk3.alloc _
          have hBa : Blk (W3.alloc (.cells #[.int .u64 0, .int .i64 0, .bool false, .string ⟨#[]⟩, .int .u64 0, .string ⟨#[]⟩] 90)) W3.heap.size #[.int .u64 0, .int .i64 0, .bool false, .string ⟨#[]⟩, .int .u64 0, .string ⟨#[]⟩] 90 := Blk.new _ _ _
          have b4dy : ((W3.alloc (.cells #[.int .u64 0, .int .i64 0, .bool false, .string ⟨#[]⟩, .int .u64 0, .string ⟨#[]⟩] 90))).cell? ⟨w.heap.size, 0, none⟩ = _ := ((hka).cell (p := ⟨w.heap.size, 0, none⟩) hcw fun h => h).trans b4d
          have d0y : ((W3.alloc (.cells #[.int .u64 0, .int .i64 0, .bool false, .string ⟨#[]⟩, .int .u64 0, .string ⟨#[]⟩] 90))).cell? ⟨g, off + i2 * 6, none⟩ = _ := ((hka).cell (p := ⟨g, off + i2 * 6, none⟩) hgld fun h => h).trans d0
          have d1y : ((W3.alloc (.cells #[.int .u64 0, .int .i64 0, .bool false, .string ⟨#[]⟩, .int .u64 0, .string ⟨#[]⟩] 90))).cell? ⟨g, off + i2 * 6 + 1, none⟩ = _ := ((hka).cell (p := ⟨g, off + i2 * 6 + 1, none⟩) hgld fun h => h).trans d1
          have d2y : ((W3.alloc (.cells #[.int .u64 0, .int .i64 0, .bool false, .string ⟨#[]⟩, .int .u64 0, .string ⟨#[]⟩] 90))).cell? ⟨g, off + i2 * 6 + 2, none⟩ = _ := ((hka).cell (p := ⟨g, off + i2 * 6 + 2, none⟩) hgld fun h => h).trans d2
          have d3y : ((W3.alloc (.cells #[.int .u64 0, .int .i64 0, .bool false, .string ⟨#[]⟩, .int .u64 0, .string ⟨#[]⟩] 90))).cell? ⟨g, off + i2 * 6 + 3, none⟩ = _ := ((hka).cell (p := ⟨g, off + i2 * 6 + 3, none⟩) hgld fun h => h).trans d3
          have d4y : ((W3.alloc (.cells #[.int .u64 0, .int .i64 0, .bool false, .string ⟨#[]⟩, .int .u64 0, .string ⟨#[]⟩] 90))).cell? ⟨g, off + i2 * 6 + 4, none⟩ = _ := ((hka).cell (p := ⟨g, off + i2 * 6 + 4, none⟩) hgld fun h => h).trans d4
          have d5y : ((W3.alloc (.cells #[.int .u64 0, .int .i64 0, .bool false, .string ⟨#[]⟩, .int .u64 0, .string ⟨#[]⟩] 90))).cell? ⟨g, off + i2 * 6 + 5, none⟩ = _ := ((hka).cell (p := ⟨g, off + i2 * 6 + 5, none⟩) hgld fun h => h).trans d5
          go_wp2_with fail
          refine ⟨fun _ => ⟨b4dy, d0y, d1y, d2y, d3y, d4y, d5y⟩, ?_⟩
          refine tr_eff (o := ⟨none, _, _, _, _, _⟩) rfl rfl (fun K hKe => ?_)
          refine wo_stAgg (.tmp 11) (.tmp 50) 90 rfl _ _ rfl rfl ?_
          refine rg_stAgg hBa (by kernel_rfl) (by rfl) (by simp [Value.oneCell']) ?_
          intro dW hbpd hk5a hz5
          have hg2 : wz.heap.size ≤ W3.heap.size := hk3.size
          have hk5d : Keep No wz dW := hka.trans hk5a fun j hj e => by have e2 : j = W3.heap.size := e; omega
          refine hKe _ _ ⟨fun h => by simp at h, tr_nil ?_⟩
          clear b4dx d0x d1x d2x d3x d4x d5x b4dy d0y d1y d2y d3y d4y d5y hka hBa hk3 hkd hk5a hg2 hz5
          generalize W3.heap.size = ggd at *
          revert hk5d
          revert hbpd
          revert ggd dW
          exact HJ.out
        · have hka : Keep No wz (wz.alloc (.cells #[.int .u64 0, .int .i64 0, .bool false, .string ⟨#[]⟩, .int .u64 0, .string ⟨#[]⟩] 90)).drew := ((Keep.refl No wz).alloc _).drew
          have hBa : Blk (wz.alloc (.cells #[.int .u64 0, .int .i64 0, .bool false, .string ⟨#[]⟩, .int .u64 0, .string ⟨#[]⟩] 90)).drew wz.heap.size #[.int .u64 0, .int .i64 0, .bool false, .string ⟨#[]⟩, .int .u64 0, .string ⟨#[]⟩] 90 := (Blk.new wz _ _).keep (Keep.refl No _).drew fun h => h
          go_wp2_with fail
          refine tr_eff (o := ⟨some 48, _, _, _, _, _⟩) rfl rfl (fun K hKe => ?_)
          have hfa := HF3.out _ hka
          go_wp2_with fail
          refine hfa.mono ?_
          rintro e W3 ⟨rfl, hk3⟩
          have hBa3 := hBa.keep hk3 fun h => h
          replace hk3 := hka.trans' hk3
          clear hfa
          have b4dx : (W3).cell? ⟨w.heap.size, 0, none⟩ = _ := ((hk3).cell (p := ⟨w.heap.size, 0, none⟩) hcw fun h => h).trans b4d
          have d0x : (W3).cell? ⟨g, off + i2 * 6, none⟩ = _ := ((hk3).cell (p := ⟨g, off + i2 * 6, none⟩) hgld fun h => h).trans d0
          have d1x : (W3).cell? ⟨g, off + i2 * 6 + 1, none⟩ = _ := ((hk3).cell (p := ⟨g, off + i2 * 6 + 1, none⟩) hgld fun h => h).trans d1
          have d2x : (W3).cell? ⟨g, off + i2 * 6 + 2, none⟩ = _ := ((hk3).cell (p := ⟨g, off + i2 * 6 + 2, none⟩) hgld fun h => h).trans d2
          have d3x : (W3).cell? ⟨g, off + i2 * 6 + 3, none⟩ = _ := ((hk3).cell (p := ⟨g, off + i2 * 6 + 3, none⟩) hgld fun h => h).trans d3
          have d4x : (W3).cell? ⟨g, off + i2 * 6 + 4, none⟩ = _ := ((hk3).cell (p := ⟨g, off + i2 * 6 + 4, none⟩) hgld fun h => h).trans d4
          have d5x : (W3).cell? ⟨g, off + i2 * 6 + 5, none⟩ = _ := ((hk3).cell (p := ⟨g, off + i2 * 6 + 5, none⟩) hgld fun h => h).trans d5
          go_wp2_with fail
          refine ⟨fun _ => ⟨b4dx, d0x, d1x, d2x, d3x, d4x, d5x⟩, ?_⟩
          apply tr_still (o := ⟨some 49, _, _, _, _, _⟩) rfl rfl
          · intro w' hS
            obtain ⟨q1, q2, q3, q4, q5, q6, q7⟩ := hS
            first | (go_simp; done) | (go_simp; rfl) | rfl
          go_frame
          apply tr_still (o := ⟨some 50, _, _, _, _, _⟩) rfl rfl
          · intro w' hS
            obtain ⟨q1, q2, q3, q4, q5, q6, q7⟩ := hS
            first | (go_simp; done) | (go_simp; rfl) | rfl
          go_frame
          refine tr_eff (o := ⟨none, _, _, _, _, _⟩) rfl rfl (fun K hKe => ?_)
          refine wo_stAgg (.tmp 11) (.tmp 50) 90 rfl _ _ rfl rfl ?_
          refine rg_stAgg hBa3 (by kernel_rfl) (by rfl) (by simp [Value.oneCell']) ?_
          intro dW hbpd hk5a hz5
          have hk5d : Keep No wz dW := hk3.trans hk5a fun j hj e => by have e2 : j = wz.heap.size := e; omega
          obtain ⟨ggd, hg2e⟩ : ∃ g2, g2 = wz.heap.size := ⟨_, rfl⟩
          refine hKe _ _ ⟨fun h => by simp at h, tr_nil ?_⟩
          clear b4dx d0x d1x d2x d3x d4x d5x hka hBa hBa3 hk3 hkd hk5a hz5
          rw [← hg2e] at hbpd
          have e3 : wz.drew.heap.size = ggd := hg2e.symm
          try rw [e3]
          try rw [← hg2e]
          clear e3 hg2e
          revert hk5d
          revert hbpd
          revert ggd dW
          exact HJ.out
      · intro dW ggd hbpd hk5d
        have e1 : dW.cell? ⟨ggc, 1, none⟩ = some (.int .i64 (p.prot : Int)) := (hbpc.keep hk5d fun h => h).cell 1
        have e2 : dW.cell? ⟨ggd, 1, none⟩ = some (.int .i64 (q.prot : Int)) := hbpd.cell 1
        have hkk3 := hkk2.trans' hk5d
        clear d0 d1 d2 d3 d4 d5 b4d hk5d hbpc hbpd HF3
        have hd1 := HD1.out
        have hd2 := HD2.out
        have hp2 : p.prot / what ≤ 7 := Nat.le_trans (Nat.div_le_self _ _) hp7
        have hq2 : q.prot / what ≤ 7 := Nat.le_trans (Nat.div_le_self _ _) hq7
        generalize p.prot / what = p2 at *
        generalize q.prot / what = q2 at *
        have hm1 : (p2 : Int).tmod 2 = ((p2 % 2 : Nat) : Int) := by rw [Int.tmod_eq_emod_of_nonneg (by omega)]; omega
        have hm2 : (q2 : Int).tmod 2 = ((q2 % 2 : Nat) : Int) := by rw [Int.tmod_eq_emod_of_nonneg (by omega)]; omega
        generalize p2 % 2 = p3 at *
        generalize q2 % 2 = q3 at *
        have hwz : (what : Int) ≠ 0 := by omega
        clear HD1 HD2 hal hsl hil1 hil2 ha hml hp7 hq7 hw HW0
        by_cases h1 : p3 = 0
        · rw [if_pos (.inl h1)] at HE2
          subst h1
          go_wp2_with fail
          go_ret
          rw [HE2.out]
          exact ⟨rfl, hkk3⟩
        · have h1b : ((p3 : Int) == 0) = false := by simp; omega
          by_cases h2 : q3 = 0
          · rw [if_pos (.inr h2)] at HE2
            subst h2
            clear h1
            go_wp2_with fail
            go_ret
            rw [HE2.out]
            exact ⟨rfl, hkk3⟩
          · have h2b : ((q3 : Int) == 0) = false := by simp; omega
            rw [if_neg (by omega)] at HE2
            clear h1 h2
            go_wp2_with fail
            go_ret
            rw [HE2.out]
            exact ⟨rfl, hkk3⟩
  · rw [he] at HE ⊢
    rw [if_neg (by decide)] at HE
    clear hcall HPT
    go_wp2_with fail
    go_ret
    rw [HE.out]
    exact ⟨rfl, hkz⟩
set_option maxRecDepth 100000 in
set_option maxHeartbeats 8000000 in
theorem rvfits4_any (addr what : Nat) (ha : addr < 18446744073709551616) (hw : what = 1 ∨ what = 2 ∨ what = 4) (h : Fl A w 6 encS v m) (hok : Ok m) :
    Calls Tryz.prog 53 #[.agg #[v], .int .u64 (addr : Int), .int .i64 4, .int .i64 (what : Int)] w fun e w' => e = .returned (.int .i64 (numE m addr 4 what : Nat)) ∧ Keep No w w' := by
  obtain ⟨av, cv, rfl, _, _⟩ := h.shape
  have hE : numE m addr 4 what = if Vm.heldE m addr 4 = 0 then allowedE m addr 4 what else Vm.heldE m addr 4 := by
    unfold numE; rw [if_pos (by decide)]; rfl
  have hpt := @held_parts m addr 4
  have hml := hok.len
  have hth : ∀ W, Keep No w W → Calls Tryz.prog 68 #[.agg #[.slice av m.length cv], .int .u64 (addr : Int), .int .u64 4] W _ := fun W hk => rvthere_any (w := W) addr 4 ha (by omega) (by omega) (by omega) (h.no hk) (by omega) (ok_small hok)
  have HOK := Lib.hid hok
  have HPT := Lib.hid hpt
  have hhe : Vm.heldE m addr 4 = 0 ∨ Vm.heldE m addr 4 = 40 := by
    unfold Vm.heldE
    split
    · exact .inr rfl
    · split
      · exact .inl rfl
      · exact .inr rfl
  generalize numE m addr 4 what = E at *
  have HE := Lib.hid hE
  have HTH := Lib.hid hth
  have HL := Lib.hid h
  clear hok hpt hth h hE
  go_enter Tryz.func53, Tryz.ntmps53
  go_wp2_with fail
  have hkW : Keep No w (w.alloc (.cells #[.slice av m.length cv] 52)) := (Keep.refl _ _).alloc _
  have hBW : Blk (w.alloc (.cells #[.slice av m.length cv] 52)) w.heap.size #[.slice av m.length cv] 52 := Blk.new _ _ _
  have hzW : (w.alloc (.cells #[.slice av m.length cv] 52)).heap.size = w.heap.size + 1 := World.size_alloc _ _
  generalize w.alloc (.cells #[.slice av m.length cv] 52) = W at *
  have q3 : W.cell? ⟨w.heap.size, 0, none⟩ = some (.slice av m.length cv) := hBW.cell 0
  have hcall := HTH.out W hkW
  go_wp2_with fail
  refine hcall.mono ?_
  rintro e wz ⟨rfl, hk2⟩
  have hB2 := hBW.keep hk2 fun h => h
  have hkz := hkW.trans' hk2
  rcases hhe with he | he
  · rw [he] at HE ⊢
    rw [if_pos rfl] at HE
    obtain ⟨p1, p2, _, p4⟩ := HPT.out he
    unfold top at p1 p2
    have hal : (addr : Int) ≤ 4294967296 := by omega
    have hsl : (addr : Int) + 4 ≤ 4294967296 := by omega
    obtain ⟨i, hi, hpa, hpat⟩ := page_idx (there_at p4 (i := 0) (by decide))
    obtain ⟨i2, hi2, hqa, hqat⟩ := page_idx (there_at p4 (i := 4 - 1) (by decide))
    rw [Nat.add_zero] at hpa hpat
    have hE := HE.out
    rw [allowed_two HOK.out (by decide) (by decide) hw hpat (q := m[i2]) (by rw [← hqat]; rfl)] at hE
    have HE2 := Lib.hid hE
    obtain ⟨g, off, cap, e, _, hglc, _, _, hc⟩ := (HL.out.no hkz).at encS_len hi
    cases e
    obtain ⟨g', off', cap', e, _, _, _, _, hc2⟩ := (HL.out.no hkz).at encS_len hi2
    cases e
    have hf1 : ∀ W, Keep No wz W → _ := fun W hkw => rvfind_at (w := W) addr ha (HL.out.no (hkz.trans' hkw)) HOK.out hi hpa
    have hf2 : ∀ W, Keep No wz W → _ := fun W hkw => rvfind_at (w := W) (addr + (4 - 1)) (by omega) (HL.out.no (hkz.trans' hkw)) HOK.out hi2 hqa
    have hz2 : ((addr + (4 - 1) : Nat) : Int) = (addr : Int) + 4 - 1 := by omega
    rw [hz2] at hf2
    have HW0 : what ≠ 0 := by omega
    have hd1 : (m[i].prot : Int).tdiv (what : Int) = ((m[i].prot / what : Nat) : Int) := by rw [Int.tdiv_eq_ediv_of_nonneg (by omega)]; rfl
    have hd2 : (m[i2].prot : Int).tdiv (what : Int) = ((m[i2].prot / what : Nat) : Int) := by rw [Int.tdiv_eq_ediv_of_nonneg (by omega)]; rfl
    have HD1 := Lib.hid hd1
    have HD2 := Lib.hid hd2
    clear hz2 hd1 hd2
    have HF1 := Lib.hid hf1
    have HF2 := Lib.hid hf2
    have hp7 := (HOK.out.pg _ (List.getElem_mem hi)).pr
    have hq7 := (HOK.out.pg _ (List.getElem_mem hi2)).pr
    have hil1 : (i : Int) < (m.length : Int) := by omega
    have hil2 : (i2 : Int) < (m.length : Int) := by omega
    clear hf1 hf2 hpa hqa hpat hqat HE hE HPT p1 p2 p4 he hcall q3 hkW hBW hk2 HTH
    generalize m[i] = p at *
    generalize m[i2] = q at *
    clear hi hi2
    have HC2 := Lib.hid hc2
    have b4c : wz.cell? ⟨w.heap.size, 0, none⟩ = some (.slice (some ⟨g, off, none⟩) m.length cv) := hB2.cell 0
    have c0 : wz.cell? ⟨g, off + i * 6, none⟩ = some (.int .u64 (p.addr : Int)) := hc 0 _ rfl
    have c1 : wz.cell? ⟨g, off + i * 6 + 1, none⟩ = some (.int .i64 (p.prot : Int)) := hc 1 _ rfl
    have c2 : wz.cell? ⟨g, off + i * 6 + 2, none⟩ = some (.bool p.dirty) := hc 2 _ rfl
    have c3 : wz.cell? ⟨g, off + i * 6 + 3, none⟩ = some (.string ⟨p.file.toArray⟩) := hc 3 _ rfl
    have c4 : wz.cell? ⟨g, off + i * 6 + 4, none⟩ = some (.int .u64 (p.off : Int)) := hc 4 _ rfl
    have c5 : wz.cell? ⟨g, off + i * 6 + 5, none⟩ = some (.string ⟨p.b.toArray⟩) := hc 5 _ rfl
    have hcw : w.heap.size < wz.heap.size := hB2.lt
    clear hc hc2
    go_wp2_with fail
    apply joinT
    · intro HJ
      have hkd : Keep No wz wz.drew := (Keep.refl No wz).drew
      refine wp_region_tree (fun w' => w'.cell? ⟨w.heap.size, 0, none⟩ = some (.slice (some ⟨g, off, none⟩) m.length cv) ∧ w'.cell? ⟨g, off + i * 6, none⟩ = some (.int .u64 (p.addr : Int)) ∧ w'.cell? ⟨g, off + i * 6 + 1, none⟩ = some (.int .i64 (p.prot : Int)) ∧ w'.cell? ⟨g, off + i * 6 + 2, none⟩ = some (.bool p.dirty) ∧ w'.cell? ⟨g, off + i * 6 + 3, none⟩ = some (.string ⟨p.file.toArray⟩) ∧ w'.cell? ⟨g, off + i * 6 + 4, none⟩ = some (.int .u64 (p.off : Int)) ∧ w'.cell? ⟨g, off + i * 6 + 5, none⟩ = some (.string ⟨p.b.toArray⟩)) (fun j => decide (j ≤ 7)) (.st 0 (.st 1 (.st 2 (.st 3 (.br 4 7 (.st 5 (.st 6 (.ef 7 (.ef 8 .nil)))) (.ef 4 (.st 5 (.st 6 (.ef 8 .nil))))))))) (by kernel_rfl) (by kernel_rfl) (by intro c a d v w h; cases d <;> exact h) ⟨b4c, c0, c1, c2, c3, c4, c5⟩ ?_
      apply tr_still (o := ⟨some 33, _, _, _, _, _⟩) rfl rfl
      · intro w' hS
        obtain ⟨q1, q2, q3, q4, q5, q6, q7⟩ := hS
        first | (go_simp; done) | (go_simp; rfl) | rfl
      go_frame
      apply tr_still (o := ⟨some 34, _, _, _, _, _⟩) rfl rfl
      · intro w' hS
        obtain ⟨q1, q2, q3, q4, q5, q6, q7⟩ := hS
        first | (go_simp; done) | (go_simp; rfl) | rfl
      go_frame
      apply tr_still (o := ⟨some 35, _, _, _, _, _⟩) rfl rfl
      · intro w' hS
        obtain ⟨q1, q2, q3, q4, q5, q6, q7⟩ := hS
        first | (go_simp; done) | (go_simp; rfl) | rfl
      go_frame
      apply tr_still (o := ⟨some 36, _, _, _, _, _⟩) rfl rfl
      · intro w' hS
        obtain ⟨q1, q2, q3, q4, q5, q6, q7⟩ := hS
        first | (go_simp; done) | (go_simp; rfl) | rfl
      go_frame
      refine tr_br (o := ⟨some 37, _, _, _, _, _⟩) (o' := ⟨some 10, _, _, _, _, _⟩) rfl rfl rfl rfl (fun K hKe => ?_) (fun K hKe => ?_)
      · have hfa := HF1.out _ hkd
        go_wp2_with fail
        refine hfa.mono ?_
        rintro e W3 ⟨rfl, hk3⟩
        replace hk3 := hkd.trans' hk3
        clear hfa
        have b4cx : (W3).cell? ⟨w.heap.size, 0, none⟩ = _ := ((hk3).cell (p := ⟨w.heap.size, 0, none⟩) hcw fun h => h).trans b4c
        have c0x : (W3).cell? ⟨g, off + i * 6, none⟩ = _ := ((hk3).cell (p := ⟨g, off + i * 6, none⟩) hglc fun h => h).trans c0
        have c1x : (W3).cell? ⟨g, off + i * 6 + 1, none⟩ = _ := ((hk3).cell (p := ⟨g, off + i * 6 + 1, none⟩) hglc fun h => h).trans c1
        have c2x : (W3).cell? ⟨g, off + i * 6 + 2, none⟩ = _ := ((hk3).cell (p := ⟨g, off + i * 6 + 2, none⟩) hglc fun h => h).trans c2
        have c3x : (W3).cell? ⟨g, off + i * 6 + 3, none⟩ = _ := ((hk3).cell (p := ⟨g, off + i * 6 + 3, none⟩) hglc fun h => h).trans c3
        have c4x : (W3).cell? ⟨g, off + i * 6 + 4, none⟩ = _ := ((hk3).cell (p := ⟨g, off + i * 6 + 4, none⟩) hglc fun h => h).trans c4
        have c5x : (W3).cell? ⟨g, off + i * 6 + 5, none⟩ = _ := ((hk3).cell (p := ⟨g, off + i * 6 + 5, none⟩) hglc fun h => h).trans c5
        go_wp2_with fail
        refine ⟨fun _ => ⟨b4cx, c0x, c1x, c2x, c3x, c4x, c5x⟩, ?_⟩
        apply tr_still (o := ⟨some 38, _, _, _, _, _⟩) rfl rfl
        · intro w' hS
          obtain ⟨q1, q2, q3, q4, q5, q6, q7⟩ := hS
          first | (go_simp; done) | (go_simp; rfl) | rfl
        go_frame
        apply tr_still (o := ⟨some 39, _, _, _, _, _⟩) rfl rfl
        · intro w' hS
          obtain ⟨q1, q2, q3, q4, q5, q6, q7⟩ := hS
          first | (go_simp; done) | (go_simp; rfl) | rfl
        go_frame
        refine tr_eff (o := ⟨some 10, _, _, _, _, _⟩) rfl rfl (fun K hKe => ?_)
        have hka : Keep No wz (W3.alloc (.cells #[.int .u64 0, .int .i64 0, .bool false, .string ⟨#[]⟩, .int .u64 0, .string ⟨#[]⟩] 90)) := hk3.alloc _
        have hBa : Blk (W3.alloc (.cells #[.int .u64 0, .int .i64 0, .bool false, .string ⟨#[]⟩, .int .u64 0, .string ⟨#[]⟩] 90)) W3.heap.size #[.int .u64 0, .int .i64 0, .bool false, .string ⟨#[]⟩, .int .u64 0, .string ⟨#[]⟩] 90 := Blk.new _ _ _
        have b4cy : ((W3.alloc (.cells #[.int .u64 0, .int .i64 0, .bool false, .string ⟨#[]⟩, .int .u64 0, .string ⟨#[]⟩] 90))).cell? ⟨w.heap.size, 0, none⟩ = _ := ((hka).cell (p := ⟨w.heap.size, 0, none⟩) hcw fun h => h).trans b4c
        have c0y : ((W3.alloc (.cells #[.int .u64 0, .int .i64 0, .bool false, .string ⟨#[]⟩, .int .u64 0, .string ⟨#[]⟩] 90))).cell? ⟨g, off + i * 6, none⟩ = _ := ((hka).cell (p := ⟨g, off + i * 6, none⟩) hglc fun h => h).trans c0
        have c1y : ((W3.alloc (.cells #[.int .u64 0, .int .i64 0, .bool false, .string ⟨#[]⟩, .int .u64 0, .string ⟨#[]⟩] 90))).cell? ⟨g, off + i * 6 + 1, none⟩ = _ := ((hka).cell (p := ⟨g, off + i * 6 + 1, none⟩) hglc fun h => h).trans c1
        have c2y : ((W3.alloc (.cells #[.int .u64 0, .int .i64 0, .bool false, .string ⟨#[]⟩, .int .u64 0, .string ⟨#[]⟩] 90))).cell? ⟨g, off + i * 6 + 2, none⟩ = _ := ((hka).cell (p := ⟨g, off + i * 6 + 2, none⟩) hglc fun h => h).trans c2
        have c3y : ((W3.alloc (.cells #[.int .u64 0, .int .i64 0, .bool false, .string ⟨#[]⟩, .int .u64 0, .string ⟨#[]⟩] 90))).cell? ⟨g, off + i * 6 + 3, none⟩ = _ := ((hka).cell (p := ⟨g, off + i * 6 + 3, none⟩) hglc fun h => h).trans c3
        have c4y : ((W3.alloc (.cells #[.int .u64 0, .int .i64 0, .bool false, .string ⟨#[]⟩, .int .u64 0, .string ⟨#[]⟩] 90))).cell? ⟨g, off + i * 6 + 4, none⟩ = _ := ((hka).cell (p := ⟨g, off + i * 6 + 4, none⟩) hglc fun h => h).trans c4
        have c5y : ((W3.alloc (.cells #[.int .u64 0, .int .i64 0, .bool false, .string ⟨#[]⟩, .int .u64 0, .string ⟨#[]⟩] 90))).cell? ⟨g, off + i * 6 + 5, none⟩ = _ := ((hka).cell (p := ⟨g, off + i * 6 + 5, none⟩) hglc fun h => h).trans c5
        go_wp2_with fail
        refine ⟨fun _ => ⟨b4cy, c0y, c1y, c2y, c3y, c4y, c5y⟩, ?_⟩
        refine tr_eff (o := ⟨none, _, _, _, _, _⟩) rfl rfl (fun K hKe => ?_)
        refine wo_stAgg (.tmp 10) (.tmp 39) 90 rfl _ _ rfl rfl ?_
        refine rg_stAgg hBa (by kernel_rfl) (by rfl) (by simp [Value.oneCell']) ?_
        intro cW hbpc hk5a hz5
        have hg2 : wz.heap.size ≤ W3.heap.size := hk3.size
        have hk5c : Keep No wz cW := hka.trans hk5a fun j hj e => by have e2 : j = W3.heap.size := e; omega
        refine hKe _ _ ⟨fun h => by simp at h, tr_nil ?_⟩
        clear b4cx c0x c1x c2x c3x c4x c5x b4cy c0y c1y c2y c3y c4y c5y hka hBa hk3 hkd hk5a hg2 hz5
        generalize W3.heap.size = ggc at *
        revert hk5c
        revert hbpc
        revert ggc cW
        exact HJ.out
      · have hka : Keep No wz (wz.alloc (.cells #[.int .u64 0, .int .i64 0, .bool false, .string ⟨#[]⟩, .int .u64 0, .string ⟨#[]⟩] 90)).drew := ((Keep.refl No wz).alloc _).drew
        have hBa : Blk (wz.alloc (.cells #[.int .u64 0, .int .i64 0, .bool false, .string ⟨#[]⟩, .int .u64 0, .string ⟨#[]⟩] 90)).drew wz.heap.size #[.int .u64 0, .int .i64 0, .bool false, .string ⟨#[]⟩, .int .u64 0, .string ⟨#[]⟩] 90 := (Blk.new wz _ _).keep (Keep.refl No _).drew fun h => h
        go_wp2_with fail
        refine tr_eff (o := ⟨some 37, _, _, _, _, _⟩) rfl rfl (fun K hKe => ?_)
        have hfa := HF1.out _ hka
        go_wp2_with fail
        refine hfa.mono ?_
        rintro e W3 ⟨rfl, hk3⟩
        have hBa3 := hBa.keep hk3 fun h => h
        replace hk3 := hka.trans' hk3
        clear hfa
        have b4cx : (W3).cell? ⟨w.heap.size, 0, none⟩ = _ := ((hk3).cell (p := ⟨w.heap.size, 0, none⟩) hcw fun h => h).trans b4c
        have c0x : (W3).cell? ⟨g, off + i * 6, none⟩ = _ := ((hk3).cell (p := ⟨g, off + i * 6, none⟩) hglc fun h => h).trans c0
        have c1x : (W3).cell? ⟨g, off + i * 6 + 1, none⟩ = _ := ((hk3).cell (p := ⟨g, off + i * 6 + 1, none⟩) hglc fun h => h).trans c1
        have c2x : (W3).cell? ⟨g, off + i * 6 + 2, none⟩ = _ := ((hk3).cell (p := ⟨g, off + i * 6 + 2, none⟩) hglc fun h => h).trans c2
        have c3x : (W3).cell? ⟨g, off + i * 6 + 3, none⟩ = _ := ((hk3).cell (p := ⟨g, off + i * 6 + 3, none⟩) hglc fun h => h).trans c3
        have c4x : (W3).cell? ⟨g, off + i * 6 + 4, none⟩ = _ := ((hk3).cell (p := ⟨g, off + i * 6 + 4, none⟩) hglc fun h => h).trans c4
        have c5x : (W3).cell? ⟨g, off + i * 6 + 5, none⟩ = _ := ((hk3).cell (p := ⟨g, off + i * 6 + 5, none⟩) hglc fun h => h).trans c5
        go_wp2_with fail
        refine ⟨fun _ => ⟨b4cx, c0x, c1x, c2x, c3x, c4x, c5x⟩, ?_⟩
        apply tr_still (o := ⟨some 38, _, _, _, _, _⟩) rfl rfl
        · intro w' hS
          obtain ⟨q1, q2, q3, q4, q5, q6, q7⟩ := hS
          first | (go_simp; done) | (go_simp; rfl) | rfl
        go_frame
        apply tr_still (o := ⟨some 39, _, _, _, _, _⟩) rfl rfl
        · intro w' hS
          obtain ⟨q1, q2, q3, q4, q5, q6, q7⟩ := hS
          first | (go_simp; done) | (go_simp; rfl) | rfl
        go_frame
        refine tr_eff (o := ⟨none, _, _, _, _, _⟩) rfl rfl (fun K hKe => ?_)
        refine wo_stAgg (.tmp 10) (.tmp 39) 90 rfl _ _ rfl rfl ?_
        refine rg_stAgg hBa3 (by kernel_rfl) (by rfl) (by simp [Value.oneCell']) ?_
        intro cW hbpc hk5a hz5
        have hk5c : Keep No wz cW := hk3.trans hk5a fun j hj e => by have e2 : j = wz.heap.size := e; omega
        obtain ⟨ggc, hg2e⟩ : ∃ g2, g2 = wz.heap.size := ⟨_, rfl⟩
        refine hKe _ _ ⟨fun h => by simp at h, tr_nil ?_⟩
        clear b4cx c0x c1x c2x c3x c4x c5x hka hBa hBa3 hk3 hkd hk5a hz5
        rw [← hg2e] at hbpc
        have e3 : wz.drew.heap.size = ggc := hg2e.symm
        try rw [e3]
        try rw [← hg2e]
        clear e3 hg2e
        revert hk5c
        revert hbpc
        revert ggc cW
        exact HJ.out
    · intro cW ggc hbpc hk5c
      have hcw2 := hk5c.size
      have b4d : cW.cell? ⟨w.heap.size, 0, none⟩ = _ := (hk5c.cell (p := ⟨w.heap.size, 0, none⟩) hcw fun h => h).trans b4c
      have d0 : cW.cell? ⟨g, off + i2 * 6, none⟩ = some (.int .u64 (q.addr : Int)) := (hk5c.cell (p := ⟨g, off + i2 * 6, none⟩) hglc fun h => h).trans (HC2.out 0 _ rfl)
      have d1 : cW.cell? ⟨g, off + i2 * 6 + 1, none⟩ = some (.int .i64 (q.prot : Int)) := (hk5c.cell (p := ⟨g, off + i2 * 6 + 1, none⟩) hglc fun h => h).trans (HC2.out 1 _ rfl)
      have d2 : cW.cell? ⟨g, off + i2 * 6 + 2, none⟩ = some (.bool q.dirty) := (hk5c.cell (p := ⟨g, off + i2 * 6 + 2, none⟩) hglc fun h => h).trans (HC2.out 2 _ rfl)
      have d3 : cW.cell? ⟨g, off + i2 * 6 + 3, none⟩ = some (.string ⟨q.file.toArray⟩) := (hk5c.cell (p := ⟨g, off + i2 * 6 + 3, none⟩) hglc fun h => h).trans (HC2.out 3 _ rfl)
      have d4 : cW.cell? ⟨g, off + i2 * 6 + 4, none⟩ = some (.int .u64 (q.off : Int)) := (hk5c.cell (p := ⟨g, off + i2 * 6 + 4, none⟩) hglc fun h => h).trans (HC2.out 4 _ rfl)
      have d5 : cW.cell? ⟨g, off + i2 * 6 + 5, none⟩ = some (.string ⟨q.b.toArray⟩) := (hk5c.cell (p := ⟨g, off + i2 * 6 + 5, none⟩) hglc fun h => h).trans (HC2.out 5 _ rfl)
      have hgld : g < cW.heap.size := Nat.lt_of_lt_of_le hglc hcw2
      clear c0 c1 c2 c3 c4 c5 b4c
      replace hcw : w.heap.size < cW.heap.size := Nat.lt_of_lt_of_le hcw hcw2
      have HFD : ∀ W, Keep No cW W → _ := fun W hk => HF2.out W (hk5c.trans' hk)
      have HF3 := Lib.hid HFD
      have hkk2 := hkz.trans' hk5c
      clear HFD hk5c hcw2 hglc HF1 HC2 HF2 hB2 hkz
      generalize cW = wz at *
      go_wp2_with fail
      apply joinT
      · intro HJ
        have hkd : Keep No wz wz.drew := (Keep.refl No wz).drew
        refine wp_region_tree (fun w' => w'.cell? ⟨w.heap.size, 0, none⟩ = some (.slice (some ⟨g, off, none⟩) m.length cv) ∧ w'.cell? ⟨g, off + i2 * 6, none⟩ = some (.int .u64 (q.addr : Int)) ∧ w'.cell? ⟨g, off + i2 * 6 + 1, none⟩ = some (.int .i64 (q.prot : Int)) ∧ w'.cell? ⟨g, off + i2 * 6 + 2, none⟩ = some (.bool q.dirty) ∧ w'.cell? ⟨g, off + i2 * 6 + 3, none⟩ = some (.string ⟨q.file.toArray⟩) ∧ w'.cell? ⟨g, off + i2 * 6 + 4, none⟩ = some (.int .u64 (q.off : Int)) ∧ w'.cell? ⟨g, off + i2 * 6 + 5, none⟩ = some (.string ⟨q.b.toArray⟩)) (fun j => decide (j ≤ 11)) (.st 0 (.st 1 (.st 2 (.st 3 (.st 4 (.st 5 (.st 6 (.st 7 (.br 8 11 (.st 9 (.st 10 (.ef 11 (.ef 12 .nil)))) (.ef 8 (.st 9 (.st 10 (.ef 12 .nil))))))))))))) (by kernel_rfl) (by kernel_rfl) (by intro c a d v w h; cases d <;> exact h) ⟨b4d, d0, d1, d2, d3, d4, d5⟩ ?_
        apply tr_still (o := ⟨some 40, _, _, _, _, _⟩) rfl rfl
        · intro w' hS
          obtain ⟨q1, q2, q3, q4, q5, q6, q7⟩ := hS
          first | (go_simp; done) | (go_simp; rfl) | rfl
        go_frame
        apply tr_still (o := ⟨some 41, _, _, _, _, _⟩) rfl rfl
        · intro w' hS
          obtain ⟨q1, q2, q3, q4, q5, q6, q7⟩ := hS
          first | (go_simp; done) | (go_simp; rfl) | rfl
        go_frame
        apply tr_still (o := ⟨some 42, _, _, _, _, _⟩) rfl rfl
        · intro w' hS
          obtain ⟨q1, q2, q3, q4, q5, q6, q7⟩ := hS
          first | (go_simp; done) | (go_simp; rfl) | rfl
        go_frame
        apply tr_still (o := ⟨some 43, _, _, _, _, _⟩) rfl rfl
        · intro w' hS
          obtain ⟨q1, q2, q3, q4, q5, q6, q7⟩ := hS
          first | (go_simp; done) | (go_simp; rfl) | rfl
        go_frame
        apply tr_still (o := ⟨some 44, _, _, _, _, _⟩) rfl rfl
        · intro w' hS
          obtain ⟨q1, q2, q3, q4, q5, q6, q7⟩ := hS
          first | (go_simp; done) | (go_simp; rfl) | rfl
        go_frame
        apply tr_still (o := ⟨some 45, _, _, _, _, _⟩) rfl rfl
        · intro w' hS
          obtain ⟨q1, q2, q3, q4, q5, q6, q7⟩ := hS
          first | (go_simp; done) | (go_simp; rfl) | rfl
        go_frame
        apply tr_still (o := ⟨some 46, _, _, _, _, _⟩) rfl rfl
        · intro w' hS
          obtain ⟨q1, q2, q3, q4, q5, q6, q7⟩ := hS
          first | (go_simp; done) | (go_simp; rfl) | rfl
        go_frame
        apply tr_still (o := ⟨some 47, _, _, _, _, _⟩) rfl rfl
        · intro w' hS
          obtain ⟨q1, q2, q3, q4, q5, q6, q7⟩ := hS
          first | (go_simp; done) | (go_simp; rfl) | rfl
        go_frame
        refine tr_br (o := ⟨some 48, _, _, _, _, _⟩) (o' := ⟨some 11, _, _, _, _, _⟩) rfl rfl rfl rfl (fun K hKe => ?_) (fun K hKe => ?_)
        · have hfa := HF3.out _ hkd
          go_wp2_with fail
          refine hfa.mono ?_
          rintro e W3 ⟨rfl, hk3⟩
          replace hk3 := hkd.trans' hk3
          clear hfa
          have b4dx : (W3).cell? ⟨w.heap.size, 0, none⟩ = _ := ((hk3).cell (p := ⟨w.heap.size, 0, none⟩) hcw fun h => h).trans b4d
          have d0x : (W3).cell? ⟨g, off + i2 * 6, none⟩ = _ := ((hk3).cell (p := ⟨g, off + i2 * 6, none⟩) hgld fun h => h).trans d0
          have d1x : (W3).cell? ⟨g, off + i2 * 6 + 1, none⟩ = _ := ((hk3).cell (p := ⟨g, off + i2 * 6 + 1, none⟩) hgld fun h => h).trans d1
          have d2x : (W3).cell? ⟨g, off + i2 * 6 + 2, none⟩ = _ := ((hk3).cell (p := ⟨g, off + i2 * 6 + 2, none⟩) hgld fun h => h).trans d2
          have d3x : (W3).cell? ⟨g, off + i2 * 6 + 3, none⟩ = _ := ((hk3).cell (p := ⟨g, off + i2 * 6 + 3, none⟩) hgld fun h => h).trans d3
          have d4x : (W3).cell? ⟨g, off + i2 * 6 + 4, none⟩ = _ := ((hk3).cell (p := ⟨g, off + i2 * 6 + 4, none⟩) hgld fun h => h).trans d4
          have d5x : (W3).cell? ⟨g, off + i2 * 6 + 5, none⟩ = _ := ((hk3).cell (p := ⟨g, off + i2 * 6 + 5, none⟩) hgld fun h => h).trans d5
          go_wp2_with fail
          refine ⟨fun _ => ⟨b4dx, d0x, d1x, d2x, d3x, d4x, d5x⟩, ?_⟩
          apply tr_still (o := ⟨some 49, _, _, _, _, _⟩) rfl rfl
          · intro w' hS
            obtain ⟨q1, q2, q3, q4, q5, q6, q7⟩ := hS
            first | (go_simp; done) | (go_simp; rfl) | rfl
          go_frame
          apply tr_still (o := ⟨some 50, _, _, _, _, _⟩) rfl rfl
          · intro w' hS
            obtain ⟨q1, q2, q3, q4, q5, q6, q7⟩ := hS
            first | (go_simp; done) | (go_simp; rfl) | rfl
          go_frame
          refine tr_eff (o := ⟨some 11, _, _, _, _, _⟩) rfl rfl (fun K hKe => ?_)
          have hka : Keep No wz (W3.alloc (.cells #[.int .u64 0, .int .i64 0, .bool false, .string ⟨#[]⟩, .int .u64 0, .string ⟨#[]⟩] 90)) := hk3.alloc _
          have hBa : Blk (W3.alloc (.cells #[.int .u64 0, .int .i64 0, .bool false, .string ⟨#[]⟩, .int .u64 0, .string ⟨#[]⟩] 90)) W3.heap.size #[.int .u64 0, .int .i64 0, .bool false, .string ⟨#[]⟩, .int .u64 0, .string ⟨#[]⟩] 90 := Blk.new _ _ _
          have b4dy : ((W3.alloc (.cells #[.int .u64 0, .int .i64 0, .bool false, .string ⟨#[]⟩, .int .u64 0, .string ⟨#[]⟩] 90))).cell? ⟨w.heap.size, 0, none⟩ = _ := ((hka).cell (p := ⟨w.heap.size, 0, none⟩) hcw fun h => h).trans b4d
          have d0y : ((W3.alloc (.cells #[.int .u64 0, .int .i64 0, .bool false, .string ⟨#[]⟩, .int .u64 0, .string ⟨#[]⟩] 90))).cell? ⟨g, off + i2 * 6, none⟩ = _ := ((hka).cell (p := ⟨g, off + i2 * 6, none⟩) hgld fun h => h).trans d0
          have d1y : ((W3.alloc (.cells #[.int .u64 0, .int .i64 0, .bool false, .string ⟨#[]⟩, .int .u64 0, .string ⟨#[]⟩] 90))).cell? ⟨g, off + i2 * 6 + 1, none⟩ = _ := ((hka).cell (p := ⟨g, off + i2 * 6 + 1, none⟩) hgld fun h => h).trans d1
          have d2y : ((W3.alloc (.cells #[.int .u64 0, .int .i64 0, .bool false, .string ⟨#[]⟩, .int .u64 0, .string ⟨#[]⟩] 90))).cell? ⟨g, off + i2 * 6 + 2, none⟩ = _ := ((hka).cell (p := ⟨g, off + i2 * 6 + 2, none⟩) hgld fun h => h).trans d2
          have d3y : ((W3.alloc (.cells #[.int .u64 0, .int .i64 0, .bool false, .string ⟨#[]⟩, .int .u64 0, .string ⟨#[]⟩] 90))).cell? ⟨g, off + i2 * 6 + 3, none⟩ = _ := ((hka).cell (p := ⟨g, off + i2 * 6 + 3, none⟩) hgld fun h => h).trans d3
          have d4y : ((W3.alloc (.cells #[.int .u64 0, .int .i64 0, .bool false, .string ⟨#[]⟩, .int .u64 0, .string ⟨#[]⟩] 90))).cell? ⟨g, off + i2 * 6 + 4, none⟩ = _ := ((hka).cell (p := ⟨g, off + i2 * 6 + 4, none⟩) hgld fun h => h).trans d4
          have d5y : ((W3.alloc (.cells #[.int .u64 0, .int .i64 0, .bool false, .string ⟨#[]⟩, .int .u64 0, .string ⟨#[]⟩] 90))).cell? ⟨g, off + i2 * 6 + 5, none⟩ = _ := ((hka).cell (p := ⟨g, off + i2 * 6 + 5, none⟩) hgld fun h => h).trans d5
          go_wp2_with fail
          refine ⟨fun _ => ⟨b4dy, d0y, d1y, d2y, d3y, d4y, d5y⟩, ?_⟩
          refine tr_eff (o := ⟨none, _, _, _, _, _⟩) rfl rfl (fun K hKe => ?_)
          refine wo_stAgg (.tmp 11) (.tmp 50) 90 rfl _ _ rfl rfl ?_
          refine rg_stAgg hBa (by kernel_rfl) (by rfl) (by simp [Value.oneCell']) ?_
          intro dW hbpd hk5a hz5
          have hg2 : wz.heap.size ≤ W3.heap.size := hk3.size
          have hk5d : Keep No wz dW := hka.trans hk5a fun j hj e => by have e2 : j = W3.heap.size := e; omega
          refine hKe _ _ ⟨fun h => by simp at h, tr_nil ?_⟩
          clear b4dx d0x d1x d2x d3x d4x d5x b4dy d0y d1y d2y d3y d4y d5y hka hBa hk3 hkd hk5a hg2 hz5
          generalize W3.heap.size = ggd at *
          revert hk5d
          revert hbpd
          revert ggd dW
          exact HJ.out
        · have hka : Keep No wz (wz.alloc (.cells #[.int .u64 0, .int .i64 0, .bool false, .string ⟨#[]⟩, .int .u64 0, .string ⟨#[]⟩] 90)).drew := ((Keep.refl No wz).alloc _).drew
          have hBa : Blk (wz.alloc (.cells #[.int .u64 0, .int .i64 0, .bool false, .string ⟨#[]⟩, .int .u64 0, .string ⟨#[]⟩] 90)).drew wz.heap.size #[.int .u64 0, .int .i64 0, .bool false, .string ⟨#[]⟩, .int .u64 0, .string ⟨#[]⟩] 90 := (Blk.new wz _ _).keep (Keep.refl No _).drew fun h => h
          go_wp2_with fail
          refine tr_eff (o := ⟨some 48, _, _, _, _, _⟩) rfl rfl (fun K hKe => ?_)
          have hfa := HF3.out _ hka
          go_wp2_with fail
          refine hfa.mono ?_
          rintro e W3 ⟨rfl, hk3⟩
          have hBa3 := hBa.keep hk3 fun h => h
          replace hk3 := hka.trans' hk3
          clear hfa
          have b4dx : (W3).cell? ⟨w.heap.size, 0, none⟩ = _ := ((hk3).cell (p := ⟨w.heap.size, 0, none⟩) hcw fun h => h).trans b4d
          have d0x : (W3).cell? ⟨g, off + i2 * 6, none⟩ = _ := ((hk3).cell (p := ⟨g, off + i2 * 6, none⟩) hgld fun h => h).trans d0
          have d1x : (W3).cell? ⟨g, off + i2 * 6 + 1, none⟩ = _ := ((hk3).cell (p := ⟨g, off + i2 * 6 + 1, none⟩) hgld fun h => h).trans d1
          have d2x : (W3).cell? ⟨g, off + i2 * 6 + 2, none⟩ = _ := ((hk3).cell (p := ⟨g, off + i2 * 6 + 2, none⟩) hgld fun h => h).trans d2
          have d3x : (W3).cell? ⟨g, off + i2 * 6 + 3, none⟩ = _ := ((hk3).cell (p := ⟨g, off + i2 * 6 + 3, none⟩) hgld fun h => h).trans d3
          have d4x : (W3).cell? ⟨g, off + i2 * 6 + 4, none⟩ = _ := ((hk3).cell (p := ⟨g, off + i2 * 6 + 4, none⟩) hgld fun h => h).trans d4
          have d5x : (W3).cell? ⟨g, off + i2 * 6 + 5, none⟩ = _ := ((hk3).cell (p := ⟨g, off + i2 * 6 + 5, none⟩) hgld fun h => h).trans d5
          go_wp2_with fail
          refine ⟨fun _ => ⟨b4dx, d0x, d1x, d2x, d3x, d4x, d5x⟩, ?_⟩
          apply tr_still (o := ⟨some 49, _, _, _, _, _⟩) rfl rfl
          · intro w' hS
            obtain ⟨q1, q2, q3, q4, q5, q6, q7⟩ := hS
            first | (go_simp; done) | (go_simp; rfl) | rfl
          go_frame
          apply tr_still (o := ⟨some 50, _, _, _, _, _⟩) rfl rfl
          · intro w' hS
            obtain ⟨q1, q2, q3, q4, q5, q6, q7⟩ := hS
            first | (go_simp; done) | (go_simp; rfl) | rfl
          go_frame
          refine tr_eff (o := ⟨none, _, _, _, _, _⟩) rfl rfl (fun K hKe => ?_)
          refine wo_stAgg (.tmp 11) (.tmp 50) 90 rfl _ _ rfl rfl ?_
          refine rg_stAgg hBa3 (by kernel_rfl) (by rfl) (by simp [Value.oneCell']) ?_
          intro dW hbpd hk5a hz5
          have hk5d : Keep No wz dW := hk3.trans hk5a fun j hj e => by have e2 : j = wz.heap.size := e; omega
          obtain ⟨ggd, hg2e⟩ : ∃ g2, g2 = wz.heap.size := ⟨_, rfl⟩
          refine hKe _ _ ⟨fun h => by simp at h, tr_nil ?_⟩
          clear b4dx d0x d1x d2x d3x d4x d5x hka hBa hBa3 hk3 hkd hk5a hz5
          rw [← hg2e] at hbpd
          have e3 : wz.drew.heap.size = ggd := hg2e.symm
          try rw [e3]
          try rw [← hg2e]
          clear e3 hg2e
          revert hk5d
          revert hbpd
          revert ggd dW
          exact HJ.out
      · intro dW ggd hbpd hk5d
        have e1 : dW.cell? ⟨ggc, 1, none⟩ = some (.int .i64 (p.prot : Int)) := (hbpc.keep hk5d fun h => h).cell 1
        have e2 : dW.cell? ⟨ggd, 1, none⟩ = some (.int .i64 (q.prot : Int)) := hbpd.cell 1
        have hkk3 := hkk2.trans' hk5d
        clear d0 d1 d2 d3 d4 d5 b4d hk5d hbpc hbpd HF3
        have hd1 := HD1.out
        have hd2 := HD2.out
        have hp2 : p.prot / what ≤ 7 := Nat.le_trans (Nat.div_le_self _ _) hp7
        have hq2 : q.prot / what ≤ 7 := Nat.le_trans (Nat.div_le_self _ _) hq7
        generalize p.prot / what = p2 at *
        generalize q.prot / what = q2 at *
        have hm1 : (p2 : Int).tmod 2 = ((p2 % 2 : Nat) : Int) := by rw [Int.tmod_eq_emod_of_nonneg (by omega)]; omega
        have hm2 : (q2 : Int).tmod 2 = ((q2 % 2 : Nat) : Int) := by rw [Int.tmod_eq_emod_of_nonneg (by omega)]; omega
        generalize p2 % 2 = p3 at *
        generalize q2 % 2 = q3 at *
        have hwz : (what : Int) ≠ 0 := by omega
        clear HD1 HD2 hal hsl hil1 hil2 ha hml hp7 hq7 hw HW0
        by_cases h1 : p3 = 0
        · rw [if_pos (.inl h1)] at HE2
          subst h1
          go_wp2_with fail
          go_ret
          rw [HE2.out]
          exact ⟨rfl, hkk3⟩
        · have h1b : ((p3 : Int) == 0) = false := by simp; omega
          by_cases h2 : q3 = 0
          · rw [if_pos (.inr h2)] at HE2
            subst h2
            clear h1
            go_wp2_with fail
            go_ret
            rw [HE2.out]
            exact ⟨rfl, hkk3⟩
          · have h2b : ((q3 : Int) == 0) = false := by simp; omega
            rw [if_neg (by omega)] at HE2
            clear h1 h2
            go_wp2_with fail
            go_ret
            rw [HE2.out]
            exact ⟨rfl, hkk3⟩
  · rw [he] at HE ⊢
    rw [if_neg (by decide)] at HE
    clear hcall HPT
    go_wp2_with fail
    go_ret
    rw [HE.out]
    exact ⟨rfl, hkz⟩
set_option maxRecDepth 100000 in
set_option maxHeartbeats 8000000 in
theorem rvfits2_any (addr what : Nat) (ha : addr < 18446744073709551616) (hw : what = 1 ∨ what = 2 ∨ what = 4) (h : Fl A w 6 encS v m) (hok : Ok m) :
    Calls Tryz.prog 53 #[.agg #[v], .int .u64 (addr : Int), .int .i64 2, .int .i64 (what : Int)] w fun e w' => e = .returned (.int .i64 (numE m addr 2 what : Nat)) ∧ Keep No w w' := by
  obtain ⟨av, cv, rfl, _, _⟩ := h.shape
  have hE : numE m addr 2 what = if Vm.heldE m addr 2 = 0 then allowedE m addr 2 what else Vm.heldE m addr 2 := by
    unfold numE; rw [if_pos (by decide)]; rfl
  have hpt := @held_parts m addr 2
  have hml := hok.len
  have hth : ∀ W, Keep No w W → Calls Tryz.prog 68 #[.agg #[.slice av m.length cv], .int .u64 (addr : Int), .int .u64 2] W _ := fun W hk => rvthere_any (w := W) addr 2 ha (by omega) (by omega) (by omega) (h.no hk) (by omega) (ok_small hok)
  have HOK := Lib.hid hok
  have HPT := Lib.hid hpt
  have hhe : Vm.heldE m addr 2 = 0 ∨ Vm.heldE m addr 2 = 40 := by
    unfold Vm.heldE
    split
    · exact .inr rfl
    · split
      · exact .inl rfl
      · exact .inr rfl
  generalize numE m addr 2 what = E at *
  have HE := Lib.hid hE
  have HTH := Lib.hid hth
  have HL := Lib.hid h
  clear hok hpt hth h hE
  go_enter Tryz.func53, Tryz.ntmps53
  go_wp2_with fail
  have hkW : Keep No w (w.alloc (.cells #[.slice av m.length cv] 52)) := (Keep.refl _ _).alloc _
  have hBW : Blk (w.alloc (.cells #[.slice av m.length cv] 52)) w.heap.size #[.slice av m.length cv] 52 := Blk.new _ _ _
  have hzW : (w.alloc (.cells #[.slice av m.length cv] 52)).heap.size = w.heap.size + 1 := World.size_alloc _ _
  generalize w.alloc (.cells #[.slice av m.length cv] 52) = W at *
  have q3 : W.cell? ⟨w.heap.size, 0, none⟩ = some (.slice av m.length cv) := hBW.cell 0
  have hcall := HTH.out W hkW
  go_wp2_with fail
  refine hcall.mono ?_
  rintro e wz ⟨rfl, hk2⟩
  have hB2 := hBW.keep hk2 fun h => h
  have hkz := hkW.trans' hk2
  rcases hhe with he | he
  · rw [he] at HE ⊢
    rw [if_pos rfl] at HE
    obtain ⟨p1, p2, _, p4⟩ := HPT.out he
    unfold top at p1 p2
    have hal : (addr : Int) ≤ 4294967296 := by omega
    have hsl : (addr : Int) + 2 ≤ 4294967296 := by omega
    obtain ⟨i, hi, hpa, hpat⟩ := page_idx (there_at p4 (i := 0) (by decide))
    obtain ⟨i2, hi2, hqa, hqat⟩ := page_idx (there_at p4 (i := 2 - 1) (by decide))
    rw [Nat.add_zero] at hpa hpat
    have hE := HE.out
    rw [allowed_two HOK.out (by decide) (by decide) hw hpat (q := m[i2]) (by rw [← hqat]; rfl)] at hE
    have HE2 := Lib.hid hE
    obtain ⟨g, off, cap, e, _, hglc, _, _, hc⟩ := (HL.out.no hkz).at encS_len hi
    cases e
    obtain ⟨g', off', cap', e, _, _, _, _, hc2⟩ := (HL.out.no hkz).at encS_len hi2
    cases e
    have hf1 : ∀ W, Keep No wz W → _ := fun W hkw => rvfind_at (w := W) addr ha (HL.out.no (hkz.trans' hkw)) HOK.out hi hpa
    have hf2 : ∀ W, Keep No wz W → _ := fun W hkw => rvfind_at (w := W) (addr + (2 - 1)) (by omega) (HL.out.no (hkz.trans' hkw)) HOK.out hi2 hqa
    have hz2 : ((addr + (2 - 1) : Nat) : Int) = (addr : Int) + 2 - 1 := by omega
    rw [hz2] at hf2
    have HW0 : what ≠ 0 := by omega
    have hd1 : (m[i].prot : Int).tdiv (what : Int) = ((m[i].prot / what : Nat) : Int) := by rw [Int.tdiv_eq_ediv_of_nonneg (by omega)]; rfl
    have hd2 : (m[i2].prot : Int).tdiv (what : Int) = ((m[i2].prot / what : Nat) : Int) := by rw [Int.tdiv_eq_ediv_of_nonneg (by omega)]; rfl
    have HD1 := Lib.hid hd1
    have HD2 := Lib.hid hd2
    clear hz2 hd1 hd2
    have HF1 := Lib.hid hf1
    have HF2 := Lib.hid hf2
    have hp7 := (HOK.out.pg _ (List.getElem_mem hi)).pr
    have hq7 := (HOK.out.pg _ (List.getElem_mem hi2)).pr
    have hil1 : (i : Int) < (m.length : Int) := by omega
    have hil2 : (i2 : Int) < (m.length : Int) := by omega
    clear hf1 hf2 hpa hqa hpat hqat HE hE HPT p1 p2 p4 he hcall q3 hkW hBW hk2 HTH
    generalize m[i] = p at *
    generalize m[i2] = q at *
    clear hi hi2
    have HC2 := Lib.hid hc2
    have b4c : wz.cell? ⟨w.heap.size, 0, none⟩ = some (.slice (some ⟨g, off, none⟩) m.length cv) := hB2.cell 0
    have c0 : wz.cell? ⟨g, off + i * 6, none⟩ = some (.int .u64 (p.addr : Int)) := hc 0 _ rfl
    have c1 : wz.cell? ⟨g, off + i * 6 + 1, none⟩ = some (.int .i64 (p.prot : Int)) := hc 1 _ rfl
    have c2 : wz.cell? ⟨g, off + i * 6 + 2, none⟩ = some (.bool p.dirty) := hc 2 _ rfl
    have c3 : wz.cell? ⟨g, off + i * 6 + 3, none⟩ = some (.string ⟨p.file.toArray⟩) := hc 3 _ rfl
    have c4 : wz.cell? ⟨g, off + i * 6 + 4, none⟩ = some (.int .u64 (p.off : Int)) := hc 4 _ rfl
    have c5 : wz.cell? ⟨g, off + i * 6 + 5, none⟩ = some (.string ⟨p.b.toArray⟩) := hc 5 _ rfl
    have hcw : w.heap.size < wz.heap.size := hB2.lt
    clear hc hc2
    go_wp2_with fail
    apply joinT
    · intro HJ
      have hkd : Keep No wz wz.drew := (Keep.refl No wz).drew
      refine wp_region_tree (fun w' => w'.cell? ⟨w.heap.size, 0, none⟩ = some (.slice (some ⟨g, off, none⟩) m.length cv) ∧ w'.cell? ⟨g, off + i * 6, none⟩ = some (.int .u64 (p.addr : Int)) ∧ w'.cell? ⟨g, off + i * 6 + 1, none⟩ = some (.int .i64 (p.prot : Int)) ∧ w'.cell? ⟨g, off + i * 6 + 2, none⟩ = some (.bool p.dirty) ∧ w'.cell? ⟨g, off + i * 6 + 3, none⟩ = some (.string ⟨p.file.toArray⟩) ∧ w'.cell? ⟨g, off + i * 6 + 4, none⟩ = some (.int .u64 (p.off : Int)) ∧ w'.cell? ⟨g, off + i * 6 + 5, none⟩ = some (.string ⟨p.b.toArray⟩)) (fun j => decide (j ≤ 7)) (.st 0 (.st 1 (.st 2 (.st 3 (.br 4 7 (.st 5 (.st 6 (.ef 7 (.ef 8 .nil)))) (.ef 4 (.st 5 (.st 6 (.ef 8 .nil))))))))) (by kernel_rfl) (by kernel_rfl) (by intro c a d v w h; cases d <;> exact h) ⟨b4c, c0, c1, c2, c3, c4, c5⟩ ?_
      apply tr_still (o := ⟨some 33, _, _, _, _, _⟩) rfl rfl
      · intro w' hS
        obtain ⟨q1, q2, q3, q4, q5, q6, q7⟩ := hS
        first | (go_simp; done) | (go_simp; rfl) | rfl
      go_frame
      apply tr_still (o := ⟨some 34, _, _, _, _, _⟩) rfl rfl
      · intro w' hS
        obtain ⟨q1, q2, q3, q4, q5, q6, q7⟩ := hS
        first | (go_simp; done) | (go_simp; rfl) | rfl
      go_frame
      apply tr_still (o := ⟨some 35, _, _, _, _, _⟩) rfl rfl
      · intro w' hS
        obtain ⟨q1, q2, q3, q4, q5, q6, q7⟩ := hS
        first | (go_simp; done) | (go_simp; rfl) | rfl
      go_frame
      apply tr_still (o := ⟨some 36, _, _, _, _, _⟩) rfl rfl
      · intro w' hS
        obtain ⟨q1, q2, q3, q4, q5, q6, q7⟩ := hS
        first | (go_simp; done) | (go_simp; rfl) | rfl
      go_frame
      refine tr_br (o := ⟨some 37, _, _, _, _, _⟩) (o' := ⟨some 10, _, _, _, _, _⟩) rfl rfl rfl rfl (fun K hKe => ?_) (fun K hKe => ?_)
      · have hfa := HF1.out _ hkd
        go_wp2_with fail
        refine hfa.mono ?_
        rintro e W3 ⟨rfl, hk3⟩
        replace hk3 := hkd.trans' hk3
        clear hfa
        have b4cx : (W3).cell? ⟨w.heap.size, 0, none⟩ = _ := ((hk3).cell (p := ⟨w.heap.size, 0, none⟩) hcw fun h => h).trans b4c
        have c0x : (W3).cell? ⟨g, off + i * 6, none⟩ = _ := ((hk3).cell (p := ⟨g, off + i * 6, none⟩) hglc fun h => h).trans c0
        have c1x : (W3).cell? ⟨g, off + i * 6 + 1, none⟩ = _ := ((hk3).cell (p := ⟨g, off + i * 6 + 1, none⟩) hglc fun h => h).trans c1
        have c2x : (W3).cell? ⟨g, off + i * 6 + 2, none⟩ = _ := ((hk3).cell (p := ⟨g, off + i * 6 + 2, none⟩) hglc fun h => h).trans c2
        have c3x : (W3).cell? ⟨g, off + i * 6 + 3, none⟩ = _ := ((hk3).cell (p := ⟨g, off + i * 6 + 3, none⟩) hglc fun h => h).trans c3
        have c4x : (W3).cell? ⟨g, off + i * 6 + 4, none⟩ = _ := ((hk3).cell (p := ⟨g, off + i * 6 + 4, none⟩) hglc fun h => h).trans c4
        have c5x : (W3).cell? ⟨g, off + i * 6 + 5, none⟩ = _ := ((hk3).cell (p := ⟨g, off + i * 6 + 5, none⟩) hglc fun h => h).trans c5
        go_wp2_with fail
        refine ⟨fun _ => ⟨b4cx, c0x, c1x, c2x, c3x, c4x, c5x⟩, ?_⟩
        apply tr_still (o := ⟨some 38, _, _, _, _, _⟩) rfl rfl
        · intro w' hS
          obtain ⟨q1, q2, q3, q4, q5, q6, q7⟩ := hS
          first | (go_simp; done) | (go_simp; rfl) | rfl
        go_frame
        apply tr_still (o := ⟨some 39, _, _, _, _, _⟩) rfl rfl
        · intro w' hS
          obtain ⟨q1, q2, q3, q4, q5, q6, q7⟩ := hS
          first | (go_simp; done) | (go_simp; rfl) | rfl
        go_frame
        refine tr_eff (o := ⟨some 10, _, _, _, _, _⟩) rfl rfl (fun K hKe => ?_)
        have hka : Keep No wz (W3.alloc (.cells #[.int .u64 0, .int .i64 0, .bool false, .string ⟨#[]⟩, .int .u64 0, .string ⟨#[]⟩] 90)) := hk3.alloc _
        have hBa : Blk (W3.alloc (.cells #[.int .u64 0, .int .i64 0, .bool false, .string ⟨#[]⟩, .int .u64 0, .string ⟨#[]⟩] 90)) W3.heap.size #[.int .u64 0, .int .i64 0, .bool false, .string ⟨#[]⟩, .int .u64 0, .string ⟨#[]⟩] 90 := Blk.new _ _ _
        have b4cy : ((W3.alloc (.cells #[.int .u64 0, .int .i64 0, .bool false, .string ⟨#[]⟩, .int .u64 0, .string ⟨#[]⟩] 90))).cell? ⟨w.heap.size, 0, none⟩ = _ := ((hka).cell (p := ⟨w.heap.size, 0, none⟩) hcw fun h => h).trans b4c
        have c0y : ((W3.alloc (.cells #[.int .u64 0, .int .i64 0, .bool false, .string ⟨#[]⟩, .int .u64 0, .string ⟨#[]⟩] 90))).cell? ⟨g, off + i * 6, none⟩ = _ := ((hka).cell (p := ⟨g, off + i * 6, none⟩) hglc fun h => h).trans c0
        have c1y : ((W3.alloc (.cells #[.int .u64 0, .int .i64 0, .bool false, .string ⟨#[]⟩, .int .u64 0, .string ⟨#[]⟩] 90))).cell? ⟨g, off + i * 6 + 1, none⟩ = _ := ((hka).cell (p := ⟨g, off + i * 6 + 1, none⟩) hglc fun h => h).trans c1
        have c2y : ((W3.alloc (.cells #[.int .u64 0, .int .i64 0, .bool false, .string ⟨#[]⟩, .int .u64 0, .string ⟨#[]⟩] 90))).cell? ⟨g, off + i * 6 + 2, none⟩ = _ := ((hka).cell (p := ⟨g, off + i * 6 + 2, none⟩) hglc fun h => h).trans c2
        have c3y : ((W3.alloc (.cells #[.int .u64 0, .int .i64 0, .bool false, .string ⟨#[]⟩, .int .u64 0, .string ⟨#[]⟩] 90))).cell? ⟨g, off + i * 6 + 3, none⟩ = _ := ((hka).cell (p := ⟨g, off + i * 6 + 3, none⟩) hglc fun h => h).trans c3
        have c4y : ((W3.alloc (.cells #[.int .u64 0, .int .i64 0, .bool false, .string ⟨#[]⟩, .int .u64 0, .string ⟨#[]⟩] 90))).cell? ⟨g, off + i * 6 + 4, none⟩ = _ := ((hka).cell (p := ⟨g, off + i * 6 + 4, none⟩) hglc fun h => h).trans c4
        have c5y : ((W3.alloc (.cells #[.int .u64 0, .int .i64 0, .bool false, .string ⟨#[]⟩, .int .u64 0, .string ⟨#[]⟩] 90))).cell? ⟨g, off + i * 6 + 5, none⟩ = _ := ((hka).cell (p := ⟨g, off + i * 6 + 5, none⟩) hglc fun h => h).trans c5
        go_wp2_with fail
        refine ⟨fun _ => ⟨b4cy, c0y, c1y, c2y, c3y, c4y, c5y⟩, ?_⟩
        refine tr_eff (o := ⟨none, _, _, _, _, _⟩) rfl rfl (fun K hKe => ?_)
        refine wo_stAgg (.tmp 10) (.tmp 39) 90 rfl _ _ rfl rfl ?_
        refine rg_stAgg hBa (by kernel_rfl) (by rfl) (by simp [Value.oneCell']) ?_
        intro cW hbpc hk5a hz5
        have hg2 : wz.heap.size ≤ W3.heap.size := hk3.size
        have hk5c : Keep No wz cW := hka.trans hk5a fun j hj e => by have e2 : j = W3.heap.size := e; omega
        refine hKe _ _ ⟨fun h => by simp at h, tr_nil ?_⟩
        clear b4cx c0x c1x c2x c3x c4x c5x b4cy c0y c1y c2y c3y c4y c5y hka hBa hk3 hkd hk5a hg2 hz5
        generalize W3.heap.size = ggc at *
        revert hk5c
        revert hbpc
        revert ggc cW
        exact HJ.out
      · have hka : Keep No wz (wz.alloc (.cells #[.int .u64 0, .int .i64 0, .bool false, .string ⟨#[]⟩, .int .u64 0, .string ⟨#[]⟩] 90)).drew := ((Keep.refl No wz).alloc _).drew
        have hBa : Blk (wz.alloc (.cells #[.int .u64 0, .int .i64 0, .bool false, .string ⟨#[]⟩, .int .u64 0, .string ⟨#[]⟩] 90)).drew wz.heap.size #[.int .u64 0, .int .i64 0, .bool false, .string ⟨#[]⟩, .int .u64 0, .string ⟨#[]⟩] 90 := (Blk.new wz _ _).keep (Keep.refl No _).drew fun h => h
        go_wp2_with fail
        refine tr_eff (o := ⟨some 37, _, _, _, _, _⟩) rfl rfl (fun K hKe => ?_)
        have hfa := HF1.out _ hka
        go_wp2_with fail
        refine hfa.mono ?_
        rintro e W3 ⟨rfl, hk3⟩
        have hBa3 := hBa.keep hk3 fun h => h
        replace hk3 := hka.trans' hk3
        clear hfa
        have b4cx : (W3).cell? ⟨w.heap.size, 0, none⟩ = _ := ((hk3).cell (p := ⟨w.heap.size, 0, none⟩) hcw fun h => h).trans b4c
        have c0x : (W3).cell? ⟨g, off + i * 6, none⟩ = _ := ((hk3).cell (p := ⟨g, off + i * 6, none⟩) hglc fun h => h).trans c0
        have c1x : (W3).cell? ⟨g, off + i * 6 + 1, none⟩ = _ := ((hk3).cell (p := ⟨g, off + i * 6 + 1, none⟩) hglc fun h => h).trans c1
        have c2x : (W3).cell? ⟨g, off + i * 6 + 2, none⟩ = _ := ((hk3).cell (p := ⟨g, off + i * 6 + 2, none⟩) hglc fun h => h).trans c2
        have c3x : (W3).cell? ⟨g, off + i * 6 + 3, none⟩ = _ := ((hk3).cell (p := ⟨g, off + i * 6 + 3, none⟩) hglc fun h => h).trans c3
        have c4x : (W3).cell? ⟨g, off + i * 6 + 4, none⟩ = _ := ((hk3).cell (p := ⟨g, off + i * 6 + 4, none⟩) hglc fun h => h).trans c4
        have c5x : (W3).cell? ⟨g, off + i * 6 + 5, none⟩ = _ := ((hk3).cell (p := ⟨g, off + i * 6 + 5, none⟩) hglc fun h => h).trans c5
        go_wp2_with fail
        refine ⟨fun _ => ⟨b4cx, c0x, c1x, c2x, c3x, c4x, c5x⟩, ?_⟩
        apply tr_still (o := ⟨some 38, _, _, _, _, _⟩) rfl rfl
        · intro w' hS
          obtain ⟨q1, q2, q3, q4, q5, q6, q7⟩ := hS
          first | (go_simp; done) | (go_simp; rfl) | rfl
        go_frame
        apply tr_still (o := ⟨some 39, _, _, _, _, _⟩) rfl rfl
        · intro w' hS
          obtain ⟨q1, q2, q3, q4, q5, q6, q7⟩ := hS
          first | (go_simp; done) | (go_simp; rfl) | rfl
        go_frame
        refine tr_eff (o := ⟨none, _, _, _, _, _⟩) rfl rfl (fun K hKe => ?_)
        refine wo_stAgg (.tmp 10) (.tmp 39) 90 rfl _ _ rfl rfl ?_
        refine rg_stAgg hBa3 (by kernel_rfl) (by rfl) (by simp [Value.oneCell']) ?_
        intro cW hbpc hk5a hz5
        have hk5c : Keep No wz cW := hk3.trans hk5a fun j hj e => by have e2 : j = wz.heap.size := e; omega
        obtain ⟨ggc, hg2e⟩ : ∃ g2, g2 = wz.heap.size := ⟨_, rfl⟩
        refine hKe _ _ ⟨fun h => by simp at h, tr_nil ?_⟩
        clear b4cx c0x c1x c2x c3x c4x c5x hka hBa hBa3 hk3 hkd hk5a hz5
        rw [← hg2e] at hbpc
        have e3 : wz.drew.heap.size = ggc := hg2e.symm
        try rw [e3]
        try rw [← hg2e]
        clear e3 hg2e
        revert hk5c
        revert hbpc
        revert ggc cW
        exact HJ.out
    · intro cW ggc hbpc hk5c
      have hcw2 := hk5c.size
      have b4d : cW.cell? ⟨w.heap.size, 0, none⟩ = _ := (hk5c.cell (p := ⟨w.heap.size, 0, none⟩) hcw fun h => h).trans b4c
      have d0 : cW.cell? ⟨g, off + i2 * 6, none⟩ = some (.int .u64 (q.addr : Int)) := (hk5c.cell (p := ⟨g, off + i2 * 6, none⟩) hglc fun h => h).trans (HC2.out 0 _ rfl)
      have d1 : cW.cell? ⟨g, off + i2 * 6 + 1, none⟩ = some (.int .i64 (q.prot : Int)) := (hk5c.cell (p := ⟨g, off + i2 * 6 + 1, none⟩) hglc fun h => h).trans (HC2.out 1 _ rfl)
      have d2 : cW.cell? ⟨g, off + i2 * 6 + 2, none⟩ = some (.bool q.dirty) := (hk5c.cell (p := ⟨g, off + i2 * 6 + 2, none⟩) hglc fun h => h).trans (HC2.out 2 _ rfl)
      have d3 : cW.cell? ⟨g, off + i2 * 6 + 3, none⟩ = some (.string ⟨q.file.toArray⟩) := (hk5c.cell (p := ⟨g, off + i2 * 6 + 3, none⟩) hglc fun h => h).trans (HC2.out 3 _ rfl)
      have d4 : cW.cell? ⟨g, off + i2 * 6 + 4, none⟩ = some (.int .u64 (q.off : Int)) := (hk5c.cell (p := ⟨g, off + i2 * 6 + 4, none⟩) hglc fun h => h).trans (HC2.out 4 _ rfl)
      have d5 : cW.cell? ⟨g, off + i2 * 6 + 5, none⟩ = some (.string ⟨q.b.toArray⟩) := (hk5c.cell (p := ⟨g, off + i2 * 6 + 5, none⟩) hglc fun h => h).trans (HC2.out 5 _ rfl)
      have hgld : g < cW.heap.size := Nat.lt_of_lt_of_le hglc hcw2
      clear c0 c1 c2 c3 c4 c5 b4c
      replace hcw : w.heap.size < cW.heap.size := Nat.lt_of_lt_of_le hcw hcw2
      have HFD : ∀ W, Keep No cW W → _ := fun W hk => HF2.out W (hk5c.trans' hk)
      have HF3 := Lib.hid HFD
      have hkk2 := hkz.trans' hk5c
      clear HFD hk5c hcw2 hglc HF1 HC2 HF2 hB2 hkz
      generalize cW = wz at *
      go_wp2_with fail
      apply joinT
      · intro HJ
        have hkd : Keep No wz wz.drew := (Keep.refl No wz).drew
        refine wp_region_tree (fun w' => w'.cell? ⟨w.heap.size, 0, none⟩ = some (.slice (some ⟨g, off, none⟩) m.length cv) ∧ w'.cell? ⟨g, off + i2 * 6, none⟩ = some (.int .u64 (q.addr : Int)) ∧ w'.cell? ⟨g, off + i2 * 6 + 1, none⟩ = some (.int .i64 (q.prot : Int)) ∧ w'.cell? ⟨g, off + i2 * 6 + 2, none⟩ = some (.bool q.dirty) ∧ w'.cell? ⟨g, off + i2 * 6 + 3, none⟩ = some (.string ⟨q.file.toArray⟩) ∧ w'.cell? ⟨g, off + i2 * 6 + 4, none⟩ = some (.int .u64 (q.off : Int)) ∧ w'.cell? ⟨g, off + i2 * 6 + 5, none⟩ = some (.string ⟨q.b.toArray⟩)) (fun j => decide (j ≤ 11)) (.st 0 (.st 1 (.st 2 (.st 3 (.st 4 (.st 5 (.st 6 (.st 7 (.br 8 11 (.st 9 (.st 10 (.ef 11 (.ef 12 .nil)))) (.ef 8 (.st 9 (.st 10 (.ef 12 .nil))))))))))))) (by kernel_rfl) (by kernel_rfl) (by intro c a d v w h; cases d <;> exact h) ⟨b4d, d0, d1, d2, d3, d4, d5⟩ ?_
        apply tr_still (o := ⟨some 40, _, _, _, _, _⟩) rfl rfl
        · intro w' hS
          obtain ⟨q1, q2, q3, q4, q5, q6, q7⟩ := hS
          first | (go_simp; done) | (go_simp; rfl) | rfl
        go_frame
        apply tr_still (o := ⟨some 41, _, _, _, _, _⟩) rfl rfl
        · intro w' hS
          obtain ⟨q1, q2, q3, q4, q5, q6, q7⟩ := hS
          first | (go_simp; done) | (go_simp; rfl) | rfl
        go_frame
        apply tr_still (o := ⟨some 42, _, _, _, _, _⟩) rfl rfl
        · intro w' hS
          obtain ⟨q1, q2, q3, q4, q5, q6, q7⟩ := hS
          first | (go_simp; done) | (go_simp; rfl) | rfl
        go_frame
        apply tr_still (o := ⟨some 43, _, _, _, _, _⟩) rfl rfl
        · intro w' hS
          obtain ⟨q1, q2, q3, q4, q5, q6, q7⟩ := hS
          first | (go_simp; done) | (go_simp; rfl) | rfl
        go_frame
        apply tr_still (o := ⟨some 44, _, _, _, _, _⟩) rfl rfl
        · intro w' hS
          obtain ⟨q1, q2, q3, q4, q5, q6, q7⟩ := hS
          first | (go_simp; done) | (go_simp; rfl) | rfl
        go_frame
        apply tr_still (o := ⟨some 45, _, _, _, _, _⟩) rfl rfl
        · intro w' hS
          obtain ⟨q1, q2, q3, q4, q5, q6, q7⟩ := hS
          first | (go_simp; done) | (go_simp; rfl) | rfl
        go_frame
        apply tr_still (o := ⟨some 46, _, _, _, _, _⟩) rfl rfl
        · intro w' hS
          obtain ⟨q1, q2, q3, q4, q5, q6, q7⟩ := hS
          first | (go_simp; done) | (go_simp; rfl) | rfl
        go_frame
        apply tr_still (o := ⟨some 47, _, _, _, _, _⟩) rfl rfl
        · intro w' hS
          obtain ⟨q1, q2, q3, q4, q5, q6, q7⟩ := hS
          first | (go_simp; done) | (go_simp; rfl) | rfl
        go_frame
        refine tr_br (o := ⟨some 48, _, _, _, _, _⟩) (o' := ⟨some 11, _, _, _, _, _⟩) rfl rfl rfl rfl (fun K hKe => ?_) (fun K hKe => ?_)
        · have hfa := HF3.out _ hkd
          go_wp2_with fail
          refine hfa.mono ?_
          rintro e W3 ⟨rfl, hk3⟩
          replace hk3 := hkd.trans' hk3
          clear hfa
          have b4dx : (W3).cell? ⟨w.heap.size, 0, none⟩ = _ := ((hk3).cell (p := ⟨w.heap.size, 0, none⟩) hcw fun h => h).trans b4d
          have d0x : (W3).cell? ⟨g, off + i2 * 6, none⟩ = _ := ((hk3).cell (p := ⟨g, off + i2 * 6, none⟩) hgld fun h => h).trans d0
          have d1x : (W3).cell? ⟨g, off + i2 * 6 + 1, none⟩ = _ := ((hk3).cell (p := ⟨g, off + i2 * 6 + 1, none⟩) hgld fun h => h).trans d1
          have d2x : (W3).cell? ⟨g, off + i2 * 6 + 2, none⟩ = _ := ((hk3).cell (p := ⟨g, off + i2 * 6 + 2, none⟩) hgld fun h => h).trans d2
          have d3x : (W3).cell? ⟨g, off + i2 * 6 + 3, none⟩ = _ := ((hk3).cell (p := ⟨g, off + i2 * 6 + 3, none⟩) hgld fun h => h).trans d3
          have d4x : (W3).cell? ⟨g, off + i2 * 6 + 4, none⟩ = _ := ((hk3).cell (p := ⟨g, off + i2 * 6 + 4, none⟩) hgld fun h => h).trans d4
          have d5x : (W3).cell? ⟨g, off + i2 * 6 + 5, none⟩ = _ := ((hk3).cell (p := ⟨g, off + i2 * 6 + 5, none⟩) hgld fun h => h).trans d5
          go_wp2_with fail
          refine ⟨fun _ => ⟨b4dx, d0x, d1x, d2x, d3x, d4x, d5x⟩, ?_⟩
          apply tr_still (o := ⟨some 49, _, _, _, _, _⟩) rfl rfl
          · intro w' hS
            obtain ⟨q1, q2, q3, q4, q5, q6, q7⟩ := hS
            first | (go_simp; done) | (go_simp; rfl) | rfl
          go_frame
          apply tr_still (o := ⟨some 50, _, _, _, _, _⟩) rfl rfl
          · intro w' hS
            obtain ⟨q1, q2, q3, q4, q5, q6, q7⟩ := hS
            first | (go_simp; done) | (go_simp; rfl) | rfl
          go_frame
          refine tr_eff (o := ⟨some 11, _, _, _, _, _⟩) rfl rfl (fun K hKe => ?_)
          have hka : Keep No wz (W3.alloc (.cells #[.int .u64 0, .int .i64 0, .bool false, .string ⟨#[]⟩, .int .u64 0, .string ⟨#[]⟩] 90)) := hk3.alloc _
          have hBa : Blk (W3.alloc (.cells #[.int .u64 0, .int .i64 0, .bool false, .string ⟨#[]⟩, .int .u64 0, .string ⟨#[]⟩] 90)) W3.heap.size #[.int .u64 0, .int .i64 0, .bool false, .string ⟨#[]⟩, .int .u64 0, .string ⟨#[]⟩] 90 := Blk.new _ _ _
          have b4dy : ((W3.alloc (.cells #[.int .u64 0, .int .i64 0, .bool false, .string ⟨#[]⟩, .int .u64 0, .string ⟨#[]⟩] 90))).cell? ⟨w.heap.size, 0, none⟩ = _ := ((hka).cell (p := ⟨w.heap.size, 0, none⟩) hcw fun h => h).trans b4d
          have d0y : ((W3.alloc (.cells #[.int .u64 0, .int .i64 0, .bool false, .string ⟨#[]⟩, .int .u64 0, .string ⟨#[]⟩] 90))).cell? ⟨g, off + i2 * 6, none⟩ = _ := ((hka).cell (p := ⟨g, off + i2 * 6, none⟩) hgld fun h => h).trans d0
          have d1y : ((W3.alloc (.cells #[.int .u64 0, .int .i64 0, .bool false, .string ⟨#[]⟩, .int .u64 0, .string ⟨#[]⟩] 90))).cell? ⟨g, off + i2 * 6 + 1, none⟩ = _ := ((hka).cell (p := ⟨g, off + i2 * 6 + 1, none⟩) hgld fun h => h).trans d1
          have d2y : ((W3.alloc (.cells #[.int .u64 0, .int .i64 0, .bool false, .string ⟨#[]⟩, .int .u64 0, .string ⟨#[]⟩] 90))).cell? ⟨g, off + i2 * 6 + 2, none⟩ = _ := ((hka).cell (p := ⟨g, off + i2 * 6 + 2, none⟩) hgld fun h => h).trans d2
          have d3y : ((W3.alloc (.cells #[.int .u64 0, .int .i64 0, .bool false, .string ⟨#[]⟩, .int .u64 0, .string ⟨#[]⟩] 90))).cell? ⟨g, off + i2 * 6 + 3, none⟩ = _ := ((hka).cell (p := ⟨g, off + i2 * 6 + 3, none⟩) hgld fun h => h).trans d3
          have d4y : ((W3.alloc (.cells #[.int .u64 0, .int .i64 0, .bool false, .string ⟨#[]⟩, .int .u64 0, .string ⟨#[]⟩] 90))).cell? ⟨g, off + i2 * 6 + 4, none⟩ = _ := ((hka).cell (p := ⟨g, off + i2 * 6 + 4, none⟩) hgld fun h => h).trans d4
          have d5y : ((W3.alloc (.cells #[.int .u64 0, .int .i64 0, .bool false, .string ⟨#[]⟩, .int .u64 0, .string ⟨#[]⟩] 90))).cell? ⟨g, off + i2 * 6 + 5, none⟩ = _ := ((hka).cell (p := ⟨g, off + i2 * 6 + 5, none⟩) hgld fun h => h).trans d5
          go_wp2_with fail
          refine ⟨fun _ => ⟨b4dy, d0y, d1y, d2y, d3y, d4y, d5y⟩, ?_⟩
          refine tr_eff (o := ⟨none, _, _, _, _, _⟩) rfl rfl (fun K hKe => ?_)
          refine wo_stAgg (.tmp 11) (.tmp 50) 90 rfl _ _ rfl rfl ?_
          refine rg_stAgg hBa (by kernel_rfl) (by rfl) (by simp [Value.oneCell']) ?_
          intro dW hbpd hk5a hz5
          have hg2 : wz.heap.size ≤ W3.heap.size := hk3.size
          have hk5d : Keep No wz dW := hka.trans hk5a fun j hj e => by have e2 : j = W3.heap.size := e; omega
          refine hKe _ _ ⟨fun h => by simp at h, tr_nil ?_⟩
          clear b4dx d0x d1x d2x d3x d4x d5x b4dy d0y d1y d2y d3y d4y d5y hka hBa hk3 hkd hk5a hg2 hz5
          generalize W3.heap.size = ggd at *
          revert hk5d
          revert hbpd
          revert ggd dW
          exact HJ.out
        · have hka : Keep No wz (wz.alloc (.cells #[.int .u64 0, .int .i64 0, .bool false, .string ⟨#[]⟩, .int .u64 0, .string ⟨#[]⟩] 90)).drew := ((Keep.refl No wz).alloc _).drew
          have hBa : Blk (wz.alloc (.cells #[.int .u64 0, .int .i64 0, .bool false, .string ⟨#[]⟩, .int .u64 0, .string ⟨#[]⟩] 90)).drew wz.heap.size #[.int .u64 0, .int .i64 0, .bool false, .string ⟨#[]⟩, .int .u64 0, .string ⟨#[]⟩] 90 := (Blk.new wz _ _).keep (Keep.refl No _).drew fun h => h
          go_wp2_with fail
          refine tr_eff (o := ⟨some 48, _, _, _, _, _⟩) rfl rfl (fun K hKe => ?_)
          have hfa := HF3.out _ hka
          go_wp2_with fail
          refine hfa.mono ?_
          rintro e W3 ⟨rfl, hk3⟩
          have hBa3 := hBa.keep hk3 fun h => h
          replace hk3 := hka.trans' hk3
          clear hfa
          have b4dx : (W3).cell? ⟨w.heap.size, 0, none⟩ = _ := ((hk3).cell (p := ⟨w.heap.size, 0, none⟩) hcw fun h => h).trans b4d
          have d0x : (W3).cell? ⟨g, off + i2 * 6, none⟩ = _ := ((hk3).cell (p := ⟨g, off + i2 * 6, none⟩) hgld fun h => h).trans d0
          have d1x : (W3).cell? ⟨g, off + i2 * 6 + 1, none⟩ = _ := ((hk3).cell (p := ⟨g, off + i2 * 6 + 1, none⟩) hgld fun h => h).trans d1
          have d2x : (W3).cell? ⟨g, off + i2 * 6 + 2, none⟩ = _ := ((hk3).cell (p := ⟨g, off + i2 * 6 + 2, none⟩) hgld fun h => h).trans d2
          have d3x : (W3).cell? ⟨g, off + i2 * 6 + 3, none⟩ = _ := ((hk3).cell (p := ⟨g, off + i2 * 6 + 3, none⟩) hgld fun h => h).trans d3
          have d4x : (W3).cell? ⟨g, off + i2 * 6 + 4, none⟩ = _ := ((hk3).cell (p := ⟨g, off + i2 * 6 + 4, none⟩) hgld fun h => h).trans d4
          have d5x : (W3).cell? ⟨g, off + i2 * 6 + 5, none⟩ = _ := ((hk3).cell (p := ⟨g, off + i2 * 6 + 5, none⟩) hgld fun h => h).trans d5
          go_wp2_with fail
          refine ⟨fun _ => ⟨b4dx, d0x, d1x, d2x, d3x, d4x, d5x⟩, ?_⟩
          apply tr_still (o := ⟨some 49, _, _, _, _, _⟩) rfl rfl
          · intro w' hS
            obtain ⟨q1, q2, q3, q4, q5, q6, q7⟩ := hS
            first | (go_simp; done) | (go_simp; rfl) | rfl
          go_frame
          apply tr_still (o := ⟨some 50, _, _, _, _, _⟩) rfl rfl
          · intro w' hS
            obtain ⟨q1, q2, q3, q4, q5, q6, q7⟩ := hS
            first | (go_simp; done) | (go_simp; rfl) | rfl
          go_frame
          refine tr_eff (o := ⟨none, _, _, _, _, _⟩) rfl rfl (fun K hKe => ?_)
          refine wo_stAgg (.tmp 11) (.tmp 50) 90 rfl _ _ rfl rfl ?_
          refine rg_stAgg hBa3 (by kernel_rfl) (by rfl) (by simp [Value.oneCell']) ?_
          intro dW hbpd hk5a hz5
          have hk5d : Keep No wz dW := hk3.trans hk5a fun j hj e => by have e2 : j = wz.heap.size := e; omega
          obtain ⟨ggd, hg2e⟩ : ∃ g2, g2 = wz.heap.size := ⟨_, rfl⟩
          refine hKe _ _ ⟨fun h => by simp at h, tr_nil ?_⟩
          clear b4dx d0x d1x d2x d3x d4x d5x hka hBa hBa3 hk3 hkd hk5a hz5
          rw [← hg2e] at hbpd
          have e3 : wz.drew.heap.size = ggd := hg2e.symm
          try rw [e3]
          try rw [← hg2e]
          clear e3 hg2e
          revert hk5d
          revert hbpd
          revert ggd dW
          exact HJ.out
      · intro dW ggd hbpd hk5d
        have e1 : dW.cell? ⟨ggc, 1, none⟩ = some (.int .i64 (p.prot : Int)) := (hbpc.keep hk5d fun h => h).cell 1
        have e2 : dW.cell? ⟨ggd, 1, none⟩ = some (.int .i64 (q.prot : Int)) := hbpd.cell 1
        have hkk3 := hkk2.trans' hk5d
        clear d0 d1 d2 d3 d4 d5 b4d hk5d hbpc hbpd HF3
        have hd1 := HD1.out
        have hd2 := HD2.out
        have hp2 : p.prot / what ≤ 7 := Nat.le_trans (Nat.div_le_self _ _) hp7
        have hq2 : q.prot / what ≤ 7 := Nat.le_trans (Nat.div_le_self _ _) hq7
        generalize p.prot / what = p2 at *
        generalize q.prot / what = q2 at *
        have hm1 : (p2 : Int).tmod 2 = ((p2 % 2 : Nat) : Int) := by rw [Int.tmod_eq_emod_of_nonneg (by omega)]; omega
        have hm2 : (q2 : Int).tmod 2 = ((q2 % 2 : Nat) : Int) := by rw [Int.tmod_eq_emod_of_nonneg (by omega)]; omega
        generalize p2 % 2 = p3 at *
        generalize q2 % 2 = q3 at *
        have hwz : (what : Int) ≠ 0 := by omega
        clear HD1 HD2 hal hsl hil1 hil2 ha hml hp7 hq7 hw HW0
        by_cases h1 : p3 = 0
        · rw [if_pos (.inl h1)] at HE2
          subst h1
          go_wp2_with fail
          go_ret
          rw [HE2.out]
          exact ⟨rfl, hkk3⟩
        · have h1b : ((p3 : Int) == 0) = false := by simp; omega
          by_cases h2 : q3 = 0
          · rw [if_pos (.inr h2)] at HE2
            subst h2
            clear h1
            go_wp2_with fail
            go_ret
            rw [HE2.out]
            exact ⟨rfl, hkk3⟩
          · have h2b : ((q3 : Int) == 0) = false := by simp; omega
            rw [if_neg (by omega)] at HE2
            clear h1 h2
            go_wp2_with fail
            go_ret
            rw [HE2.out]
            exact ⟨rfl, hkk3⟩
  · rw [he] at HE ⊢
    rw [if_neg (by decide)] at HE
    clear hcall HPT
    go_wp2_with fail
    go_ret
    rw [HE.out]
    exact ⟨rfl, hkz⟩
set_option maxRecDepth 100000 in
set_option maxHeartbeats 8000000 in
theorem rvfits1_any (addr what : Nat) (ha : addr < 18446744073709551616) (hw : what = 1 ∨ what = 2 ∨ what = 4) (h : Fl A w 6 encS v m) (hok : Ok m) :
    Calls Tryz.prog 53 #[.agg #[v], .int .u64 (addr : Int), .int .i64 1, .int .i64 (what : Int)] w fun e w' => e = .returned (.int .i64 (numE m addr 1 what : Nat)) ∧ Keep No w w' := by
  obtain ⟨av, cv, rfl, _, _⟩ := h.shape
  have hE : numE m addr 1 what = if Vm.heldE m addr 1 = 0 then allowedE m addr 1 what else Vm.heldE m addr 1 := by
    unfold numE; rw [if_pos (by decide)]; rfl
  have hpt := @held_parts m addr 1
  have hml := hok.len
  have hth : ∀ W, Keep No w W → Calls Tryz.prog 68 #[.agg #[.slice av m.length cv], .int .u64 (addr : Int), .int .u64 1] W _ := fun W hk => rvthere_any (w := W) addr 1 ha (by omega) (by omega) (by omega) (h.no hk) (by omega) (ok_small hok)
  have HOK := Lib.hid hok
  have HPT := Lib.hid hpt
  have hhe : Vm.heldE m addr 1 = 0 ∨ Vm.heldE m addr 1 = 40 := by
    unfold Vm.heldE
    split
    · exact .inr rfl
    · split
      · exact .inl rfl
      · exact .inr rfl
  generalize numE m addr 1 what = E at *
  have HE := Lib.hid hE
  have HTH := Lib.hid hth
  have HL := Lib.hid h
  clear hok hpt hth h hE
  go_enter Tryz.func53, Tryz.ntmps53
  go_wp2_with fail
  have hkW : Keep No w (w.alloc (.cells #[.slice av m.length cv] 52)) := (Keep.refl _ _).alloc _
  have hBW : Blk (w.alloc (.cells #[.slice av m.length cv] 52)) w.heap.size #[.slice av m.length cv] 52 := Blk.new _ _ _
  have hzW : (w.alloc (.cells #[.slice av m.length cv] 52)).heap.size = w.heap.size + 1 := World.size_alloc _ _
  generalize w.alloc (.cells #[.slice av m.length cv] 52) = W at *
  have q3 : W.cell? ⟨w.heap.size, 0, none⟩ = some (.slice av m.length cv) := hBW.cell 0
  have hcall := HTH.out W hkW
  go_wp2_with fail
  refine hcall.mono ?_
  rintro e wz ⟨rfl, hk2⟩
  have hB2 := hBW.keep hk2 fun h => h
  have hkz := hkW.trans' hk2
  rcases hhe with he | he
  · rw [he] at HE ⊢
    rw [if_pos rfl] at HE
    obtain ⟨p1, p2, _, p4⟩ := HPT.out he
    unfold top at p1 p2
    have hal : (addr : Int) ≤ 4294967296 := by omega
    have hsl : (addr : Int) + 1 ≤ 4294967296 := by omega
    obtain ⟨i, hi, hpa, hpat⟩ := page_idx (there_at p4 (i := 0) (by decide))
    obtain ⟨i2, hi2, hqa, hqat⟩ := page_idx (there_at p4 (i := 1 - 1) (by decide))
    rw [Nat.add_zero] at hpa hpat
    have hE := HE.out
    rw [allowed_two HOK.out (by decide) (by decide) hw hpat (q := m[i2]) (by rw [← hqat]; rfl)] at hE
    have HE2 := Lib.hid hE
    obtain ⟨g, off, cap, e, _, hglc, _, _, hc⟩ := (HL.out.no hkz).at encS_len hi
    cases e
    obtain ⟨g', off', cap', e, _, _, _, _, hc2⟩ := (HL.out.no hkz).at encS_len hi2
    cases e
    have hf1 : ∀ W, Keep No wz W → _ := fun W hkw => rvfind_at (w := W) addr ha (HL.out.no (hkz.trans' hkw)) HOK.out hi hpa
    have hf2 : ∀ W, Keep No wz W → _ := fun W hkw => rvfind_at (w := W) (addr + (1 - 1)) (by omega) (HL.out.no (hkz.trans' hkw)) HOK.out hi2 hqa
    have hz2 : ((addr + (1 - 1) : Nat) : Int) = (addr : Int) + 1 - 1 := by omega
    rw [hz2] at hf2
    have HW0 : what ≠ 0 := by omega
    have hd1 : (m[i].prot : Int).tdiv (what : Int) = ((m[i].prot / what : Nat) : Int) := by rw [Int.tdiv_eq_ediv_of_nonneg (by omega)]; rfl
    have hd2 : (m[i2].prot : Int).tdiv (what : Int) = ((m[i2].prot / what : Nat) : Int) := by rw [Int.tdiv_eq_ediv_of_nonneg (by omega)]; rfl
    have HD1 := Lib.hid hd1
    have HD2 := Lib.hid hd2
    clear hz2 hd1 hd2
    have HF1 := Lib.hid hf1
    have HF2 := Lib.hid hf2
    have hp7 := (HOK.out.pg _ (List.getElem_mem hi)).pr
    have hq7 := (HOK.out.pg _ (List.getElem_mem hi2)).pr
    have hil1 : (i : Int) < (m.length : Int) := by omega
    have hil2 : (i2 : Int) < (m.length : Int) := by omega
    clear hf1 hf2 hpa hqa hpat hqat HE hE HPT p1 p2 p4 he hcall q3 hkW hBW hk2 HTH
    generalize m[i] = p at *
    generalize m[i2] = q at *
    clear hi hi2
    have HC2 := Lib.hid hc2
    have b4c : wz.cell? ⟨w.heap.size, 0, none⟩ = some (.slice (some ⟨g, off, none⟩) m.length cv) := hB2.cell 0
    have c0 : wz.cell? ⟨g, off + i * 6, none⟩ = some (.int .u64 (p.addr : Int)) := hc 0 _ rfl
    have c1 : wz.cell? ⟨g, off + i * 6 + 1, none⟩ = some (.int .i64 (p.prot : Int)) := hc 1 _ rfl
    have c2 : wz.cell? ⟨g, off + i * 6 + 2, none⟩ = some (.bool p.dirty) := hc 2 _ rfl
    have c3 : wz.cell? ⟨g, off + i * 6 + 3, none⟩ = some (.string ⟨p.file.toArray⟩) := hc 3 _ rfl
    have c4 : wz.cell? ⟨g, off + i * 6 + 4, none⟩ = some (.int .u64 (p.off : Int)) := hc 4 _ rfl
    have c5 : wz.cell? ⟨g, off + i * 6 + 5, none⟩ = some (.string ⟨p.b.toArray⟩) := hc 5 _ rfl
    have hcw : w.heap.size < wz.heap.size := hB2.lt
    clear hc hc2
    go_wp2_with fail
    apply joinT
    · intro HJ
      have hkd : Keep No wz wz.drew := (Keep.refl No wz).drew
      refine wp_region_tree (fun w' => w'.cell? ⟨w.heap.size, 0, none⟩ = some (.slice (some ⟨g, off, none⟩) m.length cv) ∧ w'.cell? ⟨g, off + i * 6, none⟩ = some (.int .u64 (p.addr : Int)) ∧ w'.cell? ⟨g, off + i * 6 + 1, none⟩ = some (.int .i64 (p.prot : Int)) ∧ w'.cell? ⟨g, off + i * 6 + 2, none⟩ = some (.bool p.dirty) ∧ w'.cell? ⟨g, off + i * 6 + 3, none⟩ = some (.string ⟨p.file.toArray⟩) ∧ w'.cell? ⟨g, off + i * 6 + 4, none⟩ = some (.int .u64 (p.off : Int)) ∧ w'.cell? ⟨g, off + i * 6 + 5, none⟩ = some (.string ⟨p.b.toArray⟩)) (fun j => decide (j ≤ 7)) (.st 0 (.st 1 (.st 2 (.st 3 (.br 4 7 (.st 5 (.st 6 (.ef 7 (.ef 8 .nil)))) (.ef 4 (.st 5 (.st 6 (.ef 8 .nil))))))))) (by kernel_rfl) (by kernel_rfl) (by intro c a d v w h; cases d <;> exact h) ⟨b4c, c0, c1, c2, c3, c4, c5⟩ ?_
      apply tr_still (o := ⟨some 33, _, _, _, _, _⟩) rfl rfl
      · intro w' hS
        obtain ⟨q1, q2, q3, q4, q5, q6, q7⟩ := hS
        first | (go_simp; done) | (go_simp; rfl) | rfl
      go_frame
      apply tr_still (o := ⟨some 34, _, _, _, _, _⟩) rfl rfl
      · intro w' hS
        obtain ⟨q1, q2, q3, q4, q5, q6, q7⟩ := hS
        first | (go_simp; done) | (go_simp; rfl) | rfl
      go_frame
      apply tr_still (o := ⟨some 35, _, _, _, _, _⟩) rfl rfl
      · intro w' hS
        obtain ⟨q1, q2, q3, q4, q5, q6, q7⟩ := hS
        first | (go_simp; done) | (go_simp; rfl) | rfl
      go_frame
      apply tr_still (o := ⟨some 36, _, _, _, _, _⟩) rfl rfl
      · intro w' hS
        obtain ⟨q1, q2, q3, q4, q5, q6, q7⟩ := hS
        first | (go_simp; done) | (go_simp; rfl) | rfl
      go_frame
      refine tr_br (o := ⟨some 37, _, _, _, _, _⟩) (o' := ⟨some 10, _, _, _, _, _⟩) rfl rfl rfl rfl (fun K hKe => ?_) (fun K hKe => ?_)
      · have hfa := HF1.out _ hkd
        go_wp2_with fail
        refine hfa.mono ?_
        rintro e W3 ⟨rfl, hk3⟩
        replace hk3 := hkd.trans' hk3
        clear hfa
        have b4cx : (W3).cell? ⟨w.heap.size, 0, none⟩ = _ := ((hk3).cell (p := ⟨w.heap.size, 0, none⟩) hcw fun h => h).trans b4c
        have c0x : (W3).cell? ⟨g, off + i * 6, none⟩ = _ := ((hk3).cell (p := ⟨g, off + i * 6, none⟩) hglc fun h => h).trans c0
        have c1x : (W3).cell? ⟨g, off + i * 6 + 1, none⟩ = _ := ((hk3).cell (p := ⟨g, off + i * 6 + 1, none⟩) hglc fun h => h).trans c1
        have c2x : (W3).cell? ⟨g, off + i * 6 + 2, none⟩ = _ := ((hk3).cell (p := ⟨g, off + i * 6 + 2, none⟩) hglc fun h => h).trans c2
        have c3x : (W3).cell? ⟨g, off + i * 6 + 3, none⟩ = _ := ((hk3).cell (p := ⟨g, off + i * 6 + 3, none⟩) hglc fun h => h).trans c3
        have c4x : (W3).cell? ⟨g, off + i * 6 + 4, none⟩ = _ := ((hk3).cell (p := ⟨g, off + i * 6 + 4, none⟩) hglc fun h => h).trans c4
        have c5x : (W3).cell? ⟨g, off + i * 6 + 5, none⟩ = _ := ((hk3).cell (p := ⟨g, off + i * 6 + 5, none⟩) hglc fun h => h).trans c5
        go_wp2_with fail
        refine ⟨fun _ => ⟨b4cx, c0x, c1x, c2x, c3x, c4x, c5x⟩, ?_⟩
        apply tr_still (o := ⟨some 38, _, _, _, _, _⟩) rfl rfl
        · intro w' hS
          obtain ⟨q1, q2, q3, q4, q5, q6, q7⟩ := hS
          first | (go_simp; done) | (go_simp; rfl) | rfl
        go_frame
        apply tr_still (o := ⟨some 39, _, _, _, _, _⟩) rfl rfl
        · intro w' hS
          obtain ⟨q1, q2, q3, q4, q5, q6, q7⟩ := hS
          first | (go_simp; done) | (go_simp; rfl) | rfl
        go_frame
        refine tr_eff (o := ⟨some 10, _, _, _, _, _⟩) rfl rfl (fun K hKe => ?_)
        have hka : Keep No wz (W3.alloc (.cells #[.int .u64 0, .int .i64 0, .bool false, .string ⟨#[]⟩, .int .u64 0, .string ⟨#[]⟩] 90)) := hk3.alloc _
        have hBa : Blk (W3.alloc (.cells #[.int .u64 0, .int .i64 0, .bool false, .string ⟨#[]⟩, .int .u64 0, .string ⟨#[]⟩] 90)) W3.heap.size #[.int .u64 0, .int .i64 0, .bool false, .string ⟨#[]⟩, .int .u64 0, .string ⟨#[]⟩] 90 := Blk.new _ _ _
        have b4cy : ((W3.alloc (.cells #[.int .u64 0, .int .i64 0, .bool false, .string ⟨#[]⟩, .int .u64 0, .string ⟨#[]⟩] 90))).cell? ⟨w.heap.size, 0, none⟩ = _ := ((hka).cell (p := ⟨w.heap.size, 0, none⟩) hcw fun h => h).trans b4c
        have c0y : ((W3.alloc (.cells #[.int .u64 0, .int .i64 0, .bool false, .string ⟨#[]⟩, .int .u64 0, .string ⟨#[]⟩] 90))).cell? ⟨g, off + i * 6, none⟩ = _ := ((hka).cell (p := ⟨g, off + i * 6, none⟩) hglc fun h => h).trans c0
        have c1y : ((W3.alloc (.cells #[.int .u64 0, .int .i64 0, .bool false, .string ⟨#[]⟩, .int .u64 0, .string ⟨#[]⟩] 90))).cell? ⟨g, off + i * 6 + 1, none⟩ = _ := ((hka).cell (p := ⟨g, off + i * 6 + 1, none⟩) hglc fun h => h).trans c1
        have c2y : ((W3.alloc (.cells #[.int .u64 0, .int .i64 0, .bool false, .string ⟨#[]⟩, .int .u64 0, .string ⟨#[]⟩] 90))).cell? ⟨g, off + i * 6 + 2, none⟩ = _ := ((hka).cell (p := ⟨g, off + i * 6 + 2, none⟩) hglc fun h => h).trans c2
        have c3y : ((W3.alloc (.cells #[.int .u64 0, .int .i64 0, .bool false, .string ⟨#[]⟩, .int .u64 0, .string ⟨#[]⟩] 90))).cell? ⟨g, off + i * 6 + 3, none⟩ = _ := ((hka).cell (p := ⟨g, off + i * 6 + 3, none⟩) hglc fun h => h).trans c3
        have c4y : ((W3.alloc (.cells #[.int .u64 0, .int .i64 0, .bool false, .string ⟨#[]⟩, .int .u64 0, .string ⟨#[]⟩] 90))).cell? ⟨g, off + i * 6 + 4, none⟩ = _ := ((hka).cell (p := ⟨g, off + i * 6 + 4, none⟩) hglc fun h => h).trans c4
        have c5y : ((W3.alloc (.cells #[.int .u64 0, .int .i64 0, .bool false, .string ⟨#[]⟩, .int .u64 0, .string ⟨#[]⟩] 90))).cell? ⟨g, off + i * 6 + 5, none⟩ = _ := ((hka).cell (p := ⟨g, off + i * 6 + 5, none⟩) hglc fun h => h).trans c5
        go_wp2_with fail
        refine ⟨fun _ => ⟨b4cy, c0y, c1y, c2y, c3y, c4y, c5y⟩, ?_⟩
        refine tr_eff (o := ⟨none, _, _, _, _, _⟩) rfl rfl (fun K hKe => ?_)
        refine wo_stAgg (.tmp 10) (.tmp 39) 90 rfl _ _ rfl rfl ?_
        refine rg_stAgg hBa (by kernel_rfl) (by rfl) (by simp [Value.oneCell']) ?_
        intro cW hbpc hk5a hz5
        have hg2 : wz.heap.size ≤ W3.heap.size := hk3.size
        have hk5c : Keep No wz cW := hka.trans hk5a fun j hj e => by have e2 : j = W3.heap.size := e; omega
        refine hKe _ _ ⟨fun h => by simp at h, tr_nil ?_⟩
        clear b4cx c0x c1x c2x c3x c4x c5x b4cy c0y c1y c2y c3y c4y c5y hka hBa hk3 hkd hk5a hg2 hz5
        generalize W3.heap.size = ggc at *
        revert hk5c
        revert hbpc
        revert ggc cW
        exact HJ.out
      · have hka : Keep No wz (wz.alloc (.cells #[.int .u64 0, .int .i64 0, .bool false, .string ⟨#[]⟩, .int .u64 0, .string ⟨#[]⟩] 90)).drew := ((Keep.refl No wz).alloc _).drew
        have hBa : Blk (wz.alloc (.cells #[.int .u64 0, .int .i64 0, .bool false, .string ⟨#[]⟩, .int .u64 0, .string ⟨#[]⟩] 90)).drew wz.heap.size #[.int .u64 0, .int .i64 0, .bool false, .string ⟨#[]⟩, .int .u64 0, .string ⟨#[]⟩] 90 := (Blk.new wz _ _).keep (Keep.refl No _).drew fun h => h
        go_wp2_with fail
        refine tr_eff (o := ⟨some 37, _, _, _, _, _⟩) rfl rfl (fun K hKe => ?_)
        have hfa := HF1.out _ hka
        go_wp2_with fail
        refine hfa.mono ?_
        rintro e W3 ⟨rfl, hk3⟩
        have hBa3 := hBa.keep hk3 fun h => h
        replace hk3 := hka.trans' hk3
        clear hfa
        have b4cx : (W3).cell? ⟨w.heap.size, 0, none⟩ = _ := ((hk3).cell (p := ⟨w.heap.size, 0, none⟩) hcw fun h => h).trans b4c
        have c0x : (W3).cell? ⟨g, off + i * 6, none⟩ = _ := ((hk3).cell (p := ⟨g, off + i * 6, none⟩) hglc fun h => h).trans c0
        have c1x : (W3).cell? ⟨g, off + i * 6 + 1, none⟩ = _ := ((hk3).cell (p := ⟨g, off + i * 6 + 1, none⟩) hglc fun h => h).trans c1
        have c2x : (W3).cell? ⟨g, off + i * 6 + 2, none⟩ = _ := ((hk3).cell (p := ⟨g, off + i * 6 + 2, none⟩) hglc fun h => h).trans c2
        have c3x : (W3).cell? ⟨g, off + i * 6 + 3, none⟩ = _ := ((hk3).cell (p := ⟨g, off + i * 6 + 3, none⟩) hglc fun h => h).trans c3
        have c4x : (W3).cell? ⟨g, off + i * 6 + 4, none⟩ = _ := ((hk3).cell (p := ⟨g, off + i * 6 + 4, none⟩) hglc fun h => h).trans c4
        have c5x : (W3).cell? ⟨g, off + i * 6 + 5, none⟩ = _ := ((hk3).cell (p := ⟨g, off + i * 6 + 5, none⟩) hglc fun h => h).trans c5
        go_wp2_with fail
        refine ⟨fun _ => ⟨b4cx, c0x, c1x, c2x, c3x, c4x, c5x⟩, ?_⟩
        apply tr_still (o := ⟨some 38, _, _, _, _, _⟩) rfl rfl
        · intro w' hS
          obtain ⟨q1, q2, q3, q4, q5, q6, q7⟩ := hS
          first | (go_simp; done) | (go_simp; rfl) | rfl
        go_frame
        apply tr_still (o := ⟨some 39, _, _, _, _, _⟩) rfl rfl
        · intro w' hS
          obtain ⟨q1, q2, q3, q4, q5, q6, q7⟩ := hS
          first | (go_simp; done) | (go_simp; rfl) | rfl
        go_frame
        refine tr_eff (o := ⟨none, _, _, _, _, _⟩) rfl rfl (fun K hKe => ?_)
        refine wo_stAgg (.tmp 10) (.tmp 39) 90 rfl _ _ rfl rfl ?_
        refine rg_stAgg hBa3 (by kernel_rfl) (by rfl) (by simp [Value.oneCell']) ?_
        intro cW hbpc hk5a hz5
        have hk5c : Keep No wz cW := hk3.trans hk5a fun j hj e => by have e2 : j = wz.heap.size := e; omega
        obtain ⟨ggc, hg2e⟩ : ∃ g2, g2 = wz.heap.size := ⟨_, rfl⟩
        refine hKe _ _ ⟨fun h => by simp at h, tr_nil ?_⟩
        clear b4cx c0x c1x c2x c3x c4x c5x hka hBa hBa3 hk3 hkd hk5a hz5
        rw [← hg2e] at hbpc
        have e3 : wz.drew.heap.size = ggc := hg2e.symm
        try rw [e3]
        try rw [← hg2e]
        clear e3 hg2e
        revert hk5c
        revert hbpc
        revert ggc cW
        exact HJ.out
    · intro cW ggc hbpc hk5c
      have hcw2 := hk5c.size
      have b4d : cW.cell? ⟨w.heap.size, 0, none⟩ = _ := (hk5c.cell (p := ⟨w.heap.size, 0, none⟩) hcw fun h => h).trans b4c
      have d0 : cW.cell? ⟨g, off + i2 * 6, none⟩ = some (.int .u64 (q.addr : Int)) := (hk5c.cell (p := ⟨g, off + i2 * 6, none⟩) hglc fun h => h).trans (HC2.out 0 _ rfl)
      have d1 : cW.cell? ⟨g, off + i2 * 6 + 1, none⟩ = some (.int .i64 (q.prot : Int)) := (hk5c.cell (p := ⟨g, off + i2 * 6 + 1, none⟩) hglc fun h => h).trans (HC2.out 1 _ rfl)
      have d2 : cW.cell? ⟨g, off + i2 * 6 + 2, none⟩ = some (.bool q.dirty) := (hk5c.cell (p := ⟨g, off + i2 * 6 + 2, none⟩) hglc fun h => h).trans (HC2.out 2 _ rfl)
      have d3 : cW.cell? ⟨g, off + i2 * 6 + 3, none⟩ = some (.string ⟨q.file.toArray⟩) := (hk5c.cell (p := ⟨g, off + i2 * 6 + 3, none⟩) hglc fun h => h).trans (HC2.out 3 _ rfl)
      have d4 : cW.cell? ⟨g, off + i2 * 6 + 4, none⟩ = some (.int .u64 (q.off : Int)) := (hk5c.cell (p := ⟨g, off + i2 * 6 + 4, none⟩) hglc fun h => h).trans (HC2.out 4 _ rfl)
      have d5 : cW.cell? ⟨g, off + i2 * 6 + 5, none⟩ = some (.string ⟨q.b.toArray⟩) := (hk5c.cell (p := ⟨g, off + i2 * 6 + 5, none⟩) hglc fun h => h).trans (HC2.out 5 _ rfl)
      have hgld : g < cW.heap.size := Nat.lt_of_lt_of_le hglc hcw2
      clear c0 c1 c2 c3 c4 c5 b4c
      replace hcw : w.heap.size < cW.heap.size := Nat.lt_of_lt_of_le hcw hcw2
      have HFD : ∀ W, Keep No cW W → _ := fun W hk => HF2.out W (hk5c.trans' hk)
      have HF3 := Lib.hid HFD
      have hkk2 := hkz.trans' hk5c
      clear HFD hk5c hcw2 hglc HF1 HC2 HF2 hB2 hkz
      generalize cW = wz at *
      go_wp2_with fail
      apply joinT
      · intro HJ
        have hkd : Keep No wz wz.drew := (Keep.refl No wz).drew
        refine wp_region_tree (fun w' => w'.cell? ⟨w.heap.size, 0, none⟩ = some (.slice (some ⟨g, off, none⟩) m.length cv) ∧ w'.cell? ⟨g, off + i2 * 6, none⟩ = some (.int .u64 (q.addr : Int)) ∧ w'.cell? ⟨g, off + i2 * 6 + 1, none⟩ = some (.int .i64 (q.prot : Int)) ∧ w'.cell? ⟨g, off + i2 * 6 + 2, none⟩ = some (.bool q.dirty) ∧ w'.cell? ⟨g, off + i2 * 6 + 3, none⟩ = some (.string ⟨q.file.toArray⟩) ∧ w'.cell? ⟨g, off + i2 * 6 + 4, none⟩ = some (.int .u64 (q.off : Int)) ∧ w'.cell? ⟨g, off + i2 * 6 + 5, none⟩ = some (.string ⟨q.b.toArray⟩)) (fun j => decide (j ≤ 11)) (.st 0 (.st 1 (.st 2 (.st 3 (.st 4 (.st 5 (.st 6 (.st 7 (.br 8 11 (.st 9 (.st 10 (.ef 11 (.ef 12 .nil)))) (.ef 8 (.st 9 (.st 10 (.ef 12 .nil))))))))))))) (by kernel_rfl) (by kernel_rfl) (by intro c a d v w h; cases d <;> exact h) ⟨b4d, d0, d1, d2, d3, d4, d5⟩ ?_
        apply tr_still (o := ⟨some 40, _, _, _, _, _⟩) rfl rfl
        · intro w' hS
          obtain ⟨q1, q2, q3, q4, q5, q6, q7⟩ := hS
          first | (go_simp; done) | (go_simp; rfl) | rfl
        go_frame
        apply tr_still (o := ⟨some 41, _, _, _, _, _⟩) rfl rfl
        · intro w' hS
          obtain ⟨q1, q2, q3, q4, q5, q6, q7⟩ := hS
          first | (go_simp; done) | (go_simp; rfl) | rfl
        go_frame
        apply tr_still (o := ⟨some 42, _, _, _, _, _⟩) rfl rfl
        · intro w' hS
          obtain ⟨q1, q2, q3, q4, q5, q6, q7⟩ := hS
          first | (go_simp; done) | (go_simp; rfl) | rfl
        go_frame
        apply tr_still (o := ⟨some 43, _, _, _, _, _⟩) rfl rfl
        · intro w' hS
          obtain ⟨q1, q2, q3, q4, q5, q6, q7⟩ := hS
          first | (go_simp; done) | (go_simp; rfl) | rfl
        go_frame
        apply tr_still (o := ⟨some 44, _, _, _, _, _⟩) rfl rfl
        · intro w' hS
          obtain ⟨q1, q2, q3, q4, q5, q6, q7⟩ := hS
          first | (go_simp; done) | (go_simp; rfl) | rfl
        go_frame
        apply tr_still (o := ⟨some 45, _, _, _, _, _⟩) rfl rfl
        · intro w' hS
          obtain ⟨q1, q2, q3, q4, q5, q6, q7⟩ := hS
          first | (go_simp; done) | (go_simp; rfl) | rfl
        go_frame
        apply tr_still (o := ⟨some 46, _, _, _, _, _⟩) rfl rfl
        · intro w' hS
          obtain ⟨q1, q2, q3, q4, q5, q6, q7⟩ := hS
          first | (go_simp; done) | (go_simp; rfl) | rfl
        go_frame
        apply tr_still (o := ⟨some 47, _, _, _, _, _⟩) rfl rfl
        · intro w' hS
          obtain ⟨q1, q2, q3, q4, q5, q6, q7⟩ := hS
          first | (go_simp; done) | (go_simp; rfl) | rfl
        go_frame
        refine tr_br (o := ⟨some 48, _, _, _, _, _⟩) (o' := ⟨some 11, _, _, _, _, _⟩) rfl rfl rfl rfl (fun K hKe => ?_) (fun K hKe => ?_)
        · have hfa := HF3.out _ hkd
          go_wp2_with fail
          refine hfa.mono ?_
          rintro e W3 ⟨rfl, hk3⟩
          replace hk3 := hkd.trans' hk3
          clear hfa
          have b4dx : (W3).cell? ⟨w.heap.size, 0, none⟩ = _ := ((hk3).cell (p := ⟨w.heap.size, 0, none⟩) hcw fun h => h).trans b4d
          have d0x : (W3).cell? ⟨g, off + i2 * 6, none⟩ = _ := ((hk3).cell (p := ⟨g, off + i2 * 6, none⟩) hgld fun h => h).trans d0
          have d1x : (W3).cell? ⟨g, off + i2 * 6 + 1, none⟩ = _ := ((hk3).cell (p := ⟨g, off + i2 * 6 + 1, none⟩) hgld fun h => h).trans d1
          have d2x : (W3).cell? ⟨g, off + i2 * 6 + 2, none⟩ = _ := ((hk3).cell (p := ⟨g, off + i2 * 6 + 2, none⟩) hgld fun h => h).trans d2
          have d3x : (W3).cell? ⟨g, off + i2 * 6 + 3, none⟩ = _ := ((hk3).cell (p := ⟨g, off + i2 * 6 + 3, none⟩) hgld fun h => h).trans d3
          have d4x : (W3).cell? ⟨g, off + i2 * 6 + 4, none⟩ = _ := ((hk3).cell (p := ⟨g, off + i2 * 6 + 4, none⟩) hgld fun h => h).trans d4
          have d5x : (W3).cell? ⟨g, off + i2 * 6 + 5, none⟩ = _ := ((hk3).cell (p := ⟨g, off + i2 * 6 + 5, none⟩) hgld fun h => h).trans d5
          go_wp2_with fail
          refine ⟨fun _ => ⟨b4dx, d0x, d1x, d2x, d3x, d4x, d5x⟩, ?_⟩
          apply tr_still (o := ⟨some 49, _, _, _, _, _⟩) rfl rfl
          · intro w' hS
            obtain ⟨q1, q2, q3, q4, q5, q6, q7⟩ := hS
            first | (go_simp; done) | (go_simp; rfl) | rfl
          go_frame
          apply tr_still (o := ⟨some 50, _, _, _, _, _⟩) rfl rfl
          · intro w' hS
            obtain ⟨q1, q2, q3, q4, q5, q6, q7⟩ := hS
            first | (go_simp; done) | (go_simp; rfl) | rfl
          go_frame
          refine tr_eff (o := ⟨some 11, _, _, _, _, _⟩) rfl rfl (fun K hKe => ?_)
          have hka : Keep No wz (W3.alloc (.cells #[.int .u64 0, .int .i64 0, .bool false, .string ⟨#[]⟩, .int .u64 0, .string ⟨#[]⟩] 90)) := hk3.alloc _
          have hBa : Blk (W3.alloc (.cells #[.int .u64 0, .int .i64 0, .bool false, .string ⟨#[]⟩, .int .u64 0, .string ⟨#[]⟩] 90)) W3.heap.size #[.int .u64 0, .int .i64 0, .bool false, .string ⟨#[]⟩, .int .u64 0, .string ⟨#[]⟩] 90 := Blk.new _ _ _
          have b4dy : ((W3.alloc (.cells #[.int .u64 0, .int .i64 0, .bool false, .string ⟨#[]⟩, .int .u64 0, .string ⟨#[]⟩] 90))).cell? ⟨w.heap.size, 0, none⟩ = _ := ((hka).cell (p := ⟨w.heap.size, 0, none⟩) hcw fun h => h).trans b4d
          have d0y : ((W3.alloc (.cells #[.int .u64 0, .int .i64 0, .bool false, .string ⟨#[]⟩, .int .u64 0, .string ⟨#[]⟩] 90))).cell? ⟨g, off + i2 * 6, none⟩ = _ := ((hka).cell (p := ⟨g, off + i2 * 6, none⟩) hgld fun h => h).trans d0
          have d1y : ((W3.alloc (.cells #[.int .u64 0, .int .i64 0, .bool false, .string ⟨#[]⟩, .int .u64 0, .string ⟨#[]⟩] 90))).cell? ⟨g, off + i2 * 6 + 1, none⟩ = _ := ((hka).cell (p := ⟨g, off + i2 * 6 + 1, none⟩) hgld fun h => h).trans d1
          have d2y : ((W3.alloc (.cells #[.int .u64 0, .int .i64 0, .bool false, .string ⟨#[]⟩, .int .u64 0, .string ⟨#[]⟩] 90))).cell? ⟨g, off + i2 * 6 + 2, none⟩ = _ := ((hka).cell (p := ⟨g, off + i2 * 6 + 2, none⟩) hgld fun h => h).trans d2
          have d3y : ((W3.alloc (.cells #[.int .u64 0, .int .i64 0, .bool false, .string ⟨#[]⟩, .int .u64 0, .string ⟨#[]⟩] 90))).cell? ⟨g, off + i2 * 6 + 3, none⟩ = _ := ((hka).cell (p := ⟨g, off + i2 * 6 + 3, none⟩) hgld fun h => h).trans d3
          have d4y : ((W3.alloc (.cells #[.int .u64 0, .int .i64 0, .bool false, .string ⟨#[]⟩, .int .u64 0, .string ⟨#[]⟩] 90))).cell? ⟨g, off + i2 * 6 + 4, none⟩ = _ := ((hka).cell (p := ⟨g, off + i2 * 6 + 4, none⟩) hgld fun h => h).trans d4
          have d5y : ((W3.alloc (.cells #[.int .u64 0, .int .i64 0, .bool false, .string ⟨#[]⟩, .int .u64 0, .string ⟨#[]⟩] 90))).cell? ⟨g, off + i2 * 6 + 5, none⟩ = _ := ((hka).cell (p := ⟨g, off + i2 * 6 + 5, none⟩) hgld fun h => h).trans d5
          go_wp2_with fail
          refine ⟨fun _ => ⟨b4dy, d0y, d1y, d2y, d3y, d4y, d5y⟩, ?_⟩
          refine tr_eff (o := ⟨none, _, _, _, _, _⟩) rfl rfl (fun K hKe => ?_)
          refine wo_stAgg (.tmp 11) (.tmp 50) 90 rfl _ _ rfl rfl ?_
          refine rg_stAgg hBa (by kernel_rfl) (by rfl) (by simp [Value.oneCell']) ?_
          intro dW hbpd hk5a hz5
          have hg2 : wz.heap.size ≤ W3.heap.size := hk3.size
          have hk5d : Keep No wz dW := hka.trans hk5a fun j hj e => by have e2 : j = W3.heap.size := e; omega
          refine hKe _ _ ⟨fun h => by simp at h, tr_nil ?_⟩
          clear b4dx d0x d1x d2x d3x d4x d5x b4dy d0y d1y d2y d3y d4y d5y hka hBa hk3 hkd hk5a hg2 hz5
          generalize W3.heap.size = ggd at *
          revert hk5d
          revert hbpd
          revert ggd dW
          exact HJ.out
        · have hka : Keep No wz (wz.alloc (.cells #[.int .u64 0, .int .i64 0, .bool false, .string ⟨#[]⟩, .int .u64 0, .string ⟨#[]⟩] 90)).drew := ((Keep.refl No wz).alloc _).drew
          have hBa : Blk (wz.alloc (.cells #[.int .u64 0, .int .i64 0, .bool false, .string ⟨#[]⟩, .int .u64 0, .string ⟨#[]⟩] 90)).drew wz.heap.size #[.int .u64 0, .int .i64 0, .bool false, .string ⟨#[]⟩, .int .u64 0, .string ⟨#[]⟩] 90 := (Blk.new wz _ _).keep (Keep.refl No _).drew fun h => h
          go_wp2_with fail
          refine tr_eff (o := ⟨some 48, _, _, _, _, _⟩) rfl rfl (fun K hKe => ?_)
          have hfa := HF3.out _ hka
          go_wp2_with fail
          refine hfa.mono ?_
          rintro e W3 ⟨rfl, hk3⟩
          have hBa3 := hBa.keep hk3 fun h => h
          replace hk3 := hka.trans' hk3
          clear hfa
          have b4dx : (W3).cell? ⟨w.heap.size, 0, none⟩ = _ := ((hk3).cell (p := ⟨w.heap.size, 0, none⟩) hcw fun h => h).trans b4d
          have d0x : (W3).cell? ⟨g, off + i2 * 6, none⟩ = _ := ((hk3).cell (p := ⟨g, off + i2 * 6, none⟩) hgld fun h => h).trans d0
          have d1x : (W3).cell? ⟨g, off + i2 * 6 + 1, none⟩ = _ := ((hk3).cell (p := ⟨g, off + i2 * 6 + 1, none⟩) hgld fun h => h).trans d1
          have d2x : (W3).cell? ⟨g, off + i2 * 6 + 2, none⟩ = _ := ((hk3).cell (p := ⟨g, off + i2 * 6 + 2, none⟩) hgld fun h => h).trans d2
          have d3x : (W3).cell? ⟨g, off + i2 * 6 + 3, none⟩ = _ := ((hk3).cell (p := ⟨g, off + i2 * 6 + 3, none⟩) hgld fun h => h).trans d3
          have d4x : (W3).cell? ⟨g, off + i2 * 6 + 4, none⟩ = _ := ((hk3).cell (p := ⟨g, off + i2 * 6 + 4, none⟩) hgld fun h => h).trans d4
          have d5x : (W3).cell? ⟨g, off + i2 * 6 + 5, none⟩ = _ := ((hk3).cell (p := ⟨g, off + i2 * 6 + 5, none⟩) hgld fun h => h).trans d5
          go_wp2_with fail
          refine ⟨fun _ => ⟨b4dx, d0x, d1x, d2x, d3x, d4x, d5x⟩, ?_⟩
          apply tr_still (o := ⟨some 49, _, _, _, _, _⟩) rfl rfl
          · intro w' hS
            obtain ⟨q1, q2, q3, q4, q5, q6, q7⟩ := hS
            first | (go_simp; done) | (go_simp; rfl) | rfl
          go_frame
          apply tr_still (o := ⟨some 50, _, _, _, _, _⟩) rfl rfl
          · intro w' hS
            obtain ⟨q1, q2, q3, q4, q5, q6, q7⟩ := hS
            first | (go_simp; done) | (go_simp; rfl) | rfl
          go_frame
          refine tr_eff (o := ⟨none, _, _, _, _, _⟩) rfl rfl (fun K hKe => ?_)
          refine wo_stAgg (.tmp 11) (.tmp 50) 90 rfl _ _ rfl rfl ?_
          refine rg_stAgg hBa3 (by kernel_rfl) (by rfl) (by simp [Value.oneCell']) ?_
          intro dW hbpd hk5a hz5
          have hk5d : Keep No wz dW := hk3.trans hk5a fun j hj e => by have e2 : j = wz.heap.size := e; omega
          obtain ⟨ggd, hg2e⟩ : ∃ g2, g2 = wz.heap.size := ⟨_, rfl⟩
          refine hKe _ _ ⟨fun h => by simp at h, tr_nil ?_⟩
          clear b4dx d0x d1x d2x d3x d4x d5x hka hBa hBa3 hk3 hkd hk5a hz5
          rw [← hg2e] at hbpd
          have e3 : wz.drew.heap.size = ggd := hg2e.symm
          try rw [e3]
          try rw [← hg2e]
          clear e3 hg2e
          revert hk5d
          revert hbpd
          revert ggd dW
          exact HJ.out
      · intro dW ggd hbpd hk5d
        have e1 : dW.cell? ⟨ggc, 1, none⟩ = some (.int .i64 (p.prot : Int)) := (hbpc.keep hk5d fun h => h).cell 1
        have e2 : dW.cell? ⟨ggd, 1, none⟩ = some (.int .i64 (q.prot : Int)) := hbpd.cell 1
        have hkk3 := hkk2.trans' hk5d
        clear d0 d1 d2 d3 d4 d5 b4d hk5d hbpc hbpd HF3
        have hd1 := HD1.out
        have hd2 := HD2.out
        have hp2 : p.prot / what ≤ 7 := Nat.le_trans (Nat.div_le_self _ _) hp7
        have hq2 : q.prot / what ≤ 7 := Nat.le_trans (Nat.div_le_self _ _) hq7
        generalize p.prot / what = p2 at *
        generalize q.prot / what = q2 at *
        have hm1 : (p2 : Int).tmod 2 = ((p2 % 2 : Nat) : Int) := by rw [Int.tmod_eq_emod_of_nonneg (by omega)]; omega
        have hm2 : (q2 : Int).tmod 2 = ((q2 % 2 : Nat) : Int) := by rw [Int.tmod_eq_emod_of_nonneg (by omega)]; omega
        generalize p2 % 2 = p3 at *
        generalize q2 % 2 = q3 at *
        have hwz : (what : Int) ≠ 0 := by omega
        clear HD1 HD2 hal hsl hil1 hil2 ha hml hp7 hq7 hw HW0
        by_cases h1 : p3 = 0
        · rw [if_pos (.inl h1)] at HE2
          subst h1
          go_wp2_with fail
          go_ret
          rw [HE2.out]
          exact ⟨rfl, hkk3⟩
        · have h1b : ((p3 : Int) == 0) = false := by simp; omega
          by_cases h2 : q3 = 0
          · rw [if_pos (.inr h2)] at HE2
            subst h2
            clear h1
            go_wp2_with fail
            go_ret
            rw [HE2.out]
            exact ⟨rfl, hkk3⟩
          · have h2b : ((q3 : Int) == 0) = false := by simp; omega
            rw [if_neg (by omega)] at HE2
            clear h1 h2
            go_wp2_with fail
            go_ret
            rw [HE2.out]
            exact ⟨rfl, hkk3⟩
  · rw [he] at HE ⊢
    rw [if_neg (by decide)] at HE
    clear hcall HPT
    go_wp2_with fail
    go_ret
    rw [HE.out]
    exact ⟨rfl, hkz⟩
end
end Go.Proofs.YtaoillfofiehpaaGreatDoor
