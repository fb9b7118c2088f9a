/- Modules and pages as the document has them; is a ledger as the model is; a ledger and its model, marked. No condition. -/
import Derived.Test.YthfekjnekaecaaaDoorTg16
set_option linter.unusedVariables false
set_option linter.unusedSimpArgs false
namespace Go.Dm.Tg
open Go Go.Dm.Vm
def cleanR (p : Pg) : PgR := ⟨p.addr, p.prot, false, [], 0, p.b⟩
theorem clean18 : mem18.map cleanR = mem18.map rawR := by kernel_rfl
end Go.Dm.Tg
namespace Go.Proofs.YthfekjnekaecaaaDoor
open Go.RowKit Go.Dm Go.Dm.Vm Go.Dm.Cp Go.Dm.Tg Go.Maps Go.Dm.Oc
def cleanQ (r : PgR) : PgR := ⟨r.addr, r.prot, false, [], 0, r.b⟩
section
variable {A B C : Nat → Prop} {w : World} {mv wv pv : Value} {L : Lg} {m : V} {d mb : Nat} {f : Nat → Nat}
set_option maxRecDepth 100000 in
set_option maxHeartbeats 1000000 in
theorem models18_any (w : World) : Calls Tryd.prog 36 #[] w fun e w' => ∃ v, e = .returned v ∧ Fl (fun k => k = w.heap.size) w' 7 encMd v mods2 ∧ Keep No w w' := by
  go_enter Tryd.func36, Tryd.ntmps36
  go_wp2_with fail
  have hkW : Keep No w (w.alloc (.cells #[.string ⟨#[97]⟩, .int .u64 1024, .int .u64 1024, .int .u64 1536, .bool false, .int .u64 0, .int .u64 0, .string ⟨#[98]⟩, .int .u64 2048, .int .u64 2048, .int .u64 2560, .bool false, .int .u64 0, .int .u64 0] 132)) := (Keep.refl _ _).alloc _
  have hBW : Blk (w.alloc (.cells #[.string ⟨#[97]⟩, .int .u64 1024, .int .u64 1024, .int .u64 1536, .bool false, .int .u64 0, .int .u64 0, .string ⟨#[98]⟩, .int .u64 2048, .int .u64 2048, .int .u64 2560, .bool false, .int .u64 0, .int .u64 0] 132)) w.heap.size #[.string ⟨#[97]⟩, .int .u64 1024, .int .u64 1024, .int .u64 1536, .bool false, .int .u64 0, .int .u64 0, .string ⟨#[98]⟩, .int .u64 2048, .int .u64 2048, .int .u64 2560, .bool false, .int .u64 0, .int .u64 0] 132 := Blk.new _ _ _
  have hzW : (w.alloc (.cells #[.string ⟨#[97]⟩, .int .u64 1024, .int .u64 1024, .int .u64 1536, .bool false, .int .u64 0, .int .u64 0, .string ⟨#[98]⟩, .int .u64 2048, .int .u64 2048, .int .u64 2560, .bool false, .int .u64 0, .int .u64 0] 132)).heap.size = w.heap.size + 1 := World.size_alloc _ _
  generalize w.alloc (.cells #[.string ⟨#[97]⟩, .int .u64 1024, .int .u64 1024, .int .u64 1536, .bool false, .int .u64 0, .int .u64 0, .string ⟨#[98]⟩, .int .u64 2048, .int .u64 2048, .int .u64 2560, .bool false, .int .u64 0, .int .u64 0] 132) = W at *
  go_ret
  refine ⟨_, rfl, ?_, hkW⟩
  exact Sl.mk rfl rfl hBW.lt (Nat.le_refl _) (by unfold maxLen; decide) fun j u hu => by rw [hBW.cell, Nat.zero_add]; rw [← List.getElem?_toArray] at hu; exact hu
set_option maxRecDepth 100000 in
set_option maxHeartbeats 4000000 in
theorem pages18_any (hS : SRep C w d m mb f) (hC : ∀ k, C k → k < w.heap.size) :
    Calls Tryd.prog 19 #[ptrTo d] w fun e w' => ∃ v', e = .returned (.agg #[v']) ∧ FlO w' w.heap.size 103 6 encT v' (m.map cleanR) ∧ Keep No w w' := by
  have hpa := fun W (hk : Keep No w W) => vpages_all (w := W) (hS.no hC hk) fun k hk2 => Nat.lt_of_lt_of_le (hC k hk2) hk.size
  have hok := hS.ok
  have HPA := Lib.hid hpa
  clear hpa hS
  unfold ptrTo at *
  go_enter Tryd.func19, Tryd.ntmps19
  go_wp2_with fail
  have hkW1 : Keep No w (w.alloc (.cells #[.slice none 0 0] 59)) := (Keep.refl _ _).alloc _
  have hBW1 : Blk (w.alloc (.cells #[.slice none 0 0] 59)) w.heap.size #[.slice none 0 0] 59 := Blk.new _ _ _
  have hzW1 : (w.alloc (.cells #[.slice none 0 0] 59)).heap.size = w.heap.size + 1 := World.size_alloc _ _
  generalize w.alloc (.cells #[.slice none 0 0] 59) = W1 at *
  have hkW2 : Keep No W1 (W1.alloc (.cells #[.slice none 0 0] 59)) := (Keep.refl _ _).alloc _
  have hBW2 : Blk (W1.alloc (.cells #[.slice none 0 0] 59)) W1.heap.size #[.slice none 0 0] 59 := Blk.new _ _ _
  have hzW2 : (W1.alloc (.cells #[.slice none 0 0] 59)).heap.size = W1.heap.size + 1 := World.size_alloc _ _
  generalize W1.alloc (.cells #[.slice none 0 0] 59) = W2 at *
  rw [hzW1] at hBW2 hzW2
  have b2 := hBW1.keep hkW2 fun h => h
  have b3 := hBW2
  have hkW : Keep No w W2 := hkW1.trans' hkW2
  have hz2 : W2.heap.size = w.heap.size + 2 := by omega
  clear hBW1 hBW2 hkW1 hkW2 hzW1 hzW2
  refine (HPA.out W2 hkW).mono ?_
  rintro e W3 ⟨v, gp, rfl, hpg, hk3⟩
  obtain ⟨h, hB, hpf, hpm⟩ := pgs_in hpg hok.pg
  have HB := Lib.hid hB
  have hkW3 := hkW.trans' hk3
  replace b2 := b2.keep hk3 fun h => h
  replace b3 := b3.keep hk3 fun h => h
  have hs3 := hk3.size
  obtain ⟨L, hL⟩ : ∃ L, L = m.map (rawP gp) := ⟨_, rfl⟩
  rw [← hL] at h HB
  have hl : L.length ≤ 512 := by rw [hL, List.length_map]; exact hok.len
  have hmr : m.map cleanR = L.map (fun x => cleanQ x.1) := by rw [hL, List.map_map]; rfl
  have HMR := Lib.hid hmr
  have hA : ∀ k, (W2.heap.size ≤ k ∧ k < W3.heap.size) → k < W3.heap.size := fun k hk => hk.2
  obtain ⟨av, cv, rfl, _, _⟩ := h.shape
  clear hB hpf hpm hpg hok HPA hmr hL
  go_wp2_with fail
  go_loopw [5] (fun iv wr => ∃ (i : Nat) (lv : Value), iv = .int .i64 i ∧ i ≤ L.length ∧ Blk wr w.heap.size #[.slice none 0 0] 59 ∧ Blk wr (w.heap.size + 1) #[lv] 59 ∧ FlO wr W3.heap.size 103 6 encT lv ((L.take i).map (fun x => cleanQ x.1)) ∧ Keep No w wr ∧ Keep (fun j => j = w.heap.size + 1) W3 wr) (fun iv _ => L.length - (intOf iv).toNat)
  case atStart => exact ⟨0, _, rfl, Nat.zero_le _, b2, b3, FlO.nil, hkW3, Keep.refl _ _⟩
  case round =>
    obtain ⟨i, lv, rfl, hi, hb2, hb3, ho, hk, hk4⟩ := hrel
    generalize wr = wz at *
    clear b2 b3
    obtain ⟨al, cl, rfl, _, _⟩ := ho.fl.shape
    have hil : ((L.take i).map (fun x => cleanQ x.1)).length = i := by rw [List.length_map, List.length_take]; omega
    rw [hil] at hb3 ho
    have q3 : wz.cell? ⟨w.heap.size + 1, 0, none⟩ = some (.slice al i cl) := hb3.cell 0
    have hf3 := hb3.frozen 0
    have hw2 : W3.heap.size ≤ wz.heap.size := hk4.size
    rcases Nat.lt_or_ge i L.length with hlt | hge
    · obtain ⟨g, off, cap, e, hAg, hgl, _, _, hc⟩ := (h.keep hk4 (fun j _ ha e => by have := ha.1; have e2 : j = w.heap.size + 1 := e; omega)).at encR_len hlt
      cases e
      have hiz : (i : Int) < (L.length : Int) := by omega
      have hbt := HB.out L[i] (List.getElem_mem hlt)
      have htk : (L.take (i + 1)).map (fun x => cleanQ x.1) = (L.take i).map (fun x => cleanQ x.1) ++ [cleanQ L[i].1] := by rw [List.take_succ_eq_append_getElem hlt, List.map_append]; rfl
      have HTK := Lib.hid htk
      clear htk
      generalize L[i] = x at *
      obtain ⟨r, bsl⟩ := x
      have hcva : ∀ W, Keep (fun j => W3.heap.size ≤ j) wz W → (convert 94 9 bsl).run Tryd.prog W = .ok (.string ⟨r.b.toArray⟩) W := fun W hkw => conv_str (Sl.keep (Sl.keep hbt hk4 fun j _ ha e => by have := ha.1; have e2 : j = w.heap.size + 1 := e; omega) hkw fun j _ hb h => by have := hb.2; omega)
      have HCV := Lib.hid hcva
      clear hcva
      have c0 : wz.cell? ⟨g, off + i * 6, none⟩ = some (.int .u64 (r.addr : Int)) := hc 0 _ rfl
      have c1 : wz.cell? ⟨g, off + i * 6 + 1, none⟩ = some (.int .i64 r.prot) := hc 1 _ rfl
      have c5 : wz.cell? ⟨g, off + i * 6 + 5, none⟩ = some bsl := hc 5 _ rfl
      clear hc hbt
      have hgA : ¬ (W3.heap.size ≤ g) := by have := hAg.2; omega
      have hgB : ¬ (W3.heap.size ≤ w.heap.size + 1) := by omega
      have hgC : ¬ (W3.heap.size ≤ w.heap.size) := by omega
      have hkd : Keep No wz wz.drew := (Keep.refl No wz).drew
      have hkdX : Keep (fun j => W3.heap.size ≤ j) wz wz.drew := (Keep.refl _ wz).drew
      have hcvd := HCV.out wz.drew hkdX
      go_wp2_with fail
      refine wp_region_sig (fun w' => w'.cell? ⟨w.heap.size + 1, 0, none⟩ = some (.slice al i cl) ∧ w'.cell? ⟨g, off + i * 6, none⟩ = some (.int .u64 (r.addr : Int)) ∧ w'.cell? ⟨g, off + i * 6 + 1, none⟩ = some (.int .i64 r.prot) ∧ w'.cell? ⟨g, off + i * 6 + 5, none⟩ = some bsl ∧ (convert 94 9 bsl).run Tryd.prog w' = .ok (.string ⟨r.b.toArray⟩) w') (fun j => decide (j ≤ 21)) [(0, true), (1, true), (2, true), (3, true), (4, true), (5, true), (6, true), (7, true), (8, true), (9, true), (10, true), (11, true), (12, true), (13, true), (14, true), (15, true), (16, true), (17, true), (18, true), (19, false), (20, false), (21, true), (22, false)] (by kernel_rfl) (by kernel_rfl) (by intro c a d v w h; cases d <;> exact h) ⟨q3, c0, c1, c5, hcvd⟩ ?_
      apply sig_still (o := ⟨some 14, _, _, _, _, _⟩) rfl rfl
      · intro w' hS
        obtain ⟨q1, q2, q3, q4, q5⟩ := hS
        first | (go_simp; done) | (go_simp; rfl) | rfl
      go_frame
      apply sig_still (o := ⟨some 15, _, _, _, _, _⟩) rfl rfl
      · intro w' hS
        obtain ⟨q1, q2, q3, q4, q5⟩ := hS
        first | (go_simp; done) | (go_simp; rfl) | rfl
      go_frame
      apply sig_still (o := ⟨some 16, _, _, _, _, _⟩) rfl rfl
      · intro w' hS
        obtain ⟨q1, q2, q3, q4, q5⟩ := hS
        first | (go_simp; done) | (go_simp; rfl) | rfl
      go_frame
      apply sig_still (o := ⟨some 17, _, _, _, _, _⟩) rfl rfl
      · intro w' hS
        obtain ⟨q1, q2, q3, q4, q5⟩ := hS
        first | (go_simp; done) | (go_simp; rfl) | rfl
      go_frame
      apply sig_still (o := ⟨some 18, _, _, _, _, _⟩) rfl rfl
      · intro w' hS
        obtain ⟨q1, q2, q3, q4, q5⟩ := hS
        first | (go_simp; done) | (go_simp; rfl) | rfl
      go_frame
      apply sig_still (o := ⟨some 19, _, _, _, _, _⟩) rfl rfl
      · intro w' hS
        obtain ⟨q1, q2, q3, q4, q5⟩ := hS
        first | (go_simp; done) | (go_simp; rfl) | rfl
      go_frame
      apply sig_still (o := ⟨some 20, _, _, _, _, _⟩) rfl rfl
      · intro w' hS
        obtain ⟨q1, q2, q3, q4, q5⟩ := hS
        first | (go_simp; done) | (go_simp; rfl) | rfl
      go_frame
      apply sig_still (o := ⟨some 21, _, _, _, _, _⟩) rfl rfl
      · intro w' hS
        obtain ⟨q1, q2, q3, q4, q5⟩ := hS
        first | (go_simp; done) | (go_simp; rfl) | rfl
      go_frame
      apply sig_still (o := ⟨some 22, _, _, _, _, _⟩) rfl rfl
      · intro w' hS
        obtain ⟨q1, q2, q3, q4, q5⟩ := hS
        first | (go_simp; done) | (go_simp; rfl) | rfl
      go_frame
      apply sig_still (o := ⟨some 23, _, _, _, _, _⟩) rfl rfl
      · intro w' hS
        obtain ⟨q1, q2, q3, q4, q5⟩ := hS
        first | (go_simp; done) | (go_simp; rfl) | rfl
      go_frame
      apply sig_still (o := ⟨some 24, _, _, _, _, _⟩) rfl rfl
      · intro w' hS
        obtain ⟨q1, q2, q3, q4, q5⟩ := hS
        first | (go_simp; done) | (go_simp; rfl) | rfl
      go_frame
      apply sig_still (o := ⟨some 25, _, _, _, _, _⟩) rfl rfl
      · intro w' hS
        obtain ⟨q1, q2, q3, q4, q5⟩ := hS
        first | (go_simp; done) | (go_simp; rfl) | rfl
      go_frame
      apply sig_still (o := ⟨some 26, _, _, _, _, _⟩) rfl rfl
      · intro w' hS
        obtain ⟨q1, q2, q3, q4, q5⟩ := hS
        first | (go_simp; done) | (go_simp; rfl) | rfl
      go_frame
      apply sig_still (o := ⟨some 27, _, _, _, _, _⟩) rfl rfl
      · intro w' hS
        obtain ⟨q1, q2, q3, q4, q5⟩ := hS
        first | (go_simp; done) | (go_simp; rfl) | rfl
      go_frame
      apply sig_still (o := ⟨some 28, _, _, _, _, _⟩) rfl rfl
      · intro w' hS
        obtain ⟨q1, q2, q3, q4, q5⟩ := hS
        first | (go_simp; done) | (go_simp; rfl) | rfl
      go_frame
      apply sig_still (o := ⟨some 29, _, _, _, _, _⟩) rfl rfl
      · intro w' hS
        obtain ⟨q1, q2, q3, q4, q5⟩ := hS
        first | (go_simp; done) | (go_simp; rfl) | rfl
      go_frame
      apply sig_still (o := ⟨some 30, _, _, _, _, _⟩) rfl rfl
      · intro w' hS
        obtain ⟨q1, q2, q3, q4, q5⟩ := hS
        first | (go_simp; done) | (go_simp; rfl) | rfl
      go_frame
      apply sig_still (o := ⟨some 31, _, _, _, _, _⟩) rfl rfl
      · intro w' hS
        obtain ⟨q1, q2, q3, q4, q5⟩ := hS
        first | (go_simp; done) | (go_simp; rfl) | rfl
      go_frame
      apply sig_still (o := ⟨some 32, _, _, _, _, _⟩) rfl rfl
      · intro w' hS
        obtain ⟨q1, q2, q3, q4, q5⟩ := hS
        first | (go_simp; done) | (go_simp; rfl) | rfl
      go_frame
      refine sig_eff (o := ⟨some 33, _, _, _, _, _⟩) rfl rfl (fun K hKe => ?_)
      have hka : Keep (fun j => W3.heap.size ≤ j) wz (wz.drew.alloc (.cells #[.int .u64 (r.addr : Int), .int .i64 r.prot, .bool false, .string ⟨#[]⟩, .int .u64 0, .string ⟨r.b.toArray⟩] 103)) := hkdX.alloc _
      have hcv2 := HCV.out _ hka
      have q3x : ((wz.drew.alloc (.cells #[.int .u64 (r.addr : Int), .int .i64 r.prot, .bool false, .string ⟨#[]⟩, .int .u64 0, .string ⟨r.b.toArray⟩] 103))).cell? ⟨w.heap.size + 1, 0, none⟩ = _ := ((hka).cell (p := ⟨w.heap.size + 1, 0, none⟩) hb3.lt hgB).trans q3
      have c0x : ((wz.drew.alloc (.cells #[.int .u64 (r.addr : Int), .int .i64 r.prot, .bool false, .string ⟨#[]⟩, .int .u64 0, .string ⟨r.b.toArray⟩] 103))).cell? ⟨g, off + i * 6, none⟩ = _ := ((hka).cell (p := ⟨g, off + i * 6, none⟩) hgl hgA).trans c0
      have c1x : ((wz.drew.alloc (.cells #[.int .u64 (r.addr : Int), .int .i64 r.prot, .bool false, .string ⟨#[]⟩, .int .u64 0, .string ⟨r.b.toArray⟩] 103))).cell? ⟨g, off + i * 6 + 1, none⟩ = _ := ((hka).cell (p := ⟨g, off + i * 6 + 1, none⟩) hgl hgA).trans c1
      have c5x : ((wz.drew.alloc (.cells #[.int .u64 (r.addr : Int), .int .i64 r.prot, .bool false, .string ⟨#[]⟩, .int .u64 0, .string ⟨r.b.toArray⟩] 103))).cell? ⟨g, off + i * 6 + 5, none⟩ = _ := ((hka).cell (p := ⟨g, off + i * 6 + 5, none⟩) hgl hgA).trans c5
      go_wp2_with fail
      refine ⟨fun _ => ⟨q3x, c0x, c1x, c5x, hcv2⟩, ?_⟩
      refine sig_eff (o := ⟨some 34, _, _, _, _, _⟩) rfl rfl (fun K hKe => ?_)
      refine wo_append (.tmp 15) (.tmp 33) 57 57 rfl _ _ rfl rfl ?_
      refine rg_push (w := wz.drew) (cs := #[.int .u64 (r.addr : Int), .int .i64 r.prot, .bool false, .string ⟨#[]⟩, .int .u64 0, .string ⟨r.b.toArray⟩]) (enc := encT) (x := cleanQ r) (l := (L.take i).map (fun x => cleanQ x.1)) (base := W3.heap.size) _ 64 Tryd.underlying57 rvP_info rfl (by decide) rfl rfl (encT_one _) (by exact ho.no hkd) (by rw [hil]; omega) (by decide) (by show W3.heap.size ≤ wz.heap.size; omega) ?_
      intro lv2 w2 ho2 hk2 _
      have hkN : Keep (fun j => W3.heap.size ≤ j) wz w2 := hkdX.trans hk2 fun j _ hj => by
        have h1 := (World.ownsRow.lt ho j hj.symm).1
        omega
      have hcv3 := HCV.out _ hkN
      have q3y : (w2).cell? ⟨w.heap.size + 1, 0, none⟩ = _ := ((hkN).cell (p := ⟨w.heap.size + 1, 0, none⟩) hb3.lt hgB).trans q3
      have c0y : (w2).cell? ⟨g, off + i * 6, none⟩ = _ := ((hkN).cell (p := ⟨g, off + i * 6, none⟩) hgl hgA).trans c0
      have c1y : (w2).cell? ⟨g, off + i * 6 + 1, none⟩ = _ := ((hkN).cell (p := ⟨g, off + i * 6 + 1, none⟩) hgl hgA).trans c1
      have c5y : (w2).cell? ⟨g, off + i * 6 + 5, none⟩ = _ := ((hkN).cell (p := ⟨g, off + i * 6 + 5, none⟩) hgl hgA).trans c5
      have hb3y := hb3.keep hkN hgB
      have hf3y := hb3y.frozen 0
      have hb2y := hb2.keep hkN hgC
      obtain ⟨a2, c2', rfl, _, _⟩ := ho2.fl.shape
      have hil2 : ((L.take i).map (fun x => cleanQ x.1) ++ [cleanQ r]).length = i + 1 := by rw [List.length_append, hil]; rfl
      rw [hil2] at ho2 ⊢
      refine hKe _ _ ⟨fun _ => ⟨q3y, c0y, c1y, c5y, hcv3⟩, ?_⟩
      apply sig_still (o := ⟨some 35, _, _, _, _, _⟩) rfl rfl
      · intro w' hS
        obtain ⟨q1, q2, q3, q4, q5⟩ := hS
        first | (go_simp; done) | (go_simp; rfl) | rfl
      go_frame
      refine sig_eff (o := ⟨none, _, _, _, _, _⟩) rfl rfl (fun K hKe => ?_)
      go_wp2_with fail
      refine ⟨fun h => by simp at h, sig_nil ?_⟩
      go_wp2_with fail
      go_roundw
      case rel =>
        have h3 := hb3y.set (i := 0) (.slice a2 (i + 1) c2')
        rw [← HTK.out] at ho2
        have hkS := (Keep.refl (fun j => j = w.heap.size + 1) w2).setCell (p := ⟨w.heap.size + 1, 0, none⟩) (fun _ => rfl) (.slice a2 (i + 1) c2')
        refine ⟨i + 1, .slice a2 (i + 1) c2', by go_num, hlt, ?_, ?_, ?_, ?_, ?_⟩
        · exact hb2y.keep hkS (by omega)
        · exact h3
        · exact FlO.same ho2 fun g hg => hkS.block g (World.ownsRow.lt ho2 g hg).2 fun e => by
            have h1 := (World.ownsRow.lt ho2 g hg).1
            have e2 : g = w.heap.size + 1 := e
            omega
        · exact (hk.trans hkN fun j hj h => absurd hj (by have e2 : W3.heap.size ≤ j := h; omega)).trans hkS fun j hj e => absurd hj (by have e2 : j = w.heap.size + 1 := e; omega)
        · exact (hk4.trans hkN fun j hj h => absurd hj (by have e2 : W3.heap.size ≤ j := h; omega)).trans hkS fun j hj e => e
      case measure => simp [intOf]; omega
    · obtain rfl : i = L.length := Nat.le_antisymm hi hge
      rw [List.take_length] at ho
      have HMR2 := HMR.out
      go_wp2_with (with_reducible refine wl_stAgg rfl _ _ _ rfl _ _ rfl rfl ?_)
      refine rg_stAgg hb2 (by kernel_rfl) (by rfl) (by simp [Value.oneCell']) ?_
      intro wy hby hky hsy
      go_wp2_with fail
      refine ret_blk rfl rfl hby Tryd.underlying59 rfl (by kernel_rfl) rfl ?_
      rw [HMR2]
      refine ⟨_, rfl, World.ownsRow.base_le (FlO.same ho fun g hg => hky.block g (World.ownsRow.lt ho g hg).2 fun e => ?_) (by omega), hk.trans hky fun j hj e => absurd hj (by have e2 : j = w.heap.size := e; omega)⟩
      have h1 := (World.ownsRow.lt ho g hg).1
      have e2 : g = w.heap.size := e
      omega
end
end Go.Proofs.YthfekjnekaecaaaDoor
