/- segs: within, Check. segs: Get, Table, Place. segs: Place. No condition. -/
import Derived.Test.YtbnahidopemkiaaGreatSg2
import Derived.Test.YtbnahidopemkiaaGreatSigT
set_option linter.unusedVariables false
set_option linter.unusedSimpArgs false
namespace Go.Dm.Ld
open Go Go.Dm.Oc
theorem one_ok {s : Sg} {size : Nat} (h : oneE s size = 0) (h0 : s.ty ≠ 0) : s.off ≤ size ∧ s.fi ≤ size - s.off ∧ s.fi ≤ s.me ∧ s.va ≤ 4294967296 ∧ s.me ≤ 4294967296 - s.va := by
  unfold oneE at h
  repeat' split at h
  all_goals first
    | (exfalso; exact absurd h (by decide))
    | omega
theorem find_any (l : List Sg) (k : Nat) : (findM l k).isSome = l.any fun x => x.ty == k := by
  unfold findM
  rw [Bool.eq_iff_iff, List.find?_isSome, List.any_eq_true]
end Go.Dm.Ld
namespace Go.Proofs.YtbnahidopemkiaaGreat
open Go.RowKit Go.Dm Go.Dm.Oc Go.Dm.Ld
theorem joinG {G T : Prop} (k : Hid T → G) (t : T) : G := k t
section
variable {A : Nat → Prop} {w : World}
/-- the part of a slice up to a place -/
theorem fl_upto {α : Type} {k : Nat} {enc : α → List Value} {a : Option Addr} {c n : Nat} {l : List α} (hl : Fl A w k enc (.slice a n c) l) (hk : ∀ x, (enc x).length = k) {i : Nat} (hi : i ≤ l.length) : Fl A w k enc (.slice a i c) (l.take i) := by
  obtain ⟨h1, a', cap, e, h2, h3, h4, h5⟩ := hl
  cases e
  have hlen : (l.take i).length = i := by rw [List.length_take]; omega
  unfold Fl
  rw [hlen]
  have hfl : ∀ m : List α, (m.flatMap enc).length = m.length * k := by
    intro m
    rw [List.flatMap_def, flatten_len (n := k) (by
      intro c hc
      obtain ⟨x, _, rfl⟩ := List.mem_map.1 hc
      exact hk x), List.length_map]
  refine ⟨by rw [hfl, hlen], a, c, rfl, by omega, h3, h4, fun hpos => ?_⟩
  obtain ⟨g, off, e, hA, hg, hr⟩ := h5 (by omega)
  refine ⟨g, off, e, hA, hg, fun j u hu => hr j u ?_⟩
  obtain ⟨hjl, _⟩ := List.getElem?_eq_some_iff.1 hu
  have e2 : l.flatMap enc = (l.take i).flatMap enc ++ (l.drop i).flatMap enc := by rw [← List.flatMap_append, List.take_append_drop]
  rw [e2, List.getElem?_append_left hjl]
  exact hu
set_option maxRecDepth 100000 in
set_option maxHeartbeats 2000000 in
theorem sgwithin_any {v : Value} (l : List Sg) (s : Sg) (hl : Fl A w 7 encSg v l) (hok : ∀ x ∈ l, SgOk x) (hs : SgOk s) :
    Calls Tryz.prog 117 #[v, .agg (encSg s).toArray] w fun e w' => e = .returned (.bool (withinB l s)) ∧ Keep No w w' := by
  have HL := Lib.hid hl
  have HW : Hid (withinB l s = (decide (s.fi = 0) || l.any fun x => liesB x s)) := Lib.hid rfl
  have hcl : ∀ wr : World, ∀ q : Nat, q < wr.heap.size → (∀ j u, (encSg s)[j]? = some u → wr.cell? ⟨q, j, none⟩ = some u) → ∀ x ∈ l, ∀ wz, Keep No wr wz → Calls Tryz.prog 134 (#[.agg (encSg x).toArray] ++ #[.pointer (some ⟨q, 0, none⟩)]) wz fun e w' => e = .returned (.bool (liesB x s)) ∧ Keep No wz w' := by
    intro wr q hq hc x hx wz hk
    exact sgwithin1_any x s q (hok x hx) hs (fun j u hu => (hk.cell (p := ⟨q, j, none⟩) hq fun h => h).trans (hc j u hu)) (Nat.lt_of_lt_of_le hq hk.size)
  obtain ⟨ao, co, rfl, hc1, hc2⟩ := hl.shape
  clear hl
  have HC := Lib.hid hcl
  clear hcl
  obtain ⟨x0, x1, x2, x3, x4, x5, x6⟩ := s
  unfold encSg at *
  dsimp only at *
  rcases Nat.eq_zero_or_pos x4 with rfl | hpos
  · go_enter Tryz.func117, Tryz.ntmps117
    go_wp2_with fail
    go_ret
    rw [HW.out]
    exact ⟨rfl, (Keep.refl _ _).alloc _⟩
  · have hne : ((x4 : Int) == 0) = false := by rw [beq_eq_false_iff_ne]; omega
    have hd : decide (x4 = 0) = false := by rw [decide_eq_false_iff_not]; omega
    go_enter Tryz.func117, Tryz.ntmps117
    go_wp2_with fail
    have hkW : Keep No w (w.alloc (.cells #[.int .u32 (x0 : Int), .int .u32 (x1 : Int), .int .u64 (x2 : Int), .int .u64 (x3 : Int), .int .u64 (x4 : Int), .int .u64 (x5 : Int), .int .u64 (x6 : Int)] 113)) := (Keep.refl _ _).alloc _
    have hBW : Blk (w.alloc (.cells #[.int .u32 (x0 : Int), .int .u32 (x1 : Int), .int .u64 (x2 : Int), .int .u64 (x3 : Int), .int .u64 (x4 : Int), .int .u64 (x5 : Int), .int .u64 (x6 : Int)] 113)) w.heap.size #[.int .u32 (x0 : Int), .int .u32 (x1 : Int), .int .u64 (x2 : Int), .int .u64 (x3 : Int), .int .u64 (x4 : Int), .int .u64 (x5 : Int), .int .u64 (x6 : Int)] 113 := Blk.new _ _ _
    have hzW : (w.alloc (.cells #[.int .u32 (x0 : Int), .int .u32 (x1 : Int), .int .u64 (x2 : Int), .int .u64 (x3 : Int), .int .u64 (x4 : Int), .int .u64 (x5 : Int), .int .u64 (x6 : Int)] 113)).heap.size = w.heap.size + 1 := World.size_alloc _ _
    generalize w.alloc (.cells #[.int .u32 (x0 : Int), .int .u32 (x1 : Int), .int .u64 (x2 : Int), .int .u64 (x3 : Int), .int .u64 (x4 : Int), .int .u64 (x5 : Int), .int .u64 (x6 : Int)] 113) = W at *
    refine (hasSg_any (w := W) l 134 #[.pointer (some ⟨w.heap.size, 0, none⟩)] (fun x => liesB x ⟨x0, x1, x2, x3, x4, x5, x6⟩) (HL.out.no hkW) (fun a w => by kernel_rfl) (HC.out W w.heap.size hBW.lt (fun j u hu => by rw [hBW.cell, List.getElem?_toArray]; exact hu))).mono ?_
    rintro e w2 ⟨rfl, hk2⟩
    generalize hb : (l.any fun x => liesB x ⟨x0, x1, x2, x3, x4, x5, x6⟩) = b at *
    go_wp2_with fail
    go_ret
    rw [HW.out, hd]
    exact ⟨rfl, hkW.trans' hk2⟩
set_option maxRecDepth 100000 in
set_option maxHeartbeats 4000000 in
theorem sgcheck_any {v : Value} (l : List Sg) (size : Nat) (hl : Fl A w 7 encSg v l) (hok : ∀ x ∈ l, SgOk x) (hz : size < 18446744073709551616) :
    Calls Tryz.prog 82 #[v, .int .u64 (size : Int)] w fun e w' => e = .returned (.int .i64 (chkE l size : Nat)) ∧ Keep No w w' := by
  have HL := Lib.hid hl
  obtain ⟨ao, co, rfl, hc1, hc2⟩ := hl.shape
  have hlen : l.length ≤ 9223372036854775807 := by unfold maxLen at hc2; omega
  clear hl hc1 hc2
  have HR : Hid (chkE l size = if chkA size [] 0 l ≠ 0 then chkA size [] 0 l else if l.any (fun s => singleB s && !withinB l s) then 11 else 0) := Lib.hid rfl
  have HS : ∀ P : Nat → Prop, P (chkE l size) → P (chkE l size) := fun _ h => h
  clear HS
  go_enter Tryz.func82, Tryz.ntmps82
  go_wp2_with fail
  go_loopw [5, 17] (fun bv iv wr => ∃ (i b : Nat), iv = .int .i64 i ∧ bv = .int .u64 (b : Int) ∧ i ≤ l.length ∧ chkA size (l.take i) b (l.drop i) = chkA size [] 0 l ∧ Keep No w wr) (fun _ iv _ => l.length - (intOf iv).toNat)
  case atStart => exact ⟨0, 0, rfl, rfl, Nat.zero_le _, rfl, Keep.refl _ _⟩
  case round =>
    obtain ⟨i, b, rfl, rfl, hi, hA, hk⟩ := hrel
    generalize wr = wz at *
    rcases Nat.lt_or_ge i l.length with hlt | hge
    · obtain ⟨g1, off, cap, ev, _, hg1, _, _, hc⟩ := (HL.out.no hk).at encSg_len hlt
      cases ev
      have hiz : (i : Int) < (l.length : Int) := by omega
      have hsok := hok l[i] (List.getElem_mem hlt)
      have hcons : l.drop i = l[i] :: l.drop (i + 1) := List.drop_eq_getElem_cons hlt
      have htk : l.take (i + 1) = l.take i ++ [l[i]] := by rw [List.take_succ_eq_append_getElem hlt]
      rw [hcons] at hA
      have hH : chkA size (l.take i) b (l[i] :: l.drop (i + 1)) = (if oneE l[i] size ≠ 0 then oneE l[i] size
          else if singleB l[i] = true ∧ (l.take i).any (fun x => x.ty == l[i].ty) = true then 12
          else if l[i].ty = 1 then (if firstM l[i] < b then 12 else chkA size (l.take (i + 1)) (lastM l[i]) (l.drop (i + 1)))
          else chkA size (l.take (i + 1)) b (l.drop (i + 1))) := by
        rw [htk]
        rfl
      rw [hH] at hA
      have HA := Lib.hid hA
      clear hA hH htk hcons
      have hone := fun w => sgone_any (w := w) l[i] size hsok hz
      have hsing := fun w => sgsingle_any (w := w) l[i] hsok
      have hpg := fun w => sgpages_any (w := w) l[i] hsok
      have h1ok := one_ok (s := l[i]) (size := size)
      have c0 := hc 0 _ rfl
      have c1 := hc 1 _ rfl
      have c2 := hc 2 _ rfl
      have c3 := hc 3 _ rfl
      have c4 := hc 4 _ rfl
      have c5 := hc 5 _ rfl
      have c6 := hc 6 _ rfl
      rw [Nat.add_zero] at c0
      clear hc
      generalize hsv : l[i] = s at *
      clear hsv
      have hfind : ∀ W, Keep No w W → Calls Tryz.prog 47 #[.slice (some ⟨g1, off, none⟩) i co, .int .u32 (s.ty : Int)] W fun e w' => e = .returned (.tuple #[.agg (encSg (sgD (findM (l.take i) s.ty))).toArray, .bool (findM (l.take i) s.ty).isSome]) ∧ Keep No W w' := fun W hk => sgfind_any (l.take i) s.ty (fl_upto (HL.out.no hk) encSg_len hi)
      have hf1 : (encSg (sgD (findM (l.take i) s.ty))).toArray.size = 7 := rfl
      have hf2 : (encSg (sgD (findM (l.take i) s.ty))).toArray.all (·.oneCell') = true := by simp [encSg, Value.oneCell']
      have hany : (findM (l.take i) s.ty).isSome = (l.take i).any fun x => x.ty == s.ty := find_any _ _
      have hcs : (encSg s).toArray = #[.int .u32 (s.ty : Int), .int .u32 (s.fl : Int), .int .u64 (s.off : Int), .int .u64 (s.va : Int), .int .u64 (s.fi : Int), .int .u64 (s.me : Int), .int .u64 (s.al : Int)] := rfl
      generalize hE : oneE s size = E at *
      generalize hS : singleB s = sb at *
      generalize hfm : firstM s = fm at *
      generalize hlm : lastM s = lm at *
      rw [hcs] at hone hsing hpg
      generalize s.ty = x0 at *
      generalize s.fl = x1 at *
      generalize s.off = x2 at *
      generalize s.va = x3 at *
      generalize s.fi = x4 at *
      generalize s.me = x5 at *
      generalize s.al = x6 at *
      clear hE hS hfm hlm hcs hsok
      rw [← hany] at HA
      generalize (findM (l.take i) x0).isSome = tw at *
      generalize (encSg (sgD (findM (l.take i) x0))).toArray = fc at *
      clear hany
      have HF := Lib.hid hfind
      have HS := Lib.hid hsing
      have HP := Lib.hid hpg
      clear hfind hsing hpg
      go_wp2_with fail
      have hkW : Keep No wz (wz.alloc (.cells #[.int .u32 (x0 : Int), .int .u32 (x1 : Int), .int .u64 (x2 : Int), .int .u64 (x3 : Int), .int .u64 (x4 : Int), .int .u64 (x5 : Int), .int .u64 (x6 : Int)] 113)) := (Keep.refl _ _).alloc _
      have hBW : Blk (wz.alloc (.cells #[.int .u32 (x0 : Int), .int .u32 (x1 : Int), .int .u64 (x2 : Int), .int .u64 (x3 : Int), .int .u64 (x4 : Int), .int .u64 (x5 : Int), .int .u64 (x6 : Int)] 113)) wz.heap.size #[.int .u32 (x0 : Int), .int .u32 (x1 : Int), .int .u64 (x2 : Int), .int .u64 (x3 : Int), .int .u64 (x4 : Int), .int .u64 (x5 : Int), .int .u64 (x6 : Int)] 113 := Blk.new _ _ _
      have hzW : (wz.alloc (.cells #[.int .u32 (x0 : Int), .int .u32 (x1 : Int), .int .u64 (x2 : Int), .int .u64 (x3 : Int), .int .u64 (x4 : Int), .int .u64 (x5 : Int), .int .u64 (x6 : Int)] 113)).heap.size = wz.heap.size + 1 := World.size_alloc _ _
      generalize wz.alloc (.cells #[.int .u32 (x0 : Int), .int .u32 (x1 : Int), .int .u64 (x2 : Int), .int .u64 (x3 : Int), .int .u64 (x4 : Int), .int .u64 (x5 : Int), .int .u64 (x6 : Int)] 113) = W at *
      refine (hone W).mono ?_
      clear hone
      rintro e w1 ⟨rfl, hk1⟩
      have hB1 := hBW.keep hk1 fun h => h
      have hkw1 : Keep No w w1 := (hk.trans' hkW).trans' hk1
      have hsz1 : wz.heap.size < w1.heap.size := hB1.lt
      clear c0 c1 c2 c3 c4 c5 c6 hBW
      by_cases hE0 : E = 0
      · subst hE0
        have HA2 := Lib.hid ((if_neg (by decide)).symm.trans HA.out)
        clear HA
        have hd0 := hB1.cell 0
        have hd1 := hB1.cell 1
        have hic : i ≤ co := by omega
        go_wp2_with fail
        apply joinG
        · intro HJ
          refine wp_region_tree (fun w' => w'.cell? ⟨wz.heap.size, 0, none⟩ = some (.int .u32 (x0 : Int)) ∧ w'.cell? ⟨wz.heap.size, 1, none⟩ = some (.int .u32 (x1 : Int))) (fun j => decide (j ≤ 99)) (.st 0 (.st 1 (.st 2 (.st 3 (.st 4 (.br 5 9 (.st 6 (.st 7 (.st 8 (.ef 9 (.ef 10 (.st 11 .nil)))))) (.ef 5 (.st 6 (.st 7 (.st 8 (.ef 10 (.st 11 .nil)))))))))))) (by kernel_rfl) (by kernel_rfl) (by intro c a d v w h; cases d <;> exact h) ⟨hd0, hd1⟩ ?_
          apply tr_still (o := ⟨some 29, _, _, _, _, _⟩) rfl rfl
          · intro w' hS
            obtain ⟨q1, q2⟩ := hS
            first | (go_simp; done) | (go_simp; rfl) | rfl
          go_frame
          apply tr_still (o := ⟨some 30, _, _, _, _, _⟩) rfl rfl
          · intro w' hS
            obtain ⟨q1, q2⟩ := hS
            first | (go_simp; done) | (go_simp; rfl) | rfl
          go_frame
          apply tr_still (o := ⟨some 31, _, _, _, _, _⟩) rfl rfl
          · intro w' hS
            obtain ⟨q1, q2⟩ := hS
            first | (go_simp; done) | (go_simp; rfl) | rfl
          go_frame
          apply tr_still (o := ⟨some 32, _, _, _, _, _⟩) rfl rfl
          · intro w' hS
            obtain ⟨q1, q2⟩ := hS
            first | (go_simp; done) | (go_simp; rfl) | rfl
          go_frame
          apply tr_still (o := ⟨some 33, _, _, _, _, _⟩) rfl rfl
          · intro w' hS
            obtain ⟨q1, q2⟩ := hS
            first | (go_simp; done) | (go_simp; rfl) | rfl
          go_frame
          refine tr_br (o := ⟨some 34, _, _, _, _, _⟩) (o' := ⟨some 9, _, _, _, _, _⟩) rfl rfl rfl rfl (fun K hKe => ?_) (fun K hKe => ?_)
          · go_wp2_with fail
            refine (HF.out _ hkw1.drew).mono ?_
            rintro e w2 ⟨rfl, hk2⟩
            have hk12 : Keep No w1 w2 := (Keep.refl No w1).drew.trans' hk2
            have hB2 := hB1.keep hk12 fun h => h
            refine hKe _ _ ⟨fun _ => ⟨hB2.cell 0, hB2.cell 1⟩, ?_⟩
            apply tr_still (o := ⟨some 28, _, _, _, _, _⟩) rfl rfl
            · intro w' hS
              obtain ⟨q1, q2⟩ := hS
              first | (go_simp; done) | (go_simp; rfl) | rfl
            go_frame
            apply tr_still (o := ⟨some 35, _, _, _, _, _⟩) rfl rfl
            · intro w' hS
              obtain ⟨q1, q2⟩ := hS
              first | (go_simp; done) | (go_simp; rfl) | rfl
            go_frame
            apply tr_still (o := ⟨some 36, _, _, _, _, _⟩) rfl rfl
            · intro w' hS
              obtain ⟨q1, q2⟩ := hS
              first | (go_simp; done) | (go_simp; rfl) | rfl
            go_frame
            refine tr_eff (o := ⟨some 9, _, _, _, _, _⟩) rfl rfl (fun K hKe => ?_)
            go_wp2_with fail
            have hkw3 : Keep No w2 (w2.alloc (.cells #[.int .u32 0, .int .u32 0, .int .u64 0, .int .u64 0, .int .u64 0, .int .u64 0, .int .u64 0] 113)) := (Keep.refl _ _).alloc _
            have hBw3 : Blk (w2.alloc (.cells #[.int .u32 0, .int .u32 0, .int .u64 0, .int .u64 0, .int .u64 0, .int .u64 0, .int .u64 0] 113)) w2.heap.size #[.int .u32 0, .int .u32 0, .int .u64 0, .int .u64 0, .int .u64 0, .int .u64 0, .int .u64 0] 113 := Blk.new _ _ _
            have hzw3 : (w2.alloc (.cells #[.int .u32 0, .int .u32 0, .int .u64 0, .int .u64 0, .int .u64 0, .int .u64 0, .int .u64 0] 113)).heap.size = w2.heap.size + 1 := World.size_alloc _ _
            generalize w2.alloc (.cells #[.int .u32 0, .int .u32 0, .int .u64 0, .int .u64 0, .int .u64 0, .int .u64 0, .int .u64 0] 113) = w3 at *
            have hB3 := hB2.keep hkw3 fun h => h
            refine ⟨fun _ => ⟨hB3.cell 0, hB3.cell 1⟩, ?_⟩
            refine tr_eff (o := ⟨none, _, _, _, _, _⟩) rfl rfl (fun K hKe => ?_)
            refine wo_stAgg (.tmp 9) (.tmp 35) 113 rfl _ _ rfl rfl ?_
            refine rg_stAgg hBw3 (by rw [hf1]; kernel_rfl) (by rw [hf1]; rfl) hf2 ?_
            intro wf hBf hkf hzf
            have hne : wz.heap.size ≠ w2.heap.size := Nat.ne_of_lt hB2.lt
            have hBF := hB3.keep hkf fun e => hne e
            have hkF : Keep No w wf := (hkw1.trans' (hk12.trans' hkw3)).trans hkf fun j hj e => by
              have e2 : j = w2.heap.size := e
              have := (hkw1.trans' hk12).size
              omega
            refine hKe _ _ ⟨fun _ => ⟨hBF.cell 0, hBF.cell 1⟩, ?_⟩
            apply tr_still (o := ⟨some 10, _, _, _, _, _⟩) rfl rfl
            · intro w' hS
              obtain ⟨q1, q2⟩ := hS
              first | (go_simp; done) | (go_simp; rfl) | rfl
            go_frame
            apply tr_nil
            obtain ⟨gg, hgg⟩ : ∃ g, g = w2.heap.size := ⟨_, rfl⟩
            rw [← hgg]
            clear hgg hkf hzf hBf hKe
            revert hkF hBF
            revert gg wf
            exact HJ.out
          · go_wp2_with fail
            have hk1a : Keep No w1 (w1.alloc (.cells #[.int .u32 0, .int .u32 0, .int .u64 0, .int .u64 0, .int .u64 0, .int .u64 0, .int .u64 0] 113)).drew := ((Keep.refl No w1).alloc _).drew
            have hBa : Blk (w1.alloc (.cells #[.int .u32 0, .int .u32 0, .int .u64 0, .int .u64 0, .int .u64 0, .int .u64 0, .int .u64 0] 113)).drew w1.heap.size #[.int .u32 0, .int .u32 0, .int .u64 0, .int .u64 0, .int .u64 0, .int .u64 0, .int .u64 0] 113 := (Blk.new w1 _ _).keep (Keep.refl No _).drew fun h => h
            generalize (w1.alloc (.cells #[.int .u32 0, .int .u32 0, .int .u64 0, .int .u64 0, .int .u64 0, .int .u64 0, .int .u64 0] 113)).drew = wa at *
            have hB2 := hB1.keep hk1a fun h => h
            refine ⟨fun _ => ⟨hB2.cell 0, hB2.cell 1⟩, ?_⟩
            refine tr_eff (o := ⟨some 34, _, _, _, _, _⟩) rfl rfl (fun K hKe => ?_)
            go_wp2_with fail
            refine (HF.out _ (hkw1.trans' hk1a)).mono ?_
            rintro e w3 ⟨rfl, hk3⟩
            have hB3 := hB2.keep hk3 fun h => h
            have hBw3 := hBa.keep hk3 fun h => h
            refine hKe _ _ ⟨fun _ => ⟨hB3.cell 0, hB3.cell 1⟩, ?_⟩
            apply tr_still (o := ⟨some 28, _, _, _, _, _⟩) rfl rfl
            · intro w' hS
              obtain ⟨q1, q2⟩ := hS
              first | (go_simp; done) | (go_simp; rfl) | rfl
            go_frame
            apply tr_still (o := ⟨some 35, _, _, _, _, _⟩) rfl rfl
            · intro w' hS
              obtain ⟨q1, q2⟩ := hS
              first | (go_simp; done) | (go_simp; rfl) | rfl
            go_frame
            apply tr_still (o := ⟨some 36, _, _, _, _, _⟩) rfl rfl
            · intro w' hS
              obtain ⟨q1, q2⟩ := hS
              first | (go_simp; done) | (go_simp; rfl) | rfl
            go_frame
            refine tr_eff (o := ⟨none, _, _, _, _, _⟩) rfl rfl (fun K hKe => ?_)
            refine wo_stAgg (.tmp 9) (.tmp 35) 113 rfl _ _ rfl rfl ?_
            refine rg_stAgg hBw3 (by rw [hf1]; kernel_rfl) (by rw [hf1]; rfl) hf2 ?_
            intro wf hBf hkf hzf
            have hne : wz.heap.size ≠ w1.heap.size := Nat.ne_of_lt hB1.lt
            have hBF := hB3.keep hkf fun e => hne e
            have hkF : Keep No w wf := (hkw1.trans' (hk1a.trans' hk3)).trans hkf fun j hj e => by
              have e2 : j = w1.heap.size := e
              have := hkw1.size
              omega
            refine hKe _ _ ⟨fun _ => ⟨hBF.cell 0, hBF.cell 1⟩, ?_⟩
            apply tr_still (o := ⟨some 10, _, _, _, _, _⟩) rfl rfl
            · intro w' hS
              obtain ⟨q1, q2⟩ := hS
              first | (go_simp; done) | (go_simp; rfl) | rfl
            go_frame
            apply tr_nil
            obtain ⟨gg, hgg⟩ : ∃ g, g = w1.heap.size := ⟨_, rfl⟩
            rw [← hgg]
            clear hgg hkf hzf hBf hKe
            revert hkF hBF
            revert gg wf
            exact HJ.out
        · clear hd0 hd1 hB1 hk1 hkw1 hsz1
          intro wf gg hBF hkF
          have hkpost : ∀ W3 : World, Keep No wf W3 → Keep No w W3 := fun W3 h => hkF.trans' h
          have HRt : ∀ r, chkA size [] 0 l = r → r ≠ 0 → chkE l size = r := fun r h1 h2 => by rw [HR.out, h1, if_pos h2]
          cases tw with
          | false =>
            have HA3 := Lib.hid ((if_neg (by simp)).symm.trans HA2.out)
            clear HA2
            have d0 := hBF.cell 0
            have d1 := hBF.cell 1
            have d2 := hBF.cell 2
            have d3 := hBF.cell 3
            have d4 := hBF.cell 4
            have d5 := hBF.cell 5
            have d6 := hBF.cell 6
            clear hBF
            have hkx : Keep No w wf := by first | exact hkF | exact hkpost _ hkg
            by_cases h1 : x0 = 1
            · subst h1
              have hm := h1ok trivial (by decide)
              go_wp2_with fail
              refine (HP.out wf (by omega)).mono ?_
              rintro e wh ⟨rfl, hkh⟩
              have HA4 := Lib.hid ((if_pos (by first | trivial | simp)).symm.trans HA3.out)
              clear HA3 d0 d1 d2 d3 d4 d5 d6 hm h1ok
              rcases Nat.lt_or_ge fm b with hlt2 | hge2
              · have HA5 := Lib.hid (HRt 12 ((if_pos hlt2).symm.trans HA4.out).symm (by decide))
                clear HA4 HRt
                go_wp2_with fail
                go_ret
                rw [HA5.out]
                exact ⟨rfl, hkx.trans' hkh⟩
              · have HA5 := Lib.hid ((if_neg (Nat.not_lt.2 hge2)).symm.trans HA4.out)
                clear HA4 HRt
                go_wp2_with fail
                go_roundw
                case rel => exact ⟨i + 1, lm, rfl, rfl, hlt, HA5.out, hkx.trans' hkh⟩
                case measure => simp [intOf]; omega
            · have HA4 := Lib.hid ((if_neg h1).symm.trans HA3.out)
              clear HA3
              have h1i : ((x0 : Int) == 1) = false := by rw [beq_eq_false_iff_ne]; omega
              go_wp2_with fail
              go_roundw
              case rel => exact ⟨i + 1, b, rfl, rfl, hlt, HA4.out, hkx⟩
              case measure => simp [intOf]; omega
          | true =>
            have d0 := hBF.cell 0
            have d1 := hBF.cell 1
            have d2 := hBF.cell 2
            have d3 := hBF.cell 3
            have d4 := hBF.cell 4
            have d5 := hBF.cell 5
            have d6 := hBF.cell 6
            go_wp2_with fail
            refine (HS.out wf).mono ?_
            rintro e wg ⟨rfl, hkg⟩
            have hBG := hBF.keep hkg fun h => h
            clear d0 d1 d2 d3 d4 d5 d6 hBF
            have d0 := hBG.cell 0
            have d1 := hBG.cell 1
            have d2 := hBG.cell 2
            have d3 := hBG.cell 3
            have d4 := hBG.cell 4
            have d5 := hBG.cell 5
            have d6 := hBG.cell 6
            clear hBG
            cases sb with
            | false =>
              have HA3 := Lib.hid ((if_neg (by simp)).symm.trans HA2.out)
              clear HA2
              have hkx : Keep No w wg := by first | exact hkF | exact hkpost _ hkg
              by_cases h1 : x0 = 1
              · subst h1
                have hm := h1ok trivial (by decide)
                go_wp2_with fail
                refine (HP.out wg (by omega)).mono ?_
                rintro e wh ⟨rfl, hkh⟩
                have HA4 := Lib.hid ((if_pos (by first | trivial | simp)).symm.trans HA3.out)
                clear HA3 d0 d1 d2 d3 d4 d5 d6 hm h1ok
                rcases Nat.lt_or_ge fm b with hlt2 | hge2
                · have HA5 := Lib.hid (HRt 12 ((if_pos hlt2).symm.trans HA4.out).symm (by decide))
                  clear HA4 HRt
                  go_wp2_with fail
                  go_ret
                  rw [HA5.out]
                  exact ⟨rfl, hkx.trans' hkh⟩
                · have HA5 := Lib.hid ((if_neg (Nat.not_lt.2 hge2)).symm.trans HA4.out)
                  clear HA4 HRt
                  go_wp2_with fail
                  go_roundw
                  case rel => exact ⟨i + 1, lm, rfl, rfl, hlt, HA5.out, hkx.trans' hkh⟩
                  case measure => simp [intOf]; omega
              · have HA4 := Lib.hid ((if_neg h1).symm.trans HA3.out)
                clear HA3
                have h1i : ((x0 : Int) == 1) = false := by rw [beq_eq_false_iff_ne]; omega
                go_wp2_with fail
                go_roundw
                case rel => exact ⟨i + 1, b, rfl, rfl, hlt, HA4.out, hkx⟩
                case measure => simp [intOf]; omega
            | true =>
              have HA3 := Lib.hid (HRt 12 ((if_pos (by first | trivial | simp)).symm.trans HA2.out).symm (by decide))
              clear HA2 HRt d0 d1 d2 d3 d4 d5 d6
              go_wp2_with fail
              go_ret
              rw [HA3.out]
              exact ⟨rfl, hkpost _ hkg⟩
      · have hAr := HA.out
        rw [if_pos hE0] at hAr
        have HRr : Hid (chkE l size = E) := Lib.hid (by rw [HR.out, ← hAr, if_pos hE0])
        clear HA hAr
        have hEi : ((E : Int) == 0) = false := by rw [beq_eq_false_iff_ne]; omega
        go_wp2_with fail
        go_ret
        rw [HRr.out]
        exact ⟨rfl, hkw1⟩
    · obtain rfl : i = l.length := Nat.le_antisymm hi hge
      have h0 : chkA size [] 0 l = 0 := by
        rw [← hA, List.drop_length]
        rfl
      have HR2 : Hid (chkE l size = if l.any (fun s => singleB s && !withinB l s) then 11 else 0) := Lib.hid (by rw [HR.out, h0]; rfl)
      clear hA h0 HR
      go_wp2_with fail
      go_loopw [57] (fun iv wr => ∃ i : Nat, iv = .int .i64 i ∧ i ≤ l.length ∧ (∀ j, j < i → ∀ x, l[j]? = some x → (singleB x && !withinB l x) = false) ∧ Keep No w wr) (fun iv _ => l.length - (intOf iv).toNat)
      case atStart => exact ⟨0, rfl, Nat.zero_le _, (fun j hj => absurd hj (Nat.not_lt_zero _)), hk⟩
      case round =>
        obtain ⟨i, rfl, hi, hno, hk⟩ := hrel
        generalize wr = wz at *
        rcases Nat.lt_or_ge i l.length with hlt | hge
        · obtain ⟨g1, off, cap, ev, _, hg1, _, _, hc⟩ := (HL.out.no hk).at encSg_len hlt
          cases ev
          have hiz : (i : Int) < (l.length : Int) := by omega
          have hsok := hok l[i] (List.getElem_mem hlt)
          have hsing := fun w => sgsingle_any (w := w) l[i] hsok
          have hwith : ∀ W, Keep No w W → Calls Tryz.prog 117 #[.slice (some ⟨g1, off, none⟩) l.length co, .agg (encSg l[i]).toArray] W fun e w' => e = .returned (.bool (withinB l l[i])) ∧ Keep No W w' := fun W hk => sgwithin_any l l[i] (HL.out.no hk) hok hsok
          have hfin : (singleB l[i] && !withinB l l[i]) = true → chkE l size = 11 := fun h => by
            rw [HR2.out, if_pos (List.any_eq_true.2 ⟨_, List.getElem_mem hlt, h⟩)]
          have hno2 : (singleB l[i] && !withinB l l[i]) = false → ∀ j, j < i + 1 → ∀ x, l[j]? = some x → (singleB x && !withinB l x) = false := fun h j hji x hx => by
            rcases Nat.lt_or_ge j i with h2 | h2
            · exact hno j h2 x hx
            · obtain rfl : j = i := by omega
              rw [List.getElem?_eq_getElem hlt] at hx
              cases hx
              exact h
          have HF := Lib.hid hfin
          have HN := Lib.hid hno2
          clear hno hfin hno2
          have c0 := hc 0 _ rfl
          have c1 := hc 1 _ rfl
          have c2 := hc 2 _ rfl
          have c3 := hc 3 _ rfl
          have c4 := hc 4 _ rfl
          have c5 := hc 5 _ rfl
          have c6 := hc 6 _ rfl
          rw [Nat.add_zero] at c0
          clear hc
          generalize hsv : l[i] = s at *
          have hcs : (encSg s).toArray = #[.int .u32 (s.ty : Int), .int .u32 (s.fl : Int), .int .u64 (s.off : Int), .int .u64 (s.va : Int), .int .u64 (s.fi : Int), .int .u64 (s.me : Int), .int .u64 (s.al : Int)] := rfl
          generalize hS : singleB s = sb at *
          generalize hWi : withinB l s = wi at *
          rw [hcs] at hsing hwith
          generalize s.ty = x0 at *
          generalize s.fl = x1 at *
          generalize s.off = x2 at *
          generalize s.va = x3 at *
          generalize s.fi = x4 at *
          generalize s.me = x5 at *
          generalize s.al = x6 at *
          clear hS hWi hcs hsv hsok
          have HS := Lib.hid hsing
          have HP := Lib.hid hwith
          clear hsing hwith
          go_wp2_with fail
          have hkW : Keep No wz (wz.alloc (.cells #[.int .u32 (x0 : Int), .int .u32 (x1 : Int), .int .u64 (x2 : Int), .int .u64 (x3 : Int), .int .u64 (x4 : Int), .int .u64 (x5 : Int), .int .u64 (x6 : Int)] 113)) := (Keep.refl _ _).alloc _
          have hBW : Blk (wz.alloc (.cells #[.int .u32 (x0 : Int), .int .u32 (x1 : Int), .int .u64 (x2 : Int), .int .u64 (x3 : Int), .int .u64 (x4 : Int), .int .u64 (x5 : Int), .int .u64 (x6 : Int)] 113)) wz.heap.size #[.int .u32 (x0 : Int), .int .u32 (x1 : Int), .int .u64 (x2 : Int), .int .u64 (x3 : Int), .int .u64 (x4 : Int), .int .u64 (x5 : Int), .int .u64 (x6 : Int)] 113 := Blk.new _ _ _
          have hzW : (wz.alloc (.cells #[.int .u32 (x0 : Int), .int .u32 (x1 : Int), .int .u64 (x2 : Int), .int .u64 (x3 : Int), .int .u64 (x4 : Int), .int .u64 (x5 : Int), .int .u64 (x6 : Int)] 113)).heap.size = wz.heap.size + 1 := World.size_alloc _ _
          generalize wz.alloc (.cells #[.int .u32 (x0 : Int), .int .u32 (x1 : Int), .int .u64 (x2 : Int), .int .u64 (x3 : Int), .int .u64 (x4 : Int), .int .u64 (x5 : Int), .int .u64 (x6 : Int)] 113) = W at *
          refine (HS.out W).mono ?_
          rintro e w1 ⟨rfl, hk1⟩
          have hB1 := hBW.keep hk1 fun h => h
          have hkw1 : Keep No w w1 := (hk.trans' hkW).trans' hk1
          clear c0 c1 c2 c3 c4 c5 c6 hBW
          cases sb with
          | false =>
            clear hB1
            go_wp2_with fail
            go_roundw
            case rel => exact ⟨i + 1, rfl, hlt, HN.out (by first | trivial | rfl), hkw1⟩
            case measure => simp [intOf]; omega
          | true =>
            have d0 := hB1.cell 0
            have d1 := hB1.cell 1
            have d2 := hB1.cell 2
            have d3 := hB1.cell 3
            have d4 := hB1.cell 4
            have d5 := hB1.cell 5
            have d6 := hB1.cell 6
            go_wp2_with fail
            refine (HP.out w1 hkw1).mono ?_
            rintro e w2 ⟨rfl, hk2⟩
            clear d0 d1 d2 d3 d4 d5 d6 hB1
            cases wi with
            | true =>
              go_wp2_with fail
              go_roundw
              case rel => exact ⟨i + 1, rfl, hlt, HN.out (by first | trivial | rfl), hkw1.trans' hk2⟩
              case measure => simp [intOf]; omega
            | false =>
              go_wp2_with fail
              go_ret
              rw [HF.out (by first | trivial | rfl)]
              exact ⟨rfl, hkw1.trans' hk2⟩
        · obtain rfl : i = l.length := Nat.le_antisymm hi hge
          have hf : l.any (fun s => singleB s && !withinB l s) = false := by
            rw [Bool.eq_false_iff]
            intro h
            obtain ⟨x, hx, h⟩ := List.any_eq_true.1 h
            obtain ⟨j, hj, rfl⟩ := List.getElem_of_mem hx
            have := hno j hj _ (List.getElem?_eq_getElem hj)
            rw [h] at this
            cases this
          have HF : Hid (chkE l size = 0) := Lib.hid (by rw [HR2.out, hf]; rfl)
          clear hf hno HR2
          go_wp2_with fail
          go_ret
          rw [HF.out]
          exact ⟨rfl, hk⟩
end
end Go.Proofs.YtbnahidopemkiaaGreat
namespace Go.Proofs.YtbnahidopemkiaaGreat
open Go.RowKit Go.Dm Go.Dm.Oc Go.Dm.Ld
section
variable {A : Nat → Prop} {w : World}
def row7 (f : Nat → Nat) (i : Nat) : List Value := (List.range 7).map fun j => if j < i then .int .u64 (f j : Int) else .int .u64 0
theorem row7_set (f : Nat → Nat) (i : Nat) (hi : i < 7) : (row7 f i).toArray.setIfInBounds i (.int .u64 (f i : Int)) = (row7 f (i + 1)).toArray := by
  rcases (by omega : i = 0 ∨ i = 1 ∨ i = 2 ∨ i = 3 ∨ i = 4 ∨ i = 5 ∨ i = 6) with rfl | rfl | rfl | rfl | rfl | rfl | rfl <;> rfl
theorem getX_lt (b : BS) (at_ : Nat) (n : Nat) : getX b at_ (n : Int) < 256 ^ n := by
  unfold getX
  split
  · refine Nat.lt_of_lt_of_le (leN_lt _) (Nat.pow_le_pow_right (by decide) ?_)
    rw [List.length_take]
    omega
  · exact Nat.pow_pos (by decide)
set_option maxRecDepth 100000 in
set_option maxHeartbeats 2000000 in
theorem sgget_any {v : Value} (b : BS) (hb : Bts A w v b) (hl : b.length ≤ 1099511627776) :
    Calls Tryz.prog 114 #[v] w fun e w' => e = .returned (.tuple #[.agg (encSg (sgGet b).2).toArray, .int .i64 ((sgGet b).1 : Nat)]) ∧ Keep No w w' := by
  have HB := Lib.hid hb
  obtain ⟨ao, co, rfl, hc1, hc2⟩ := hb.shape
  clear hb
  have hH : sgGet b = if b.length < 56 then (10, sg0) else if getX b 16 8 = getX b 24 8 then (0, sgIn b) else (11, sg0) := rfl
  by_cases hlt : b.length < 56
  · rw [if_pos hlt] at hH
    have HH := Lib.hid hH
    clear hH
    generalize b.length = n at *
    go_enter Tryz.func114, Tryz.ntmps114
    go_wp2_with (with_reducible refine wl_stAgg rfl _ _ _ rfl _ _ rfl rfl ?_)
    have hkW : Keep No w (w.alloc (.cells #[.int .u32 0, .int .u32 0, .int .u64 0, .int .u64 0, .int .u64 0, .int .u64 0, .int .u64 0] 113)) := (Keep.refl _ _).alloc _
    have hBW : Blk (w.alloc (.cells #[.int .u32 0, .int .u32 0, .int .u64 0, .int .u64 0, .int .u64 0, .int .u64 0, .int .u64 0] 113)) w.heap.size #[.int .u32 0, .int .u32 0, .int .u64 0, .int .u64 0, .int .u64 0, .int .u64 0, .int .u64 0] 113 := Blk.new _ _ _
    have hzW : (w.alloc (.cells #[.int .u32 0, .int .u32 0, .int .u64 0, .int .u64 0, .int .u64 0, .int .u64 0, .int .u64 0] 113)).heap.size = w.heap.size + 1 := World.size_alloc _ _
    generalize w.alloc (.cells #[.int .u32 0, .int .u32 0, .int .u64 0, .int .u64 0, .int .u64 0, .int .u64 0, .int .u64 0] 113) = W at *
    refine rg_stAgg hBW (by kernel_rfl) (by rfl) (by simp [Value.oneCell']) ?_
    intro w3 hB3 hk3 _
    go_wp2_with fail
    refine ret_blk_tmp rfl rfl hB3 Tryz.underlying113 rfl (by kernel_rfl) rfl ?_
    exact ⟨by rw [HH.out]; rfl, hkW.trans hk3 fun j hj e => by omega⟩
  · rw [if_neg hlt] at hH
    have HH := Lib.hid hH
    clear hH
    have hget : ∀ W, Keep No w W → ∀ at_ : Nat, at_ < 64 → Calls Tryz.prog 111 #[.slice ao b.length co, .int .u64 (at_ : Int), .int .i64 8] W fun e w' => e = .returned (.tuple #[.int .u64 (getX b at_ 8 : Nat), .int .i64 (fitsE b.length at_ 8 : Nat)]) ∧ W = w' := fun W hk at_ ha =>
      oget_any b at_ 8 (Sl.keep HB.out hk fun _ _ _ h => h) hl (by omega) (by decide) (by decide)
    have HG := Lib.hid hget
    have hlt56 : ¬ ((b.length : Int) < 56) := by omega
    clear hget
    go_enter Tryz.func114, Tryz.ntmps114
    go_wp2_with fail
    have hkW : Keep No w (w.alloc (.cells #[.int .u32 0, .int .u32 0, .int .u64 0, .int .u64 0, .int .u64 0, .int .u64 0, .int .u64 0] 113)) := (Keep.refl _ _).alloc _
    have hBW : Blk (w.alloc (.cells #[.int .u32 0, .int .u32 0, .int .u64 0, .int .u64 0, .int .u64 0, .int .u64 0, .int .u64 0] 113)) w.heap.size #[.int .u32 0, .int .u32 0, .int .u64 0, .int .u64 0, .int .u64 0, .int .u64 0, .int .u64 0] 113 := Blk.new _ _ _
    have hzW : (w.alloc (.cells #[.int .u32 0, .int .u32 0, .int .u64 0, .int .u64 0, .int .u64 0, .int .u64 0, .int .u64 0] 113)).heap.size = w.heap.size + 1 := World.size_alloc _ _
    generalize w.alloc (.cells #[.int .u32 0, .int .u32 0, .int .u64 0, .int .u64 0, .int .u64 0, .int .u64 0, .int .u64 0] 113) = W at *
    have hkV : Keep No W (W.alloc (.cells #[.int .u64 0, .int .u64 0, .int .u64 0, .int .u64 0, .int .u64 0, .int .u64 0, .int .u64 0] 220)) := (Keep.refl _ _).alloc _
    have hBV : Blk (W.alloc (.cells #[.int .u64 0, .int .u64 0, .int .u64 0, .int .u64 0, .int .u64 0, .int .u64 0, .int .u64 0] 220)) W.heap.size #[.int .u64 0, .int .u64 0, .int .u64 0, .int .u64 0, .int .u64 0, .int .u64 0, .int .u64 0] 220 := Blk.new _ _ _
    have hzV : (W.alloc (.cells #[.int .u64 0, .int .u64 0, .int .u64 0, .int .u64 0, .int .u64 0, .int .u64 0, .int .u64 0] 220)).heap.size = W.heap.size + 1 := World.size_alloc _ _
    generalize W.alloc (.cells #[.int .u64 0, .int .u64 0, .int .u64 0, .int .u64 0, .int .u64 0, .int .u64 0, .int .u64 0] 220) = V at *
    have hBW2 := hBW.keep hkV fun h => h
    rw [hzW] at hBV
    have hkwV := hkW.trans' hkV
    clear hkW hkV hBW hzW hzV
    go_loopw [10] (fun iv wr => ∃ i : Nat, iv = .int .i64 i ∧ i ≤ 7 ∧ Blk wr w.heap.size #[.int .u32 0, .int .u32 0, .int .u64 0, .int .u64 0, .int .u64 0, .int .u64 0, .int .u64 0] 113 ∧ Blk wr (w.heap.size + 1) (row7 (fun j => getX b (8 * j) 8) i).toArray 220 ∧ Keep No w wr) (fun iv _ => 7 - (intOf iv).toNat)
    case atStart => exact ⟨0, rfl, by decide, hBW2, hBV, hkwV⟩
    case round =>
      clear hBW2 hBV hkwV
      obtain ⟨i, rfl, hi, hBs, hBa, hk⟩ := hrel
      generalize wr = wz at *
      rcases Nat.lt_or_ge i 7 with hlt7 | hge
      · have hg := HG.out wz hk (8 * i) (by omega)
        rw [Int.natCast_mul] at hg
        have hset := row7_set (fun j => getX b (8 * j) 8) i hlt7
        have hx := getX_lt b (8 * i) 8
        generalize getX b (8 * i) 8 = x at *
        have hBa2 := hBa.set (i := i) (.int .u64 (x : Int))
        rw [hset] at hBa2
        have hBs2 := hBs.set_other (a := ⟨w.heap.size + 1, i, none⟩) (by simp) (.int .u64 (x : Int))
        have hk2 := hk.new (p := ⟨w.heap.size + 1, i, none⟩) (by simp) (.int .u64 (x : Int))
        have hcell : ∃ u, wz.cell? ⟨w.heap.size + 1, i, none⟩ = some u := by
          rw [hBa.cell]
          exact ⟨_, Array.getElem?_eq_getElem (by simp [row7]; omega)⟩
        obtain ⟨u, hcell⟩ := hcell
        have hfr := hBa.frozen i
        have HA2 := Lib.hid hBa2
        have HS2 := Lib.hid hBs2
        clear hset hBs hBa hBa2 hBs2
        go_wp2_with fail
        refine hg.mono ?_
        clear hg
        rintro e w1 ⟨rfl, rfl⟩
        go_wp2_with fail
        go_roundw
        case rel => exact ⟨i + 1, rfl, hlt7, HS2.out, HA2.out, hk2⟩
        case measure => simp [intOf]; omega
      · obtain rfl : i = 7 := by omega
        have hx0 := getX_lt b 0 8
        have hx1 := getX_lt b 8 8
        have hx2 := getX_lt b 16 8
        have hx3 := getX_lt b 24 8
        have hx4 := getX_lt b 32 8
        have hx5 := getX_lt b 40 8
        have hx6 := getX_lt b 48 8
        have hHo := HH.out
        unfold sgIn at hHo
        have hro : (row7 (fun j => getX b (8 * j) 8) 7).toArray = #[.int .u64 (getX b 0 8 : Int), .int .u64 (getX b 8 8 : Int), .int .u64 (getX b 16 8 : Int), .int .u64 (getX b 24 8 : Int), .int .u64 (getX b 32 8 : Int), .int .u64 (getX b 40 8 : Int), .int .u64 (getX b 48 8 : Int)] := rfl
        rw [hro] at hBa
        clear hro HH HG
        generalize getX b 0 8 = y0 at *
        generalize getX b 8 8 = y1 at *
        generalize getX b 16 8 = y2 at *
        generalize getX b 24 8 = y3 at *
        generalize getX b 32 8 = y4 at *
        generalize getX b 40 8 = y5 at *
        generalize getX b 48 8 = y6 at *
        have d0 := hBa.cell 0
        have d1 := hBa.cell 1
        have d2 := hBa.cell 2
        have d3 := hBa.cell 3
        have d4 := hBa.cell 4
        have d5 := hBa.cell 5
        have d6 := hBa.cell 6
        have hbl : w.heap.size < wz.heap.size := hBs.lt
        by_cases he : y2 = y3
        · rw [if_pos he] at hHo
          have HH := Lib.hid hHo
          subst he
          clear hHo
          have hsr : (y0 : Int) / 4294967296 < 4294967296 := by omega
          go_wp2_with (with_reducible refine wl_stAgg rfl _ _ _ rfl _ _ rfl rfl ?_)
          refine rg_stAgg hBs (by kernel_rfl) (by rfl) (by simp [Value.oneCell']) ?_
          intro w3 hB3 hk3 _
          go_wp2_with fail
          refine ret_blk_tmp rfl rfl hB3 Tryz.underlying113 rfl (by kernel_rfl) rfl ?_
          exact ⟨by rw [HH.out]; unfold encSg; dsimp only; rw [Int.natCast_emod, Int.natCast_ediv]; rfl, hk.trans hk3 fun j hj e => by have e2 : j = w.heap.size := e; omega⟩
        · rw [if_neg he] at hHo
          have HH := Lib.hid hHo
          clear hHo
          have hei : ((y2 : Int) == (y3 : Int)) = false := by rw [beq_eq_false_iff_ne]; omega
          go_wp2_with (with_reducible refine wl_stAgg rfl _ _ _ rfl _ _ rfl rfl ?_)
          refine rg_stAgg hBs (by kernel_rfl) (by rfl) (by simp [Value.oneCell']) ?_
          intro w3 hB3 hk3 _
          go_wp2_with fail
          refine ret_blk_tmp rfl rfl hB3 Tryz.underlying113 rfl (by kernel_rfl) rfl ?_
          exact ⟨by rw [HH.out]; rfl, hk.trans hk3 fun j hj e => by have e2 : j = w.heap.size := e; omega⟩
theorem own_base {base base' size n : Nat} {e : TypeId} {v : Value} {xs : List Value} (ho : w.ownsRow base e size v n xs) (hb : base' ≤ base) : w.ownsRow base' e size v n xs := by
  refine ⟨ho.1, ho.2.imp id ?_⟩
  rintro ⟨g, cap, cur, rfl, a, b, r⟩
  exact ⟨g, cap, cur, rfl, Nat.le_trans hb a, b, r⟩
theorem sgIn_ok (b : BS) : SgOk (sgIn b) := by
  have h0 := getX_lt b 0 8
  have h1 := getX_lt b 8 8
  have h2 := getX_lt b 16 8
  have h4 := getX_lt b 32 8
  have h5 := getX_lt b 40 8
  have h6 := getX_lt b 48 8
  have h0 : getX b 0 8 < 18446744073709551616 := h0
  have h1 : getX b 8 8 < 18446744073709551616 := h1
  have h2 : getX b 16 8 < 18446744073709551616 := h2
  have h4 : getX b 32 8 < 18446744073709551616 := h4
  have h5 : getX b 40 8 < 18446744073709551616 := h5
  have h6 : getX b 48 8 < 18446744073709551616 := h6
  unfold SgOk sgIn
  dsimp only
  omega
theorem sgGet_ok (b : BS) : SgOk (sgGet b).2 := by
  have h0 : SgOk sg0 := by unfold SgOk sg0; decide
  unfold sgGet
  split
  · exact h0
  · split
    · exact sgIn_ok b
    · exact h0
theorem sgGo_ok (rest : BS) : ∀ (k i : Nat) (acc : List Sg), (∀ s ∈ acc, SgOk s) → ∀ s ∈ (sgGo rest k i acc).2, SgOk s
  | 0, _, acc, h => h
  | k + 1, i, acc, h => by
    unfold sgGo
    split
    · refine sgGo_ok rest k (i + 1) _ fun s hs => ?_
      rcases List.mem_append.1 hs with h1 | h1
      · exact h s h1
      · rw [List.mem_singleton] at h1
        subst h1
        exact sgGet_ok _
    · intro s hs
      cases hs
theorem sgTab_ok (b : BS) (at_ n : Nat) : ∀ s ∈ (sgTab b at_ n).2, SgOk s := by
  unfold sgTab
  split
  · intro s hs; cases hs
  · split
    · exact sgGo_ok _ _ _ _ fun s hs => by cases hs
    · intro s hs; cases hs
theorem cutM_len (b : BS) (at_ n : Nat) : (cutM b at_ n).1 = 0 → (cutM b at_ n).2.length = n := by
  unfold cutM
  split
  · rename_i h
    intro _
    simp only [hasB, Bool.and_eq_true, decide_eq_true_eq] at h
    rw [List.length_take, List.length_drop]
    omega
  · intro h
    cases h
set_option maxRecDepth 100000 in
set_option maxHeartbeats 4000000 in
theorem sgtable_any {v : Value} (b : BS) (at_ n : Nat) (hb : Bts A w v b) (hl : b.length ≤ 1099511627776) (ha : at_ < 18446744073709551616) (hn : n < 65536) :
    Calls Tryz.prog 81 #[v, .int .u64 (at_ : Int), .int .i64 (n : Int)] w fun e w' => ∃ v', e = .returned (.tuple #[v', .int .i64 ((sgTab b at_ n).1 : Nat)]) ∧ FlO w' w.heap.size 113 7 encSg v' (sgTab b at_ n).2 ∧ Keep No w w' := by
  have HB := Lib.hid hb
  have hH : sgTab b at_ n = if 64 < n then (1, []) else if (cutM b at_ (n * 56)).1 = 0 then sgGo (cutM b at_ (n * 56)).2 n 0 [] else ((cutM b at_ (n * 56)).1, []) := rfl
  by_cases h64 : 64 < n
  · rw [if_pos h64] at hH
    rw [hH]
    obtain ⟨ao, co, rfl, hc1, hc2⟩ := hb.shape
    clear hb hH
    go_enter Tryz.func81, Tryz.ntmps81
    go_wp2_with fail
    go_ret2
    exact ⟨_, rfl, FlO.nil, Keep.refl _ _⟩
  · rw [if_neg h64] at hH
    have hcut := ocut_any b at_ (n * 56) hb hl ha (by omega)
    have hclen := cutM_len b at_ (n * 56)
    rw [Int.natCast_mul] at hcut
    generalize hgc : cutM b at_ (n * 56) = c at *
    obtain ⟨ce, cb⟩ := c
    dsimp only at *
    obtain ⟨ao, co, rfl, hc1, hc2⟩ := hb.shape
    clear hb hgc
    by_cases he : ce = 0
    · subst he
      rw [if_pos rfl] at hH
      have hcl := hclen rfl
      clear hclen
      rw [hH]
      clear hH
      generalize b.length = nb at *
      go_enter Tryz.func81, Tryz.ntmps81
      go_wp2_with fail
      refine hcut.mono ?_
      clear hcut
      rintro e w1 ⟨vc, rfl, hco, hk1⟩
      have hbc : Bts (fun k => w.heap.size ≤ k ∧ some k = vc.ownBlock) w1 vc cb := bts_own hco
      have HBC := Lib.hid hbc
      obtain ⟨ac, cc, rfl, hcc1, hcc2⟩ := hbc.shape
      clear hbc hco
      go_wp2_with fail
      go_loopw [10, 33] (fun ov iv wr => ∃ (i : Nat) (acc : List Sg), iv = .int .i64 i ∧ i ≤ n ∧ acc.length = i ∧ sgGo cb (n - i) i acc = sgGo cb n 0 [] ∧ FlO wr w1.heap.size 113 7 encSg ov acc ∧ Keep No w1 wr) (fun _ iv _ => n - (intOf iv).toNat)
      case atStart => exact ⟨0, [], rfl, Nat.zero_le _, rfl, rfl, FlO.nil, Keep.refl _ _⟩
      case round =>
        obtain ⟨i, acc, rfl, hi, hal, hgo, hO, hk1r⟩ := hrel
        have hk := hk1.trans' hk1r
        generalize wr = wz at *
        rcases Nat.lt_or_ge i n with hlt | hge
        · have hlo : i * 56 + (cb.length - i * 56) ≤ cb.length := by omega
          have hpart := bts_part (HBC.out.keep hk1r fun _ _ _ h => h) (lo := i * 56) (n := cb.length - i * 56) hlo
          rw [List.take_of_length_le (by rw [List.length_drop]; exact Nat.le_refl _)] at hpart
          have hdl : (cb.drop (i * 56)).length = cb.length - i * 56 := List.length_drop
          have hsub : (cb.length : Int) - (i : Int) * 56 = ((cb.length - i * 56 : Nat) : Int) := by omega
          have hgetc := sgget_any (cb.drop (i * 56)) hpart (by omega)
          have hgo2 : sgGo cb (n - i) i acc = if (sgGet (cb.drop (i * 56))).1 = 0 then sgGo cb (n - (i + 1)) (i + 1) (acc ++ [(sgGet (cb.drop (i * 56))).2]) else ((sgGet (cb.drop (i * 56))).1, []) := by
            rw [show n - i = (n - (i + 1)) + 1 by omega]
            rfl
          rw [hgo2] at hgo
          have hneq : ¬ cc = i * 56 := by omega
          clear hgo2 hpart hdl
          generalize sgGet (cb.drop (i * 56)) = gs at *
          obtain ⟨ge, s⟩ := gs
          dsimp only at *
          have HGO := Lib.hid hgo
          rw [hcl] at hgetc
          obtain ⟨x0, x1, x2, x3, x4, x5, x6⟩ := s
          have hgetc := Lib.hid hgetc
          unfold encSg at hgetc
          dsimp only at hgetc
          clear hgo
          go_wp2_with fail
          refine hgetc.out.mono ?_
          clear hgetc
          rintro e w2 ⟨rfl, hk2⟩
          by_cases hg0 : ge = 0
          · subst hg0
            have HGO2 := Lib.hid ((if_pos rfl).symm.trans HGO.out)
            clear HGO
            go_wp2_with (at_builtin; refine wl_append rfl _ _ _ _ rfl _ _ rfl rfl ?_)
            have hkw3 : Keep No w2 (w2.alloc (.cells #[.int .u32 (x0 : Int), .int .u32 (x1 : Int), .int .u64 (x2 : Int), .int .u64 (x3 : Int), .int .u64 (x4 : Int), .int .u64 (x5 : Int), .int .u64 (x6 : Int)] 113)) := (Keep.refl _ _).alloc _
            have hBw3 : Blk (w2.alloc (.cells #[.int .u32 (x0 : Int), .int .u32 (x1 : Int), .int .u64 (x2 : Int), .int .u64 (x3 : Int), .int .u64 (x4 : Int), .int .u64 (x5 : Int), .int .u64 (x6 : Int)] 113)) w2.heap.size #[.int .u32 (x0 : Int), .int .u32 (x1 : Int), .int .u64 (x2 : Int), .int .u64 (x3 : Int), .int .u64 (x4 : Int), .int .u64 (x5 : Int), .int .u64 (x6 : Int)] 113 := Blk.new _ _ _
            have hzw3 : (w2.alloc (.cells #[.int .u32 (x0 : Int), .int .u32 (x1 : Int), .int .u64 (x2 : Int), .int .u64 (x3 : Int), .int .u64 (x4 : Int), .int .u64 (x5 : Int), .int .u64 (x6 : Int)] 113)).heap.size = w2.heap.size + 1 := World.size_alloc _ _
            generalize w2.alloc (.cells #[.int .u32 (x0 : Int), .int .u32 (x1 : Int), .int .u64 (x2 : Int), .int .u64 (x3 : Int), .int .u64 (x4 : Int), .int .u64 (x5 : Int), .int .u64 (x6 : Int)] 113) = w3 at *
            rw [← hzw3]
            have hk3 : Keep No wz w3 := hk2.trans' hkw3
            refine rg_push (x := (⟨x0, x1, x2, x3, x4, x5, x6⟩ : Sg)) _ _ Tryz.underlying56 segT_info (by rfl) (by decide) (by rfl) (by rfl) (encSg_one _) (hO.no hk3) (by omega) (by decide) (Nat.le_trans hk1r.size hk3.size) ?_
            intro v4 w4 ho4 hk4 _
            have hk6 : Keep No w1 w4 := Keep.own (hk1r.trans' hk3) (hO.no hk3) hk4
            clear hO hkw3 hBw3
            go_wp2_with fail
            go_roundw
            case rel => exact ⟨i + 1, _, rfl, hlt, by rw [List.length_append, hal]; rfl, HGO2.out, ho4, hk6⟩
            case measure => simp [intOf]; omega
          · have HGO2 := Lib.hid ((if_neg hg0).symm.trans HGO.out)
            clear HGO
            have hgi : ((ge : Int) == 0) = false := by rw [beq_eq_false_iff_ne]; omega
            go_wp2_with fail
            go_ret2
            rw [← HGO2.out]
            exact ⟨_, rfl, FlO.nil, (hk.trans' hk2).alloc _⟩
        · obtain rfl : i = n := Nat.le_antisymm hi hge
          have hgo2 : sgGo cb i 0 [] = (0, acc) := by
            rw [← hgo, Nat.sub_self]
            rfl
          have HGO2 := Lib.hid hgo2
          clear hgo hgo2
          go_wp2_with fail
          go_ret2
          rw [HGO2.out]
          exact ⟨_, rfl, own_base hO hk1.size, hk⟩
    · rw [if_neg he] at hH
      rw [hH]
      clear hH hclen
      generalize b.length = nb at *
      have hei : ((ce : Int) == 0) = false := by rw [beq_eq_false_iff_ne]; omega
      go_enter Tryz.func81, Tryz.ntmps81
      go_wp2_with fail
      refine hcut.mono ?_
      rintro e w1 ⟨vc, rfl, hco, hk1⟩
      go_wp2_with fail
      go_ret2
      exact ⟨_, rfl, FlO.nil, hk1⟩
end
end Go.Proofs.YtbnahidopemkiaaGreat
namespace Go.Proofs.YtbnahidopemkiaaGreat
open Go.RowKit Go.Dm Go.Dm.Oc Go.Dm.Ld
theorem placeM_cons (s : Sg) (r : List Sg) (addr size : Nat) : placeM (s :: r) addr size = if holdsB s addr size then (0, s.off + (addr - s.va)) else placeM r addr size := rfl
section
variable {A : Nat → Prop} {w : World}
set_option maxRecDepth 100000 in
set_option maxHeartbeats 4000000 in
theorem sgplace_any {v : Value} (l : List Sg) (addr size : Nat) (hl : Fl A w 7 encSg v l) (hok : ∀ x ∈ l, SgOk x) (hok2 : ∀ x ∈ l, x.ty = 1 → x.off + x.fi < 18446744073709551616) (ha : addr < 18446744073709551616) (hz : size < 18446744073709551616) :
    Calls Tryz.prog 119 #[v, .int .u64 (addr : Int), .int .u64 (size : Int)] w fun e w' => e = .returned (.tuple #[.int .u64 ((placeM l addr size).2 : Nat), .int .i64 ((placeM l addr size).1 : Nat)]) ∧ Keep No w w' := by
  have HL := Lib.hid hl
  obtain ⟨ao, co, rfl, hc1, hc2⟩ := hl.shape
  have hlen : l.length ≤ 9223372036854775807 := by unfold maxLen at hc2; omega
  clear hl hc1 hc2
  go_enter Tryz.func119, Tryz.ntmps119
  go_wp2_with fail
  go_loopw [13] (fun iv wr => ∃ i : Nat, iv = .int .i64 i ∧ i ≤ l.length ∧ placeM (l.drop i) addr size = placeM l addr size ∧ Keep No w wr) (fun iv _ => l.length - (intOf iv).toNat)
  case atStart => exact ⟨0, rfl, Nat.zero_le _, rfl, Keep.refl _ _⟩
  case round =>
    obtain ⟨i, rfl, hi, hA, hk⟩ := hrel
    generalize wr = wz at *
    rcases Nat.lt_or_ge i l.length with hlt | hge
    · obtain ⟨g1, off, cap, ev, _, hg1, _, _, hc⟩ := (HL.out.no hk).at encSg_len hlt
      cases ev
      have hiz : (i : Int) < (l.length : Int) := by omega
      have hsok := hok l[i] (List.getElem_mem hlt)
      have hsok2 := hok2 l[i] (List.getElem_mem hlt)
      rw [List.drop_eq_getElem_cons hlt] at hA
      rw [placeM_cons] at hA
      have c0 := hc 0 _ rfl
      have c1 := hc 1 _ rfl
      have c2 := hc 2 _ rfl
      have c3 := hc 3 _ rfl
      have c4 := hc 4 _ rfl
      have c5 := hc 5 _ rfl
      have c6 := hc 6 _ rfl
      rw [Nat.add_zero] at c0
      clear hc
      unfold SgOk at hsok
      have hhb : holdsB l[i] addr size = decide (0 < size ∧ l[i].ty = 1 ∧ l[i].va ≤ addr ∧ addr - l[i].va ≤ l[i].fi ∧ size ≤ l[i].fi - (addr - l[i].va)) := rfl
      rw [hhb] at hA
      clear hhb
      generalize l[i].ty = x0 at *
      generalize l[i].fl = x1 at *
      generalize l[i].off = x2 at *
      generalize l[i].va = x3 at *
      generalize l[i].fi = x4 at *
      generalize l[i].me = x5 at *
      generalize l[i].al = x6 at *
      obtain ⟨o0, o1, o2, o3, o4, o5, o6⟩ := hsok
      by_cases hh : 0 < size ∧ x0 = 1 ∧ x3 ≤ addr ∧ addr - x3 ≤ x4 ∧ size ≤ x4 - (addr - x3)
      · rw [if_pos (decide_eq_true hh)] at hA
        obtain ⟨h1, rfl, h3, h4, h5⟩ := hh
        have h6 := hsok2 rfl
        have HA := Lib.hid hA
        clear hA hsok2
        obtain ⟨d, rfl⟩ := Nat.exists_eq_add_of_le h3
        rw [Nat.add_sub_cancel_left] at h4 h5 HA
        obtain ⟨r, rfl⟩ := Nat.exists_eq_add_of_le h4
        rw [Nat.add_sub_cancel_left] at h5
        have h1i : (0 : Int) < (size : Int) := by omega
        have h3i : (x3 : Int) ≤ ((x3 + d : Nat) : Int) := by omega
        have h5i : (size : Int) ≤ (r : Int) := by omega
        have e3 : ((x3 + d : Nat) : Int) - (x3 : Int) = (d : Int) := by omega
        have e4 : ((d + r : Nat) : Int) - (d : Int) = (r : Int) := by omega
        go_wp2_with fail
        all_goals
          go_ret2
          rw [← HA.out]
          refine ⟨congrArg (fun z => Ending.returned (Value.tuple #[Value.int .u64 z, Value.int .i64 0])) ?_, hk.alloc _⟩
          dsimp only
          omega
      · rw [if_neg (by rw [decide_eq_true_eq]; exact hh)] at hA
        have HA := Lib.hid hA
        clear hA
        go_wp2_with fail
        all_goals first
          | (exfalso; clear c0 c1 c2 c3 c4 c5 c6; simp only [beq_iff_eq] at *; omega)
          | (go_roundw
             case rel => exact ⟨i + 1, rfl, hlt, HA.out, hk.alloc _⟩
             case measure => simp [intOf]; omega)
    · obtain rfl : i = l.length := Nat.le_antisymm hi hge
      rw [List.drop_length] at hA
      have HA := Lib.hid hA
      clear hA
      go_wp2_with fail
      go_ret2
      rw [← HA.out]
      exact ⟨rfl, hk⟩
end
end Go.Proofs.YtbnahidopemkiaaGreat
