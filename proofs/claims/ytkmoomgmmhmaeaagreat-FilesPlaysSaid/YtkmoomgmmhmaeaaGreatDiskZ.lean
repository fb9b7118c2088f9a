/- Settle. Rename and Remove, whole. No condition. -/
import Derived.Test.YtkmoomgmmhmaeaaGreatDiskI
import Derived.Test.YtkmoomgmmhmaeaaGreatDiskR
import Derived.Laws.EntriesVeiled
namespace Go.Proofs.YtkmoomgmmhmaeaaGreat
open Go.RowKit Go.Dm Go.Dm.Dk Go.Maps

set_option maxRecDepth 100000 in
set_option maxHeartbeats 1000000 in
theorem settle_any {A C : Nat → Prop} {d f : Nat} {m : M} {fb : List Nat} {nb sb : Nat} {wv : Value} {rows : List (List Value)} {caps : Array Value} (sel : Nat → Bool) (J : Nat → World → Prop) (w : World) (h : DRep A w d m fb nb sb wv rows) (hA : ∀ k, A k → k < w.heap.size)
    (hC : ∀ k, C k → k < w.heap.size ∧ ¬ A k) (hfit : FitW m) (hent : ∀ v : Value, Enters f (#[v] ++ caps)) (hJ0 : J 0 w)
    (hJs : ∀ i w1 w2, J i w1 → w1.heap.size ≤ w2.heap.size → (∀ k, C k → w2.heap[k]? = w1.heap[k]?) → J i w2)
    (his : ∀ i o p0 p1 p2 p3 w1, J i w1 → DRep (Plus A w w1) w1 d { st sel m i with wait := m.wait } fb nb sb wv rows → m.wait[i]? = some o → ((o.kind = 1 ∧ p0 = fptr fb o.file) ∨ (o.kind ≠ 1 ∧ p0 = .pointer none)) →
      Calls Tryz.prog f (#[.agg #[p0, p1, p2, p3]] ++ caps) w1 fun e w2 => e = .returned (.bool (sel i)) ∧ J (i + 1) w2 ∧ Keep C w1 w2) :
    Calls Tryz.prog 31 #[.pointer (some ⟨d, 0, none⟩), .func (.func f) #[] caps] w fun e w' => e = .returned (.tuple #[]) ∧ DR (Plus A w w') w' d (Dk.settle m sel) ∧ Keep (fun k => A k ∨ C k) w w' ∧ J m.wait.length w' := by
  have h3 := h.blk.cell 3
  simp only [List.getElem?_toArray, List.getElem?_cons_succ, List.getElem?_cons_zero] at h3
  obtain ⟨a, cap, rfl, hcap, hcm⟩ := (Sl.of_own h.row).shape
  have hw0 := hfit.wl
  have hst := stOk sel m hfit
  have HST := Lib.hid hst
  have HIS := Lib.hid his
  have HJS := Lib.hid hJs
  have HE := Lib.hid hent
  have H := Lib.hid h
  have HA := Lib.hid hA
  have HC := Lib.hid hC
  have HF := Lib.hid hfit
  have HV := Lib.hid (fun g hg => (h.row.lt g hg).2)
  clear hst his hJs h hA hC hfit hent
  go_enter Tryz.func31, Tryz.ntmps31
  go_wp2_with (first | (at_builtin; refine wl_append rfl _ _ _ _ rfl _ _ rfl rfl ?_) | (at_make; refine wl_make rfl _ _ _ rfl _ _ rfl rfl ?_) | (at_mapUpdate; refine wl_mapUpdate rfl _ _ _ _ rfl _ _ _ rfl rfl rfl ?_) | (at_lookup; refine wl_lookup rfl _ _ _ _ rfl _ _ rfl rfl ?_) | (at_delete; refine wl_delete rfl _ _ _ _ rfl _ _ rfl rfl ?_) | (with_reducible refine wl_len rfl _ _ rfl _ rfl ?_) | (with_reducible refine wl_range rfl _ _ rfl _ rfl ?_) | (with_reducible refine wl_next rfl _ rfl _ rfl ?_) | (with_reducible refine wl_copy rfl _ _ _ _ rfl _ _ rfl rfl ?_) | (with_reducible refine wl_max rfl _ _ _ _ rfl _ _ rfl rfl ?_) | (with_reducible refine wl_min rfl _ _ _ _ rfl _ _ rfl rfl ?_))
  go_loopw [4, 12] (fun lv kv wr => ∃ k : Nat, kv = .int .i64 k ∧ k ≤ m.wait.length ∧ SInv A C w d m sel fb nb sb (.slice a m.wait.length cap) rows k lv wr ∧ J k wr) (fun _ kv _ => m.wait.length - (intOf kv).toNat)
  case atStart =>
    have h := H.out
    refine ⟨0, rfl, Nat.zero_le _, ⟨?_, ⟨[], ?_⟩, Keep.refl _ _⟩, hJ0⟩
    · rw [st_zero]; exact h.mono fun j _ ha => .inl ha
    · rw [st_zero]; exact ⟨World.ownsRow_nil _ _ _ _, fun g hg => (by cases hg), rfl, fun i o ho => by simp at ho⟩
  case round =>
    obtain ⟨k, rfl, hk, hI, hJ⟩ := hrel
    obtain ⟨lrows, hleft⟩ := hI.left
    obtain ⟨la, lc, rfl, hlc, hlm⟩ := (Sl.of_own hleft.row).shape
    rcases Nat.lt_or_ge k m.wait.length with hkn | hkn
    · obtain ⟨o, ho⟩ : ∃ o, m.wait[k]? = some o := ⟨_, List.getElem?_eq_getElem hkn⟩
      obtain ⟨cs, hcs, hp⟩ := hI.rep.pend k o ho
      obtain ⟨p0, p1, p2, p3, rfl, hpp⟩ := hp.four
      obtain ⟨g, off, cap', e1, hg1, hg2, _, _, hcell⟩ := (Sl.of_own hI.rep.row).at (by show 0 < m.wait.length; omega)
      cases e1
      have c0 : wr.cell? ⟨g, off + k * 4, none⟩ = some p0 := hcell (k * 4 + 0) p0 (by rw [flat_at rows hI.rep.rows4 k _ hcs 0 (by omega)]; rfl)
      have c1 : wr.cell? ⟨g, off + k * 4 + 1, none⟩ = some p1 := hcell (k * 4 + 1) p1 (by rw [flat_at rows hI.rep.rows4 k _ hcs 1 (by omega)]; rfl)
      have c2 : wr.cell? ⟨g, off + k * 4 + 2, none⟩ = some p2 := hcell (k * 4 + 2) p2 (by rw [flat_at rows hI.rep.rows4 k _ hcs 2 (by omega)]; rfl)
      have c3 : wr.cell? ⟨g, off + k * 4 + 3, none⟩ = some p3 := hcell (k * 4 + 3) p3 (by rw [flat_at rows hI.rep.rows4 k _ hcs 3 (by omega)]; rfl)
      have hwb := (HF.out.wb o (List.mem_of_getElem? ho))
      have hOK := HST.out k hk
      have hsl := hOK.ul o.file
      have hwl := hOK.wl
      have hSl := hOK.S
      have hS0 := HF.out.sl
      have hSb : (st sel m k).S.length ≤ 1099511627776 := by omega
      have HO := Lib.hid ho
      clear hcell hcs ho hOK
      have hent : ∀ v : Value, ∀ w : World, (callFunc f (#[v] ++ caps)).run Tryz.prog w = .ok (.enter f (#[v] ++ caps)) w := fun v => HE.out v
      rcases hpp with ⟨hk1, rfl, rfl, rfl, hdb⟩ | ⟨hk1, rfl, rfl, rfl, hfn⟩
      · obtain ⟨ba, bc, rfl, _, _⟩ := hdb.shape
        have hpf : fptr fb o.file = .pointer (some ⟨fb.getD o.file 0, 0, none⟩) := rfl
        rw [hpf] at c0 hp
        have HPF := Lib.hid hpf
        have HK1 := Lib.hid hk1
        clear hpf hk1
        generalize hb : fb.getD o.file 0 = b at *
        have HB := Lib.hid hb
        clear hb
        go_wp2_with (first | (at_builtin; refine wl_append rfl _ _ _ _ rfl _ _ rfl rfl ?_) | (at_make; refine wl_make rfl _ _ _ rfl _ _ rfl rfl ?_) | (at_mapUpdate; refine wl_mapUpdate rfl _ _ _ _ rfl _ _ _ rfl rfl rfl ?_) | (at_lookup; refine wl_lookup rfl _ _ _ _ rfl _ _ rfl rfl ?_) | (at_delete; refine wl_delete rfl _ _ _ _ rfl _ _ rfl rfl ?_) | (with_reducible refine wl_len rfl _ _ rfl _ rfl ?_) | (with_reducible refine wl_range rfl _ _ rfl _ rfl ?_) | (with_reducible refine wl_next rfl _ rfl _ rfl ?_) | (with_reducible refine wl_copy rfl _ _ _ _ rfl _ _ rfl rfl ?_) | (with_reducible refine wl_max rfl _ _ _ _ rfl _ _ rfl rfl ?_) | (with_reducible refine wl_min rfl _ _ _ _ rfl _ _ rfl rfl ?_))
        generalize hW : wr.alloc (Obj.cells #[.pointer (some ⟨b, 0, none⟩), .int .i64 o.at_, .slice ba o.b.length bc, .nilFunc] 71) = W
        have hWs : W.heap.size = wr.heap.size + 1 := by subst hW; simp
        have hkW : Keep No wr W := by subst hW; exact (Keep.refl _ _).alloc _
        have hR : Blk W wr.heap.size #[.pointer (some ⟨b, 0, none⟩), .int .i64 o.at_, .slice ba o.b.length bc, .nilFunc] 71 := by subst hW; exact Blk.new _ _ _
        clear hW
        have hJ1 := HJS.out k wr W hJ hkW.size fun j hc => hkW.block j (by have := HC.out j hc; have := hI.keep.size; omega) fun h => h
        refine (HIS.out k o _ _ _ _ W hJ1 (hI.carry HA.out HC.out (hkW.mono fun _ _ h => h.elim)).rep HO.out (.inl ⟨HK1.out, by rw [HPF.out]⟩)).mono ?_
        rintro e w3 ⟨rfl, hJ3, hk3⟩
        have hkW3 : Keep C wr w3 := (hkW.mono fun _ _ h => h.elim).trans' hk3
        have hI3 := hI.carry HA.out HC.out hkW3
        have nC : ∀ j, w.heap.size ≤ j → ¬ C j := fun j hj hc => by have := HC.out j hc; omega
        have hws := hI.keep.size
        have hR3 := hR.keep hk3 (nC _ hws)
        have q0 := hR3.cell 0
        have q1 := hR3.cell 1
        have q2 := hR3.cell 2
        have q3 := hR3.cell 3
        simp only [List.getElem?_toArray, List.getElem?_cons_succ, List.getElem?_cons_zero] at q0 q1 q2 q3
        have e3 : ∀ j, Plus A w wr j → w3.heap[j]? = wr.heap[j]? := fun j hj => hkW3.block j (hI.lt HA.out hj) (SInv.notC HC.out hj)
        have hp3 := (hp.same hkW3.size fun j hj _ => e3 j hj).mono fun j _ => plus_le hkW3.size j
        have hleft3 := (hleft.same hkW3.size fun j hj _ => e3 j hj).mono fun j _ => plus_le hkW3.size j
        by_cases hse : sel k = true
        · have HSE := Lib.hid hse
          rw [hse]
          clear hse
          go_wp2_with (first | (at_builtin; refine wl_append rfl _ _ _ _ rfl _ _ rfl rfl ?_) | (at_make; refine wl_make rfl _ _ _ rfl _ _ rfl rfl ?_) | (at_mapUpdate; refine wl_mapUpdate rfl _ _ _ _ rfl _ _ _ rfl rfl rfl ?_) | (at_lookup; refine wl_lookup rfl _ _ _ _ rfl _ _ rfl rfl ?_) | (at_delete; refine wl_delete rfl _ _ _ _ rfl _ _ rfl rfl ?_) | (with_reducible refine wl_len rfl _ _ rfl _ rfl ?_) | (with_reducible refine wl_range rfl _ _ rfl _ rfl ?_) | (with_reducible refine wl_next rfl _ rfl _ rfl ?_) | (with_reducible refine wl_copy rfl _ _ _ _ rfl _ _ rfl rfl ?_) | (with_reducible refine wl_max rfl _ _ _ _ rfl _ _ rfl rfl ?_) | (with_reducible refine wl_min rfl _ _ _ _ rfl _ _ rfl rfl ?_))
          have hlive : Live { st sel m k with wait := m.wait } o.file := .inr (.inr ⟨o, List.mem_of_getElem? HO.out, .inl HK1.out, rfl⟩)
          obtain ⟨_, hfA, v1, v2, hblk, hv1, hv2⟩ := hI3.rep.file o.file hlive
          have hbl := hblk.lt
          obtain ⟨a2, c2', rfl, _, _⟩ := hv2.shape
          have hv2' : DB (Plus A w w3) w3 (.slice a2 ((st sel m k).sure.getD o.file []).length c2') ((st sel m k).sure.getD o.file []) := hv2
          have q4 := hblk.cell 1
          have hfz := hblk.frozen 1
          simp only [List.getElem?_toArray, List.getElem?_cons_succ, List.getElem?_cons_zero, HB.out] at q4 hfz hbl
          have q4' : w3.cell? ⟨b, 1, none⟩ = some (.slice a2 ((st sel m k).sure.getD o.file []).length c2') := q4
          clear q4
          generalize hX : (st sel m k).sure.getD o.file [] = X at *
          have HX := Lib.hid hX
          clear hX
          have hlb : Bts (fun j => j < w3.heap.size) w3 (.slice a2 X.length c2') X := Sl.mono hv2'.bts (fun j hj _ => hj)
          have hdb3 : DB (Plus A w w3) w3 (.slice ba o.b.length bc) o.b := (hdb.same hkW3.size fun j _ hj _ => e3 j hj).mono fun j _ => plus_le hkW3.size j
          have hlb2 : Bts (fun j => j < w3.heap.size) w3 (.slice ba o.b.length bc) o.b := Sl.mono hdb3.bts (fun j hj _ => hj)
          have hlr : wr.heap.size < w3.heap.size := hR3.lt
          refine wp_region_sig (fun w' => w'.cell? ⟨wr.heap.size, 0, none⟩ = some (.pointer (some ⟨b, 0, none⟩)) ∧ w'.cell? ⟨wr.heap.size, 1, none⟩ = some (.int .i64 o.at_) ∧ w'.cell? ⟨wr.heap.size, 2, none⟩ = some (.slice ba o.b.length bc) ∧ w'.cell? ⟨b, 1, none⟩ = some (.slice a2 X.length c2')) (fun j => decide (j ≤ 11))
            [(0, true), (1, true), (2, true), (3, true), (4, true), (5, true), (6, true), (7, true), (8, true), (9, true), (10, true), (11, false), (12, false), (13, false), (14, false)] (by kernel_rfl) (by kernel_rfl) (by intro c a d v w h; cases d <;> exact h) ⟨q0, q1, q2, q4'⟩ ?_
          apply sig_still (o := ⟨some 36, _, _, _, _, _⟩) rfl rfl
          · intro w' hS
            obtain ⟨q1, q2, q3, q4⟩ := hS
            first | (go_simp; done) | (go_simp; rfl) | rfl
          go_frame
          apply sig_still (o := ⟨some 37, _, _, _, _, _⟩) rfl rfl
          · intro w' hS
            obtain ⟨q1, q2, q3, q4⟩ := hS
            first | (go_simp; done) | (go_simp; rfl) | rfl
          go_frame
          apply sig_still (o := ⟨some 38, _, _, _, _, _⟩) rfl rfl
          · intro w' hS
            obtain ⟨q1, q2, q3, q4⟩ := hS
            first | (go_simp; done) | (go_simp; rfl) | rfl
          go_frame
          apply sig_still (o := ⟨some 39, _, _, _, _, _⟩) rfl rfl
          · intro w' hS
            obtain ⟨q1, q2, q3, q4⟩ := hS
            first | (go_simp; done) | (go_simp; rfl) | rfl
          go_frame
          apply sig_still (o := ⟨some 40, _, _, _, _, _⟩) rfl rfl
          · intro w' hS
            obtain ⟨q1, q2, q3, q4⟩ := hS
            first | (go_simp; done) | (go_simp; rfl) | rfl
          go_frame
          apply sig_still (o := ⟨some 41, _, _, _, _, _⟩) rfl rfl
          · intro w' hS
            obtain ⟨q1, q2, q3, q4⟩ := hS
            first | (go_simp; done) | (go_simp; rfl) | rfl
          go_frame
          apply sig_still (o := ⟨some 42, _, _, _, _, _⟩) rfl rfl
          · intro w' hS
            obtain ⟨q1, q2, q3, q4⟩ := hS
            first | (go_simp; done) | (go_simp; rfl) | rfl
          go_frame
          apply sig_still (o := ⟨some 43, _, _, _, _, _⟩) rfl rfl
          · intro w' hS
            obtain ⟨q1, q2, q3, q4⟩ := hS
            first | (go_simp; done) | (go_simp; rfl) | rfl
          go_frame
          apply sig_still (o := ⟨some 44, _, _, _, _, _⟩) rfl rfl
          · intro w' hS
            obtain ⟨q1, q2, q3, q4⟩ := hS
            first | (go_simp; done) | (go_simp; rfl) | rfl
          go_frame
          apply sig_still (o := ⟨some 45, _, _, _, _, _⟩) rfl rfl
          · intro w' hS
            obtain ⟨q1, q2, q3, q4⟩ := hS
            first | (go_simp; done) | (go_simp; rfl) | rfl
          go_frame
          apply sig_still (o := ⟨some 46, _, _, _, _, _⟩) rfl rfl
          · intro w' hS
            obtain ⟨q1, q2, q3, q4⟩ := hS
            first | (go_simp; done) | (go_simp; rfl) | rfl
          go_frame
          refine sig_eff (o := ⟨some 47, _, _, _, _, _⟩) rfl rfl (fun K hK => ?_)
          go_wp2_with (first | (at_builtin; refine wl_append rfl _ _ _ _ rfl _ _ rfl rfl ?_) | (at_make; refine wl_make rfl _ _ _ rfl _ _ rfl rfl ?_) | (at_mapUpdate; refine wl_mapUpdate rfl _ _ _ _ rfl _ _ _ rfl rfl rfl ?_) | (at_lookup; refine wl_lookup rfl _ _ _ _ rfl _ _ rfl rfl ?_) | (at_delete; refine wl_delete rfl _ _ _ _ rfl _ _ rfl rfl ?_) | (with_reducible refine wl_len rfl _ _ rfl _ rfl ?_) | (with_reducible refine wl_range rfl _ _ rfl _ rfl ?_) | (with_reducible refine wl_next rfl _ rfl _ rfl ?_) | (with_reducible refine wl_copy rfl _ _ _ _ rfl _ _ rfl rfl ?_) | (with_reducible refine wl_max rfl _ _ _ _ rfl _ _ rfl rfl ?_) | (with_reducible refine wl_min rfl _ _ _ _ rfl _ _ rfl rfl ?_))
          refine (laid_any (A := fun j => j < w3.heap.size) _ _ X o.b o.at_ _ (by exact hlb) (by exact hlb2) hsl (by omega) (by omega)).mono ?_
          rintro e w4 ⟨rfl, hb4, hk4⟩
          have r0 : w4.cell? ⟨wr.heap.size, 0, none⟩ = _ := (hk4.cell (p := ⟨wr.heap.size, 0, none⟩) hlr (fun h => h)).trans q0
          have r1 : w4.cell? ⟨wr.heap.size, 1, none⟩ = _ := (hk4.cell (p := ⟨wr.heap.size, 1, none⟩) hlr (fun h => h)).trans q1
          have r2 : w4.cell? ⟨wr.heap.size, 2, none⟩ = _ := (hk4.cell (p := ⟨wr.heap.size, 2, none⟩) hlr (fun h => h)).trans q2
          have r3 : w4.cell? ⟨b, 1, none⟩ = _ := (hk4.cell (p := ⟨b, 1, none⟩) hbl (fun h => h)).trans q4'
          have r4 : w4.frozen? ⟨b, 1, none⟩ = _ := (hk4.frozen (p := ⟨b, 1, none⟩) hbl (fun h => h)).trans hfz
          go_wp2_with (first | (at_builtin; refine wl_append rfl _ _ _ _ rfl _ _ rfl rfl ?_) | (at_make; refine wl_make rfl _ _ _ rfl _ _ rfl rfl ?_) | (at_mapUpdate; refine wl_mapUpdate rfl _ _ _ _ rfl _ _ _ rfl rfl rfl ?_) | (at_lookup; refine wl_lookup rfl _ _ _ _ rfl _ _ rfl rfl ?_) | (at_delete; refine wl_delete rfl _ _ _ _ rfl _ _ rfl rfl ?_) | (with_reducible refine wl_len rfl _ _ rfl _ rfl ?_) | (with_reducible refine wl_range rfl _ _ rfl _ rfl ?_) | (with_reducible refine wl_next rfl _ rfl _ rfl ?_) | (with_reducible refine wl_copy rfl _ _ _ _ rfl _ _ rfl rfl ?_) | (with_reducible refine wl_max rfl _ _ _ _ rfl _ _ rfl rfl ?_) | (with_reducible refine wl_min rfl _ _ _ _ rfl _ _ rfl rfl ?_))
          refine ⟨fun _ => ⟨r0, r1, r2, r3⟩, ?_⟩
          refine sig_eff (o := ⟨some 48, .nilCheck (.tmp 37), _, _, _, none⟩) rfl rfl (fun K hK => ?_)
          go_simp
          refine hK _ _ ⟨fun h => (by cases h), ?_⟩
          refine sig_eff (o := ⟨some 49, .fieldAddr 76 (.tmp 48) 1, _, _, _, none⟩) rfl rfl (fun K hK => ?_)
          go_simp
          refine hK _ _ ⟨fun h => (by cases h), ?_⟩
          refine sig_eff (o := ⟨none, .store 46 (.tmp 49) (.tmp 47), _, _, _, none⟩) rfl rfl (fun K hK => ?_)
          go_simp
          refine hK _ _ ⟨fun h => (by cases h), sig_nil ?_⟩
          have hk4' : Keep No w3 w4 := ⟨hk4.os, hk4.tape, hk4.output, hk4.size, hk4.block⟩
          have hb4' : Blk w4 w3.heap.size ((laidB X o.at_ o.b).map bv).toArray 5 := hb4
          have hlen := length_laidB X o.at_ o.b
          have hll : (laidB X o.at_ o.b).length ≤ maxLen := by unfold maxLen; omega
          have hfin := hI3.filed (nv := .slice (some ⟨w3.heap.size, 0, none⟩) (laidB X o.at_ o.b).length (laidB X o.at_ o.b).length) HO.out HSE.out HK1.out hk4' (by rw [HX.out]; exact hb4') (by rw [HX.out]; exact hll) (by rw [HX.out])
          rw [HB.out] at hfin
          obtain ⟨hI5, hk35⟩ := hfin
          have hJ5 := HJS.out (k + 1) w3 _ hJ3 hk35.size fun j hc => hk35.block j (by have := HC.out j hc; have := hkW3.size; omega) fun h => SInv.notC HC.out h hc
          clear hlen hll r0 r1 r2 r3 r4
          go_wp2_with (first | (at_builtin; refine wl_append rfl _ _ _ _ rfl _ _ rfl rfl ?_) | (at_make; refine wl_make rfl _ _ _ rfl _ _ rfl rfl ?_) | (at_mapUpdate; refine wl_mapUpdate rfl _ _ _ _ rfl _ _ _ rfl rfl rfl ?_) | (at_lookup; refine wl_lookup rfl _ _ _ _ rfl _ _ rfl rfl ?_) | (at_delete; refine wl_delete rfl _ _ _ _ rfl _ _ rfl rfl ?_) | (with_reducible refine wl_len rfl _ _ rfl _ rfl ?_) | (with_reducible refine wl_range rfl _ _ rfl _ rfl ?_) | (with_reducible refine wl_next rfl _ rfl _ rfl ?_) | (with_reducible refine wl_copy rfl _ _ _ _ rfl _ _ rfl rfl ?_) | (with_reducible refine wl_max rfl _ _ _ _ rfl _ _ rfl rfl ?_) | (with_reducible refine wl_min rfl _ _ _ _ rfl _ _ rfl rfl ?_))
          go_roundw
          case rel => exact ⟨k + 1, by simp, by omega, hI5, hJ5⟩
          case measure => simp [intOf]; omega
        · have hse : sel k = false := by simpa using hse
          have HSE := Lib.hid hse
          rw [hse]
          clear hse
          go_wp2_with (first | (at_builtin; refine wl_append rfl _ _ _ _ rfl _ _ rfl rfl ?_) | (at_make; refine wl_make rfl _ _ _ rfl _ _ rfl rfl ?_) | (at_mapUpdate; refine wl_mapUpdate rfl _ _ _ _ rfl _ _ _ rfl rfl rfl ?_) | (at_lookup; refine wl_lookup rfl _ _ _ _ rfl _ _ rfl rfl ?_) | (at_delete; refine wl_delete rfl _ _ _ _ rfl _ _ rfl rfl ?_) | (with_reducible refine wl_len rfl _ _ rfl _ rfl ?_) | (with_reducible refine wl_range rfl _ _ rfl _ rfl ?_) | (with_reducible refine wl_next rfl _ rfl _ rfl ?_) | (with_reducible refine wl_copy rfl _ _ _ _ rfl _ _ rfl rfl ?_) | (with_reducible refine wl_max rfl _ _ _ _ rfl _ _ rfl rfl ?_) | (with_reducible refine wl_min rfl _ _ _ _ rfl _ _ rfl rfl ?_))
          have hro : (w3.alloc (.cells #[.pointer (some ⟨b, 0, none⟩), .int .i64 o.at_, .slice ba o.b.length bc, .nilFunc] 71)).ownsRow w.heap.size 71 4 (.slice la (st sel m k).wait.length lc) (st sel m k).wait.length lrows.flatten := hleft3.row.alloc _
          refine rg_append w.heap.size 71 _ 4 48 Tryz.underlying58 info_pend rfl (by decide) hro (Sl.new w3 _ _ (by rfl) (by unfold maxLen; omega)) (by simp [Value.oneCell']) (by unfold maxLen; omega) (by omega) (by have := hkW3.size; simp; omega) ?_
          intro v' w5 hro5 hk5 _ hloc
          obtain ⟨hI5, hk35⟩ := hI3.pushed HA.out HV.out HO.out HSE.out hleft3 hp3 ((Keep.refl _ _).alloc _) hro5 hk5 hloc
          have hJ5 := HJS.out (k + 1) w3 w5 hJ3 hk35.size fun j hc => hk35.block j (by have := HC.out j hc; have := hkW3.size; omega) fun h => nC j h hc
          go_wp2_with (first | (at_builtin; refine wl_append rfl _ _ _ _ rfl _ _ rfl rfl ?_) | (at_make; refine wl_make rfl _ _ _ rfl _ _ rfl rfl ?_) | (at_mapUpdate; refine wl_mapUpdate rfl _ _ _ _ rfl _ _ _ rfl rfl rfl ?_) | (at_lookup; refine wl_lookup rfl _ _ _ _ rfl _ _ rfl rfl ?_) | (at_delete; refine wl_delete rfl _ _ _ _ rfl _ _ rfl rfl ?_) | (with_reducible refine wl_len rfl _ _ rfl _ rfl ?_) | (with_reducible refine wl_range rfl _ _ rfl _ rfl ?_) | (with_reducible refine wl_next rfl _ rfl _ rfl ?_) | (with_reducible refine wl_copy rfl _ _ _ _ rfl _ _ rfl rfl ?_) | (with_reducible refine wl_max rfl _ _ _ _ rfl _ _ rfl rfl ?_) | (with_reducible refine wl_min rfl _ _ _ _ rfl _ _ rfl rfl ?_))
          go_roundw
          case rel => exact ⟨k + 1, by simp, by omega, hI5, hJ5⟩
          case measure => simp [intOf]; omega
      · obtain ⟨fn, fcaps, rfl, _, _⟩ := name_any wr hfn hwb.2.1 hwb.2.2 hSb hI.rep.sm
        have HK1 := Lib.hid hk1
        clear hk1
        go_wp2_with (first | (at_builtin; refine wl_append rfl _ _ _ _ rfl _ _ rfl rfl ?_) | (at_make; refine wl_make rfl _ _ _ rfl _ _ rfl rfl ?_) | (at_mapUpdate; refine wl_mapUpdate rfl _ _ _ _ rfl _ _ _ rfl rfl rfl ?_) | (at_lookup; refine wl_lookup rfl _ _ _ _ rfl _ _ rfl rfl ?_) | (at_delete; refine wl_delete rfl _ _ _ _ rfl _ _ rfl rfl ?_) | (with_reducible refine wl_len rfl _ _ rfl _ rfl ?_) | (with_reducible refine wl_range rfl _ _ rfl _ rfl ?_) | (with_reducible refine wl_next rfl _ rfl _ rfl ?_) | (with_reducible refine wl_copy rfl _ _ _ _ rfl _ _ rfl rfl ?_) | (with_reducible refine wl_max rfl _ _ _ _ rfl _ _ rfl rfl ?_) | (with_reducible refine wl_min rfl _ _ _ _ rfl _ _ rfl rfl ?_))
        generalize hW : wr.alloc (Obj.cells #[.pointer none, .int .i64 0, .slice none 0 0, .func (.func fn) #[] fcaps] 71) = W
        have hWs : W.heap.size = wr.heap.size + 1 := by subst hW; simp
        have hkW : Keep No wr W := by subst hW; exact (Keep.refl _ _).alloc _
        have hR : Blk W wr.heap.size #[.pointer none, .int .i64 0, .slice none 0 0, .func (.func fn) #[] fcaps] 71 := by subst hW; exact Blk.new _ _ _
        clear hW
        have hJ1 := HJS.out k wr W hJ hkW.size fun j hc => hkW.block j (by have := HC.out j hc; have := hI.keep.size; omega) fun h => h
        refine (HIS.out k o _ _ _ _ W hJ1 (hI.carry HA.out HC.out (hkW.mono fun _ _ h => h.elim)).rep HO.out (.inr ⟨HK1.out, rfl⟩)).mono ?_
        rintro e w3 ⟨rfl, hJ3, hk3⟩
        have hkW3 : Keep C wr w3 := (hkW.mono fun _ _ h => h.elim).trans' hk3
        have hI3 := hI.carry HA.out HC.out hkW3
        have nC : ∀ j, w.heap.size ≤ j → ¬ C j := fun j hj hc => by have := HC.out j hc; omega
        have hws := hI.keep.size
        have hR3 := hR.keep hk3 (nC _ hws)
        have q0 := hR3.cell 0
        have q1 := hR3.cell 1
        have q2 := hR3.cell 2
        have q3 := hR3.cell 3
        simp only [List.getElem?_toArray, List.getElem?_cons_succ, List.getElem?_cons_zero] at q0 q1 q2 q3
        have e3 : ∀ j, Plus A w wr j → w3.heap[j]? = wr.heap[j]? := fun j hj => hkW3.block j (hI.lt HA.out hj) (SInv.notC HC.out hj)
        have hp3 := (hp.same hkW3.size fun j hj _ => e3 j hj).mono fun j _ => plus_le hkW3.size j
        have hleft3 := (hleft.same hkW3.size fun j hj _ => e3 j hj).mono fun j _ => plus_le hkW3.size j
        by_cases hse : sel k = true
        · have HSE := Lib.hid hse
          rw [hse]
          clear hse
          go_wp2_with (first | (at_builtin; refine wl_append rfl _ _ _ _ rfl _ _ rfl rfl ?_) | (at_make; refine wl_make rfl _ _ _ rfl _ _ rfl rfl ?_) | (at_mapUpdate; refine wl_mapUpdate rfl _ _ _ _ rfl _ _ _ rfl rfl rfl ?_) | (at_lookup; refine wl_lookup rfl _ _ _ _ rfl _ _ rfl rfl ?_) | (at_delete; refine wl_delete rfl _ _ _ _ rfl _ _ rfl rfl ?_) | (with_reducible refine wl_len rfl _ _ rfl _ rfl ?_) | (with_reducible refine wl_range rfl _ _ rfl _ rfl ?_) | (with_reducible refine wl_next rfl _ rfl _ rfl ?_) | (with_reducible refine wl_copy rfl _ _ _ _ rfl _ _ rfl rfl ?_) | (with_reducible refine wl_max rfl _ _ _ _ rfl _ _ rfl rfl ?_) | (with_reducible refine wl_min rfl _ _ _ _ rfl _ _ rfl rfl ?_))
          have q4 := hI3.rep.blk.cell 2
          simp only [List.getElem?_toArray, List.getElem?_cons_succ, List.getElem?_cons_zero] at q4
          have hfn3 : NameFn (Plus A w w3) w3 fb o (.func (.func fn) #[] fcaps) := by
            rcases hp3 with ⟨hk2, v, hc, _⟩ | ⟨c, hc, hn⟩
            · exact absurd hk2 HK1.out
            · have e5 : Value.func (.func fn) #[] fcaps = c := by
                simp only [List.cons.injEq, and_true, true_and] at hc
                exact hc
              rw [e5]; exact hn
          obtain ⟨f', caps', e6, hent', hcall⟩ := name_any w3.drew (by exact hfn3) hwb.2.1 hwb.2.2 hSb (by exact hI3.rep.sm)
          cases e6
          have HCA := Lib.hid hcall
          clear hcall hfn3
          unfold Enters at hent'
          refine wp_region_sig (fun w' => w'.cell? ⟨wr.heap.size, 3, none⟩ = some (.func (.func fn) #[] fcaps) ∧ w'.cell? ⟨d, 2, none⟩ = some (.map (some sb))) (fun j => decide (j ≤ 6))
            [(0, true), (1, true), (2, true), (3, true), (4, true), (5, true), (6, false)] (by kernel_rfl) (by kernel_rfl) (by intro c a d v w h; cases d <;> exact h) ⟨q3, q4⟩ ?_
          apply sig_still (o := ⟨some 16, _, _, _, _, _⟩) rfl rfl
          · intro w' hS
            obtain ⟨q1, q2⟩ := hS
            first | (go_simp; done) | (go_simp; rfl) | rfl
          go_frame
          apply sig_still (o := ⟨some 17, _, _, _, _, _⟩) rfl rfl
          · intro w' hS
            obtain ⟨q1, q2⟩ := hS
            first | (go_simp; done) | (go_simp; rfl) | rfl
          go_frame
          apply sig_still (o := ⟨some 18, _, _, _, _, _⟩) rfl rfl
          · intro w' hS
            obtain ⟨q1, q2⟩ := hS
            first | (go_simp; done) | (go_simp; rfl) | rfl
          go_frame
          apply sig_still (o := ⟨some 19, _, _, _, _, _⟩) rfl rfl
          · intro w' hS
            obtain ⟨q1, q2⟩ := hS
            first | (go_simp; done) | (go_simp; rfl) | rfl
          go_frame
          apply sig_still (o := ⟨some 20, _, _, _, _, _⟩) rfl rfl
          · intro w' hS
            obtain ⟨q1, q2⟩ := hS
            first | (go_simp; done) | (go_simp; rfl) | rfl
          go_frame
          apply sig_still (o := ⟨some 21, _, _, _, _, _⟩) rfl rfl
          · intro w' hS
            obtain ⟨q1, q2⟩ := hS
            first | (go_simp; done) | (go_simp; rfl) | rfl
          go_frame
          refine sig_eff (o := ⟨some 22, _, _, _, _, _⟩) rfl rfl (fun K hK => ?_)
          go_wp2_with (first | (at_builtin; refine wl_append rfl _ _ _ _ rfl _ _ rfl rfl ?_) | (at_make; refine wl_make rfl _ _ _ rfl _ _ rfl rfl ?_) | (at_mapUpdate; refine wl_mapUpdate rfl _ _ _ _ rfl _ _ _ rfl rfl rfl ?_) | (at_lookup; refine wl_lookup rfl _ _ _ _ rfl _ _ rfl rfl ?_) | (at_delete; refine wl_delete rfl _ _ _ _ rfl _ _ rfl rfl ?_) | (with_reducible refine wl_len rfl _ _ rfl _ rfl ?_) | (with_reducible refine wl_range rfl _ _ rfl _ rfl ?_) | (with_reducible refine wl_next rfl _ rfl _ rfl ?_) | (with_reducible refine wl_copy rfl _ _ _ _ rfl _ _ rfl rfl ?_) | (with_reducible refine wl_max rfl _ _ _ _ rfl _ _ rfl rfl ?_) | (with_reducible refine wl_min rfl _ _ _ _ rfl _ _ rfl rfl ?_))
          refine HCA.out.mono ?_
          rintro e w4 ⟨rfl, hm4, hk4⟩
          have hk4' : Keep (fun j => j = sb) w3 w4 := ⟨hk4.os, hk4.tape, hk4.output, hk4.size, hk4.block⟩
          have nsd : ¬ d = sb := fun e => hI3.rep.sm.ne_blk hI3.rep.blk e.symm
          have nsr : ¬ wr.heap.size = sb := fun e => hI3.rep.sm.ne_blk hR3 e.symm
          have r3 := (hk4'.cell (p := ⟨wr.heap.size, 3, none⟩) hR3.lt nsr).trans q3
          have r4 := (hk4'.cell (p := ⟨d, 2, none⟩) hI3.rep.blk.lt nsd).trans q4
          obtain ⟨hI5, hk35⟩ := hI3.named HO.out HSE.out HK1.out hk4' hm4
          have hJ5 := HJS.out (k + 1) w3 w4 hJ3 hk35.size fun j hc => hk35.block j (by have := HC.out j hc; have := hkW3.size; omega) fun h => SInv.notC HC.out h hc
          refine hK _ _ ⟨fun _ => ⟨r3, r4⟩, sig_nil ?_⟩
          go_wp2_with (first | (at_builtin; refine wl_append rfl _ _ _ _ rfl _ _ rfl rfl ?_) | (at_make; refine wl_make rfl _ _ _ rfl _ _ rfl rfl ?_) | (at_mapUpdate; refine wl_mapUpdate rfl _ _ _ _ rfl _ _ _ rfl rfl rfl ?_) | (at_lookup; refine wl_lookup rfl _ _ _ _ rfl _ _ rfl rfl ?_) | (at_delete; refine wl_delete rfl _ _ _ _ rfl _ _ rfl rfl ?_) | (with_reducible refine wl_len rfl _ _ rfl _ rfl ?_) | (with_reducible refine wl_range rfl _ _ rfl _ rfl ?_) | (with_reducible refine wl_next rfl _ rfl _ rfl ?_) | (with_reducible refine wl_copy rfl _ _ _ _ rfl _ _ rfl rfl ?_) | (with_reducible refine wl_max rfl _ _ _ _ rfl _ _ rfl rfl ?_) | (with_reducible refine wl_min rfl _ _ _ _ rfl _ _ rfl rfl ?_))
          go_roundw
          case rel => exact ⟨k + 1, by simp, by omega, hI5, hJ5⟩
          case measure => simp [intOf]; omega
        · have hse : sel k = false := by simpa using hse
          have HSE := Lib.hid hse
          rw [hse]
          clear hse
          go_wp2_with (first | (at_builtin; refine wl_append rfl _ _ _ _ rfl _ _ rfl rfl ?_) | (at_make; refine wl_make rfl _ _ _ rfl _ _ rfl rfl ?_) | (at_mapUpdate; refine wl_mapUpdate rfl _ _ _ _ rfl _ _ _ rfl rfl rfl ?_) | (at_lookup; refine wl_lookup rfl _ _ _ _ rfl _ _ rfl rfl ?_) | (at_delete; refine wl_delete rfl _ _ _ _ rfl _ _ rfl rfl ?_) | (with_reducible refine wl_len rfl _ _ rfl _ rfl ?_) | (with_reducible refine wl_range rfl _ _ rfl _ rfl ?_) | (with_reducible refine wl_next rfl _ rfl _ rfl ?_) | (with_reducible refine wl_copy rfl _ _ _ _ rfl _ _ rfl rfl ?_) | (with_reducible refine wl_max rfl _ _ _ _ rfl _ _ rfl rfl ?_) | (with_reducible refine wl_min rfl _ _ _ _ rfl _ _ rfl rfl ?_))
          have hro : (w3.alloc (.cells #[.pointer none, .int .i64 0, .slice none 0 0, .func (.func fn) #[] fcaps] 71)).ownsRow w.heap.size 71 4 (.slice la (st sel m k).wait.length lc) (st sel m k).wait.length lrows.flatten := hleft3.row.alloc _
          refine rg_append w.heap.size 71 _ 4 48 Tryz.underlying58 info_pend rfl (by decide) hro (Sl.new w3 _ _ (by rfl) (by unfold maxLen; omega)) (by simp [Value.oneCell']) (by unfold maxLen; omega) (by omega) (by have := hkW3.size; simp; omega) ?_
          intro v' w5 hro5 hk5 _ hloc
          obtain ⟨hI5, hk35⟩ := hI3.pushed HA.out HV.out HO.out HSE.out hleft3 hp3 ((Keep.refl _ _).alloc _) hro5 hk5 hloc
          have hJ5 := HJS.out (k + 1) w3 w5 hJ3 hk35.size fun j hc => hk35.block j (by have := HC.out j hc; have := hkW3.size; omega) fun h => nC j h hc
          go_wp2_with (first | (at_builtin; refine wl_append rfl _ _ _ _ rfl _ _ rfl rfl ?_) | (at_make; refine wl_make rfl _ _ _ rfl _ _ rfl rfl ?_) | (at_mapUpdate; refine wl_mapUpdate rfl _ _ _ _ rfl _ _ _ rfl rfl rfl ?_) | (at_lookup; refine wl_lookup rfl _ _ _ _ rfl _ _ rfl rfl ?_) | (at_delete; refine wl_delete rfl _ _ _ _ rfl _ _ rfl rfl ?_) | (with_reducible refine wl_len rfl _ _ rfl _ rfl ?_) | (with_reducible refine wl_range rfl _ _ rfl _ rfl ?_) | (with_reducible refine wl_next rfl _ rfl _ rfl ?_) | (with_reducible refine wl_copy rfl _ _ _ _ rfl _ _ rfl rfl ?_) | (with_reducible refine wl_max rfl _ _ _ _ rfl _ _ rfl rfl ?_) | (with_reducible refine wl_min rfl _ _ _ _ rfl _ _ rfl rfl ?_))
          go_roundw
          case rel => exact ⟨k + 1, by simp, by omega, hI5, hJ5⟩
          case measure => simp [intOf]; omega
    · obtain rfl : k = m.wait.length := by omega
      have hblk := hI.rep.blk
      have q4 := hblk.cell 3
      have f4 := hblk.frozen 3
      simp only [List.getElem?_toArray, List.getElem?_cons_succ, List.getElem?_cons_zero] at q4
      go_wp2_with (first | (at_builtin; refine wl_append rfl _ _ _ _ rfl _ _ rfl rfl ?_) | (at_make; refine wl_make rfl _ _ _ rfl _ _ rfl rfl ?_) | (at_mapUpdate; refine wl_mapUpdate rfl _ _ _ _ rfl _ _ _ rfl rfl rfl ?_) | (at_lookup; refine wl_lookup rfl _ _ _ _ rfl _ _ rfl rfl ?_) | (at_delete; refine wl_delete rfl _ _ _ _ rfl _ _ rfl rfl ?_) | (with_reducible refine wl_len rfl _ _ rfl _ rfl ?_) | (with_reducible refine wl_range rfl _ _ rfl _ rfl ?_) | (with_reducible refine wl_next rfl _ rfl _ rfl ?_) | (with_reducible refine wl_copy rfl _ _ _ _ rfl _ _ rfl rfl ?_) | (with_reducible refine wl_max rfl _ _ _ _ rfl _ _ rfl rfl ?_) | (with_reducible refine wl_min rfl _ _ _ _ rfl _ _ rfl rfl ?_))
      go_end0
      have hOK := HST.out _ hk
      have hfin := hI.rep.rewait hleft hOK.sub
      have hAd := hI.rep.Ad
      have hK : Keep (Plus A w wr) wr (wr.setCell ⟨d, 3, none⟩ (.slice la (st sel m m.wait.length).wait.length lc)) := (Keep.refl _ _).setCell (fun _ => hAd) _
      refine ⟨rfl, ⟨fb, nb, sb, .slice la (st sel m m.wait.length).wait.length lc, lrows, ?_⟩, hI.keep.trans hK fun j hj h => ?_, HJS.out m.wait.length wr (wr.setCell ⟨d, 3, none⟩ (.slice la (st sel m m.wait.length).wait.length lc)) hJ hK.size fun j hc => hK.block j (by have := HC.out j hc; have := hI.keep.size; omega) fun h => SInv.notC HC.out h hc⟩
      · rw [← st_all]
        exact hfin.mono fun j _ => plus_le hK.size j
      · rcases h with h | h
        · exact .inl h
        · omega
end Go.Proofs.YtkmoomgmmhmaeaaGreat
namespace Go.Proofs.YtkmoomgmmhmaeaaGreat
open Go.RowKit Go.Dm Go.Dm.Dk Go.Maps

set_option maxRecDepth 100000 in
set_option maxHeartbeats 400000 in
theorem remove2_any {A : Nat → Prop} {d x y : Nat} {m : M} (s : List UInt8) (w : World) (h : DR A w d m) (hs : s.length ≤ maxLen) (hwl : m.wait.length ≤ 1099511627776)
    (hx : w.cell? ⟨x, 0, none⟩ = some (.pointer (some ⟨d, 0, none⟩))) (hy : Blk w y #[.string ⟨s.toArray⟩] 9) :
    Calls Tryz.prog 64 #[.pointer (some ⟨x, 0, none⟩), .pointer (some ⟨y, 0, none⟩)] w fun e w' => e = .returned (.tuple #[]) ∧ DR (Plus (fun k => A k ∨ k = y) w w') w' d (done m 5 s [] 0 []) ∧ Keep A w w' := by
  obtain ⟨fb, nb, sb, wv, rows, h0⟩ := h
  have h := h0.mono (B := fun k => A k ∨ k = y) fun k _ ha => .inl ha
  have hxl := World.block_lt_of_cell? w _ hx
  simp only at hxl
  have hfn : NameFn (fun k => A k ∨ k = y) w fb ⟨4, 0, 0, [], s, []⟩ (.func (.func 65) #[] #[ptrTo y]) :=
    ⟨y, y, .inr rfl, .inr rfl, .inr (.inr ⟨rfl, rfl, hy⟩)⟩
  have hfile : ∀ i, Live { m with L := without m.L s, wait := m.wait ++ [⟨4, 0, 0, [], s, []⟩] } i →
      i < m.is.length ∧ (A (fb.getD i 0) ∨ fb.getD i 0 = y) ∧ FileAt (fun k => A k ∨ k = y) w (fb.getD i 0) (m.is.getD i []) (m.sure.getD i []) := by
    intro i hi
    refine h.file i ?_
    rcases hi with ⟨s', hi⟩ | hi | ⟨o, ho, hk, rfl⟩
    · exact .inl ⟨s', (List.mem_filter.1 hi).1⟩
    · exact .inr (.inl hi)
    · rcases List.mem_append.1 ho with ho | ho
      · exact .inr (.inr ⟨o, ho, hk, rfl⟩)
      · simp at ho; subst ho; rcases hk with hk | hk <;> cases hk
  have HF := Lib.hid hfn
  have HFi := Lib.hid hfile
  have HI := Lib.hid h
  clear hfn hfile
  go_enter Tryz.func64, Tryz.ntmps64
  go_wp2_with (first | (at_builtin; refine wl_append rfl _ _ _ _ rfl _ _ rfl rfl ?_) | (at_make; refine wl_make rfl _ _ _ rfl _ _ rfl rfl ?_) | (at_mapUpdate; refine wl_mapUpdate rfl _ _ _ _ rfl _ _ _ rfl rfl rfl ?_) | (at_lookup; refine wl_lookup rfl _ _ _ _ rfl _ _ rfl rfl ?_) | (at_delete; refine wl_delete rfl _ _ _ _ rfl _ _ rfl rfl ?_) | (with_reducible refine wl_len rfl _ _ rfl _ rfl ?_) | (with_reducible refine wl_range rfl _ _ rfl _ rfl ?_) | (with_reducible refine wl_next rfl _ rfl _ rfl ?_) | (with_reducible refine wl_copy rfl _ _ _ _ rfl _ _ rfl rfl ?_) | (with_reducible refine wl_max rfl _ _ _ _ rfl _ _ rfl rfl ?_) | (with_reducible refine wl_min rfl _ _ _ _ rfl _ _ rfl rfl ?_))
  refine (change_any w HI.out ⟨4, 0, 0, [], s, []⟩ (without m.L s) hwl HF.out HFi.out (enters_remove21 _ _)
    (remove21_any s w hs h.nm ((hy.cell 0).trans rfl))).mono ?_
  rintro e w' ⟨rfl, h2, h3⟩
  go_wp2_with (first | (at_builtin; refine wl_append rfl _ _ _ _ rfl _ _ rfl rfl ?_) | (at_make; refine wl_make rfl _ _ _ rfl _ _ rfl rfl ?_) | (at_mapUpdate; refine wl_mapUpdate rfl _ _ _ _ rfl _ _ _ rfl rfl rfl ?_) | (at_lookup; refine wl_lookup rfl _ _ _ _ rfl _ _ rfl rfl ?_) | (at_delete; refine wl_delete rfl _ _ _ _ rfl _ _ rfl rfl ?_) | (with_reducible refine wl_len rfl _ _ rfl _ rfl ?_) | (with_reducible refine wl_range rfl _ _ rfl _ rfl ?_) | (with_reducible refine wl_next rfl _ rfl _ rfl ?_) | (with_reducible refine wl_copy rfl _ _ _ _ rfl _ _ rfl rfl ?_) | (with_reducible refine wl_max rfl _ _ _ _ rfl _ _ rfl rfl ?_) | (with_reducible refine wl_min rfl _ _ _ _ rfl _ _ rfl rfl ?_))
  go_end0
  refine ⟨rfl, h2, h3.mono fun k hk hs => ?_⟩
  rcases hs with rfl | rfl | hs
  · exact h0.An
  · exact h0.Ad
  · exact h0.rowA k hs.symm

set_option maxRecDepth 100000 in
set_option maxHeartbeats 400000 in
theorem rename2_any {A : Nat → Prop} {d x y z : Nat} {m : M} (s t : List UInt8) (w : World) (h : DR A w d m) (hs : s.length ≤ maxLen) (ht : t.length ≤ maxLen) (hwl : m.wait.length ≤ 1099511627776) (hL : m.L.length ≤ 1099511627776)
    (hx : w.cell? ⟨x, 0, none⟩ = some (.pointer (some ⟨d, 0, none⟩))) (hy : Blk w y #[.string ⟨s.toArray⟩] 9) (hz : Blk w z #[.string ⟨t.toArray⟩] 9) :
    Calls Tryz.prog 81 #[.pointer (some ⟨x, 0, none⟩), .pointer (some ⟨y, 0, none⟩), .pointer (some ⟨z, 0, none⟩)] w fun e w' => e = .returned (.tuple #[]) ∧ DR (Plus (fun k => A k ∨ k = y ∨ k = z) w w') w' d (done m 4 s t 0 []) ∧ Keep A w w' := by
  obtain ⟨fb, nb, sb, wv, rows, h0⟩ := h
  have h := h0.mono (B := fun k => A k ∨ k = y ∨ k = z) fun k _ ha => .inl ha
  have hxl := World.block_lt_of_cell? w _ hx
  simp only at hxl
  have hfn : NameFn (fun k => A k ∨ k = y ∨ k = z) w fb ⟨3, 0, 0, [], s, t⟩ (.func (.func 82) #[] #[ptrTo y, ptrTo z]) :=
    ⟨y, z, .inr (.inl rfl), .inr (.inr rfl), .inr (.inl ⟨rfl, rfl, hy, hz⟩)⟩
  have hfile : ∀ i, Live { m with L := renamed m.L s t, wait := m.wait ++ [⟨3, 0, 0, [], s, t⟩] } i →
      i < m.is.length ∧ (A (fb.getD i 0) ∨ fb.getD i 0 = y ∨ fb.getD i 0 = z) ∧ FileAt (fun k => A k ∨ k = y ∨ k = z) w (fb.getD i 0) (m.is.getD i []) (m.sure.getD i []) := by
    intro i hi
    refine h.file i ?_
    rcases hi with ⟨s', hi⟩ | hi | ⟨o, ho, hk, rfl⟩
    · exact .inl (mem_renamed hi)
    · exact .inr (.inl hi)
    · rcases List.mem_append.1 ho with ho | ho
      · exact .inr (.inr ⟨o, ho, hk, rfl⟩)
      · simp at ho; subst ho; rcases hk with hk | hk <;> cases hk
  have HF := Lib.hid hfn
  have HFi := Lib.hid hfile
  have HI := Lib.hid h
  clear hfn hfile
  go_enter Tryz.func81, Tryz.ntmps81
  go_wp2_with (first | (at_builtin; refine wl_append rfl _ _ _ _ rfl _ _ rfl rfl ?_) | (at_make; refine wl_make rfl _ _ _ rfl _ _ rfl rfl ?_) | (at_mapUpdate; refine wl_mapUpdate rfl _ _ _ _ rfl _ _ _ rfl rfl rfl ?_) | (at_lookup; refine wl_lookup rfl _ _ _ _ rfl _ _ rfl rfl ?_) | (at_delete; refine wl_delete rfl _ _ _ _ rfl _ _ rfl rfl ?_) | (with_reducible refine wl_len rfl _ _ rfl _ rfl ?_) | (with_reducible refine wl_range rfl _ _ rfl _ rfl ?_) | (with_reducible refine wl_next rfl _ rfl _ rfl ?_) | (with_reducible refine wl_copy rfl _ _ _ _ rfl _ _ rfl rfl ?_) | (with_reducible refine wl_max rfl _ _ _ _ rfl _ _ rfl rfl ?_) | (with_reducible refine wl_min rfl _ _ _ _ rfl _ _ rfl rfl ?_))
  refine (change_any w HI.out ⟨3, 0, 0, [], s, t⟩ (renamed m.L s t) hwl HF.out HFi.out (enters_rename21 _ _ _)
    (rename21_any s t w hs ht hL h.nm hy hz)).mono ?_
  rintro e w' ⟨rfl, h2, h3⟩
  go_wp2_with (first | (at_builtin; refine wl_append rfl _ _ _ _ rfl _ _ rfl rfl ?_) | (at_make; refine wl_make rfl _ _ _ rfl _ _ rfl rfl ?_) | (at_mapUpdate; refine wl_mapUpdate rfl _ _ _ _ rfl _ _ _ rfl rfl rfl ?_) | (at_lookup; refine wl_lookup rfl _ _ _ _ rfl _ _ rfl rfl ?_) | (at_delete; refine wl_delete rfl _ _ _ _ rfl _ _ rfl rfl ?_) | (with_reducible refine wl_len rfl _ _ rfl _ rfl ?_) | (with_reducible refine wl_range rfl _ _ rfl _ rfl ?_) | (with_reducible refine wl_next rfl _ rfl _ rfl ?_) | (with_reducible refine wl_copy rfl _ _ _ _ rfl _ _ rfl rfl ?_) | (with_reducible refine wl_max rfl _ _ _ _ rfl _ _ rfl rfl ?_) | (with_reducible refine wl_min rfl _ _ _ _ rfl _ _ rfl rfl ?_))
  go_end0
  refine ⟨rfl, ?_, h3.mono fun k hk hs => ?_⟩
  · have e1 : done m 4 s t 0 [] = { m with L := renamed m.L s t, wait := m.wait ++ [⟨3, 0, 0, [], s, t⟩] } := by
      simp only [done, waitD, namesOp, renamed]
      cases hf : find m.L s <;> rfl
    rw [e1]; exact h2
  · rcases hs with rfl | rfl | hs
    · exact h0.An
    · exact h0.Ad
    · exact h0.rowA k hs.symm

set_option maxRecDepth 100000 in
set_option maxHeartbeats 400000 in
theorem remove_any {A : Nat → Prop} {d : Nat} {m : M} (s : List UInt8) (w : World) (h : DR A w d m) (hA : ∀ k, A k → k < w.heap.size) (hs : s.length ≤ maxLen) (hwl : m.wait.length ≤ 1099511627776) (hcut : m.cut ≤ 9223372036854775807) :
    Calls Tryz.prog 26 #[.pointer (some ⟨d, 0, none⟩), .string ⟨s.toArray⟩] w fun e w' => e = .returned (.int .i64 ((call m 5 s [] 0 []).2 : Nat)) ∧ DR (Plus A w w') w' d (call m 5 s [] 0 []).1 ∧ Keep A w w' := by
  go_enter Tryz.func26, Tryz.ntmps26
  go_wp2_with (first | (at_builtin; refine wl_append rfl _ _ _ _ rfl _ _ rfl rfl ?_) | (at_make; refine wl_make rfl _ _ _ rfl _ _ rfl rfl ?_) | (at_mapUpdate; refine wl_mapUpdate rfl _ _ _ _ rfl _ _ _ rfl rfl rfl ?_) | (at_lookup; refine wl_lookup rfl _ _ _ _ rfl _ _ rfl rfl ?_) | (at_delete; refine wl_delete rfl _ _ _ _ rfl _ _ rfl rfl ?_) | (with_reducible refine wl_len rfl _ _ rfl _ rfl ?_) | (with_reducible refine wl_range rfl _ _ rfl _ rfl ?_) | (with_reducible refine wl_next rfl _ rfl _ rfl ?_) | (with_reducible refine wl_copy rfl _ _ _ _ rfl _ _ rfl rfl ?_) | (with_reducible refine wl_max rfl _ _ _ _ rfl _ _ rfl rfl ?_) | (with_reducible refine wl_min rfl _ _ _ _ rfl _ _ rfl rfl ?_))
  generalize hW : (w.alloc (Obj.cells #[Value.pointer (some { block := d, off := 0 })] 24)).alloc (Obj.cells #[Value.string { data := s.toArray }] 9) = W
  have hWs : W.heap.size = w.heap.size + 2 := by subst hW; simp
  have hkW : Keep No w W := by subst hW; exact ((Keep.refl _ _).alloc _).alloc _
  have hF : Blk W w.heap.size #[Value.pointer (some { block := d, off := 0 })] 24 := by subst hW; exact (Blk.new _ _ _).alloc _
  have hV : Blk W (w.heap.size + 1) #[Value.string { data := s.toArray }] 9 := by
    subst hW
    have := Blk.new (w.alloc (Obj.cells #[Value.pointer (some { block := d, off := 0 })] 24)) #[Value.string { data := s.toArray }] 9
    rw [World.size_alloc] at this
    exact this
  have hA' : ∀ k, A k → k < W.heap.size := fun k ha => by have := hA k ha; omega
  have h1 := h.keep hA hkW fun _ _ h => h
  refine (step_all (B := fun k => A k ∨ k = w.heap.size + 1) 5 s [] 0 [] W h1 hA' (fun k ha => .inl ha) hcut (enters_remove1 _ _) (enters_remove2 _ _) ?_ ?_).mono ?_
  · intro _
    obtain ⟨fb, nb, sb, wv, rows, h0⟩ := h1
    have hb := h0.blk.cell 1
    simp only [List.getElem?_toArray, List.getElem?_cons_succ, List.getElem?_cons_zero] at hb
    refine (remove1_any s W hs h0.nm hb ((hF.cell 0).trans rfl) ((hV.cell 0).trans rfl)).mono ?_
    rintro e w' ⟨rfl, rfl⟩
    exact ⟨rfl, Keep.refl _ _⟩
  · intro w1 _ h2 k2
    have n1 : ¬ A w.heap.size := fun ha => by have := hA _ ha; omega
    have n2 : ¬ A (w.heap.size + 1) := fun ha => by have := hA _ ha; omega
    exact remove2_any s w1 h2 hs hwl ((hF.keep k2 n1).cell 0 |>.trans rfl) (hV.keep k2 n2)
  · rintro e w' ⟨rfl, h2, k2⟩
    go_wp2_with (first | (at_builtin; refine wl_append rfl _ _ _ _ rfl _ _ rfl rfl ?_) | (at_make; refine wl_make rfl _ _ _ rfl _ _ rfl rfl ?_) | (at_mapUpdate; refine wl_mapUpdate rfl _ _ _ _ rfl _ _ _ rfl rfl rfl ?_) | (at_lookup; refine wl_lookup rfl _ _ _ _ rfl _ _ rfl rfl ?_) | (at_delete; refine wl_delete rfl _ _ _ _ rfl _ _ rfl rfl ?_) | (with_reducible refine wl_len rfl _ _ rfl _ rfl ?_) | (with_reducible refine wl_range rfl _ _ rfl _ rfl ?_) | (with_reducible refine wl_next rfl _ rfl _ rfl ?_) | (with_reducible refine wl_copy rfl _ _ _ _ rfl _ _ rfl rfl ?_) | (with_reducible refine wl_max rfl _ _ _ _ rfl _ _ rfl rfl ?_) | (with_reducible refine wl_min rfl _ _ _ _ rfl _ _ rfl rfl ?_))
    go_ret
    refine ⟨rfl, h2.mono fun k hk ha => ?_, (hkW.mono fun _ _ h => h.elim).trans' k2⟩
    rcases ha with (ha | ha) | ha
    · exact .inl ha
    · exact .inr ⟨by omega, hk⟩
    · exact .inr ⟨by omega, hk⟩

set_option maxRecDepth 100000 in
set_option maxHeartbeats 400000 in
theorem rename_any {A : Nat → Prop} {d : Nat} {m : M} (s t : List UInt8) (w : World) (h : DR A w d m) (hA : ∀ k, A k → k < w.heap.size) (hs : s.length ≤ maxLen) (ht : t.length ≤ maxLen) (hwl : m.wait.length ≤ 1099511627776) (hL : m.L.length ≤ 1099511627776) (hcut : m.cut ≤ 9223372036854775807) :
    Calls Tryz.prog 55 #[.pointer (some ⟨d, 0, none⟩), .string ⟨s.toArray⟩, .string ⟨t.toArray⟩] w fun e w' => e = .returned (.int .i64 ((call m 4 s t 0 []).2 : Nat)) ∧ DR (Plus A w w') w' d (call m 4 s t 0 []).1 ∧ Keep A w w' := by
  go_enter Tryz.func55, Tryz.ntmps55
  go_wp2_with (first | (at_builtin; refine wl_append rfl _ _ _ _ rfl _ _ rfl rfl ?_) | (at_make; refine wl_make rfl _ _ _ rfl _ _ rfl rfl ?_) | (at_mapUpdate; refine wl_mapUpdate rfl _ _ _ _ rfl _ _ _ rfl rfl rfl ?_) | (at_lookup; refine wl_lookup rfl _ _ _ _ rfl _ _ rfl rfl ?_) | (at_delete; refine wl_delete rfl _ _ _ _ rfl _ _ rfl rfl ?_) | (with_reducible refine wl_len rfl _ _ rfl _ rfl ?_) | (with_reducible refine wl_range rfl _ _ rfl _ rfl ?_) | (with_reducible refine wl_next rfl _ rfl _ rfl ?_) | (with_reducible refine wl_copy rfl _ _ _ _ rfl _ _ rfl rfl ?_) | (with_reducible refine wl_max rfl _ _ _ _ rfl _ _ rfl rfl ?_) | (with_reducible refine wl_min rfl _ _ _ _ rfl _ _ rfl rfl ?_))
  generalize hW : ((w.alloc (Obj.cells #[Value.pointer (some { block := d, off := 0 })] 24)).alloc (Obj.cells #[Value.string { data := s.toArray }] 9)).alloc (Obj.cells #[Value.string { data := t.toArray }] 9) = W
  have hWs : W.heap.size = w.heap.size + 3 := by subst hW; simp
  have hkW : Keep No w W := by subst hW; exact (((Keep.refl _ _).alloc _).alloc _).alloc _
  have hF : Blk W w.heap.size #[Value.pointer (some { block := d, off := 0 })] 24 := by subst hW; exact ((Blk.new _ _ _).alloc _).alloc _
  have hV : Blk W (w.heap.size + 1) #[Value.string { data := s.toArray }] 9 := by
    subst hW
    have := Blk.new (w.alloc (Obj.cells #[Value.pointer (some { block := d, off := 0 })] 24)) #[Value.string { data := s.toArray }] 9
    rw [World.size_alloc] at this
    exact this.alloc _
  have hU : Blk W (w.heap.size + 1 + 1) #[Value.string { data := t.toArray }] 9 := by
    subst hW
    have := Blk.new ((w.alloc (Obj.cells #[Value.pointer (some { block := d, off := 0 })] 24)).alloc (Obj.cells #[Value.string { data := s.toArray }] 9)) #[Value.string { data := t.toArray }] 9
    simp only [World.size_alloc] at this
    exact this
  have hA' : ∀ k, A k → k < W.heap.size := fun k ha => by have := hA k ha; omega
  have h1 := h.keep hA hkW fun _ _ h => h
  refine (step_all (B := fun k => A k ∨ k = w.heap.size + 1 ∨ k = w.heap.size + 1 + 1) 4 s t 0 [] W h1 hA' (fun k ha => .inl ha) hcut (enters_rename1 _ _ _) (enters_rename2 _ _ _) ?_ ?_).mono ?_
  · intro _
    obtain ⟨fb, nb, sb, wv, rows, h0⟩ := h1
    have hb := h0.blk.cell 1
    simp only [List.getElem?_toArray, List.getElem?_cons_succ, List.getElem?_cons_zero] at hb
    refine (rename1_any s t W hs h0.nm hb ((hF.cell 0).trans rfl) ((hV.cell 0).trans rfl) ((hU.cell 0).trans rfl)).mono ?_
    rintro e w' ⟨rfl, rfl⟩
    exact ⟨rfl, Keep.refl _ _⟩
  · intro w1 _ h2 k2
    have n1 : ¬ A w.heap.size := fun ha => by have := hA _ ha; omega
    have n2 : ¬ A (w.heap.size + 1) := fun ha => by have := hA _ ha; omega
    have n3 : ¬ A (w.heap.size + 1 + 1) := fun ha => by have := hA _ ha; omega
    exact rename2_any s t w1 h2 hs ht hwl hL ((hF.keep k2 n1).cell 0 |>.trans rfl) (hV.keep k2 n2) (hU.keep k2 n3)
  · rintro e w' ⟨rfl, h2, k2⟩
    go_wp2_with (first | (at_builtin; refine wl_append rfl _ _ _ _ rfl _ _ rfl rfl ?_) | (at_make; refine wl_make rfl _ _ _ rfl _ _ rfl rfl ?_) | (at_mapUpdate; refine wl_mapUpdate rfl _ _ _ _ rfl _ _ _ rfl rfl rfl ?_) | (at_lookup; refine wl_lookup rfl _ _ _ _ rfl _ _ rfl rfl ?_) | (at_delete; refine wl_delete rfl _ _ _ _ rfl _ _ rfl rfl ?_) | (with_reducible refine wl_len rfl _ _ rfl _ rfl ?_) | (with_reducible refine wl_range rfl _ _ rfl _ rfl ?_) | (with_reducible refine wl_next rfl _ rfl _ rfl ?_) | (with_reducible refine wl_copy rfl _ _ _ _ rfl _ _ rfl rfl ?_) | (with_reducible refine wl_max rfl _ _ _ _ rfl _ _ rfl rfl ?_) | (with_reducible refine wl_min rfl _ _ _ _ rfl _ _ rfl rfl ?_))
    go_ret
    refine ⟨rfl, h2.mono fun k hk ha => ?_, (hkW.mono fun _ _ h => h.elim).trans' k2⟩
    rcases ha with (ha | ha) | ha
    · exact .inl ha
    · exact .inr ⟨by omega, hk⟩
    · exact .inr ⟨by omega, hk⟩
end Go.Proofs.YtkmoomgmmhmaeaaGreat
