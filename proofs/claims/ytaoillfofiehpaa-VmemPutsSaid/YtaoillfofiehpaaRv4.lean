/- The document's Poke (chapter 13). No condition. -/
import Derived.Test.YtaoillfofiehpaaRvD
import Derived.Test.YtaoillfofiehpaaSigT
import Derived.Test.YtaoillfofiehpaaVmPut
import Derived.Lib.AppendStr
set_option linter.unusedVariables false
set_option linter.unusedSimpArgs false
namespace Go.Proofs.Ytaoillfofiehpaa
open Go.RowKit Go.Dm Go.Dm.Vm Go.Maps Go.Dm.Oc Go.Lib

theorem rg_catstr {w : World} {t u ty : TypeId} (ht : Try.prog.underlying t = some (.slice 5)) (hu : Try.prog.underlying u = some .string) (base : Nat) (l : List UInt8) (hl : l.length ≤ 1000) (hb : base ≤ w.heap.size) {K : Value → World → Prop}
    (h : ∀ v' w', w'.ownsRow base 5 1 v' l.length (l.map bv) → Keep No w w' → K v' w') : AppendGoal Try.prog t u ty (.slice none 0 0) (.string ⟨l.toArray⟩) w K := by
  have hi := @o_info
  obtain ⟨i, hi1, hi2⟩ := Option.map_eq_some_iff.1 hi
  simp only [Prod.mk.injEq] at hi2
  obtain ⟨e1, e2, e3⟩ := hi2
  have hsz : (⟨l.toArray⟩ : ByteArray).size = l.length := by show l.toArray.size = _; rw [List.size_toArray]
  obtain ⟨v', w', hr, ho, hg, _⟩ := run_append_own_string (P := Try.prog) (w := w) base t u ty 5 i ht hu hi1 e1 e2 e3 (.slice none 0 0) 0 [] (World.ownsRow_nil _ _ _ _) ⟨l.toArray⟩ (by rw [hsz]; unfold maxLen; omega) (by rw [hsz]; omega) hb
  rw [hsz, Nat.zero_add] at ho
  refine .mk hr (h v' w' ?_ ⟨hg.1, hg.2, hg.3, hg.4, fun k hk _ => hg.5 k hk (by simp [Value.ownBlock])⟩)
  exact ho
section
variable {A B : Nat → Prop} {w : World} {m : V} {v vb : Value}
set_option maxRecDepth 100000 in
set_option maxHeartbeats 4000000 in
theorem rvpoke_any (d : Bool) (addr : Nat) (b : List UInt8) (ha : addr < 18446744073709551616) (hl : b.length ≤ 1000) (h : Fl A w 6 encS v m) (hA : ∀ k, A k → k < w.heap.size) (hok : Ok m) (hb : Bts B w vb b) (hBs : ∀ k, B k → k < w.heap.size) :
    Calls Try.prog 28 #[.agg #[v], .int .u64 (addr : Int), vb, .bool d] w fun e w' => ∃ v', e = .returned (.tuple #[.agg #[v'], .int .i64 (peekE m addr b.length : Nat)]) ∧ Fl (Plus A w w') w' 6 encS v' (if peekE m addr b.length = 0 then writeD d m addr b else m) ∧ Keep No w w' := by
  obtain ⟨av, cv, rfl, _, _⟩ := h.shape
  obtain ⟨ab, cb, rfl, _, _⟩ := hb.shape
  have hE : peekE m addr b.length = if b.length = 0 then 0 else Vm.heldE m addr b.length := rfl
  have hpt := @held_parts m addr b.length
  have htt := there_take m addr b.length
  have hml := hok.len
  have HOK := Lib.hid hok
  have hth := fun (h0 : 0 < b.length) (W : World) (hk : Keep No w W) => rvthere_any (w := W) addr b.length ha (by omega) h0 (by omega) (h.no hk) (by omega) (fun p hp => by have := (hok.pg p hp).lt; unfold top at this; omega)
  have HTH := Lib.hid hth
  have HPT := Lib.hid hpt
  have HTT := Lib.hid htt
  clear hok hth hpt htt
  generalize hE1 : peekE m addr b.length = E at *
  have HE := Lib.hid hE
  clear hE hE1
  generalize hbn : b.length = bn at *
  have HBN := Lib.hid hbn
  clear hbn
  by_cases h0 : bn = 0
  · have hb0 : b = [] := List.eq_nil_of_length_eq_zero (by have := HBN.out; omega)
    have HB0 := Lib.hid hb0
    rw [if_pos h0] at HE
    have hE := HE.out
    subst hE
    have hz0 : (bn : Int) = 0 := by omega
    clear hb0 h0 hl
    go_enter Try.func28, Try.ntmps28
    go_wp2_with fail
    have hkW1 : Keep No w (w.alloc (.cells #[.slice av m.length cv] 34)) := (Keep.refl _ _).alloc _
    have hBW1 : Blk (w.alloc (.cells #[.slice av m.length cv] 34)) w.heap.size #[.slice av m.length cv] 34 := Blk.new _ _ _
    have hzW1 : (w.alloc (.cells #[.slice av m.length cv] 34)).heap.size = w.heap.size + 1 := World.size_alloc _ _
    generalize w.alloc (.cells #[.slice av m.length cv] 34) = W1 at *
    have hkW2 : Keep No W1 (W1.alloc (.cells #[.slice av m.length cv] 34)) := (Keep.refl _ _).alloc _
    have hBW2 : Blk (W1.alloc (.cells #[.slice av m.length cv] 34)) W1.heap.size #[.slice av m.length cv] 34 := Blk.new _ _ _
    have hzW2 : (W1.alloc (.cells #[.slice av m.length cv] 34)).heap.size = W1.heap.size + 1 := World.size_alloc _ _
    generalize W1.alloc (.cells #[.slice av m.length cv] 34) = W2 at *
    rw [hzW1] at hBW2
    refine ret_blk_tmp rfl rfl hBW2 Try.underlying34 rfl (by kernel_rfl) rfl ?_
    rw [HB0.out]
    exact ⟨_, rfl, (h.no (hkW1.trans' hkW2)).mono fun _ _ ha => .inl ha, hkW1.trans' hkW2⟩
  · rw [if_neg h0] at HE
    have h0z : (0 : Int) < (bn : Int) := by omega
    have hne0 : ((bn : Int) == 0) = false := by simpa using h0
    have hbl : (bn : Int) ≤ 1000 := by omega
    go_enter Try.func28, Try.ntmps28
    go_wp2_with fail
    have hkW1 : Keep No w (w.alloc (.cells #[.slice av m.length cv] 34)) := (Keep.refl _ _).alloc _
    have hBW1 : Blk (w.alloc (.cells #[.slice av m.length cv] 34)) w.heap.size #[.slice av m.length cv] 34 := Blk.new _ _ _
    have hzW1 : (w.alloc (.cells #[.slice av m.length cv] 34)).heap.size = w.heap.size + 1 := World.size_alloc _ _
    generalize w.alloc (.cells #[.slice av m.length cv] 34) = W1 at *
    have hkW2 : Keep No W1 (W1.alloc (.cells #[.slice none 0 0] 34)) := (Keep.refl _ _).alloc _
    have hBW2 : Blk (W1.alloc (.cells #[.slice none 0 0] 34)) W1.heap.size #[.slice none 0 0] 34 := Blk.new _ _ _
    have hzW2 : (W1.alloc (.cells #[.slice none 0 0] 34)).heap.size = W1.heap.size + 1 := World.size_alloc _ _
    generalize W1.alloc (.cells #[.slice none 0 0] 34) = W2 at *
    rw [hzW1] at hBW2 hzW2
    have b4 := hBW1.keep hkW2 fun h => h
    have b8 := hBW2
    have hkW : Keep No w W2 := hkW1.trans' hkW2
    have hz2 : W2.heap.size = w.heap.size + 2 := by omega
    clear hBW1 hBW2 hkW1 hkW2 hzW1 hzW2
    have q6 : W2.cell? ⟨w.heap.size, 0, none⟩ = some (.slice av m.length cv) := b4.cell 0
    have hA12 : ∀ k, A k → k ≠ w.heap.size + 1 := fun k hk e => by have := hA k hk; omega
    have hend : ∀ (X : V) (W' w' : World), X = m → Keep No W2 W' → Keep (fun j => j = w.heap.size + 1) W' w' → (Fl (Plus A w w') w' 6 encS (.slice av m.length cv) X ∧ Keep No w w') := by
      rintro X W' w' rfl hkN hkz
      exact ⟨((h.no (hkW.trans' hkN)).keep hkz fun j _ ha e => hA12 j ha e).mono fun _ _ ha => .inl ha, (hkW.trans' hkN).trans hkz fun j hj e => absurd hj (by have e2 : j = w.heap.size + 1 := e; omega)⟩
    have HEnd := Lib.hid hend
    clear hend
    have hcall := HTH.out (by omega) W2 hkW
    go_wp2_with fail
    refine hcall.mono ?_
    rintro e W3 ⟨rfl, hk3⟩
    have b8a := b8.keep hk3 fun h => h
    have b4a := b4.keep hk3 fun h => h
    have q6a : W3.cell? ⟨w.heap.size, 0, none⟩ = some (.slice av m.length cv) := b4a.cell 0
    by_cases hne : Vm.heldE m addr bn = 0
    · have hdc : decide (Vm.heldE m addr bn = 0) = true := by simpa using hne
      rw [hdc]
      rw [hne] at HE
      have hE := HE.out
      subst hE
      obtain ⟨p1, p2, _, p4⟩ := HPT.out hne
      have hal : (addr : Int) ≤ 4294967296 := by unfold top at p1; omega
      have hsl : (addr : Int) + (bn : Int) ≤ 4294967296 := by unfold top at p1 p2; omega
      have hpg := HTT.out.1 p4
      have HPG := Lib.hid hpg
      clear hpg p1 p2 p4 hdc hne
      obtain ⟨gb, ob, rfl, hBgb, hgbl, hcb⟩ : ∃ gb ob, ab = some ⟨gb, ob, none⟩ ∧ B gb ∧ gb < w.heap.size ∧ ∀ j u, (b.map bv)[j]? = some u → w.cell? ⟨gb, ob + j, none⟩ = some u := by
        obtain ⟨_, a, cap, e, _, _, _, hx⟩ := hb
        injection e with e1 e2 e3
        subst e1
        exact hx (by have := HBN.out; omega)
      have HCB := Lib.hid hcb
      clear hcb hBgb
      have HHL := Lib.hid h
      clear hb h
      go_wp2_with fail
      go_loopw [11] (fun iv wr => ∃ (at_ : Nat) (vk : Value), iv = .int .i64 (at_ : Int) ∧ at_ ≤ bn ∧ Blk wr w.heap.size #[vk] 34 ∧ Blk wr (w.heap.size + 1) #[.slice none 0 0] 34 ∧ Fl (fun j => A j ∨ (w.heap.size + 2 ≤ j ∧ j < wr.heap.size)) wr 6 encS vk (writeD d m addr (b.take at_)) ∧ Keep No w wr) (fun iv _ => bn - (intOf iv).toNat)
      case atStart => exact ⟨0, _, rfl, Nat.zero_le _, b4a, b8a, ((HHL.out.no (hkW.trans' hk3)).mono fun _ _ ha => .inl ha), hkW.trans' hk3⟩
      case round =>
        obtain ⟨at_, vk, rfl, hat, hb4, hb8, hfk, hkk⟩ := hrel
        generalize wr = wz at *
        clear b8a b4a q6a hk3 b4 b8 q6 hkW hz2 HEnd HTH HPT
        have hw2 : w.heap.size + 2 ≤ wz.heap.size := by have := hb8.lt; omega
        have hAk : ∀ j, (A j ∨ (w.heap.size + 2 ≤ j ∧ j < wz.heap.size)) → j ≠ w.heap.size ∧ j ≠ w.heap.size + 1 ∧ j < wz.heap.size := fun j hj => hj.elim (fun ha => by have := hA j ha; omega) (fun h => by omega)
        have HAK := Lib.hid hAk
        clear hAk
        rcases Nat.lt_or_ge at_ bn with hlt | hge
        · have hbn := HBN.out
          have hok := HOK.out
          have hokk := writeD_ok d hok addr (b.take at_)
          have hlk := writeD_len d m addr (b.take at_)
          have hsome : (pageAt (writeD d m addr (b.take at_)) (pageOf (addr + at_))).isSome = true := by
            rw [pageAt_addr (writeD_addr d m addr (b.take at_))]
            have := HPG.out ((addr % 256 + at_) / 256) (by unfold pagesN; omega)
            rw [show pageOf addr + 256 * ((addr % 256 + at_) / 256) = pageOf (addr + at_) by unfold pageOf; omega] at this
            exact this
          obtain ⟨p, hp⟩ := Option.isSome_iff_exists.1 hsome
          obtain ⟨hpm, hpa⟩ := get_mem hp
          have hpok := hokk.pg p hpm
          have hfnd : ∀ (i : Nat) (hi : i < (writeD d m addr (b.take at_)).length), (writeD d m addr (b.take at_))[i] = p → ∀ W, Keep No wz W → Calls Try.prog 49 #[.agg #[vk], .int .u64 ((addr + at_ : Nat) : Int)] W fun e w' => e = .returned (.int .i64 (i : Int)) ∧ Keep No W w' := fun i hi hip W hkw => by
            refine (rvfind_any (addr + at_) (by omega) (hfk.no hkw) (by rw [hlk]; omega) (fun q hq => by have := (hokk.pg q hq).lt; unfold top at this; omega)).mono ?_
            rintro e w' ⟨r, rfl, hr, hk⟩
            rcases hr with ⟨rfl, hno⟩ | ⟨i', hi', rfl, hadr⟩
            · exact absurd hpa (hno p hpm)
            · obtain rfl := idx_unique hokk.srt hi hi' (by rw [hip, hadr, hpa])
              exact ⟨rfl, hk⟩
          obtain ⟨n, hn⟩ : ∃ n, n = min (256 - (addr + at_) % 256) (bn - at_) := ⟨_, rfl⟩
          have hn0 : 0 < n := by omega
          have hn1 : at_ + n ≤ bn := by omega
          have hn2 : (addr + at_) % 256 + n ≤ 256 := by omega
          have hn3 : (addr + at_) % 256 + n = 256 ∨ ((addr + at_) % 256 + n < 256 ∧ at_ + n = bn) := by omega
          have hch := withP_chunk d hok addr at_ n b rfl hpm hpa hn0 (by omega) hn2
          have hctl : ((b.drop at_).take n).length = n := by rw [List.length_take, List.length_drop]; omega
          have hctx : ∀ t, t < n → ∃ x, b[at_ + t]? = some x ∧ ((b.drop at_).take n).take (t + 1) = ((b.drop at_).take n).take t ++ [x] := fun t ht => by
            refine ⟨b[at_ + t]'(by omega), List.getElem?_eq_getElem _, ?_⟩
            rw [List.take_succ_eq_append_getElem (by rw [hctl]; exact ht)]
            simp
          obtain ⟨i, hi, hip⟩ := List.getElem_of_mem hpm
          have hfi := hfnd i hi hip
          obtain ⟨g, off, cap, rfl, hAg, hgl, _, _, hc⟩ := hfk.at encS_len hi
          rw [hip] at hc
          have hil : i < m.length := by rw [← hlk]; exact hi
          have hll : (writeD d m addr (b.take at_)).length ≤ 1000000 := by rw [hlk]; omega
          have hpq : ∀ q ∈ writeD d m addr (b.take at_), q.addr < 18446744073709551616 := fun q hq => by have := (hokk.pg q hq).lt; unfold top at this; omega
          rw [hlk] at hfi
          have c0 : wz.cell? ⟨g, off + i * 6, none⟩ = some (.int .u64 (p.addr : Int)) := hc 0 _ rfl
          have c1 : wz.cell? ⟨g, off + i * 6 + 1, none⟩ = some (.int .i64 (p.prot : Int)) := hc 1 _ rfl
          have c2 : wz.cell? ⟨g, off + i * 6 + 2, none⟩ = some (.bool p.dirty) := hc 2 _ rfl
          have c3 : wz.cell? ⟨g, off + i * 6 + 3, none⟩ = some (.string ⟨p.file.toArray⟩) := hc 3 _ rfl
          have c4 : wz.cell? ⟨g, off + i * 6 + 4, none⟩ = some (.int .u64 (p.off : Int)) := hc 4 _ rfl
          have c5 : wz.cell? ⟨g, off + i * 6 + 5, none⟩ = some (.string ⟨p.b.toArray⟩) := hc 5 _ rfl
          have hpbl := hpok.bl
          have hpal : p.addr < 18446744073709551616 := hpq p hpm
          rw [hlk] at hfk hb4
          have HCH := Lib.hid hch
          have HCTX := Lib.hid hctx
          have HCTL := Lib.hid hctl
          have HLL := Lib.hid hll
          have HPQ := Lib.hid hpq
          have HFI := Lib.hid hfi
          have HBL := Lib.hid hpbl
          have HPAL := Lib.hid hpal
          have HFK := Lib.hid hfk
          have HN2 := Lib.hid hn2
          have HN3 := Lib.hid hn3
          have HN0 := Lib.hid hn0
          have HN1 := Lib.hid hn1
          clear hch hctx hctl hll hpq hfi hpbl hpal hfk hn hn0 hn1 hn2 hn3 hfnd hpok hip hi hpa hpm hp hsome hokk hok hlk hc hbn
          generalize hmk2 : writeD d m addr (b.take (at_ + n)) = mk2 at *
          have HMK := Lib.hid hmk2.symm
          clear hmk2
          generalize writeD d m addr (b.take at_) = mk at *
          generalize (b.drop at_).take n = ct at *
          have p4 : wz.cell? ⟨w.heap.size, 0, none⟩ = some (.slice (some ⟨g, off, none⟩) m.length cap) := hb4.cell 0
          have hltz : (at_ : Int) < (bn : Int) := by omega
          have hsum : (addr : Int) + (at_ : Int) = ((addr + at_ : Nat) : Int) := by omega
          have hA0 : addr + at_ < 4294967296 := by omega
          have hmod : ((addr + at_ : Nat) : Int).tmod 256 = (((addr + at_) % 256 : Nat) : Int) := by rw [Int.tmod_eq_emod_of_nonneg (by omega)]; omega
          have hk0 : (addr + at_) % 256 < 256 := Nat.mod_lt _ (by decide)
          generalize addr + at_ = A0 at *
          generalize A0 % 256 = k0 at *
          have hw1 : IntKind.u64.wrap (at_ : Int) = (at_ : Int) := by rw [IntKind.wrap_u64]; omega
          have hw2 : IntKind.u64.wrap ((addr : Int) + (at_ : Int)) = (A0 : Int) := by rw [IntKind.wrap_u64]; omega
          have hilz : (i : Int) < (m.length : Int) := by omega
          have HSUM := Lib.hid hsum
          have HA0 := Lib.hid hA0
          have HK0 := Lib.hid hk0
          clear hA0 hk0 hsum
          have hcw : w.heap.size < wz.heap.size := by omega
          go_wp2_with fail
          refine wp_region_tree (fun w' => w'.cell? ⟨w.heap.size, 0, none⟩ = some (.slice (some ⟨g, off, none⟩) m.length cap) ∧ w'.cell? ⟨g, off + i * 6, none⟩ = some (.int .u64 (p.addr : Int)) ∧ w'.cell? ⟨g, off + i * 6 + 1, none⟩ = some (.int .i64 (p.prot : Int)) ∧ w'.cell? ⟨g, off + i * 6 + 2, none⟩ = some (.bool p.dirty) ∧ w'.cell? ⟨g, off + i * 6 + 3, none⟩ = some (.string ⟨p.file.toArray⟩) ∧ w'.cell? ⟨g, off + i * 6 + 4, none⟩ = some (.int .u64 (p.off : Int)) ∧ w'.cell? ⟨g, off + i * 6 + 5, none⟩ = some (.string ⟨p.b.toArray⟩)) (fun j => decide (j ≤ 10)) (.st 0 (.st 1 (.st 2 (.st 3 (.st 4 (.st 5 (.st 6 (.br 7 10 (.st 8 (.st 9 (.ef 10 (.ef 11 .nil)))) (.ef 7 (.st 8 (.st 9 (.ef 11 .nil)))))))))))) (by kernel_rfl) (by kernel_rfl) (by intro c a d v w h; cases d <;> exact h) ⟨p4, c0, c1, c2, c3, c4, c5⟩ ?_
          apply tr_still (o := ⟨some 32, _, _, _, _, _⟩) rfl rfl
          · intro w' hS
            obtain ⟨q1, q2, q3, q4, q5, q6, q7⟩ := hS
            first | (go_simp; done) | (go_simp; rfl) | rfl
          go_frame
          apply tr_still (o := ⟨some 33, _, _, _, _, _⟩) rfl rfl
          · intro w' hS
            obtain ⟨q1, q2, q3, q4, q5, q6, q7⟩ := hS
            first | (go_simp; done) | (go_simp; rfl) | rfl
          go_frame
          apply tr_still (o := ⟨some 34, _, _, _, _, _⟩) rfl rfl
          · intro w' hS
            obtain ⟨q1, q2, q3, q4, q5, q6, q7⟩ := hS
            first | (go_simp; done) | (go_simp; rfl) | rfl
          go_frame
          apply tr_still (o := ⟨some 35, _, _, _, _, _⟩) rfl rfl
          · intro w' hS
            obtain ⟨q1, q2, q3, q4, q5, q6, q7⟩ := hS
            first | (go_simp; done) | (go_simp; rfl) | rfl
          go_frame
          apply tr_still (o := ⟨some 36, _, _, _, _, _⟩) rfl rfl
          · intro w' hS
            obtain ⟨q1, q2, q3, q4, q5, q6, q7⟩ := hS
            first | (go_simp; done) | (go_simp; rfl) | rfl
          go_frame
          apply tr_still (o := ⟨some 37, _, _, _, _, _⟩) rfl rfl
          · intro w' hS
            obtain ⟨q1, q2, q3, q4, q5, q6, q7⟩ := hS
            first | (go_simp; done) | (go_simp; rfl) | rfl
          go_frame
          apply tr_still (o := ⟨some 38, _, _, _, _, _⟩) rfl rfl
          · intro w' hS
            obtain ⟨q1, q2, q3, q4, q5, q6, q7⟩ := hS
            first | (go_simp; done) | (go_simp; rfl) | rfl
          go_frame
          have hkd : Keep No wz wz.drew := (Keep.refl No wz).drew
          refine tr_br (o := ⟨some 39, _, _, _, _, _⟩) (o' := ⟨some 12, _, _, _, _, _⟩) rfl rfl rfl rfl (fun K hKe => ?_) (fun K hKe => ?_)
          · go_wp2_with fail
            refine (HFI.out wz.drew hkd).mono ?_
            rintro e W3 ⟨rfl, hk3⟩
            replace hk3 := hkd.trans' hk3
            have p4x : (W3).cell? ⟨w.heap.size, 0, none⟩ = _ := ((hk3).cell (p := ⟨w.heap.size, 0, none⟩) hcw fun h => h).trans p4
            have c0x : (W3).cell? ⟨g, off + i * 6, none⟩ = _ := ((hk3).cell (p := ⟨g, off + i * 6, none⟩) hgl fun h => h).trans c0
            have c1x : (W3).cell? ⟨g, off + i * 6 + 1, none⟩ = _ := ((hk3).cell (p := ⟨g, off + i * 6 + 1, none⟩) hgl fun h => h).trans c1
            have c2x : (W3).cell? ⟨g, off + i * 6 + 2, none⟩ = _ := ((hk3).cell (p := ⟨g, off + i * 6 + 2, none⟩) hgl fun h => h).trans c2
            have c3x : (W3).cell? ⟨g, off + i * 6 + 3, none⟩ = _ := ((hk3).cell (p := ⟨g, off + i * 6 + 3, none⟩) hgl fun h => h).trans c3
            have c4x : (W3).cell? ⟨g, off + i * 6 + 4, none⟩ = _ := ((hk3).cell (p := ⟨g, off + i * 6 + 4, none⟩) hgl fun h => h).trans c4
            have c5x : (W3).cell? ⟨g, off + i * 6 + 5, none⟩ = _ := ((hk3).cell (p := ⟨g, off + i * 6 + 5, none⟩) hgl fun h => h).trans c5
            go_wp2_with fail
            refine ⟨fun _ => ⟨p4x, c0x, c1x, c2x, c3x, c4x, c5x⟩, ?_⟩
            apply tr_still (o := ⟨some 40, _, _, _, _, _⟩) rfl rfl
            · intro w' hS
              obtain ⟨q1, q2, q3, q4, q5, q6, q7⟩ := hS
              first | (go_simp; done) | (go_simp; rfl) | rfl
            go_frame
            apply tr_still (o := ⟨some 41, _, _, _, _, _⟩) rfl rfl
            · intro w' hS
              obtain ⟨q1, q2, q3, q4, q5, q6, q7⟩ := hS
              first | (go_simp; done) | (go_simp; rfl) | rfl
            go_frame
            refine tr_eff (o := ⟨some 12, _, _, _, _, _⟩) rfl rfl (fun K hKe => ?_)
            have hka : Keep No wz (W3.alloc (.cells #[.int .u64 0, .int .i64 0, .bool false, .string ⟨#[]⟩, .int .u64 0, .string ⟨#[]⟩] 72)) := hk3.alloc _
            have hBa : Blk (W3.alloc (.cells #[.int .u64 0, .int .i64 0, .bool false, .string ⟨#[]⟩, .int .u64 0, .string ⟨#[]⟩] 72)) W3.heap.size #[.int .u64 0, .int .i64 0, .bool false, .string ⟨#[]⟩, .int .u64 0, .string ⟨#[]⟩] 72 := Blk.new _ _ _
            have p4y : ((W3.alloc (.cells #[.int .u64 0, .int .i64 0, .bool false, .string ⟨#[]⟩, .int .u64 0, .string ⟨#[]⟩] 72))).cell? ⟨w.heap.size, 0, none⟩ = _ := ((hka).cell (p := ⟨w.heap.size, 0, none⟩) hcw fun h => h).trans p4
            have c0y : ((W3.alloc (.cells #[.int .u64 0, .int .i64 0, .bool false, .string ⟨#[]⟩, .int .u64 0, .string ⟨#[]⟩] 72))).cell? ⟨g, off + i * 6, none⟩ = _ := ((hka).cell (p := ⟨g, off + i * 6, none⟩) hgl fun h => h).trans c0
            have c1y : ((W3.alloc (.cells #[.int .u64 0, .int .i64 0, .bool false, .string ⟨#[]⟩, .int .u64 0, .string ⟨#[]⟩] 72))).cell? ⟨g, off + i * 6 + 1, none⟩ = _ := ((hka).cell (p := ⟨g, off + i * 6 + 1, none⟩) hgl fun h => h).trans c1
            have c2y : ((W3.alloc (.cells #[.int .u64 0, .int .i64 0, .bool false, .string ⟨#[]⟩, .int .u64 0, .string ⟨#[]⟩] 72))).cell? ⟨g, off + i * 6 + 2, none⟩ = _ := ((hka).cell (p := ⟨g, off + i * 6 + 2, none⟩) hgl fun h => h).trans c2
            have c3y : ((W3.alloc (.cells #[.int .u64 0, .int .i64 0, .bool false, .string ⟨#[]⟩, .int .u64 0, .string ⟨#[]⟩] 72))).cell? ⟨g, off + i * 6 + 3, none⟩ = _ := ((hka).cell (p := ⟨g, off + i * 6 + 3, none⟩) hgl fun h => h).trans c3
            have c4y : ((W3.alloc (.cells #[.int .u64 0, .int .i64 0, .bool false, .string ⟨#[]⟩, .int .u64 0, .string ⟨#[]⟩] 72))).cell? ⟨g, off + i * 6 + 4, none⟩ = _ := ((hka).cell (p := ⟨g, off + i * 6 + 4, none⟩) hgl fun h => h).trans c4
            have c5y : ((W3.alloc (.cells #[.int .u64 0, .int .i64 0, .bool false, .string ⟨#[]⟩, .int .u64 0, .string ⟨#[]⟩] 72))).cell? ⟨g, off + i * 6 + 5, none⟩ = _ := ((hka).cell (p := ⟨g, off + i * 6 + 5, none⟩) hgl fun h => h).trans c5
            go_wp2_with fail
            refine ⟨fun _ => ⟨p4y, c0y, c1y, c2y, c3y, c4y, c5y⟩, ?_⟩
            refine tr_eff (o := ⟨none, _, _, _, _, _⟩) rfl rfl (fun K hKe => ?_)
            refine wo_stAgg (.tmp 12) (.tmp 41) 72 rfl _ _ rfl rfl ?_
            refine rg_stAgg hBa (by kernel_rfl) (by rfl) (by simp [Value.oneCell']) ?_
            intro W5 hbp hk5a hz5
            have hg2 : wz.heap.size ≤ W3.heap.size := hk3.size
            have hk5 : Keep No wz W5 := hka.trans hk5a fun j hj e => by have e2 : j = W3.heap.size := e; omega
            refine hKe _ _ ⟨fun h => by simp at h, tr_nil ?_⟩
            clear p4x c0x c1x c2x c3x c4x c5x p4y c0y c1y c2y c3y c4y c5y hka hBa hk3 p4 c0 c1 c2 c3 c4 c5 hkd hk5a
            generalize W3.heap.size = g2 at *
            clear hw1 hw2 hilz hltz hgl hAg
            have hb4a := hb4.keep hk5 fun h => h
            have hb8a := hb8.keep hk5 fun h => h
            have hfka := HFK.out.no hk5
            have hkka := hkk.trans' hk5
            have hg5 := hbp.lt
            have hw5 := hk5.size
            have e5 : W5.cell? ⟨g2, 5, none⟩ = some (.string ⟨p.b.toArray⟩) := hbp.cell 5
            go_wp2_with (at_builtin; refine wl_append rfl _ _ _ _ rfl _ _ rfl rfl ?_)
            refine rg_catstr Try.underlying25 Try.underlying9 W5.heap.size p.b (by rw [HBL.out]; decide) (Nat.le_refl _) ?_
            intro vc W6 hoc hk6
            rw [HBL.out] at hoc
            obtain ⟨gc, capc, rfl, hgc⟩ : ∃ gc capc, vc = .slice (some ⟨gc, 0, none⟩) (256 : Nat) capc ∧ W5.heap.size ≤ gc := by
              rcases hoc.2 with ⟨_, h0⟩ | ⟨gc, capc, cur, rfl, hgb, _⟩
              · exact absurd h0 (by decide)
              · exact ⟨gc, capc, rfl, hgb⟩
            have hltz : (at_ : Int) < (bn : Int) := by omega
            have hA0 := HA0.out
            have hk0 := HK0.out
            have hsum := HSUM.out
            go_wp2_with fail
            clear e5
            go_loopw [11, 14] (fun iv kv wq => ∃ t : Nat, iv = .int .i64 ((at_ + t : Nat) : Int) ∧ kv = .int .i64 ((k0 + t : Nat) : Int) ∧ t ≤ n ∧ wq.ownsRow W5.heap.size 5 1 (.slice (some ⟨gc, 0, none⟩) (256 : Nat) capc) 256 ((setR p.b k0 (ct.take t)).map bv) ∧ Keep No W5 wq) (fun _ kv _ => 256 - (intOf kv).toNat)
            case atStart => exact ⟨0, by simp, by simp, Nat.zero_le _, by rw [List.take_zero]; exact hoc, hk6⟩
            case round =>
              obtain ⟨t, rfl, rfl, ht, ho, hkq⟩ := hrel
              generalize wr = wq at *
              clear hoc hk6
              have hn1 := HN1.out
              have hn2 := HN2.out
              have hkkq := hkka.trans' hkq
              have hlen : (ct.take t).length = t := by rw [List.length_take, HCTL.out]; omega
              have hsl : (setR p.b k0 (ct.take t)).length = 256 := by rw [setR_len, HBL.out]
              rcases Nat.lt_or_ge t n with htn | htn
              · obtain ⟨x, hx, htk⟩ := HCTX.out t htn
                have i1 : ((k0 + t : Nat) : Int) < 256 := by omega
                have i2 : ((at_ + t : Nat) : Int) < (bn : Int) := by omega
                have hnx : setR p.b k0 (ct.take (t + 1)) = (setR p.b k0 (ct.take t)).set (k0 + t) x := by rw [htk, setR_snoc, hlen]
                have cb1 : wq.cell? ⟨gb, ob + (at_ + t), none⟩ = some (bv x) := (hkkq.cell (p := ⟨gb, ob + (at_ + t), none⟩) hgbl fun h => h).trans (HCB.out (at_ + t) (bv x) (by rw [List.getElem?_map, hx]; rfl))
                have hc1 : wq.cell? ⟨gc, k0 + t, none⟩ = some (bv ((setR p.b k0 (ct.take t))[k0 + t]'(by omega))) := by
                  rw [ho.cellAt (k0 + t) (by omega), List.getElem?_map, List.getElem?_eq_getElem (by omega)]
                  rfl
                have hfz : wq.frozen? ⟨gc, k0 + t, none⟩ = false := ho.frozenAt _
                have ho2 := ho.stored (k0 + t) (bv x)
                rw [← List.map_set, ← hnx] at ho2
                have hk2 := hkq.setCell (p := ⟨gc, k0 + t, none⟩) (fun h => absurd h (Nat.not_lt.2 hgc)) (bv x)
                unfold bv at cb1 hc1 ho2 hk2
                generalize (setR p.b k0 (ct.take t))[k0 + t]'(by omega) = y at *
                clear hnx htk hx hsl hlen ho hkq hkkq hn1 hn2 ht
                obtain ⟨a1, ha1⟩ : ∃ a1, a1 = at_ + t := ⟨_, rfl⟩
                obtain ⟨k1, hk1⟩ : ∃ k1, k1 = k0 + t := ⟨_, rfl⟩
                rw [← ha1] at cb1 i2 ⊢
                rw [← hk1] at hc1 hfz ho2 hk2 i1 ⊢
                have HA1 := Lib.hid ha1
                have HK1 := Lib.hid hk1
                have ha1b : a1 ≤ 1000 := by omega
                clear ha1 hk1
                go_wp2_with fail
                go_roundw
                case rel => exact ⟨t + 1, by have := HA1.out; go_num, by have := HK1.out; go_num, htn, ho2.1, hk2⟩
                case measure => simp [intOf]; omega
              · have htn2 : t = n := Nat.le_antisymm ht htn
                subst htn2
                rw [List.take_of_length_le (by rw [HCTL.out]; exact Nat.le_refl _)] at ho hsl
                have hcv : (convert 25 9 (.slice (some ⟨gc, 0, none⟩) (256 : Nat) capc)).run Try.prog wq = .ok (.string ⟨(setR p.b k0 ct).toArray⟩) wq := conv_str (A := fun j => W5.heap.size ≤ j ∧ some j = (Value.slice (some ⟨gc, 0, none⟩) (256 : Nat) capc).ownBlock) (l := setR p.b k0 ct) (by unfold Bts; rw [hsl]; exact Sl.of_own ho)
                have hbp7 := hbp.keep hkq fun h => h
                have hM2 := HCH.out
                have hkzq : Keep No wz wq := hk5.trans' hkq
                have hb4q := hb4.keep hkzq fun h => h
                have hn3 := HN3.out
                clear hn2 hlen htn ht hk0 hA0 hsum hltz ho
                generalize setR p.b k0 ct = nb at *
                have r4 : wq.cell? ⟨w.heap.size, 0, none⟩ = some (.slice (some ⟨g, off, none⟩) m.length cap) := hb4q.cell 0
                have e0 : wq.cell? ⟨g2, 0, none⟩ = some (.int .u64 (p.addr : Int)) := hbp7.cell 0
                have e1 : wq.cell? ⟨g2, 1, none⟩ = some (.int .i64 (p.prot : Int)) := hbp7.cell 1
                have e2 : wq.cell? ⟨g2, 2, none⟩ = some (.bool p.dirty) := hbp7.cell 2
                have e3 : wq.cell? ⟨g2, 3, none⟩ = some (.string ⟨p.file.toArray⟩) := hbp7.cell 3
                have e4 : wq.cell? ⟨g2, 4, none⟩ = some (.int .u64 (p.off : Int)) := hbp7.cell 4
                have e5 : wq.cell? ⟨g2, 5, none⟩ = some (.string ⟨p.b.toArray⟩) := hbp7.cell 5
                have f2 : wq.frozen? ⟨g2, 2, none⟩ = false := hbp7.frozen 2
                have f5 : wq.frozen? ⟨g2, 5, none⟩ = false := hbp7.frozen 5
                have hne : g2 ≠ w.heap.size := by omega
                obtain ⟨dd, hdd⟩ : ∃ dd, dd = (p.dirty || d) := ⟨_, rfl⟩
                rw [← hdd] at hM2
                have hkS : Keep No wz ((wq.setCell ⟨g2, 5, none⟩ (.string ⟨nb.toArray⟩)).setCell ⟨g2, 2, none⟩ (.bool dd)) := (hkzq.new hg2 _).new hg2 _
                have HM2 := Lib.hid hM2
                have HKS := Lib.hid hkS
                clear hM2 hkS hbp7 hkkq hkzq
                generalize p.dirty = pd at *
                rcases hn3 with i1 | ⟨i1, i2⟩
                · have i1 : ¬ ((k0 + t : Nat) : Int) < 256 := by omega
                  cases pd with
                  | true =>
                    obtain rfl : dd = true := by simpa using hdd
                    clear hdd
                    go_wp2_with fail
                    generalize (wq.setCell ⟨g2, 5, none⟩ (.string ⟨nb.toArray⟩)).setCell ⟨g2, 2, none⟩ (.bool true) = Wx at *
                    have hkzW := HKS.out
                    refine (rvwith_any (w := Wx) ⟨p.addr, p.prot, true, p.file, p.off, nb⟩ (HFK.out.no hkzW) (fun j hj => Nat.lt_of_lt_of_le (HAK.out j hj).2.2 hkzW.size) HLL.out HPQ.out HPAL.out).mono ?_
                    rintro e W8 ⟨v8, rfl, ho8, hk8⟩
                    rw [HM2.out] at ho8
                    obtain ⟨a8, c8, rfl, _, _⟩ := ho8.fl.shape
                    go_wp2_with (with_reducible refine wl_stAgg rfl _ _ _ rfl _ _ rfl rfl ?_)
                    refine rg_stAgg ((hb4.keep hkzW fun h => h).keep hk8 fun h => h) (by kernel_rfl) (by rfl) (by simp [Value.oneCell']) ?_
                    intro W9 hb4z hk9 hs9
                    go_wp2_with fail
                    go_roundw
                    case rel =>
                      have hx1 := hkzW.size
                      have hx2 := hk8.size
                      have hb8z : Blk W9 (w.heap.size + 1) #[.slice none 0 0] 34 := ((hb8.keep hkzW fun h => h).keep hk8 fun h => h).keep hk9 (by omega)
                      have hk9' : Keep No w W9 := ((hkk.trans' hkzW).trans' hk8).trans hk9 fun j hj e => absurd hj (by have e2 : j = w.heap.size := e; omega)
                      have hf9 : Fl (fun j => A j ∨ (w.heap.size + 2 ≤ j ∧ j < W9.heap.size)) W9 6 encS (.slice a8 mk2.length c8) mk2 := by
                        refine (ho8.fl.keep hk9 fun j _ ha e => ?_).mono fun j hj ha => .inr ?_
                        · have e2 : j = w.heap.size := e
                          have := ha.1
                          omega
                        · have := ha.1
                          exact ⟨by omega, hj⟩
                      exact ⟨at_ + t, _, by first | rfl | (congr 1; omega), HN1.out, hb4z, hb8z, HMK.out ▸ hf9, hk9'⟩
                    case measure => have := HN0.out; have := HN1.out; simp [intOf]; omega
                  | false =>
                    obtain rfl : dd = d := by simpa using hdd
                    clear hdd
                    go_wp2_with fail
                    generalize (wq.setCell ⟨g2, 5, none⟩ (.string ⟨nb.toArray⟩)).setCell ⟨g2, 2, none⟩ (.bool dd) = Wx at *
                    have hkzW := HKS.out
                    refine (rvwith_any (w := Wx) ⟨p.addr, p.prot, dd, p.file, p.off, nb⟩ (HFK.out.no hkzW) (fun j hj => Nat.lt_of_lt_of_le (HAK.out j hj).2.2 hkzW.size) HLL.out HPQ.out HPAL.out).mono ?_
                    rintro e W8 ⟨v8, rfl, ho8, hk8⟩
                    rw [HM2.out] at ho8
                    obtain ⟨a8, c8, rfl, _, _⟩ := ho8.fl.shape
                    go_wp2_with (with_reducible refine wl_stAgg rfl _ _ _ rfl _ _ rfl rfl ?_)
                    refine rg_stAgg ((hb4.keep hkzW fun h => h).keep hk8 fun h => h) (by kernel_rfl) (by rfl) (by simp [Value.oneCell']) ?_
                    intro W9 hb4z hk9 hs9
                    go_wp2_with fail
                    go_roundw
                    case rel =>
                      have hx1 := hkzW.size
                      have hx2 := hk8.size
                      have hb8z : Blk W9 (w.heap.size + 1) #[.slice none 0 0] 34 := ((hb8.keep hkzW fun h => h).keep hk8 fun h => h).keep hk9 (by omega)
                      have hk9' : Keep No w W9 := ((hkk.trans' hkzW).trans' hk8).trans hk9 fun j hj e => absurd hj (by have e2 : j = w.heap.size := e; omega)
                      have hf9 : Fl (fun j => A j ∨ (w.heap.size + 2 ≤ j ∧ j < W9.heap.size)) W9 6 encS (.slice a8 mk2.length c8) mk2 := by
                        refine (ho8.fl.keep hk9 fun j _ ha e => ?_).mono fun j hj ha => .inr ?_
                        · have e2 : j = w.heap.size := e
                          have := ha.1
                          omega
                        · have := ha.1
                          exact ⟨by omega, hj⟩
                      exact ⟨at_ + t, _, by first | rfl | (congr 1; omega), HN1.out, hb4z, hb8z, HMK.out ▸ hf9, hk9'⟩
                    case measure => have := HN0.out; have := HN1.out; simp [intOf]; omega
                · have i1 : ((k0 + t : Nat) : Int) < 256 := by omega
                  have i2 : ¬ ((at_ + t : Nat) : Int) < (bn : Int) := by omega
                  cases pd with
                  | true =>
                    obtain rfl : dd = true := by simpa using hdd
                    clear hdd
                    go_wp2_with fail
                    generalize (wq.setCell ⟨g2, 5, none⟩ (.string ⟨nb.toArray⟩)).setCell ⟨g2, 2, none⟩ (.bool true) = Wx at *
                    have hkzW := HKS.out
                    refine (rvwith_any (w := Wx) ⟨p.addr, p.prot, true, p.file, p.off, nb⟩ (HFK.out.no hkzW) (fun j hj => Nat.lt_of_lt_of_le (HAK.out j hj).2.2 hkzW.size) HLL.out HPQ.out HPAL.out).mono ?_
                    rintro e W8 ⟨v8, rfl, ho8, hk8⟩
                    rw [HM2.out] at ho8
                    obtain ⟨a8, c8, rfl, _, _⟩ := ho8.fl.shape
                    go_wp2_with (with_reducible refine wl_stAgg rfl _ _ _ rfl _ _ rfl rfl ?_)
                    refine rg_stAgg ((hb4.keep hkzW fun h => h).keep hk8 fun h => h) (by kernel_rfl) (by rfl) (by simp [Value.oneCell']) ?_
                    intro W9 hb4z hk9 hs9
                    go_wp2_with fail
                    go_roundw
                    case rel =>
                      have hx1 := hkzW.size
                      have hx2 := hk8.size
                      have hb8z : Blk W9 (w.heap.size + 1) #[.slice none 0 0] 34 := ((hb8.keep hkzW fun h => h).keep hk8 fun h => h).keep hk9 (by omega)
                      have hk9' : Keep No w W9 := ((hkk.trans' hkzW).trans' hk8).trans hk9 fun j hj e => absurd hj (by have e2 : j = w.heap.size := e; omega)
                      have hf9 : Fl (fun j => A j ∨ (w.heap.size + 2 ≤ j ∧ j < W9.heap.size)) W9 6 encS (.slice a8 mk2.length c8) mk2 := by
                        refine (ho8.fl.keep hk9 fun j _ ha e => ?_).mono fun j hj ha => .inr ?_
                        · have e2 : j = w.heap.size := e
                          have := ha.1
                          omega
                        · have := ha.1
                          exact ⟨by omega, hj⟩
                      exact ⟨at_ + t, _, by first | rfl | (congr 1; omega), HN1.out, hb4z, hb8z, HMK.out ▸ hf9, hk9'⟩
                    case measure => have := HN0.out; have := HN1.out; simp [intOf]; omega
                  | false =>
                    obtain rfl : dd = d := by simpa using hdd
                    clear hdd
                    go_wp2_with fail
                    generalize (wq.setCell ⟨g2, 5, none⟩ (.string ⟨nb.toArray⟩)).setCell ⟨g2, 2, none⟩ (.bool dd) = Wx at *
                    have hkzW := HKS.out
                    refine (rvwith_any (w := Wx) ⟨p.addr, p.prot, dd, p.file, p.off, nb⟩ (HFK.out.no hkzW) (fun j hj => Nat.lt_of_lt_of_le (HAK.out j hj).2.2 hkzW.size) HLL.out HPQ.out HPAL.out).mono ?_
                    rintro e W8 ⟨v8, rfl, ho8, hk8⟩
                    rw [HM2.out] at ho8
                    obtain ⟨a8, c8, rfl, _, _⟩ := ho8.fl.shape
                    go_wp2_with (with_reducible refine wl_stAgg rfl _ _ _ rfl _ _ rfl rfl ?_)
                    refine rg_stAgg ((hb4.keep hkzW fun h => h).keep hk8 fun h => h) (by kernel_rfl) (by rfl) (by simp [Value.oneCell']) ?_
                    intro W9 hb4z hk9 hs9
                    go_wp2_with fail
                    go_roundw
                    case rel =>
                      have hx1 := hkzW.size
                      have hx2 := hk8.size
                      have hb8z : Blk W9 (w.heap.size + 1) #[.slice none 0 0] 34 := ((hb8.keep hkzW fun h => h).keep hk8 fun h => h).keep hk9 (by omega)
                      have hk9' : Keep No w W9 := ((hkk.trans' hkzW).trans' hk8).trans hk9 fun j hj e => absurd hj (by have e2 : j = w.heap.size := e; omega)
                      have hf9 : Fl (fun j => A j ∨ (w.heap.size + 2 ≤ j ∧ j < W9.heap.size)) W9 6 encS (.slice a8 mk2.length c8) mk2 := by
                        refine (ho8.fl.keep hk9 fun j _ ha e => ?_).mono fun j hj ha => .inr ?_
                        · have e2 : j = w.heap.size := e
                          have := ha.1
                          omega
                        · have := ha.1
                          exact ⟨by omega, hj⟩
                      exact ⟨at_ + t, _, by first | rfl | (congr 1; omega), HN1.out, hb4z, hb8z, HMK.out ▸ hf9, hk9'⟩
                    case measure => have := HN0.out; have := HN1.out; simp [intOf]; omega
          · have hka : Keep No wz (wz.drew.alloc (.cells #[.int .u64 0, .int .i64 0, .bool false, .string ⟨#[]⟩, .int .u64 0, .string ⟨#[]⟩] 72)) := hkd.alloc _
            have hBa : Blk (wz.drew.alloc (.cells #[.int .u64 0, .int .i64 0, .bool false, .string ⟨#[]⟩, .int .u64 0, .string ⟨#[]⟩] 72)) wz.heap.size #[.int .u64 0, .int .i64 0, .bool false, .string ⟨#[]⟩, .int .u64 0, .string ⟨#[]⟩] 72 := Blk.new wz.drew _ _
            have p4y : ((wz.drew.alloc (.cells #[.int .u64 0, .int .i64 0, .bool false, .string ⟨#[]⟩, .int .u64 0, .string ⟨#[]⟩] 72))).cell? ⟨w.heap.size, 0, none⟩ = _ := ((hka).cell (p := ⟨w.heap.size, 0, none⟩) hcw fun h => h).trans p4
            have c0y : ((wz.drew.alloc (.cells #[.int .u64 0, .int .i64 0, .bool false, .string ⟨#[]⟩, .int .u64 0, .string ⟨#[]⟩] 72))).cell? ⟨g, off + i * 6, none⟩ = _ := ((hka).cell (p := ⟨g, off + i * 6, none⟩) hgl fun h => h).trans c0
            have c1y : ((wz.drew.alloc (.cells #[.int .u64 0, .int .i64 0, .bool false, .string ⟨#[]⟩, .int .u64 0, .string ⟨#[]⟩] 72))).cell? ⟨g, off + i * 6 + 1, none⟩ = _ := ((hka).cell (p := ⟨g, off + i * 6 + 1, none⟩) hgl fun h => h).trans c1
            have c2y : ((wz.drew.alloc (.cells #[.int .u64 0, .int .i64 0, .bool false, .string ⟨#[]⟩, .int .u64 0, .string ⟨#[]⟩] 72))).cell? ⟨g, off + i * 6 + 2, none⟩ = _ := ((hka).cell (p := ⟨g, off + i * 6 + 2, none⟩) hgl fun h => h).trans c2
            have c3y : ((wz.drew.alloc (.cells #[.int .u64 0, .int .i64 0, .bool false, .string ⟨#[]⟩, .int .u64 0, .string ⟨#[]⟩] 72))).cell? ⟨g, off + i * 6 + 3, none⟩ = _ := ((hka).cell (p := ⟨g, off + i * 6 + 3, none⟩) hgl fun h => h).trans c3
            have c4y : ((wz.drew.alloc (.cells #[.int .u64 0, .int .i64 0, .bool false, .string ⟨#[]⟩, .int .u64 0, .string ⟨#[]⟩] 72))).cell? ⟨g, off + i * 6 + 4, none⟩ = _ := ((hka).cell (p := ⟨g, off + i * 6 + 4, none⟩) hgl fun h => h).trans c4
            have c5y : ((wz.drew.alloc (.cells #[.int .u64 0, .int .i64 0, .bool false, .string ⟨#[]⟩, .int .u64 0, .string ⟨#[]⟩] 72))).cell? ⟨g, off + i * 6 + 5, none⟩ = _ := ((hka).cell (p := ⟨g, off + i * 6 + 5, none⟩) hgl fun h => h).trans c5
            go_wp2_with fail
            refine ⟨fun _ => ⟨p4y, c0y, c1y, c2y, c3y, c4y, c5y⟩, ?_⟩
            refine tr_eff (o := ⟨some 39, _, _, _, _, _⟩) rfl rfl (fun K hKe => ?_)
            have hfa := HFI.out _ hka
            go_wp2_with fail
            refine hfa.mono ?_
            rintro e W3 ⟨rfl, hk3⟩
            have hBa3 := hBa.keep hk3 fun h => h
            replace hk3 := hka.trans' hk3
            have p4x : (W3).cell? ⟨w.heap.size, 0, none⟩ = _ := ((hk3).cell (p := ⟨w.heap.size, 0, none⟩) hcw fun h => h).trans p4
            have c0x : (W3).cell? ⟨g, off + i * 6, none⟩ = _ := ((hk3).cell (p := ⟨g, off + i * 6, none⟩) hgl fun h => h).trans c0
            have c1x : (W3).cell? ⟨g, off + i * 6 + 1, none⟩ = _ := ((hk3).cell (p := ⟨g, off + i * 6 + 1, none⟩) hgl fun h => h).trans c1
            have c2x : (W3).cell? ⟨g, off + i * 6 + 2, none⟩ = _ := ((hk3).cell (p := ⟨g, off + i * 6 + 2, none⟩) hgl fun h => h).trans c2
            have c3x : (W3).cell? ⟨g, off + i * 6 + 3, none⟩ = _ := ((hk3).cell (p := ⟨g, off + i * 6 + 3, none⟩) hgl fun h => h).trans c3
            have c4x : (W3).cell? ⟨g, off + i * 6 + 4, none⟩ = _ := ((hk3).cell (p := ⟨g, off + i * 6 + 4, none⟩) hgl fun h => h).trans c4
            have c5x : (W3).cell? ⟨g, off + i * 6 + 5, none⟩ = _ := ((hk3).cell (p := ⟨g, off + i * 6 + 5, none⟩) hgl fun h => h).trans c5
            go_wp2_with fail
            refine ⟨fun _ => ⟨p4x, c0x, c1x, c2x, c3x, c4x, c5x⟩, ?_⟩
            apply tr_still (o := ⟨some 40, _, _, _, _, _⟩) rfl rfl
            · intro w' hS
              obtain ⟨q1, q2, q3, q4, q5, q6, q7⟩ := hS
              first | (go_simp; done) | (go_simp; rfl) | rfl
            go_frame
            apply tr_still (o := ⟨some 41, _, _, _, _, _⟩) rfl rfl
            · intro w' hS
              obtain ⟨q1, q2, q3, q4, q5, q6, q7⟩ := hS
              first | (go_simp; done) | (go_simp; rfl) | rfl
            go_frame
            refine tr_eff (o := ⟨none, _, _, _, _, _⟩) rfl rfl (fun K hKe => ?_)
            refine wo_stAgg (.tmp 12) (.tmp 41) 72 rfl _ _ rfl rfl ?_
            refine rg_stAgg hBa3 (by kernel_rfl) (by rfl) (by simp [Value.oneCell']) ?_
            intro W5 hbp hk5a hz5
            have hk5 : Keep No wz W5 := hk3.trans hk5a fun j hj e => by have e2 : j = wz.heap.size := e; omega
            obtain ⟨g2, hg2e⟩ : ∃ g2, g2 = wz.heap.size := ⟨_, rfl⟩
            have hg2 : wz.heap.size ≤ g2 := by omega
            refine hKe _ _ ⟨fun h => by simp at h, tr_nil ?_⟩
            clear p4x c0x c1x c2x c3x c4x c5x p4y c0y c1y c2y c3y c4y c5y hka hBa hBa3 hk3 hfa p4 c0 c1 c2 c3 c4 c5 hkd hk5a
            rw [← hg2e] at hbp
            have e3 : wz.drew.heap.size = g2 := hg2e.symm
            try rw [e3]
            try rw [← hg2e]
            clear e3 hg2e
            clear hw1 hw2 hilz hltz hgl hAg
            have hb4a := hb4.keep hk5 fun h => h
            have hb8a := hb8.keep hk5 fun h => h
            have hfka := HFK.out.no hk5
            have hkka := hkk.trans' hk5
            have hg5 := hbp.lt
            have hw5 := hk5.size
            have e5 : W5.cell? ⟨g2, 5, none⟩ = some (.string ⟨p.b.toArray⟩) := hbp.cell 5
            go_wp2_with (at_builtin; refine wl_append rfl _ _ _ _ rfl _ _ rfl rfl ?_)
            refine rg_catstr Try.underlying25 Try.underlying9 W5.heap.size p.b (by rw [HBL.out]; decide) (Nat.le_refl _) ?_
            intro vc W6 hoc hk6
            rw [HBL.out] at hoc
            obtain ⟨gc, capc, rfl, hgc⟩ : ∃ gc capc, vc = .slice (some ⟨gc, 0, none⟩) (256 : Nat) capc ∧ W5.heap.size ≤ gc := by
              rcases hoc.2 with ⟨_, h0⟩ | ⟨gc, capc, cur, rfl, hgb, _⟩
              · exact absurd h0 (by decide)
              · exact ⟨gc, capc, rfl, hgb⟩
            have hltz : (at_ : Int) < (bn : Int) := by omega
            have hA0 := HA0.out
            have hk0 := HK0.out
            have hsum := HSUM.out
            go_wp2_with fail
            clear e5
            go_loopw [11, 14] (fun iv kv wq => ∃ t : Nat, iv = .int .i64 ((at_ + t : Nat) : Int) ∧ kv = .int .i64 ((k0 + t : Nat) : Int) ∧ t ≤ n ∧ wq.ownsRow W5.heap.size 5 1 (.slice (some ⟨gc, 0, none⟩) (256 : Nat) capc) 256 ((setR p.b k0 (ct.take t)).map bv) ∧ Keep No W5 wq) (fun _ kv _ => 256 - (intOf kv).toNat)
            case atStart => exact ⟨0, by simp, by simp, Nat.zero_le _, by rw [List.take_zero]; exact hoc, hk6⟩
            case round =>
              obtain ⟨t, rfl, rfl, ht, ho, hkq⟩ := hrel
              generalize wr = wq at *
              clear hoc hk6
              have hn1 := HN1.out
              have hn2 := HN2.out
              have hkkq := hkka.trans' hkq
              have hlen : (ct.take t).length = t := by rw [List.length_take, HCTL.out]; omega
              have hsl : (setR p.b k0 (ct.take t)).length = 256 := by rw [setR_len, HBL.out]
              rcases Nat.lt_or_ge t n with htn | htn
              · obtain ⟨x, hx, htk⟩ := HCTX.out t htn
                have i1 : ((k0 + t : Nat) : Int) < 256 := by omega
                have i2 : ((at_ + t : Nat) : Int) < (bn : Int) := by omega
                have hnx : setR p.b k0 (ct.take (t + 1)) = (setR p.b k0 (ct.take t)).set (k0 + t) x := by rw [htk, setR_snoc, hlen]
                have cb1 : wq.cell? ⟨gb, ob + (at_ + t), none⟩ = some (bv x) := (hkkq.cell (p := ⟨gb, ob + (at_ + t), none⟩) hgbl fun h => h).trans (HCB.out (at_ + t) (bv x) (by rw [List.getElem?_map, hx]; rfl))
                have hc1 : wq.cell? ⟨gc, k0 + t, none⟩ = some (bv ((setR p.b k0 (ct.take t))[k0 + t]'(by omega))) := by
                  rw [ho.cellAt (k0 + t) (by omega), List.getElem?_map, List.getElem?_eq_getElem (by omega)]
                  rfl
                have hfz : wq.frozen? ⟨gc, k0 + t, none⟩ = false := ho.frozenAt _
                have ho2 := ho.stored (k0 + t) (bv x)
                rw [← List.map_set, ← hnx] at ho2
                have hk2 := hkq.setCell (p := ⟨gc, k0 + t, none⟩) (fun h => absurd h (Nat.not_lt.2 hgc)) (bv x)
                unfold bv at cb1 hc1 ho2 hk2
                generalize (setR p.b k0 (ct.take t))[k0 + t]'(by omega) = y at *
                clear hnx htk hx hsl hlen ho hkq hkkq hn1 hn2 ht
                obtain ⟨a1, ha1⟩ : ∃ a1, a1 = at_ + t := ⟨_, rfl⟩
                obtain ⟨k1, hk1⟩ : ∃ k1, k1 = k0 + t := ⟨_, rfl⟩
                rw [← ha1] at cb1 i2 ⊢
                rw [← hk1] at hc1 hfz ho2 hk2 i1 ⊢
                have HA1 := Lib.hid ha1
                have HK1 := Lib.hid hk1
                have ha1b : a1 ≤ 1000 := by omega
                clear ha1 hk1
                go_wp2_with fail
                go_roundw
                case rel => exact ⟨t + 1, by have := HA1.out; go_num, by have := HK1.out; go_num, htn, ho2.1, hk2⟩
                case measure => simp [intOf]; omega
              · have htn2 : t = n := Nat.le_antisymm ht htn
                subst htn2
                rw [List.take_of_length_le (by rw [HCTL.out]; exact Nat.le_refl _)] at ho hsl
                have hcv : (convert 25 9 (.slice (some ⟨gc, 0, none⟩) (256 : Nat) capc)).run Try.prog wq = .ok (.string ⟨(setR p.b k0 ct).toArray⟩) wq := conv_str (A := fun j => W5.heap.size ≤ j ∧ some j = (Value.slice (some ⟨gc, 0, none⟩) (256 : Nat) capc).ownBlock) (l := setR p.b k0 ct) (by unfold Bts; rw [hsl]; exact Sl.of_own ho)
                have hbp7 := hbp.keep hkq fun h => h
                have hM2 := HCH.out
                have hkzq : Keep No wz wq := hk5.trans' hkq
                have hb4q := hb4.keep hkzq fun h => h
                have hn3 := HN3.out
                clear hn2 hlen htn ht hk0 hA0 hsum hltz ho
                generalize setR p.b k0 ct = nb at *
                have r4 : wq.cell? ⟨w.heap.size, 0, none⟩ = some (.slice (some ⟨g, off, none⟩) m.length cap) := hb4q.cell 0
                have e0 : wq.cell? ⟨g2, 0, none⟩ = some (.int .u64 (p.addr : Int)) := hbp7.cell 0
                have e1 : wq.cell? ⟨g2, 1, none⟩ = some (.int .i64 (p.prot : Int)) := hbp7.cell 1
                have e2 : wq.cell? ⟨g2, 2, none⟩ = some (.bool p.dirty) := hbp7.cell 2
                have e3 : wq.cell? ⟨g2, 3, none⟩ = some (.string ⟨p.file.toArray⟩) := hbp7.cell 3
                have e4 : wq.cell? ⟨g2, 4, none⟩ = some (.int .u64 (p.off : Int)) := hbp7.cell 4
                have e5 : wq.cell? ⟨g2, 5, none⟩ = some (.string ⟨p.b.toArray⟩) := hbp7.cell 5
                have f2 : wq.frozen? ⟨g2, 2, none⟩ = false := hbp7.frozen 2
                have f5 : wq.frozen? ⟨g2, 5, none⟩ = false := hbp7.frozen 5
                have hne : g2 ≠ w.heap.size := by omega
                obtain ⟨dd, hdd⟩ : ∃ dd, dd = (p.dirty || d) := ⟨_, rfl⟩
                rw [← hdd] at hM2
                have hkS : Keep No wz ((wq.setCell ⟨g2, 5, none⟩ (.string ⟨nb.toArray⟩)).setCell ⟨g2, 2, none⟩ (.bool dd)) := (hkzq.new hg2 _).new hg2 _
                have HM2 := Lib.hid hM2
                have HKS := Lib.hid hkS
                clear hM2 hkS hbp7 hkkq hkzq
                generalize p.dirty = pd at *
                rcases hn3 with i1 | ⟨i1, i2⟩
                · have i1 : ¬ ((k0 + t : Nat) : Int) < 256 := by omega
                  cases pd with
                  | true =>
                    obtain rfl : dd = true := by simpa using hdd
                    clear hdd
                    go_wp2_with fail
                    generalize (wq.setCell ⟨g2, 5, none⟩ (.string ⟨nb.toArray⟩)).setCell ⟨g2, 2, none⟩ (.bool true) = Wx at *
                    have hkzW := HKS.out
                    refine (rvwith_any (w := Wx) ⟨p.addr, p.prot, true, p.file, p.off, nb⟩ (HFK.out.no hkzW) (fun j hj => Nat.lt_of_lt_of_le (HAK.out j hj).2.2 hkzW.size) HLL.out HPQ.out HPAL.out).mono ?_
                    rintro e W8 ⟨v8, rfl, ho8, hk8⟩
                    rw [HM2.out] at ho8
                    obtain ⟨a8, c8, rfl, _, _⟩ := ho8.fl.shape
                    go_wp2_with (with_reducible refine wl_stAgg rfl _ _ _ rfl _ _ rfl rfl ?_)
                    refine rg_stAgg ((hb4.keep hkzW fun h => h).keep hk8 fun h => h) (by kernel_rfl) (by rfl) (by simp [Value.oneCell']) ?_
                    intro W9 hb4z hk9 hs9
                    go_wp2_with fail
                    go_roundw
                    case rel =>
                      have hx1 := hkzW.size
                      have hx2 := hk8.size
                      have hb8z : Blk W9 (w.heap.size + 1) #[.slice none 0 0] 34 := ((hb8.keep hkzW fun h => h).keep hk8 fun h => h).keep hk9 (by omega)
                      have hk9' : Keep No w W9 := ((hkk.trans' hkzW).trans' hk8).trans hk9 fun j hj e => absurd hj (by have e2 : j = w.heap.size := e; omega)
                      have hf9 : Fl (fun j => A j ∨ (w.heap.size + 2 ≤ j ∧ j < W9.heap.size)) W9 6 encS (.slice a8 mk2.length c8) mk2 := by
                        refine (ho8.fl.keep hk9 fun j _ ha e => ?_).mono fun j hj ha => .inr ?_
                        · have e2 : j = w.heap.size := e
                          have := ha.1
                          omega
                        · have := ha.1
                          exact ⟨by omega, hj⟩
                      exact ⟨at_ + t, _, by first | rfl | (congr 1; omega), HN1.out, hb4z, hb8z, HMK.out ▸ hf9, hk9'⟩
                    case measure => have := HN0.out; have := HN1.out; simp [intOf]; omega
                  | false =>
                    obtain rfl : dd = d := by simpa using hdd
                    clear hdd
                    go_wp2_with fail
                    generalize (wq.setCell ⟨g2, 5, none⟩ (.string ⟨nb.toArray⟩)).setCell ⟨g2, 2, none⟩ (.bool dd) = Wx at *
                    have hkzW := HKS.out
                    refine (rvwith_any (w := Wx) ⟨p.addr, p.prot, dd, p.file, p.off, nb⟩ (HFK.out.no hkzW) (fun j hj => Nat.lt_of_lt_of_le (HAK.out j hj).2.2 hkzW.size) HLL.out HPQ.out HPAL.out).mono ?_
                    rintro e W8 ⟨v8, rfl, ho8, hk8⟩
                    rw [HM2.out] at ho8
                    obtain ⟨a8, c8, rfl, _, _⟩ := ho8.fl.shape
                    go_wp2_with (with_reducible refine wl_stAgg rfl _ _ _ rfl _ _ rfl rfl ?_)
                    refine rg_stAgg ((hb4.keep hkzW fun h => h).keep hk8 fun h => h) (by kernel_rfl) (by rfl) (by simp [Value.oneCell']) ?_
                    intro W9 hb4z hk9 hs9
                    go_wp2_with fail
                    go_roundw
                    case rel =>
                      have hx1 := hkzW.size
                      have hx2 := hk8.size
                      have hb8z : Blk W9 (w.heap.size + 1) #[.slice none 0 0] 34 := ((hb8.keep hkzW fun h => h).keep hk8 fun h => h).keep hk9 (by omega)
                      have hk9' : Keep No w W9 := ((hkk.trans' hkzW).trans' hk8).trans hk9 fun j hj e => absurd hj (by have e2 : j = w.heap.size := e; omega)
                      have hf9 : Fl (fun j => A j ∨ (w.heap.size + 2 ≤ j ∧ j < W9.heap.size)) W9 6 encS (.slice a8 mk2.length c8) mk2 := by
                        refine (ho8.fl.keep hk9 fun j _ ha e => ?_).mono fun j hj ha => .inr ?_
                        · have e2 : j = w.heap.size := e
                          have := ha.1
                          omega
                        · have := ha.1
                          exact ⟨by omega, hj⟩
                      exact ⟨at_ + t, _, by first | rfl | (congr 1; omega), HN1.out, hb4z, hb8z, HMK.out ▸ hf9, hk9'⟩
                    case measure => have := HN0.out; have := HN1.out; simp [intOf]; omega
                · have i1 : ((k0 + t : Nat) : Int) < 256 := by omega
                  have i2 : ¬ ((at_ + t : Nat) : Int) < (bn : Int) := by omega
                  cases pd with
                  | true =>
                    obtain rfl : dd = true := by simpa using hdd
                    clear hdd
                    go_wp2_with fail
                    generalize (wq.setCell ⟨g2, 5, none⟩ (.string ⟨nb.toArray⟩)).setCell ⟨g2, 2, none⟩ (.bool true) = Wx at *
                    have hkzW := HKS.out
                    refine (rvwith_any (w := Wx) ⟨p.addr, p.prot, true, p.file, p.off, nb⟩ (HFK.out.no hkzW) (fun j hj => Nat.lt_of_lt_of_le (HAK.out j hj).2.2 hkzW.size) HLL.out HPQ.out HPAL.out).mono ?_
                    rintro e W8 ⟨v8, rfl, ho8, hk8⟩
                    rw [HM2.out] at ho8
                    obtain ⟨a8, c8, rfl, _, _⟩ := ho8.fl.shape
                    go_wp2_with (with_reducible refine wl_stAgg rfl _ _ _ rfl _ _ rfl rfl ?_)
                    refine rg_stAgg ((hb4.keep hkzW fun h => h).keep hk8 fun h => h) (by kernel_rfl) (by rfl) (by simp [Value.oneCell']) ?_
                    intro W9 hb4z hk9 hs9
                    go_wp2_with fail
                    go_roundw
                    case rel =>
                      have hx1 := hkzW.size
                      have hx2 := hk8.size
                      have hb8z : Blk W9 (w.heap.size + 1) #[.slice none 0 0] 34 := ((hb8.keep hkzW fun h => h).keep hk8 fun h => h).keep hk9 (by omega)
                      have hk9' : Keep No w W9 := ((hkk.trans' hkzW).trans' hk8).trans hk9 fun j hj e => absurd hj (by have e2 : j = w.heap.size := e; omega)
                      have hf9 : Fl (fun j => A j ∨ (w.heap.size + 2 ≤ j ∧ j < W9.heap.size)) W9 6 encS (.slice a8 mk2.length c8) mk2 := by
                        refine (ho8.fl.keep hk9 fun j _ ha e => ?_).mono fun j hj ha => .inr ?_
                        · have e2 : j = w.heap.size := e
                          have := ha.1
                          omega
                        · have := ha.1
                          exact ⟨by omega, hj⟩
                      exact ⟨at_ + t, _, by first | rfl | (congr 1; omega), HN1.out, hb4z, hb8z, HMK.out ▸ hf9, hk9'⟩
                    case measure => have := HN0.out; have := HN1.out; simp [intOf]; omega
                  | false =>
                    obtain rfl : dd = d := by simpa using hdd
                    clear hdd
                    go_wp2_with fail
                    generalize (wq.setCell ⟨g2, 5, none⟩ (.string ⟨nb.toArray⟩)).setCell ⟨g2, 2, none⟩ (.bool dd) = Wx at *
                    have hkzW := HKS.out
                    refine (rvwith_any (w := Wx) ⟨p.addr, p.prot, dd, p.file, p.off, nb⟩ (HFK.out.no hkzW) (fun j hj => Nat.lt_of_lt_of_le (HAK.out j hj).2.2 hkzW.size) HLL.out HPQ.out HPAL.out).mono ?_
                    rintro e W8 ⟨v8, rfl, ho8, hk8⟩
                    rw [HM2.out] at ho8
                    obtain ⟨a8, c8, rfl, _, _⟩ := ho8.fl.shape
                    go_wp2_with (with_reducible refine wl_stAgg rfl _ _ _ rfl _ _ rfl rfl ?_)
                    refine rg_stAgg ((hb4.keep hkzW fun h => h).keep hk8 fun h => h) (by kernel_rfl) (by rfl) (by simp [Value.oneCell']) ?_
                    intro W9 hb4z hk9 hs9
                    go_wp2_with fail
                    go_roundw
                    case rel =>
                      have hx1 := hkzW.size
                      have hx2 := hk8.size
                      have hb8z : Blk W9 (w.heap.size + 1) #[.slice none 0 0] 34 := ((hb8.keep hkzW fun h => h).keep hk8 fun h => h).keep hk9 (by omega)
                      have hk9' : Keep No w W9 := ((hkk.trans' hkzW).trans' hk8).trans hk9 fun j hj e => absurd hj (by have e2 : j = w.heap.size := e; omega)
                      have hf9 : Fl (fun j => A j ∨ (w.heap.size + 2 ≤ j ∧ j < W9.heap.size)) W9 6 encS (.slice a8 mk2.length c8) mk2 := by
                        refine (ho8.fl.keep hk9 fun j _ ha e => ?_).mono fun j hj ha => .inr ?_
                        · have e2 : j = w.heap.size := e
                          have := ha.1
                          omega
                        · have := ha.1
                          exact ⟨by omega, hj⟩
                      exact ⟨at_ + t, _, by first | rfl | (congr 1; omega), HN1.out, hb4z, hb8z, HMK.out ▸ hf9, hk9'⟩
                    case measure => have := HN0.out; have := HN1.out; simp [intOf]; omega
        · obtain rfl : at_ = bn := Nat.le_antisymm hat hge
          have hone : vk.oneCell' = true := by obtain ⟨_, _, rfl, _, _⟩ := hfk.shape; rfl
          have p4 : wz.cell? ⟨w.heap.size, 0, none⟩ = some vk := hb4.cell 0
          rw [show b.take at_ = b by rw [List.take_of_length_le (by rw [HBN.out]; exact Nat.le_refl _)]] at hfk
          go_wp2_with (with_reducible refine wl_stAgg rfl _ _ _ rfl _ _ rfl rfl ?_)
          refine rg_stAgg hb8 (by kernel_rfl) (by rfl) (by simpa using hone) ?_
          intro w7 hBz hkz hsz
          go_wp2_with fail
          refine ret_blk_tmp rfl rfl hBz Try.underlying34 rfl (by kernel_rfl) rfl ?_
          exact ⟨_, rfl, ((hfk.keep hkz fun j _ ha e => (HAK.out j ha).2.1 e).mono fun j hj ha => ha.elim .inl fun h => .inr ⟨by omega, hj⟩), hkk.trans hkz fun j hj e => absurd hj (by have e2 : j = w.heap.size + 1 := e; omega)⟩
    · have hdc : decide (Vm.heldE m addr bn = 0) = false := by simpa using hne
      have h40 : Vm.heldE m addr bn = 40 := by
        unfold Vm.heldE at hne ⊢
        split
        · rfl
        · rename_i hno
          rw [if_neg hno] at hne
          split
          · rename_i ht; rw [if_pos ht] at hne; exact absurd rfl hne
          · rfl
      rw [hdc]
      rw [h40] at HE
      have hE := HE.out
      subst hE
      clear hne h40 hdc
      go_wp2_with (with_reducible refine wl_stAgg rfl _ _ _ rfl _ _ rfl rfl ?_)
      refine rg_stAgg b8a (by kernel_rfl) (by rfl) (by simp [Value.oneCell']) ?_
      intro wz hBz hkz hsz
      go_wp2_with fail
      refine ret_blk_tmp rfl rfl hBz Try.underlying34 rfl (by kernel_rfl) rfl ?_
      obtain ⟨r1, r2⟩ := HEnd.out (if (40 : Nat) = 0 then writeD d m addr b else m) _ _ rfl hk3 hkz
      exact ⟨_, rfl, r1, r2⟩
end
end Go.Proofs.Ytaoillfofiehpaa
