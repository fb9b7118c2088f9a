/- An instruction's tags (look). No condition. -/
import Derived.Test.YthfekjnekaecaaaDoorTg7
set_option linter.unusedVariables false
set_option linter.unusedSimpArgs false
namespace Go.Proofs.YthfekjnekaecaaaDoor
open Go.RowKit Go.Dm Go.Dm.Vm Go.Dm.Cp Go.Dm.Tg Go.Maps
section
variable {A B S : Nat → Prop} {w w' : World} {d mb x : Nat} {v : Value} {L : Lg}
set_option maxRecDepth 100000 in
set_option maxHeartbeats 4000000 in
theorem tlook_any {M : Nat → Prop} (t : List Int) (s : St) (i : Ins) (own : Int) (u : Value) (mo : Option V) (how : 0 ≤ own ∧ own ≤ (L.m.length : Int)) (hm : memV M w u mo) (hM : ∀ k, M k → k < w.heap.size) (hMA : ∀ k, M k → k ≠ x ∧ k ≠ mb) (hB : Blk w x (stepC d t s i own u) 78) (ht : TsOk L t) (hs : StOk s) (hi : InOk i) (h : LRep A w d L v mb) (hA : ∀ k, A k → k < w.heap.size) (hxA : ¬ A x) :
    Calls Tryd.prog 27 #[ptrTo x] w fun e w' => ∃ t', e = .returned (.bool (lookM L mo t s i own).isSome) ∧ Blk w' x (stepC d t' s i own u) 78 ∧ NewT (lookM L mo t s i own) t' ∧ t'.length = 32 ∧ LRep A w' d (newL (lookM L mo t s i own) L) v mb ∧ Keep (fun j => j = x ∨ j = mb) w w' := by
  have hx := hB.lt
  have hln := h.ok.ln
  have hcl := fun W (hk : Keep No w W) => cells_of (hB.keep hk fun h => h) ht.len hs hi
  have HCL := Lib.hid hcl
  have hO : lookM L mo t s i own = if ¬ (34 ≤ i.op ∧ i.op ≤ 37) ∧ withinM L (add s.pc 8) 1 own = false then none else lookB L mo t s i own := rfl
  generalize lookM L mo t s i own = O at *
  have HO := Lib.hid hO
  have hwi := fun W (hk : Keep No w W) => twithin_any (w := W) (add s.pc 8) 1 own (add_lt _ _) (by decide) (h.no hA hk)
  rw [show ((1 : Nat) : Int) = 1 from rfl] at hwi
  have HWI := Lib.hid hwi
  have hadd8 : IntKind.u64.wrap ((s.pc : Int) + 8) = (add s.pc 8 : Nat) := add_wrap s.pc 8
  have hal8 : add s.pc 8 < 18446744073709551616 := add_lt _ _
  have HBB := Lib.hid hB
  have HT := Lib.hid ht
  have HS := Lib.hid hs
  have HI := Lib.hid hi
  have HH := Lib.hid h
  have HMM := Lib.hid hm
  have haz : (i.a : Int) < 32 := by have := hi.a; omega
  have hbz : (i.b : Int) < 32 := by have := hi.b; omega
  clear hcl hO hwi hB ht hs h hm
  obtain ⟨op, a, b, c, imm⟩ := i
  unfold Cells at HCL
  simp only at HCL haz hbz HO
  generalize hta : t.getD a 0 = ta at *
  generalize htb : t.getD b 0 = tb at *
  generalize htc : t.getD c 0 = tc at *
  generalize hra : s.reg a = ra at *
  generalize hrb : s.reg b = rb at *
  generalize hrc : s.reg c = rc at *
  have HV := Lib.hid (And.intro hta (And.intro htb (And.intro htc (And.intro hra (And.intro hrb hrc)))))
  clear hta htb htc hra hrb hrc
  have hop := hi.op
  simp only at hop
  have hop2 := op_cases hop
  clear hop hi
  by_cases hj : 34 ≤ op ∧ op ≤ 37
  · rw [if_neg (fun h => h.1 hj)] at HO
    obtain ⟨q0, q1, q2, q3, q4, q5, q6, q7, q8, q9, q10, q11, q12, q13, q14⟩ := HCL.out w (Keep.refl _ _)
    have hj4 : op = 34 ∨ op = 35 ∨ op = 36 ∨ op = 37 := by omega
    have r0 : w.drew.cell? ⟨x, 0, none⟩ = some (.pointer (some ⟨d, 0, none⟩)) := q0
    clear q0 q1 q3 q4 q5 q6 q7 q8 q9 q10 q11 q12 q13 q14 HWI hadd8 hal8 hop2 hj
    generalize s.pc = pc at *
    unfold ptrTo at *
    rcases hj4 with rfl | rfl | rfl | rfl
    · skip
      go_enter Tryd.func27, Tryd.ntmps27
      go_wp2_with fail
      refine wp_region_sig (fun w' => w'.cell? ⟨x, 0, none⟩ = some (.pointer (some ⟨d, 0, none⟩)) ∧ True) (fun j => decide (j ≤ 99)) [(0, true), (1, true), (2, true), (3, true), (4, true), (5, true), (6, true), (7, true), (8, true), (9, true), (10, true), (11, true), (12, true), (13, true), (14, true), (15, true), (16, true), (17, true), (18, true), (19, true)] (by kernel_rfl) (by kernel_rfl) (by intro c a d v w h; cases d <;> exact h) ⟨r0, trivial⟩ ?_
      apply sig_still (o := ⟨some 41, _, _, _, _, _⟩) rfl rfl
      · intro w' hS
        obtain ⟨q1, q2⟩ := hS
        first | (go_simp; done) | (go_simp; rfl) | rfl
      go_frame
      apply sig_still (o := ⟨some 42, _, _, _, _, _⟩) rfl rfl
      · intro w' hS
        obtain ⟨q1, q2⟩ := hS
        first | (go_simp; done) | (go_simp; rfl) | rfl
      go_frame
      apply sig_still (o := ⟨some 43, _, _, _, _, _⟩) rfl rfl
      · intro w' hS
        obtain ⟨q1, q2⟩ := hS
        first | (go_simp; done) | (go_simp; rfl) | rfl
      go_frame
      refine sig_skip (o := ⟨some 44, _, _, _, _, _⟩) rfl (by rfl) ?_
      go_frame
      refine sig_skip (o := ⟨some 45, _, _, _, _, _⟩) rfl (by rfl) ?_
      go_frame
      refine sig_skip (o := ⟨some 46, _, _, _, _, _⟩) rfl (by rfl) ?_
      go_frame
      refine sig_skip (o := ⟨some 47, _, _, _, _, _⟩) rfl (by rfl) ?_
      go_frame
      refine sig_skip (o := ⟨some 48, _, _, _, _, _⟩) rfl (by rfl) ?_
      go_frame
      refine sig_skip (o := ⟨some 49, _, _, _, _, _⟩) rfl (by rfl) ?_
      go_frame
      refine sig_skip (o := ⟨some 50, _, _, _, _, _⟩) rfl (by rfl) ?_
      go_frame
      refine sig_skip (o := ⟨some 51, _, _, _, _, _⟩) rfl (by rfl) ?_
      go_frame
      refine sig_skip (o := ⟨some 52, _, _, _, _, _⟩) rfl (by rfl) ?_
      go_frame
      refine sig_skip (o := ⟨some 53, _, _, _, _, _⟩) rfl (by rfl) ?_
      go_frame
      refine sig_skip (o := ⟨some 54, _, _, _, _, _⟩) rfl (by rfl) ?_
      go_frame
      refine sig_skip (o := ⟨some 55, _, _, _, _, _⟩) rfl (by rfl) ?_
      go_frame
      refine sig_skip (o := ⟨some 56, _, _, _, _, _⟩) rfl (by rfl) ?_
      go_frame
      refine sig_skip (o := ⟨some 57, _, _, _, _, _⟩) rfl (by rfl) ?_
      go_frame
      refine sig_skip (o := ⟨some 58, _, _, _, _, _⟩) rfl (by rfl) ?_
      go_frame
      refine sig_skip (o := ⟨some 59, _, _, _, _, _⟩) rfl (by rfl) ?_
      go_frame
      apply sig_still (o := ⟨some 60, _, _, _, _, _⟩) rfl rfl
      · intro w' hS
        obtain ⟨q1, q2⟩ := hS
        first | (go_simp; done) | (go_simp; rfl) | rfl
      go_frame
      refine sig_nil ?_
      have hkW2 : Keep No w w.drew := (Keep.refl No w).drew
      generalize w.drew = W2 at *
      clear r0 q2
      have hx2 : x < W2.heap.size := Nat.lt_of_lt_of_le hx hkW2.size
      obtain ⟨-, -, q5, q0, q1, -, -, -, -, q6, q2, -, q3, q4, -⟩ := HCL.out W2 hkW2
      go_wp2_with fail
      go_quiet (fail)
      generalize hwq : W2.drewN nq = W3 at *
      have hkW3 : Keep No w W3 := hkW2.trans' (hwq ▸ (Keep.refl No W2).drewN nq)
      obtain ⟨-, -, q5, q0, q1, -, -, -, -, q6, q2, -, q3, q4, -⟩ := HCL.out W3 hkW3
      clear hwq
      go_wp2_with fail
      go_quiet (fail)
      generalize hwq : W3.drewN nq = W4 at *
      have hkW4 : Keep No w W4 := hkW3.trans' (hwq ▸ (Keep.refl No W3).drewN nq)
      obtain ⟨p0, p1, p2, p3, p4, p5, p6, p7, p8, p9, p10, p11, p12, p13, p14⟩ := HCL.out W4 hkW4
      have hB4 := HBB.out.keep hkW4 fun h => h
      have hL4 := HH.out.no hA hkW4
      clear hwq q0 q1 q2 q3 q4 q5 q6 hkW2 hkW3 hx2 p1 p3 p4 p5 p6 p7 p8 p10 p11 p12 p13 p14
      have HQ := Lib.hid (HO.out.trans (lb_34 L mo t s a b c imm own))
      have hin := tinside_any (w := W4) t s ⟨34, a, b, c, imm⟩ own u hB4 HT.out.len HS.out HI.out hL4 (fun j hj => Nat.lt_of_lt_of_le (hA j hj) hkW4.size)
      unfold ptrTo at hin
      generalize insideM L s ⟨34, a, b, c, imm⟩ own = ib at *
      go_wp2_with fail
      refine hin.mono ?_
      rintro e W5 ⟨rfl, hk⟩
      replace hB4 := hB4.keep hk fun h => h
      replace hkW4 := hkW4.trans' hk
      replace hL4 := HH.out.no hA hkW4
      clear hin
      cases ib with
      | true =>
        rw [if_pos (by simp)] at HQ
        go_wp2_with fail
        go_ret
        rw [HQ.out]
        exact ⟨t, rfl, hB4, fun r hr => (by cases hr; rfl), HT.out.len, hL4, hkW4.mono fun _ _ h => h.elim⟩
      | false =>
        rw [if_neg (by simp)] at HQ
        go_wp2_with fail
        go_ret
        rw [HQ.out]
        exact ⟨t, rfl, hB4, fun r hr => (by cases hr), HT.out.len, hL4, hkW4.mono fun _ _ h => h.elim⟩
    · skip
      go_enter Tryd.func27, Tryd.ntmps27
      go_wp2_with fail
      refine wp_region_sig (fun w' => w'.cell? ⟨x, 0, none⟩ = some (.pointer (some ⟨d, 0, none⟩)) ∧ True) (fun j => decide (j ≤ 99)) [(0, true), (1, true), (2, true), (3, true), (4, true), (5, true), (6, true), (7, true), (8, true), (9, true), (10, true), (11, true), (12, true), (13, true), (14, true), (15, true), (16, true), (17, true), (18, true), (19, true)] (by kernel_rfl) (by kernel_rfl) (by intro c a d v w h; cases d <;> exact h) ⟨r0, trivial⟩ ?_
      apply sig_still (o := ⟨some 41, _, _, _, _, _⟩) rfl rfl
      · intro w' hS
        obtain ⟨q1, q2⟩ := hS
        first | (go_simp; done) | (go_simp; rfl) | rfl
      go_frame
      apply sig_still (o := ⟨some 42, _, _, _, _, _⟩) rfl rfl
      · intro w' hS
        obtain ⟨q1, q2⟩ := hS
        first | (go_simp; done) | (go_simp; rfl) | rfl
      go_frame
      apply sig_still (o := ⟨some 43, _, _, _, _, _⟩) rfl rfl
      · intro w' hS
        obtain ⟨q1, q2⟩ := hS
        first | (go_simp; done) | (go_simp; rfl) | rfl
      go_frame
      refine sig_skip (o := ⟨some 44, _, _, _, _, _⟩) rfl (by rfl) ?_
      go_frame
      refine sig_skip (o := ⟨some 45, _, _, _, _, _⟩) rfl (by rfl) ?_
      go_frame
      refine sig_skip (o := ⟨some 46, _, _, _, _, _⟩) rfl (by rfl) ?_
      go_frame
      refine sig_skip (o := ⟨some 47, _, _, _, _, _⟩) rfl (by rfl) ?_
      go_frame
      refine sig_skip (o := ⟨some 48, _, _, _, _, _⟩) rfl (by rfl) ?_
      go_frame
      refine sig_skip (o := ⟨some 49, _, _, _, _, _⟩) rfl (by rfl) ?_
      go_frame
      refine sig_skip (o := ⟨some 50, _, _, _, _, _⟩) rfl (by rfl) ?_
      go_frame
      refine sig_skip (o := ⟨some 51, _, _, _, _, _⟩) rfl (by rfl) ?_
      go_frame
      refine sig_skip (o := ⟨some 52, _, _, _, _, _⟩) rfl (by rfl) ?_
      go_frame
      refine sig_skip (o := ⟨some 53, _, _, _, _, _⟩) rfl (by rfl) ?_
      go_frame
      refine sig_skip (o := ⟨some 54, _, _, _, _, _⟩) rfl (by rfl) ?_
      go_frame
      refine sig_skip (o := ⟨some 55, _, _, _, _, _⟩) rfl (by rfl) ?_
      go_frame
      refine sig_skip (o := ⟨some 56, _, _, _, _, _⟩) rfl (by rfl) ?_
      go_frame
      refine sig_skip (o := ⟨some 57, _, _, _, _, _⟩) rfl (by rfl) ?_
      go_frame
      refine sig_skip (o := ⟨some 58, _, _, _, _, _⟩) rfl (by rfl) ?_
      go_frame
      refine sig_skip (o := ⟨some 59, _, _, _, _, _⟩) rfl (by rfl) ?_
      go_frame
      apply sig_still (o := ⟨some 60, _, _, _, _, _⟩) rfl rfl
      · intro w' hS
        obtain ⟨q1, q2⟩ := hS
        first | (go_simp; done) | (go_simp; rfl) | rfl
      go_frame
      refine sig_nil ?_
      have hkW2 : Keep No w w.drew := (Keep.refl No w).drew
      generalize w.drew = W2 at *
      clear r0 q2
      have hx2 : x < W2.heap.size := Nat.lt_of_lt_of_le hx hkW2.size
      obtain ⟨-, -, q5, q0, q1, -, -, -, -, q6, q2, -, q3, q4, -⟩ := HCL.out W2 hkW2
      go_wp2_with fail
      go_quiet (fail)
      generalize hwq : W2.drewN nq = W3 at *
      have hkW3 : Keep No w W3 := hkW2.trans' (hwq ▸ (Keep.refl No W2).drewN nq)
      obtain ⟨-, -, q5, q0, q1, -, -, -, -, q6, q2, -, q3, q4, -⟩ := HCL.out W3 hkW3
      clear hwq
      go_wp2_with fail
      go_quiet (fail)
      generalize hwq : W3.drewN nq = W4 at *
      have hkW4 : Keep No w W4 := hkW3.trans' (hwq ▸ (Keep.refl No W3).drewN nq)
      obtain ⟨p0, p1, p2, p3, p4, p5, p6, p7, p8, p9, p10, p11, p12, p13, p14⟩ := HCL.out W4 hkW4
      have hB4 := HBB.out.keep hkW4 fun h => h
      have hL4 := HH.out.no hA hkW4
      clear hwq q0 q1 q2 q3 q4 q5 q6 hkW2 hkW3 hx2 p1 p3 p4 p5 p6 p7 p8 p10 p11 p12 p13 p14
      have HQ := Lib.hid (HO.out.trans (lb_35 L mo t s a b c imm own))
      have p7 := (HCL.out W4 hkW4).2.2.2.2.2.2.2.1
      go_wp2_with (with_reducible refine wl_stInt rfl _ _ _ rfl _ _ _ rfl rfl ?_)
      refine rg_stC hB4 (by rw [stepC_size HT.out.len HS.out]; have := HI.out.a; simp only at this; omega) int_sz ?_
      intro W5 hB5 hk5 hz5
      rw [stepC_set HT.out.len HI.out.a] at hB5
      have hL5 := hL4.keep hk5 (fun j hj e => hxA (e ▸ hj)) (fun j hj => Nat.lt_of_lt_of_le (hA j hj) hkW4.size)
      have hkx : Keep (fun j => j = x ∨ j = mb) w W5 := (hkW4.mono fun _ _ h => h.elim).trans hk5 fun j hj e => .inl e
      have hin := tinside_any (w := W5) (t.set a own) s ⟨35, a, b, c, imm⟩ own u hB5 (by rw [List.length_set]; exact HT.out.len) HS.out HI.out hL5 (fun j hj => Nat.lt_of_lt_of_le (hA j hj) (Nat.le_trans hkW4.size hk5.size))
      unfold ptrTo at hin
      generalize insideM L s ⟨35, a, b, c, imm⟩ own = ib at *
      go_wp2_with fail
      refine hin.mono ?_
      rintro e W6 ⟨rfl, hk⟩
      replace hB5 := hB5.keep hk fun h => h
      replace hL5 := hL5.no (fun j hj => Nat.lt_of_lt_of_le (hA j hj) (Nat.le_trans hkW4.size hk5.size)) hk
      replace hkx := hkx.trans hk fun _ _ h => h.elim
      clear hin
      cases ib with
      | true =>
        rw [if_pos (by simp)] at HQ
        go_wp2_with fail
        go_ret
        rw [HQ.out]
        first
        | exact ⟨rfl, _, hB5, fun r hr => (by cases hr; rfl), by rw [List.length_set]; exact HT.out.len, hL5, hkx⟩
        | exact ⟨_, rfl, hB5, fun r hr => (by cases hr; rfl), by rw [List.length_set]; exact HT.out.len, hL5, hkx⟩
      | false =>
        rw [if_neg (by simp)] at HQ
        go_wp2_with fail
        go_ret
        rw [HQ.out]
        first
        | exact ⟨rfl, _, hB5, fun r hr => (by cases hr), by rw [List.length_set]; exact HT.out.len, hL5, hkx⟩
        | exact ⟨_, rfl, hB5, fun r hr => (by cases hr), by rw [List.length_set]; exact HT.out.len, hL5, hkx⟩
    · skip
      go_enter Tryd.func27, Tryd.ntmps27
      go_wp2_with fail
      refine wp_region_sig (fun w' => w'.cell? ⟨x, 0, none⟩ = some (.pointer (some ⟨d, 0, none⟩)) ∧ True) (fun j => decide (j ≤ 99)) [(0, true), (1, true), (2, true), (3, true), (4, true), (5, true), (6, true), (7, true), (8, true), (9, true), (10, true), (11, true), (12, true), (13, true), (14, true), (15, true), (16, true), (17, true), (18, true), (19, true)] (by kernel_rfl) (by kernel_rfl) (by intro c a d v w h; cases d <;> exact h) ⟨r0, trivial⟩ ?_
      apply sig_still (o := ⟨some 41, _, _, _, _, _⟩) rfl rfl
      · intro w' hS
        obtain ⟨q1, q2⟩ := hS
        first | (go_simp; done) | (go_simp; rfl) | rfl
      go_frame
      apply sig_still (o := ⟨some 42, _, _, _, _, _⟩) rfl rfl
      · intro w' hS
        obtain ⟨q1, q2⟩ := hS
        first | (go_simp; done) | (go_simp; rfl) | rfl
      go_frame
      apply sig_still (o := ⟨some 43, _, _, _, _, _⟩) rfl rfl
      · intro w' hS
        obtain ⟨q1, q2⟩ := hS
        first | (go_simp; done) | (go_simp; rfl) | rfl
      go_frame
      refine sig_skip (o := ⟨some 44, _, _, _, _, _⟩) rfl (by rfl) ?_
      go_frame
      refine sig_skip (o := ⟨some 45, _, _, _, _, _⟩) rfl (by rfl) ?_
      go_frame
      refine sig_skip (o := ⟨some 46, _, _, _, _, _⟩) rfl (by rfl) ?_
      go_frame
      refine sig_skip (o := ⟨some 47, _, _, _, _, _⟩) rfl (by rfl) ?_
      go_frame
      refine sig_skip (o := ⟨some 48, _, _, _, _, _⟩) rfl (by rfl) ?_
      go_frame
      refine sig_skip (o := ⟨some 49, _, _, _, _, _⟩) rfl (by rfl) ?_
      go_frame
      refine sig_skip (o := ⟨some 50, _, _, _, _, _⟩) rfl (by rfl) ?_
      go_frame
      refine sig_skip (o := ⟨some 51, _, _, _, _, _⟩) rfl (by rfl) ?_
      go_frame
      refine sig_skip (o := ⟨some 52, _, _, _, _, _⟩) rfl (by rfl) ?_
      go_frame
      refine sig_skip (o := ⟨some 53, _, _, _, _, _⟩) rfl (by rfl) ?_
      go_frame
      refine sig_skip (o := ⟨some 54, _, _, _, _, _⟩) rfl (by rfl) ?_
      go_frame
      refine sig_skip (o := ⟨some 55, _, _, _, _, _⟩) rfl (by rfl) ?_
      go_frame
      refine sig_skip (o := ⟨some 56, _, _, _, _, _⟩) rfl (by rfl) ?_
      go_frame
      refine sig_skip (o := ⟨some 57, _, _, _, _, _⟩) rfl (by rfl) ?_
      go_frame
      refine sig_skip (o := ⟨some 58, _, _, _, _, _⟩) rfl (by rfl) ?_
      go_frame
      refine sig_skip (o := ⟨some 59, _, _, _, _, _⟩) rfl (by rfl) ?_
      go_frame
      apply sig_still (o := ⟨some 60, _, _, _, _, _⟩) rfl rfl
      · intro w' hS
        obtain ⟨q1, q2⟩ := hS
        first | (go_simp; done) | (go_simp; rfl) | rfl
      go_frame
      refine sig_nil ?_
      have hkW2 : Keep No w w.drew := (Keep.refl No w).drew
      generalize w.drew = W2 at *
      clear r0 q2
      have hx2 : x < W2.heap.size := Nat.lt_of_lt_of_le hx hkW2.size
      obtain ⟨-, -, q5, q0, q1, -, -, -, -, q6, q2, -, q3, q4, -⟩ := HCL.out W2 hkW2
      go_wp2_with fail
      go_quiet (fail)
      generalize hwq : W2.drewN nq = W3 at *
      have hkW3 : Keep No w W3 := hkW2.trans' (hwq ▸ (Keep.refl No W2).drewN nq)
      obtain ⟨-, -, q5, q0, q1, -, -, -, -, q6, q2, -, q3, q4, -⟩ := HCL.out W3 hkW3
      clear hwq
      go_wp2_with fail
      go_quiet (fail)
      generalize hwq : W3.drewN nq = W4 at *
      have hkW4 : Keep No w W4 := hkW3.trans' (hwq ▸ (Keep.refl No W3).drewN nq)
      obtain ⟨p0, p1, p2, p3, p4, p5, p6, p7, p8, p9, p10, p11, p12, p13, p14⟩ := HCL.out W4 hkW4
      have hB4 := HBB.out.keep hkW4 fun h => h
      have hL4 := HH.out.no hA hkW4
      clear hwq q0 q1 q2 q3 q4 q5 q6 hkW2 hkW3 hx2 p1 p3 p4 p5 p6 p7 p8 p10 p11 p12 p13 p14
      have HQ := Lib.hid (HO.out.trans (lb_36 L mo t s a b c imm own))
      rw [HV.out.2.1, HV.out.2.2.2.2.1] at HQ
      have hrb : rb < 18446744073709551616 := by rw [← HV.out.2.2.2.2.1]; exact HS.out.reg b
      have hin := twithin_any (w := W4) rb 1 tb hrb (by decide) hL4
      rw [show ((1 : Nat) : Int) = 1 from rfl] at hin
      unfold ptrTo at hin
      generalize withinM L rb 1 tb = ib at *
      have p0 := (HCL.out W4 hkW4).1
      go_wp2_with fail
      refine hin.mono ?_
      rintro e W5 ⟨rfl, hk⟩
      replace hB4 := hB4.keep hk fun h => h
      replace hkW4 := hkW4.trans' hk
      replace hL4 := HH.out.no hA hkW4
      clear hin
      cases ib with
      | true =>
        rw [if_pos (by simp)] at HQ
        go_wp2_with fail
        go_ret
        rw [HQ.out]
        exact ⟨t, rfl, hB4, fun r hr => (by cases hr; rfl), HT.out.len, hL4, hkW4.mono fun _ _ h => h.elim⟩
      | false =>
        rw [if_neg (by simp)] at HQ
        go_wp2_with fail
        go_ret
        rw [HQ.out]
        exact ⟨t, rfl, hB4, fun r hr => (by cases hr), HT.out.len, hL4, hkW4.mono fun _ _ h => h.elim⟩
    · skip
      go_enter Tryd.func27, Tryd.ntmps27
      go_wp2_with fail
      refine wp_region_sig (fun w' => w'.cell? ⟨x, 0, none⟩ = some (.pointer (some ⟨d, 0, none⟩)) ∧ True) (fun j => decide (j ≤ 99)) [(0, true), (1, true), (2, true), (3, true), (4, true), (5, true), (6, true), (7, true), (8, true), (9, true), (10, true), (11, true), (12, true), (13, true), (14, true), (15, true), (16, true), (17, true), (18, true), (19, true)] (by kernel_rfl) (by kernel_rfl) (by intro c a d v w h; cases d <;> exact h) ⟨r0, trivial⟩ ?_
      apply sig_still (o := ⟨some 41, _, _, _, _, _⟩) rfl rfl
      · intro w' hS
        obtain ⟨q1, q2⟩ := hS
        first | (go_simp; done) | (go_simp; rfl) | rfl
      go_frame
      apply sig_still (o := ⟨some 42, _, _, _, _, _⟩) rfl rfl
      · intro w' hS
        obtain ⟨q1, q2⟩ := hS
        first | (go_simp; done) | (go_simp; rfl) | rfl
      go_frame
      apply sig_still (o := ⟨some 43, _, _, _, _, _⟩) rfl rfl
      · intro w' hS
        obtain ⟨q1, q2⟩ := hS
        first | (go_simp; done) | (go_simp; rfl) | rfl
      go_frame
      refine sig_skip (o := ⟨some 44, _, _, _, _, _⟩) rfl (by rfl) ?_
      go_frame
      refine sig_skip (o := ⟨some 45, _, _, _, _, _⟩) rfl (by rfl) ?_
      go_frame
      refine sig_skip (o := ⟨some 46, _, _, _, _, _⟩) rfl (by rfl) ?_
      go_frame
      refine sig_skip (o := ⟨some 47, _, _, _, _, _⟩) rfl (by rfl) ?_
      go_frame
      refine sig_skip (o := ⟨some 48, _, _, _, _, _⟩) rfl (by rfl) ?_
      go_frame
      refine sig_skip (o := ⟨some 49, _, _, _, _, _⟩) rfl (by rfl) ?_
      go_frame
      refine sig_skip (o := ⟨some 50, _, _, _, _, _⟩) rfl (by rfl) ?_
      go_frame
      refine sig_skip (o := ⟨some 51, _, _, _, _, _⟩) rfl (by rfl) ?_
      go_frame
      refine sig_skip (o := ⟨some 52, _, _, _, _, _⟩) rfl (by rfl) ?_
      go_frame
      refine sig_skip (o := ⟨some 53, _, _, _, _, _⟩) rfl (by rfl) ?_
      go_frame
      refine sig_skip (o := ⟨some 54, _, _, _, _, _⟩) rfl (by rfl) ?_
      go_frame
      refine sig_skip (o := ⟨some 55, _, _, _, _, _⟩) rfl (by rfl) ?_
      go_frame
      refine sig_skip (o := ⟨some 56, _, _, _, _, _⟩) rfl (by rfl) ?_
      go_frame
      refine sig_skip (o := ⟨some 57, _, _, _, _, _⟩) rfl (by rfl) ?_
      go_frame
      refine sig_skip (o := ⟨some 58, _, _, _, _, _⟩) rfl (by rfl) ?_
      go_frame
      refine sig_skip (o := ⟨some 59, _, _, _, _, _⟩) rfl (by rfl) ?_
      go_frame
      apply sig_still (o := ⟨some 60, _, _, _, _, _⟩) rfl rfl
      · intro w' hS
        obtain ⟨q1, q2⟩ := hS
        first | (go_simp; done) | (go_simp; rfl) | rfl
      go_frame
      refine sig_nil ?_
      have hkW2 : Keep No w w.drew := (Keep.refl No w).drew
      generalize w.drew = W2 at *
      clear r0 q2
      have hx2 : x < W2.heap.size := Nat.lt_of_lt_of_le hx hkW2.size
      obtain ⟨-, -, q5, q0, q1, -, -, -, -, q6, q2, -, q3, q4, -⟩ := HCL.out W2 hkW2
      go_wp2_with fail
      go_quiet (fail)
      generalize hwq : W2.drewN nq = W3 at *
      have hkW3 : Keep No w W3 := hkW2.trans' (hwq ▸ (Keep.refl No W2).drewN nq)
      obtain ⟨-, -, q5, q0, q1, -, -, -, -, q6, q2, -, q3, q4, -⟩ := HCL.out W3 hkW3
      clear hwq
      go_wp2_with fail
      go_quiet (fail)
      generalize hwq : W3.drewN nq = W4 at *
      have hkW4 : Keep No w W4 := hkW3.trans' (hwq ▸ (Keep.refl No W3).drewN nq)
      obtain ⟨p0, p1, p2, p3, p4, p5, p6, p7, p8, p9, p10, p11, p12, p13, p14⟩ := HCL.out W4 hkW4
      have hB4 := HBB.out.keep hkW4 fun h => h
      have hL4 := HH.out.no hA hkW4
      clear hwq q0 q1 q2 q3 q4 q5 q6 hkW2 hkW3 hx2 p1 p3 p4 p5 p6 p7 p8 p10 p11 p12 p13 p14
      have HQ := Lib.hid (HO.out.trans (lb_37 L mo t s a b c imm own))
      rw [HV.out.2.1, HV.out.2.2.2.2.1] at HQ
      have hrb : rb < 18446744073709551616 := by rw [← HV.out.2.2.2.2.1]; exact HS.out.reg b
      have p7 := (HCL.out W4 hkW4).2.2.2.2.2.2.2.1
      go_wp2_with (with_reducible refine wl_stInt rfl _ _ _ rfl _ _ _ rfl rfl ?_)
      refine rg_stC hB4 (by rw [stepC_size HT.out.len HS.out]; have := HI.out.a; simp only at this; omega) int_sz ?_
      intro W5 hB5 hk5 hz5
      rw [stepC_set HT.out.len HI.out.a] at hB5
      have hL5 := hL4.keep hk5 (fun j hj e => hxA (e ▸ hj)) (fun j hj => Nat.lt_of_lt_of_le (hA j hj) hkW4.size)
      have hkx : Keep (fun j => j = x ∨ j = mb) w W5 := (hkW4.mono fun _ _ h => h.elim).trans hk5 fun j hj e => .inl e
      have hin := twithin_any (w := W5) rb 1 tb hrb (by decide) hL5
      rw [show ((1 : Nat) : Int) = 1 from rfl] at hin
      unfold ptrTo at hin
      generalize withinM L rb 1 tb = ib at *
      have p05 : W5.cell? ⟨x, 0, none⟩ = some (.pointer (some ⟨d, 0, none⟩)) := (hB5.cell 0).trans rfl
      clear p0 p2 p9 p7
      go_wp2_with fail
      refine hin.mono ?_
      rintro e W6 ⟨rfl, hk⟩
      replace hB5 := hB5.keep hk fun h => h
      replace hL5 := hL5.no (fun j hj => Nat.lt_of_lt_of_le (hA j hj) (Nat.le_trans hkW4.size hk5.size)) hk
      replace hkx := hkx.trans hk fun _ _ h => h.elim
      clear hin
      cases ib with
      | true =>
        rw [if_pos (by simp)] at HQ
        go_wp2_with fail
        go_ret
        rw [HQ.out]
        first
        | exact ⟨rfl, _, hB5, fun r hr => (by cases hr; rfl), by rw [List.length_set]; exact HT.out.len, hL5, hkx⟩
        | exact ⟨_, rfl, hB5, fun r hr => (by cases hr; rfl), by rw [List.length_set]; exact HT.out.len, hL5, hkx⟩
      | false =>
        rw [if_neg (by simp)] at HQ
        go_wp2_with fail
        go_ret
        rw [HQ.out]
        first
        | exact ⟨rfl, _, hB5, fun r hr => (by cases hr), by rw [List.length_set]; exact HT.out.len, hL5, hkx⟩
        | exact ⟨_, rfl, hB5, fun r hr => (by cases hr), by rw [List.length_set]; exact HT.out.len, hL5, hkx⟩
  · have n34 : ((op : Int) == 34) = false := by rw [beq_eq_false_iff_ne]; omega
    have n35 : ((op : Int) == 35) = false := by rw [beq_eq_false_iff_ne]; omega
    have n36 : ((op : Int) == 36) = false := by rw [beq_eq_false_iff_ne]; omega
    have n37 : ((op : Int) == 37) = false := by rw [beq_eq_false_iff_ne]; omega
    obtain ⟨q0, q1, q2, q3, q4, q5, q6, q7, q8, q9, q10, q11, q12, q13, q14⟩ := HCL.out w (Keep.refl _ _)
    have hwi := HWI.out w.drew (Keep.refl No w).drew
    generalize add s.pc 8 = pc8 at *
    generalize s.pc = pc at *
    have r0 : w.drew.cell? ⟨x, 0, none⟩ = some (.pointer (some ⟨d, 0, none⟩)) := q0
    have r1 : w.drew.cell? ⟨x, 65, none⟩ = some (.int .u64 (pc : Int)) := q1
    have r2 : w.drew.cell? ⟨x, 72, none⟩ = some (.int .i64 own) := q7
    generalize withinM L pc8 1 own = wi at *
    unfold ptrTo at *
    clear q0 q1 q3 q4 q5 q6 q7 q8 q9 q10 q11 q12 q13 q14
    go_enter Tryd.func27, Tryd.ntmps27
    go_wp2_with fail
    refine wp_region_sig (fun w' => w'.cell? ⟨x, 0, none⟩ = some (.pointer (some ⟨d, 0, none⟩)) ∧ w'.cell? ⟨x, 65, none⟩ = some (.int .u64 (pc : Int)) ∧ w'.cell? ⟨x, 72, none⟩ = some (.int .i64 own)) (fun j => decide (j ≤ 99)) [(0, true), (1, true), (2, true), (3, true), (4, true), (5, true), (6, true), (7, true), (8, true), (9, true), (10, true), (11, true), (12, true), (13, true), (14, true), (15, true), (16, true), (17, false), (18, true), (19, true)] (by kernel_rfl) (by kernel_rfl) (by intro c a d v w h; cases d <;> exact h) ⟨r0, r1, r2⟩ ?_
    apply sig_still (o := ⟨some 41, _, _, _, _, _⟩) rfl rfl
    · intro w' hS
      obtain ⟨q1, q2, q3⟩ := hS
      first | (go_simp; done) | (go_simp; rfl) | rfl
    go_frame
    apply sig_still (o := ⟨some 42, _, _, _, _, _⟩) rfl rfl
    · intro w' hS
      obtain ⟨q1, q2, q3⟩ := hS
      first | (go_simp; done) | (go_simp; rfl) | rfl
    go_frame
    apply sig_still (o := ⟨some 43, _, _, _, _, _⟩) rfl rfl
    · intro w' hS
      obtain ⟨q1, q2, q3⟩ := hS
      first | (go_simp; done) | (go_simp; rfl) | rfl
    go_frame
    apply sig_guard (o := ⟨some 44, _, _, _, _, _⟩) rfl (by rfl)
    · intro w' hS
      obtain ⟨q1, q2, q3⟩ := hS
      first | (go_simp; done) | (go_simp; rfl) | rfl
    go_frame
    apply sig_guard (o := ⟨some 45, _, _, _, _, _⟩) rfl (by rfl)
    · intro w' hS
      obtain ⟨q1, q2, q3⟩ := hS
      first | (go_simp; done) | (go_simp; rfl) | rfl
    go_frame
    apply sig_guard (o := ⟨some 46, _, _, _, _, _⟩) rfl (by rfl)
    · intro w' hS
      obtain ⟨q1, q2, q3⟩ := hS
      first | (go_simp; done) | (go_simp; rfl) | rfl
    go_frame
    apply sig_guard (o := ⟨some 47, _, _, _, _, _⟩) rfl (by rfl)
    · intro w' hS
      obtain ⟨q1, q2, q3⟩ := hS
      first | (go_simp; done) | (go_simp; rfl) | rfl
    go_frame
    apply sig_guard (o := ⟨some 48, _, _, _, _, _⟩) rfl (by rfl)
    · intro w' hS
      obtain ⟨q1, q2, q3⟩ := hS
      first | (go_simp; done) | (go_simp; rfl) | rfl
    go_frame
    apply sig_guard (o := ⟨some 49, _, _, _, _, _⟩) rfl (by rfl)
    · intro w' hS
      obtain ⟨q1, q2, q3⟩ := hS
      first | (go_simp; done) | (go_simp; rfl) | rfl
    go_frame
    apply sig_guard (o := ⟨some 50, _, _, _, _, _⟩) rfl (by rfl)
    · intro w' hS
      obtain ⟨q1, q2, q3⟩ := hS
      first | (go_simp; done) | (go_simp; rfl) | rfl
    go_frame
    apply sig_guard (o := ⟨some 51, _, _, _, _, _⟩) rfl (by rfl)
    · intro w' hS
      obtain ⟨q1, q2, q3⟩ := hS
      first | (go_simp; done) | (go_simp; rfl) | rfl
    go_frame
    apply sig_guard (o := ⟨some 52, _, _, _, _, _⟩) rfl (by rfl)
    · intro w' hS
      obtain ⟨q1, q2, q3⟩ := hS
      first | (go_simp; done) | (go_simp; rfl) | rfl
    go_frame
    apply sig_guard (o := ⟨some 53, _, _, _, _, _⟩) rfl (by rfl)
    · intro w' hS
      obtain ⟨q1, q2, q3⟩ := hS
      first | (go_simp; done) | (go_simp; rfl) | rfl
    go_frame
    apply sig_guard (o := ⟨some 54, _, _, _, _, _⟩) rfl (by rfl)
    · intro w' hS
      obtain ⟨q1, q2, q3⟩ := hS
      first | (go_simp; done) | (go_simp; rfl) | rfl
    go_frame
    apply sig_guard (o := ⟨some 55, _, _, _, _, _⟩) rfl (by rfl)
    · intro w' hS
      obtain ⟨q1, q2, q3⟩ := hS
      first | (go_simp; done) | (go_simp; rfl) | rfl
    go_frame
    apply sig_guard (o := ⟨some 56, _, _, _, _, _⟩) rfl (by rfl)
    · intro w' hS
      obtain ⟨q1, q2, q3⟩ := hS
      first | (go_simp; done) | (go_simp; rfl) | rfl
    go_frame
    apply sig_guard (o := ⟨some 57, _, _, _, _, _⟩) rfl (by rfl)
    · intro w' hS
      obtain ⟨q1, q2, q3⟩ := hS
      first | (go_simp; done) | (go_simp; rfl) | rfl
    go_frame
    refine sig_effg (o := ⟨some 58, _, _, _, _, _⟩) rfl (by rfl) (fun K hKe => ?_)
    go_wp2_with fail
    refine hwi.mono ?_
    rintro e W2 ⟨rfl, hk2⟩
    have hc := fun p => hk2.cell (p := ⟨x, p, none⟩) hx fun h => h
    refine hKe _ _ ⟨fun _ => ⟨(hc _).trans r0, (hc _).trans r1, (hc _).trans r2⟩, ?_⟩
    have hkW2 : Keep No w W2 := (Keep.refl No w).drew.trans' hk2
    clear hc hk2 hwi r0 r1 r2 q2
    apply sig_guard (o := ⟨some 59, _, _, _, _, _⟩) rfl (by rfl)
    · intro w' hS
      obtain ⟨q1, q2, q3⟩ := hS
      first | (go_simp; done) | (go_simp; rfl) | rfl
    go_frame
    apply sig_still (o := ⟨some 60, _, _, _, _, _⟩) rfl rfl
    · intro w' hS
      obtain ⟨q1, q2, q3⟩ := hS
      first | (go_simp; done) | (go_simp; rfl) | rfl
    go_frame
    refine sig_nil ?_
    cases wi with
    | false =>
      rw [if_pos ⟨hj, rfl⟩] at HO
      go_wp2_with fail
      go_ret
      rw [HO.out]
      exact ⟨t, rfl, HBB.out.keep hkW2 fun h => h, fun r hr => (by cases hr), HT.out.len, HH.out.no hA hkW2, hkW2.mono fun _ _ h => h.elim⟩
    | true =>
      rw [if_neg (fun h => by cases h.2)] at HO
      have hx2 : x < W2.heap.size := Nat.lt_of_lt_of_le hx hkW2.size
      obtain ⟨-, -, q5, q0, q1, -, -, -, -, q6, q2, -, q3, q4, -⟩ := HCL.out W2 hkW2
      go_wp2_with fail
      go_quiet (fail)
      generalize hwq : W2.drewN nq = W3 at *
      have hkW3 : Keep No w W3 := hkW2.trans' (hwq ▸ (Keep.refl No W2).drewN nq)
      obtain ⟨-, -, q5, q0, q1, -, -, -, -, q6, q2, -, q3, q4, -⟩ := HCL.out W3 hkW3
      clear hwq
      go_wp2_with fail
      go_quiet (fail)
      generalize hwq : W3.drewN nq = W4 at *
      have hkW4 : Keep No w W4 := hkW3.trans' (hwq ▸ (Keep.refl No W3).drewN nq)
      obtain ⟨p0, p1, p2, p3, p4, p5, p6, p7, p8, p9, p10, p11, p12, p13, p14⟩ := HCL.out W4 hkW4
      have hB4 := HBB.out.keep hkW4 fun h => h
      have hL4 := HH.out.no hA hkW4
      clear hwq q0 q1 q2 q3 q4 q5 q6 hkW2 hkW3 hx2 p1 p3 p4 p5 p6 p7 p8 p10 p11 p12 p13 p14
      rcases hop2 with rfl | rfl | hop | rfl | rfl | rfl | hop | hop | hop | rfl | rfl | rfl | rfl | rfl | rfl | rfl | rfl
      · have HQ := Lib.hid (HO.out.trans (lb_no L mo t s _ a b c imm own (.inl rfl)))
        go_wp2_with fail
        go_ret
        rw [HQ.out]
        exact ⟨t, rfl, hB4, fun r hr => (by cases hr; rfl), HT.out.len, hL4, hkW4.mono fun _ _ h => h.elim⟩
      · have HQ := Lib.hid (HO.out.trans (lb_mov L mo t s _ a b c imm own (.inl rfl)))
        rw [HV.out.2.1] at HQ
        go_wp2_with (with_reducible refine wl_stInt rfl _ _ _ rfl _ _ _ rfl rfl ?_)
        refine rg_stC hB4 (by rw [stepC_size HT.out.len HS.out]; have := HI.out.a; simp only at this; omega) int_sz ?_
        intro W5 hB5 hk5 hz5
        rw [stepC_set HT.out.len HI.out.a] at hB5
        have hL5 := hL4.keep hk5 (fun j hj e => hxA (e ▸ hj)) (fun j hj => Nat.lt_of_lt_of_le (hA j hj) hkW4.size)
        have hkx : Keep (fun j => j = x ∨ j = mb) w W5 := (hkW4.mono fun _ _ h => h.elim).trans hk5 fun j hj e => .inl e
        go_wp2_with fail
        go_ret
        rw [HQ.out]
        first
        | exact ⟨rfl, _, hB5, fun r hr => (by cases hr; rfl), by rw [List.length_set]; exact HT.out.len, hL5, hkx⟩
        | exact ⟨_, rfl, hB5, fun r hr => (by cases hr; rfl), by rw [List.length_set]; exact HT.out.len, hL5, hkx⟩
      · have n2 : ((op : Int) == 2) = false := by rw [beq_eq_false_iff_ne]; omega
        have n16 : ((op : Int) == 16) = false := by rw [beq_eq_false_iff_ne]; omega
        have n17 : ((op : Int) == 17) = false := by rw [beq_eq_false_iff_ne]; omega
        have n18 : ((op : Int) == 18) = false := by rw [beq_eq_false_iff_ne]; omega
        have n39 : ((op : Int) == 39) = false := by rw [beq_eq_false_iff_ne]; omega
        have n3 : (op : Int) ≥ 3 := by omega
        have n15 : (op : Int) ≤ 15 := by omega
        have HQ := Lib.hid (HO.out.trans (lb_rk L mo t s op a b c imm own hop))
        have hcr := treckon_any (w := W4) t s ⟨op, a, b, c, imm⟩ own u hB4 HT.out HS.out HI.out hop hL4 (fun j hj => Nat.lt_of_lt_of_le (hA j hj) hkW4.size)
        generalize reckM L t s ⟨op, a, b, c, imm⟩ = R at *
        obtain ⟨r1, r2⟩ := R
        simp only at hcr HQ
        unfold ptrTo at hcr
        clear hop hj
        go_wp2_with fail
        refine hcr.mono ?_
        rintro e W5 ⟨rfl, hk⟩
        clear hcr p0 p2 p9
        replace hB4 := hB4.keep hk fun h => h
        replace hkW4 := hkW4.trans' hk
        replace hL4 := HH.out.no hA hkW4
        cases r2 with
        | true =>
          simp only [if_true] at HQ
          go_wp2_with (with_reducible refine wl_stInt rfl _ _ _ rfl _ _ _ rfl rfl ?_)
          refine rg_stC hB4 (by rw [stepC_size HT.out.len HS.out]; have := HI.out.a; simp only at this; omega) int_sz ?_
          intro W5 hB5 hk5 hz5
          rw [stepC_set HT.out.len HI.out.a] at hB5
          have hL5 := hL4.keep hk5 (fun j hj e => hxA (e ▸ hj)) (fun j hj => Nat.lt_of_lt_of_le (hA j hj) hkW4.size)
          have hkx : Keep (fun j => j = x ∨ j = mb) w W5 := (hkW4.mono fun _ _ h => h.elim).trans hk5 fun j hj e => .inl e
          go_wp2_with fail
          go_ret
          rw [HQ.out]
          first
          | exact ⟨rfl, _, hB5, fun r hr => (by cases hr; rfl), by rw [List.length_set]; exact HT.out.len, hL5, hkx⟩
          | exact ⟨_, rfl, hB5, fun r hr => (by cases hr; rfl), by rw [List.length_set]; exact HT.out.len, hL5, hkx⟩
        | false =>
          rw [if_neg (by decide)] at HQ
          go_wp2_with fail
          go_ret
          rw [HQ.out]
          exact ⟨t, rfl, hB4, fun r hr => (by cases hr), HT.out.len, hL4, hkW4.mono fun _ _ h => h.elim⟩
      · have HQ := Lib.hid (HO.out.trans (lb_mov L mo t s _ a b c imm own (.inr rfl)))
        rw [HV.out.2.1] at HQ
        go_wp2_with (with_reducible refine wl_stInt rfl _ _ _ rfl _ _ _ rfl rfl ?_)
        refine rg_stC hB4 (by rw [stepC_size HT.out.len HS.out]; have := HI.out.a; simp only at this; omega) int_sz ?_
        intro W5 hB5 hk5 hz5
        rw [stepC_set HT.out.len HI.out.a] at hB5
        have hL5 := hL4.keep hk5 (fun j hj e => hxA (e ▸ hj)) (fun j hj => Nat.lt_of_lt_of_le (hA j hj) hkW4.size)
        have hkx : Keep (fun j => j = x ∨ j = mb) w W5 := (hkW4.mono fun _ _ h => h.elim).trans hk5 fun j hj e => .inl e
        go_wp2_with fail
        go_ret
        rw [HQ.out]
        first
        | exact ⟨rfl, _, hB5, fun r hr => (by cases hr; rfl), by rw [List.length_set]; exact HT.out.len, hL5, hkx⟩
        | exact ⟨_, rfl, hB5, fun r hr => (by cases hr; rfl), by rw [List.length_set]; exact HT.out.len, hL5, hkx⟩
      · have HQ := Lib.hid (HO.out.trans (lb_nul L mo t s _ a b c imm own (.inl rfl)))
        go_wp2_with (with_reducible refine wl_stInt rfl _ _ _ rfl _ _ _ rfl rfl ?_)
        refine rg_stC hB4 (by rw [stepC_size HT.out.len HS.out]; have := HI.out.a; simp only at this; omega) int_sz ?_
        intro W5 hB5 hk5 hz5
        rw [stepC_set HT.out.len HI.out.a] at hB5
        have hL5 := hL4.keep hk5 (fun j hj e => hxA (e ▸ hj)) (fun j hj => Nat.lt_of_lt_of_le (hA j hj) hkW4.size)
        have hkx : Keep (fun j => j = x ∨ j = mb) w W5 := (hkW4.mono fun _ _ h => h.elim).trans hk5 fun j hj e => .inl e
        go_wp2_with fail
        go_ret
        rw [HQ.out]
        first
        | exact ⟨rfl, _, hB5, fun r hr => (by cases hr; rfl), by rw [List.length_set]; exact HT.out.len, hL5, hkx⟩
        | exact ⟨_, rfl, hB5, fun r hr => (by cases hr; rfl), by rw [List.length_set]; exact HT.out.len, hL5, hkx⟩
      · have HQ := Lib.hid (HO.out.trans (lb_18 L mo t s a b c imm own))
        rw [HV.out.1] at HQ
        by_cases h0 : ta = 0
        · subst h0
          rw [if_pos rfl] at HQ
          go_wp2_with fail
          go_ret
          rw [HQ.out]
          exact ⟨t, rfl, hB4, fun r hr => (by cases hr; rfl), HT.out.len, hL4, hkW4.mono fun _ _ h => h.elim⟩
        · rw [if_neg h0] at HQ
          have h0z : (ta == 0) = false := by simpa using h0
          go_wp2_with fail
          go_ret
          rw [HQ.out]
          exact ⟨t, rfl, hB4, fun r hr => (by cases hr), HT.out.len, hL4, hkW4.mono fun _ _ h => h.elim⟩
      · skip
        have n2 : ((op : Int) == 2) = false := by rw [beq_eq_false_iff_ne]; omega
        have n16 : ((op : Int) == 16) = false := by rw [beq_eq_false_iff_ne]; omega
        have n17 : ((op : Int) == 17) = false := by rw [beq_eq_false_iff_ne]; omega
        have n18 : ((op : Int) == 18) = false := by rw [beq_eq_false_iff_ne]; omega
        have n39 : ((op : Int) == 39) = false := by rw [beq_eq_false_iff_ne]; omega
        have n3 : (op : Int) ≥ 3 := by omega
        have n15 : (15 : Int) < (op : Int) := by omega
        have n20 : (op : Int) ≥ 20 := by omega
        have n27 : (op : Int) ≤ 27 := by omega
        have hop8 : 20 ≤ op ∧ op ≤ 27 := by omega
        have HQ := Lib.hid (HO.out.trans (lb_mem L mo t s op a b c imm own hop8))
        have hcr := tmem_any (w := W4) t s ⟨op, a, b, c, imm⟩ own u mo (HMM.out.no hM hkW4) (fun j hj => Nat.lt_of_lt_of_le (hM j hj) hkW4.size) hMA hB4 HT.out HS.out HI.out hop8 hL4 (fun j hj => Nat.lt_of_lt_of_le (hA j hj) hkW4.size) hxA
        generalize memM L mo t s ⟨op, a, b, c, imm⟩ = R at *
        unfold ptrTo at hcr
        clear hop hj hop8
        go_wp2_with fail
        refine hcr.mono ?_
        rintro e W5 ⟨t5, rfl, h1, h2, h3, h4, h5⟩
        clear hcr
        go_wp2_with fail
        go_ret
        rw [HQ.out]
        exact ⟨t5, rfl, h1, h2, h3, h4, (hkW4.mono fun _ _ h => h.elim).trans' h5⟩
      · skip
        have n2 : ((op : Int) == 2) = false := by rw [beq_eq_false_iff_ne]; omega
        have n16 : ((op : Int) == 16) = false := by rw [beq_eq_false_iff_ne]; omega
        have n17 : ((op : Int) == 17) = false := by rw [beq_eq_false_iff_ne]; omega
        have n18 : ((op : Int) == 18) = false := by rw [beq_eq_false_iff_ne]; omega
        have n39 : ((op : Int) == 39) = false := by rw [beq_eq_false_iff_ne]; omega
        have n3 : (op : Int) ≥ 3 := by omega
        have n15 : (15 : Int) < (op : Int) := by omega
        have n20 : (op : Int) ≥ 20 := by omega
        have n27 : (op : Int) ≤ 27 := by omega
        have hop8 : 20 ≤ op ∧ op ≤ 27 := by omega
        have HQ := Lib.hid (HO.out.trans (lb_mem L mo t s op a b c imm own hop8))
        have hcr := tmem_any (w := W4) t s ⟨op, a, b, c, imm⟩ own u mo (HMM.out.no hM hkW4) (fun j hj => Nat.lt_of_lt_of_le (hM j hj) hkW4.size) hMA hB4 HT.out HS.out HI.out hop8 hL4 (fun j hj => Nat.lt_of_lt_of_le (hA j hj) hkW4.size) hxA
        generalize memM L mo t s ⟨op, a, b, c, imm⟩ = R at *
        unfold ptrTo at hcr
        clear hop hj hop8
        go_wp2_with fail
        refine hcr.mono ?_
        rintro e W5 ⟨t5, rfl, h1, h2, h3, h4, h5⟩
        clear hcr
        go_wp2_with fail
        go_ret
        rw [HQ.out]
        exact ⟨t5, rfl, h1, h2, h3, h4, (hkW4.mono fun _ _ h => h.elim).trans' h5⟩
      · have hop4 : op = 30 ∨ op = 31 ∨ op = 32 ∨ op = 33 := by omega
        have hins := fun W (hk : Keep No W4 W) => tinside_any (w := W) t s ⟨op, a, b, c, imm⟩ own u (hB4.keep hk fun h => h) HT.out.len HS.out HI.out (HH.out.no hA (hkW4.trans' hk)) (fun j hj => Nat.lt_of_lt_of_le (hA j hj) (hkW4.trans' hk).size)
        have HIN := Lib.hid hins
        clear hins hj hop n34 n35 n36 n37
        unfold ptrTo at HIN
        rcases hop4 with rfl | rfl | rfl | rfl
        · have HQ := Lib.hid (HO.out.trans (lb_eq L mo t s _ a b c imm own (.inl rfl)))
          rw [HV.out.1, HV.out.2.1] at HQ
          by_cases hab : ta = tb
          · subst hab
            have hin := HIN.out W4 (Keep.refl _ _)
            generalize insideM L s ⟨_, a, b, c, imm⟩ own = ib at *
            go_wp2_with fail
            refine hin.mono ?_
            rintro e W5 ⟨rfl, hk⟩
            replace hB4 := hB4.keep hk fun h => h
            replace hkW4 := hkW4.trans' hk
            replace hL4 := HH.out.no hA hkW4
            clear hin
            cases ib with
            | true =>
              rw [if_pos (by simp)] at HQ
              go_wp2_with fail
              go_ret
              rw [HQ.out]
              exact ⟨t, rfl, hB4, fun r hr => (by cases hr; rfl), HT.out.len, hL4, hkW4.mono fun _ _ h => h.elim⟩
            | false =>
              rw [if_neg (by simp)] at HQ
              go_wp2_with fail
              go_ret
              rw [HQ.out]
              exact ⟨t, rfl, hB4, fun r hr => (by cases hr), HT.out.len, hL4, hkW4.mono fun _ _ h => h.elim⟩
          · rw [if_neg (fun h => hab h.1)] at HQ
            have habz : (ta == tb) = false := by simpa using hab
            go_wp2_with fail
            go_ret
            rw [HQ.out]
            exact ⟨t, rfl, hB4, fun r hr => (by cases hr), HT.out.len, hL4, hkW4.mono fun _ _ h => h.elim⟩
        · have HQ := Lib.hid (HO.out.trans (lb_eq L mo t s _ a b c imm own (.inr rfl)))
          rw [HV.out.1, HV.out.2.1] at HQ
          by_cases hab : ta = tb
          · subst hab
            have hin := HIN.out W4 (Keep.refl _ _)
            generalize insideM L s ⟨_, a, b, c, imm⟩ own = ib at *
            go_wp2_with fail
            refine hin.mono ?_
            rintro e W5 ⟨rfl, hk⟩
            replace hB4 := hB4.keep hk fun h => h
            replace hkW4 := hkW4.trans' hk
            replace hL4 := HH.out.no hA hkW4
            clear hin
            cases ib with
            | true =>
              rw [if_pos (by simp)] at HQ
              go_wp2_with fail
              go_ret
              rw [HQ.out]
              exact ⟨t, rfl, hB4, fun r hr => (by cases hr; rfl), HT.out.len, hL4, hkW4.mono fun _ _ h => h.elim⟩
            | false =>
              rw [if_neg (by simp)] at HQ
              go_wp2_with fail
              go_ret
              rw [HQ.out]
              exact ⟨t, rfl, hB4, fun r hr => (by cases hr), HT.out.len, hL4, hkW4.mono fun _ _ h => h.elim⟩
          · rw [if_neg (fun h => hab h.1)] at HQ
            have habz : (ta == tb) = false := by simpa using hab
            go_wp2_with fail
            go_ret
            rw [HQ.out]
            exact ⟨t, rfl, hB4, fun r hr => (by cases hr), HT.out.len, hL4, hkW4.mono fun _ _ h => h.elim⟩
        · have HQ := Lib.hid (HO.out.trans (lb_lt L mo t s _ a b c imm own (.inl rfl)))
          rw [HV.out.1, HV.out.2.1, HV.out.2.2.2.1, HV.out.2.2.2.2.1] at HQ
          have hta : 0 ≤ ta ∧ ta ≤ (L.m.length : Int) := by rw [← HV.out.1]; exact HT.out.tg a
          have hra : ra < 18446744073709551616 := by rw [← HV.out.2.2.2.1]; exact HS.out.reg a
          have hrb : rb < 18446744073709551616 := by rw [← HV.out.2.2.2.2.1]; exact HS.out.reg b
          have hcm := tcomp_any (w := W4.drew) ra rb ta tb hta hra hrb (hL4.no (fun j hj => Nat.lt_of_lt_of_le (hA j hj) hkW4.size) (Keep.refl No W4).drew)
          generalize compM L ra rb ta tb = cm at *
          generalize insideM L s ⟨_, a, b, c, imm⟩ own = ib at *
          unfold ptrTo at hcm
          have q0 : W4.drew.cell? ⟨x, 0, none⟩ = some (.pointer (some ⟨d, 0, none⟩)) := p0
          have q1 : W4.drew.cell? ⟨x, 1 + a, none⟩ = some (.int .i64 ta) := p9
          have hx4 : x < W4.drew.heap.size := Nat.lt_of_lt_of_le hx hkW4.size
          clear p0 p9 hta
          cases cm with
          | false =>
            rw [if_neg (by simp)] at HQ
            go_wp2_with fail
            refine wp_region_sig (fun w' => w'.cell? ⟨x, 0, none⟩ = some (.pointer (some ⟨d, 0, none⟩)) ∧ w'.cell? ⟨x, 1 + a, none⟩ = some (.int .i64 ta)) (fun j => decide (j ≤ 99)) [(0, true), (1, true), (2, true), (3, true), (4, true), (5, true), (6, true), (7, true), (8, true), (9, true), (10, false), (11, true), (12, true), (13, true), (14, true), (15, true)] (by kernel_rfl) (by kernel_rfl) (by intro c a d v w h; cases d <;> exact h) ⟨q0, q1⟩ ?_
            apply sig_still (o := ⟨some 182, _, _, _, _, _⟩) rfl rfl
            · intro w' hS
              obtain ⟨q1, q2⟩ := hS
              first | (go_simp; done) | (go_simp; rfl) | rfl
            go_frame
            apply sig_still (o := ⟨some 183, _, _, _, _, _⟩) rfl rfl
            · intro w' hS
              obtain ⟨q1, q2⟩ := hS
              first | (go_simp; done) | (go_simp; rfl) | rfl
            go_frame
            apply sig_still (o := ⟨some 184, _, _, _, _, _⟩) rfl rfl
            · intro w' hS
              obtain ⟨q1, q2⟩ := hS
              first | (go_simp; done) | (go_simp; rfl) | rfl
            go_frame
            apply sig_still (o := ⟨some 185, _, _, _, _, _⟩) rfl rfl
            · intro w' hS
              obtain ⟨q1, q2⟩ := hS
              first | (go_simp; done) | (go_simp; rfl) | rfl
            go_frame
            apply sig_still (o := ⟨some 186, _, _, _, _, _⟩) rfl rfl
            · intro w' hS
              obtain ⟨q1, q2⟩ := hS
              first | (go_simp; done) | (go_simp; rfl) | rfl
            go_frame
            apply sig_still (o := ⟨some 187, _, _, _, _, _⟩) rfl rfl
            · intro w' hS
              obtain ⟨q1, q2⟩ := hS
              first | (go_simp; done) | (go_simp; rfl) | rfl
            go_frame
            apply sig_still (o := ⟨some 188, _, _, _, _, _⟩) rfl rfl
            · intro w' hS
              obtain ⟨q1, q2⟩ := hS
              first | (go_simp; done) | (go_simp; rfl) | rfl
            go_frame
            apply sig_still (o := ⟨some 189, _, _, _, _, _⟩) rfl rfl
            · intro w' hS
              obtain ⟨q1, q2⟩ := hS
              first | (go_simp; done) | (go_simp; rfl) | rfl
            go_frame
            apply sig_still (o := ⟨some 190, _, _, _, _, _⟩) rfl rfl
            · intro w' hS
              obtain ⟨q1, q2⟩ := hS
              first | (go_simp; done) | (go_simp; rfl) | rfl
            go_frame
            apply sig_still (o := ⟨some 191, _, _, _, _, _⟩) rfl rfl
            · intro w' hS
              obtain ⟨q1, q2⟩ := hS
              first | (go_simp; done) | (go_simp; rfl) | rfl
            go_frame
            refine sig_eff (o := ⟨some 192, _, _, _, _, _⟩) rfl rfl (fun K hKe => ?_)
            go_wp2_with fail
            refine hcm.mono ?_
            rintro e W5 ⟨rfl, hk⟩
            have hc := fun p => hk.cell (p := ⟨x, p, none⟩) hx4 fun h => h
            refine hKe _ _ ⟨fun _ => ⟨(hc _).trans q0, (hc _).trans q1⟩, ?_⟩
            apply sig_still (o := ⟨some 193, _, _, _, _, _⟩) rfl rfl
            · intro w' hS
              obtain ⟨q1, q2⟩ := hS
              first | (go_simp; done) | (go_simp; rfl) | rfl
            go_frame
            refine sig_skip (o := ⟨some 194, _, _, _, _, _⟩) rfl (by rfl) ?_
            go_frame
            refine sig_skip (o := ⟨some 195, _, _, _, _, _⟩) rfl (by rfl) ?_
            go_frame
            apply sig_still (o := ⟨some 196, _, _, _, _, _⟩) rfl rfl
            · intro w' hS
              obtain ⟨q1, q2⟩ := hS
              first | (go_simp; done) | (go_simp; rfl) | rfl
            go_frame
            apply sig_still (o := ⟨some 2, _, _, _, _, _⟩) rfl rfl
            · intro w' hS
              obtain ⟨q1, q2⟩ := hS
              first | (go_simp; done) | (go_simp; rfl) | rfl
            go_frame
            refine sig_nil ?_
            replace hk := (Keep.refl No W4).drew.trans' hk
            replace hB4 := hB4.keep hk fun h => h
            replace hkW4 := hkW4.trans' hk
            replace hL4 := HH.out.no hA hkW4
            go_wp2_with fail
            go_ret
            rw [HQ.out]
            exact ⟨t, rfl, hB4, fun r hr => (by cases hr), HT.out.len, hL4, hkW4.mono fun _ _ h => h.elim⟩
          | true =>
            go_wp2_with fail
            refine wp_region_sig (fun w' => w'.cell? ⟨x, 0, none⟩ = some (.pointer (some ⟨d, 0, none⟩)) ∧ w'.cell? ⟨x, 1 + a, none⟩ = some (.int .i64 ta)) (fun j => decide (j ≤ 99)) [(0, true), (1, true), (2, true), (3, true), (4, true), (5, true), (6, true), (7, true), (8, true), (9, true), (10, false), (11, true), (12, true), (13, false), (14, true), (15, true)] (by kernel_rfl) (by kernel_rfl) (by intro c a d v w h; cases d <;> exact h) ⟨q0, q1⟩ ?_
            apply sig_still (o := ⟨some 182, _, _, _, _, _⟩) rfl rfl
            · intro w' hS
              obtain ⟨q1, q2⟩ := hS
              first | (go_simp; done) | (go_simp; rfl) | rfl
            go_frame
            apply sig_still (o := ⟨some 183, _, _, _, _, _⟩) rfl rfl
            · intro w' hS
              obtain ⟨q1, q2⟩ := hS
              first | (go_simp; done) | (go_simp; rfl) | rfl
            go_frame
            apply sig_still (o := ⟨some 184, _, _, _, _, _⟩) rfl rfl
            · intro w' hS
              obtain ⟨q1, q2⟩ := hS
              first | (go_simp; done) | (go_simp; rfl) | rfl
            go_frame
            apply sig_still (o := ⟨some 185, _, _, _, _, _⟩) rfl rfl
            · intro w' hS
              obtain ⟨q1, q2⟩ := hS
              first | (go_simp; done) | (go_simp; rfl) | rfl
            go_frame
            apply sig_still (o := ⟨some 186, _, _, _, _, _⟩) rfl rfl
            · intro w' hS
              obtain ⟨q1, q2⟩ := hS
              first | (go_simp; done) | (go_simp; rfl) | rfl
            go_frame
            apply sig_still (o := ⟨some 187, _, _, _, _, _⟩) rfl rfl
            · intro w' hS
              obtain ⟨q1, q2⟩ := hS
              first | (go_simp; done) | (go_simp; rfl) | rfl
            go_frame
            apply sig_still (o := ⟨some 188, _, _, _, _, _⟩) rfl rfl
            · intro w' hS
              obtain ⟨q1, q2⟩ := hS
              first | (go_simp; done) | (go_simp; rfl) | rfl
            go_frame
            apply sig_still (o := ⟨some 189, _, _, _, _, _⟩) rfl rfl
            · intro w' hS
              obtain ⟨q1, q2⟩ := hS
              first | (go_simp; done) | (go_simp; rfl) | rfl
            go_frame
            apply sig_still (o := ⟨some 190, _, _, _, _, _⟩) rfl rfl
            · intro w' hS
              obtain ⟨q1, q2⟩ := hS
              first | (go_simp; done) | (go_simp; rfl) | rfl
            go_frame
            apply sig_still (o := ⟨some 191, _, _, _, _, _⟩) rfl rfl
            · intro w' hS
              obtain ⟨q1, q2⟩ := hS
              first | (go_simp; done) | (go_simp; rfl) | rfl
            go_frame
            refine sig_eff (o := ⟨some 192, _, _, _, _, _⟩) rfl rfl (fun K hKe => ?_)
            go_wp2_with fail
            refine hcm.mono ?_
            rintro e W5 ⟨rfl, hk⟩
            have hc := fun p => hk.cell (p := ⟨x, p, none⟩) hx4 fun h => h
            refine hKe _ _ ⟨fun _ => ⟨(hc _).trans q0, (hc _).trans q1⟩, ?_⟩
            replace hk := (Keep.refl No W4).drew.trans' hk
            apply sig_still (o := ⟨some 193, _, _, _, _, _⟩) rfl rfl
            · intro w' hS
              obtain ⟨q1, q2⟩ := hS
              first | (go_simp; done) | (go_simp; rfl) | rfl
            go_frame
            apply sig_guard (o := ⟨some 194, _, _, _, _, _⟩) rfl (by rfl)
            · intro w' hS
              obtain ⟨q1, q2⟩ := hS
              first | (go_simp; done) | (go_simp; rfl) | rfl
            go_frame
            refine sig_effg (o := ⟨some 195, _, _, _, _, _⟩) rfl (by rfl) (fun K hKe => ?_)
            go_wp2_with fail
            refine (HIN.out W5 hk).mono ?_
            rintro e W6 ⟨rfl, hk6⟩
            have hc6 := fun p => (hk.trans' hk6).cell (p := ⟨x, p, none⟩) hx4 fun h => h
            refine hKe _ _ ⟨fun _ => ⟨(hc6 _).trans q0, (hc6 _).trans q1⟩, ?_⟩
            apply sig_still (o := ⟨some 196, _, _, _, _, _⟩) rfl rfl
            · intro w' hS
              obtain ⟨q1, q2⟩ := hS
              first | (go_simp; done) | (go_simp; rfl) | rfl
            go_frame
            apply sig_still (o := ⟨some 2, _, _, _, _, _⟩) rfl rfl
            · intro w' hS
              obtain ⟨q1, q2⟩ := hS
              first | (go_simp; done) | (go_simp; rfl) | rfl
            go_frame
            refine sig_nil ?_
            replace hk := hk.trans' hk6
            replace hB4 := hB4.keep hk fun h => h
            replace hkW4 := hkW4.trans' hk
            replace hL4 := HH.out.no hA hkW4
            cases ib with
            | true =>
              rw [if_pos (by simp)] at HQ
              go_wp2_with fail
              go_ret
              rw [HQ.out]
              exact ⟨t, rfl, hB4, fun r hr => (by cases hr; rfl), HT.out.len, hL4, hkW4.mono fun _ _ h => h.elim⟩
            | false =>
              rw [if_neg (by simp)] at HQ
              go_wp2_with fail
              go_ret
              rw [HQ.out]
              exact ⟨t, rfl, hB4, fun r hr => (by cases hr), HT.out.len, hL4, hkW4.mono fun _ _ h => h.elim⟩
        · have HQ := Lib.hid (HO.out.trans (lb_lt L mo t s _ a b c imm own (.inr rfl)))
          rw [HV.out.1, HV.out.2.1, HV.out.2.2.2.1, HV.out.2.2.2.2.1] at HQ
          have hta : 0 ≤ ta ∧ ta ≤ (L.m.length : Int) := by rw [← HV.out.1]; exact HT.out.tg a
          have hra : ra < 18446744073709551616 := by rw [← HV.out.2.2.2.1]; exact HS.out.reg a
          have hrb : rb < 18446744073709551616 := by rw [← HV.out.2.2.2.2.1]; exact HS.out.reg b
          have hcm := tcomp_any (w := W4.drew) ra rb ta tb hta hra hrb (hL4.no (fun j hj => Nat.lt_of_lt_of_le (hA j hj) hkW4.size) (Keep.refl No W4).drew)
          generalize compM L ra rb ta tb = cm at *
          generalize insideM L s ⟨_, a, b, c, imm⟩ own = ib at *
          unfold ptrTo at hcm
          have q0 : W4.drew.cell? ⟨x, 0, none⟩ = some (.pointer (some ⟨d, 0, none⟩)) := p0
          have q1 : W4.drew.cell? ⟨x, 1 + a, none⟩ = some (.int .i64 ta) := p9
          have hx4 : x < W4.drew.heap.size := Nat.lt_of_lt_of_le hx hkW4.size
          clear p0 p9 hta
          cases cm with
          | false =>
            rw [if_neg (by simp)] at HQ
            go_wp2_with fail
            refine wp_region_sig (fun w' => w'.cell? ⟨x, 0, none⟩ = some (.pointer (some ⟨d, 0, none⟩)) ∧ w'.cell? ⟨x, 1 + a, none⟩ = some (.int .i64 ta)) (fun j => decide (j ≤ 99)) [(0, true), (1, true), (2, true), (3, true), (4, true), (5, true), (6, true), (7, true), (8, true), (9, true), (10, false), (11, true), (12, true), (13, true), (14, true), (15, true)] (by kernel_rfl) (by kernel_rfl) (by intro c a d v w h; cases d <;> exact h) ⟨q0, q1⟩ ?_
            apply sig_still (o := ⟨some 182, _, _, _, _, _⟩) rfl rfl
            · intro w' hS
              obtain ⟨q1, q2⟩ := hS
              first | (go_simp; done) | (go_simp; rfl) | rfl
            go_frame
            apply sig_still (o := ⟨some 183, _, _, _, _, _⟩) rfl rfl
            · intro w' hS
              obtain ⟨q1, q2⟩ := hS
              first | (go_simp; done) | (go_simp; rfl) | rfl
            go_frame
            apply sig_still (o := ⟨some 184, _, _, _, _, _⟩) rfl rfl
            · intro w' hS
              obtain ⟨q1, q2⟩ := hS
              first | (go_simp; done) | (go_simp; rfl) | rfl
            go_frame
            apply sig_still (o := ⟨some 185, _, _, _, _, _⟩) rfl rfl
            · intro w' hS
              obtain ⟨q1, q2⟩ := hS
              first | (go_simp; done) | (go_simp; rfl) | rfl
            go_frame
            apply sig_still (o := ⟨some 186, _, _, _, _, _⟩) rfl rfl
            · intro w' hS
              obtain ⟨q1, q2⟩ := hS
              first | (go_simp; done) | (go_simp; rfl) | rfl
            go_frame
            apply sig_still (o := ⟨some 187, _, _, _, _, _⟩) rfl rfl
            · intro w' hS
              obtain ⟨q1, q2⟩ := hS
              first | (go_simp; done) | (go_simp; rfl) | rfl
            go_frame
            apply sig_still (o := ⟨some 188, _, _, _, _, _⟩) rfl rfl
            · intro w' hS
              obtain ⟨q1, q2⟩ := hS
              first | (go_simp; done) | (go_simp; rfl) | rfl
            go_frame
            apply sig_still (o := ⟨some 189, _, _, _, _, _⟩) rfl rfl
            · intro w' hS
              obtain ⟨q1, q2⟩ := hS
              first | (go_simp; done) | (go_simp; rfl) | rfl
            go_frame
            apply sig_still (o := ⟨some 190, _, _, _, _, _⟩) rfl rfl
            · intro w' hS
              obtain ⟨q1, q2⟩ := hS
              first | (go_simp; done) | (go_simp; rfl) | rfl
            go_frame
            apply sig_still (o := ⟨some 191, _, _, _, _, _⟩) rfl rfl
            · intro w' hS
              obtain ⟨q1, q2⟩ := hS
              first | (go_simp; done) | (go_simp; rfl) | rfl
            go_frame
            refine sig_eff (o := ⟨some 192, _, _, _, _, _⟩) rfl rfl (fun K hKe => ?_)
            go_wp2_with fail
            refine hcm.mono ?_
            rintro e W5 ⟨rfl, hk⟩
            have hc := fun p => hk.cell (p := ⟨x, p, none⟩) hx4 fun h => h
            refine hKe _ _ ⟨fun _ => ⟨(hc _).trans q0, (hc _).trans q1⟩, ?_⟩
            apply sig_still (o := ⟨some 193, _, _, _, _, _⟩) rfl rfl
            · intro w' hS
              obtain ⟨q1, q2⟩ := hS
              first | (go_simp; done) | (go_simp; rfl) | rfl
            go_frame
            refine sig_skip (o := ⟨some 194, _, _, _, _, _⟩) rfl (by rfl) ?_
            go_frame
            refine sig_skip (o := ⟨some 195, _, _, _, _, _⟩) rfl (by rfl) ?_
            go_frame
            apply sig_still (o := ⟨some 196, _, _, _, _, _⟩) rfl rfl
            · intro w' hS
              obtain ⟨q1, q2⟩ := hS
              first | (go_simp; done) | (go_simp; rfl) | rfl
            go_frame
            apply sig_still (o := ⟨some 2, _, _, _, _, _⟩) rfl rfl
            · intro w' hS
              obtain ⟨q1, q2⟩ := hS
              first | (go_simp; done) | (go_simp; rfl) | rfl
            go_frame
            refine sig_nil ?_
            replace hk := (Keep.refl No W4).drew.trans' hk
            replace hB4 := hB4.keep hk fun h => h
            replace hkW4 := hkW4.trans' hk
            replace hL4 := HH.out.no hA hkW4
            go_wp2_with fail
            go_ret
            rw [HQ.out]
            exact ⟨t, rfl, hB4, fun r hr => (by cases hr), HT.out.len, hL4, hkW4.mono fun _ _ h => h.elim⟩
          | true =>
            go_wp2_with fail
            refine wp_region_sig (fun w' => w'.cell? ⟨x, 0, none⟩ = some (.pointer (some ⟨d, 0, none⟩)) ∧ w'.cell? ⟨x, 1 + a, none⟩ = some (.int .i64 ta)) (fun j => decide (j ≤ 99)) [(0, true), (1, true), (2, true), (3, true), (4, true), (5, true), (6, true), (7, true), (8, true), (9, true), (10, false), (11, true), (12, true), (13, false), (14, true), (15, true)] (by kernel_rfl) (by kernel_rfl) (by intro c a d v w h; cases d <;> exact h) ⟨q0, q1⟩ ?_
            apply sig_still (o := ⟨some 182, _, _, _, _, _⟩) rfl rfl
            · intro w' hS
              obtain ⟨q1, q2⟩ := hS
              first | (go_simp; done) | (go_simp; rfl) | rfl
            go_frame
            apply sig_still (o := ⟨some 183, _, _, _, _, _⟩) rfl rfl
            · intro w' hS
              obtain ⟨q1, q2⟩ := hS
              first | (go_simp; done) | (go_simp; rfl) | rfl
            go_frame
            apply sig_still (o := ⟨some 184, _, _, _, _, _⟩) rfl rfl
            · intro w' hS
              obtain ⟨q1, q2⟩ := hS
              first | (go_simp; done) | (go_simp; rfl) | rfl
            go_frame
            apply sig_still (o := ⟨some 185, _, _, _, _, _⟩) rfl rfl
            · intro w' hS
              obtain ⟨q1, q2⟩ := hS
              first | (go_simp; done) | (go_simp; rfl) | rfl
            go_frame
            apply sig_still (o := ⟨some 186, _, _, _, _, _⟩) rfl rfl
            · intro w' hS
              obtain ⟨q1, q2⟩ := hS
              first | (go_simp; done) | (go_simp; rfl) | rfl
            go_frame
            apply sig_still (o := ⟨some 187, _, _, _, _, _⟩) rfl rfl
            · intro w' hS
              obtain ⟨q1, q2⟩ := hS
              first | (go_simp; done) | (go_simp; rfl) | rfl
            go_frame
            apply sig_still (o := ⟨some 188, _, _, _, _, _⟩) rfl rfl
            · intro w' hS
              obtain ⟨q1, q2⟩ := hS
              first | (go_simp; done) | (go_simp; rfl) | rfl
            go_frame
            apply sig_still (o := ⟨some 189, _, _, _, _, _⟩) rfl rfl
            · intro w' hS
              obtain ⟨q1, q2⟩ := hS
              first | (go_simp; done) | (go_simp; rfl) | rfl
            go_frame
            apply sig_still (o := ⟨some 190, _, _, _, _, _⟩) rfl rfl
            · intro w' hS
              obtain ⟨q1, q2⟩ := hS
              first | (go_simp; done) | (go_simp; rfl) | rfl
            go_frame
            apply sig_still (o := ⟨some 191, _, _, _, _, _⟩) rfl rfl
            · intro w' hS
              obtain ⟨q1, q2⟩ := hS
              first | (go_simp; done) | (go_simp; rfl) | rfl
            go_frame
            refine sig_eff (o := ⟨some 192, _, _, _, _, _⟩) rfl rfl (fun K hKe => ?_)
            go_wp2_with fail
            refine hcm.mono ?_
            rintro e W5 ⟨rfl, hk⟩
            have hc := fun p => hk.cell (p := ⟨x, p, none⟩) hx4 fun h => h
            refine hKe _ _ ⟨fun _ => ⟨(hc _).trans q0, (hc _).trans q1⟩, ?_⟩
            replace hk := (Keep.refl No W4).drew.trans' hk
            apply sig_still (o := ⟨some 193, _, _, _, _, _⟩) rfl rfl
            · intro w' hS
              obtain ⟨q1, q2⟩ := hS
              first | (go_simp; done) | (go_simp; rfl) | rfl
            go_frame
            apply sig_guard (o := ⟨some 194, _, _, _, _, _⟩) rfl (by rfl)
            · intro w' hS
              obtain ⟨q1, q2⟩ := hS
              first | (go_simp; done) | (go_simp; rfl) | rfl
            go_frame
            refine sig_effg (o := ⟨some 195, _, _, _, _, _⟩) rfl (by rfl) (fun K hKe => ?_)
            go_wp2_with fail
            refine (HIN.out W5 hk).mono ?_
            rintro e W6 ⟨rfl, hk6⟩
            have hc6 := fun p => (hk.trans' hk6).cell (p := ⟨x, p, none⟩) hx4 fun h => h
            refine hKe _ _ ⟨fun _ => ⟨(hc6 _).trans q0, (hc6 _).trans q1⟩, ?_⟩
            apply sig_still (o := ⟨some 196, _, _, _, _, _⟩) rfl rfl
            · intro w' hS
              obtain ⟨q1, q2⟩ := hS
              first | (go_simp; done) | (go_simp; rfl) | rfl
            go_frame
            apply sig_still (o := ⟨some 2, _, _, _, _, _⟩) rfl rfl
            · intro w' hS
              obtain ⟨q1, q2⟩ := hS
              first | (go_simp; done) | (go_simp; rfl) | rfl
            go_frame
            refine sig_nil ?_
            replace hk := hk.trans' hk6
            replace hB4 := hB4.keep hk fun h => h
            replace hkW4 := hkW4.trans' hk
            replace hL4 := HH.out.no hA hkW4
            cases ib with
            | true =>
              rw [if_pos (by simp)] at HQ
              go_wp2_with fail
              go_ret
              rw [HQ.out]
              exact ⟨t, rfl, hB4, fun r hr => (by cases hr; rfl), HT.out.len, hL4, hkW4.mono fun _ _ h => h.elim⟩
            | false =>
              rw [if_neg (by simp)] at HQ
              go_wp2_with fail
              go_ret
              rw [HQ.out]
              exact ⟨t, rfl, hB4, fun r hr => (by cases hr), HT.out.len, hL4, hkW4.mono fun _ _ h => h.elim⟩
      · exact absurd ⟨by decide, by decide⟩ hj
      · exact absurd ⟨by decide, by decide⟩ hj
      · exact absurd ⟨by decide, by decide⟩ hj
      · exact absurd ⟨by decide, by decide⟩ hj
      · have HQ := Lib.hid (HO.out.trans (lb_38 L mo t s a b c imm own))
        have p7 := (HCL.out W4 hkW4).2.2.2.2.2.2.2.1
        go_wp2_with (with_reducible refine wl_stInt rfl _ _ _ rfl _ _ _ rfl rfl ?_)
        refine rg_stC hB4 (by rw [stepC_size HT.out.len HS.out]; have := HI.out.a; simp only at this; omega) int_sz ?_
        intro W5 hB5 hk5 hz5
        rw [stepC_set HT.out.len HI.out.a] at hB5
        have hL5 := hL4.keep hk5 (fun j hj e => hxA (e ▸ hj)) (fun j hj => Nat.lt_of_lt_of_le (hA j hj) hkW4.size)
        have hkx : Keep (fun j => j = x ∨ j = mb) w W5 := (hkW4.mono fun _ _ h => h.elim).trans hk5 fun j hj e => .inl e
        go_wp2_with fail
        go_ret
        rw [HQ.out]
        first
        | exact ⟨rfl, _, hB5, fun r hr => (by cases hr; rfl), by rw [List.length_set]; exact HT.out.len, hL5, hkx⟩
        | exact ⟨_, rfl, hB5, fun r hr => (by cases hr; rfl), by rw [List.length_set]; exact HT.out.len, hL5, hkx⟩
      · have HQ := Lib.hid (HO.out.trans (lb_nul L mo t s _ a b c imm own (.inr rfl)))
        go_wp2_with (with_reducible refine wl_stInt rfl _ _ _ rfl _ _ _ rfl rfl ?_)
        refine rg_stC hB4 (by rw [stepC_size HT.out.len HS.out]; have := HI.out.a; simp only at this; omega) int_sz ?_
        intro W5 hB5 hk5 hz5
        rw [stepC_set HT.out.len HI.out.a] at hB5
        have hL5 := hL4.keep hk5 (fun j hj e => hxA (e ▸ hj)) (fun j hj => Nat.lt_of_lt_of_le (hA j hj) hkW4.size)
        have hkx : Keep (fun j => j = x ∨ j = mb) w W5 := (hkW4.mono fun _ _ h => h.elim).trans hk5 fun j hj e => .inl e
        go_wp2_with fail
        go_ret
        rw [HQ.out]
        first
        | exact ⟨rfl, _, hB5, fun r hr => (by cases hr; rfl), by rw [List.length_set]; exact HT.out.len, hL5, hkx⟩
        | exact ⟨_, rfl, hB5, fun r hr => (by cases hr; rfl), by rw [List.length_set]; exact HT.out.len, hL5, hkx⟩
      · have HQ := Lib.hid (HO.out.trans (lb_no L mo t s _ a b c imm own (.inr (.inl rfl))))
        go_wp2_with fail
        go_ret
        rw [HQ.out]
        exact ⟨t, rfl, hB4, fun r hr => (by cases hr; rfl), HT.out.len, hL4, hkW4.mono fun _ _ h => h.elim⟩
      · have HQ := Lib.hid (HO.out.trans (lb_no L mo t s _ a b c imm own (.inr (.inr rfl))))
        go_wp2_with fail
        go_ret
        rw [HQ.out]
        exact ⟨t, rfl, hB4, fun r hr => (by cases hr; rfl), HT.out.len, hL4, hkW4.mono fun _ _ h => h.elim⟩
end
end Go.Proofs.YthfekjnekaecaaaDoor
