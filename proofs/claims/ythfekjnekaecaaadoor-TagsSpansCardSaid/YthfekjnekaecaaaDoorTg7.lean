/- The tags of loads and stores. No condition. -/
import Derived.Test.YthfekjnekaecaaaDoorTg6
set_option linter.unusedVariables false
set_option linter.unusedSimpArgs false
namespace Go.Proofs.YthfekjnekaecaaaDoor
open Go.RowKit Go.Dm Go.Dm.Vm Go.Dm.Cp Go.Dm.Tg Go.Maps
def newL (o : Option (List Int × Lg)) (L : Lg) : Lg := match o with
  | some r => r.2
  | none => L
def NewT (o : Option (List Int × Lg)) (t : List Int) : Prop := ∀ r, o = some r → t = r.1
theorem int_sz : (Tryd.prog.info? 3).map (·.size) = some 1 := by kernel_rfl
theorem hw8 (k : Nat) (hk : k < 4) : wid k ≤ 8 := by
  have : k = 0 ∨ k = 1 ∨ k = 2 ∨ k = 3 := by omega
  rcases this with rfl | rfl | rfl | rfl <;> decide
section
variable {A B S : Nat → Prop} {w w' : World} {d mb x : Nat} {v : Value} {L : Lg}
set_option maxRecDepth 100000 in
set_option maxHeartbeats 4000000 in
theorem tmem_any {M : Nat → Prop} (t : List Int) (s : St) (i : Ins) (own : Int) (u : Value) (mo : Option V) (hm : memV M w u mo) (hM : ∀ k, M k → k < w.heap.size) (hMA : ∀ k, M k → k ≠ x ∧ k ≠ mb) (hB : Blk w x (stepC d t s i own u) 78) (ht : TsOk L t) (hs : StOk s) (hi : InOk i) (hop : 20 ≤ i.op ∧ i.op ≤ 27) (h : LRep A w d L v mb) (hA : ∀ k, A k → k < w.heap.size) (hxA : ¬ A x) :
    Calls Tryd.prog 49 #[ptrTo x] w fun e w' => ∃ t', e = .returned (.bool (memM L mo t s i).isSome) ∧ Blk w' x (stepC d t' s i own u) 78 ∧ NewT (memM L mo t s i) t' ∧ t'.length = 32 ∧ LRep A w' d (newL (memM L mo t s i) L) v mb ∧ Keep (fun j => j = x ∨ j = mb) w w' := by
  obtain ⟨p0, p1, p2, p3, p4, p5, p6, p7, p8, p9, p10, p11, p12, p13, p14⟩ := cells_of hB ht.len hs hi
  have hx := hB.lt
  have hln := h.ok.ln
  have hta := ht.tg i.a
  have htb := ht.tg i.b
  have htc := ht.tg i.c
  have haz : (i.a : Int) < 32 := by have := hi.a; omega
  have hbz : (i.b : Int) < 32 := by have := hi.b; omega
  have hcz : (i.c : Int) < 32 := by have := hi.c; omega
  have hra := hs.reg i.a
  have hrb := hs.reg i.b
  have hrc := hs.reg i.c
  have himm := u64_wrap hi.lo hi.hi
  have himm2 := u64_wrap2 hi.lo hi.hi
  have hul := u64_lt hi.lo hi.hi
  have hadd := add_wrap (s.reg i.b) (u64 i.imm)
  have hal := add_lt (s.reg i.b) (u64 i.imm)
  have hrm : memM L mo t s i = if spanM L mo (atI s i) (widI i) (t.getD i.b 0) = 0 then
    if widI i = 8 ∧ atI s i % 8 = 0 then
      if 24 ≤ i.op then if markE L (atI s i) (t.getD i.a 0) = 0 then some (t, markM L (atI s i) (t.getD i.a 0)) else none
      else some (t.set i.a (tagM L (atI s i) : Nat), L)
    else if plainM L (atI s i) (widI i) then if 24 ≤ i.op then if t.getD i.a 0 = 0 then some (t, L) else none else some (t.set i.a 0, L)
    else none
  else none := rfl
  have hwi : widI i = wid (i.op - if 24 ≤ i.op then 24 else 20) := rfl
  have hai : atI s i = add (s.reg i.b) (u64 i.imm) := rfl
  rw [← hai] at hadd hal
  generalize memM L mo t s i = O at *
  have HO := Lib.hid hrm
  have ilo := hi.lo
  have ihi := hi.hi
  have ia := hi.a
  have hxm : x ≠ mb := fun e => h.mp.ne_blk hB e.symm
  have hset : ∀ y, (stepC d t s i own u).setIfInBounds (1 + i.a) (.int .i64 y) = stepC d (t.set i.a y) s i own u := fun y => stepC_set ht.len ia y
  have hsz : (stepC d t s i own u).size = 74 := stepC_size ht.len hs
  have HSET := Lib.hid hset
  have hsp := fun W (hk : Keep No w W) => tspan_any (w := W) (atI s i) (widI i) (t.getD i.b 0) hal (by
    rw [hwi]
    have : i.op - (if 24 ≤ i.op then 24 else 20) < 4 := by split <;> omega
    have := hw8 _ this
    omega) (hm.no hM hk) (fun k hk2 => Nat.lt_of_lt_of_le (hM k hk2) hk.size) (h.no hA hk) (fun k hk2 => Nat.lt_of_lt_of_le (hA k hk2) hk.size)
  have HSP := Lib.hid hsp
  have HH := Lib.hid h
  have HT := Lib.hid ht
  have HBB := Lib.hid hB
  clear hrm hai hsp h p1 p5 p7 p11 p12 p14 hra hcz hrc htc hB ht
  have HW := Lib.hid hwi
  clear hwi hi
  generalize atI s i = at_ at *
  generalize widI i = n at *
  generalize t.getD i.a 0 = ta at *
  generalize t.getD i.b 0 = tb at *
  generalize s.reg i.b = rb at *
  generalize hC : stepC d t s i own u = C at *
  have HC := Lib.hid hC
  clear hC
  generalize u64 i.imm = um at *
  generalize hio : i.op = op at *
  generalize hia : i.a = a at *
  generalize hib : i.b = b at *
  generalize hii : i.imm = imm at *
  have HI := Lib.hid (And.intro hio (And.intro hia (And.intro hib hii)))
  clear hio hia hib hii
  unfold ptrTo at *
  obtain ⟨k, hk4, hk⟩ : ∃ k, k < 4 ∧ (op = 20 + k ∨ op = 24 + k) := by
    by_cases h24 : op < 24
    · exact ⟨op - 20, by omega, .inl (by omega)⟩
    · exact ⟨op - 24, by omega, .inr (by omega)⟩
  have hpw : IntKind.u64.wrap (2 ^ k) = ((wid k : Nat) : Int) := by
    have : k = 0 ∨ k = 1 ∨ k = 2 ∨ k = 3 := by omega
    rcases this with rfl | rfl | rfl | rfl <;> decide
  have hn8 : n ≤ 8 := by
    have h1 : (op - if 24 ≤ op then 24 else 20) < 4 := by split <;> omega
    rw [HW.out]; exact hw8 _ h1
  have HN8 := Lib.hid hn8
  rcases hk with hk | hk
  · have hnk : n = wid k := by rw [HW.out, if_neg (by omega)]; congr 1; omega
    have hO24 : decide ((24 : Int) ≤ (op : Int)) = false := by rw [decide_eq_false_iff_not]; omega
    have hO25 : (op : Int) < 24 := by omega
    have hOk : (op : Int) - 20 = (k : Int) := by omega
    have hkz : (k : Int) < 4 := by omega
    have h24n : ¬ 24 ≤ op := by omega
    simp only [if_neg h24n] at HO
    rw [← hnk] at hpw
    clear hk hop hnk
    go_enter Tryd.func49, Tryd.ntmps49
    go_wp2_with fail
    go_quiet (fail)
    generalize hwq : w.drewN nq = W
    have hkW : Keep No w W := hwq ▸ (Keep.refl No w).drewN nq
    have q0 : W.drew.cell? ⟨x, 0, none⟩ = some (.pointer (some ⟨d, 0, none⟩)) := (hkW.cell (p := ⟨x, 0, none⟩) hx fun h => h).trans p0
    have q1 : W.drew.cell? ⟨x, 69, none⟩ = some (.int .i64 (b : Int)) := (hkW.cell (p := ⟨x, 69, none⟩) hx fun h => h).trans p4
    have q2 : W.drew.cell? ⟨x, 1 + b, none⟩ = some (.int .i64 tb) := (hkW.cell (p := ⟨x, 1 + b, none⟩) hx fun h => h).trans p10
    have q3 : W.drew.cell? ⟨x, 73, none⟩ = some u := (hkW.cell (p := ⟨x, 73, none⟩) hx fun h => h).trans p8
    have hxW : x < W.drew.heap.size := Nat.lt_of_lt_of_le hx hkW.size
    have hsp := HSP.out W.drew (hkW.trans' (Keep.refl No W).drew)
    clear hwq p0 p2 p4 p8 p10 p13 hadd p6
    go_wp2_with fail
    refine wp_region_sig (fun w' => w'.cell? ⟨x, 0, none⟩ = some (.pointer (some ⟨d, 0, none⟩)) ∧ w'.cell? ⟨x, 69, none⟩ = some (.int .i64 (b : Int)) ∧ w'.cell? ⟨x, 1 + b, none⟩ = some (.int .i64 tb) ∧ w'.cell? ⟨x, 73, none⟩ = some u) (fun j => decide (j ≤ 99)) [(0, true), (1, true), (2, true), (3, true), (4, true), (5, true), (6, true), (7, true), (8, true), (9, true), (10, true), (11, true), (12, true), (13, true), (14, true), (15, true), (16, true), (17, true), (18, true), (19, true), (20, false), (21, true)] (by kernel_rfl) (by kernel_rfl) (by intro c a d v w h; cases d <;> exact h) ⟨q0, q1, q2, q3⟩ ?_
    apply sig_still (o := ⟨some 42, _, _, _, _, _⟩) rfl rfl
    · intro w' hS
      obtain ⟨q1, q2, q3, q4⟩ := hS
      first | (go_simp; done) | (go_simp; rfl) | rfl
    go_frame
    apply sig_still (o := ⟨some 43, _, _, _, _, _⟩) rfl rfl
    · intro w' hS
      obtain ⟨q1, q2, q3, q4⟩ := hS
      first | (go_simp; done) | (go_simp; rfl) | rfl
    go_frame
    apply sig_still (o := ⟨some 44, _, _, _, _, _⟩) rfl rfl
    · intro w' hS
      obtain ⟨q1, q2, q3, q4⟩ := hS
      first | (go_simp; done) | (go_simp; rfl) | rfl
    go_frame
    apply sig_still (o := ⟨some 45, _, _, _, _, _⟩) rfl rfl
    · intro w' hS
      obtain ⟨q1, q2, q3, q4⟩ := hS
      first | (go_simp; done) | (go_simp; rfl) | rfl
    go_frame
    apply sig_still (o := ⟨some 46, _, _, _, _, _⟩) rfl rfl
    · intro w' hS
      obtain ⟨q1, q2, q3, q4⟩ := hS
      first | (go_simp; done) | (go_simp; rfl) | rfl
    go_frame
    apply sig_still (o := ⟨some 47, _, _, _, _, _⟩) rfl rfl
    · intro w' hS
      obtain ⟨q1, q2, q3, q4⟩ := hS
      first | (go_simp; done) | (go_simp; rfl) | rfl
    go_frame
    apply sig_still (o := ⟨some 48, _, _, _, _, _⟩) rfl rfl
    · intro w' hS
      obtain ⟨q1, q2, q3, q4⟩ := hS
      first | (go_simp; done) | (go_simp; rfl) | rfl
    go_frame
    apply sig_still (o := ⟨some 49, _, _, _, _, _⟩) rfl rfl
    · intro w' hS
      obtain ⟨q1, q2, q3, q4⟩ := hS
      first | (go_simp; done) | (go_simp; rfl) | rfl
    go_frame
    apply sig_still (o := ⟨some 50, _, _, _, _, _⟩) rfl rfl
    · intro w' hS
      obtain ⟨q1, q2, q3, q4⟩ := hS
      first | (go_simp; done) | (go_simp; rfl) | rfl
    go_frame
    apply sig_still (o := ⟨some 51, _, _, _, _, _⟩) rfl rfl
    · intro w' hS
      obtain ⟨q1, q2, q3, q4⟩ := hS
      first | (go_simp; done) | (go_simp; rfl) | rfl
    go_frame
    apply sig_still (o := ⟨some 52, _, _, _, _, _⟩) rfl rfl
    · intro w' hS
      obtain ⟨q1, q2, q3, q4⟩ := hS
      first | (go_simp; done) | (go_simp; rfl) | rfl
    go_frame
    apply sig_still (o := ⟨some 53, _, _, _, _, _⟩) rfl rfl
    · intro w' hS
      obtain ⟨q1, q2, q3, q4⟩ := hS
      first | (go_simp; done) | (go_simp; rfl) | rfl
    go_frame
    apply sig_still (o := ⟨some 54, _, _, _, _, _⟩) rfl rfl
    · intro w' hS
      obtain ⟨q1, q2, q3, q4⟩ := hS
      first | (go_simp; done) | (go_simp; rfl) | rfl
    go_frame
    apply sig_still (o := ⟨some 55, _, _, _, _, _⟩) rfl rfl
    · intro w' hS
      obtain ⟨q1, q2, q3, q4⟩ := hS
      first | (go_simp; done) | (go_simp; rfl) | rfl
    go_frame
    apply sig_still (o := ⟨some 56, _, _, _, _, _⟩) rfl rfl
    · intro w' hS
      obtain ⟨q1, q2, q3, q4⟩ := hS
      first | (go_simp; done) | (go_simp; rfl) | rfl
    go_frame
    apply sig_still (o := ⟨some 57, _, _, _, _, _⟩) rfl rfl
    · intro w' hS
      obtain ⟨q1, q2, q3, q4⟩ := hS
      first | (go_simp; done) | (go_simp; rfl) | rfl
    go_frame
    apply sig_still (o := ⟨some 58, _, _, _, _, _⟩) rfl rfl
    · intro w' hS
      obtain ⟨q1, q2, q3, q4⟩ := hS
      first | (go_simp; done) | (go_simp; rfl) | rfl
    go_frame
    apply sig_still (o := ⟨some 59, _, _, _, _, _⟩) rfl rfl
    · intro w' hS
      obtain ⟨q1, q2, q3, q4⟩ := hS
      first | (go_simp; done) | (go_simp; rfl) | rfl
    go_frame
    apply sig_still (o := ⟨some 60, _, _, _, _, _⟩) rfl rfl
    · intro w' hS
      obtain ⟨q1, q2, q3, q4⟩ := hS
      first | (go_simp; done) | (go_simp; rfl) | rfl
    go_frame
    apply sig_still (o := ⟨some 61, _, _, _, _, _⟩) rfl rfl
    · intro w' hS
      obtain ⟨q1, q2, q3, q4⟩ := hS
      first | (go_simp; done) | (go_simp; rfl) | rfl
    go_frame
    refine sig_eff (o := ⟨some 62, _, _, _, _, _⟩) rfl rfl (fun K hKe => ?_)
    go_wp2_with fail
    refine hsp.mono ?_
    rintro e W2 ⟨rfl, hk2⟩
    have hc := fun p => hk2.cell (p := ⟨x, p, none⟩) hxW fun h => h
    refine hKe _ _ ⟨fun _ => ⟨(hc _).trans q0, (hc _).trans q1, (hc _).trans q2, (hc _).trans q3⟩, ?_⟩
    apply sig_still (o := ⟨some 63, _, _, _, _, _⟩) rfl rfl
    · intro w' hS
      obtain ⟨q1, q2, q3, q4⟩ := hS
      first | (go_simp; done) | (go_simp; rfl) | rfl
    go_frame
    refine sig_nil ?_
    have hkW2 : Keep No w W2 := hkW.trans' ((Keep.refl No W).drew.trans' hk2)
    have q0 : W2.cell? ⟨x, 0, none⟩ = some (.pointer (some ⟨d, 0, none⟩)) := (hc _).trans q0
    have q1 : W2.cell? ⟨x, 68, none⟩ = some (.int .i64 (a : Int)) := (hkW2.cell (p := ⟨x, 68, none⟩) hx fun h => h).trans p3
    have q2 : W2.cell? ⟨x, 1 + a, none⟩ = some (.int .i64 ta) := (hkW2.cell (p := ⟨x, 1 + a, none⟩) hx fun h => h).trans p9
    have hx2 : x < W2.heap.size := Nat.lt_of_lt_of_le hx hkW2.size
    clear hc hkW hk2 hsp p3 p9 hxW
    generalize spanM L mo at_ n tb = E at *
    by_cases hE : E = 0
    · subst hE
      rw [if_pos rfl] at HO
      have hmod : ((at_ : Nat) : Int).tmod 8 = ((at_ % 8 : Nat) : Int) := by rw [IntWalk.rem_in _ _ (by omega)]; omega
      have hL2 := HH.out.no hA hkW2
      have hB2 := HBB.out.keep hkW2 fun h => h
      have htg := ttag_any (w := W2) at_ hal hL2
      by_cases hwh : n = 8 ∧ at_ % 8 = 0
      · rw [if_pos hwh] at HO
        obtain ⟨hw1, hw2⟩ := hwh
        subst hw1
        rw [hw2] at hmod
        go_wp2_with fail
        go_quiet (fail)
        generalize hwq : W2.drewN nq = W3
        have hk23 : Keep No W2 W3 := hwq ▸ (Keep.refl No W2).drewN nq
        have hkW3 := hkW2.trans' hk23
        have hL3 := HH.out.no hA hkW3
        have hB3 := HBB.out.keep hkW3 fun h => h
        have q0 := (hk23.cell (p := ⟨x, 0, none⟩) hx2 fun h => h).trans q0
        have q2 := (hk23.cell (p := ⟨x, 1 + a, none⟩) hx2 fun h => h).trans q2
        clear hwq hk23 hkW2 q1 hL2 hB2
        have htg := ttag_any (w := W3) at_ hal hL3
        unfold ptrTo at htg
        go_wp2_with fail
        refine htg.mono ?_
        rintro e W4 ⟨rfl, rfl⟩
        go_wp2_with (with_reducible refine wl_stInt rfl _ _ _ rfl _ _ _ rfl rfl ?_)
        refine rg_stC hB3 (by rw [hsz]; omega) int_sz ?_
        intro W4 hB4 hk4 hz4
        rw [HSET.out] at hB4
        go_wp2_with fail
        go_ret
        rw [HO.out]
        exact ⟨_, rfl, hB4, fun r hr => (by cases hr; rfl), by rw [List.length_set]; exact HT.out.len, hL3.keep hk4 (fun j hj e => hxA (e ▸ hj)) (fun j hj => Nat.lt_of_lt_of_le (hA j hj) hkW3.size), (hkW3.mono fun _ _ h => h.elim).trans hk4 fun j hj e => .inl e⟩
      · rw [if_neg hwh] at HO
        have hpl := fun W (hL : LRep A W d L v mb) => tplain_any (w := W) at_ n hal (by have := HN8.out; omega) hL
        generalize plainM L at_ n = pl at *
        have hne : ((n : Int) == 8) = false ∨ (n = 8 ∧ ((((at_ % 8 : Nat)) : Int) == 0) = false) := by
          by_cases h8 : n = 8
          · right; refine ⟨h8, ?_⟩; have : at_ % 8 ≠ 0 := fun e => hwh ⟨h8, e⟩
            rw [beq_eq_false_iff_ne]; omega
          · left; simpa using fun e => h8 (by omega)
        generalize at_ % 8 = rm at *
        clear hwh htg
        rcases hne with hne | ⟨rfl, hne⟩
        · clear hmod
          go_wp2_with fail
          go_quiet (fail)
          generalize hwq : W2.drewN nq = W3
          have hk23 : Keep No W2 W3 := hwq ▸ (Keep.refl No W2).drewN nq
          have hkW3 := hkW2.trans' hk23
          have hL3 := HH.out.no hA hkW3
          have hB3 := HBB.out.keep hkW3 fun h => h
          have q0 := (hk23.cell (p := ⟨x, 0, none⟩) hx2 fun h => h).trans q0
          have q2 := (hk23.cell (p := ⟨x, 1 + a, none⟩) hx2 fun h => h).trans q2
          clear hwq hk23 hkW2 q1 hL2 hB2
          go_wp2_with (with_reducible refine wl_stInt rfl _ _ _ rfl _ _ _ rfl rfl ?_)
          refine rg_stC hB3 (by rw [hsz]; omega) int_sz ?_
          intro W4 hB4 hk4 hz4
          rw [HSET.out] at hB4
          have q0 : W4.cell? ⟨x, 0, none⟩ = some (.pointer (some ⟨d, 0, none⟩)) := (hB4.cell 0).trans rfl
          have hL4 := hL3.keep hk4 (fun j hj e => hxA (e ▸ hj)) (fun j hj => Nat.lt_of_lt_of_le (hA j hj) hkW3.size)
          have hpl := hpl W4 hL4
          unfold ptrTo at hpl
          go_wp2_with fail
          refine hpl.mono ?_
          rintro e W5 ⟨rfl, rfl⟩
          go_wp2_with fail
          go_ret
          rw [HO.out]
          have hkx : Keep (fun j => j = x ∨ j = mb) w W4 := (hkW3.mono fun _ _ h => h.elim).trans hk4 fun j hj e => .inl e
          cases pl
          · exact ⟨_, rfl, hB4, fun r hr => (by cases hr), by rw [List.length_set]; exact HT.out.len, hL4, hkx⟩
          · exact ⟨_, rfl, hB4, fun r hr => (by cases hr; rfl), by rw [List.length_set]; exact HT.out.len, hL4, hkx⟩
        · skip
          go_wp2_with fail
          go_quiet (fail)
          generalize hwq : W2.drewN nq = W3
          have hk23 : Keep No W2 W3 := hwq ▸ (Keep.refl No W2).drewN nq
          have hkW3 := hkW2.trans' hk23
          have hL3 := HH.out.no hA hkW3
          have hB3 := HBB.out.keep hkW3 fun h => h
          have q0 := (hk23.cell (p := ⟨x, 0, none⟩) hx2 fun h => h).trans q0
          have q2 := (hk23.cell (p := ⟨x, 1 + a, none⟩) hx2 fun h => h).trans q2
          clear hwq hk23 hkW2 q1 hL2 hB2
          go_wp2_with (with_reducible refine wl_stInt rfl _ _ _ rfl _ _ _ rfl rfl ?_)
          refine rg_stC hB3 (by rw [hsz]; omega) int_sz ?_
          intro W4 hB4 hk4 hz4
          rw [HSET.out] at hB4
          have q0 : W4.cell? ⟨x, 0, none⟩ = some (.pointer (some ⟨d, 0, none⟩)) := (hB4.cell 0).trans rfl
          have hL4 := hL3.keep hk4 (fun j hj e => hxA (e ▸ hj)) (fun j hj => Nat.lt_of_lt_of_le (hA j hj) hkW3.size)
          have hpl := hpl W4 hL4
          unfold ptrTo at hpl
          go_wp2_with fail
          refine hpl.mono ?_
          rintro e W5 ⟨rfl, rfl⟩
          go_wp2_with fail
          go_ret
          rw [HO.out]
          have hkx : Keep (fun j => j = x ∨ j = mb) w W4 := (hkW3.mono fun _ _ h => h.elim).trans hk4 fun j hj e => .inl e
          cases pl
          · exact ⟨_, rfl, hB4, fun r hr => (by cases hr), by rw [List.length_set]; exact HT.out.len, hL4, hkx⟩
          · exact ⟨_, rfl, hB4, fun r hr => (by cases hr; rfl), by rw [List.length_set]; exact HT.out.len, hL4, hkx⟩
    · rw [if_neg hE] at HO
      have hEz : ((E : Int) != 0) = true := by simpa using hE
      go_wp2_with fail
      go_ret
      rw [HO.out]
      have hC := HC.out
      subst hC
      exact ⟨t, rfl, HBB.out.keep hkW2 fun h => h, fun r hr => (by cases hr), HT.out.len, HH.out.no hA hkW2, hkW2.mono fun _ _ h => h.elim⟩
  · have hnk : n = wid k := by rw [HW.out, if_pos (by omega)]; congr 1; omega
    have hO24 : decide ((24 : Int) ≤ (op : Int)) = true := by rw [decide_eq_true_eq]; omega
    have hO25 : (op : Int) ≥ 24 := by omega
    have hOk : (op : Int) - 24 = (k : Int) := by omega
    have hkz : (k : Int) < 4 := by omega
    have h24n : 24 ≤ op := by omega
    simp only [if_pos h24n] at HO
    rw [← hnk] at hpw
    clear hk hop hnk
    go_enter Tryd.func49, Tryd.ntmps49
    go_wp2_with fail
    go_quiet (fail)
    generalize hwq : w.drewN nq = W
    have hkW : Keep No w W := hwq ▸ (Keep.refl No w).drewN nq
    have q0 : W.drew.cell? ⟨x, 0, none⟩ = some (.pointer (some ⟨d, 0, none⟩)) := (hkW.cell (p := ⟨x, 0, none⟩) hx fun h => h).trans p0
    have q1 : W.drew.cell? ⟨x, 69, none⟩ = some (.int .i64 (b : Int)) := (hkW.cell (p := ⟨x, 69, none⟩) hx fun h => h).trans p4
    have q2 : W.drew.cell? ⟨x, 1 + b, none⟩ = some (.int .i64 tb) := (hkW.cell (p := ⟨x, 1 + b, none⟩) hx fun h => h).trans p10
    have q3 : W.drew.cell? ⟨x, 73, none⟩ = some u := (hkW.cell (p := ⟨x, 73, none⟩) hx fun h => h).trans p8
    have hxW : x < W.drew.heap.size := Nat.lt_of_lt_of_le hx hkW.size
    have hsp := HSP.out W.drew (hkW.trans' (Keep.refl No W).drew)
    clear hwq p0 p2 p4 p8 p10 p13 hadd p6
    go_wp2_with fail
    refine wp_region_sig (fun w' => w'.cell? ⟨x, 0, none⟩ = some (.pointer (some ⟨d, 0, none⟩)) ∧ w'.cell? ⟨x, 69, none⟩ = some (.int .i64 (b : Int)) ∧ w'.cell? ⟨x, 1 + b, none⟩ = some (.int .i64 tb) ∧ w'.cell? ⟨x, 73, none⟩ = some u) (fun j => decide (j ≤ 99)) [(0, true), (1, true), (2, true), (3, true), (4, true), (5, true), (6, true), (7, true), (8, true), (9, true), (10, true), (11, true), (12, true), (13, true), (14, true), (15, true), (16, true), (17, true), (18, true), (19, true), (20, false), (21, true)] (by kernel_rfl) (by kernel_rfl) (by intro c a d v w h; cases d <;> exact h) ⟨q0, q1, q2, q3⟩ ?_
    apply sig_still (o := ⟨some 42, _, _, _, _, _⟩) rfl rfl
    · intro w' hS
      obtain ⟨q1, q2, q3, q4⟩ := hS
      first | (go_simp; done) | (go_simp; rfl) | rfl
    go_frame
    apply sig_still (o := ⟨some 43, _, _, _, _, _⟩) rfl rfl
    · intro w' hS
      obtain ⟨q1, q2, q3, q4⟩ := hS
      first | (go_simp; done) | (go_simp; rfl) | rfl
    go_frame
    apply sig_still (o := ⟨some 44, _, _, _, _, _⟩) rfl rfl
    · intro w' hS
      obtain ⟨q1, q2, q3, q4⟩ := hS
      first | (go_simp; done) | (go_simp; rfl) | rfl
    go_frame
    apply sig_still (o := ⟨some 45, _, _, _, _, _⟩) rfl rfl
    · intro w' hS
      obtain ⟨q1, q2, q3, q4⟩ := hS
      first | (go_simp; done) | (go_simp; rfl) | rfl
    go_frame
    apply sig_still (o := ⟨some 46, _, _, _, _, _⟩) rfl rfl
    · intro w' hS
      obtain ⟨q1, q2, q3, q4⟩ := hS
      first | (go_simp; done) | (go_simp; rfl) | rfl
    go_frame
    apply sig_still (o := ⟨some 47, _, _, _, _, _⟩) rfl rfl
    · intro w' hS
      obtain ⟨q1, q2, q3, q4⟩ := hS
      first | (go_simp; done) | (go_simp; rfl) | rfl
    go_frame
    apply sig_still (o := ⟨some 48, _, _, _, _, _⟩) rfl rfl
    · intro w' hS
      obtain ⟨q1, q2, q3, q4⟩ := hS
      first | (go_simp; done) | (go_simp; rfl) | rfl
    go_frame
    apply sig_still (o := ⟨some 49, _, _, _, _, _⟩) rfl rfl
    · intro w' hS
      obtain ⟨q1, q2, q3, q4⟩ := hS
      first | (go_simp; done) | (go_simp; rfl) | rfl
    go_frame
    apply sig_still (o := ⟨some 50, _, _, _, _, _⟩) rfl rfl
    · intro w' hS
      obtain ⟨q1, q2, q3, q4⟩ := hS
      first | (go_simp; done) | (go_simp; rfl) | rfl
    go_frame
    apply sig_still (o := ⟨some 51, _, _, _, _, _⟩) rfl rfl
    · intro w' hS
      obtain ⟨q1, q2, q3, q4⟩ := hS
      first | (go_simp; done) | (go_simp; rfl) | rfl
    go_frame
    apply sig_still (o := ⟨some 52, _, _, _, _, _⟩) rfl rfl
    · intro w' hS
      obtain ⟨q1, q2, q3, q4⟩ := hS
      first | (go_simp; done) | (go_simp; rfl) | rfl
    go_frame
    apply sig_still (o := ⟨some 53, _, _, _, _, _⟩) rfl rfl
    · intro w' hS
      obtain ⟨q1, q2, q3, q4⟩ := hS
      first | (go_simp; done) | (go_simp; rfl) | rfl
    go_frame
    apply sig_still (o := ⟨some 54, _, _, _, _, _⟩) rfl rfl
    · intro w' hS
      obtain ⟨q1, q2, q3, q4⟩ := hS
      first | (go_simp; done) | (go_simp; rfl) | rfl
    go_frame
    apply sig_still (o := ⟨some 55, _, _, _, _, _⟩) rfl rfl
    · intro w' hS
      obtain ⟨q1, q2, q3, q4⟩ := hS
      first | (go_simp; done) | (go_simp; rfl) | rfl
    go_frame
    apply sig_still (o := ⟨some 56, _, _, _, _, _⟩) rfl rfl
    · intro w' hS
      obtain ⟨q1, q2, q3, q4⟩ := hS
      first | (go_simp; done) | (go_simp; rfl) | rfl
    go_frame
    apply sig_still (o := ⟨some 57, _, _, _, _, _⟩) rfl rfl
    · intro w' hS
      obtain ⟨q1, q2, q3, q4⟩ := hS
      first | (go_simp; done) | (go_simp; rfl) | rfl
    go_frame
    apply sig_still (o := ⟨some 58, _, _, _, _, _⟩) rfl rfl
    · intro w' hS
      obtain ⟨q1, q2, q3, q4⟩ := hS
      first | (go_simp; done) | (go_simp; rfl) | rfl
    go_frame
    apply sig_still (o := ⟨some 59, _, _, _, _, _⟩) rfl rfl
    · intro w' hS
      obtain ⟨q1, q2, q3, q4⟩ := hS
      first | (go_simp; done) | (go_simp; rfl) | rfl
    go_frame
    apply sig_still (o := ⟨some 60, _, _, _, _, _⟩) rfl rfl
    · intro w' hS
      obtain ⟨q1, q2, q3, q4⟩ := hS
      first | (go_simp; done) | (go_simp; rfl) | rfl
    go_frame
    apply sig_still (o := ⟨some 61, _, _, _, _, _⟩) rfl rfl
    · intro w' hS
      obtain ⟨q1, q2, q3, q4⟩ := hS
      first | (go_simp; done) | (go_simp; rfl) | rfl
    go_frame
    refine sig_eff (o := ⟨some 62, _, _, _, _, _⟩) rfl rfl (fun K hKe => ?_)
    go_wp2_with fail
    refine hsp.mono ?_
    rintro e W2 ⟨rfl, hk2⟩
    have hc := fun p => hk2.cell (p := ⟨x, p, none⟩) hxW fun h => h
    refine hKe _ _ ⟨fun _ => ⟨(hc _).trans q0, (hc _).trans q1, (hc _).trans q2, (hc _).trans q3⟩, ?_⟩
    apply sig_still (o := ⟨some 63, _, _, _, _, _⟩) rfl rfl
    · intro w' hS
      obtain ⟨q1, q2, q3, q4⟩ := hS
      first | (go_simp; done) | (go_simp; rfl) | rfl
    go_frame
    refine sig_nil ?_
    have hkW2 : Keep No w W2 := hkW.trans' ((Keep.refl No W).drew.trans' hk2)
    have q0 : W2.cell? ⟨x, 0, none⟩ = some (.pointer (some ⟨d, 0, none⟩)) := (hc _).trans q0
    have q1 : W2.cell? ⟨x, 68, none⟩ = some (.int .i64 (a : Int)) := (hkW2.cell (p := ⟨x, 68, none⟩) hx fun h => h).trans p3
    have q2 : W2.cell? ⟨x, 1 + a, none⟩ = some (.int .i64 ta) := (hkW2.cell (p := ⟨x, 1 + a, none⟩) hx fun h => h).trans p9
    have hx2 : x < W2.heap.size := Nat.lt_of_lt_of_le hx hkW2.size
    clear hc hkW hk2 hsp p3 p9 hxW
    generalize spanM L mo at_ n tb = E at *
    by_cases hE : E = 0
    · subst hE
      rw [if_pos rfl] at HO
      have hmod : ((at_ : Nat) : Int).tmod 8 = ((at_ % 8 : Nat) : Int) := by rw [IntWalk.rem_in _ _ (by omega)]; omega
      have hL2 := HH.out.no hA hkW2
      have hB2 := HBB.out.keep hkW2 fun h => h
      have htg := ttag_any (w := W2) at_ hal hL2
      by_cases hwh : n = 8 ∧ at_ % 8 = 0
      · rw [if_pos hwh] at HO
        obtain ⟨hw1, hw2⟩ := hwh
        subst hw1
        rw [hw2] at hmod
        have hmE : markE L at_ ta = 0 := by unfold markE; rw [if_pos ⟨hw2, hta⟩]
        rw [if_pos hmE] at HO
        go_wp2_with fail
        go_quiet (fail)
        generalize hwq : W2.drewN nq = W3
        have hk23 : Keep No W2 W3 := hwq ▸ (Keep.refl No W2).drewN nq
        have hkW3 := hkW2.trans' hk23
        have hL3 := HH.out.no hA hkW3
        have hB3 := HBB.out.keep hkW3 fun h => h
        have q0 := (hk23.cell (p := ⟨x, 0, none⟩) hx2 fun h => h).trans q0
        have q2 := (hk23.cell (p := ⟨x, 1 + a, none⟩) hx2 fun h => h).trans q2
        clear hwq hk23 hkW2 q1 hL2 hB2
        go_wp2_with fail
        have hL3d := hL3.no (fun j hj => Nat.lt_of_lt_of_le (hA j hj) hkW3.size) (Keep.refl No W3).drew
        have hmk := tmark_any (w := W3.drew) at_ ta hal hL3d (fun j hj => Nat.lt_of_lt_of_le (hA j hj) hkW3.size)
        rw [hmE] at hmk
        have q0d : W3.drew.cell? ⟨x, 0, none⟩ = some (.pointer (some ⟨d, 0, none⟩)) := q0
        have q2d : W3.drew.cell? ⟨x, 1 + a, none⟩ = some (.int .i64 ta) := q2
        unfold ptrTo at hmk
        refine wp_region_sig (fun w' => w'.cell? ⟨x, 0, none⟩ = some (.pointer (some ⟨d, 0, none⟩)) ∧ w'.cell? ⟨x, 1 + a, none⟩ = some (.int .i64 ta)) (fun j => decide (j ≤ 99)) [(0, true), (1, true), (2, true), (3, true), (4, true), (5, true), (6, true), (7, true), (8, false), (9, true), (10, true)] (by kernel_rfl) (by kernel_rfl) (by intro c a d v w h; cases d <;> exact h) ⟨q0d, q2d⟩ ?_
        apply sig_still (o := ⟨some 85, _, _, _, _, _⟩) rfl rfl
        · intro w' hS
          obtain ⟨q1, q2⟩ := hS
          first | (go_simp; done) | (go_simp; rfl) | rfl
        go_frame
        apply sig_still (o := ⟨some 86, _, _, _, _, _⟩) rfl rfl
        · intro w' hS
          obtain ⟨q1, q2⟩ := hS
          first | (go_simp; done) | (go_simp; rfl) | rfl
        go_frame
        apply sig_still (o := ⟨some 87, _, _, _, _, _⟩) rfl rfl
        · intro w' hS
          obtain ⟨q1, q2⟩ := hS
          first | (go_simp; done) | (go_simp; rfl) | rfl
        go_frame
        apply sig_still (o := ⟨some 88, _, _, _, _, _⟩) rfl rfl
        · intro w' hS
          obtain ⟨q1, q2⟩ := hS
          first | (go_simp; done) | (go_simp; rfl) | rfl
        go_frame
        apply sig_still (o := ⟨some 89, _, _, _, _, _⟩) rfl rfl
        · intro w' hS
          obtain ⟨q1, q2⟩ := hS
          first | (go_simp; done) | (go_simp; rfl) | rfl
        go_frame
        apply sig_still (o := ⟨some 90, _, _, _, _, _⟩) rfl rfl
        · intro w' hS
          obtain ⟨q1, q2⟩ := hS
          first | (go_simp; done) | (go_simp; rfl) | rfl
        go_frame
        apply sig_still (o := ⟨some 91, _, _, _, _, _⟩) rfl rfl
        · intro w' hS
          obtain ⟨q1, q2⟩ := hS
          first | (go_simp; done) | (go_simp; rfl) | rfl
        go_frame
        apply sig_still (o := ⟨some 92, _, _, _, _, _⟩) rfl rfl
        · intro w' hS
          obtain ⟨q1, q2⟩ := hS
          first | (go_simp; done) | (go_simp; rfl) | rfl
        go_frame
        refine sig_eff (o := ⟨some 93, _, _, _, _, _⟩) rfl rfl (fun K hKe => ?_)
        go_wp2_with fail
        refine hmk.mono ?_
        rintro e W4 ⟨rfl, hL4, hk4⟩
        have hx3 : x < W3.drew.heap.size := Nat.lt_of_lt_of_le hx hkW3.size
        have hc := fun p => hk4.cell (p := ⟨x, p, none⟩) hx3 hxm
        refine hKe _ _ ⟨fun _ => ⟨(hc _).trans q0d, (hc _).trans q2d⟩, ?_⟩
        apply sig_still (o := ⟨some 94, _, _, _, _, _⟩) rfl rfl
        · intro w' hS
          obtain ⟨q1, q2⟩ := hS
          first | (go_simp; done) | (go_simp; rfl) | rfl
        go_frame
        apply sig_still (o := ⟨some 2, _, _, _, _, _⟩) rfl rfl
        · intro w' hS
          obtain ⟨q1, q2⟩ := hS
          first | (go_simp; done) | (go_simp; rfl) | rfl
        go_frame
        refine sig_nil ?_
        go_wp2_with fail
        go_ret
        rw [HO.out]
        have hC := HC.out
        subst hC
        exact ⟨t, rfl, (hB3.keep (Keep.refl No W3).drew fun h => h).keep hk4 hxm, fun r hr => (by cases hr; rfl), HT.out.len, hL4, ((hkW3.trans' (Keep.refl No W3).drew).mono fun _ _ h => h.elim).trans hk4 fun j hj e => .inr e⟩
      · rw [if_neg hwh] at HO
        have hpl := fun W (hL : LRep A W d L v mb) => tplain_any (w := W) at_ n hal (by have := HN8.out; omega) hL
        generalize plainM L at_ n = pl at *
        have hne : ((n : Int) == 8) = false ∨ (n = 8 ∧ ((((at_ % 8 : Nat)) : Int) == 0) = false) := by
          by_cases h8 : n = 8
          · right; refine ⟨h8, ?_⟩; have : at_ % 8 ≠ 0 := fun e => hwh ⟨h8, e⟩
            rw [beq_eq_false_iff_ne]; omega
          · left; simpa using fun e => h8 (by omega)
        generalize at_ % 8 = rm at *
        clear hwh htg
        rcases hne with hne | ⟨rfl, hne⟩
        · clear hmod
          go_wp2_with fail
          go_quiet (fail)
          generalize hwq : W2.drewN nq = W3
          have hk23 : Keep No W2 W3 := hwq ▸ (Keep.refl No W2).drewN nq
          have hkW3 := hkW2.trans' hk23
          have hL3 := HH.out.no hA hkW3
          have hB3 := HBB.out.keep hkW3 fun h => h
          have q0 := (hk23.cell (p := ⟨x, 0, none⟩) hx2 fun h => h).trans q0
          have q2 := (hk23.cell (p := ⟨x, 1 + a, none⟩) hx2 fun h => h).trans q2
          clear hwq hk23 hkW2 q1 hL2 hB2
          have hpl := hpl W3 hL3
          unfold ptrTo at hpl
          have hkx : Keep (fun j => j = x ∨ j = mb) w W3 := hkW3.mono fun _ _ h => h.elim
          have hC := HC.out
          by_cases ht0 : ta = 0
          · subst ht0
            rw [if_pos rfl] at HO
            go_wp2_with fail
            refine hpl.mono ?_
            rintro e W5 ⟨rfl, rfl⟩
            go_wp2_with fail
            go_ret
            rw [HO.out]
            subst hC
            cases pl
            · exact ⟨t, rfl, hB3, fun r hr => (by cases hr), HT.out.len, hL3, hkx⟩
            · exact ⟨t, rfl, hB3, fun r hr => (by cases hr; rfl), HT.out.len, hL3, hkx⟩
          · rw [if_neg ht0] at HO
            have htz : (ta == 0) = false := by simpa using ht0
            go_wp2_with fail
            go_ret
            rw [HO.out]
            subst hC
            cases pl
            · exact ⟨t, rfl, hB3, fun r hr => (by cases hr), HT.out.len, hL3, hkx⟩
            · exact ⟨t, rfl, hB3, fun r hr => (by cases hr), HT.out.len, hL3, hkx⟩
        · skip
          go_wp2_with fail
          go_quiet (fail)
          generalize hwq : W2.drewN nq = W3
          have hk23 : Keep No W2 W3 := hwq ▸ (Keep.refl No W2).drewN nq
          have hkW3 := hkW2.trans' hk23
          have hL3 := HH.out.no hA hkW3
          have hB3 := HBB.out.keep hkW3 fun h => h
          have q0 := (hk23.cell (p := ⟨x, 0, none⟩) hx2 fun h => h).trans q0
          have q2 := (hk23.cell (p := ⟨x, 1 + a, none⟩) hx2 fun h => h).trans q2
          clear hwq hk23 hkW2 q1 hL2 hB2
          have hpl := hpl W3 hL3
          unfold ptrTo at hpl
          have hkx : Keep (fun j => j = x ∨ j = mb) w W3 := hkW3.mono fun _ _ h => h.elim
          have hC := HC.out
          by_cases ht0 : ta = 0
          · subst ht0
            rw [if_pos rfl] at HO
            go_wp2_with fail
            refine hpl.mono ?_
            rintro e W5 ⟨rfl, rfl⟩
            go_wp2_with fail
            go_ret
            rw [HO.out]
            subst hC
            cases pl
            · exact ⟨t, rfl, hB3, fun r hr => (by cases hr), HT.out.len, hL3, hkx⟩
            · exact ⟨t, rfl, hB3, fun r hr => (by cases hr; rfl), HT.out.len, hL3, hkx⟩
          · rw [if_neg ht0] at HO
            have htz : (ta == 0) = false := by simpa using ht0
            go_wp2_with fail
            go_ret
            rw [HO.out]
            subst hC
            cases pl
            · exact ⟨t, rfl, hB3, fun r hr => (by cases hr), HT.out.len, hL3, hkx⟩
            · exact ⟨t, rfl, hB3, fun r hr => (by cases hr), HT.out.len, hL3, hkx⟩
    · rw [if_neg hE] at HO
      have hEz : ((E : Int) != 0) = true := by simpa using hE
      go_wp2_with fail
      go_ret
      rw [HO.out]
      have hC := HC.out
      subst hC
      exact ⟨t, rfl, HBB.out.keep hkW2 fun h => h, fun r hr => (by cases hr), HT.out.len, HH.out.no hA hkW2, hkW2.mono fun _ _ h => h.elim⟩
end
end Go.Proofs.YthfekjnekaecaaaDoor
