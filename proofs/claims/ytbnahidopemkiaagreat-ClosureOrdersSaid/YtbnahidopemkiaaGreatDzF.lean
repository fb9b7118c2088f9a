/- The document's entries: Get. No condition. -/
import Derived.Test.YtbnahidopemkiaaGreatDz5
import Derived.Test.YtbnahidopemkiaaGreatBu6
import Derived.BigQuiet
set_option linter.unusedVariables false
set_option linter.unusedSimpArgs false
namespace Go.Dm.Ld
open Go Go.Dm.Oc
/-- the last place ahead of j where a tag stands -/
def tgK (t : Nat) : Nat → Int
  | 0 => -1
  | j + 1 => if tagsL.getD j 0 = t then (j : Int) else tgK t j
theorem tgK_at (t : Nat) : tgK t 7 = match tagAt t with | some k => (k : Int) | none => -1 := by
  have e : tgK t 7 = if (8 : Nat) = t then (6 : Int) else if 7 = t then 5 else if 1610612749 = t then 4 else if 6 = t then 3 else if 10 = t then 2 else if 5 = t then 1 else if 14 = t then 0 else -1 := rfl
  rw [e]
  unfold tagAt
  by_cases h14 : t = 14
  · subst h14; rfl
  · by_cases h5 : t = 5
    · subst h5; rfl
    · by_cases h10 : t = 10
      · subst h10; rfl
      · by_cases h6 : t = 6
        · subst h6; rfl
        · by_cases hm : t = 1610612749
          · subst hm; rfl
          · by_cases h7 : t = 7
            · subst h7; rfl
            · by_cases h8 : t = 8
              · subst h8; rfl
              · rw [if_neg h14, if_neg h5, if_neg h10, if_neg h6, if_neg hm, if_neg h7, if_neg h8]
                rw [if_neg (Ne.symm h14), if_neg (Ne.symm h5), if_neg (Ne.symm h10), if_neg (Ne.symm h6), if_neg (Ne.symm hm), if_neg (Ne.symm h7), if_neg (Ne.symm h8)]
def endD5 (x : Dy) (seen : List Bool) : Nat × Dy := if seenOk seen then (0, x) else (11, dy0)
theorem dyGo_step (b : BS) (k p : Nat) (x : Dy) (seen : List Bool) (hp : p = 16 * k) (hk : k ≤ b.length / 16) : dyGo b (b.length / 16 + 1 - k) p x seen = (if hasB b.length p 16 = false then (10, dy0)
    else if getX b p 8 = 0 then endD5 x seen
    else if getX b p 8 = 1 then dyGo b (b.length / 16 + 1 - (k + 1)) (p + 16) { x with need := x.need ++ [getX b (p + 8) 8] } seen
    else match tagAt (getX b p 8) with
      | none => (11, dy0)
      | some q => if seen.getD q false then (12, dy0) else dyGo b (b.length / 16 + 1 - (k + 1)) (p + 16) { x with v := x.v.set q (getX b (p + 8) 8) } (seen.set q true)) := by
  rw [show b.length / 16 + 1 - k = (b.length / 16 + 1 - (k + 1)) + 1 by omega]
  rfl
theorem p16_of {n k p : Nat} (hp : p = 16 * k) (h : hasB n p 16 = true) (hn : n ≤ 1000000000) : k + 1 ≤ n / 16 ∧ p + 16 = 16 * (k + 1) ∧ p + 16 ≤ n ∧ n - (p + 16) < n - p ∧ p ≤ 1000000000 := by
  simp only [hasB, Bool.and_eq_true, decide_eq_true_eq] at h
  omega
theorem p16_lt {n k p : Nat} (hp : p = 16 * k) (h : k ≤ n / 16) (hn : n ≤ 1000000000) : p < 18446744073709551616 ∧ p + 8 < 18446744073709551616 := by omega
theorem w8_of {p : Nat} (h : p ≤ 1000000000) : IntKind.u64.wrap ((p : Int) + 8) = ((p + 8 : Nat) : Int) ∧ IntKind.u64.wrap ((p : Int) + 16) = ((p + 16 : Nat) : Int) :=
  ⟨by rw [IntKind.wrap_u64]; omega, by rw [IntKind.wrap_u64]; omega⟩
end Go.Dm.Ld
namespace Go.Proofs.YtbnahidopemkiaaGreat
open Go.RowKit Go.Dm Go.Dm.Oc Go.Dm.Ld
def boolA (l : List Bool) : Array Value := (l.map Value.bool).toArray
theorem made_bools (n : Nat) : madeCells (Value.bool false).cells (n * 1) = boolA (List.replicate n false) := by
  apply Array.toList_inj.1
  apply List.ext_getElem
  · simp [madeCells, boolA]
  · intro i h1 h2
    simp [madeCells, Value.cells, boolA, Nat.mod_one]
theorem boolA_at {l : List Bool} {k : Nat} (h : k < l.length) : (boolA l)[k]? = some (.bool (l.getD k false)) := by
  unfold boolA
  rw [List.getElem?_toArray, List.getElem?_map, List.getElem?_eq_getElem h, List.getD_eq_getElem?_getD, List.getElem?_eq_getElem h]
  rfl
theorem boolA_set (l : List Bool) (k : Nat) (x : Bool) : (boolA l).setIfInBounds k (.bool x) = boolA (l.set k x) := by
  unfold boolA
  rw [List.setIfInBounds_toArray, List.map_set]
theorem nums7_set (l : List Nat) (k : Nat) (x : Nat) : (nums7 l).setIfInBounds k (.int .u64 (x : Int)) = nums7 (l.set k x) := by
  unfold nums7
  rw [List.setIfInBounds_toArray, List.map_set]
theorem nums7_at {l : List Nat} {k : Nat} (h : k < l.length) : (nums7 l)[k]? = some (.int .u64 ((l.getD k 0 : Nat) : Int)) := by
  unfold nums7
  rw [List.getElem?_toArray, List.getElem?_map, List.getElem?_eq_getElem h, List.getD_eq_getElem?_getD, List.getElem?_eq_getElem h]
  rfl
theorem bool_infz : (Tryz.prog.info? 4).map (fun i => (i.zero, i.size, i.bytes)) = some (some (.bool false), 1, 1) := by kernel_rfl
/-- what Get yields -/
def Dy5 (w : World) (r : Nat × Dy) (e : Ending) (w' : World) : Prop := ∃ vn g, e = .returned (.tuple #[.agg #[vn, .slice (some ⟨g, 0, none⟩) 7 7], .int .i64 (r.1 : Nat)]) ∧ FlO w' w.heap.size 44 1 encN vn r.2.need ∧ w.heap.size ≤ g ∧ Blk w' g (nums7 r.2.v) 44 ∧ Keep No w w'
section
variable {A : Nat → Prop} {w : World} {v : Value}
section
variable {z0 z1 z2 z3 z4 z5 z6 z7 z8 z9 z10 z11 z12 z13 z14 z15 z16 z17 z18 z19 z20 z21 z22 z23 z24 z25 z26 z27 z28 z29 z30 z31 z32 z33 z34 z35 z36 z37 z38 z39 z40 z41 z42 z43 z44 z45 z46 z47 z48 z49 z50 z51 z52 z53 z54 z55 z56 z57 z58 z59 z60 z61 z62 z63 z64 z65 z66 z67 z68 z69 z70 z71 z72 z73 z74 z75 z76 z77 z78 z79 z80 z81 z82 z83 z84 z85 z86 z87 z88 z89 z90 z91 z92 z93 z94 z95 z96 z97 z98 z99 z100 z101 z102 z103 z104 : Value}
set_option maxRecDepth 100000 in
set_option maxHeartbeats 2000000 in
theorem get5_end {x gv gs base : Nat} {vn : Value} {need V : List Nat} {seen : List Bool} {r : Nat × Dy} {w0 : World} (hR : Blk w0 w.heap.size #[.slice none 0 0, .slice none 0 0] 121)
    (hX : Blk w0 x #[vn, .slice (some ⟨gv, 0, none⟩) 7 7] 121) (hV : Blk w0 gv (nums7 V) 44) (hS : Blk w0 gs (boolA seen) 4) (hO : FlO w0 base 44 1 encN vn need) (hs7 : seen.length = 7)
    (hr : r = endD5 ⟨need, V⟩ seen) (hk : Keep No w w0) (hb : w.heap.size < base) (hgv : w.heap.size < gv) (hgs : w.heap.size < gs) (hx : w.heap.size < x) :
    Code.wp Tryz.prog (bodyFrom Tryz.f100 25) (bodyPost Tryz.prog Tryz.f100 (Dy5 w r)) ⟨#[z0, z1, .pointer (some ⟨w.heap.size, 0, none⟩), z3, .pointer (some ⟨x, 0, none⟩), .slice (some ⟨gs, 0, none⟩) 7 7, z6, z7, z8, z9, z10, z11, z12, z13, z14, z15, z16, z17, z18, z19, z20, z21, z22, z23, z24, z25, z26, z27, z28, z29, z30, z31, z32, z33, z34, z35, z36, z37, z38, z39, z40, z41, z42, z43, z44, z45, z46, z47, z48, z49, z50, z51, z52, z53, z54, z55, z56, z57, z58, z59, z60, z61, z62, z63, z64, z65, z66, z67, z68, z69, z70, z71, z72, z73, z74, z75, z76, z77, z78, z79, z80, z81, z82, z83, z84, z85, z86, z87, z88, z89, z90, z91, z92, z93, z94, z95, z96, z97, z98, z99, z100, z101, z102, z103, z104], []⟩ w0 := by
  have HR := Lib.hid hr
  have hcs := fun k (h : k < 7) => (hS.cell k).trans (boolA_at (by omega))
  have c1 := hcs 1 (by decide)
  have c2 := hcs 2 (by decide)
  have c3 := hcs 3 (by decide)
  have c4 := hcs 4 (by decide)
  have c5 := hcs 5 (by decide)
  have c6 := hcs 6 (by decide)
  have hso : seenOk seen = (seen.getD 1 false && seen.getD 2 false && (seen.getD 3 false == seen.getD 4 false) && (seen.getD 5 false == seen.getD 6 false)) := rfl
  have hr2 : r = if (seen.getD 1 false && seen.getD 2 false && (seen.getD 3 false == seen.getD 4 false) && (seen.getD 5 false == seen.getD 6 false)) = true then (0, ⟨need, V⟩) else (11, dy0) := by rw [HR.out]; unfold endD5; rw [hso]
  have HR2 := Lib.hid hr2
  obtain ⟨a0, n0, q0, rfl⟩ : ∃ a n c, vn = .slice a n c := by
    obtain ⟨a, c, e, _⟩ := hO.fl.shape
    exact ⟨_, _, _, e⟩
  clear hcs hso hr hr2 HR hS
  generalize seen.getD 1 false = s1 at *
  generalize seen.getD 2 false = s2 at *
  generalize seen.getD 3 false = s3 at *
  generalize seen.getD 4 false = s4 at *
  generalize seen.getD 5 false = s5 at *
  generalize seen.getD 6 false = s6 at *
  conv => arg 2; whnf
  cases s1 with
  | false =>
    have hr := HR2.out
    rw [if_neg (by simp)] at hr
    subst hr
    clear HR2
    go_wp2_with fail
    go_quiet (fail)
    go_wp2_with fail
    have hRd := hR.keep ((Keep.refl No w0).drewN nq) fun h => h
    have hkd := hk.drewN nq
    refine (r05none_any (w := _)).mono ?_
    rintro e we ⟨ge, rfl, hge1, hBe, hke⟩
    have hRe := (hRd).keep hke fun h => h
    have hlte := hRe.lt
    go_wp2_with (with_reducible refine wl_stAgg rfl _ _ _ rfl _ _ rfl rfl ?_)
    refine rg_stAgg hRe (by kernel_rfl) (by rfl) (by simp [Value.oneCell']) ?_
    intro wf hBf hkf _
    go_wp2_with fail
    refine ret_blk_tmp rfl rfl hBf Tryz.underlying121 rfl (by kernel_rfl) rfl ?_
    have hsz := (hkd).size
    have hrx := (hRd).lt
    exact ⟨_, ge, rfl, FlO.nil, Nat.le_trans hsz hge1, hBe.keep hkf fun e => by have e2 : ge = w.heap.size := e; omega, ((hkd).trans' hke).trans hkf fun j hj e => by have e2 : j = w.heap.size := e; omega⟩
  | true =>
    cases s2 with
    | false =>
      have hr := HR2.out
      rw [if_neg (by simp)] at hr
      subst hr
      clear HR2
      go_wp2_with fail
      go_quiet (fail)
      go_wp2_with fail
      have hRd := hR.keep ((Keep.refl No w0).drewN nq) fun h => h
      have hkd := hk.drewN nq
      refine (r05none_any (w := _)).mono ?_
      rintro e we ⟨ge, rfl, hge1, hBe, hke⟩
      have hRe := (hRd).keep hke fun h => h
      have hlte := hRe.lt
      go_wp2_with (with_reducible refine wl_stAgg rfl _ _ _ rfl _ _ rfl rfl ?_)
      refine rg_stAgg hRe (by kernel_rfl) (by rfl) (by simp [Value.oneCell']) ?_
      intro wf hBf hkf _
      go_wp2_with fail
      refine ret_blk_tmp rfl rfl hBf Tryz.underlying121 rfl (by kernel_rfl) rfl ?_
      have hsz := (hkd).size
      have hrx := (hRd).lt
      exact ⟨_, ge, rfl, FlO.nil, Nat.le_trans hsz hge1, hBe.keep hkf fun e => by have e2 : ge = w.heap.size := e; omega, ((hkd).trans' hke).trans hkf fun j hj e => by have e2 : j = w.heap.size := e; omega⟩
    | true =>
      by_cases h34 : s3 = s4
      · subst h34
        by_cases h56 : s5 = s6
        · subst h56
          cases s3 <;> cases s5
          all_goals
            have hr := HR2.out
            rw [if_pos (by simp)] at hr
            subst hr
            clear HR2
            go_wp2_with fail
            go_quiet (fail)
            go_wp2_with (first | (with_reducible refine wl_ld rfl _ 121 rfl _ rfl ?_) | (with_reducible refine wl_stAgg rfl _ _ _ rfl _ _ rfl rfl ?_))
            refine rg_ld (hX.keep ((Keep.refl No w0).drewN _) fun h => h) Tryz.underlying121 rfl (by kernel_rfl) ?_
            go_wp2_with (with_reducible refine wl_stAgg rfl _ _ _ rfl _ _ rfl rfl ?_)
            refine rg_stAgg (hR.keep ((Keep.refl No w0).drewN _) fun h => h) (by kernel_rfl) (by rfl) (by simp [Value.oneCell']) ?_
            intro wf hBf hkf _
            go_wp2_with fail
            refine ret_blk_tmp rfl rfl hBf Tryz.underlying121 rfl (by kernel_rfl) rfl ?_
            exact ⟨_, gv, rfl, own_base (own_keep (FlO.no hO ((Keep.refl No w0).drewN _)) hkf fun j hj e => by have e2 : j = w.heap.size := e; omega) (by omega), by omega, (hV.keep ((Keep.refl No w0).drewN _) fun h => h).keep hkf (fun e => by have e2 : gv = w.heap.size := e; omega), (hk.drewN _).trans hkf fun j hj e => by have e2 : j = w.heap.size := e; omega⟩
        · cases s3 <;> cases s5 <;> cases s6
          all_goals first | (exfalso; exact h56 rfl) | skip
          all_goals
            have hr := HR2.out
            rw [if_neg (by simp)] at hr
            subst hr
            clear HR2
            go_wp2_with fail
            go_quiet (fail)
            go_wp2_with fail
            have hRd := hR.keep ((Keep.refl No w0).drewN nq) fun h => h
            have hkd := hk.drewN nq
            refine (r05none_any (w := _)).mono ?_
            rintro e we ⟨ge, rfl, hge1, hBe, hke⟩
            have hRe := (hRd).keep hke fun h => h
            have hlte := hRe.lt
            go_wp2_with (with_reducible refine wl_stAgg rfl _ _ _ rfl _ _ rfl rfl ?_)
            refine rg_stAgg hRe (by kernel_rfl) (by rfl) (by simp [Value.oneCell']) ?_
            intro wf hBf hkf _
            go_wp2_with fail
            refine ret_blk_tmp rfl rfl hBf Tryz.underlying121 rfl (by kernel_rfl) rfl ?_
            have hsz := (hkd).size
            have hrx := (hRd).lt
            exact ⟨_, ge, rfl, FlO.nil, Nat.le_trans hsz hge1, hBe.keep hkf fun e => by have e2 : ge = w.heap.size := e; omega, ((hkd).trans' hke).trans hkf fun j hj e => by have e2 : j = w.heap.size := e; omega⟩
      · cases s3 <;> cases s4
        all_goals first | (exfalso; exact h34 rfl) | skip
        all_goals
          have hr := HR2.out
          rw [if_neg (by simp)] at hr
          subst hr
          clear HR2
          go_wp2_with fail
          go_quiet (fail)
          go_wp2_with fail
          have hRd := hR.keep ((Keep.refl No w0).drewN nq) fun h => h
          have hkd := hk.drewN nq
          refine (r05none_any (w := _)).mono ?_
          rintro e we ⟨ge, rfl, hge1, hBe, hke⟩
          have hRe := (hRd).keep hke fun h => h
          have hlte := hRe.lt
          go_wp2_with (with_reducible refine wl_stAgg rfl _ _ _ rfl _ _ rfl rfl ?_)
          refine rg_stAgg hRe (by kernel_rfl) (by rfl) (by simp [Value.oneCell']) ?_
          intro wf hBf hkf _
          go_wp2_with fail
          refine ret_blk_tmp rfl rfl hBf Tryz.underlying121 rfl (by kernel_rfl) rfl ?_
          have hsz := (hkd).size
          have hrx := (hRd).lt
          exact ⟨_, ge, rfl, FlO.nil, Nat.le_trans hsz hge1, hBe.keep hkf fun e => by have e2 : ge = w.heap.size := e; omega, ((hkd).trans' hke).trans hkf fun j hj e => by have e2 : j = w.heap.size := e; omega⟩
end
set_option maxRecDepth 100000 in
set_option maxHeartbeats 4000000 in
theorem r05get_any (b : BS) (hb : Bts A w v b) (hl : b.length ≤ 1000000000) :
    Calls Tryz.prog 100 #[v] w (Dy5 w (dyM b)) := by
  have HB := Lib.hid hb
  obtain ⟨ao, co, rfl, hc1, hc2⟩ := hb.shape
  obtain ⟨r, hr⟩ : ∃ r, r = dyM b := ⟨_, rfl⟩
  rw [← hr]
  have HR : Hid (r = dyGo b (b.length / 16 + 1 - 0) 0 dy0 [false, false, false, false, false, false, false]) := Lib.hid hr
  have hgx := fun W (k : Keep No w W) (p : Nat) (hp : p < 18446744073709551616) => r01get_any (w := W) b p 8 (Sl.keep HB.out k fun _ _ _ h => h) (by omega) hp (by decide) (by decide)
  have HGX := Lib.hid hgx
  have hin : ∀ W (p : Nat), p < 18446744073709551616 → Calls Tryz.prog 126 #[.int .i64 (b.length : Int), .int .u64 (p : Int), .int .u64 16] W fun e w' => e = .returned (.bool (hasB b.length p 16)) ∧ W = w' := fun W p hp => r01in_any b.length p 16 (by omega) hp (by decide) W
  have HIN := Lib.hid hin
  have hstp := fun k p x seen => dyGo_step b k p x seen
  have HSTP := Lib.hid hstp
  have hvl := fun p => getX_lt b p 8
  have HVL := Lib.hid hvl
  obtain ⟨n, hn⟩ : ∃ n, n = b.length := ⟨_, rfl⟩
  rw [← hn] at hl HIN HGX HSTP HR ⊢
  clear hr hb hc1 hc2 hgx hin hstp hvl HB hn
  go_enter Tryz.func100, Tryz.ntmps100
  go_wp2_with (with_reducible refine wl_stAgg rfl _ _ _ rfl _ _ rfl rfl ?_)
  have hkW1 : Keep No w (w.alloc (.cells #[.slice none 0 0, .slice none 0 0] 121)) := (Keep.refl _ _).alloc _
  have hBW1 : Blk (w.alloc (.cells #[.slice none 0 0, .slice none 0 0] 121)) w.heap.size #[.slice none 0 0, .slice none 0 0] 121 := Blk.new _ _ _
  have hzW1 : (w.alloc (.cells #[.slice none 0 0, .slice none 0 0] 121)).heap.size = w.heap.size + 1 := World.size_alloc _ _
  generalize w.alloc (.cells #[.slice none 0 0, .slice none 0 0] 121) = W1 at *
  refine (r05none_any (w := W1)).mono ?_
  rintro e w2 ⟨gv, rfl, hgv, hV2, hk2⟩
  have hR2 := hBW1.keep hk2 fun h => h
  have hk12 := hkW1.trans' hk2
  have hVl := hV2.lt
  go_wp2_with (with_reducible refine wl_stAgg rfl _ _ _ rfl _ _ rfl rfl ?_)
  have hkW3 : Keep No w2 (w2.alloc (.cells #[.slice none 0 0, .slice none 0 0] 121)) := (Keep.refl _ _).alloc _
  have hBW3 : Blk (w2.alloc (.cells #[.slice none 0 0, .slice none 0 0] 121)) w2.heap.size #[.slice none 0 0, .slice none 0 0] 121 := Blk.new _ _ _
  have hzW3 : (w2.alloc (.cells #[.slice none 0 0, .slice none 0 0] 121)).heap.size = w2.heap.size + 1 := World.size_alloc _ _
  generalize w2.alloc (.cells #[.slice none 0 0, .slice none 0 0] 121) = W3 at *
  refine rg_stAgg hBW3 (by kernel_rfl) (by rfl) (by simp [Value.oneCell']) ?_
  intro w4 hX4 hk4 hz4
  go_wp2_with (at_make; refine wl_make rfl _ _ _ rfl _ _ rfl rfl ?_)
  refine rg_make (w := w4) (n := 7) 4 (.bool false) 1 1 Tryz.underlying76 bool_infz (by omega) (by unfold maxLen; omega) ?_
  intro w5 hS5 hk5
  rw [made_bools] at hS5
  have hs2 := hk2.size
  have hR5 := ((hR2.keep hkW3 fun h => h).keep hk4 fun e => by have e2 : w.heap.size = w2.heap.size := e; omega).keep hk5 fun h => h
  have hV5 := ((hV2.keep hkW3 fun h => h).keep hk4 fun e => by have e2 : gv = w2.heap.size := e; omega).keep hk5 fun h => h
  have hX5 := hX4.keep hk5 fun h => h
  have hk05 : Keep No w w5 := ((hk12.trans' hkW3).trans hk4 fun j hj e => by have e2 : j = w2.heap.size := e; have := hk12.size; omega).trans' hk5
  have hS5l := hS5.lt
  have n1 : w.heap.size < w2.heap.size := by omega
  have n2 : w.heap.size < gv := by omega
  have n3 : w.heap.size < w4.heap.size := by omega
  have n4 : gv ≠ w2.heap.size := by omega
  have n5 : gv ≠ w4.heap.size := by omega
  have n6 : w2.heap.size ≠ w4.heap.size := by omega
  have n7 : gv < w5.heap.size := by omega
  have n8 : w2.heap.size < w5.heap.size := by omega
  have n9 : w4.heap.size < w5.heap.size := by omega
  have n0 : w.heap.size < w5.heap.size := by omega
  generalize w2.heap.size = x at *
  generalize w4.heap.size = gs at *
  clear hX4 hk4 hz4 hS5l hkW3 hBW3 hzW3 hVl hV2 hk2 hR2 hk12 hkW1 hBW1 hzW1 hs2 hgv hk5
  go_upto_block 0 with fail
  go_cut [6, 7, 8, 9, 10, 11, 12, 13] from 16 to 74 (fun _ _ _ _ _ _ _ _ wc => ∃ (vn : Value) (need V : List Nat) (seen : List Bool), Blk wc w.heap.size #[.slice none 0 0, .slice none 0 0] 121 ∧ Blk wc x #[vn, .slice (some ⟨gv, 0, none⟩) 7 7] 121 ∧ Blk wc gv (nums7 V) 44 ∧ Blk wc gs (boolA seen) 4 ∧ FlO wc w5.heap.size 44 1 encN vn need ∧ seen.length = 7 ∧ r = endD5 ⟨need, V⟩ seen ∧ Keep No w wc)
  case rest =>
    obtain ⟨vn, need, V, seen, hR, hX, hV, hS, hO, hs7, hr, hk⟩ := hcut
    refine use_k (by assumption) ?_
    exact get5_end hR hX hV hS hO hs7 hr hk n0 n2 n3 n1
  case first =>
    go_wp2_with fail
    go_loopw [6, 7, 8, 9, 10, 11, 12, 13] (fun av _ _ _ _ _ _ _ wr => ∃ (k p : Nat) (vn : Value) (need V : List Nat) (seen : List Bool), av = .int .u64 (p : Int) ∧ Hid (p = 16 * k) ∧ k ≤ n / 16 ∧ Hid (r = dyGo b (n / 16 + 1 - k) p ⟨need, V⟩ seen) ∧ V.length = 7 ∧ seen.length = 7 ∧ need.length ≤ k ∧
      Blk wr w.heap.size #[.slice none 0 0, .slice none 0 0] 121 ∧ Blk wr x #[vn, .slice (some ⟨gv, 0, none⟩) 7 7] 121 ∧ Blk wr gv (nums7 V) 44 ∧ Blk wr gs (boolA seen) 4 ∧ FlO wr w5.heap.size 44 1 encN vn need ∧ w5.heap.size ≤ wr.heap.size ∧ Keep No w wr) (fun av _ _ _ _ _ _ _ _ => n - (intOf av).toNat)
    case atStart => exact ⟨0, 0, _, [], [0, 0, 0, 0, 0, 0, 0], [false, false, false, false, false, false, false], rfl, Lib.hid rfl, Nat.zero_le _, HR, rfl, rfl, Nat.zero_le _, hR5, hX5, hV5, hS5, FlO.nil, Nat.le_refl _, hk05⟩
    case round =>
      clear HR hR5 hX5 hV5 hS5 hk05
      obtain ⟨k, p, vn, need, V, seen, rfl, HP, hk16, HM, hV7, hs7, hnl, hR, hX, hV, hS, hO, hsz, hk⟩ := hrel
      generalize wr = wz at *
      obtain ⟨a0, n0', q0, rfl⟩ : ∃ a n c, vn = .slice a n c := by
        obtain ⟨a, c, e, _⟩ := hO.fl.shape
        exact ⟨_, _, _, e⟩
      have hst := HSTP.out k p ⟨need, V⟩ seen HP.out hk16
      have hr := HM.out
      rw [hst] at hr
      have hlt := p16_lt HP.out hk16 hl
      have h1 := HIN.out wz p hlt.1
      have h2 := HGX.out wz hk p hlt.1
      have h3 := HGX.out wz hk (p + 8) hlt.2
      have hp16 := p16_of (n := n) HP.out
      have hv1 : getX b p 8 < 18446744073709551616 := HVL.out p
      have hv2 : getX b (p + 8) 8 < 18446744073709551616 := HVL.out (p + 8)
      generalize getX b p 8 = tag at *
      generalize getX b (p + 8) 8 = val at *
      generalize fitsE n p 8 = f1 at *
      generalize fitsE n (p + 8) 8 = f2 at *
      generalize hasB n p 16 = hh at *
      have HRS := Lib.hid hr
      have H2 := Lib.hid h2
      have H3 := Lib.hid h3
      have HP16 := Lib.hid hp16
      clear hr hst HM h2 h3 hp16 hlt
      go_wp2_with fail
      refine h1.mono ?_
      clear h1
      rintro e wq ⟨rfl, rfl⟩
      cases hh with
      | false =>
        have hr := HRS.out
        rw [if_pos rfl] at hr
        subst hr
        go_wp2_with fail
        refine (r05none_any (w := _)).mono ?_
        rintro e we ⟨ge, rfl, hge1, hBe, hke⟩
        have hRe := (hR).keep hke fun h => h
        have hlte := hRe.lt
        go_wp2_with (with_reducible refine wl_stAgg rfl _ _ _ rfl _ _ rfl rfl ?_)
        refine rg_stAgg hRe (by kernel_rfl) (by rfl) (by simp [Value.oneCell']) ?_
        intro wf hBf hkf _
        go_wp2_with fail
        refine ret_blk_tmp rfl rfl hBf Tryz.underlying121 rfl (by kernel_rfl) rfl ?_
        have hsz := (hk).size
        have hrx := (hR).lt
        exact ⟨_, ge, rfl, FlO.nil, Nat.le_trans hsz hge1, hBe.keep hkf fun e => by have e2 : ge = w.heap.size := e; omega, ((hk).trans' hke).trans hkf fun j hj e => by have e2 : j = w.heap.size := e; omega⟩
      | true =>
        obtain ⟨hk1, hpk, hpn, hmea, hp9⟩ := HP16.out rfl hl
        have hr := HRS.out
        rw [if_neg (by decide)] at hr
        have HRS2 := Lib.hid hr
        have w8 := (w8_of hp9).1
        have w16 := (w8_of hp9).2
        obtain ⟨p8, hp8⟩ : ∃ q, q = p + 8 := ⟨_, rfl⟩
        obtain ⟨pn, hpp⟩ : ∃ q, q = p + 16 := ⟨_, rfl⟩
        rw [← hp8] at w8 H3
        rw [← hpp] at w16 HRS2 hpk hpn hmea
        have HPK := Lib.hid hpk
        have HPN := Lib.hid hpn
        have HME := Lib.hid hmea
        clear hr HRS hp8 hpp hpk hpn hmea HP16
        go_wp2_with fail
        refine H2.out.mono ?_
        rintro e wq ⟨rfl, rfl⟩
        go_wp2_with fail
        refine H3.out.mono ?_
        rintro e wq ⟨rfl, rfl⟩
        clear H2 H3
        by_cases ht0 : tag = 0
        · subst ht0
          have hr := HRS2.out
          rw [if_pos rfl] at hr
          go_wp2_with fail
          go_meet
          exact ⟨_, need, V, seen, hR, hX, hV, hS, hO, hs7, hr, hk⟩
        · have g0 : ((tag : Int) == 0) = false := by rw [beq_eq_false_iff_ne]; exact fun e => ht0 (by omega)
          have hr := HRS2.out
          rw [if_neg ht0] at hr
          have HRS3 := Lib.hid hr
          clear hr HRS2
          by_cases ht1 : tag = 1
          · subst ht1
            have hr := HRS3.out
            rw [if_pos rfl] at hr
            have HG := Lib.hid hr
            clear hr HRS3
            have cx0 := hX.cell 0
            go_wp2_with (at_builtin; refine wl_append rfl _ _ _ _ rfl _ _ rfl rfl ?_)
            refine rg_push (P := Tryz.prog) (enc := encN) (x := val) (cs := #[.int .u64 (val : Int)]) (.int .u64 0) 8 (t := 92) (ty := 92) Tryz.underlying92 u64_info (by rfl) (by decide) (by rfl) (by rfl) (by intro u hu; rw [List.mem_singleton.1 hu]; rfl) hO (by omega) (by decide) hsz ?_
            intro v4 w4 ho4 hk4 _
            obtain ⟨m4, a4, q4, rfl⟩ : ∃ n a c, v4 = .slice a n c := by
              obtain ⟨a, c, e, _⟩ := ho4.fl.shape
              exact ⟨_, _, _, e⟩
            have hX4 := hX.own hO hk4 n8
            have hR4 := hR.own hO hk4 n0
            have hV4 := hV.own hO hk4 n7
            have hS4 := hS.own hO hk4 n9
            have hK4 : Keep No w w4 := hk.trans hk4 fun j hj e => absurd (World.ownsRow.lt hO _ e.symm).1 (by omega)
            have hsz4 := Nat.le_trans hsz hk4.size
            have hk5 : Keep (fun j => j = x) w4 (w4.setCell ⟨x, 0, none⟩ (.slice a4 m4 q4)) := (Keep.refl (fun j => j = x) w4).setCell (p := ⟨x, 0, none⟩) (fun _ => rfl) (.slice a4 m4 q4)
            have hX5 := hX4.set (i := 0) (.slice a4 m4 q4)
            have hfr := hX4.frozen 0
            have hce : w4.cell? ⟨x, 0, none⟩ = some (.slice a0 n0' q0) := hX4.cell 0
            clear hX hO hV hS hR hk4 hX4 cx0
            go_wp2_with fail
            generalize w4.setCell ⟨x, 0, none⟩ (.slice a4 m4 q4) = w6 at *
            go_roundw
            case rel => exact ⟨k + 1, pn, _, need ++ [val], V, seen, by go_num, HPK, hk1, HG, hV7, hs7, by rw [List.length_append, List.length_singleton]; omega, hR4.keep hk5 (fun e => by have e2 : w.heap.size = x := e; omega), by simpa using hX5, hV4.keep hk5 (fun e => n4 e), hS4.keep hk5 (fun e => n6 e.symm), own_keep ho4 hk5 (fun j hj e => by have e2 : j = x := e; omega), Nat.le_trans hsz4 hk5.size, hK4.trans hk5 (fun j hj e => by have e2 : j = x := e; omega)⟩
            case measure =>
              have := HME.out
              simp [intOf]
              exact this
          · have g1 : ((tag : Int) == 1) = false := by rw [beq_eq_false_iff_ne]; exact fun e => ht1 (by omega)
            have hr := HRS3.out
            rw [if_neg ht1] at hr
            have HRS4 := Lib.hid hr
            clear hr HRS3
            have hkz0 : Hid (((-1 : Int)) = tgK tag 0) := Lib.hid rfl
            go_wp2_with fail
            go_loopw [12, 13] (fun kv iv wr => ∃ (kz : Int) (j : Nat), kv = .int .i64 kz ∧ iv = .int .i64 (j : Int) ∧ j ≤ 7 ∧ Hid (kz = tgK tag j) ∧ Keep No wz wr) (fun _ iv _ => 7 - (intOf iv).toNat)
            case atStart => exact ⟨-1, 0, rfl, rfl, Nat.zero_le _, hkz0, Keep.refl _ _⟩
            case round =>
              clear hkz0
              obtain ⟨kz, j, rfl, rfl, hj, HK, hkr⟩ := hrel
              generalize wr = wy at *
              rcases Nat.lt_or_ge j 7 with hlt | hge
              · have hlz : (j : Int) < 7 := by omega
                have hjt : Hid (tgK tag (j + 1) = if tagsL.getD j 0 = tag then (j : Int) else tgK tag j) := Lib.hid rfl
                have htc : ∀ W : World, Blk W wy.heap.size #[.int .u64 14, .int .u64 5, .int .u64 10, .int .u64 6, .int .u64 1610612749, .int .u64 7, .int .u64 8] 44 → W.cell? ⟨wy.heap.size, j, none⟩ = some (.int .u64 ((tagsL.getD j 0 : Nat) : Int)) := fun W hW => (hW.cell j).trans (by
                  match j, hlt with
                  | 0, _ => rfl
                  | 1, _ => rfl
                  | 2, _ => rfl
                  | 3, _ => rfl
                  | 4, _ => rfl
                  | 5, _ => rfl
                  | 6, _ => rfl)
                generalize tagsL.getD j 0 = tj at *
                have HTC := Lib.hid htc
                clear htc
                go_wp2_with fail
                refine r05tags_any.mono ?_
                rintro e wt ⟨rfl, rfl⟩
                have hkt : Keep No wy (wy.alloc (.cells #[.int .u64 14, .int .u64 5, .int .u64 10, .int .u64 6, .int .u64 1610612749, .int .u64 7, .int .u64 8] 44)) := (Keep.refl _ _).alloc _
                have ct := HTC.out _ (Blk.new wy _ _)
                have hkr2 := hkr.trans' hkt
                generalize wy.alloc (.cells #[.int .u64 14, .int .u64 5, .int .u64 10, .int .u64 6, .int .u64 1610612749, .int .u64 7, .int .u64 8] 44) = wt at *
                clear hkt
                by_cases he : tj = tag
                · have gq : ((tj : Int) == (tag : Int)) = true := by rw [beq_iff_eq, he]
                  have HK2 : Hid ((j : Int) = tgK tag (j + 1)) := Lib.hid (by rw [hjt.out, if_pos he])
                  clear he
                  go_wp2_with fail
                  go_roundw
                  case rel => exact ⟨(j : Int), j + 1, rfl, by go_num, hlt, HK2, hkr2⟩
                  case measure => (simp [intOf]; try omega)
                · have gq : ((tj : Int) == (tag : Int)) = false := by rw [beq_eq_false_iff_ne]; exact fun e => he (by omega)
                  have HK2 : Hid (kz = tgK tag (j + 1)) := Lib.hid (by rw [hjt.out, if_neg he]; exact HK.out)
                  clear he
                  go_wp2_with fail
                  go_roundw
                  case rel => exact ⟨kz, j + 1, rfl, by go_num, hlt, HK2, hkr2⟩
                  case measure => (simp [intOf]; try omega)
              · obtain rfl : j = 7 := Nat.le_antisymm hj hge
                have hkz := HK.out
                rw [tgK_at] at hkz
                have hRy := hR.keep hkr fun h => h
                have hXy := hX.keep hkr fun h => h
                have hVy := hV.keep hkr fun h => h
                have hSy := hS.keep hkr fun h => h
                have hOy : FlO wy w5.heap.size 44 1 encN (.slice a0 n0' q0) need := hO.no hkr
                have hky := hk.trans' hkr
                have hszy := Nat.le_trans hsz hkr.size
                clear hR hX hV hS hO hk hsz hkr
                cases htg : tagAt tag with
                | none =>
                  rw [htg] at hkz HRS4
                  obtain rfl : kz = -1 := hkz
                  have hr : r = (11, dy0) := HRS4.out
                  subst hr
                  go_wp2_with fail
                  refine (r05none_any (w := _)).mono ?_
                  rintro e we ⟨ge, rfl, hge1, hBe, hke⟩
                  have hRe := (hRy).keep hke fun h => h
                  have hlte := hRe.lt
                  go_wp2_with (with_reducible refine wl_stAgg rfl _ _ _ rfl _ _ rfl rfl ?_)
                  refine rg_stAgg hRe (by kernel_rfl) (by rfl) (by simp [Value.oneCell']) ?_
                  intro wf hBf hkf _
                  go_wp2_with fail
                  refine ret_blk_tmp rfl rfl hBf Tryz.underlying121 rfl (by kernel_rfl) rfl ?_
                  have hsz := (hky).size
                  have hrx := (hRy).lt
                  exact ⟨_, ge, rfl, FlO.nil, Nat.le_trans hsz hge1, hBe.keep hkf fun e => by have e2 : ge = w.heap.size := e; omega, ((hky).trans' hke).trans hkf fun j hj e => by have e2 : j = w.heap.size := e; omega⟩
                | some q =>
                  rw [htg] at hkz HRS4
                  obtain rfl : kz = (q : Int) := hkz
                  have hq7 := tagAt_lt htg
                  have hq7z : (q : Int) < 7 := by omega
                  have hq0 : (0 : Int) ≤ (q : Int) := by omega
                  have cs := (hSy.cell q).trans (boolA_at (by omega))
                  have hr : r = if seen.getD q false then (12, dy0) else dyGo b (n / 16 + 1 - (k + 1)) pn ⟨need, V.set q val⟩ (seen.set q true) := HRS4.out
                  generalize seen.getD q false = sq at *
                  have HG := Lib.hid hr
                  clear hr HRS4 HK
                  cases sq with
                  | true =>
                    have hr := HG.out
                    rw [if_pos rfl] at hr
                    subst hr
                    go_wp2_with fail
                    refine (r05none_any (w := _)).mono ?_
                    rintro e we ⟨ge, rfl, hge1, hBe, hke⟩
                    have hRe := (hRy).keep hke fun h => h
                    have hlte := hRe.lt
                    go_wp2_with (with_reducible refine wl_stAgg rfl _ _ _ rfl _ _ rfl rfl ?_)
                    refine rg_stAgg hRe (by kernel_rfl) (by rfl) (by simp [Value.oneCell']) ?_
                    intro wf hBf hkf _
                    go_wp2_with fail
                    refine ret_blk_tmp rfl rfl hBf Tryz.underlying121 rfl (by kernel_rfl) rfl ?_
                    have hsz := (hky).size
                    have hrx := (hRy).lt
                    exact ⟨_, ge, rfl, FlO.nil, Nat.le_trans hsz hge1, hBe.keep hkf fun e => by have e2 : ge = w.heap.size := e; omega, ((hky).trans' hke).trans hkf fun j hj e => by have e2 : j = w.heap.size := e; omega⟩
                  | false =>
                    have hr := HG.out
                    rw [if_neg (by decide)] at hr
                    have HG2 := Lib.hid hr
                    clear hr HG
                    have cv := (hVy.cell q).trans (nums7_at (by omega))
                    have fs := hSy.frozen q
                    have fv := hVy.frozen q
                    have cx1 : wy.cell? ⟨x, 1, none⟩ = some (.slice (some ⟨gv, 0, none⟩) 7 7) := hXy.cell 1
                    have hk5 : Keep (fun j => j = gs) wy (wy.setCell ⟨gs, q, none⟩ (.bool true)) := (Keep.refl (fun j => j = gs) wy).setCell (p := ⟨gs, q, none⟩) (fun _ => rfl) _
                    have hS5 := hSy.set (i := q) (.bool true)
                    rw [boolA_set] at hS5
                    have hX5 := hXy.keep hk5 fun e => n6 e
                    have hR5 := hRy.keep hk5 fun e => by have e2 : w.heap.size = gs := e; omega
                    have hV5 := hVy.keep hk5 fun e => n5 e
                    have hO5 := own_keep hOy hk5 fun j hj e => by have e2 : j = gs := e; omega
                    have hK5 : Keep No w _ := hky.trans hk5 fun j hj e => by have e2 : j = gs := e; omega
                    have hsz5 := Nat.le_trans hszy hk5.size
                    have HA := Lib.hid (And.intro hS5 (And.intro hX5 (And.intro hR5 (And.intro hV5 (And.intro hO5 (And.intro hK5 hsz5))))))
                    have cx5 := hX5.cell 1
                    have cv5 := (hV5.cell q).trans (nums7_at (by omega))
                    have fv5 := hV5.frozen q
                    clear hS5 hX5 hR5 hV5 hO5 hK5 hsz5 hk5 cv fv cx1
                    go_wp2_with fail
                    obtain ⟨hS5, hX5, hR5, hV5, hO5, hK5, hsz5⟩ := HA.out
                    generalize wy.setCell ⟨gs, q, none⟩ (.bool true) = w6 at *
                    have hk6 : Keep (fun j => j = gv) w6 (w6.setCell ⟨gv, q, none⟩ (.int .u64 (val : Int))) := (Keep.refl (fun j => j = gv) w6).setCell (p := ⟨gv, q, none⟩) (fun _ => rfl) _
                    have hV6 := hV5.set (i := q) (.int .u64 (val : Int))
                    rw [nums7_set] at hV6
                    generalize w6.setCell ⟨gv, q, none⟩ (.int .u64 (val : Int)) = w7 at *
                    clear HA cx5 cv5 fv5
                    go_roundw
                    case rel => exact ⟨k + 1, pn, _, need, V.set q val, seen.set q true, by go_num, HPK, hk1, HG2, by rw [List.length_set]; exact hV7, by rw [List.length_set]; exact hs7, Nat.le_succ_of_le hnl, hR5.keep hk6 (fun e => by have e2 : w.heap.size = gv := e; omega), hX5.keep hk6 (fun e => n4 e.symm), hV6, hS5.keep hk6 (fun e => n5 e.symm), own_keep hO5 hk6 (fun j hj e => by have e2 : j = gv := e; omega), Nat.le_trans hsz5 hk6.size, hK5.trans hk6 (fun j hj e => by have e2 : j = gv := e; omega)⟩
                    case measure =>
                      have := HME.out
                      simp [intOf]
                      exact this
end
end Go.Proofs.YtbnahidopemkiaaGreat
