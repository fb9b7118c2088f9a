/- The document's answer: the entries of an image as bytes. No condition. -/
import Derived.Test.YtbnahidopemkiaaGreatBu4
import Derived.Test.YtbnahidopemkiaaGreatDy1
set_option linter.unusedVariables false
set_option linter.unusedSimpArgs false
namespace Go.Dm.Ld
open Go Go.Dm.Oc
def tagsL : List Nat := [14, 5, 10, 6, 1610612749, 7, 8]
def skipI (V : List Nat) (i : Nat) : Bool := (decide (i = 0) && decide (V.getD i 0 = 0)) || (decide (i = 3 ∨ i = 4) && decide (V.getD 4 0 = 0)) || (decide (5 ≤ i) && decide (V.getD 6 0 = 0))
def entB (x y : Nat) : BS := le 8 x ++ le 8 y
def entI (V : List Nat) (i : Nat) : BS := if skipI V i then [] else entB (tagsL.getD i 0) (V.getD i 0)
def infoB (nd V : List Nat) : BS := nd.flatMap (entB 1) ++ (List.range 7).flatMap (entI V) ++ entB 0 0
end Go.Dm.Ld
namespace Go.Proofs.YtbnahidopemkiaaGreat
open Go.RowKit Go.Dm Go.Dm.Oc Go.Dm.Ld
section
variable {A : Nat → Prop} {base : Nat} {w : World} {v vn vv : Value} {l : List UInt8}
set_option maxHeartbeats 400000 in
theorem r05tags_any : Calls Tryz.prog 68 #[] w fun e w' => e = .returned (.slice (some ⟨w.heap.size, 0, none⟩) 7 7) ∧ w' = w.alloc (.cells #[.int .u64 14, .int .u64 5, .int .u64 10, .int .u64 6, .int .u64 1610612749, .int .u64 7, .int .u64 8] 44) := by
  go_enter Tryz.func68, Tryz.ntmps68
  go_wp2_with fail
  go_ret
  exact ⟨rfl, rfl⟩
theorem entB_len (x y : Nat) : (entB x y).length = 16 := by unfold entB; rw [List.length_append, le_len, le_len]
theorem ents_len (l : List Nat) (x : Nat) : (l.flatMap (entB x)).length = 16 * l.length := by
  induction l with
  | nil => rfl
  | cons a r ih => rw [List.flatMap_cons, List.length_append, ih, entB_len, List.length_cons]; omega
theorem entI_len (V : List Nat) (i : Nat) : (entI V i).length ≤ 16 := by
  unfold entI
  split
  · exact Nat.zero_le _
  · rw [entB_len]; exact Nat.le_refl _
theorem entIs_len (V : List Nat) (i : Nat) : ((List.range i).flatMap (entI V)).length ≤ 16 * i := by
  induction i with
  | zero => exact Nat.le_refl _
  | succ k ih =>
    rw [List.range_succ, List.flatMap_append, List.length_append, List.flatMap_singleton]
    have := entI_len V k
    omega
set_option maxRecDepth 100000 in
set_option maxHeartbeats 4000000 in
theorem r05put_any (nd V : List Nat) (hn : Fl A w 1 encN vn nd) (hv : Fl A w 1 encN vv V) (hV : V.length = 7) (hnd : nd.length ≤ 60000) (hn1 : ∀ x ∈ nd, x < 18446744073709551616) (hV1 : ∀ x ∈ V, x < 18446744073709551616) :
    Calls Tryz.prog 36 #[.agg #[vn, vv]] w fun e w' => ∃ v', e = .returned v' ∧ FlO w' w.heap.size 5 1 e8 v' (infoB nd V) ∧ Keep No w w' := by
  obtain ⟨x0, x1, x2, x3, x4, x5, x6, rfl⟩ : ∃ x0 x1 x2 x3 x4 x5 x6, V = [x0, x1, x2, x3, x4, x5, x6] := by
    match V, hV with
    | [x0, x1, x2, x3, x4, x5, x6], _ => exact ⟨x0, x1, x2, x3, x4, x5, x6, rfl⟩
  have HN := Lib.hid hn
  obtain ⟨an, cn, rfl, hn2, hn3⟩ := hn.shape
  obtain ⟨g1, off, cv, ev, _, hg1, _, _, _⟩ := hv.at (fun _ => rfl) (show 0 < [x0, x1, x2, x3, x4, x5, x6].length from Nat.zero_lt_succ _)
  subst ev
  have hc : ∀ j u, ([x0, x1, x2, x3, x4, x5, x6].flatMap encN)[j]? = some u → w.cell? ⟨g1, off + j, none⟩ = some u := by
    obtain ⟨_, a, cap, e, _, _, _, h⟩ := hv
    obtain ⟨g, o, e2, _, _, h2⟩ := h (by show 0 < 7; decide)
    cases e
    cases e2
    exact h2
  have HC := Lib.hid hc
  have HN1 := Lib.hid hn1
  have k0 := hV1 x0 (by simp)
  have k1 := hV1 x1 (by simp)
  have k2 := hV1 x2 (by simp)
  have k3 := hV1 x3 (by simp)
  have k4 := hV1 x4 (by simp)
  have k5 := hV1 x5 (by simp)
  have k6 := hV1 x6 (by simp)
  rw [show [x0, x1, x2, x3, x4, x5, x6].length = 7 from rfl]
  clear hn hv hV hn1 hV1 hn2 hn3 hc
  go_enter Tryz.func36, Tryz.ntmps36
  go_wp2_with fail
  have hkW : Keep No w (w.alloc (.cells #[.slice an nd.length cn, .slice (some ⟨g1, off, none⟩) 7 cv] 121)) := (Keep.refl _ _).alloc _
  have hBW : Blk (w.alloc (.cells #[.slice an nd.length cn, .slice (some ⟨g1, off, none⟩) 7 cv] 121)) w.heap.size #[.slice an nd.length cn, .slice (some ⟨g1, off, none⟩) 7 cv] 121 := Blk.new _ _ _
  have hzW : (w.alloc (.cells #[.slice an nd.length cn, .slice (some ⟨g1, off, none⟩) 7 cv] 121)).heap.size = w.heap.size + 1 := World.size_alloc _ _
  generalize w.alloc (.cells #[.slice an nd.length cn, .slice (some ⟨g1, off, none⟩) 7 cv] 121) = W at *
  have P0 : Pushed (w.heap.size + 1) W W (.slice none 0 0) (.slice none 0 0) (([] : List Nat).flatMap (entB 1)) := Pushed.refl FlO.nil
  have c0 := hBW.cell 0
  go_wp2_with fail
  go_loopw [3, 4] (fun ov iv wr => ∃ i : Nat, iv = .int .i64 (i : Int) ∧ i ≤ nd.length ∧ Pushed (w.heap.size + 1) W wr (.slice none 0 0) ov ((nd.take i).flatMap (entB 1))) (fun _ iv _ => nd.length - (intOf iv).toNat)
  case atStart => exact ⟨0, rfl, Nat.zero_le _, P0⟩
  case round =>
    obtain ⟨i, rfl, hi, hP⟩ := hrel
    clear P0 c0
    generalize wr = wy at *
    obtain ⟨a1, c1, e1, _, _⟩ := hP.row.fl.shape
    obtain ⟨n1, hn1⟩ : ∃ n1, n1 = ((nd.take i).flatMap (entB 1)).length := ⟨_, rfl⟩
    rw [← hn1] at e1
    subst e1
    have HN1' := Lib.hid hn1
    clear hn1
    have hB := hBW.keep hP.kept fun e => by cases e
    have hk := hkW.trans' (hP.no (w0 := W) (by omega) FlO.nil (Keep.refl _ _))
    have c0 := hB.cell 0
    have c1' := hB.cell 1
    rcases Nat.lt_or_ge i nd.length with hlt | hge
    · obtain ⟨g2, off2, cap, ev, _, _, _, _, hc⟩ := (HN.out.no hk).at (fun _ => rfl) hlt
      cases ev
      have d0 := hc 0 _ rfl
      rw [Nat.add_zero, Nat.mul_one] at d0
      have hiz : (i : Int) < (nd.length : Int) := by omega
      have hsz := hP.kept.size
      have hent := r05entry_any (w := wy) 1 nd[i] hP.row (by decide) (HN1.out _ (List.getElem_mem hlt)) (by omega) (by rw [ents_len, List.length_take]; omega)
      have htk : (nd.take i).flatMap (entB 1) ++ le 8 1 ++ le 8 nd[i] = (nd.take (i + 1)).flatMap (entB 1) := by
        rw [List.take_succ_eq_append_getElem hlt, List.flatMap_append, List.flatMap_singleton, List.append_assoc]
        rfl
      have HTK := Lib.hid htk
      clear htk hc
      generalize nd[i] = x at *
      go_wp2_with fail
      refine hent.mono ?_
      rintro e w2 ⟨v2, rfl, hp2⟩
      have hP2 := hP.trans hp2
      rw [HTK.out] at hP2
      obtain ⟨a2, n2, c2, rfl⟩ : ∃ a n c, v2 = .slice a n c := by
        obtain ⟨a, c, e, _⟩ := hp2.row.fl.shape
        exact ⟨_, _, _, e⟩
      clear hent hp2 hP d0 c0 c1'
      go_wp2_with fail
      go_roundw
      case rel => exact ⟨i + 1, by go_num, hlt, hP2⟩
      case measure => simp [intOf]; omega
    · obtain rfl : i = nd.length := Nat.le_antisymm hi hge
      rw [List.take_length] at hP
      have hP0 : Pushed (w.heap.size + 1) W wy (.slice none 0 0) (.slice a1 n1 c1) (nd.flatMap (entB 1) ++ (List.range 0).flatMap (entI [x0, x1, x2, x3, x4, x5, x6])) := by
        rw [List.range_zero, List.flatMap_nil, List.append_nil]; exact hP
      have hndl : (nd.flatMap (entB 1)).length ≤ 960000 := by rw [ents_len]; omega
      have HND := Lib.hid hndl
      clear hP hndl
      generalize hnds : nd.flatMap (entB 1) = nds at *
      have HNDS := Lib.hid hnds
      clear hnds
      rw [show ((nd.length : Nat) : Int) = ((nd.length : Nat) : Int) from rfl]
      go_wp2_with fail
      go_loopw [3, 5, 6] (fun ov iv _ wr => ∃ i : Nat, iv = .int .i64 (i : Int) ∧ i ≤ 7 ∧ Pushed (w.heap.size + 1) W wr (.slice none 0 0) ov (nds ++ (List.range i).flatMap (entI [x0, x1, x2, x3, x4, x5, x6]))) (fun _ iv _ _ => 7 - (intOf iv).toNat)
      case atStart => exact ⟨0, rfl, Nat.zero_le _, hP0⟩
      case round =>
        obtain ⟨i, rfl, hi, hP⟩ := hrel
        clear hP0 c0 c1' hB hk
        generalize wr = wz at *
        have hB := hBW.keep hP.kept fun e => by cases e
        have hk := hkW.trans' (hP.no (w0 := W) (by omega) FlO.nil (Keep.refl _ _))
        have c1 := hB.cell 1
        obtain ⟨a2, c2, e1, _, _⟩ := hP.row.fl.shape
        obtain ⟨n2, hn2⟩ : ∃ n2, n2 = (nds ++ (List.range i).flatMap (entI [x0, x1, x2, x3, x4, x5, x6])).length := ⟨_, rfl⟩
        have hlen : (nds ++ (List.range i).flatMap (entI [x0, x1, x2, x3, x4, x5, x6])).length ≤ 1000000 := by
          rw [List.length_append]
          have h1 := entIs_len [x0, x1, x2, x3, x4, x5, x6] i
          have h2 := HND.out
          omega
        rw [← hn2] at e1
        subst e1
        have HN2 := Lib.hid hn2
        have HLEN := Lib.hid hlen
        clear hn2 hlen
        have hcc : ∀ j u, ([x0, x1, x2, x3, x4, x5, x6].flatMap encN)[j]? = some u → wz.cell? ⟨g1, off + j, none⟩ = some u := fun j u hu => (hk.cell (p := ⟨g1, off + j, none⟩) hg1 fun h => h).trans (HC.out j u hu)
        have d0 := hcc 0 _ rfl
        have d1 := hcc 1 _ rfl
        have d2 := hcc 2 _ rfl
        have d3 := hcc 3 _ rfl
        have d4 := hcc 4 _ rfl
        have d5 := hcc 5 _ rfl
        have d6 := hcc 6 _ rfl
        rw [Nat.add_zero] at d0
        have HST : ∀ {T}, T = entI [x0, x1, x2, x3, x4, x5, x6] i → nds ++ (List.range i).flatMap (entI [x0, x1, x2, x3, x4, x5, x6]) ++ T = nds ++ (List.range (i + 1)).flatMap (entI [x0, x1, x2, x3, x4, x5, x6]) := fun hT => by
          rw [List.range_succ, List.flatMap_append, List.flatMap_singleton, hT, List.append_assoc]
        clear hcc
        have hcases : i = 7 ∨ i = 0 ∨ i = 1 ∨ i = 2 ∨ i = 3 ∨ i = 4 ∨ i = 5 ∨ i = 6 := by omega
        rcases hcases with rfl | rfl | rfl | rfl | rfl | rfl | rfl | rfl
        · rw [show (((7 : Nat) : Int)) = 7 from rfl]
          have hsz := hP.kept.size
          have hent := r05entry_any (w := wz) 0 0 hP.row (by decide) (by decide) (by omega) HLEN.out
          go_wp2_with fail
          refine hent.mono ?_
          rintro e w2 ⟨v2, rfl, hp2⟩
          have hP3 := hP.trans hp2
          have hfin : infoB nd [x0, x1, x2, x3, x4, x5, x6] = nds ++ (List.range 7).flatMap (entI [x0, x1, x2, x3, x4, x5, x6]) ++ le 8 0 ++ le 8 0 := by
            unfold infoB
            rw [HNDS.out]
            show _ ++ _ ++ (le 8 0 ++ le 8 0) = _
            rw [← List.append_assoc]
          rw [← hfin] at hP3
          clear hfin hent
          go_wp2_with fail
          go_ret
          exact ⟨_, rfl, own_base hP3.row (Nat.le_succ _), hkW.trans' (hP3.no (w0 := W) (by omega) FlO.nil (Keep.refl _ _))⟩
        · rw [show (((0 : Nat) : Int)) = 0 from rfl]
          rcases Nat.eq_zero_or_pos x0 with hz | hz
          · have hz2 : ((x0 : Int) == 0) = true := by simp [hz]
            have hP3 : Pushed (w.heap.size + 1) W wz (.slice none 0 0) (.slice a2 n2 c2) (nds ++ (List.range 1).flatMap (entI [x0, x1, x2, x3, x4, x5, x6])) := by
              rw [← HST (T := []) (by
                unfold entI
                rw [if_pos (by simp [skipI, hz])]), List.append_nil]
              exact hP
            go_wp2_with fail
            go_roundw
            case rel => exact ⟨1, by go_num, by decide, hP3⟩
            case measure => simp [intOf]
          · have hz2 : ((x0 : Int) == 0) = false := by rw [beq_eq_false_iff_ne]; omega
            have hz3 : x0 ≠ 0 := by omega
            go_wp2_with fail
            refine r05tags_any.mono ?_
            rintro e wt ⟨rfl, rfl⟩
            have hkt : Keep No wz (wz.alloc (.cells #[.int .u64 14, .int .u64 5, .int .u64 10, .int .u64 6, .int .u64 1610612749, .int .u64 7, .int .u64 8] 44)) := (Keep.refl _ _).alloc _
            have hBT : Blk (wz.alloc (.cells #[.int .u64 14, .int .u64 5, .int .u64 10, .int .u64 6, .int .u64 1610612749, .int .u64 7, .int .u64 8] 44)) wz.heap.size #[.int .u64 14, .int .u64 5, .int .u64 10, .int .u64 6, .int .u64 1610612749, .int .u64 7, .int .u64 8] 44 := Blk.new _ _ _
            have hP2 := hP.trans ⟨hP.row.no hkt, hkt.mono (fun _ _ h => h.elim), .inl rfl⟩
            generalize wz.alloc (.cells #[.int .u64 14, .int .u64 5, .int .u64 10, .int .u64 6, .int .u64 1610612749, .int .u64 7, .int .u64 8] 44) = wt at *
            have t0 := hBT.cell 0
            have hsz := hP2.kept.size
            go_wp2_with fail
            have hent := r05entry_any (w := wt) 14 x0 hP2.row (by decide) k0 (by omega) HLEN.out
            refine hent.mono ?_
            rintro e w2 ⟨v2, rfl, hp2⟩
            have hP3 := hP2.trans hp2
            rw [List.append_assoc, HST (show le 8 14 ++ le 8 x0 = entI [x0, x1, x2, x3, x4, x5, x6] 0 from by
              unfold entI
              rw [if_neg (by simp [skipI, hz3])]
              rfl)] at hP3
            obtain ⟨a4, n4, c4, rfl⟩ : ∃ a n c, v2 = .slice a n c := by
              obtain ⟨a, c, e, _⟩ := hp2.row.fl.shape
              exact ⟨_, _, _, e⟩
            clear hent hp2 hP2 t0 hBT hkt hsz
            go_wp2_with fail
            go_roundw
            case rel => exact ⟨1, by go_num, by decide, hP3⟩
            case measure => simp [intOf]
        · rw [show (((1 : Nat) : Int)) = 1 from rfl]
          go_wp2_with fail
          refine r05tags_any.mono ?_
          rintro e wt ⟨rfl, rfl⟩
          have hkt : Keep No wz (wz.alloc (.cells #[.int .u64 14, .int .u64 5, .int .u64 10, .int .u64 6, .int .u64 1610612749, .int .u64 7, .int .u64 8] 44)) := (Keep.refl _ _).alloc _
          have hBT : Blk (wz.alloc (.cells #[.int .u64 14, .int .u64 5, .int .u64 10, .int .u64 6, .int .u64 1610612749, .int .u64 7, .int .u64 8] 44)) wz.heap.size #[.int .u64 14, .int .u64 5, .int .u64 10, .int .u64 6, .int .u64 1610612749, .int .u64 7, .int .u64 8] 44 := Blk.new _ _ _
          have hP2 := hP.trans ⟨hP.row.no hkt, hkt.mono (fun _ _ h => h.elim), .inl rfl⟩
          generalize wz.alloc (.cells #[.int .u64 14, .int .u64 5, .int .u64 10, .int .u64 6, .int .u64 1610612749, .int .u64 7, .int .u64 8] 44) = wt at *
          have t0 := hBT.cell 1
          have hsz := hP2.kept.size
          go_wp2_with fail
          have hent := r05entry_any (w := wt) 5 x1 hP2.row (by decide) k1 (by omega) HLEN.out
          refine hent.mono ?_
          rintro e w2 ⟨v2, rfl, hp2⟩
          have hP3 := hP2.trans hp2
          rw [List.append_assoc, HST (show le 8 5 ++ le 8 x1 = entI [x0, x1, x2, x3, x4, x5, x6] 1 from by
            unfold entI
            rw [if_neg (by simp [skipI])]
            rfl)] at hP3
          obtain ⟨a4, n4, c4, rfl⟩ : ∃ a n c, v2 = .slice a n c := by
            obtain ⟨a, c, e, _⟩ := hp2.row.fl.shape
            exact ⟨_, _, _, e⟩
          clear hent hp2 hP2 t0 hBT hkt hsz
          go_wp2_with fail
          go_roundw
          case rel => exact ⟨2, by go_num, by decide, hP3⟩
          case measure => simp [intOf]
        · rw [show (((2 : Nat) : Int)) = 2 from rfl]
          go_wp2_with fail
          refine r05tags_any.mono ?_
          rintro e wt ⟨rfl, rfl⟩
          have hkt : Keep No wz (wz.alloc (.cells #[.int .u64 14, .int .u64 5, .int .u64 10, .int .u64 6, .int .u64 1610612749, .int .u64 7, .int .u64 8] 44)) := (Keep.refl _ _).alloc _
          have hBT : Blk (wz.alloc (.cells #[.int .u64 14, .int .u64 5, .int .u64 10, .int .u64 6, .int .u64 1610612749, .int .u64 7, .int .u64 8] 44)) wz.heap.size #[.int .u64 14, .int .u64 5, .int .u64 10, .int .u64 6, .int .u64 1610612749, .int .u64 7, .int .u64 8] 44 := Blk.new _ _ _
          have hP2 := hP.trans ⟨hP.row.no hkt, hkt.mono (fun _ _ h => h.elim), .inl rfl⟩
          generalize wz.alloc (.cells #[.int .u64 14, .int .u64 5, .int .u64 10, .int .u64 6, .int .u64 1610612749, .int .u64 7, .int .u64 8] 44) = wt at *
          have t0 := hBT.cell 2
          have hsz := hP2.kept.size
          go_wp2_with fail
          have hent := r05entry_any (w := wt) 10 x2 hP2.row (by decide) k2 (by omega) HLEN.out
          refine hent.mono ?_
          rintro e w2 ⟨v2, rfl, hp2⟩
          have hP3 := hP2.trans hp2
          rw [List.append_assoc, HST (show le 8 10 ++ le 8 x2 = entI [x0, x1, x2, x3, x4, x5, x6] 2 from by
            unfold entI
            rw [if_neg (by simp [skipI])]
            rfl)] at hP3
          obtain ⟨a4, n4, c4, rfl⟩ : ∃ a n c, v2 = .slice a n c := by
            obtain ⟨a, c, e, _⟩ := hp2.row.fl.shape
            exact ⟨_, _, _, e⟩
          clear hent hp2 hP2 t0 hBT hkt hsz
          go_wp2_with fail
          go_roundw
          case rel => exact ⟨3, by go_num, by decide, hP3⟩
          case measure => simp [intOf]
        · rw [show (((3 : Nat) : Int)) = 3 from rfl]
          rcases Nat.eq_zero_or_pos x4 with hz | hz
          · have hz2 : ((x4 : Int) == 0) = true := by simp [hz]
            have hP3 : Pushed (w.heap.size + 1) W wz (.slice none 0 0) (.slice a2 n2 c2) (nds ++ (List.range 4).flatMap (entI [x0, x1, x2, x3, x4, x5, x6])) := by
              rw [← HST (T := []) (by
                unfold entI
                rw [if_pos (by simp [skipI, hz])]), List.append_nil]
              exact hP
            go_wp2_with fail
            go_roundw
            case rel => exact ⟨4, by go_num, by decide, hP3⟩
            case measure => simp [intOf]
          · have hz2 : ((x4 : Int) == 0) = false := by rw [beq_eq_false_iff_ne]; omega
            have hz3 : x4 ≠ 0 := by omega
            go_wp2_with fail
            refine r05tags_any.mono ?_
            rintro e wt ⟨rfl, rfl⟩
            have hkt : Keep No wz (wz.alloc (.cells #[.int .u64 14, .int .u64 5, .int .u64 10, .int .u64 6, .int .u64 1610612749, .int .u64 7, .int .u64 8] 44)) := (Keep.refl _ _).alloc _
            have hBT : Blk (wz.alloc (.cells #[.int .u64 14, .int .u64 5, .int .u64 10, .int .u64 6, .int .u64 1610612749, .int .u64 7, .int .u64 8] 44)) wz.heap.size #[.int .u64 14, .int .u64 5, .int .u64 10, .int .u64 6, .int .u64 1610612749, .int .u64 7, .int .u64 8] 44 := Blk.new _ _ _
            have hP2 := hP.trans ⟨hP.row.no hkt, hkt.mono (fun _ _ h => h.elim), .inl rfl⟩
            generalize wz.alloc (.cells #[.int .u64 14, .int .u64 5, .int .u64 10, .int .u64 6, .int .u64 1610612749, .int .u64 7, .int .u64 8] 44) = wt at *
            have t0 := hBT.cell 3
            have hsz := hP2.kept.size
            go_wp2_with fail
            have hent := r05entry_any (w := wt) 6 x3 hP2.row (by decide) k3 (by omega) HLEN.out
            refine hent.mono ?_
            rintro e w2 ⟨v2, rfl, hp2⟩
            have hP3 := hP2.trans hp2
            rw [List.append_assoc, HST (show le 8 6 ++ le 8 x3 = entI [x0, x1, x2, x3, x4, x5, x6] 3 from by
              unfold entI
              rw [if_neg (by simp [skipI, hz3])]
              rfl)] at hP3
            obtain ⟨a4, n4, c4, rfl⟩ : ∃ a n c, v2 = .slice a n c := by
              obtain ⟨a, c, e, _⟩ := hp2.row.fl.shape
              exact ⟨_, _, _, e⟩
            clear hent hp2 hP2 t0 hBT hkt hsz
            go_wp2_with fail
            go_roundw
            case rel => exact ⟨4, by go_num, by decide, hP3⟩
            case measure => simp [intOf]
        · rw [show (((4 : Nat) : Int)) = 4 from rfl]
          rcases Nat.eq_zero_or_pos x4 with hz | hz
          · have hz2 : ((x4 : Int) == 0) = true := by simp [hz]
            have hP3 : Pushed (w.heap.size + 1) W wz (.slice none 0 0) (.slice a2 n2 c2) (nds ++ (List.range 5).flatMap (entI [x0, x1, x2, x3, x4, x5, x6])) := by
              rw [← HST (T := []) (by
                unfold entI
                rw [if_pos (by simp [skipI, hz])]), List.append_nil]
              exact hP
            go_wp2_with fail
            go_roundw
            case rel => exact ⟨5, by go_num, by decide, hP3⟩
            case measure => simp [intOf]
          · have hz2 : ((x4 : Int) == 0) = false := by rw [beq_eq_false_iff_ne]; omega
            have hz3 : x4 ≠ 0 := by omega
            go_wp2_with fail
            refine r05tags_any.mono ?_
            rintro e wt ⟨rfl, rfl⟩
            have hkt : Keep No wz (wz.alloc (.cells #[.int .u64 14, .int .u64 5, .int .u64 10, .int .u64 6, .int .u64 1610612749, .int .u64 7, .int .u64 8] 44)) := (Keep.refl _ _).alloc _
            have hBT : Blk (wz.alloc (.cells #[.int .u64 14, .int .u64 5, .int .u64 10, .int .u64 6, .int .u64 1610612749, .int .u64 7, .int .u64 8] 44)) wz.heap.size #[.int .u64 14, .int .u64 5, .int .u64 10, .int .u64 6, .int .u64 1610612749, .int .u64 7, .int .u64 8] 44 := Blk.new _ _ _
            have hP2 := hP.trans ⟨hP.row.no hkt, hkt.mono (fun _ _ h => h.elim), .inl rfl⟩
            generalize wz.alloc (.cells #[.int .u64 14, .int .u64 5, .int .u64 10, .int .u64 6, .int .u64 1610612749, .int .u64 7, .int .u64 8] 44) = wt at *
            have t0 := hBT.cell 4
            have hsz := hP2.kept.size
            go_wp2_with fail
            have hent := r05entry_any (w := wt) 1610612749 x4 hP2.row (by decide) k4 (by omega) HLEN.out
            refine hent.mono ?_
            rintro e w2 ⟨v2, rfl, hp2⟩
            have hP3 := hP2.trans hp2
            rw [List.append_assoc, HST (show le 8 1610612749 ++ le 8 x4 = entI [x0, x1, x2, x3, x4, x5, x6] 4 from by
              unfold entI
              rw [if_neg (by simp [skipI, hz3])]
              rfl)] at hP3
            obtain ⟨a4, n4, c4, rfl⟩ : ∃ a n c, v2 = .slice a n c := by
              obtain ⟨a, c, e, _⟩ := hp2.row.fl.shape
              exact ⟨_, _, _, e⟩
            clear hent hp2 hP2 t0 hBT hkt hsz
            go_wp2_with fail
            go_roundw
            case rel => exact ⟨5, by go_num, by decide, hP3⟩
            case measure => simp [intOf]
        · rw [show (((5 : Nat) : Int)) = 5 from rfl]
          rcases Nat.eq_zero_or_pos x6 with hz | hz
          · have hz2 : ((x6 : Int) == 0) = true := by simp [hz]
            have hP3 : Pushed (w.heap.size + 1) W wz (.slice none 0 0) (.slice a2 n2 c2) (nds ++ (List.range 6).flatMap (entI [x0, x1, x2, x3, x4, x5, x6])) := by
              rw [← HST (T := []) (by
                unfold entI
                rw [if_pos (by simp [skipI, hz])]), List.append_nil]
              exact hP
            go_wp2_with fail
            go_roundw
            case rel => exact ⟨6, by go_num, by decide, hP3⟩
            case measure => simp [intOf]
          · have hz2 : ((x6 : Int) == 0) = false := by rw [beq_eq_false_iff_ne]; omega
            have hz3 : x6 ≠ 0 := by omega
            go_wp2_with fail
            refine r05tags_any.mono ?_
            rintro e wt ⟨rfl, rfl⟩
            have hkt : Keep No wz (wz.alloc (.cells #[.int .u64 14, .int .u64 5, .int .u64 10, .int .u64 6, .int .u64 1610612749, .int .u64 7, .int .u64 8] 44)) := (Keep.refl _ _).alloc _
            have hBT : Blk (wz.alloc (.cells #[.int .u64 14, .int .u64 5, .int .u64 10, .int .u64 6, .int .u64 1610612749, .int .u64 7, .int .u64 8] 44)) wz.heap.size #[.int .u64 14, .int .u64 5, .int .u64 10, .int .u64 6, .int .u64 1610612749, .int .u64 7, .int .u64 8] 44 := Blk.new _ _ _
            have hP2 := hP.trans ⟨hP.row.no hkt, hkt.mono (fun _ _ h => h.elim), .inl rfl⟩
            generalize wz.alloc (.cells #[.int .u64 14, .int .u64 5, .int .u64 10, .int .u64 6, .int .u64 1610612749, .int .u64 7, .int .u64 8] 44) = wt at *
            have t0 := hBT.cell 5
            have hsz := hP2.kept.size
            go_wp2_with fail
            have hent := r05entry_any (w := wt) 7 x5 hP2.row (by decide) k5 (by omega) HLEN.out
            refine hent.mono ?_
            rintro e w2 ⟨v2, rfl, hp2⟩
            have hP3 := hP2.trans hp2
            rw [List.append_assoc, HST (show le 8 7 ++ le 8 x5 = entI [x0, x1, x2, x3, x4, x5, x6] 5 from by
              unfold entI
              rw [if_neg (by simp [skipI, hz3])]
              rfl)] at hP3
            obtain ⟨a4, n4, c4, rfl⟩ : ∃ a n c, v2 = .slice a n c := by
              obtain ⟨a, c, e, _⟩ := hp2.row.fl.shape
              exact ⟨_, _, _, e⟩
            clear hent hp2 hP2 t0 hBT hkt hsz
            go_wp2_with fail
            go_roundw
            case rel => exact ⟨6, by go_num, by decide, hP3⟩
            case measure => simp [intOf]
        · rw [show (((6 : Nat) : Int)) = 6 from rfl]
          rcases Nat.eq_zero_or_pos x6 with hz | hz
          · have hz2 : ((x6 : Int) == 0) = true := by simp [hz]
            have hP3 : Pushed (w.heap.size + 1) W wz (.slice none 0 0) (.slice a2 n2 c2) (nds ++ (List.range 7).flatMap (entI [x0, x1, x2, x3, x4, x5, x6])) := by
              rw [← HST (T := []) (by
                unfold entI
                rw [if_pos (by simp [skipI, hz])]), List.append_nil]
              exact hP
            go_wp2_with fail
            go_roundw
            case rel => exact ⟨7, by go_num, by decide, hP3⟩
            case measure => simp [intOf]
          · have hz2 : ((x6 : Int) == 0) = false := by rw [beq_eq_false_iff_ne]; omega
            have hz3 : x6 ≠ 0 := by omega
            go_wp2_with fail
            refine r05tags_any.mono ?_
            rintro e wt ⟨rfl, rfl⟩
            have hkt : Keep No wz (wz.alloc (.cells #[.int .u64 14, .int .u64 5, .int .u64 10, .int .u64 6, .int .u64 1610612749, .int .u64 7, .int .u64 8] 44)) := (Keep.refl _ _).alloc _
            have hBT : Blk (wz.alloc (.cells #[.int .u64 14, .int .u64 5, .int .u64 10, .int .u64 6, .int .u64 1610612749, .int .u64 7, .int .u64 8] 44)) wz.heap.size #[.int .u64 14, .int .u64 5, .int .u64 10, .int .u64 6, .int .u64 1610612749, .int .u64 7, .int .u64 8] 44 := Blk.new _ _ _
            have hP2 := hP.trans ⟨hP.row.no hkt, hkt.mono (fun _ _ h => h.elim), .inl rfl⟩
            generalize wz.alloc (.cells #[.int .u64 14, .int .u64 5, .int .u64 10, .int .u64 6, .int .u64 1610612749, .int .u64 7, .int .u64 8] 44) = wt at *
            have t0 := hBT.cell 6
            have hsz := hP2.kept.size
            go_wp2_with fail
            have hent := r05entry_any (w := wt) 8 x6 hP2.row (by decide) k6 (by omega) HLEN.out
            refine hent.mono ?_
            rintro e w2 ⟨v2, rfl, hp2⟩
            have hP3 := hP2.trans hp2
            rw [List.append_assoc, HST (show le 8 8 ++ le 8 x6 = entI [x0, x1, x2, x3, x4, x5, x6] 6 from by
              unfold entI
              rw [if_neg (by simp [skipI, hz3])]
              rfl)] at hP3
            obtain ⟨a4, n4, c4, rfl⟩ : ∃ a n c, v2 = .slice a n c := by
              obtain ⟨a, c, e, _⟩ := hp2.row.fl.shape
              exact ⟨_, _, _, e⟩
            clear hent hp2 hP2 t0 hBT hkt hsz
            go_wp2_with fail
            go_roundw
            case rel => exact ⟨7, by go_num, by decide, hP3⟩
            case measure => simp [intOf]
end
end Go.Proofs.YtbnahidopemkiaaGreat
