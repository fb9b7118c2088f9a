/- The document's answer: the entries of an image as bytes. segs: Place. symbols: Defined, Bind, Kind, may, Check. No condition. -/
import Derived.Test.YtbnahidopemkiaaIns
import Derived.Test.YtbnahidopemkiaaDy1
import Derived.Test.YtbnahidopemkiaaApZ
import Derived.Test.YtbnahidopemkiaaSy4
set_option linter.unusedVariables false
set_option linter.unusedSimpArgs false
namespace Go.Dm.Ld
open Go Go.Dm.Oc
def tagsL : List Nat := [14, 5, 10, 6, 1610612749, 7, 8]
def skipI (V : List Nat) (i : Nat) : Bool := (decide (i = 0) && decide (V.getD i 0 = 0)) || (decide (i = 3 ∨ i = 4) && decide (V.getD 4 0 = 0)) || (decide (5 ≤ i) && decide (V.getD 6 0 = 0))
def entB (x y : Nat) : BS := le 8 x ++ le 8 y
def entI (V : List Nat) (i : Nat) : BS := if skipI V i then [] else entB (tagsL.getD i 0) (V.getD i 0)
def infoB (nd V : List Nat) : BS := nd.flatMap (entB 1) ++ (List.range 7).flatMap (entI V) ++ entB 0 0
end Go.Dm.Ld
namespace Go.Proofs.Ytbnahidopemkiaa
open Go.RowKit Go.Dm Go.Dm.Oc Go.Dm.Ld
section
variable {A : Nat → Prop} {base : Nat} {w : World} {v vn vv : Value} {l : List UInt8}
set_option maxHeartbeats 400000 in
theorem r05tags_any : Calls Try.prog 54 #[] w fun e w' => e = .returned (.slice (some ⟨w.heap.size, 0, none⟩) 7 7) ∧ w' = w.alloc (.cells #[.int .u64 14, .int .u64 5, .int .u64 10, .int .u64 6, .int .u64 1610612749, .int .u64 7, .int .u64 8] 34) := by
  go_enter Try.func54, Try.ntmps54
  go_wp2_with fail
  go_ret
  exact ⟨rfl, rfl⟩
theorem entB_len (x y : Nat) : (entB x y).length = 16 := by unfold entB; rw [List.length_append, le_len, le_len]
theorem ents_len (l : List Nat) (x : Nat) : (l.flatMap (entB x)).length = 16 * l.length := by
  induction l with
  | nil => rfl
  | cons a r ih => rw [List.flatMap_cons, List.length_append, ih, entB_len, List.length_cons]; omega
theorem entI_len (V : List Nat) (i : Nat) : (entI V i).length ≤ 16 := by
  unfold entI
  split
  · exact Nat.zero_le _
  · rw [entB_len]; exact Nat.le_refl _
theorem entIs_len (V : List Nat) (i : Nat) : ((List.range i).flatMap (entI V)).length ≤ 16 * i := by
  induction i with
  | zero => exact Nat.le_refl _
  | succ k ih =>
    rw [List.range_succ, List.flatMap_append, List.length_append, List.flatMap_singleton]
    have := entI_len V k
    omega
set_option maxRecDepth 100000 in
set_option maxHeartbeats 4000000 in
theorem r05put_any (nd V : List Nat) (hn : Fl A w 1 encN vn nd) (hv : Fl A w 1 encN vv V) (hV : V.length = 7) (hnd : nd.length ≤ 60000) (hn1 : ∀ x ∈ nd, x < 18446744073709551616) (hV1 : ∀ x ∈ V, x < 18446744073709551616) :
    Calls Try.prog 30 #[.agg #[vn, vv]] w fun e w' => ∃ v', e = .returned v' ∧ FlO w' w.heap.size 5 1 e8 v' (infoB nd V) ∧ Keep No w w' := by
  obtain ⟨x0, x1, x2, x3, x4, x5, x6, rfl⟩ : ∃ x0 x1 x2 x3 x4 x5 x6, V = [x0, x1, x2, x3, x4, x5, x6] := by
    match V, hV with
    | [x0, x1, x2, x3, x4, x5, x6], _ => exact ⟨x0, x1, x2, x3, x4, x5, x6, rfl⟩
  have HN := Lib.hid hn
  obtain ⟨an, cn, rfl, hn2, hn3⟩ := hn.shape
  obtain ⟨g1, off, cv, ev, _, hg1, _, _, _⟩ := hv.at (fun _ => rfl) (show 0 < [x0, x1, x2, x3, x4, x5, x6].length from Nat.zero_lt_succ _)
  subst ev
  have hc : ∀ j u, ([x0, x1, x2, x3, x4, x5, x6].flatMap encN)[j]? = some u → w.cell? ⟨g1, off + j, none⟩ = some u := by
    obtain ⟨_, a, cap, e, _, _, _, h⟩ := hv
    obtain ⟨g, o, e2, _, _, h2⟩ := h (by show 0 < 7; decide)
    cases e
    cases e2
    exact h2
  have HC := Lib.hid hc
  have HN1 := Lib.hid hn1
  have k0 := hV1 x0 (by simp)
  have k1 := hV1 x1 (by simp)
  have k2 := hV1 x2 (by simp)
  have k3 := hV1 x3 (by simp)
  have k4 := hV1 x4 (by simp)
  have k5 := hV1 x5 (by simp)
  have k6 := hV1 x6 (by simp)
  rw [show [x0, x1, x2, x3, x4, x5, x6].length = 7 from rfl]
  clear hn hv hV hn1 hV1 hn2 hn3 hc
  go_enter Try.func30, Try.ntmps30
  go_wp2_with fail
  have hkW : Keep No w (w.alloc (.cells #[.slice an nd.length cn, .slice (some ⟨g1, off, none⟩) 7 cv] 97)) := (Keep.refl _ _).alloc _
  have hBW : Blk (w.alloc (.cells #[.slice an nd.length cn, .slice (some ⟨g1, off, none⟩) 7 cv] 97)) w.heap.size #[.slice an nd.length cn, .slice (some ⟨g1, off, none⟩) 7 cv] 97 := Blk.new _ _ _
  have hzW : (w.alloc (.cells #[.slice an nd.length cn, .slice (some ⟨g1, off, none⟩) 7 cv] 97)).heap.size = w.heap.size + 1 := World.size_alloc _ _
  generalize w.alloc (.cells #[.slice an nd.length cn, .slice (some ⟨g1, off, none⟩) 7 cv] 97) = W at *
  have P0 : Pushed (w.heap.size + 1) W W (.slice none 0 0) (.slice none 0 0) (([] : List Nat).flatMap (entB 1)) := Pushed.refl FlO.nil
  have c0 := hBW.cell 0
  go_wp2_with fail
  go_loopw [3, 4] (fun ov iv wr => ∃ i : Nat, iv = .int .i64 (i : Int) ∧ i ≤ nd.length ∧ Pushed (w.heap.size + 1) W wr (.slice none 0 0) ov ((nd.take i).flatMap (entB 1))) (fun _ iv _ => nd.length - (intOf iv).toNat)
  case atStart => exact ⟨0, rfl, Nat.zero_le _, P0⟩
  case round =>
    obtain ⟨i, rfl, hi, hP⟩ := hrel
    clear P0 c0
    generalize wr = wy at *
    obtain ⟨a1, c1, e1, _, _⟩ := hP.row.fl.shape
    obtain ⟨n1, hn1⟩ : ∃ n1, n1 = ((nd.take i).flatMap (entB 1)).length := ⟨_, rfl⟩
    rw [← hn1] at e1
    subst e1
    have HN1' := Lib.hid hn1
    clear hn1
    have hB := hBW.keep hP.kept fun e => by cases e
    have hk := hkW.trans' (hP.no (w0 := W) (by omega) FlO.nil (Keep.refl _ _))
    have c0 := hB.cell 0
    have c1' := hB.cell 1
    rcases Nat.lt_or_ge i nd.length with hlt | hge
    · obtain ⟨g2, off2, cap, ev, _, _, _, _, hc⟩ := (HN.out.no hk).at (fun _ => rfl) hlt
      cases ev
      have d0 := hc 0 _ rfl
      rw [Nat.add_zero, Nat.mul_one] at d0
      have hiz : (i : Int) < (nd.length : Int) := by omega
      have hsz := hP.kept.size
      have hent := r05entry_any (w := wy) 1 nd[i] hP.row (by decide) (HN1.out _ (List.getElem_mem hlt)) (by omega) (by rw [ents_len, List.length_take]; omega)
      have htk : (nd.take i).flatMap (entB 1) ++ le 8 1 ++ le 8 nd[i] = (nd.take (i + 1)).flatMap (entB 1) := by
        rw [List.take_succ_eq_append_getElem hlt, List.flatMap_append, List.flatMap_singleton, List.append_assoc]
        rfl
      have HTK := Lib.hid htk
      clear htk hc
      generalize nd[i] = x at *
      go_wp2_with fail
      refine hent.mono ?_
      rintro e w2 ⟨v2, rfl, hp2⟩
      have hP2 := hP.trans hp2
      rw [HTK.out] at hP2
      obtain ⟨a2, n2, c2, rfl⟩ : ∃ a n c, v2 = .slice a n c := by
        obtain ⟨a, c, e, _⟩ := hp2.row.fl.shape
        exact ⟨_, _, _, e⟩
      clear hent hp2 hP d0 c0 c1'
      go_wp2_with fail
      go_roundw
      case rel => exact ⟨i + 1, by go_num, hlt, hP2⟩
      case measure => simp [intOf]; omega
    · obtain rfl : i = nd.length := Nat.le_antisymm hi hge
      rw [List.take_length] at hP
      have hP0 : Pushed (w.heap.size + 1) W wy (.slice none 0 0) (.slice a1 n1 c1) (nd.flatMap (entB 1) ++ (List.range 0).flatMap (entI [x0, x1, x2, x3, x4, x5, x6])) := by
        rw [List.range_zero, List.flatMap_nil, List.append_nil]; exact hP
      have hndl : (nd.flatMap (entB 1)).length ≤ 960000 := by rw [ents_len]; omega
      have HND := Lib.hid hndl
      clear hP hndl
      generalize hnds : nd.flatMap (entB 1) = nds at *
      have HNDS := Lib.hid hnds
      clear hnds
      rw [show ((nd.length : Nat) : Int) = ((nd.length : Nat) : Int) from rfl]
      go_wp2_with fail
      go_loopw [3, 5, 6] (fun ov iv _ wr => ∃ i : Nat, iv = .int .i64 (i : Int) ∧ i ≤ 7 ∧ Pushed (w.heap.size + 1) W wr (.slice none 0 0) ov (nds ++ (List.range i).flatMap (entI [x0, x1, x2, x3, x4, x5, x6]))) (fun _ iv _ _ => 7 - (intOf iv).toNat)
      case atStart => exact ⟨0, rfl, Nat.zero_le _, hP0⟩
      case round =>
        obtain ⟨i, rfl, hi, hP⟩ := hrel
        clear hP0 c0 c1' hB hk
        generalize wr = wz at *
        have hB := hBW.keep hP.kept fun e => by cases e
        have hk := hkW.trans' (hP.no (w0 := W) (by omega) FlO.nil (Keep.refl _ _))
        have c1 := hB.cell 1
        obtain ⟨a2, c2, e1, _, _⟩ := hP.row.fl.shape
        obtain ⟨n2, hn2⟩ : ∃ n2, n2 = (nds ++ (List.range i).flatMap (entI [x0, x1, x2, x3, x4, x5, x6])).length := ⟨_, rfl⟩
        have hlen : (nds ++ (List.range i).flatMap (entI [x0, x1, x2, x3, x4, x5, x6])).length ≤ 1000000 := by
          rw [List.length_append]
          have h1 := entIs_len [x0, x1, x2, x3, x4, x5, x6] i
          have h2 := HND.out
          omega
        rw [← hn2] at e1
        subst e1
        have HN2 := Lib.hid hn2
        have HLEN := Lib.hid hlen
        clear hn2 hlen
        have hcc : ∀ j u, ([x0, x1, x2, x3, x4, x5, x6].flatMap encN)[j]? = some u → wz.cell? ⟨g1, off + j, none⟩ = some u := fun j u hu => (hk.cell (p := ⟨g1, off + j, none⟩) hg1 fun h => h).trans (HC.out j u hu)
        have d0 := hcc 0 _ rfl
        have d1 := hcc 1 _ rfl
        have d2 := hcc 2 _ rfl
        have d3 := hcc 3 _ rfl
        have d4 := hcc 4 _ rfl
        have d5 := hcc 5 _ rfl
        have d6 := hcc 6 _ rfl
        rw [Nat.add_zero] at d0
        have HST : ∀ {T}, T = entI [x0, x1, x2, x3, x4, x5, x6] i → nds ++ (List.range i).flatMap (entI [x0, x1, x2, x3, x4, x5, x6]) ++ T = nds ++ (List.range (i + 1)).flatMap (entI [x0, x1, x2, x3, x4, x5, x6]) := fun hT => by
          rw [List.range_succ, List.flatMap_append, List.flatMap_singleton, hT, List.append_assoc]
        clear hcc
        have hcases : i = 7 ∨ i = 0 ∨ i = 1 ∨ i = 2 ∨ i = 3 ∨ i = 4 ∨ i = 5 ∨ i = 6 := by omega
        rcases hcases with rfl | rfl | rfl | rfl | rfl | rfl | rfl | rfl
        · rw [show (((7 : Nat) : Int)) = 7 from rfl]
          have hsz := hP.kept.size
          have hent := r05entry_any (w := wz) 0 0 hP.row (by decide) (by decide) (by omega) HLEN.out
          go_wp2_with fail
          refine hent.mono ?_
          rintro e w2 ⟨v2, rfl, hp2⟩
          have hP3 := hP.trans hp2
          have hfin : infoB nd [x0, x1, x2, x3, x4, x5, x6] = nds ++ (List.range 7).flatMap (entI [x0, x1, x2, x3, x4, x5, x6]) ++ le 8 0 ++ le 8 0 := by
            unfold infoB
            rw [HNDS.out]
            show _ ++ _ ++ (le 8 0 ++ le 8 0) = _
            rw [← List.append_assoc]
          rw [← hfin] at hP3
          clear hfin hent
          go_wp2_with fail
          go_ret
          exact ⟨_, rfl, own_base hP3.row (Nat.le_succ _), hkW.trans' (hP3.no (w0 := W) (by omega) FlO.nil (Keep.refl _ _))⟩
        · rw [show (((0 : Nat) : Int)) = 0 from rfl]
          rcases Nat.eq_zero_or_pos x0 with hz | hz
          · have hz2 : ((x0 : Int) == 0) = true := by simp [hz]
            have hP3 : Pushed (w.heap.size + 1) W wz (.slice none 0 0) (.slice a2 n2 c2) (nds ++ (List.range 1).flatMap (entI [x0, x1, x2, x3, x4, x5, x6])) := by
              rw [← HST (T := []) (by
                unfold entI
                rw [if_pos (by simp [skipI, hz])]), List.append_nil]
              exact hP
            go_wp2_with fail
            go_roundw
            case rel => exact ⟨1, by go_num, by decide, hP3⟩
            case measure => simp [intOf]
          · have hz2 : ((x0 : Int) == 0) = false := by rw [beq_eq_false_iff_ne]; omega
            have hz3 : x0 ≠ 0 := by omega
            go_wp2_with fail
            refine r05tags_any.mono ?_
            rintro e wt ⟨rfl, rfl⟩
            have hkt : Keep No wz (wz.alloc (.cells #[.int .u64 14, .int .u64 5, .int .u64 10, .int .u64 6, .int .u64 1610612749, .int .u64 7, .int .u64 8] 34)) := (Keep.refl _ _).alloc _
            have hBT : Blk (wz.alloc (.cells #[.int .u64 14, .int .u64 5, .int .u64 10, .int .u64 6, .int .u64 1610612749, .int .u64 7, .int .u64 8] 34)) wz.heap.size #[.int .u64 14, .int .u64 5, .int .u64 10, .int .u64 6, .int .u64 1610612749, .int .u64 7, .int .u64 8] 34 := Blk.new _ _ _
            have hP2 := hP.trans ⟨hP.row.no hkt, hkt.mono (fun _ _ h => h.elim), .inl rfl⟩
            generalize wz.alloc (.cells #[.int .u64 14, .int .u64 5, .int .u64 10, .int .u64 6, .int .u64 1610612749, .int .u64 7, .int .u64 8] 34) = wt at *
            have t0 := hBT.cell 0
            have hsz := hP2.kept.size
            go_wp2_with fail
            have hent := r05entry_any (w := wt) 14 x0 hP2.row (by decide) k0 (by omega) HLEN.out
            refine hent.mono ?_
            rintro e w2 ⟨v2, rfl, hp2⟩
            have hP3 := hP2.trans hp2
            rw [List.append_assoc, HST (show le 8 14 ++ le 8 x0 = entI [x0, x1, x2, x3, x4, x5, x6] 0 from by
              unfold entI
              rw [if_neg (by simp [skipI, hz3])]
              rfl)] at hP3
            obtain ⟨a4, n4, c4, rfl⟩ : ∃ a n c, v2 = .slice a n c := by
              obtain ⟨a, c, e, _⟩ := hp2.row.fl.shape
              exact ⟨_, _, _, e⟩
            clear hent hp2 hP2 t0 hBT hkt hsz
            go_wp2_with fail
            go_roundw
            case rel => exact ⟨1, by go_num, by decide, hP3⟩
            case measure => simp [intOf]
        · rw [show (((1 : Nat) : Int)) = 1 from rfl]
          go_wp2_with fail
          refine r05tags_any.mono ?_
          rintro e wt ⟨rfl, rfl⟩
          have hkt : Keep No wz (wz.alloc (.cells #[.int .u64 14, .int .u64 5, .int .u64 10, .int .u64 6, .int .u64 1610612749, .int .u64 7, .int .u64 8] 34)) := (Keep.refl _ _).alloc _
          have hBT : Blk (wz.alloc (.cells #[.int .u64 14, .int .u64 5, .int .u64 10, .int .u64 6, .int .u64 1610612749, .int .u64 7, .int .u64 8] 34)) wz.heap.size #[.int .u64 14, .int .u64 5, .int .u64 10, .int .u64 6, .int .u64 1610612749, .int .u64 7, .int .u64 8] 34 := Blk.new _ _ _
          have hP2 := hP.trans ⟨hP.row.no hkt, hkt.mono (fun _ _ h => h.elim), .inl rfl⟩
          generalize wz.alloc (.cells #[.int .u64 14, .int .u64 5, .int .u64 10, .int .u64 6, .int .u64 1610612749, .int .u64 7, .int .u64 8] 34) = wt at *
          have t0 := hBT.cell 1
          have hsz := hP2.kept.size
          go_wp2_with fail
          have hent := r05entry_any (w := wt) 5 x1 hP2.row (by decide) k1 (by omega) HLEN.out
          refine hent.mono ?_
          rintro e w2 ⟨v2, rfl, hp2⟩
          have hP3 := hP2.trans hp2
          rw [List.append_assoc, HST (show le 8 5 ++ le 8 x1 = entI [x0, x1, x2, x3, x4, x5, x6] 1 from by
            unfold entI
            rw [if_neg (by simp [skipI])]
            rfl)] at hP3
          obtain ⟨a4, n4, c4, rfl⟩ : ∃ a n c, v2 = .slice a n c := by
            obtain ⟨a, c, e, _⟩ := hp2.row.fl.shape
            exact ⟨_, _, _, e⟩
          clear hent hp2 hP2 t0 hBT hkt hsz
          go_wp2_with fail
          go_roundw
          case rel => exact ⟨2, by go_num, by decide, hP3⟩
          case measure => simp [intOf]
        · rw [show (((2 : Nat) : Int)) = 2 from rfl]
          go_wp2_with fail
          refine r05tags_any.mono ?_
          rintro e wt ⟨rfl, rfl⟩
          have hkt : Keep No wz (wz.alloc (.cells #[.int .u64 14, .int .u64 5, .int .u64 10, .int .u64 6, .int .u64 1610612749, .int .u64 7, .int .u64 8] 34)) := (Keep.refl _ _).alloc _
          have hBT : Blk (wz.alloc (.cells #[.int .u64 14, .int .u64 5, .int .u64 10, .int .u64 6, .int .u64 1610612749, .int .u64 7, .int .u64 8] 34)) wz.heap.size #[.int .u64 14, .int .u64 5, .int .u64 10, .int .u64 6, .int .u64 1610612749, .int .u64 7, .int .u64 8] 34 := Blk.new _ _ _
          have hP2 := hP.trans ⟨hP.row.no hkt, hkt.mono (fun _ _ h => h.elim), .inl rfl⟩
          generalize wz.alloc (.cells #[.int .u64 14, .int .u64 5, .int .u64 10, .int .u64 6, .int .u64 1610612749, .int .u64 7, .int .u64 8] 34) = wt at *
          have t0 := hBT.cell 2
          have hsz := hP2.kept.size
          go_wp2_with fail
          have hent := r05entry_any (w := wt) 10 x2 hP2.row (by decide) k2 (by omega) HLEN.out
          refine hent.mono ?_
          rintro e w2 ⟨v2, rfl, hp2⟩
          have hP3 := hP2.trans hp2
          rw [List.append_assoc, HST (show le 8 10 ++ le 8 x2 = entI [x0, x1, x2, x3, x4, x5, x6] 2 from by
            unfold entI
            rw [if_neg (by simp [skipI])]
            rfl)] at hP3
          obtain ⟨a4, n4, c4, rfl⟩ : ∃ a n c, v2 = .slice a n c := by
            obtain ⟨a, c, e, _⟩ := hp2.row.fl.shape
            exact ⟨_, _, _, e⟩
          clear hent hp2 hP2 t0 hBT hkt hsz
          go_wp2_with fail
          go_roundw
          case rel => exact ⟨3, by go_num, by decide, hP3⟩
          case measure => simp [intOf]
        · rw [show (((3 : Nat) : Int)) = 3 from rfl]
          rcases Nat.eq_zero_or_pos x4 with hz | hz
          · have hz2 : ((x4 : Int) == 0) = true := by simp [hz]
            have hP3 : Pushed (w.heap.size + 1) W wz (.slice none 0 0) (.slice a2 n2 c2) (nds ++ (List.range 4).flatMap (entI [x0, x1, x2, x3, x4, x5, x6])) := by
              rw [← HST (T := []) (by
                unfold entI
                rw [if_pos (by simp [skipI, hz])]), List.append_nil]
              exact hP
            go_wp2_with fail
            go_roundw
            case rel => exact ⟨4, by go_num, by decide, hP3⟩
            case measure => simp [intOf]
          · have hz2 : ((x4 : Int) == 0) = false := by rw [beq_eq_false_iff_ne]; omega
            have hz3 : x4 ≠ 0 := by omega
            go_wp2_with fail
            refine r05tags_any.mono ?_
            rintro e wt ⟨rfl, rfl⟩
            have hkt : Keep No wz (wz.alloc (.cells #[.int .u64 14, .int .u64 5, .int .u64 10, .int .u64 6, .int .u64 1610612749, .int .u64 7, .int .u64 8] 34)) := (Keep.refl _ _).alloc _
            have hBT : Blk (wz.alloc (.cells #[.int .u64 14, .int .u64 5, .int .u64 10, .int .u64 6, .int .u64 1610612749, .int .u64 7, .int .u64 8] 34)) wz.heap.size #[.int .u64 14, .int .u64 5, .int .u64 10, .int .u64 6, .int .u64 1610612749, .int .u64 7, .int .u64 8] 34 := Blk.new _ _ _
            have hP2 := hP.trans ⟨hP.row.no hkt, hkt.mono (fun _ _ h => h.elim), .inl rfl⟩
            generalize wz.alloc (.cells #[.int .u64 14, .int .u64 5, .int .u64 10, .int .u64 6, .int .u64 1610612749, .int .u64 7, .int .u64 8] 34) = wt at *
            have t0 := hBT.cell 3
            have hsz := hP2.kept.size
            go_wp2_with fail
            have hent := r05entry_any (w := wt) 6 x3 hP2.row (by decide) k3 (by omega) HLEN.out
            refine hent.mono ?_
            rintro e w2 ⟨v2, rfl, hp2⟩
            have hP3 := hP2.trans hp2
            rw [List.append_assoc, HST (show le 8 6 ++ le 8 x3 = entI [x0, x1, x2, x3, x4, x5, x6] 3 from by
              unfold entI
              rw [if_neg (by simp [skipI, hz3])]
              rfl)] at hP3
            obtain ⟨a4, n4, c4, rfl⟩ : ∃ a n c, v2 = .slice a n c := by
              obtain ⟨a, c, e, _⟩ := hp2.row.fl.shape
              exact ⟨_, _, _, e⟩
            clear hent hp2 hP2 t0 hBT hkt hsz
            go_wp2_with fail
            go_roundw
            case rel => exact ⟨4, by go_num, by decide, hP3⟩
            case measure => simp [intOf]
        · rw [show (((4 : Nat) : Int)) = 4 from rfl]
          rcases Nat.eq_zero_or_pos x4 with hz | hz
          · have hz2 : ((x4 : Int) == 0) = true := by simp [hz]
            have hP3 : Pushed (w.heap.size + 1) W wz (.slice none 0 0) (.slice a2 n2 c2) (nds ++ (List.range 5).flatMap (entI [x0, x1, x2, x3, x4, x5, x6])) := by
              rw [← HST (T := []) (by
                unfold entI
                rw [if_pos (by simp [skipI, hz])]), List.append_nil]
              exact hP
            go_wp2_with fail
            go_roundw
            case rel => exact ⟨5, by go_num, by decide, hP3⟩
            case measure => simp [intOf]
          · have hz2 : ((x4 : Int) == 0) = false := by rw [beq_eq_false_iff_ne]; omega
            have hz3 : x4 ≠ 0 := by omega
            go_wp2_with fail
            refine r05tags_any.mono ?_
            rintro e wt ⟨rfl, rfl⟩
            have hkt : Keep No wz (wz.alloc (.cells #[.int .u64 14, .int .u64 5, .int .u64 10, .int .u64 6, .int .u64 1610612749, .int .u64 7, .int .u64 8] 34)) := (Keep.refl _ _).alloc _
            have hBT : Blk (wz.alloc (.cells #[.int .u64 14, .int .u64 5, .int .u64 10, .int .u64 6, .int .u64 1610612749, .int .u64 7, .int .u64 8] 34)) wz.heap.size #[.int .u64 14, .int .u64 5, .int .u64 10, .int .u64 6, .int .u64 1610612749, .int .u64 7, .int .u64 8] 34 := Blk.new _ _ _
            have hP2 := hP.trans ⟨hP.row.no hkt, hkt.mono (fun _ _ h => h.elim), .inl rfl⟩
            generalize wz.alloc (.cells #[.int .u64 14, .int .u64 5, .int .u64 10, .int .u64 6, .int .u64 1610612749, .int .u64 7, .int .u64 8] 34) = wt at *
            have t0 := hBT.cell 4
            have hsz := hP2.kept.size
            go_wp2_with fail
            have hent := r05entry_any (w := wt) 1610612749 x4 hP2.row (by decide) k4 (by omega) HLEN.out
            refine hent.mono ?_
            rintro e w2 ⟨v2, rfl, hp2⟩
            have hP3 := hP2.trans hp2
            rw [List.append_assoc, HST (show le 8 1610612749 ++ le 8 x4 = entI [x0, x1, x2, x3, x4, x5, x6] 4 from by
              unfold entI
              rw [if_neg (by simp [skipI, hz3])]
              rfl)] at hP3
            obtain ⟨a4, n4, c4, rfl⟩ : ∃ a n c, v2 = .slice a n c := by
              obtain ⟨a, c, e, _⟩ := hp2.row.fl.shape
              exact ⟨_, _, _, e⟩
            clear hent hp2 hP2 t0 hBT hkt hsz
            go_wp2_with fail
            go_roundw
            case rel => exact ⟨5, by go_num, by decide, hP3⟩
            case measure => simp [intOf]
        · rw [show (((5 : Nat) : Int)) = 5 from rfl]
          rcases Nat.eq_zero_or_pos x6 with hz | hz
          · have hz2 : ((x6 : Int) == 0) = true := by simp [hz]
            have hP3 : Pushed (w.heap.size + 1) W wz (.slice none 0 0) (.slice a2 n2 c2) (nds ++ (List.range 6).flatMap (entI [x0, x1, x2, x3, x4, x5, x6])) := by
              rw [← HST (T := []) (by
                unfold entI
                rw [if_pos (by simp [skipI, hz])]), List.append_nil]
              exact hP
            go_wp2_with fail
            go_roundw
            case rel => exact ⟨6, by go_num, by decide, hP3⟩
            case measure => simp [intOf]
          · have hz2 : ((x6 : Int) == 0) = false := by rw [beq_eq_false_iff_ne]; omega
            have hz3 : x6 ≠ 0 := by omega
            go_wp2_with fail
            refine r05tags_any.mono ?_
            rintro e wt ⟨rfl, rfl⟩
            have hkt : Keep No wz (wz.alloc (.cells #[.int .u64 14, .int .u64 5, .int .u64 10, .int .u64 6, .int .u64 1610612749, .int .u64 7, .int .u64 8] 34)) := (Keep.refl _ _).alloc _
            have hBT : Blk (wz.alloc (.cells #[.int .u64 14, .int .u64 5, .int .u64 10, .int .u64 6, .int .u64 1610612749, .int .u64 7, .int .u64 8] 34)) wz.heap.size #[.int .u64 14, .int .u64 5, .int .u64 10, .int .u64 6, .int .u64 1610612749, .int .u64 7, .int .u64 8] 34 := Blk.new _ _ _
            have hP2 := hP.trans ⟨hP.row.no hkt, hkt.mono (fun _ _ h => h.elim), .inl rfl⟩
            generalize wz.alloc (.cells #[.int .u64 14, .int .u64 5, .int .u64 10, .int .u64 6, .int .u64 1610612749, .int .u64 7, .int .u64 8] 34) = wt at *
            have t0 := hBT.cell 5
            have hsz := hP2.kept.size
            go_wp2_with fail
            have hent := r05entry_any (w := wt) 7 x5 hP2.row (by decide) k5 (by omega) HLEN.out
            refine hent.mono ?_
            rintro e w2 ⟨v2, rfl, hp2⟩
            have hP3 := hP2.trans hp2
            rw [List.append_assoc, HST (show le 8 7 ++ le 8 x5 = entI [x0, x1, x2, x3, x4, x5, x6] 5 from by
              unfold entI
              rw [if_neg (by simp [skipI, hz3])]
              rfl)] at hP3
            obtain ⟨a4, n4, c4, rfl⟩ : ∃ a n c, v2 = .slice a n c := by
              obtain ⟨a, c, e, _⟩ := hp2.row.fl.shape
              exact ⟨_, _, _, e⟩
            clear hent hp2 hP2 t0 hBT hkt hsz
            go_wp2_with fail
            go_roundw
            case rel => exact ⟨6, by go_num, by decide, hP3⟩
            case measure => simp [intOf]
        · rw [show (((6 : Nat) : Int)) = 6 from rfl]
          rcases Nat.eq_zero_or_pos x6 with hz | hz
          · have hz2 : ((x6 : Int) == 0) = true := by simp [hz]
            have hP3 : Pushed (w.heap.size + 1) W wz (.slice none 0 0) (.slice a2 n2 c2) (nds ++ (List.range 7).flatMap (entI [x0, x1, x2, x3, x4, x5, x6])) := by
              rw [← HST (T := []) (by
                unfold entI
                rw [if_pos (by simp [skipI, hz])]), List.append_nil]
              exact hP
            go_wp2_with fail
            go_roundw
            case rel => exact ⟨7, by go_num, by decide, hP3⟩
            case measure => simp [intOf]
          · have hz2 : ((x6 : Int) == 0) = false := by rw [beq_eq_false_iff_ne]; omega
            have hz3 : x6 ≠ 0 := by omega
            go_wp2_with fail
            refine r05tags_any.mono ?_
            rintro e wt ⟨rfl, rfl⟩
            have hkt : Keep No wz (wz.alloc (.cells #[.int .u64 14, .int .u64 5, .int .u64 10, .int .u64 6, .int .u64 1610612749, .int .u64 7, .int .u64 8] 34)) := (Keep.refl _ _).alloc _
            have hBT : Blk (wz.alloc (.cells #[.int .u64 14, .int .u64 5, .int .u64 10, .int .u64 6, .int .u64 1610612749, .int .u64 7, .int .u64 8] 34)) wz.heap.size #[.int .u64 14, .int .u64 5, .int .u64 10, .int .u64 6, .int .u64 1610612749, .int .u64 7, .int .u64 8] 34 := Blk.new _ _ _
            have hP2 := hP.trans ⟨hP.row.no hkt, hkt.mono (fun _ _ h => h.elim), .inl rfl⟩
            generalize wz.alloc (.cells #[.int .u64 14, .int .u64 5, .int .u64 10, .int .u64 6, .int .u64 1610612749, .int .u64 7, .int .u64 8] 34) = wt at *
            have t0 := hBT.cell 6
            have hsz := hP2.kept.size
            go_wp2_with fail
            have hent := r05entry_any (w := wt) 8 x6 hP2.row (by decide) k6 (by omega) HLEN.out
            refine hent.mono ?_
            rintro e w2 ⟨v2, rfl, hp2⟩
            have hP3 := hP2.trans hp2
            rw [List.append_assoc, HST (show le 8 8 ++ le 8 x6 = entI [x0, x1, x2, x3, x4, x5, x6] 6 from by
              unfold entI
              rw [if_neg (by simp [skipI, hz3])]
              rfl)] at hP3
            obtain ⟨a4, n4, c4, rfl⟩ : ∃ a n c, v2 = .slice a n c := by
              obtain ⟨a, c, e, _⟩ := hp2.row.fl.shape
              exact ⟨_, _, _, e⟩
            clear hent hp2 hP2 t0 hBT hkt hsz
            go_wp2_with fail
            go_roundw
            case rel => exact ⟨7, by go_num, by decide, hP3⟩
            case measure => simp [intOf]
end
end Go.Proofs.Ytbnahidopemkiaa
namespace Go.Proofs.Ytbnahidopemkiaa
open Go.RowKit Go.Dm Go.Dm.Oc Go.Dm.Ld
theorem placeM_cons (s : Sg) (r : List Sg) (addr size : Nat) : placeM (s :: r) addr size = if holdsB s addr size then (0, s.off + (addr - s.va)) else placeM r addr size := rfl
section
variable {A : Nat → Prop} {w : World}
set_option maxRecDepth 100000 in
set_option maxHeartbeats 4000000 in
theorem sgplace_any {v : Value} (l : List Sg) (addr size : Nat) (hl : Fl A w 7 encSg v l) (hok : ∀ x ∈ l, SgOk x) (hok2 : ∀ x ∈ l, x.ty = 1 → x.off + x.fi < 18446744073709551616) (ha : addr < 18446744073709551616) (hz : size < 18446744073709551616) :
    Calls Try.prog 102 #[v, .int .u64 (addr : Int), .int .u64 (size : Int)] w fun e w' => e = .returned (.tuple #[.int .u64 ((placeM l addr size).2 : Nat), .int .i64 ((placeM l addr size).1 : Nat)]) ∧ Keep No w w' := by
  have HL := Lib.hid hl
  obtain ⟨ao, co, rfl, hc1, hc2⟩ := hl.shape
  have hlen : l.length ≤ 9223372036854775807 := by unfold maxLen at hc2; omega
  clear hl hc1 hc2
  go_enter Try.func102, Try.ntmps102
  go_wp2_with fail
  go_loopw [13] (fun iv wr => ∃ i : Nat, iv = .int .i64 i ∧ i ≤ l.length ∧ placeM (l.drop i) addr size = placeM l addr size ∧ Keep No w wr) (fun iv _ => l.length - (intOf iv).toNat)
  case atStart => exact ⟨0, rfl, Nat.zero_le _, rfl, Keep.refl _ _⟩
  case round =>
    obtain ⟨i, rfl, hi, hA, hk⟩ := hrel
    generalize wr = wz at *
    rcases Nat.lt_or_ge i l.length with hlt | hge
    · obtain ⟨g1, off, cap, ev, _, hg1, _, _, hc⟩ := (HL.out.no hk).at encSg_len hlt
      cases ev
      have hiz : (i : Int) < (l.length : Int) := by omega
      have hsok := hok l[i] (List.getElem_mem hlt)
      have hsok2 := hok2 l[i] (List.getElem_mem hlt)
      rw [List.drop_eq_getElem_cons hlt] at hA
      rw [placeM_cons] at hA
      have c0 := hc 0 _ rfl
      have c1 := hc 1 _ rfl
      have c2 := hc 2 _ rfl
      have c3 := hc 3 _ rfl
      have c4 := hc 4 _ rfl
      have c5 := hc 5 _ rfl
      have c6 := hc 6 _ rfl
      rw [Nat.add_zero] at c0
      clear hc
      unfold SgOk at hsok
      have hhb : holdsB l[i] addr size = decide (0 < size ∧ l[i].ty = 1 ∧ l[i].va ≤ addr ∧ addr - l[i].va ≤ l[i].fi ∧ size ≤ l[i].fi - (addr - l[i].va)) := rfl
      rw [hhb] at hA
      clear hhb
      generalize l[i].ty = x0 at *
      generalize l[i].fl = x1 at *
      generalize l[i].off = x2 at *
      generalize l[i].va = x3 at *
      generalize l[i].fi = x4 at *
      generalize l[i].me = x5 at *
      generalize l[i].al = x6 at *
      obtain ⟨o0, o1, o2, o3, o4, o5, o6⟩ := hsok
      by_cases hh : 0 < size ∧ x0 = 1 ∧ x3 ≤ addr ∧ addr - x3 ≤ x4 ∧ size ≤ x4 - (addr - x3)
      · rw [if_pos (decide_eq_true hh)] at hA
        obtain ⟨h1, rfl, h3, h4, h5⟩ := hh
        have h6 := hsok2 rfl
        have HA := Lib.hid hA
        clear hA hsok2
        obtain ⟨d, rfl⟩ := Nat.exists_eq_add_of_le h3
        rw [Nat.add_sub_cancel_left] at h4 h5 HA
        obtain ⟨r, rfl⟩ := Nat.exists_eq_add_of_le h4
        rw [Nat.add_sub_cancel_left] at h5
        have h1i : (0 : Int) < (size : Int) := by omega
        have h3i : (x3 : Int) ≤ ((x3 + d : Nat) : Int) := by omega
        have h5i : (size : Int) ≤ (r : Int) := by omega
        have e3 : ((x3 + d : Nat) : Int) - (x3 : Int) = (d : Int) := by omega
        have e4 : ((d + r : Nat) : Int) - (d : Int) = (r : Int) := by omega
        go_wp2_with fail
        all_goals
          go_ret2
          rw [← HA.out]
          refine ⟨congrArg (fun z => Ending.returned (Value.tuple #[Value.int .u64 z, Value.int .i64 0])) ?_, hk.alloc _⟩
          dsimp only
          omega
      · rw [if_neg (by rw [decide_eq_true_eq]; exact hh)] at hA
        have HA := Lib.hid hA
        clear hA
        go_wp2_with fail
        all_goals first
          | (exfalso; clear c0 c1 c2 c3 c4 c5 c6; simp only [beq_iff_eq] at *; omega)
          | (go_roundw
             case rel => exact ⟨i + 1, rfl, hlt, HA.out, hk.alloc _⟩
             case measure => simp [intOf]; omega)
    · obtain rfl : i = l.length := Nat.le_antisymm hi hge
      rw [List.drop_length] at hA
      have HA := Lib.hid hA
      clear hA
      go_wp2_with fail
      go_ret2
      rw [← HA.out]
      exact ⟨rfl, hk⟩
end
end Go.Proofs.Ytbnahidopemkiaa
namespace Go.Proofs.Ytbnahidopemkiaa
open Go.RowKit Go.Dm Go.Dm.Oc Go.Dm.Ld
section
variable {A : Nat → Prop} {w : World}
set_option maxRecDepth 100000 in
set_option maxHeartbeats 1000000 in
theorem sydef_any (s : Sy) : Calls Try.prog 77 #[.agg (encSy s).toArray] w fun e w' => e = .returned (.bool (decide (s.sec ≠ 0))) ∧ Keep No w w' := by
  have hb : (!(((s.sec : Int)) == 0)) = decide (s.sec ≠ 0) := by
    rw [Bool.eq_iff_iff]
    simp
  rw [← hb]
  unfold encSy
  generalize s.sec = x at *
  go_enter Try.func77, Try.ntmps77
  go_wp2_with fail
  go_ret
  exact ⟨rfl, (Keep.refl _ _).alloc _⟩
set_option maxRecDepth 100000 in
set_option maxHeartbeats 1000000 in
theorem sybind_any (s : Sy) (h : s.inf < 256) : Calls Try.prog 78 #[.agg (encSy s).toArray] w fun e w' => e = .returned (.int .i64 ((s.inf / 16 : Nat) : Int)) ∧ Keep No w w' := by
  unfold encSy
  have hd : (s.inf : Int) / 16 = ((s.inf / 16 : Nat) : Int) := by omega
  have hlt : s.inf / 16 < 16 := by omega
  generalize s.inf = x at *
  have HD := Lib.hid hd
  clear hd hlt
  go_enter Try.func78, Try.ntmps78
  go_wp2_with fail
  go_ret
  exact ⟨by rw [← HD.out]; rfl, (Keep.refl _ _).alloc _⟩
set_option maxRecDepth 100000 in
set_option maxHeartbeats 1000000 in
theorem sykind_any (s : Sy) (h : s.inf < 256) : Calls Try.prog 79 #[.agg (encSy s).toArray] w fun e w' => e = .returned (.int .i64 ((s.inf % 16 : Nat) : Int)) ∧ Keep No w w' := by
  unfold encSy
  have hd : (s.inf : Int) % 16 = ((s.inf % 16 : Nat) : Int) := by omega
  generalize s.inf = x at *
  have HD := Lib.hid hd
  clear hd
  go_enter Try.func79, Try.ntmps79
  go_wp2_with fail
  go_ret
  exact ⟨by rw [← HD.out]; rfl, (Keep.refl _ _).alloc _⟩
set_option maxRecDepth 100000 in
set_option maxHeartbeats 1000000 in
theorem idxI_any {v : Value} (l : List Nat) (x : Nat) (hl : Fl A w 1 (fun n : Nat => [.int .i64 (n : Int)]) v l) :
    Calls Try.prog 117 #[v, .int .i64 (x : Int)] w fun e w' => e = .returned (.int .i64 (posM (fun n => n == x) l)) ∧ Keep No w w' := by
  have HL := Lib.hid hl
  obtain ⟨ao, co, rfl, hc1, hc2⟩ := hl.shape
  have hlen : l.length ≤ 9223372036854775807 := by unfold maxLen at hc2; omega
  clear hl hc1 hc2
  go_enter Try.func117, Try.ntmps117
  go_wp2_with fail
  go_loopw [5, 8] (fun _ iv wr => ∃ i : Nat, iv = .int .i64 i ∧ i ≤ l.length ∧ (∀ j, j < i → ∀ y, l[j]? = some y → (y == x) = false) ∧ Keep No w wr) (fun _ iv _ => l.length - (intOf iv).toNat)
  case atStart => exact ⟨0, rfl, Nat.zero_le _, (fun j hj => absurd hj (Nat.not_lt_zero _)), Keep.refl _ _⟩
  case round =>
    obtain ⟨i, rfl, hi, hno, hk⟩ := hrel
    generalize wr = wz at *
    rcases Nat.lt_or_ge i l.length with hlt | hge
    · obtain ⟨g1, off, cap, ev, _, _, _, _, hc⟩ := (HL.out.no hk).at (fun _ => rfl) hlt
      cases ev
      have hiz : (i : Int) < (l.length : Int) := by omega
      have hfin : (l[i] == x) = true → posM (fun n => n == x) l = (i : Int) := fun h => posM_some hlt h fun j hj => hno j hj _ (List.getElem?_eq_getElem _)
      have hno2 : (l[i] == x) = false → ∀ j, j < i + 1 → ∀ y, l[j]? = some y → (y == x) = false := fun h j hji y hy => by
        rcases Nat.lt_or_ge j i with h2 | h2
        · exact hno j h2 y hy
        · obtain rfl : j = i := by omega
          rw [List.getElem?_eq_getElem hlt] at hy
          cases hy
          exact h
      have HF := Lib.hid hfin
      have HN := Lib.hid hno2
      clear hno hfin hno2
      have c0 := hc 0 _ rfl
      rw [Nat.add_zero, Nat.mul_one] at c0
      clear hc
      generalize hy : l[i] = y at *
      rcases Nat.decEq y x with hne | rfl
      · have hni : ¬ ((y : Int) = (x : Int)) := by omega
        have hb : (y == x) = false := by rw [beq_eq_false_iff_ne]; exact hne
        have hbi : ((x : Int) == (y : Int)) = false := by rw [beq_eq_false_iff_ne]; omega
        have hbi2 : ((y : Int) == (x : Int)) = false := by rw [beq_eq_false_iff_ne]; omega
        go_wp2_with fail
        try go_quiet (fail)
        go_wp2_with fail
        go_roundw
        case rel => exact ⟨i + 1, by go_num, hlt, HN.out hb, by first | exact hk | exact hk.drewN _⟩
        case measure => simp [intOf]; omega
      · go_wp2_with fail
        try go_quiet (fail)
        go_wp2_with fail
        go_ret
        rw [HF.out (by simp)]
        exact ⟨rfl, by first | exact hk | exact hk.drewN _⟩
    · obtain rfl : i = l.length := Nat.le_antisymm hi hge
      have hof := posM_none (p := fun n => n == x) (l := l) fun j hj => hno j hj _ (List.getElem?_eq_getElem hj)
      go_wp2_with fail
      go_ret
      rw [hof]
      exact ⟨rfl, hk⟩
set_option maxHeartbeats 1000000 in
theorem hasI_any {v : Value} (l : List Nat) (x : Nat) (hl : Fl A w 1 (fun n : Nat => [.int .i64 (n : Int)]) v l) :
    Calls Try.prog 113 #[v, .int .i64 (x : Int)] w fun e w' => e = .returned (.bool (l.contains x)) ∧ Keep No w w' := by
  have hc := idxI_any l x hl
  have hb : decide (0 ≤ posM (fun n => n == x) l) = l.contains x := by
    unfold posM
    rw [List.contains_eq_any_beq]
    have e : l.any (fun n => n == x) = l.any fun n => x == n := by
      congr 1
      funext n
      exact Bool.beq_comm
    rw [← e]
    cases l.any (fun n => n == x) with
    | false => rfl
    | true => simp
  clear hl
  generalize posM (fun n => n == x) l = r at *
  generalize l.contains x = b at *
  go_enter Try.func113, Try.ntmps113
  go_wp2_with fail
  refine hc.mono ?_
  rintro e w2 ⟨rfl, hk2⟩
  go_wp2_with fail
  go_ret
  exact ⟨by rw [← hb]; rfl, hk2⟩
set_option maxRecDepth 100000 in
set_option maxHeartbeats 8000000 in
theorem symay_any (s : Sy) (hs : SyOk s) : Calls Try.prog 105 #[.agg (encSy s).toArray] w fun e w' => e = .returned (.bool (mayS s)) ∧ Keep No w w' := by
  obtain ⟨o0, o1, o2, o3, o4, o5⟩ := hs
  have hdef := fun w => sydef_any (w := w) s
  have hbind := fun w => sybind_any (w := w) s o1
  have hkind := fun w => sykind_any (w := w) s o1
  have hkk : ([0, 1, 2, 6] : List Nat).contains (s.inf % 16) = decide (s.inf % 16 = 0 ∨ s.inf % 16 = 1 ∨ s.inf % 16 = 2 ∨ s.inf % 16 = 6) := by
    rw [Bool.eq_iff_iff]
    simp
  have HM : Hid (mayS s = (decide (s.inf / 16 ≤ 2) && decide (s.inf % 16 = 0 ∨ s.inf % 16 = 1 ∨ s.inf % 16 = 2 ∨ s.inf % 16 = 6) && decide (s.oth = 0) && decide (s.sec ≤ 1) && decide (s.nm ≠ 0) && (decide (s.sec ≠ 0) || decide (s.val = 0 ∧ s.sz = 0 ∧ s.inf / 16 ≠ 0)))) := Lib.hid rfl
  have hib : s.inf / 16 < 16 := by omega
  have hik : s.inf % 16 < 16 := by omega
  have hcs : (encSy s).toArray = #[.int .u32 (s.nm : Int), .int .u8 (s.inf : Int), .int .u8 (s.oth : Int), .int .u16 (s.sec : Int), .int .u64 (s.val : Int), .int .u64 (s.sz : Int)] := rfl
  rw [hcs] at hdef hbind hkind ⊢
  generalize mayS s = res at *
  generalize s.inf / 16 = ib at *
  generalize s.inf % 16 = ik at *
  generalize s.nm = x0 at *
  generalize s.inf = x1 at *
  generalize s.oth = x2 at *
  generalize s.sec = x3 at *
  generalize s.val = x4 at *
  generalize s.sz = x5 at *
  clear hcs
  go_enter Try.func105, Try.ntmps105
  go_wp2_with fail
  have hkW : Keep No w (w.alloc (.cells #[.int .u32 (x0 : Int), .int .u8 (x1 : Int), .int .u8 (x2 : Int), .int .u16 (x3 : Int), .int .u64 (x4 : Int), .int .u64 (x5 : Int)] 108)) := (Keep.refl _ _).alloc _
  have hBW : Blk (w.alloc (.cells #[.int .u32 (x0 : Int), .int .u8 (x1 : Int), .int .u8 (x2 : Int), .int .u16 (x3 : Int), .int .u64 (x4 : Int), .int .u64 (x5 : Int)] 108)) w.heap.size #[.int .u32 (x0 : Int), .int .u8 (x1 : Int), .int .u8 (x2 : Int), .int .u16 (x3 : Int), .int .u64 (x4 : Int), .int .u64 (x5 : Int)] 108 := Blk.new _ _ _
  have hzW : (w.alloc (.cells #[.int .u32 (x0 : Int), .int .u8 (x1 : Int), .int .u8 (x2 : Int), .int .u16 (x3 : Int), .int .u64 (x4 : Int), .int .u64 (x5 : Int)] 108)).heap.size = w.heap.size + 1 := World.size_alloc _ _
  generalize w.alloc (.cells #[.int .u32 (x0 : Int), .int .u8 (x1 : Int), .int .u8 (x2 : Int), .int .u16 (x3 : Int), .int .u64 (x4 : Int), .int .u64 (x5 : Int)] 108) = W at *
  have hkV : Keep No W (W.alloc (.cells #[.int .i64 0, .int .i64 1, .int .i64 2, .int .i64 6] 3)) := (Keep.refl _ _).alloc _
  have hBV : Blk (W.alloc (.cells #[.int .i64 0, .int .i64 1, .int .i64 2, .int .i64 6] 3)) W.heap.size #[.int .i64 0, .int .i64 1, .int .i64 2, .int .i64 6] 3 := Blk.new _ _ _
  have hzV : (W.alloc (.cells #[.int .i64 0, .int .i64 1, .int .i64 2, .int .i64 6] 3)).heap.size = W.heap.size + 1 := World.size_alloc _ _
  generalize W.alloc (.cells #[.int .i64 0, .int .i64 1, .int .i64 2, .int .i64 6] 3) = V at *
  have hBX0 := hBW.keep hkV fun h => h
  have hLX0 : Fl (fun j => j = W.heap.size) V 1 (fun n : Nat => [.int .i64 (n : Int)]) (.slice (some ⟨W.heap.size, 0, none⟩) 4 4) [0, 1, 2, 6] := by
    refine Sl.mk (by rfl) rfl hBV.lt (Nat.le_refl _) (by unfold maxLen; omega) fun j u hu => ?_
    rw [hBV.cell, Nat.zero_add, List.getElem?_toArray]
    exact hu
  rw [hzW] at hLX0
  have hkwV := hkW.trans' hkV
  clear hBW hBV hkW hkV hzW hzV
  refine (hdef V).mono ?_
  rintro e w1 ⟨rfl, hk1⟩
  have hk0 := hkwV.trans' hk1
  have hBX := hBX0.keep hk1 fun h => h
  have hLX := hLX0.no hk1
  clear hBX0 hLX0 hkwV hk1
  have c0 := hBX.cell 4
  have c1 := hBX.cell 5
  by_cases hx3 : x3 = 0
  · have hd : decide (x3 ≠ 0) = false := by simp [hx3]
    rw [hd] at HM ⊢
    have hx3i : (x3 : Int) = 0 := by omega
    by_cases hx4 : x4 = 0
    · have hx4i : ((x4 : Int) == 0) = true := by rw [beq_iff_eq]; omega
      by_cases hx5 : x5 = 0
      · have hx5i : ((x5 : Int) == 0) = true := by rw [beq_iff_eq]; omega
        have a0 := hBX.cell 0
        have a1 := hBX.cell 1
        have a2 := hBX.cell 2
        have a3 := hBX.cell 3
        have HMf : Hid (ib = 0 → res = (decide (ib ≤ 2) && decide (ik = 0 ∨ ik = 1 ∨ ik = 2 ∨ ik = 6) && decide (x2 = 0) && decide (x3 ≤ 1) && decide (x0 ≠ 0) && false)) := Lib.hid fun h => by rw [HM.out, show (false || decide (x4 = 0 ∧ x5 = 0 ∧ ib ≠ 0)) = false by simp [h]]
        have HMt : Hid (ib ≠ 0 → res = (decide (ib ≤ 2) && decide (ik = 0 ∨ ik = 1 ∨ ik = 2 ∨ ik = 6) && decide (x2 = 0) && decide (x3 ≤ 1) && decide (x0 ≠ 0) && true)) := Lib.hid fun h => by rw [HM.out, show (false || decide (x4 = 0 ∧ x5 = 0 ∧ ib ≠ 0)) = true by simp [h, hx4, hx5]]
        clear HM
        subst hx3
        subst hx4
        subst hx5
        clear hx3i hx4i hx5i
        go_wp2_with fail
        refine (hbind w1).mono ?_
        rintro e wb ⟨rfl, hkb_⟩
        have hBY := hBX.keep hkb_ fun h => h
        have hLY := hLX.no hkb_
        have hk0' := hk0.trans' hkb_
        clear hBX hLX a0 a1 a2 a3 c0 c1 hk0
        have hBX := hBY
        have hLX := hLY
        have hk0 := hk0'
        by_cases hib0 : ib = 0
        · have HM := Lib.hid (HMf.out hib0)
          have hib0i : ((ib : Int) == 0) = true := by rw [beq_iff_eq]; omega
          clear HMf HMt
          have hkx : Keep No w wb := by first | exact hk0 | exact (hk0.trans' hkA) | exact (hk0.trans' hkA).trans' hkB
          have a0 := hBX.cell 0
          have a1 := hBX.cell 1
          have a2 := hBX.cell 2
          have a3 := hBX.cell 3
          have a4 := hBX.cell 4
          have a5 := hBX.cell 5
          go_wp2_with fail
          refine (hbind wb).mono ?_
          rintro e w2 ⟨rfl, hk2⟩
          have hB2 := hBX.keep hk2 fun h => h
          have hL2 := hLX.no hk2
          have hkw2 := hkx.trans' hk2
          clear hBX hLX a0 a1 a2 a3 a4 a5
          have d0 := hB2.cell 0
          have d1 := hB2.cell 1
          have d2 := hB2.cell 2
          have d3 := hB2.cell 3
          have d4 := hB2.cell 4
          have d5 := hB2.cell 5
          by_cases hb2 : ib ≤ 2
          · have hb2i : (ib : Int) ≤ 2 := by omega
            go_wp2_with fail
            refine (hkind w2).mono ?_
            rintro e w3 ⟨rfl, hk3⟩
            have hB3 := hB2.keep hk3 fun h => h
            have hL3 := hL2.no hk3
            clear hB2 hL2 d0 d1 d2 d3 d4 d5
            go_wp2_with fail
            have hh := hasI_any _ ik hL3
            rw [hkk] at hh
            refine hh.mono ?_
            clear hh
            rintro e w4 ⟨rfl, hk4⟩
            have hB4 := hB3.keep hk4 fun h => h
            have d0 := hB4.cell 0
            have d2 := hB4.cell 2
            have d3 := hB4.cell 3
            have hkF := (hkw2.trans' hk3).trans' hk4
            clear hB3 hB4 hL3 hbind hkind hdef hk0
            cases hkb : decide (ik = 0 ∨ ik = 1 ∨ ik = 2 ∨ ik = 6) with
            | false =>
              rw [hkb] at HM
              clear d0 d2 d3
              go_wp2_with fail
              go_ret
              rw [HM.out]
              exact ⟨by simp, hkF⟩
            | true =>
              rw [hkb] at HM
              go_wp2_with fail
              all_goals
                go_ret
                rw [HM.out]
                refine ⟨congrArg (fun b => Ending.returned (Value.bool b)) ?_, hkF⟩
                clear d0 d2 d3 HM
                rw [Bool.eq_iff_iff]
                simp only [Bool.and_eq_true, Bool.or_eq_true, Bool.and_true, Bool.true_and, decide_eq_true_eq, beq_iff_eq, bne_iff_ne, Bool.not_eq_true', beq_eq_false_iff_ne, ne_eq, Bool.false_eq_true, false_iff, true_iff, iff_true, iff_false, not_and, not_or, and_true, true_and, Bool.and_false, and_false, not_false_eq_true, implies_true, true_or, false_or, or_true] at *
                try omega
          · have hb2i : ¬ ((ib : Int) ≤ 2) := by omega
            first
              | (exfalso
                 omega)
              | (go_wp2_with fail
                 go_ret
                 rw [HM.out]
                 refine ⟨congrArg (fun b => Ending.returned (Value.bool b)) ?_, hkw2⟩
                 simp [hb2])
        · have HM := Lib.hid (HMt.out hib0)
          have hib0i : ((ib : Int) == 0) = false := by rw [beq_eq_false_iff_ne]; omega
          clear HMf HMt
          have hkx : Keep No w wb := by first | exact hk0 | exact (hk0.trans' hkA) | exact (hk0.trans' hkA).trans' hkB
          have a0 := hBX.cell 0
          have a1 := hBX.cell 1
          have a2 := hBX.cell 2
          have a3 := hBX.cell 3
          have a4 := hBX.cell 4
          have a5 := hBX.cell 5
          go_wp2_with fail
          refine (hbind wb).mono ?_
          rintro e w2 ⟨rfl, hk2⟩
          have hB2 := hBX.keep hk2 fun h => h
          have hL2 := hLX.no hk2
          have hkw2 := hkx.trans' hk2
          clear hBX hLX a0 a1 a2 a3 a4 a5
          have d0 := hB2.cell 0
          have d1 := hB2.cell 1
          have d2 := hB2.cell 2
          have d3 := hB2.cell 3
          have d4 := hB2.cell 4
          have d5 := hB2.cell 5
          by_cases hb2 : ib ≤ 2
          · have hb2i : (ib : Int) ≤ 2 := by omega
            go_wp2_with fail
            refine (hkind w2).mono ?_
            rintro e w3 ⟨rfl, hk3⟩
            have hB3 := hB2.keep hk3 fun h => h
            have hL3 := hL2.no hk3
            clear hB2 hL2 d0 d1 d2 d3 d4 d5
            go_wp2_with fail
            have hh := hasI_any _ ik hL3
            rw [hkk] at hh
            refine hh.mono ?_
            clear hh
            rintro e w4 ⟨rfl, hk4⟩
            have hB4 := hB3.keep hk4 fun h => h
            have d0 := hB4.cell 0
            have d2 := hB4.cell 2
            have d3 := hB4.cell 3
            have hkF := (hkw2.trans' hk3).trans' hk4
            clear hB3 hB4 hL3 hbind hkind hdef hk0
            cases hkb : decide (ik = 0 ∨ ik = 1 ∨ ik = 2 ∨ ik = 6) with
            | false =>
              rw [hkb] at HM
              clear d0 d2 d3
              go_wp2_with fail
              go_ret
              rw [HM.out]
              exact ⟨by simp, hkF⟩
            | true =>
              rw [hkb] at HM
              go_wp2_with fail
              all_goals
                go_ret
                rw [HM.out]
                refine ⟨congrArg (fun b => Ending.returned (Value.bool b)) ?_, hkF⟩
                clear d0 d2 d3 HM
                rw [Bool.eq_iff_iff]
                simp only [Bool.and_eq_true, Bool.or_eq_true, Bool.and_true, Bool.true_and, decide_eq_true_eq, beq_iff_eq, bne_iff_ne, Bool.not_eq_true', beq_eq_false_iff_ne, ne_eq, Bool.false_eq_true, false_iff, true_iff, iff_true, iff_false, not_and, not_or, and_true, true_and, Bool.and_false, and_false, not_false_eq_true, implies_true, true_or, false_or, or_true] at *
                try omega
          · have hb2i : ¬ ((ib : Int) ≤ 2) := by omega
            first
              | (exfalso
                 omega)
              | (go_wp2_with fail
                 go_ret
                 rw [HM.out]
                 refine ⟨congrArg (fun b => Ending.returned (Value.bool b)) ?_, hkw2⟩
                 simp [hb2])
      · have hx5i : ((x5 : Int) == 0) = false := by rw [beq_eq_false_iff_ne]; omega
        rw [show (false || decide (x4 = 0 ∧ x5 = 0 ∧ ib ≠ 0)) = false by simp [hx5]] at HM
        subst hx3
        subst hx4
        clear hx3i hx4i
        have hkx : Keep No w w1 := by first | exact hk0 | exact (hk0.trans' hkA) | exact (hk0.trans' hkA).trans' hkB
        have a0 := hBX.cell 0
        have a1 := hBX.cell 1
        have a2 := hBX.cell 2
        have a3 := hBX.cell 3
        have a4 := hBX.cell 4
        have a5 := hBX.cell 5
        go_wp2_with fail
        refine (hbind w1).mono ?_
        rintro e w2 ⟨rfl, hk2⟩
        have hB2 := hBX.keep hk2 fun h => h
        have hL2 := hLX.no hk2
        have hkw2 := hkx.trans' hk2
        clear hBX hLX a0 a1 a2 a3 a4 a5
        have d0 := hB2.cell 0
        have d1 := hB2.cell 1
        have d2 := hB2.cell 2
        have d3 := hB2.cell 3
        have d4 := hB2.cell 4
        have d5 := hB2.cell 5
        by_cases hb2 : ib ≤ 2
        · have hb2i : (ib : Int) ≤ 2 := by omega
          go_wp2_with fail
          refine (hkind w2).mono ?_
          rintro e w3 ⟨rfl, hk3⟩
          have hB3 := hB2.keep hk3 fun h => h
          have hL3 := hL2.no hk3
          clear hB2 hL2 d0 d1 d2 d3 d4 d5
          go_wp2_with fail
          have hh := hasI_any _ ik hL3
          rw [hkk] at hh
          refine hh.mono ?_
          clear hh
          rintro e w4 ⟨rfl, hk4⟩
          have hB4 := hB3.keep hk4 fun h => h
          have d0 := hB4.cell 0
          have d2 := hB4.cell 2
          have d3 := hB4.cell 3
          have hkF := (hkw2.trans' hk3).trans' hk4
          clear hB3 hB4 hL3 hbind hkind hdef hk0
          cases hkb : decide (ik = 0 ∨ ik = 1 ∨ ik = 2 ∨ ik = 6) with
          | false =>
            rw [hkb] at HM
            clear d0 d2 d3
            go_wp2_with fail
            go_ret
            rw [HM.out]
            exact ⟨by simp, hkF⟩
          | true =>
            rw [hkb] at HM
            go_wp2_with fail
            all_goals
              go_ret
              rw [HM.out]
              refine ⟨congrArg (fun b => Ending.returned (Value.bool b)) ?_, hkF⟩
              clear d0 d2 d3 HM
              rw [Bool.eq_iff_iff]
              simp only [Bool.and_eq_true, Bool.or_eq_true, Bool.and_true, Bool.true_and, decide_eq_true_eq, beq_iff_eq, bne_iff_ne, Bool.not_eq_true', beq_eq_false_iff_ne, ne_eq, Bool.false_eq_true, false_iff, true_iff, iff_true, iff_false, not_and, not_or, and_true, true_and, Bool.and_false, and_false, not_false_eq_true, implies_true, true_or, false_or, or_true] at *
              try omega
        · have hb2i : ¬ ((ib : Int) ≤ 2) := by omega
          first
            | (exfalso
               omega)
            | (go_wp2_with fail
               go_ret
               rw [HM.out]
               refine ⟨congrArg (fun b => Ending.returned (Value.bool b)) ?_, hkw2⟩
               simp [hb2])
    · have hx4i : ((x4 : Int) == 0) = false := by rw [beq_eq_false_iff_ne]; omega
      rw [show (false || decide (x4 = 0 ∧ x5 = 0 ∧ ib ≠ 0)) = false by simp [hx4]] at HM
      clear c1
      subst hx3
      clear hx3i
      have hkx : Keep No w w1 := by first | exact hk0 | exact (hk0.trans' hkA) | exact (hk0.trans' hkA).trans' hkB
      have a0 := hBX.cell 0
      have a1 := hBX.cell 1
      have a2 := hBX.cell 2
      have a3 := hBX.cell 3
      have a4 := hBX.cell 4
      have a5 := hBX.cell 5
      go_wp2_with fail
      refine (hbind w1).mono ?_
      rintro e w2 ⟨rfl, hk2⟩
      have hB2 := hBX.keep hk2 fun h => h
      have hL2 := hLX.no hk2
      have hkw2 := hkx.trans' hk2
      clear hBX hLX a0 a1 a2 a3 a4 a5
      have d0 := hB2.cell 0
      have d1 := hB2.cell 1
      have d2 := hB2.cell 2
      have d3 := hB2.cell 3
      have d4 := hB2.cell 4
      have d5 := hB2.cell 5
      by_cases hb2 : ib ≤ 2
      · have hb2i : (ib : Int) ≤ 2 := by omega
        go_wp2_with fail
        refine (hkind w2).mono ?_
        rintro e w3 ⟨rfl, hk3⟩
        have hB3 := hB2.keep hk3 fun h => h
        have hL3 := hL2.no hk3
        clear hB2 hL2 d0 d1 d2 d3 d4 d5
        go_wp2_with fail
        have hh := hasI_any _ ik hL3
        rw [hkk] at hh
        refine hh.mono ?_
        clear hh
        rintro e w4 ⟨rfl, hk4⟩
        have hB4 := hB3.keep hk4 fun h => h
        have d0 := hB4.cell 0
        have d2 := hB4.cell 2
        have d3 := hB4.cell 3
        have hkF := (hkw2.trans' hk3).trans' hk4
        clear hB3 hB4 hL3 hbind hkind hdef hk0
        cases hkb : decide (ik = 0 ∨ ik = 1 ∨ ik = 2 ∨ ik = 6) with
        | false =>
          rw [hkb] at HM
          clear d0 d2 d3
          go_wp2_with fail
          go_ret
          rw [HM.out]
          exact ⟨by simp, hkF⟩
        | true =>
          rw [hkb] at HM
          go_wp2_with fail
          all_goals
            go_ret
            rw [HM.out]
            refine ⟨congrArg (fun b => Ending.returned (Value.bool b)) ?_, hkF⟩
            clear d0 d2 d3 HM
            rw [Bool.eq_iff_iff]
            simp only [Bool.and_eq_true, Bool.or_eq_true, Bool.and_true, Bool.true_and, decide_eq_true_eq, beq_iff_eq, bne_iff_ne, Bool.not_eq_true', beq_eq_false_iff_ne, ne_eq, Bool.false_eq_true, false_iff, true_iff, iff_true, iff_false, not_and, not_or, and_true, true_and, Bool.and_false, and_false, not_false_eq_true, implies_true, true_or, false_or, or_true] at *
            try omega
      · have hb2i : ¬ ((ib : Int) ≤ 2) := by omega
        first
          | (exfalso
             omega)
          | (go_wp2_with fail
             go_ret
             rw [HM.out]
             refine ⟨congrArg (fun b => Ending.returned (Value.bool b)) ?_, hkw2⟩
             simp [hb2])
  · have hd : decide (x3 ≠ 0) = true := by simp [hx3]
    rw [hd] at HM ⊢
    clear c0 c1
    have hkx : Keep No w w1 := by first | exact hk0 | exact (hk0.trans' hkA) | exact (hk0.trans' hkA).trans' hkB
    have a0 := hBX.cell 0
    have a1 := hBX.cell 1
    have a2 := hBX.cell 2
    have a3 := hBX.cell 3
    have a4 := hBX.cell 4
    have a5 := hBX.cell 5
    go_wp2_with fail
    refine (hbind w1).mono ?_
    rintro e w2 ⟨rfl, hk2⟩
    have hB2 := hBX.keep hk2 fun h => h
    have hL2 := hLX.no hk2
    have hkw2 := hkx.trans' hk2
    clear hBX hLX a0 a1 a2 a3 a4 a5
    have d0 := hB2.cell 0
    have d1 := hB2.cell 1
    have d2 := hB2.cell 2
    have d3 := hB2.cell 3
    have d4 := hB2.cell 4
    have d5 := hB2.cell 5
    by_cases hb2 : ib ≤ 2
    · have hb2i : (ib : Int) ≤ 2 := by omega
      go_wp2_with fail
      refine (hkind w2).mono ?_
      rintro e w3 ⟨rfl, hk3⟩
      have hB3 := hB2.keep hk3 fun h => h
      have hL3 := hL2.no hk3
      clear hB2 hL2 d0 d1 d2 d3 d4 d5
      go_wp2_with fail
      have hh := hasI_any _ ik hL3
      rw [hkk] at hh
      refine hh.mono ?_
      clear hh
      rintro e w4 ⟨rfl, hk4⟩
      have hB4 := hB3.keep hk4 fun h => h
      have d0 := hB4.cell 0
      have d2 := hB4.cell 2
      have d3 := hB4.cell 3
      have hkF := (hkw2.trans' hk3).trans' hk4
      clear hB3 hB4 hL3 hbind hkind hdef hk0
      cases hkb : decide (ik = 0 ∨ ik = 1 ∨ ik = 2 ∨ ik = 6) with
      | false =>
        rw [hkb] at HM
        clear d0 d2 d3
        go_wp2_with fail
        go_ret
        rw [HM.out]
        exact ⟨by simp, hkF⟩
      | true =>
        rw [hkb] at HM
        go_wp2_with fail
        all_goals
          go_ret
          rw [HM.out]
          refine ⟨congrArg (fun b => Ending.returned (Value.bool b)) ?_, hkF⟩
          clear d0 d2 d3 HM
          rw [Bool.eq_iff_iff]
          simp only [Bool.and_eq_true, Bool.or_eq_true, Bool.and_true, Bool.true_and, decide_eq_true_eq, beq_iff_eq, bne_iff_ne, Bool.not_eq_true', beq_eq_false_iff_ne, ne_eq, Bool.false_eq_true, false_iff, true_iff, iff_true, iff_false, not_and, not_or, and_true, true_and, Bool.and_false, and_false, not_false_eq_true, implies_true, true_or, false_or, or_true] at *
          try omega
    · have hb2i : ¬ ((ib : Int) ≤ 2) := by omega
      first
        | (exfalso
           omega)
        | (go_wp2_with fail
           go_ret
           rw [HM.out]
           refine ⟨congrArg (fun b => Ending.returned (Value.bool b)) ?_, hkw2⟩
           simp [hb2])
end
end Go.Proofs.Ytbnahidopemkiaa
