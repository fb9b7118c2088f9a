/- Load and Tidy, walked. Names in rising order, one behind the other: no program. FilesTidies: files as lists: no program. No condition. -/
import Derived.Test.YtkmoomgmmhmaeaaFileP
import Derived.Test.YtkmoomgmmhmaeaaFileM
namespace Go.Proofs.Ytkmoomgmmhmaeaa
open Go.RowKit Go.Dm Go.Dm.Dk

set_option maxRecDepth 100000 in
set_option maxHeartbeats 1000000 in
theorem fload_bad {w : World} {d : Nat} (s : List UInt8) (hmay : mayF s = false) :
    Calls Try.prog 31 #[ptrTo d, .string ⟨s.toArray⟩] w fun e w' => e = .returned (.tuple #[.slice none 0 0, .int .i64 1]) ∧ w = w' := by
  unfold ptrTo
  have HM := Lib.hid hmay
  clear hmay
  go_enter Try.func31, Try.ntmps31
  go_wp2_with (first | (at_builtin; refine wl_append rfl _ _ _ _ rfl _ _ rfl rfl ?_) | (at_make; refine wl_make rfl _ _ _ rfl _ _ rfl rfl ?_) | (at_mapUpdate; refine wl_mapUpdate rfl _ _ _ _ rfl _ _ _ rfl rfl rfl ?_) | (at_lookup; refine wl_lookup rfl _ _ _ _ rfl _ _ rfl rfl ?_) | (at_delete; refine wl_delete rfl _ _ _ _ rfl _ _ rfl rfl ?_) | (with_reducible refine wl_len rfl _ _ rfl _ rfl ?_) | (with_reducible refine wl_range rfl _ _ rfl _ rfl ?_) | (with_reducible refine wl_next rfl _ rfl _ rfl ?_) | (with_reducible refine wl_copy rfl _ _ _ _ rfl _ _ rfl rfl ?_) | (with_reducible refine wl_max rfl _ _ _ _ rfl _ _ rfl rfl ?_) | (with_reducible refine wl_min rfl _ _ _ _ rfl _ _ rfl rfl ?_))
  refine (fmay_any d s _).mono ?_
  rintro e x ⟨rfl, rfl⟩
  rw [HM.out]
  go_wp2_with (first | (at_builtin; refine wl_append rfl _ _ _ _ rfl _ _ rfl rfl ?_) | (at_make; refine wl_make rfl _ _ _ rfl _ _ rfl rfl ?_) | (at_mapUpdate; refine wl_mapUpdate rfl _ _ _ _ rfl _ _ _ rfl rfl rfl ?_) | (at_lookup; refine wl_lookup rfl _ _ _ _ rfl _ _ rfl rfl ?_) | (at_delete; refine wl_delete rfl _ _ _ _ rfl _ _ rfl rfl ?_) | (with_reducible refine wl_len rfl _ _ rfl _ rfl ?_) | (with_reducible refine wl_range rfl _ _ rfl _ rfl ?_) | (with_reducible refine wl_next rfl _ rfl _ rfl ?_) | (with_reducible refine wl_copy rfl _ _ _ _ rfl _ _ rfl rfl ?_) | (with_reducible refine wl_max rfl _ _ _ _ rfl _ _ rfl rfl ?_) | (with_reducible refine wl_min rfl _ _ _ _ rfl _ _ rfl rfl ?_))
  go_ret2
  exact ⟨rfl, rfl⟩
set_option maxRecDepth 100000 in
set_option maxHeartbeats 1000000 in
theorem fload_ok {P : Nat → Prop} {w : World} {d n N : Nat} {m : M} (s : List UInt8) (h : Own P w d m) (hm : Small m n N) (hN : N ≤ 1000000) (hs : s.length ≤ 1000) (hmay : mayF s = true) :
    Calls Try.prog 31 #[ptrTo d, .string ⟨s.toArray⟩] w fun e w' => ∃ v', e = .returned (.tuple #[v', .int .i64 ((readE m s : Nat) : Int)]) ∧ w'.ownsRow w.heap.size 5 1 v' (readB m s).length ((readB m s).map bv) ∧ Keep No w w' := by
  unfold ptrTo
  have HM := Lib.hid hmay
  clear hmay
  go_enter Try.func31, Try.ntmps31
  go_wp2_with (first | (at_builtin; refine wl_append rfl _ _ _ _ rfl _ _ rfl rfl ?_) | (at_make; refine wl_make rfl _ _ _ rfl _ _ rfl rfl ?_) | (at_mapUpdate; refine wl_mapUpdate rfl _ _ _ _ rfl _ _ _ rfl rfl rfl ?_) | (at_lookup; refine wl_lookup rfl _ _ _ _ rfl _ _ rfl rfl ?_) | (at_delete; refine wl_delete rfl _ _ _ _ rfl _ _ rfl rfl ?_) | (with_reducible refine wl_len rfl _ _ rfl _ rfl ?_) | (with_reducible refine wl_range rfl _ _ rfl _ rfl ?_) | (with_reducible refine wl_next rfl _ rfl _ rfl ?_) | (with_reducible refine wl_copy rfl _ _ _ _ rfl _ _ rfl rfl ?_) | (with_reducible refine wl_max rfl _ _ _ _ rfl _ _ rfl rfl ?_) | (with_reducible refine wl_min rfl _ _ _ _ rfl _ _ rfl rfl ?_))
  refine (fmay_any d s _).mono ?_
  rintro e x ⟨rfl, rfl⟩
  rw [HM.out]
  go_wp2_with (first | (at_builtin; refine wl_append rfl _ _ _ _ rfl _ _ rfl rfl ?_) | (at_make; refine wl_make rfl _ _ _ rfl _ _ rfl rfl ?_) | (at_mapUpdate; refine wl_mapUpdate rfl _ _ _ _ rfl _ _ _ rfl rfl rfl ?_) | (at_lookup; refine wl_lookup rfl _ _ _ _ rfl _ _ rfl rfl ?_) | (at_delete; refine wl_delete rfl _ _ _ _ rfl _ _ rfl rfl ?_) | (with_reducible refine wl_len rfl _ _ rfl _ rfl ?_) | (with_reducible refine wl_range rfl _ _ rfl _ rfl ?_) | (with_reducible refine wl_next rfl _ rfl _ rfl ?_) | (with_reducible refine wl_copy rfl _ _ _ _ rfl _ _ rfl rfl ?_) | (with_reducible refine wl_max rfl _ _ _ _ rfl _ _ rfl rfl ?_) | (with_reducible refine wl_min rfl _ _ _ _ rfl _ _ rfl rfl ?_))
  refine (read_own s h hm hN hs).mono ?_
  rintro e w' ⟨v', rfl, h1, h2⟩
  go_wp2_with (first | (at_builtin; refine wl_append rfl _ _ _ _ rfl _ _ rfl rfl ?_) | (at_make; refine wl_make rfl _ _ _ rfl _ _ rfl rfl ?_) | (at_mapUpdate; refine wl_mapUpdate rfl _ _ _ _ rfl _ _ _ rfl rfl rfl ?_) | (at_lookup; refine wl_lookup rfl _ _ _ _ rfl _ _ rfl rfl ?_) | (at_delete; refine wl_delete rfl _ _ _ _ rfl _ _ rfl rfl ?_) | (with_reducible refine wl_len rfl _ _ rfl _ rfl ?_) | (with_reducible refine wl_range rfl _ _ rfl _ rfl ?_) | (with_reducible refine wl_next rfl _ rfl _ rfl ?_) | (with_reducible refine wl_copy rfl _ _ _ _ rfl _ _ rfl rfl ?_) | (with_reducible refine wl_max rfl _ _ _ _ rfl _ _ rfl rfl ?_) | (with_reducible refine wl_min rfl _ _ _ _ rfl _ _ rfl rfl ?_))
  go_ret2
  exact ⟨_, rfl, h1, h2⟩

set_option maxRecDepth 100000 in
set_option maxHeartbeats 1000000 in
theorem ftidy_nil (w : World) : Calls Try.prog 30 #[.pointer none] w fun e w' => e = .returned (.int .i64 1) ∧ Keep No w w' := by
  go_enter Try.func30, Try.ntmps30
  go_wp2_with (first | (at_builtin; refine wl_append rfl _ _ _ _ rfl _ _ rfl rfl ?_) | (at_make; refine wl_make rfl _ _ _ rfl _ _ rfl rfl ?_) | (at_mapUpdate; refine wl_mapUpdate rfl _ _ _ _ rfl _ _ _ rfl rfl rfl ?_) | (at_lookup; refine wl_lookup rfl _ _ _ _ rfl _ _ rfl rfl ?_) | (at_delete; refine wl_delete rfl _ _ _ _ rfl _ _ rfl rfl ?_) | (with_reducible refine wl_len rfl _ _ rfl _ rfl ?_) | (with_reducible refine wl_range rfl _ _ rfl _ rfl ?_) | (with_reducible refine wl_next rfl _ rfl _ rfl ?_) | (with_reducible refine wl_copy rfl _ _ _ _ rfl _ _ rfl rfl ?_) | (with_reducible refine wl_max rfl _ _ _ _ rfl _ _ rfl rfl ?_) | (with_reducible refine wl_min rfl _ _ _ _ rfl _ _ rfl rfl ?_))
  go_ret
  exact ⟨rfl, (Keep.refl _ _).alloc _⟩

def NmOk (m : M) : Prop := ∀ p ∈ m.L, p.1.length ≤ 64
set_option maxRecDepth 100000 in
set_option maxHeartbeats 4000000 in
theorem ftidy_any {P : Nat → Prop} {w : World} {d n N : Nat} {m : M} (h : Own P w d m) (hP : ∀ k, w.heap.size ≤ k → P k) (hm : Small m n N) (hn : 2 * n + 1 ≤ 100000) (hN : N + 64 * (n + 1) ≤ 1000000) (hnm : NmOk m) :
    Calls Try.prog 30 #[ptrTo d] w fun e w' => e = .returned (.int .i64 ((tidyD m).2 : Nat)) ∧ Own P w' d (tidyD m).1 ∧ Keep P w w' := by
  have hNn : (namesOf m).length ≤ n := by
    have h1 : (namesOf m).Perm (m.L.map (·.1)) := List.mergeSort_perm _ _
    rw [h1.length_eq, List.length_map]; exact hm.L
  have hNo : ∀ s ∈ namesOf m, s.length ≤ 64 := by
    intro s hs
    have h1 : (namesOf m).Perm (m.L.map (·.1)) := List.mergeSort_perm _ _
    obtain ⟨p, hp, rfl⟩ := List.mem_map.1 (h1.mem_iff.1 hs)
    exact hnm p hp
  have hT : tidyD m = if tidyS (namesOf m) = [] then (m, 0) else runS m (tidyS (namesOf m) ++ [⟨6, [], [], 0, []⟩]) := rfl
  have HT := Lib.hid hT
  clear hT
  unfold ptrTo
  go_enter Try.func30, Try.ntmps30
  go_wp2_with (first | (at_builtin; refine wl_append rfl _ _ _ _ rfl _ _ rfl rfl ?_) | (at_make; refine wl_make rfl _ _ _ rfl _ _ rfl rfl ?_) | (at_mapUpdate; refine wl_mapUpdate rfl _ _ _ _ rfl _ _ _ rfl rfl rfl ?_) | (at_lookup; refine wl_lookup rfl _ _ _ _ rfl _ _ rfl rfl ?_) | (at_delete; refine wl_delete rfl _ _ _ _ rfl _ _ rfl rfl ?_) | (with_reducible refine wl_len rfl _ _ rfl _ rfl ?_) | (with_reducible refine wl_range rfl _ _ rfl _ rfl ?_) | (with_reducible refine wl_next rfl _ rfl _ rfl ?_) | (with_reducible refine wl_copy rfl _ _ _ _ rfl _ _ rfl rfl ?_) | (with_reducible refine wl_max rfl _ _ _ _ rfl _ _ rfl rfl ?_) | (with_reducible refine wl_min rfl _ _ _ _ rfl _ _ rfl rfl ?_))
  have hkW : Keep No w (w.alloc (.cells #[.pointer (some ⟨d, 0, none⟩)] 23)) := (Keep.refl _ _).alloc _
  have hBW : Blk (w.alloc (.cells #[.pointer (some ⟨d, 0, none⟩)] 23)) w.heap.size #[.pointer (some ⟨d, 0, none⟩)] 23 := Blk.new _ _ _
  have hzW : (w.alloc (.cells #[.pointer (some ⟨d, 0, none⟩)] 23)).heap.size = w.heap.size + 1 := World.size_alloc _ _
  generalize w.alloc (.cells #[.pointer (some ⟨d, 0, none⟩)] 23) = W at *
  have c1 := hBW.cell
  go_wp2_with (first | (at_builtin; refine wl_append rfl _ _ _ _ rfl _ _ rfl rfl ?_) | (at_make; refine wl_make rfl _ _ _ rfl _ _ rfl rfl ?_) | (at_mapUpdate; refine wl_mapUpdate rfl _ _ _ _ rfl _ _ _ rfl rfl rfl ?_) | (at_lookup; refine wl_lookup rfl _ _ _ _ rfl _ _ rfl rfl ?_) | (at_delete; refine wl_delete rfl _ _ _ _ rfl _ _ rfl rfl ?_) | (with_reducible refine wl_len rfl _ _ rfl _ rfl ?_) | (with_reducible refine wl_range rfl _ _ rfl _ rfl ?_) | (with_reducible refine wl_next rfl _ rfl _ rfl ?_) | (with_reducible refine wl_copy rfl _ _ _ _ rfl _ _ rfl rfl ?_) | (with_reducible refine wl_max rfl _ _ _ _ rfl _ _ rfl rfl ?_) | (with_reducible refine wl_min rfl _ _ _ _ rfl _ _ rfl rfl ?_))
  refine (names_own (h.keep hkW fun _ _ h => h) hm (by omega)).mono ?_
  rintro e wN ⟨vn, rfl, hvn, kN⟩
  replace hBW := hBW.keep kN fun h => h
  replace hkW := hkW.trans' kN
  have hbase := hkW.size
  have hvn2 : Sl (fun j => j < wN.heap.size) wN 1 vn (namesOf m).length ((namesOf m).map encStr) := Sl.mono (Sl.of_own hvn) fun j hj _ => hj
  obtain ⟨an, cn, rfl, _, _⟩ := hvn2.shape
  clear kN hvn hzW c1
  go_wp2_with (first | (at_builtin; refine wl_append rfl _ _ _ _ rfl _ _ rfl rfl ?_) | (at_make; refine wl_make rfl _ _ _ rfl _ _ rfl rfl ?_) | (at_mapUpdate; refine wl_mapUpdate rfl _ _ _ _ rfl _ _ _ rfl rfl rfl ?_) | (at_lookup; refine wl_lookup rfl _ _ _ _ rfl _ _ rfl rfl ?_) | (at_delete; refine wl_delete rfl _ _ _ _ rfl _ _ rfl rfl ?_) | (with_reducible refine wl_len rfl _ _ rfl _ rfl ?_) | (with_reducible refine wl_range rfl _ _ rfl _ rfl ?_) | (with_reducible refine wl_next rfl _ rfl _ rfl ?_) | (with_reducible refine wl_copy rfl _ _ _ _ rfl _ _ rfl rfl ?_) | (with_reducible refine wl_max rfl _ _ _ _ rfl _ _ rfl rfl ?_) | (with_reducible refine wl_min rfl _ _ _ _ rfl _ _ rfl rfl ?_))
  go_loopw [3, 11] (fun ov iv wr => ∃ (k : Nat) (vs : List Value), iv = .int .i64 k ∧ k ≤ (namesOf m).length ∧ FlO wr wN.heap.size 102 1 encV ov vs ∧ Steps No w wr d vs (tidyS ((namesOf m).take k)) ∧ vs.length ≤ k ∧ Keep (fun j => wN.heap.size ≤ j) wN wr) (fun _ iv _ => (namesOf m).length - (intOf iv).toNat)
  case atStart => exact ⟨0, [], rfl, Nat.zero_le _, FlO.nil, Steps.nil, Nat.le_refl _, Keep.refl _ _⟩
  case round =>
    obtain ⟨k, vs, rfl, hk, ho, hst, hvl, hK⟩ := hrel
    have hB1 := hBW.keep hK fun h => absurd h (Nat.not_le.2 hBW.lt)
    have c1 := hB1.cell
    obtain ⟨ao, co, rfl, _, _⟩ := ho.fl.shape
    rcases Nat.lt_or_ge k (namesOf m).length with hkl | hkl
    · obtain ⟨g, off, cap, e, hg, hgl, _, _, hcell⟩ := hvn2.at (Nat.lt_of_le_of_lt (Nat.zero_le k) hkl)
      cases e
      have q := (hK.cell (p := ⟨g, off + k, none⟩) hgl (fun h => absurd h (Nat.not_le.2 hgl))).trans (hcell k (encStr (namesOf m)[k]) (by rw [List.getElem?_map, List.getElem?_eq_getElem hkl]; rfl))
      have hfl : tidyS ((namesOf m).take (k + 1)) = tidyS ((namesOf m).take k) ++ if isDraft (namesOf m)[k] then [⟨5, (namesOf m)[k], [], 0, []⟩] else [] := by
        unfold tidyS
        rw [List.take_succ_eq_append_getElem hkl, List.filter_append, List.map_append]
        congr 1
        by_cases e : isDraft (namesOf m)[k] = true
        · simp [e]
        · simp [e]
      unfold encStr at q
      have hkl' : (k : Int) < ((namesOf m).length : Int) := by omega
      have HF := Lib.hid hfl
      clear hcell hfl
      generalize (namesOf m)[k] = nk at *
      go_wp2_with (first | (at_builtin; refine wl_append rfl _ _ _ _ rfl _ _ rfl rfl ?_) | (at_make; refine wl_make rfl _ _ _ rfl _ _ rfl rfl ?_) | (at_mapUpdate; refine wl_mapUpdate rfl _ _ _ _ rfl _ _ _ rfl rfl rfl ?_) | (at_lookup; refine wl_lookup rfl _ _ _ _ rfl _ _ rfl rfl ?_) | (at_delete; refine wl_delete rfl _ _ _ _ rfl _ _ rfl rfl ?_) | (with_reducible refine wl_len rfl _ _ rfl _ rfl ?_) | (with_reducible refine wl_range rfl _ _ rfl _ rfl ?_) | (with_reducible refine wl_next rfl _ rfl _ rfl ?_) | (with_reducible refine wl_copy rfl _ _ _ _ rfl _ _ rfl rfl ?_) | (with_reducible refine wl_max rfl _ _ _ _ rfl _ _ rfl rfl ?_) | (with_reducible refine wl_min rfl _ _ _ _ rfl _ _ rfl rfl ?_))
      have hkX : Keep No wr (wr.alloc (.cells #[.string ⟨nk.toArray⟩] 9)) := (Keep.refl _ _).alloc _
      have hBX : Blk (wr.alloc (.cells #[.string ⟨nk.toArray⟩] 9)) wr.heap.size #[.string ⟨nk.toArray⟩] 9 := Blk.new _ _ _
      have hzX : (wr.alloc (.cells #[.string ⟨nk.toArray⟩] 9)).heap.size = wr.heap.size + 1 := World.size_alloc _ _
      generalize wr.alloc (.cells #[.string ⟨nk.toArray⟩] 9) = X at *
      have hwr : w.heap.size ≤ wr.heap.size := Nat.le_trans hbase hK.size
      have hwN : wN.heap.size ≤ wr.heap.size := hK.size
      have hKX := hK.trans' (hkX.mono fun _ _ h => h.elim)
      replace ho := FlO.no ho hkX
      replace hst := hst.keep hwr hkX fun _ _ h => h
      replace hB1 := hB1.keep hkX fun h => h
      have cX := hBX.cell
      clear hK hkX hzX c1 q
      have c1 := hB1.cell
      refine (draft_any nk _).mono ?_
      rintro e x ⟨rfl, rfl⟩
      cases hdr : isDraft nk with
      | false =>
        go_wp2_with (first | (at_builtin; refine wl_append rfl _ _ _ _ rfl _ _ rfl rfl ?_) | (at_make; refine wl_make rfl _ _ _ rfl _ _ rfl rfl ?_) | (at_mapUpdate; refine wl_mapUpdate rfl _ _ _ _ rfl _ _ _ rfl rfl rfl ?_) | (at_lookup; refine wl_lookup rfl _ _ _ _ rfl _ _ rfl rfl ?_) | (at_delete; refine wl_delete rfl _ _ _ _ rfl _ _ rfl rfl ?_) | (with_reducible refine wl_len rfl _ _ rfl _ rfl ?_) | (with_reducible refine wl_range rfl _ _ rfl _ rfl ?_) | (with_reducible refine wl_next rfl _ rfl _ rfl ?_) | (with_reducible refine wl_copy rfl _ _ _ _ rfl _ _ rfl rfl ?_) | (with_reducible refine wl_max rfl _ _ _ _ rfl _ _ rfl rfl ?_) | (with_reducible refine wl_min rfl _ _ _ _ rfl _ _ rfl rfl ?_))
        go_roundw
        case rel => exact ⟨k + 1, vs, by go_num, hkl, ho, by rw [HF.out, hdr]; simpa using hst, by omega, hKX⟩
        case measure => simp [intOf]; omega
      | true =>
        go_wp2_with (first | (at_builtin; refine wl_append rfl _ _ _ _ rfl _ _ rfl rfl ?_) | (at_make; refine wl_make rfl _ _ _ rfl _ _ rfl rfl ?_) | (at_mapUpdate; refine wl_mapUpdate rfl _ _ _ _ rfl _ _ _ rfl rfl rfl ?_) | (at_lookup; refine wl_lookup rfl _ _ _ _ rfl _ _ rfl rfl ?_) | (at_delete; refine wl_delete rfl _ _ _ _ rfl _ _ rfl rfl ?_) | (with_reducible refine wl_len rfl _ _ rfl _ rfl ?_) | (with_reducible refine wl_range rfl _ _ rfl _ rfl ?_) | (with_reducible refine wl_next rfl _ rfl _ rfl ?_) | (with_reducible refine wl_copy rfl _ _ _ _ rfl _ _ rfl rfl ?_) | (with_reducible refine wl_max rfl _ _ _ _ rfl _ _ rfl rfl ?_) | (with_reducible refine wl_min rfl _ _ _ _ rfl _ _ rfl rfl ?_))
        refine rg_steps (n := 1) (Steps.one (s := ⟨5, nk, [], 0, []⟩) (.inl ⟨_, _, _, nk, rfl, .inr rfl, rfl, FB.box hB1 (by decide) (Nat.le_refl _), FB.box hBX (by decide) hwr, hB1, hBX⟩)) hst ho hbase hKX.size rfl (by omega) ?_
        intro v' w2 ho2 hst2 hk2 _
        have hK2 := hKX.trans' hk2
        clear hKX hk2 ho hst hB1 hBX c1 cX
        obtain ⟨ao2, co2, rfl, _, _⟩ := ho2.fl.shape
        go_wp2_with (first | (at_builtin; refine wl_append rfl _ _ _ _ rfl _ _ rfl rfl ?_) | (at_make; refine wl_make rfl _ _ _ rfl _ _ rfl rfl ?_) | (at_mapUpdate; refine wl_mapUpdate rfl _ _ _ _ rfl _ _ _ rfl rfl rfl ?_) | (at_lookup; refine wl_lookup rfl _ _ _ _ rfl _ _ rfl rfl ?_) | (at_delete; refine wl_delete rfl _ _ _ _ rfl _ _ rfl rfl ?_) | (with_reducible refine wl_len rfl _ _ rfl _ rfl ?_) | (with_reducible refine wl_range rfl _ _ rfl _ rfl ?_) | (with_reducible refine wl_next rfl _ rfl _ rfl ?_) | (with_reducible refine wl_copy rfl _ _ _ _ rfl _ _ rfl rfl ?_) | (with_reducible refine wl_max rfl _ _ _ _ rfl _ _ rfl rfl ?_) | (with_reducible refine wl_min rfl _ _ _ _ rfl _ _ rfl rfl ?_))
        go_roundw
        case rel => exact ⟨k + 1, _, by go_num, hkl, ho2, by rw [HF.out, hdr]; exact hst2, by simp only [List.length_append, List.length_singleton]; omega, hK2⟩
        case measure => simp [intOf]; omega
    · obtain rfl : k = (namesOf m).length := Nat.le_antisymm hk hkl
      rw [List.take_length] at hst
      have hw1 : w.heap.size ≤ wr.heap.size := Nat.le_trans hbase hK.size
      have hKw : Keep No w wr := hkW.trans hK fun j hj hb => absurd (Nat.le_trans hbase hb) (Nat.not_le.2 hj)
      have hlE := hst.len
      by_cases hnil : tidyS (namesOf m) = []
      · have hv0 : vs = [] := List.eq_nil_of_length_eq_zero (by rw [hlE, hnil]; rfl)
        subst hv0
        have e1 : tidyD m = (m, 0) := by rw [HT.out, if_pos hnil]
        have E1 := Lib.hid e1
        clear e1 hlE hst ho
        go_wp2_with (first | (at_builtin; refine wl_append rfl _ _ _ _ rfl _ _ rfl rfl ?_) | (at_make; refine wl_make rfl _ _ _ rfl _ _ rfl rfl ?_) | (at_mapUpdate; refine wl_mapUpdate rfl _ _ _ _ rfl _ _ _ rfl rfl rfl ?_) | (at_lookup; refine wl_lookup rfl _ _ _ _ rfl _ _ rfl rfl ?_) | (at_delete; refine wl_delete rfl _ _ _ _ rfl _ _ rfl rfl ?_) | (with_reducible refine wl_len rfl _ _ rfl _ rfl ?_) | (with_reducible refine wl_range rfl _ _ rfl _ rfl ?_) | (with_reducible refine wl_next rfl _ rfl _ rfl ?_) | (with_reducible refine wl_copy rfl _ _ _ _ rfl _ _ rfl rfl ?_) | (with_reducible refine wl_max rfl _ _ _ _ rfl _ _ rfl rfl ?_) | (with_reducible refine wl_min rfl _ _ _ _ rfl _ _ rfl rfl ?_))
        go_ret
        rw [E1.out]
        exact ⟨rfl, Own.keep h hKw fun _ _ h => h, hKw.mono fun _ _ h => h.elim⟩
      · have e1 : tidyD m = runS m (tidyS (namesOf m) ++ [⟨6, [], [], 0, []⟩]) := by rw [HT.out, if_neg hnil]
        have E1 := Lib.hid e1
        have hv0 : vs.length ≠ 0 := fun e => hnil (List.eq_nil_of_length_eq_zero (by rw [← hlE]; exact e))
        have hv0' : ((vs.length : Int) == 0) = false := by simpa using hv0
        clear e1
        have hok : ∀ c ∈ tidyS (namesOf m) ++ [⟨6, [], [], 0, []⟩], ClOk c := by
          intro c hc
          rcases List.mem_append.1 hc with hc | hc
          · obtain ⟨s, hs, rfl⟩ := List.mem_map.1 hc
            exact ⟨hNo s (List.mem_filter.1 hs).1, by simp, by simp⟩
          · simp only [List.mem_singleton] at hc
            subst hc
            exact ⟨by simp, by simp, by simp⟩
        clear hnil hlE
        go_wp2_with (first | (at_builtin; refine wl_append rfl _ _ _ _ rfl _ _ rfl rfl ?_) | (at_make; refine wl_make rfl _ _ _ rfl _ _ rfl rfl ?_) | (at_mapUpdate; refine wl_mapUpdate rfl _ _ _ _ rfl _ _ _ rfl rfl rfl ?_) | (at_lookup; refine wl_lookup rfl _ _ _ _ rfl _ _ rfl rfl ?_) | (at_delete; refine wl_delete rfl _ _ _ _ rfl _ _ rfl rfl ?_) | (with_reducible refine wl_len rfl _ _ rfl _ rfl ?_) | (with_reducible refine wl_range rfl _ _ rfl _ rfl ?_) | (with_reducible refine wl_next rfl _ rfl _ rfl ?_) | (with_reducible refine wl_copy rfl _ _ _ _ rfl _ _ rfl rfl ?_) | (with_reducible refine wl_max rfl _ _ _ _ rfl _ _ rfl rfl ?_) | (with_reducible refine wl_min rfl _ _ _ _ rfl _ _ rfl rfl ?_))
        refine rg_steps (n := 1) (Steps.one (s := ⟨6, [], [], 0, []⟩) (.inr (.inl ⟨rfl, rfl⟩))) hst ho hbase hK.size rfl (by omega) ?_
        intro v' w4 ho4 hst4 hk4 _
        have hK4 := hK.trans' hk4
        have hlE := hst4.len
        have hlv : (vs ++ [Value.func (.func 16) #[ptrTo d] #[]]).length ≤ n + 1 := by rw [List.length_append]; simp; omega
        generalize vs ++ [Value.func (.func 16) #[ptrTo d] #[]] = zs at *
        clear hK hk4 ho hst hB1 c1
        generalize tidyS (namesOf m) ++ [⟨6, [], [], 0, []⟩] = L at *
        have hw4 : w.heap.size ≤ w4.heap.size := Nat.le_trans hbase hK4.size
        have hKw4 : Keep No w w4 := hkW.trans hK4 fun j hj hb => absurd (Nat.le_trans hbase hb) (Nat.not_le.2 hj)
        have hsl : Sl (fun j => w.heap.size ≤ j ∧ j < w4.heap.size) w4 1 v' L.length zs := by
          have h1 := Sl.of_own ho4
          rw [encV_map hst4.fn, hlE] at h1
          exact Sl.mono h1 fun j hj ha => ⟨Nat.le_trans hbase ha.1, hj⟩
        have hst5 : ∀ (i : Nat) (v : Value) (c : Cl), zs[i]? = some v → L[i]? = some c → StepAt (fun j => w.heap.size ≤ j ∧ j < w4.heap.size) w4 d v c := fun i v c hv hc => (hst4.at_ i v c hv hc).mono fun j _ hf => by
          rcases hf with hf | hf
          · exact hf.1.elim
          · exact ⟨hf.1, hf.2.1⟩
        have hO4 : Own (fun j => (P j ∧ j < w.heap.size) ∨ w4.heap.size ≤ j) w4 d m := by
          have h1 : DR (fun k => P k ∧ k < w.heap.size) w d m := h
          exact (DR.keep h1 (fun k hk => hk.2) hKw4 fun _ _ h => h).mono fun k hk ha => ⟨.inl ha, hk⟩
        obtain ⟨az, cz, rfl, _, _⟩ := hsl.shape
        clear hv0 hv0'
        go_wp2_with (first | (at_builtin; refine wl_append rfl _ _ _ _ rfl _ _ rfl rfl ?_) | (at_make; refine wl_make rfl _ _ _ rfl _ _ rfl rfl ?_) | (at_mapUpdate; refine wl_mapUpdate rfl _ _ _ _ rfl _ _ _ rfl rfl rfl ?_) | (at_lookup; refine wl_lookup rfl _ _ _ _ rfl _ _ rfl rfl ?_) | (at_delete; refine wl_delete rfl _ _ _ _ rfl _ _ rfl rfl ?_) | (with_reducible refine wl_len rfl _ _ rfl _ rfl ?_) | (with_reducible refine wl_range rfl _ _ rfl _ rfl ?_) | (with_reducible refine wl_next rfl _ rfl _ rfl ?_) | (with_reducible refine wl_copy rfl _ _ _ _ rfl _ _ rfl rfl ?_) | (with_reducible refine wl_max rfl _ _ _ _ rfl _ _ rfl rfl ?_) | (with_reducible refine wl_min rfl _ _ _ _ rfl _ _ rfl rfl ?_))
        refine (all_any (P := fun j => (P j ∧ j < w.heap.size) ∨ w4.heap.size ≤ j) hsl hst5 hO4 (fun k hk => .inr hk) hm (by omega) (by omega) (fun k hf hp => by
          rcases hp with hp | hp
          · omega
          · omega) hok).mono ?_
        rintro e w5 ⟨rfl, hO5, hK5⟩
        go_wp2_with (first | (at_builtin; refine wl_append rfl _ _ _ _ rfl _ _ rfl rfl ?_) | (at_make; refine wl_make rfl _ _ _ rfl _ _ rfl rfl ?_) | (at_mapUpdate; refine wl_mapUpdate rfl _ _ _ _ rfl _ _ _ rfl rfl rfl ?_) | (at_lookup; refine wl_lookup rfl _ _ _ _ rfl _ _ rfl rfl ?_) | (at_delete; refine wl_delete rfl _ _ _ _ rfl _ _ rfl rfl ?_) | (with_reducible refine wl_len rfl _ _ rfl _ rfl ?_) | (with_reducible refine wl_range rfl _ _ rfl _ rfl ?_) | (with_reducible refine wl_next rfl _ rfl _ rfl ?_) | (with_reducible refine wl_copy rfl _ _ _ _ rfl _ _ rfl rfl ?_) | (with_reducible refine wl_max rfl _ _ _ _ rfl _ _ rfl rfl ?_) | (with_reducible refine wl_min rfl _ _ _ _ rfl _ _ rfl rfl ?_))
        go_ret
        rw [E1.out]
        refine ⟨rfl, DR.mono hO5 fun k hk ha => ⟨?_, ha.2⟩, (hKw4.mono fun _ _ h => h.elim).trans hK5 fun j hj hp => ?_⟩
        · rcases ha.1 with hp | hp
          · exact hp.1
          · exact hP k (Nat.le_trans hw4 hp)
        · rcases hp with hp | hp
          · exact hp.1
          · omega
end Go.Proofs.Ytkmoomgmmhmaeaa
namespace Go.Dm.Dk

theorem str_total (a b : List UInt8) : a ≤ b ∨ b ≤ a := List.le_total a b
theorem str_antisymm {a b : List UInt8} (h1 : a ≤ b) (h2 : b ≤ a) : a = b := List.le_antisymm h1 h2
theorem str_trans {a b c : List UInt8} (h1 : a ≤ b) (h2 : b ≤ c) : a ≤ c := List.le_trans h1 h2
theorem str_lt {a b : List UInt8} : a < b ↔ a ≤ b ∧ a ≠ b := by
  constructor
  · intro h
    exact ⟨List.le_of_lt h, fun e => by subst e; exact List.lt_irrefl _ h⟩
  · rintro ⟨h, hn⟩
    rcases Classical.em (a < b) with h1 | h1
    · exact h1
    · exact absurd (str_antisymm h (List.not_lt.1 h1)) hn
theorem sorted_strict {T : List (List UInt8)} (hn : T.Nodup) : (T.mergeSort fun x y => decide (x ≤ y)).Pairwise (· < ·) := by
  have h1 : (T.mergeSort fun x y => decide (x ≤ y)).Pairwise (fun a b => (decide (a ≤ b)) = true) := List.pairwise_mergeSort (fun a b c h1 h2 => by
      simp only [decide_eq_true_eq] at *; exact str_trans h1 h2) (fun a b => by
      simp only [Bool.or_eq_true, decide_eq_true_eq]; exact str_total a b) T
  have h2 : (T.mergeSort fun x y => decide (x ≤ y)).Nodup := (List.mergeSort_perm T _).nodup_iff.2 hn
  exact (h1.and h2).imp fun ⟨a, b⟩ => str_lt.2 ⟨by simpa using a, b⟩
/-- may a name come next, behind j names? -/
def Cand (S : List (List UInt8)) (j : Nat) (x : List UInt8) : Prop := ∀ y ∈ S.take j, y < x
theorem cand_last {S : List (List UInt8)} (hs : S.Pairwise (· < ·)) {j : Nat} (hj : j < S.length) (x : List UInt8) : Cand S (j + 1) x ↔ S[j] < x := by
  constructor
  · intro h
    refine h _ ?_
    rw [List.take_succ_eq_append_getElem hj]
    exact List.mem_append_right _ (List.mem_singleton.2 rfl)
  · intro h y hy
    rw [List.take_succ_eq_append_getElem hj] at hy
    rcases List.mem_append.1 hy with hy | hy
    · obtain ⟨i, hi, rfl⟩ := List.mem_take_iff_getElem.1 hy
      have h1 : S[i] < S[j] := List.pairwise_iff_getElem.1 hs i j (by omega) hj (by omega)
      exact List.lt_trans h1 h
    · simp only [List.mem_singleton] at hy; rw [hy]; exact h
theorem cand_zero (S : List (List UInt8)) (x : List UInt8) : Cand S 0 x := fun y hy => by simp at hy
theorem cand_at {S : List (List UInt8)} (hs : S.Pairwise (· < ·)) {j : Nat} (hj : j < S.length) : Cand S j S[j] := by
  intro y hy
  obtain ⟨i, hi, rfl⟩ := List.mem_take_iff_getElem.1 hy
  exact List.pairwise_iff_getElem.1 hs i j (by omega) hj (by omega)
theorem cand_min {S : List (List UInt8)} (hs : S.Pairwise (· < ·)) {j : Nat} (hj : j < S.length) {a : List UInt8} (ha : a ∈ S) (hc : Cand S j a) (hm : ∀ x ∈ S, Cand S j x → a ≤ x) : a = S[j] := by
  obtain ⟨k, hk, rfl⟩ := List.mem_iff_getElem.1 ha
  have h1 := hm _ (List.getElem_mem hj) (cand_at hs hj)
  rcases Nat.lt_trichotomy k j with h | h | h
  · have h2 := hc S[k] (List.mem_take_iff_getElem.2 ⟨k, by omega, rfl⟩)
    exact absurd h2 (List.lt_irrefl _)
  · subst h; rfl
  · have h2 : S[j] < S[k] := List.pairwise_iff_getElem.1 hs j k hj hk h
    exact absurd h2 (List.not_lt.2 h1)

/-- the inner loop: of the first i names of L, at the place 'at' is the least that may come next -/
def Least (L : Names) (S : List (List UInt8)) (j i : Nat) (at_ : Int) : Prop :=
  (at_ = -1 ∧ ∀ p ∈ L.take i, ¬ Cand S j p.1) ∨ ∃ a : Nat, at_ = (a : Int) ∧ a < i ∧ ∃ h : a < L.length, Cand S j L[a].1 ∧ ∀ p ∈ L.take i, Cand S j p.1 → L[a].1 ≤ p.1
theorem least_zero (L : Names) (S : List (List UInt8)) (j : Nat) : Least L S j 0 (-1) := .inl ⟨rfl, fun p hp => by simp at hp⟩
theorem least_skip {L : Names} {S : List (List UInt8)} {j i : Nat} {at_ : Int} (hi : i < L.length) (h : Least L S j i at_) (hn : ¬ Cand S j L[i].1 ∨ ∃ a : Nat, at_ = (a : Int) ∧ ∃ h : a < L.length, L[a].1 ≤ L[i].1) : Least L S j (i + 1) at_ := by
  rcases h with ⟨h1, h2⟩ | ⟨a, h1, h2, h3, h4, h5⟩
  · rcases hn with hn | ⟨a, ha, _⟩
    · refine .inl ⟨h1, fun p hp => ?_⟩
      rw [List.take_succ_eq_append_getElem hi] at hp
      rcases List.mem_append.1 hp with hp | hp
      · exact h2 p hp
      · simp only [List.mem_singleton] at hp; rw [hp]; exact hn
    · omega
  · refine .inr ⟨a, h1, by omega, h3, h4, fun p hp hc => ?_⟩
    rw [List.take_succ_eq_append_getElem hi] at hp
    rcases List.mem_append.1 hp with hp | hp
    · exact h5 p hp hc
    · simp only [List.mem_singleton] at hp
      subst hp
      rcases hn with hn | ⟨a', ha, h', hle⟩
      · exact absurd hc hn
      · obtain rfl : a' = a := by omega
        exact hle
theorem least_take {L : Names} {S : List (List UInt8)} {j i : Nat} {at_ : Int} (hi : i < L.length) (h : Least L S j i at_) (hc : Cand S j L[i].1) (hn : at_ = -1 ∨ ∃ a : Nat, at_ = (a : Int) ∧ ∃ h : a < L.length, L[i].1 < L[a].1) : Least L S j (i + 1) i := by
  refine .inr ⟨i, rfl, by omega, hi, hc, fun p hp hcp => ?_⟩
  rw [List.take_succ_eq_append_getElem hi] at hp
  rcases List.mem_append.1 hp with hp | hp
  · rcases h with ⟨h1, h2⟩ | ⟨a, h1, h2, h3, h4, h5⟩
    · exact absurd hcp (h2 p hp)
    · rcases hn with hn | ⟨a', ha, h', hlt⟩
      · omega
      · obtain rfl : a' = a := by omega
        exact str_trans (str_lt.1 hlt).1 (h5 p hp hcp)
  · simp only [List.mem_singleton] at hp; rw [hp]; exact List.le_refl _
theorem least_end {L : Names} {S : List (List UInt8)} (hp : S.Perm (L.map (·.1))) (hs : S.Pairwise (· < ·)) {j : Nat} (hj : j < S.length) {at_ : Int} (h : Least L S j L.length at_) : ∃ a : Nat, at_ = (a : Int) ∧ ∃ h : a < L.length, L[a].1 = S[j] := by
  have hmem : ∀ x, x ∈ S ↔ ∃ p ∈ L, p.1 = x := fun x => by rw [hp.mem_iff, List.mem_map]
  rcases h with ⟨h1, h2⟩ | ⟨a, h1, h2, h3, h4, h5⟩
  · rw [List.take_length] at h2
    obtain ⟨p, hpL, e⟩ := (hmem S[j]).1 (List.getElem_mem hj)
    exact absurd (by rw [e]; exact cand_at hs hj) (h2 p hpL)
  · rw [List.take_length] at h5
    refine ⟨a, h1, h3, cand_min hs hj ((hmem _).2 ⟨_, List.getElem_mem h3, rfl⟩) h4 fun x hx hc => ?_⟩
    obtain ⟨p, hpL, rfl⟩ := (hmem x).1 hx
    exact h5 p hpL hc
end Go.Dm.Dk
namespace Go.Dm.Dk

/-- a file that is made, and written up to its k-th piece -/
def rw1 (room : Nat) (t b : List UInt8) (k : Nat) : M := ⟨room, [b.take (64 * k)], [[]], [(t, 0)], [], ⟨2, 0, 0, [], [], t⟩ :: (List.range k).map (fun j => ⟨1, 0, 64 * j, (b.drop (64 * j)).take 64, [], []⟩), false, 0⟩
theorem laid_take (b : List UInt8) (k : Nat) (h : 64 * k < b.length) : laidB (b.take (64 * k)) (64 * k) ((b.drop (64 * k)).take 64) = b.take (64 * (k + 1)) := by
  have hl : (b.take (64 * k)).length = 64 * k := by rw [List.length_take]; omega
  unfold laidB
  have e0 : splice (List.replicate (max (b.take (64 * k)).length (64 * k + ((b.drop (64 * k)).take 64).length)) (0 : UInt8)) 0 (b.take (64 * k)) = b.take (64 * k) ++ List.replicate ((b.drop (64 * k)).take 64).length 0 := by
    unfold splice
    rw [List.take_zero, List.nil_append, Nat.zero_add, List.drop_replicate, hl]
    congr 2; omega
  rw [e0]
  unfold splice
  rw [List.take_left' hl, List.drop_append, hl]
  have e1 : (b.take (64 * k)).drop (64 * k + ((b.drop (64 * k)).take 64).length) = [] := List.drop_eq_nil_of_le (by omega)
  have e2 : (List.replicate ((b.drop (64 * k)).take 64).length (0 : UInt8)).drop (64 * k + ((b.drop (64 * k)).take 64).length - 64 * k) = [] := List.drop_eq_nil_of_le (by rw [List.length_replicate]; omega)
  rw [e1, e2, List.append_nil, List.append_nil]
  rw [show 64 * (k + 1) = 64 * k + 64 by omega, List.take_add]
theorem rw1_step (room : Nat) (t b : List UInt8) (k : Nat) (h : 64 * k < b.length) (hr : b.length ≤ room) : (writeS t b k).on (rw1 room t b k) = (rw1 room t b (k + 1), 0) := by
  have hl : (b.take (64 * k)).length = 64 * k := by rw [List.length_take]; omega
  have hf : find (rw1 room t b k).L t = some 0 := by simp [rw1, find]
  have hfl : fileLen (rw1 room t b k).is 0 = 64 * k := by simp only [fileLen, rw1, List.getD_cons_zero]; exact hl
  have hu : used (rw1 room t b k) = 64 * k := by simp only [used, rw1, List.map_cons, List.map_nil, List.sum_cons, List.sum_nil]; exact hfl
  have hc : ((b.drop (64 * k)).take 64).length ≤ b.length - 64 * k := by rw [List.length_take, List.length_drop]; omega
  have hown : own (rw1 room t b k) 2 t [] ((64 * k : Nat) : Int) ((b.drop (64 * k)).take 64) = 0 := by
    simp only [own, hf, hfl, hu]
    rw [if_neg (by omega), if_neg]
    rintro ⟨_, h2⟩
    have h3 : ((rw1 room t b k).room : Int) = room := rfl
    rw [h3, Int.toNat_natCast] at h2
    omega
  unfold Cl.on writeS call
  simp only
  rw [hown]
  rw [if_neg (by simp [rw1]), if_neg (by simp), if_neg (by simp [rw1])]
  congr 1
  have e1 : done { rw1 room t b k with cut := (rw1 room t b k).cut - 1 } 2 t [] ((64 * k : Nat) : Int) ((b.drop (64 * k)).take 64) = waitD (rw1 room t b k) ⟨1, 0, 64 * k, (b.drop (64 * k)).take 64, [], []⟩ := by
    simp only [done]
    rw [show find ({ rw1 room t b k with cut := (rw1 room t b k).cut - 1 } : M).L t = some 0 from hf]
    rfl
  rw [e1]
  simp only [waitD, if_pos, rw1, putF, List.getD_cons_zero, laid_take b k h]
  simp [List.range_succ]
theorem rw1_go (room : Nat) (t b : List UInt8) (hr : b.length ≤ room) : ∀ k, k ≤ pieces b.length → runS (rw1 room t b 0) ((List.range k).map (writeS t b)) = (rw1 room t b k, 0)
  | 0, _ => rfl
  | k + 1, h => by
    have h64 : 64 * k < b.length := by unfold pieces at h; omega
    rw [List.range_succ, List.map_append, runS_append, rw1_go room t b hr k (by omega)]
    simp only [if_true]
    rw [List.map_cons, List.map_nil, runS_cons, rw1_step room t b k h64 hr]
    rfl
/-- what is sure, behind a sync of all writes -/
theorem settle_writes (room : Nat) (b : List UInt8) (sel : Nat → Bool) (n : Nat) (hsel : ∀ j, 1 ≤ j → j ≤ pieces b.length → sel j = true) (is : List (List UInt8)) (L S : Names) (wt : List Op) : ∀ k, k ≤ pieces b.length →
    settleGo sel (pieces b.length - k + 1) ((List.range' (pieces b.length - k) k).map (fun j => ⟨1, 0, 64 * j, (b.drop (64 * j)).take 64, [], []⟩)) ⟨room, is, [b.take (64 * (pieces b.length - k))], L, S, wt, false, n⟩ = ⟨room, is, [b], L, S, wt, false, n⟩
  | 0, _ => by
    simp only [List.range'_zero, List.map_nil, settleGo, Nat.sub_zero]
    rw [List.take_of_length_le (by unfold pieces; omega)]
  | k + 1, hk => by
    rw [List.range'_succ, List.map_cons]
    have hp : pieces b.length - (k + 1) + 1 = pieces b.length - k := by omega
    have ih := settle_writes room b sel n hsel is L S wt k (by omega)
    have hs1 : settle1 (sel (pieces b.length - (k + 1) + 1)) ⟨1, 0, 64 * (pieces b.length - (k + 1)), (b.drop (64 * (pieces b.length - (k + 1)))).take 64, [], []⟩ ⟨room, is, [b.take (64 * (pieces b.length - (k + 1)))], L, S, wt, false, n⟩ = ⟨room, is, [b.take (64 * (pieces b.length - k))], L, S, wt, false, n⟩ := by
      unfold settle1
      rw [hsel _ (by omega) (by omega)]
      simp only [Bool.not_true, Bool.false_eq_true, if_false, if_true, putF, List.getD_cons_zero, List.set_cons_zero]
      rw [laid_take b _ (by unfold pieces at hk ⊢; omega), hp]
    show settleGo sel (pieces b.length - (k + 1) + 1 + 1) _ (settle1 _ _ _) = _
    rw [hs1, hp]
    exact ih
def rsure (room : Nat) (s b : List UInt8) : M := ⟨room, [b], [b], [(s, 0)], [(s, 0)], [], false, 0⟩
theorem repl_new (room : Nat) (s b : List UInt8) (hs : mayF s = true) (hr : b.length ≤ room) : replD (Dk.new (room : Int)) s b = (rsure room s b, 0) := by
  have hne : s ≠ [] := by
    intro e; subst e; simp [mayF] at hs
  have ht : newS ++ s ≠ s := fun e => by have := congrArg List.length e; rw [List.length_append] at this; simp [newS] at this
  unfold replD
  rw [if_pos hs]
  have hnm : namesOf (Dk.new (room : Int)) = [] := by simp [namesOf, Dk.new]
  unfold stepsS
  rw [hnm, List.filter_nil, List.flatMap_nil, List.nil_append]
  generalize htt : newS ++ s = t at *
  have htn : t ≠ [] := by rw [← htt]; simp [newS]
  rw [runS_append, runS_append]
  have h1 : runS (Dk.new (room : Int)) [⟨1, t, [], 0, []⟩] = (rw1 room t b 0, 0) := by
    have e1 : (⟨1, t, [], 0, []⟩ : Cl).on (Dk.new (room : Int)) = (rw1 room t b 0, 0) := by
      unfold Cl.on call
      have hown : own (Dk.new (room : Int)) 1 t [] 0 [] = 0 := by simp [own, htn, find, Dk.new]
      simp only
      rw [show ((0 : Nat) : Int) = 0 from rfl, hown, if_neg (by simp [Dk.new]), if_neg (by simp), if_neg (by simp [Dk.new])]
      simp [done, waitD, Dk.new, rw1, namesOp, withN, without]
    rw [runS_cons, e1]; rfl
  rw [h1]
  simp only [if_true]
  have h2 := rw1_go room t b hr (pieces b.length) (Nat.le_refl _)
  unfold writesS
  rw [h2]
  simp only [if_true]
  have hfull : b.take (64 * pieces b.length) = b := List.take_of_length_le (by unfold pieces; omega)
  -- the sync
  have h3 : (⟨3, t, [], 0, []⟩ : Cl).on (rw1 room t b (pieces b.length)) = (⟨room, [b], [b], [(t, 0)], [], [⟨2, 0, 0, [], [], t⟩], false, 0⟩, 0) := by
    unfold Cl.on call
    have hown : own (rw1 room t b (pieces b.length)) 3 t [] ((0 : Nat) : Int) [] = 0 := by simp [own, rw1, find]
    simp only
    rw [hown, if_neg (by simp [rw1]), if_neg (by simp), if_neg (by simp [rw1])]
    congr 1
    simp only [done, settle]
    have hf : (find ({ rw1 room t b (pieces b.length) with cut := (rw1 room t b (pieces b.length)).cut - 1 } : M).L t).getD 0 = 0 := by simp [rw1, find]
    rw [hf]
    show settleGo (fun i => match (rw1 room t b (pieces b.length)).wait[i]? with | some o => o.kind == 1 && o.file == 0 | none => false) 0 (rw1 room t b (pieces b.length)).wait _ = _
    have hsel : ∀ j, 1 ≤ j → j ≤ pieces b.length → (fun i => match (rw1 room t b (pieces b.length)).wait[i]? with | some o => o.kind == 1 && o.file == 0 | none => false) j = true := by
      intro j h1 h2
      obtain ⟨j, rfl⟩ : ∃ i, j = i + 1 := ⟨j - 1, by omega⟩
      simp only [rw1, List.getElem?_cons_succ, List.getElem?_map, List.getElem?_range (show j < pieces b.length by omega), Option.map_some]
      rfl
    have hsel0 : (fun i => match (rw1 room t b (pieces b.length)).wait[i]? with | some o => o.kind == 1 && o.file == 0 | none => false) 0 = false := rfl
    generalize (fun (i : Nat) => match (rw1 room t b (pieces b.length)).wait[i]? with | some (o : Op) => o.kind == 1 && o.file == 0 | none => false) = sel at *
    have h := settle_writes room b sel 0 hsel [b] [(t, 0)] [] [⟨2, 0, 0, [], [], t⟩] (pieces b.length) (Nat.le_refl _)
    rw [Nat.sub_self, Nat.mul_zero, List.take_zero, ← List.range_eq_range'] at h
    simp only [rw1, hfull]
    show settleGo sel (0 + 1) _ (settle1 (sel 0) _ _) = _
    rw [hsel0]
    exact h
  have h4 : runS (rw1 room t b (pieces b.length)) (endS t s) = (rsure room s b, 0) := by
    unfold endS
    rw [runS_cons, h3]
    simp only [if_true]
    have hts : (t == s) = false := by simpa using ht
    have h5 : (⟨4, t, s, 0, []⟩ : Cl).on ⟨room, [b], [b], [(t, 0)], [], [⟨2, 0, 0, [], [], t⟩], false, 0⟩ = (⟨room, [b], [b], [(s, 0)], [], [⟨2, 0, 0, [], [], t⟩, ⟨3, 0, 0, [], t, s⟩], false, 0⟩, 0) := by
      simp [Cl.on, call, own, find, hne, done, waitD, namesOp, withN, without]
    rw [runS_cons, h5]
    simp only [if_true]
    have h6 : (⟨6, [], [], 0, []⟩ : Cl).on ⟨room, [b], [b], [(s, 0)], [], [⟨2, 0, 0, [], [], t⟩, ⟨3, 0, 0, [], t, s⟩], false, 0⟩ = (rsure room s b, 0) := by
      simp [Cl.on, call, own, done, settle, settleGo, settle1, namesOp, withN, without, find, rsure]
    rw [runS_cons, h6]
    rfl
  exact h4

def sa : List UInt8 := [97]
def drafts3 : Nat → List UInt8
  | 0 => [110, 101, 119, 46, 97] | 1 => [110, 101, 119, 46] | _ => [110, 101, 119, 46, 98]
def tdr (b : List UInt8) : Nat → M
  | 0 => rsure 5000 sa b
  | i + 1 => (call (tdr b i) 1 (drafts3 i) [] 0 []).1
theorem tdr_err (b : List UInt8) (i : Nat) (hi : i < 3) : (call (tdr b i) 1 (drafts3 i) [] 0 []).2 = 0 := by
  rcases (by omega : i = 0 ∨ i = 1 ∨ i = 2) with rfl | rfl | rfl <;> rfl
theorem names_unique {m : M} {l : List (List UInt8)} (hp : l.Perm (m.L.map (·.1))) (hs : l.Pairwise (· < ·)) : namesOf m = l := by
  have h1 : (namesOf m).Perm (m.L.map (·.1)) := List.mergeSort_perm _ _
  have hnd : (m.L.map (·.1)).Nodup := hp.nodup_iff.1 (hs.imp fun h e => by subst e; exact List.lt_irrefl _ h)
  have h2 : (namesOf m).Pairwise (· < ·) := sorted_strict hnd
  exact (h1.trans hp.symm).eq_of_pairwise (fun a b _ _ h1 h2 => absurd (List.lt_trans h1 h2) (List.lt_irrefl _)) h2 hs
def tnames : Nat → List (List UInt8)
  | 0 => [sa] | 1 => [sa, drafts3 0] | 2 => [sa, drafts3 1, drafts3 0] | _ => [sa, drafts3 1, drafts3 0, drafts3 2]
theorem tdr_names (b : List UInt8) (i : Nat) (hi : i ≤ 3) : namesOf (tdr b i) = tnames i := by
  rcases (by omega : i = 0 ∨ i = 1 ∨ i = 2 ∨ i = 3) with rfl | rfl | rfl | rfl
  · exact names_unique (show [sa].Perm [sa] from List.Perm.refl _) (by decide)
  · exact names_unique (show [sa, drafts3 0].Perm [sa, drafts3 0] from List.Perm.refl _) (by decide)
  · exact names_unique (show [sa, drafts3 1, drafts3 0].Perm [sa, drafts3 0, drafts3 1] from by decide) (by decide)
  · exact names_unique (show [sa, drafts3 1, drafts3 0, drafts3 2].Perm [sa, drafts3 0, drafts3 1, drafts3 2] from by decide) (by decide)
theorem tdr_tidy (b : List UInt8) (i : Nat) (hi : i ≤ 3) : tidyD (tdr b i) = (⟨5000, b :: List.replicate i [], b :: List.replicate i [], [(sa, 0)], [(sa, 0)], [], false, 0⟩, 0) := by
  unfold tidyD
  rw [tdr_names b i hi]
  rcases (by omega : i = 0 ∨ i = 1 ∨ i = 2 ∨ i = 3) with rfl | rfl | rfl | rfl
  · kernel_rfl
  · kernel_rfl
  · kernel_rfl
  · kernel_rfl
theorem sa_names {m : M} (h : m.L = [(sa, 0)]) : namesOf m = [sa] := names_unique (by rw [h]; exact List.Perm.refl _) (by decide)
end Go.Dm.Dk
