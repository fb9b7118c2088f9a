/- Replace, walked. Load and Tidy, walked. No condition. -/
import Derived.Test.YtkmoomgmmhmaeaaGreatFileR
import Derived.Test.YtkmoomgmmhmaeaaGreatLawRoomM
namespace Go.Proofs.YtkmoomgmmhmaeaaGreat
open Go.RowKit Go.Dm Go.Dm.Dk

def lenOf : Value → Nat
  | .slice _ l _ => l
  | _ => 0
theorem pieces_iff (n k : Nat) : 64 * k < n ↔ k < pieces n := by unfold pieces; omega
set_option maxRecDepth 100000 in
set_option maxHeartbeats 4000000 in
theorem freplace_any {P B : Nat → Prop} {w : World} {d n N : Nat} {m : M} {vb : Value} (s b : List UInt8) (h : Own P w d m) (hP : ∀ k, w.heap.size ≤ k → P k) (hm : Small m n N) (hn : 3 * n + 4 + pieces b.length ≤ 100000) (hN : N + 64 * (2 * n + 4 + pieces b.length) ≤ 1000000)
    (hs : s.length ≤ 60) (hvb : Bts B w vb b) (hBP : ∀ k, B k → ¬ P k) :
    Calls Tryz.prog 19 #[ptrTo d, .string ⟨s.toArray⟩, vb] w fun e w' => e = .returned (.int .i64 ((replD m s b).2 : Nat)) ∧ Own P w' d (replD m s b).1 ∧ Keep P w w' := by
  obtain ⟨ab, cb, rfl, _, _⟩ := hvb.shape
  have hbl : b.length ≤ 1000000 := by unfold pieces at hN; omega
  unfold ptrTo
  go_enter Tryz.func19, Tryz.ntmps19
  go_wp2_with (first | (at_builtin; refine wl_append rfl _ _ _ _ rfl _ _ rfl rfl ?_) | (at_make; refine wl_make rfl _ _ _ rfl _ _ rfl rfl ?_) | (at_mapUpdate; refine wl_mapUpdate rfl _ _ _ _ rfl _ _ _ rfl rfl rfl ?_) | (at_lookup; refine wl_lookup rfl _ _ _ _ rfl _ _ rfl rfl ?_) | (at_delete; refine wl_delete rfl _ _ _ _ rfl _ _ rfl rfl ?_) | (with_reducible refine wl_len rfl _ _ rfl _ rfl ?_) | (with_reducible refine wl_range rfl _ _ rfl _ rfl ?_) | (with_reducible refine wl_next rfl _ rfl _ rfl ?_) | (with_reducible refine wl_copy rfl _ _ _ _ rfl _ _ rfl rfl ?_) | (with_reducible refine wl_max rfl _ _ _ _ rfl _ _ rfl rfl ?_) | (with_reducible refine wl_min rfl _ _ _ _ rfl _ _ rfl rfl ?_))
  have hkW1 : Keep No w (w.alloc (.cells #[.pointer (some ⟨d, 0, none⟩)] 24)) := (Keep.refl _ _).alloc _
  have hBW1 : Blk (w.alloc (.cells #[.pointer (some ⟨d, 0, none⟩)] 24)) w.heap.size #[.pointer (some ⟨d, 0, none⟩)] 24 := Blk.new _ _ _
  have hzW1 : (w.alloc (.cells #[.pointer (some ⟨d, 0, none⟩)] 24)).heap.size = w.heap.size + 1 := World.size_alloc _ _
  generalize w.alloc (.cells #[.pointer (some ⟨d, 0, none⟩)] 24) = W1 at *
  have hkW2 : Keep No W1 (W1.alloc (.cells #[.string ⟨s.toArray⟩] 9)) := (Keep.refl _ _).alloc _
  have hBW2 : Blk (W1.alloc (.cells #[.string ⟨s.toArray⟩] 9)) W1.heap.size #[.string ⟨s.toArray⟩] 9 := Blk.new _ _ _
  have hzW2 : (W1.alloc (.cells #[.string ⟨s.toArray⟩] 9)).heap.size = W1.heap.size + 1 := World.size_alloc _ _
  generalize W1.alloc (.cells #[.string ⟨s.toArray⟩] 9) = W2 at *
  have hkW : Keep No W2 (W2.alloc (.cells #[.slice ab b.length cb] 46)) := (Keep.refl _ _).alloc _
  have hBW : Blk (W2.alloc (.cells #[.slice ab b.length cb] 46)) W2.heap.size #[.slice ab b.length cb] 46 := Blk.new _ _ _
  have hzW : (W2.alloc (.cells #[.slice ab b.length cb] 46)).heap.size = W2.heap.size + 1 := World.size_alloc _ _
  generalize W2.alloc (.cells #[.slice ab b.length cb] 46) = W at *
  rw [hzW1] at hBW2
  rw [hzW2, hzW1] at hBW
  replace hBW1 := (hBW1.keep hkW2 fun h => h).keep hkW fun h => h
  replace hBW2 := hBW2.keep hkW fun h => h
  replace hkW := (hkW1.trans' hkW2).trans' hkW
  replace hzW : W.heap.size = w.heap.size + 3 := by omega
  clear hkW1 hkW2 hzW1 hzW2
  clear W1 W2
  refine (fmay_any d s _).mono ?_
  rintro e x ⟨rfl, rfl⟩
  cases hmay : mayF s with
  | false =>
    have e1 : replD m s b = (m, 1) := by simp [replD, hmay]
    have E1 := Lib.hid e1
    clear e1
    go_wp2_with (first | (at_builtin; refine wl_append rfl _ _ _ _ rfl _ _ rfl rfl ?_) | (at_make; refine wl_make rfl _ _ _ rfl _ _ rfl rfl ?_) | (at_mapUpdate; refine wl_mapUpdate rfl _ _ _ _ rfl _ _ _ rfl rfl rfl ?_) | (at_lookup; refine wl_lookup rfl _ _ _ _ rfl _ _ rfl rfl ?_) | (at_delete; refine wl_delete rfl _ _ _ _ rfl _ _ rfl rfl ?_) | (with_reducible refine wl_len rfl _ _ rfl _ rfl ?_) | (with_reducible refine wl_range rfl _ _ rfl _ rfl ?_) | (with_reducible refine wl_next rfl _ rfl _ rfl ?_) | (with_reducible refine wl_copy rfl _ _ _ _ rfl _ _ rfl rfl ?_) | (with_reducible refine wl_max rfl _ _ _ _ rfl _ _ rfl rfl ?_) | (with_reducible refine wl_min rfl _ _ _ _ rfl _ _ rfl rfl ?_))
    go_ret
    rw [E1.out]
    exact ⟨rfl, h.keep hkW fun _ _ h => h, hkW.mono fun _ _ h => h.elim⟩
  | true =>
    have e1 : replD m s b = runS m (stepsS (namesOf m) s b) := by simp [replD, hmay]
    have E1 := Lib.hid e1
    clear e1 hmay
    have c1 := hBW1.cell
    have c2 := hBW2.cell
    have c3 := hBW.cell
    go_wp2_with (first | (at_builtin; refine wl_append rfl _ _ _ _ rfl _ _ rfl rfl ?_) | (at_make; refine wl_make rfl _ _ _ rfl _ _ rfl rfl ?_) | (at_mapUpdate; refine wl_mapUpdate rfl _ _ _ _ rfl _ _ _ rfl rfl rfl ?_) | (at_lookup; refine wl_lookup rfl _ _ _ _ rfl _ _ rfl rfl ?_) | (at_delete; refine wl_delete rfl _ _ _ _ rfl _ _ rfl rfl ?_) | (with_reducible refine wl_len rfl _ _ rfl _ rfl ?_) | (with_reducible refine wl_range rfl _ _ rfl _ rfl ?_) | (with_reducible refine wl_next rfl _ rfl _ rfl ?_) | (with_reducible refine wl_copy rfl _ _ _ _ rfl _ _ rfl rfl ?_) | (with_reducible refine wl_max rfl _ _ _ _ rfl _ _ rfl rfl ?_) | (with_reducible refine wl_min rfl _ _ _ _ rfl _ _ rfl rfl ?_))
    have et : (⟨#[110, 101, 119, 46]⟩ ++ ⟨s.toArray⟩ : ByteArray) = ⟨(newS ++ s).toArray⟩ := str_app newS s
    rw [et]
    have htl : (newS ++ s).length ≤ 64 := by rw [List.length_append]; simp [newS]; omega
    have E2 : Hid (replD m s b = runS m ((((namesOf m).filter fun n => n == newS ++ s).flatMap fun _ => goneS (newS ++ s)) ++ [⟨1, newS ++ s, [], 0, []⟩] ++ writesS (newS ++ s) b ++ endS (newS ++ s) s)) := E1
    clear E1 et c1 c2 c3
    generalize newS ++ s = t at *
    have hkX : Keep No W (W.alloc (.cells #[.string ⟨t.toArray⟩] 9)) := (Keep.refl _ _).alloc _
    have hBX : Blk (W.alloc (.cells #[.string ⟨t.toArray⟩] 9)) W.heap.size #[.string ⟨t.toArray⟩] 9 := Blk.new _ _ _
    have hzX : (W.alloc (.cells #[.string ⟨t.toArray⟩] 9)).heap.size = W.heap.size + 1 := World.size_alloc _ _
    generalize W.alloc (.cells #[.string ⟨t.toArray⟩] 9) = X at *
    have hW3 : w.heap.size + 3 ≤ W.heap.size := by omega
    replace hBW1 := hBW1.keep hkX fun h => h
    replace hBW2 := hBW2.keep hkX fun h => h
    replace hBW := hBW.keep hkX fun h => h
    replace hkW := hkW.trans' hkX
    rw [hzW] at hBX
    have hNn : (namesOf m).length ≤ n := by
      have h1 : (namesOf m).Perm (m.L.map (·.1)) := List.mergeSort_perm _ _
      rw [h1.length_eq, List.length_map]; exact hm.L
    refine (names_own (h.keep hkW fun _ _ h => h) hm (by omega)).mono ?_
    rintro e wN ⟨vn, rfl, hvn, kN⟩
    replace hBW1 := hBW1.keep kN fun h => h
    replace hBW2 := hBW2.keep kN fun h => h
    replace hBW := hBW.keep kN fun h => h
    replace hBX := hBX.keep kN fun h => h
    replace hkW := hkW.trans' kN
    have hbase := hkW.size
    have hvn2 : Sl (fun j => j < wN.heap.size) wN 1 vn (namesOf m).length ((namesOf m).map encStr) := Sl.mono (Sl.of_own hvn) fun j hj _ => hj
    obtain ⟨an, cn, rfl, _, _⟩ := hvn2.shape
    have hbw : Sl (fun j => B j ∧ j < w.heap.size) wN 1 (.slice ab b.length cb) b.length (b.map bv) := Sl.keep (Sl.mono (B := fun j => B j ∧ j < w.heap.size) hvb fun j hj hb => ⟨hb, hj⟩) hkW fun _ _ _ h => h
    clear kN hvn hkX hzX hzW
    go_wp2_with (first | (at_builtin; refine wl_append rfl _ _ _ _ rfl _ _ rfl rfl ?_) | (at_make; refine wl_make rfl _ _ _ rfl _ _ rfl rfl ?_) | (at_mapUpdate; refine wl_mapUpdate rfl _ _ _ _ rfl _ _ _ rfl rfl rfl ?_) | (at_lookup; refine wl_lookup rfl _ _ _ _ rfl _ _ rfl rfl ?_) | (at_delete; refine wl_delete rfl _ _ _ _ rfl _ _ rfl rfl ?_) | (with_reducible refine wl_len rfl _ _ rfl _ rfl ?_) | (with_reducible refine wl_range rfl _ _ rfl _ rfl ?_) | (with_reducible refine wl_next rfl _ rfl _ rfl ?_) | (with_reducible refine wl_copy rfl _ _ _ _ rfl _ _ rfl rfl ?_) | (with_reducible refine wl_max rfl _ _ _ _ rfl _ _ rfl rfl ?_) | (with_reducible refine wl_min rfl _ _ _ _ rfl _ _ rfl rfl ?_))
    go_loopw [8, 21] (fun ov iv wr => ∃ (k : Nat) (vs : List Value), iv = .int .i64 k ∧ k ≤ (namesOf m).length ∧ FlO wr wN.heap.size 94 1 encV ov vs ∧ Steps B w wr d vs (((namesOf m).take k).filter (fun n => n == t) |>.flatMap fun _ => goneS t) ∧ vs.length ≤ 2 * k ∧ Keep (fun j => wN.heap.size ≤ j) wN wr) (fun _ iv _ => (namesOf m).length - (intOf iv).toNat)
    case atStart => exact ⟨0, [], rfl, Nat.zero_le _, FlO.nil, Steps.nil, Nat.le_refl _, Keep.refl _ _⟩
    case round =>
      obtain ⟨k, vs, rfl, hk, ho, hst, hvl, hK⟩ := hrel
      have hB1 := hBW1.keep hK fun h => absurd h (Nat.not_le.2 hBW1.lt)
      have hB2 := hBW2.keep hK fun h => absurd h (Nat.not_le.2 hBW2.lt)
      have hB3 := hBW.keep hK fun h => absurd h (Nat.not_le.2 hBW.lt)
      have hB7 := hBX.keep hK fun h => absurd h (Nat.not_le.2 hBX.lt)
      have c1 := hB1.cell
      have c7 := hB7.cell
      obtain ⟨ao, co, rfl, _, _⟩ := ho.fl.shape
      rcases Nat.lt_or_ge k (namesOf m).length with hkl | hkl
      · obtain ⟨g, off, cap, e, hg, hgl, _, _, hcell⟩ := hvn2.at (Nat.lt_of_le_of_lt (Nat.zero_le k) hkl)
        cases e
        have q := (hK.cell (p := ⟨g, off + k, none⟩) hgl (fun h => absurd h (Nat.not_le.2 hgl))).trans (hcell k (encStr (namesOf m)[k]) (by rw [List.getElem?_map, List.getElem?_eq_getElem hkl]; rfl))
        have hfl : ((namesOf m).take (k + 1)).filter (fun n => n == t) = ((namesOf m).take k).filter (fun n => n == t) ++ if (namesOf m)[k] = t then [(namesOf m)[k]] else [] := by
          rw [List.take_succ_eq_append_getElem hkl, List.filter_append]
          congr 1
          by_cases e : (namesOf m)[k] = t
          · simp [e]
          · simp [e]
        unfold encStr at q
        have hkl' : (k : Int) < ((namesOf m).length : Int) := by omega
        have HF := Lib.hid hfl
        clear hcell hfl
        by_cases he : (namesOf m)[k] = t
        · rw [he] at q
          go_wp2_with (first | (at_builtin; refine wl_append rfl _ _ _ _ rfl _ _ rfl rfl ?_) | (at_make; refine wl_make rfl _ _ _ rfl _ _ rfl rfl ?_) | (at_mapUpdate; refine wl_mapUpdate rfl _ _ _ _ rfl _ _ _ rfl rfl rfl ?_) | (at_lookup; refine wl_lookup rfl _ _ _ _ rfl _ _ rfl rfl ?_) | (at_delete; refine wl_delete rfl _ _ _ _ rfl _ _ rfl rfl ?_) | (with_reducible refine wl_len rfl _ _ rfl _ rfl ?_) | (with_reducible refine wl_range rfl _ _ rfl _ rfl ?_) | (with_reducible refine wl_next rfl _ rfl _ rfl ?_) | (with_reducible refine wl_copy rfl _ _ _ _ rfl _ _ rfl rfl ?_) | (with_reducible refine wl_max rfl _ _ _ _ rfl _ _ rfl rfl ?_) | (with_reducible refine wl_min rfl _ _ _ _ rfl _ _ rfl rfl ?_))
          have hg : Steps B w wr d [.func (.func 48) #[] #[ptrTo w.heap.size, ptrTo (w.heap.size + 3)], .func (.func 28) #[ptrTo d] #[]] (goneS t) :=
            (Steps.one (s := ⟨5, t, [], 0, []⟩) (.inl ⟨_, _, _, t, rfl, .inl rfl, rfl, FB.box hB1 (by decide) (Nat.le_refl _), FB.box hB7 (by decide) (by omega), hB1, hB7⟩)).append (Steps.one (s := ⟨6, [], [], 0, []⟩) (.inr (.inl ⟨rfl, rfl⟩)))
          refine rg_steps (n := 2) hg hst ho hbase hK.size rfl (by omega) ?_
          intro v' w2 ho2 hst2 hk2 _
          have hK2 := hK.trans' hk2
          clear hK hk2 ho hst hg hB1 hB2 hB3 hB7 c1 c7
          obtain ⟨ao2, co2, rfl, _, _⟩ := ho2.fl.shape
          go_wp2_with (first | (at_builtin; refine wl_append rfl _ _ _ _ rfl _ _ rfl rfl ?_) | (at_make; refine wl_make rfl _ _ _ rfl _ _ rfl rfl ?_) | (at_mapUpdate; refine wl_mapUpdate rfl _ _ _ _ rfl _ _ _ rfl rfl rfl ?_) | (at_lookup; refine wl_lookup rfl _ _ _ _ rfl _ _ rfl rfl ?_) | (at_delete; refine wl_delete rfl _ _ _ _ rfl _ _ rfl rfl ?_) | (with_reducible refine wl_len rfl _ _ rfl _ rfl ?_) | (with_reducible refine wl_range rfl _ _ rfl _ rfl ?_) | (with_reducible refine wl_next rfl _ rfl _ rfl ?_) | (with_reducible refine wl_copy rfl _ _ _ _ rfl _ _ rfl rfl ?_) | (with_reducible refine wl_max rfl _ _ _ _ rfl _ _ rfl rfl ?_) | (with_reducible refine wl_min rfl _ _ _ _ rfl _ _ rfl rfl ?_))
          go_roundw
          case rel => exact ⟨k + 1, _, by go_num, hkl, ho2, by rw [HF.out, if_pos he, List.flatMap_append, List.flatMap_singleton]; exact hst2, by simp only [List.length_append, List.length_cons, List.length_nil]; omega, hK2⟩
          case measure => simp [intOf]; omega
        · have he' : ((namesOf m)[k] == t) = false := by simpa using he
          generalize hnk : (namesOf m)[k] = nk at *
          go_wp2_with (first | (at_builtin; refine wl_append rfl _ _ _ _ rfl _ _ rfl rfl ?_) | (at_make; refine wl_make rfl _ _ _ rfl _ _ rfl rfl ?_) | (at_mapUpdate; refine wl_mapUpdate rfl _ _ _ _ rfl _ _ _ rfl rfl rfl ?_) | (at_lookup; refine wl_lookup rfl _ _ _ _ rfl _ _ rfl rfl ?_) | (at_delete; refine wl_delete rfl _ _ _ _ rfl _ _ rfl rfl ?_) | (with_reducible refine wl_len rfl _ _ rfl _ rfl ?_) | (with_reducible refine wl_range rfl _ _ rfl _ rfl ?_) | (with_reducible refine wl_next rfl _ rfl _ rfl ?_) | (with_reducible refine wl_copy rfl _ _ _ _ rfl _ _ rfl rfl ?_) | (with_reducible refine wl_max rfl _ _ _ _ rfl _ _ rfl rfl ?_) | (with_reducible refine wl_min rfl _ _ _ _ rfl _ _ rfl rfl ?_))
          go_roundw
          case rel => exact ⟨k + 1, vs, by go_num, hkl, ho, by rw [HF.out, if_neg he, List.append_nil]; exact hst, by omega, hK⟩
          case measure => simp [intOf]; omega
      · obtain rfl : k = (namesOf m).length := Nat.le_antisymm hk hkl
        rw [List.take_length] at hst
        generalize hl0 : (((namesOf m).filter fun n => n == t).flatMap fun _ => goneS t) = l1 at *
        go_wp2_with (first | (at_builtin; refine wl_append rfl _ _ _ _ rfl _ _ rfl rfl ?_) | (at_make; refine wl_make rfl _ _ _ rfl _ _ rfl rfl ?_) | (at_mapUpdate; refine wl_mapUpdate rfl _ _ _ _ rfl _ _ _ rfl rfl rfl ?_) | (at_lookup; refine wl_lookup rfl _ _ _ _ rfl _ _ rfl rfl ?_) | (at_delete; refine wl_delete rfl _ _ _ _ rfl _ _ rfl rfl ?_) | (with_reducible refine wl_len rfl _ _ rfl _ rfl ?_) | (with_reducible refine wl_range rfl _ _ rfl _ rfl ?_) | (with_reducible refine wl_next rfl _ rfl _ rfl ?_) | (with_reducible refine wl_copy rfl _ _ _ _ rfl _ _ rfl rfl ?_) | (with_reducible refine wl_max rfl _ _ _ _ rfl _ _ rfl rfl ?_) | (with_reducible refine wl_min rfl _ _ _ _ rfl _ _ rfl rfl ?_))
        refine rg_steps (n := 1) (Steps.one (s := ⟨1, t, [], 0, []⟩) (.inr (.inr (.inl ⟨_, _, t, rfl, rfl, FB.box hB1 (by decide) (Nat.le_refl _), FB.box hB7 (by decide) (by omega), hB1, hB7⟩)))) hst ho hbase hK.size rfl (by omega) ?_
        intro v' w2 ho2 hst2 hk2 _
        have hK2 := hK.trans' hk2
        obtain ⟨ao2, co2, rfl, _, _⟩ := ho2.fl.shape
        clear hK hk2 ho hst hB1 hB2 hB3 hB7 c1 c7
        go_wp2_with (first | (at_builtin; refine wl_append rfl _ _ _ _ rfl _ _ rfl rfl ?_) | (at_make; refine wl_make rfl _ _ _ rfl _ _ rfl rfl ?_) | (at_mapUpdate; refine wl_mapUpdate rfl _ _ _ _ rfl _ _ _ rfl rfl rfl ?_) | (at_lookup; refine wl_lookup rfl _ _ _ _ rfl _ _ rfl rfl ?_) | (at_delete; refine wl_delete rfl _ _ _ _ rfl _ _ rfl rfl ?_) | (with_reducible refine wl_len rfl _ _ rfl _ rfl ?_) | (with_reducible refine wl_range rfl _ _ rfl _ rfl ?_) | (with_reducible refine wl_next rfl _ rfl _ rfl ?_) | (with_reducible refine wl_copy rfl _ _ _ _ rfl _ _ rfl rfl ?_) | (with_reducible refine wl_max rfl _ _ _ _ rfl _ _ rfl rfl ?_) | (with_reducible refine wl_min rfl _ _ _ _ rfl _ _ rfl rfl ?_))
        have hkw3 : Keep No w2 (w2.alloc (.cells #[.int .i64 0] 3)) := (Keep.refl _ _).alloc _
        have hBw3 : Blk (w2.alloc (.cells #[.int .i64 0] 3)) w2.heap.size #[.int .i64 0] 3 := Blk.new _ _ _
        have hzw3 : (w2.alloc (.cells #[.int .i64 0] 3)).heap.size = w2.heap.size + 1 := World.size_alloc _ _
        generalize w2.alloc (.cells #[.int .i64 0] 3) = w3 at *
        have h23 : wN.heap.size ≤ w2.heap.size := hK2.size
        replace hK2 : Keep (fun j => wN.heap.size ≤ j) wN w3 := hK2.trans' (hkw3.mono fun _ _ h => h.elim)
        replace hst2 := hst2.keep (Nat.le_trans hbase h23) hkw3 fun _ _ h => h
        replace ho2 := FlO.no ho2 hkw3
        have hvn0 : vs.length + 1 = (vs ++ [Value.func (Fn.func 49) #[] #[ptrTo w.heap.size, ptrTo (w.heap.size + 3)]]).length := by simp
        have hvb : vs.length + 1 ≤ 2 * n + 1 := by omega
        generalize vs ++ [Value.func (Fn.func 49) #[] #[ptrTo w.heap.size, ptrTo (w.heap.size + 3)]] = us at *
        have HV := Lib.hid hvn0
        have hml : us.length ≤ 2 * n + 1 := by omega
        clear hvn0 hvb hkw3 hzw3
        clear hvl
        go_loopw [8, 11] (fun ov av wr => ∃ (k : Nat) (vs : List Value) (a : Nat), av = .pointer (some ⟨a, 0, none⟩) ∧ w.heap.size ≤ a ∧ Blk wr a #[.int .i64 ((64 * k : Nat) : Int)] 3 ∧ k ≤ pieces b.length ∧ FlO wr wN.heap.size 94 1 encV ov vs ∧ Steps B w wr d vs (l1 ++ [⟨1, t, [], 0, []⟩] ++ (List.range k).map (writeS t b)) ∧ vs.length = us.length + k ∧ Keep (fun j => wN.heap.size ≤ j) wN wr) (fun ov _ _ => us.length + pieces b.length - lenOf ov)
        case atStart => exact ⟨0, us, _, rfl, by omega, hBw3, Nat.zero_le _, ho2, by simpa using hst2, rfl, hK2⟩
        case round =>
          clear hst2 ho2 hK2 hBw3
          obtain ⟨k, vs, a, rfl, ha, hBa, hk, ho, hst, hvl, hK⟩ := hrel
          have hB1 := hBW1.keep hK fun h => absurd h (Nat.not_le.2 hBW1.lt)
          have hB2 := hBW2.keep hK fun h => absurd h (Nat.not_le.2 hBW2.lt)
          have hB3 := hBW.keep hK fun h => absurd h (Nat.not_le.2 hBW.lt)
          have hB7 := hBX.keep hK fun h => absurd h (Nat.not_le.2 hBX.lt)
          have c1 := hB1.cell
          have c2 := hB2.cell
          have c3 := hB3.cell
          have c7 := hB7.cell
          have ca := hBa.cell
          obtain ⟨ao, co, rfl, _, _⟩ := ho.fl.shape
          have hpi := pieces_iff b.length k
          rcases Nat.lt_or_ge (64 * k) b.length with hkl | hkl
          · generalize h64 : 64 * k = at_ at *
            have hkl' : (at_ : Int) < (b.length : Int) := by omega
            go_wp2_with (first | (at_builtin; refine wl_append rfl _ _ _ _ rfl _ _ rfl rfl ?_) | (at_make; refine wl_make rfl _ _ _ rfl _ _ rfl rfl ?_) | (at_mapUpdate; refine wl_mapUpdate rfl _ _ _ _ rfl _ _ _ rfl rfl rfl ?_) | (at_lookup; refine wl_lookup rfl _ _ _ _ rfl _ _ rfl rfl ?_) | (at_delete; refine wl_delete rfl _ _ _ _ rfl _ _ rfl rfl ?_) | (with_reducible refine wl_len rfl _ _ rfl _ rfl ?_) | (with_reducible refine wl_range rfl _ _ rfl _ rfl ?_) | (with_reducible refine wl_next rfl _ rfl _ rfl ?_) | (with_reducible refine wl_copy rfl _ _ _ _ rfl _ _ rfl rfl ?_) | (with_reducible refine wl_max rfl _ _ _ _ rfl _ _ rfl rfl ?_) | (with_reducible refine wl_min rfl _ _ _ _ rfl _ _ rfl rfl ?_))
            have hbF : Bts (FB B w wr) wr (.slice ab b.length cb) b := Sl.mono (Sl.keep hbw hK fun j hj hb h => by have h : wN.heap.size ≤ j := h; omega) fun j _ hb => .inl hb
            rw [hvl] at ho
            refine rg_steps (n := 1) (Steps.one (s := writeS t b k) (.inr (.inr (.inr (.inl ⟨_, _, a, _, t, b, k, _, rfl, by rw [h64]; exact hkl, hbl, rfl, FB.box hB1 (by decide) (Nat.le_refl _), FB.box hB7 (by decide) (by omega), FB.box hBa (by decide) ha, FB.box hB3 (by decide) (by omega), hB1, hB7, by rw [h64]; exact hBa, hB3, hbF⟩))))) hst ho hbase hK.size rfl (by omega) ?_
            intro v' w4 ho4 hst4 hk4 hb4
            have hK4 := hK.trans' hk4
            have hBa4 := hb4 a _ _ hBa (by decide)
            have ca4 := hBa4.cell
            obtain ⟨ao4, co4, rfl, _, _⟩ := ho4.fl.shape
            clear hK hk4 ho hst hB1 hB2 hB3 hB7 c1 c2 c3 c7 ca hb4
            go_wp2_with (first | (at_builtin; refine wl_append rfl _ _ _ _ rfl _ _ rfl rfl ?_) | (at_make; refine wl_make rfl _ _ _ rfl _ _ rfl rfl ?_) | (at_mapUpdate; refine wl_mapUpdate rfl _ _ _ _ rfl _ _ _ rfl rfl rfl ?_) | (at_lookup; refine wl_lookup rfl _ _ _ _ rfl _ _ rfl rfl ?_) | (at_delete; refine wl_delete rfl _ _ _ _ rfl _ _ rfl rfl ?_) | (with_reducible refine wl_len rfl _ _ rfl _ rfl ?_) | (with_reducible refine wl_range rfl _ _ rfl _ rfl ?_) | (with_reducible refine wl_next rfl _ rfl _ rfl ?_) | (with_reducible refine wl_copy rfl _ _ _ _ rfl _ _ rfl rfl ?_) | (with_reducible refine wl_max rfl _ _ _ _ rfl _ _ rfl rfl ?_) | (with_reducible refine wl_min rfl _ _ _ _ rfl _ _ rfl rfl ?_))
            have hka : Keep No w4 (w4.alloc (.cells #[.int .i64 ((at_ : Int) + 64)] 3)) := (Keep.refl _ _).alloc _
            have hBn : Blk (w4.alloc (.cells #[.int .i64 ((at_ : Int) + 64)] 3)) w4.heap.size #[.int .i64 ((at_ : Int) + 64)] 3 := Blk.new _ _ _
            have hwl : w.heap.size ≤ w4.heap.size := Nat.le_trans hbase hK4.size
            go_roundw
            case rel =>
              refine ⟨k + 1, _, w4.heap.size, rfl, hwl, ?_, hpi.1 hkl, FlO.no ho4 hka, ?_, by rw [List.length_append]; simp; omega, hK4.trans' (hka.mono fun _ _ h => h.elim)⟩
              · rw [show ((64 * (k + 1) : Nat) : Int) = (at_ : Int) + 64 by omega]
                exact hBn
              · rw [List.range_succ, List.map_append, ← List.append_assoc]
                exact hst4.keep hwl hka fun _ _ h => h
            case measure =>
              have hlt := hpi.1 hkl
              simp only [lenOf, List.length_append, List.length_singleton, hvl]
              omega
          · have hkp : k = pieces b.length := Nat.le_antisymm hk (by unfold pieces; omega)
            subst hkp
            rw [hvl] at ho
            have hkl' : (b.length : Int) ≤ ((64 * pieces b.length : Nat) : Int) := by omega
            generalize 64 * pieces b.length = at_ at *
            have hwst : (List.range (pieces b.length)).map (writeS t b) = writesS t b := rfl
            rw [hwst] at hst
            go_wp2_with (first | (at_builtin; refine wl_append rfl _ _ _ _ rfl _ _ rfl rfl ?_) | (at_make; refine wl_make rfl _ _ _ rfl _ _ rfl rfl ?_) | (at_mapUpdate; refine wl_mapUpdate rfl _ _ _ _ rfl _ _ _ rfl rfl rfl ?_) | (at_lookup; refine wl_lookup rfl _ _ _ _ rfl _ _ rfl rfl ?_) | (at_delete; refine wl_delete rfl _ _ _ _ rfl _ _ rfl rfl ?_) | (with_reducible refine wl_len rfl _ _ rfl _ rfl ?_) | (with_reducible refine wl_range rfl _ _ rfl _ rfl ?_) | (with_reducible refine wl_next rfl _ rfl _ rfl ?_) | (with_reducible refine wl_copy rfl _ _ _ _ rfl _ _ rfl rfl ?_) | (with_reducible refine wl_max rfl _ _ _ _ rfl _ _ rfl rfl ?_) | (with_reducible refine wl_min rfl _ _ _ _ rfl _ _ rfl rfl ?_))
            have hS3 : Steps B w wr d [.func (.func 52) #[] #[ptrTo w.heap.size, ptrTo (w.heap.size + 3)], .func (.func 54) #[] #[ptrTo w.heap.size, ptrTo (w.heap.size + 3), ptrTo (w.heap.size + 1)], .func (.func 28) #[ptrTo d] #[]] (endS t s) :=
              ((Steps.one (s := ⟨3, t, [], 0, []⟩) (.inr (.inr (.inr (.inr (.inl ⟨_, _, t, rfl, rfl, FB.box hB1 (by decide) (Nat.le_refl _), FB.box hB7 (by decide) (by omega), hB1, hB7⟩)))))).append
                (Steps.one (s := ⟨4, t, s, 0, []⟩) (.inr (.inr (.inr (.inr (.inr ⟨_, _, _, t, s, rfl, rfl, FB.box hB1 (by decide) (Nat.le_refl _), FB.box hB7 (by decide) (by omega), FB.box hB2 (by decide) (by omega), hB1, hB7, hB2⟩))))))).append
                (Steps.one (s := ⟨6, [], [], 0, []⟩) (.inr (.inl ⟨rfl, rfl⟩)))
            refine rg_steps (n := 3) hS3 hst ho hbase hK.size rfl (by omega) ?_
            intro v' w4 ho4 hst4 hk4 _
            have hK4 := hK.trans' hk4
            clear hK hk4 ho hst hS3 hB1 hB2 hB3 hB7 c1 c2 c3 c7 ca hBa
            have hlv : (vs ++ [Value.func (.func 52) #[] #[ptrTo w.heap.size, ptrTo (w.heap.size + 3)], .func (.func 54) #[] #[ptrTo w.heap.size, ptrTo (w.heap.size + 3), ptrTo (w.heap.size + 1)], .func (.func 28) #[ptrTo d] #[]]).length = us.length + pieces b.length + 3 := by
              rw [List.length_append, hvl]; rfl
            have hlE := hst4.len
            generalize vs ++ [Value.func (.func 52) #[] #[ptrTo w.heap.size, ptrTo (w.heap.size + 3)], .func (.func 54) #[] #[ptrTo w.heap.size, ptrTo (w.heap.size + 3), ptrTo (w.heap.size + 1)], .func (.func 28) #[ptrTo d] #[]] = zs at *
            have hok : ∀ c ∈ l1 ++ [⟨1, t, [], 0, []⟩] ++ writesS t b ++ endS t s, ClOk c := by
              intro c hc
              simp only [List.mem_append, List.mem_singleton] at hc
              rcases hc with ((hc | hc) | hc) | hc
              · rw [← hl0] at hc
                simp only [List.mem_flatMap, goneS, List.mem_cons, List.not_mem_nil, or_false] at hc
                obtain ⟨_, _, hc | hc⟩ := hc <;> subst hc
                · exact ⟨htl, by simp, by simp⟩
                · exact ⟨by simp, by simp, by simp⟩
              · subst hc; exact ⟨htl, by simp, by simp⟩
              · obtain ⟨k, _, rfl⟩ := List.mem_map.1 hc
                exact ⟨htl, by simp [writeS], by simp only [writeS, List.length_take]; omega⟩
              · simp only [endS, List.mem_cons, List.not_mem_nil, or_false] at hc
                rcases hc with hc | hc | hc <;> subst hc
                · exact ⟨htl, by simp, by simp⟩
                · exact ⟨htl, by simp only; omega, by simp⟩
                · exact ⟨by simp, by simp, by simp⟩
            generalize l1 ++ [⟨1, t, [], 0, []⟩] ++ writesS t b ++ endS t s = L at *
            have hw4 : w.heap.size ≤ w4.heap.size := Nat.le_trans hbase hK4.size
            have hKw : Keep No w w4 := hkW.trans hK4 fun j hj hb => absurd (Nat.le_trans hbase hb) (Nat.not_le.2 hj)
            have hsl : Sl (fun j => w.heap.size ≤ j ∧ j < w4.heap.size) w4 1 v' L.length zs := by
              have h1 := Sl.of_own ho4
              rw [encV_map hst4.fn, hlE] at h1
              exact Sl.mono h1 fun j hj ha => ⟨Nat.le_trans hbase ha.1, hj⟩
            have hst5 : ∀ (i : Nat) (v : Value) (c : Cl), zs[i]? = some v → L[i]? = some c → StepAt (fun j => (B j ∧ j < w.heap.size) ∨ (w.heap.size ≤ j ∧ j < w4.heap.size)) w4 d v c := fun i v c hv hc => (hst4.at_ i v c hv hc).mono fun j _ hf => by
              rcases hf with hf | hf
              · exact .inl hf
              · exact .inr ⟨hf.1, hf.2.1⟩
            have hO4 : Own (fun j => (P j ∧ j < w.heap.size) ∨ w4.heap.size ≤ j) w4 d m := by
              have h1 : DR (fun k => P k ∧ k < w.heap.size) w d m := h
              exact (DR.keep h1 (fun k hk => hk.2) hKw fun _ _ h => h).mono fun k hk ha => ⟨.inl ha, hk⟩
            have hlL : L.length ≤ 2 * n + 4 + pieces b.length := by omega
            obtain ⟨az, cz, rfl, _, _⟩ := hsl.shape
            go_wp2_with (first | (at_builtin; refine wl_append rfl _ _ _ _ rfl _ _ rfl rfl ?_) | (at_make; refine wl_make rfl _ _ _ rfl _ _ rfl rfl ?_) | (at_mapUpdate; refine wl_mapUpdate rfl _ _ _ _ rfl _ _ _ rfl rfl rfl ?_) | (at_lookup; refine wl_lookup rfl _ _ _ _ rfl _ _ rfl rfl ?_) | (at_delete; refine wl_delete rfl _ _ _ _ rfl _ _ rfl rfl ?_) | (with_reducible refine wl_len rfl _ _ rfl _ rfl ?_) | (with_reducible refine wl_range rfl _ _ rfl _ rfl ?_) | (with_reducible refine wl_next rfl _ rfl _ rfl ?_) | (with_reducible refine wl_copy rfl _ _ _ _ rfl _ _ rfl rfl ?_) | (with_reducible refine wl_max rfl _ _ _ _ rfl _ _ rfl rfl ?_) | (with_reducible refine wl_min rfl _ _ _ _ rfl _ _ rfl rfl ?_))
            refine (all_any (P := fun j => (P j ∧ j < w.heap.size) ∨ w4.heap.size ≤ j) (Sl.mono hsl fun j _ ha => .inr ha) hst5 hO4 (fun k hk => .inr hk) hm (by omega) (by omega) (fun k hf hp => by
              rcases hf with hf | hf
              · rcases hp with hp | hp
                · exact hBP k hf.1 hp.1
                · omega
              · rcases hp with hp | hp
                · omega
                · omega) hok).mono ?_
            rintro e w5 ⟨rfl, hO5, hK5⟩
            go_wp2_with (first | (at_builtin; refine wl_append rfl _ _ _ _ rfl _ _ rfl rfl ?_) | (at_make; refine wl_make rfl _ _ _ rfl _ _ rfl rfl ?_) | (at_mapUpdate; refine wl_mapUpdate rfl _ _ _ _ rfl _ _ _ rfl rfl rfl ?_) | (at_lookup; refine wl_lookup rfl _ _ _ _ rfl _ _ rfl rfl ?_) | (at_delete; refine wl_delete rfl _ _ _ _ rfl _ _ rfl rfl ?_) | (with_reducible refine wl_len rfl _ _ rfl _ rfl ?_) | (with_reducible refine wl_range rfl _ _ rfl _ rfl ?_) | (with_reducible refine wl_next rfl _ rfl _ rfl ?_) | (with_reducible refine wl_copy rfl _ _ _ _ rfl _ _ rfl rfl ?_) | (with_reducible refine wl_max rfl _ _ _ _ rfl _ _ rfl rfl ?_) | (with_reducible refine wl_min rfl _ _ _ _ rfl _ _ rfl rfl ?_))
            go_ret
            rw [E2.out]
            refine ⟨rfl, DR.mono hO5 fun k hk ha => ⟨?_, ha.2⟩, (hKw.mono fun _ _ h => h.elim).trans hK5 fun j hj hp => ?_⟩
            · rcases ha.1 with hp | hp
              · exact hp.1
              · exact hP k (Nat.le_trans hw4 hp)
            · rcases hp with hp | hp
              · exact hp.1
              · omega
end Go.Proofs.YtkmoomgmmhmaeaaGreat
namespace Go.Proofs.YtkmoomgmmhmaeaaGreat
open Go.RowKit Go.Dm Go.Dm.Dk

set_option maxRecDepth 100000 in
set_option maxHeartbeats 1000000 in
theorem fload_bad {w : World} {d : Nat} (s : List UInt8) (hmay : mayF s = false) :
    Calls Tryz.prog 16 #[ptrTo d, .string ⟨s.toArray⟩] w fun e w' => e = .returned (.tuple #[.slice none 0 0, .int .i64 1]) ∧ w = w' := by
  unfold ptrTo
  have HM := Lib.hid hmay
  clear hmay
  go_enter Tryz.func16, Tryz.ntmps16
  go_wp2_with (first | (at_builtin; refine wl_append rfl _ _ _ _ rfl _ _ rfl rfl ?_) | (at_make; refine wl_make rfl _ _ _ rfl _ _ rfl rfl ?_) | (at_mapUpdate; refine wl_mapUpdate rfl _ _ _ _ rfl _ _ _ rfl rfl rfl ?_) | (at_lookup; refine wl_lookup rfl _ _ _ _ rfl _ _ rfl rfl ?_) | (at_delete; refine wl_delete rfl _ _ _ _ rfl _ _ rfl rfl ?_) | (with_reducible refine wl_len rfl _ _ rfl _ rfl ?_) | (with_reducible refine wl_range rfl _ _ rfl _ rfl ?_) | (with_reducible refine wl_next rfl _ rfl _ rfl ?_) | (with_reducible refine wl_copy rfl _ _ _ _ rfl _ _ rfl rfl ?_) | (with_reducible refine wl_max rfl _ _ _ _ rfl _ _ rfl rfl ?_) | (with_reducible refine wl_min rfl _ _ _ _ rfl _ _ rfl rfl ?_))
  refine (fmay_any d s _).mono ?_
  rintro e x ⟨rfl, rfl⟩
  rw [HM.out]
  go_wp2_with (first | (at_builtin; refine wl_append rfl _ _ _ _ rfl _ _ rfl rfl ?_) | (at_make; refine wl_make rfl _ _ _ rfl _ _ rfl rfl ?_) | (at_mapUpdate; refine wl_mapUpdate rfl _ _ _ _ rfl _ _ _ rfl rfl rfl ?_) | (at_lookup; refine wl_lookup rfl _ _ _ _ rfl _ _ rfl rfl ?_) | (at_delete; refine wl_delete rfl _ _ _ _ rfl _ _ rfl rfl ?_) | (with_reducible refine wl_len rfl _ _ rfl _ rfl ?_) | (with_reducible refine wl_range rfl _ _ rfl _ rfl ?_) | (with_reducible refine wl_next rfl _ rfl _ rfl ?_) | (with_reducible refine wl_copy rfl _ _ _ _ rfl _ _ rfl rfl ?_) | (with_reducible refine wl_max rfl _ _ _ _ rfl _ _ rfl rfl ?_) | (with_reducible refine wl_min rfl _ _ _ _ rfl _ _ rfl rfl ?_))
  go_ret2
  exact ⟨rfl, rfl⟩
set_option maxRecDepth 100000 in
set_option maxHeartbeats 1000000 in
theorem fload_ok {P : Nat → Prop} {w : World} {d n N : Nat} {m : M} (s : List UInt8) (h : Own P w d m) (hm : Small m n N) (hN : N ≤ 1000000) (hs : s.length ≤ 1000) (hmay : mayF s = true) :
    Calls Tryz.prog 16 #[ptrTo d, .string ⟨s.toArray⟩] w fun e w' => ∃ v', e = .returned (.tuple #[v', .int .i64 ((readE m s : Nat) : Int)]) ∧ w'.ownsRow w.heap.size 5 1 v' (readB m s).length ((readB m s).map bv) ∧ Keep No w w' := by
  unfold ptrTo
  have HM := Lib.hid hmay
  clear hmay
  go_enter Tryz.func16, Tryz.ntmps16
  go_wp2_with (first | (at_builtin; refine wl_append rfl _ _ _ _ rfl _ _ rfl rfl ?_) | (at_make; refine wl_make rfl _ _ _ rfl _ _ rfl rfl ?_) | (at_mapUpdate; refine wl_mapUpdate rfl _ _ _ _ rfl _ _ _ rfl rfl rfl ?_) | (at_lookup; refine wl_lookup rfl _ _ _ _ rfl _ _ rfl rfl ?_) | (at_delete; refine wl_delete rfl _ _ _ _ rfl _ _ rfl rfl ?_) | (with_reducible refine wl_len rfl _ _ rfl _ rfl ?_) | (with_reducible refine wl_range rfl _ _ rfl _ rfl ?_) | (with_reducible refine wl_next rfl _ rfl _ rfl ?_) | (with_reducible refine wl_copy rfl _ _ _ _ rfl _ _ rfl rfl ?_) | (with_reducible refine wl_max rfl _ _ _ _ rfl _ _ rfl rfl ?_) | (with_reducible refine wl_min rfl _ _ _ _ rfl _ _ rfl rfl ?_))
  refine (fmay_any d s _).mono ?_
  rintro e x ⟨rfl, rfl⟩
  rw [HM.out]
  go_wp2_with (first | (at_builtin; refine wl_append rfl _ _ _ _ rfl _ _ rfl rfl ?_) | (at_make; refine wl_make rfl _ _ _ rfl _ _ rfl rfl ?_) | (at_mapUpdate; refine wl_mapUpdate rfl _ _ _ _ rfl _ _ _ rfl rfl rfl ?_) | (at_lookup; refine wl_lookup rfl _ _ _ _ rfl _ _ rfl rfl ?_) | (at_delete; refine wl_delete rfl _ _ _ _ rfl _ _ rfl rfl ?_) | (with_reducible refine wl_len rfl _ _ rfl _ rfl ?_) | (with_reducible refine wl_range rfl _ _ rfl _ rfl ?_) | (with_reducible refine wl_next rfl _ rfl _ rfl ?_) | (with_reducible refine wl_copy rfl _ _ _ _ rfl _ _ rfl rfl ?_) | (with_reducible refine wl_max rfl _ _ _ _ rfl _ _ rfl rfl ?_) | (with_reducible refine wl_min rfl _ _ _ _ rfl _ _ rfl rfl ?_))
  refine (read_own s h hm hN hs).mono ?_
  rintro e w' ⟨v', rfl, h1, h2⟩
  go_wp2_with (first | (at_builtin; refine wl_append rfl _ _ _ _ rfl _ _ rfl rfl ?_) | (at_make; refine wl_make rfl _ _ _ rfl _ _ rfl rfl ?_) | (at_mapUpdate; refine wl_mapUpdate rfl _ _ _ _ rfl _ _ _ rfl rfl rfl ?_) | (at_lookup; refine wl_lookup rfl _ _ _ _ rfl _ _ rfl rfl ?_) | (at_delete; refine wl_delete rfl _ _ _ _ rfl _ _ rfl rfl ?_) | (with_reducible refine wl_len rfl _ _ rfl _ rfl ?_) | (with_reducible refine wl_range rfl _ _ rfl _ rfl ?_) | (with_reducible refine wl_next rfl _ rfl _ rfl ?_) | (with_reducible refine wl_copy rfl _ _ _ _ rfl _ _ rfl rfl ?_) | (with_reducible refine wl_max rfl _ _ _ _ rfl _ _ rfl rfl ?_) | (with_reducible refine wl_min rfl _ _ _ _ rfl _ _ rfl rfl ?_))
  go_ret2
  exact ⟨_, rfl, h1, h2⟩

set_option maxRecDepth 100000 in
set_option maxHeartbeats 1000000 in
theorem ftidy_nil (w : World) : Calls Tryz.prog 9 #[.pointer none] w fun e w' => e = .returned (.int .i64 1) ∧ Keep No w w' := by
  go_enter Tryz.func9, Tryz.ntmps9
  go_wp2_with (first | (at_builtin; refine wl_append rfl _ _ _ _ rfl _ _ rfl rfl ?_) | (at_make; refine wl_make rfl _ _ _ rfl _ _ rfl rfl ?_) | (at_mapUpdate; refine wl_mapUpdate rfl _ _ _ _ rfl _ _ _ rfl rfl rfl ?_) | (at_lookup; refine wl_lookup rfl _ _ _ _ rfl _ _ rfl rfl ?_) | (at_delete; refine wl_delete rfl _ _ _ _ rfl _ _ rfl rfl ?_) | (with_reducible refine wl_len rfl _ _ rfl _ rfl ?_) | (with_reducible refine wl_range rfl _ _ rfl _ rfl ?_) | (with_reducible refine wl_next rfl _ rfl _ rfl ?_) | (with_reducible refine wl_copy rfl _ _ _ _ rfl _ _ rfl rfl ?_) | (with_reducible refine wl_max rfl _ _ _ _ rfl _ _ rfl rfl ?_) | (with_reducible refine wl_min rfl _ _ _ _ rfl _ _ rfl rfl ?_))
  go_ret
  exact ⟨rfl, (Keep.refl _ _).alloc _⟩

def NmOk (m : M) : Prop := ∀ p ∈ m.L, p.1.length ≤ 64
set_option maxRecDepth 100000 in
set_option maxHeartbeats 4000000 in
theorem ftidy_any {P : Nat → Prop} {w : World} {d n N : Nat} {m : M} (h : Own P w d m) (hP : ∀ k, w.heap.size ≤ k → P k) (hm : Small m n N) (hn : 2 * n + 1 ≤ 100000) (hN : N + 64 * (n + 1) ≤ 1000000) (hnm : NmOk m) :
    Calls Tryz.prog 9 #[ptrTo d] w fun e w' => e = .returned (.int .i64 ((tidyD m).2 : Nat)) ∧ Own P w' d (tidyD m).1 ∧ Keep P w w' := by
  have hNn : (namesOf m).length ≤ n := by
    have h1 : (namesOf m).Perm (m.L.map (·.1)) := List.mergeSort_perm _ _
    rw [h1.length_eq, List.length_map]; exact hm.L
  have hNo : ∀ s ∈ namesOf m, s.length ≤ 64 := by
    intro s hs
    have h1 : (namesOf m).Perm (m.L.map (·.1)) := List.mergeSort_perm _ _
    obtain ⟨p, hp, rfl⟩ := List.mem_map.1 (h1.mem_iff.1 hs)
    exact hnm p hp
  have hT : tidyD m = if tidyS (namesOf m) = [] then (m, 0) else runS m (tidyS (namesOf m) ++ [⟨6, [], [], 0, []⟩]) := rfl
  have HT := Lib.hid hT
  clear hT
  unfold ptrTo
  go_enter Tryz.func9, Tryz.ntmps9
  go_wp2_with (first | (at_builtin; refine wl_append rfl _ _ _ _ rfl _ _ rfl rfl ?_) | (at_make; refine wl_make rfl _ _ _ rfl _ _ rfl rfl ?_) | (at_mapUpdate; refine wl_mapUpdate rfl _ _ _ _ rfl _ _ _ rfl rfl rfl ?_) | (at_lookup; refine wl_lookup rfl _ _ _ _ rfl _ _ rfl rfl ?_) | (at_delete; refine wl_delete rfl _ _ _ _ rfl _ _ rfl rfl ?_) | (with_reducible refine wl_len rfl _ _ rfl _ rfl ?_) | (with_reducible refine wl_range rfl _ _ rfl _ rfl ?_) | (with_reducible refine wl_next rfl _ rfl _ rfl ?_) | (with_reducible refine wl_copy rfl _ _ _ _ rfl _ _ rfl rfl ?_) | (with_reducible refine wl_max rfl _ _ _ _ rfl _ _ rfl rfl ?_) | (with_reducible refine wl_min rfl _ _ _ _ rfl _ _ rfl rfl ?_))
  have hkW : Keep No w (w.alloc (.cells #[.pointer (some ⟨d, 0, none⟩)] 24)) := (Keep.refl _ _).alloc _
  have hBW : Blk (w.alloc (.cells #[.pointer (some ⟨d, 0, none⟩)] 24)) w.heap.size #[.pointer (some ⟨d, 0, none⟩)] 24 := Blk.new _ _ _
  have hzW : (w.alloc (.cells #[.pointer (some ⟨d, 0, none⟩)] 24)).heap.size = w.heap.size + 1 := World.size_alloc _ _
  generalize w.alloc (.cells #[.pointer (some ⟨d, 0, none⟩)] 24) = W at *
  have c1 := hBW.cell
  go_wp2_with (first | (at_builtin; refine wl_append rfl _ _ _ _ rfl _ _ rfl rfl ?_) | (at_make; refine wl_make rfl _ _ _ rfl _ _ rfl rfl ?_) | (at_mapUpdate; refine wl_mapUpdate rfl _ _ _ _ rfl _ _ _ rfl rfl rfl ?_) | (at_lookup; refine wl_lookup rfl _ _ _ _ rfl _ _ rfl rfl ?_) | (at_delete; refine wl_delete rfl _ _ _ _ rfl _ _ rfl rfl ?_) | (with_reducible refine wl_len rfl _ _ rfl _ rfl ?_) | (with_reducible refine wl_range rfl _ _ rfl _ rfl ?_) | (with_reducible refine wl_next rfl _ rfl _ rfl ?_) | (with_reducible refine wl_copy rfl _ _ _ _ rfl _ _ rfl rfl ?_) | (with_reducible refine wl_max rfl _ _ _ _ rfl _ _ rfl rfl ?_) | (with_reducible refine wl_min rfl _ _ _ _ rfl _ _ rfl rfl ?_))
  refine (names_own (h.keep hkW fun _ _ h => h) hm (by omega)).mono ?_
  rintro e wN ⟨vn, rfl, hvn, kN⟩
  replace hBW := hBW.keep kN fun h => h
  replace hkW := hkW.trans' kN
  have hbase := hkW.size
  have hvn2 : Sl (fun j => j < wN.heap.size) wN 1 vn (namesOf m).length ((namesOf m).map encStr) := Sl.mono (Sl.of_own hvn) fun j hj _ => hj
  obtain ⟨an, cn, rfl, _, _⟩ := hvn2.shape
  clear kN hvn hzW c1
  go_wp2_with (first | (at_builtin; refine wl_append rfl _ _ _ _ rfl _ _ rfl rfl ?_) | (at_make; refine wl_make rfl _ _ _ rfl _ _ rfl rfl ?_) | (at_mapUpdate; refine wl_mapUpdate rfl _ _ _ _ rfl _ _ _ rfl rfl rfl ?_) | (at_lookup; refine wl_lookup rfl _ _ _ _ rfl _ _ rfl rfl ?_) | (at_delete; refine wl_delete rfl _ _ _ _ rfl _ _ rfl rfl ?_) | (with_reducible refine wl_len rfl _ _ rfl _ rfl ?_) | (with_reducible refine wl_range rfl _ _ rfl _ rfl ?_) | (with_reducible refine wl_next rfl _ rfl _ rfl ?_) | (with_reducible refine wl_copy rfl _ _ _ _ rfl _ _ rfl rfl ?_) | (with_reducible refine wl_max rfl _ _ _ _ rfl _ _ rfl rfl ?_) | (with_reducible refine wl_min rfl _ _ _ _ rfl _ _ rfl rfl ?_))
  go_loopw [3, 11] (fun ov iv wr => ∃ (k : Nat) (vs : List Value), iv = .int .i64 k ∧ k ≤ (namesOf m).length ∧ FlO wr wN.heap.size 94 1 encV ov vs ∧ Steps No w wr d vs (tidyS ((namesOf m).take k)) ∧ vs.length ≤ k ∧ Keep (fun j => wN.heap.size ≤ j) wN wr) (fun _ iv _ => (namesOf m).length - (intOf iv).toNat)
  case atStart => exact ⟨0, [], rfl, Nat.zero_le _, FlO.nil, Steps.nil, Nat.le_refl _, Keep.refl _ _⟩
  case round =>
    obtain ⟨k, vs, rfl, hk, ho, hst, hvl, hK⟩ := hrel
    have hB1 := hBW.keep hK fun h => absurd h (Nat.not_le.2 hBW.lt)
    have c1 := hB1.cell
    obtain ⟨ao, co, rfl, _, _⟩ := ho.fl.shape
    rcases Nat.lt_or_ge k (namesOf m).length with hkl | hkl
    · obtain ⟨g, off, cap, e, hg, hgl, _, _, hcell⟩ := hvn2.at (Nat.lt_of_le_of_lt (Nat.zero_le k) hkl)
      cases e
      have q := (hK.cell (p := ⟨g, off + k, none⟩) hgl (fun h => absurd h (Nat.not_le.2 hgl))).trans (hcell k (encStr (namesOf m)[k]) (by rw [List.getElem?_map, List.getElem?_eq_getElem hkl]; rfl))
      have hfl : tidyS ((namesOf m).take (k + 1)) = tidyS ((namesOf m).take k) ++ if isDraft (namesOf m)[k] then [⟨5, (namesOf m)[k], [], 0, []⟩] else [] := by
        unfold tidyS
        rw [List.take_succ_eq_append_getElem hkl, List.filter_append, List.map_append]
        congr 1
        by_cases e : isDraft (namesOf m)[k] = true
        · simp [e]
        · simp [e]
      unfold encStr at q
      have hkl' : (k : Int) < ((namesOf m).length : Int) := by omega
      have HF := Lib.hid hfl
      clear hcell hfl
      generalize (namesOf m)[k] = nk at *
      go_wp2_with (first | (at_builtin; refine wl_append rfl _ _ _ _ rfl _ _ rfl rfl ?_) | (at_make; refine wl_make rfl _ _ _ rfl _ _ rfl rfl ?_) | (at_mapUpdate; refine wl_mapUpdate rfl _ _ _ _ rfl _ _ _ rfl rfl rfl ?_) | (at_lookup; refine wl_lookup rfl _ _ _ _ rfl _ _ rfl rfl ?_) | (at_delete; refine wl_delete rfl _ _ _ _ rfl _ _ rfl rfl ?_) | (with_reducible refine wl_len rfl _ _ rfl _ rfl ?_) | (with_reducible refine wl_range rfl _ _ rfl _ rfl ?_) | (with_reducible refine wl_next rfl _ rfl _ rfl ?_) | (with_reducible refine wl_copy rfl _ _ _ _ rfl _ _ rfl rfl ?_) | (with_reducible refine wl_max rfl _ _ _ _ rfl _ _ rfl rfl ?_) | (with_reducible refine wl_min rfl _ _ _ _ rfl _ _ rfl rfl ?_))
      have hkX : Keep No wr (wr.alloc (.cells #[.string ⟨nk.toArray⟩] 9)) := (Keep.refl _ _).alloc _
      have hBX : Blk (wr.alloc (.cells #[.string ⟨nk.toArray⟩] 9)) wr.heap.size #[.string ⟨nk.toArray⟩] 9 := Blk.new _ _ _
      have hzX : (wr.alloc (.cells #[.string ⟨nk.toArray⟩] 9)).heap.size = wr.heap.size + 1 := World.size_alloc _ _
      generalize wr.alloc (.cells #[.string ⟨nk.toArray⟩] 9) = X at *
      have hwr : w.heap.size ≤ wr.heap.size := Nat.le_trans hbase hK.size
      have hwN : wN.heap.size ≤ wr.heap.size := hK.size
      have hKX := hK.trans' (hkX.mono fun _ _ h => h.elim)
      replace ho := FlO.no ho hkX
      replace hst := hst.keep hwr hkX fun _ _ h => h
      replace hB1 := hB1.keep hkX fun h => h
      have cX := hBX.cell
      clear hK hkX hzX c1 q
      have c1 := hB1.cell
      refine (draft_any nk _).mono ?_
      rintro e x ⟨rfl, rfl⟩
      cases hdr : isDraft nk with
      | false =>
        go_wp2_with (first | (at_builtin; refine wl_append rfl _ _ _ _ rfl _ _ rfl rfl ?_) | (at_make; refine wl_make rfl _ _ _ rfl _ _ rfl rfl ?_) | (at_mapUpdate; refine wl_mapUpdate rfl _ _ _ _ rfl _ _ _ rfl rfl rfl ?_) | (at_lookup; refine wl_lookup rfl _ _ _ _ rfl _ _ rfl rfl ?_) | (at_delete; refine wl_delete rfl _ _ _ _ rfl _ _ rfl rfl ?_) | (with_reducible refine wl_len rfl _ _ rfl _ rfl ?_) | (with_reducible refine wl_range rfl _ _ rfl _ rfl ?_) | (with_reducible refine wl_next rfl _ rfl _ rfl ?_) | (with_reducible refine wl_copy rfl _ _ _ _ rfl _ _ rfl rfl ?_) | (with_reducible refine wl_max rfl _ _ _ _ rfl _ _ rfl rfl ?_) | (with_reducible refine wl_min rfl _ _ _ _ rfl _ _ rfl rfl ?_))
        go_roundw
        case rel => exact ⟨k + 1, vs, by go_num, hkl, ho, by rw [HF.out, hdr]; simpa using hst, by omega, hKX⟩
        case measure => simp [intOf]; omega
      | true =>
        go_wp2_with (first | (at_builtin; refine wl_append rfl _ _ _ _ rfl _ _ rfl rfl ?_) | (at_make; refine wl_make rfl _ _ _ rfl _ _ rfl rfl ?_) | (at_mapUpdate; refine wl_mapUpdate rfl _ _ _ _ rfl _ _ _ rfl rfl rfl ?_) | (at_lookup; refine wl_lookup rfl _ _ _ _ rfl _ _ rfl rfl ?_) | (at_delete; refine wl_delete rfl _ _ _ _ rfl _ _ rfl rfl ?_) | (with_reducible refine wl_len rfl _ _ rfl _ rfl ?_) | (with_reducible refine wl_range rfl _ _ rfl _ rfl ?_) | (with_reducible refine wl_next rfl _ rfl _ rfl ?_) | (with_reducible refine wl_copy rfl _ _ _ _ rfl _ _ rfl rfl ?_) | (with_reducible refine wl_max rfl _ _ _ _ rfl _ _ rfl rfl ?_) | (with_reducible refine wl_min rfl _ _ _ _ rfl _ _ rfl rfl ?_))
        refine rg_steps (n := 1) (Steps.one (s := ⟨5, nk, [], 0, []⟩) (.inl ⟨_, _, _, nk, rfl, .inr rfl, rfl, FB.box hB1 (by decide) (Nat.le_refl _), FB.box hBX (by decide) hwr, hB1, hBX⟩)) hst ho hbase hKX.size rfl (by omega) ?_
        intro v' w2 ho2 hst2 hk2 _
        have hK2 := hKX.trans' hk2
        clear hKX hk2 ho hst hB1 hBX c1 cX
        obtain ⟨ao2, co2, rfl, _, _⟩ := ho2.fl.shape
        go_wp2_with (first | (at_builtin; refine wl_append rfl _ _ _ _ rfl _ _ rfl rfl ?_) | (at_make; refine wl_make rfl _ _ _ rfl _ _ rfl rfl ?_) | (at_mapUpdate; refine wl_mapUpdate rfl _ _ _ _ rfl _ _ _ rfl rfl rfl ?_) | (at_lookup; refine wl_lookup rfl _ _ _ _ rfl _ _ rfl rfl ?_) | (at_delete; refine wl_delete rfl _ _ _ _ rfl _ _ rfl rfl ?_) | (with_reducible refine wl_len rfl _ _ rfl _ rfl ?_) | (with_reducible refine wl_range rfl _ _ rfl _ rfl ?_) | (with_reducible refine wl_next rfl _ rfl _ rfl ?_) | (with_reducible refine wl_copy rfl _ _ _ _ rfl _ _ rfl rfl ?_) | (with_reducible refine wl_max rfl _ _ _ _ rfl _ _ rfl rfl ?_) | (with_reducible refine wl_min rfl _ _ _ _ rfl _ _ rfl rfl ?_))
        go_roundw
        case rel => exact ⟨k + 1, _, by go_num, hkl, ho2, by rw [HF.out, hdr]; exact hst2, by simp only [List.length_append, List.length_singleton]; omega, hK2⟩
        case measure => simp [intOf]; omega
    · obtain rfl : k = (namesOf m).length := Nat.le_antisymm hk hkl
      rw [List.take_length] at hst
      have hw1 : w.heap.size ≤ wr.heap.size := Nat.le_trans hbase hK.size
      have hKw : Keep No w wr := hkW.trans hK fun j hj hb => absurd (Nat.le_trans hbase hb) (Nat.not_le.2 hj)
      have hlE := hst.len
      by_cases hnil : tidyS (namesOf m) = []
      · have hv0 : vs = [] := List.eq_nil_of_length_eq_zero (by rw [hlE, hnil]; rfl)
        subst hv0
        have e1 : tidyD m = (m, 0) := by rw [HT.out, if_pos hnil]
        have E1 := Lib.hid e1
        clear e1 hlE hst ho
        go_wp2_with (first | (at_builtin; refine wl_append rfl _ _ _ _ rfl _ _ rfl rfl ?_) | (at_make; refine wl_make rfl _ _ _ rfl _ _ rfl rfl ?_) | (at_mapUpdate; refine wl_mapUpdate rfl _ _ _ _ rfl _ _ _ rfl rfl rfl ?_) | (at_lookup; refine wl_lookup rfl _ _ _ _ rfl _ _ rfl rfl ?_) | (at_delete; refine wl_delete rfl _ _ _ _ rfl _ _ rfl rfl ?_) | (with_reducible refine wl_len rfl _ _ rfl _ rfl ?_) | (with_reducible refine wl_range rfl _ _ rfl _ rfl ?_) | (with_reducible refine wl_next rfl _ rfl _ rfl ?_) | (with_reducible refine wl_copy rfl _ _ _ _ rfl _ _ rfl rfl ?_) | (with_reducible refine wl_max rfl _ _ _ _ rfl _ _ rfl rfl ?_) | (with_reducible refine wl_min rfl _ _ _ _ rfl _ _ rfl rfl ?_))
        go_ret
        rw [E1.out]
        exact ⟨rfl, Own.keep h hKw fun _ _ h => h, hKw.mono fun _ _ h => h.elim⟩
      · have e1 : tidyD m = runS m (tidyS (namesOf m) ++ [⟨6, [], [], 0, []⟩]) := by rw [HT.out, if_neg hnil]
        have E1 := Lib.hid e1
        have hv0 : vs.length ≠ 0 := fun e => hnil (List.eq_nil_of_length_eq_zero (by rw [← hlE]; exact e))
        have hv0' : ((vs.length : Int) == 0) = false := by simpa using hv0
        clear e1
        have hok : ∀ c ∈ tidyS (namesOf m) ++ [⟨6, [], [], 0, []⟩], ClOk c := by
          intro c hc
          rcases List.mem_append.1 hc with hc | hc
          · obtain ⟨s, hs, rfl⟩ := List.mem_map.1 hc
            exact ⟨hNo s (List.mem_filter.1 hs).1, by simp, by simp⟩
          · simp only [List.mem_singleton] at hc
            subst hc
            exact ⟨by simp, by simp, by simp⟩
        clear hnil hlE
        go_wp2_with (first | (at_builtin; refine wl_append rfl _ _ _ _ rfl _ _ rfl rfl ?_) | (at_make; refine wl_make rfl _ _ _ rfl _ _ rfl rfl ?_) | (at_mapUpdate; refine wl_mapUpdate rfl _ _ _ _ rfl _ _ _ rfl rfl rfl ?_) | (at_lookup; refine wl_lookup rfl _ _ _ _ rfl _ _ rfl rfl ?_) | (at_delete; refine wl_delete rfl _ _ _ _ rfl _ _ rfl rfl ?_) | (with_reducible refine wl_len rfl _ _ rfl _ rfl ?_) | (with_reducible refine wl_range rfl _ _ rfl _ rfl ?_) | (with_reducible refine wl_next rfl _ rfl _ rfl ?_) | (with_reducible refine wl_copy rfl _ _ _ _ rfl _ _ rfl rfl ?_) | (with_reducible refine wl_max rfl _ _ _ _ rfl _ _ rfl rfl ?_) | (with_reducible refine wl_min rfl _ _ _ _ rfl _ _ rfl rfl ?_))
        refine rg_steps (n := 1) (Steps.one (s := ⟨6, [], [], 0, []⟩) (.inr (.inl ⟨rfl, rfl⟩))) hst ho hbase hK.size rfl (by omega) ?_
        intro v' w4 ho4 hst4 hk4 _
        have hK4 := hK.trans' hk4
        have hlE := hst4.len
        have hlv : (vs ++ [Value.func (.func 28) #[ptrTo d] #[]]).length ≤ n + 1 := by rw [List.length_append]; simp; omega
        generalize vs ++ [Value.func (.func 28) #[ptrTo d] #[]] = zs at *
        clear hK hk4 ho hst hB1 c1
        generalize tidyS (namesOf m) ++ [⟨6, [], [], 0, []⟩] = L at *
        have hw4 : w.heap.size ≤ w4.heap.size := Nat.le_trans hbase hK4.size
        have hKw4 : Keep No w w4 := hkW.trans hK4 fun j hj hb => absurd (Nat.le_trans hbase hb) (Nat.not_le.2 hj)
        have hsl : Sl (fun j => w.heap.size ≤ j ∧ j < w4.heap.size) w4 1 v' L.length zs := by
          have h1 := Sl.of_own ho4
          rw [encV_map hst4.fn, hlE] at h1
          exact Sl.mono h1 fun j hj ha => ⟨Nat.le_trans hbase ha.1, hj⟩
        have hst5 : ∀ (i : Nat) (v : Value) (c : Cl), zs[i]? = some v → L[i]? = some c → StepAt (fun j => w.heap.size ≤ j ∧ j < w4.heap.size) w4 d v c := fun i v c hv hc => (hst4.at_ i v c hv hc).mono fun j _ hf => by
          rcases hf with hf | hf
          · exact hf.1.elim
          · exact ⟨hf.1, hf.2.1⟩
        have hO4 : Own (fun j => (P j ∧ j < w.heap.size) ∨ w4.heap.size ≤ j) w4 d m := by
          have h1 : DR (fun k => P k ∧ k < w.heap.size) w d m := h
          exact (DR.keep h1 (fun k hk => hk.2) hKw4 fun _ _ h => h).mono fun k hk ha => ⟨.inl ha, hk⟩
        obtain ⟨az, cz, rfl, _, _⟩ := hsl.shape
        clear hv0 hv0'
        go_wp2_with (first | (at_builtin; refine wl_append rfl _ _ _ _ rfl _ _ rfl rfl ?_) | (at_make; refine wl_make rfl _ _ _ rfl _ _ rfl rfl ?_) | (at_mapUpdate; refine wl_mapUpdate rfl _ _ _ _ rfl _ _ _ rfl rfl rfl ?_) | (at_lookup; refine wl_lookup rfl _ _ _ _ rfl _ _ rfl rfl ?_) | (at_delete; refine wl_delete rfl _ _ _ _ rfl _ _ rfl rfl ?_) | (with_reducible refine wl_len rfl _ _ rfl _ rfl ?_) | (with_reducible refine wl_range rfl _ _ rfl _ rfl ?_) | (with_reducible refine wl_next rfl _ rfl _ rfl ?_) | (with_reducible refine wl_copy rfl _ _ _ _ rfl _ _ rfl rfl ?_) | (with_reducible refine wl_max rfl _ _ _ _ rfl _ _ rfl rfl ?_) | (with_reducible refine wl_min rfl _ _ _ _ rfl _ _ rfl rfl ?_))
        refine (all_any (P := fun j => (P j ∧ j < w.heap.size) ∨ w4.heap.size ≤ j) hsl hst5 hO4 (fun k hk => .inr hk) hm (by omega) (by omega) (fun k hf hp => by
          rcases hp with hp | hp
          · omega
          · omega) hok).mono ?_
        rintro e w5 ⟨rfl, hO5, hK5⟩
        go_wp2_with (first | (at_builtin; refine wl_append rfl _ _ _ _ rfl _ _ rfl rfl ?_) | (at_make; refine wl_make rfl _ _ _ rfl _ _ rfl rfl ?_) | (at_mapUpdate; refine wl_mapUpdate rfl _ _ _ _ rfl _ _ _ rfl rfl rfl ?_) | (at_lookup; refine wl_lookup rfl _ _ _ _ rfl _ _ rfl rfl ?_) | (at_delete; refine wl_delete rfl _ _ _ _ rfl _ _ rfl rfl ?_) | (with_reducible refine wl_len rfl _ _ rfl _ rfl ?_) | (with_reducible refine wl_range rfl _ _ rfl _ rfl ?_) | (with_reducible refine wl_next rfl _ rfl _ rfl ?_) | (with_reducible refine wl_copy rfl _ _ _ _ rfl _ _ rfl rfl ?_) | (with_reducible refine wl_max rfl _ _ _ _ rfl _ _ rfl rfl ?_) | (with_reducible refine wl_min rfl _ _ _ _ rfl _ _ rfl rfl ?_))
        go_ret
        rw [E1.out]
        refine ⟨rfl, DR.mono hO5 fun k hk ha => ⟨?_, ha.2⟩, (hKw4.mono fun _ _ h => h.elim).trans hK5 fun j hj hp => ?_⟩
        · rcases ha.1 with hp | hp
          · exact hp.1
          · exact hP k (Nat.le_trans hw4 hp)
        · rcases hp with hp | hp
          · exact hp.1
          · omega
end Go.Proofs.YtkmoomgmmhmaeaaGreat
