/- The document's table of strings. The document's Build: rows that grow, a function's later part, what a Spec yields. layout.Bases. No condition. -/
import Derived.Test.YtbnahidopemkiaaApS
import Derived.Test.YtbnahidopemkiaaSigT
import Derived.Deep.CutRange
import Derived.Deep.CutBlock
import Derived.Deep.DeepCutAuto
import Derived.Test.YtbnahidopemkiaaBu1
set_option linter.unusedVariables false
set_option linter.unusedSimpArgs false
namespace Go.Proofs.Ytbnahidopemkiaa
open Go.RowKit Go.Dm Go.Dm.Oc Go.Dm.Ld
structure StrR (l : List BS) (w wr : World) (i : Nat) (vt vp : Value) (tb : BS) (done : List (BS × Nat)) : Prop where
  row : FlO wr w.heap.size 5 1 e8 vt tb
  out : FlO wr w.heap.size 34 1 encN vp (done.map (·.2))
  sep : ∀ g, vp.ownBlock = some g → vt.ownBlock ≠ some g
  dl : done.length = i
  nm : done.map (·.1) = l.take i
  lt : ∀ p ∈ done, p.2 < tb.length
  pos : 0 < tb.length
  go : strGo (l.drop i) done tb = strGo l [] [0]
  tl : tb.length ≤ 1 + i * 100001
  kw : Keep No w wr
theorem tl_step {i n : Nat} (h : n ≤ 1 + i * 100001) : n ≤ 1 + (i + 1) * 100001 := Nat.le_trans h (Nat.add_le_add_left (Nat.mul_le_mul_right _ (Nat.le_succ _)) _)
theorem StrR.place {l : List BS} {w wr w2 : World} {i x : Nat} {vt vp vp' : Value} {tb s : BS} {done : List (BS × Nat)} (h : StrR l w wr i vt vp tb done)
    (ho : FlO w2 w.heap.size 34 1 encN vp' (done.map (·.2) ++ [x])) (hk : Keep (fun j => some j = vp.ownBlock) wr w2) (hn : vp'.ownBlock = vp.ownBlock ∨ vp'.ownBlock = some (wr.heap.size + 1))
    (hnm : l.take (i + 1) = done.map (·.1) ++ [s]) (hx : x < tb.length) (hgo : strGo (l.drop (i + 1)) (done ++ [(s, x)]) tb = strGo l [] [0]) (htl : tb.length ≤ 1 + (i + 1) * 100001) :
    StrR l w w2 (i + 1) vt vp' tb (done ++ [(s, x)]) := by
  refine ⟨h.row.same fun g hg => hk.block g (World.ownsRow.lt h.row g hg).2 fun e => h.sep g e.symm hg, by rw [List.map_append]; exact ho, fun g hg e => ?_, by rw [List.length_append, h.dl]; rfl, by rw [List.map_append, hnm]; rfl, fun p hp => ?_, h.pos, hgo, htl, h.kw.own h.out hk⟩
  · rcases hn with e2 | e2
    · exact h.sep g (e2 ▸ hg) e
    · rw [e2] at hg
      cases hg
      have := (World.ownsRow.lt h.row _ e).2
      omega
  · rcases List.mem_append.1 hp with hp | hp
    · exact h.lt p hp
    · rw [List.mem_singleton.1 hp]; exact hx
theorem StrR.no {l : List BS} {w wr w2 : World} {i : Nat} {vt vp : Value} {tb : BS} {done : List (BS × Nat)} (h : StrR l w wr i vt vp tb done) (hk : Keep No wr w2) : StrR l w w2 i vt vp tb done :=
  ⟨h.row.no hk, h.out.no hk, h.sep, h.dl, h.nm, h.lt, h.pos, h.go, h.tl, h.kw.trans' hk⟩
/-- a string that was not there: the table grows -/
theorem StrR.grow {l : List BS} {w wr w1 w2 : World} {i x : Nat} {vt vt' vp vp' : Value} {tb tb' s : BS} {done : List (BS × Nat)} (h : StrR l w wr i vt vp tb done)
    (hP : Pushed w.heap.size wr w1 vt vt' tb') (ho : FlO w2 w.heap.size 34 1 encN vp' (done.map (·.2) ++ [x])) (hk : Keep (fun j => some j = vp.ownBlock) w1 w2) (hn : vp'.ownBlock = vp.ownBlock ∨ vp'.ownBlock = some (w1.heap.size + 1))
    (hnm : l.take (i + 1) = done.map (·.1) ++ [s]) (hx : x < tb'.length) (hle : tb.length ≤ tb'.length) (hgo : strGo (l.drop (i + 1)) (done ++ [(s, x)]) tb' = strGo l [] [0]) (htl : tb'.length ≤ 1 + (i + 1) * 100001) :
    StrR l w w2 (i + 1) vt' vp' tb' (done ++ [(s, x)]) := by
  have hpw : ∀ g, vp.ownBlock = some g → g < wr.heap.size := fun g hg => (World.ownsRow.lt h.out g hg).2
  have hsep : ∀ g, vp.ownBlock = some g → vt'.ownBlock ≠ some g := fun g hg e => by
    rcases hP.own with e2 | ⟨g2, e2, hg2⟩
    · exact h.sep g hg (e2 ▸ e)
    · rw [e2] at e
      cases e
      have := hpw _ hg
      omega
  have hkw1 : Keep No w w1 := h.kw.own h.row hP.kept
  have hout1 : FlO w1 w.heap.size 34 1 encN vp (done.map (·.2)) := h.out.same fun g hg => hP.kept.block g (hpw g hg) fun e => h.sep g hg e.symm
  refine ⟨hP.row.same fun g hg => hk.block g (World.ownsRow.lt hP.row g hg).2 fun e => hsep g e.symm hg, by rw [List.map_append]; exact ho, fun g hg e => ?_, by rw [List.length_append, h.dl]; rfl, by rw [List.map_append, hnm]; rfl, fun p hp => ?_, Nat.lt_of_lt_of_le h.pos hle, hgo, htl, hkw1.own hout1 hk⟩
  · rcases hn with e2 | e2
    · exact hsep g (e2 ▸ hg) e
    · rw [e2] at hg
      cases hg
      have := (World.ownsRow.lt hP.row _ e).2
      omega
  · rcases List.mem_append.1 hp with hp | hp
    · exact Nat.lt_of_lt_of_le (h.lt p hp) hle
    · rw [List.mem_singleton.1 hp]; exact hx
theorem strStep_none {done : List (BS × Nat)} {tb s : BS} (hs : s ≠ []) (h : ∀ (j : Nat) (p : BS × Nat), done[j]? = some p → (p.1 == s) = false) : strStep done tb s = (tb.length, tb ++ s ++ [0]) := by
  unfold strStep
  rw [if_neg hs]
  have hf : done.find? (fun p => p.1 == s) = none := by
    rw [List.find?_eq_none]
    intro p hp
    obtain ⟨j, hj, rfl⟩ := List.getElem_of_mem hp
    rw [h j _ (List.getElem?_eq_getElem hj)]
    decide
  rw [hf]
theorem strStep_some {done : List (BS × Nat)} {tb s : BS} {k : Nat} {p : BS × Nat} (hs : s ≠ []) (hk : done[k]? = some p) (he : (p.1 == s) = true) (h : ∀ (j : Nat), j < k → ∀ (p : BS × Nat), done[j]? = some p → (p.1 == s) = false) : strStep done tb s = (p.2, tb) := by
  unfold strStep
  rw [if_neg hs]
  have hf : done.find? (fun p => p.1 == s) = some p := by
    obtain ⟨hkl, rfl⟩ := List.getElem?_eq_some_iff.1 hk
    rw [List.find?_eq_some_iff_getElem]
    refine ⟨he, k, hkl, rfl, fun j hj => ?_⟩
    rw [h j hj _ (List.getElem?_eq_getElem (Nat.lt_trans hj hkl))]
    rfl
  rw [hf]
theorem ba_eq (a b : List UInt8) : ((⟨a.toArray⟩ : ByteArray).toList == (⟨b.toArray⟩ : ByteArray).toList) = (a == b) := by
  rw [Lib.toList_data, Lib.toList_data]
section
variable {A : Nat → Prop} {w : World} {v : Value}
set_option maxRecDepth 100000 in
set_option maxHeartbeats 4000000 in
theorem r02build_any (l : List BS) (hl : Fl A w 1 encS v l) (hn : l.length ≤ 4096) (hb : ∀ s ∈ l, s.length ≤ 100000) :
    Calls Try.prog 29 #[v] w fun e w' => ∃ vt vp, e = .returned (.tuple #[vt, vp, .int .i64 ((strM l).1 : Nat)]) ∧ FlO w' w.heap.size 5 1 e8 vt (strM l).2.1 ∧ FlO w' w.heap.size 34 1 encN vp (strM l).2.2 ∧ Keep No w w' := by
  have HL := Lib.hid hl
  obtain ⟨av, cv, rfl, _, _⟩ := hl.shape
  have HB := Lib.hid hb
  clear hl hb
  have hM : strM l = if l.any (fun s => s.contains 0) then (1, [], []) else if 65536 < (strGo l [] [0]).2.length then (13, [], []) else (0, (strGo l [] [0]).2, (strGo l [] [0]).1.map (·.2)) := rfl
  generalize strM l = res at *
  have HM := Lib.hid hM
  clear hM
  go_enter Try.func29, Try.ntmps29
  go_wp2_with fail
  go_loopw [6, 7] (fun iv _ wr => ∃ i : Nat, iv = .int .i64 (i : Int) ∧ i ≤ l.length ∧ Keep No w wr ∧ Hid (∀ j, j < i → ∀ s, l[j]? = some s → s.contains 0 = false)) (fun iv _ _ => l.length - (intOf iv).toNat)
  case atStart => exact ⟨0, rfl, Nat.zero_le _, Keep.refl _ _, Lib.hid fun j hj => absurd hj (Nat.not_lt_zero _)⟩
  case round =>
    obtain ⟨i, rfl, hi, hk, HNO⟩ := hrel
    generalize wr = wz at *
    rcases Nat.lt_or_ge i l.length with hlt | hge
    · obtain ⟨g1, off, cap, ev, _, hg1, _, _, hcd⟩ := (HL.out.no hk).at encS_len hlt
      cases ev
      have d0 := hcd 0 _ rfl
      rw [Nat.add_zero, Nat.mul_one] at d0
      have hiz : (i : Int) < (l.length : Int) := by omega
      have hbl := HB.out _ (List.getElem_mem hlt)
      have HI : Hid (l[i]? = some l[i]) := Lib.hid (List.getElem?_eq_getElem hlt)
      have HMEM : Hid (l[i] ∈ l) := Lib.hid (List.getElem_mem hlt)
      clear hcd
      generalize l[i] = s at *
      go_wp2_with fail
      go_loopw [7] (fun kv wr => ∃ k : Nat, kv = .int .i64 (k : Int) ∧ k ≤ s.length ∧ Keep No wz wr ∧ Hid (∀ j, j < k → s[j]? ≠ some 0)) (fun kv _ => s.length - (intOf kv).toNat)
      case atStart => exact ⟨0, rfl, Nat.zero_le _, Keep.refl _ _, Lib.hid fun j hj => absurd hj (Nat.not_lt_zero _)⟩
      case round =>
        obtain ⟨k, rfl, hks, hk2, HNK⟩ := hrel
        generalize wr = wy at *
        have e0 := (hk2.cell (p := ⟨g1, off + i, none⟩) hg1 fun h => h).trans d0
        clear d0
        have hsz : (⟨s.toArray⟩ : ByteArray).size = s.length := by show s.toArray.size = _; simp
        have hby : ∀ (h : k < s.length), (⟨s.toArray⟩ : ByteArray).data[k]? = some s[k] := fun h => by show s.toArray[k]? = _; simp [h]
        generalize (⟨s.toArray⟩ : ByteArray) = bs at *
        rcases Nat.lt_or_ge k s.length with hkl | hkg
        · have hb2 := hby hkl
          clear hby
          have hkz : (k : Int) < (s.length : Int) := by omega
          have hkb : k < bs.size := by omega
          have hbe : bs[k] = s[k] := by
            have h1 : bs.data[k]? = some bs[k] := Array.getElem?_eq_getElem hkb
            rw [h1] at hb2
            exact Option.some.inj hb2
          clear hb2
          by_cases hz : s[k] = 0
          · have hc : ((bs[k].toNat : Int) == 0) = true := by rw [hbe, hz]; rfl
            have hany : l.any (fun s => s.contains 0) = true := List.any_eq_true.2 ⟨s, HMEM.out, List.contains_iff_mem.2 (hz ▸ List.getElem_mem hkl)⟩
            have hr := HM.out
            rw [if_pos hany] at hr
            subst hr
            have hkF := hk.trans' hk2
            clear hbe hz HM hany
            go_wp2_with fail
            refine bodyPost_ret (by rw [results_tmp3 rfl]) rfl ?_
            exact ⟨_, _, rfl, FlO.nil, FlO.nil, hkF⟩
          · have hc : ((bs[k].toNat : Int) == 0) = false := by
              rw [hbe, beq_eq_false_iff_ne]
              intro h
              exact hz (UInt8.toNat_inj.1 (by have : s[k].toNat = 0 := by omega
                                              exact this))
            have HNK2 : Hid (∀ j, j < k + 1 → s[j]? ≠ some 0) := Lib.hid fun j hj h => by
              rcases Nat.lt_or_ge j k with h1 | h1
              · exact HNK.out j h1 h
              · obtain rfl : j = k := by omega
                rw [List.getElem?_eq_getElem hkl] at h
                exact hz (Option.some.inj h)
            clear hbe hz
            go_wp2_with fail
            go_roundw
            case rel => exact ⟨k + 1, by go_num, hkl, hk2, HNK2⟩
            case measure => simp [intOf]; omega
        · obtain rfl : k = s.length := Nat.le_antisymm hks hkg
          have HNO2 : Hid (∀ j, j < i + 1 → ∀ s, l[j]? = some s → s.contains 0 = false) := Lib.hid fun j hj s' hs' => by
            rcases Nat.lt_or_ge j i with h | h
            · exact HNO.out j h s' hs'
            · obtain rfl : j = i := by omega
              rw [HI.out] at hs'
              cases hs'
              rw [Bool.eq_false_iff]
              intro hc
              obtain ⟨q, hq, he⟩ := List.getElem_of_mem (List.contains_iff_mem.1 hc)
              exact HNK.out q hq (by rw [List.getElem?_eq_getElem hq, he])
          have hkF := hk.trans' hk2
          clear hby
          go_wp2_with fail
          go_roundw
          case rel => exact ⟨i + 1, by go_num, hlt, hkF, HNO2⟩
          case measure => simp [intOf]; omega
    · obtain rfl : i = l.length := Nat.le_antisymm hi hge
      have hany : l.any (fun s => s.contains 0) = false := by
        rw [List.any_eq_false]
        intro d hd hb
        obtain ⟨j, hj, rfl⟩ := List.getElem_of_mem hd
        have := HNO.out j hj _ (List.getElem?_eq_getElem hj)
        rw [hb] at this
        cases this
      have hr := HM.out
      rw [hany, if_neg (by decide)] at hr
      have HM2 := Lib.hid hr
      clear hr hany HNO HM hi hge
      go_wp2_with fail
      have hkW : Keep No wz (wz.alloc (.cells #[.int .u8 0] 5)) := (Keep.refl _ _).alloc _
      have hBW : Blk (wz.alloc (.cells #[.int .u8 0] 5)) wz.heap.size #[.int .u8 0] 5 := Blk.new _ _ _
      have hzW : (wz.alloc (.cells #[.int .u8 0] 5)).heap.size = wz.heap.size + 1 := World.size_alloc _ _
      generalize wz.alloc (.cells #[.int .u8 0] 5) = W at *
      have hkw := hk.trans' hkW
      have hwz := hk.size
      have hrow : FlO W w.heap.size 5 1 e8 (.slice (some ⟨wz.heap.size, 0, none⟩) 1 1) [0] := own_blk hBW hwz (n := 1) (size := 1) rfl (by unfold maxLen; omega)
      have hR : StrR l w W 0 (.slice (some ⟨wz.heap.size, 0, none⟩) 1 1) (.slice none 0 0) [0] [] :=
        ⟨hrow, FlO.nil, fun g hg => (by cases hg), rfl, by rw [List.take_zero]; rfl, fun p hp => (by cases hp), Nat.zero_lt_one, by rw [List.drop_zero], Nat.le_add_right _ _, hkw⟩
      clear hrow hkw hBW hkW hzW hk
      go_wp2_with fail
      go_loopw [5, 8, 9, 10, 11, 12] (fun sv vt vp iv _ _ wr => ∃ (i : Nat) (tb : BS) (done : List (BS × Nat)), sv = .int .i64 (tb.length : Int) ∧ iv = .int .i64 (i : Int) ∧ i ≤ l.length ∧ StrR l w wr i vt vp tb done) (fun _ _ _ iv _ _ _ => l.length - (intOf iv).toNat)
      case atStart => exact ⟨0, [0], [], rfl, rfl, Nat.zero_le _, hR⟩
      case round =>
        obtain ⟨i, tb, done, rfl, rfl, hi, hR⟩ := hrel
        generalize wr = wy at *
        obtain ⟨at_, ct, et, _, _⟩ := hR.row.fl.shape
        obtain ⟨ap, cp, ep, _, _⟩ := hR.out.fl.shape
        rw [List.length_map, hR.dl] at ep
        subst et
        subst ep
        have htl := hR.tl
        rcases Nat.lt_or_ge i l.length with hlt | hge
        · obtain ⟨g1, off, cap, ev, _, hg1, _, _, hcd⟩ := (HL.out.no hR.kw).at encS_len hlt
          cases ev
          have d0 := hcd 0 _ rfl
          rw [Nat.add_zero, Nat.mul_one] at d0
          have hiz : (i : Int) < (l.length : Int) := by omega
          have hbl := HB.out _ (List.getElem_mem hlt)
          clear hcd
          have hgo1 : strGo (l.drop (i + 1)) (done ++ [(l[i], (strStep done tb l[i]).1)]) (strStep done tb l[i]).2 = strGo l [] [0] := by
            rw [← hR.go, List.drop_eq_getElem_cons hlt]
            rfl
          have htk : l.take (i + 1) = l.take i ++ [l[i]] := List.take_succ_eq_append_getElem hlt
          have HGO1 := Lib.hid hgo1
          have HTK := Lib.hid htk
          clear hgo1 htk
          generalize l[i] = s at *
          have hp0 := hR.pos
          by_cases hs : s = []
          · subst hs
            have hgo2 := HGO1.out
            rw [show strStep done tb [] = (0, tb) from rfl] at hgo2
            have HGO2 := Lib.hid hgo2
            rw [show (⟨([] : List UInt8).toArray⟩ : ByteArray) = ⟨#[]⟩ from rfl] at d0
            have hz : ((0 : Int) == (tb.length : Int)) = false := by rw [beq_eq_false_iff_ne]; omega
            have hz2 : ((tb.length : Int) == 0) = false := by rw [beq_eq_false_iff_ne]; omega
            clear hgo2 HGO1
            go_wp2_with (at_builtin; refine wl_append rfl _ _ _ _ rfl _ _ rfl rfl ?_)
            refine rg_push (P := Try.prog) (enc := encN) (x := 0) (cs := #[.int .u64 0]) (.int .u64 0) 8 (t := 58) (ty := 58) Try.underlying58 u64_info (by rfl) (by decide) (by rfl) (by rfl) (by intro u hu; rw [List.mem_singleton.1 hu]; rfl) hR.out (by rw [List.length_map, hR.dl]; omega) (by decide) hR.kw.size ?_
            intro v4 w4 ho4 hk4 hn4
            have hR4 : StrR l w w4 (i + 1) (.slice at_ tb.length ct) v4 tb (done ++ [([], 0)]) := hR.place ho4 hk4 hn4 (by rw [HTK.out, hR.nm]) hR.pos HGO2.out (tl_step hR.tl)
            obtain ⟨a4, n4, c4, rfl⟩ : ∃ a n c, v4 = .slice a n c := by
              obtain ⟨a, c, e, _⟩ := ho4.fl.shape
              exact ⟨_, _, _, e⟩
            clear ho4 hk4 hn4 hR
            go_wp2_with (at_builtin; refine wl_append rfl _ _ _ _ rfl _ _ rfl rfl ?_)
            go_roundw
            case rel => exact ⟨i + 1, tb, _, rfl, by go_num, hlt, hR4⟩
            case measure => simp [intOf]; omega
          · have hne : (⟨s.toArray⟩ : ByteArray).toList.isEmpty = false := by
              rw [Lib.toList_data]
              cases s with
              | nil => exact absurd rfl hs
              | cons a b => rfl
            have hdl : done.length = i := hR.dl
            generalize hbs : (⟨s.toArray⟩ : ByteArray) = bs at *
            have HBS := Lib.hid hbs
            have HDL := Lib.hid hdl
            have hi8 : i < 4096 := by omega
            have htb : tb.length ≤ 409604097 := Nat.le_trans hR.tl (Nat.add_le_add_left (Nat.mul_le_mul_right 100001 (Nat.le_of_lt hi8)) 1)
            clear hbs hdl
            go_wp2_with (at_builtin; refine wl_append rfl _ _ _ _ rfl _ _ rfl rfl ?_)
            go_loopw [11, 12] (fun av kv wr => ∃ k : Nat, av = .int .u64 (tb.length : Int) ∧ kv = .int .i64 (k : Int) ∧ k ≤ i ∧ Keep No wy wr ∧ Hid (∀ j, j < k → ∀ p, done[j]? = some p → (p.1 == s) = false)) (fun _ kv _ => i - (intOf kv).toNat)
            case atStart => exact ⟨0, by go_num, rfl, Nat.zero_le _, Keep.refl _ _, Lib.hid fun j hj => absurd hj (Nat.not_lt_zero _)⟩
            case round =>
              obtain ⟨k, rfl, rfl, hki, hk2, HNK⟩ := hrel
              generalize wr = wx at *
              have di := (hk2.cell (p := ⟨g1, off + i, none⟩) hg1 fun h => h).trans d0
              rcases Nat.lt_or_ge k i with hkl | hkg
              · have hkz : (k : Int) < (i : Int) := by omega
                have hkd : k < done.length := by have := HDL.out; omega
                obtain ⟨g2, off2, cap2, ev2, _, _, _, _, hcd2⟩ := (HL.out.no (hR.kw.trans' hk2)).at encS_len (show k < l.length by omega)
                cases ev2
                have dk := hcd2 0 _ rfl
                rw [Nat.add_zero, Nat.mul_one] at dk
                obtain ⟨g3, off3, cap3, ev3, _, _, _, _, hcd3⟩ := (hR.out.no hk2).fl.at (fun _ => rfl) (show k < (done.map (·.2)).length by rw [List.length_map]; exact hkd)
                have dp := hcd3 0 _ rfl
                rw [Nat.add_zero, Nat.mul_one] at dp
                injection ev3 with q1 q2 q3
                subst q1
                clear hcd2 hcd3 q2 q3
                have hl1 : l[k] = done[k].1 := by
                  have h1 : (l.take i)[k]? = (done.map (·.1))[k]? := by rw [hR.nm]
                  rw [List.getElem?_take_of_lt hkl, List.getElem?_eq_getElem (show k < l.length by omega), List.getElem?_map, List.getElem?_eq_getElem hkd] at h1
                  exact Option.some.inj h1
                rw [hl1] at dk
                rw [List.getElem_map] at dp
                have HPK : Hid (done[k]? = some done[k]) := Lib.hid (List.getElem?_eq_getElem hkd)
                have hplt := hR.lt _ (List.getElem_mem hkd)
                clear hl1
                generalize done[k] = p at *
                have hbe := ba_eq p.1 s
                rw [HBS.out] at hbe
                generalize (⟨p.1.toArray⟩ : ByteArray) = bk at *
                cases hps : (p.1 == s) with
                | true =>
                  rw [hps] at hbe
                  have hst := strStep_some (tb := tb) hs HPK.out hps HNK.out
                  have hgo2 := HGO1.out
                  rw [hst] at hgo2
                  have HGO2 := Lib.hid hgo2
                  have hpz : ((p.2 : Int) == (tb.length : Int)) = false := by rw [beq_eq_false_iff_ne]; omega
                  have hpi : (p.2 : Int) < (tb.length : Int) := by omega
                  have HPS := Lib.hid hps
                  clear hst hgo2 HGO1 hps
                  go_wp2_with fail
                  go_quiet (fail)
                  rename_i nq
                  have hkq : Keep No wy (wx.drewN nq) := hk2.drewN _
                  have dpq : (wx.drewN nq).cell? ⟨g3, off3 + k, none⟩ = some (.int .u64 (p.2 : Int)) := dp
                  have hRq : StrR l w (wx.drewN nq) i (.slice at_ tb.length ct) (.slice (some ⟨g3, off3, none⟩) i cp) tb done := hR.no hkq
                  generalize wx.drewN nq = wq at *
                  go_wp2_with (at_builtin; refine wl_append rfl _ _ _ _ rfl _ _ rfl rfl ?_)
                  refine rg_push (P := Try.prog) (enc := encN) (x := p.2) (cs := #[.int .u64 (p.2 : Int)]) (.int .u64 0) 8 (t := 58) (ty := 58) Try.underlying58 u64_info (by rfl) (by decide) (by rfl) (by rfl) (by intro u hu; rw [List.mem_singleton.1 hu]; rfl) hRq.out (by rw [List.length_map, hRq.dl]; omega) (by decide) hRq.kw.size ?_
                  intro v4 w4 ho4 hk4 hn4
                  have hR4 : StrR l w w4 (i + 1) (.slice at_ tb.length ct) v4 tb (done ++ [(s, p.2)]) := hRq.place ho4 hk4 hn4 (by rw [HTK.out, hRq.nm]) hplt HGO2.out (tl_step hRq.tl)
                  obtain ⟨a4, n4, c4, rfl⟩ : ∃ a n c, v4 = .slice a n c := by
                    obtain ⟨a, c, e, _⟩ := ho4.fl.shape
                    exact ⟨_, _, _, e⟩
                  clear ho4 hk4 hn4 hR hRq
                  go_wp2_with (at_builtin; refine wl_append rfl _ _ _ _ rfl _ _ rfl rfl ?_)
                  go_roundw
                  case rel => exact ⟨i + 1, tb, _, rfl, by go_num, hlt, hR4⟩
                  case measure => simp [intOf]; omega
                | false => 
                  rw [hps] at hbe
                  have HNK2 : Hid (∀ j, j < k + 1 → ∀ p, done[j]? = some p → (p.1 == s) = false) := Lib.hid fun j hj p' hp' => by
                    rcases Nat.lt_or_ge j k with h | h
                    · exact HNK.out j h p' hp'
                    · obtain rfl : j = k := by omega
                      rw [HPK.out] at hp'
                      cases hp'
                      exact hps
                  clear hps HPK hplt
                  go_wp2_with fail
                  go_quiet (fail)
                  go_wp2_with fail
                  go_roundw
                  case rel => exact ⟨k + 1, by go_num, by go_num, hkl, by first | exact hk2 | exact hk2.drewN _, HNK2⟩
                  case measure => simp [intOf]; omega
              · obtain rfl : k = i := Nat.le_antisymm hki hkg
                have hst := strStep_none (tb := tb) hs fun j p hp => HNK.out j (by have := (List.getElem?_eq_some_iff.1 hp).1; have := HDL.out; omega) p hp
                have hgo2 := HGO1.out
                rw [hst] at hgo2
                have HGO2 := Lib.hid hgo2
                clear hst hgo2 HGO1
                have hRx : StrR l w wx k (.slice at_ tb.length ct) (.slice ap k cp) tb done := hR.no hk2
                have hll : (tb ++ s ++ [0]).length = tb.length + s.length + 1 := by simp only [List.length_append, List.length_cons, List.length_nil]
                have HLL := Lib.hid hll
                clear hll
                go_wp2_with (at_builtin; refine wl_append rfl _ _ _ _ rfl _ _ rfl rfl ?_)
                refine rg_appstr Try.underlying26 Try.underlying9 s HBS.out hRx.pos hRx.row (by omega) hRx.kw.size ?_
                intro v1 w1 hP1
                obtain ⟨a1, n1, c1, rfl⟩ : ∃ a n c, v1 = .slice a n c := by
                  obtain ⟨a, c, e, _⟩ := hP1.row.fl.shape
                  exact ⟨_, _, _, e⟩
                have hs1 := hP1.kept.size
                have hsz := hRx.kw.size
                go_wp2_with (at_builtin; refine wl_append rfl _ _ _ _ rfl _ _ rfl rfl ?_)
                refine rg_push (w := w1) (cs := #[bv 0]) (enc := e8) (x := 0) (l := tb ++ s) (base := w.heap.size) _ 1 Try.underlying26 o_info rfl (by decide) rfl rfl (e8_one _) hP1.row (by rw [List.length_append]; omega) (by decide) (by omega) ?_
                intro v2 w2 ho2 hk2' hb2
                have hP2 := hP1.step ho2 hk2' hb2
                obtain ⟨a2, n2, c2, e2⟩ : ∃ a n c, v2 = .slice a n c := by
                  obtain ⟨a, c, e, _⟩ := ho2.fl.shape
                  exact ⟨_, _, _, e⟩
                obtain ⟨a3, c3, e3, _, _⟩ := ho2.fl.shape
                rw [HLL.out] at e3
                subst e3
                have hout2 : FlO w2 w.heap.size 34 1 encN (.slice ap k cp) (done.map (·.2)) := hRx.out.same fun g hg => hP2.kept.block g (World.ownsRow.lt hRx.out g hg).2 fun e => hRx.sep g hg e.symm
                have hs2 := hP2.kept.size
                have hlt2 : tb.length < tb.length + s.length + 1 := by omega
                have hd2 : IntKind.i64.wrap (((tb.length + s.length + 1 : Nat) : Int)) = ((tb.length + s.length + 1 : Nat) : Int) := by simp [IntKind.wrap, IntKind.bits, IntKind.signed]; omega
                have HP2 := Lib.hid hP2
                have HR := Lib.hid hRx
                obtain ⟨nl, hnl⟩ : ∃ nl, nl = tb.length + s.length + 1 := ⟨_, rfl⟩
                rw [← hnl] at HP2
                have HNL := Lib.hid hnl
                rw [← hnl]
                clear e2 ho2 hk2' hb2 hP1 hs1 hR hRx hP2 hlt2 hd2 hnl
                go_wp2_with (at_builtin; refine wl_append rfl _ _ _ _ rfl _ _ rfl rfl ?_)
                refine rg_push (P := Try.prog) (enc := encN) (x := tb.length) (cs := #[.int .u64 (tb.length : Int)]) (.int .u64 0) 8 (t := 58) (ty := 58) Try.underlying58 u64_info (by rfl) (by decide) (by rfl) (by rfl) (by intro u hu; rw [List.mem_singleton.1 hu]; rfl) hout2 (by rw [List.length_map, HDL.out]; omega) (by decide) (by omega) ?_
                intro v4 w4 ho4 hk4 hn4
                have hR4 : StrR l w w4 (k + 1) (.slice a3 nl c3) v4 (tb ++ s ++ [0]) (done ++ [(s, tb.length)]) := HR.out.grow HP2.out ho4 hk4 hn4 (by rw [HTK.out, HR.out.nm]) (by rw [HLL.out]; omega) (by rw [HLL.out]; omega) HGO2.out (by rw [HLL.out]; have := HR.out.tl; omega)
                obtain ⟨a4, n4, c4, rfl⟩ : ∃ a n c, v4 = .slice a n c := by
                  obtain ⟨a, c, e, _⟩ := ho4.fl.shape
                  exact ⟨_, _, _, e⟩
                clear ho4 hk4 hn4 hout2 HP2 HR
                go_wp2_with (at_builtin; refine wl_append rfl _ _ _ _ rfl _ _ rfl rfl ?_)
                go_roundw
                case rel => exact ⟨k + 1, tb ++ s ++ [0], _, by rw [HLL.out, HNL.out], by go_num, hlt, hR4⟩
                case measure => simp [intOf]; omega
        · obtain rfl : i = l.length := Nat.le_antisymm hi hge
          have hgo : strGo l [] [0] = (done, tb) := by
            rw [← hR.go, List.drop_length]
            rfl
          have hr := HM2.out
          rw [hgo] at hr
          dsimp only at hr
          rcases Nat.lt_or_ge 65536 tb.length with hb | hb
          · rw [if_pos hb] at hr
            subst hr
            have hbi : (65536 : Int) < (tb.length : Int) := by omega
            have hkF := hR.kw
            clear HM2 hgo hR
            go_wp2_with fail
            refine bodyPost_ret (by rw [results_tmp3 rfl]) rfl ?_
            exact ⟨_, _, rfl, FlO.nil, FlO.nil, hkF⟩
          · rw [if_neg (by omega)] at hr
            subst hr
            have hbi : (tb.length : Int) ≤ (65536 : Int) := by omega
            clear HM2 hgo
            go_wp2_with fail
            refine bodyPost_ret (by rw [results_tmp3 rfl]) rfl ?_
            exact ⟨_, _, rfl, hR.row, hR.out, hR.kw⟩
end
end Go.Proofs.Ytbnahidopemkiaa
namespace Go.Dm.Ld
open Go Go.Dm.Oc
def DfOk (d : Df) : Prop := d.nm.length ≤ 100000 ∧ d.off < 18446744073709551616
def FxOk (f : Fx) : Prop := f.off < 18446744073709551616 ∧ f.ty < 4294967296 ∧ f.df < 4294967295 ∧ f.add < 18446744073709551616
structure SpOk (s : Sp) : Prop where
  so : s.so.length ≤ 100000
  nd : ∀ n ∈ s.need, n.length ≤ 100000
  df : ∀ d ∈ s.defs, DfOk d
  fx : ∀ f ∈ s.fixes, FxOk f
  ln : s.need.length ≤ 2000
  ld : s.defs.length ≤ 2000
  lf : s.fixes.length ≤ 100000
  code : s.code.length ≤ 1099511627776
  data : s.data.length ≤ 1099511627776
  tls : s.tls.length ≤ 1099511627776
  en : s.entry < 18446744073709551616
  bss : s.bss < 18446744073709551616
  tbss : s.tbss < 18446744073709551616
end Go.Dm.Ld
namespace Go.Dm
open Go
/-- the region that a piece of code begins with -/
def codeHead : Code → Option Nat
  | .region m _ _ => some m
  | .seq c _ => codeHead c
  | _ => none
/-- the part of a function's code that begins with region n -/
def codeFrom (n : Nat) : Code → Code
  | .seq c r => match codeHead c with
    | some m => if m == n then .seq c r else codeFrom n r
    | none => codeFrom n r
  | c => c
theorem use_k {P : Program} {c : Code} {Q : Exit → Act → World → Prop} {K : Act → World → Prop} {a : Act} {w : World} (h : ∀ a w, Code.wp P c Q a w → K a w) (h2 : Code.wp P c Q a w) : K a w := h a w h2
def bodyFrom (f : Func) (n : Nat) : Code := match f.body with | some c => codeFrom n c | none => .skip
end Go.Dm
namespace Go.Proofs.Ytbnahidopemkiaa
open Go.RowKit Go.Dm Go.Dm.Oc Go.Dm.Ld
/-- a row of one's own that is newer than all that the rest leans on -/
structure Out {α : Type} (wB w : World) (e : TypeId) (k : Nat) (enc : α → List Value) (v : Value) (l : List α) : Prop where
  row : FlO w wB.heap.size e k enc v l
  kept : Keep (fun j => wB.heap.size ≤ j) wB w
section
variable {α : Type} {wB w w' : World} {e : TypeId} {k : Nat} {enc : α → List Value} {v v' : Value} {l l' m : List α}
theorem Out.base (h : Out wB w e k enc v l) : wB.heap.size ≤ w.heap.size := h.kept.size
theorem Out.call (h : Out wB w e k enc v l) (hk : Keep No w w') : Out wB w' e k enc v l := ⟨h.row.no hk, h.kept.trans hk fun _ _ e => e.elim⟩
theorem Out.push (h : Out wB w e k enc v l) (ho : FlO w' wB.heap.size e k enc v' l') (hk : Keep (fun j => some j = v.ownBlock) w w') : Out wB w' e k enc v' l' :=
  ⟨ho, h.kept.trans hk fun j _ e => (World.ownsRow.lt h.row j e.symm).1⟩
theorem Out.shape (h : Out wB w e k enc v l) : ∃ a c, v = .slice a l.length c := by
  obtain ⟨a, c, e, _⟩ := h.row.fl.shape
  exact ⟨a, c, e⟩
theorem Out.sh (h : Out wB w e k enc v l) : ∃ a n c, v = .slice a n c := by
  obtain ⟨a, c, e⟩ := h.shape
  exact ⟨_, _, _, e⟩
theorem Out.old {w0 : World} (h : Out wB w e k enc v l) (hk : Keep No w0 wB) : Keep No w0 w := hk.trans h.kept fun j hj e => absurd hj (Nat.not_lt.2 (Nat.le_trans hk.size e))
theorem Out.pushed {w w' : World} {v v' : Value} {l l' : List UInt8} (h : Out wB w 5 1 e8 v l) (hp : Pushed wB.heap.size w w' v v' l') : Out wB w' 5 1 e8 v' l' := h.push hp.row hp.kept
theorem _root_.Go.Dm.Blk.out {b : Nat} {cs : Array Value} {t : TypeId} (hB : Blk wB b cs t) (h : Out wB w e k enc v l) : Blk w b cs t := hB.keep h.kept fun e => absurd (Blk.lt hB) (Nat.not_lt.2 e)
theorem fl_part {A : Nat → Prop} {g o n c lo m : Nat} {l : List Nat} (h : Fl A w 1 encN (.slice (some ⟨g, o, none⟩) n c) l) (hl : lo + m ≤ l.length) :
    Fl A w 1 encN (.slice (if c = lo then some ⟨g, o, none⟩ else some ⟨g, o + lo, none⟩) m (c - lo)) ((l.drop lo).take m) := by
  have hm : ((l.drop lo).take m).length = m := by rw [List.length_take, List.length_drop]; omega
  obtain ⟨h1, a', cap, e, hc, hd, hf, hr⟩ := h
  cases e
  unfold Fl
  rw [hm]
  have hfl : ∀ l : List Nat, l.flatMap encN = l.map fun x : Nat => Value.int .u64 (x : Int) := fun l => by
    induction l with
    | nil => rfl
    | cons a r ih => rw [List.flatMap_cons, List.map_cons, ih]; rfl
  rw [hfl]
  refine ⟨by rw [List.length_map, hm]; omega, (if c = lo then some ⟨g, o, none⟩ else some ⟨g, o + lo, none⟩), _, rfl, by omega, by omega, fun ha => ?_, fun hn => ?_⟩
  · exfalso
    split at ha <;> cases ha
  rw [if_neg (by omega)]
  obtain ⟨g2, off, e2, hA, hg, hr⟩ := hr (by omega)
  cases e2
  refine ⟨g, o + lo, rfl, hA, hg, fun j u hu => ?_⟩
  show w.cell? ⟨g, o + lo + j, none⟩ = _
  rw [Nat.add_assoc]
  refine hr _ _ ?_
  rw [hfl]
  rw [List.getElem?_map, List.getElem?_take] at hu
  split at hu
  · rw [List.getElem?_map, ← List.getElem?_drop]; exact hu
  · cases hu
theorem fl_blk {g n : Nat} {cs : Array Value} {t : TypeId} {l : List Nat} (h : Blk w g cs t) (hc : cs.toList = l.flatMap encN) (hn : l.length = n) (hm : n ≤ maxLen) : Fl (fun k => k = g) w 1 encN (.slice (some ⟨g, 0, none⟩) n n) l := by
  unfold Fl
  rw [hn, ← hc]
  refine Sl.mk (by rw [hc, Nat.mul_one, ← hn]; clear hc hn h; induction l with
    | nil => rfl
    | cons a r ih => rw [List.flatMap_cons, List.length_append, ih]; exact Nat.add_comm _ _) rfl h.lt (Nat.le_refl _) hm fun j u hu => by rw [Nat.zero_add, h.cell]; simpa using hu
theorem info_len (nd V : List Nat) : (infoB nd V).length ≤ 16 * nd.length + 128 := by
  unfold infoB
  rw [List.length_append, List.length_append, ents_len, entB_len]
  have := entIs_len V 7
  omega
theorem rg_outz {w : World} {v : Value} {l : List UInt8} {ty : TypeId} {m : Nat} (hO : Out wB w 5 1 e8 v l) (hm : 0 < m) (hlen : l.length + m ≤ 1099511627776) {K : Value → World → Prop}
    (h : ∀ v' w', Out wB w' 5 1 e8 v' (l ++ List.replicate m 0) → K v' w') : AppendGoal Try.prog 26 3 ty v (.int .i64 (m : Int)) w K := by
  have hz := hO.row
  unfold FlO at hz
  rw [e8_map] at hz
  refine rg_zeros hz hm hlen hO.base ?_
  intro v1 w1 ho1 hk1 _
  refine h v1 w1 (hO.push ?_ hk1)
  unfold FlO
  rw [e8_map]
  exact ho1
theorem rg_outcat {A : Nat → Prop} {w : World} {v vs : Value} {l m : List UInt8} {ty : TypeId} (hO : Out wB w 5 1 e8 v l) (hs : Fl A w 1 e8 vs m) (hlen : l.length + m.length ≤ 1099511627776) {K : Value → World → Prop}
    (h : ∀ v' w', Out wB w' 5 1 e8 v' (l ++ m) → K v' w') : AppendGoal Try.prog 26 26 ty v vs w K :=
  rg_cat (base := wB.heap.size) _ 1 Try.underlying26 o_info rfl (by decide) hs e8_one hO.row hlen (by decide) hO.base fun v1 w1 ho1 hk1 _ => h v1 w1 (hO.push ho1 hk1)
theorem rg_outpush {w : World} {v : Value} {l : List UInt8} {ty : TypeId} (x : UInt8) (hO : Out wB w 5 1 e8 v l) (hlen : l.length + 1 ≤ 1099511627776) {K : Value → World → Prop}
    (h : ∀ v' w', Out wB w' 5 1 e8 v' (l ++ [x]) → K v' w') : AppendGoal Try.prog 26 26 ty v (.slice (some ⟨w.heap.size, 0, none⟩) 1 1) (w.alloc (.cells #[bv x] 5)) K :=
  rg_push (cs := #[bv x]) (enc := e8) (x := x) _ 1 Try.underlying26 o_info rfl (by decide) rfl rfl (e8_one _) hO.row hlen (by decide) hO.base fun v1 w1 ho1 hk1 _ => h v1 w1 (hO.push ho1 hk1)
theorem Out.alloc {w : World} (h : Out wB w e k enc v l) (o : Obj) : Out wB (w.alloc o) e k enc v l := h.call ((Keep.refl _ _).alloc o)
theorem Out.drew (h : Out wB w e k enc v l) : Out wB w.drew e k enc v l := h.call (Keep.refl _ _).drew
theorem Out.set {g i : Nat} (h : Out wB w e k enc v l) (hg : wB.heap.size ≤ g) (hv : v.ownBlock ≠ some g) (x : Value) : Out wB (w.setCell ⟨g, i, none⟩ x) e k enc v l :=
  ⟨h.row.same fun j hj => Below.heap_setCell _ _ _ _ fun q => hv (hj.trans (congrArg some q)), h.kept.setCell (fun hl => hg) x⟩
theorem Out.fresh {g : Nat} (h : Out wB w e k enc v l) (hg : w.heap.size ≤ g) : v.ownBlock ≠ some g := fun q => absurd (World.ownsRow.lt h.row g q).2 (Nat.not_lt.2 hg)
theorem fl_len {α : Type} {A : Nat → Prop} {w : World} {k n c : Nat} {enc : α → List Value} {a : Option Addr} {l : List α} (h : Fl A w k enc (.slice a n c) l) : n = l.length := by
  obtain ⟨_, _, q, _, _⟩ := h.shape
  injection q
theorem bts_len {A : Nat → Prop} {w : World} {n c : Nat} {a : Option Addr} {l : List UInt8} (h : Bts A w (.slice a n c) l) : n = l.length := by
  obtain ⟨_, _, q, _, _⟩ := Sl.shape h
  injection q
theorem blk_new2 (w : World) (o : Obj) (cs : Array Value) (t : TypeId) : Blk ((w.alloc o).alloc (.cells cs t)) (w.heap.size + 1) cs t := by
  have h := Blk.new (w.alloc o) cs t
  rw [World.size_alloc] at h
  exact h
theorem encDf_len (d : Df) : (encDf d).length = 4 := rfl
theorem encFx_len (d : Fx) : (encFx d).length = 5 := rfl
end
section
variable {A S : Nat → Prop} {w w' : World} {vn vc vd vt vf vx : Value} {s : Sp}
theorem SpR.keep (h : SpR A w s vn vc vd vt vf vx) (hk : Keep S w w') (hS : ∀ j, j < w.heap.size → A j → ¬ S j) : SpR A w' s vn vc vd vt vf vx :=
  ⟨h.need.keep hk hS, Sl.keep h.code hk hS, Sl.keep h.data hk hS, Sl.keep h.tls hk hS, h.defs.keep hk hS, h.fixes.keep hk hS⟩
theorem SpR.no (h : SpR A w s vn vc vd vt vf vx) (hk : Keep No w w') : SpR A w' s vn vc vd vt vf vx := h.keep hk fun _ _ _ h => h
theorem strGo_inv : ∀ (l : List BS) (done : List (BS × Nat)) (tb : BS), (∀ p ∈ done, p.2 < tb.length) → 0 < tb.length →
    (∀ p ∈ (strGo l done tb).1, p.2 < (strGo l done tb).2.length) ∧ (strGo l done tb).1.length = done.length + l.length
  | [], done, tb, h, _ => ⟨h, by simp [strGo]⟩
  | x :: r, done, tb, h, h0 => by
    have hst : (strStep done tb x).1 < (strStep done tb x).2.length ∧ tb.length ≤ (strStep done tb x).2.length := by
      unfold strStep
      split
      · exact ⟨h0, Nat.le_refl _⟩
      · split
        · rename_i p hp
          exact ⟨h p (List.mem_of_find?_eq_some hp), Nat.le_refl _⟩
        · simp only [List.length_append, List.length_cons, List.length_nil]
          omega
    have ih := strGo_inv r (done ++ [(x, (strStep done tb x).1)]) (strStep done tb x).2 (fun p hp => by
      rcases List.mem_append.1 hp with hp | hp
      · exact Nat.lt_of_lt_of_le (h p hp) hst.2
      · rw [List.mem_singleton.1 hp]; exact hst.1) (Nat.lt_of_lt_of_le h0 hst.2)
    refine ⟨ih.1, ?_⟩
    have h2 : (strGo (x :: r) done tb).1.length = _ := ih.2
    rw [h2]
    simp only [List.length_append, List.length_cons, List.length_nil]
    omega
theorem strM_ok {l : List BS} (h : (strM l).1 = 0) : (strM l).2.2.length = l.length ∧ (∀ x ∈ (strM l).2.2, x < 65536) ∧ (strM l).2.1.length ≤ 65536 := by
  have hi := strGo_inv l [] [0] (fun p hp => by cases hp) Nat.zero_lt_one
  unfold strM at *
  split at h
  · cases h
  · rename_i h1
    rw [if_neg h1]
    split at h
    · cases h
    · rename_i h2
      rw [if_neg h2]
      refine ⟨by rw [List.length_map, hi.2]; exact Nat.zero_add _, fun x hx => ?_, by show (strGo l [] [0]).2.length ≤ 65536; omega⟩
      obtain ⟨p, hp, rfl⟩ := List.mem_map.1 hx
      have := hi.1 p hp
      omega
theorem mayM_ok {s : Sp} (h : mayM s = 0) : (s.kind = 2 ∨ s.kind = 3) ∧ (∀ d ∈ s.defs, 0 ≤ d.wh ∧ d.wh ≤ 3) ∧ (∀ f ∈ s.fixes, (f.wh = 1 ∨ f.wh = 2) ∧ f.df < (s.defs.length : Int)) ∧ s.bss ≤ 1048576 ∧ s.tbss ≤ 1048576 ∧ s.code.length + s.data.length + s.tls.length ≤ 65536 := by
  unfold mayM at h
  split at h
  · cases h
  · rename_i h1
    split at h
    · cases h
    · rename_i h2
      split at h
      · cases h
      · rename_i h3
        split at h
        · cases h
        · rename_i h4
          refine ⟨by omega, fun d hd => ?_, fun f hf => ?_, by omega, by omega, by omega⟩
          · have h5 : badD d = false := by
              rw [Bool.eq_false_iff]
              exact fun h5 => h2 (List.any_eq_true.2 ⟨d, hd, h5⟩)
            unfold badD at h5
            rw [Bool.or_eq_false_iff, decide_eq_false_iff_not, decide_eq_false_iff_not] at h5
            omega
          · have h5 : badF s.defs.length f = false := by
              rw [Bool.eq_false_iff]
              exact fun h5 => h3 (List.any_eq_true.2 ⟨f, hf, h5⟩)
            unfold badF at h5
            rw [Bool.or_eq_false_iff, Bool.and_eq_false_iff, decide_eq_false_iff_not, decide_eq_false_iff_not, decide_eq_false_iff_not] at h5
            omega
def strsOf (s : Sp) : List BS := s.so :: (s.need ++ s.defs.map (·.nm))
end
end Go.Proofs.Ytbnahidopemkiaa
namespace Go.Dm.Ld
open Go
theorem spanGo_lt : ∀ (l : List Sg) (x : Nat × Nat × Bool), SpanOk l → x.1 < 18446744073709551616 → x.2.1 < 18446744073709551616 → (spanGo l x).1 < 18446744073709551616 ∧ (spanGo l x).2.1 < 18446744073709551616
  | [], x, _, h1, h2 => ⟨h1, h2⟩
  | s :: r, (lo, hi, b), hs, h1, h2 => by
    unfold spanGo
    refine spanGo_lt r _ (fun s hs2 => hs s (List.mem_cons_of_mem _ hs2)) ?_ ?_
    · split
      · rename_i ht
        have := lastM_lt ((hs s (List.mem_cons_self ..)).2 ht)
        show (if _ then _ else _) < _
        split <;> omega
      · exact h1
    · split
      · rename_i ht
        have := lastM_lt ((hs s (List.mem_cons_self ..)).2 ht)
        show max hi (lastM s) < _
        have h2 : hi < 18446744073709551616 := h2
        omega
      · exact h2
theorem spanM_lt {l : List Sg} (h : SpanOk l) : (spanM l).1 < 18446744073709551616 ∧ (spanM l).2 < 18446744073709551616 := spanGo_lt l (0, 0, false) h (by decide) (by decide)
end Go.Dm.Ld
namespace Go.Proofs.Ytbnahidopemkiaa
open Go.RowKit Go.Dm Go.Dm.Oc Go.Dm.Ld
section
variable {A : Nat → Prop} {w : World} {v : Value} {ps : List UC} {us : List (BS × Im)}
set_option maxRecDepth 100000 in
set_option maxHeartbeats 4000000 in
theorem lbases_any (hl : Fl A w 12 encU v ps) (hu : UsOk A w ps us) (hs : ∀ u ∈ us, SpanOk u.2.segs) (hn : us.length ≤ 1000) :
    Calls Try.prog 17 #[v] w fun e w' => ∃ v', e = .returned v' ∧ FlO w' w.heap.size 34 1 encN v' (basesM us) ∧ Keep No w w' := by
  have HL := Lib.hid hl
  have HU := Lib.hid hu
  have HS := Lib.hid hs
  have hpl : ps.length = us.length := hu.1
  obtain ⟨ao, co, rfl, hc1, hc2⟩ := hl.shape
  obtain ⟨n, hn'⟩ : ∃ n, n = ps.length := ⟨_, rfl⟩
  have hnb : n ≤ 1000 := by omega
  have HN := Lib.hid hn'
  have HPL := Lib.hid hpl
  have hR : Hid (basesGo (us.drop 0) 0 4096 [] = basesM us) := Lib.hid rfl
  have hO0 : Out w w 34 1 encN (.slice none 0 0) [] := ⟨FlO.nil, Keep.refl _ _⟩
  rw [← hn']
  clear hl hu hs hc1 hc2 hpl hn hn'
  go_enter Try.func17, Try.ntmps17
  go_wp2_with fail
  go_loopw [3, 4, 5, 6, 7, 8, 11] (fun ov av _ _ _ _ iv wr => ∃ (i at_ : Nat) (out : List Nat), iv = .int .i64 i ∧ av = .int .u64 (at_ : Int) ∧ i ≤ n ∧ at_ < 18446744073709551616 ∧ out.length = i ∧ Hid (basesGo (us.drop i) i at_ out = basesM us) ∧ Out w wr 34 1 encN ov out) (fun _ _ _ _ _ _ iv _ => n - (intOf iv).toNat)
  case atStart => exact ⟨0, 4096, [], rfl, rfl, Nat.zero_le _, by decide, rfl, hR, hO0⟩
  case round =>
    obtain ⟨i, at_, out, rfl, rfl, hi, hat, hol, HG, hO⟩ := hrel
    clear hR hO0
    generalize wr = wz at *
    have HOL := Lib.hid hol
    clear hol
    rcases Nat.lt_or_ge i n with hlt | hge
    · have hlt1 : i < ps.length := by rw [← HN.out]; exact hlt
      have hus : i < us.length := by rw [← HPL.out]; exact hlt1
      have hkz : Keep No w wz := hO.old (Keep.refl _ _)
      obtain ⟨g1, off, cap, ev, _, _, _, _, hc⟩ := (HL.out.no hkz).at encU_len hlt1
      rw [← HN.out] at ev
      cases ev
      have hiz : (i : Int) < (n : Int) := by omega
      have huo := (HU.out.2 i _ _ (List.getElem?_eq_getElem hlt1) (List.getElem?_eq_getElem hus)).keep hkz fun _ _ _ h => h
      have hone := encU_one huo
      have hsp := HS.out _ (List.getElem_mem hus)
      have hdr : us.drop i = us[i] :: us.drop (i + 1) := List.drop_eq_getElem_cons hus
      have hg := HG.out
      rw [hdr] at hg
      unfold basesGo at hg
      dsimp only at hg
      have HG2 := Lib.hid hg
      clear hg hdr HG
      generalize us[i] = u at *
      generalize ps[i] = p at *
      go_wp2_with (first | (with_reducible refine wl_ld rfl _ 43 rfl _ rfl ?_) | (with_reducible refine wl_stAgg rfl _ _ _ rfl _ _ rfl rfl ?_))
      refine rg_lds (l := encU p) hc Try.underlying43 rfl (by kernel_rfl) ?_
      go_wp2_with (first | (with_reducible refine wl_ld rfl _ 43 rfl _ rfl ?_) | (with_reducible refine wl_stAgg rfl _ _ _ rfl _ _ rfl rfl ?_))
      have hkW4 : Keep No wz (wz.alloc (.cells #[.string ⟨#[]⟩, .int .i64 0, .int .u64 0, .int .u64 0, .int .i64 0, .slice none 0 0, .string ⟨#[]⟩, .slice none 0 0, .slice none 0 0, .slice none 0 0, .slice none 0 0, .slice none 0 0] 43)) := (Keep.refl _ _).alloc _
      have hBW4 : Blk (wz.alloc (.cells #[.string ⟨#[]⟩, .int .i64 0, .int .u64 0, .int .u64 0, .int .i64 0, .slice none 0 0, .string ⟨#[]⟩, .slice none 0 0, .slice none 0 0, .slice none 0 0, .slice none 0 0, .slice none 0 0] 43)) wz.heap.size #[.string ⟨#[]⟩, .int .i64 0, .int .u64 0, .int .u64 0, .int .i64 0, .slice none 0 0, .string ⟨#[]⟩, .slice none 0 0, .slice none 0 0, .slice none 0 0, .slice none 0 0, .slice none 0 0] 43 := Blk.new _ _ _
      have hzW4 : (wz.alloc (.cells #[.string ⟨#[]⟩, .int .i64 0, .int .u64 0, .int .u64 0, .int .i64 0, .slice none 0 0, .string ⟨#[]⟩, .slice none 0 0, .slice none 0 0, .slice none 0 0, .slice none 0 0, .slice none 0 0] 43)).heap.size = wz.heap.size + 1 := World.size_alloc _ _
      generalize wz.alloc (.cells #[.string ⟨#[]⟩, .int .i64 0, .int .u64 0, .int .u64 0, .int .i64 0, .slice none 0 0, .string ⟨#[]⟩, .slice none 0 0, .slice none 0 0, .slice none 0 0, .slice none 0 0, .slice none 0 0] 43) = W4 at *
      refine rg_stAgg hBW4 (by kernel_rfl) (by rfl) hone ?_
      intro w5 hI5 hk5 hz5
      have hkz5 : Keep No wz w5 := hkW4.trans hk5 fun j hj e => by have e2 : j = wz.heap.size := e; omega
      have huo5 := huo.keep hkz5 fun _ _ _ h => h
      have hO5 := hO.call hkz5
      clear hBW4 hkW4 hzW4 hk5 hz5 hc hO huo hone
      obtain ⟨_, vs, vn, vm, vy, vr, vb, e, hsg, _⟩ := huo5
      have e2 := congrArg (fun l : List Value => l[4]?) e
      have e3 : some p.vs = some vs := e2
      injection e3 with e3
      rw [← e3] at hsg
      have c5 : w5.cell? ⟨wz.heap.size, 5, none⟩ = some p.vs := hI5.cell 5
      obtain ⟨av, cv, epv, _, _⟩ := hsg.shape
      rw [epv] at c5 hsg
      have hspa := span_any (w := w5) u.2.segs hsg hsp
      obtain ⟨hb1, hb2⟩ := spanM_lt hsp
      obtain ⟨nv, hnv⟩ : ∃ n, n = u.2.segs.length := ⟨_, rfl⟩
      rw [← hnv] at c5 hspa
      clear e e2 e3 hsg hI5 hsp epv hnv
      generalize spanM u.2.segs = sp at *
      obtain ⟨lo, hi2⟩ := sp
      dsimp only at hspa hb1 hb2 HG2
      go_wp2_with (first | (with_reducible refine wl_ld rfl _ 43 rfl _ rfl ?_) | (with_reducible refine wl_stAgg rfl _ _ _ rfl _ _ rfl rfl ?_))
      refine hspa.mono ?_
      clear hspa
      rintro e w6 ⟨rfl, hk6⟩
      have hO6 := hO5.call hk6
      clear hO5 hk6 c5 hkz5
      obtain ⟨a2, ha2⟩ : ∃ a, a = if 0 < i then (at_ + 18446744073709551616 - lo) % 18446744073709551616 else at_ := ⟨_, rfl⟩
      rw [← ha2] at HG2
      have ha2b : a2 < 18446744073709551616 := by rw [ha2]; split <;> omega
      have HA2 := Lib.hid ha2
      clear ha2
      go_upto_if 24 with fail
      go_cut [4] from 12 to 36 (fun s4 wc => s4 = .int .u64 (a2 : Int) ∧ wc = w6)
      case first =>
        rcases Nat.eq_zero_or_pos i with h | h
        · have g1 : (i : Int) ≤ 0 := by omega
          have HE : Hid (a2 = at_) := Lib.hid (by rw [HA2.out, if_neg (by omega)])
          clear h
          go_wp2_with fail
          go_meet
          exact ⟨by rw [HE.out], rfl⟩
        · have g1 : (0 : Int) < (i : Int) := by omega
          have HE : Hid (a2 = (at_ + 18446744073709551616 - lo) % 18446744073709551616) := Lib.hid (by rw [HA2.out, if_pos h])
          have hwr : IntKind.u64.wrap ((at_ : Int) - (lo : Int)) = (a2 : Int) := by rw [HE.out, IntKind.wrap_u64]; omega
          clear h
          go_wp2_with fail
          go_meet
          exact ⟨rfl, rfl⟩
      case rest =>
        obtain ⟨rfl, rfl⟩ := hcut
        obtain ⟨a3, n3, c3, rfl⟩ := hO6.sh
        have hol := HOL.out
        have hlen : out.length ≤ 1000 := by omega
        clear hol
        go_wp2_with (at_builtin; refine wl_append rfl _ _ _ _ rfl _ _ rfl rfl ?_)
        refine rg_push (P := Try.prog) (enc := encN) (x := a2) (cs := #[.int .u64 (a2 : Int)]) (.int .u64 0) 8 (t := 58) (ty := 58) Try.underlying58 u64_info (by rfl) (by decide) (by rfl) (by rfl) (by intro u hu; rw [List.mem_singleton.1 hu]; rfl) hO6.row (by omega) (by decide) hO6.base ?_
        intro v7 w7 ho7 hk7 hn7
        have hO7 := hO6.push ho7 hk7
        obtain ⟨q1, hq1⟩ : ∃ q, q = (hi2 + 256) % 18446744073709551616 := ⟨_, rfl⟩
        have hwr1 : IntKind.u64.wrap ((hi2 : Int) + 256) = (q1 : Int) := by rw [hq1, IntKind.wrap_u64]; omega
        obtain ⟨q2, hq2⟩ : ∃ q, q = (a2 + hi2 + 256) % 18446744073709551616 := ⟨_, rfl⟩
        have hwr2 : IntKind.u64.wrap ((a2 : Int) + (q1 : Int)) = (q2 : Int) := by rw [hq2, hq1, IntKind.wrap_u64]; omega
        rw [← hq2] at HG2
        have hq2b : q2 < 18446744073709551616 := by rw [hq2]; exact Nat.mod_lt _ (by decide)
        obtain ⟨a8, n8, c8, rfl⟩ := hO7.sh
        clear hq1 hq2 ho7 hk7 hn7 hO6
        go_wp2_with fail
        go_roundw
        case rel => exact ⟨i + 1, q2, out ++ [a2], by go_num, rfl, hlt, hq2b, by rw [List.length_append, HOL.out]; rfl, HG2, hO7⟩
        case measure => simp [intOf]; omega
    · obtain rfl : i = n := Nat.le_antisymm hi hge
      have hg := HG.out
      rw [List.drop_of_length_le (by rw [← HPL.out, ← HN.out]; exact Nat.le_refl _)] at hg
      have hg : out = basesM us := hg
      obtain ⟨a9, n9, c9, rfl⟩ := hO.sh
      have HG2 := Lib.hid hg
      clear hg HG
      go_wp2_with fail
      go_ret
      rw [← HG2.out]
      exact ⟨_, rfl, hO.row, hO.old (Keep.refl _ _)⟩
end
end Go.Proofs.Ytbnahidopemkiaa
