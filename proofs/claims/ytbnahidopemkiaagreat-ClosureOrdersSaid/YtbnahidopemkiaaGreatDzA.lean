/- The document's table of strings. Loads of a whole block, and of a part of it; a struct that is built. The document's Build: rows that grow, a function's later part, what a Spec yields. The document's bytes and names: Inside, width, Get, Cut, Check, At. The document's entries: None. No condition. -/
import Derived.Test.YtbnahidopemkiaaGreatApS
import Derived.Test.YtbnahidopemkiaaGreatSig
import Derived.Laws.StructEq
import Derived.Laws.Tables
import Derived.Deep.CutRange
import Derived.Deep.CutBlock
import Derived.Deep.DeepCutAuto
import Derived.Test.YtbnahidopemkiaaGreatRd
import Derived.BigQuiet
import Derived.Test.YtbnahidopemkiaaGreatSy1
import Derived.Test.YtbnahidopemkiaaGreatStS
set_option linter.unusedVariables false
set_option linter.unusedSimpArgs false
namespace Go.Proofs.YtbnahidopemkiaaGreat
open Go.RowKit Go.Dm Go.Dm.Oc Go.Dm.Ld
structure StrR (l : List BS) (w wr : World) (i : Nat) (vt vp : Value) (tb : BS) (done : List (BS × Nat)) : Prop where
  row : FlO wr w.heap.size 5 1 e8 vt tb
  out : FlO wr w.heap.size 44 1 encN vp (done.map (·.2))
  sep : ∀ g, vp.ownBlock = some g → vt.ownBlock ≠ some g
  dl : done.length = i
  nm : done.map (·.1) = l.take i
  lt : ∀ p ∈ done, p.2 < tb.length
  pos : 0 < tb.length
  go : strGo (l.drop i) done tb = strGo l [] [0]
  tl : tb.length ≤ 1 + i * 100001
  kw : Keep No w wr
theorem tl_step {i n : Nat} (h : n ≤ 1 + i * 100001) : n ≤ 1 + (i + 1) * 100001 := Nat.le_trans h (Nat.add_le_add_left (Nat.mul_le_mul_right _ (Nat.le_succ _)) _)
theorem StrR.place {l : List BS} {w wr w2 : World} {i x : Nat} {vt vp vp' : Value} {tb s : BS} {done : List (BS × Nat)} (h : StrR l w wr i vt vp tb done)
    (ho : FlO w2 w.heap.size 44 1 encN vp' (done.map (·.2) ++ [x])) (hk : Keep (fun j => some j = vp.ownBlock) wr w2) (hn : vp'.ownBlock = vp.ownBlock ∨ vp'.ownBlock = some (wr.heap.size + 1))
    (hnm : l.take (i + 1) = done.map (·.1) ++ [s]) (hx : x < tb.length) (hgo : strGo (l.drop (i + 1)) (done ++ [(s, x)]) tb = strGo l [] [0]) (htl : tb.length ≤ 1 + (i + 1) * 100001) :
    StrR l w w2 (i + 1) vt vp' tb (done ++ [(s, x)]) := by
  refine ⟨h.row.same fun g hg => hk.block g (World.ownsRow.lt h.row g hg).2 fun e => h.sep g e.symm hg, by rw [List.map_append]; exact ho, fun g hg e => ?_, by rw [List.length_append, h.dl]; rfl, by rw [List.map_append, hnm]; rfl, fun p hp => ?_, h.pos, hgo, htl, h.kw.own h.out hk⟩
  · rcases hn with e2 | e2
    · exact h.sep g (e2 ▸ hg) e
    · rw [e2] at hg
      cases hg
      have := (World.ownsRow.lt h.row _ e).2
      omega
  · rcases List.mem_append.1 hp with hp | hp
    · exact h.lt p hp
    · rw [List.mem_singleton.1 hp]; exact hx
theorem StrR.no {l : List BS} {w wr w2 : World} {i : Nat} {vt vp : Value} {tb : BS} {done : List (BS × Nat)} (h : StrR l w wr i vt vp tb done) (hk : Keep No wr w2) : StrR l w w2 i vt vp tb done :=
  ⟨h.row.no hk, h.out.no hk, h.sep, h.dl, h.nm, h.lt, h.pos, h.go, h.tl, h.kw.trans' hk⟩
/-- a string that was not there: the table grows -/
theorem StrR.grow {l : List BS} {w wr w1 w2 : World} {i x : Nat} {vt vt' vp vp' : Value} {tb tb' s : BS} {done : List (BS × Nat)} (h : StrR l w wr i vt vp tb done)
    (hP : Pushed w.heap.size wr w1 vt vt' tb') (ho : FlO w2 w.heap.size 44 1 encN vp' (done.map (·.2) ++ [x])) (hk : Keep (fun j => some j = vp.ownBlock) w1 w2) (hn : vp'.ownBlock = vp.ownBlock ∨ vp'.ownBlock = some (w1.heap.size + 1))
    (hnm : l.take (i + 1) = done.map (·.1) ++ [s]) (hx : x < tb'.length) (hle : tb.length ≤ tb'.length) (hgo : strGo (l.drop (i + 1)) (done ++ [(s, x)]) tb' = strGo l [] [0]) (htl : tb'.length ≤ 1 + (i + 1) * 100001) :
    StrR l w w2 (i + 1) vt' vp' tb' (done ++ [(s, x)]) := by
  have hpw : ∀ g, vp.ownBlock = some g → g < wr.heap.size := fun g hg => (World.ownsRow.lt h.out g hg).2
  have hsep : ∀ g, vp.ownBlock = some g → vt'.ownBlock ≠ some g := fun g hg e => by
    rcases hP.own with e2 | ⟨g2, e2, hg2⟩
    · exact h.sep g hg (e2 ▸ e)
    · rw [e2] at e
      cases e
      have := hpw _ hg
      omega
  have hkw1 : Keep No w w1 := h.kw.own h.row hP.kept
  have hout1 : FlO w1 w.heap.size 44 1 encN vp (done.map (·.2)) := h.out.same fun g hg => hP.kept.block g (hpw g hg) fun e => h.sep g hg e.symm
  refine ⟨hP.row.same fun g hg => hk.block g (World.ownsRow.lt hP.row g hg).2 fun e => hsep g e.symm hg, by rw [List.map_append]; exact ho, fun g hg e => ?_, by rw [List.length_append, h.dl]; rfl, by rw [List.map_append, hnm]; rfl, fun p hp => ?_, Nat.lt_of_lt_of_le h.pos hle, hgo, htl, hkw1.own hout1 hk⟩
  · rcases hn with e2 | e2
    · exact hsep g (e2 ▸ hg) e
    · rw [e2] at hg
      cases hg
      have := (World.ownsRow.lt hP.row _ e).2
      omega
  · rcases List.mem_append.1 hp with hp | hp
    · exact Nat.lt_of_lt_of_le (h.lt p hp) hle
    · rw [List.mem_singleton.1 hp]; exact hx
theorem strStep_none {done : List (BS × Nat)} {tb s : BS} (hs : s ≠ []) (h : ∀ (j : Nat) (p : BS × Nat), done[j]? = some p → (p.1 == s) = false) : strStep done tb s = (tb.length, tb ++ s ++ [0]) := by
  unfold strStep
  rw [if_neg hs]
  have hf : done.find? (fun p => p.1 == s) = none := by
    rw [List.find?_eq_none]
    intro p hp
    obtain ⟨j, hj, rfl⟩ := List.getElem_of_mem hp
    rw [h j _ (List.getElem?_eq_getElem hj)]
    decide
  rw [hf]
theorem strStep_some {done : List (BS × Nat)} {tb s : BS} {k : Nat} {p : BS × Nat} (hs : s ≠ []) (hk : done[k]? = some p) (he : (p.1 == s) = true) (h : ∀ (j : Nat), j < k → ∀ (p : BS × Nat), done[j]? = some p → (p.1 == s) = false) : strStep done tb s = (p.2, tb) := by
  unfold strStep
  rw [if_neg hs]
  have hf : done.find? (fun p => p.1 == s) = some p := by
    obtain ⟨hkl, rfl⟩ := List.getElem?_eq_some_iff.1 hk
    rw [List.find?_eq_some_iff_getElem]
    refine ⟨he, k, hkl, rfl, fun j hj => ?_⟩
    rw [h j hj _ (List.getElem?_eq_getElem (Nat.lt_trans hj hkl))]
    rfl
  rw [hf]
theorem ba_eq (a b : List UInt8) : ((⟨a.toArray⟩ : ByteArray).toList == (⟨b.toArray⟩ : ByteArray).toList) = (a == b) := by
  rw [Lib.toList_data, Lib.toList_data]
section
variable {A : Nat → Prop} {w : World} {v : Value}
set_option maxRecDepth 100000 in
set_option maxHeartbeats 4000000 in
theorem r02build_any (l : List BS) (hl : Fl A w 1 encS v l) (hn : l.length ≤ 4096) (hb : ∀ s ∈ l, s.length ≤ 100000) :
    Calls Tryz.prog 35 #[v] w fun e w' => ∃ vt vp, e = .returned (.tuple #[vt, vp, .int .i64 ((strM l).1 : Nat)]) ∧ FlO w' w.heap.size 5 1 e8 vt (strM l).2.1 ∧ FlO w' w.heap.size 44 1 encN vp (strM l).2.2 ∧ Keep No w w' := by
  have HL := Lib.hid hl
  obtain ⟨av, cv, rfl, _, _⟩ := hl.shape
  have HB := Lib.hid hb
  clear hl hb
  have hM : strM l = if l.any (fun s => s.contains 0) then (1, [], []) else if 65536 < (strGo l [] [0]).2.length then (13, [], []) else (0, (strGo l [] [0]).2, (strGo l [] [0]).1.map (·.2)) := rfl
  generalize strM l = res at *
  have HM := Lib.hid hM
  clear hM
  go_enter Tryz.func35, Tryz.ntmps35
  go_wp2_with fail
  go_loopw [6, 7] (fun iv _ wr => ∃ i : Nat, iv = .int .i64 (i : Int) ∧ i ≤ l.length ∧ Keep No w wr ∧ Hid (∀ j, j < i → ∀ s, l[j]? = some s → s.contains 0 = false)) (fun iv _ _ => l.length - (intOf iv).toNat)
  case atStart => exact ⟨0, rfl, Nat.zero_le _, Keep.refl _ _, Lib.hid fun j hj => absurd hj (Nat.not_lt_zero _)⟩
  case round =>
    obtain ⟨i, rfl, hi, hk, HNO⟩ := hrel
    generalize wr = wz at *
    rcases Nat.lt_or_ge i l.length with hlt | hge
    · obtain ⟨g1, off, cap, ev, _, hg1, _, _, hcd⟩ := (HL.out.no hk).at encS_len hlt
      cases ev
      have d0 := hcd 0 _ rfl
      rw [Nat.add_zero, Nat.mul_one] at d0
      have hiz : (i : Int) < (l.length : Int) := by omega
      have hbl := HB.out _ (List.getElem_mem hlt)
      have HI : Hid (l[i]? = some l[i]) := Lib.hid (List.getElem?_eq_getElem hlt)
      have HMEM : Hid (l[i] ∈ l) := Lib.hid (List.getElem_mem hlt)
      clear hcd
      generalize l[i] = s at *
      go_wp2_with fail
      go_loopw [7] (fun kv wr => ∃ k : Nat, kv = .int .i64 (k : Int) ∧ k ≤ s.length ∧ Keep No wz wr ∧ Hid (∀ j, j < k → s[j]? ≠ some 0)) (fun kv _ => s.length - (intOf kv).toNat)
      case atStart => exact ⟨0, rfl, Nat.zero_le _, Keep.refl _ _, Lib.hid fun j hj => absurd hj (Nat.not_lt_zero _)⟩
      case round =>
        obtain ⟨k, rfl, hks, hk2, HNK⟩ := hrel
        generalize wr = wy at *
        have e0 := (hk2.cell (p := ⟨g1, off + i, none⟩) hg1 fun h => h).trans d0
        clear d0
        have hsz : (⟨s.toArray⟩ : ByteArray).size = s.length := by show s.toArray.size = _; simp
        have hby : ∀ (h : k < s.length), (⟨s.toArray⟩ : ByteArray).data[k]? = some s[k] := fun h => by show s.toArray[k]? = _; simp [h]
        generalize (⟨s.toArray⟩ : ByteArray) = bs at *
        rcases Nat.lt_or_ge k s.length with hkl | hkg
        · have hb2 := hby hkl
          clear hby
          have hkz : (k : Int) < (s.length : Int) := by omega
          have hkb : k < bs.size := by omega
          have hbe : bs[k] = s[k] := by
            have h1 : bs.data[k]? = some bs[k] := Array.getElem?_eq_getElem hkb
            rw [h1] at hb2
            exact Option.some.inj hb2
          clear hb2
          by_cases hz : s[k] = 0
          · have hc : ((bs[k].toNat : Int) == 0) = true := by rw [hbe, hz]; rfl
            have hany : l.any (fun s => s.contains 0) = true := List.any_eq_true.2 ⟨s, HMEM.out, List.contains_iff_mem.2 (hz ▸ List.getElem_mem hkl)⟩
            have hr := HM.out
            rw [if_pos hany] at hr
            subst hr
            have hkF := hk.trans' hk2
            clear hbe hz HM hany
            go_wp2_with fail
            refine bodyPost_ret (by rw [results_tmp3 rfl]) rfl ?_
            exact ⟨_, _, rfl, FlO.nil, FlO.nil, hkF⟩
          · have hc : ((bs[k].toNat : Int) == 0) = false := by
              rw [hbe, beq_eq_false_iff_ne]
              intro h
              exact hz (UInt8.toNat_inj.1 (by have : s[k].toNat = 0 := by omega
                                              exact this))
            have HNK2 : Hid (∀ j, j < k + 1 → s[j]? ≠ some 0) := Lib.hid fun j hj h => by
              rcases Nat.lt_or_ge j k with h1 | h1
              · exact HNK.out j h1 h
              · obtain rfl : j = k := by omega
                rw [List.getElem?_eq_getElem hkl] at h
                exact hz (Option.some.inj h)
            clear hbe hz
            go_wp2_with fail
            go_roundw
            case rel => exact ⟨k + 1, by go_num, hkl, hk2, HNK2⟩
            case measure => simp [intOf]; omega
        · obtain rfl : k = s.length := Nat.le_antisymm hks hkg
          have HNO2 : Hid (∀ j, j < i + 1 → ∀ s, l[j]? = some s → s.contains 0 = false) := Lib.hid fun j hj s' hs' => by
            rcases Nat.lt_or_ge j i with h | h
            · exact HNO.out j h s' hs'
            · obtain rfl : j = i := by omega
              rw [HI.out] at hs'
              cases hs'
              rw [Bool.eq_false_iff]
              intro hc
              obtain ⟨q, hq, he⟩ := List.getElem_of_mem (List.contains_iff_mem.1 hc)
              exact HNK.out q hq (by rw [List.getElem?_eq_getElem hq, he])
          have hkF := hk.trans' hk2
          clear hby
          go_wp2_with fail
          go_roundw
          case rel => exact ⟨i + 1, by go_num, hlt, hkF, HNO2⟩
          case measure => simp [intOf]; omega
    · obtain rfl : i = l.length := Nat.le_antisymm hi hge
      have hany : l.any (fun s => s.contains 0) = false := by
        rw [List.any_eq_false]
        intro d hd hb
        obtain ⟨j, hj, rfl⟩ := List.getElem_of_mem hd
        have := HNO.out j hj _ (List.getElem?_eq_getElem hj)
        rw [hb] at this
        cases this
      have hr := HM.out
      rw [hany, if_neg (by decide)] at hr
      have HM2 := Lib.hid hr
      clear hr hany HNO HM hi hge
      go_wp2_with fail
      have hkW : Keep No wz (wz.alloc (.cells #[.int .u8 0] 5)) := (Keep.refl _ _).alloc _
      have hBW : Blk (wz.alloc (.cells #[.int .u8 0] 5)) wz.heap.size #[.int .u8 0] 5 := Blk.new _ _ _
      have hzW : (wz.alloc (.cells #[.int .u8 0] 5)).heap.size = wz.heap.size + 1 := World.size_alloc _ _
      generalize wz.alloc (.cells #[.int .u8 0] 5) = W at *
      have hkw := hk.trans' hkW
      have hwz := hk.size
      have hrow : FlO W w.heap.size 5 1 e8 (.slice (some ⟨wz.heap.size, 0, none⟩) 1 1) [0] := own_blk hBW hwz (n := 1) (size := 1) rfl (by unfold maxLen; omega)
      have hR : StrR l w W 0 (.slice (some ⟨wz.heap.size, 0, none⟩) 1 1) (.slice none 0 0) [0] [] :=
        ⟨hrow, FlO.nil, fun g hg => (by cases hg), rfl, by rw [List.take_zero]; rfl, fun p hp => (by cases hp), Nat.zero_lt_one, by rw [List.drop_zero], Nat.le_add_right _ _, hkw⟩
      clear hrow hkw hBW hkW hzW hk
      go_wp2_with fail
      go_loopw [5, 8, 9, 10, 11, 12] (fun sv vt vp iv _ _ wr => ∃ (i : Nat) (tb : BS) (done : List (BS × Nat)), sv = .int .i64 (tb.length : Int) ∧ iv = .int .i64 (i : Int) ∧ i ≤ l.length ∧ StrR l w wr i vt vp tb done) (fun _ _ _ iv _ _ _ => l.length - (intOf iv).toNat)
      case atStart => exact ⟨0, [0], [], rfl, rfl, Nat.zero_le _, hR⟩
      case round =>
        obtain ⟨i, tb, done, rfl, rfl, hi, hR⟩ := hrel
        generalize wr = wy at *
        obtain ⟨at_, ct, et, _, _⟩ := hR.row.fl.shape
        obtain ⟨ap, cp, ep, _, _⟩ := hR.out.fl.shape
        rw [List.length_map, hR.dl] at ep
        subst et
        subst ep
        have htl := hR.tl
        rcases Nat.lt_or_ge i l.length with hlt | hge
        · obtain ⟨g1, off, cap, ev, _, hg1, _, _, hcd⟩ := (HL.out.no hR.kw).at encS_len hlt
          cases ev
          have d0 := hcd 0 _ rfl
          rw [Nat.add_zero, Nat.mul_one] at d0
          have hiz : (i : Int) < (l.length : Int) := by omega
          have hbl := HB.out _ (List.getElem_mem hlt)
          clear hcd
          have hgo1 : strGo (l.drop (i + 1)) (done ++ [(l[i], (strStep done tb l[i]).1)]) (strStep done tb l[i]).2 = strGo l [] [0] := by
            rw [← hR.go, List.drop_eq_getElem_cons hlt]
            rfl
          have htk : l.take (i + 1) = l.take i ++ [l[i]] := List.take_succ_eq_append_getElem hlt
          have HGO1 := Lib.hid hgo1
          have HTK := Lib.hid htk
          clear hgo1 htk
          generalize l[i] = s at *
          have hp0 := hR.pos
          by_cases hs : s = []
          · subst hs
            have hgo2 := HGO1.out
            rw [show strStep done tb [] = (0, tb) from rfl] at hgo2
            have HGO2 := Lib.hid hgo2
            rw [show (⟨([] : List UInt8).toArray⟩ : ByteArray) = ⟨#[]⟩ from rfl] at d0
            have hz : ((0 : Int) == (tb.length : Int)) = false := by rw [beq_eq_false_iff_ne]; omega
            have hz2 : ((tb.length : Int) == 0) = false := by rw [beq_eq_false_iff_ne]; omega
            clear hgo2 HGO1
            go_wp2_with (at_builtin; refine wl_append rfl _ _ _ _ rfl _ _ rfl rfl ?_)
            refine rg_push (P := Tryz.prog) (enc := encN) (x := 0) (cs := #[.int .u64 0]) (.int .u64 0) 8 (t := 92) (ty := 92) Tryz.underlying92 u64_info (by rfl) (by decide) (by rfl) (by rfl) (by intro u hu; rw [List.mem_singleton.1 hu]; rfl) hR.out (by rw [List.length_map, hR.dl]; omega) (by decide) hR.kw.size ?_
            intro v4 w4 ho4 hk4 hn4
            have hR4 : StrR l w w4 (i + 1) (.slice at_ tb.length ct) v4 tb (done ++ [([], 0)]) := hR.place ho4 hk4 hn4 (by rw [HTK.out, hR.nm]) hR.pos HGO2.out (tl_step hR.tl)
            obtain ⟨a4, n4, c4, rfl⟩ : ∃ a n c, v4 = .slice a n c := by
              obtain ⟨a, c, e, _⟩ := ho4.fl.shape
              exact ⟨_, _, _, e⟩
            clear ho4 hk4 hn4 hR
            go_wp2_with (at_builtin; refine wl_append rfl _ _ _ _ rfl _ _ rfl rfl ?_)
            go_roundw
            case rel => exact ⟨i + 1, tb, _, rfl, by go_num, hlt, hR4⟩
            case measure => simp [intOf]; omega
          · have hne : (⟨s.toArray⟩ : ByteArray).toList.isEmpty = false := by
              rw [Lib.toList_data]
              cases s with
              | nil => exact absurd rfl hs
              | cons a b => rfl
            have hdl : done.length = i := hR.dl
            generalize hbs : (⟨s.toArray⟩ : ByteArray) = bs at *
            have HBS := Lib.hid hbs
            have HDL := Lib.hid hdl
            have hi8 : i < 4096 := by omega
            have htb : tb.length ≤ 409604097 := Nat.le_trans hR.tl (Nat.add_le_add_left (Nat.mul_le_mul_right 100001 (Nat.le_of_lt hi8)) 1)
            clear hbs hdl
            go_wp2_with (at_builtin; refine wl_append rfl _ _ _ _ rfl _ _ rfl rfl ?_)
            go_loopw [11, 12] (fun av kv wr => ∃ k : Nat, av = .int .u64 (tb.length : Int) ∧ kv = .int .i64 (k : Int) ∧ k ≤ i ∧ Keep No wy wr ∧ Hid (∀ j, j < k → ∀ p, done[j]? = some p → (p.1 == s) = false)) (fun _ kv _ => i - (intOf kv).toNat)
            case atStart => exact ⟨0, by go_num, rfl, Nat.zero_le _, Keep.refl _ _, Lib.hid fun j hj => absurd hj (Nat.not_lt_zero _)⟩
            case round =>
              obtain ⟨k, rfl, rfl, hki, hk2, HNK⟩ := hrel
              generalize wr = wx at *
              have di := (hk2.cell (p := ⟨g1, off + i, none⟩) hg1 fun h => h).trans d0
              rcases Nat.lt_or_ge k i with hkl | hkg
              · have hkz : (k : Int) < (i : Int) := by omega
                have hkd : k < done.length := by have := HDL.out; omega
                obtain ⟨g2, off2, cap2, ev2, _, _, _, _, hcd2⟩ := (HL.out.no (hR.kw.trans' hk2)).at encS_len (show k < l.length by omega)
                cases ev2
                have dk := hcd2 0 _ rfl
                rw [Nat.add_zero, Nat.mul_one] at dk
                obtain ⟨g3, off3, cap3, ev3, _, _, _, _, hcd3⟩ := (hR.out.no hk2).fl.at (fun _ => rfl) (show k < (done.map (·.2)).length by rw [List.length_map]; exact hkd)
                have dp := hcd3 0 _ rfl
                rw [Nat.add_zero, Nat.mul_one] at dp
                injection ev3 with q1 q2 q3
                subst q1
                clear hcd2 hcd3 q2 q3
                have hl1 : l[k] = done[k].1 := by
                  have h1 : (l.take i)[k]? = (done.map (·.1))[k]? := by rw [hR.nm]
                  rw [List.getElem?_take_of_lt hkl, List.getElem?_eq_getElem (show k < l.length by omega), List.getElem?_map, List.getElem?_eq_getElem hkd] at h1
                  exact Option.some.inj h1
                rw [hl1] at dk
                rw [List.getElem_map] at dp
                have HPK : Hid (done[k]? = some done[k]) := Lib.hid (List.getElem?_eq_getElem hkd)
                have hplt := hR.lt _ (List.getElem_mem hkd)
                clear hl1
                generalize done[k] = p at *
                have hbe := ba_eq p.1 s
                rw [HBS.out] at hbe
                generalize (⟨p.1.toArray⟩ : ByteArray) = bk at *
                cases hps : (p.1 == s) with
                | true =>
                  rw [hps] at hbe
                  have hst := strStep_some (tb := tb) hs HPK.out hps HNK.out
                  have hgo2 := HGO1.out
                  rw [hst] at hgo2
                  have HGO2 := Lib.hid hgo2
                  have hpz : ((p.2 : Int) == (tb.length : Int)) = false := by rw [beq_eq_false_iff_ne]; omega
                  have hpi : (p.2 : Int) < (tb.length : Int) := by omega
                  have HPS := Lib.hid hps
                  clear hst hgo2 HGO1 hps
                  go_wp2_with fail
                  go_quiet (fail)
                  rename_i nq
                  have hkq : Keep No wy (wx.drewN nq) := hk2.drewN _
                  have dpq : (wx.drewN nq).cell? ⟨g3, off3 + k, none⟩ = some (.int .u64 (p.2 : Int)) := dp
                  have hRq : StrR l w (wx.drewN nq) i (.slice at_ tb.length ct) (.slice (some ⟨g3, off3, none⟩) i cp) tb done := hR.no hkq
                  generalize wx.drewN nq = wq at *
                  go_wp2_with (at_builtin; refine wl_append rfl _ _ _ _ rfl _ _ rfl rfl ?_)
                  refine rg_push (P := Tryz.prog) (enc := encN) (x := p.2) (cs := #[.int .u64 (p.2 : Int)]) (.int .u64 0) 8 (t := 92) (ty := 92) Tryz.underlying92 u64_info (by rfl) (by decide) (by rfl) (by rfl) (by intro u hu; rw [List.mem_singleton.1 hu]; rfl) hRq.out (by rw [List.length_map, hRq.dl]; omega) (by decide) hRq.kw.size ?_
                  intro v4 w4 ho4 hk4 hn4
                  have hR4 : StrR l w w4 (i + 1) (.slice at_ tb.length ct) v4 tb (done ++ [(s, p.2)]) := hRq.place ho4 hk4 hn4 (by rw [HTK.out, hRq.nm]) hplt HGO2.out (tl_step hRq.tl)
                  obtain ⟨a4, n4, c4, rfl⟩ : ∃ a n c, v4 = .slice a n c := by
                    obtain ⟨a, c, e, _⟩ := ho4.fl.shape
                    exact ⟨_, _, _, e⟩
                  clear ho4 hk4 hn4 hR hRq
                  go_wp2_with (at_builtin; refine wl_append rfl _ _ _ _ rfl _ _ rfl rfl ?_)
                  go_roundw
                  case rel => exact ⟨i + 1, tb, _, rfl, by go_num, hlt, hR4⟩
                  case measure => simp [intOf]; omega
                | false => 
                  rw [hps] at hbe
                  have HNK2 : Hid (∀ j, j < k + 1 → ∀ p, done[j]? = some p → (p.1 == s) = false) := Lib.hid fun j hj p' hp' => by
                    rcases Nat.lt_or_ge j k with h | h
                    · exact HNK.out j h p' hp'
                    · obtain rfl : j = k := by omega
                      rw [HPK.out] at hp'
                      cases hp'
                      exact hps
                  clear hps HPK hplt
                  go_wp2_with fail
                  go_quiet (fail)
                  go_wp2_with fail
                  go_roundw
                  case rel => exact ⟨k + 1, by go_num, by go_num, hkl, by first | exact hk2 | exact hk2.drewN _, HNK2⟩
                  case measure => simp [intOf]; omega
              · obtain rfl : k = i := Nat.le_antisymm hki hkg
                have hst := strStep_none (tb := tb) hs fun j p hp => HNK.out j (by have := (List.getElem?_eq_some_iff.1 hp).1; have := HDL.out; omega) p hp
                have hgo2 := HGO1.out
                rw [hst] at hgo2
                have HGO2 := Lib.hid hgo2
                clear hst hgo2 HGO1
                have hRx : StrR l w wx k (.slice at_ tb.length ct) (.slice ap k cp) tb done := hR.no hk2
                have hll : (tb ++ s ++ [0]).length = tb.length + s.length + 1 := by simp only [List.length_append, List.length_cons, List.length_nil]
                have HLL := Lib.hid hll
                clear hll
                go_wp2_with (at_builtin; refine wl_append rfl _ _ _ _ rfl _ _ rfl rfl ?_)
                refine rg_appstr Tryz.underlying24 Tryz.underlying9 s HBS.out hRx.pos hRx.row (by omega) hRx.kw.size ?_
                intro v1 w1 hP1
                obtain ⟨a1, n1, c1, rfl⟩ : ∃ a n c, v1 = .slice a n c := by
                  obtain ⟨a, c, e, _⟩ := hP1.row.fl.shape
                  exact ⟨_, _, _, e⟩
                have hs1 := hP1.kept.size
                have hsz := hRx.kw.size
                go_wp2_with (at_builtin; refine wl_append rfl _ _ _ _ rfl _ _ rfl rfl ?_)
                refine rg_push (w := w1) (cs := #[bv 0]) (enc := e8) (x := 0) (l := tb ++ s) (base := w.heap.size) _ 1 Tryz.underlying24 o_info rfl (by decide) rfl rfl (e8_one _) hP1.row (by rw [List.length_append]; omega) (by decide) (by omega) ?_
                intro v2 w2 ho2 hk2' hb2
                have hP2 := hP1.step ho2 hk2' hb2
                obtain ⟨a2, n2, c2, e2⟩ : ∃ a n c, v2 = .slice a n c := by
                  obtain ⟨a, c, e, _⟩ := ho2.fl.shape
                  exact ⟨_, _, _, e⟩
                obtain ⟨a3, c3, e3, _, _⟩ := ho2.fl.shape
                rw [HLL.out] at e3
                subst e3
                have hout2 : FlO w2 w.heap.size 44 1 encN (.slice ap k cp) (done.map (·.2)) := hRx.out.same fun g hg => hP2.kept.block g (World.ownsRow.lt hRx.out g hg).2 fun e => hRx.sep g hg e.symm
                have hs2 := hP2.kept.size
                have hlt2 : tb.length < tb.length + s.length + 1 := by omega
                have hd2 : IntKind.i64.wrap (((tb.length + s.length + 1 : Nat) : Int)) = ((tb.length + s.length + 1 : Nat) : Int) := by simp [IntKind.wrap, IntKind.bits, IntKind.signed]; omega
                have HP2 := Lib.hid hP2
                have HR := Lib.hid hRx
                obtain ⟨nl, hnl⟩ : ∃ nl, nl = tb.length + s.length + 1 := ⟨_, rfl⟩
                rw [← hnl] at HP2
                have HNL := Lib.hid hnl
                rw [← hnl]
                clear e2 ho2 hk2' hb2 hP1 hs1 hR hRx hP2 hlt2 hd2 hnl
                go_wp2_with (at_builtin; refine wl_append rfl _ _ _ _ rfl _ _ rfl rfl ?_)
                refine rg_push (P := Tryz.prog) (enc := encN) (x := tb.length) (cs := #[.int .u64 (tb.length : Int)]) (.int .u64 0) 8 (t := 92) (ty := 92) Tryz.underlying92 u64_info (by rfl) (by decide) (by rfl) (by rfl) (by intro u hu; rw [List.mem_singleton.1 hu]; rfl) hout2 (by rw [List.length_map, HDL.out]; omega) (by decide) (by omega) ?_
                intro v4 w4 ho4 hk4 hn4
                have hR4 : StrR l w w4 (k + 1) (.slice a3 nl c3) v4 (tb ++ s ++ [0]) (done ++ [(s, tb.length)]) := HR.out.grow HP2.out ho4 hk4 hn4 (by rw [HTK.out, HR.out.nm]) (by rw [HLL.out]; omega) (by rw [HLL.out]; omega) HGO2.out (by rw [HLL.out]; have := HR.out.tl; omega)
                obtain ⟨a4, n4, c4, rfl⟩ : ∃ a n c, v4 = .slice a n c := by
                  obtain ⟨a, c, e, _⟩ := ho4.fl.shape
                  exact ⟨_, _, _, e⟩
                clear ho4 hk4 hn4 hout2 HP2 HR
                go_wp2_with (at_builtin; refine wl_append rfl _ _ _ _ rfl _ _ rfl rfl ?_)
                go_roundw
                case rel => exact ⟨k + 1, tb ++ s ++ [0], _, by rw [HLL.out, HNL.out], by go_num, hlt, hR4⟩
                case measure => simp [intOf]; omega
        · obtain rfl : i = l.length := Nat.le_antisymm hi hge
          have hgo : strGo l [] [0] = (done, tb) := by
            rw [← hR.go, List.drop_length]
            rfl
          have hr := HM2.out
          rw [hgo] at hr
          dsimp only at hr
          rcases Nat.lt_or_ge 65536 tb.length with hb | hb
          · rw [if_pos hb] at hr
            subst hr
            have hbi : (65536 : Int) < (tb.length : Int) := by omega
            have hkF := hR.kw
            clear HM2 hgo hR
            go_wp2_with fail
            refine bodyPost_ret (by rw [results_tmp3 rfl]) rfl ?_
            exact ⟨_, _, rfl, FlO.nil, FlO.nil, hkF⟩
          · rw [if_neg (by omega)] at hr
            subst hr
            have hbi : (tb.length : Int) ≤ (65536 : Int) := by omega
            clear HM2 hgo
            go_wp2_with fail
            refine bodyPost_ret (by rw [results_tmp3 rfl]) rfl ?_
            exact ⟨_, _, rfl, hR.row, hR.out, hR.kw⟩
end
end Go.Proofs.YtbnahidopemkiaaGreat
namespace Go.Dm
open Go Go.RowKit
section
/-- the walk stops at a load -/
def LdGoal (P : Program) (ty : TypeId) (p : Addr) (w : World) (K : Value → World → Prop) : Prop := RunGoal P (Instr.loadAt ty (.pointer (some p))) w K
theorem wl_ld {P : Program} {w : World} {ops : Array Oper} {rest : List Oper} {o : Oper} {a : Act} {Q : Exit → Act → World → Prop} (hgd : o.guard = none) (x : Operand) (ty : TypeId) (ho : o.op = Op.load ty x) (p : Addr)
    (h1 : a.eval x = .pointer (some p)) (h : LdGoal P ty p w fun v w' => wpList P ops Q rest (a.put o.dst v) w') : wpList P ops Q (o :: rest) a w := by
  obtain ⟨v, w', hr, hk⟩ := h
  refine wpList_plain hgd fun K hK => ?_
  unfold Oper.wp execOp
  simp only [ho, h1, hr, Sem.run_bind, Sem.run_pure, Result.andThen_ok]
  exact hK _ _ hk
theorem rg_ld {P : Program} {w : World} {g : Nat} {ty t : TypeId} {cs : Array Value} {d : TypeDesc} (hB : Blk w g cs t) (hu : P.underlying ty = some d)
    (hd : (match d with | .struct _ | .array _ _ => true | _ => false) = true) (hi : (P.info? ty).map (·.size) = some cs.size) {K : Value → World → Prop} (h : K (.agg cs) w) : LdGoal P ty ⟨g, 0, none⟩ w K := by
  refine .mk (v := .agg cs) (w' := w) ?_ h
  simp only [Instr.loadAt, Instr.sureAddr, Sem.run_bind, Sem.run_pure, Result.andThen_ok, run_loadVar_row w g t ty cs _ d hB hu hd hi]
variable {P : Program}
/-- a part of a row is loaded -/
theorem run_loadVar_sub (w : World) (g off : Nat) (ty : TypeId) (l : List Value) (d : TypeDesc) (hc : ∀ j u, l[j]? = some u → w.cell? ⟨g, off + j, none⟩ = some u)
    (hu : P.underlying ty = some d) (hd : (match d with | .struct _ | .array _ _ => true | _ => false) = true) (hi : (P.info? ty).map (·.size) = some l.length) :
    (loadVar ty ⟨g, off, none⟩).run P w = .ok (.agg l.toArray) w := by
  have hl : (loadCells ⟨g, off, none⟩ l.length).run P w = .ok l.toArray w :=
    run_loadCells_list (P := P) w ⟨g, off, none⟩ l (fun j v hv => by
      have hadd : (⟨g, off, none⟩ : Addr).add j = ⟨g, off + j, none⟩ := by unfold Addr.add; split <;> simp_all
      rw [hadd]
      exact hc j v hv)
  cases hq : P.info? ty with
  | none => simp [hq] at hi
  | some i =>
    have hs : i.size = l.length := by simpa [hq] using hi
    have hagg : (isAgg ty).run P w = .ok true w := by
      unfold isAgg
      rw [Sem.run_bind, run_underlying hu w]
      cases d <;> simp_all
    simp [loadVar, Sem.run_bind, hagg, sizeOf, typeInfo, hq, hs, hl]
theorem rg_lds {w : World} {g off : Nat} {ty : TypeId} {l : List Value} {d : TypeDesc} (hc : ∀ j u, l[j]? = some u → w.cell? ⟨g, off + j, none⟩ = some u)
    (hu : P.underlying ty = some d) (hd : (match d with | .struct _ | .array _ _ => true | _ => false) = true) (hi : (P.info? ty).map (·.size) = some l.length) {K : Value → World → Prop} (h : K (.agg l.toArray) w) : LdGoal P ty ⟨g, off, none⟩ w K := by
  refine .mk (v := .agg l.toArray) (w' := w) ?_ h
  simp only [Instr.loadAt, Instr.sureAddr, Sem.run_bind, Sem.run_pure, Result.andThen_ok, run_loadVar_sub w g off ty l d hc hu hd hi]
end
section
variable {P : Program} {w : World} {ops : Array Oper} {rest : List Oper} {o : Oper} {a : Act} {Q : Exit → Act → World → Prop}
def BuildGoal (P : Program) (t : TypeId) (parts : Array (Nat × Value)) (w : World) (K : Value → World → Prop) : Prop := RunGoal P (Instr.build t parts) w K
theorem wl_build (hgd : o.guard = none) (t : TypeId) (ps : Array (Nat × Operand)) (ho : o.op = Op.build t ps) (h : BuildGoal P t (ps.map fun (i, x) => (i, a.eval x)) w fun v w' => wpList P ops Q rest (a.put o.dst v) w') : wpList P ops Q (o :: rest) a w := by
  obtain ⟨v, w', hr, hk⟩ := h
  refine wpList_plain hgd fun K hK => ?_
  unfold Oper.wp execOp
  simp only [ho, Sem.run_bind, hr, Result.andThen_ok, Sem.run_pure]
  exact hK _ _ hk
theorem rg_build {t : TypeId} {parts : Array (Nat × Value)} {cells : Array Value} {w : World} {K : Value → World → Prop} (hb : P.built t parts.toList = some cells) (h : K (.agg cells) w) : BuildGoal P t parts w K :=
  .mk (run_build w t parts cells hb) h
end
end Go.Dm
namespace Go.Dm.Ld
open Go Go.Dm.Oc
def DfOk (d : Df) : Prop := d.nm.length ≤ 100000 ∧ d.off < 18446744073709551616
def FxOk (f : Fx) : Prop := f.off < 18446744073709551616 ∧ f.ty < 4294967296 ∧ f.df < 4294967295 ∧ f.add < 18446744073709551616
structure SpOk (s : Sp) : Prop where
  so : s.so.length ≤ 100000
  nd : ∀ n ∈ s.need, n.length ≤ 100000
  df : ∀ d ∈ s.defs, DfOk d
  fx : ∀ f ∈ s.fixes, FxOk f
  ln : s.need.length ≤ 2000
  ld : s.defs.length ≤ 2000
  lf : s.fixes.length ≤ 100000
  code : s.code.length ≤ 1099511627776
  data : s.data.length ≤ 1099511627776
  tls : s.tls.length ≤ 1099511627776
  en : s.entry < 18446744073709551616
  bss : s.bss < 18446744073709551616
  tbss : s.tbss < 18446744073709551616
end Go.Dm.Ld
namespace Go.Dm
open Go
/-- the region that a piece of code begins with -/
def codeHead : Code → Option Nat
  | .region m _ _ => some m
  | .seq c _ => codeHead c
  | _ => none
/-- the part of a function's code that begins with region n -/
def codeFrom (n : Nat) : Code → Code
  | .seq c r => match codeHead c with
    | some m => if m == n then .seq c r else codeFrom n r
    | none => codeFrom n r
  | c => c
theorem use_k {P : Program} {c : Code} {Q : Exit → Act → World → Prop} {K : Act → World → Prop} {a : Act} {w : World} (h : ∀ a w, Code.wp P c Q a w → K a w) (h2 : Code.wp P c Q a w) : K a w := h a w h2
def bodyFrom (f : Func) (n : Nat) : Code := match f.body with | some c => codeFrom n c | none => .skip
end Go.Dm
namespace Go.Proofs.YtbnahidopemkiaaGreat
open Go.RowKit Go.Dm Go.Dm.Oc Go.Dm.Ld
/-- a row of one's own that is newer than all that the rest leans on -/
structure Out {α : Type} (wB w : World) (e : TypeId) (k : Nat) (enc : α → List Value) (v : Value) (l : List α) : Prop where
  row : FlO w wB.heap.size e k enc v l
  kept : Keep (fun j => wB.heap.size ≤ j) wB w
section
variable {α : Type} {wB w w' : World} {e : TypeId} {k : Nat} {enc : α → List Value} {v v' : Value} {l l' m : List α}
theorem Out.base (h : Out wB w e k enc v l) : wB.heap.size ≤ w.heap.size := h.kept.size
theorem Out.call (h : Out wB w e k enc v l) (hk : Keep No w w') : Out wB w' e k enc v l := ⟨h.row.no hk, h.kept.trans hk fun _ _ e => e.elim⟩
theorem Out.push (h : Out wB w e k enc v l) (ho : FlO w' wB.heap.size e k enc v' l') (hk : Keep (fun j => some j = v.ownBlock) w w') : Out wB w' e k enc v' l' :=
  ⟨ho, h.kept.trans hk fun j _ e => (World.ownsRow.lt h.row j e.symm).1⟩
theorem Out.shape (h : Out wB w e k enc v l) : ∃ a c, v = .slice a l.length c := by
  obtain ⟨a, c, e, _⟩ := h.row.fl.shape
  exact ⟨a, c, e⟩
theorem Out.sh (h : Out wB w e k enc v l) : ∃ a n c, v = .slice a n c := by
  obtain ⟨a, c, e⟩ := h.shape
  exact ⟨_, _, _, e⟩
theorem Out.old {w0 : World} (h : Out wB w e k enc v l) (hk : Keep No w0 wB) : Keep No w0 w := hk.trans h.kept fun j hj e => absurd hj (Nat.not_lt.2 (Nat.le_trans hk.size e))
theorem Out.pushed {w w' : World} {v v' : Value} {l l' : List UInt8} (h : Out wB w 5 1 e8 v l) (hp : Pushed wB.heap.size w w' v v' l') : Out wB w' 5 1 e8 v' l' := h.push hp.row hp.kept
theorem _root_.Go.Dm.Blk.out {b : Nat} {cs : Array Value} {t : TypeId} (hB : Blk wB b cs t) (h : Out wB w e k enc v l) : Blk w b cs t := hB.keep h.kept fun e => absurd (Blk.lt hB) (Nat.not_lt.2 e)
theorem fl_part {A : Nat → Prop} {g o n c lo m : Nat} {l : List Nat} (h : Fl A w 1 encN (.slice (some ⟨g, o, none⟩) n c) l) (hl : lo + m ≤ l.length) :
    Fl A w 1 encN (.slice (if c = lo then some ⟨g, o, none⟩ else some ⟨g, o + lo, none⟩) m (c - lo)) ((l.drop lo).take m) := by
  have hm : ((l.drop lo).take m).length = m := by rw [List.length_take, List.length_drop]; omega
  obtain ⟨h1, a', cap, e, hc, hd, hf, hr⟩ := h
  cases e
  unfold Fl
  rw [hm]
  have hfl : ∀ l : List Nat, l.flatMap encN = l.map fun x : Nat => Value.int .u64 (x : Int) := fun l => by
    induction l with
    | nil => rfl
    | cons a r ih => rw [List.flatMap_cons, List.map_cons, ih]; rfl
  rw [hfl]
  refine ⟨by rw [List.length_map, hm]; omega, (if c = lo then some ⟨g, o, none⟩ else some ⟨g, o + lo, none⟩), _, rfl, by omega, by omega, fun ha => ?_, fun hn => ?_⟩
  · exfalso
    split at ha <;> cases ha
  rw [if_neg (by omega)]
  obtain ⟨g2, off, e2, hA, hg, hr⟩ := hr (by omega)
  cases e2
  refine ⟨g, o + lo, rfl, hA, hg, fun j u hu => ?_⟩
  show w.cell? ⟨g, o + lo + j, none⟩ = _
  rw [Nat.add_assoc]
  refine hr _ _ ?_
  rw [hfl]
  rw [List.getElem?_map, List.getElem?_take] at hu
  split at hu
  · rw [List.getElem?_map, ← List.getElem?_drop]; exact hu
  · cases hu
theorem fl_blk {g n : Nat} {cs : Array Value} {t : TypeId} {l : List Nat} (h : Blk w g cs t) (hc : cs.toList = l.flatMap encN) (hn : l.length = n) (hm : n ≤ maxLen) : Fl (fun k => k = g) w 1 encN (.slice (some ⟨g, 0, none⟩) n n) l := by
  unfold Fl
  rw [hn, ← hc]
  refine Sl.mk (by rw [hc, Nat.mul_one, ← hn]; clear hc hn h; induction l with
    | nil => rfl
    | cons a r ih => rw [List.flatMap_cons, List.length_append, ih]; exact Nat.add_comm _ _) rfl h.lt (Nat.le_refl _) hm fun j u hu => by rw [Nat.zero_add, h.cell]; simpa using hu
theorem info_len (nd V : List Nat) : (infoB nd V).length ≤ 16 * nd.length + 128 := by
  unfold infoB
  rw [List.length_append, List.length_append, ents_len, entB_len]
  have := entIs_len V 7
  omega
theorem rg_outz {w : World} {v : Value} {l : List UInt8} {ty : TypeId} {m : Nat} (hO : Out wB w 5 1 e8 v l) (hm : 0 < m) (hlen : l.length + m ≤ 1099511627776) {K : Value → World → Prop}
    (h : ∀ v' w', Out wB w' 5 1 e8 v' (l ++ List.replicate m 0) → K v' w') : AppendGoal Tryz.prog 24 3 ty v (.int .i64 (m : Int)) w K := by
  have hz := hO.row
  unfold FlO at hz
  rw [e8_map] at hz
  refine rg_zeros hz hm hlen hO.base ?_
  intro v1 w1 ho1 hk1 _
  refine h v1 w1 (hO.push ?_ hk1)
  unfold FlO
  rw [e8_map]
  exact ho1
theorem rg_outcat {A : Nat → Prop} {w : World} {v vs : Value} {l m : List UInt8} {ty : TypeId} (hO : Out wB w 5 1 e8 v l) (hs : Fl A w 1 e8 vs m) (hlen : l.length + m.length ≤ 1099511627776) {K : Value → World → Prop}
    (h : ∀ v' w', Out wB w' 5 1 e8 v' (l ++ m) → K v' w') : AppendGoal Tryz.prog 24 24 ty v vs w K :=
  rg_cat (base := wB.heap.size) _ 1 Tryz.underlying24 o_info rfl (by decide) hs e8_one hO.row hlen (by decide) hO.base fun v1 w1 ho1 hk1 _ => h v1 w1 (hO.push ho1 hk1)
theorem rg_outpush {w : World} {v : Value} {l : List UInt8} {ty : TypeId} (x : UInt8) (hO : Out wB w 5 1 e8 v l) (hlen : l.length + 1 ≤ 1099511627776) {K : Value → World → Prop}
    (h : ∀ v' w', Out wB w' 5 1 e8 v' (l ++ [x]) → K v' w') : AppendGoal Tryz.prog 24 24 ty v (.slice (some ⟨w.heap.size, 0, none⟩) 1 1) (w.alloc (.cells #[bv x] 5)) K :=
  rg_push (cs := #[bv x]) (enc := e8) (x := x) _ 1 Tryz.underlying24 o_info rfl (by decide) rfl rfl (e8_one _) hO.row hlen (by decide) hO.base fun v1 w1 ho1 hk1 _ => h v1 w1 (hO.push ho1 hk1)
theorem Out.alloc {w : World} (h : Out wB w e k enc v l) (o : Obj) : Out wB (w.alloc o) e k enc v l := h.call ((Keep.refl _ _).alloc o)
theorem Out.drew (h : Out wB w e k enc v l) : Out wB w.drew e k enc v l := h.call (Keep.refl _ _).drew
theorem Out.set {g i : Nat} (h : Out wB w e k enc v l) (hg : wB.heap.size ≤ g) (hv : v.ownBlock ≠ some g) (x : Value) : Out wB (w.setCell ⟨g, i, none⟩ x) e k enc v l :=
  ⟨h.row.same fun j hj => Below.heap_setCell _ _ _ _ fun q => hv (hj.trans (congrArg some q)), h.kept.setCell (fun hl => hg) x⟩
theorem fl_len {α : Type} {A : Nat → Prop} {w : World} {k n c : Nat} {enc : α → List Value} {a : Option Addr} {l : List α} (h : Fl A w k enc (.slice a n c) l) : n = l.length := by
  obtain ⟨_, _, q, _, _⟩ := h.shape
  injection q
theorem bts_len {A : Nat → Prop} {w : World} {n c : Nat} {a : Option Addr} {l : List UInt8} (h : Bts A w (.slice a n c) l) : n = l.length := by
  obtain ⟨_, _, q, _, _⟩ := Sl.shape h
  injection q
theorem blk_new2 (w : World) (o : Obj) (cs : Array Value) (t : TypeId) : Blk ((w.alloc o).alloc (.cells cs t)) (w.heap.size + 1) cs t := by
  have h := Blk.new (w.alloc o) cs t
  rw [World.size_alloc] at h
  exact h
theorem encDf_len (d : Df) : (encDf d).length = 4 := rfl
theorem encFx_len (d : Fx) : (encFx d).length = 5 := rfl
end
section
variable {A S : Nat → Prop} {w w' : World} {vn vc vd vt vf vx : Value} {s : Sp}
theorem SpR.keep (h : SpR A w s vn vc vd vt vf vx) (hk : Keep S w w') (hS : ∀ j, j < w.heap.size → A j → ¬ S j) : SpR A w' s vn vc vd vt vf vx :=
  ⟨h.need.keep hk hS, Sl.keep h.code hk hS, Sl.keep h.data hk hS, Sl.keep h.tls hk hS, h.defs.keep hk hS, h.fixes.keep hk hS⟩
theorem SpR.no (h : SpR A w s vn vc vd vt vf vx) (hk : Keep No w w') : SpR A w' s vn vc vd vt vf vx := h.keep hk fun _ _ _ h => h
theorem strGo_inv : ∀ (l : List BS) (done : List (BS × Nat)) (tb : BS), (∀ p ∈ done, p.2 < tb.length) → 0 < tb.length →
    (∀ p ∈ (strGo l done tb).1, p.2 < (strGo l done tb).2.length) ∧ (strGo l done tb).1.length = done.length + l.length
  | [], done, tb, h, _ => ⟨h, by simp [strGo]⟩
  | x :: r, done, tb, h, h0 => by
    have hst : (strStep done tb x).1 < (strStep done tb x).2.length ∧ tb.length ≤ (strStep done tb x).2.length := by
      unfold strStep
      split
      · exact ⟨h0, Nat.le_refl _⟩
      · split
        · rename_i p hp
          exact ⟨h p (List.mem_of_find?_eq_some hp), Nat.le_refl _⟩
        · simp only [List.length_append, List.length_cons, List.length_nil]
          omega
    have ih := strGo_inv r (done ++ [(x, (strStep done tb x).1)]) (strStep done tb x).2 (fun p hp => by
      rcases List.mem_append.1 hp with hp | hp
      · exact Nat.lt_of_lt_of_le (h p hp) hst.2
      · rw [List.mem_singleton.1 hp]; exact hst.1) (Nat.lt_of_lt_of_le h0 hst.2)
    refine ⟨ih.1, ?_⟩
    have h2 : (strGo (x :: r) done tb).1.length = _ := ih.2
    rw [h2]
    simp only [List.length_append, List.length_cons, List.length_nil]
    omega
theorem strM_ok {l : List BS} (h : (strM l).1 = 0) : (strM l).2.2.length = l.length ∧ (∀ x ∈ (strM l).2.2, x < 65536) ∧ (strM l).2.1.length ≤ 65536 := by
  have hi := strGo_inv l [] [0] (fun p hp => by cases hp) Nat.zero_lt_one
  unfold strM at *
  split at h
  · cases h
  · rename_i h1
    rw [if_neg h1]
    split at h
    · cases h
    · rename_i h2
      rw [if_neg h2]
      refine ⟨by rw [List.length_map, hi.2]; exact Nat.zero_add _, fun x hx => ?_, by show (strGo l [] [0]).2.length ≤ 65536; omega⟩
      obtain ⟨p, hp, rfl⟩ := List.mem_map.1 hx
      have := hi.1 p hp
      omega
theorem mayM_ok {s : Sp} (h : mayM s = 0) : (s.kind = 2 ∨ s.kind = 3) ∧ (∀ d ∈ s.defs, 0 ≤ d.wh ∧ d.wh ≤ 3) ∧ (∀ f ∈ s.fixes, (f.wh = 1 ∨ f.wh = 2) ∧ f.df < (s.defs.length : Int)) ∧ s.bss ≤ 1048576 ∧ s.tbss ≤ 1048576 ∧ s.code.length + s.data.length + s.tls.length ≤ 65536 := by
  unfold mayM at h
  split at h
  · cases h
  · rename_i h1
    split at h
    · cases h
    · rename_i h2
      split at h
      · cases h
      · rename_i h3
        split at h
        · cases h
        · rename_i h4
          refine ⟨by omega, fun d hd => ?_, fun f hf => ?_, by omega, by omega, by omega⟩
          · have h5 : badD d = false := by
              rw [Bool.eq_false_iff]
              exact fun h5 => h2 (List.any_eq_true.2 ⟨d, hd, h5⟩)
            unfold badD at h5
            rw [Bool.or_eq_false_iff, decide_eq_false_iff_not, decide_eq_false_iff_not] at h5
            omega
          · have h5 : badF s.defs.length f = false := by
              rw [Bool.eq_false_iff]
              exact fun h5 => h3 (List.any_eq_true.2 ⟨f, hf, h5⟩)
            unfold badF at h5
            rw [Bool.or_eq_false_iff, Bool.and_eq_false_iff, decide_eq_false_iff_not, decide_eq_false_iff_not, decide_eq_false_iff_not] at h5
            omega
def strsOf (s : Sp) : List BS := s.so :: (s.need ++ s.defs.map (·.nm))
end
end Go.Proofs.YtbnahidopemkiaaGreat
namespace Go.Proofs.YtbnahidopemkiaaGreat
open Go.RowKit Go.Dm Go.Dm.Oc Go.Dm.Ld
section
variable {A : Nat → Prop} {w : World} {v : Value}
theorem r01wid_any (n : Int) (w : World) : Calls Tryz.prog 125 #[.int .i64 n] w fun e w' => e = .returned (.bool (widthB n)) ∧ w = w' := by
  go_enter Tryz.func125, Tryz.ntmps125
  go_wp2_with fail
  all_goals
    go_ret
    refine ⟨congrArg (fun b => Ending.returned (Value.bool b)) ?_, rfl⟩
    rw [Bool.eq_iff_iff]
    simp only [widthB, decide_eq_true_eq, true_iff, Bool.or_eq_true, beq_iff_eq]
    omega
theorem r01in_any (many at_ size : Nat) (hm : many < 9223372036854775808) (ha : at_ < 18446744073709551616) (hs : size < 18446744073709551616) (w : World) :
    Calls Tryz.prog 126 #[.int .i64 (many : Int), .int .u64 (at_ : Int), .int .u64 (size : Int)] w fun e w' => e = .returned (.bool (hasB many at_ size)) ∧ w = w' := by
  have hw : IntKind.u64.wrap (many : Int) = (many : Int) := by rw [IntKind.wrap_u64]; omega
  rcases Nat.lt_or_ge many at_ with h | h
  · have hz : (many : Int) < (at_ : Int) := by omega
    have hr : hasB many at_ size = false := by unfold hasB; rw [decide_eq_false (by omega), Bool.false_and]
    rw [hr]
    go_enter Tryz.func126, Tryz.ntmps126
    go_wp2_with fail
    go_ret
    exact ⟨rfl, rfl⟩
  · have hz : (at_ : Int) ≤ (many : Int) := by omega
    have hr : hasB many at_ size = decide ((size : Int) ≤ ((many - at_ : Nat) : Int)) := by
      unfold hasB
      rw [decide_eq_true h, Bool.true_and]
      congr 1
      exact propext ⟨fun h => by omega, fun h => by omega⟩
    have hw2 : IntKind.u64.wrap ((many : Int) - (at_ : Int)) = ((many - at_ : Nat) : Int) := by rw [IntKind.wrap_u64]; omega
    rw [hr]
    generalize many - at_ = d at *
    go_enter Tryz.func126, Tryz.ntmps126
    go_wp2_with fail
    all_goals
      go_ret
      refine ⟨congrArg (fun b => Ending.returned (Value.bool b)) ?_, rfl⟩
      rw [Bool.eq_iff_iff]
      simp only [decide_eq_true_eq, Bool.false_eq_true, false_iff, true_iff]
      first | omega | exact Iff.rfl
set_option maxRecDepth 100000 in
set_option maxHeartbeats 1000000 in
theorem r01get_any (b : List UInt8) (at_ : Nat) (n : Int) (hb : Bts A w v b) (hl : b.length ≤ 1099511627776) (ha : at_ < 18446744073709551616) (h0 : -9223372036854775808 ≤ n) (h1 : n < 9223372036854775808) :
    Calls Tryz.prog 94 #[v, .int .u64 (at_ : Int), .int .i64 n] w fun e w' => e = .returned (.tuple #[.int .u64 (getX b at_ n : Nat), .int .i64 (fitsE b.length at_ n : Nat)]) ∧ w = w' := by
  obtain ⟨a, c, rfl, hc, hc2⟩ := hb.shape
  obtain ⟨X, hX⟩ : ∃ X, getX b at_ n = X := ⟨_, rfl⟩
  have hx : getX b at_ n = if fitsE b.length at_ n = 0 then leN ((b.drop at_).take n.toNat) else 0 := rfl
  rw [hX] at hx ⊢
  have HX := Lib.hid hx
  clear hx hX
  have hwid := r01wid_any n w
  cases hwb : widthB n with
  | false =>
    have hf : fitsE b.length at_ n = 1 := by unfold fitsE; rw [hwb]; rfl
    rw [hwb] at hwid
    have hX0 : X = 0 := by rw [HX.out, hf]; rfl
    subst hX0
    rw [hf]
    go_enter Tryz.func94, Tryz.ntmps94
    go_wp2_with fail
    refine hwid.mono ?_
    rintro e x ⟨rfl, rfl⟩
    go_wp2_with fail
    go_ret2
    exact ⟨rfl, rfl⟩
  | true =>
    have hn : n = 1 ∨ n = 2 ∨ n = 4 ∨ n = 8 := by
      unfold widthB at hwb
      exact of_decide_eq_true hwb
    rw [hwb] at hwid
    obtain ⟨k, rfl⟩ : ∃ k : Nat, n = (k : Int) := ⟨n.toNat, by omega⟩
    have hk8 : k ≤ 8 := by omega
    have hk1 : 1 ≤ k := by omega
    have hin := r01in_any b.length at_ k (by omega) ha (by omega) w
    have hwk : IntKind.u64.wrap (k : Int) = (k : Int) := by rw [IntKind.wrap_u64]; omega
    have hf : fitsE b.length at_ (k : Int) = if hasB b.length at_ k then 0 else 10 := by unfold fitsE; rw [hwb]; rfl
    rw [hf] at HX ⊢
    cases hhb : hasB b.length at_ k with
    | false =>
      rw [hhb] at hin HX
      have hX0 : X = 0 := by rw [HX.out]; rfl
      subst hX0
      rw [if_neg (by decide)]
      clear HX hf hb
      go_enter Tryz.func94, Tryz.ntmps94
      go_wp2_with fail
      refine hwid.mono ?_
      rintro e x ⟨rfl, rfl⟩
      go_wp2_with fail
      refine hin.mono ?_
      rintro e x ⟨rfl, rfl⟩
      go_wp2_with fail
      go_ret2
      exact ⟨rfl, rfl⟩
    | true =>
      rw [hhb] at hin HX
      have hle : at_ ≤ b.length ∧ k ≤ b.length - at_ := by
        unfold hasB at hhb
        rw [Bool.and_eq_true, decide_eq_true_eq, decide_eq_true_eq] at hhb
        exact hhb
      have HE := Lib.hid (show X = leN ((b.drop at_).take k) by rw [HX.out]; rfl)
      rw [if_pos rfl]
      clear HX hf hhb hwb hn
      have hatz : (at_ : Int) < 9223372036854775808 := by omega
      have hlb : (b.length : Int) ≤ 1099511627776 := by omega
      have HB := Lib.hid hb
      have H0 : Hid (leN ((b.drop (at_ + k)).take (k - k)) = 0) := Lib.hid (by rw [Nat.sub_self, List.take_zero]; rfl)
      go_enter Tryz.func94, Tryz.ntmps94
      go_wp2_with fail
      refine hwid.mono ?_
      rintro e x ⟨rfl, rfl⟩
      go_wp2_with fail
      refine hin.mono ?_
      rintro e x ⟨rfl, rfl⟩
      clear hwid hin hb
      go_wp2_with fail
      go_loopw [9, 10] (fun xv iv wr => ∃ (z : Int) (j x : Nat), iv = .int .i64 z ∧ z + 1 = (j : Int) ∧ j ≤ k ∧ xv = .int .u64 (x : Int) ∧ Hid (leN ((b.drop (at_ + j)).take (k - j)) = x) ∧ w = wr) (fun _ iv _ => (intOf iv + 1).toNat)
      case atStart => exact ⟨_, k, 0, rfl, by omega, Nat.le_refl _, rfl, H0, rfl⟩
      case round =>
        obtain ⟨z, j, x, rfl, hz, hj, rfl, HXJ, rfl⟩ := hrel
        clear H0
        cases j with
        | zero =>
          obtain rfl : z = -1 := by omega
          have hX : X = x := by rw [HE.out, ← HXJ.out, Nat.add_zero, Nat.sub_zero]
          subst hX
          go_wp2_with fail
          go_ret2
          exact ⟨rfl, rfl⟩
        | succ i =>
          obtain rfl : z = (i : Int) := by omega
          obtain ⟨jj, hjj⟩ : ∃ q, q = at_ + i := ⟨_, rfl⟩
          have hlt : jj < b.length := by omega
          obtain ⟨g0, off, cap, e, hg0, hgl, _, _, hcell⟩ := HB.out.at (by omega : 0 < b.length)
          cases e
          have qb : w.cell? ⟨g0, off + jj, none⟩ = some (bv b[jj]) := hcell jj _ (by rw [List.getElem?_map, List.getElem?_eq_getElem hlt]; rfl)
          have hnx : leN ((b.drop (at_ + i)).take (k - i)) = b[jj].toNat + 256 * x := by
            rw [← HXJ.out, ← hjj, show at_ + (i + 1) = jj + 1 from by omega, show k - i = (k - (i + 1)) + 1 from by omega, List.drop_eq_getElem_cons hlt, List.take_succ_cons]
            rfl
          have hxb : x < 256 ^ 7 := by
            have h := leN_lt ((b.drop (at_ + (i + 1))).take (k - (i + 1)))
            rw [HXJ.out] at h
            refine Nat.lt_of_lt_of_le h (Nat.pow_le_pow_right (by decide) ?_)
            rw [List.length_take]
            omega
          have hy := b[jj].toNat_lt
          unfold bv at qb
          have HNX := Lib.hid hnx
          clear hnx hcell
          generalize b[jj].toNat = y at *
          have hxb2 : x < 72057594037927936 := hxb
          have hw1 : IntKind.u64.wrap ((x : Int) * 256) = ((x * 256 : Nat) : Int) := by rw [IntKind.wrap_u64]; omega
          have hw0 : IntKind.u64.wrap (y : Int) = (y : Int) := by rw [IntKind.wrap_u64]; omega
          have hw2 : IntKind.u64.wrap (((x * 256 : Nat) : Int) + (y : Int)) = ((y + 256 * x : Nat) : Int) := by rw [IntKind.wrap_u64]; omega
          obtain ⟨x1, hx1⟩ : ∃ q, q = x * 256 := ⟨_, rfl⟩
          obtain ⟨x2, hx2⟩ : ∃ q, q = y + 256 * x := ⟨_, rfl⟩
          rw [← hx1] at hw1 hw2
          rw [← hx2] at hw2
          have HN2 : Hid (leN ((b.drop (at_ + i)).take (k - i)) = x2) := Lib.hid (by rw [HNX.out, hx2])
          have hsum : (at_ : Int) + (i : Int) = (jj : Int) := by omega
          have hjz : (jj : Int) < (b.length : Int) := by omega
          have hg : decide ((0 : Int) ≤ (i : Int)) = true := decide_eq_true (by omega)
          have hi8 : (i : Int) ≤ 8 := by omega
          have hik : i ≤ k := by omega
          clear hx1 hx2 hxb hxb2 HNX HXJ hjj
          go_wp2_with fail
          go_roundw
          case rel => exact ⟨_, i, x2, rfl, by omega, hik, rfl, HN2, trivial⟩
          case measure => first | (simp [intOf]; done) | (simp [intOf]; omega)
set_option maxRecDepth 100000 in
set_option maxHeartbeats 1000000 in
theorem r01cut_any (b : List UInt8) (at_ size : Nat) (hb : Bts A w v b) (hl : b.length ≤ 1000000000) (ha : at_ < 18446744073709551616) (hs : size < 18446744073709551616) :
    Calls Tryz.prog 95 #[v, .int .u64 (at_ : Int), .int .u64 (size : Int)] w fun e w' => ∃ v', e = .returned (.tuple #[v', .int .i64 ((cutM b at_ size).1 : Int)]) ∧ FlO w' w.heap.size 5 1 e8 v' (cutM b at_ size).2 ∧ Keep No w w' := by
  obtain ⟨a, c, rfl, hc, hc2⟩ := hb.shape
  have hin := r01in_any b.length at_ size (by omega) ha hs w
  unfold cutM
  cases hhb : hasB b.length at_ size with
  | false =>
    rw [hhb] at hin
    rw [if_neg (by decide)]
    clear hb
    go_enter Tryz.func95, Tryz.ntmps95
    go_wp2_with fail
    refine hin.mono ?_
    rintro e x ⟨rfl, rfl⟩
    go_wp2_with fail
    go_ret2
    exact ⟨_, rfl, FlO.nil, Keep.refl _ _⟩
  | true =>
    rw [hhb] at hin
    rw [if_pos rfl]
    have hle : at_ ≤ b.length ∧ size ≤ b.length - at_ := by
      unfold hasB at hhb
      rw [Bool.and_eq_true, decide_eq_true_eq, decide_eq_true_eq] at hhb
      exact hhb
    have HB := Lib.hid hb
    have hlb : (b.length : Int) ≤ 1000000000 := by omega
    have hO0 : Out w w 5 1 e8 (.slice none 0 0) ((b.drop at_).take 0) := ⟨FlO.nil, Keep.refl _ _⟩
    clear hb hhb
    go_enter Tryz.func95, Tryz.ntmps95
    go_wp2_with fail
    refine hin.mono ?_
    rintro e x ⟨rfl, rfl⟩
    clear hin
    go_wp2_with fail
    go_loopw [9, 10] (fun ov iv wr => ∃ i : Nat, iv = .int .u64 (i : Int) ∧ i ≤ size ∧ Out w wr 5 1 e8 ov ((b.drop at_).take i)) (fun _ iv _ => size - (intOf iv).toNat)
    case atStart => exact ⟨0, rfl, Nat.zero_le _, hO0⟩
    case round =>
      obtain ⟨i, rfl, hi, hO⟩ := hrel
      clear hO0
      generalize wr = wy at *
      have hky := hO.old (Keep.refl _ _)
      obtain ⟨a1, n1, c1, rfl⟩ := hO.sh
      rcases Nat.lt_or_ge i size with hlt | hge
      · obtain ⟨jj, hjj⟩ : ∃ q, q = at_ + i := ⟨_, rfl⟩
        have hltb : jj < b.length := by omega
        obtain ⟨g0, off, cap, e, hg0, hgl, _, _, hcell⟩ := (Sl.keep HB.out hky fun _ _ _ h => h).at (by omega : 0 < b.length)
        cases e
        have qb : wy.cell? ⟨g0, off + jj, none⟩ = some (bv b[jj]) := hcell jj _ (by rw [List.getElem?_map, List.getElem?_eq_getElem hltb]; rfl)
        have htk : (b.drop at_).take (i + 1) = (b.drop at_).take i ++ [b[jj]] := by
          rw [List.take_succ_eq_append_getElem (by rw [List.length_drop]; omega), List.getElem_drop]
          congr 3
          exact hjj.symm
        have HTK := Lib.hid htk
        have hlen : ((b.drop at_).take i).length ≤ 1000000000 := by rw [List.length_take, List.length_drop]; omega
        have hsz := hO.base
        generalize b[jj] = y at *
        have hiz : (i : Int) < (size : Int) := by omega
        have hsum : IntKind.u64.wrap ((at_ : Int) + (i : Int)) = (jj : Int) := by rw [IntKind.wrap_u64]; omega
        have hjz : (jj : Int) < (b.length : Int) := by omega
        have hi1 : IntKind.u64.wrap ((i : Int) + 1) = ((i + 1 : Nat) : Int) := by rw [IntKind.wrap_u64]; omega
        clear htk hcell hjj
        unfold bv at qb
        go_wp2_with (at_builtin; refine wl_append rfl _ _ _ _ rfl _ _ rfl rfl ?_)
        refine rg_push (P := Tryz.prog) (enc := e8) (x := y) (cs := #[bv y]) _ _ Tryz.underlying24 o_info (by rfl) (by decide) (by rfl) (by rfl) (e8_one _) hO.row (by omega) (by decide) hsz ?_
        intro v4 w4 ho4 hk4 hn4
        have hO4 := hO.push ho4 hk4
        rw [← HTK.out] at hO4
        obtain ⟨a4, n4, c4, rfl⟩ := hO4.sh
        clear ho4 hk4 hn4 hO qb
        go_wp2_with fail
        go_roundw
        case rel => exact ⟨i + 1, congrArg (Value.int .u64) (by omega), hlt, hO4⟩
        case measure => first | (simp [intOf]; done) | (simp [intOf]; omega)
      · obtain rfl : i = size := Nat.le_antisymm hi hge
        go_wp2_with fail
        go_ret2
        exact ⟨_, rfl, hO.row, hky⟩
end
end Go.Proofs.YtbnahidopemkiaaGreat
namespace Go.Proofs.YtbnahidopemkiaaGreat
open Go.RowKit Go.Dm Go.Dm.Oc Go.Dm.Ld
section
variable {A : Nat → Prop} {w : World} {v : Value}
def nums7 (l : List Nat) : Array Value := (l.map fun x => .int .u64 (x : Int)).toArray
theorem made_nums (n : Nat) : madeCells (Value.int .u64 0).cells (n * 1) = nums7 (List.replicate n 0) := by
  apply Array.toList_inj.1
  apply List.ext_getElem
  · simp [madeCells, nums7]
  · intro i h1 h2
    simp [madeCells, Value.cells, nums7, Nat.mod_one]
theorem u64_infz : (Tryz.prog.info? 44).map (fun i => (i.zero, i.size, i.bytes)) = some (some (.int .u64 0), 1, 8) := by kernel_rfl
set_option maxRecDepth 100000 in
theorem r05none_any : Calls Tryz.prog 128 #[] w fun e w' => ∃ g, e = .returned (.agg #[.slice none 0 0, .slice (some ⟨g, 0, none⟩) 7 7]) ∧ w.heap.size ≤ g ∧ Blk w' g (nums7 [0, 0, 0, 0, 0, 0, 0]) 44 ∧ Keep No w w' := by
  go_enter Tryz.func128, Tryz.ntmps128
  go_wp2_with (first | (at_make; refine wl_make rfl _ _ _ rfl _ _ rfl rfl ?_) | (with_reducible refine wl_stAgg rfl _ _ _ rfl _ _ rfl rfl ?_))
  have hkW : Keep No w (w.alloc (.cells #[.slice none 0 0, .slice none 0 0] 121)) := (Keep.refl _ _).alloc _
  have hBW : Blk (w.alloc (.cells #[.slice none 0 0, .slice none 0 0] 121)) w.heap.size #[.slice none 0 0, .slice none 0 0] 121 := Blk.new _ _ _
  have hzW : (w.alloc (.cells #[.slice none 0 0, .slice none 0 0] 121)).heap.size = w.heap.size + 1 := World.size_alloc _ _
  generalize w.alloc (.cells #[.slice none 0 0, .slice none 0 0] 121) = W at *
  refine rg_make (w := W) (n := 7) 44 (.int .u64 0) 1 8 Tryz.underlying92 u64_infz (by omega) (by unfold maxLen; omega) ?_
  intro w2 hmk k2
  rw [made_nums] at hmk
  have hBr := hBW.keep k2 fun h => h
  have hlt := hBr.lt
  go_wp2_with (with_reducible refine wl_stAgg rfl _ _ _ rfl _ _ rfl rfl ?_)
  refine rg_stAgg hBr (by kernel_rfl) (by rfl) (by simp [Value.oneCell']) ?_
  intro w3 hB3 hk3 _
  have hne : W.heap.size ≠ w.heap.size := by omega
  go_wp2_with fail
  refine ret_blk rfl rfl hB3 Tryz.underlying121 rfl (by kernel_rfl) rfl ?_
  exact ⟨W.heap.size, by rw [hzW], by omega, hmk.keep hk3 fun e => hne e, (hkW.trans' k2).trans hk3 fun j hj e => by have e2 : j = w.heap.size := e; omega⟩
end
end Go.Proofs.YtbnahidopemkiaaGreat
