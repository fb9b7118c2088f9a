/- The reference of the disk: Names. The disk's contracts for a caller that owns all its memory. awake: the document's example on the disk. No condition. -/
import Derived.Test.YtkmoomgmmhmaeaaRefNmM
import Derived.Laws.Cover1
import Derived.Sort.Walk0
import Derived.Test.YtkmoomgmmhmaeaaLawRoomM
import Derived.Lib.SmallJoins
import Derived.Lib.SlBytesConst
import Derived.Laws.BytesArg
namespace Go.Proofs.Ytkmoomgmmhmaeaa
open Go.RowKit Go.Dm Go.Dm.Dk

theorem encStr_eq (l : List (List UInt8)) : l.map encStr = l.flatMap encS := by rw [encS_map]
set_option maxRecDepth 100000 in
set_option maxHeartbeats 8000000 in
theorem rnm_any {A : Nat → Prop} {w : World} {v1 v2 v3 v4 v5 : Value} {m : M} (h : DV A w v1 v2 v3 v4 v5 m) (hn : m.L.length ≤ 100000) (hap : m.L.Pairwise (fun p q => p.1 ≠ q.1)) :
    Calls Try.prog 63 #[dv m v1 v2 v3 v4 v5] w fun e w' => ∃ v, e = .returned v ∧ Fl (fun j => w.heap.size ≤ j ∧ j < w'.heap.size) w' 1 encS v (namesOf m) ∧ Keep No w w' := by
  have hnd : (m.L.map (·.1)).Nodup := by
    unfold List.Nodup
    rw [List.pairwise_map]
    exact hap
  have hst0 := sorted_strict hnd
  have hpm : (namesOf m).Perm (m.L.map (·.1)) := List.mergeSort_perm _ _
  have hlen : (namesOf m).length = m.L.length := by rw [hpm.length_eq, List.length_map]
  have hst : (namesOf m).Pairwise (· < ·) := hst0
  clear hst0
  generalize namesOf m = S at *
  obtain ⟨a1, d1, a2, d2, a3, d3, a4, d4, a5, d5, rfl, rfl, rfl, rfl, rfl⟩ := h.shape
  have hkW : Keep No w (w.alloc (.cells #[.int .i64 m.room, .slice a1 m.is.length d1, .slice a2 m.sure.length d2, .slice a3 m.L.length d3, .slice a4 m.S.length d4, .slice a5 m.wait.length d5, .bool m.off, .int .i64 m.cut] 47)) := (Keep.refl _ _).alloc _
  have hBW : Blk (w.alloc (.cells #[.int .i64 m.room, .slice a1 m.is.length d1, .slice a2 m.sure.length d2, .slice a3 m.L.length d3, .slice a4 m.S.length d4, .slice a5 m.wait.length d5, .bool m.off, .int .i64 m.cut] 47)) w.heap.size #[.int .i64 m.room, .slice a1 m.is.length d1, .slice a2 m.sure.length d2, .slice a3 m.L.length d3, .slice a4 m.S.length d4, .slice a5 m.wait.length d5, .bool m.off, .int .i64 m.cut] 47 := Blk.new _ _ _
  have h' := h.no hkW
  unfold dv
  go_enter Try.func63, Try.ntmps63
  go_wp2_with (first | (at_builtin; refine wl_append rfl _ _ _ _ rfl _ _ rfl rfl ?_) | (at_make; refine wl_make rfl _ _ _ rfl _ _ rfl rfl ?_) | (at_mapUpdate; refine wl_mapUpdate rfl _ _ _ _ rfl _ _ _ rfl rfl rfl ?_) | (at_lookup; refine wl_lookup rfl _ _ _ _ rfl _ _ rfl rfl ?_) | (at_delete; refine wl_delete rfl _ _ _ _ rfl _ _ rfl rfl ?_) | (with_reducible refine wl_len rfl _ _ rfl _ rfl ?_) | (with_reducible refine wl_range rfl _ _ rfl _ rfl ?_) | (with_reducible refine wl_next rfl _ rfl _ rfl ?_) | (with_reducible refine wl_copy rfl _ _ _ _ rfl _ _ rfl rfl ?_) | (with_reducible refine wl_max rfl _ _ _ _ rfl _ _ rfl rfl ?_) | (with_reducible refine wl_min rfl _ _ _ _ rfl _ _ rfl rfl ?_))
  generalize w.alloc (.cells #[.int .i64 m.room, .slice a1 m.is.length d1, .slice a2 m.sure.length d2, .slice a3 m.L.length d3, .slice a4 m.S.length d4, .slice a5 m.wait.length d5, .bool m.off, .int .i64 m.cut] 47) = W at *
  have hWs := hkW.size
  have HPM := Lib.hid hpm
  have HST := Lib.hid hst
  have HLEN := Lib.hid hlen
  clear hpm hst hlen hnd hap
  go_loopw [3] (fun ov wr => ∃ j : Nat, j ≤ m.L.length ∧ FlO wr W.heap.size 9 1 encS ov (S.take j) ∧ Keep No W wr) (fun ov _ => m.L.length - (match ov with | .slice _ l _ => l | _ => 0))
  case atStart => exact ⟨0, Nat.zero_le _, FlO.nil, Keep.refl _ _⟩
  case round =>
    obtain ⟨j, hj, ho, hK⟩ := hrel
    have c1 := (hBW.keep hK fun h => h).cell
    obtain ⟨ao, dO, eo, _, _⟩ := ho.fl.shape
    have hSl := HLEN.out
    rw [List.length_take, Nat.min_eq_left (by omega)] at eo
    clear hSl
    subst eo
    rcases Nat.lt_or_ge j m.L.length with hjl | hjl
    · have hpos : j = 0 ∨ ∃ r, j = r + 1 := by cases j with | zero => exact .inl rfl | succ r => exact .inr ⟨r, rfl⟩
      have hcl : (j : Int) < (m.L.length : Int) := by omega
      go_wp2_with (first | (at_builtin; refine wl_append rfl _ _ _ _ rfl _ _ rfl rfl ?_) | (at_make; refine wl_make rfl _ _ _ rfl _ _ rfl rfl ?_) | (at_mapUpdate; refine wl_mapUpdate rfl _ _ _ _ rfl _ _ _ rfl rfl rfl ?_) | (at_lookup; refine wl_lookup rfl _ _ _ _ rfl _ _ rfl rfl ?_) | (at_delete; refine wl_delete rfl _ _ _ _ rfl _ _ rfl rfl ?_) | (with_reducible refine wl_len rfl _ _ rfl _ rfl ?_) | (with_reducible refine wl_range rfl _ _ rfl _ rfl ?_) | (with_reducible refine wl_next rfl _ rfl _ rfl ?_) | (with_reducible refine wl_copy rfl _ _ _ _ rfl _ _ rfl rfl ?_) | (with_reducible refine wl_max rfl _ _ _ _ rfl _ _ rfl rfl ?_) | (with_reducible refine wl_min rfl _ _ _ _ rfl _ _ rfl rfl ?_))
      have hD1 := h'.no hK
      rcases hpos with rfl | ⟨r, rfl⟩
      · go_loopw [4, 5] (fun av iv wi => ∃ (k : Nat) (at_ : Int), iv = .int .i64 k ∧ k ≤ m.L.length ∧ av = .int .i64 at_ ∧ Least m.L S 0 k at_ ∧ -1 ≤ at_ ∧ at_ ≤ k ∧ Keep No wr wi) (fun _ iv _ => m.L.length - (intOf iv).toNat)
        case atStart => exact ⟨0, -1, rfl, Nat.zero_le _, rfl, least_zero _ _ _, by omega, by omega, Keep.refl _ _⟩
        case round =>
          obtain ⟨k, at_, rfl, hk, rfl, hle, hlo, hhi, hKi⟩ := hrel
          have c1 := (hBW.keep (hK.trans' hKi) fun h => h).cell
          have hD2 := hD1.no hKi
          rcases Nat.lt_or_ge k m.L.length with hkl | hkl
          · obtain ⟨g, off, cap, e, _, hg, _, _, hcell⟩ := hD2.L.at (fun _ => rfl) hkl
            cases e
            have q0 : wr.cell? ⟨g, off + k * 2, none⟩ = _ := hcell 0 _ rfl
            clear hcell
            rcases hle with ⟨e1, e2⟩ | ⟨a, e1, e2, e3, e4, e5⟩
            · subst e1
              have hle : Least m.L S _ k (-1) := .inl ⟨rfl, e2⟩
              generalize hx : m.L[k].1 = x at *
              go_wp2_with (first | (at_builtin; refine wl_append rfl _ _ _ _ rfl _ _ rfl rfl ?_) | (at_make; refine wl_make rfl _ _ _ rfl _ _ rfl rfl ?_) | (at_mapUpdate; refine wl_mapUpdate rfl _ _ _ _ rfl _ _ _ rfl rfl rfl ?_) | (at_lookup; refine wl_lookup rfl _ _ _ _ rfl _ _ rfl rfl ?_) | (at_delete; refine wl_delete rfl _ _ _ _ rfl _ _ rfl rfl ?_) | (with_reducible refine wl_len rfl _ _ rfl _ rfl ?_) | (with_reducible refine wl_range rfl _ _ rfl _ rfl ?_) | (with_reducible refine wl_next rfl _ rfl _ rfl ?_) | (with_reducible refine wl_copy rfl _ _ _ _ rfl _ _ rfl rfl ?_) | (with_reducible refine wl_max rfl _ _ _ _ rfl _ _ rfl rfl ?_) | (with_reducible refine wl_min rfl _ _ _ _ rfl _ _ rfl rfl ?_))
              go_quiet (fail)
              go_wp2_with (first | (at_builtin; refine wl_append rfl _ _ _ _ rfl _ _ rfl rfl ?_) | (at_make; refine wl_make rfl _ _ _ rfl _ _ rfl rfl ?_) | (at_mapUpdate; refine wl_mapUpdate rfl _ _ _ _ rfl _ _ _ rfl rfl rfl ?_) | (at_lookup; refine wl_lookup rfl _ _ _ _ rfl _ _ rfl rfl ?_) | (at_delete; refine wl_delete rfl _ _ _ _ rfl _ _ rfl rfl ?_) | (with_reducible refine wl_len rfl _ _ rfl _ rfl ?_) | (with_reducible refine wl_range rfl _ _ rfl _ rfl ?_) | (with_reducible refine wl_next rfl _ rfl _ rfl ?_) | (with_reducible refine wl_copy rfl _ _ _ _ rfl _ _ rfl rfl ?_) | (with_reducible refine wl_max rfl _ _ _ _ rfl _ _ rfl rfl ?_) | (with_reducible refine wl_min rfl _ _ _ _ rfl _ _ rfl rfl ?_))
              go_roundw
              case rel => exact ⟨k + 1, (k : Int), by go_num, by omega, rfl, least_take hkl hle (by rw [hx]; exact (cand_zero S _)) (.inl rfl), by omega, by omega, hKi.drewN _⟩
              case measure => simp [intOf]; omega
            · subst e1
              have hle : Least m.L S _ k (a : Int) := .inr ⟨a, rfl, e2, e3, e4, e5⟩
              obtain ⟨g', off', cap', e', _, hg', _, _, hcellA⟩ := hD2.L.at (fun _ => rfl) e3
              cases e'
              have qa : wr.cell? ⟨g, off + a * 2, none⟩ = _ := hcellA 0 _ rfl
              have ha0 : decide ((a : Int) < 0) = false := by simp
              have hal : (a : Int) < (m.L.length : Int) := by omega
              clear hcellA e2 e4 e5
              rcases Classical.em (m.L[k].1 < m.L[a].1) with hlt | hge
              · have hb : Op.bytesLess m.L[k].1 m.L[a].1 = true := by rw [bytesLess_eq]; simpa using hlt
                have hcc : Cand S _ m.L[k].1 := (cand_zero S _)
                have HLT := Lib.hid hlt
                have HCC := Lib.hid hcc
                clear hlt hcc
                generalize hx : m.L[k].1 = x at *
                generalize hz : m.L[a].1 = z at *
                go_wp2_with (first | (at_builtin; refine wl_append rfl _ _ _ _ rfl _ _ rfl rfl ?_) | (at_make; refine wl_make rfl _ _ _ rfl _ _ rfl rfl ?_) | (at_mapUpdate; refine wl_mapUpdate rfl _ _ _ _ rfl _ _ _ rfl rfl rfl ?_) | (at_lookup; refine wl_lookup rfl _ _ _ _ rfl _ _ rfl rfl ?_) | (at_delete; refine wl_delete rfl _ _ _ _ rfl _ _ rfl rfl ?_) | (with_reducible refine wl_len rfl _ _ rfl _ rfl ?_) | (with_reducible refine wl_range rfl _ _ rfl _ rfl ?_) | (with_reducible refine wl_next rfl _ rfl _ rfl ?_) | (with_reducible refine wl_copy rfl _ _ _ _ rfl _ _ rfl rfl ?_) | (with_reducible refine wl_max rfl _ _ _ _ rfl _ _ rfl rfl ?_) | (with_reducible refine wl_min rfl _ _ _ _ rfl _ _ rfl rfl ?_))
                go_quiet (fail)
                go_wp2_with (first | (at_builtin; refine wl_append rfl _ _ _ _ rfl _ _ rfl rfl ?_) | (at_make; refine wl_make rfl _ _ _ rfl _ _ rfl rfl ?_) | (at_mapUpdate; refine wl_mapUpdate rfl _ _ _ _ rfl _ _ _ rfl rfl rfl ?_) | (at_lookup; refine wl_lookup rfl _ _ _ _ rfl _ _ rfl rfl ?_) | (at_delete; refine wl_delete rfl _ _ _ _ rfl _ _ rfl rfl ?_) | (with_reducible refine wl_len rfl _ _ rfl _ rfl ?_) | (with_reducible refine wl_range rfl _ _ rfl _ rfl ?_) | (with_reducible refine wl_next rfl _ rfl _ rfl ?_) | (with_reducible refine wl_copy rfl _ _ _ _ rfl _ _ rfl rfl ?_) | (with_reducible refine wl_max rfl _ _ _ _ rfl _ _ rfl rfl ?_) | (with_reducible refine wl_min rfl _ _ _ _ rfl _ _ rfl rfl ?_))
                go_roundw
                case rel => exact ⟨k + 1, (k : Int), by go_num, by omega, rfl, least_take hkl hle (by rw [hx]; exact HCC.out) (.inr ⟨a, rfl, e3, by rw [hx, hz]; exact HLT.out⟩), by omega, by omega, hKi.drewN _⟩
                case measure => simp [intOf]; omega
              · have hb : Op.bytesLess m.L[k].1 m.L[a].1 = false := by rw [bytesLess_eq]; simpa using hge
                have hge' : m.L[a].1 ≤ m.L[k].1 := List.not_lt.1 hge
                have HGE := Lib.hid hge'
                clear hge hge'
                generalize hx : m.L[k].1 = x at *
                generalize hz : m.L[a].1 = z at *
                go_wp2_with (first | (at_builtin; refine wl_append rfl _ _ _ _ rfl _ _ rfl rfl ?_) | (at_make; refine wl_make rfl _ _ _ rfl _ _ rfl rfl ?_) | (at_mapUpdate; refine wl_mapUpdate rfl _ _ _ _ rfl _ _ _ rfl rfl rfl ?_) | (at_lookup; refine wl_lookup rfl _ _ _ _ rfl _ _ rfl rfl ?_) | (at_delete; refine wl_delete rfl _ _ _ _ rfl _ _ rfl rfl ?_) | (with_reducible refine wl_len rfl _ _ rfl _ rfl ?_) | (with_reducible refine wl_range rfl _ _ rfl _ rfl ?_) | (with_reducible refine wl_next rfl _ rfl _ rfl ?_) | (with_reducible refine wl_copy rfl _ _ _ _ rfl _ _ rfl rfl ?_) | (with_reducible refine wl_max rfl _ _ _ _ rfl _ _ rfl rfl ?_) | (with_reducible refine wl_min rfl _ _ _ _ rfl _ _ rfl rfl ?_))
                go_quiet (fail)
                go_wp2_with (first | (at_builtin; refine wl_append rfl _ _ _ _ rfl _ _ rfl rfl ?_) | (at_make; refine wl_make rfl _ _ _ rfl _ _ rfl rfl ?_) | (at_mapUpdate; refine wl_mapUpdate rfl _ _ _ _ rfl _ _ _ rfl rfl rfl ?_) | (at_lookup; refine wl_lookup rfl _ _ _ _ rfl _ _ rfl rfl ?_) | (at_delete; refine wl_delete rfl _ _ _ _ rfl _ _ rfl rfl ?_) | (with_reducible refine wl_len rfl _ _ rfl _ rfl ?_) | (with_reducible refine wl_range rfl _ _ rfl _ rfl ?_) | (with_reducible refine wl_next rfl _ rfl _ rfl ?_) | (with_reducible refine wl_copy rfl _ _ _ _ rfl _ _ rfl rfl ?_) | (with_reducible refine wl_max rfl _ _ _ _ rfl _ _ rfl rfl ?_) | (with_reducible refine wl_min rfl _ _ _ _ rfl _ _ rfl rfl ?_))
                go_roundw
                case rel => exact ⟨k + 1, _, by go_num, by omega, rfl, least_skip hkl hle (.inr ⟨a, rfl, e3, by have := HGE.out; rw [hx, hz]; exact this⟩), by omega, by omega, hKi.drewN _⟩
                case measure => simp [intOf]; omega
          · skip
            obtain rfl : k = m.L.length := by omega
            obtain ⟨a, e1, e2, e3⟩ := least_end HPM.out HST.out (by rw [HLEN.out]; exact hjl) hle
            subst e1
            clear hle
            obtain ⟨g, off, cap, e, _, hg, _, _, hcell⟩ := hD2.L.at (fun _ => rfl) e2
            cases e
            have qa : wr.cell? ⟨g, off + a * 2, none⟩ = _ := hcell 0 _ rfl
            rw [e3] at qa
            have hal : (a : Int) < (m.L.length : Int) := by omega
            clear hcell
            have ho2 := ho.no hKi
            have hKo := hK.trans' hKi
            have hjS := HLEN.out
            go_wp2_with (first | (at_builtin; refine wl_append rfl _ _ _ _ rfl _ _ rfl rfl ?_) | (at_make; refine wl_make rfl _ _ _ rfl _ _ rfl rfl ?_) | (at_mapUpdate; refine wl_mapUpdate rfl _ _ _ _ rfl _ _ _ rfl rfl rfl ?_) | (at_lookup; refine wl_lookup rfl _ _ _ _ rfl _ _ rfl rfl ?_) | (at_delete; refine wl_delete rfl _ _ _ _ rfl _ _ rfl rfl ?_) | (with_reducible refine wl_len rfl _ _ rfl _ rfl ?_) | (with_reducible refine wl_range rfl _ _ rfl _ rfl ?_) | (with_reducible refine wl_next rfl _ rfl _ rfl ?_) | (with_reducible refine wl_copy rfl _ _ _ _ rfl _ _ rfl rfl ?_) | (with_reducible refine wl_max rfl _ _ _ _ rfl _ _ rfl rfl ?_) | (with_reducible refine wl_min rfl _ _ _ _ rfl _ _ rfl rfl ?_))
            refine rg_push _ 16 Try.underlying35 info_str rfl (by decide) (enc := encS) (x := S[0]) rfl rfl (s_one _) ho2 (by rw [List.length_take]; omega) (by decide) hKo.size ?_
            intro v' w2 ho3 hk2 _
            obtain ⟨av, cv, rfl, _, _⟩ := ho3.fl.shape
            go_wp2_with (first | (at_builtin; refine wl_append rfl _ _ _ _ rfl _ _ rfl rfl ?_) | (at_make; refine wl_make rfl _ _ _ rfl _ _ rfl rfl ?_) | (at_mapUpdate; refine wl_mapUpdate rfl _ _ _ _ rfl _ _ _ rfl rfl rfl ?_) | (at_lookup; refine wl_lookup rfl _ _ _ _ rfl _ _ rfl rfl ?_) | (at_delete; refine wl_delete rfl _ _ _ _ rfl _ _ rfl rfl ?_) | (with_reducible refine wl_len rfl _ _ rfl _ rfl ?_) | (with_reducible refine wl_range rfl _ _ rfl _ rfl ?_) | (with_reducible refine wl_next rfl _ rfl _ rfl ?_) | (with_reducible refine wl_copy rfl _ _ _ _ rfl _ _ rfl rfl ?_) | (with_reducible refine wl_max rfl _ _ _ _ rfl _ _ rfl rfl ?_) | (with_reducible refine wl_min rfl _ _ _ _ rfl _ _ rfl rfl ?_))
            go_roundw
            case rel => exact ⟨0 + 1, hjl, by rw [List.take_succ_eq_append_getElem (show 0 < S.length by omega)]; exact ho3, hKo.own ho2 hk2⟩
            case measure => simp only [List.length_append, List.length_take, List.length_singleton]; omega
      · have hSl := HLEN.out
        have hrl : r < S.length := by omega
        have hrt : r < (List.take (r + 1) S).length := by rw [List.length_take]; omega
        obtain ⟨go, oo, co, eo, _, hgo, _, _, hcello⟩ := ho.fl.at (fun _ => rfl) hrt
        rw [List.length_take, Nat.min_eq_left (by omega)] at eo
        cases eo
        have qo : wr.cell? ⟨go, oo + r, none⟩ = some (.string ⟨S[r].toArray⟩) := by have := hcello 0 _ rfl; simp only [Nat.mul_one, Nat.add_zero, List.getElem_take] at this; exact this
        have hcr := fun x => cand_last HST.out hrl x
        have HCR := Lib.hid hcr
        have hw : IntKind.i64.wrap (r : Int) = (r : Int) := IntWalk.i64_in _ (by omega)
        have hr0 : ((r : Int) + 1 == 0) = false := by simp; omega
        clear hcello hcr hrt hSl
        generalize S[r] = y at *
        go_loopw [4, 5] (fun av iv wi => ∃ (k : Nat) (at_ : Int), iv = .int .i64 k ∧ k ≤ m.L.length ∧ av = .int .i64 at_ ∧ Least m.L S (r + 1) k at_ ∧ -1 ≤ at_ ∧ at_ ≤ k ∧ Keep No wr wi) (fun _ iv _ => m.L.length - (intOf iv).toNat)
        case atStart => exact ⟨0, -1, rfl, Nat.zero_le _, rfl, least_zero _ _ _, by omega, by omega, Keep.refl _ _⟩
        case round =>
          obtain ⟨k, at_, rfl, hk, rfl, hle, hlo, hhi, hKi⟩ := hrel
          have c1 := (hBW.keep (hK.trans' hKi) fun h => h).cell
          have hD2 := hD1.no hKi
          have qo := (hKi.cell (p := ⟨go, oo + r, none⟩) hgo (fun h => h)).trans qo
          rcases Nat.lt_or_ge k m.L.length with hkl | hkl
          · obtain ⟨g, off, cap, e, _, hg, _, _, hcell⟩ := hD2.L.at (fun _ => rfl) hkl
            cases e
            have q0 : wr.cell? ⟨g, off + k * 2, none⟩ = _ := hcell 0 _ rfl
            clear hcell
            have hord : y < m.L[k].1 ∨ m.L[k].1 < y ∨ m.L[k].1 = y := by
              rcases Classical.em (y < m.L[k].1) with h | h
              · exact .inl h
              · rcases Classical.em (m.L[k].1 = y) with h2 | h2
                · exact .inr (.inr h2)
                · exact .inr (.inl (str_lt.2 ⟨List.not_lt.1 h, h2⟩))
            rcases hord with hgt | hlt | heq
            · have b1 : Op.bytesLess m.L[k].1 y = false := by rw [bytesLess_eq]; simpa using (str_lt.1 hgt).1
              have b2 : (m.L[k].1 == y) = false := by simpa using fun e : m.L[k].1 = y => (str_lt.1 hgt).2 e.symm
              have hcand : Cand S (r + 1) m.L[k].1 := (HCR.out _).2 hgt
              have HCD := Lib.hid hcand
              clear hgt hcand
              rcases hle with ⟨e1, e2⟩ | ⟨a, e1, e2, e3, e4, e5⟩
              · subst e1
                have hle : Least m.L S _ k (-1) := .inl ⟨rfl, e2⟩
                generalize hx : m.L[k].1 = x at *
                go_wp2_with (first | (at_builtin; refine wl_append rfl _ _ _ _ rfl _ _ rfl rfl ?_) | (at_make; refine wl_make rfl _ _ _ rfl _ _ rfl rfl ?_) | (at_mapUpdate; refine wl_mapUpdate rfl _ _ _ _ rfl _ _ _ rfl rfl rfl ?_) | (at_lookup; refine wl_lookup rfl _ _ _ _ rfl _ _ rfl rfl ?_) | (at_delete; refine wl_delete rfl _ _ _ _ rfl _ _ rfl rfl ?_) | (with_reducible refine wl_len rfl _ _ rfl _ rfl ?_) | (with_reducible refine wl_range rfl _ _ rfl _ rfl ?_) | (with_reducible refine wl_next rfl _ rfl _ rfl ?_) | (with_reducible refine wl_copy rfl _ _ _ _ rfl _ _ rfl rfl ?_) | (with_reducible refine wl_max rfl _ _ _ _ rfl _ _ rfl rfl ?_) | (with_reducible refine wl_min rfl _ _ _ _ rfl _ _ rfl rfl ?_))
                go_quiet (fail)
                go_wp2_with (first | (at_builtin; refine wl_append rfl _ _ _ _ rfl _ _ rfl rfl ?_) | (at_make; refine wl_make rfl _ _ _ rfl _ _ rfl rfl ?_) | (at_mapUpdate; refine wl_mapUpdate rfl _ _ _ _ rfl _ _ _ rfl rfl rfl ?_) | (at_lookup; refine wl_lookup rfl _ _ _ _ rfl _ _ rfl rfl ?_) | (at_delete; refine wl_delete rfl _ _ _ _ rfl _ _ rfl rfl ?_) | (with_reducible refine wl_len rfl _ _ rfl _ rfl ?_) | (with_reducible refine wl_range rfl _ _ rfl _ rfl ?_) | (with_reducible refine wl_next rfl _ rfl _ rfl ?_) | (with_reducible refine wl_copy rfl _ _ _ _ rfl _ _ rfl rfl ?_) | (with_reducible refine wl_max rfl _ _ _ _ rfl _ _ rfl rfl ?_) | (with_reducible refine wl_min rfl _ _ _ _ rfl _ _ rfl rfl ?_))
                go_roundw
                case rel => exact ⟨k + 1, (k : Int), by go_num, by omega, rfl, least_take hkl hle (by rw [hx]; exact HCD.out) (.inl rfl), by omega, by omega, hKi.drewN _⟩
                case measure => simp [intOf]; omega
              · subst e1
                have hle : Least m.L S _ k (a : Int) := .inr ⟨a, rfl, e2, e3, e4, e5⟩
                obtain ⟨g', off', cap', e', _, hg', _, _, hcellA⟩ := hD2.L.at (fun _ => rfl) e3
                cases e'
                have qa : wr.cell? ⟨g, off + a * 2, none⟩ = _ := hcellA 0 _ rfl
                have ha0 : decide ((a : Int) < 0) = false := by simp
                have hal : (a : Int) < (m.L.length : Int) := by omega
                clear hcellA e2 e4 e5
                rcases Classical.em (m.L[k].1 < m.L[a].1) with hlt | hge
                · have hb : Op.bytesLess m.L[k].1 m.L[a].1 = true := by rw [bytesLess_eq]; simpa using hlt
                  have hcc : Cand S _ m.L[k].1 := HCD.out
                  have HLT := Lib.hid hlt
                  have HCC := Lib.hid hcc
                  clear hlt hcc
                  generalize hx : m.L[k].1 = x at *
                  generalize hz : m.L[a].1 = z at *
                  go_wp2_with (first | (at_builtin; refine wl_append rfl _ _ _ _ rfl _ _ rfl rfl ?_) | (at_make; refine wl_make rfl _ _ _ rfl _ _ rfl rfl ?_) | (at_mapUpdate; refine wl_mapUpdate rfl _ _ _ _ rfl _ _ _ rfl rfl rfl ?_) | (at_lookup; refine wl_lookup rfl _ _ _ _ rfl _ _ rfl rfl ?_) | (at_delete; refine wl_delete rfl _ _ _ _ rfl _ _ rfl rfl ?_) | (with_reducible refine wl_len rfl _ _ rfl _ rfl ?_) | (with_reducible refine wl_range rfl _ _ rfl _ rfl ?_) | (with_reducible refine wl_next rfl _ rfl _ rfl ?_) | (with_reducible refine wl_copy rfl _ _ _ _ rfl _ _ rfl rfl ?_) | (with_reducible refine wl_max rfl _ _ _ _ rfl _ _ rfl rfl ?_) | (with_reducible refine wl_min rfl _ _ _ _ rfl _ _ rfl rfl ?_))
                  go_quiet (fail)
                  go_wp2_with (first | (at_builtin; refine wl_append rfl _ _ _ _ rfl _ _ rfl rfl ?_) | (at_make; refine wl_make rfl _ _ _ rfl _ _ rfl rfl ?_) | (at_mapUpdate; refine wl_mapUpdate rfl _ _ _ _ rfl _ _ _ rfl rfl rfl ?_) | (at_lookup; refine wl_lookup rfl _ _ _ _ rfl _ _ rfl rfl ?_) | (at_delete; refine wl_delete rfl _ _ _ _ rfl _ _ rfl rfl ?_) | (with_reducible refine wl_len rfl _ _ rfl _ rfl ?_) | (with_reducible refine wl_range rfl _ _ rfl _ rfl ?_) | (with_reducible refine wl_next rfl _ rfl _ rfl ?_) | (with_reducible refine wl_copy rfl _ _ _ _ rfl _ _ rfl rfl ?_) | (with_reducible refine wl_max rfl _ _ _ _ rfl _ _ rfl rfl ?_) | (with_reducible refine wl_min rfl _ _ _ _ rfl _ _ rfl rfl ?_))
                  go_roundw
                  case rel => exact ⟨k + 1, (k : Int), by go_num, by omega, rfl, least_take hkl hle (by rw [hx]; exact HCC.out) (.inr ⟨a, rfl, e3, by rw [hx, hz]; exact HLT.out⟩), by omega, by omega, hKi.drewN _⟩
                  case measure => simp [intOf]; omega
                · have hb : Op.bytesLess m.L[k].1 m.L[a].1 = false := by rw [bytesLess_eq]; simpa using hge
                  have hge' : m.L[a].1 ≤ m.L[k].1 := List.not_lt.1 hge
                  have HGE := Lib.hid hge'
                  clear hge hge'
                  generalize hx : m.L[k].1 = x at *
                  generalize hz : m.L[a].1 = z at *
                  go_wp2_with (first | (at_builtin; refine wl_append rfl _ _ _ _ rfl _ _ rfl rfl ?_) | (at_make; refine wl_make rfl _ _ _ rfl _ _ rfl rfl ?_) | (at_mapUpdate; refine wl_mapUpdate rfl _ _ _ _ rfl _ _ _ rfl rfl rfl ?_) | (at_lookup; refine wl_lookup rfl _ _ _ _ rfl _ _ rfl rfl ?_) | (at_delete; refine wl_delete rfl _ _ _ _ rfl _ _ rfl rfl ?_) | (with_reducible refine wl_len rfl _ _ rfl _ rfl ?_) | (with_reducible refine wl_range rfl _ _ rfl _ rfl ?_) | (with_reducible refine wl_next rfl _ rfl _ rfl ?_) | (with_reducible refine wl_copy rfl _ _ _ _ rfl _ _ rfl rfl ?_) | (with_reducible refine wl_max rfl _ _ _ _ rfl _ _ rfl rfl ?_) | (with_reducible refine wl_min rfl _ _ _ _ rfl _ _ rfl rfl ?_))
                  go_quiet (fail)
                  go_wp2_with (first | (at_builtin; refine wl_append rfl _ _ _ _ rfl _ _ rfl rfl ?_) | (at_make; refine wl_make rfl _ _ _ rfl _ _ rfl rfl ?_) | (at_mapUpdate; refine wl_mapUpdate rfl _ _ _ _ rfl _ _ _ rfl rfl rfl ?_) | (at_lookup; refine wl_lookup rfl _ _ _ _ rfl _ _ rfl rfl ?_) | (at_delete; refine wl_delete rfl _ _ _ _ rfl _ _ rfl rfl ?_) | (with_reducible refine wl_len rfl _ _ rfl _ rfl ?_) | (with_reducible refine wl_range rfl _ _ rfl _ rfl ?_) | (with_reducible refine wl_next rfl _ rfl _ rfl ?_) | (with_reducible refine wl_copy rfl _ _ _ _ rfl _ _ rfl rfl ?_) | (with_reducible refine wl_max rfl _ _ _ _ rfl _ _ rfl rfl ?_) | (with_reducible refine wl_min rfl _ _ _ _ rfl _ _ rfl rfl ?_))
                  go_roundw
                  case rel => exact ⟨k + 1, _, by go_num, by omega, rfl, least_skip hkl hle (.inr ⟨a, rfl, e3, by have := HGE.out; rw [hx, hz]; exact this⟩), by omega, by omega, hKi.drewN _⟩
                  case measure => simp [intOf]; omega
            · have b1 : Op.bytesLess m.L[k].1 y = true := by rw [bytesLess_eq]; simpa using hlt
              have hno : ¬ Cand S (r + 1) m.L[k].1 := fun h => absurd (str_lt.1 ((HCR.out _).1 h)).1 (fun h2 => (str_lt.1 hlt).2 (str_antisymm (str_lt.1 hlt).1 h2))
              have HNO := Lib.hid hno
              clear hlt hno
              generalize hx : m.L[k].1 = x at *
              go_wp2_with (first | (at_builtin; refine wl_append rfl _ _ _ _ rfl _ _ rfl rfl ?_) | (at_make; refine wl_make rfl _ _ _ rfl _ _ rfl rfl ?_) | (at_mapUpdate; refine wl_mapUpdate rfl _ _ _ _ rfl _ _ _ rfl rfl rfl ?_) | (at_lookup; refine wl_lookup rfl _ _ _ _ rfl _ _ rfl rfl ?_) | (at_delete; refine wl_delete rfl _ _ _ _ rfl _ _ rfl rfl ?_) | (with_reducible refine wl_len rfl _ _ rfl _ rfl ?_) | (with_reducible refine wl_range rfl _ _ rfl _ rfl ?_) | (with_reducible refine wl_next rfl _ rfl _ rfl ?_) | (with_reducible refine wl_copy rfl _ _ _ _ rfl _ _ rfl rfl ?_) | (with_reducible refine wl_max rfl _ _ _ _ rfl _ _ rfl rfl ?_) | (with_reducible refine wl_min rfl _ _ _ _ rfl _ _ rfl rfl ?_))
              go_quiet (fail)
              go_wp2_with (first | (at_builtin; refine wl_append rfl _ _ _ _ rfl _ _ rfl rfl ?_) | (at_make; refine wl_make rfl _ _ _ rfl _ _ rfl rfl ?_) | (at_mapUpdate; refine wl_mapUpdate rfl _ _ _ _ rfl _ _ _ rfl rfl rfl ?_) | (at_lookup; refine wl_lookup rfl _ _ _ _ rfl _ _ rfl rfl ?_) | (at_delete; refine wl_delete rfl _ _ _ _ rfl _ _ rfl rfl ?_) | (with_reducible refine wl_len rfl _ _ rfl _ rfl ?_) | (with_reducible refine wl_range rfl _ _ rfl _ rfl ?_) | (with_reducible refine wl_next rfl _ rfl _ rfl ?_) | (with_reducible refine wl_copy rfl _ _ _ _ rfl _ _ rfl rfl ?_) | (with_reducible refine wl_max rfl _ _ _ _ rfl _ _ rfl rfl ?_) | (with_reducible refine wl_min rfl _ _ _ _ rfl _ _ rfl rfl ?_))
              go_roundw
              case rel => exact ⟨k + 1, _, by go_num, by omega, rfl, least_skip hkl hle (.inl (by rw [hx]; exact HNO.out)), by omega, by omega, hKi.drewN _⟩
              case measure => simp [intOf]; omega
            · have hno : ¬ Cand S (r + 1) m.L[k].1 := fun h => (str_lt.1 ((HCR.out _).1 h)).2 heq.symm
              have b1 : Op.bytesLess y y = false := by rw [bytesLess_eq]; simp [List.lt_irrefl]
              have HNO := Lib.hid hno
              clear hno
              rw [heq] at q0
              go_wp2_with (first | (at_builtin; refine wl_append rfl _ _ _ _ rfl _ _ rfl rfl ?_) | (at_make; refine wl_make rfl _ _ _ rfl _ _ rfl rfl ?_) | (at_mapUpdate; refine wl_mapUpdate rfl _ _ _ _ rfl _ _ _ rfl rfl rfl ?_) | (at_lookup; refine wl_lookup rfl _ _ _ _ rfl _ _ rfl rfl ?_) | (at_delete; refine wl_delete rfl _ _ _ _ rfl _ _ rfl rfl ?_) | (with_reducible refine wl_len rfl _ _ rfl _ rfl ?_) | (with_reducible refine wl_range rfl _ _ rfl _ rfl ?_) | (with_reducible refine wl_next rfl _ rfl _ rfl ?_) | (with_reducible refine wl_copy rfl _ _ _ _ rfl _ _ rfl rfl ?_) | (with_reducible refine wl_max rfl _ _ _ _ rfl _ _ rfl rfl ?_) | (with_reducible refine wl_min rfl _ _ _ _ rfl _ _ rfl rfl ?_))
              go_quiet (fail)
              go_wp2_with (first | (at_builtin; refine wl_append rfl _ _ _ _ rfl _ _ rfl rfl ?_) | (at_make; refine wl_make rfl _ _ _ rfl _ _ rfl rfl ?_) | (at_mapUpdate; refine wl_mapUpdate rfl _ _ _ _ rfl _ _ _ rfl rfl rfl ?_) | (at_lookup; refine wl_lookup rfl _ _ _ _ rfl _ _ rfl rfl ?_) | (at_delete; refine wl_delete rfl _ _ _ _ rfl _ _ rfl rfl ?_) | (with_reducible refine wl_len rfl _ _ rfl _ rfl ?_) | (with_reducible refine wl_range rfl _ _ rfl _ rfl ?_) | (with_reducible refine wl_next rfl _ rfl _ rfl ?_) | (with_reducible refine wl_copy rfl _ _ _ _ rfl _ _ rfl rfl ?_) | (with_reducible refine wl_max rfl _ _ _ _ rfl _ _ rfl rfl ?_) | (with_reducible refine wl_min rfl _ _ _ _ rfl _ _ rfl rfl ?_))
              go_roundw
              case rel => exact ⟨k + 1, _, by go_num, by omega, rfl, least_skip hkl hle (.inl HNO.out), by omega, by omega, hKi.drewN _⟩
              case measure => simp [intOf]; omega
          · skip
            obtain rfl : k = m.L.length := by omega
            obtain ⟨a, e1, e2, e3⟩ := least_end HPM.out HST.out (by rw [HLEN.out]; exact hjl) hle
            subst e1
            clear hle
            obtain ⟨g, off, cap, e, _, hg, _, _, hcell⟩ := hD2.L.at (fun _ => rfl) e2
            cases e
            have qa : wr.cell? ⟨g, off + a * 2, none⟩ = _ := hcell 0 _ rfl
            rw [e3] at qa
            have hal : (a : Int) < (m.L.length : Int) := by omega
            clear hcell
            have ho2 := ho.no hKi
            have hKo := hK.trans' hKi
            have hjS := HLEN.out
            go_wp2_with (first | (at_builtin; refine wl_append rfl _ _ _ _ rfl _ _ rfl rfl ?_) | (at_make; refine wl_make rfl _ _ _ rfl _ _ rfl rfl ?_) | (at_mapUpdate; refine wl_mapUpdate rfl _ _ _ _ rfl _ _ _ rfl rfl rfl ?_) | (at_lookup; refine wl_lookup rfl _ _ _ _ rfl _ _ rfl rfl ?_) | (at_delete; refine wl_delete rfl _ _ _ _ rfl _ _ rfl rfl ?_) | (with_reducible refine wl_len rfl _ _ rfl _ rfl ?_) | (with_reducible refine wl_range rfl _ _ rfl _ rfl ?_) | (with_reducible refine wl_next rfl _ rfl _ rfl ?_) | (with_reducible refine wl_copy rfl _ _ _ _ rfl _ _ rfl rfl ?_) | (with_reducible refine wl_max rfl _ _ _ _ rfl _ _ rfl rfl ?_) | (with_reducible refine wl_min rfl _ _ _ _ rfl _ _ rfl rfl ?_))
            refine rg_push _ 16 Try.underlying35 info_str rfl (by decide) (enc := encS) (x := S[(r + 1)]) rfl rfl (s_one _) ho2 (by rw [List.length_take]; omega) (by decide) hKo.size ?_
            intro v' w2 ho3 hk2 _
            obtain ⟨av, cv, rfl, _, _⟩ := ho3.fl.shape
            go_wp2_with (first | (at_builtin; refine wl_append rfl _ _ _ _ rfl _ _ rfl rfl ?_) | (at_make; refine wl_make rfl _ _ _ rfl _ _ rfl rfl ?_) | (at_mapUpdate; refine wl_mapUpdate rfl _ _ _ _ rfl _ _ _ rfl rfl rfl ?_) | (at_lookup; refine wl_lookup rfl _ _ _ _ rfl _ _ rfl rfl ?_) | (at_delete; refine wl_delete rfl _ _ _ _ rfl _ _ rfl rfl ?_) | (with_reducible refine wl_len rfl _ _ rfl _ rfl ?_) | (with_reducible refine wl_range rfl _ _ rfl _ rfl ?_) | (with_reducible refine wl_next rfl _ rfl _ rfl ?_) | (with_reducible refine wl_copy rfl _ _ _ _ rfl _ _ rfl rfl ?_) | (with_reducible refine wl_max rfl _ _ _ _ rfl _ _ rfl rfl ?_) | (with_reducible refine wl_min rfl _ _ _ _ rfl _ _ rfl rfl ?_))
            go_roundw
            case rel => exact ⟨(r + 1) + 1, hjl, by rw [List.take_succ_eq_append_getElem (show (r + 1) < S.length by omega)]; exact ho3, hKo.own ho2 hk2⟩
            case measure => simp only [List.length_append, List.length_take, List.length_singleton]; omega
    · obtain rfl : j = m.L.length := by omega
      go_wp2_with (first | (at_builtin; refine wl_append rfl _ _ _ _ rfl _ _ rfl rfl ?_) | (at_make; refine wl_make rfl _ _ _ rfl _ _ rfl rfl ?_) | (at_mapUpdate; refine wl_mapUpdate rfl _ _ _ _ rfl _ _ _ rfl rfl rfl ?_) | (at_lookup; refine wl_lookup rfl _ _ _ _ rfl _ _ rfl rfl ?_) | (at_delete; refine wl_delete rfl _ _ _ _ rfl _ _ rfl rfl ?_) | (with_reducible refine wl_len rfl _ _ rfl _ rfl ?_) | (with_reducible refine wl_range rfl _ _ rfl _ rfl ?_) | (with_reducible refine wl_next rfl _ rfl _ rfl ?_) | (with_reducible refine wl_copy rfl _ _ _ _ rfl _ _ rfl rfl ?_) | (with_reducible refine wl_max rfl _ _ _ _ rfl _ _ rfl rfl ?_) | (with_reducible refine wl_min rfl _ _ _ _ rfl _ _ rfl rfl ?_))
      go_ret
      refine ⟨_, rfl, ?_, hkW.trans' hK⟩
      rw [← HLEN.out, List.take_length] at ho
      rw [← HLEN.out]
      exact ho.fl.mono fun j _ ha => ⟨by omega, ha.2⟩
end Go.Proofs.Ytkmoomgmmhmaeaa
namespace Go.Proofs.Ytkmoomgmmhmaeaa
open Go.RowKit Go.Dm Go.Dm.Dk Go.Maps

/-- a disk whose memory lies in P -/
def Own (P : Nat → Prop) (w : World) (d : Nat) (m : M) : Prop := DR (fun k => P k ∧ k < w.heap.size) w d m
theorem Own.of {P : Nat → Prop} {w w' : World} {d : Nat} {m : M} {A : Nat → Prop} (h : DR (Plus A w w') w' d m) (hA : ∀ k, A k → P k) (hP : ∀ k, w.heap.size ≤ k → P k) : Own P w' d m :=
  h.mono fun k hk ha => by
    rcases ha with ha | ha
    · exact ⟨hA k ha, hk⟩
    · exact ⟨hP k ha.1, hk⟩
theorem Own.same {P : Nat → Prop} {w w' : World} {d : Nat} {m : M} (h : Own P w d m) (hs : w.heap.size ≤ w'.heap.size) (e : ∀ k, k < w.heap.size → P k → w'.heap[k]? = w.heap[k]?) : Own P w' d m :=
  (DR.same h hs fun k hk => e k hk.2 hk.1).mono fun _ hk ha => ⟨ha.1, hk⟩
theorem Own.keep {P S : Nat → Prop} {w w' : World} {d : Nat} {m : M} (h : Own P w d m) (hk : Keep S w w') (hS : ∀ k, P k → ¬ S k) : Own P w' d m :=
  h.same hk.size fun k hl hp => hk.block k hl (hS k hp)

section
variable {P : Nat → Prop} {d n N : Nat} {m : M} {w : World}

theorem create_own (s : List UInt8) (h : Own P w d m) (hP : ∀ k, w.heap.size ≤ k → P k) (hm : Small m n N) (hn : n ≤ 100000) (hN : N ≤ 1000000) (hs : s.length ≤ 1000) :
    Calls Try.prog 11 #[ptrTo d, .string ⟨s.toArray⟩] w fun e w' => e = .returned (.int .i64 ((call m 1 s [] 0 []).2 : Nat)) ∧ Own P w' d (call m 1 s [] 0 []).1 ∧ Keep P w w' := by
  have hf := hm.fit hn hN
  refine (create_any s w h (fun k hk => hk.2) (by unfold maxLen; omega) hf.wl hf.ll hf.ct).mono ?_
  rintro e w' ⟨rfl, h2, hk⟩
  exact ⟨rfl, Own.of h2 (fun k hk => hk.1) hP, hk.mono fun k _ hk => hk.1⟩
theorem sync_own (s : List UInt8) (h : Own P w d m) (hP : ∀ k, w.heap.size ≤ k → P k) (hm : Small m n N) (hn : n ≤ 100000) (hN : N ≤ 1000000) (hs : s.length ≤ 1000) :
    Calls Try.prog 23 #[ptrTo d, .string ⟨s.toArray⟩] w fun e w' => e = .returned (.int .i64 ((call m 3 s [] 0 []).2 : Nat)) ∧ Own P w' d (call m 3 s [] 0 []).1 ∧ Keep P w w' := by
  refine (sync_any s w h (fun k hk => hk.2) (by unfold maxLen; omega) (hm.fitW hn hN) hm.ct).mono ?_
  rintro e w' ⟨rfl, h2, hk⟩
  exact ⟨rfl, Own.of h2 (fun k hk => hk.1) hP, hk.mono fun k _ hk => hk.1⟩
theorem rename_own (s t : List UInt8) (h : Own P w d m) (hP : ∀ k, w.heap.size ≤ k → P k) (hm : Small m n N) (hn : n ≤ 100000) (hN : N ≤ 1000000) (hs : s.length ≤ 1000) (ht : t.length ≤ 1000) :
    Calls Try.prog 21 #[ptrTo d, .string ⟨s.toArray⟩, .string ⟨t.toArray⟩] w fun e w' => e = .returned (.int .i64 ((call m 4 s t 0 []).2 : Nat)) ∧ Own P w' d (call m 4 s t 0 []).1 ∧ Keep P w w' := by
  have hf := hm.fit hn hN
  refine (rename_any s t w h (fun k hk => hk.2) (by unfold maxLen; omega) (by unfold maxLen; omega) hf.wl hf.ll hf.ct).mono ?_
  rintro e w' ⟨rfl, h2, hk⟩
  exact ⟨rfl, Own.of h2 (fun k hk => hk.1) hP, hk.mono fun k _ hk => hk.1⟩
theorem remove_own (s : List UInt8) (h : Own P w d m) (hP : ∀ k, w.heap.size ≤ k → P k) (hm : Small m n N) (hn : n ≤ 100000) (hN : N ≤ 1000000) (hs : s.length ≤ 1000) :
    Calls Try.prog 22 #[ptrTo d, .string ⟨s.toArray⟩] w fun e w' => e = .returned (.int .i64 ((call m 5 s [] 0 []).2 : Nat)) ∧ Own P w' d (call m 5 s [] 0 []).1 ∧ Keep P w w' := by
  have hf := hm.fit hn hN
  refine (remove_any s w h (fun k hk => hk.2) (by unfold maxLen; omega) hf.wl hf.ct).mono ?_
  rintro e w' ⟨rfl, h2, hk⟩
  exact ⟨rfl, Own.of h2 (fun k hk => hk.1) hP, hk.mono fun k _ hk => hk.1⟩
theorem syncnames_own (h : Own P w d m) (hP : ∀ k, w.heap.size ≤ k → P k) (hm : Small m n N) (hn : n ≤ 100000) (hN : N ≤ 1000000) :
    Calls Try.prog 16 #[ptrTo d] w fun e w' => e = .returned (.int .i64 ((call m 6 [] [] 0 []).2 : Nat)) ∧ Own P w' d (call m 6 [] [] 0 []).1 ∧ Keep P w w' := by
  refine (syncnames_any w h (fun k hk => hk.2) (hm.fitW hn hN) hm.ct).mono ?_
  rintro e w' ⟨rfl, h2, hk⟩
  exact ⟨rfl, Own.of h2 (fun k hk => hk.1) hP, hk.mono fun k _ hk => hk.1⟩
theorem write_own {A B : Nat → Prop} {vb : Value} (s body : List UInt8) (i : Int) (h : DR A w d m) (hA : ∀ k, A k → P k ∧ k < w.heap.size) (hP : ∀ k, w.heap.size ≤ k → P k) (hm : Small m n N) (hn : n ≤ 100000) (hN : N ≤ 1000000) (hs : s.length ≤ 1000) (hl : body.length ≤ 1000)
    (hvb : Bts B w vb body) (hBA : ∀ k, B k → ¬ A k) :
    Calls Try.prog 13 #[ptrTo d, .string ⟨s.toArray⟩, .int .i64 i, vb] w fun e w' => e = .returned (.int .i64 ((call m 2 s [] i body).2 : Nat)) ∧ Own P w' d (call m 2 s [] i body).1 ∧ Keep A w w' := by
  refine (write_any s body i w h (fun k hk => (hA k hk).2) (hm.fit hn hN) (by unfold maxLen; omega) hvb hBA (by omega)).mono ?_
  rintro e w' ⟨rfl, h2, hk⟩
  exact ⟨rfl, Own.of h2 (fun k hk => (hA k hk).1) hP, hk⟩
theorem crash_own {A B : Nat → Prop} {v : Value} (keep : List Bool) (h : DR A w d m) (hA : ∀ k, A k → P k ∧ k < w.heap.size) (hP : ∀ k, w.heap.size ≤ k → P k) (hm : Small m n N) (hn : n ≤ 100000) (hN : N ≤ 1000000) (hv : Bls B w v keep) (hB : ∀ k, B k → ¬ A k) :
    Calls Try.prog 19 #[ptrTo d, v] w fun e w' => e = .returned (.tuple #[]) ∧ Own P w' d (Dk.crash m keep) ∧ Keep A w w' := by
  refine (crash_any keep w h (fun k hk => (hA k hk).2) (hm.fitW hn hN) hv hB).mono ?_
  rintro e w' ⟨rfl, h2, hk⟩
  exact ⟨rfl, Own.of h2 (fun k hk => (hA k hk).1) hP, hk⟩
theorem cut_own (steps : Int) (h : Own P w d m) :
    Calls Try.prog 12 #[ptrTo d, .int .i64 steps] w fun e w' => e = .returned (.tuple #[]) ∧ Own P w' d (cutD m steps) ∧ Keep P w w' := by
  refine (cut_any steps w h).mono ?_
  rintro e w' ⟨rfl, h2, hk⟩
  exact ⟨rfl, h2.mono fun k hk ha => ⟨ha.1, hk⟩, hk.mono fun k _ hk => hk.1⟩
theorem read_own (s : List UInt8) (h : Own P w d m) (hm : Small m n N) (hN : N ≤ 1000000) (hs : s.length ≤ 1000) :
    Calls Try.prog 15 #[ptrTo d, .string ⟨s.toArray⟩] w fun e w' => ∃ v', e = .returned (.tuple #[v', .int .i64 (readE m s : Nat)]) ∧ w'.ownsRow w.heap.size 5 1 v' (readB m s).length ((readB m s).map bv) ∧ Keep No w w' :=
  read_any s w h (by unfold maxLen; omega) fun f => by have := hm.is f; omega
theorem used_own (h : Own P w d m) (hm : Small m n N) (hn : n ≤ 100000) (hN : N ≤ 1000000) :
    Calls Try.prog 17 #[ptrTo d] w fun e w' => e = .returned (.int .i64 (used m)) ∧ Keep No w w' := used_any w h (hm.fit hn hN).us
theorem names_own (h : Own P w d m) (hm : Small m n N) (hn : n ≤ 100000) :
    Calls Try.prog 20 #[ptrTo d] w fun e w' => ∃ v, e = .returned v ∧ w'.ownsRow w.heap.size 9 1 v (namesOf m).length ((namesOf m).map encStr) ∧ Keep No w w' :=
  names_any w h (by have := hm.L; omega)
theorem new_own (room : Int) (w : World) (P : Nat → Prop) (hP : ∀ k, w.heap.size ≤ k → P k) :
    Calls Try.prog 10 #[.int .i64 room] w fun e w' => ∃ d, e = .returned (ptrTo d) ∧ Own P w' d (Dk.new room) ∧ Keep No w w' := by
  refine (new_any room w).mono ?_
  rintro e w' ⟨d, rfl, h2, hk⟩
  exact ⟨d, rfl, h2.mono fun k hk ha => ⟨hP k ha.1, hk⟩, hk⟩
end
end Go.Proofs.Ytkmoomgmmhmaeaa
namespace Go.Proofs.Ytkmoomgmmhmaeaa
open Go.RowKit Go.Dm Go.Dm.Dk Go.Maps

def aw1 : M := ⟨100, [[]], [[]], [([97], 0)], [], [⟨2, 0, 0, [], [], [97]⟩], false, 0⟩
def aw2 : M := ⟨100, [[120]], [[]], [([97], 0)], [], [⟨2, 0, 0, [], [], [97]⟩, ⟨1, 0, 0, [120], [], []⟩], false, 0⟩
def aw3 : M := ⟨100, [[120]], [[120]], [([97], 0)], [], [⟨2, 0, 0, [], [], [97]⟩], false, 0⟩
def aw4 : M := ⟨100, [[120]], [[120]], [([97], 0)], [([97], 0)], [], false, 0⟩
theorem aw_1 : call (Dk.new 100) 1 [97] [] 0 [] = (aw1, 0) := by kernel_rfl
theorem aw_2 : call aw1 2 [97] [] 0 [120] = (aw2, 0) := by kernel_rfl
theorem aw_3 : call aw2 3 [97] [] 0 [] = (aw3, 0) := by kernel_rfl
theorem aw_4 : call aw3 6 [] [] 0 [] = (aw4, 0) := by kernel_rfl
theorem aw_5 : Dk.crash aw4 [] = aw4 := by kernel_rfl
theorem aw_w : aw2.wait.length = 2 := rfl
theorem aw_e : readE aw4 [97] = 0 := by kernel_rfl
theorem aw_b : readB aw4 [97] = [120] := by kernel_rfl
theorem aw_u : used aw4 = 1 := by kernel_rfl
theorem aw_n : (namesOf aw4).length = 1 := by unfold namesOf; rw [List.length_mergeSort]; rfl
theorem aw_s1 : Small aw1 1 1 := by have := (Small.new 100 (by omega)).call (b := 1) 1 [97] [] 0 [] (by simp) (by simp) (by simp); rw [aw_1] at this; exact this
theorem aw_s2 : Small aw2 2 2 := by have := aw_s1.call (b := 1) 2 [97] [] 0 [120] (by simp) (by simp) (by simp); rw [aw_2] at this; exact this
theorem aw_s3 : Small aw3 3 3 := by have := aw_s2.call (b := 1) 3 [97] [] 0 [] (by simp) (by simp) (by simp); rw [aw_3] at this; exact this
theorem aw_s4 : Small aw4 4 4 := by have := aw_s3.call (b := 1) 6 [] [] 0 [] (by simp) (by simp) (by simp); rw [aw_4] at this; exact this

theorem under_u8 : Try.prog.underlying 5 = some (.int .u8) := Try.underlying5
/-- string(b) -/
theorem conv_str {A : Nat → Prop} {w : World} {v : Value} {l : List UInt8} (h : Bts A w v l) : (convert 29 9 v).run Try.prog w = .ok (.string ⟨l.toArray⟩) w := by
  obtain ⟨_, a, cap, rfl, hn, _, h0, hr⟩ := h
  cases a with
  | none =>
    obtain rfl := h0 rfl
    obtain rfl : l = [] := List.eq_nil_of_length_eq_zero (by omega)
    exact run_convert_bytes_nil (P := Try.prog) (w := w) 29 5 Try.underlying29 under_u8 0 0 9 Try.underlying9
  | some a =>
    refine run_convert_bytes_back (P := Try.prog) w 29 9 5 a cap l Try.underlying29 under_u8 Try.underlying9 fun j hj => ?_
    obtain ⟨g, off, e2, _, _, hc⟩ := hr (by omega)
    cases e2
    rw [Addr.add_lit]
    exact hc j (bv l[j]) (by simp [hj])
/-- a literal of bytes -/
theorem bts_lit (w : World) (l : List UInt8) (fr : Nat × Nat) (hl : l.length ≤ maxLen) : Bts (fun k => k = w.heap.size) (w.alloc (.cells (l.map bv).toArray 5 fr)) (.slice (some ⟨w.heap.size, 0, none⟩) l.length l.length) l :=
  Sl.mk (by simp) rfl (by simp) (Nat.le_refl _) hl fun j u hu => by
    rw [World.cell?_alloc_mark]; simpa using hu

set_option maxRecDepth 100000 in
set_option maxHeartbeats 1000000 in
theorem awake_any (w : World) : Calls Try.prog 9 #[] w fun e w' => e = .returned (.bool true) ∧ Keep No w w' := by
  go_enter Try.func9, Try.ntmps9
  go_wp2_with (first | (at_builtin; refine wl_append rfl _ _ _ _ rfl _ _ rfl rfl ?_) | (at_make; refine wl_make rfl _ _ _ rfl _ _ rfl rfl ?_) | (at_mapUpdate; refine wl_mapUpdate rfl _ _ _ _ rfl _ _ _ rfl rfl rfl ?_) | (at_lookup; refine wl_lookup rfl _ _ _ _ rfl _ _ rfl rfl ?_) | (at_delete; refine wl_delete rfl _ _ _ _ rfl _ _ rfl rfl ?_) | (with_reducible refine wl_len rfl _ _ rfl _ rfl ?_) | (with_reducible refine wl_range rfl _ _ rfl _ rfl ?_) | (with_reducible refine wl_next rfl _ rfl _ rfl ?_) | (with_reducible refine wl_copy rfl _ _ _ _ rfl _ _ rfl rfl ?_) | (with_reducible refine wl_max rfl _ _ _ _ rfl _ _ rfl rfl ?_) | (with_reducible refine wl_min rfl _ _ _ _ rfl _ _ rfl rfl ?_))
  refine (new_own 100 w (fun k => w.heap.size ≤ k) (fun _ h => h)).mono ?_
  rintro e w1 ⟨d, rfl, h1, k1⟩
  have z1 := k1.size
  have k1' : Keep (fun k => w.heap.size ≤ k) w w1 := k1.mono fun _ _ h => h.elim
  clear k1
  unfold ptrTo
  go_wp2_with (first | (at_builtin; refine wl_append rfl _ _ _ _ rfl _ _ rfl rfl ?_) | (at_make; refine wl_make rfl _ _ _ rfl _ _ rfl rfl ?_) | (at_mapUpdate; refine wl_mapUpdate rfl _ _ _ _ rfl _ _ _ rfl rfl rfl ?_) | (at_lookup; refine wl_lookup rfl _ _ _ _ rfl _ _ rfl rfl ?_) | (at_delete; refine wl_delete rfl _ _ _ _ rfl _ _ rfl rfl ?_) | (with_reducible refine wl_len rfl _ _ rfl _ rfl ?_) | (with_reducible refine wl_range rfl _ _ rfl _ rfl ?_) | (with_reducible refine wl_next rfl _ rfl _ rfl ?_) | (with_reducible refine wl_copy rfl _ _ _ _ rfl _ _ rfl rfl ?_) | (with_reducible refine wl_max rfl _ _ _ _ rfl _ _ rfl rfl ?_) | (with_reducible refine wl_min rfl _ _ _ _ rfl _ _ rfl rfl ?_))
  refine (create_own [97] h1 (fun k hk => by omega) (Small.new 100 (by omega)) (by omega) (by omega) (by simp)).mono ?_
  rintro e w2 ⟨rfl, h2, k2⟩
  rw [aw_1] at h2 ⊢
  have k2' := k1'.trans' k2
  have z2 := k2.size
  clear h1 k2 k1'
  have hcv := Lib.run_convert_bytes_const (P := Try.prog) w2 29 5 #[.int .u8 120] 1 1 Try.underlying29 under_u8
  go_wp2_with (first | (at_builtin; refine wl_append rfl _ _ _ _ rfl _ _ rfl rfl ?_) | (at_make; refine wl_make rfl _ _ _ rfl _ _ rfl rfl ?_) | (at_mapUpdate; refine wl_mapUpdate rfl _ _ _ _ rfl _ _ _ rfl rfl rfl ?_) | (at_lookup; refine wl_lookup rfl _ _ _ _ rfl _ _ rfl rfl ?_) | (at_delete; refine wl_delete rfl _ _ _ _ rfl _ _ rfl rfl ?_) | (with_reducible refine wl_len rfl _ _ rfl _ rfl ?_) | (with_reducible refine wl_range rfl _ _ rfl _ rfl ?_) | (with_reducible refine wl_next rfl _ rfl _ rfl ?_) | (with_reducible refine wl_copy rfl _ _ _ _ rfl _ _ rfl rfl ?_) | (with_reducible refine wl_max rfl _ _ _ _ rfl _ _ rfl rfl ?_) | (with_reducible refine wl_min rfl _ _ _ _ rfl _ _ rfl rfl ?_))
  have hbt := bts_lit w2 [120] (1, 2) (by unfold maxLen; simp)
  generalize hW : w2.alloc (Obj.cells #[Value.int IntKind.u8 120] 5 (1, 2)) = W at *
  have hbt' : Bts (fun k => k = w2.heap.size) W (.slice (some ⟨w2.heap.size, 0, none⟩) 1 1) [120] := by
    have e : w2.alloc (Obj.cells (([120] : List UInt8).map bv).toArray 5 (1, 2)) = W := hW
    rw [e] at hbt; exact hbt
  have hkW : Keep No w2 W := by rw [← hW]; exact (Keep.refl _ _).alloc _
  have hWs : W.heap.size = w2.heap.size + 1 := by rw [← hW]; simp
  clear hW hcv hbt
  refine (write_own (P := fun k => w.heap.size ≤ k) [97] [120] 0 (DR.keep h2 (fun k hk => hk.2) hkW fun _ _ h => h) (fun k hk => ⟨hk.1, by have := hk.2; omega⟩) (fun k hk => by omega) aw_s1 (by omega) (by omega) (by simp) (by simp) hbt' (fun k hk ha => by have := ha.2; omega)).mono ?_
  rintro e w3 ⟨rfl, h3, k3⟩
  rw [aw_2] at h3 ⊢
  have k3' : Keep (fun k => w.heap.size ≤ k) w w3 := (k2'.trans' (hkW.mono fun _ _ h => h.elim)).trans k3 fun k _ ha => ha.1
  have z3 := k3.size
  clear h2 k2' k3 hkW hbt'
  go_wp2_with (first | (at_builtin; refine wl_append rfl _ _ _ _ rfl _ _ rfl rfl ?_) | (at_make; refine wl_make rfl _ _ _ rfl _ _ rfl rfl ?_) | (at_mapUpdate; refine wl_mapUpdate rfl _ _ _ _ rfl _ _ _ rfl rfl rfl ?_) | (at_lookup; refine wl_lookup rfl _ _ _ _ rfl _ _ rfl rfl ?_) | (at_delete; refine wl_delete rfl _ _ _ _ rfl _ _ rfl rfl ?_) | (with_reducible refine wl_len rfl _ _ rfl _ rfl ?_) | (with_reducible refine wl_range rfl _ _ rfl _ rfl ?_) | (with_reducible refine wl_next rfl _ rfl _ rfl ?_) | (with_reducible refine wl_copy rfl _ _ _ _ rfl _ _ rfl rfl ?_) | (with_reducible refine wl_max rfl _ _ _ _ rfl _ _ rfl rfl ?_) | (with_reducible refine wl_min rfl _ _ _ _ rfl _ _ rfl rfl ?_))
  refine (pending_any _ h3).mono ?_
  rintro e w4 ⟨rfl, rfl⟩
  rw [aw_w]
  go_wp2_with (first | (at_builtin; refine wl_append rfl _ _ _ _ rfl _ _ rfl rfl ?_) | (at_make; refine wl_make rfl _ _ _ rfl _ _ rfl rfl ?_) | (at_mapUpdate; refine wl_mapUpdate rfl _ _ _ _ rfl _ _ _ rfl rfl rfl ?_) | (at_lookup; refine wl_lookup rfl _ _ _ _ rfl _ _ rfl rfl ?_) | (at_delete; refine wl_delete rfl _ _ _ _ rfl _ _ rfl rfl ?_) | (with_reducible refine wl_len rfl _ _ rfl _ rfl ?_) | (with_reducible refine wl_range rfl _ _ rfl _ rfl ?_) | (with_reducible refine wl_next rfl _ rfl _ rfl ?_) | (with_reducible refine wl_copy rfl _ _ _ _ rfl _ _ rfl rfl ?_) | (with_reducible refine wl_max rfl _ _ _ _ rfl _ _ rfl rfl ?_) | (with_reducible refine wl_min rfl _ _ _ _ rfl _ _ rfl rfl ?_))
  refine (sync_own [97] h3 (fun k hk => by omega) aw_s2 (by omega) (by omega) (by simp)).mono ?_
  rintro e w4 ⟨rfl, h4, k4⟩
  rw [aw_3] at h4 ⊢
  have k4' := k3'.trans' k4
  have z4 := k4.size
  clear h3 k3' k4
  go_wp2_with (first | (at_builtin; refine wl_append rfl _ _ _ _ rfl _ _ rfl rfl ?_) | (at_make; refine wl_make rfl _ _ _ rfl _ _ rfl rfl ?_) | (at_mapUpdate; refine wl_mapUpdate rfl _ _ _ _ rfl _ _ _ rfl rfl rfl ?_) | (at_lookup; refine wl_lookup rfl _ _ _ _ rfl _ _ rfl rfl ?_) | (at_delete; refine wl_delete rfl _ _ _ _ rfl _ _ rfl rfl ?_) | (with_reducible refine wl_len rfl _ _ rfl _ rfl ?_) | (with_reducible refine wl_range rfl _ _ rfl _ rfl ?_) | (with_reducible refine wl_next rfl _ rfl _ rfl ?_) | (with_reducible refine wl_copy rfl _ _ _ _ rfl _ _ rfl rfl ?_) | (with_reducible refine wl_max rfl _ _ _ _ rfl _ _ rfl rfl ?_) | (with_reducible refine wl_min rfl _ _ _ _ rfl _ _ rfl rfl ?_))
  refine (syncnames_own h4 (fun k hk => by omega) aw_s3 (by omega) (by omega)).mono ?_
  rintro e w5 ⟨rfl, h5, k5⟩
  rw [aw_4] at h5 ⊢
  have k5' := k4'.trans' k5
  have z5 := k5.size
  clear h4 k4' k5
  go_wp2_with (first | (at_builtin; refine wl_append rfl _ _ _ _ rfl _ _ rfl rfl ?_) | (at_make; refine wl_make rfl _ _ _ rfl _ _ rfl rfl ?_) | (at_mapUpdate; refine wl_mapUpdate rfl _ _ _ _ rfl _ _ _ rfl rfl rfl ?_) | (at_lookup; refine wl_lookup rfl _ _ _ _ rfl _ _ rfl rfl ?_) | (at_delete; refine wl_delete rfl _ _ _ _ rfl _ _ rfl rfl ?_) | (with_reducible refine wl_len rfl _ _ rfl _ rfl ?_) | (with_reducible refine wl_range rfl _ _ rfl _ rfl ?_) | (with_reducible refine wl_next rfl _ rfl _ rfl ?_) | (with_reducible refine wl_copy rfl _ _ _ _ rfl _ _ rfl rfl ?_) | (with_reducible refine wl_max rfl _ _ _ _ rfl _ _ rfl rfl ?_) | (with_reducible refine wl_min rfl _ _ _ _ rfl _ _ rfl rfl ?_))
  refine (crash_own (B := No) [] h5 (fun k hk => hk) (fun k hk => by omega) aw_s4 (by omega) (by omega) (Sl.nil _ _ _) (fun _ h => h.elim)).mono ?_
  rintro e w6 ⟨rfl, h6, k6⟩
  rw [aw_5] at h6
  have k6' : Keep (fun k => w.heap.size ≤ k) w w6 := k5'.trans k6 fun k _ ha => ha.1
  have z6 := k6.size
  clear h5 k5' k6
  go_wp2_with (first | (at_builtin; refine wl_append rfl _ _ _ _ rfl _ _ rfl rfl ?_) | (at_make; refine wl_make rfl _ _ _ rfl _ _ rfl rfl ?_) | (at_mapUpdate; refine wl_mapUpdate rfl _ _ _ _ rfl _ _ _ rfl rfl rfl ?_) | (at_lookup; refine wl_lookup rfl _ _ _ _ rfl _ _ rfl rfl ?_) | (at_delete; refine wl_delete rfl _ _ _ _ rfl _ _ rfl rfl ?_) | (with_reducible refine wl_len rfl _ _ rfl _ rfl ?_) | (with_reducible refine wl_range rfl _ _ rfl _ rfl ?_) | (with_reducible refine wl_next rfl _ rfl _ rfl ?_) | (with_reducible refine wl_copy rfl _ _ _ _ rfl _ _ rfl rfl ?_) | (with_reducible refine wl_max rfl _ _ _ _ rfl _ _ rfl rfl ?_) | (with_reducible refine wl_min rfl _ _ _ _ rfl _ _ rfl rfl ?_))
  refine (read_own [97] h6 aw_s4 (by omega) (by simp)).mono ?_
  rintro e w7 ⟨v, rfl, hv, k7⟩
  rw [aw_e]
  rw [aw_b] at hv
  have h7 := h6.keep k7 fun _ _ h => h
  have k7' := k6'.trans' (k7.mono fun _ _ h => h.elim)
  obtain ⟨av, cv, rfl, _, _⟩ := (Sl.of_own hv).shape
  have hcv : (convert 29 9 (.slice av 1 cv)).run Try.prog w7 = .ok (.string ⟨#[120]⟩) w7 := conv_str (Sl.of_own hv)
  clear h6 k6' k7 hv
  go_wp2_with (first | (at_builtin; refine wl_append rfl _ _ _ _ rfl _ _ rfl rfl ?_) | (at_make; refine wl_make rfl _ _ _ rfl _ _ rfl rfl ?_) | (at_mapUpdate; refine wl_mapUpdate rfl _ _ _ _ rfl _ _ _ rfl rfl rfl ?_) | (at_lookup; refine wl_lookup rfl _ _ _ _ rfl _ _ rfl rfl ?_) | (at_delete; refine wl_delete rfl _ _ _ _ rfl _ _ rfl rfl ?_) | (with_reducible refine wl_len rfl _ _ rfl _ rfl ?_) | (with_reducible refine wl_range rfl _ _ rfl _ rfl ?_) | (with_reducible refine wl_next rfl _ rfl _ rfl ?_) | (with_reducible refine wl_copy rfl _ _ _ _ rfl _ _ rfl rfl ?_) | (with_reducible refine wl_max rfl _ _ _ _ rfl _ _ rfl rfl ?_) | (with_reducible refine wl_min rfl _ _ _ _ rfl _ _ rfl rfl ?_))
  refine (used_own h7 aw_s4 (by omega) (by omega)).mono ?_
  rintro e w8 ⟨rfl, k8⟩
  rw [aw_u]
  have h8 := h7.keep k8 fun _ _ h => h
  have k8' := k7'.trans' (k8.mono fun _ _ h => h.elim)
  clear h7 k7' k8 hcv
  go_wp2_with (first | (at_builtin; refine wl_append rfl _ _ _ _ rfl _ _ rfl rfl ?_) | (at_make; refine wl_make rfl _ _ _ rfl _ _ rfl rfl ?_) | (at_mapUpdate; refine wl_mapUpdate rfl _ _ _ _ rfl _ _ _ rfl rfl rfl ?_) | (at_lookup; refine wl_lookup rfl _ _ _ _ rfl _ _ rfl rfl ?_) | (at_delete; refine wl_delete rfl _ _ _ _ rfl _ _ rfl rfl ?_) | (with_reducible refine wl_len rfl _ _ rfl _ rfl ?_) | (with_reducible refine wl_range rfl _ _ rfl _ rfl ?_) | (with_reducible refine wl_next rfl _ rfl _ rfl ?_) | (with_reducible refine wl_copy rfl _ _ _ _ rfl _ _ rfl rfl ?_) | (with_reducible refine wl_max rfl _ _ _ _ rfl _ _ rfl rfl ?_) | (with_reducible refine wl_min rfl _ _ _ _ rfl _ _ rfl rfl ?_))
  refine (names_own h8 aw_s4 (by omega)).mono ?_
  rintro e w9 ⟨v, rfl, hv, k9⟩
  have k9' := k8'.trans' (k9.mono fun _ _ h => h.elim)
  obtain ⟨av2, cv2, rfl, _, _⟩ := (Sl.of_own hv).shape
  rw [aw_n]
  clear h8 k8' k9 hv
  go_wp2_with (first | (at_builtin; refine wl_append rfl _ _ _ _ rfl _ _ rfl rfl ?_) | (at_make; refine wl_make rfl _ _ _ rfl _ _ rfl rfl ?_) | (at_mapUpdate; refine wl_mapUpdate rfl _ _ _ _ rfl _ _ _ rfl rfl rfl ?_) | (at_lookup; refine wl_lookup rfl _ _ _ _ rfl _ _ rfl rfl ?_) | (at_delete; refine wl_delete rfl _ _ _ _ rfl _ _ rfl rfl ?_) | (with_reducible refine wl_len rfl _ _ rfl _ rfl ?_) | (with_reducible refine wl_range rfl _ _ rfl _ rfl ?_) | (with_reducible refine wl_next rfl _ rfl _ rfl ?_) | (with_reducible refine wl_copy rfl _ _ _ _ rfl _ _ rfl rfl ?_) | (with_reducible refine wl_max rfl _ _ _ _ rfl _ _ rfl rfl ?_) | (with_reducible refine wl_min rfl _ _ _ _ rfl _ _ rfl rfl ?_))
  go_ret
  exact ⟨rfl, k9'.os, k9'.tape, k9'.output, k9'.size, fun k hk _ => k9'.block k hk (by omega)⟩
end Go.Proofs.Ytkmoomgmmhmaeaa
