/- The reference of the disk: Names. The disk's contracts for a caller that owns all its memory. What a disk in memory says of its model; how many files a model has. Files put in place: steps of a disk, as lists: no program. A step of files, done by the reference; files stay files. awake: the document's example on the disk. No condition. -/
import Derived.Test.YtkmoomgmmhmaeaaGreatRefNmM
import Derived.Laws.Cover1
import Derived.Sort.Walk0
import Derived.Test.YtkmoomgmmhmaeaaGreatLawRoomM
import Derived.Test.YtkmoomgmmhmaeaaGreatRef3
import Derived.Lib.SmallJoins
import Derived.Lib.SlBytesConst
import Derived.Laws.BytesArg
namespace Go.Proofs.YtkmoomgmmhmaeaaGreat
open Go.RowKit Go.Dm Go.Dm.Dk

theorem encStr_eq (l : List (List UInt8)) : l.map encStr = l.flatMap encS := by rw [encS_map]
set_option maxRecDepth 100000 in
set_option maxHeartbeats 8000000 in
theorem rnm_any {A : Nat → Prop} {w : World} {v1 v2 v3 v4 v5 : Value} {m : M} (h : DV A w v1 v2 v3 v4 v5 m) (hn : m.L.length ≤ 100000) (hap : m.L.Pairwise (fun p q => p.1 ≠ q.1)) :
    Calls Tryz.prog 29 #[dv m v1 v2 v3 v4 v5] w fun e w' => ∃ v, e = .returned v ∧ Fl (fun j => w.heap.size ≤ j ∧ j < w'.heap.size) w' 1 encS v (namesOf m) ∧ Keep No w w' := by
  have hnd : (m.L.map (·.1)).Nodup := by
    unfold List.Nodup
    rw [List.pairwise_map]
    exact hap
  have hst0 := sorted_strict hnd
  have hpm : (namesOf m).Perm (m.L.map (·.1)) := List.mergeSort_perm _ _
  have hlen : (namesOf m).length = m.L.length := by rw [hpm.length_eq, List.length_map]
  have hst : (namesOf m).Pairwise (· < ·) := hst0
  clear hst0
  generalize namesOf m = S at *
  obtain ⟨a1, d1, a2, d2, a3, d3, a4, d4, a5, d5, rfl, rfl, rfl, rfl, rfl⟩ := h.shape
  have hkW : Keep No w (w.alloc (.cells #[.int .i64 m.room, .slice a1 m.is.length d1, .slice a2 m.sure.length d2, .slice a3 m.L.length d3, .slice a4 m.S.length d4, .slice a5 m.wait.length d5, .bool m.off, .int .i64 m.cut] 30)) := (Keep.refl _ _).alloc _
  have hBW : Blk (w.alloc (.cells #[.int .i64 m.room, .slice a1 m.is.length d1, .slice a2 m.sure.length d2, .slice a3 m.L.length d3, .slice a4 m.S.length d4, .slice a5 m.wait.length d5, .bool m.off, .int .i64 m.cut] 30)) w.heap.size #[.int .i64 m.room, .slice a1 m.is.length d1, .slice a2 m.sure.length d2, .slice a3 m.L.length d3, .slice a4 m.S.length d4, .slice a5 m.wait.length d5, .bool m.off, .int .i64 m.cut] 30 := Blk.new _ _ _
  have h' := h.no hkW
  unfold dv
  go_enter Tryz.func29, Tryz.ntmps29
  go_wp2_with (first | (at_builtin; refine wl_append rfl _ _ _ _ rfl _ _ rfl rfl ?_) | (at_make; refine wl_make rfl _ _ _ rfl _ _ rfl rfl ?_) | (at_mapUpdate; refine wl_mapUpdate rfl _ _ _ _ rfl _ _ _ rfl rfl rfl ?_) | (at_lookup; refine wl_lookup rfl _ _ _ _ rfl _ _ rfl rfl ?_) | (at_delete; refine wl_delete rfl _ _ _ _ rfl _ _ rfl rfl ?_) | (with_reducible refine wl_len rfl _ _ rfl _ rfl ?_) | (with_reducible refine wl_range rfl _ _ rfl _ rfl ?_) | (with_reducible refine wl_next rfl _ rfl _ rfl ?_) | (with_reducible refine wl_copy rfl _ _ _ _ rfl _ _ rfl rfl ?_) | (with_reducible refine wl_max rfl _ _ _ _ rfl _ _ rfl rfl ?_) | (with_reducible refine wl_min rfl _ _ _ _ rfl _ _ rfl rfl ?_))
  generalize w.alloc (.cells #[.int .i64 m.room, .slice a1 m.is.length d1, .slice a2 m.sure.length d2, .slice a3 m.L.length d3, .slice a4 m.S.length d4, .slice a5 m.wait.length d5, .bool m.off, .int .i64 m.cut] 30) = W at *
  have hWs := hkW.size
  have HPM := Lib.hid hpm
  have HST := Lib.hid hst
  have HLEN := Lib.hid hlen
  clear hpm hst hlen hnd hap
  go_loopw [3] (fun ov wr => ∃ j : Nat, j ≤ m.L.length ∧ FlO wr W.heap.size 9 1 encS ov (S.take j) ∧ Keep No W wr) (fun ov _ => m.L.length - (match ov with | .slice _ l _ => l | _ => 0))
  case atStart => exact ⟨0, Nat.zero_le _, FlO.nil, Keep.refl _ _⟩
  case round =>
    obtain ⟨j, hj, ho, hK⟩ := hrel
    have c1 := (hBW.keep hK fun h => h).cell
    obtain ⟨ao, dO, eo, _, _⟩ := ho.fl.shape
    have hSl := HLEN.out
    rw [List.length_take, Nat.min_eq_left (by omega)] at eo
    clear hSl
    subst eo
    rcases Nat.lt_or_ge j m.L.length with hjl | hjl
    · have hpos : j = 0 ∨ ∃ r, j = r + 1 := by cases j with | zero => exact .inl rfl | succ r => exact .inr ⟨r, rfl⟩
      have hcl : (j : Int) < (m.L.length : Int) := by omega
      go_wp2_with (first | (at_builtin; refine wl_append rfl _ _ _ _ rfl _ _ rfl rfl ?_) | (at_make; refine wl_make rfl _ _ _ rfl _ _ rfl rfl ?_) | (at_mapUpdate; refine wl_mapUpdate rfl _ _ _ _ rfl _ _ _ rfl rfl rfl ?_) | (at_lookup; refine wl_lookup rfl _ _ _ _ rfl _ _ rfl rfl ?_) | (at_delete; refine wl_delete rfl _ _ _ _ rfl _ _ rfl rfl ?_) | (with_reducible refine wl_len rfl _ _ rfl _ rfl ?_) | (with_reducible refine wl_range rfl _ _ rfl _ rfl ?_) | (with_reducible refine wl_next rfl _ rfl _ rfl ?_) | (with_reducible refine wl_copy rfl _ _ _ _ rfl _ _ rfl rfl ?_) | (with_reducible refine wl_max rfl _ _ _ _ rfl _ _ rfl rfl ?_) | (with_reducible refine wl_min rfl _ _ _ _ rfl _ _ rfl rfl ?_))
      have hD1 := h'.no hK
      rcases hpos with rfl | ⟨r, rfl⟩
      · go_loopw [4, 5] (fun av iv wi => ∃ (k : Nat) (at_ : Int), iv = .int .i64 k ∧ k ≤ m.L.length ∧ av = .int .i64 at_ ∧ Least m.L S 0 k at_ ∧ -1 ≤ at_ ∧ at_ ≤ k ∧ Keep No wr wi) (fun _ iv _ => m.L.length - (intOf iv).toNat)
        case atStart => exact ⟨0, -1, rfl, Nat.zero_le _, rfl, least_zero _ _ _, by omega, by omega, Keep.refl _ _⟩
        case round =>
          obtain ⟨k, at_, rfl, hk, rfl, hle, hlo, hhi, hKi⟩ := hrel
          have c1 := (hBW.keep (hK.trans' hKi) fun h => h).cell
          have hD2 := hD1.no hKi
          rcases Nat.lt_or_ge k m.L.length with hkl | hkl
          · obtain ⟨g, off, cap, e, _, hg, _, _, hcell⟩ := hD2.L.at (fun _ => rfl) hkl
            cases e
            have q0 : wr.cell? ⟨g, off + k * 2, none⟩ = _ := hcell 0 _ rfl
            clear hcell
            rcases hle with ⟨e1, e2⟩ | ⟨a, e1, e2, e3, e4, e5⟩
            · subst e1
              have hle : Least m.L S _ k (-1) := .inl ⟨rfl, e2⟩
              generalize hx : m.L[k].1 = x at *
              go_wp2_with (first | (at_builtin; refine wl_append rfl _ _ _ _ rfl _ _ rfl rfl ?_) | (at_make; refine wl_make rfl _ _ _ rfl _ _ rfl rfl ?_) | (at_mapUpdate; refine wl_mapUpdate rfl _ _ _ _ rfl _ _ _ rfl rfl rfl ?_) | (at_lookup; refine wl_lookup rfl _ _ _ _ rfl _ _ rfl rfl ?_) | (at_delete; refine wl_delete rfl _ _ _ _ rfl _ _ rfl rfl ?_) | (with_reducible refine wl_len rfl _ _ rfl _ rfl ?_) | (with_reducible refine wl_range rfl _ _ rfl _ rfl ?_) | (with_reducible refine wl_next rfl _ rfl _ rfl ?_) | (with_reducible refine wl_copy rfl _ _ _ _ rfl _ _ rfl rfl ?_) | (with_reducible refine wl_max rfl _ _ _ _ rfl _ _ rfl rfl ?_) | (with_reducible refine wl_min rfl _ _ _ _ rfl _ _ rfl rfl ?_))
              go_quiet (fail)
              go_wp2_with (first | (at_builtin; refine wl_append rfl _ _ _ _ rfl _ _ rfl rfl ?_) | (at_make; refine wl_make rfl _ _ _ rfl _ _ rfl rfl ?_) | (at_mapUpdate; refine wl_mapUpdate rfl _ _ _ _ rfl _ _ _ rfl rfl rfl ?_) | (at_lookup; refine wl_lookup rfl _ _ _ _ rfl _ _ rfl rfl ?_) | (at_delete; refine wl_delete rfl _ _ _ _ rfl _ _ rfl rfl ?_) | (with_reducible refine wl_len rfl _ _ rfl _ rfl ?_) | (with_reducible refine wl_range rfl _ _ rfl _ rfl ?_) | (with_reducible refine wl_next rfl _ rfl _ rfl ?_) | (with_reducible refine wl_copy rfl _ _ _ _ rfl _ _ rfl rfl ?_) | (with_reducible refine wl_max rfl _ _ _ _ rfl _ _ rfl rfl ?_) | (with_reducible refine wl_min rfl _ _ _ _ rfl _ _ rfl rfl ?_))
              go_roundw
              case rel => exact ⟨k + 1, (k : Int), by go_num, by omega, rfl, least_take hkl hle (by rw [hx]; exact (cand_zero S _)) (.inl rfl), by omega, by omega, hKi.drewN _⟩
              case measure => simp [intOf]; omega
            · subst e1
              have hle : Least m.L S _ k (a : Int) := .inr ⟨a, rfl, e2, e3, e4, e5⟩
              obtain ⟨g', off', cap', e', _, hg', _, _, hcellA⟩ := hD2.L.at (fun _ => rfl) e3
              cases e'
              have qa : wr.cell? ⟨g, off + a * 2, none⟩ = _ := hcellA 0 _ rfl
              have ha0 : decide ((a : Int) < 0) = false := by simp
              have hal : (a : Int) < (m.L.length : Int) := by omega
              clear hcellA e2 e4 e5
              rcases Classical.em (m.L[k].1 < m.L[a].1) with hlt | hge
              · have hb : Op.bytesLess m.L[k].1 m.L[a].1 = true := by rw [bytesLess_eq]; simpa using hlt
                have hcc : Cand S _ m.L[k].1 := (cand_zero S _)
                have HLT := Lib.hid hlt
                have HCC := Lib.hid hcc
                clear hlt hcc
                generalize hx : m.L[k].1 = x at *
                generalize hz : m.L[a].1 = z at *
                go_wp2_with (first | (at_builtin; refine wl_append rfl _ _ _ _ rfl _ _ rfl rfl ?_) | (at_make; refine wl_make rfl _ _ _ rfl _ _ rfl rfl ?_) | (at_mapUpdate; refine wl_mapUpdate rfl _ _ _ _ rfl _ _ _ rfl rfl rfl ?_) | (at_lookup; refine wl_lookup rfl _ _ _ _ rfl _ _ rfl rfl ?_) | (at_delete; refine wl_delete rfl _ _ _ _ rfl _ _ rfl rfl ?_) | (with_reducible refine wl_len rfl _ _ rfl _ rfl ?_) | (with_reducible refine wl_range rfl _ _ rfl _ rfl ?_) | (with_reducible refine wl_next rfl _ rfl _ rfl ?_) | (with_reducible refine wl_copy rfl _ _ _ _ rfl _ _ rfl rfl ?_) | (with_reducible refine wl_max rfl _ _ _ _ rfl _ _ rfl rfl ?_) | (with_reducible refine wl_min rfl _ _ _ _ rfl _ _ rfl rfl ?_))
                go_quiet (fail)
                go_wp2_with (first | (at_builtin; refine wl_append rfl _ _ _ _ rfl _ _ rfl rfl ?_) | (at_make; refine wl_make rfl _ _ _ rfl _ _ rfl rfl ?_) | (at_mapUpdate; refine wl_mapUpdate rfl _ _ _ _ rfl _ _ _ rfl rfl rfl ?_) | (at_lookup; refine wl_lookup rfl _ _ _ _ rfl _ _ rfl rfl ?_) | (at_delete; refine wl_delete rfl _ _ _ _ rfl _ _ rfl rfl ?_) | (with_reducible refine wl_len rfl _ _ rfl _ rfl ?_) | (with_reducible refine wl_range rfl _ _ rfl _ rfl ?_) | (with_reducible refine wl_next rfl _ rfl _ rfl ?_) | (with_reducible refine wl_copy rfl _ _ _ _ rfl _ _ rfl rfl ?_) | (with_reducible refine wl_max rfl _ _ _ _ rfl _ _ rfl rfl ?_) | (with_reducible refine wl_min rfl _ _ _ _ rfl _ _ rfl rfl ?_))
                go_roundw
                case rel => exact ⟨k + 1, (k : Int), by go_num, by omega, rfl, least_take hkl hle (by rw [hx]; exact HCC.out) (.inr ⟨a, rfl, e3, by rw [hx, hz]; exact HLT.out⟩), by omega, by omega, hKi.drewN _⟩
                case measure => simp [intOf]; omega
              · have hb : Op.bytesLess m.L[k].1 m.L[a].1 = false := by rw [bytesLess_eq]; simpa using hge
                have hge' : m.L[a].1 ≤ m.L[k].1 := List.not_lt.1 hge
                have HGE := Lib.hid hge'
                clear hge hge'
                generalize hx : m.L[k].1 = x at *
                generalize hz : m.L[a].1 = z at *
                go_wp2_with (first | (at_builtin; refine wl_append rfl _ _ _ _ rfl _ _ rfl rfl ?_) | (at_make; refine wl_make rfl _ _ _ rfl _ _ rfl rfl ?_) | (at_mapUpdate; refine wl_mapUpdate rfl _ _ _ _ rfl _ _ _ rfl rfl rfl ?_) | (at_lookup; refine wl_lookup rfl _ _ _ _ rfl _ _ rfl rfl ?_) | (at_delete; refine wl_delete rfl _ _ _ _ rfl _ _ rfl rfl ?_) | (with_reducible refine wl_len rfl _ _ rfl _ rfl ?_) | (with_reducible refine wl_range rfl _ _ rfl _ rfl ?_) | (with_reducible refine wl_next rfl _ rfl _ rfl ?_) | (with_reducible refine wl_copy rfl _ _ _ _ rfl _ _ rfl rfl ?_) | (with_reducible refine wl_max rfl _ _ _ _ rfl _ _ rfl rfl ?_) | (with_reducible refine wl_min rfl _ _ _ _ rfl _ _ rfl rfl ?_))
                go_quiet (fail)
                go_wp2_with (first | (at_builtin; refine wl_append rfl _ _ _ _ rfl _ _ rfl rfl ?_) | (at_make; refine wl_make rfl _ _ _ rfl _ _ rfl rfl ?_) | (at_mapUpdate; refine wl_mapUpdate rfl _ _ _ _ rfl _ _ _ rfl rfl rfl ?_) | (at_lookup; refine wl_lookup rfl _ _ _ _ rfl _ _ rfl rfl ?_) | (at_delete; refine wl_delete rfl _ _ _ _ rfl _ _ rfl rfl ?_) | (with_reducible refine wl_len rfl _ _ rfl _ rfl ?_) | (with_reducible refine wl_range rfl _ _ rfl _ rfl ?_) | (with_reducible refine wl_next rfl _ rfl _ rfl ?_) | (with_reducible refine wl_copy rfl _ _ _ _ rfl _ _ rfl rfl ?_) | (with_reducible refine wl_max rfl _ _ _ _ rfl _ _ rfl rfl ?_) | (with_reducible refine wl_min rfl _ _ _ _ rfl _ _ rfl rfl ?_))
                go_roundw
                case rel => exact ⟨k + 1, _, by go_num, by omega, rfl, least_skip hkl hle (.inr ⟨a, rfl, e3, by have := HGE.out; rw [hx, hz]; exact this⟩), by omega, by omega, hKi.drewN _⟩
                case measure => simp [intOf]; omega
          · skip
            obtain rfl : k = m.L.length := by omega
            obtain ⟨a, e1, e2, e3⟩ := least_end HPM.out HST.out (by rw [HLEN.out]; exact hjl) hle
            subst e1
            clear hle
            obtain ⟨g, off, cap, e, _, hg, _, _, hcell⟩ := hD2.L.at (fun _ => rfl) e2
            cases e
            have qa : wr.cell? ⟨g, off + a * 2, none⟩ = _ := hcell 0 _ rfl
            rw [e3] at qa
            have hal : (a : Int) < (m.L.length : Int) := by omega
            clear hcell
            have ho2 := ho.no hKi
            have hKo := hK.trans' hKi
            have hjS := HLEN.out
            go_wp2_with (first | (at_builtin; refine wl_append rfl _ _ _ _ rfl _ _ rfl rfl ?_) | (at_make; refine wl_make rfl _ _ _ rfl _ _ rfl rfl ?_) | (at_mapUpdate; refine wl_mapUpdate rfl _ _ _ _ rfl _ _ _ rfl rfl rfl ?_) | (at_lookup; refine wl_lookup rfl _ _ _ _ rfl _ _ rfl rfl ?_) | (at_delete; refine wl_delete rfl _ _ _ _ rfl _ _ rfl rfl ?_) | (with_reducible refine wl_len rfl _ _ rfl _ rfl ?_) | (with_reducible refine wl_range rfl _ _ rfl _ rfl ?_) | (with_reducible refine wl_next rfl _ rfl _ rfl ?_) | (with_reducible refine wl_copy rfl _ _ _ _ rfl _ _ rfl rfl ?_) | (with_reducible refine wl_max rfl _ _ _ _ rfl _ _ rfl rfl ?_) | (with_reducible refine wl_min rfl _ _ _ _ rfl _ _ rfl rfl ?_))
            refine rg_push _ 16 Tryz.underlying26 info_str rfl (by decide) (enc := encS) (x := S[0]) rfl rfl (s_one _) ho2 (by rw [List.length_take]; omega) (by decide) hKo.size ?_
            intro v' w2 ho3 hk2 _
            obtain ⟨av, cv, rfl, _, _⟩ := ho3.fl.shape
            go_wp2_with (first | (at_builtin; refine wl_append rfl _ _ _ _ rfl _ _ rfl rfl ?_) | (at_make; refine wl_make rfl _ _ _ rfl _ _ rfl rfl ?_) | (at_mapUpdate; refine wl_mapUpdate rfl _ _ _ _ rfl _ _ _ rfl rfl rfl ?_) | (at_lookup; refine wl_lookup rfl _ _ _ _ rfl _ _ rfl rfl ?_) | (at_delete; refine wl_delete rfl _ _ _ _ rfl _ _ rfl rfl ?_) | (with_reducible refine wl_len rfl _ _ rfl _ rfl ?_) | (with_reducible refine wl_range rfl _ _ rfl _ rfl ?_) | (with_reducible refine wl_next rfl _ rfl _ rfl ?_) | (with_reducible refine wl_copy rfl _ _ _ _ rfl _ _ rfl rfl ?_) | (with_reducible refine wl_max rfl _ _ _ _ rfl _ _ rfl rfl ?_) | (with_reducible refine wl_min rfl _ _ _ _ rfl _ _ rfl rfl ?_))
            go_roundw
            case rel => exact ⟨0 + 1, hjl, by rw [List.take_succ_eq_append_getElem (show 0 < S.length by omega)]; exact ho3, hKo.own ho2 hk2⟩
            case measure => simp only [List.length_append, List.length_take, List.length_singleton]; omega
      · have hSl := HLEN.out
        have hrl : r < S.length := by omega
        have hrt : r < (List.take (r + 1) S).length := by rw [List.length_take]; omega
        obtain ⟨go, oo, co, eo, _, hgo, _, _, hcello⟩ := ho.fl.at (fun _ => rfl) hrt
        rw [List.length_take, Nat.min_eq_left (by omega)] at eo
        cases eo
        have qo : wr.cell? ⟨go, oo + r, none⟩ = some (.string ⟨S[r].toArray⟩) := by have := hcello 0 _ rfl; simp only [Nat.mul_one, Nat.add_zero, List.getElem_take] at this; exact this
        have hcr := fun x => cand_last HST.out hrl x
        have HCR := Lib.hid hcr
        have hw : IntKind.i64.wrap (r : Int) = (r : Int) := IntWalk.i64_in _ (by omega)
        have hr0 : ((r : Int) + 1 == 0) = false := by simp; omega
        clear hcello hcr hrt hSl
        generalize S[r] = y at *
        go_loopw [4, 5] (fun av iv wi => ∃ (k : Nat) (at_ : Int), iv = .int .i64 k ∧ k ≤ m.L.length ∧ av = .int .i64 at_ ∧ Least m.L S (r + 1) k at_ ∧ -1 ≤ at_ ∧ at_ ≤ k ∧ Keep No wr wi) (fun _ iv _ => m.L.length - (intOf iv).toNat)
        case atStart => exact ⟨0, -1, rfl, Nat.zero_le _, rfl, least_zero _ _ _, by omega, by omega, Keep.refl _ _⟩
        case round =>
          obtain ⟨k, at_, rfl, hk, rfl, hle, hlo, hhi, hKi⟩ := hrel
          have c1 := (hBW.keep (hK.trans' hKi) fun h => h).cell
          have hD2 := hD1.no hKi
          have qo := (hKi.cell (p := ⟨go, oo + r, none⟩) hgo (fun h => h)).trans qo
          rcases Nat.lt_or_ge k m.L.length with hkl | hkl
          · obtain ⟨g, off, cap, e, _, hg, _, _, hcell⟩ := hD2.L.at (fun _ => rfl) hkl
            cases e
            have q0 : wr.cell? ⟨g, off + k * 2, none⟩ = _ := hcell 0 _ rfl
            clear hcell
            have hord : y < m.L[k].1 ∨ m.L[k].1 < y ∨ m.L[k].1 = y := by
              rcases Classical.em (y < m.L[k].1) with h | h
              · exact .inl h
              · rcases Classical.em (m.L[k].1 = y) with h2 | h2
                · exact .inr (.inr h2)
                · exact .inr (.inl (str_lt.2 ⟨List.not_lt.1 h, h2⟩))
            rcases hord with hgt | hlt | heq
            · have b1 : Op.bytesLess m.L[k].1 y = false := by rw [bytesLess_eq]; simpa using (str_lt.1 hgt).1
              have b2 : (m.L[k].1 == y) = false := by simpa using fun e : m.L[k].1 = y => (str_lt.1 hgt).2 e.symm
              have hcand : Cand S (r + 1) m.L[k].1 := (HCR.out _).2 hgt
              have HCD := Lib.hid hcand
              clear hgt hcand
              rcases hle with ⟨e1, e2⟩ | ⟨a, e1, e2, e3, e4, e5⟩
              · subst e1
                have hle : Least m.L S _ k (-1) := .inl ⟨rfl, e2⟩
                generalize hx : m.L[k].1 = x at *
                go_wp2_with (first | (at_builtin; refine wl_append rfl _ _ _ _ rfl _ _ rfl rfl ?_) | (at_make; refine wl_make rfl _ _ _ rfl _ _ rfl rfl ?_) | (at_mapUpdate; refine wl_mapUpdate rfl _ _ _ _ rfl _ _ _ rfl rfl rfl ?_) | (at_lookup; refine wl_lookup rfl _ _ _ _ rfl _ _ rfl rfl ?_) | (at_delete; refine wl_delete rfl _ _ _ _ rfl _ _ rfl rfl ?_) | (with_reducible refine wl_len rfl _ _ rfl _ rfl ?_) | (with_reducible refine wl_range rfl _ _ rfl _ rfl ?_) | (with_reducible refine wl_next rfl _ rfl _ rfl ?_) | (with_reducible refine wl_copy rfl _ _ _ _ rfl _ _ rfl rfl ?_) | (with_reducible refine wl_max rfl _ _ _ _ rfl _ _ rfl rfl ?_) | (with_reducible refine wl_min rfl _ _ _ _ rfl _ _ rfl rfl ?_))
                go_quiet (fail)
                go_wp2_with (first | (at_builtin; refine wl_append rfl _ _ _ _ rfl _ _ rfl rfl ?_) | (at_make; refine wl_make rfl _ _ _ rfl _ _ rfl rfl ?_) | (at_mapUpdate; refine wl_mapUpdate rfl _ _ _ _ rfl _ _ _ rfl rfl rfl ?_) | (at_lookup; refine wl_lookup rfl _ _ _ _ rfl _ _ rfl rfl ?_) | (at_delete; refine wl_delete rfl _ _ _ _ rfl _ _ rfl rfl ?_) | (with_reducible refine wl_len rfl _ _ rfl _ rfl ?_) | (with_reducible refine wl_range rfl _ _ rfl _ rfl ?_) | (with_reducible refine wl_next rfl _ rfl _ rfl ?_) | (with_reducible refine wl_copy rfl _ _ _ _ rfl _ _ rfl rfl ?_) | (with_reducible refine wl_max rfl _ _ _ _ rfl _ _ rfl rfl ?_) | (with_reducible refine wl_min rfl _ _ _ _ rfl _ _ rfl rfl ?_))
                go_roundw
                case rel => exact ⟨k + 1, (k : Int), by go_num, by omega, rfl, least_take hkl hle (by rw [hx]; exact HCD.out) (.inl rfl), by omega, by omega, hKi.drewN _⟩
                case measure => simp [intOf]; omega
              · subst e1
                have hle : Least m.L S _ k (a : Int) := .inr ⟨a, rfl, e2, e3, e4, e5⟩
                obtain ⟨g', off', cap', e', _, hg', _, _, hcellA⟩ := hD2.L.at (fun _ => rfl) e3
                cases e'
                have qa : wr.cell? ⟨g, off + a * 2, none⟩ = _ := hcellA 0 _ rfl
                have ha0 : decide ((a : Int) < 0) = false := by simp
                have hal : (a : Int) < (m.L.length : Int) := by omega
                clear hcellA e2 e4 e5
                rcases Classical.em (m.L[k].1 < m.L[a].1) with hlt | hge
                · have hb : Op.bytesLess m.L[k].1 m.L[a].1 = true := by rw [bytesLess_eq]; simpa using hlt
                  have hcc : Cand S _ m.L[k].1 := HCD.out
                  have HLT := Lib.hid hlt
                  have HCC := Lib.hid hcc
                  clear hlt hcc
                  generalize hx : m.L[k].1 = x at *
                  generalize hz : m.L[a].1 = z at *
                  go_wp2_with (first | (at_builtin; refine wl_append rfl _ _ _ _ rfl _ _ rfl rfl ?_) | (at_make; refine wl_make rfl _ _ _ rfl _ _ rfl rfl ?_) | (at_mapUpdate; refine wl_mapUpdate rfl _ _ _ _ rfl _ _ _ rfl rfl rfl ?_) | (at_lookup; refine wl_lookup rfl _ _ _ _ rfl _ _ rfl rfl ?_) | (at_delete; refine wl_delete rfl _ _ _ _ rfl _ _ rfl rfl ?_) | (with_reducible refine wl_len rfl _ _ rfl _ rfl ?_) | (with_reducible refine wl_range rfl _ _ rfl _ rfl ?_) | (with_reducible refine wl_next rfl _ rfl _ rfl ?_) | (with_reducible refine wl_copy rfl _ _ _ _ rfl _ _ rfl rfl ?_) | (with_reducible refine wl_max rfl _ _ _ _ rfl _ _ rfl rfl ?_) | (with_reducible refine wl_min rfl _ _ _ _ rfl _ _ rfl rfl ?_))
                  go_quiet (fail)
                  go_wp2_with (first | (at_builtin; refine wl_append rfl _ _ _ _ rfl _ _ rfl rfl ?_) | (at_make; refine wl_make rfl _ _ _ rfl _ _ rfl rfl ?_) | (at_mapUpdate; refine wl_mapUpdate rfl _ _ _ _ rfl _ _ _ rfl rfl rfl ?_) | (at_lookup; refine wl_lookup rfl _ _ _ _ rfl _ _ rfl rfl ?_) | (at_delete; refine wl_delete rfl _ _ _ _ rfl _ _ rfl rfl ?_) | (with_reducible refine wl_len rfl _ _ rfl _ rfl ?_) | (with_reducible refine wl_range rfl _ _ rfl _ rfl ?_) | (with_reducible refine wl_next rfl _ rfl _ rfl ?_) | (with_reducible refine wl_copy rfl _ _ _ _ rfl _ _ rfl rfl ?_) | (with_reducible refine wl_max rfl _ _ _ _ rfl _ _ rfl rfl ?_) | (with_reducible refine wl_min rfl _ _ _ _ rfl _ _ rfl rfl ?_))
                  go_roundw
                  case rel => exact ⟨k + 1, (k : Int), by go_num, by omega, rfl, least_take hkl hle (by rw [hx]; exact HCC.out) (.inr ⟨a, rfl, e3, by rw [hx, hz]; exact HLT.out⟩), by omega, by omega, hKi.drewN _⟩
                  case measure => simp [intOf]; omega
                · have hb : Op.bytesLess m.L[k].1 m.L[a].1 = false := by rw [bytesLess_eq]; simpa using hge
                  have hge' : m.L[a].1 ≤ m.L[k].1 := List.not_lt.1 hge
                  have HGE := Lib.hid hge'
                  clear hge hge'
                  generalize hx : m.L[k].1 = x at *
                  generalize hz : m.L[a].1 = z at *
                  go_wp2_with (first | (at_builtin; refine wl_append rfl _ _ _ _ rfl _ _ rfl rfl ?_) | (at_make; refine wl_make rfl _ _ _ rfl _ _ rfl rfl ?_) | (at_mapUpdate; refine wl_mapUpdate rfl _ _ _ _ rfl _ _ _ rfl rfl rfl ?_) | (at_lookup; refine wl_lookup rfl _ _ _ _ rfl _ _ rfl rfl ?_) | (at_delete; refine wl_delete rfl _ _ _ _ rfl _ _ rfl rfl ?_) | (with_reducible refine wl_len rfl _ _ rfl _ rfl ?_) | (with_reducible refine wl_range rfl _ _ rfl _ rfl ?_) | (with_reducible refine wl_next rfl _ rfl _ rfl ?_) | (with_reducible refine wl_copy rfl _ _ _ _ rfl _ _ rfl rfl ?_) | (with_reducible refine wl_max rfl _ _ _ _ rfl _ _ rfl rfl ?_) | (with_reducible refine wl_min rfl _ _ _ _ rfl _ _ rfl rfl ?_))
                  go_quiet (fail)
                  go_wp2_with (first | (at_builtin; refine wl_append rfl _ _ _ _ rfl _ _ rfl rfl ?_) | (at_make; refine wl_make rfl _ _ _ rfl _ _ rfl rfl ?_) | (at_mapUpdate; refine wl_mapUpdate rfl _ _ _ _ rfl _ _ _ rfl rfl rfl ?_) | (at_lookup; refine wl_lookup rfl _ _ _ _ rfl _ _ rfl rfl ?_) | (at_delete; refine wl_delete rfl _ _ _ _ rfl _ _ rfl rfl ?_) | (with_reducible refine wl_len rfl _ _ rfl _ rfl ?_) | (with_reducible refine wl_range rfl _ _ rfl _ rfl ?_) | (with_reducible refine wl_next rfl _ rfl _ rfl ?_) | (with_reducible refine wl_copy rfl _ _ _ _ rfl _ _ rfl rfl ?_) | (with_reducible refine wl_max rfl _ _ _ _ rfl _ _ rfl rfl ?_) | (with_reducible refine wl_min rfl _ _ _ _ rfl _ _ rfl rfl ?_))
                  go_roundw
                  case rel => exact ⟨k + 1, _, by go_num, by omega, rfl, least_skip hkl hle (.inr ⟨a, rfl, e3, by have := HGE.out; rw [hx, hz]; exact this⟩), by omega, by omega, hKi.drewN _⟩
                  case measure => simp [intOf]; omega
            · have b1 : Op.bytesLess m.L[k].1 y = true := by rw [bytesLess_eq]; simpa using hlt
              have hno : ¬ Cand S (r + 1) m.L[k].1 := fun h => absurd (str_lt.1 ((HCR.out _).1 h)).1 (fun h2 => (str_lt.1 hlt).2 (str_antisymm (str_lt.1 hlt).1 h2))
              have HNO := Lib.hid hno
              clear hlt hno
              generalize hx : m.L[k].1 = x at *
              go_wp2_with (first | (at_builtin; refine wl_append rfl _ _ _ _ rfl _ _ rfl rfl ?_) | (at_make; refine wl_make rfl _ _ _ rfl _ _ rfl rfl ?_) | (at_mapUpdate; refine wl_mapUpdate rfl _ _ _ _ rfl _ _ _ rfl rfl rfl ?_) | (at_lookup; refine wl_lookup rfl _ _ _ _ rfl _ _ rfl rfl ?_) | (at_delete; refine wl_delete rfl _ _ _ _ rfl _ _ rfl rfl ?_) | (with_reducible refine wl_len rfl _ _ rfl _ rfl ?_) | (with_reducible refine wl_range rfl _ _ rfl _ rfl ?_) | (with_reducible refine wl_next rfl _ rfl _ rfl ?_) | (with_reducible refine wl_copy rfl _ _ _ _ rfl _ _ rfl rfl ?_) | (with_reducible refine wl_max rfl _ _ _ _ rfl _ _ rfl rfl ?_) | (with_reducible refine wl_min rfl _ _ _ _ rfl _ _ rfl rfl ?_))
              go_quiet (fail)
              go_wp2_with (first | (at_builtin; refine wl_append rfl _ _ _ _ rfl _ _ rfl rfl ?_) | (at_make; refine wl_make rfl _ _ _ rfl _ _ rfl rfl ?_) | (at_mapUpdate; refine wl_mapUpdate rfl _ _ _ _ rfl _ _ _ rfl rfl rfl ?_) | (at_lookup; refine wl_lookup rfl _ _ _ _ rfl _ _ rfl rfl ?_) | (at_delete; refine wl_delete rfl _ _ _ _ rfl _ _ rfl rfl ?_) | (with_reducible refine wl_len rfl _ _ rfl _ rfl ?_) | (with_reducible refine wl_range rfl _ _ rfl _ rfl ?_) | (with_reducible refine wl_next rfl _ rfl _ rfl ?_) | (with_reducible refine wl_copy rfl _ _ _ _ rfl _ _ rfl rfl ?_) | (with_reducible refine wl_max rfl _ _ _ _ rfl _ _ rfl rfl ?_) | (with_reducible refine wl_min rfl _ _ _ _ rfl _ _ rfl rfl ?_))
              go_roundw
              case rel => exact ⟨k + 1, _, by go_num, by omega, rfl, least_skip hkl hle (.inl (by rw [hx]; exact HNO.out)), by omega, by omega, hKi.drewN _⟩
              case measure => simp [intOf]; omega
            · have hno : ¬ Cand S (r + 1) m.L[k].1 := fun h => (str_lt.1 ((HCR.out _).1 h)).2 heq.symm
              have b1 : Op.bytesLess y y = false := by rw [bytesLess_eq]; simp [List.lt_irrefl]
              have HNO := Lib.hid hno
              clear hno
              rw [heq] at q0
              go_wp2_with (first | (at_builtin; refine wl_append rfl _ _ _ _ rfl _ _ rfl rfl ?_) | (at_make; refine wl_make rfl _ _ _ rfl _ _ rfl rfl ?_) | (at_mapUpdate; refine wl_mapUpdate rfl _ _ _ _ rfl _ _ _ rfl rfl rfl ?_) | (at_lookup; refine wl_lookup rfl _ _ _ _ rfl _ _ rfl rfl ?_) | (at_delete; refine wl_delete rfl _ _ _ _ rfl _ _ rfl rfl ?_) | (with_reducible refine wl_len rfl _ _ rfl _ rfl ?_) | (with_reducible refine wl_range rfl _ _ rfl _ rfl ?_) | (with_reducible refine wl_next rfl _ rfl _ rfl ?_) | (with_reducible refine wl_copy rfl _ _ _ _ rfl _ _ rfl rfl ?_) | (with_reducible refine wl_max rfl _ _ _ _ rfl _ _ rfl rfl ?_) | (with_reducible refine wl_min rfl _ _ _ _ rfl _ _ rfl rfl ?_))
              go_quiet (fail)
              go_wp2_with (first | (at_builtin; refine wl_append rfl _ _ _ _ rfl _ _ rfl rfl ?_) | (at_make; refine wl_make rfl _ _ _ rfl _ _ rfl rfl ?_) | (at_mapUpdate; refine wl_mapUpdate rfl _ _ _ _ rfl _ _ _ rfl rfl rfl ?_) | (at_lookup; refine wl_lookup rfl _ _ _ _ rfl _ _ rfl rfl ?_) | (at_delete; refine wl_delete rfl _ _ _ _ rfl _ _ rfl rfl ?_) | (with_reducible refine wl_len rfl _ _ rfl _ rfl ?_) | (with_reducible refine wl_range rfl _ _ rfl _ rfl ?_) | (with_reducible refine wl_next rfl _ rfl _ rfl ?_) | (with_reducible refine wl_copy rfl _ _ _ _ rfl _ _ rfl rfl ?_) | (with_reducible refine wl_max rfl _ _ _ _ rfl _ _ rfl rfl ?_) | (with_reducible refine wl_min rfl _ _ _ _ rfl _ _ rfl rfl ?_))
              go_roundw
              case rel => exact ⟨k + 1, _, by go_num, by omega, rfl, least_skip hkl hle (.inl HNO.out), by omega, by omega, hKi.drewN _⟩
              case measure => simp [intOf]; omega
          · skip
            obtain rfl : k = m.L.length := by omega
            obtain ⟨a, e1, e2, e3⟩ := least_end HPM.out HST.out (by rw [HLEN.out]; exact hjl) hle
            subst e1
            clear hle
            obtain ⟨g, off, cap, e, _, hg, _, _, hcell⟩ := hD2.L.at (fun _ => rfl) e2
            cases e
            have qa : wr.cell? ⟨g, off + a * 2, none⟩ = _ := hcell 0 _ rfl
            rw [e3] at qa
            have hal : (a : Int) < (m.L.length : Int) := by omega
            clear hcell
            have ho2 := ho.no hKi
            have hKo := hK.trans' hKi
            have hjS := HLEN.out
            go_wp2_with (first | (at_builtin; refine wl_append rfl _ _ _ _ rfl _ _ rfl rfl ?_) | (at_make; refine wl_make rfl _ _ _ rfl _ _ rfl rfl ?_) | (at_mapUpdate; refine wl_mapUpdate rfl _ _ _ _ rfl _ _ _ rfl rfl rfl ?_) | (at_lookup; refine wl_lookup rfl _ _ _ _ rfl _ _ rfl rfl ?_) | (at_delete; refine wl_delete rfl _ _ _ _ rfl _ _ rfl rfl ?_) | (with_reducible refine wl_len rfl _ _ rfl _ rfl ?_) | (with_reducible refine wl_range rfl _ _ rfl _ rfl ?_) | (with_reducible refine wl_next rfl _ rfl _ rfl ?_) | (with_reducible refine wl_copy rfl _ _ _ _ rfl _ _ rfl rfl ?_) | (with_reducible refine wl_max rfl _ _ _ _ rfl _ _ rfl rfl ?_) | (with_reducible refine wl_min rfl _ _ _ _ rfl _ _ rfl rfl ?_))
            refine rg_push _ 16 Tryz.underlying26 info_str rfl (by decide) (enc := encS) (x := S[(r + 1)]) rfl rfl (s_one _) ho2 (by rw [List.length_take]; omega) (by decide) hKo.size ?_
            intro v' w2 ho3 hk2 _
            obtain ⟨av, cv, rfl, _, _⟩ := ho3.fl.shape
            go_wp2_with (first | (at_builtin; refine wl_append rfl _ _ _ _ rfl _ _ rfl rfl ?_) | (at_make; refine wl_make rfl _ _ _ rfl _ _ rfl rfl ?_) | (at_mapUpdate; refine wl_mapUpdate rfl _ _ _ _ rfl _ _ _ rfl rfl rfl ?_) | (at_lookup; refine wl_lookup rfl _ _ _ _ rfl _ _ rfl rfl ?_) | (at_delete; refine wl_delete rfl _ _ _ _ rfl _ _ rfl rfl ?_) | (with_reducible refine wl_len rfl _ _ rfl _ rfl ?_) | (with_reducible refine wl_range rfl _ _ rfl _ rfl ?_) | (with_reducible refine wl_next rfl _ rfl _ rfl ?_) | (with_reducible refine wl_copy rfl _ _ _ _ rfl _ _ rfl rfl ?_) | (with_reducible refine wl_max rfl _ _ _ _ rfl _ _ rfl rfl ?_) | (with_reducible refine wl_min rfl _ _ _ _ rfl _ _ rfl rfl ?_))
            go_roundw
            case rel => exact ⟨(r + 1) + 1, hjl, by rw [List.take_succ_eq_append_getElem (show (r + 1) < S.length by omega)]; exact ho3, hKo.own ho2 hk2⟩
            case measure => simp only [List.length_append, List.length_take, List.length_singleton]; omega
    · obtain rfl : j = m.L.length := by omega
      go_wp2_with (first | (at_builtin; refine wl_append rfl _ _ _ _ rfl _ _ rfl rfl ?_) | (at_make; refine wl_make rfl _ _ _ rfl _ _ rfl rfl ?_) | (at_mapUpdate; refine wl_mapUpdate rfl _ _ _ _ rfl _ _ _ rfl rfl rfl ?_) | (at_lookup; refine wl_lookup rfl _ _ _ _ rfl _ _ rfl rfl ?_) | (at_delete; refine wl_delete rfl _ _ _ _ rfl _ _ rfl rfl ?_) | (with_reducible refine wl_len rfl _ _ rfl _ rfl ?_) | (with_reducible refine wl_range rfl _ _ rfl _ rfl ?_) | (with_reducible refine wl_next rfl _ rfl _ rfl ?_) | (with_reducible refine wl_copy rfl _ _ _ _ rfl _ _ rfl rfl ?_) | (with_reducible refine wl_max rfl _ _ _ _ rfl _ _ rfl rfl ?_) | (with_reducible refine wl_min rfl _ _ _ _ rfl _ _ rfl rfl ?_))
      go_ret
      refine ⟨_, rfl, ?_, hkW.trans' hK⟩
      rw [← HLEN.out, List.take_length] at ho
      rw [← HLEN.out]
      exact ho.fl.mono fun j _ ha => ⟨by omega, ha.2⟩
end Go.Proofs.YtkmoomgmmhmaeaaGreat
namespace Go.Proofs.YtkmoomgmmhmaeaaGreat
open Go.RowKit Go.Dm Go.Dm.Dk Go.Maps

/-- a disk whose memory lies in P -/
def Own (P : Nat → Prop) (w : World) (d : Nat) (m : M) : Prop := DR (fun k => P k ∧ k < w.heap.size) w d m
theorem Own.of {P : Nat → Prop} {w w' : World} {d : Nat} {m : M} {A : Nat → Prop} (h : DR (Plus A w w') w' d m) (hA : ∀ k, A k → P k) (hP : ∀ k, w.heap.size ≤ k → P k) : Own P w' d m :=
  h.mono fun k hk ha => by
    rcases ha with ha | ha
    · exact ⟨hA k ha, hk⟩
    · exact ⟨hP k ha.1, hk⟩
theorem Own.same {P : Nat → Prop} {w w' : World} {d : Nat} {m : M} (h : Own P w d m) (hs : w.heap.size ≤ w'.heap.size) (e : ∀ k, k < w.heap.size → P k → w'.heap[k]? = w.heap[k]?) : Own P w' d m :=
  (DR.same h hs fun k hk => e k hk.2 hk.1).mono fun _ hk ha => ⟨ha.1, hk⟩
theorem Own.keep {P S : Nat → Prop} {w w' : World} {d : Nat} {m : M} (h : Own P w d m) (hk : Keep S w w') (hS : ∀ k, P k → ¬ S k) : Own P w' d m :=
  h.same hk.size fun k hl hp => hk.block k hl (hS k hp)

section
variable {P : Nat → Prop} {d n N : Nat} {m : M} {w : World}

theorem create_own (s : List UInt8) (h : Own P w d m) (hP : ∀ k, w.heap.size ≤ k → P k) (hm : Small m n N) (hn : n ≤ 100000) (hN : N ≤ 1000000) (hs : s.length ≤ 1000) :
    Calls Tryz.prog 13 #[ptrTo d, .string ⟨s.toArray⟩] w fun e w' => e = .returned (.int .i64 ((call m 1 s [] 0 []).2 : Nat)) ∧ Own P w' d (call m 1 s [] 0 []).1 ∧ Keep P w w' := by
  have hf := hm.fit hn hN
  refine (create_any s w h (fun k hk => hk.2) (by unfold maxLen; omega) hf.wl hf.ll hf.ct).mono ?_
  rintro e w' ⟨rfl, h2, hk⟩
  exact ⟨rfl, Own.of h2 (fun k hk => hk.1) hP, hk.mono fun k _ hk => hk.1⟩
theorem sync_own (s : List UInt8) (h : Own P w d m) (hP : ∀ k, w.heap.size ≤ k → P k) (hm : Small m n N) (hn : n ≤ 100000) (hN : N ≤ 1000000) (hs : s.length ≤ 1000) :
    Calls Tryz.prog 53 #[ptrTo d, .string ⟨s.toArray⟩] w fun e w' => e = .returned (.int .i64 ((call m 3 s [] 0 []).2 : Nat)) ∧ Own P w' d (call m 3 s [] 0 []).1 ∧ Keep P w w' := by
  refine (sync_any s w h (fun k hk => hk.2) (by unfold maxLen; omega) (hm.fitW hn hN) hm.ct).mono ?_
  rintro e w' ⟨rfl, h2, hk⟩
  exact ⟨rfl, Own.of h2 (fun k hk => hk.1) hP, hk.mono fun k _ hk => hk.1⟩
theorem rename_own (s t : List UInt8) (h : Own P w d m) (hP : ∀ k, w.heap.size ≤ k → P k) (hm : Small m n N) (hn : n ≤ 100000) (hN : N ≤ 1000000) (hs : s.length ≤ 1000) (ht : t.length ≤ 1000) :
    Calls Tryz.prog 55 #[ptrTo d, .string ⟨s.toArray⟩, .string ⟨t.toArray⟩] w fun e w' => e = .returned (.int .i64 ((call m 4 s t 0 []).2 : Nat)) ∧ Own P w' d (call m 4 s t 0 []).1 ∧ Keep P w w' := by
  have hf := hm.fit hn hN
  refine (rename_any s t w h (fun k hk => hk.2) (by unfold maxLen; omega) (by unfold maxLen; omega) hf.wl hf.ll hf.ct).mono ?_
  rintro e w' ⟨rfl, h2, hk⟩
  exact ⟨rfl, Own.of h2 (fun k hk => hk.1) hP, hk.mono fun k _ hk => hk.1⟩
theorem remove_own (s : List UInt8) (h : Own P w d m) (hP : ∀ k, w.heap.size ≤ k → P k) (hm : Small m n N) (hn : n ≤ 100000) (hN : N ≤ 1000000) (hs : s.length ≤ 1000) :
    Calls Tryz.prog 26 #[ptrTo d, .string ⟨s.toArray⟩] w fun e w' => e = .returned (.int .i64 ((call m 5 s [] 0 []).2 : Nat)) ∧ Own P w' d (call m 5 s [] 0 []).1 ∧ Keep P w w' := by
  have hf := hm.fit hn hN
  refine (remove_any s w h (fun k hk => hk.2) (by unfold maxLen; omega) hf.wl hf.ct).mono ?_
  rintro e w' ⟨rfl, h2, hk⟩
  exact ⟨rfl, Own.of h2 (fun k hk => hk.1) hP, hk.mono fun k _ hk => hk.1⟩
theorem syncnames_own (h : Own P w d m) (hP : ∀ k, w.heap.size ≤ k → P k) (hm : Small m n N) (hn : n ≤ 100000) (hN : N ≤ 1000000) :
    Calls Tryz.prog 28 #[ptrTo d] w fun e w' => e = .returned (.int .i64 ((call m 6 [] [] 0 []).2 : Nat)) ∧ Own P w' d (call m 6 [] [] 0 []).1 ∧ Keep P w w' := by
  refine (syncnames_any w h (fun k hk => hk.2) (hm.fitW hn hN) hm.ct).mono ?_
  rintro e w' ⟨rfl, h2, hk⟩
  exact ⟨rfl, Own.of h2 (fun k hk => hk.1) hP, hk.mono fun k _ hk => hk.1⟩
theorem write_own {A B : Nat → Prop} {vb : Value} (s body : List UInt8) (i : Int) (h : DR A w d m) (hA : ∀ k, A k → P k ∧ k < w.heap.size) (hP : ∀ k, w.heap.size ≤ k → P k) (hm : Small m n N) (hn : n ≤ 100000) (hN : N ≤ 1000000) (hs : s.length ≤ 1000) (hl : body.length ≤ 1000)
    (hvb : Bts B w vb body) (hBA : ∀ k, B k → ¬ A k) :
    Calls Tryz.prog 51 #[ptrTo d, .string ⟨s.toArray⟩, .int .i64 i, vb] w fun e w' => e = .returned (.int .i64 ((call m 2 s [] i body).2 : Nat)) ∧ Own P w' d (call m 2 s [] i body).1 ∧ Keep A w w' := by
  refine (write_any s body i w h (fun k hk => (hA k hk).2) (hm.fit hn hN) (by unfold maxLen; omega) hvb hBA (by omega)).mono ?_
  rintro e w' ⟨rfl, h2, hk⟩
  exact ⟨rfl, Own.of h2 (fun k hk => (hA k hk).1) hP, hk⟩
theorem crash_own {A B : Nat → Prop} {v : Value} (keep : List Bool) (h : DR A w d m) (hA : ∀ k, A k → P k ∧ k < w.heap.size) (hP : ∀ k, w.heap.size ≤ k → P k) (hm : Small m n N) (hn : n ≤ 100000) (hN : N ≤ 1000000) (hv : Bls B w v keep) (hB : ∀ k, B k → ¬ A k) :
    Calls Tryz.prog 11 #[ptrTo d, v] w fun e w' => e = .returned (.tuple #[]) ∧ Own P w' d (Dk.crash m keep) ∧ Keep A w w' := by
  refine (crash_any keep w h (fun k hk => (hA k hk).2) (hm.fitW hn hN) hv hB).mono ?_
  rintro e w' ⟨rfl, h2, hk⟩
  exact ⟨rfl, Own.of h2 (fun k hk => (hA k hk).1) hP, hk⟩
theorem cut_own (steps : Int) (h : Own P w d m) :
    Calls Tryz.prog 7 #[ptrTo d, .int .i64 steps] w fun e w' => e = .returned (.tuple #[]) ∧ Own P w' d (cutD m steps) ∧ Keep P w w' := by
  refine (cut_any steps w h).mono ?_
  rintro e w' ⟨rfl, h2, hk⟩
  exact ⟨rfl, h2.mono fun k hk ha => ⟨ha.1, hk⟩, hk.mono fun k _ hk => hk.1⟩
theorem read_own (s : List UInt8) (h : Own P w d m) (hm : Small m n N) (hN : N ≤ 1000000) (hs : s.length ≤ 1000) :
    Calls Tryz.prog 47 #[ptrTo d, .string ⟨s.toArray⟩] w fun e w' => ∃ v', e = .returned (.tuple #[v', .int .i64 (readE m s : Nat)]) ∧ w'.ownsRow w.heap.size 5 1 v' (readB m s).length ((readB m s).map bv) ∧ Keep No w w' :=
  read_any s w h (by unfold maxLen; omega) fun f => by have := hm.is f; omega
theorem used_own (h : Own P w d m) (hm : Small m n N) (hn : n ≤ 100000) (hN : N ≤ 1000000) :
    Calls Tryz.prog 56 #[ptrTo d] w fun e w' => e = .returned (.int .i64 (used m)) ∧ Keep No w w' := used_any w h (hm.fit hn hN).us
theorem names_own (h : Own P w d m) (hm : Small m n N) (hn : n ≤ 100000) :
    Calls Tryz.prog 23 #[ptrTo d] w fun e w' => ∃ v, e = .returned v ∧ w'.ownsRow w.heap.size 9 1 v (namesOf m).length ((namesOf m).map encStr) ∧ Keep No w w' :=
  names_any w h (by have := hm.L; omega)
theorem new_own (room : Int) (w : World) (P : Nat → Prop) (hP : ∀ k, w.heap.size ≤ k → P k) :
    Calls Tryz.prog 5 #[.int .i64 room] w fun e w' => ∃ d, e = .returned (ptrTo d) ∧ Own P w' d (Dk.new room) ∧ Keep No w w' := by
  refine (new_any room w).mono ?_
  rintro e w' ⟨d, rfl, h2, hk⟩
  exact ⟨d, rfl, h2.mono fun k hk ha => ⟨hP k ha.1, hk⟩, hk⟩
end
end Go.Proofs.YtkmoomgmmhmaeaaGreat
namespace Go.Dm.Dk
theorem settle1_sure (b : Bool) (o : Op) (m : M) : (settle1 b o m).sure.length = m.sure.length ∧ (settle1 b o m).is = m.is := by
  unfold settle1
  split
  · exact ⟨rfl, rfl⟩
  · split
    · exact ⟨by simp [putF], rfl⟩
    · exact ⟨rfl, rfl⟩
theorem settleGo_sure (sel : Nat → Bool) : ∀ (l : List Op) (i : Nat) (m : M), (settleGo sel i l m).sure.length = m.sure.length ∧ (settleGo sel i l m).is = m.is
  | [], _, _ => ⟨rfl, rfl⟩
  | o :: r, i, m => by
    obtain ⟨h1, h2⟩ := settleGo_sure sel r (i + 1) (settle1 (sel i) o m)
    obtain ⟨h3, h4⟩ := settle1_sure (sel i) o m
    exact ⟨h1.trans h3, h2.trans h4⟩
theorem settle_sure (m : M) (sel : Nat → Bool) : (settle m sel).sure.length = m.sure.length ∧ (settle m sel).is = m.is := settleGo_sure sel m.wait 0 { m with wait := [] }
theorem wait_is (m : M) (o : Op) : (waitD m o).is.length = m.is.length := by
  unfold waitD
  split
  · simp [putF]
  · rfl
theorem done_is (m : M) (k : Nat) (a b : List UInt8) (at_ : Int) (body : List UInt8) : (done m k a b at_ body).is.length ≤ m.is.length + 1 := by
  unfold done
  split
  · rw [wait_is]; simp
  · rw [wait_is]; omega
  · rw [(settle_sure _ _).2]; omega
  · rw [wait_is]; omega
  · rw [wait_is]; omega
  · rw [(settle_sure _ _).2]; omega
theorem call_is (m : M) (k : Nat) (a b : List UInt8) (at_ : Int) (body : List UInt8) : (call m k a b at_ body).1.is.length ≤ m.is.length + 1 := by
  unfold call
  split
  · exact Nat.le_succ _
  · split
    · exact Nat.le_succ _
    · split
      · exact Nat.le_succ _
      · exact done_is _ _ _ _ _ _
theorem cut_is (m : M) (s : Int) : (cutD m s).is = m.is := by
  unfold cutD
  split <;> rfl
theorem crash_is {m : M} (keep : List Bool) (h : m.sure.length = m.is.length) : (crash m keep).is.length = m.is.length := by
  show (settle m fun i => keep.getD i false).sure.length = m.is.length
  rw [(settle_sure _ _).1, h]
end Go.Dm.Dk
namespace Go.Proofs.YtkmoomgmmhmaeaaGreat
open Go.RowKit Go.Dm Go.Dm.Dk

theorem DR.apart {A : Nat → Prop} {w : World} {d : Nat} {m : M} (h : DR A w d m) : m.L.Pairwise (fun p q => p.1 ≠ q.1) := by
  obtain ⟨fb, nb, sb, wv, rows, h⟩ := h
  have h1 := h.nm.apart
  unfold Apart NL at h1
  rw [List.pairwise_map] at h1
  exact h1.imp fun h e => h (by rw [e])
theorem DR.files {A : Nat → Prop} {w : World} {d n : Nat} {m : M} (h : DR A w d m) (hn : m.is.length ≤ n) : Files m n := by
  obtain ⟨fb, nb, sb, wv, rows, h⟩ := h
  exact ⟨fun p hp => (h.file p.2 (.inl ⟨p.1, hp⟩)).1, fun p hp => (h.file p.2 (.inr (.inl ⟨p.1, hp⟩))).1, fun o ho hk => (h.file o.file (.inr (.inr ⟨o, ho, hk, rfl⟩))).1, h.sl, hn⟩
end Go.Proofs.YtkmoomgmmhmaeaaGreat
namespace Go.Dm.Dk

/-- a step: a call of a disk -/
structure Cl where
  kind : Nat
  a : List UInt8
  b : List UInt8
  at_ : Nat
  body : List UInt8
def Cl.on (s : Cl) (m : M) : M × Nat := call m s.kind s.a s.b s.at_ s.body
/-- steps, up to the first error -/
def runS : M → List Cl → M × Nat
  | m, [] => (m, 0)
  | m, s :: r => if (s.on m).2 = 0 then runS (s.on m).1 r else s.on m
theorem runS_cons (m : M) (s : Cl) (r : List Cl) : runS m (s :: r) = if (s.on m).2 = 0 then runS (s.on m).1 r else s.on m := rfl
theorem runS_append (m : M) (l r : List Cl) : runS m (l ++ r) = if (runS m l).2 = 0 then runS (runS m l).1 r else runS m l := by
  induction l generalizing m with
  | nil => simp [runS]
  | cons s l ih =>
    rw [List.cons_append, runS_cons, runS_cons]
    split
    · exact ih _
    · rename_i h; simp only [if_neg h]
def newS : List UInt8 := [110, 101, 119, 46]
def isDraft (s : List UInt8) : Bool := newS.isPrefixOf s
def mayF (s : List UInt8) : Bool := s != [] && !isDraft s
def pieces (n : Nat) : Nat := (n + 63) / 64
def writeS (t b : List UInt8) (k : Nat) : Cl := ⟨2, t, [], 64 * k, (b.drop (64 * k)).take 64⟩
def writesS (t b : List UInt8) : List Cl := (List.range (pieces b.length)).map (writeS t b)
def endS (t s : List UInt8) : List Cl := [⟨3, t, [], 0, []⟩, ⟨4, t, s, 0, []⟩, ⟨6, [], [], 0, []⟩]
def goneS (t : List UInt8) : List Cl := [⟨5, t, [], 0, []⟩, ⟨6, [], [], 0, []⟩]
/-- the steps of a Replace, where l are the names that are there -/
def stepsS (l : List (List UInt8)) (s b : List UInt8) : List Cl :=
  ((l.filter fun n => n == newS ++ s).flatMap fun _ => goneS (newS ++ s)) ++ [⟨1, newS ++ s, [], 0, []⟩] ++ writesS (newS ++ s) b ++ endS (newS ++ s) s
def replD (m : M) (s b : List UInt8) : M × Nat := if mayF s then runS m (stepsS (namesOf m) s b) else (m, 1)
def tidyS (l : List (List UInt8)) : List Cl := (l.filter isDraft).map fun n => ⟨5, n, [], 0, []⟩
def tidyD (m : M) : M × Nat := if tidyS (namesOf m) = [] then (m, 0) else runS m (tidyS (namesOf m) ++ [⟨6, [], [], 0, []⟩])
end Go.Dm.Dk
namespace Go.Proofs.YtkmoomgmmhmaeaaGreat
open Go.RowKit Go.Dm Go.Dm.Dk

section
variable {m : M} {n : Nat}
def OpFile (l : Nat) (o : Dk.Op) : Prop := o.kind = 1 ∨ o.kind = 2 → o.file < l
theorem namesOp_files {L : Names} {o : Dk.Op} {l : Nat} (h : ∀ p ∈ L, p.2 < l) (ho : o.kind = 2 → o.file < l) : ∀ p ∈ namesOp L o, p.2 < l := by
  have hw : ∀ s, ∀ p ∈ without L s, p.2 < l := fun s p hp => h p (List.mem_filter.1 hp).1
  intro p hp
  unfold namesOp at hp
  split at hp
  · rename_i hk
    rcases List.mem_append.1 hp with hp | hp
    · exact hw _ p hp
    · simp only [List.mem_singleton] at hp; subst hp; exact ho hk
  · split at hp
    · exact hw _ p hp
    · split at hp
      · exact h p hp
      · rename_i f hf
        rcases List.mem_append.1 hp with hp | hp
        · exact hw _ p (List.mem_filter.1 hp).1
        · simp only [List.mem_singleton] at hp; subst hp; exact h (o.frm, f) (find_some_mem hf)
theorem Files.mono {n' : Nat} (h : Files m n) (hn : n ≤ n') : Files m n' := ⟨h.L, h.S, h.W, h.ln, Nat.le_trans h.il hn⟩
theorem Files.wait (h : Files m n) {o : Dk.Op} (ho : OpFile m.is.length o) : Files (waitD m o) n := by
  have hw : ∀ p ∈ m.wait ++ [o], OpFile m.is.length p := by
    intro p hp
    rcases List.mem_append.1 hp with hp | hp
    · exact h.W p hp
    · simp only [List.mem_singleton] at hp; subst hp; exact ho
  unfold waitD
  split
  · rename_i hk
    have e : (putF m.is o.file (laidB (m.is.getD o.file []) o.at_ o.b)).length = m.is.length := by simp [putF]
    exact ⟨fun p hp => by show _ < (putF _ _ _).length; rw [e]; exact h.L p hp, fun p hp => by show _ < (putF _ _ _).length; rw [e]; exact h.S p hp, fun p hp hk => by show _ < (putF _ _ _).length; rw [e]; exact hw p hp hk, by show _ = (putF _ _ _).length; rw [e]; exact h.ln, by show (putF _ _ _).length ≤ _; rw [e]; exact h.il⟩
  · exact ⟨namesOp_files h.L fun hk => ho (.inr hk), h.S, hw, h.ln, h.il⟩
theorem Files.settle1 (h : Files m n) {o : Dk.Op} (b : Bool) (ho : OpFile m.is.length o) : Files (Dk.settle1 b o m) n := by
  unfold Dk.settle1
  split
  · exact ⟨h.L, h.S, fun p hp => by
      rcases List.mem_append.1 hp with hp | hp
      · exact h.W p hp
      · simp only [List.mem_singleton] at hp; subst hp; exact ho, h.ln, h.il⟩
  · split
    · exact ⟨h.L, h.S, h.W, by show (putF _ _ _).length = _; simp only [putF, List.length_set]; exact h.ln, h.il⟩
    · exact ⟨h.L, namesOp_files h.S fun hk => ho (.inr hk), h.W, h.ln, h.il⟩
theorem Files.go (sel : Nat → Bool) : ∀ (l : List Dk.Op) (i : Nat) (m : M), (∀ o ∈ l, OpFile m.is.length o) → Files m n → Files (settleGo sel i l m) n
  | [], _, _, _, h => h
  | o :: r, i, m, hw, h => by
    have h1 := h.settle1 (sel i) (hw o (by simp))
    have e := (settle1_sure (sel i) o m).2
    exact Files.go sel r (i + 1) _ (fun p hp => by rw [e]; exact hw p (by simp [hp])) h1
theorem Files.settle (h : Files m n) (sel : Nat → Bool) : Files (Dk.settle m sel) n :=
  Files.go sel m.wait 0 { m with wait := [] } h.W ⟨h.L, h.S, (fun o ho => by cases ho), h.ln, h.il⟩
theorem Files.crash (h : Files m n) (keep : List Bool) : Files (Dk.crash m keep) n := by
  have h1 := h.settle fun i => keep.getD i false
  have e : (Dk.settle m fun i => keep.getD i false).sure.length = (Dk.settle m fun i => keep.getD i false).is.length := h1.ln
  refine ⟨fun p hp => ?_, fun p hp => ?_, (fun o ho => by cases ho), rfl, ?_⟩
  · show p.2 < (Dk.settle m fun i => keep.getD i false).sure.length
    rw [e]; exact h1.S p hp
  · show p.2 < (Dk.settle m fun i => keep.getD i false).sure.length
    rw [e]; exact h1.S p hp
  · show (Dk.settle m fun i => keep.getD i false).sure.length ≤ n
    rw [e]; exact h1.il
theorem Files.cutD (h : Files m n) (s : Int) : Files (Dk.cutD m s) n := by
  unfold Dk.cutD
  split
  · exact h
  · exact ⟨h.L, h.S, h.W, h.ln, h.il⟩
theorem Files.call (h : Files m n) (k : Nat) (a b : List UInt8) (at_ : Int) (body : List UInt8) : Files (Dk.call m k a b at_ body).1 (n + 1) := by
  have hn := h.mono (Nat.le_succ n)
  unfold Dk.call
  split
  · exact hn
  · split
    · exact hn
    · rename_i h0
      split
      · exact ⟨hn.L, hn.S, hn.W, hn.ln, hn.il⟩
      · have h1 : Files { m with cut := m.cut - 1 } n := ⟨h.L, h.S, h.W, h.ln, h.il⟩
        show Files (Dk.done _ k a b at_ body) (n + 1)
        unfold Dk.done
        split
        · have h2 : Files { m with cut := m.cut - 1, is := m.is ++ [[]], sure := m.sure ++ [[]] } (n + 1) := by
            refine ⟨fun p hp => ?_, fun p hp => ?_, fun o ho hk => ?_, ?_, ?_⟩
            · show _ < (m.is ++ [[]]).length; rw [List.length_append]; exact Nat.lt_of_lt_of_le (h.L p hp) (Nat.le_add_right _ _)
            · show _ < (m.is ++ [[]]).length; rw [List.length_append]; exact Nat.lt_of_lt_of_le (h.S p hp) (Nat.le_add_right _ _)
            · show _ < (m.is ++ [[]]).length; rw [List.length_append]; exact Nat.lt_of_lt_of_le (h.W o ho hk) (Nat.le_add_right _ _)
            · show (m.sure ++ [[]]).length = (m.is ++ [[]]).length; rw [List.length_append, List.length_append, h.ln]
            · show (m.is ++ [[]]).length ≤ _; rw [List.length_append]; exact Nat.succ_le_succ h.il
          exact h2.wait fun _ => by show m.is.length < (m.is ++ [[]]).length; rw [List.length_append]; exact Nat.lt_succ_self _
        · refine (h1.wait fun _ => ?_).mono (Nat.le_succ n)
          show (find m.L a).getD 0 < m.is.length
          simp only [own] at h0
          cases hf : find m.L a with
          | none => rw [hf] at h0; simp at h0
          | some f => exact h.L _ (find_some_mem hf)
        · exact (h1.settle _).mono (Nat.le_succ n)
        · exact (h1.wait fun hk => by simp at hk).mono (Nat.le_succ n)
        · exact (h1.wait fun hk => by simp at hk).mono (Nat.le_succ n)
        · exact (h1.settle _).mono (Nat.le_succ n)
theorem Files.on {s : Cl} (h : Files m n) : Files (s.on m).1 (n + 1) := h.call _ _ _ _ _
end

theorem rdo_cl {A : Nat → Prop} {w : World} {v1 v2 v3 v4 v5 : Value} {m : M} {n N n2 : Nat} (s : Cl) (hk : 1 ≤ s.kind ∧ s.kind ≤ 6) (h : DV A w v1 v2 v3 v4 v5 m) (hs : Small m n N) (hf : Files m n2) (hn : n < 100000) (hN : N ≤ 1000000) (hn2 : n2 < 1000000) (hbl : s.body.length ≤ 1000000) :
    Calls Tryz.prog 15 #[dv m v1 v2 v3 v4 v5, .int .i64 (s.kind : Int), .string ⟨s.a.toArray⟩, .string ⟨s.b.toArray⟩, .int .i64 (s.at_ : Int), .string ⟨s.body.toArray⟩] w (RetD2 A w (s.on m).1 (.int .i64 ((s.on m).2 : Nat))) := by
  have hq : s.kind = 1 ∨ s.kind = 2 ∨ s.kind = 3 ∨ s.kind = 4 ∨ s.kind = 5 ∨ s.kind = 6 := by omega
  unfold Cl.on
  cases hoff : m.off with
  | true => exact rdo_off (n := 0) (N := 0) (n2 := 0) s.kind s.a s.b s.at_ s.body h hoff
  | false =>
    rcases hq with e | e | e | e | e | e <;> rw [e]
    · exact rdo1_any s.a s.b s.at_ s.body h hs hf hn hN hn2 hoff
    · exact rdo2_any s.a s.b s.at_ s.body h hs hf hn hN hn2 hoff hbl (by omega) hs.rm
    · exact rdo3_any s.a s.b s.at_ s.body h hs hf hn hN hn2 hoff
    · exact rdo4_any s.a s.b s.at_ s.body h hs hf hn hN hn2 hoff
    · exact rdo5_any s.a s.b s.at_ s.body h hs hf hn hN hn2 hoff
    · exact rdo6_any s.a s.b s.at_ s.body h hs hf hn hN hn2 hoff
end Go.Proofs.YtkmoomgmmhmaeaaGreat
namespace Go.Proofs.YtkmoomgmmhmaeaaGreat
open Go.RowKit Go.Dm Go.Dm.Dk Go.Maps

def aw1 : M := ⟨100, [[]], [[]], [([97], 0)], [], [⟨2, 0, 0, [], [], [97]⟩], false, 0⟩
def aw2 : M := ⟨100, [[120]], [[]], [([97], 0)], [], [⟨2, 0, 0, [], [], [97]⟩, ⟨1, 0, 0, [120], [], []⟩], false, 0⟩
def aw3 : M := ⟨100, [[120]], [[120]], [([97], 0)], [], [⟨2, 0, 0, [], [], [97]⟩], false, 0⟩
def aw4 : M := ⟨100, [[120]], [[120]], [([97], 0)], [([97], 0)], [], false, 0⟩
theorem aw_1 : call (Dk.new 100) 1 [97] [] 0 [] = (aw1, 0) := by kernel_rfl
theorem aw_2 : call aw1 2 [97] [] 0 [120] = (aw2, 0) := by kernel_rfl
theorem aw_3 : call aw2 3 [97] [] 0 [] = (aw3, 0) := by kernel_rfl
theorem aw_4 : call aw3 6 [] [] 0 [] = (aw4, 0) := by kernel_rfl
theorem aw_5 : Dk.crash aw4 [] = aw4 := by kernel_rfl
theorem aw_w : aw2.wait.length = 2 := rfl
theorem aw_e : readE aw4 [97] = 0 := by kernel_rfl
theorem aw_b : readB aw4 [97] = [120] := by kernel_rfl
theorem aw_u : used aw4 = 1 := by kernel_rfl
theorem aw_n : (namesOf aw4).length = 1 := by unfold namesOf; rw [List.length_mergeSort]; rfl
theorem aw_s1 : Small aw1 1 1 := by have := (Small.new 100 (by omega)).call (b := 1) 1 [97] [] 0 [] (by simp) (by simp) (by simp); rw [aw_1] at this; exact this
theorem aw_s2 : Small aw2 2 2 := by have := aw_s1.call (b := 1) 2 [97] [] 0 [120] (by simp) (by simp) (by simp); rw [aw_2] at this; exact this
theorem aw_s3 : Small aw3 3 3 := by have := aw_s2.call (b := 1) 3 [97] [] 0 [] (by simp) (by simp) (by simp); rw [aw_3] at this; exact this
theorem aw_s4 : Small aw4 4 4 := by have := aw_s3.call (b := 1) 6 [] [] 0 [] (by simp) (by simp) (by simp); rw [aw_4] at this; exact this

theorem under_u8 : Tryz.prog.underlying 5 = some (.int .u8) := Tryz.underlying5
/-- string(b) -/
theorem conv_str {A : Nat → Prop} {w : World} {v : Value} {l : List UInt8} (h : Bts A w v l) : (convert 46 9 v).run Tryz.prog w = .ok (.string ⟨l.toArray⟩) w := by
  obtain ⟨_, a, cap, rfl, hn, _, h0, hr⟩ := h
  cases a with
  | none =>
    obtain rfl := h0 rfl
    obtain rfl : l = [] := List.eq_nil_of_length_eq_zero (by omega)
    exact run_convert_bytes_nil (P := Tryz.prog) (w := w) 46 5 Tryz.underlying46 under_u8 0 0 9 Tryz.underlying9
  | some a =>
    refine run_convert_bytes_back (P := Tryz.prog) w 46 9 5 a cap l Tryz.underlying46 under_u8 Tryz.underlying9 fun j hj => ?_
    obtain ⟨g, off, e2, _, _, hc⟩ := hr (by omega)
    cases e2
    rw [Addr.add_lit]
    exact hc j (bv l[j]) (by simp [hj])
/-- a literal of bytes -/
theorem bts_lit (w : World) (l : List UInt8) (fr : Nat × Nat) (hl : l.length ≤ maxLen) : Bts (fun k => k = w.heap.size) (w.alloc (.cells (l.map bv).toArray 5 fr)) (.slice (some ⟨w.heap.size, 0, none⟩) l.length l.length) l :=
  Sl.mk (by simp) rfl (by simp) (Nat.le_refl _) hl fun j u hu => by
    rw [World.cell?_alloc_mark]; simpa using hu

end Go.Proofs.YtkmoomgmmhmaeaaGreat
