/- reloc.Words. Chapter 16: the order of the statements' files, and where its units lie. Chapter 16: where the units of the statements' files lie. Chapter 16: modules that are placed lie apart. Words of relocations where modules move, plainly. No condition. -/
import Derived.Test.YtbnahidopemkiaaRe5
import Derived.Test.YtbnahidopemkiaaLy4
import Derived.Test.YtbnahidopemkiaaLyA
import Derived.Test.YtbnahidopemkiaaRe1
set_option linter.unusedVariables false
set_option linter.unusedSimpArgs false
namespace Go.Proofs.Ytbnahidopemkiaa
open Go.RowKit Go.Dm Go.Dm.Oc Go.Dm.Ld
theorem encWd_mem (x : Wd) : ∀ u ∈ encWd x, u.oneCell' = true := by
  intro u hu
  simp only [encWd, List.mem_cons, List.not_mem_nil, or_false] at hu
  rcases hu with rfl | rfl | rfl <;> rfl
theorem wordT_info : (Try.prog.info? 80).map (fun i => (i.zero, i.size, i.bytes)) = some (some (.agg #[.int .u64 0, .int .u64 0, .int .i64 0]), 3, 24) := by kernel_rfl
section
variable {A B : Nat → Prop} {w : World} {v mv : Value} {ps : List UC} {us : List (BS × Im)} {ms : List Md}
set_option maxRecDepth 100000 in
set_option maxHeartbeats 4000000 in
theorem rewords_any (hl : Fl A w 12 encU v ps) (hu : UsOk A w ps us) (hok : ∀ u ∈ us, ImOk u.2) (hub : us.length ≤ 1000)
    (hm : Fl B w 7 encMd mv ms) (hmb : ∀ m ∈ ms, m.base < 18446744073709551616 ∧ m.off < 18446744073709551616) :
    Calls Try.prog 25 #[v, mv] w fun e w' => ∃ v', e = .returned (.tuple #[v', .int .i64 ((wordsM us ms).1 : Nat)]) ∧ FlO w' w.heap.size 80 3 encWd v' (wordsM us ms).2 ∧ Keep No w w' := by
  have HL := Lib.hid hl
  have HU := Lib.hid hu
  have HOK := Lib.hid hok
  have HM := Lib.hid hm
  have HMB := Lib.hid hmb
  have hpl : ps.length = us.length := hu.1
  obtain ⟨ao, co, rfl, hc1, hc2⟩ := hl.shape
  obtain ⟨am, cm, rfl, hc3, hc4⟩ := hm.shape
  have hmx : (ms.length : Int) ≤ 9223372036854775807 := by unfold maxLen at hc4; omega
  obtain ⟨n, hn⟩ : ∃ n, n = us.length := ⟨_, rfl⟩
  obtain ⟨nm, hnm⟩ : ∃ n, n = ms.length := ⟨_, rfl⟩
  rw [← hn] at hpl hub
  rw [← hnm] at hmx
  rw [hpl, ← hnm]
  have HPL := Lib.hid hpl
  have HN := Lib.hid hn
  have HNM := Lib.hid hnm
  clear hl hu hok hm hmb hc1 hc2 hc3 hc4 hpl hn hnm
  rcases Nat.lt_or_ge n nm with hlt | hge
  · have hb : ((n : Int) != (nm : Int)) = true := by rw [bne_iff_ne]; omega
    have hw : wordsM us ms = (1, []) := by unfold wordsM; rw [if_pos (by rw [← HN.out, ← HNM.out]; omega)]
    rw [hw]
    go_enter Try.func25, Try.ntmps25
    go_wp2_with fail
    go_ret2
    exact ⟨_, rfl, FlO.nil, Keep.refl _ _⟩
  rcases Nat.lt_or_ge nm n with hlt2 | hge2
  · have hb : ((n : Int) != (nm : Int)) = true := by rw [bne_iff_ne]; omega
    have hw : wordsM us ms = (1, []) := by unfold wordsM; rw [if_pos (by rw [← HN.out, ← HNM.out]; omega)]
    rw [hw]
    go_enter Try.func25, Try.ntmps25
    go_wp2_with fail
    go_ret2
    exact ⟨_, rfl, FlO.nil, Keep.refl _ _⟩
  obtain rfl : nm = n := Nat.le_antisymm hge hge2
  have hb : ((nm : Int) != (nm : Int)) = false := by simp
  obtain ⟨res, hres⟩ : ∃ r, r = wordsM us ms := ⟨_, rfl⟩
  rw [← hres]
  have HRES := Lib.hid hres
  have HEQ : Hid (us.length = ms.length) := Lib.hid (by rw [← HN.out, ← HNM.out])
  clear hge hge2 hres
  have hR : Hid (wlist us ms (relL (us.take 0)) = (0, [])) := Lib.hid rfl
  have hO0 : Out w w 80 3 encWd (.slice none 0 0) [] := ⟨FlO.nil, Keep.refl _ _⟩
  go_enter Try.func25, Try.ntmps25
  go_wp2_with fail
  go_loopw [6, 7, 8, 10, 11, 12, 20] (fun ov _ _ _ _ _ iv wr => ∃ (i : Nat) (acc : List Wd), iv = .int .i64 i ∧ i ≤ nm ∧ Hid (acc.length ≤ 65536 * i) ∧ Hid (wlist us ms (relL (us.take i)) = (0, acc)) ∧ Out w wr 80 3 encWd ov acc) (fun _ _ _ _ _ _ iv _ => nm - (intOf iv).toNat)
  case atStart => exact ⟨0, [], rfl, Nat.zero_le _, Lib.hid (Nat.le_refl _), hR, hO0⟩
  case round =>
    obtain ⟨i, acc, rfl, hi, HAL, HG, hO⟩ := hrel
    clear hR hO0
    generalize wr = wz at *
    have hkz : Keep No w wz := hO.old (Keep.refl _ _)
    rcases Nat.lt_or_ge i nm with hlt | hge
    · have hus : i < us.length := by rw [← HN.out]; exact hlt
      have hlt1 : i < ps.length := by rw [HPL.out]; exact hlt
      obtain ⟨g1, off, cap, ev, _, _, _, _, hc⟩ := (HL.out.no hkz).at encU_len hlt1
      rw [HPL.out] at ev
      cases ev
      have hiz : (i : Int) < (nm : Int) := by omega
      have huo := (HU.out.2 i _ _ (List.getElem?_eq_getElem hlt1) (List.getElem?_eq_getElem hus)).keep hkz fun _ _ _ h => h
      have hone := encU_one huo
      have huo0 := HU.out.2 i _ _ (List.getElem?_eq_getElem hlt1) (List.getElem?_eq_getElem hus)
      have him := HOK.out _ (List.getElem_mem hus)
      have hG2 : Hid (wlist us ms (relL (us.take i) ++ ((us[i].2.rels.take 0).filter fun x => decide (x.ty ≠ 0)).map (fun x => (i, x))) = (0, acc)) := Lib.hid (by rw [List.take_zero, List.filter_nil, List.map_nil, List.append_nil]; exact HG.out)
      have hend : ∀ acc2, wlist us ms (relL (us.take i) ++ ((us[i].2.rels.take us[i].2.rels.length).filter fun x => decide (x.ty ≠ 0)).map (fun x => (i, x))) = (0, acc2) → wlist us ms (relL (us.take (i + 1))) = (0, acc2) := fun acc2 h => by
        rw [relL_take hus]
        rw [List.take_of_length_le (Nat.le_refl _)] at h
        exact h
      have hbad := fun k acc2 hk h0 h1 h2 => wordsM_bad (us := us) (ms := ms) (i := i) (k := k) (acc := acc2) HEQ.out hus hk h0 h1 h2
      have hword := fun W k (h : Keep No w W) (hk : k < us[i].2.rels.length) (h0 : us[i].2.rels[k].ty ≠ 0) => reword_any (w := W) i us[i].2.rels[k] (him.2.1 _ (List.getElem_mem hk)).1 hus (fun h8 => (him.2.1 _ (List.getElem_mem hk)).2 h0 h8) (HL.out.no h) (HU.out.keep h fun _ _ _ h => h) (fun u hu => (HOK.out u hu).1) (HM.out.no h) HEQ.out (by rw [← HN.out]; exact hub) HMB.out
      rw [HPL.out, ← HNM.out] at hword
      have HBAD := Lib.hid hbad
      have HWORD := Lib.hid hword
      have HEND := Lib.hid hend
      have hrln := him.2.2
      clear HG hbad hword hend him
      generalize us[i] = u at *
      generalize ps[i] = p at *
      go_wp2_with (first | (with_reducible refine wl_ld rfl _ 43 rfl _ rfl ?_) | (with_reducible refine wl_stAgg rfl _ _ _ rfl _ _ rfl rfl ?_))
      refine rg_lds (l := encU p) hc Try.underlying43 rfl (by kernel_rfl) ?_
      go_wp2_with (first | (with_reducible refine wl_ld rfl _ 43 rfl _ rfl ?_) | (with_reducible refine wl_stAgg rfl _ _ _ rfl _ _ rfl rfl ?_))
      have hkW4 : Keep No wz (wz.alloc (.cells #[.string ⟨#[]⟩, .int .i64 0, .int .u64 0, .int .u64 0, .int .i64 0, .slice none 0 0, .string ⟨#[]⟩, .slice none 0 0, .slice none 0 0, .slice none 0 0, .slice none 0 0, .slice none 0 0] 43)) := (Keep.refl _ _).alloc _
      have hBW4 : Blk (wz.alloc (.cells #[.string ⟨#[]⟩, .int .i64 0, .int .u64 0, .int .u64 0, .int .i64 0, .slice none 0 0, .string ⟨#[]⟩, .slice none 0 0, .slice none 0 0, .slice none 0 0, .slice none 0 0, .slice none 0 0] 43)) wz.heap.size #[.string ⟨#[]⟩, .int .i64 0, .int .u64 0, .int .u64 0, .int .i64 0, .slice none 0 0, .string ⟨#[]⟩, .slice none 0 0, .slice none 0 0, .slice none 0 0, .slice none 0 0, .slice none 0 0] 43 := Blk.new _ _ _
      have hzW4 : (wz.alloc (.cells #[.string ⟨#[]⟩, .int .i64 0, .int .u64 0, .int .u64 0, .int .i64 0, .slice none 0 0, .string ⟨#[]⟩, .slice none 0 0, .slice none 0 0, .slice none 0 0, .slice none 0 0, .slice none 0 0] 43)).heap.size = wz.heap.size + 1 := World.size_alloc _ _
      generalize wz.alloc (.cells #[.string ⟨#[]⟩, .int .i64 0, .int .u64 0, .int .u64 0, .int .i64 0, .slice none 0 0, .string ⟨#[]⟩, .slice none 0 0, .slice none 0 0, .slice none 0 0, .slice none 0 0, .slice none 0 0] 43) = W4 at *
      refine rg_stAgg hBW4 (by kernel_rfl) (by rfl) hone ?_
      intro w5 hI5 hk5 hz5
      have hkz5 : Keep No wz w5 := hkW4.trans hk5 fun j hj e => by have e2 : j = wz.heap.size := e; omega
      have huo5 := huo.keep hkz5 fun _ _ _ h => h
      have hO5 := hO.call hkz5
      clear hBW4 hkW4 hzW4 hk5 hz5 hc hO huo hone
      obtain ⟨_, vs, vn, vm, vy, vr, vb, e, _, _, _, _, hrl, _⟩ := huo0
      have e2 := congrArg (fun l : List Value => l[9]?) e
      have e3 : some p.vr = some vr := e2
      injection e3 with e3
      rw [← e3] at hrl
      have c10 : w5.cell? ⟨wz.heap.size, 10, none⟩ = some p.vr := hI5.cell 10
      obtain ⟨av, cv, epv, hcv1, hcv2⟩ := hrl.shape
      rw [epv] at c10 hrl
      obtain ⟨nv, hnv⟩ : ∃ n, n = u.2.rels.length := ⟨_, rfl⟩
      have HNV := Lib.hid hnv
      rw [← hnv] at c10 hrl
      have HRL := Lib.hid hrl
      have hkw5 := hkz.trans' hkz5
      have hnv2 : nv ≤ 65536 := by rw [hnv]; exact hrln
      have hal0 := HAL.out
      clear e e2 e3 hI5 epv hnv hrl hkz5 hcv1 hcv2 hrln huo5 HAL
      have HAL0 : Hid (acc.length ≤ 65536 * i + 0) := Lib.hid hal0
      clear hal0
      go_wp2_with (first | (with_reducible refine wl_ld rfl _ 43 rfl _ rfl ?_) | (with_reducible refine wl_stAgg rfl _ _ _ rfl _ _ rfl rfl ?_))
      go_loopw [6, 10, 11, 12, 29] (fun ov _ _ _ kv wr => ∃ (k : Nat) (acc2 : List Wd), kv = .int .i64 k ∧ k ≤ nv ∧ Hid (acc2.length ≤ 65536 * i + k) ∧ Hid (wlist us ms (relL (us.take i) ++ ((u.2.rels.take k).filter fun x => decide (x.ty ≠ 0)).map (fun x => (i, x))) = (0, acc2)) ∧ Out w wr 80 3 encWd ov acc2) (fun _ _ _ _ kv _ => nv - (intOf kv).toNat)
      case atStart => exact ⟨0, acc, rfl, Nat.zero_le _, HAL0, hG2, hO5⟩
      case round =>
        obtain ⟨k, acc2, rfl, hk, HAL2, HG2, hO⟩ := hrel
        clear hO5 hG2 HAL0 hkw5 c10
        generalize wr = wy at *
        have hky : Keep No w wy := hO.old (Keep.refl _ _)
        rcases Nat.lt_or_ge k nv with hlt3 | hge3
        · have hk1 : k < u.2.rels.length := by rw [← HNV.out]; exact hlt3
          have hrl := HRL.out.no hky
          rw [HNV.out] at hrl
          obtain ⟨g2, off2, cap2, ev, _, hg2, hb1, hb2, hd⟩ := hrl.at encRl_len hk1
          rw [← HNV.out] at ev
          injection ev with q1 q2 q3
          subst q1 q3
          have hkz3 : (k : Int) < (nv : Int) := by omega
          have hnx := relU_take (i := i) hk1
          have hbadk := fun h0 h2 => HBAD.out k acc2 hk1 h0 HG2.out h2
          have hwordk := fun W h h0 => HWORD.out W k h hk1 h0
          have hsn := fun (h2 : (wordM us ms i u.2.rels[k]).1 = 0) => wlist_snoc (p := (i, u.2.rels[k])) HG2.out h2
          generalize u.2.rels[k] = x at *
          have HNX := Lib.hid hnx
          have HBADK := Lib.hid hbadk
          have HWK := Lib.hid hwordk
          have HSN := Lib.hid hsn
          clear hnx hbadk hwordk hsn q2 hrl
          go_wp2_with (first | (with_reducible refine wl_ld rfl _ 111 rfl _ rfl ?_) | (with_reducible refine wl_stAgg rfl _ _ _ rfl _ _ rfl rfl ?_))
          refine rg_lds (l := encRl x) hd Try.underlying111 rfl (by kernel_rfl) ?_
          go_wp2_with (first | (with_reducible refine wl_ld rfl _ 111 rfl _ rfl ?_) | (with_reducible refine wl_stAgg rfl _ _ _ rfl _ _ rfl rfl ?_))
          have hkW6 : Keep No wy (wy.alloc (.cells #[.int .u64 0, .int .u32 0, .int .u32 0, .int .i64 0] 111)) := (Keep.refl _ _).alloc _
          have hBW6 : Blk (wy.alloc (.cells #[.int .u64 0, .int .u32 0, .int .u32 0, .int .i64 0] 111)) wy.heap.size #[.int .u64 0, .int .u32 0, .int .u32 0, .int .i64 0] 111 := Blk.new _ _ _
          have hzW6 : (wy.alloc (.cells #[.int .u64 0, .int .u32 0, .int .u32 0, .int .i64 0] 111)).heap.size = wy.heap.size + 1 := World.size_alloc _ _
          generalize wy.alloc (.cells #[.int .u64 0, .int .u32 0, .int .u32 0, .int .i64 0] 111) = W6 at *
          refine rg_stAgg hBW6 (by kernel_rfl) (by rfl) (by rw [List.all_toArray]; exact List.all_eq_true.2 (encRl_one x)) ?_
          intro w7 hI7 hk7 hz7
          have hky7 : Keep No wy w7 := hkW6.trans hk7 fun j hj e => by have e2 : j = wy.heap.size := e; omega
          have hO7 := hO.call hky7
          replace hky := hky.trans' hky7
          have d1 : w7.cell? ⟨wy.heap.size, 1, none⟩ = some (.int .u32 (x.ty : Int)) := hI7.cell 1
          clear hBW6 hkW6 hzW6 hk7 hz7 hO hd hky7
          by_cases h0 : x.ty = 0
          · have hq : ((x.ty : Int) == 0) = true := by rw [beq_iff_eq]; omega
            have HG3 : Hid (wlist us ms (relL (us.take i) ++ ((u.2.rels.take (k + 1)).filter fun x => decide (x.ty ≠ 0)).map (fun x => (i, x))) = (0, acc2)) := Lib.hid (by rw [HNX.out, if_pos h0, List.append_nil]; exact HG2.out)
            have HAL3 : Hid (acc2.length ≤ 65536 * i + (k + 1)) := Lib.hid (by have := HAL2.out; omega)
            go_wp2_with fail
            go_roundw
            case rel => exact ⟨k + 1, acc2, by go_num, hlt3, HAL3, HG3, hO7⟩
            case measure => simp [intOf]; omega
          · have hq : ((x.ty : Int) == 0) = false := by rw [beq_eq_false_iff_ne]; omega
            go_wp2_with (first | (with_reducible refine wl_ld rfl _ 111 rfl _ rfl ?_) | (with_reducible refine wl_stAgg rfl _ _ _ rfl _ _ rfl rfl ?_))
            refine rg_ld hI7 Try.underlying111 rfl (by kernel_rfl) ?_
            go_wp2_with (first | (with_reducible refine wl_ld rfl _ 111 rfl _ rfl ?_) | (with_reducible refine wl_stAgg rfl _ _ _ rfl _ _ rfl rfl ?_))
            refine (HWK.out _ hky h0).mono ?_
            clear HWK hI7 d1
            rintro e w8 ⟨rfl, k8⟩
            have hO8 := hO7.call k8
            replace hky := hky.trans' k8
            have hnx2 := HNX.out
            rw [if_neg h0] at hnx2
            have HNX2 := Lib.hid hnx2
            clear hO7 k8 hnx2 HNX
            generalize wordM us ms i x = r at *
            obtain ⟨re, wa, wv, wu⟩ := r
            unfold encWd
            dsimp only at HBADK HSN ⊢
            go_wp2_with (with_reducible refine wl_stAgg rfl _ _ _ rfl _ _ rfl rfl ?_)
            have hkW9 : Keep No w8 (w8.alloc (.cells #[.int .u64 0, .int .u64 0, .int .i64 0] 80)) := (Keep.refl _ _).alloc _
            have hBW9 : Blk (w8.alloc (.cells #[.int .u64 0, .int .u64 0, .int .i64 0] 80)) w8.heap.size #[.int .u64 0, .int .u64 0, .int .i64 0] 80 := Blk.new _ _ _
            have hzW9 : (w8.alloc (.cells #[.int .u64 0, .int .u64 0, .int .i64 0] 80)).heap.size = w8.heap.size + 1 := World.size_alloc _ _
            generalize w8.alloc (.cells #[.int .u64 0, .int .u64 0, .int .i64 0] 80) = W9 at *
            refine rg_stAgg hBW9 (by kernel_rfl) (by rfl) (encWd_one ⟨wa, wv, wu⟩) ?_
            intro w10 hI10 hk10 hz10
            have hk810 : Keep No w8 w10 := hkW9.trans hk10 fun j hj e => by have e2 : j = w8.heap.size := e; omega
            have hO10 := hO8.call hk810
            replace hky := hky.trans' hk810
            clear hBW9 hkW9 hzW9 hk10 hz10 hO8 hk810
            by_cases hre : re = 0
            · subst hre
              have HG3 : Hid (wlist us ms (relL (us.take i) ++ ((u.2.rels.take (k + 1)).filter fun x => decide (x.ty ≠ 0)).map (fun x => (i, x))) = (0, acc2 ++ [⟨wa, wv, wu⟩])) := Lib.hid (by rw [HNX2.out, ← List.append_assoc]; exact HSN.out rfl)
              have HAL3 : Hid ((acc2 ++ [(⟨wa, wv, wu⟩ : Wd)]).length ≤ 65536 * i + (k + 1)) := Lib.hid (by have := HAL2.out; rw [List.length_append, List.length_singleton]; omega)
              have m0 : w10.cell? ⟨w8.heap.size, 0, none⟩ = some (.int .u64 (wa : Int)) := hI10.cell 0
              have m1 : w10.cell? ⟨w8.heap.size, 1, none⟩ = some (.int .u64 (wv : Int)) := hI10.cell 1
              have m2 : w10.cell? ⟨w8.heap.size, 2, none⟩ = some (.int .i64 wu) := hI10.cell 2
              obtain ⟨ao2, no2, co2, rfl⟩ := hO10.sh
              have hll : acc2.length ≤ 1000000000 := by have := HAL2.out; omega
              clear HBADK HSN HNX2 HG2
              go_wp2_with (at_builtin; refine wl_append rfl _ _ _ _ rfl _ _ rfl rfl ?_)
              refine rg_push (P := Try.prog) (enc := encWd) (x := ⟨wa, wv, wu⟩) (cs := #[.int .u64 (wa : Int), .int .u64 (wv : Int), .int .i64 wu]) _ _ Try.underlying76 wordT_info (by rfl) (by decide) (by rfl) (by rfl) (encWd_mem _) hO10.row (by omega) (by decide) hO10.base ?_
              intro v13 w13 ho13 hk13 hn13
              have hO13 := hO10.push ho13 hk13
              obtain ⟨a13, n13, c13, rfl⟩ := hO13.sh
              clear m0 m1 m2 ho13 hk13 hn13 hO10 hI10
              go_wp2_with fail
              go_roundw
              case rel => exact ⟨k + 1, _, by go_num, hlt3, HAL3, HG3, hO13⟩
              case measure => simp [intOf]; omega
            · have hbn : ((re : Int) != 0) = true := by rw [bne_iff_ne]; omega
              have hr : res = (re, []) := by rw [HRES.out]; exact HBADK.out h0 hre
              subst hr
              go_wp2_with fail
              go_ret2
              exact ⟨_, rfl, FlO.nil, hky⟩
        · obtain rfl : k = nv := Nat.le_antisymm hk hge3
          have HG3 : Hid (wlist us ms (relL (us.take (i + 1))) = (0, acc2)) := Lib.hid (HEND.out acc2 (by rw [← HNV.out]; exact HG2.out))
          have HAL3 : Hid (acc2.length ≤ 65536 * (i + 1)) := Lib.hid (by have := HAL2.out; omega)
          go_wp2_with fail
          go_roundw
          case rel => exact ⟨i + 1, acc2, by go_num, hlt, HAL3, HG3, hO⟩
          case measure => simp [intOf]; omega
    · obtain rfl : i = nm := Nat.le_antisymm hi hge
      have hg := HG.out
      rw [List.take_of_length_le (by rw [← HN.out]; exact Nat.le_refl _)] at hg
      have hr : res = (0, acc) := by rw [HRES.out]; unfold wordsM; rw [if_neg (fun h => h HEQ.out), hg]
      subst hr
      go_wp2_with fail
      go_ret2
      exact ⟨_, rfl, hO.row, hkz⟩
end
end Go.Proofs.Ytbnahidopemkiaa
namespace Go.Dm.Ld
open Go Go.Dm.Oc Go.Proofs.Ytbnahidopemkiaa
theorem bodyM_le {s : Sp} {y : Lay} {tb : BS} {ats : List Nat} (hy : LayF s tb.length ats y) (hal : ats.length = 1 + s.need.length + s.defs.length) : (bodyM s y tb ats).length ≤ y.tls + s.tls.length := by
  obtain ⟨y1, y2, y3, y4, y5, y6, y7, y8⟩ := hy
  rw [bodyM_end]
  unfold endM tailM endsM
  obtain ⟨B, hB⟩ : ∃ B, B = padM (headsM s y ++ infoB ((ats.drop 1).take s.need.length) y.v ++ tb) 8 ++ (if s.defs.isEmpty then [] else List.replicate 24 0) ++ (((ats.drop (1 + s.need.length)).zip s.defs).flatMap fun p => symR (symOf y p.1 p.2)) ++ s.fixes.flatMap fun f => relR (relOf y f) := ⟨_, rfl⟩
  rw [← hB]
  have hBl : B.length = y.last := by
    rw [hB, List.length_append, List.length_append, List.length_append, padM_up8, List.length_append, List.length_append, headsM_len, ← y1, ← y2, ← y4, y5, flat24 _ (fun _ => symR_len _), flat24 _ (fun _ => relR_len _), List.length_zip, List.length_drop, hal]
    have hz : (if s.defs.isEmpty = true then ([] : BS) else List.replicate 24 0).length + 24 * min (1 + s.need.length + s.defs.length - (1 + s.need.length)) s.defs.length = 24 * (if s.defs.isEmpty then 0 else s.defs.length + 1) := by
      rw [show 1 + s.need.length + s.defs.length - (1 + s.need.length) = s.defs.length from by omega, Nat.min_self]
      cases s.defs with
      | nil => rfl
      | cons a r =>
        rw [List.isEmpty_cons, if_neg (by decide), if_neg (by decide), List.length_replicate]
        omega
    omega
  have hC : (endC s B).length ≤ y.data := by
    unfold endC
    split
    · rw [hBl, y7, y6]; unfold upM; omega
    · rw [List.length_append, padM_up256, hBl, ← y6, y7]; unfold upM; omega
  have hC2 : upM (endC s B).length 256 ≤ y.data := by
    unfold endC
    split
    · rw [hBl, ← y6, y7]; unfold upM; omega
    · rw [List.length_append, padM_up256, hBl, ← y6, y7]; unfold upM; omega
  have hD : (endD s (endC s B)).length ≤ y.data + s.data.length := by
    unfold endD
    split
    · omega
    · rw [List.length_append, padM_up256]; omega
  have ht : y.data + s.data.length ≤ y.tls := by rw [y8]; unfold upM; omega
  unfold endT
  split
  · omega
  · rw [List.length_append, List.length_append, List.length_replicate]; omega
section
variable {kind : Int} {need : List BS} {n t : Nat}
theorem sp16_may (hk : kind = 2 ∨ kind = 3) (hn : n < 256) (ht : t < 256) : mayM (sp16 kind need n t) = 0 := by
  unfold mayM sp16
  dsimp only
  rw [if_neg (by omega), if_neg (by simp), if_neg (by simp), if_neg (by rw [List.length_replicate, List.length_replicate]; simp only [List.length_nil]; omega)]
theorem sp16_good (hk : kind = 2 ∨ kind = 3) (hn : n < 256) (ht : t < 256) (hne : ∀ x ∈ need, x ≠ []) : GoodS (sp16 kind need n t) :=
  ⟨sp16_may hk hn ht, hne, fun d h => (by cases h), Nat.zero_lt_succ _, fun d h => (by cases h), fun d h => (by cases h), fun d h => (by cases h), fun d h => (by cases h)⟩
/-- names that a table can hold, and how long it is -/
structure Need16 (need : List BS) : Prop where
  ne : ∀ x ∈ need, x ≠ []
  ok : (strM ([] :: (need ++ []))).1 = 0
  le : (strM ([] :: (need ++ []))).2.1.length ≤ 8
  n2 : need.length ≤ 2
theorem need0 : Need16 [] := ⟨by simp, by decide, by decide, by decide⟩
theorem need2 : Need16 [[120], [121]] := ⟨by simp, by decide, by decide, by decide⟩
theorem lay16 (hn : n < 256) (ht : t < 256) (hne : Need16 need) :
    (layS (sp16 kind need n t)).last ≤ 2000 ∧ (layS (sp16 kind need n t)).tls ≤ 6000 ∧ (outS (sp16 kind need n t)).length ≤ 7000 ∧ (layS (sp16 kind need n t)).dyn + (layS (sp16 kind need n t)).size ≤ (layS (sp16 kind need n t)).last ∧ 0 < (layS (sp16 kind need n t)).dyn := by
  have hF : LayF (sp16 kind need n t) (tabS (sp16 kind need n t)).length (atsS (sp16 kind need n t)) (layS (sp16 kind need n t)) := layM_f _ _ _
  have hst : (strM (strsOf (sp16 kind need n t))).1 = 0 := hne.ok
  have htl : (tabS (sp16 kind need n t)).length ≤ 8 := hne.le
  have hal := (strM_ok hst).1
  have hsl : (strsOf (sp16 kind need n t)).length = 1 + (sp16 kind need n t).need.length + (sp16 kind need n t).defs.length := by
    unfold strsOf
    simp only [List.length_cons, List.length_append, List.length_map]
    omega
  rw [hsl] at hal
  have hle := bodyM_le hF hal
  obtain ⟨y1, y2, y3, y4, y5, y6, y7, y8⟩ := hF
  have hct : (layS (sp16 kind need n t)).count ≤ 5 := by rw [y1]; split <;> split <;> split <;> omega
  have hsz := info_len (((atsS (sp16 kind need n t)).drop 1).take (sp16 kind need n t).need.length) (layS (sp16 kind need n t)).v
  rw [← y4, List.length_take] at hsz
  have h2 : (sp16 kind need n t).need.length ≤ 2 := hne.n2
  have hc : (sp16 kind need n t).code.length = 1 + 4 * n := List.length_replicate
  have hd : (sp16 kind need n t).data.length = 0 := rfl
  have htt : (sp16 kind need n t).tls.length = t % 16 := List.length_replicate
  have hde : (sp16 kind need n t).defs.isEmpty = true := rfl
  have hfx : (sp16 kind need n t).fixes.length = 0 := rfl
  rw [hde, if_pos rfl, hfx] at y5
  rw [hc] at y7
  rw [hd] at y8
  rw [htt] at hle
  have ho : outS (sp16 kind need n t) = bodyM (sp16 kind need n t) (layS (sp16 kind need n t)) (tabS (sp16 kind need n t)) (atsS (sp16 kind need n t)) := rfl
  rw [ho]
  unfold upM at y5 y6 y7 y8
  omega
theorem parse16 (hk : kind = 2 ∨ kind = 3) (hn : n < 256) (ht : t < 256) (hne : Need16 need) : (buildM (sp16 kind need n t)).2 = outS (sp16 kind need n t) ∧ parseM (outS (sp16 kind need n t)) = (0, imS (sp16 kind need n t)) := by
  have hl := (lay16 (kind := kind) hn ht hne).2.2.1
  have hg := sp16_good hk hn ht hne.ne
  have hst : (strM (strsOf (sp16 kind need n t))).1 = 0 := hne.ok
  exact ⟨by rw [buildM_out hg.may hst (by omega)], parse_build _ hg hst (by omega)⟩
end
theorem unit16 {nm : BS} {fs : Fs} {fb : Bool} {kind : Int} {need : List BS} {n t : Nat} (hk : kind = 2 ∨ kind = 3) (hn : n < 256) (ht : t < 256) (hne : Need16 need) (hf : findF fs nm = some (buildM (sp16 kind need n t)).2) (hfb : fb = decide (kind = 2)) : unitM nm fs fb = (0, imS (sp16 kind need n t)) := by
  obtain ⟨h1, h2⟩ := parse16 hk hn ht hne
  unfold unitM
  rw [hf, h1]
  dsimp only
  rw [h2]
  dsimp only
  have hkd : (imS (sp16 kind need n t)).hd.kind = kind.toNat := rfl
  rw [if_neg (fun h => h rfl), hkd, if_pos]
  rw [hfb]
  rcases hk with rfl | rfl <;> rfl
def us16 (a0 a1 a2 t0 t1 t2 : Nat) : List (BS × Im) := [([109], imS (sp16 2 [[120], [121]] a0 t0)), ([120], imS (sp16 3 [] a1 t1)), ([121], imS (sp16 3 [] a2 t2))]
theorem order16 {a0 a1 a2 t0 t1 t2 : Nat} (ha0 : a0 < 256) (ha1 : a1 < 256) (ha2 : a2 < 256) (ht0 : t0 < 256) (ht1 : t1 < 256) (ht2 : t2 < 256) : orderM [109] (fs16 a0 a1 a2 t0 t1 t2) = (0, us16 a0 a1 a2 t0 t1 t2) := by
  have u0 := unit16 (nm := [109]) (fs := fs16 a0 a1 a2 t0 t1 t2) (fb := true) (.inl rfl) ha0 ht0 need2 rfl rfl
  have u1 := unit16 (nm := [120]) (fs := fs16 a0 a1 a2 t0 t1 t2) (fb := false) (.inr rfl) ha1 ht1 need0 rfl rfl
  have u2 := unit16 (nm := [121]) (fs := fs16 a0 a1 a2 t0 t1 t2) (fb := false) (.inr rfl) ha2 ht2 need0 rfl rfl
  generalize fs16 a0 a1 a2 t0 t1 t2 = fs at *
  have s0 : orderGo fs 8 [[109]] [] = orderGo fs 7 [[109], [120], [121]] [([109], imS (sp16 2 [[120], [121]] a0 t0))] := by
    show (if (unitM [109] fs true).1 ≠ 0 then ((unitM [109] fs true).1, []) else match addN [[109]] (unitM [109] fs true).2.need with | none => (13, []) | some names' => orderGo fs 7 names' ([] ++ [([109], (unitM [109] fs true).2)])) = _
    rw [u0]
    rfl
  have s1 : orderGo fs 7 [[109], [120], [121]] [([109], imS (sp16 2 [[120], [121]] a0 t0))] = orderGo fs 6 [[109], [120], [121]] [([109], imS (sp16 2 [[120], [121]] a0 t0)), ([120], imS (sp16 3 [] a1 t1))] := by
    show (if (unitM [120] fs false).1 ≠ 0 then ((unitM [120] fs false).1, []) else match addN [[109], [120], [121]] (unitM [120] fs false).2.need with | none => (13, []) | some names' => orderGo fs 6 names' ([([109], imS (sp16 2 [[120], [121]] a0 t0))] ++ [([120], (unitM [120] fs false).2)])) = _
    rw [u1]
    rfl
  have s2 : orderGo fs 6 [[109], [120], [121]] [([109], imS (sp16 2 [[120], [121]] a0 t0)), ([120], imS (sp16 3 [] a1 t1))] = orderGo fs 5 [[109], [120], [121]] (us16 a0 a1 a2 t0 t1 t2) := by
    show (if (unitM [121] fs false).1 ≠ 0 then ((unitM [121] fs false).1, []) else match addN [[109], [120], [121]] (unitM [121] fs false).2.need with | none => (13, []) | some names' => orderGo fs 5 names' ([([109], imS (sp16 2 [[120], [121]] a0 t0)), ([120], imS (sp16 3 [] a1 t1))] ++ [([121], (unitM [121] fs false).2)])) = _
    rw [u2]
    rfl
  show orderGo fs 8 [[109]] [] = _
  rw [s0, s1, s2]
  rfl
end Go.Dm.Ld
namespace Go.Dm.Ld
open Go Go.Dm.Oc Go.Proofs.Ytbnahidopemkiaa
theorem spanGo0 {N : Nat} : ∀ (l : List Sg) (hi : Nat), hi % 256 = 0 → hi ≤ N + 255 → (∀ s ∈ l, s.ty = 1 → s.va + s.me ≤ N) →
    (spanGo l (0, hi, true)).1 = 0 ∧ hi ≤ (spanGo l (0, hi, true)).2.1 ∧ (spanGo l (0, hi, true)).2.1 % 256 = 0 ∧ (spanGo l (0, hi, true)).2.1 ≤ N + 255
  | [], hi, h1, h2, _ => ⟨rfl, Nat.le_refl _, h1, h2⟩
  | s :: r, hi, h1, h2, h3 => by
    unfold spanGo
    by_cases ht : s.ty = 1
    · have h4 := h3 s (List.mem_cons_self ..) ht
      have h5 : (if (!true || decide (firstM s < 0)) = true then firstM s else 0) = 0 := by
        rw [decide_eq_false (Nat.not_lt_zero _)]
        rfl
      rw [if_pos ht, h5]
      have h6 : lastM s % 256 = 0 ∧ lastM s ≤ N + 255 := by unfold lastM; omega
      have ih := spanGo0 r (max hi (lastM s)) (by omega) (by omega) fun s hs => h3 s (List.mem_cons_of_mem _ hs)
      exact ⟨ih.1, by have := ih.2.1; omega, ih.2.2⟩
    · rw [if_neg ht]
      exact spanGo0 r hi h1 h2 fun s hs => h3 s (List.mem_cons_of_mem _ hs)
structure Sp16 (l : List Sg) (x : Nat) : Prop where
  lo : (spanM l).1 = 0
  md : (spanM l).2 % 256 = 0
  ps : 0 < (spanM l).2
  le : (spanM l).2 ≤ 1048576
  tn : x = 0 → findM l 7 = none
  ts : 0 < x → ∃ s, findM l 7 = some s ∧ s.me = x
theorem span16 {kind : Int} {need : List BS} {n t : Nat} (hk : kind = 2 ∨ kind = 3) (hn : n < 256) (ht : t < 256) (hne : Need16 need) : Sp16 (imS (sp16 kind need n t)).segs (t % 16 + t / 64) := by
  obtain ⟨b1, b2, b3, b4, b5⟩ := lay16 (kind := kind) hn ht hne
  have hF : LayF (sp16 kind need n t) (tabS (sp16 kind need n t)).length (atsS (sp16 kind need n t)) (layS (sp16 kind need n t)) := layM_f _ _ _
  obtain ⟨y1, y2, y3, y4, y5, y6, y7, y8⟩ := hF
  have hc : (sp16 kind need n t).code.length = 1 + 4 * n := List.length_replicate
  have hd : (sp16 kind need n t).data.length = 0 := rfl
  have htt : (sp16 kind need n t).tls.length = t % 16 := List.length_replicate
  have hbs : (sp16 kind need n t).bss = 0 := rfl
  have htb : (sp16 kind need n t).tbss = t / 64 := rfl
  rw [hc] at y7
  rw [hd] at y8
  unfold upM at y6 y7 y8
  have hbd : ∀ s ∈ segsM (sp16 kind need n t) (layS (sp16 kind need n t)), s.ty = 1 → s.va + s.me ≤ 100000 := fun s hs _ => by
    rcases segsM_mem hs with rfl | ⟨_, rfl⟩ | ⟨_, rfl⟩ | rfl | ⟨_, rfl⟩
    · unfold sg1; dsimp only; omega
    · unfold sgC; dsimp only; omega
    · have hdn : dataN (sp16 kind need n t) (layS (sp16 kind need n t)) ≤ 10000 := by
        rw [dataN_eq]
        split <;> omega
      unfold Ld.sgD
      dsimp only
      omega
    · rename_i h7
      exact absurd h7 (by rw [sgN_ty]; decide)
    · rename_i h7
      exact absurd h7 (by rw [sgT_ty]; decide)
  have hsegs : (imS (sp16 kind need n t)).segs = segsM (sp16 kind need n t) (layS (sp16 kind need n t)) := rfl
  rw [hsegs]
  have hhd : ∃ r, segsM (sp16 kind need n t) (layS (sp16 kind need n t)) = sg1 (layS (sp16 kind need n t)) :: r := ⟨_, rfl⟩
  obtain ⟨r, hr⟩ := hhd
  have hl1 : lastM (sg1 (layS (sp16 kind need n t))) = (layS (sp16 kind need n t)).code := by unfold lastM sg1; dsimp only; omega
  have hsp := spanGo0 (N := 100000) r (layS (sp16 kind need n t)).code (by omega) (by omega) fun s hs h => hbd s (by rw [hr]; exact List.mem_cons_of_mem _ hs) h
  have hst : spanGo (segsM (sp16 kind need n t) (layS (sp16 kind need n t))) (0, 0, false) = spanGo r (0, (layS (sp16 kind need n t)).code, true) := by
    rw [hr]
    conv => lhs; unfold spanGo
    rw [if_pos (by rfl), hl1, Nat.zero_max]
    have e : (if (!false || decide (firstM (sg1 (layS (sp16 kind need n t))) < 0)) = true then firstM (sg1 (layS (sp16 kind need n t))) else 0) = 0 := by
      rw [if_pos (by rfl)]
      unfold firstM sg1
      dsimp only
    rw [e]
  have hsm : spanM (segsM (sp16 kind need n t) (layS (sp16 kind need n t))) = ((spanGo r (0, (layS (sp16 kind need n t)).code, true)).1, (spanGo r (0, (layS (sp16 kind need n t)).code, true)).2.1) := by
    unfold spanM
    rw [hst]
  have hcp : 0 < (layS (sp16 kind need n t)).code := by omega
  refine ⟨by rw [hsm]; exact hsp.1, by rw [hsm]; exact hsp.2.2.1, by rw [hsm]; exact Nat.lt_of_lt_of_le hcp hsp.2.1, by rw [hsm]; have := hsp.2.2.2; show _ ≤ 1048576; omega, fun h => ?_, fun h => ?_⟩
  · rw [findM_7]
    have : hasTB (sp16 kind need n t) = false := by
      rw [Bool.eq_false_iff]
      intro h2
      have := hasTB_iff.1 h2
      omega
    rw [this]
    rfl
  · rw [findM_7, hasTB_iff.2 (by omega), if_pos rfl]
    refine ⟨_, rfl, ?_⟩
    show (sp16 kind need n t).tls.length + (sp16 kind need n t).tbss = _
    omega
theorem modM_low (u : BS × Im) (b : Nat) (o : List Md) : (modM u b o).low = b + (spanM u.2.segs).1 ∧ (modM u b o).high = b + (spanM u.2.segs).2 := by
  unfold modM
  split <;> exact ⟨rfl, rfl⟩
theorem modM_tls {u : BS × Im} {b x : Nat} {o : List Md} (h : Sp16 u.2.segs x) : (modM u b o).tls = decide (0 < x) ∧ (modM u b o).mem = x ∧ (0 < x → (modM u b o).off = blockM o) := by
  unfold modM
  rcases Nat.eq_zero_or_pos x with h0 | h0
  · rw [h.tn h0]
    subst h0
    exact ⟨rfl, rfl, fun h => absurd h (Nat.lt_irrefl _)⟩
  · obtain ⟨s, hs, he⟩ := h.ts h0
    rw [hs]
    exact ⟨(decide_eq_true h0).symm, he, fun _ => rfl⟩
theorem place3 {u0 u1 u2 : BS × Im} {x0 x1 x2 : Nat} (h0 : Sp16 u0.2.segs x0) (h1 : Sp16 u1.2.segs x1) (h2 : Sp16 u2.2.segs x2) :
    ∃ b1 b2, basesM [u0, u1, u2] = [4096, b1, b2] ∧ 4096 + (spanM u0.2.segs).2 < b1 ∧ b1 + (spanM u1.2.segs).2 < b2 ∧
      layL [u0, u1, u2] [4096, b1, b2] = (0, [modM u0 4096 [], modM u1 b1 [modM u0 4096 []], modM u2 b2 [modM u0 4096 [], modM u1 b1 [modM u0 4096 []]]]) := by
  obtain ⟨l0, m0, p0, e0, _, _⟩ := h0
  obtain ⟨l1, m1, p1, e1, _, _⟩ := h1
  obtain ⟨l2, m2, p2, e2, _, _⟩ := h2
  obtain ⟨a1, c1⟩ := modM_low u0 4096 []
  rw [l0, Nat.add_zero] at a1
  refine ⟨4096 + (spanM u0.2.segs).2 + 256, 4096 + (spanM u0.2.segs).2 + 256 + (spanM u1.2.segs).2 + 256, ?_, by omega, by omega, ?_⟩
  · unfold basesM basesGo basesGo basesGo basesGo
    simp only [l0, l1, l2, Nat.sub_zero]
    simp only [Nat.lt_irrefl, if_false, Nat.zero_add, Nat.zero_lt_one, if_true, List.nil_append, List.cons_append]
    rw [if_pos (by omega)]
    rw [show (4096 + (spanM u0.2.segs).2 + 256) % 18446744073709551616 = 4096 + (spanM u0.2.segs).2 + 256 from by omega]
    rw [show (4096 + (spanM u0.2.segs).2 + 256 + 18446744073709551616) % 18446744073709551616 = 4096 + (spanM u0.2.segs).2 + 256 from by omega]
    rw [show (4096 + (spanM u0.2.segs).2 + 256 + (spanM u1.2.segs).2 + 256) % 18446744073709551616 = 4096 + (spanM u0.2.segs).2 + 256 + (spanM u1.2.segs).2 + 256 from by omega]
    rw [show (4096 + (spanM u0.2.segs).2 + 256 + (spanM u1.2.segs).2 + 256 + 18446744073709551616) % 18446744073709551616 = 4096 + (spanM u0.2.segs).2 + 256 + (spanM u1.2.segs).2 + 256 from by omega]
  · obtain ⟨b1, hb1⟩ : ∃ b, b = 4096 + (spanM u0.2.segs).2 + 256 := ⟨_, rfl⟩
    rw [← hb1]
    obtain ⟨b2, hb2⟩ : ∃ b, b = b1 + (spanM u1.2.segs).2 + 256 := ⟨_, rfl⟩
    rw [← hb2]
    obtain ⟨a2, c2⟩ := modM_low u1 b1 [modM u0 4096 []]
    rw [l1, Nat.add_zero] at a2
    have g1 : meetsM (b1 + 0) (b1 + (spanM u1.2.segs).2) (modM u0 4096 []) = false := by
      unfold meetsM meetM
      rw [a1, c1, if_pos (by omega), decide_eq_false (by omega : ¬ b1 + 0 - 4096 < 4096 + (spanM u0.2.segs).2 - 4096), Bool.and_false]
    have g2 : meetsM (b2 + 0) (b2 + (spanM u2.2.segs).2) (modM u0 4096 []) = false := by
      unfold meetsM meetM
      rw [a1, c1, if_pos (by omega), decide_eq_false (by omega : ¬ b2 + 0 - 4096 < 4096 + (spanM u0.2.segs).2 - 4096), Bool.and_false]
    have g3 : meetsM (b2 + 0) (b2 + (spanM u2.2.segs).2) (modM u1 b1 [modM u0 4096 []]) = false := by
      unfold meetsM meetM
      rw [a2, c2, if_pos (by omega), decide_eq_false (by omega : ¬ b2 + 0 - b1 < b1 + (spanM u1.2.segs).2 - b1), Bool.and_false]
    unfold layL
    rw [if_neg (fun h => h rfl)]
    unfold layGo
    rw [if_neg (by omega), l0, List.any_nil, if_neg (by decide)]
    unfold layGo
    rw [if_neg (by omega), l1, List.nil_append, List.any_cons, List.any_nil, g1, if_neg (by decide)]
    unfold layGo
    rw [if_neg (by omega), l2, List.any_append, List.any_cons, List.any_nil, List.any_cons, List.any_nil, g2, g3, if_neg (by decide)]
    rfl
end Go.Dm.Ld
namespace Go.Dm.Ld
open Go Go.Dm.Oc
structure Ap (l : List Md) : Prop where
  pos : ∀ m ∈ l, m.low < m.high
  ap : ∀ (i k : Nat) (mi mk : Md), k < i → l[i]? = some mi → l[k]? = some mk → meetM mk.low (mk.high - mk.low) mi.low (mi.high - mi.low) = false
theorem Ap.nil : Ap [] := ⟨fun m h => (by cases h), fun i k mi mk _ h => by simp at h⟩
theorem Ap.push {out : List Md} {m : Md} (h : Ap out) (hm : m.low < m.high) (ha : out.any (meetsM m.low m.high) = false) : Ap (out ++ [m]) := by
  refine ⟨fun x hx => ?_, fun i k mi mk hki hi hk => ?_⟩
  · rcases List.mem_append.1 hx with hx | hx
    · exact h.pos x hx
    · rw [List.mem_singleton.1 hx]; exact hm
  · rcases Nat.lt_or_ge i out.length with hl | hl
    · rw [List.getElem?_append_left hl] at hi
      rw [List.getElem?_append_left (by omega)] at hk
      exact h.ap i k mi mk hki hi hk
    · have hi2 := (List.getElem?_eq_some_iff.1 hi).1
      rw [List.length_append] at hi2
      simp only [List.length_cons, List.length_nil] at hi2
      obtain rfl : i = out.length := by omega
      rw [List.getElem?_append_right (Nat.le_refl _), Nat.sub_self] at hi
      injection hi with hi
      subst hi
      rw [List.getElem?_append_left hki] at hk
      have := List.any_eq_false.1 ha mk (List.mem_of_getElem? hk)
      exact Bool.eq_false_iff.2 this
theorem layGo_ap : ∀ (us : List (BS × Im)) (bs : List Nat) (out : List Md), us.length = bs.length → (∀ u ∈ us, (spanM u.2.segs).1 < (spanM u.2.segs).2) → Ap out → (layGo us bs out).1 = 0 → Ap (layGo us bs out).2 ∧ (layGo us bs out).2.length = out.length + us.length
  | [], _, out, _, _, h, _ => by
    unfold layGo
    exact ⟨h, rfl⟩
  | u :: r, [], out, hl, _, _, _ => by cases hl
  | u :: r, b :: bs, out, hl, hs, h, he => by
    unfold layGo at he ⊢
    split at he
    · cases he
    · rename_i h1
      rw [if_neg h1]
      split at he
      · cases he
      · rename_i h2
        rw [if_neg h2]
        obtain ⟨e1, e2⟩ := modM_low u b out
        have hlt := hs u (List.mem_cons_self ..)
        have hp : Ap (out ++ [modM u b out]) := h.push (by rw [e1, e2]; omega) (by rw [e1, e2]; exact Bool.eq_false_iff.2 h2)
        have ih := layGo_ap r bs _ (by simpa using hl) (fun x hx => hs x (List.mem_cons_of_mem _ hx)) hp he
        refine ⟨ih.1, ?_⟩
        rw [ih.2, List.length_append, List.length_cons]
        simp only [List.length_cons, List.length_nil]
        omega
theorem layL_ap {us : List (BS × Im)} {bs : List Nat} (hs : ∀ u ∈ us, (spanM u.2.segs).1 < (spanM u.2.segs).2) (he : (layL us bs).1 = 0) : Ap (layL us bs).2 ∧ (layL us bs).2.length = us.length := by
  unfold layL at he ⊢
  split at he
  · cases he
  · rename_i h1
    rw [if_neg h1]
    have := layGo_ap us bs [] (Decidable.of_not_not h1) hs Ap.nil he
    exact ⟨this.1, by rw [this.2]; simp⟩
theorem meet_of {a n b m x : Nat} (h1 : a ≤ x) (h2 : x < a + n) (h3 : b ≤ x) (h4 : x < b + m) : meetM a n b m = true := by
  unfold meetM
  rw [decide_eq_true (by omega : 0 < n), decide_eq_true (by omega : 0 < m)]
  split
  · rw [decide_eq_true (by omega)]; rfl
  · rw [decide_eq_true (by omega)]; rfl
theorem meet_comm (a n b m : Nat) : meetM a n b m = meetM b m a n := by
  unfold meetM
  rcases Nat.lt_trichotomy a b with h | h | h
  · rw [if_pos (by omega), if_neg (by omega)]
    cases decide (0 < n) <;> cases decide (0 < m) <;> rfl
  · subst h
    rw [if_pos (Nat.le_refl _), if_pos (Nat.le_refl _), Nat.sub_self]
    cases decide (0 < n) <;> cases decide (0 < m) <;> rfl
  · rw [if_neg (by omega), if_pos (by omega)]
    cases decide (0 < n) <;> cases decide (0 < m) <;> rfl
theorem Ap.of {l : List Md} (h : Ap l) {i : Nat} {m : Md} (hi : l[i]? = some m) {x : Nat} (h1 : m.low ≤ x) (h2 : x < m.high) : ofM l x = (i : Int) := by
  obtain ⟨hlt, he⟩ := List.getElem?_eq_some_iff.1 hi
  refine Go.Proofs.Ytbnahidopemkiaa.posM_some hlt ?_ fun j hj => ?_
  · rw [he]
    unfold inM
    rw [decide_eq_true h1, decide_eq_true h2]
    rfl
  · have hjl : j < l.length := by omega
    rw [Bool.eq_false_iff]
    intro hin
    unfold inM at hin
    rw [Bool.and_eq_true, decide_eq_true_eq, decide_eq_true_eq] at hin
    have := h.ap i j m l[j] hj hi (List.getElem?_eq_getElem hjl)
    rw [meet_of (x := x) hin.1 (by omega) h1 (by omega)] at this
    cases this
theorem ofM_in (l : List Md) (x : Nat) : ofM l x = -1 ∨ ∃ (i : Nat) (m : Md), ofM l x = (i : Int) ∧ l[i]? = some m ∧ m.low ≤ x ∧ x < m.high := by
  unfold ofM
  cases ha : l.any (inM x) with
  | false => left; rw [if_neg (by decide)]
  | true =>
    right
    rw [if_pos rfl]
    obtain ⟨y, hy, h⟩ := List.any_eq_true.1 ha
    have hlt : l.findIdx (inM x) < l.length := List.findIdx_lt_length_of_exists ⟨y, hy, h⟩
    have hin : inM x (l[l.findIdx (inM x)]) = true := List.findIdx_getElem
    unfold inM at hin
    rw [Bool.and_eq_true, decide_eq_true_eq, decide_eq_true_eq] at hin
    exact ⟨_, _, rfl, List.getElem?_eq_getElem hlt, hin.1, hin.2⟩
end Go.Dm.Ld
namespace Go.Dm.Ld
open Go Go.Dm.Oc Go.Proofs.Ytbnahidopemkiaa
theorem orderM_imok (root : BS) (fs : Fs) : ∀ u ∈ (orderM root fs).2, ImOk u.2 := fun u hu => by
  obtain ⟨b, _, h, e⟩ := orderM_im root fs u hu
  rw [e]
  exact parseM_imok h
def md0 : Md := ⟨[], 0, 0, 0, false, 0, 0⟩
theorem orderGo_le (fs : Fs) : ∀ (f : Nat) (names : List BS) (out : List (BS × Im)), (orderGo fs f names out).2.length ≤ out.length + f ∧ ((orderGo fs f names out).1 = 0 → out.length ≤ (orderGo fs f names out).2.length)
  | 0, names, out => by
    unfold orderGo
    split
    · exact ⟨Nat.zero_le _, fun h => by cases h⟩
    · exact ⟨Nat.le_refl _, fun _ => Nat.le_refl _⟩
  | f + 1, names, out => by
    unfold orderGo
    split
    · split
      · exact ⟨Nat.zero_le _, fun h => by cases h⟩
      · exact ⟨Nat.le_add_right _ _, fun _ => Nat.le_refl _⟩
    · rename_i n hn
      split
      · rename_i h1
        exact ⟨Nat.zero_le _, fun h => absurd h h1⟩
      · split
        · exact ⟨Nat.zero_le _, fun h => by cases h⟩
        · rename_i names' _
          have ih := orderGo_le fs f names' (out ++ [(n, (unitM n fs (decide (out.length = 0))).2)])
          rw [List.length_append, List.length_cons, List.length_nil] at ih
          exact ⟨by omega, fun h => by have := ih.2 h; omega⟩
theorem orderM_le (root : BS) (fs : Fs) : (orderM root fs).2.length ≤ 8 := by
  have := (orderGo_le fs 8 [root] []).1
  rwa [List.length_nil, Nat.zero_add] at this
theorem orderM_pos {root : BS} {fs : Fs} (h : (orderM root fs).1 = 0) : 0 < (orderM root fs).2.length := by
  unfold orderM at h ⊢
  unfold orderGo at h ⊢
  split at h
  · rename_i h1; simp at h1
  · rename_i n hn
    split at h
    · rename_i h1; exact absurd h h1
    · rename_i h1
      rw [if_neg h1]
      split at h
      · cases h
      · rename_i names' hn'
        have := (orderGo_le fs 7 names' ([] ++ [(n, (unitM n fs (decide (([] : List (BS × Im)).length = 0))).2)])).2 h
        rw [List.nil_append, List.length_cons] at this
        exact Nat.lt_of_lt_of_le (Nat.succ_pos _) this
/-- two rows of modules that lie alike but for their bases -/
def Alike (ms ns : List Md) : Prop := ms.length = ns.length ∧ ∀ (i : Nat) (m n : Md), ms[i]? = some m → ns[i]? = some n → m.tls = n.tls ∧ m.off = n.off ∧ m.mem = n.mem
theorem blockM_alike : ∀ (ms ns : List Md), Alike ms ns → blockM ms = blockM ns
  | [], [], _ => rfl
  | [], n :: ns, h => by have := h.1; cases this
  | m :: ms, [], h => by have := h.1; cases this
  | m :: ms, n :: ns, h => by
    obtain ⟨h1, h2, h3⟩ := h.2 0 m n rfl rfl
    unfold blockM
    rw [h1, h3, blockM_alike ms ns ⟨by have := h.1; simpa using this, fun i a b ha hb => h.2 (i + 1) a b ha hb⟩]
theorem Alike.push {ms ns : List Md} (h : Alike ms ns) (u : BS × Im) (b c : Nat) : Alike (ms ++ [modM u b ms]) (ns ++ [modM u c ns]) := by
  have hl := h.1
  refine ⟨by rw [List.length_append, List.length_append, hl]; rfl, fun i m n hm hn => ?_⟩
  rcases Nat.lt_or_ge i ms.length with hi | hi
  · rw [List.getElem?_append_left hi] at hm
    rw [List.getElem?_append_left (by omega)] at hn
    exact h.2 i m n hm hn
  · have hi2 := (List.getElem?_eq_some_iff.1 hm).1
    rw [List.length_append] at hi2
    simp only [List.length_cons, List.length_nil] at hi2
    obtain rfl : i = ms.length := by omega
    rw [List.getElem?_append_right (Nat.le_refl _), Nat.sub_self] at hm
    rw [List.getElem?_append_right (by omega), ← hl, Nat.sub_self] at hn
    injection hm with hm
    injection hn with hn
    subst hm
    subst hn
    unfold modM
    rw [blockM_alike ms ns h]
    split <;> exact ⟨rfl, rfl, rfl⟩
/-- the bases of modules are those that were given -/
def Based (ms : List Md) (bs : List Nat) : Prop := ms.map (·.base) = bs
theorem modM_base (u : BS × Im) (b : Nat) (o : List Md) : (modM u b o).base = b := by
  unfold modM
  split <;> rfl
theorem layGo_alike : ∀ (us : List (BS × Im)) (bs cs : List Nat) (o p : List Md), us.length = bs.length → us.length = cs.length → Alike o p → (layGo us bs o).1 = 0 → (layGo us cs p).1 = 0 → Alike (layGo us bs o).2 (layGo us cs p).2
  | [], _, _, o, p, _, _, h, _, _ => by
    unfold layGo
    exact h
  | u :: r, [], _, o, p, hl, _, _, _, _ => by cases hl
  | u :: r, b :: bs, [], o, p, _, hl, _, _, _ => by cases hl
  | u :: r, b :: bs, c :: cs, o, p, hl, hl2, h, he, he2 => by
    unfold layGo at he he2 ⊢
    split at he
    · cases he
    · rename_i h1
      rw [if_neg h1]
      split at he
      · cases he
      · rename_i h2
        rw [if_neg h2]
        split at he2
        · cases he2
        · rename_i h3
          rw [if_neg h3]
          split at he2
          · cases he2
          · rename_i h4
            rw [if_neg h4]
            exact layGo_alike r bs cs _ _ (by simpa using hl) (by simpa using hl2) (h.push u b c) he he2
theorem layGo_based : ∀ (us : List (BS × Im)) (bs : List Nat) (o : List Md), us.length = bs.length → (layGo us bs o).1 = 0 → (layGo us bs o).2.map (·.base) = o.map (·.base) ++ bs
  | [], [], o, _, _ => by
    unfold layGo
    rw [List.append_nil]
  | [], b :: bs, o, hl, _ => by cases hl
  | u :: r, [], o, hl, _ => by cases hl
  | u :: r, b :: bs, o, hl, he => by
    unfold layGo at he ⊢
    split at he
    · cases he
    · rename_i h1
      rw [if_neg h1]
      split at he
      · cases he
      · rename_i h2
        rw [if_neg h2, layGo_based r bs _ (by simpa using hl) he, List.map_append, List.map_cons, List.map_nil, modM_base, List.append_assoc]
        rfl
theorem layL_moves {us : List (BS × Im)} {bs cs : List Nat} (hb : (layL us bs).1 = 0) (hc : (layL us cs).1 = 0) : Alike (layL us bs).2 (layL us cs).2 ∧ (layL us bs).2.map (·.base) = bs ∧ (layL us cs).2.map (·.base) = cs ∧ us.length = bs.length ∧ us.length = cs.length := by
  unfold layL at hb hc ⊢
  split at hb
  · cases hb
  · rename_i h1
    rw [if_neg h1]
    split at hc
    · cases hc
    · rename_i h2
      rw [if_neg h2]
      have h1 := Decidable.of_not_not h1
      have h2 := Decidable.of_not_not h2
      exact ⟨layGo_alike us bs cs [] [] h1 h2 ⟨rfl, fun i m n h => by simp at h⟩ hb hc, by simpa using layGo_based us bs [] h1 hb, by simpa using layGo_based us cs [] h2 hc, h1, h2⟩
theorem getD_base {ms : List Md} {bs : List Nat} (h : ms.map (·.base) = bs) (i : Nat) : (ms.getD i ⟨[], 0, 0, 0, false, 0, 0⟩).base = bs.getD i 0 := by
  subst h
  rw [List.getD_eq_getElem?_getD, List.getD_eq_getElem?_getD, List.getElem?_map]
  cases ms[i]? <;> rfl
theorem getD_off {ms ns : List Md} (h : Alike ms ns) (i : Nat) : (ms.getD i ⟨[], 0, 0, 0, false, 0, 0⟩).off = (ns.getD i ⟨[], 0, 0, 0, false, 0, 0⟩).off := by
  rw [List.getD_eq_getElem?_getD, List.getD_eq_getElem?_getD]
  rcases Nat.lt_or_ge i ms.length with hi | hi
  · have hi2 : i < ns.length := by rw [← h.1]; exact hi
    rw [List.getElem?_eq_getElem hi, List.getElem?_eq_getElem hi2]
    exact (h.2 i _ _ (List.getElem?_eq_getElem hi) (List.getElem?_eq_getElem hi2)).2.1
  · rw [List.getElem?_eq_none hi, List.getElem?_eq_none (by rw [← h.1]; exact hi)]
/-- how a word moves -/
def MovesW (n : Nat) (bs cs : List Nat) (x y : Wd) : Prop :=
  x.unit = y.unit ∧ x.unit < n ∧ x.val < 18446744073709551616 ∧ y.val < 18446744073709551616 ∧ ((y.val : Int) - x.val) % 18446744073709551616 = (if 0 ≤ x.unit then ((cs.getD x.unit.toNat 0 : Nat) : Int) - (bs.getD x.unit.toNat 0 : Nat) else 0) % 18446744073709551616
theorem toNat_mod (z : Int) : ((z % 18446744073709551616).toNat : Int) = z % 18446744073709551616 := by omega
theorem wordM_moves {us : List (BS × Im)} {ms ns : List Md} {bs cs : List Nat} {i : Nat} {x : Rl} (ha : Alike ms ns) (hb : ms.map (·.base) = bs) (hc : ns.map (·.base) = cs) (hi : i < us.length) (h0 : x.ty ≠ 0) (hn : us.length < 1000)
    (hok : ∀ t, (targetM us i x).2 = t → t.sym.val < 18446744073709551616) :
    (wordM us ms i x).1 = (wordM us ns i x).1 ∧ ((wordM us ms i x).1 = 0 → MovesW us.length bs cs (wordM us ms i x).2 (wordM us ns i x).2) := by
  have hu := targetM_unit hi x
  have ht8 : x.ty = 8 → (targetM us i x).2 = tgN := fun h => by unfold targetM; rw [if_pos h]
  unfold wordM
  dsimp only
  generalize targetM us i x = t at *
  obtain ⟨te, t⟩ := t
  dsimp only at hu ht8 hok ⊢
  have hok := hok t rfl
  by_cases h1 : te ≠ 0
  · rw [if_pos h1, if_pos h1]
    exact ⟨rfl, fun h => absurd h h1⟩
  rw [if_neg h1, if_neg h1]
  by_cases h8 : x.ty = 8
  · have := ht8 h8
    subst this
    have e : ∀ l : List Md, valM l tgN x.ty = (0, 0, -1) := fun l => by unfold valM tgN; rw [if_pos (by decide)]
    rw [e, e]
    dsimp only
    rw [if_neg (show ¬ ((0 : Nat) ≠ 0) from fun h => h rfl), if_neg (show ¬ ((0 : Nat) ≠ 0) from fun h => h rfl)]
    have ev : ∀ b, valR x.ty b 0 (addI x.add) = (0, ((b : Int) + addI x.add) % 18446744073709551616) := fun b => by
      rw [h8]
      unfold valR
      rw [if_neg (by decide), if_neg (by decide), if_pos rfl]
    dsimp only
    rw [ev, ev, if_pos h8]
    refine ⟨rfl, fun _ => ⟨rfl, by show (i : Int) < _; omega, by dsimp only; omega, by dsimp only; omega, ?_⟩⟩
    dsimp only
    rw [if_pos (by omega), toNat_mod, toNat_mod, getD_base hb, getD_base hc, show ((i : Nat) : Int).toNat = i from rfl]
    omega
  · have ev : ∀ b c s, valR x.ty b s (addI x.add) = valR x.ty c s (addI x.add) := fun b c s => by
      unfold valR
      rw [if_neg h8, if_neg h8]
    rw [if_neg h8, if_neg h8]
    have hval : (valM ms t x.ty).1 = (valM ns t x.ty).1 ∧ (valM ms t x.ty).2.2 = (valM ns t x.ty).2.2 ∧ (valM ms t x.ty).2.2 < us.length ∧ (valM ms t x.ty).2.1 < 18446744073709551616 ∧ (valM ns t x.ty).2.1 < 18446744073709551616 ∧
        (((valM ns t x.ty).2.1 : Int) - (valM ms t x.ty).2.1) % 18446744073709551616 = (if 0 ≤ (valM ms t x.ty).2.2 then ((cs.getD (valM ms t x.ty).2.2.toNat 0 : Nat) : Int) - (bs.getD (valM ms t x.ty).2.2.toNat 0 : Nat) else 0) % 18446744073709551616 ∧
        ((valM ms t x.ty).1 = 0 → (valM ms t x.ty).2.2 < 0 → (valM ms t x.ty).2.1 = (valM ns t x.ty).2.1) := by
      unfold valM
      rw [getD_off ha, getD_base hb, getD_base hc]
      by_cases g1 : t.unit < 0
      · rw [if_pos g1, if_pos g1]
        exact ⟨rfl, rfl, by dsimp only; omega, by dsimp only; omega, by dsimp only; omega, by rfl, fun _ _ => rfl⟩
      rw [if_neg g1, if_neg g1]
      by_cases g2 : decide (x.ty = 16 ∨ x.ty = 17 ∨ x.ty = 18) ≠ decide (t.sym.inf % 16 = 6)
      · rw [if_pos g2, if_pos g2]
        exact ⟨rfl, rfl, by dsimp only; omega, by dsimp only; omega, by dsimp only; omega, by rfl, fun _ _ => rfl⟩
      rw [if_neg g2, if_neg g2]
      by_cases g3 : x.ty = 16
      · rw [if_pos g3, if_pos g3]
        exact ⟨rfl, rfl, by dsimp only; omega, by dsimp only; omega, by dsimp only; omega, by simp, fun _ _ => rfl⟩
      rw [if_neg g3, if_neg g3]
      by_cases g4 : x.ty = 17
      · rw [if_pos g4, if_pos g4]
        exact ⟨rfl, rfl, by dsimp only; omega, hok, hok, by simp, fun _ _ => rfl⟩
      rw [if_neg g4, if_neg g4]
      by_cases g5 : x.ty = 18
      · rw [if_pos g5, if_pos g5]
        exact ⟨rfl, rfl, by dsimp only; omega, by dsimp only; omega, by dsimp only; omega, by simp, fun _ _ => rfl⟩
      rw [if_neg g5, if_neg g5]
      refine ⟨rfl, rfl, hu, by dsimp only; omega, by dsimp only; omega, ?_, fun _ h => absurd h g1⟩
      dsimp only
      rw [if_pos (by omega)]
      omega
    generalize valM ms t x.ty = v at *
    generalize valM ns t x.ty = v' at *
    obtain ⟨ve, vs, vu⟩ := v
    obtain ⟨ve', vs', vu'⟩ := v'
    dsimp only at hval ⊢
    obtain ⟨rfl, rfl, q1, q2, q3, q4, q5⟩ := hval
    by_cases h2 : ve ≠ 0
    · rw [if_pos h2, if_pos h2]
      exact ⟨rfl, fun h => absurd h h2⟩
    rw [if_neg h2, if_neg h2]
    rw [ev ((ns.getD i ⟨[], 0, 0, 0, false, 0, 0⟩).base) ((ms.getD i ⟨[], 0, 0, 0, false, 0, 0⟩).base)]
    generalize (ms.getD i ⟨[], 0, 0, 0, false, 0, 0⟩).base = b
    generalize (ns.getD i ⟨[], 0, 0, 0, false, 0, 0⟩).base = b'
    have l1 := valR_lt x.ty b vs (addI x.add) q2
    have l2 := valR_lt x.ty b vs' (addI x.add) q3
    have hE : (valR x.ty b vs (addI x.add)).1 = (valR x.ty b vs' (addI x.add)).1 := by
      unfold valR
      repeat' split
      all_goals rfl
    refine ⟨hE, fun h => ⟨rfl, q1, by dsimp only; omega, by dsimp only; omega, ?_⟩⟩
    dsimp only
    rw [Int.toNat_of_nonneg l1.1, Int.toNat_of_nonneg l2.1, ← q4]
    clear l1 l2 hE q4
    unfold valR at h ⊢
    split at h
    · cases h
    · rename_i k1
      rw [if_neg k1, if_neg h0, if_neg h8, if_neg k1, if_neg h0, if_neg h8]
      by_cases k2 : x.ty = 6 ∨ x.ty = 7 ∨ x.ty = 16
      · rw [if_pos k2, if_pos k2]
      · rw [if_neg k2, if_neg k2]
        dsimp only
        omega
theorem wlist_moves {us : List (BS × Im)} {ms ns : List Md} {bs cs : List Nat} : ∀ (L : List (Nat × Rl)), (∀ p ∈ L, (wordM us ms p.1 p.2).1 = (wordM us ns p.1 p.2).1 ∧ ((wordM us ms p.1 p.2).1 = 0 → MovesW us.length bs cs (wordM us ms p.1 p.2).2 (wordM us ns p.1 p.2).2)) →
    (wlist us ms L).1 = (wlist us ns L).1 ∧ (wlist us ms L).2.length = (wlist us ns L).2.length ∧ ∀ (k : Nat) (x y : Wd), (wlist us ms L).2[k]? = some x → (wlist us ns L).2[k]? = some y → MovesW us.length bs cs x y
  | [], _ => ⟨rfl, rfl, fun k x y h => by simp [wlist] at h⟩
  | p :: L, h => by
    obtain ⟨h1, h2⟩ := h p (List.mem_cons_self ..)
    obtain ⟨i1, i2, i3⟩ := wlist_moves L fun q hq => h q (List.mem_cons_of_mem _ hq)
    unfold wlist
    rw [← h1, ← i1]
    by_cases g1 : (wordM us ms p.1 p.2).1 ≠ 0
    · rw [if_pos g1, if_pos g1]
      exact ⟨rfl, rfl, fun k x y h => by simp at h⟩
    rw [if_neg g1, if_neg g1]
    by_cases g2 : (wlist us ms L).1 ≠ 0
    · rw [if_pos g2, if_pos g2]
      exact ⟨rfl, rfl, fun k x y h => by simp at h⟩
    rw [if_neg g2, if_neg g2]
    refine ⟨rfl, by simp [i2], fun k x y hx hy => ?_⟩
    cases k with
    | zero =>
      injection hx with hx
      injection hy with hy
      subst hx
      subst hy
      exact h2 (Decidable.of_not_not g1)
    | succ k => exact i3 k x y hx hy
theorem relL_mem {us : List (BS × Im)} {p : Nat × Rl} (hp : p ∈ relL us) : ∃ h : p.1 < us.length, p.2 ∈ us[p.1].2.rels ∧ p.2.ty ≠ 0 := by
  unfold relL at hp
  obtain ⟨q, hq, hp⟩ := List.mem_flatMap.1 hp
  unfold relU at hp
  obtain ⟨x, hx, hp⟩ := List.mem_map.1 hp
  subst hp
  have h1 := List.mem_zipIdx' (x := q.1) (i := q.2) hq
  refine ⟨h1.1, ?_, of_decide_eq_true (List.mem_filter.1 hx).2⟩
  dsimp only
  rw [← h1.2]
  exact (List.mem_filter.1 hx).1
theorem wordsM_moves {us : List (BS × Im)} {bs cs : List Nat} (hb : (layL us bs).1 = 0) (hc : (layL us cs).1 = 0) (hn : us.length < 1000) (hok : ∀ u ∈ us, ImOk u.2) :
    (wordsM us (layL us bs).2).1 = (wordsM us (layL us cs).2).1 ∧ (wordsM us (layL us bs).2).2.length = (wordsM us (layL us cs).2).2.length ∧ ∀ (k : Nat) (x y : Wd), (wordsM us (layL us bs).2).2[k]? = some x → (wordsM us (layL us cs).2).2[k]? = some y → MovesW us.length bs cs x y := by
  obtain ⟨ha, h1, h2, h3, h4⟩ := layL_moves hb hc
  have hl1 : us.length = (layL us bs).2.length := by have := congrArg List.length h1; rw [List.length_map] at this; omega
  have hl2 : us.length = (layL us cs).2.length := by have := congrArg List.length h2; rw [List.length_map] at this; omega
  unfold wordsM
  rw [if_neg (by omega), if_neg (by omega)]
  refine wlist_moves _ fun p hp => ?_
  obtain ⟨hi, hx, h0⟩ := relL_mem hp
  exact wordM_moves ha h1 h2 hi h0 hn fun t ht => ht ▸ (targetM_syok (fun u hu => (hok u hu).1.2) p.2).2.2.2.2.1
theorem layGo_bo : ∀ (us : List (BS × Im)) (bs : List Nat) (out : List Md), (∀ u ∈ us, SgsOk u.2.segs) → out.length + us.length ≤ 1000 → (∀ m ∈ out, m.base ≤ 4294967296 ∧ m.off < 9223372036854775808 ∧ m.mem ≤ 1099511627776) → ∀ m ∈ (layGo us bs out).2, m.base ≤ 4294967296 ∧ m.off < 9223372036854775808 ∧ m.mem ≤ 1099511627776
  | [], _, out, _, _, h => by
    unfold layGo
    exact h
  | u :: r, [], out, _, _, h => by
    unfold layGo
    exact h
  | u :: r, b :: bs, out, hs, hn, h => by
    rw [List.length_cons] at hn
    unfold layGo
    split
    · intro m hm; cases hm
    · rename_i h1
      split
      · intro m hm; cases hm
      · refine layGo_bo r bs _ (fun u hu => hs u (List.mem_cons_of_mem _ hu)) (by rw [List.length_append, List.length_singleton]; omega) fun m hm => ?_
        rcases List.mem_append.1 hm with hm | hm
        · exact h m hm
        · rw [List.mem_singleton.1 hm]
          have hb := blockM_le out fun m hm => (h m hm).2.2
          have hb2 : out.length * 1099511627784 ≤ 1000 * 1099511627784 := Nat.mul_le_mul_right _ (by omega)
          unfold modM
          split
          · rename_i s hs7
            have := findM_me (hs u (List.mem_cons_self ..)) (by decide) hs7
            exact ⟨by dsimp only; omega, by dsimp only; omega, by dsimp only; omega⟩
          · exact ⟨by dsimp only; omega, by dsimp only; omega, by dsimp only; omega⟩
theorem layL_bo {us : List (BS × Im)} {bs : List Nat} (hs : ∀ u ∈ us, SgsOk u.2.segs) (hn : us.length ≤ 1000) : ∀ m ∈ (layL us bs).2, m.base < 18446744073709551616 ∧ m.off < 18446744073709551616 := by
  unfold layL
  split
  · intro m hm; cases hm
  · intro m hm
    have := layGo_bo us bs [] hs (by simpa using hn) (fun m h => by cases h) m hm
    omega
end Go.Dm.Ld
