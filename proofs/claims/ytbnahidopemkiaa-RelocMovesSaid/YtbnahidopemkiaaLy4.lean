/- layout.Place. No condition. -/
import Derived.Test.YtbnahidopemkiaaLy3
import Derived.Test.YtbnahidopemkiaaBpD
set_option linter.unusedVariables false
set_option linter.unusedSimpArgs false
namespace Go.Dm.Ld
open Go
/-- segments that were checked -/
def SgsOk (l : List Sg) : Prop := ∀ s ∈ l, SgOk s ∧ (s.ty ≠ 0 → s.va ≤ 4294967296 ∧ s.me ≤ 4294967296 - s.va)
theorem SgsOk.span {l : List Sg} (h : SgsOk l) : SpanOk l := fun s hs => ⟨(h s hs).1, fun ht => by
  have := (h s hs).2 (by omega)
  omega⟩
theorem spanGo_le : ∀ (l : List Sg) (x : Nat × Nat × Bool), SgsOk l → x.1 ≤ x.2.1 → x.2.1 ≤ 4294967296 → (spanGo l x).1 ≤ (spanGo l x).2.1 ∧ (spanGo l x).2.1 ≤ 4294967296
  | [], x, _, h1, h2 => ⟨h1, h2⟩
  | s :: r, (lo, hi, b), hs, h1, h2 => by
    unfold spanGo
    have h1 : lo ≤ hi := h1
    have h2 : hi ≤ 4294967296 := h2
    refine spanGo_le r _ (fun s hs2 => hs s (List.mem_cons_of_mem _ hs2)) ?_ ?_
    · split
      · rename_i ht
        have h3 := (hs s (List.mem_cons_self ..)).2 (by omega)
        have h4 : firstM s ≤ lastM s := by unfold firstM lastM; omega
        show (if _ then _ else _) ≤ max hi (lastM s)
        split <;> omega
      · exact h1
    · split
      · rename_i ht
        have h3 := (hs s (List.mem_cons_self ..)).2 (by omega)
        have h4 : lastM s ≤ 4294967296 := by unfold lastM; omega
        show max hi (lastM s) ≤ _
        omega
      · exact h2
theorem spanM_le {l : List Sg} (h : SgsOk l) : (spanM l).1 ≤ (spanM l).2 ∧ (spanM l).2 ≤ 4294967296 := spanGo_le l (0, 0, false) h (Nat.le_refl _) (by decide)
def MdOk (m : Md) : Prop := m.low ≤ m.high ∧ m.high ≤ 8589934592 ∧ m.mem ≤ 4294967296
theorem findM_me {l : List Sg} (h : SgsOk l) {s : Sg} {k : Nat} (hk : k ≠ 0) (hf : findM l k = some s) : s.me ≤ 4294967296 := by
  have h1 := List.mem_of_find?_eq_some hf
  have hf2 : l.find? (fun s => s.ty == k) = some s := hf
  have h2 : (s.ty == k) = true := List.find?_some (p := fun s : Sg => s.ty == k) hf2
  have h2 := eq_of_beq h2
  have := (h s h1).2 (by omega)
  omega
end Go.Dm.Ld
namespace Go.Proofs.Ytbnahidopemkiaa
open Go.RowKit Go.Dm Go.Dm.Oc Go.Dm.Ld
section
variable {A B : Nat → Prop} {w : World} {v bv : Value} {ps : List UC} {us : List (BS × Im)}
set_option maxRecDepth 100000 in
set_option maxHeartbeats 1000000 in
theorem lplace1_any (x : Md) (q lo hi : Nat) (hx : MdOk x) (hlh : lo ≤ hi) (hhi : hi ≤ 8589934592) (h2 : w.cell? ⟨q, 2, none⟩ = some (.int .u64 (lo : Int))) (h3 : w.cell? ⟨q, 3, none⟩ = some (.int .u64 (hi : Int))) (hql : q < w.heap.size) :
    Calls Try.prog 39 #[.agg (encMd x).toArray, .pointer (some ⟨q, 0, none⟩)] w fun e w' => e = .returned (.bool (meetsM lo hi x)) ∧ Keep No w w' := by
  obtain ⟨nm, ba, xl, xh, tl, of_, me⟩ := x
  obtain ⟨hx1, hx2, _⟩ := hx
  dsimp only at hx1 hx2
  have hcall := fun W => omeet_any (w := W) xl (xh - xl) lo (hi - lo) (by omega) (by omega) (by omega) (by omega)
  have hm : meetsM lo hi ⟨nm, ba, xl, xh, tl, of_, me⟩ = meetM xl (xh - xl) lo (hi - lo) := rfl
  rw [hm]
  clear hm
  have e1 : IntKind.u64.wrap ((xh : Int) - (xl : Int)) = ((xh - xl : Nat) : Int) := by rw [IntKind.wrap_u64]; omega
  have e2 : IntKind.u64.wrap ((hi : Int) - (lo : Int)) = ((hi - lo : Nat) : Int) := by rw [IntKind.wrap_u64]; omega
  have e3 : ((xh : Int) - (xl : Int)) = ((xh - xl : Nat) : Int) := by omega
  have e4 : ((hi : Int) - (lo : Int)) = ((hi - lo : Nat) : Int) := by omega
  generalize xh - xl = d1 at *
  generalize hi - lo = d2 at *
  unfold encMd
  have hne : q ≠ w.heap.size := Nat.ne_of_lt hql
  go_enter Try.func39, Try.ntmps39
  go_wp2_with fail
  refine (hcall _).mono ?_
  rintro e W ⟨rfl, rfl⟩
  go_wp2_with fail
  go_ret
  exact ⟨rfl, (Keep.refl _ _).alloc _⟩
set_option maxRecDepth 100000 in
set_option maxHeartbeats 4000000 in
theorem lplace_any {bases : List Nat} (hl : Fl A w 12 encU v ps) (hu : UsOk A w ps us) (hs : ∀ u ∈ us, SgsOk u.2.segs) (hn : us.length ≤ 1000) (hbv : Fl B w 1 encN bv bases) (hbl : ∀ b ∈ bases, b < 18446744073709551616) :
    Calls Try.prog 16 #[v, bv] w fun e w' => ∃ v', e = .returned (.tuple #[v', .int .i64 ((layL us bases).1 : Nat)]) ∧ FlO w' w.heap.size 62 7 encMd v' (layL us bases).2 ∧ (∀ m ∈ (layL us bases).2, MdOk m) ∧ Keep No w w' := by
  have HL := Lib.hid hl
  have HU := Lib.hid hu
  have HS := Lib.hid hs
  have HB := Lib.hid hbv
  have HBL := Lib.hid hbl
  have hpl : ps.length = us.length := hu.1
  obtain ⟨ao, co, rfl, hc1, hc2⟩ := hl.shape
  obtain ⟨ab, cb, rfl, hc3, hc4⟩ := hbv.shape
  obtain ⟨n, hn'⟩ : ∃ n, n = ps.length := ⟨_, rfl⟩
  obtain ⟨nb, hnb'⟩ : ∃ n, n = bases.length := ⟨_, rfl⟩
  have hnb : n ≤ 1000 := by omega
  have HN := Lib.hid hn'
  have HNB := Lib.hid hnb'
  have HPL := Lib.hid hpl
  obtain ⟨res, hres⟩ : ∃ r, r = layL us bases := ⟨_, rfl⟩
  rw [← hres]
  have HR := Lib.hid hres
  rw [← hn', ← hnb']
  clear hl hu hs hbv hbl hc1 hc2 hc3 hc4 hpl hn hn' hnb' hres
  go_enter Try.func16, Try.ntmps16
  by_cases heq : n = nb
  · have hne : ((n : Int) != (nb : Int)) = false := by rw [bne_eq_false_iff_eq]; omega
    have hR : layGo (us.drop 0) (bases.drop 0) [] = res := by
      have h := HR.out
      unfold layL at h
      rw [if_neg (fun hq => hq (by rw [← HPL.out, ← HN.out, ← HNB.out, heq]))] at h
      rw [h]; rfl
    have HR2 := Lib.hid hR
    have hO0 : Out w w 62 7 encMd (.slice none 0 0) [] := ⟨FlO.nil, Keep.refl _ _⟩
    have HEQ := Lib.hid heq
    clear hR HR heq
    go_wp2_with fail
    go_loopw [6, 7, 8, 9, 10, 11, 12, 13, 14, 15, 23] (fun ov _ _ _ _ _ _ _ _ _ iv wr => ∃ (i : Nat) (out : List Md), iv = .int .i64 i ∧ i ≤ n ∧ out.length = i ∧ Hid (∀ m ∈ out, MdOk m) ∧ Hid (layGo (us.drop i) (bases.drop i) out = res) ∧ Out w wr 62 7 encMd ov out) (fun _ _ _ _ _ _ _ _ _ _ iv _ => n - (intOf iv).toNat)
    case atStart => exact ⟨0, [], rfl, Nat.zero_le _, rfl, Lib.hid (fun m h => by cases h), HR2, hO0⟩
    case round =>
      obtain ⟨i, out, rfl, hi, hol, HOK, HG, hO⟩ := hrel
      clear HR2 hO0
      generalize wr = wz at *
      have HOL := Lib.hid hol
      clear hol
      obtain ⟨a0, n0, c0', rfl⟩ := hO.sh
      rcases Nat.lt_or_ge i n with hlt | hge
      · have HWZ := Lib.hid hO.base
        have hlt1 : i < ps.length := by rw [← HN.out]; exact hlt
        have hus : i < us.length := by rw [← HPL.out]; exact hlt1
        have hbi : i < bases.length := by rw [← HNB.out, ← HEQ.out]; exact hlt
        have hkz : Keep No w wz := hO.old (Keep.refl _ _)
        obtain ⟨g1, off, cap, ev, _, _, _, _, hc⟩ := (HL.out.no hkz).at encU_len hlt1
        rw [← HN.out] at ev
        cases ev
        obtain ⟨g2, off2, cap2, ev2, _, hg2, _, _, hc2⟩ := (HB.out.no hkz).at (fun _ => rfl) hbi
        injection ev2 with q1 q2 q3
        subst q1
        have cb0 := hc2 0 _ rfl
        rw [Nat.add_zero, Nat.mul_one] at cb0
        have hiz : (i : Int) < (n : Int) := by omega
        have hiz2 : (i : Int) < (nb : Int) := by rw [← HEQ.out]; exact hiz
        have huo := (HU.out.2 i _ _ (List.getElem?_eq_getElem hlt1) (List.getElem?_eq_getElem hus)).keep hkz fun _ _ _ h => h
        have hone := encU_one huo
        have hsg := HS.out _ (List.getElem_mem hus)
        have hbb := HBL.out _ (List.getElem_mem hbi)
        have hg := HG.out
        rw [List.drop_eq_getElem_cons hus, List.drop_eq_getElem_cons hbi] at hg
        unfold layGo at hg
        have HG2 := Lib.hid hg
        clear hg HG hc2 q2 q3
        generalize us[i] = u at *
        generalize ps[i] = p at *
        generalize bases[i] = b at *
        go_wp2_with (first | (with_reducible refine wl_ld rfl _ 43 rfl _ rfl ?_) | (with_reducible refine wl_stAgg rfl _ _ _ rfl _ _ rfl rfl ?_))
        refine rg_lds (l := encU p) hc Try.underlying43 rfl (by kernel_rfl) ?_
        go_wp2_with (first | (with_reducible refine wl_ld rfl _ 43 rfl _ rfl ?_) | (with_reducible refine wl_stAgg rfl _ _ _ rfl _ _ rfl rfl ?_))
        have hkW4 : Keep No wz (wz.alloc (.cells #[.string ⟨#[]⟩, .int .i64 0, .int .u64 0, .int .u64 0, .int .i64 0, .slice none 0 0, .string ⟨#[]⟩, .slice none 0 0, .slice none 0 0, .slice none 0 0, .slice none 0 0, .slice none 0 0] 43)) := (Keep.refl _ _).alloc _
        have hBW4 : Blk (wz.alloc (.cells #[.string ⟨#[]⟩, .int .i64 0, .int .u64 0, .int .u64 0, .int .i64 0, .slice none 0 0, .string ⟨#[]⟩, .slice none 0 0, .slice none 0 0, .slice none 0 0, .slice none 0 0, .slice none 0 0] 43)) wz.heap.size #[.string ⟨#[]⟩, .int .i64 0, .int .u64 0, .int .u64 0, .int .i64 0, .slice none 0 0, .string ⟨#[]⟩, .slice none 0 0, .slice none 0 0, .slice none 0 0, .slice none 0 0, .slice none 0 0] 43 := Blk.new _ _ _
        have hzW4 : (wz.alloc (.cells #[.string ⟨#[]⟩, .int .i64 0, .int .u64 0, .int .u64 0, .int .i64 0, .slice none 0 0, .string ⟨#[]⟩, .slice none 0 0, .slice none 0 0, .slice none 0 0, .slice none 0 0, .slice none 0 0] 43)).heap.size = wz.heap.size + 1 := World.size_alloc _ _
        generalize wz.alloc (.cells #[.string ⟨#[]⟩, .int .i64 0, .int .u64 0, .int .u64 0, .int .i64 0, .slice none 0 0, .string ⟨#[]⟩, .slice none 0 0, .slice none 0 0, .slice none 0 0, .slice none 0 0, .slice none 0 0] 43) = W4 at *
        refine rg_stAgg hBW4 (by kernel_rfl) (by rfl) hone ?_
        intro w5 hI5 hk5 hz5
        have HOWN := Lib.hid fun g (hg : (Value.slice a0 n0 c0').ownBlock = some g) => (World.ownsRow.lt hO.row g hg).2
        have hkz5 : Keep No wz w5 := hkW4.trans hk5 fun j hj e => by have e2 : j = wz.heap.size := e; omega
        have huo5 := huo.keep hkz5 fun _ _ _ h => h
        have hO5 := hO.call hkz5
        replace cb0 := (hkz5.cell (p := ⟨g2, off2 + i, none⟩) hg2 fun h => h).trans cb0
        replace hg2 := Nat.lt_of_lt_of_le hg2 hkz5.size
        have hI5l := hI5.lt
        clear hBW4 hkW4 hzW4 hk5 hz5 hc hO huo hone
        obtain ⟨hnm, vs, vn, vm, vy, vr, vb, e, hsgf, _⟩ := huo5
        have e2 := congrArg (fun l : List Value => l[4]?) e
        have e3 : some p.vs = some vs := e2
        injection e3 with e3
        rw [← e3] at hsgf
        obtain ⟨av, cv, epv, _, _⟩ := hsgf.shape
        rw [epv] at hsgf
        have c5 : w5.cell? ⟨wz.heap.size, 5, none⟩ = some p.vs := hI5.cell 5
        have cn5 : w5.cell? ⟨wz.heap.size, 0, none⟩ = some (.string ⟨p.nm.toArray⟩) := hI5.cell 0
        rw [epv] at c5
        rw [hnm] at cn5
        have hspa := span_any (w := w5) u.2.segs hsgf hsg.span
        have hfind := fun W (hk : Keep No w5 W) => sgfind_any (w := W) u.2.segs 7 (hsgf.no hk)
        obtain ⟨hb1, hb2⟩ := spanM_le hsg
        have hmd : ∀ s, findM u.2.segs 7 = some s → s.me ≤ 4294967296 := fun s h => findM_me hsg (by decide) h
        obtain ⟨nv, hnv⟩ : ∃ n, n = u.2.segs.length := ⟨_, rfl⟩
        rw [← hnv] at c5 hspa hfind
        have HFIND := Lib.hid hfind
        have HMD := Lib.hid hmd
        have hmod : ∀ o, modM u b o = match findM u.2.segs 7 with
          | some s => ⟨u.1, b, b + (spanM u.2.segs).1, b + (spanM u.2.segs).2, true, blockM o, s.me⟩
          | none => ⟨u.1, b, b + (spanM u.2.segs).1, b + (spanM u.2.segs).2, false, 0, 0⟩ := fun o => rfl
        have HMOD := Lib.hid hmod
        clear hfind hmd hmod e e2 e3 hsgf hsg epv hnv hnm
        generalize spanM u.2.segs = sp at *
        obtain ⟨lo, hi2⟩ := sp
        generalize findM u.2.segs 7 = fm at *
        dsimp only at hspa hb1 hb2
        have hg := HG2.out
        dsimp only at hg
        have HG3 := Lib.hid hg
        clear hg HG2
        obtain ⟨nmb, hnmb⟩ : ∃ nb : ByteArray, nb = ⟨u.1.toArray⟩ := ⟨_, rfl⟩
        rw [← hnmb] at cn5
        have HNM := Lib.hid hnmb
        clear hnmb
        have hI : Blk w5 wz.heap.size (encU p).toArray 43 := hI5
        clear hI5
        go_wp2_with (first | (with_reducible refine wl_ld rfl _ 43 rfl _ rfl ?_) | (with_reducible refine wl_stAgg rfl _ _ _ rfl _ _ rfl rfl ?_))
        refine hspa.mono ?_
        clear hspa
        rintro e w6 ⟨rfl, hk6⟩
        have hO6 := hO5.call hk6
        have hI6 := hI.keep hk6 fun h => h
        replace cb0 := (hk6.cell (p := ⟨g2, off2 + i, none⟩) hg2 fun h => h).trans cb0
        replace c5 := (hk6.cell (p := ⟨wz.heap.size, 5, none⟩) hI5l fun h => h).trans c5
        replace cn5 := (hk6.cell (p := ⟨wz.heap.size, 0, none⟩) hI5l fun h => h).trans cn5
        replace hI5l := Nat.lt_of_lt_of_le hI5l hk6.size
        have hk56 := Lib.hid hk6
        clear hO5 hI hk6 hg2 hkz5 hkz
        obtain ⟨bad, hbad⟩ : ∃ c, c = decide (b % 256 ≠ 0 ∨ 4294967296 < b ∨ 4294967296 - b < hi2) := ⟨_, rfl⟩
        have HBAD := Lib.hid hbad
        clear hbad
        go_upto_region 9 with fail
        go_cut [51] from 24 to 85 (fun s51 wc => s51 = .bool bad ∧ wc = w6)
        case first =>
          have hm : ((b : Int)).tmod 256 = ((b % 256 : Nat) : Int) := (Int.ofNat_tmod _ _).symm
          rcases Nat.eq_zero_or_pos (b % 256) with h1 | h1
          · have hm0 : (((b % 256 : Nat) : Int) != 0) = false := by rw [bne_eq_false_iff_eq]; omega
            have hm1 : ((b : Int) % 256 != 0) = false := by rw [bne_eq_false_iff_eq]; omega
            rcases Nat.lt_or_ge 4294967296 b with h2 | h2
            · have g2 : (4294967296 : Int) < (b : Int) := by omega
              have HX : Hid (bad = true) := Lib.hid (by rw [HBAD.out]; exact decide_eq_true (.inr (.inl h2)))
              clear h1 h2
              go_wp2_with fail
              all_goals
                go_meet
                exact ⟨by first | (rw [HX.out]; done) | (rw [HX.out]; refine congrArg Value.bool ?_; simp only [Bool.or_eq_true, Bool.or_eq_false_iff, decide_eq_true_eq, decide_eq_false_iff_not]; omega), rfl⟩
            · have g2 : (b : Int) ≤ (4294967296 : Int) := by omega
              have hwr : IntKind.u64.wrap ((4294967296 : Int) - (b : Int)) = (4294967296 : Int) - (b : Int) := by rw [IntKind.wrap_u64]; omega
              rcases Nat.lt_or_ge (4294967296 - b) hi2 with h3 | h3
              · have g3 : (4294967296 : Int) - (b : Int) < (hi2 : Int) := by omega
                have HX : Hid (bad = true) := Lib.hid (by rw [HBAD.out]; exact decide_eq_true (.inr (.inr h3)))
                clear h1 h2 h3
                go_wp2_with fail
                all_goals
                  go_meet
                  exact ⟨by first | (rw [HX.out]; done) | (rw [HX.out]; refine congrArg Value.bool ?_; simp only [Bool.or_eq_true, Bool.or_eq_false_iff, decide_eq_true_eq, decide_eq_false_iff_not]; omega), rfl⟩
              · have g3 : (hi2 : Int) ≤ (4294967296 : Int) - (b : Int) := by omega
                have HX : Hid (bad = false) := Lib.hid (by rw [HBAD.out]; exact decide_eq_false (by omega))
                clear h1 h2 h3
                go_wp2_with fail
                all_goals
                  go_meet
                  exact ⟨by first | (rw [HX.out]; done) | (rw [HX.out]; refine congrArg Value.bool ?_; simp only [Bool.or_eq_true, Bool.or_eq_false_iff, decide_eq_true_eq, decide_eq_false_iff_not]; omega), rfl⟩
          · have hm0 : (((b % 256 : Nat) : Int) != 0) = true := by rw [bne_iff_ne]; omega
            have hm1 : ((b : Int) % 256 != 0) = true := by rw [bne_iff_ne]; omega
            have HX : Hid (bad = true) := Lib.hid (by rw [HBAD.out]; exact decide_eq_true (.inl (by omega)))
            clear h1
            go_wp2_with fail
            all_goals
              go_meet
              exact ⟨by first | (rw [HX.out]; done) | (rw [HX.out]; refine congrArg Value.bool ?_; simp only [Bool.or_eq_true, Bool.or_eq_false_iff, decide_eq_true_eq, decide_eq_false_iff_not]; omega), rfl⟩
        case rest =>
          obtain ⟨rfl, rfl⟩ := hcut
          cases bad with
          | true =>
            have hcond := of_decide_eq_true HBAD.out.symm
            have hg := HG3.out
            rw [if_pos hcond] at hg
            clear HG3 hcond
            subst hg
            have hkF := hO6.old (Keep.refl _ _)
            go_wp2_with fail
            go_ret2
            first | exact ⟨_, rfl, FlO.nil, hkF⟩ | exact ⟨_, rfl, FlO.nil, fun m h => (by cases h), hkF⟩
          | false =>
            have hcond := of_decide_eq_false HBAD.out.symm
            have hg := HG3.out
            rw [if_neg hcond] at hg
            have HG4 := Lib.hid hg
            have hbl1 : b ≤ 4294967296 := by omega
            have hbl2 : b + hi2 ≤ 4294967296 := by omega
            have hw1 : IntKind.u64.wrap ((b : Int) + (lo : Int)) = ((b + lo : Nat) : Int) := by rw [IntKind.wrap_u64]; omega
            have hw2 : IntKind.u64.wrap ((b : Int) + (hi2 : Int)) = ((b + hi2 : Nat) : Int) := by rw [IntKind.wrap_u64]; omega
            clear HG3 hcond hg HBAD
            go_wp2_with (with_reducible refine wl_stAgg rfl _ _ _ rfl _ _ rfl rfl ?_)
            have hkW7 : Keep No wc (wc.alloc (.cells #[.string ⟨#[]⟩, .int .u64 0, .int .u64 0, .int .u64 0, .bool false, .int .u64 0, .int .u64 0] 62)) := (Keep.refl _ _).alloc _
            have hBW7 : Blk (wc.alloc (.cells #[.string ⟨#[]⟩, .int .u64 0, .int .u64 0, .int .u64 0, .bool false, .int .u64 0, .int .u64 0] 62)) wc.heap.size #[.string ⟨#[]⟩, .int .u64 0, .int .u64 0, .int .u64 0, .bool false, .int .u64 0, .int .u64 0] 62 := Blk.new _ _ _
            have hzW7 : (wc.alloc (.cells #[.string ⟨#[]⟩, .int .u64 0, .int .u64 0, .int .u64 0, .bool false, .int .u64 0, .int .u64 0] 62)).heap.size = wc.heap.size + 1 := World.size_alloc _ _
            generalize wc.alloc (.cells #[.string ⟨#[]⟩, .int .u64 0, .int .u64 0, .int .u64 0, .bool false, .int .u64 0, .int .u64 0] 62) = W7 at *
            refine rg_stAgg hBW7 (by kernel_rfl) (by rfl) (by simp [Value.oneCell']) ?_
            intro w8 hM8 hk8 hz8
            obtain ⟨ml, hml⟩ : ∃ x, x = b + lo := ⟨_, rfl⟩
            obtain ⟨mh, hmh⟩ : ∃ x, x = b + hi2 := ⟨_, rfl⟩
            have e1 : (b : Int) + (lo : Int) = (ml : Int) := by omega
            have e2 : (b : Int) + (hi2 : Int) = (mh : Int) := by omega
            rw [e1, e2] at hM8
            have hk68 : Keep No wc w8 := hkW7.trans hk8 fun j hj e => by have e2 : j = wc.heap.size := e; omega
            have hO8 := hO6.call hk68
            obtain ⟨q, hq⟩ : ∃ q, q = wc.heap.size := ⟨_, rfl⟩
            rw [← hq] at hM8 ⊢
            have hmlh : ml ≤ mh := by omega
            have hmhb : mh ≤ 8589934592 := by omega
            have HML := Lib.hid (And.intro hml hmh)
            rw [← hml, ← hmh] at HG4
            have hcall := hasMod_any (w := w8) out 39 #[.pointer (some ⟨q, 0, none⟩)] (meetsM ml mh) hO8.row.fl (fun a w => by kernel_rfl) (fun s hs wr hk =>
              lplace1_any s q ml mh (HOK.out s hs) hmlh hmhb ((hM8.keep hk fun h => h).cell 2) ((hM8.keep hk fun h => h).cell 3) (Nat.lt_of_lt_of_le hM8.lt hk.size))
            have hqz : wz.heap.size < q := by omega
            have HSZ : Hid (w.heap.size ≤ wz.heap.size) := Lib.hid HWZ.out
            have c58 : w8.cell? ⟨wz.heap.size, 5, none⟩ = _ := (hk68.cell (p := ⟨wz.heap.size, 5, none⟩) hI5l fun h => h).trans c5
            have hk58 := hk56.out.trans' hk68
            have hlz : wz.heap.size < w8.heap.size := Nat.lt_of_lt_of_le hI5l hk68.size
            have hql := hM8.lt
            clear hBW7 hkW7 hzW7 hk8 hz8 hml hmh e1 e2 hw1 hw2 hO6 hI6 cb0 c5 cn5 hq hk68
            generalize hwzs : wz.heap.size = sz at *
            clear hwzs
            obtain ⟨mt, hmt⟩ : ∃ c, c = out.any (meetsM ml mh) := ⟨_, rfl⟩
            rw [← hmt] at hcall HG4
            clear hmt
            go_wp2_with fail
            refine hcall.mono ?_
            clear hcall
            rintro e w9 ⟨rfl, hk9⟩
            have hM9 := hM8.keep hk9 fun h => h
            have hO9 := hO8.call hk9
            have c59 := (hk9.cell (p := ⟨sz, 5, none⟩) hlz fun h => h).trans c58
            have hk59 := hk58.trans' hk9
            have hlz9 := Nat.lt_of_lt_of_le hlz hk9.size
            clear hM8 hO8 c58 hk58 hlz hk9 hql
            cases mt with
            | true =>
              have hg := HG4.out
              rw [if_pos rfl] at hg
              clear HG4
              subst hg
              have hkF := hO9.old (Keep.refl _ _)
              go_wp2_with fail
              go_ret2
              first | exact ⟨_, rfl, FlO.nil, hkF⟩ | exact ⟨_, rfl, FlO.nil, fun m h => (by cases h), hkF⟩
            | false =>
              have hg := HG4.out
              rw [if_neg (by decide)] at hg
              have HG5 := Lib.hid hg
              clear hg HG4
              have hfind := HFIND.out w9 hk59
              cases fm with
              | none =>
                go_wp2_with fail
                refine hfind.mono ?_
                clear hfind
                rintro e w10 ⟨rfl, hk10⟩
                rw [show (encSg (sgD none)).toArray = #[.int .u32 0, .int .u32 0, .int .u64 0, .int .u64 0, .int .u64 0, .int .u64 0, .int .u64 0] from rfl]
                have hM10 := hM9.keep hk10 fun h => h
                have hO10 := hO9.call hk10
                clear hM9 hO9 hk10 c59 hk59 hlz9
                go_wp2_with (with_reducible refine wl_stAgg rfl _ _ _ rfl _ _ rfl rfl ?_)
                have hkW11 : Keep No w10 (w10.alloc (.cells #[.int .u32 0, .int .u32 0, .int .u64 0, .int .u64 0, .int .u64 0, .int .u64 0, .int .u64 0] 104)) := (Keep.refl _ _).alloc _
                have hBW11 : Blk (w10.alloc (.cells #[.int .u32 0, .int .u32 0, .int .u64 0, .int .u64 0, .int .u64 0, .int .u64 0, .int .u64 0] 104)) w10.heap.size #[.int .u32 0, .int .u32 0, .int .u64 0, .int .u64 0, .int .u64 0, .int .u64 0, .int .u64 0] 104 := Blk.new _ _ _
                have hzW11 : (w10.alloc (.cells #[.int .u32 0, .int .u32 0, .int .u64 0, .int .u64 0, .int .u64 0, .int .u64 0, .int .u64 0] 104)).heap.size = w10.heap.size + 1 := World.size_alloc _ _
                generalize w10.alloc (.cells #[.int .u32 0, .int .u32 0, .int .u64 0, .int .u64 0, .int .u64 0, .int .u64 0, .int .u64 0] 104) = W11 at *
                refine rg_stAgg hBW11 (by kernel_rfl) (by rfl) (by simp [Value.oneCell']) ?_
                intro w12 hF12 hk12 hz12
                have hk1012 : Keep No w10 w12 := hkW11.trans hk12 fun j hj e => by have e2 : j = w10.heap.size := e; omega
                have hM12 := hM10.keep hk1012 fun h => h
                have hO12 := hO10.call hk1012
                have hqn : w10.heap.size ≠ q := fun e => absurd hM10.lt (by omega)
                clear hBW11 hkW11 hzW11 hk12 hz12 hk1012 hM10 hO10
                have m0 := hM12.cell 0
                have m1 := hM12.cell 1
                have m2 := hM12.cell 2
                have m3 := hM12.cell 3
                have m4 := hM12.cell 4
                have m5 := hM12.cell 5
                have m6 := hM12.cell 6
                have hll : out.length ≤ 1000 := by have := HOL.out; omega
                go_wp2_with (at_builtin; refine wl_append rfl _ _ _ _ rfl _ _ rfl rfl ?_)
                refine rg_push (P := Try.prog) (enc := encMd) (x := modM u b out) (cs := #[.string nmb, .int .u64 (b : Int), .int .u64 (ml : Int), .int .u64 (mh : Int), .bool false, .int .u64 0, .int .u64 0]) _ _ Try.underlying55 modT_info (by rfl) (by decide) (by rw [HMOD.out, ← HML.out.1, ← HML.out.2]; unfold encMd; rw [← HNM.out]; rfl) (by rfl) (encMd_one _) hO12.row (by omega) (by decide) hO12.base ?_
                intro v13 w13 ho13 hk13 hn13
                have hO13 := hO12.push ho13 hk13
                have hok13 : ∀ m ∈ out ++ [modM u b out], MdOk m := fun m hm => by
                  rcases List.mem_append.1 hm with hm | hm
                  · exact HOK.out m hm
                  · rw [List.mem_singleton.1 hm, HMOD.out]
                    refine ⟨?_, ?_, ?_⟩
                    · rw [← HML.out.1, ← HML.out.2]; exact hmlh
                    · rw [← HML.out.2]; exact hmhb
                    · first | exact Nat.zero_le _ | exact hme
                have HOK13 := Lib.hid hok13
                obtain ⟨a13, n13, c13, rfl⟩ := hO13.sh
                clear m0 m1 m2 m3 m4 m5 m6 ho13 hk13 hn13 hok13 hO12 hM12 hF12
                go_wp2_with fail
                go_roundw
                case rel => exact ⟨i + 1, _, by go_num, hlt, by rw [List.length_append, HOL.out]; rfl, HOK13, HG5, hO13⟩
                case measure => simp [intOf]; omega
              | some s =>
                obtain ⟨x0, x1, x2, x3, x4, x5, x6⟩ := s
                have hme := HMD.out _ rfl
                dsimp only at hme
                go_wp2_with fail
                refine hfind.mono ?_
                clear hfind
                rintro e w10 ⟨rfl, hk10⟩
                rw [show (encSg (sgD (some ⟨x0, x1, x2, x3, x4, x5, x6⟩))).toArray = #[.int .u32 (x0 : Int), .int .u32 (x1 : Int), .int .u64 (x2 : Int), .int .u64 (x3 : Int), .int .u64 (x4 : Int), .int .u64 (x5 : Int), .int .u64 (x6 : Int)] from rfl]
                have hM10 := hM9.keep hk10 fun h => h
                have hO10 := hO9.call hk10
                clear hM9 hO9 hk10 c59 hk59 hlz9
                go_wp2_with (with_reducible refine wl_stAgg rfl _ _ _ rfl _ _ rfl rfl ?_)
                have hkW11 : Keep No w10 (w10.alloc (.cells #[.int .u32 0, .int .u32 0, .int .u64 0, .int .u64 0, .int .u64 0, .int .u64 0, .int .u64 0] 104)) := (Keep.refl _ _).alloc _
                have hBW11 : Blk (w10.alloc (.cells #[.int .u32 0, .int .u32 0, .int .u64 0, .int .u64 0, .int .u64 0, .int .u64 0, .int .u64 0] 104)) w10.heap.size #[.int .u32 0, .int .u32 0, .int .u64 0, .int .u64 0, .int .u64 0, .int .u64 0, .int .u64 0] 104 := Blk.new _ _ _
                have hzW11 : (w10.alloc (.cells #[.int .u32 0, .int .u32 0, .int .u64 0, .int .u64 0, .int .u64 0, .int .u64 0, .int .u64 0] 104)).heap.size = w10.heap.size + 1 := World.size_alloc _ _
                generalize w10.alloc (.cells #[.int .u32 0, .int .u32 0, .int .u64 0, .int .u64 0, .int .u64 0, .int .u64 0, .int .u64 0] 104) = W11 at *
                refine rg_stAgg hBW11 (by kernel_rfl) (by rfl) (by simp [Value.oneCell']) ?_
                intro w12 hF12 hk12 hz12
                have hk1012 : Keep No w10 w12 := hkW11.trans hk12 fun j hj e => by have e2 : j = w10.heap.size := e; omega
                have hM12 := hM10.keep hk1012 fun h => h
                have hO12 := hO10.call hk1012
                have hqn : w10.heap.size ≠ q := fun e => absurd hM10.lt (by omega)
                clear hBW11 hkW11 hzW11 hk12 hz12 hk1012 hM10 hO10
                have cx5 := hF12.cell 5
                have hv : (Value.slice a0 n0 c0').ownBlock ≠ some q := fun e => absurd (HOWN.out q e) (by omega)
                have hF12l := hF12.lt
                have hout : ∀ m ∈ out, m.mem ≤ 1099511627776 := fun m hm => by have := (HOK.out m hm).2.2; omega
                have hll0 : out.length ≤ 1000 := by have := HOL.out; omega
                go_upto_region 17 with fail
                refine wp_region_sig (fun w' => w'.cell? ⟨w10.heap.size, 5, none⟩ = some (.int .u64 (x5 : Int)) ∧ True) (fun j => decide (j ≤ 9)) [(0, true), (2, true), (3, true), (4, true), (1, false), (5, false), (6, true), (7, false), (8, true), (9, false)] (by kernel_rfl) (by kernel_rfl) (by intro c a d v w h; cases d <;> exact h) ⟨cx5, trivial⟩ ?_
                apply sig_still (o := ⟨some 74, _, _, _, _, _⟩) rfl rfl
                · intro w' hS
                  obtain ⟨q1, q2⟩ := hS
                  first | (go_simp; done) | (go_simp; rfl) | rfl
                go_frame
                apply sig_still (o := ⟨some 76, _, _, _, _, _⟩) rfl rfl
                · intro w' hS
                  obtain ⟨q1, q2⟩ := hS
                  first | (go_simp; done) | (go_simp; rfl) | rfl
                go_frame
                apply sig_still (o := ⟨some 77, _, _, _, _, _⟩) rfl rfl
                · intro w' hS
                  obtain ⟨q1, q2⟩ := hS
                  first | (go_simp; done) | (go_simp; rfl) | rfl
                go_frame
                apply sig_still (o := ⟨some 78, _, _, _, _, _⟩) rfl rfl
                · intro w' hS
                  obtain ⟨q1, q2⟩ := hS
                  first | (go_simp; done) | (go_simp; rfl) | rfl
                go_frame
                refine sig_eff (o := ⟨some 75, _, _, _, _, _⟩) rfl rfl (fun K hKe => ?_)
                go_wp2_with fail
                have hcall := lblock_any (w := w12.drew) out (hO12.drew).row.fl hout hll0
                have hbm := blockM_le out hout
                obtain ⟨bm, hbm'⟩ : ∃ x, x = blockM out := ⟨_, rfl⟩
                rw [← hbm'] at hcall hbm
                have HBM := Lib.hid hbm'
                clear hbm'
                refine hcall.mono ?_
                clear hcall
                rintro e w13 ⟨rfl, hk13⟩
                have hk1213 : Keep No w12 w13 := ((Keep.refl _ _).drew).trans' hk13
                have cx6 := (hk1213.cell (p := ⟨w10.heap.size, 5, none⟩) hF12l fun h => h).trans cx5
                have hM13 := hM12.keep hk1213 fun h => h
                have hO13 := hO12.call hk1213
                have hF13l := Nat.lt_of_lt_of_le hF12l hk1213.size
                have hqw : w.heap.size ≤ q := Nat.le_of_lt (Nat.lt_of_le_of_lt HSZ.out hqz)
                refine hKe _ _ ⟨fun _ => ⟨cx6, trivial⟩, ?_⟩
                have m4 := hM13.cell 4
                have f4 := hM13.frozen 4
                clear hk1213 hk13
                refine sig_eff (o := ⟨none, _, _, _, _, _⟩) rfl rfl (fun K hKe => ?_)
                go_wp2_with fail
                have hMa : Blk (w13.setCell ⟨q, 4, none⟩ (.bool true)) q #[.string nmb, .int .u64 (b : Int), .int .u64 (ml : Int), .int .u64 (mh : Int), .bool true, .int .u64 0, .int .u64 0] 62 := hM13.set (i := 4) _
                have hOa := hO13.set (i := 4) hqw hv (.bool true)
                have ka : Keep (fun j => j = q) w13 (w13.setCell ⟨q, 4, none⟩ (.bool true)) := (Keep.refl (fun j => j = q) w13).setCell (p := ⟨q, 4, none⟩) (fun _ => rfl) (.bool true)
                have cxa := (ka.cell (p := ⟨w10.heap.size, 5, none⟩) hF13l hqn).trans cx6
                have hFal := Nat.lt_of_lt_of_le hF13l ka.size
                refine ⟨fun _ => ⟨cxa, trivial⟩, ?_⟩
                clear ka m4 f4 cx6 hF13l hM13 hO13 hM12 hO12 cx5 hF12 hF12l
                generalize w13.setCell ⟨q, 4, none⟩ (.bool true) = wa at *
                apply sig_still (o := ⟨some 79, _, _, _, _, _⟩) rfl rfl
                · intro w' hS
                  obtain ⟨q1, q2⟩ := hS
                  first | (go_simp; done) | (go_simp; rfl) | rfl
                go_frame
                have m5 := hMa.cell 5
                have f5 := hMa.frozen 5
                refine sig_eff (o := ⟨none, _, _, _, _, _⟩) rfl rfl (fun K hKe => ?_)
                go_wp2_with fail
                have hMb : Blk (wa.setCell ⟨q, 5, none⟩ (.int .u64 (bm : Int))) q #[.string nmb, .int .u64 (b : Int), .int .u64 (ml : Int), .int .u64 (mh : Int), .bool true, .int .u64 (bm : Int), .int .u64 0] 62 := hMa.set (i := 5) _
                have hOb := hOa.set (i := 5) hqw hv (.int .u64 (bm : Int))
                have ka : Keep (fun j => j = q) wa (wa.setCell ⟨q, 5, none⟩ (.int .u64 (bm : Int))) := (Keep.refl (fun j => j = q) wa).setCell (p := ⟨q, 5, none⟩) (fun _ => rfl) _
                have cxb := (ka.cell (p := ⟨w10.heap.size, 5, none⟩) hFal hqn).trans cxa
                have hFbl := Nat.lt_of_lt_of_le hFal ka.size
                refine ⟨fun _ => ⟨cxb, trivial⟩, ?_⟩
                clear ka m5 f5 cxa hFal hMa hOa
                generalize wa.setCell ⟨q, 5, none⟩ (.int .u64 (bm : Int)) = wb at *
                apply sig_still (o := ⟨some 80, _, _, _, _, _⟩) rfl rfl
                · intro w' hS
                  obtain ⟨q1, q2⟩ := hS
                  first | (go_simp; done) | (go_simp; rfl) | rfl
                go_frame
                have m6 := hMb.cell 6
                have f6 := hMb.frozen 6
                refine sig_eff (o := ⟨none, _, _, _, _, _⟩) rfl rfl (fun K hKe => ?_)
                go_wp2_with fail
                have hMc : Blk (wb.setCell ⟨q, 6, none⟩ (.int .u64 (x5 : Int))) q #[.string nmb, .int .u64 (b : Int), .int .u64 (ml : Int), .int .u64 (mh : Int), .bool true, .int .u64 (bm : Int), .int .u64 (x5 : Int)] 62 := hMb.set (i := 6) _
                have hOc := hOb.set (i := 6) hqw hv (.int .u64 (x5 : Int))
                have ka : Keep (fun j => j = q) wb (wb.setCell ⟨q, 6, none⟩ (.int .u64 (x5 : Int))) := (Keep.refl (fun j => j = q) wb).setCell (p := ⟨q, 6, none⟩) (fun _ => rfl) _
                have cxc := (ka.cell (p := ⟨w10.heap.size, 5, none⟩) hFbl hqn).trans cxb
                refine ⟨fun _ => ⟨cxc, trivial⟩, ?_⟩
                refine sig_nil ?_
                clear ka m6 f6 cxb hFbl hMb hOb cxc
                generalize wb.setCell ⟨q, 6, none⟩ (.int .u64 (x5 : Int)) = w12' at *
                have hM12 := hMc
                have hO12 := hOc
                clear hMc hOc hKe
                have m0 := hM12.cell 0
                have m1 := hM12.cell 1
                have m2 := hM12.cell 2
                have m3 := hM12.cell 3
                have m4 := hM12.cell 4
                have m5 := hM12.cell 5
                have m6 := hM12.cell 6
                have hll : out.length ≤ 1000 := by have := HOL.out; omega
                go_wp2_with (at_builtin; refine wl_append rfl _ _ _ _ rfl _ _ rfl rfl ?_)
                refine rg_push (P := Try.prog) (enc := encMd) (x := modM u b out) (cs := #[.string nmb, .int .u64 (b : Int), .int .u64 (ml : Int), .int .u64 (mh : Int), .bool true, .int .u64 (bm : Int), .int .u64 (x5 : Int)]) _ _ Try.underlying55 modT_info (by rfl) (by decide) (by rw [HMOD.out, ← HML.out.1, ← HML.out.2]; unfold encMd; rw [← HNM.out, ← HBM.out]) (by rfl) (encMd_one _) hO12.row (by omega) (by decide) hO12.base ?_
                intro v13 w13 ho13 hk13 hn13
                have hO13 := hO12.push ho13 hk13
                have hok13 : ∀ m ∈ out ++ [modM u b out], MdOk m := fun m hm => by
                  rcases List.mem_append.1 hm with hm | hm
                  · exact HOK.out m hm
                  · rw [List.mem_singleton.1 hm, HMOD.out]
                    refine ⟨?_, ?_, ?_⟩
                    · rw [← HML.out.1, ← HML.out.2]; exact hmlh
                    · rw [← HML.out.2]; exact hmhb
                    · first | exact Nat.zero_le _ | exact hme
                have HOK13 := Lib.hid hok13
                obtain ⟨a13, n13, c13, rfl⟩ := hO13.sh
                clear m0 m1 m2 m3 m4 m5 m6 ho13 hk13 hn13 hok13 hO12 hM12
                go_wp2_with fail
                go_roundw
                case rel => exact ⟨i + 1, _, by go_num, hlt, by rw [List.length_append, HOL.out]; rfl, HOK13, HG5, hO13⟩
                case measure => simp [intOf]; omega
      · obtain rfl : i = n := Nat.le_antisymm hi hge
        have hg := HG.out
        rw [List.drop_of_length_le (by rw [← HPL.out, ← HN.out]; exact Nat.le_refl _)] at hg
        have hg : (0, out) = res := hg
        subst hg
        clear HG
        have hkF := hO.old (Keep.refl _ _)
        go_wp2_with fail
        go_ret2
        exact ⟨_, rfl, hO.row, HOK.out, hkF⟩
  · have hne : ((n : Int) != (nb : Int)) = true := by rw [bne_iff_ne]; omega
    have hR : res = (1, []) := by
      have h := HR.out
      unfold layL at h
      rw [if_pos (fun hq => heq (by rw [HN.out, HPL.out, HNB.out, hq]))] at h
      exact h
    subst hR
    clear HR heq
    go_wp2_with fail
    go_ret2
    first | exact ⟨_, rfl, FlO.nil, Keep.refl _ _⟩ | exact ⟨_, rfl, FlO.nil, fun m h => (by cases h), Keep.refl _ _⟩
end
end Go.Proofs.Ytbnahidopemkiaa
