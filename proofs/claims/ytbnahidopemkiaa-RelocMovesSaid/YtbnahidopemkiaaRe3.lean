/- reloc.all: an iterator; what its rounds must keep. reloc.Resolve. No condition. -/
import Derived.RangeFuncNested
import Derived.RangeFuncBound
import Derived.RangeFuncCalls
import Derived.RangeFuncLeaves
import Derived.Shelf.RegionOpen
import Derived.OwnWalkIn
import Derived.Test.YtbnahidopemkiaaRe1
import Derived.Test.YtbnahidopemkiaaLy4
import Derived.Test.YtbnahidopemkiaaSigT
import Derived.TacticsInMore
import Derived.LoopIn
import Derived.WalkKit
set_option linter.unusedVariables false
set_option linter.unusedSimpArgs false
namespace Go.Dm.Ld
open Go
def pickU (i : Nat) (p : BS × Sy) : Option (BS × Tg) := if p.2.sec ≠ 0 ∧ p.2.inf / 16 ≠ 0 then some (p.1, ⟨(i : Int), p.2⟩) else none
theorem allU_eq (i : Nat) (u : Im) : allU i u = (u.names.zip u.syms).filterMap (pickU i) := rfl
/-- what is still to come from unit i on -/
def restO (us : List (BS × Im)) (i : Nat) : List (BS × Tg) := (us.zipIdx.drop i).flatMap fun p => allU p.2 p.1.2
theorem restO_zero (us : List (BS × Im)) : restO us 0 = allM us := rfl
theorem restO_end {us : List (BS × Im)} {i : Nat} (h : us.length ≤ i) : restO us i = [] := by
  unfold restO
  rw [List.drop_of_length_le (by rw [List.length_zipIdx]; exact h)]
  rfl
theorem restO_step {us : List (BS × Im)} {i : Nat} (h : i < us.length) : restO us i = allU i us[i].2 ++ restO us (i + 1) := by
  unfold restO
  have h1 : i < us.zipIdx.length := by rw [List.length_zipIdx]; exact h
  rw [List.drop_eq_getElem_cons h1, List.flatMap_cons, List.getElem_zipIdx]
  simp
/-- what is still to come of a unit from symbol k on -/
def restU (i : Nat) (ns : List BS) (ss : List Sy) (k : Nat) : List (BS × Tg) := ((ns.zip ss).drop k).filterMap (pickU i)
theorem restU_end {i k : Nat} {ns : List BS} {ss : List Sy} (h : ss.length ≤ k) : restU i ns ss k = [] := by
  unfold restU
  rw [List.drop_of_length_le (by rw [List.length_zip]; omega)]
  rfl
theorem restU_step {i k : Nat} {ns : List BS} {ss : List Sy} (h : k < ss.length) (h' : k < ns.length) : restU i ns ss k = (match pickU i (ns[k], ss[k]) with | some y => [y] | none => []) ++ restU i ns ss (k + 1) := by
  unfold restU
  have h1 : k < (ns.zip ss).length := by rw [List.length_zip]; omega
  rw [List.drop_eq_getElem_cons h1, List.filterMap_cons, List.getElem_zip]
  cases pickU i (ns[k], ss[k]) <;> rfl
end Go.Dm.Ld
namespace Go.Proofs.Ytbnahidopemkiaa
open Go.RowKit Go.Dm Go.Dm.Oc Go.Dm.Ld
attribute [local go_sem] Oper.semAt_some
/-- what a round that goes on must keep: all that lay below, and every block of cells -/
def KC (n₀ : Nat) (W W' : World) : Prop := Below n₀ W W' ∧ ∀ k cs t, Blk W k cs t → Blk W' k cs t
theorem KC.trans {n₀ : Nat} {X Y Z : World} (h : KC n₀ X Y) (k : KC n₀ Y Z) : KC n₀ X Z := ⟨h.1.trans k.1, fun j cs t hb => k.2 j cs t (h.2 j cs t hb)⟩
theorem KC.refl (n₀ : Nat) (W : World) : KC n₀ W W := ⟨Below.refl _ _, fun _ _ _ h => h⟩
theorem KC.of_keep {n₀ : Nat} {W W' : World} (h : Keep No W W') (hn : n₀ ≤ W.heap.size) : KC n₀ W W' := ⟨h.below _ hn fun _ h => h.elim, fun _ _ _ hb => hb.keep h fun h => h⟩
theorem KC.put {n₀ : Nat} {w : World} (hn : n₀ ≤ w.heap.size) (W : World) (l : Nat) (o o' : Obj) (hl : w.heap.size ≤ l) (h : W.heap[l]? = some o) (hc : o.isCells = false) (hw : o.isWalk = false) : KC n₀ W (W.putObj l o') := by
  refine ⟨belowK_b hn W l o o' hl h hc hw, fun k cs t hb => ?_⟩
  by_cases e : k = l
  · subst e
    have : W.heap[k]? = _ := hb
    rw [h] at this
    cases this
    cases hc
  · exact hb.same (World.putObj_heap_other e)
theorem KC.keep {n₀ : Nat} {W W' : World} (h : KC n₀ W W') : Keep (fun k => n₀ ≤ k) W W' := ⟨h.1.os, h.1.tape, h.1.output, h.1.size, fun k _ hk => h.1.block k (by omega)⟩
theorem KC.size {n₀ : Nat} {W W' : World} (h : KC n₀ W W') : W.heap.size ≤ W'.heap.size := h.1.size
def encYs (x : BS × Tg) : Array Value := #[.string ⟨x.1.toArray⟩, .agg (encTg x.2).toArray]
set_option maxHeartbeats 1000000 in
theorem reall_any {v : Value} (w : World) (hv : ∃ a n c, v = .slice a n c) : Calls Try.prog 62 #[v] w fun e w' => e = .returned (.func (.func 76) #[] #[.pointer (some ⟨w.heap.size, 0, none⟩)]) ∧ w' = w.alloc (.cells #[v] 30) := by
  obtain ⟨a, n, c, rfl⟩ := hv
  go_enter Try.func62, Try.ntmps62
  go_wp2_with fail
  go_ret
  exact ⟨rfl, rfl⟩
section
variable {w0 : World} {v : Value} {ps : List UC} {us : List (BS × Im)} {n₀ Bs : Nat}
set_option maxRecDepth 100000 in
set_option maxHeartbeats 4000000 in
theorem reall1_stops (n : Nat) (hn : 1 ≤ n) (hl : Fl (fun k => k < n₀) w0 12 encU v ps) (hu : UsOk (fun k => k < n₀) w0 ps us) (hok : ∀ u ∈ us, u.2.names.length = u.2.syms.length ∧ ∀ s ∈ u.2.syms, SyOk s)
    (hn₀ : n₀ ≤ w0.heap.size) (hB : Bs < w0.heap.size) (hBs : w0.cell? ⟨Bs, 0, none⟩ = some v) :
    SeqStopsK Fence.wide n Try.prog 76 #[.pointer (some ⟨Bs, 0, none⟩)] encYs (KC n₀) (fun xs => xs = allM us) (fun pre => ∃ r, allM us = pre ++ r) (allM us).length w0 := by
  intro l J Jx W hW hJ hJx hY h0
  refine callsIn_wide.2 ?_
  show Calls Try.prog 76 #[.func (.yield l) #[] #[], .pointer (some ⟨Bs, 0, none⟩)] W _
  have kW := Keep.of_below hW
  have hszW := kW.size
  have hc := (kW.cell (p := ⟨Bs, 0, none⟩) hB fun h => h).trans hBs
  have HL := Lib.hid (hl.no kW)
  have HU := Lib.hid (hu.keep kW fun _ _ _ h => h)
  have hpl : ps.length = us.length := hu.1
  obtain ⟨ao, co, rfl, hc1, hc2⟩ := (hl.no kW).shape
  obtain ⟨m, hm⟩ : ∃ m, m = ps.length := ⟨_, rfl⟩
  rw [← hm] at hc
  have hmb : m ≤ 9223372036854775807 := by unfold maxLen at hc2; omega
  have HM := Lib.hid hm
  have HPL := Lib.hid hpl
  have HY := Lib.hid hY
  have HJ := Lib.hid hJ
  have HOK := Lib.hid hok
  have hJn : Hid (∀ pre X Y, J pre X → Keep No X Y → J pre Y) := Lib.hid fun pre X Y hj hk => HJ.out pre X Y none hj hk.toGrown (fun r e => by cases e)
  have hR : Hid (allM us = [] ++ restO us 0) := Lib.hid (by rw [restO_zero]; rfl)
  have hn1 : n₀ ≤ W.heap.size := by omega
  clear hl hu hc1 hc2 hm hpl hY hJ hJx hok hBs hB kW hW
  go_enter Try.func76, Try.ntmps76
  go_wp2_with fail
  go_loopw [3, 4, 5, 6, 9] (fun _ _ _ _ iv wr => ∃ (i : Nat) (pre : List (BS × Tg)), iv = .int .i64 i ∧ i ≤ m ∧ Hid (allM us = pre ++ restO us i) ∧ KC n₀ W wr ∧ J pre wr) (fun _ _ _ _ iv _ => m - (intOf iv).toNat)
  case atStart => exact ⟨0, [], rfl, Nat.zero_le _, hR, KC.refl _ _, h0⟩
  case round =>
    obtain ⟨i, pre, rfl, hi, HG, hK, hJs⟩ := hrel
    clear hR hc h0
    generalize wr = wz at *
    rcases Nat.lt_or_ge i m with hlt | hge
    · have hlt1 : i < ps.length := by rw [← HM.out]; exact hlt
      have hus : i < us.length := by rw [← HPL.out]; exact hlt1
      have hnz : n₀ ≤ wz.heap.size := Nat.le_trans hn1 hK.size
      obtain ⟨g1, off, cap, ev, _, _, _, _, hc⟩ := (HL.out.keep hK.keep fun _ _ h h2 => Nat.lt_irrefl _ (Nat.lt_of_lt_of_le h h2)).at encU_len hlt1
      rw [← HM.out] at ev
      cases ev
      have hiz : (i : Int) < (m : Int) := by omega
      have huo := (HU.out.2 i _ _ (List.getElem?_eq_getElem hlt1) (List.getElem?_eq_getElem hus)).keep hK.keep fun _ _ h h2 => Nat.lt_irrefl _ (Nat.lt_of_lt_of_le h h2)
      have hone := encU_one huo
      obtain ⟨hns, hsy⟩ := HOK.out _ (List.getElem_mem hus)
      have hg := HG.out
      rw [restO_step hus] at hg
      have HG2 := Lib.hid hg
      clear hg HG
      generalize us[i] = u at *
      generalize ps[i] = p at *
      have hib : i ≤ 9223372036854775807 := by omega
      go_wp2_with (first | (with_reducible refine wl_ld rfl _ 43 rfl _ rfl ?_) | (with_reducible refine wl_stAgg rfl _ _ _ rfl _ _ rfl rfl ?_))
      refine rg_lds (l := encU p) hc Try.underlying43 rfl (by kernel_rfl) ?_
      go_wp2_with (first | (with_reducible refine wl_ld rfl _ 43 rfl _ rfl ?_) | (with_reducible refine wl_stAgg rfl _ _ _ rfl _ _ rfl rfl ?_))
      have hkW4 : Keep No wz (wz.alloc (.cells #[.string ⟨#[]⟩, .int .i64 0, .int .u64 0, .int .u64 0, .int .i64 0, .slice none 0 0, .string ⟨#[]⟩, .slice none 0 0, .slice none 0 0, .slice none 0 0, .slice none 0 0, .slice none 0 0] 43)) := (Keep.refl _ _).alloc _
      have hBW4 : Blk (wz.alloc (.cells #[.string ⟨#[]⟩, .int .i64 0, .int .u64 0, .int .u64 0, .int .i64 0, .slice none 0 0, .string ⟨#[]⟩, .slice none 0 0, .slice none 0 0, .slice none 0 0, .slice none 0 0, .slice none 0 0] 43)) wz.heap.size #[.string ⟨#[]⟩, .int .i64 0, .int .u64 0, .int .u64 0, .int .i64 0, .slice none 0 0, .string ⟨#[]⟩, .slice none 0 0, .slice none 0 0, .slice none 0 0, .slice none 0 0, .slice none 0 0] 43 := Blk.new _ _ _
      have hzW4 : (wz.alloc (.cells #[.string ⟨#[]⟩, .int .i64 0, .int .u64 0, .int .u64 0, .int .i64 0, .slice none 0 0, .string ⟨#[]⟩, .slice none 0 0, .slice none 0 0, .slice none 0 0, .slice none 0 0, .slice none 0 0] 43)).heap.size = wz.heap.size + 1 := World.size_alloc _ _
      generalize wz.alloc (.cells #[.string ⟨#[]⟩, .int .i64 0, .int .u64 0, .int .u64 0, .int .i64 0, .slice none 0 0, .string ⟨#[]⟩, .slice none 0 0, .slice none 0 0, .slice none 0 0, .slice none 0 0, .slice none 0 0] 43) = W4 at *
      refine rg_stAgg hBW4 (by kernel_rfl) (by rfl) hone ?_
      intro w5 hI5 hk5 hz5
      have hkz5 : Keep No wz w5 := hkW4.trans hk5 fun j hj e => by have e2 : j = wz.heap.size := e; omega
      have huo5 := huo.keep hkz5 fun _ _ _ h => h
      have hJ5 := hJn.out _ _ _ hJs hkz5
      have hK5 := hK.trans (KC.of_keep hkz5 hnz)
      clear hBW4 hkW4 hzW4 hk5 hz5 hc huo hone hJs hK hkz5
      obtain ⟨_, vs, vn, vm, vy, vr, vb, e, _, _, hnm, hsm, _⟩ := huo5
      have e3 : some p.vm = some vm := congrArg (fun l : List Value => l[7]?) e
      injection e3 with e3
      have e4 : some p.vy = some vy := congrArg (fun l : List Value => l[8]?) e
      injection e4 with e4
      rw [← e3] at hnm
      rw [← e4] at hsm
      have c8 : w5.cell? ⟨wz.heap.size, 8, none⟩ = some p.vm := hI5.cell 8
      have c9 : w5.cell? ⟨wz.heap.size, 9, none⟩ = some p.vy := hI5.cell 9
      obtain ⟨an, cn, epn, _, _⟩ := hnm.shape
      obtain ⟨ay, cy, epy, _, hcy⟩ := hsm.shape
      rw [epn] at c8 hnm
      rw [epy] at c9 hsm
      rw [hns] at c8 hnm
      have hn5 : n₀ ≤ w5.heap.size := Nat.le_trans hn1 hK5.size
      obtain ⟨q, hq⟩ : ∃ q, q = u.2.syms.length := ⟨_, rfl⟩
      rw [← hq] at c8 c9 hnm hsm
      have hqb : q ≤ 9223372036854775807 := by unfold maxLen at hcy; omega
      have HQ := Lib.hid hq
      have HNS := Lib.hid hns
      have HSY := Lib.hid hsy
      have HNM := Lib.hid hnm
      have HSM := Lib.hid hsm
      have hR5 : Hid (allM us = pre ++ restU i u.2.names u.2.syms 0 ++ restO us (i + 1)) := Lib.hid (by
        have := HG2.out
        rw [allU_eq] at this
        rw [this, List.append_assoc]
        rfl)
      have hbz : wz.heap.size < w5.heap.size := Blk.lt hI5
      clear e e3 e4 epn epy hcy hq hns hsy hnm hsm HG2
      go_wp2_with fail
      go_loopw [5, 6, 18] (fun _ _ kv wr => ∃ (k : Nat) (pr : List (BS × Tg)), kv = .int .i64 k ∧ k ≤ q ∧ Hid (allM us = pr ++ restU i u.2.names u.2.syms k ++ restO us (i + 1)) ∧ KC n₀ w5 wr ∧ J pr wr) (fun _ _ kv _ => q - (intOf kv).toNat)
      case atStart => exact ⟨0, pre, rfl, Nat.zero_le _, hR5, KC.refl _ _, hJ5⟩
      case round =>
        obtain ⟨k, pr, rfl, hk, HG, hK, hJs⟩ := hrel
        clear hR5 hJ5 c9
        generalize wr = wx at *
        have hIx := hK.2 _ _ _ hI5
        replace c8 := (hIx.cell 8).trans ((hI5.cell 8).symm.trans c8)
        rcases Nat.lt_or_ge k q with hltk | hgek
        · have hk1 : k < u.2.syms.length := by rw [← HQ.out]; exact hltk
          have hk2 : k < u.2.names.length := by rw [HNS.out]; exact hk1
          have hnx : n₀ ≤ wx.heap.size := Nat.le_trans hn5 hK.size
          have hny := HNM.out.keep hK.keep fun _ _ h h2 => Nat.lt_irrefl _ (Nat.lt_of_lt_of_le h h2)
          obtain ⟨g2, off2, cap2, ev2, _, hg2, _, _, hd⟩ := (HSM.out.keep hK.keep fun _ _ h h2 => Nat.lt_irrefl _ (Nat.lt_of_lt_of_le h h2)).at encSy_len hk1
          rw [← HQ.out] at ev2
          cases ev2
          have hkz : (k : Int) < (q : Int) := by omega
          have hso := HSY.out _ (List.getElem_mem hk1)
          have hg := HG.out
          rw [restU_step hk1 hk2] at hg
          have HG2 := Lib.hid hg
          clear hg HG
          have hone := encSy_one u.2.syms[k]
          generalize u.2.syms[k] = s at *
          generalize hnn : u.2.names[k] = nm at *
          have HNN := Lib.hid hnn
          clear hnn
          go_wp2_with (first | (with_reducible refine wl_ld rfl _ 108 rfl _ rfl ?_) | (with_reducible refine wl_stAgg rfl _ _ _ rfl _ _ rfl rfl ?_))
          refine rg_lds (l := encSy s) hd Try.underlying108 rfl (by kernel_rfl) ?_
          go_wp2_with (first | (with_reducible refine wl_ld rfl _ 108 rfl _ rfl ?_) | (with_reducible refine wl_stAgg rfl _ _ _ rfl _ _ rfl rfl ?_))
          have hkW6 : Keep No wx (wx.alloc (.cells #[.int .u32 0, .int .u8 0, .int .u8 0, .int .u16 0, .int .u64 0, .int .u64 0] 108)) := (Keep.refl _ _).alloc _
          have hBW6 : Blk (wx.alloc (.cells #[.int .u32 0, .int .u8 0, .int .u8 0, .int .u16 0, .int .u64 0, .int .u64 0] 108)) wx.heap.size #[.int .u32 0, .int .u8 0, .int .u8 0, .int .u16 0, .int .u64 0, .int .u64 0] 108 := Blk.new _ _ _
          have hzW6 : (wx.alloc (.cells #[.int .u32 0, .int .u8 0, .int .u8 0, .int .u16 0, .int .u64 0, .int .u64 0] 108)).heap.size = wx.heap.size + 1 := World.size_alloc _ _
          generalize wx.alloc (.cells #[.int .u32 0, .int .u8 0, .int .u8 0, .int .u16 0, .int .u64 0, .int .u64 0] 108) = W6 at *
          refine rg_stAgg hBW6 (by kernel_rfl) (by rfl) (by rw [List.all_toArray]; exact List.all_eq_true.2 hone) ?_
          intro w7 hI7 hk7 hz7
          have hkz7 : Keep No wx w7 := hkW6.trans hk7 fun j hj e => by have e2 : j = wx.heap.size := e; omega
          have hIu := hIx.keep hkz7 fun h => h
          have hny7 := hny.no hkz7
          have hJ7 := hJn.out _ _ _ hJs hkz7
          have hK7 := hK.trans (KC.of_keep hkz7 hnx)
          have c8' := (hkz7.cell (p := ⟨wz.heap.size, 8, none⟩) hIx.lt fun h => h).trans c8
          clear hBW6 hkW6 hzW6 hk7 hz7 hd hJs hK hIx hny hkz7 c8 hone
          go_upto_region 6 with fail
          refine wpIn_wide (n := n).1 ?_
          obtain ⟨x0, x1, x2, x3, x4, x5⟩ := s
          have hdef := fun W => sydef_any (w := W) ⟨x0, x1, x2, x3, x4, x5⟩
          have hbin := fun W => sybind_any (w := W) ⟨x0, x1, x2, x3, x4, x5⟩ hso.2.1
          unfold encSy at hI7 hdef hbin
          dsimp only at hI7 hdef hbin
          have hmx : Try.prog.follows .mixedOrders = true := by kernel_rfl
          replace hI7 := hI7.same (w' := w7.drew) rfl
          replace hIu := hIu.same (w' := w7.drew) rfl
          replace hny7 := hny7.no ((Keep.refl No w7).drew)
          replace hJ7 := hJn.out _ _ _ hJ7 ((Keep.refl No w7).drew)
          replace hK7 := hK7.trans (KC.of_keep ((Keep.refl No w7).drew) (Nat.le_trans hn5 hK7.size))
          replace c8' : w7.drew.cell? ⟨wz.heap.size, 8, none⟩ = _ := c8'
          obtain ⟨wd, hwd⟩ : ∃ wd, wd = w7.drew := ⟨_, rfl⟩
          rw [← hwd] at hI7 hIu hny7 hJ7 hK7 c8'
          have d0 := hI7.cell 0
          have d1 := hI7.cell 1
          have d2 := hI7.cell 2
          have d3 := hI7.cell 3
          have d4 := hI7.cell 4
          have d5 := hI7.cell 5
          refine wpIn_region_any hmx ?_
          show wpAnyIn _ _ _ _ _ _ _ _ _ w7.drew
          rw [← hwd]
          clear hwd
          have hk0 : ∀ X Y, KC n₀ w5 X → Keep No X Y → KC n₀ w5 Y := fun X Y h h2 => h.trans (KC.of_keep h2 (Nat.le_trans hn5 h.size))
          have HK0 := Lib.hid hk0
          clear hk0
          rcases Bool.eq_false_or_eq_true (decide (x3 ≠ 0)) with hb1 | hb1
          · rw [hb1] at hdef
            have hx3 : x3 ≠ 0 := of_decide_eq_true hb1
            (refine wpAnyIn_ready (rs := [0]) (by kernel_rfl) (by simp) (AllReadyIn.cons rfl (fun K0 hK0 => ?_) AllReadyIn.nil); go_simp; refine hK0 _ _ ?_; clear hK0 K0)
            (refine wpAnyIn_ready (rs := [1]) (by kernel_rfl) (by simp) (AllReadyIn.cons rfl (fun K hK => ?_) AllReadyIn.nil); go_simp)
            refine ⟨trivial, (callsIn_wide.2 (hdef _)).mono ?_⟩
            rintro e w8 ⟨rfl, k8⟩
            refine hK _ _ ?_
            clear hK K hdef hb1
            replace hny7 := hny7.no k8
            replace hJ7 := hJn.out _ _ _ hJ7 k8
            replace hK7 := HK0.out _ _ hK7 k8
            replace c8' := (k8.cell (p := ⟨wz.heap.size, 8, none⟩) hIu.lt fun h => h).trans c8'
            replace hIu := hIu.keep k8 fun h => h
            replace d0 := (k8.cell (p := ⟨wx.heap.size, 0, none⟩) hI7.lt fun h => h).trans d0
            replace d1 := (k8.cell (p := ⟨wx.heap.size, 1, none⟩) hI7.lt fun h => h).trans d1
            replace d2 := (k8.cell (p := ⟨wx.heap.size, 2, none⟩) hI7.lt fun h => h).trans d2
            replace d3 := (k8.cell (p := ⟨wx.heap.size, 3, none⟩) hI7.lt fun h => h).trans d3
            replace d4 := (k8.cell (p := ⟨wx.heap.size, 4, none⟩) hI7.lt fun h => h).trans d4
            replace d5 := (k8.cell (p := ⟨wx.heap.size, 5, none⟩) hI7.lt fun h => h).trans d5
            replace hI7 := hI7.keep k8 fun h => h
            (refine wpAnyIn_ready (rs := [2]) (by kernel_rfl) (by simp) (AllReadyIn.cons rfl (fun K0 hK0 => ?_) AllReadyIn.nil); go_simp; refine hK0 _ _ ?_; clear hK0 K0)
            (refine wpAnyIn_ready (rs := [3]) (by kernel_rfl) (by simp) (AllReadyIn.cons rfl (fun K0 hK0 => ?_) AllReadyIn.nil); go_simp; refine hK0 _ _ ?_; clear hK0 K0)
            (refine wpAnyIn_ready (rs := [4]) (by kernel_rfl) (by simp) (AllReadyIn.cons rfl (fun K hK => ?_) AllReadyIn.nil); go_simp)
            refine ⟨trivial, (callsIn_wide.2 (hbin _)).mono ?_⟩
            rintro e w9 ⟨rfl, k9⟩
            refine hK _ _ ?_
            clear hK K hbin
            replace d0 := (k9.cell (p := ⟨wx.heap.size, 0, none⟩) hI7.lt fun h => h).trans d0
            replace d1 := (k9.cell (p := ⟨wx.heap.size, 1, none⟩) hI7.lt fun h => h).trans d1
            replace d2 := (k9.cell (p := ⟨wx.heap.size, 2, none⟩) hI7.lt fun h => h).trans d2
            replace d3 := (k9.cell (p := ⟨wx.heap.size, 3, none⟩) hI7.lt fun h => h).trans d3
            replace d4 := (k9.cell (p := ⟨wx.heap.size, 4, none⟩) hI7.lt fun h => h).trans d4
            replace d5 := (k9.cell (p := ⟨wx.heap.size, 5, none⟩) hI7.lt fun h => h).trans d5
            replace hny7 := hny7.no k9
            replace hJ7 := hJn.out _ _ _ hJ7 k9
            replace hK7 := HK0.out _ _ hK7 k9
            replace c8' := (k9.cell (p := ⟨wz.heap.size, 8, none⟩) hIu.lt fun h => h).trans c8'
            replace hIu := hIu.keep k9 fun h => h
            clear k8 k9 HK0
            rcases Nat.eq_zero_or_pos (x1 / 16) with hb2 | hb2
            · have hpk : pickU i (nm, ⟨x0, x1, x2, x3, x4, x5⟩) = none := if_neg fun h => h.2 hb2
              rw [hpk] at HG2
              rw [hb2]
              clear hpk hb2 hx3 hI7 hIu hny7 c8' d0 d1 d2 d3 d4 d5
              (refine wpAnyIn_ready (rs := [5]) (by kernel_rfl) (by simp) (AllReadyIn.cons rfl (fun K0 hK0 => ?_) AllReadyIn.nil); go_simp; refine hK0 _ _ ?_; clear hK0 K0)
              (refine wpAnyIn_ready (rs := [6]) (by kernel_rfl) (by simp) (AllReadyIn.cons rfl (fun K0 hK0 => ?_) AllReadyIn.nil); go_simp; refine hK0 _ _ ?_; clear hK0 K0)
              (refine wpAnyIn_ready (rs := [7]) (by kernel_rfl) (by simp) (AllReadyIn.cons rfl (fun K0 hK0 => ?_) AllReadyIn.nil); go_simp; refine hK0 _ _ ?_; clear hK0 K0)
              (refine wpAnyIn_take (i := 8) (v := undef) rfl rfl (by kernel_rfl) (by kernel_rfl) (by kernel_rfl) (fun _ _ _ h => h) ⟨Or.inr ⟨by rfl, rfl⟩, fun _ => rfl⟩ ?_; go_simp)
              (refine wpAnyIn_take (i := 9) (v := undef) rfl rfl (by kernel_rfl) (by kernel_rfl) (by kernel_rfl) (fun _ _ _ h => h) ⟨Or.inr ⟨by rfl, rfl⟩, fun _ => rfl⟩ ?_; go_simp)
              (refine wpAnyIn_take (i := 10) (v := undef) rfl rfl (by kernel_rfl) (by kernel_rfl) (by kernel_rfl) (fun _ _ _ h => h) ⟨Or.inr ⟨by rfl, rfl⟩, fun _ => rfl⟩ ?_; go_simp)
              (refine wpAnyIn_take (i := 11) (v := undef) rfl rfl (by kernel_rfl) (by kernel_rfl) (by kernel_rfl) (fun _ _ _ h => h) ⟨Or.inr ⟨by rfl, rfl⟩, fun _ => rfl⟩ ?_; go_simp)
              (refine wpAnyIn_take (i := 12) (v := undef) rfl rfl (by kernel_rfl) (by kernel_rfl) (by kernel_rfl) (fun _ _ _ h => h) ⟨Or.inr ⟨by rfl, rfl⟩, fun _ => rfl⟩ ?_; go_simp)
              (refine wpAnyIn_take (i := 13) (v := undef) rfl rfl (by kernel_rfl) (by kernel_rfl) (by kernel_rfl) (fun _ _ _ h => h) ⟨Or.inr ⟨by rfl, rfl⟩, fun _ => rfl⟩ ?_; go_simp)
              (refine wpAnyIn_take (i := 14) (v := undef) rfl rfl (by kernel_rfl) (by kernel_rfl) (by kernel_rfl) (fun _ _ _ h => h) ⟨Or.inr ⟨by rfl, rfl⟩, fun _ => rfl⟩ ?_; go_simp)
              (refine wpAnyIn_take (i := 15) (v := undef) rfl rfl (by kernel_rfl) (by kernel_rfl) (by kernel_rfl) (fun _ _ _ h => h) ⟨Or.inr ⟨by rfl, rfl⟩, fun _ => rfl⟩ ?_; go_simp)
              (refine wpAnyIn_take (i := 16) (v := undef) rfl rfl (by kernel_rfl) (by kernel_rfl) (by kernel_rfl) (fun _ _ _ h => h) ⟨Or.inr ⟨by rfl, rfl⟩, fun _ => rfl⟩ ?_; go_simp)
              (refine wpAnyIn_take (i := 17) (v := undef) rfl rfl (by kernel_rfl) (by kernel_rfl) (by kernel_rfl) (fun _ _ _ h => h) ⟨Or.inr ⟨by rfl, rfl⟩, fun _ => rfl⟩ ?_; go_simp)
              (refine wpAnyIn_take (i := 18) (v := undef) rfl rfl (by kernel_rfl) (by kernel_rfl) (by kernel_rfl) (fun _ _ _ h => h) ⟨Or.inr ⟨by rfl, rfl⟩, fun _ => rfl⟩ ?_; go_simp)
              (refine wpAnyIn_take (i := 19) (v := undef) rfl rfl (by kernel_rfl) (by kernel_rfl) (by kernel_rfl) (fun _ _ _ h => h) ⟨Or.inr ⟨by rfl, rfl⟩, fun _ => rfl⟩ ?_; go_simp)
              (refine wpAnyIn_ready (rs := [20]) (by kernel_rfl) (by simp) (AllReadyIn.cons rfl (fun K0 hK0 => ?_) AllReadyIn.nil); go_simp; refine hK0 _ _ ?_; clear hK0 K0)
              refine wpAnyIn_done (by kernel_rfl) ?_ _
              go_simp
              go_wp2_with fail
              go_roundw
              case rel => exact ⟨k + 1, pr, by go_num, hltk, HG2, hK7, hJ7⟩
              case measure => simp [intOf]; omega
            · have hpk : pickU i (nm, ⟨x0, x1, x2, x3, x4, x5⟩) = some (nm, ⟨(i : Int), ⟨x0, x1, x2, x3, x4, x5⟩⟩) := if_pos ⟨hx3, Nat.ne_of_gt hb2⟩
              rw [hpk] at HG2
              obtain ⟨km, hkm⟩ : ∃ q, q = x1 / 16 := ⟨_, rfl⟩
              rw [← hkm]
              have hkz0 : ((km : Int) != 0) = true := by rw [bne_iff_ne]; omega
              obtain ⟨g3, off3, cap3, ev3, _, hg3, _, _, hd3⟩ := hny7.at (fun _ => rfl) hk2
              injection ev3 with q1 q2 q3
              subst q1
              have c0 := hd3 0 _ rfl
              rw [Nat.mul_one, Nat.add_zero] at c0
              rw [HNN.out] at c0
              have hlen : pr.length < (allM us).length := by rw [HG2.out]; simp only [List.length_append, List.length_cons]; omega
              obtain ⟨fn, tm, asg, bdy, hy, hR⟩ := HY.out pr (nm, ⟨(i : Int), ⟨x0, x1, x2, x3, x4, x5⟩⟩) _ hJ7 hlen
              unfold encYs encTg encSy at hy
              dsimp only at hy
              clear hpk hb2 hx3 hkm hd3 q2 q3
              (refine wpAnyIn_ready (rs := [5]) (by kernel_rfl) (by simp) (AllReadyIn.cons rfl (fun K0 hK0 => ?_) AllReadyIn.nil); go_simp; refine hK0 _ _ ?_; clear hK0 K0)
              (refine wpAnyIn_ready (rs := [6]) (by kernel_rfl) (by simp) (AllReadyIn.cons rfl (fun K0 hK0 => ?_) AllReadyIn.nil); go_simp; refine hK0 _ _ ?_; clear hK0 K0)
              (refine wpAnyIn_ready (rs := [7]) (by kernel_rfl) (by simp) (AllReadyIn.cons rfl (fun K0 hK0 => ?_) AllReadyIn.nil); go_simp; refine hK0 _ _ ?_; clear hK0 K0)
              (refine wpAnyIn_take (i := 8) (v := ?_) rfl rfl (by kernel_rfl) (by kernel_rfl) (by kernel_rfl) (fun _ _ _ h => h) ⟨Or.inl ⟨by rfl, by (intro w; go_simp; try with_reducible rfl)⟩, fun _ => rfl⟩ ?_; go_simp)
              (refine wpAnyIn_take (i := 9) (v := ?_) rfl rfl (by kernel_rfl) (by kernel_rfl) (by kernel_rfl) (fun _ _ _ h => h) ⟨Or.inl ⟨by rfl, by (intro w; go_simp; try with_reducible rfl)⟩, fun _ => rfl⟩ ?_; go_simp)
              (refine wpAnyIn_take (i := 10) (v := ?_) rfl rfl (by kernel_rfl) (by kernel_rfl) (by kernel_rfl) (fun _ _ _ h => h) ⟨Or.inl ⟨by rfl, by (intro w; go_simp; try with_reducible rfl)⟩, fun _ => rfl⟩ ?_; go_simp)
              (refine wpAnyIn_take (i := 12) (v := ?_) rfl rfl (by kernel_rfl) (by kernel_rfl) (by kernel_rfl) (fun _ _ _ h => h) ⟨Or.inl ⟨by rfl, by (intro w; go_simp; try with_reducible rfl)⟩, fun _ => rfl⟩ ?_; go_simp)
              (refine wpAnyIn_take (i := 15) (v := ?_) rfl rfl (by kernel_rfl) (by kernel_rfl) (by kernel_rfl) (fun _ _ _ h => h) ⟨Or.inl ⟨by rfl, by (intro w; go_simp; try with_reducible rfl)⟩, fun _ => rfl⟩ ?_; go_simp)
              (refine wpAnyIn_ready (rs := [11, 16]) (by kernel_rfl) (by simp) (AllReadyIn.cons rfl (fun K hK => ?_) (AllReadyIn.cons rfl (fun K hK => ?_) AllReadyIn.nil)) <;> go_simp)
              · refine hK _ _ ?_
                clear hK K
                (refine wpAnyIn_take (i := 13) (v := ?_) rfl rfl (by kernel_rfl) (by kernel_rfl) (by kernel_rfl) (fun _ _ _ h => h) ⟨Or.inl ⟨by rfl, by (intro w; go_simp; try with_reducible rfl)⟩, fun _ => rfl⟩ ?_; go_simp)
                (refine wpAnyIn_ready (rs := [14, 16]) (by kernel_rfl) (by simp) (AllReadyIn.cons rfl (fun K hK => ?_) (AllReadyIn.cons rfl (fun K hK => ?_) AllReadyIn.nil)) <;> go_simp)
                · refine hK _ _ ?_
                  clear hK K
                  (refine wpAnyIn_ready (rs := [16]) (by kernel_rfl) (by simp) (AllReadyIn.cons rfl (fun K0 hK0 => ?_) AllReadyIn.nil); go_simp; refine hK0 _ _ ?_; clear hK0 K0)
                  (refine wpAnyIn_take (i := 17) (v := ?_) rfl rfl (by kernel_rfl) (by kernel_rfl) (by kernel_rfl) (fun _ _ _ h => h) ⟨Or.inl ⟨by rfl, by (intro w; go_simp; try with_reducible rfl)⟩, fun _ => rfl⟩ ?_; go_simp)
                  (refine wpAnyIn_ready (rs := [18]) (by kernel_rfl) (by simp) (AllReadyIn.cons rfl (fun K hK => ?_) AllReadyIn.nil); go_simp)
                  refine hR.mono ?_
                  rintro e W3 (⟨rfl, hJ3, hK3⟩ | ⟨rfl, hX3⟩)
                  · refine hK _ _ ?_
                    clear hK K hR hy hJ7 hny7 c8' d0 d1 d2 d3 d4 d5 hI7 hIu c0
                    (refine wpAnyIn_ready (rs := [19]) (by kernel_rfl) (by simp) (AllReadyIn.cons rfl (fun K0 hK0 => ?_) AllReadyIn.nil); go_simp; refine hK0 _ _ ?_; clear hK0 K0)
                    (refine wpAnyIn_ready (rs := [20]) (by kernel_rfl) (by simp) (AllReadyIn.cons rfl (fun K0 hK0 => ?_) AllReadyIn.nil); go_simp; refine hK0 _ _ ?_; clear hK0 K0)
                    refine wpAnyIn_done (by kernel_rfl) ?_ _
                    go_simp
                    go_wp2_with fail
                    go_roundw
                    case rel => exact ⟨k + 1, _, by go_num, hltk, Lib.hid (by rw [HG2.out]; simp), hK7.trans hK3, hJ3⟩
                    case measure => simp [intOf]; omega
                  · refine hK _ _ ?_
                    clear hK K hR hy hJ7 hny7 c8' d0 d1 d2 d3 d4 d5 hI7 hIu c0
                    (refine wpAnyIn_ready (rs := [19]) (by kernel_rfl) (by simp) (AllReadyIn.cons rfl (fun K0 hK0 => ?_) AllReadyIn.nil); go_simp; refine hK0 _ _ ?_; clear hK0 K0)
                    (refine wpAnyIn_ready (rs := [20]) (by kernel_rfl) (by simp) (AllReadyIn.cons rfl (fun K0 hK0 => ?_) AllReadyIn.nil); go_simp; refine hK0 _ _ ?_; clear hK0 K0)
                    refine wpAnyIn_done (by kernel_rfl) ?_ _
                    go_simp
                    go_wp2_with fail
                    refine bodyPost_ret (results_none rfl _ _ _) rfl ?_
                    exact ⟨⟨_, rfl⟩, .inr ⟨_, ⟨_, by rw [HG2.out]; simp; rfl⟩, hX3⟩⟩
                · refine hK _ _ ?_
                  clear hK K
                  (refine wpAnyIn_take (i := 17) (v := ?_) rfl rfl (by kernel_rfl) (by kernel_rfl) (by kernel_rfl) (fun _ _ _ h => h) ⟨Or.inl ⟨by rfl, by (intro w; go_simp; try with_reducible rfl)⟩, fun _ => rfl⟩ ?_; go_simp)
                  (refine wpAnyIn_ready (rs := [14]) (by kernel_rfl) (by simp) (AllReadyIn.cons rfl (fun K0 hK0 => ?_) AllReadyIn.nil); go_simp; refine hK0 _ _ ?_; clear hK0 K0)
                  (refine wpAnyIn_ready (rs := [18]) (by kernel_rfl) (by simp) (AllReadyIn.cons rfl (fun K hK => ?_) AllReadyIn.nil); go_simp)
                  refine hR.mono ?_
                  rintro e W3 (⟨rfl, hJ3, hK3⟩ | ⟨rfl, hX3⟩)
                  · refine hK _ _ ?_
                    clear hK K hR hy hJ7 hny7 c8' d0 d1 d2 d3 d4 d5 hI7 hIu c0
                    (refine wpAnyIn_ready (rs := [19]) (by kernel_rfl) (by simp) (AllReadyIn.cons rfl (fun K0 hK0 => ?_) AllReadyIn.nil); go_simp; refine hK0 _ _ ?_; clear hK0 K0)
                    (refine wpAnyIn_ready (rs := [20]) (by kernel_rfl) (by simp) (AllReadyIn.cons rfl (fun K0 hK0 => ?_) AllReadyIn.nil); go_simp; refine hK0 _ _ ?_; clear hK0 K0)
                    refine wpAnyIn_done (by kernel_rfl) ?_ _
                    go_simp
                    go_wp2_with fail
                    go_roundw
                    case rel => exact ⟨k + 1, _, by go_num, hltk, Lib.hid (by rw [HG2.out]; simp), hK7.trans hK3, hJ3⟩
                    case measure => simp [intOf]; omega
                  · refine hK _ _ ?_
                    clear hK K hR hy hJ7 hny7 c8' d0 d1 d2 d3 d4 d5 hI7 hIu c0
                    (refine wpAnyIn_ready (rs := [19]) (by kernel_rfl) (by simp) (AllReadyIn.cons rfl (fun K0 hK0 => ?_) AllReadyIn.nil); go_simp; refine hK0 _ _ ?_; clear hK0 K0)
                    (refine wpAnyIn_ready (rs := [20]) (by kernel_rfl) (by simp) (AllReadyIn.cons rfl (fun K0 hK0 => ?_) AllReadyIn.nil); go_simp; refine hK0 _ _ ?_; clear hK0 K0)
                    refine wpAnyIn_done (by kernel_rfl) ?_ _
                    go_simp
                    go_wp2_with fail
                    refine bodyPost_ret (results_none rfl _ _ _) rfl ?_
                    exact ⟨⟨_, rfl⟩, .inr ⟨_, ⟨_, by rw [HG2.out]; simp; rfl⟩, hX3⟩⟩
              · refine hK _ _ ?_
                clear hK K
                (refine wpAnyIn_take (i := 17) (v := ?_) rfl rfl (by kernel_rfl) (by kernel_rfl) (by kernel_rfl) (fun _ _ _ h => h) ⟨Or.inl ⟨by rfl, by (intro w; go_simp; try with_reducible rfl)⟩, fun _ => rfl⟩ ?_; go_simp)
                (refine wpAnyIn_ready (rs := [11]) (by kernel_rfl) (by simp) (AllReadyIn.cons rfl (fun K0 hK0 => ?_) AllReadyIn.nil); go_simp; refine hK0 _ _ ?_; clear hK0 K0)
                (refine wpAnyIn_take (i := 13) (v := ?_) rfl rfl (by kernel_rfl) (by kernel_rfl) (by kernel_rfl) (fun _ _ _ h => h) ⟨Or.inl ⟨by rfl, by (intro w; go_simp; try with_reducible rfl)⟩, fun _ => rfl⟩ ?_; go_simp)
                (refine wpAnyIn_ready (rs := [14]) (by kernel_rfl) (by simp) (AllReadyIn.cons rfl (fun K0 hK0 => ?_) AllReadyIn.nil); go_simp; refine hK0 _ _ ?_; clear hK0 K0)
                (refine wpAnyIn_ready (rs := [18]) (by kernel_rfl) (by simp) (AllReadyIn.cons rfl (fun K hK => ?_) AllReadyIn.nil); go_simp)
                refine hR.mono ?_
                rintro e W3 (⟨rfl, hJ3, hK3⟩ | ⟨rfl, hX3⟩)
                · refine hK _ _ ?_
                  clear hK K hR hy hJ7 hny7 c8' d0 d1 d2 d3 d4 d5 hI7 hIu c0
                  (refine wpAnyIn_ready (rs := [19]) (by kernel_rfl) (by simp) (AllReadyIn.cons rfl (fun K0 hK0 => ?_) AllReadyIn.nil); go_simp; refine hK0 _ _ ?_; clear hK0 K0)
                  (refine wpAnyIn_ready (rs := [20]) (by kernel_rfl) (by simp) (AllReadyIn.cons rfl (fun K0 hK0 => ?_) AllReadyIn.nil); go_simp; refine hK0 _ _ ?_; clear hK0 K0)
                  refine wpAnyIn_done (by kernel_rfl) ?_ _
                  go_simp
                  go_wp2_with fail
                  go_roundw
                  case rel => exact ⟨k + 1, _, by go_num, hltk, Lib.hid (by rw [HG2.out]; simp), hK7.trans hK3, hJ3⟩
                  case measure => simp [intOf]; omega
                · refine hK _ _ ?_
                  clear hK K hR hy hJ7 hny7 c8' d0 d1 d2 d3 d4 d5 hI7 hIu c0
                  (refine wpAnyIn_ready (rs := [19]) (by kernel_rfl) (by simp) (AllReadyIn.cons rfl (fun K0 hK0 => ?_) AllReadyIn.nil); go_simp; refine hK0 _ _ ?_; clear hK0 K0)
                  (refine wpAnyIn_ready (rs := [20]) (by kernel_rfl) (by simp) (AllReadyIn.cons rfl (fun K0 hK0 => ?_) AllReadyIn.nil); go_simp; refine hK0 _ _ ?_; clear hK0 K0)
                  refine wpAnyIn_done (by kernel_rfl) ?_ _
                  go_simp
                  go_wp2_with fail
                  refine bodyPost_ret (results_none rfl _ _ _) rfl ?_
                  exact ⟨⟨_, rfl⟩, .inr ⟨_, ⟨_, by rw [HG2.out]; simp; rfl⟩, hX3⟩⟩
          · rw [hb1] at hdef
            have hx3 : ¬ x3 ≠ 0 := of_decide_eq_false hb1
            have hpk : pickU i (nm, ⟨x0, x1, x2, x3, x4, x5⟩) = none := if_neg fun h => hx3 h.1
            rw [hpk] at HG2
            clear hpk hb1 hx3 hbin
            (refine wpAnyIn_ready (rs := [0]) (by kernel_rfl) (by simp) (AllReadyIn.cons rfl (fun K0 hK0 => ?_) AllReadyIn.nil); go_simp; refine hK0 _ _ ?_; clear hK0 K0)
            (refine wpAnyIn_ready (rs := [1]) (by kernel_rfl) (by simp) (AllReadyIn.cons rfl (fun K hK => ?_) AllReadyIn.nil); go_simp)
            refine ⟨trivial, (callsIn_wide.2 (hdef _)).mono ?_⟩
            rintro e w8 ⟨rfl, k8⟩
            refine hK _ _ ?_
            clear hK K hdef
            (refine wpAnyIn_ready (rs := [2]) (by kernel_rfl) (by simp) (AllReadyIn.cons rfl (fun K0 hK0 => ?_) AllReadyIn.nil); go_simp; refine hK0 _ _ ?_; clear hK0 K0)
            (refine wpAnyIn_take (i := 3) (v := undef) rfl rfl (by kernel_rfl) (by kernel_rfl) (by kernel_rfl) (fun _ _ _ h => h) ⟨Or.inr ⟨by rfl, rfl⟩, fun _ => rfl⟩ ?_; go_simp)
            (refine wpAnyIn_ready (rs := [4]) (by kernel_rfl) (by simp) (AllReadyIn.cons rfl (fun K hK => ?_) AllReadyIn.nil); go_simp)
            refine ⟨trivial, hK _ _ ?_⟩
            clear hK K
            (refine wpAnyIn_take (i := 5) (v := undef) rfl rfl (by kernel_rfl) (by kernel_rfl) (by kernel_rfl) (fun _ _ _ h => h) ⟨Or.inr ⟨by rfl, rfl⟩, fun _ => rfl⟩ ?_; go_simp)
            (refine wpAnyIn_ready (rs := [6]) (by kernel_rfl) (by simp) (AllReadyIn.cons rfl (fun K0 hK0 => ?_) AllReadyIn.nil); go_simp; refine hK0 _ _ ?_; clear hK0 K0)
            (refine wpAnyIn_ready (rs := [7]) (by kernel_rfl) (by simp) (AllReadyIn.cons rfl (fun K0 hK0 => ?_) AllReadyIn.nil); go_simp; refine hK0 _ _ ?_; clear hK0 K0)
            (refine wpAnyIn_take (i := 8) (v := undef) rfl rfl (by kernel_rfl) (by kernel_rfl) (by kernel_rfl) (fun _ _ _ h => h) ⟨Or.inr ⟨by rfl, rfl⟩, fun _ => rfl⟩ ?_; go_simp)
            (refine wpAnyIn_take (i := 9) (v := undef) rfl rfl (by kernel_rfl) (by kernel_rfl) (by kernel_rfl) (fun _ _ _ h => h) ⟨Or.inr ⟨by rfl, rfl⟩, fun _ => rfl⟩ ?_; go_simp)
            (refine wpAnyIn_take (i := 10) (v := undef) rfl rfl (by kernel_rfl) (by kernel_rfl) (by kernel_rfl) (fun _ _ _ h => h) ⟨Or.inr ⟨by rfl, rfl⟩, fun _ => rfl⟩ ?_; go_simp)
            (refine wpAnyIn_take (i := 11) (v := undef) rfl rfl (by kernel_rfl) (by kernel_rfl) (by kernel_rfl) (fun _ _ _ h => h) ⟨Or.inr ⟨by rfl, rfl⟩, fun _ => rfl⟩ ?_; go_simp)
            (refine wpAnyIn_take (i := 12) (v := undef) rfl rfl (by kernel_rfl) (by kernel_rfl) (by kernel_rfl) (fun _ _ _ h => h) ⟨Or.inr ⟨by rfl, rfl⟩, fun _ => rfl⟩ ?_; go_simp)
            (refine wpAnyIn_take (i := 13) (v := undef) rfl rfl (by kernel_rfl) (by kernel_rfl) (by kernel_rfl) (fun _ _ _ h => h) ⟨Or.inr ⟨by rfl, rfl⟩, fun _ => rfl⟩ ?_; go_simp)
            (refine wpAnyIn_take (i := 14) (v := undef) rfl rfl (by kernel_rfl) (by kernel_rfl) (by kernel_rfl) (fun _ _ _ h => h) ⟨Or.inr ⟨by rfl, rfl⟩, fun _ => rfl⟩ ?_; go_simp)
            (refine wpAnyIn_take (i := 15) (v := undef) rfl rfl (by kernel_rfl) (by kernel_rfl) (by kernel_rfl) (fun _ _ _ h => h) ⟨Or.inr ⟨by rfl, rfl⟩, fun _ => rfl⟩ ?_; go_simp)
            (refine wpAnyIn_take (i := 16) (v := undef) rfl rfl (by kernel_rfl) (by kernel_rfl) (by kernel_rfl) (fun _ _ _ h => h) ⟨Or.inr ⟨by rfl, rfl⟩, fun _ => rfl⟩ ?_; go_simp)
            (refine wpAnyIn_take (i := 17) (v := undef) rfl rfl (by kernel_rfl) (by kernel_rfl) (by kernel_rfl) (fun _ _ _ h => h) ⟨Or.inr ⟨by rfl, rfl⟩, fun _ => rfl⟩ ?_; go_simp)
            (refine wpAnyIn_take (i := 18) (v := undef) rfl rfl (by kernel_rfl) (by kernel_rfl) (by kernel_rfl) (fun _ _ _ h => h) ⟨Or.inr ⟨by rfl, rfl⟩, fun _ => rfl⟩ ?_; go_simp)
            (refine wpAnyIn_take (i := 19) (v := undef) rfl rfl (by kernel_rfl) (by kernel_rfl) (by kernel_rfl) (fun _ _ _ h => h) ⟨Or.inr ⟨by rfl, rfl⟩, fun _ => rfl⟩ ?_; go_simp)
            (refine wpAnyIn_ready (rs := [20]) (by kernel_rfl) (by simp) (AllReadyIn.cons rfl (fun K0 hK0 => ?_) AllReadyIn.nil); go_simp; refine hK0 _ _ ?_; clear hK0 K0)
            refine wpAnyIn_done (by kernel_rfl) ?_ _
            have HK9 := HK0.out _ _ hK7 k8
            have HJ9 := hJn.out _ _ _ hJ7 k8
            clear HK0 hK7 hJ7 d0 d1 d2 d3 d4 d5 hI7 hIu hny7 c8'
            go_simp
            go_wp2_with fail
            go_roundw
            case rel => exact ⟨k + 1, pr, by go_num, hltk, HG2, HK9, HJ9⟩
            case measure => simp [intOf]; omega
        · obtain rfl : k = q := Nat.le_antisymm hk hgek
          have hg := HG.out
          rw [restU_end (by rw [← HQ.out]; exact Nat.le_refl _), List.append_nil] at hg
          go_wp2_with fail
          go_roundw
          case rel => exact ⟨i + 1, pr, by go_num, hlt, Lib.hid hg, hK5.trans hK, hJs⟩
          case measure => simp [intOf]; omega
    · obtain rfl : i = m := Nat.le_antisymm hi hge
      have hg := HG.out
      rw [restO_end (by rw [← HPL.out, ← HM.out]; exact Nat.le_refl _), List.append_nil] at hg
      go_wp2_with fail
      go_end0
      exact ⟨⟨_, rfl⟩, .inl ⟨_, hg.symm, hJs⟩⟩
end
end Go.Proofs.Ytbnahidopemkiaa
namespace Go.Proofs.Ytbnahidopemkiaa
open Go.RowKit Go.Dm Go.Dm.Oc Go.Dm.Ld
attribute [local go_sem] Oper.semAt_some
section
variable {F : Fence} {n : Nat} {P : Program} {w : World} {ops : Array Oper} {rest : List Oper} {o : Oper} {a : Act} {Q : Exit → Act → World → Prop}
theorem wlIn_stAgg (hgd : o.guard = none) (x y : Operand) (ty : TypeId) (ho : o.op = Op.store ty x y) (g : Nat) (cells : Array Value)
    (h1 : a.eval x = .pointer (some ⟨g, 0, none⟩)) (h2 : a.eval y = .agg cells) (h : StAggGoal P ty g cells w fun w' => wpListIn F n P ops Q rest (a.put o.dst undef) w') : wpListIn F n P ops Q (o :: rest) a w := by
  obtain ⟨v, w', hr, hk⟩ := h
  refine wpListIn_plain hgd fun K hK => ?_
  unfold Oper.wpIn
  refine ⟨?_, ?_⟩
  · simp [Oper.about, ho]
  · rw [Oper.semAt_plain F _ _ (by rw [ho]; intro c hc'; cases hc')]
    simp only [execOp, ho, h1, h2, hr, Sem.run_bind, Sem.run_pure, Result.andThen_ok]
    exact hK _ _ hk
theorem wlIn_ld (hgd : o.guard = none) (x : Operand) (ty : TypeId) (ho : o.op = Op.load ty x) (p : Addr)
    (h1 : a.eval x = .pointer (some p)) (h : LdGoal P ty p w fun v w' => wpListIn F n P ops Q rest (a.put o.dst v) w') : wpListIn F n P ops Q (o :: rest) a w := by
  obtain ⟨v, w', hr, hk⟩ := h
  refine wpListIn_plain hgd fun K hK => ?_
  unfold Oper.wpIn
  refine ⟨?_, ?_⟩
  · simp [Oper.about, ho]
  · rw [Oper.semAt_plain F _ _ (by rw [ho]; intro c hc'; cases hc')]
    simp only [execOp, ho, h1, hr, Sem.run_bind, Sem.run_pure, Result.andThen_ok]
    exact hK _ _ hk
theorem encTg_one (t : Tg) : (encTg t).toArray.all (·.oneCell') = true := by
  rw [List.all_toArray]
  refine List.all_eq_true.2 fun x hx => ?_
  rcases List.mem_cons.1 hx with rfl | hx
  · rfl
  · exact encSy_one t.sym x hx
theorem blk_own {β : Type} (k : Nat) (t : TypeId) (f : β → Array Value) : Own (fun s W => Blk W k (f s) t) := fun s X Y row hs hg hrow =>
  hs.same (hg.block k hs.lt fun e => by obtain ⟨o, ho, hc⟩ := hrow k e.symm; rw [show X.heap[k]? = _ from hs] at ho; cases ho; cases hc)
theorem Blk.put {W : World} {k D : Nat} {cs : Array Value} {t : TypeId} {o o' : Obj} (h : Blk W k cs t) (hD : W.heap[D]? = some o) (ho : o.isCells = false) : Blk (W.putObj D o') k cs t :=
  h.same (World.putObj_heap_other fun e => by rw [← e, show W.heap[k]? = _ from h] at hD; cases hD; cases ho)
end
theorem reresolve_res {w : World} {tmps : Array Value} {b1 b2 : Nat} {cs : Array Value} {b : Bool} (h1 : tmps.getD 4 undef = .pointer (some ⟨b1, 0, none⟩)) (h2 : tmps.getD 5 undef = .pointer (some ⟨b2, 0, none⟩))
    (hB : Blk w b1 cs 123) (hs : cs.size = 7) (hB2 : Blk w b2 #[.bool b] 4) : (results Try.f46 tmps).run Try.prog w = .ok (.tuple #[.agg cs, .bool b]) w := by
  have e1 := run_loadVar_row (P := Try.prog) w b1 123 123 cs _ _ hB Try.underlying123 rfl (by rw [hs]; kernel_rfl)
  have e2 : (loadVar 4 ⟨b2, 0, none⟩).run Try.prog w = .ok (.bool b) w := by
    have hc := hB2.cell 0
    simp [go_sem, hc]
  simp only [Array.getD_eq_getD_getElem?] at h1 h2
  simp [results, Try.f46, Sem.run_bind, h1, h2, asAddr, e1, e2, Result.andThen]
def encRs (r : Option Tg) : Value := match r with | some t => .tuple #[.agg (encTg t).toArray, .bool true] | none => .tuple #[.agg (encTg tg0).toArray, .bool false]
section
variable {A : Nat → Prop} {w : World} {v : Value} {ps : List UC} {us : List (BS × Im)}
set_option maxRecDepth 100000 in
set_option maxHeartbeats 4000000 in
theorem reresolve_any (nm : BS) (hl : Fl A w 12 encU v ps) (hu : UsOk A w ps us) (hok : ∀ u ∈ us, u.2.names.length = u.2.syms.length ∧ ∀ s ∈ u.2.syms, SyOk s) :
    Calls Try.prog 46 #[v, .string ⟨nm.toArray⟩] w fun e w' => e = .returned (encRs (resM us nm)) ∧ Keep No w w' := by
  have hl' : Fl (fun k => k < w.heap.size) w 12 encU v ps := hl.mono fun j hj _ => hj
  have hu' : UsOk (fun k => k < w.heap.size) w ps us := hu.mono fun j hj _ => hj
  have hsh : ∃ a n c, v = .slice a n c := by obtain ⟨a, c, e, _⟩ := hl.shape; exact ⟨a, _, c, e⟩
  clear hl hu
  have HL := Lib.hid hl'
  have HU := Lib.hid hu'
  have HOK := Lib.hid hok
  clear hl' hu' hok
  refine (callsIn_wide (n := 3)).1 (callsIn_of_wp_marks Try.func46 rfl trivial ?_ rfl)
  simp only [Try.ntmps46, List.size_toArray, List.length_cons, List.length_nil, Nat.reduceAdd, Nat.reduceSub, Array.replicate_succ, Array.replicate_zero, List.push_toArray, List.append_toArray, List.nil_append, List.cons_append]
  refine wpIn_wide.2 ?_
  go_wp2_with fail
  refine (reall_any _ hsh).mono ?_
  rintro e w1 ⟨rfl, rfl⟩
  go_wp2_with fail
  have kW : Keep No w ((((w.alloc (.cells #[.string ⟨nm.toArray⟩] 9)).alloc (.cells #[.int .i64 0, .int .u32 0, .int .u8 0, .int .u8 0, .int .u16 0, .int .u64 0, .int .u64 0] 123)).alloc (.cells #[.bool false] 4)).alloc (.cells #[v] 30)) := (((((Keep.refl No w).alloc _).alloc _).alloc _).alloc _)
  have b0 := (((Blk.new w #[.string ⟨nm.toArray⟩] 9).alloc (.cells #[.int .i64 0, .int .u32 0, .int .u8 0, .int .u8 0, .int .u16 0, .int .u64 0, .int .u64 0] 123)).alloc (.cells #[.bool false] 4)).alloc (.cells #[v] 30)
  have b1 := ((Blk.new (w.alloc (.cells #[.string ⟨nm.toArray⟩] 9)) #[.int .i64 0, .int .u32 0, .int .u8 0, .int .u8 0, .int .u16 0, .int .u64 0, .int .u64 0] 123).alloc (.cells #[.bool false] 4)).alloc (.cells #[v] 30)
  have b2 := (Blk.new ((w.alloc (.cells #[.string ⟨nm.toArray⟩] 9)).alloc (.cells #[.int .i64 0, .int .u32 0, .int .u8 0, .int .u8 0, .int .u16 0, .int .u64 0, .int .u64 0] 123)) #[.bool false] 4).alloc (.cells #[v] 30)
  have b3 := Blk.new (((w.alloc (.cells #[.string ⟨nm.toArray⟩] 9)).alloc (.cells #[.int .i64 0, .int .u32 0, .int .u8 0, .int .u8 0, .int .u16 0, .int .u64 0, .int .u64 0] 123)).alloc (.cells #[.bool false] 4)) #[v] 30
  simp only [World.size_alloc] at b0 b1 b2 b3
  have hz : ((((w.alloc (.cells #[.string ⟨nm.toArray⟩] 9)).alloc (.cells #[.int .i64 0, .int .u32 0, .int .u8 0, .int .u8 0, .int .u16 0, .int .u64 0, .int .u64 0] 123)).alloc (.cells #[.bool false] 4)).alloc (.cells #[v] 30)).heap.size = w.heap.size + 1 + 1 + 1 + 1 := by simp only [World.size_alloc]
  generalize (((w.alloc (.cells #[.string ⟨nm.toArray⟩] 9)).alloc (.cells #[.int .i64 0, .int .u32 0, .int .u8 0, .int .u8 0, .int .u16 0, .int .u64 0, .int .u64 0] 123)).alloc (.cells #[.bool false] 4)).alloc (.cells #[v] 30) = W0 at *
  have hB0 : Below w.heap.size w W0 := kW.below _ (Nat.le_refl _) fun _ h => h.elim
  have hlt3 := b3.lt
  refine wpIn_wide (n := 3).1 ?_
  refine wpIn_rangeFunc_ownH rfl (by decide) (gf := 76) (lb := #[.pointer (some ⟨w.heap.size + 1 + 1 + 1, 0, none⟩)]) rfl trivial (enters_of Try.func76 (by kernel_rfl) rfl)
    (reall1_stops 2 (by decide) (HL.out.no kW) (HU.out.keep kW fun _ _ _ h => h) HOK.out hB0.size hlt3 (b3.cell 0)) KC.trans (KC.put hB0.size) (Below.refl _ _) (fun _ => rfl)
    (fun pre W => (((((∀ p ∈ pre, p.1 ≠ nm) ∧ Blk W w.heap.size #[.string ⟨nm.toArray⟩] 9) ∧ Blk W (w.heap.size + 1) #[.int .i64 0, .int .u32 0, .int .u8 0, .int .u8 0, .int .u16 0, .int .u64 0, .int .u64 0] 123) ∧ Blk W (w.heap.size + 1 + 1) #[.bool false] 4) ∧ Below w.heap.size w W))
    (fun c pre W => ((c = .ret ∧ ∃ ini x, pre = ini ++ [x] ∧ (∀ p ∈ ini, p.1 ≠ nm) ∧ x.1 = nm ∧ Blk W (w.heap.size + 1) (encTg x.2).toArray 123) ∧ Blk W (w.heap.size + 1 + 1) #[.bool true] 4) ∧ Below w.heap.size w W)
    (OwnFrom.and (OwnFrom.and (OwnFrom.and (OwnFrom.and (ownFrom_pure _ _) (Own.from (blk_own _ _ _) _)) (Own.from (blk_own _ _ _) _)) (Own.from (blk_own _ _ _) _)) (ownFrom_below (Nat.le_refl _) hB0.size))
    (fun c => OwnFrom.and (OwnFrom.and (Own.from (fun s X Y row hs hg hr => by obtain ⟨hc, ini, x, e1, e2, e3, e4⟩ := hs; exact ⟨hc, ini, x, e1, e2, e3, blk_own _ _ (fun _ => (encTg x.2).toArray) () X Y row e4 hg hr⟩) _) (Own.from (blk_own _ _ _) _)) (ownFrom_below (Nat.le_refl _) hB0.size))
    ⟨⟨⟨⟨by simp, b0⟩, b1⟩, b2⟩, hB0⟩
    (fun x a' W => ∃ Bx, w.heap.size + 1 + 1 < Bx ∧ Blk W Bx (encTg x.2).toArray 123 ∧ a' = { tmps := #[v, .string ⟨nm.toArray⟩, undef, .pointer (some ⟨w.heap.size, 0, none⟩), .pointer (some ⟨w.heap.size + 1, 0, none⟩), .pointer (some ⟨w.heap.size + 1 + 1, 0, none⟩), .string ⟨x.1.toArray⟩, .pointer (some ⟨Bx, 0, none⟩), v, .func (.func 76) #[] #[.pointer (some ⟨w.heap.size + 1 + 1 + 1, 0, none⟩)], .string ⟨x.1.toArray⟩, .agg (encTg x.2).toArray, undef, undef, undef, undef, undef], defers := [] })
    (fun x a' _ X Y row hs hg hr => by obtain ⟨Bx, e1, e2, e3⟩ := hs; exact ⟨Bx, e1, blk_own Bx 123 (fun (_ : Unit) => (encTg x.2).toArray) () X Y row e2 hg (fun r e => (hr r e).2), e3⟩)
    ?assign ?body ?done ?stop
  case assign =>
    rintro l pre x W K ⟨⟨⟨⟨hp, c0⟩, c1⟩, c2⟩, hB⟩ hK
    unfold encYs
    gi_wp2_with (with_reducible refine wlIn_stAgg rfl _ _ _ rfl _ _ rfl rfl ?_)
    have hkW4 : Keep No W (W.alloc (.cells #[.int .i64 0, .int .u32 0, .int .u8 0, .int .u8 0, .int .u16 0, .int .u64 0, .int .u64 0] 123)) := (Keep.refl _ _).alloc _
    have hBW4 : Blk (W.alloc (.cells #[.int .i64 0, .int .u32 0, .int .u8 0, .int .u8 0, .int .u16 0, .int .u64 0, .int .u64 0] 123)) W.heap.size #[.int .i64 0, .int .u32 0, .int .u8 0, .int .u8 0, .int .u16 0, .int .u64 0, .int .u64 0] 123 := Blk.new _ _ _
    have hzW4 : (W.alloc (.cells #[.int .i64 0, .int .u32 0, .int .u8 0, .int .u8 0, .int .u16 0, .int .u64 0, .int .u64 0] 123)).heap.size = W.heap.size + 1 := World.size_alloc _ _
    generalize W.alloc (.cells #[.int .i64 0, .int .u32 0, .int .u8 0, .int .u8 0, .int .u16 0, .int .u64 0, .int .u64 0] 123) = W4 at *
    refine rg_stAgg hBW4 (by kernel_rfl) (by rfl) (encTg_one _) ?_
    intro w5 hI5 hk5 hz5
    have hkz5 : Keep No W w5 := hkW4.trans hk5 fun j hj e => by have e2 : j = W.heap.size := e; omega
    gi_wp2
    exact hK _ _ ⟨hkz5.size, fun k o _ hk _ => (hkz5.block k (Array.getElem?_eq_some_iff.1 hk).1 fun h => h).trans hk⟩ (KC.of_keep hkz5 hB.size) ⟨⟨⟨⟨hp, c0.keep hkz5 fun h => h⟩, c1.keep hkz5 fun h => h⟩, c2.keep hkz5 fun h => h⟩, hB.trans (hkz5.below _ hB.size fun _ h => h.elim)⟩ ⟨W.heap.size, c2.lt, hI5, rfl⟩
  case body =>
    rintro l pre x a' W hl ⟨r, hr⟩ ⟨⟨⟨⟨hp, c0⟩, c1⟩, c2⟩, hB⟩ ⟨Bx, hBx, c3, rfl⟩ hlt
    have f0 := c0.cell 0
    have HP := Lib.hid hp
    clear hp
    by_cases hx : x.1 = nm
    · gi_wp2_with (first | (with_reducible refine wlIn_stAgg rfl _ _ _ rfl _ _ rfl rfl ?_) | (with_reducible refine wlIn_ld rfl _ 123 rfl _ rfl ?_))
      refine rg_ld c3 Try.underlying123 rfl (by kernel_rfl) ?_
      gi_wp2_with (with_reducible refine wlIn_stAgg rfl _ _ _ rfl _ _ rfl rfl ?_)
      refine rg_stAgg c1 (by kernel_rfl) (by rfl) (encTg_one _) ?_
      intro w5 h5 k5 z5
      have c2' := c2.keep k5 (fun h => by omega)
      have f2 := c2'.cell 0
      have g2 := c2'.frozen 0
      gi_wp2
      have k6 : Keep (fun j => w.heap.size + 1 ≤ j ∧ j < w.heap.size + 1 + 1 + 1) W (w5.setCell ⟨w.heap.size + 1 + 1, 0, none⟩ (.bool true)) := (k5.mono fun j _ h => by omega).setCell (fun _ => by show _ ≤ w.heap.size + 1 + 1 ∧ w.heap.size + 1 + 1 < _; omega) _
      exact ⟨⟨k6.size, fun k o hk h _ => (k6.block k (Array.getElem?_eq_some_iff.1 h).1 fun h => by omega).trans h⟩, ⟨⟨rfl, pre, x, rfl, HP.out, hx, h5.set_other (by show w.heap.size + 1 ≠ w.heap.size + 1 + 1; omega) _⟩, c2'.set _⟩, hB.trans (k6.below _ hB.size fun _ h => by omega)⟩
    · have hs : (x.1 == nm) = false := by rw [beq_eq_false_iff_ne]; exact hx
      gi_wp2
      exact ⟨KeepsFrom.refl _ _, KC.refl _ _, ⟨⟨⟨fun p hp' => (List.mem_append.1 hp').elim (HP.out p) (fun e => by rw [List.mem_singleton.1 e]; exact hx), c0⟩, c1⟩, c2⟩, hB⟩
  case done =>
    rintro D xs W hD rfl ⟨⟨⟨⟨hp, c0⟩, c1⟩, c2⟩, hB⟩ hK
    go_wp2_with (with_reducible refine wl_stAgg rfl _ _ _ rfl _ _ rfl rfl ?_)
    refine rg_stAgg c1 (by kernel_rfl) (by rfl) (by simp [Value.oneCell']) ?_
    intro w5 h5 k5 z5
    have c2' := c2.keep k5 (fun h => by omega)
    have f2 := c2'.cell 0
    have g2 := c2'.frozen 0
    go_wp2_with fail
    have k6 : Keep (fun j => w.heap.size + 1 ≤ j ∧ j < w.heap.size + 1 + 1 + 1) W (w5.setCell ⟨w.heap.size + 1 + 1, 0, none⟩ (.bool false)) := (k5.mono fun j _ h => by omega).setCell (fun _ => by show _ ≤ w.heap.size + 1 + 1 ∧ w.heap.size + 1 + 1 < _; omega) _
    have hK6 := (k6.block D (Array.getElem?_eq_some_iff.1 hK).1 fun h => by omega).trans hK
    have d1 := Blk.put (o' := .deferred none) (h5.set_other (a := ⟨w.heap.size + 1 + 1, 0, none⟩) (by show w.heap.size + 1 ≠ w.heap.size + 1 + 1; omega) (.bool false)) hK6 rfl
    have d2 := Blk.put (o' := .deferred none) (c2'.set (i := 0) (.bool false)) hK6 rfl
    refine ⟨by simp, .inl ⟨_, _, rfl, run_takeDeferred hK6, ?_⟩⟩
    have hB6 := hB.trans (k6.below _ hB.size fun _ h => by omega)
    have hB7 := hB6.trans (belowK_b (w := w) (Nat.le_refl _) _ D _ (.deferred none) (by omega) hK6 rfl rfl)
    refine ⟨_, reresolve_res rfl rfl d1 (by rfl) d2, ?_, Keep.of_below hB7⟩
    have hr : resM us nm = none := by
      unfold resM
      rw [List.find?_eq_none.2 fun p hp' => by simpa using hp p hp']
      rfl
    rw [hr]
    rfl
  case stop =>
    rintro D c pre W hD ⟨r, hr⟩ ⟨⟨⟨rfl, ini, x, rfl, hp, hx, c1⟩, c2⟩, hB⟩ hK
    gi_wp2
    have d1 := Blk.put (o' := .deferred none) c1 hK rfl
    have d2 := Blk.put (o' := .deferred none) c2 hK rfl
    refine ⟨by simp, .inl ⟨_, _, rfl, run_takeDeferred hK, ?_⟩⟩
    have hB7 := hB.trans (belowK_b (w := w) (Nat.le_refl _) _ D _ (.deferred none) (by omega) hK rfl rfl)
    refine ⟨_, reresolve_res rfl rfl d1 (by rfl) d2, ?_, Keep.of_below hB7⟩
    have hr : resM us nm = some x.2 := by
      unfold resM
      rw [hr, List.append_assoc, List.find?_append, List.find?_eq_none.2 fun p hp' => by simpa using hp p hp']
      simp [hx]
    rw [hr]
    rfl
end
end Go.Proofs.Ytbnahidopemkiaa
