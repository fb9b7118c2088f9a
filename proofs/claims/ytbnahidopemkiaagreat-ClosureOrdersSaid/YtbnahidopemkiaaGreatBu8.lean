/- The document's answer: what Build may be asked for. The document's Build, plainly. The document's table of strings. No condition. -/
import Derived.Test.YtbnahidopemkiaaGreatBu6
import Derived.Test.YtbnahidopemkiaaGreatIm5
import Derived.Test.YtbnahidopemkiaaGreatBu4
import Derived.Test.YtbnahidopemkiaaGreatEnt
import Derived.Test.YtbnahidopemkiaaGreatApS
set_option linter.unusedVariables false
set_option linter.unusedSimpArgs false
namespace Go.Dm.Ld
open Go Go.Dm.Oc
structure Df where
  nm : BS
  wh : Int
  off : Nat
  weak : Bool
structure Fx where
  wh : Int
  off : Nat
  ty : Nat
  df : Int
  add : Nat
structure Sp where
  kind : Int
  so : BS
  need : List BS
  entry : Nat
  code : BS
  data : BS
  bss : Nat
  tls : BS
  tbss : Nat
  defs : List Df
  fixes : List Fx
def badD (d : Df) : Bool := decide (d.wh < 0) || decide (3 < d.wh)
def badF (n : Nat) (f : Fx) : Bool := (decide (f.wh ≠ 1) && decide (f.wh ≠ 2)) || decide ((n : Int) ≤ f.df)
def mayM (s : Sp) : Nat :=
  if s.kind ≠ 2 ∧ s.kind ≠ 3 then 1 else if s.defs.any badD then 1 else if s.fixes.any (badF s.defs.length) then 1
  else if 1048576 < s.bss ∨ 1048576 < s.tbss ∨ 65536 < s.code.length + s.data.length + s.tls.length then 13 else 0
end Go.Dm.Ld
namespace Go.Proofs.YtbnahidopemkiaaGreat
open Go.RowKit Go.Dm Go.Dm.Oc Go.Dm.Ld
def encDf (d : Df) : List Value := [.string ⟨d.nm.toArray⟩, .int .i64 d.wh, .int .u64 (d.off : Int), .bool d.weak]
def encFx (f : Fx) : List Value := [.int .i64 f.wh, .int .u64 (f.off : Int), .int .u32 (f.ty : Int), .int .i64 f.df, .int .i64 (addI f.add)]
def specC (s : Sp) (vn vc vd vt vf vx : Value) : Array Value := #[.int .i64 s.kind, .string ⟨s.so.toArray⟩, vn, .int .u64 (s.entry : Int), vc, vd, .int .u64 (s.bss : Int), vt, .int .u64 (s.tbss : Int), vf, vx]
structure SpR (A : Nat → Prop) (w : World) (s : Sp) (vn vc vd vt vf vx : Value) : Prop where
  need : Fl A w 1 encS vn s.need
  code : Bts A w vc s.code
  data : Bts A w vd s.data
  tls : Bts A w vt s.tls
  defs : Fl A w 4 encDf vf s.defs
  fixes : Fl A w 5 encFx vx s.fixes
section
variable {A : Nat → Prop} {w : World} {vn vc vd vt vf vx : Value}
set_option maxRecDepth 100000 in
set_option maxHeartbeats 4000000 in
theorem r09may_any (s : Sp) (hs : SpR A w s vn vc vd vt vf vx) (hc : s.code.length ≤ 1099511627776) (hd : s.data.length ≤ 1099511627776) (ht : s.tls.length ≤ 1099511627776) :
    Calls Tryz.prog 34 #[.agg (specC s vn vc vd vt vf vx)] w fun e w' => e = .returned (.int .i64 ((mayM s : Nat) : Int)) ∧ Keep No w w' := by
  have HD := Lib.hid hs.defs
  have HX := Lib.hid hs.fixes
  obtain ⟨ac, cc, rfl, _, _⟩ := hs.code.shape
  obtain ⟨ad, cd, rfl, _, _⟩ := hs.data.shape
  obtain ⟨at_, ct, rfl, _, _⟩ := hs.tls.shape
  obtain ⟨af, cf, rfl, hf1, hf2⟩ := hs.defs.shape
  obtain ⟨ax, cx, rfl, hx1, hx2⟩ := hs.fixes.shape
  have hfl : s.defs.length ≤ 9223372036854775807 := by unfold maxLen at hf2; omega
  have hxl : s.fixes.length ≤ 9223372036854775807 := by unfold maxLen at hx2; omega
  clear hf1 hf2 hx1 hx2 hs
  have hM : mayM s = if s.kind ≠ 2 ∧ s.kind ≠ 3 then 1 else if s.defs.any badD then 1 else if s.fixes.any (badF s.defs.length) then 1
    else if 1048576 < s.bss ∨ 1048576 < s.tbss ∨ 65536 < s.code.length + s.data.length + s.tls.length then 13 else 0 := rfl
  generalize mayM s = res at *
  have HM := Lib.hid hM
  clear hM
  unfold specC
  generalize s.kind = kd at *
  generalize (⟨s.so.toArray⟩ : ByteArray) = so at *
  generalize s.entry = en at *
  generalize s.bss = bss at *
  generalize s.tbss = tbss at *
  generalize s.code.length = lc at *
  generalize s.data.length = ld at *
  generalize s.tls.length = lt at *
  generalize s.defs = ds at *
  generalize s.fixes = fx at *
  go_enter Tryz.func34, Tryz.ntmps34
  by_cases hk : kd ≠ 2 ∧ kd ≠ 3
  · have hr := HM.out
    rw [if_pos hk] at hr
    subst hr
    obtain ⟨hk1, hk2⟩ := hk
    have e1 : (kd != 2) = true := by rw [bne_iff_ne]; exact hk1
    have e2 : (kd != 3) = true := by rw [bne_iff_ne]; exact hk2
    clear HM
    go_wp2_with fail
    go_ret
    exact ⟨rfl, (Keep.refl _ _).alloc _⟩
  · have hk2 : kd = 2 ∨ kd = 3 := by omega
    have hr := HM.out
    rw [if_neg hk] at hr
    have HM2 := Lib.hid hr
    clear hr HM hk
    rcases hk2 with rfl | rfl
    · go_wp2_with fail
      have hkW : Keep No w (w.alloc (.cells #[.int .i64 2, .string so, vn, .int .u64 (en : Int), .slice ac lc cc, .slice ad ld cd, .int .u64 (bss : Int), .slice at_ lt ct, .int .u64 (tbss : Int), .slice af ds.length cf, .slice ax fx.length cx] 84)) := (Keep.refl _ _).alloc _
      have hBW : Blk (w.alloc (.cells #[.int .i64 2, .string so, vn, .int .u64 (en : Int), .slice ac lc cc, .slice ad ld cd, .int .u64 (bss : Int), .slice at_ lt ct, .int .u64 (tbss : Int), .slice af ds.length cf, .slice ax fx.length cx] 84)) w.heap.size #[.int .i64 2, .string so, vn, .int .u64 (en : Int), .slice ac lc cc, .slice ad ld cd, .int .u64 (bss : Int), .slice at_ lt ct, .int .u64 (tbss : Int), .slice af ds.length cf, .slice ax fx.length cx] 84 := Blk.new _ _ _
      have hzW : (w.alloc (.cells #[.int .i64 2, .string so, vn, .int .u64 (en : Int), .slice ac lc cc, .slice ad ld cd, .int .u64 (bss : Int), .slice at_ lt ct, .int .u64 (tbss : Int), .slice af ds.length cf, .slice ax fx.length cx] 84)).heap.size = w.heap.size + 1 := World.size_alloc _ _
      generalize w.alloc (.cells #[.int .i64 2, .string so, vn, .int .u64 (en : Int), .slice ac lc cc, .slice ad ld cd, .int .u64 (bss : Int), .slice at_ lt ct, .int .u64 (tbss : Int), .slice af ds.length cf, .slice ax fx.length cx] 84) = W at *
      have b9 := hBW.cell 9
      go_wp2_with fail
      go_loopw [3] (fun iv wr => ∃ i : Nat, iv = .int .i64 (i : Int) ∧ i ≤ ds.length ∧ W = wr ∧ Hid (∀ j, j < i → ∀ d, ds[j]? = some d → badD d = false)) (fun iv _ => ds.length - (intOf iv).toNat)
      case atStart => exact ⟨0, rfl, Nat.zero_le _, rfl, Lib.hid fun j hj => absurd hj (Nat.not_lt_zero _)⟩
      case round =>
        obtain ⟨i, rfl, hi, rfl, HNO⟩ := hrel
        rcases Nat.lt_or_ge i ds.length with hlt | hge
        · obtain ⟨g1, off, cap, ev, _, _, _, _, hcd⟩ := (HD.out.no hkW).at (fun _ => rfl) hlt
          cases ev
          have d1 := hcd 1 _ rfl
          have hiz : (i : Int) < (ds.length : Int) := by omega
          have hb : badD ds[i] = (decide (ds[i].wh < 0) || decide (3 < ds[i].wh)) := rfl
          have HI : Hid (ds[i]? = some ds[i]) := Lib.hid (List.getElem?_eq_getElem hlt)
          have HMEM : Hid (ds[i] ∈ ds) := Lib.hid (List.getElem_mem hlt)
          clear hcd
          generalize ds[i] = d at *
          rw [show (Value.int .i64 d.wh) = .int .i64 d.wh from rfl] at d1
          cases hbb : badD d with
          | true =>
            rw [hbb] at hb
            have hany : ds.any badD = true := List.any_eq_true.2 ⟨d, HMEM.out, hbb⟩
            have hr := HM2.out
            rw [if_pos hany] at hr
            subst hr
            clear HM2 hany hbb HNO
            rcases Int.lt_or_le d.wh 0 with h0 | h0
            · clear hb
              generalize d.wh = wh at *
              go_wp2_with fail
              go_ret
              exact ⟨rfl, hkW⟩
            · have h3 : 3 < d.wh := by
                rw [decide_eq_false (by omega)] at hb
                simpa using hb
              clear hb
              generalize d.wh = wh at *
              go_wp2_with fail
              go_ret
              exact ⟨rfl, hkW⟩
          | false =>
            rw [hbb] at hb
            have h0 : 0 ≤ d.wh := by
              rcases Int.lt_or_le d.wh 0 with h | h
              · rw [decide_eq_true h] at hb; cases hb
              · exact h
            have h3 : d.wh ≤ 3 := by
              rcases Int.lt_or_le 3 d.wh with h | h
              · rw [decide_eq_true h, Bool.or_true] at hb; cases hb
              · exact h
            have HNO2 : Hid (∀ j, j < i + 1 → ∀ d, ds[j]? = some d → badD d = false) := Lib.hid fun j hj d' hd' => by
              rcases Nat.lt_or_ge j i with h | h
              · exact HNO.out j h d' hd'
              · obtain rfl : j = i := by omega
                rw [HI.out] at hd'
                cases hd'
                exact hbb
            clear hb hbb HNO HMEM HI
            generalize d.wh = wh at *
            go_wp2_with fail
            go_roundw
            case rel => exact ⟨i + 1, by go_num, hlt, by first | rfl | trivial, HNO2⟩
            case measure => simp [intOf]; omega
        · obtain rfl : i = ds.length := Nat.le_antisymm hi hge
          have hany : ds.any badD = false := by
            rw [List.any_eq_false]
            intro d hd hb
            obtain ⟨j, hj, rfl⟩ := List.getElem_of_mem hd
            have := HNO.out j hj _ (List.getElem?_eq_getElem hj)
            rw [hb] at this
            cases this
          have hr := HM2.out
          rw [hany, if_neg (by decide)] at hr
          have HM3 := Lib.hid hr
          clear hr hany HNO HM2 hi hge
          have b10 := hBW.cell 10
          go_wp2_with fail
          go_loopw [4] (fun iv wr => ∃ i : Nat, iv = .int .i64 (i : Int) ∧ i ≤ fx.length ∧ Keep No W wr ∧ Hid (∀ j, j < i → ∀ d, fx[j]? = some d → badF ds.length d = false)) (fun iv _ => fx.length - (intOf iv).toNat)
          case atStart => exact ⟨0, rfl, Nat.zero_le _, Keep.refl _ _, Lib.hid fun j hj => absurd hj (Nat.not_lt_zero _)⟩
          case round =>
            obtain ⟨i, rfl, hi, hkz, HNO⟩ := hrel
            clear b9 b10
            generalize wr = wz at *
            have hBZ := hBW.keep hkz fun h => h
            have hkwz := hkW.trans' hkz
            have b9 := hBZ.cell 9
            have b10 := hBZ.cell 10
            rcases Nat.lt_or_ge i fx.length with hlt | hge
            · obtain ⟨g1, off, cap, ev, _, _, _, _, hcd⟩ := (HX.out.no hkwz).at (fun _ => rfl) hlt
              cases ev
              have d0 := hcd 0 _ rfl
              have d3 := hcd 3 _ rfl
              rw [Nat.add_zero] at d0
              have hiz : (i : Int) < (fx.length : Int) := by omega
              have hb : badF ds.length fx[i] = ((decide (fx[i].wh ≠ 1) && decide (fx[i].wh ≠ 2)) || decide ((ds.length : Int) ≤ fx[i].df)) := rfl
              have HI : Hid (fx[i]? = some fx[i]) := Lib.hid (List.getElem?_eq_getElem hlt)
              have HMEM : Hid (fx[i] ∈ fx) := Lib.hid (List.getElem_mem hlt)
              clear hcd
              generalize fx[i] = d at *
              have HBAD : Hid (badF ds.length d = true → res = 1) := Lib.hid fun h => by
                have hr := HM3.out
                rw [if_pos (List.any_eq_true.2 ⟨d, HMEM.out, h⟩)] at hr
                exact hr
              have HGOOD : Hid (badF ds.length d = false → ∀ j, j < i + 1 → ∀ d, fx[j]? = some d → badF ds.length d = false) := Lib.hid fun hbb j hj d' hd' => by
                rcases Nat.lt_or_ge j i with h | h
                · exact HNO.out j h d' hd'
                · obtain rfl : j = i := by omega
                  rw [HI.out] at hd'
                  cases hd'
                  exact hbb
              have HB := Lib.hid hb
              clear hb HNO HI HMEM
              by_cases h1 : d.wh = 1
              · have h10 := h1
                have hbf : badF ds.length d = decide ((ds.length : Int) ≤ d.df) := by rw [HB.out, h1]; simp
                rw [h1] at d0
                rcases Int.lt_or_le d.df (ds.length : Int) with h3 | h3
                · have hd3 : decide ((ds.length : Int) ≤ d.df) = false := decide_eq_false (by omega)
                  have HNO2 := Lib.hid (HGOOD.out (by rw [hbf, hd3]))
                  clear HBAD HGOOD HB hbf
                  generalize d.df = df at *
                  go_wp2_with fail
                  try go_quiet (fail)
                  go_wp2_with fail
                  go_roundw
                  case rel => exact ⟨i + 1, by go_num, hlt, by first | exact hkz | exact hkz.drewN _, HNO2⟩
                  case measure => simp [intOf]; omega
                · have hd3 : decide ((ds.length : Int) ≤ d.df) = true := decide_eq_true h3
                  have hr : res = 1 := HBAD.out (by rw [hbf, hd3])
                  subst hr
                  clear HBAD HGOOD HB HM3 hbf
                  generalize d.df = df at *
                  go_wp2_with fail
                  try go_quiet (fail)
                  go_wp2_with fail
                  go_ret
                  exact ⟨rfl, by first | exact hkwz | exact hkwz.drewN _⟩
              · by_cases h2 : d.wh = 2
                · have h20 := h2
                  have hbf : badF ds.length d = decide ((ds.length : Int) ≤ d.df) := by rw [HB.out, h2]; simp
                  rw [h2] at d0
                  rcases Int.lt_or_le d.df (ds.length : Int) with h3 | h3
                  · have hd3 : decide ((ds.length : Int) ≤ d.df) = false := decide_eq_false (by omega)
                    have HNO2 := Lib.hid (HGOOD.out (by rw [hbf, hd3]))
                    clear HBAD HGOOD HB hbf
                    generalize d.df = df at *
                    go_wp2_with fail
                    try go_quiet (fail)
                    go_wp2_with fail
                    go_roundw
                    case rel => exact ⟨i + 1, by go_num, hlt, by first | exact hkz | exact hkz.drewN _, HNO2⟩
                    case measure => simp [intOf]; omega
                  · have hd3 : decide ((ds.length : Int) ≤ d.df) = true := decide_eq_true h3
                    have hr : res = 1 := HBAD.out (by rw [hbf, hd3])
                    subst hr
                    clear HBAD HGOOD HB HM3 hbf
                    generalize d.df = df at *
                    go_wp2_with fail
                    try go_quiet (fail)
                    go_wp2_with fail
                    go_ret
                    exact ⟨rfl, by first | exact hkwz | exact hkwz.drewN _⟩
                · have hr : res = 1 := HBAD.out (by rw [HB.out, decide_eq_true h1, decide_eq_true h2]; rfl)
                  subst hr
                  have e1 : (d.wh != 1) = true := by rw [bne_iff_ne]; exact h1
                  have e2 : (d.wh != 2) = true := by rw [bne_iff_ne]; exact h2
                  clear HBAD HGOOD HB HM3
                  generalize d.wh = wh at *
                  generalize d.df = df at *
                  go_wp2_with fail
                  try go_quiet (fail)
                  go_wp2_with fail
                  go_ret
                  exact ⟨rfl, by first | exact hkwz | exact hkwz.drewN _⟩
            · obtain rfl : i = fx.length := Nat.le_antisymm hi hge
              have hany : fx.any (badF ds.length) = false := by
                rw [List.any_eq_false]
                intro d hd hb
                obtain ⟨j, hj, rfl⟩ := List.getElem_of_mem hd
                have := HNO.out j hj _ (List.getElem?_eq_getElem hj)
                rw [hb] at this
                cases this
              have hr := HM3.out
              rw [hany, if_neg (by decide)] at hr
              have HM4 := Lib.hid hr
              clear hr hany HNO HM3 hi hge
              have b4 := hBZ.cell 4
              have b5 := hBZ.cell 5
              have b6 := hBZ.cell 6
              have b7 := hBZ.cell 7
              have b8 := hBZ.cell 8
              rcases Nat.lt_or_ge 1048576 bss with h1 | h1
              · have hr := HM4.out
                rw [if_pos (.inl h1)] at hr
                subst hr
                have g1 : (1048576 : Int) < (bss : Int) := by omega
                clear HM4
                go_wp2_with fail
                go_ret
                exact ⟨rfl, hkwz⟩
              · rcases Nat.lt_or_ge 1048576 tbss with h2 | h2
                · have hr := HM4.out
                  rw [if_pos (.inr (.inl h2))] at hr
                  subst hr
                  have g1 : (bss : Int) ≤ (1048576 : Int) := by omega
                  have g2 : (1048576 : Int) < (tbss : Int) := by omega
                  clear HM4
                  go_wp2_with fail
                  go_ret
                  exact ⟨rfl, hkwz⟩
                · have g1 : (bss : Int) ≤ (1048576 : Int) := by omega
                  have g2 : (tbss : Int) ≤ (1048576 : Int) := by omega
                  rcases Nat.lt_or_ge 65536 (lc + ld + lt) with h3 | h3
                  · have hr := HM4.out
                    rw [if_pos (.inr (.inr h3))] at hr
                    subst hr
                    have g3 : (65536 : Int) < (lc : Int) + (ld : Int) + (lt : Int) := by omega
                    clear HM4
                    go_wp2_with fail
                    go_ret
                    exact ⟨rfl, hkwz⟩
                  · have hr := HM4.out
                    rw [if_neg (by omega)] at hr
                    subst hr
                    have g3 : (lc : Int) + (ld : Int) + (lt : Int) ≤ (65536 : Int) := by omega
                    clear HM4
                    go_wp2_with fail
                    go_ret
                    exact ⟨rfl, hkwz⟩
    · go_wp2_with fail
      have hkW : Keep No w (w.alloc (.cells #[.int .i64 3, .string so, vn, .int .u64 (en : Int), .slice ac lc cc, .slice ad ld cd, .int .u64 (bss : Int), .slice at_ lt ct, .int .u64 (tbss : Int), .slice af ds.length cf, .slice ax fx.length cx] 84)) := (Keep.refl _ _).alloc _
      have hBW : Blk (w.alloc (.cells #[.int .i64 3, .string so, vn, .int .u64 (en : Int), .slice ac lc cc, .slice ad ld cd, .int .u64 (bss : Int), .slice at_ lt ct, .int .u64 (tbss : Int), .slice af ds.length cf, .slice ax fx.length cx] 84)) w.heap.size #[.int .i64 3, .string so, vn, .int .u64 (en : Int), .slice ac lc cc, .slice ad ld cd, .int .u64 (bss : Int), .slice at_ lt ct, .int .u64 (tbss : Int), .slice af ds.length cf, .slice ax fx.length cx] 84 := Blk.new _ _ _
      have hzW : (w.alloc (.cells #[.int .i64 3, .string so, vn, .int .u64 (en : Int), .slice ac lc cc, .slice ad ld cd, .int .u64 (bss : Int), .slice at_ lt ct, .int .u64 (tbss : Int), .slice af ds.length cf, .slice ax fx.length cx] 84)).heap.size = w.heap.size + 1 := World.size_alloc _ _
      generalize w.alloc (.cells #[.int .i64 3, .string so, vn, .int .u64 (en : Int), .slice ac lc cc, .slice ad ld cd, .int .u64 (bss : Int), .slice at_ lt ct, .int .u64 (tbss : Int), .slice af ds.length cf, .slice ax fx.length cx] 84) = W at *
      have b9 := hBW.cell 9
      go_wp2_with fail
      go_loopw [3] (fun iv wr => ∃ i : Nat, iv = .int .i64 (i : Int) ∧ i ≤ ds.length ∧ W = wr ∧ Hid (∀ j, j < i → ∀ d, ds[j]? = some d → badD d = false)) (fun iv _ => ds.length - (intOf iv).toNat)
      case atStart => exact ⟨0, rfl, Nat.zero_le _, rfl, Lib.hid fun j hj => absurd hj (Nat.not_lt_zero _)⟩
      case round =>
        obtain ⟨i, rfl, hi, rfl, HNO⟩ := hrel
        rcases Nat.lt_or_ge i ds.length with hlt | hge
        · obtain ⟨g1, off, cap, ev, _, _, _, _, hcd⟩ := (HD.out.no hkW).at (fun _ => rfl) hlt
          cases ev
          have d1 := hcd 1 _ rfl
          have hiz : (i : Int) < (ds.length : Int) := by omega
          have hb : badD ds[i] = (decide (ds[i].wh < 0) || decide (3 < ds[i].wh)) := rfl
          have HI : Hid (ds[i]? = some ds[i]) := Lib.hid (List.getElem?_eq_getElem hlt)
          have HMEM : Hid (ds[i] ∈ ds) := Lib.hid (List.getElem_mem hlt)
          clear hcd
          generalize ds[i] = d at *
          rw [show (Value.int .i64 d.wh) = .int .i64 d.wh from rfl] at d1
          cases hbb : badD d with
          | true =>
            rw [hbb] at hb
            have hany : ds.any badD = true := List.any_eq_true.2 ⟨d, HMEM.out, hbb⟩
            have hr := HM2.out
            rw [if_pos hany] at hr
            subst hr
            clear HM2 hany hbb HNO
            rcases Int.lt_or_le d.wh 0 with h0 | h0
            · clear hb
              generalize d.wh = wh at *
              go_wp2_with fail
              go_ret
              exact ⟨rfl, hkW⟩
            · have h3 : 3 < d.wh := by
                rw [decide_eq_false (by omega)] at hb
                simpa using hb
              clear hb
              generalize d.wh = wh at *
              go_wp2_with fail
              go_ret
              exact ⟨rfl, hkW⟩
          | false =>
            rw [hbb] at hb
            have h0 : 0 ≤ d.wh := by
              rcases Int.lt_or_le d.wh 0 with h | h
              · rw [decide_eq_true h] at hb; cases hb
              · exact h
            have h3 : d.wh ≤ 3 := by
              rcases Int.lt_or_le 3 d.wh with h | h
              · rw [decide_eq_true h, Bool.or_true] at hb; cases hb
              · exact h
            have HNO2 : Hid (∀ j, j < i + 1 → ∀ d, ds[j]? = some d → badD d = false) := Lib.hid fun j hj d' hd' => by
              rcases Nat.lt_or_ge j i with h | h
              · exact HNO.out j h d' hd'
              · obtain rfl : j = i := by omega
                rw [HI.out] at hd'
                cases hd'
                exact hbb
            clear hb hbb HNO HMEM HI
            generalize d.wh = wh at *
            go_wp2_with fail
            go_roundw
            case rel => exact ⟨i + 1, by go_num, hlt, by first | rfl | trivial, HNO2⟩
            case measure => simp [intOf]; omega
        · obtain rfl : i = ds.length := Nat.le_antisymm hi hge
          have hany : ds.any badD = false := by
            rw [List.any_eq_false]
            intro d hd hb
            obtain ⟨j, hj, rfl⟩ := List.getElem_of_mem hd
            have := HNO.out j hj _ (List.getElem?_eq_getElem hj)
            rw [hb] at this
            cases this
          have hr := HM2.out
          rw [hany, if_neg (by decide)] at hr
          have HM3 := Lib.hid hr
          clear hr hany HNO HM2 hi hge
          have b10 := hBW.cell 10
          go_wp2_with fail
          go_loopw [4] (fun iv wr => ∃ i : Nat, iv = .int .i64 (i : Int) ∧ i ≤ fx.length ∧ Keep No W wr ∧ Hid (∀ j, j < i → ∀ d, fx[j]? = some d → badF ds.length d = false)) (fun iv _ => fx.length - (intOf iv).toNat)
          case atStart => exact ⟨0, rfl, Nat.zero_le _, Keep.refl _ _, Lib.hid fun j hj => absurd hj (Nat.not_lt_zero _)⟩
          case round =>
            obtain ⟨i, rfl, hi, hkz, HNO⟩ := hrel
            clear b9 b10
            generalize wr = wz at *
            have hBZ := hBW.keep hkz fun h => h
            have hkwz := hkW.trans' hkz
            have b9 := hBZ.cell 9
            have b10 := hBZ.cell 10
            rcases Nat.lt_or_ge i fx.length with hlt | hge
            · obtain ⟨g1, off, cap, ev, _, _, _, _, hcd⟩ := (HX.out.no hkwz).at (fun _ => rfl) hlt
              cases ev
              have d0 := hcd 0 _ rfl
              have d3 := hcd 3 _ rfl
              rw [Nat.add_zero] at d0
              have hiz : (i : Int) < (fx.length : Int) := by omega
              have hb : badF ds.length fx[i] = ((decide (fx[i].wh ≠ 1) && decide (fx[i].wh ≠ 2)) || decide ((ds.length : Int) ≤ fx[i].df)) := rfl
              have HI : Hid (fx[i]? = some fx[i]) := Lib.hid (List.getElem?_eq_getElem hlt)
              have HMEM : Hid (fx[i] ∈ fx) := Lib.hid (List.getElem_mem hlt)
              clear hcd
              generalize fx[i] = d at *
              have HBAD : Hid (badF ds.length d = true → res = 1) := Lib.hid fun h => by
                have hr := HM3.out
                rw [if_pos (List.any_eq_true.2 ⟨d, HMEM.out, h⟩)] at hr
                exact hr
              have HGOOD : Hid (badF ds.length d = false → ∀ j, j < i + 1 → ∀ d, fx[j]? = some d → badF ds.length d = false) := Lib.hid fun hbb j hj d' hd' => by
                rcases Nat.lt_or_ge j i with h | h
                · exact HNO.out j h d' hd'
                · obtain rfl : j = i := by omega
                  rw [HI.out] at hd'
                  cases hd'
                  exact hbb
              have HB := Lib.hid hb
              clear hb HNO HI HMEM
              by_cases h1 : d.wh = 1
              · have h10 := h1
                have hbf : badF ds.length d = decide ((ds.length : Int) ≤ d.df) := by rw [HB.out, h1]; simp
                rw [h1] at d0
                rcases Int.lt_or_le d.df (ds.length : Int) with h3 | h3
                · have hd3 : decide ((ds.length : Int) ≤ d.df) = false := decide_eq_false (by omega)
                  have HNO2 := Lib.hid (HGOOD.out (by rw [hbf, hd3]))
                  clear HBAD HGOOD HB hbf
                  generalize d.df = df at *
                  go_wp2_with fail
                  try go_quiet (fail)
                  go_wp2_with fail
                  go_roundw
                  case rel => exact ⟨i + 1, by go_num, hlt, by first | exact hkz | exact hkz.drewN _, HNO2⟩
                  case measure => simp [intOf]; omega
                · have hd3 : decide ((ds.length : Int) ≤ d.df) = true := decide_eq_true h3
                  have hr : res = 1 := HBAD.out (by rw [hbf, hd3])
                  subst hr
                  clear HBAD HGOOD HB HM3 hbf
                  generalize d.df = df at *
                  go_wp2_with fail
                  try go_quiet (fail)
                  go_wp2_with fail
                  go_ret
                  exact ⟨rfl, by first | exact hkwz | exact hkwz.drewN _⟩
              · by_cases h2 : d.wh = 2
                · have h20 := h2
                  have hbf : badF ds.length d = decide ((ds.length : Int) ≤ d.df) := by rw [HB.out, h2]; simp
                  rw [h2] at d0
                  rcases Int.lt_or_le d.df (ds.length : Int) with h3 | h3
                  · have hd3 : decide ((ds.length : Int) ≤ d.df) = false := decide_eq_false (by omega)
                    have HNO2 := Lib.hid (HGOOD.out (by rw [hbf, hd3]))
                    clear HBAD HGOOD HB hbf
                    generalize d.df = df at *
                    go_wp2_with fail
                    try go_quiet (fail)
                    go_wp2_with fail
                    go_roundw
                    case rel => exact ⟨i + 1, by go_num, hlt, by first | exact hkz | exact hkz.drewN _, HNO2⟩
                    case measure => simp [intOf]; omega
                  · have hd3 : decide ((ds.length : Int) ≤ d.df) = true := decide_eq_true h3
                    have hr : res = 1 := HBAD.out (by rw [hbf, hd3])
                    subst hr
                    clear HBAD HGOOD HB HM3 hbf
                    generalize d.df = df at *
                    go_wp2_with fail
                    try go_quiet (fail)
                    go_wp2_with fail
                    go_ret
                    exact ⟨rfl, by first | exact hkwz | exact hkwz.drewN _⟩
                · have hr : res = 1 := HBAD.out (by rw [HB.out, decide_eq_true h1, decide_eq_true h2]; rfl)
                  subst hr
                  have e1 : (d.wh != 1) = true := by rw [bne_iff_ne]; exact h1
                  have e2 : (d.wh != 2) = true := by rw [bne_iff_ne]; exact h2
                  clear HBAD HGOOD HB HM3
                  generalize d.wh = wh at *
                  generalize d.df = df at *
                  go_wp2_with fail
                  try go_quiet (fail)
                  go_wp2_with fail
                  go_ret
                  exact ⟨rfl, by first | exact hkwz | exact hkwz.drewN _⟩
            · obtain rfl : i = fx.length := Nat.le_antisymm hi hge
              have hany : fx.any (badF ds.length) = false := by
                rw [List.any_eq_false]
                intro d hd hb
                obtain ⟨j, hj, rfl⟩ := List.getElem_of_mem hd
                have := HNO.out j hj _ (List.getElem?_eq_getElem hj)
                rw [hb] at this
                cases this
              have hr := HM3.out
              rw [hany, if_neg (by decide)] at hr
              have HM4 := Lib.hid hr
              clear hr hany HNO HM3 hi hge
              have b4 := hBZ.cell 4
              have b5 := hBZ.cell 5
              have b6 := hBZ.cell 6
              have b7 := hBZ.cell 7
              have b8 := hBZ.cell 8
              rcases Nat.lt_or_ge 1048576 bss with h1 | h1
              · have hr := HM4.out
                rw [if_pos (.inl h1)] at hr
                subst hr
                have g1 : (1048576 : Int) < (bss : Int) := by omega
                clear HM4
                go_wp2_with fail
                go_ret
                exact ⟨rfl, hkwz⟩
              · rcases Nat.lt_or_ge 1048576 tbss with h2 | h2
                · have hr := HM4.out
                  rw [if_pos (.inr (.inl h2))] at hr
                  subst hr
                  have g1 : (bss : Int) ≤ (1048576 : Int) := by omega
                  have g2 : (1048576 : Int) < (tbss : Int) := by omega
                  clear HM4
                  go_wp2_with fail
                  go_ret
                  exact ⟨rfl, hkwz⟩
                · have g1 : (bss : Int) ≤ (1048576 : Int) := by omega
                  have g2 : (tbss : Int) ≤ (1048576 : Int) := by omega
                  rcases Nat.lt_or_ge 65536 (lc + ld + lt) with h3 | h3
                  · have hr := HM4.out
                    rw [if_pos (.inr (.inr h3))] at hr
                    subst hr
                    have g3 : (65536 : Int) < (lc : Int) + (ld : Int) + (lt : Int) := by omega
                    clear HM4
                    go_wp2_with fail
                    go_ret
                    exact ⟨rfl, hkwz⟩
                  · have hr := HM4.out
                    rw [if_neg (by omega)] at hr
                    subst hr
                    have g3 : (lc : Int) + (ld : Int) + (lt : Int) ≤ (65536 : Int) := by omega
                    clear HM4
                    go_wp2_with fail
                    go_ret
                    exact ⟨rfl, hkwz⟩
end
end Go.Proofs.YtbnahidopemkiaaGreat
namespace Go.Dm.Ld
open Go Go.Dm.Oc
/-- where a string stands in the table; the table behind it -/
def strStep (done : List (BS × Nat)) (tb : BS) (s : BS) : Nat × BS :=
  if s = [] then (0, tb) else
    match done.find? (fun p => p.1 == s) with
    | some p => (p.2, tb)
    | none => (tb.length, tb ++ s ++ [0])
def strGo : List BS → List (BS × Nat) → BS → List (BS × Nat) × BS
  | [], done, tb => (done, tb)
  | s :: r, done, tb => strGo r (done ++ [(s, (strStep done tb s).1)]) (strStep done tb s).2
def strM (l : List BS) : Nat × BS × List Nat :=
  if l.any (fun s => s.contains 0) then (1, [], [])
  else if 65536 < (strGo l [] [0]).2.length then (13, [], [])
  else (0, (strGo l [] [0]).2, (strGo l [] [0]).1.map (·.2))
structure Lay where
  count : Nat
  dyn : Nat
  size : Nat
  v : List Nat
  last : Nat
  code : Nat
  data : Nat
  tls : Nat
def hasDB (s : Sp) : Bool := !s.data.isEmpty || !s.tls.isEmpty || decide (0 < s.bss)
def hasTB (s : Sp) : Bool := !s.tls.isEmpty || decide (0 < s.tbss)
def layM (s : Sp) (tl : Nat) (at_ : List Nat) : Lay :=
  let count := 2 + (if s.code.isEmpty then 0 else 1) + (if hasDB s then 1 else 0) + (if hasTB s then 1 else 0)
  let v4 := if s.defs.isEmpty then 0 else s.defs.length + 1
  let v6 := 24 * s.fixes.length
  let dyn := 64 + 56 * count
  let size := (infoB ((at_.drop 1).take s.need.length) [at_.getD 0 0, 0, tl, 0, v4, 0, v6]).length
  let v1 := dyn + size
  let v3 := upM (v1 + tl) 8
  let v5 := v3 + 24 * v4
  let last := v5 + v6
  let code := upM last 256
  let data := upM (code + s.code.length) 256
  ⟨count, dyn, size, [at_.getD 0 0, v1, tl, v3, v4, v5, v6], last, code, data, upM (data + s.data.length) 8⟩
def dataN (s : Sp) (y : Lay) : Nat := if s.tls.isEmpty then s.data.length else y.tls + s.tls.length - y.data
def headsM (s : Sp) (y : Lay) : BS :=
  headB ⟨s.kind.toNat, if s.code.isEmpty then 0 else (y.code + s.entry) % 18446744073709551616, 64, y.count⟩
  ++ segR ⟨1, 4, 0, 0, y.last, y.last, 256⟩
  ++ (if s.code.isEmpty then [] else segR ⟨1, 5, y.code, y.code, s.code.length, s.code.length, 256⟩)
  ++ (if hasDB s then segR ⟨1, 6, if dataN s y = 0 then 0 else y.data, y.data, dataN s y, dataN s y + s.bss, 256⟩ else [])
  ++ segR ⟨2, 4, y.dyn, y.dyn, y.size, y.size, 8⟩
  ++ (if hasTB s then segR ⟨7, 4, if s.tls.isEmpty then 0 else y.tls, if s.tls.isEmpty then 0 else y.tls, s.tls.length, s.tls.length + s.tbss, 8⟩ else [])
def symOf (y : Lay) (nm : Nat) (d : Df) : Sy :=
  let inf := if d.weak then 32 else 16
  if d.wh = 0 then ⟨nm % 4294967296, inf, 0, 0, 0, 0⟩
  else if d.wh = 1 then ⟨nm % 4294967296, inf + 2, 0, 1, (d.off + y.code) % 18446744073709551616, 0⟩
  else if d.wh = 2 then ⟨nm % 4294967296, inf + 1, 0, 1, (d.off + y.data) % 18446744073709551616, 0⟩
  else ⟨nm % 4294967296, inf + 6, 0, 1, d.off, 0⟩
def relOf (y : Lay) (f : Fx) : Rl := ⟨(f.off + (if f.wh = 2 then y.data else y.code)) % 18446744073709551616, f.ty, if 0 ≤ f.df then (f.df.toNat + 1) % 4294967296 else 0, f.add⟩
def bodyM (s : Sp) (y : Lay) (table : BS) (at_ : List Nat) : BS :=
  let a := padM (headsM s y ++ infoB ((at_.drop 1).take s.need.length) y.v ++ table) 8
  let b := a ++ (if s.defs.isEmpty then [] else List.replicate 24 0)
    ++ ((at_.drop (1 + s.need.length)).zip s.defs).flatMap (fun p => symR (symOf y p.1 p.2))
    ++ s.fixes.flatMap (fun f => relR (relOf y f))
  let c := if s.code.isEmpty then b else padM b 256 ++ s.code
  let d := if s.data.isEmpty then c else padM c 256 ++ s.data
  if s.tls.isEmpty then d else d ++ List.replicate (y.tls - d.length) 0 ++ s.tls
def buildM (s : Sp) : Nat × BS :=
  if mayM s ≠ 0 then (mayM s, [])
  else
    let t := strM (s.so :: (s.need ++ s.defs.map (·.nm)))
    if t.1 ≠ 0 then (t.1, [])
    else
      let o := bodyM s (layM s t.2.1.length t.2.2) t.2.1 t.2.2
      if 65536 < o.length then (13, []) else (0, o)
/-- the statements' lib -/
def libSp (kind : Int) (need : List BS) (code : BS) : Sp := ⟨kind, [], need, 0, code, [], 0, [], 0, [], []⟩
end Go.Dm.Ld
namespace Go.Proofs.YtbnahidopemkiaaGreat
open Go.RowKit Go.Dm Go.Dm.Oc Go.Dm.Ld
structure StrR (l : List BS) (w wr : World) (i : Nat) (vt vp : Value) (tb : BS) (done : List (BS × Nat)) : Prop where
  row : FlO wr w.heap.size 5 1 e8 vt tb
  out : FlO wr w.heap.size 44 1 encN vp (done.map (·.2))
  sep : ∀ g, vp.ownBlock = some g → vt.ownBlock ≠ some g
  dl : done.length = i
  nm : done.map (·.1) = l.take i
  lt : ∀ p ∈ done, p.2 < tb.length
  pos : 0 < tb.length
  go : strGo (l.drop i) done tb = strGo l [] [0]
  tl : tb.length ≤ 1 + i * 100001
  kw : Keep No w wr
theorem tl_step {i n : Nat} (h : n ≤ 1 + i * 100001) : n ≤ 1 + (i + 1) * 100001 := Nat.le_trans h (Nat.add_le_add_left (Nat.mul_le_mul_right _ (Nat.le_succ _)) _)
theorem StrR.place {l : List BS} {w wr w2 : World} {i x : Nat} {vt vp vp' : Value} {tb s : BS} {done : List (BS × Nat)} (h : StrR l w wr i vt vp tb done)
    (ho : FlO w2 w.heap.size 44 1 encN vp' (done.map (·.2) ++ [x])) (hk : Keep (fun j => some j = vp.ownBlock) wr w2) (hn : vp'.ownBlock = vp.ownBlock ∨ vp'.ownBlock = some (wr.heap.size + 1))
    (hnm : l.take (i + 1) = done.map (·.1) ++ [s]) (hx : x < tb.length) (hgo : strGo (l.drop (i + 1)) (done ++ [(s, x)]) tb = strGo l [] [0]) (htl : tb.length ≤ 1 + (i + 1) * 100001) :
    StrR l w w2 (i + 1) vt vp' tb (done ++ [(s, x)]) := by
  refine ⟨h.row.same fun g hg => hk.block g (World.ownsRow.lt h.row g hg).2 fun e => h.sep g e.symm hg, by rw [List.map_append]; exact ho, fun g hg e => ?_, by rw [List.length_append, h.dl]; rfl, by rw [List.map_append, hnm]; rfl, fun p hp => ?_, h.pos, hgo, htl, h.kw.own h.out hk⟩
  · rcases hn with e2 | e2
    · exact h.sep g (e2 ▸ hg) e
    · rw [e2] at hg
      cases hg
      have := (World.ownsRow.lt h.row _ e).2
      omega
  · rcases List.mem_append.1 hp with hp | hp
    · exact h.lt p hp
    · rw [List.mem_singleton.1 hp]; exact hx
theorem StrR.no {l : List BS} {w wr w2 : World} {i : Nat} {vt vp : Value} {tb : BS} {done : List (BS × Nat)} (h : StrR l w wr i vt vp tb done) (hk : Keep No wr w2) : StrR l w w2 i vt vp tb done :=
  ⟨h.row.no hk, h.out.no hk, h.sep, h.dl, h.nm, h.lt, h.pos, h.go, h.tl, h.kw.trans' hk⟩
/-- a string that was not there: the table grows -/
theorem StrR.grow {l : List BS} {w wr w1 w2 : World} {i x : Nat} {vt vt' vp vp' : Value} {tb tb' s : BS} {done : List (BS × Nat)} (h : StrR l w wr i vt vp tb done)
    (hP : Pushed w.heap.size wr w1 vt vt' tb') (ho : FlO w2 w.heap.size 44 1 encN vp' (done.map (·.2) ++ [x])) (hk : Keep (fun j => some j = vp.ownBlock) w1 w2) (hn : vp'.ownBlock = vp.ownBlock ∨ vp'.ownBlock = some (w1.heap.size + 1))
    (hnm : l.take (i + 1) = done.map (·.1) ++ [s]) (hx : x < tb'.length) (hle : tb.length ≤ tb'.length) (hgo : strGo (l.drop (i + 1)) (done ++ [(s, x)]) tb' = strGo l [] [0]) (htl : tb'.length ≤ 1 + (i + 1) * 100001) :
    StrR l w w2 (i + 1) vt' vp' tb' (done ++ [(s, x)]) := by
  have hpw : ∀ g, vp.ownBlock = some g → g < wr.heap.size := fun g hg => (World.ownsRow.lt h.out g hg).2
  have hsep : ∀ g, vp.ownBlock = some g → vt'.ownBlock ≠ some g := fun g hg e => by
    rcases hP.own with e2 | ⟨g2, e2, hg2⟩
    · exact h.sep g hg (e2 ▸ e)
    · rw [e2] at e
      cases e
      have := hpw _ hg
      omega
  have hkw1 : Keep No w w1 := h.kw.own h.row hP.kept
  have hout1 : FlO w1 w.heap.size 44 1 encN vp (done.map (·.2)) := h.out.same fun g hg => hP.kept.block g (hpw g hg) fun e => h.sep g hg e.symm
  refine ⟨hP.row.same fun g hg => hk.block g (World.ownsRow.lt hP.row g hg).2 fun e => hsep g e.symm hg, by rw [List.map_append]; exact ho, fun g hg e => ?_, by rw [List.length_append, h.dl]; rfl, by rw [List.map_append, hnm]; rfl, fun p hp => ?_, Nat.lt_of_lt_of_le h.pos hle, hgo, htl, hkw1.own hout1 hk⟩
  · rcases hn with e2 | e2
    · exact hsep g (e2 ▸ hg) e
    · rw [e2] at hg
      cases hg
      have := (World.ownsRow.lt hP.row _ e).2
      omega
  · rcases List.mem_append.1 hp with hp | hp
    · exact Nat.lt_of_lt_of_le (h.lt p hp) hle
    · rw [List.mem_singleton.1 hp]; exact hx
theorem strStep_none {done : List (BS × Nat)} {tb s : BS} (hs : s ≠ []) (h : ∀ (j : Nat) (p : BS × Nat), done[j]? = some p → (p.1 == s) = false) : strStep done tb s = (tb.length, tb ++ s ++ [0]) := by
  unfold strStep
  rw [if_neg hs]
  have hf : done.find? (fun p => p.1 == s) = none := by
    rw [List.find?_eq_none]
    intro p hp
    obtain ⟨j, hj, rfl⟩ := List.getElem_of_mem hp
    rw [h j _ (List.getElem?_eq_getElem hj)]
    decide
  rw [hf]
theorem strStep_some {done : List (BS × Nat)} {tb s : BS} {k : Nat} {p : BS × Nat} (hs : s ≠ []) (hk : done[k]? = some p) (he : (p.1 == s) = true) (h : ∀ (j : Nat), j < k → ∀ (p : BS × Nat), done[j]? = some p → (p.1 == s) = false) : strStep done tb s = (p.2, tb) := by
  unfold strStep
  rw [if_neg hs]
  have hf : done.find? (fun p => p.1 == s) = some p := by
    obtain ⟨hkl, rfl⟩ := List.getElem?_eq_some_iff.1 hk
    rw [List.find?_eq_some_iff_getElem]
    refine ⟨he, k, hkl, rfl, fun j hj => ?_⟩
    rw [h j hj _ (List.getElem?_eq_getElem (Nat.lt_trans hj hkl))]
    rfl
  rw [hf]
theorem ba_eq (a b : List UInt8) : ((⟨a.toArray⟩ : ByteArray).toList == (⟨b.toArray⟩ : ByteArray).toList) = (a == b) := by
  rw [Lib.toList_data, Lib.toList_data]
section
variable {A : Nat → Prop} {w : World} {v : Value}
set_option maxRecDepth 100000 in
set_option maxHeartbeats 4000000 in
theorem r02build_any (l : List BS) (hl : Fl A w 1 encS v l) (hn : l.length ≤ 4096) (hb : ∀ s ∈ l, s.length ≤ 100000) :
    Calls Tryz.prog 35 #[v] w fun e w' => ∃ vt vp, e = .returned (.tuple #[vt, vp, .int .i64 ((strM l).1 : Nat)]) ∧ FlO w' w.heap.size 5 1 e8 vt (strM l).2.1 ∧ FlO w' w.heap.size 44 1 encN vp (strM l).2.2 ∧ Keep No w w' := by
  have HL := Lib.hid hl
  obtain ⟨av, cv, rfl, _, _⟩ := hl.shape
  have HB := Lib.hid hb
  clear hl hb
  have hM : strM l = if l.any (fun s => s.contains 0) then (1, [], []) else if 65536 < (strGo l [] [0]).2.length then (13, [], []) else (0, (strGo l [] [0]).2, (strGo l [] [0]).1.map (·.2)) := rfl
  generalize strM l = res at *
  have HM := Lib.hid hM
  clear hM
  go_enter Tryz.func35, Tryz.ntmps35
  go_wp2_with fail
  go_loopw [6, 7] (fun iv _ wr => ∃ i : Nat, iv = .int .i64 (i : Int) ∧ i ≤ l.length ∧ Keep No w wr ∧ Hid (∀ j, j < i → ∀ s, l[j]? = some s → s.contains 0 = false)) (fun iv _ _ => l.length - (intOf iv).toNat)
  case atStart => exact ⟨0, rfl, Nat.zero_le _, Keep.refl _ _, Lib.hid fun j hj => absurd hj (Nat.not_lt_zero _)⟩
  case round =>
    obtain ⟨i, rfl, hi, hk, HNO⟩ := hrel
    generalize wr = wz at *
    rcases Nat.lt_or_ge i l.length with hlt | hge
    · obtain ⟨g1, off, cap, ev, _, hg1, _, _, hcd⟩ := (HL.out.no hk).at encS_len hlt
      cases ev
      have d0 := hcd 0 _ rfl
      rw [Nat.add_zero, Nat.mul_one] at d0
      have hiz : (i : Int) < (l.length : Int) := by omega
      have hbl := HB.out _ (List.getElem_mem hlt)
      have HI : Hid (l[i]? = some l[i]) := Lib.hid (List.getElem?_eq_getElem hlt)
      have HMEM : Hid (l[i] ∈ l) := Lib.hid (List.getElem_mem hlt)
      clear hcd
      generalize l[i] = s at *
      go_wp2_with fail
      go_loopw [7] (fun kv wr => ∃ k : Nat, kv = .int .i64 (k : Int) ∧ k ≤ s.length ∧ Keep No wz wr ∧ Hid (∀ j, j < k → s[j]? ≠ some 0)) (fun kv _ => s.length - (intOf kv).toNat)
      case atStart => exact ⟨0, rfl, Nat.zero_le _, Keep.refl _ _, Lib.hid fun j hj => absurd hj (Nat.not_lt_zero _)⟩
      case round =>
        obtain ⟨k, rfl, hks, hk2, HNK⟩ := hrel
        generalize wr = wy at *
        have e0 := (hk2.cell (p := ⟨g1, off + i, none⟩) hg1 fun h => h).trans d0
        clear d0
        have hsz : (⟨s.toArray⟩ : ByteArray).size = s.length := by show s.toArray.size = _; simp
        have hby : ∀ (h : k < s.length), (⟨s.toArray⟩ : ByteArray).data[k]? = some s[k] := fun h => by show s.toArray[k]? = _; simp [h]
        generalize (⟨s.toArray⟩ : ByteArray) = bs at *
        rcases Nat.lt_or_ge k s.length with hkl | hkg
        · have hb2 := hby hkl
          clear hby
          have hkz : (k : Int) < (s.length : Int) := by omega
          have hkb : k < bs.size := by omega
          have hbe : bs[k] = s[k] := by
            have h1 : bs.data[k]? = some bs[k] := Array.getElem?_eq_getElem hkb
            rw [h1] at hb2
            exact Option.some.inj hb2
          clear hb2
          by_cases hz : s[k] = 0
          · have hc : ((bs[k].toNat : Int) == 0) = true := by rw [hbe, hz]; rfl
            have hany : l.any (fun s => s.contains 0) = true := List.any_eq_true.2 ⟨s, HMEM.out, List.contains_iff_mem.2 (hz ▸ List.getElem_mem hkl)⟩
            have hr := HM.out
            rw [if_pos hany] at hr
            subst hr
            have hkF := hk.trans' hk2
            clear hbe hz HM hany
            go_wp2_with fail
            refine bodyPost_ret (by rw [results_tmp3 rfl]) rfl ?_
            exact ⟨_, _, rfl, FlO.nil, FlO.nil, hkF⟩
          · have hc : ((bs[k].toNat : Int) == 0) = false := by
              rw [hbe, beq_eq_false_iff_ne]
              intro h
              exact hz (UInt8.toNat_inj.1 (show s[k].toNat = 0 by omega))
            have HNK2 : Hid (∀ j, j < k + 1 → s[j]? ≠ some 0) := Lib.hid fun j hj h => by
              rcases Nat.lt_or_ge j k with h1 | h1
              · exact HNK.out j h1 h
              · obtain rfl : j = k := by omega
                rw [List.getElem?_eq_getElem hkl] at h
                exact hz (Option.some.inj h)
            clear hbe hz
            go_wp2_with fail
            go_roundw
            case rel => exact ⟨k + 1, by go_num, hkl, hk2, HNK2⟩
            case measure => simp [intOf]; omega
        · obtain rfl : k = s.length := Nat.le_antisymm hks hkg
          have HNO2 : Hid (∀ j, j < i + 1 → ∀ s, l[j]? = some s → s.contains 0 = false) := Lib.hid fun j hj s' hs' => by
            rcases Nat.lt_or_ge j i with h | h
            · exact HNO.out j h s' hs'
            · obtain rfl : j = i := by omega
              rw [HI.out] at hs'
              cases hs'
              rw [Bool.eq_false_iff]
              intro hc
              obtain ⟨q, hq, he⟩ := List.getElem_of_mem (List.contains_iff_mem.1 hc)
              exact HNK.out q hq (by rw [List.getElem?_eq_getElem hq, he])
          have hkF := hk.trans' hk2
          clear hby
          go_wp2_with fail
          go_roundw
          case rel => exact ⟨i + 1, by go_num, hlt, hkF, HNO2⟩
          case measure => simp [intOf]; omega
    · obtain rfl : i = l.length := Nat.le_antisymm hi hge
      have hany : l.any (fun s => s.contains 0) = false := by
        rw [List.any_eq_false]
        intro d hd hb
        obtain ⟨j, hj, rfl⟩ := List.getElem_of_mem hd
        have := HNO.out j hj _ (List.getElem?_eq_getElem hj)
        rw [hb] at this
        cases this
      have hr := HM.out
      rw [hany, if_neg (by decide)] at hr
      have HM2 := Lib.hid hr
      clear hr hany HNO HM hi hge
      go_wp2_with fail
      have hkW : Keep No wz (wz.alloc (.cells #[.int .u8 0] 5)) := (Keep.refl _ _).alloc _
      have hBW : Blk (wz.alloc (.cells #[.int .u8 0] 5)) wz.heap.size #[.int .u8 0] 5 := Blk.new _ _ _
      have hzW : (wz.alloc (.cells #[.int .u8 0] 5)).heap.size = wz.heap.size + 1 := World.size_alloc _ _
      generalize wz.alloc (.cells #[.int .u8 0] 5) = W at *
      have hkw := hk.trans' hkW
      have hwz := hk.size
      have hrow : FlO W w.heap.size 5 1 e8 (.slice (some ⟨wz.heap.size, 0, none⟩) 1 1) [0] := own_blk hBW hwz (n := 1) (size := 1) rfl (by unfold maxLen; omega)
      have hR : StrR l w W 0 (.slice (some ⟨wz.heap.size, 0, none⟩) 1 1) (.slice none 0 0) [0] [] :=
        ⟨hrow, FlO.nil, fun g hg => (by cases hg), rfl, by rw [List.take_zero]; rfl, fun p hp => (by cases hp), Nat.zero_lt_one, by rw [List.drop_zero], Nat.le_add_right _ _, hkw⟩
      clear hrow hkw hBW hkW hzW hk
      go_wp2_with fail
      go_loopw [5, 8, 9, 10, 11, 12] (fun sv vt vp iv _ _ wr => ∃ (i : Nat) (tb : BS) (done : List (BS × Nat)), sv = .int .i64 (tb.length : Int) ∧ iv = .int .i64 (i : Int) ∧ i ≤ l.length ∧ StrR l w wr i vt vp tb done) (fun _ _ _ iv _ _ _ => l.length - (intOf iv).toNat)
      case atStart => exact ⟨0, [0], [], rfl, rfl, Nat.zero_le _, hR⟩
      case round =>
        obtain ⟨i, tb, done, rfl, rfl, hi, hR⟩ := hrel
        generalize wr = wy at *
        obtain ⟨at_, ct, et, _, _⟩ := hR.row.fl.shape
        obtain ⟨ap, cp, ep, _, _⟩ := hR.out.fl.shape
        rw [List.length_map, hR.dl] at ep
        subst et
        subst ep
        have htl := hR.tl
        rcases Nat.lt_or_ge i l.length with hlt | hge
        · obtain ⟨g1, off, cap, ev, _, hg1, _, _, hcd⟩ := (HL.out.no hR.kw).at encS_len hlt
          cases ev
          have d0 := hcd 0 _ rfl
          rw [Nat.add_zero, Nat.mul_one] at d0
          have hiz : (i : Int) < (l.length : Int) := by omega
          have hbl := HB.out _ (List.getElem_mem hlt)
          clear hcd
          have hgo1 : strGo (l.drop (i + 1)) (done ++ [(l[i], (strStep done tb l[i]).1)]) (strStep done tb l[i]).2 = strGo l [] [0] := by
            rw [← hR.go, List.drop_eq_getElem_cons hlt]
            rfl
          have htk : l.take (i + 1) = l.take i ++ [l[i]] := List.take_succ_eq_append_getElem hlt
          have HGO1 := Lib.hid hgo1
          have HTK := Lib.hid htk
          clear hgo1 htk
          generalize l[i] = s at *
          have hp0 := hR.pos
          by_cases hs : s = []
          · subst hs
            have hgo2 := HGO1.out
            rw [show strStep done tb [] = (0, tb) from rfl] at hgo2
            have HGO2 := Lib.hid hgo2
            rw [show (⟨([] : List UInt8).toArray⟩ : ByteArray) = ⟨#[]⟩ from rfl] at d0
            have hz : ((0 : Int) == (tb.length : Int)) = false := by rw [beq_eq_false_iff_ne]; omega
            have hz2 : ((tb.length : Int) == 0) = false := by rw [beq_eq_false_iff_ne]; omega
            clear hgo2 HGO1
            go_wp2_with (at_builtin; refine wl_append rfl _ _ _ _ rfl _ _ rfl rfl ?_)
            refine rg_push (P := Tryz.prog) (enc := encN) (x := 0) (cs := #[.int .u64 0]) (.int .u64 0) 8 (t := 92) (ty := 92) Tryz.underlying92 u64_info (by rfl) (by decide) (by rfl) (by rfl) (by intro u hu; rw [List.mem_singleton.1 hu]; rfl) hR.out (by rw [List.length_map, hR.dl]; omega) (by decide) hR.kw.size ?_
            intro v4 w4 ho4 hk4 hn4
            have hR4 : StrR l w w4 (i + 1) (.slice at_ tb.length ct) v4 tb (done ++ [([], 0)]) := hR.place ho4 hk4 hn4 (by rw [HTK.out, hR.nm]) hR.pos HGO2.out (tl_step hR.tl)
            obtain ⟨a4, n4, c4, rfl⟩ : ∃ a n c, v4 = .slice a n c := by
              obtain ⟨a, c, e, _⟩ := ho4.fl.shape
              exact ⟨_, _, _, e⟩
            clear ho4 hk4 hn4 hR
            go_wp2_with (at_builtin; refine wl_append rfl _ _ _ _ rfl _ _ rfl rfl ?_)
            go_roundw
            case rel => exact ⟨i + 1, tb, _, rfl, by go_num, hlt, hR4⟩
            case measure => simp [intOf]; omega
          · have hne : (⟨s.toArray⟩ : ByteArray).toList.isEmpty = false := by
              rw [Lib.toList_data]
              cases s with
              | nil => exact absurd rfl hs
              | cons a b => rfl
            have hdl : done.length = i := hR.dl
            generalize hbs : (⟨s.toArray⟩ : ByteArray) = bs at *
            have HBS := Lib.hid hbs
            have HDL := Lib.hid hdl
            have hi8 : i < 4096 := by omega
            have htb : tb.length ≤ 409604097 := Nat.le_trans hR.tl (Nat.add_le_add_left (Nat.mul_le_mul_right 100001 (Nat.le_of_lt hi8)) 1)
            clear hbs hdl
            go_wp2_with (at_builtin; refine wl_append rfl _ _ _ _ rfl _ _ rfl rfl ?_)
            go_loopw [11, 12] (fun av kv wr => ∃ k : Nat, av = .int .u64 (tb.length : Int) ∧ kv = .int .i64 (k : Int) ∧ k ≤ i ∧ Keep No wy wr ∧ Hid (∀ j, j < k → ∀ p, done[j]? = some p → (p.1 == s) = false)) (fun _ kv _ => i - (intOf kv).toNat)
            case atStart => exact ⟨0, by go_num, rfl, Nat.zero_le _, Keep.refl _ _, Lib.hid fun j hj => absurd hj (Nat.not_lt_zero _)⟩
            case round =>
              obtain ⟨k, rfl, rfl, hki, hk2, HNK⟩ := hrel
              generalize wr = wx at *
              have di := (hk2.cell (p := ⟨g1, off + i, none⟩) hg1 fun h => h).trans d0
              rcases Nat.lt_or_ge k i with hkl | hkg
              · have hkz : (k : Int) < (i : Int) := by omega
                have hkd : k < done.length := by have := HDL.out; omega
                obtain ⟨g2, off2, cap2, ev2, _, _, _, _, hcd2⟩ := (HL.out.no (hR.kw.trans' hk2)).at encS_len (show k < l.length by omega)
                cases ev2
                have dk := hcd2 0 _ rfl
                rw [Nat.add_zero, Nat.mul_one] at dk
                obtain ⟨g3, off3, cap3, ev3, _, _, _, _, hcd3⟩ := (hR.out.no hk2).fl.at (fun _ => rfl) (show k < (done.map (·.2)).length by rw [List.length_map]; exact hkd)
                have dp := hcd3 0 _ rfl
                rw [Nat.add_zero, Nat.mul_one] at dp
                injection ev3 with q1 q2 q3
                subst q1
                clear hcd2 hcd3 q2 q3
                have hl1 : l[k] = done[k].1 := by
                  have h1 : (l.take i)[k]? = (done.map (·.1))[k]? := by rw [hR.nm]
                  rw [List.getElem?_take_of_lt hkl, List.getElem?_eq_getElem (show k < l.length by omega), List.getElem?_map, List.getElem?_eq_getElem hkd] at h1
                  exact Option.some.inj h1
                rw [hl1] at dk
                rw [List.getElem_map] at dp
                have HPK : Hid (done[k]? = some done[k]) := Lib.hid (List.getElem?_eq_getElem hkd)
                have hplt := hR.lt _ (List.getElem_mem hkd)
                clear hl1
                generalize done[k] = p at *
                have hbe := ba_eq p.1 s
                rw [HBS.out] at hbe
                generalize (⟨p.1.toArray⟩ : ByteArray) = bk at *
                cases hps : (p.1 == s) with
                | true =>
                  rw [hps] at hbe
                  have hst := strStep_some (tb := tb) hs HPK.out hps HNK.out
                  have hgo2 := HGO1.out
                  rw [hst] at hgo2
                  have HGO2 := Lib.hid hgo2
                  have hpz : ((p.2 : Int) == (tb.length : Int)) = false := by rw [beq_eq_false_iff_ne]; omega
                  have hpi : (p.2 : Int) < (tb.length : Int) := by omega
                  have HPS := Lib.hid hps
                  clear hst hgo2 HGO1 hps
                  go_wp2_with fail
                  go_quiet (fail)
                  rename_i nq
                  have hkq : Keep No wy (wx.drewN nq) := hk2.drewN _
                  have dpq : (wx.drewN nq).cell? ⟨g3, off3 + k, none⟩ = some (.int .u64 (p.2 : Int)) := dp
                  have hRq : StrR l w (wx.drewN nq) i (.slice at_ tb.length ct) (.slice (some ⟨g3, off3, none⟩) i cp) tb done := hR.no hkq
                  generalize wx.drewN nq = wq at *
                  go_wp2_with (at_builtin; refine wl_append rfl _ _ _ _ rfl _ _ rfl rfl ?_)
                  refine rg_push (P := Tryz.prog) (enc := encN) (x := p.2) (cs := #[.int .u64 (p.2 : Int)]) (.int .u64 0) 8 (t := 92) (ty := 92) Tryz.underlying92 u64_info (by rfl) (by decide) (by rfl) (by rfl) (by intro u hu; rw [List.mem_singleton.1 hu]; rfl) hRq.out (by rw [List.length_map, hRq.dl]; omega) (by decide) hRq.kw.size ?_
                  intro v4 w4 ho4 hk4 hn4
                  have hR4 : StrR l w w4 (i + 1) (.slice at_ tb.length ct) v4 tb (done ++ [(s, p.2)]) := hRq.place ho4 hk4 hn4 (by rw [HTK.out, hRq.nm]) hplt HGO2.out (tl_step hRq.tl)
                  obtain ⟨a4, n4, c4, rfl⟩ : ∃ a n c, v4 = .slice a n c := by
                    obtain ⟨a, c, e, _⟩ := ho4.fl.shape
                    exact ⟨_, _, _, e⟩
                  clear ho4 hk4 hn4 hR hRq
                  go_wp2_with (at_builtin; refine wl_append rfl _ _ _ _ rfl _ _ rfl rfl ?_)
                  go_roundw
                  case rel => exact ⟨i + 1, tb, _, rfl, by go_num, hlt, hR4⟩
                  case measure => simp [intOf]; omega
                | false => 
                  rw [hps] at hbe
                  have HNK2 : Hid (∀ j, j < k + 1 → ∀ p, done[j]? = some p → (p.1 == s) = false) := Lib.hid fun j hj p' hp' => by
                    rcases Nat.lt_or_ge j k with h | h
                    · exact HNK.out j h p' hp'
                    · obtain rfl : j = k := by omega
                      rw [HPK.out] at hp'
                      cases hp'
                      exact hps
                  clear hps HPK hplt
                  go_wp2_with fail
                  go_quiet (fail)
                  go_wp2_with fail
                  go_roundw
                  case rel => exact ⟨k + 1, by go_num, by go_num, hkl, by first | exact hk2 | exact hk2.drewN _, HNK2⟩
                  case measure => simp [intOf]; omega
              · obtain rfl : k = i := Nat.le_antisymm hki hkg
                have hst := strStep_none (tb := tb) hs fun j p hp => HNK.out j (by have := (List.getElem?_eq_some_iff.1 hp).1; have := HDL.out; omega) p hp
                have hgo2 := HGO1.out
                rw [hst] at hgo2
                have HGO2 := Lib.hid hgo2
                clear hst hgo2 HGO1
                have hRx : StrR l w wx k (.slice at_ tb.length ct) (.slice ap k cp) tb done := hR.no hk2
                have hll : (tb ++ s ++ [0]).length = tb.length + s.length + 1 := by simp only [List.length_append, List.length_cons, List.length_nil]
                have HLL := Lib.hid hll
                clear hll
                go_wp2_with (at_builtin; refine wl_append rfl _ _ _ _ rfl _ _ rfl rfl ?_)
                refine rg_appstr Tryz.underlying24 Tryz.underlying9 s HBS.out hRx.pos hRx.row (by omega) hRx.kw.size ?_
                intro v1 w1 hP1
                obtain ⟨a1, n1, c1, rfl⟩ : ∃ a n c, v1 = .slice a n c := by
                  obtain ⟨a, c, e, _⟩ := hP1.row.fl.shape
                  exact ⟨_, _, _, e⟩
                have hs1 := hP1.kept.size
                have hsz := hRx.kw.size
                go_wp2_with (at_builtin; refine wl_append rfl _ _ _ _ rfl _ _ rfl rfl ?_)
                refine rg_push (w := w1) (cs := #[bv 0]) (enc := e8) (x := 0) (l := tb ++ s) (base := w.heap.size) _ 1 Tryz.underlying24 o_info rfl (by decide) rfl rfl (e8_one _) hP1.row (by rw [List.length_append]; omega) (by decide) (by omega) ?_
                intro v2 w2 ho2 hk2' hb2
                have hP2 := hP1.step ho2 hk2' hb2
                obtain ⟨a2, n2, c2, e2⟩ : ∃ a n c, v2 = .slice a n c := by
                  obtain ⟨a, c, e, _⟩ := ho2.fl.shape
                  exact ⟨_, _, _, e⟩
                obtain ⟨a3, c3, e3, _, _⟩ := ho2.fl.shape
                rw [HLL.out] at e3
                subst e3
                have hout2 : FlO w2 w.heap.size 44 1 encN (.slice ap k cp) (done.map (·.2)) := hRx.out.same fun g hg => hP2.kept.block g (World.ownsRow.lt hRx.out g hg).2 fun e => hRx.sep g hg e.symm
                have hs2 := hP2.kept.size
                have hlt2 : tb.length < tb.length + s.length + 1 := by omega
                have hd2 : IntKind.i64.wrap (((tb.length + s.length + 1 : Nat) : Int)) = ((tb.length + s.length + 1 : Nat) : Int) := by simp [IntKind.wrap, IntKind.bits, IntKind.signed]; omega
                have HP2 := Lib.hid hP2
                have HR := Lib.hid hRx
                obtain ⟨nl, hnl⟩ : ∃ nl, nl = tb.length + s.length + 1 := ⟨_, rfl⟩
                rw [← hnl] at HP2
                have HNL := Lib.hid hnl
                rw [← hnl]
                clear e2 ho2 hk2' hb2 hP1 hs1 hR hRx hP2 hlt2 hd2 hnl
                go_wp2_with (at_builtin; refine wl_append rfl _ _ _ _ rfl _ _ rfl rfl ?_)
                refine rg_push (P := Tryz.prog) (enc := encN) (x := tb.length) (cs := #[.int .u64 (tb.length : Int)]) (.int .u64 0) 8 (t := 92) (ty := 92) Tryz.underlying92 u64_info (by rfl) (by decide) (by rfl) (by rfl) (by intro u hu; rw [List.mem_singleton.1 hu]; rfl) hout2 (by rw [List.length_map, HDL.out]; omega) (by decide) (by omega) ?_
                intro v4 w4 ho4 hk4 hn4
                have hR4 : StrR l w w4 (k + 1) (.slice a3 nl c3) v4 (tb ++ s ++ [0]) (done ++ [(s, tb.length)]) := HR.out.grow HP2.out ho4 hk4 hn4 (by rw [HTK.out, HR.out.nm]) (by rw [HLL.out]; omega) (by rw [HLL.out]; omega) HGO2.out (by rw [HLL.out]; have := HR.out.tl; omega)
                obtain ⟨a4, n4, c4, rfl⟩ : ∃ a n c, v4 = .slice a n c := by
                  obtain ⟨a, c, e, _⟩ := ho4.fl.shape
                  exact ⟨_, _, _, e⟩
                clear ho4 hk4 hn4 hout2 HP2 HR
                go_wp2_with (at_builtin; refine wl_append rfl _ _ _ _ rfl _ _ rfl rfl ?_)
                go_roundw
                case rel => exact ⟨k + 1, tb ++ s ++ [0], _, by rw [HLL.out, HNL.out], by go_num, hlt, hR4⟩
                case measure => simp [intOf]; omega
        · obtain rfl : i = l.length := Nat.le_antisymm hi hge
          have hgo : strGo l [] [0] = (done, tb) := by
            rw [← hR.go, List.drop_length]
            rfl
          have hr := HM2.out
          rw [hgo] at hr
          dsimp only at hr
          rcases Nat.lt_or_ge 65536 tb.length with hb | hb
          · rw [if_pos hb] at hr
            subst hr
            have hbi : (65536 : Int) < (tb.length : Int) := by omega
            have hkF := hR.kw
            clear HM2 hgo hR
            go_wp2_with fail
            refine bodyPost_ret (by rw [results_tmp3 rfl]) rfl ?_
            exact ⟨_, _, rfl, FlO.nil, FlO.nil, hkF⟩
          · rw [if_neg (by omega)] at hr
            subst hr
            have hbi : (tb.length : Int) ≤ (65536 : Int) := by omega
            clear HM2 hgo
            go_wp2_with fail
            refine bodyPost_ret (by rw [results_tmp3 rfl]) rfl ?_
            exact ⟨_, _, rfl, hR.row, hR.out, hR.kw⟩
end
end Go.Proofs.YtbnahidopemkiaaGreat
