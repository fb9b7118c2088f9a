/- The document's answer: what Build may be asked for. The document's answer: the head as bytes. The document's Build, plainly. append(b, s...) of a string's bytes onto a row of one's own: where the row lies then. No condition. -/
import Derived.Test.YtbnahidopemkiaaGreatBu6
import Derived.Test.YtbnahidopemkiaaGreatIm5
import Derived.Test.YtbnahidopemkiaaGreatRd
import Derived.Test.YtbnahidopemkiaaGreatBu2
import Derived.Lib.AppendStr
set_option linter.unusedVariables false
set_option linter.unusedSimpArgs false
namespace Go.Dm.Ld
open Go Go.Dm.Oc
structure Df where
  nm : BS
  wh : Int
  off : Nat
  weak : Bool
structure Fx where
  wh : Int
  off : Nat
  ty : Nat
  df : Int
  add : Nat
structure Sp where
  kind : Int
  so : BS
  need : List BS
  entry : Nat
  code : BS
  data : BS
  bss : Nat
  tls : BS
  tbss : Nat
  defs : List Df
  fixes : List Fx
def badD (d : Df) : Bool := decide (d.wh < 0) || decide (3 < d.wh)
def badF (n : Nat) (f : Fx) : Bool := (decide (f.wh ≠ 1) && decide (f.wh ≠ 2)) || decide ((n : Int) ≤ f.df)
def mayM (s : Sp) : Nat :=
  if s.kind ≠ 2 ∧ s.kind ≠ 3 then 1 else if s.defs.any badD then 1 else if s.fixes.any (badF s.defs.length) then 1
  else if 1048576 < s.bss ∨ 1048576 < s.tbss ∨ 65536 < s.code.length + s.data.length + s.tls.length then 13 else 0
end Go.Dm.Ld
namespace Go.Proofs.YtbnahidopemkiaaGreat
open Go.RowKit Go.Dm Go.Dm.Oc Go.Dm.Ld
def encDf (d : Df) : List Value := [.string ⟨d.nm.toArray⟩, .int .i64 d.wh, .int .u64 (d.off : Int), .bool d.weak]
def encFx (f : Fx) : List Value := [.int .i64 f.wh, .int .u64 (f.off : Int), .int .u32 (f.ty : Int), .int .i64 f.df, .int .i64 (addI f.add)]
def specC (s : Sp) (vn vc vd vt vf vx : Value) : Array Value := #[.int .i64 s.kind, .string ⟨s.so.toArray⟩, vn, .int .u64 (s.entry : Int), vc, vd, .int .u64 (s.bss : Int), vt, .int .u64 (s.tbss : Int), vf, vx]
structure SpR (A : Nat → Prop) (w : World) (s : Sp) (vn vc vd vt vf vx : Value) : Prop where
  need : Fl A w 1 encS vn s.need
  code : Bts A w vc s.code
  data : Bts A w vd s.data
  tls : Bts A w vt s.tls
  defs : Fl A w 4 encDf vf s.defs
  fixes : Fl A w 5 encFx vx s.fixes
section
variable {A : Nat → Prop} {w : World} {vn vc vd vt vf vx : Value}
set_option maxRecDepth 100000 in
set_option maxHeartbeats 4000000 in
theorem r09may_any (s : Sp) (hs : SpR A w s vn vc vd vt vf vx) (hc : s.code.length ≤ 1099511627776) (hd : s.data.length ≤ 1099511627776) (ht : s.tls.length ≤ 1099511627776) :
    Calls Tryz.prog 34 #[.agg (specC s vn vc vd vt vf vx)] w fun e w' => e = .returned (.int .i64 ((mayM s : Nat) : Int)) ∧ Keep No w w' := by
  have HD := Lib.hid hs.defs
  have HX := Lib.hid hs.fixes
  obtain ⟨ac, cc, rfl, _, _⟩ := hs.code.shape
  obtain ⟨ad, cd, rfl, _, _⟩ := hs.data.shape
  obtain ⟨at_, ct, rfl, _, _⟩ := hs.tls.shape
  obtain ⟨af, cf, rfl, hf1, hf2⟩ := hs.defs.shape
  obtain ⟨ax, cx, rfl, hx1, hx2⟩ := hs.fixes.shape
  have hfl : s.defs.length ≤ 9223372036854775807 := by unfold maxLen at hf2; omega
  have hxl : s.fixes.length ≤ 9223372036854775807 := by unfold maxLen at hx2; omega
  clear hf1 hf2 hx1 hx2 hs
  have hM : mayM s = if s.kind ≠ 2 ∧ s.kind ≠ 3 then 1 else if s.defs.any badD then 1 else if s.fixes.any (badF s.defs.length) then 1
    else if 1048576 < s.bss ∨ 1048576 < s.tbss ∨ 65536 < s.code.length + s.data.length + s.tls.length then 13 else 0 := rfl
  generalize mayM s = res at *
  have HM := Lib.hid hM
  clear hM
  unfold specC
  generalize s.kind = kd at *
  generalize (⟨s.so.toArray⟩ : ByteArray) = so at *
  generalize s.entry = en at *
  generalize s.bss = bss at *
  generalize s.tbss = tbss at *
  generalize s.code.length = lc at *
  generalize s.data.length = ld at *
  generalize s.tls.length = lt at *
  generalize s.defs = ds at *
  generalize s.fixes = fx at *
  go_enter Tryz.func34, Tryz.ntmps34
  by_cases hk : kd ≠ 2 ∧ kd ≠ 3
  · have hr := HM.out
    rw [if_pos hk] at hr
    subst hr
    obtain ⟨hk1, hk2⟩ := hk
    have e1 : (kd != 2) = true := by rw [bne_iff_ne]; exact hk1
    have e2 : (kd != 3) = true := by rw [bne_iff_ne]; exact hk2
    clear HM
    go_wp2_with fail
    go_ret
    exact ⟨rfl, (Keep.refl _ _).alloc _⟩
  · have hk2 : kd = 2 ∨ kd = 3 := by omega
    have hr := HM.out
    rw [if_neg hk] at hr
    have HM2 := Lib.hid hr
    clear hr HM hk
    rcases hk2 with rfl | rfl
    · go_wp2_with fail
      have hkW : Keep No w (w.alloc (.cells #[.int .i64 2, .string so, vn, .int .u64 (en : Int), .slice ac lc cc, .slice ad ld cd, .int .u64 (bss : Int), .slice at_ lt ct, .int .u64 (tbss : Int), .slice af ds.length cf, .slice ax fx.length cx] 84)) := (Keep.refl _ _).alloc _
      have hBW : Blk (w.alloc (.cells #[.int .i64 2, .string so, vn, .int .u64 (en : Int), .slice ac lc cc, .slice ad ld cd, .int .u64 (bss : Int), .slice at_ lt ct, .int .u64 (tbss : Int), .slice af ds.length cf, .slice ax fx.length cx] 84)) w.heap.size #[.int .i64 2, .string so, vn, .int .u64 (en : Int), .slice ac lc cc, .slice ad ld cd, .int .u64 (bss : Int), .slice at_ lt ct, .int .u64 (tbss : Int), .slice af ds.length cf, .slice ax fx.length cx] 84 := Blk.new _ _ _
      have hzW : (w.alloc (.cells #[.int .i64 2, .string so, vn, .int .u64 (en : Int), .slice ac lc cc, .slice ad ld cd, .int .u64 (bss : Int), .slice at_ lt ct, .int .u64 (tbss : Int), .slice af ds.length cf, .slice ax fx.length cx] 84)).heap.size = w.heap.size + 1 := World.size_alloc _ _
      generalize w.alloc (.cells #[.int .i64 2, .string so, vn, .int .u64 (en : Int), .slice ac lc cc, .slice ad ld cd, .int .u64 (bss : Int), .slice at_ lt ct, .int .u64 (tbss : Int), .slice af ds.length cf, .slice ax fx.length cx] 84) = W at *
      have b9 := hBW.cell 9
      go_wp2_with fail
      go_loopw [3] (fun iv wr => ∃ i : Nat, iv = .int .i64 (i : Int) ∧ i ≤ ds.length ∧ W = wr ∧ Hid (∀ j, j < i → ∀ d, ds[j]? = some d → badD d = false)) (fun iv _ => ds.length - (intOf iv).toNat)
      case atStart => exact ⟨0, rfl, Nat.zero_le _, rfl, Lib.hid fun j hj => absurd hj (Nat.not_lt_zero _)⟩
      case round =>
        obtain ⟨i, rfl, hi, rfl, HNO⟩ := hrel
        rcases Nat.lt_or_ge i ds.length with hlt | hge
        · obtain ⟨g1, off, cap, ev, _, _, _, _, hcd⟩ := (HD.out.no hkW).at (fun _ => rfl) hlt
          cases ev
          have d1 := hcd 1 _ rfl
          have hiz : (i : Int) < (ds.length : Int) := by omega
          have hb : badD ds[i] = (decide (ds[i].wh < 0) || decide (3 < ds[i].wh)) := rfl
          have HI : Hid (ds[i]? = some ds[i]) := Lib.hid (List.getElem?_eq_getElem hlt)
          have HMEM : Hid (ds[i] ∈ ds) := Lib.hid (List.getElem_mem hlt)
          clear hcd
          generalize ds[i] = d at *
          rw [show (Value.int .i64 d.wh) = .int .i64 d.wh from rfl] at d1
          cases hbb : badD d with
          | true =>
            rw [hbb] at hb
            have hany : ds.any badD = true := List.any_eq_true.2 ⟨d, HMEM.out, hbb⟩
            have hr := HM2.out
            rw [if_pos hany] at hr
            subst hr
            clear HM2 hany hbb HNO
            rcases Int.lt_or_le d.wh 0 with h0 | h0
            · clear hb
              generalize d.wh = wh at *
              go_wp2_with fail
              go_ret
              exact ⟨rfl, hkW⟩
            · have h3 : 3 < d.wh := by
                rw [decide_eq_false (by omega)] at hb
                simpa using hb
              clear hb
              generalize d.wh = wh at *
              go_wp2_with fail
              go_ret
              exact ⟨rfl, hkW⟩
          | false =>
            rw [hbb] at hb
            have h0 : 0 ≤ d.wh := by
              rcases Int.lt_or_le d.wh 0 with h | h
              · rw [decide_eq_true h] at hb; cases hb
              · exact h
            have h3 : d.wh ≤ 3 := by
              rcases Int.lt_or_le 3 d.wh with h | h
              · rw [decide_eq_true h, Bool.or_true] at hb; cases hb
              · exact h
            have HNO2 : Hid (∀ j, j < i + 1 → ∀ d, ds[j]? = some d → badD d = false) := Lib.hid fun j hj d' hd' => by
              rcases Nat.lt_or_ge j i with h | h
              · exact HNO.out j h d' hd'
              · obtain rfl : j = i := by omega
                rw [HI.out] at hd'
                cases hd'
                exact hbb
            clear hb hbb HNO HMEM HI
            generalize d.wh = wh at *
            go_wp2_with fail
            go_roundw
            case rel => exact ⟨i + 1, by go_num, hlt, by first | rfl | trivial, HNO2⟩
            case measure => simp [intOf]; omega
        · obtain rfl : i = ds.length := Nat.le_antisymm hi hge
          have hany : ds.any badD = false := by
            rw [List.any_eq_false]
            intro d hd hb
            obtain ⟨j, hj, rfl⟩ := List.getElem_of_mem hd
            have := HNO.out j hj _ (List.getElem?_eq_getElem hj)
            rw [hb] at this
            cases this
          have hr := HM2.out
          rw [hany, if_neg (by decide)] at hr
          have HM3 := Lib.hid hr
          clear hr hany HNO HM2 hi hge
          have b10 := hBW.cell 10
          go_wp2_with fail
          go_loopw [4] (fun iv wr => ∃ i : Nat, iv = .int .i64 (i : Int) ∧ i ≤ fx.length ∧ Keep No W wr ∧ Hid (∀ j, j < i → ∀ d, fx[j]? = some d → badF ds.length d = false)) (fun iv _ => fx.length - (intOf iv).toNat)
          case atStart => exact ⟨0, rfl, Nat.zero_le _, Keep.refl _ _, Lib.hid fun j hj => absurd hj (Nat.not_lt_zero _)⟩
          case round =>
            obtain ⟨i, rfl, hi, hkz, HNO⟩ := hrel
            clear b9 b10
            generalize wr = wz at *
            have hBZ := hBW.keep hkz fun h => h
            have hkwz := hkW.trans' hkz
            have b9 := hBZ.cell 9
            have b10 := hBZ.cell 10
            rcases Nat.lt_or_ge i fx.length with hlt | hge
            · obtain ⟨g1, off, cap, ev, _, _, _, _, hcd⟩ := (HX.out.no hkwz).at (fun _ => rfl) hlt
              cases ev
              have d0 := hcd 0 _ rfl
              have d3 := hcd 3 _ rfl
              rw [Nat.add_zero] at d0
              have hiz : (i : Int) < (fx.length : Int) := by omega
              have hb : badF ds.length fx[i] = ((decide (fx[i].wh ≠ 1) && decide (fx[i].wh ≠ 2)) || decide ((ds.length : Int) ≤ fx[i].df)) := rfl
              have HI : Hid (fx[i]? = some fx[i]) := Lib.hid (List.getElem?_eq_getElem hlt)
              have HMEM : Hid (fx[i] ∈ fx) := Lib.hid (List.getElem_mem hlt)
              clear hcd
              generalize fx[i] = d at *
              have HBAD : Hid (badF ds.length d = true → res = 1) := Lib.hid fun h => by
                have hr := HM3.out
                rw [if_pos (List.any_eq_true.2 ⟨d, HMEM.out, h⟩)] at hr
                exact hr
              have HGOOD : Hid (badF ds.length d = false → ∀ j, j < i + 1 → ∀ d, fx[j]? = some d → badF ds.length d = false) := Lib.hid fun hbb j hj d' hd' => by
                rcases Nat.lt_or_ge j i with h | h
                · exact HNO.out j h d' hd'
                · obtain rfl : j = i := by omega
                  rw [HI.out] at hd'
                  cases hd'
                  exact hbb
              have HB := Lib.hid hb
              clear hb HNO HI HMEM
              by_cases h1 : d.wh = 1
              · have h10 := h1
                have hbf : badF ds.length d = decide ((ds.length : Int) ≤ d.df) := by rw [HB.out, h1]; simp
                rw [h1] at d0
                rcases Int.lt_or_le d.df (ds.length : Int) with h3 | h3
                · have hd3 : decide ((ds.length : Int) ≤ d.df) = false := decide_eq_false (by omega)
                  have HNO2 := Lib.hid (HGOOD.out (by rw [hbf, hd3]))
                  clear HBAD HGOOD HB hbf
                  generalize d.df = df at *
                  go_wp2_with fail
                  try go_quiet (fail)
                  go_wp2_with fail
                  go_roundw
                  case rel => exact ⟨i + 1, by go_num, hlt, by first | exact hkz | exact hkz.drewN _, HNO2⟩
                  case measure => simp [intOf]; omega
                · have hd3 : decide ((ds.length : Int) ≤ d.df) = true := decide_eq_true h3
                  have hr : res = 1 := HBAD.out (by rw [hbf, hd3])
                  subst hr
                  clear HBAD HGOOD HB HM3 hbf
                  generalize d.df = df at *
                  go_wp2_with fail
                  try go_quiet (fail)
                  go_wp2_with fail
                  go_ret
                  exact ⟨rfl, by first | exact hkwz | exact hkwz.drewN _⟩
              · by_cases h2 : d.wh = 2
                · have h20 := h2
                  have hbf : badF ds.length d = decide ((ds.length : Int) ≤ d.df) := by rw [HB.out, h2]; simp
                  rw [h2] at d0
                  rcases Int.lt_or_le d.df (ds.length : Int) with h3 | h3
                  · have hd3 : decide ((ds.length : Int) ≤ d.df) = false := decide_eq_false (by omega)
                    have HNO2 := Lib.hid (HGOOD.out (by rw [hbf, hd3]))
                    clear HBAD HGOOD HB hbf
                    generalize d.df = df at *
                    go_wp2_with fail
                    try go_quiet (fail)
                    go_wp2_with fail
                    go_roundw
                    case rel => exact ⟨i + 1, by go_num, hlt, by first | exact hkz | exact hkz.drewN _, HNO2⟩
                    case measure => simp [intOf]; omega
                  · have hd3 : decide ((ds.length : Int) ≤ d.df) = true := decide_eq_true h3
                    have hr : res = 1 := HBAD.out (by rw [hbf, hd3])
                    subst hr
                    clear HBAD HGOOD HB HM3 hbf
                    generalize d.df = df at *
                    go_wp2_with fail
                    try go_quiet (fail)
                    go_wp2_with fail
                    go_ret
                    exact ⟨rfl, by first | exact hkwz | exact hkwz.drewN _⟩
                · have hr : res = 1 := HBAD.out (by rw [HB.out, decide_eq_true h1, decide_eq_true h2]; rfl)
                  subst hr
                  have e1 : (d.wh != 1) = true := by rw [bne_iff_ne]; exact h1
                  have e2 : (d.wh != 2) = true := by rw [bne_iff_ne]; exact h2
                  clear HBAD HGOOD HB HM3
                  generalize d.wh = wh at *
                  generalize d.df = df at *
                  go_wp2_with fail
                  try go_quiet (fail)
                  go_wp2_with fail
                  go_ret
                  exact ⟨rfl, by first | exact hkwz | exact hkwz.drewN _⟩
            · obtain rfl : i = fx.length := Nat.le_antisymm hi hge
              have hany : fx.any (badF ds.length) = false := by
                rw [List.any_eq_false]
                intro d hd hb
                obtain ⟨j, hj, rfl⟩ := List.getElem_of_mem hd
                have := HNO.out j hj _ (List.getElem?_eq_getElem hj)
                rw [hb] at this
                cases this
              have hr := HM3.out
              rw [hany, if_neg (by decide)] at hr
              have HM4 := Lib.hid hr
              clear hr hany HNO HM3 hi hge
              have b4 := hBZ.cell 4
              have b5 := hBZ.cell 5
              have b6 := hBZ.cell 6
              have b7 := hBZ.cell 7
              have b8 := hBZ.cell 8
              rcases Nat.lt_or_ge 1048576 bss with h1 | h1
              · have hr := HM4.out
                rw [if_pos (.inl h1)] at hr
                subst hr
                have g1 : (1048576 : Int) < (bss : Int) := by omega
                clear HM4
                go_wp2_with fail
                go_ret
                exact ⟨rfl, hkwz⟩
              · rcases Nat.lt_or_ge 1048576 tbss with h2 | h2
                · have hr := HM4.out
                  rw [if_pos (.inr (.inl h2))] at hr
                  subst hr
                  have g1 : (bss : Int) ≤ (1048576 : Int) := by omega
                  have g2 : (1048576 : Int) < (tbss : Int) := by omega
                  clear HM4
                  go_wp2_with fail
                  go_ret
                  exact ⟨rfl, hkwz⟩
                · have g1 : (bss : Int) ≤ (1048576 : Int) := by omega
                  have g2 : (tbss : Int) ≤ (1048576 : Int) := by omega
                  rcases Nat.lt_or_ge 65536 (lc + ld + lt) with h3 | h3
                  · have hr := HM4.out
                    rw [if_pos (.inr (.inr h3))] at hr
                    subst hr
                    have g3 : (65536 : Int) < (lc : Int) + (ld : Int) + (lt : Int) := by omega
                    clear HM4
                    go_wp2_with fail
                    go_ret
                    exact ⟨rfl, hkwz⟩
                  · have hr := HM4.out
                    rw [if_neg (by omega)] at hr
                    subst hr
                    have g3 : (lc : Int) + (ld : Int) + (lt : Int) ≤ (65536 : Int) := by omega
                    clear HM4
                    go_wp2_with fail
                    go_ret
                    exact ⟨rfl, hkwz⟩
    · go_wp2_with fail
      have hkW : Keep No w (w.alloc (.cells #[.int .i64 3, .string so, vn, .int .u64 (en : Int), .slice ac lc cc, .slice ad ld cd, .int .u64 (bss : Int), .slice at_ lt ct, .int .u64 (tbss : Int), .slice af ds.length cf, .slice ax fx.length cx] 84)) := (Keep.refl _ _).alloc _
      have hBW : Blk (w.alloc (.cells #[.int .i64 3, .string so, vn, .int .u64 (en : Int), .slice ac lc cc, .slice ad ld cd, .int .u64 (bss : Int), .slice at_ lt ct, .int .u64 (tbss : Int), .slice af ds.length cf, .slice ax fx.length cx] 84)) w.heap.size #[.int .i64 3, .string so, vn, .int .u64 (en : Int), .slice ac lc cc, .slice ad ld cd, .int .u64 (bss : Int), .slice at_ lt ct, .int .u64 (tbss : Int), .slice af ds.length cf, .slice ax fx.length cx] 84 := Blk.new _ _ _
      have hzW : (w.alloc (.cells #[.int .i64 3, .string so, vn, .int .u64 (en : Int), .slice ac lc cc, .slice ad ld cd, .int .u64 (bss : Int), .slice at_ lt ct, .int .u64 (tbss : Int), .slice af ds.length cf, .slice ax fx.length cx] 84)).heap.size = w.heap.size + 1 := World.size_alloc _ _
      generalize w.alloc (.cells #[.int .i64 3, .string so, vn, .int .u64 (en : Int), .slice ac lc cc, .slice ad ld cd, .int .u64 (bss : Int), .slice at_ lt ct, .int .u64 (tbss : Int), .slice af ds.length cf, .slice ax fx.length cx] 84) = W at *
      have b9 := hBW.cell 9
      go_wp2_with fail
      go_loopw [3] (fun iv wr => ∃ i : Nat, iv = .int .i64 (i : Int) ∧ i ≤ ds.length ∧ W = wr ∧ Hid (∀ j, j < i → ∀ d, ds[j]? = some d → badD d = false)) (fun iv _ => ds.length - (intOf iv).toNat)
      case atStart => exact ⟨0, rfl, Nat.zero_le _, rfl, Lib.hid fun j hj => absurd hj (Nat.not_lt_zero _)⟩
      case round =>
        obtain ⟨i, rfl, hi, rfl, HNO⟩ := hrel
        rcases Nat.lt_or_ge i ds.length with hlt | hge
        · obtain ⟨g1, off, cap, ev, _, _, _, _, hcd⟩ := (HD.out.no hkW).at (fun _ => rfl) hlt
          cases ev
          have d1 := hcd 1 _ rfl
          have hiz : (i : Int) < (ds.length : Int) := by omega
          have hb : badD ds[i] = (decide (ds[i].wh < 0) || decide (3 < ds[i].wh)) := rfl
          have HI : Hid (ds[i]? = some ds[i]) := Lib.hid (List.getElem?_eq_getElem hlt)
          have HMEM : Hid (ds[i] ∈ ds) := Lib.hid (List.getElem_mem hlt)
          clear hcd
          generalize ds[i] = d at *
          rw [show (Value.int .i64 d.wh) = .int .i64 d.wh from rfl] at d1
          cases hbb : badD d with
          | true =>
            rw [hbb] at hb
            have hany : ds.any badD = true := List.any_eq_true.2 ⟨d, HMEM.out, hbb⟩
            have hr := HM2.out
            rw [if_pos hany] at hr
            subst hr
            clear HM2 hany hbb HNO
            rcases Int.lt_or_le d.wh 0 with h0 | h0
            · clear hb
              generalize d.wh = wh at *
              go_wp2_with fail
              go_ret
              exact ⟨rfl, hkW⟩
            · have h3 : 3 < d.wh := by
                rw [decide_eq_false (by omega)] at hb
                simpa using hb
              clear hb
              generalize d.wh = wh at *
              go_wp2_with fail
              go_ret
              exact ⟨rfl, hkW⟩
          | false =>
            rw [hbb] at hb
            have h0 : 0 ≤ d.wh := by
              rcases Int.lt_or_le d.wh 0 with h | h
              · rw [decide_eq_true h] at hb; cases hb
              · exact h
            have h3 : d.wh ≤ 3 := by
              rcases Int.lt_or_le 3 d.wh with h | h
              · rw [decide_eq_true h, Bool.or_true] at hb; cases hb
              · exact h
            have HNO2 : Hid (∀ j, j < i + 1 → ∀ d, ds[j]? = some d → badD d = false) := Lib.hid fun j hj d' hd' => by
              rcases Nat.lt_or_ge j i with h | h
              · exact HNO.out j h d' hd'
              · obtain rfl : j = i := by omega
                rw [HI.out] at hd'
                cases hd'
                exact hbb
            clear hb hbb HNO HMEM HI
            generalize d.wh = wh at *
            go_wp2_with fail
            go_roundw
            case rel => exact ⟨i + 1, by go_num, hlt, by first | rfl | trivial, HNO2⟩
            case measure => simp [intOf]; omega
        · obtain rfl : i = ds.length := Nat.le_antisymm hi hge
          have hany : ds.any badD = false := by
            rw [List.any_eq_false]
            intro d hd hb
            obtain ⟨j, hj, rfl⟩ := List.getElem_of_mem hd
            have := HNO.out j hj _ (List.getElem?_eq_getElem hj)
            rw [hb] at this
            cases this
          have hr := HM2.out
          rw [hany, if_neg (by decide)] at hr
          have HM3 := Lib.hid hr
          clear hr hany HNO HM2 hi hge
          have b10 := hBW.cell 10
          go_wp2_with fail
          go_loopw [4] (fun iv wr => ∃ i : Nat, iv = .int .i64 (i : Int) ∧ i ≤ fx.length ∧ Keep No W wr ∧ Hid (∀ j, j < i → ∀ d, fx[j]? = some d → badF ds.length d = false)) (fun iv _ => fx.length - (intOf iv).toNat)
          case atStart => exact ⟨0, rfl, Nat.zero_le _, Keep.refl _ _, Lib.hid fun j hj => absurd hj (Nat.not_lt_zero _)⟩
          case round =>
            obtain ⟨i, rfl, hi, hkz, HNO⟩ := hrel
            clear b9 b10
            generalize wr = wz at *
            have hBZ := hBW.keep hkz fun h => h
            have hkwz := hkW.trans' hkz
            have b9 := hBZ.cell 9
            have b10 := hBZ.cell 10
            rcases Nat.lt_or_ge i fx.length with hlt | hge
            · obtain ⟨g1, off, cap, ev, _, _, _, _, hcd⟩ := (HX.out.no hkwz).at (fun _ => rfl) hlt
              cases ev
              have d0 := hcd 0 _ rfl
              have d3 := hcd 3 _ rfl
              rw [Nat.add_zero] at d0
              have hiz : (i : Int) < (fx.length : Int) := by omega
              have hb : badF ds.length fx[i] = ((decide (fx[i].wh ≠ 1) && decide (fx[i].wh ≠ 2)) || decide ((ds.length : Int) ≤ fx[i].df)) := rfl
              have HI : Hid (fx[i]? = some fx[i]) := Lib.hid (List.getElem?_eq_getElem hlt)
              have HMEM : Hid (fx[i] ∈ fx) := Lib.hid (List.getElem_mem hlt)
              clear hcd
              generalize fx[i] = d at *
              have HBAD : Hid (badF ds.length d = true → res = 1) := Lib.hid fun h => by
                have hr := HM3.out
                rw [if_pos (List.any_eq_true.2 ⟨d, HMEM.out, h⟩)] at hr
                exact hr
              have HGOOD : Hid (badF ds.length d = false → ∀ j, j < i + 1 → ∀ d, fx[j]? = some d → badF ds.length d = false) := Lib.hid fun hbb j hj d' hd' => by
                rcases Nat.lt_or_ge j i with h | h
                · exact HNO.out j h d' hd'
                · obtain rfl : j = i := by omega
                  rw [HI.out] at hd'
                  cases hd'
                  exact hbb
              have HB := Lib.hid hb
              clear hb HNO HI HMEM
              by_cases h1 : d.wh = 1
              · have h10 := h1
                have hbf : badF ds.length d = decide ((ds.length : Int) ≤ d.df) := by rw [HB.out, h1]; simp
                rw [h1] at d0
                rcases Int.lt_or_le d.df (ds.length : Int) with h3 | h3
                · have hd3 : decide ((ds.length : Int) ≤ d.df) = false := decide_eq_false (by omega)
                  have HNO2 := Lib.hid (HGOOD.out (by rw [hbf, hd3]))
                  clear HBAD HGOOD HB hbf
                  generalize d.df = df at *
                  go_wp2_with fail
                  try go_quiet (fail)
                  go_wp2_with fail
                  go_roundw
                  case rel => exact ⟨i + 1, by go_num, hlt, by first | exact hkz | exact hkz.drewN _, HNO2⟩
                  case measure => simp [intOf]; omega
                · have hd3 : decide ((ds.length : Int) ≤ d.df) = true := decide_eq_true h3
                  have hr : res = 1 := HBAD.out (by rw [hbf, hd3])
                  subst hr
                  clear HBAD HGOOD HB HM3 hbf
                  generalize d.df = df at *
                  go_wp2_with fail
                  try go_quiet (fail)
                  go_wp2_with fail
                  go_ret
                  exact ⟨rfl, by first | exact hkwz | exact hkwz.drewN _⟩
              · by_cases h2 : d.wh = 2
                · have h20 := h2
                  have hbf : badF ds.length d = decide ((ds.length : Int) ≤ d.df) := by rw [HB.out, h2]; simp
                  rw [h2] at d0
                  rcases Int.lt_or_le d.df (ds.length : Int) with h3 | h3
                  · have hd3 : decide ((ds.length : Int) ≤ d.df) = false := decide_eq_false (by omega)
                    have HNO2 := Lib.hid (HGOOD.out (by rw [hbf, hd3]))
                    clear HBAD HGOOD HB hbf
                    generalize d.df = df at *
                    go_wp2_with fail
                    try go_quiet (fail)
                    go_wp2_with fail
                    go_roundw
                    case rel => exact ⟨i + 1, by go_num, hlt, by first | exact hkz | exact hkz.drewN _, HNO2⟩
                    case measure => simp [intOf]; omega
                  · have hd3 : decide ((ds.length : Int) ≤ d.df) = true := decide_eq_true h3
                    have hr : res = 1 := HBAD.out (by rw [hbf, hd3])
                    subst hr
                    clear HBAD HGOOD HB HM3 hbf
                    generalize d.df = df at *
                    go_wp2_with fail
                    try go_quiet (fail)
                    go_wp2_with fail
                    go_ret
                    exact ⟨rfl, by first | exact hkwz | exact hkwz.drewN _⟩
                · have hr : res = 1 := HBAD.out (by rw [HB.out, decide_eq_true h1, decide_eq_true h2]; rfl)
                  subst hr
                  have e1 : (d.wh != 1) = true := by rw [bne_iff_ne]; exact h1
                  have e2 : (d.wh != 2) = true := by rw [bne_iff_ne]; exact h2
                  clear HBAD HGOOD HB HM3
                  generalize d.wh = wh at *
                  generalize d.df = df at *
                  go_wp2_with fail
                  try go_quiet (fail)
                  go_wp2_with fail
                  go_ret
                  exact ⟨rfl, by first | exact hkwz | exact hkwz.drewN _⟩
            · obtain rfl : i = fx.length := Nat.le_antisymm hi hge
              have hany : fx.any (badF ds.length) = false := by
                rw [List.any_eq_false]
                intro d hd hb
                obtain ⟨j, hj, rfl⟩ := List.getElem_of_mem hd
                have := HNO.out j hj _ (List.getElem?_eq_getElem hj)
                rw [hb] at this
                cases this
              have hr := HM3.out
              rw [hany, if_neg (by decide)] at hr
              have HM4 := Lib.hid hr
              clear hr hany HNO HM3 hi hge
              have b4 := hBZ.cell 4
              have b5 := hBZ.cell 5
              have b6 := hBZ.cell 6
              have b7 := hBZ.cell 7
              have b8 := hBZ.cell 8
              rcases Nat.lt_or_ge 1048576 bss with h1 | h1
              · have hr := HM4.out
                rw [if_pos (.inl h1)] at hr
                subst hr
                have g1 : (1048576 : Int) < (bss : Int) := by omega
                clear HM4
                go_wp2_with fail
                go_ret
                exact ⟨rfl, hkwz⟩
              · rcases Nat.lt_or_ge 1048576 tbss with h2 | h2
                · have hr := HM4.out
                  rw [if_pos (.inr (.inl h2))] at hr
                  subst hr
                  have g1 : (bss : Int) ≤ (1048576 : Int) := by omega
                  have g2 : (1048576 : Int) < (tbss : Int) := by omega
                  clear HM4
                  go_wp2_with fail
                  go_ret
                  exact ⟨rfl, hkwz⟩
                · have g1 : (bss : Int) ≤ (1048576 : Int) := by omega
                  have g2 : (tbss : Int) ≤ (1048576 : Int) := by omega
                  rcases Nat.lt_or_ge 65536 (lc + ld + lt) with h3 | h3
                  · have hr := HM4.out
                    rw [if_pos (.inr (.inr h3))] at hr
                    subst hr
                    have g3 : (65536 : Int) < (lc : Int) + (ld : Int) + (lt : Int) := by omega
                    clear HM4
                    go_wp2_with fail
                    go_ret
                    exact ⟨rfl, hkwz⟩
                  · have hr := HM4.out
                    rw [if_neg (by omega)] at hr
                    subst hr
                    have g3 : (lc : Int) + (ld : Int) + (lt : Int) ≤ (65536 : Int) := by omega
                    clear HM4
                    go_wp2_with fail
                    go_ret
                    exact ⟨rfl, hkwz⟩
end
end Go.Proofs.YtbnahidopemkiaaGreat
namespace Go.Proofs.YtbnahidopemkiaaGreat
open Go.RowKit Go.Dm Go.Dm.Oc Go.Dm.Ld
section
variable {base : Nat} {w : World} {v : Value}
theorem magic_len : magic.length = 16 := rfl
theorem head_le (h : Hd) : magic ++ le 2 h.kind ++ le 2 19823 ++ le 4 1 ++ le 8 h.entry ++ le 8 h.segs ++ le 12 0 ++ le 2 64 ++ le 2 56 ++ le 2 h.count ++ le 6 0 = headB h := by
  unfold headB
  rw [show le 12 0 = le 8 0 ++ le 4 0 from rfl, show le 6 0 = le 2 0 ++ (le 2 0 ++ le 2 0) from rfl]
  simp only [List.append_assoc]
set_option maxRecDepth 100000 in
set_option maxHeartbeats 4000000 in
theorem r03put_any (h : Hd) (hok : headOk h = true) (hen : h.entry < 18446744073709551616) (hsg : h.segs < 18446744073709551616) :
    Calls Tryz.prog 38 #[.agg #[.int .i64 (h.kind : Int), .int .u64 (h.entry : Int), .int .u64 (h.segs : Int), .int .i64 (h.count : Int)]] w fun e w' => ∃ v', e = .returned (.tuple #[v', .int .i64 0]) ∧ FlO w' w.heap.size 5 1 e8 v' (headB h) ∧ Keep No w w' := by
  rw [← head_le]
  unfold headOk at hok
  simp only [Bool.and_eq_true, decide_eq_true_eq] at hok
  obtain ⟨⟨k1, k2⟩, k3⟩ := hok
  generalize h.kind = kd at *
  generalize h.entry = en at *
  generalize h.segs = sg at *
  generalize h.count = ct at *
  go_enter Tryz.func38, Tryz.ntmps38
  go_wp2_with fail
  have hkW0 : Keep No w (w.alloc (.cells #[.int .i64 (kd : Int), .int .u64 (en : Int), .int .u64 (sg : Int), .int .i64 (ct : Int)] 68)) := (Keep.refl _ _).alloc _
  have hBW0 : Blk (w.alloc (.cells #[.int .i64 (kd : Int), .int .u64 (en : Int), .int .u64 (sg : Int), .int .i64 (ct : Int)] 68)) w.heap.size #[.int .i64 (kd : Int), .int .u64 (en : Int), .int .u64 (sg : Int), .int .i64 (ct : Int)] 68 := Blk.new _ _ _
  have hzW0 : (w.alloc (.cells #[.int .i64 (kd : Int), .int .u64 (en : Int), .int .u64 (sg : Int), .int .i64 (ct : Int)] 68)).heap.size = w.heap.size + 1 := World.size_alloc _ _
  generalize w.alloc (.cells #[.int .i64 (kd : Int), .int .u64 (en : Int), .int .u64 (sg : Int), .int .i64 (ct : Int)] 68) = W0 at *
  have hkW : Keep No W0 (W0.alloc (.cells #[.int .u8 127, .int .u8 69, .int .u8 76, .int .u8 70, .int .u8 2, .int .u8 1, .int .u8 1, .int .u8 0, .int .u8 0, .int .u8 0, .int .u8 0, .int .u8 0, .int .u8 0, .int .u8 0, .int .u8 0, .int .u8 0] 5)) := (Keep.refl _ _).alloc _
  have hBW : Blk (W0.alloc (.cells #[.int .u8 127, .int .u8 69, .int .u8 76, .int .u8 70, .int .u8 2, .int .u8 1, .int .u8 1, .int .u8 0, .int .u8 0, .int .u8 0, .int .u8 0, .int .u8 0, .int .u8 0, .int .u8 0, .int .u8 0, .int .u8 0] 5)) W0.heap.size #[.int .u8 127, .int .u8 69, .int .u8 76, .int .u8 70, .int .u8 2, .int .u8 1, .int .u8 1, .int .u8 0, .int .u8 0, .int .u8 0, .int .u8 0, .int .u8 0, .int .u8 0, .int .u8 0, .int .u8 0, .int .u8 0] 5 := Blk.new _ _ _
  have hzW : (W0.alloc (.cells #[.int .u8 127, .int .u8 69, .int .u8 76, .int .u8 70, .int .u8 2, .int .u8 1, .int .u8 1, .int .u8 0, .int .u8 0, .int .u8 0, .int .u8 0, .int .u8 0, .int .u8 0, .int .u8 0, .int .u8 0, .int .u8 0] 5)).heap.size = W0.heap.size + 1 := World.size_alloc _ _
  generalize W0.alloc (.cells #[.int .u8 127, .int .u8 69, .int .u8 76, .int .u8 70, .int .u8 2, .int .u8 1, .int .u8 1, .int .u8 0, .int .u8 0, .int .u8 0, .int .u8 0, .int .u8 0, .int .u8 0, .int .u8 0, .int .u8 0, .int .u8 0] 5) = W at *
  rw [hzW0] at hBW hzW
  have hm : FlO W (w.heap.size + 1) 5 1 e8 (.slice (some ⟨w.heap.size + 1, 0, none⟩) 16 16) magic := own_blk hBW (Nat.le_refl (w.heap.size + 1)) (n := 16) (size := 1) rfl (by unfold maxLen; omega)
  have P0 : Pushed (w.heap.size + 1) W W (.slice (some ⟨w.heap.size + 1, 0, none⟩) 16 16) (.slice (some ⟨w.heap.size + 1, 0, none⟩) 16 16) magic := Pushed.refl hm
  have hB0 := hBW0.keep hkW fun h => h
  have hkw := hkW0.trans' hkW
  have hc := r03num_any (w := W) kd 2 (P0).row (by omega) (by have := (P0).kept.size; omega) (by decide) (by simp only [List.length_append, le_len, List.length_nil, List.length_cons, magic_len]; omega)
  refine hc.mono ?_
  clear hc
  rintro e w1 ⟨vw1, rfl, hp⟩
  have B1 := (hB0).own (P0).row hp.kept (Nat.lt_succ_self _)
  have P1 := (P0).trans hp
  obtain ⟨aw1, nw1, cw1, rfl⟩ : ∃ a n c, vw1 = .slice a n c := by
    obtain ⟨a, c, e, _⟩ := hp.row.fl.shape
    exact ⟨_, _, _, e⟩
  clear hp hB0 P0
  go_wp2_with fail
  have hc := r03num_any (w := w1) 19823 2 (P1).row (by decide) (by have := (P1).kept.size; omega) (by decide) (by simp only [List.length_append, le_len, List.length_nil, List.length_cons, magic_len]; omega)
  refine hc.mono ?_
  clear hc
  rintro e w2 ⟨vw2, rfl, hp⟩
  have B2 := (B1).own (P1).row hp.kept (Nat.lt_succ_self _)
  have P2 := (P1).trans hp
  obtain ⟨aw2, nw2, cw2, rfl⟩ : ∃ a n c, vw2 = .slice a n c := by
    obtain ⟨a, c, e, _⟩ := hp.row.fl.shape
    exact ⟨_, _, _, e⟩
  clear hp B1 P1
  go_wp2_with fail
  have hc := r03num_any (w := w2) 1 4 (P2).row (by decide) (by have := (P2).kept.size; omega) (by decide) (by simp only [List.length_append, le_len, List.length_nil, List.length_cons, magic_len]; omega)
  refine hc.mono ?_
  clear hc
  rintro e w3 ⟨vw3, rfl, hp⟩
  have B3 := (B2).own (P2).row hp.kept (Nat.lt_succ_self _)
  have P3 := (P2).trans hp
  obtain ⟨aw3, nw3, cw3, rfl⟩ : ∃ a n c, vw3 = .slice a n c := by
    obtain ⟨a, c, e, _⟩ := hp.row.fl.shape
    exact ⟨_, _, _, e⟩
  clear hp B2 P2
  have cc1 := (B3).cell 1
  go_wp2_with fail
  clear cc1
  have hc := r03num_any (w := w3) en 8 (P3).row hen (by have := (P3).kept.size; omega) (by decide) (by simp only [List.length_append, le_len, List.length_nil, List.length_cons, magic_len]; omega)
  refine hc.mono ?_
  clear hc
  rintro e w4 ⟨vw4, rfl, hp⟩
  have B4 := (B3).own (P3).row hp.kept (Nat.lt_succ_self _)
  have P4 := (P3).trans hp
  obtain ⟨aw4, nw4, cw4, rfl⟩ : ∃ a n c, vw4 = .slice a n c := by
    obtain ⟨a, c, e, _⟩ := hp.row.fl.shape
    exact ⟨_, _, _, e⟩
  clear hp B3 P3
  have cc2 := (B4).cell 2
  go_wp2_with fail
  clear cc2
  have hc := r03num_any (w := w4) sg 8 (P4).row hsg (by have := (P4).kept.size; omega) (by decide) (by simp only [List.length_append, le_len, List.length_nil, List.length_cons, magic_len]; omega)
  refine hc.mono ?_
  clear hc
  rintro e w5 ⟨vw5, rfl, hp⟩
  have B5 := (B4).own (P4).row hp.kept (Nat.lt_succ_self _)
  have P5 := (P4).trans hp
  obtain ⟨aw5, nw5, cw5, rfl⟩ : ∃ a n c, vw5 = .slice a n c := by
    obtain ⟨a, c, e, _⟩ := hp.row.fl.shape
    exact ⟨_, _, _, e⟩
  clear hp B4 P4
  go_wp2_with fail
  have hc := r03num_any (w := w5) 0 12 (P5).row (by decide) (by have := (P5).kept.size; omega) (by decide) (by simp only [List.length_append, le_len, List.length_nil, List.length_cons, magic_len]; omega)
  refine hc.mono ?_
  clear hc
  rintro e w6 ⟨vw6, rfl, hp⟩
  have B6 := (B5).own (P5).row hp.kept (Nat.lt_succ_self _)
  have P6 := (P5).trans hp
  obtain ⟨aw6, nw6, cw6, rfl⟩ : ∃ a n c, vw6 = .slice a n c := by
    obtain ⟨a, c, e, _⟩ := hp.row.fl.shape
    exact ⟨_, _, _, e⟩
  clear hp B5 P5
  go_wp2_with fail
  have hc := r03num_any (w := w6) 64 2 (P6).row (by decide) (by have := (P6).kept.size; omega) (by decide) (by simp only [List.length_append, le_len, List.length_nil, List.length_cons, magic_len]; omega)
  refine hc.mono ?_
  clear hc
  rintro e w7 ⟨vw7, rfl, hp⟩
  have B7 := (B6).own (P6).row hp.kept (Nat.lt_succ_self _)
  have P7 := (P6).trans hp
  obtain ⟨aw7, nw7, cw7, rfl⟩ : ∃ a n c, vw7 = .slice a n c := by
    obtain ⟨a, c, e, _⟩ := hp.row.fl.shape
    exact ⟨_, _, _, e⟩
  clear hp B6 P6
  go_wp2_with fail
  have hc := r03num_any (w := w7) 56 2 (P7).row (by decide) (by have := (P7).kept.size; omega) (by decide) (by simp only [List.length_append, le_len, List.length_nil, List.length_cons, magic_len]; omega)
  refine hc.mono ?_
  clear hc
  rintro e w8 ⟨vw8, rfl, hp⟩
  have B8 := (B7).own (P7).row hp.kept (Nat.lt_succ_self _)
  have P8 := (P7).trans hp
  obtain ⟨aw8, nw8, cw8, rfl⟩ : ∃ a n c, vw8 = .slice a n c := by
    obtain ⟨a, c, e, _⟩ := hp.row.fl.shape
    exact ⟨_, _, _, e⟩
  clear hp B7 P7
  have cc3 := (B8).cell 3
  go_wp2_with fail
  clear cc3
  have hc := r03num_any (w := w8) ct 2 (P8).row (by omega) (by have := (P8).kept.size; omega) (by decide) (by simp only [List.length_append, le_len, List.length_nil, List.length_cons, magic_len]; omega)
  refine hc.mono ?_
  clear hc
  rintro e w9 ⟨vw9, rfl, hp⟩
  have B9 := (B8).own (P8).row hp.kept (Nat.lt_succ_self _)
  have P9 := (P8).trans hp
  obtain ⟨aw9, nw9, cw9, rfl⟩ : ∃ a n c, vw9 = .slice a n c := by
    obtain ⟨a, c, e, _⟩ := hp.row.fl.shape
    exact ⟨_, _, _, e⟩
  clear hp B8 P8
  go_wp2_with fail
  have hc := r03num_any (w := w9) 0 6 (P9).row (by decide) (by have := (P9).kept.size; omega) (by decide) (by simp only [List.length_append, le_len, List.length_nil, List.length_cons, magic_len]; omega)
  refine hc.mono ?_
  clear hc
  rintro e w10 ⟨vw10, rfl, hp⟩
  have B10 := (B9).own (P9).row hp.kept (Nat.lt_succ_self _)
  have P10 := (P9).trans hp
  obtain ⟨aw10, nw10, cw10, rfl⟩ : ∃ a n c, vw10 = .slice a n c := by
    obtain ⟨a, c, e, _⟩ := hp.row.fl.shape
    exact ⟨_, _, _, e⟩
  clear hp B9 P9
  go_wp2_with fail
  go_ret2
  refine ⟨_, ?_, own_base (P10).row (Nat.le_succ _), (P10).no (Nat.le_succ _) hm hkw⟩
  rfl
end
end Go.Proofs.YtbnahidopemkiaaGreat
namespace Go.Dm.Ld
open Go Go.Dm.Oc
/-- where a string stands in the table; the table behind it -/
def strStep (done : List (BS × Nat)) (tb : BS) (s : BS) : Nat × BS :=
  if s = [] then (0, tb) else
    match done.find? (fun p => p.1 == s) with
    | some p => (p.2, tb)
    | none => (tb.length, tb ++ s ++ [0])
def strGo : List BS → List (BS × Nat) → BS → List (BS × Nat) × BS
  | [], done, tb => (done, tb)
  | s :: r, done, tb => strGo r (done ++ [(s, (strStep done tb s).1)]) (strStep done tb s).2
def strM (l : List BS) : Nat × BS × List Nat :=
  if l.any (fun s => s.contains 0) then (1, [], [])
  else if 65536 < (strGo l [] [0]).2.length then (13, [], [])
  else (0, (strGo l [] [0]).2, (strGo l [] [0]).1.map (·.2))
structure Lay where
  count : Nat
  dyn : Nat
  size : Nat
  v : List Nat
  last : Nat
  code : Nat
  data : Nat
  tls : Nat
def hasDB (s : Sp) : Bool := !s.data.isEmpty || !s.tls.isEmpty || decide (0 < s.bss)
def hasTB (s : Sp) : Bool := !s.tls.isEmpty || decide (0 < s.tbss)
def layM (s : Sp) (tl : Nat) (at_ : List Nat) : Lay :=
  let count := 2 + (if s.code.isEmpty then 0 else 1) + (if hasDB s then 1 else 0) + (if hasTB s then 1 else 0)
  let v4 := if s.defs.isEmpty then 0 else s.defs.length + 1
  let v6 := 24 * s.fixes.length
  let dyn := 64 + 56 * count
  let size := (infoB ((at_.drop 1).take s.need.length) [at_.getD 0 0, 0, tl, 0, v4, 0, v6]).length
  let v1 := dyn + size
  let v3 := upM (v1 + tl) 8
  let v5 := v3 + 24 * v4
  let last := v5 + v6
  let code := upM last 256
  let data := upM (code + s.code.length) 256
  ⟨count, dyn, size, [at_.getD 0 0, v1, tl, v3, v4, v5, v6], last, code, data, upM (data + s.data.length) 8⟩
def dataN (s : Sp) (y : Lay) : Nat := if s.tls.isEmpty then s.data.length else y.tls + s.tls.length - y.data
def headsM (s : Sp) (y : Lay) : BS :=
  headB ⟨s.kind.toNat, if s.code.isEmpty then 0 else (y.code + s.entry) % 18446744073709551616, 64, y.count⟩
  ++ segR ⟨1, 4, 0, 0, y.last, y.last, 256⟩
  ++ (if s.code.isEmpty then [] else segR ⟨1, 5, y.code, y.code, s.code.length, s.code.length, 256⟩)
  ++ (if hasDB s then segR ⟨1, 6, if dataN s y = 0 then 0 else y.data, y.data, dataN s y, dataN s y + s.bss, 256⟩ else [])
  ++ segR ⟨2, 4, y.dyn, y.dyn, y.size, y.size, 8⟩
  ++ (if hasTB s then segR ⟨7, 4, if s.tls.isEmpty then 0 else y.tls, if s.tls.isEmpty then 0 else y.tls, s.tls.length, s.tls.length + s.tbss, 8⟩ else [])
def symOf (y : Lay) (nm : Nat) (d : Df) : Sy :=
  let inf := if d.weak then 32 else 16
  if d.wh = 0 then ⟨nm % 4294967296, inf, 0, 0, 0, 0⟩
  else if d.wh = 1 then ⟨nm % 4294967296, inf + 2, 0, 1, (d.off + y.code) % 18446744073709551616, 0⟩
  else if d.wh = 2 then ⟨nm % 4294967296, inf + 1, 0, 1, (d.off + y.data) % 18446744073709551616, 0⟩
  else ⟨nm % 4294967296, inf + 6, 0, 1, d.off, 0⟩
def relOf (y : Lay) (f : Fx) : Rl := ⟨(f.off + (if f.wh = 2 then y.data else y.code)) % 18446744073709551616, f.ty, if 0 ≤ f.df then (f.df.toNat + 1) % 4294967296 else 0, f.add⟩
def bodyM (s : Sp) (y : Lay) (table : BS) (at_ : List Nat) : BS :=
  let a := padM (headsM s y ++ infoB ((at_.drop 1).take s.need.length) y.v ++ table) 8
  let b := a ++ (if s.defs.isEmpty then [] else List.replicate 24 0)
    ++ ((at_.drop (1 + s.need.length)).zip s.defs).flatMap (fun p => symR (symOf y p.1 p.2))
    ++ s.fixes.flatMap (fun f => relR (relOf y f))
  let c := if s.code.isEmpty then b else padM b 256 ++ s.code
  let d := if s.data.isEmpty then c else padM c 256 ++ s.data
  if s.tls.isEmpty then d else d ++ List.replicate (y.tls - d.length) 0 ++ s.tls
def buildM (s : Sp) : Nat × BS :=
  if mayM s ≠ 0 then (mayM s, [])
  else
    let t := strM (s.so :: (s.need ++ s.defs.map (·.nm)))
    if t.1 ≠ 0 then (t.1, [])
    else
      let o := bodyM s (layM s t.2.1.length t.2.2) t.2.1 t.2.2
      if 65536 < o.length then (13, []) else (0, o)
/-- the statements' lib -/
def libSp (kind : Int) (need : List BS) (code : BS) : Sp := ⟨kind, [], need, 0, code, [], 0, [], 0, [], []⟩
end Go.Dm.Ld
namespace Go.Proofs.YtbnahidopemkiaaGreat
open Go.RowKit Go.Dm Go.Dm.Oc
section
variable {base : Nat} {w : World} {v : Value} {l : List UInt8}
theorem strCells_bv (s : List UInt8) : Lib.strCells ⟨s.toArray⟩ = s.flatMap e8 := by
  rw [e8_map]
  show (s.toArray.toList.map fun b => Value.int .u8 b.toNat) = s.map bv
  rw [List.toList_toArray]
  rfl
theorem rg_appstr {t u ty : TypeId} (ht : Tryz.prog.underlying t = some (.slice 5)) (hu : Tryz.prog.underlying u = some .string) (s : List UInt8) {bs : ByteArray} (hbs : (⟨s.toArray⟩ : ByteArray) = bs) (hp : 0 < l.length) (ho : FlO w base 5 1 e8 v l) (hlen : l.length + s.length ≤ 1099511627776) (hb : base ≤ w.heap.size) {K : Value → World → Prop}
    (h : ∀ v' w', Pushed base w w' v v' (l ++ s) → K v' w') : AppendGoal Tryz.prog t u ty v (.string bs) w K := by
  subst hbs
  have hi := @o_info
  obtain ⟨i, hi1, hi2⟩ := Option.map_eq_some_iff.1 hi
  simp only [Prod.mk.injEq] at hi2
  obtain ⟨e1, e2, e3⟩ := hi2
  have hsz : (⟨s.toArray⟩ : ByteArray).size = s.length := by show s.toArray.size = _; rw [List.size_toArray]
  have ho' := ho
  unfold FlO at ho'
  obtain ⟨v', w', hr, hw, hg, _⟩ := Lib.run_append_own_string (P := Tryz.prog) (w := w) (ty := ty) base t u 5 i ht hu hi1 e1 e2 e3 v l.length (l.flatMap e8) ho' ⟨s.toArray⟩ (by rw [hsz]; unfold maxLen; omega) (by rw [hsz]; omega) hb
  have hrow : FlO w' base 5 1 e8 v' (l ++ s) := by
    unfold FlO
    rw [List.length_append, List.flatMap_append, ← strCells_bv s, ← hsz]
    exact hw
  refine .mk hr (h v' w' ⟨hrow, Keep.of_grown hg, ?_⟩)
  rcases ho'.2 with ⟨rfl, hn⟩ | ⟨g, cap, cur, rfl, hbg, hgg, hnc, hcm, hcs, htake⟩
  · omega
  · by_cases hroom : l.length + s.length ≤ cap
    · have hr2 := Lib.run_append_room_string (P := Tryz.prog) w t u ty 5 i ht hu hi1 e2 g l.length cap cur hgg ⟨s.toArray⟩ (by rw [hsz]; exact hroom) (by rw [hsz]; omega)
      rw [hr] at hr2
      injection hr2 with q1 q2
      subst q1
      exact .inl rfl
    · have holds : ∀ j u, (l.flatMap e8)[j]? = some u → w.cell? ((⟨g, 0, none⟩ : Addr).add j) = some u := ho'.cells (g := g) rfl
      have hr2 := Lib.run_append_grow_string (P := Tryz.prog) w t u ty 5 i (.int .u8 0) ht hu hi1 e1 ⟨g, 0, none⟩ l.length cap (l.flatMap e8) (by rw [e2]; exact ho'.1) holds ⟨s.toArray⟩ (by rw [hsz]; omega) (by rw [hsz]; omega) (by rw [hsz, e3]; exact growslice_fits (by omega) (by omega))
      rw [hr] at hr2
      injection hr2 with q1 q2
      subst q1
      exact .inr ⟨_, rfl, Nat.le_refl _⟩
end
end Go.Proofs.YtbnahidopemkiaaGreat
