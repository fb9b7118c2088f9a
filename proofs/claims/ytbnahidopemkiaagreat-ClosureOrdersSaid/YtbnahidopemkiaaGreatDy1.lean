/- dynamic: Get. No condition. -/
import Derived.Test.YtbnahidopemkiaaGreatSg5
import Derived.Test.YtbnahidopemkiaaGreatMapR
set_option linter.unusedVariables false
set_option linter.unusedSimpArgs false
namespace Go.Proofs.YtbnahidopemkiaaGreat
open Go.RowKit Go.Dm Go.Dm.Oc Go.Dm.Ld Go.Maps
theorem kU64L : Keyed Tryz.prog 44 := int_keyed Tryz.underlying44
theorem kOfI {a : Int} (h : 0 ≤ a ∧ a < 18446744073709551616) : keyOf Tryz.prog 44 (.int .u64 a) = some (.int .u64 a) := keyOf_int_mk Tryz.underlying44 (by
  simp [Lit.wf, IntKind.min, IntKind.max, IntKind.signed, IntKind.bits]; omega)
def fieldsD (x : Nat) : List (Lit × Value) := [(.int .u64 8, .pointer (some ⟨x, 7, none⟩)), (.int .u64 7, .pointer (some ⟨x, 6, none⟩)), (.int .u64 1610612749, .pointer (some ⟨x, 5, none⟩)), (.int .u64 6, .pointer (some ⟨x, 4, none⟩)), (.int .u64 10, .pointer (some ⟨x, 3, none⟩)), (.int .u64 5, .pointer (some ⟨x, 2, none⟩)), (.int .u64 14, .pointer (some ⟨x, 1, none⟩))]
theorem fieldsD_find (x t : Nat) : findL (fieldsD x) (.int .u64 (t : Int)) = (tagAt t).map fun k => Value.pointer (some ⟨x, k + 1, none⟩) := by
  have e : ∀ c : Nat, (Lit.int IntKind.u64 (c : Int)).sameKey (Lit.int .u64 (t : Int)) = decide (c = t) := by
    intro c
    simp [Lit.sameKey]
    omega
  have e5 : (Lit.int IntKind.u64 5).sameKey (Lit.int .u64 (t : Int)) = decide (5 = t) := e 5
  have e6 : (Lit.int IntKind.u64 6).sameKey (Lit.int .u64 (t : Int)) = decide (6 = t) := e 6
  have e7 : (Lit.int IntKind.u64 7).sameKey (Lit.int .u64 (t : Int)) = decide (7 = t) := e 7
  have e8 : (Lit.int IntKind.u64 8).sameKey (Lit.int .u64 (t : Int)) = decide (8 = t) := e 8
  have e10 : (Lit.int IntKind.u64 10).sameKey (Lit.int .u64 (t : Int)) = decide (10 = t) := e 10
  have e14 : (Lit.int IntKind.u64 14).sameKey (Lit.int .u64 (t : Int)) = decide (14 = t) := e 14
  have e1610612749 : (Lit.int IntKind.u64 1610612749).sameKey (Lit.int .u64 (t : Int)) = decide (1610612749 = t) := e 1610612749
  clear e
  unfold findL fieldsD tagAt
  simp only [List.find?_cons, List.find?_nil, e5, e6, e7, e8, e10, e14, e1610612749]
  by_cases h14 : t = 14
  · subst h14; rfl
  · by_cases h5 : t = 5
    · subst h5; rfl
    · by_cases h10 : t = 10
      · subst h10; rfl
      · by_cases h6 : t = 6
        · subst h6; rfl
        · by_cases hm : t = 1610612749
          · subst hm; rfl
          · by_cases h7 : t = 7
            · subst h7; rfl
            · by_cases h8 : t = 8
              · subst h8; rfl
              · rw [if_neg h14, if_neg h5, if_neg h10, if_neg h6, if_neg hm, if_neg h7, if_neg h8]
                rw [decide_eq_false (Ne.symm h14), decide_eq_false (Ne.symm h5), decide_eq_false (Ne.symm h10), decide_eq_false (Ne.symm h6), decide_eq_false (Ne.symm hm), decide_eq_false (Ne.symm h7), decide_eq_false (Ne.symm h8)]
                rfl
theorem lenD (k x : Nat) : ((fieldsD x).drop k).length < maxLen := by
  rw [List.length_drop]
  exact Nat.lt_of_le_of_lt (Nat.sub_le _ _) (show 7 < maxLen by decide)
def encN (n : Nat) : List Value := [.int .u64 (n : Int)]
/-- what was seen: the keys of a map -/
def SeenR (L : List (Lit × Value)) (seen : List Bool) : Prop := ∀ (t : Nat) (k : Nat), tagAt t = some k → ((findL L (.int .u64 (t : Int))).getD (.bool false)) = .bool (seen.getD k false)
theorem SeenR0 : SeenR [] [false, false, false, false, false, false, false] := by
  intro t k h
  have : k < 7 := by
    unfold tagAt at h
    repeat' split at h
    all_goals first | (cases h; done) | (cases h; decide)
  rcases (by omega : k = 0 ∨ k = 1 ∨ k = 2 ∨ k = 3 ∨ k = 4 ∨ k = 5 ∨ k = 6) with rfl | rfl | rfl | rfl | rfl | rfl | rfl <;> rfl
theorem hasB_two (n a : Nat) (ha : n < 1099511627776) : hasB n a 16 = (hasB n a 8 && hasB n (a + 8) 8) := by
  unfold hasB
  rw [Bool.eq_iff_iff]
  simp only [Bool.and_eq_true, decide_eq_true_eq]
  omega
theorem fits8 (n a : Nat) : fitsE n a 8 = if hasB n a 8 then 0 else 10 := rfl
theorem tagAt_inj {t t' k : Nat} (h : tagAt t = some k) (h' : tagAt t' = some k) : t = t' := by
  unfold tagAt at h h'
  repeat' split at h
  all_goals repeat' split at h'
  all_goals first
    | (cases h; done)
    | (cases h'; done)
    | (subst_vars; rfl)
    | (cases h; cases h')
theorem tagAt_lt {t k : Nat} (h : tagAt t = some k) : k < 7 := by
  unfold tagAt at h
  repeat' split at h
  all_goals first
    | (cases h; done)
    | (cases h; decide)
theorem key64 (a : Nat) (h : a < 18446744073709551616) : WideAt.IsKeyLit (.int .u64 (a : Int)) := keyLit_of kU64L (kOfI (a := (a : Int)) (by omega))
theorem SeenR.put {L : List (Lit × Value)} {seen : List Bool} (h : SeenR L seen) {tag q : Nat} (ht : tagAt tag = some q) (hlt : tag < 18446744073709551616) (hs : seen.length = 7) : SeenR ((.int .u64 (tag : Int), .bool true) :: eraseL L (.int .u64 (tag : Int))) (seen.set q true) := by
  intro t k hk
  by_cases he : t = tag
  · subst he
    rw [ht] at hk
    cases hk
    have hq := tagAt_lt ht
    have e1 : findL ((Lit.int IntKind.u64 (t : Int), Value.bool true) :: eraseL L (.int .u64 (t : Int))) (.int .u64 (t : Int)) = some (.bool true) := by
      unfold findL
      rw [List.find?_cons_of_pos (by exact WideAt.sameKey_self (key64 t hlt))]
      rfl
    rw [e1, List.getD_eq_getElem?_getD, List.getElem?_set_self (by omega)]
    rfl
  · have hne : k ≠ q := fun e => he (tagAt_inj hk (by rw [e]; exact ht))
    have hsk : ∀ c d : Nat, c ≠ d → (Lit.int IntKind.u64 (c : Int)).sameKey (.int .u64 (d : Int)) = false := by
      intro c d h
      simp [Lit.sameKey]
      omega
    have e1 : findL ((Lit.int IntKind.u64 (tag : Int), Value.bool true) :: eraseL L (.int .u64 (tag : Int))) (.int .u64 (t : Int)) = findL L (.int .u64 (t : Int)) := by
      unfold findL eraseL
      rw [List.find?_cons_of_neg (by rw [hsk tag t (fun e => he e.symm)]; decide), List.find?_filter]
      congr 2
      funext p
      cases hp : p.1.sameKey (.int .u64 (t : Int)) with
      | false => simp
      | true =>
        have hpt : p.1 = .int .u64 (t : Int) := by
          have hlt2 : t < 18446744073709551616 := by
            unfold tagAt at hk
            repeat' split at hk
            all_goals first
              | (cases hk; done)
              | omega
          exact (sameKey_true (key64 t hlt2)).1 hp
        rw [hpt, hsk t tag he]
        rfl
    rw [e1, h t k hk, List.getD_eq_getElem?_getD, List.getD_eq_getElem?_getD, List.getElem?_set_ne (Ne.symm hne)]
theorem own_keep {w w' : World} {base size n : Nat} {e : TypeId} {v : Value} {xs : List Value} {S : Nat → Prop} (ho : w.ownsRow base e size v n xs) (hk : Keep S w w') (hS : ∀ j, base ≤ j → ¬ S j) : w'.ownsRow base e size v n xs := by
  refine ⟨ho.1, ho.2.imp id ?_⟩
  rintro ⟨g, cap, cur, rfl, a, b, r⟩
  exact ⟨g, cap, cur, rfl, a, (hk.block g (World.ownsRow.lt ho g rfl).2 (hS g a)).trans b, r⟩
theorem u64_info : (Tryz.prog.info? 44).map (fun i => (i.zero, i.size, i.bytes)) = some (some (.int .u64 0), 1, 8) := by kernel_rfl
section
variable {A : Nat → Prop} {w : World}
theorem zU64P (w : World) : (zeroValue 204).run Tryz.prog w = .ok (.pointer none) w := by kernel_rfl
theorem zBool (w : World) : (zeroValue 4).run Tryz.prog w = .ok (.bool false) w := by kernel_rfl
set_option maxRecDepth 100000 in
set_option maxHeartbeats 4000000 in
theorem dyget_any {v : Value} (b : BS) (hb : Bts A w v b) (hl : b.length < 1099511627776) :
    Calls Tryz.prog 84 #[v] w fun e w' => ∃ vn, e = .returned (.tuple #[.agg (vn :: (dyM b).2.v.map fun n : Nat => Value.int .u64 (n : Int)).toArray, .int .i64 ((dyM b).1 : Nat)]) ∧ FlO w' w.heap.size 44 1 encN vn (dyM b).2.need ∧ Keep No w w' := by
  have HB := Lib.hid hb
  obtain ⟨ao, co, rfl, hc1, hc2⟩ := hb.shape
  clear hb
  have hmm := @run_makeMap Tryz.prog
  go_enter Tryz.func84, Tryz.ntmps84
  go_wp2_with (with_reducible refine wl_insert rfl _ _ _ _ rfl _ _ _ rfl rfl rfl ?_)
  have hkW : Keep No w (w.alloc (.cells #[.slice none 0 0, .int .u64 0, .int .u64 0, .int .u64 0, .int .u64 0, .int .u64 0, .int .u64 0, .int .u64 0] 145)) := (Keep.refl _ _).alloc _
  have hBW : Blk (w.alloc (.cells #[.slice none 0 0, .int .u64 0, .int .u64 0, .int .u64 0, .int .u64 0, .int .u64 0, .int .u64 0, .int .u64 0] 145)) w.heap.size #[.slice none 0 0, .int .u64 0, .int .u64 0, .int .u64 0, .int .u64 0, .int .u64 0, .int .u64 0, .int .u64 0] 145 := Blk.new _ _ _
  have hzW : (w.alloc (.cells #[.slice none 0 0, .int .u64 0, .int .u64 0, .int .u64 0, .int .u64 0, .int .u64 0, .int .u64 0, .int .u64 0] 145)).heap.size = w.heap.size + 1 := World.size_alloc _ _
  generalize w.alloc (.cells #[.slice none 0 0, .int .u64 0, .int .u64 0, .int .u64 0, .int .u64 0, .int .u64 0, .int .u64 0, .int .u64 0] 145) = W at *
  have hkV : Keep No W (W.alloc (.cells #[.slice none 0 0, .int .u64 0, .int .u64 0, .int .u64 0, .int .u64 0, .int .u64 0, .int .u64 0, .int .u64 0] 145)) := (Keep.refl _ _).alloc _
  have hBV : Blk (W.alloc (.cells #[.slice none 0 0, .int .u64 0, .int .u64 0, .int .u64 0, .int .u64 0, .int .u64 0, .int .u64 0, .int .u64 0] 145)) W.heap.size #[.slice none 0 0, .int .u64 0, .int .u64 0, .int .u64 0, .int .u64 0, .int .u64 0, .int .u64 0, .int .u64 0] 145 := Blk.new _ _ _
  have hzV : (W.alloc (.cells #[.slice none 0 0, .int .u64 0, .int .u64 0, .int .u64 0, .int .u64 0, .int .u64 0, .int .u64 0, .int .u64 0] 145)).heap.size = W.heap.size + 1 := World.size_alloc _ _
  generalize W.alloc (.cells #[.slice none 0 0, .int .u64 0, .int .u64 0, .int .u64 0, .int .u64 0, .int .u64 0, .int .u64 0, .int .u64 0] 145) = V at *
  have hM0 := MapL.made Tryz.prog 44 V
  have hkM : Keep No V (V.alloc (.map #[] 0)) := (Keep.refl _ _).alloc _
  have hzM : (V.alloc (.map #[] 0)).heap.size = V.heap.size + 1 := World.size_alloc _ _
  generalize V.alloc (.map #[] 0) = m0 at *
  have hVs : V.heap.size = w.heap.size + 1 + 1 := by rw [hzV, hzW]
  rw [hVs] at hM0 hzM
  have hM0 : MapL Tryz.prog 44 m0 (w.heap.size + 1 + 1) ((fieldsD (w.heap.size + 1)).drop 7) := hM0
  refine rg_store hM0 kU64L Tryz.underlying205 (lenD _ _) (kOfI (a := 14) (by decide)) ?_
  intro m1 hM1' hkm1 hzm1
  have hM1 : MapL Tryz.prog 44 m1 (w.heap.size + 1 + 1) ((fieldsD (w.heap.size + 1)).drop 6) := hM1'
  clear hM1'
  go_wp2_with (with_reducible refine wl_insert rfl _ _ _ _ rfl _ _ _ rfl rfl rfl ?_)
  refine rg_store hM1 kU64L Tryz.underlying205 (lenD _ _) (kOfI (a := 5) (by decide)) ?_
  intro m2 hM2' hkm2 hzm2
  have hM2 : MapL Tryz.prog 44 m2 (w.heap.size + 1 + 1) ((fieldsD (w.heap.size + 1)).drop 5) := hM2'
  clear hM2'
  go_wp2_with (with_reducible refine wl_insert rfl _ _ _ _ rfl _ _ _ rfl rfl rfl ?_)
  refine rg_store hM2 kU64L Tryz.underlying205 (lenD _ _) (kOfI (a := 10) (by decide)) ?_
  intro m3 hM3' hkm3 hzm3
  have hM3 : MapL Tryz.prog 44 m3 (w.heap.size + 1 + 1) ((fieldsD (w.heap.size + 1)).drop 4) := hM3'
  clear hM3'
  go_wp2_with (with_reducible refine wl_insert rfl _ _ _ _ rfl _ _ _ rfl rfl rfl ?_)
  refine rg_store hM3 kU64L Tryz.underlying205 (lenD _ _) (kOfI (a := 6) (by decide)) ?_
  intro m4 hM4' hkm4 hzm4
  have hM4 : MapL Tryz.prog 44 m4 (w.heap.size + 1 + 1) ((fieldsD (w.heap.size + 1)).drop 3) := hM4'
  clear hM4'
  go_wp2_with (with_reducible refine wl_insert rfl _ _ _ _ rfl _ _ _ rfl rfl rfl ?_)
  refine rg_store hM4 kU64L Tryz.underlying205 (lenD _ _) (kOfI (a := 1610612749) (by decide)) ?_
  intro m5 hM5' hkm5 hzm5
  have hM5 : MapL Tryz.prog 44 m5 (w.heap.size + 1 + 1) ((fieldsD (w.heap.size + 1)).drop 2) := hM5'
  clear hM5'
  go_wp2_with (with_reducible refine wl_insert rfl _ _ _ _ rfl _ _ _ rfl rfl rfl ?_)
  refine rg_store hM5 kU64L Tryz.underlying205 (lenD _ _) (kOfI (a := 7) (by decide)) ?_
  intro m6 hM6' hkm6 hzm6
  have hM6 : MapL Tryz.prog 44 m6 (w.heap.size + 1 + 1) ((fieldsD (w.heap.size + 1)).drop 1) := hM6'
  clear hM6'
  go_wp2_with (with_reducible refine wl_insert rfl _ _ _ _ rfl _ _ _ rfl rfl rfl ?_)
  refine rg_store hM6 kU64L Tryz.underlying205 (lenD _ _) (kOfI (a := 8) (by decide)) ?_
  intro m7 hM7' hkm7 hzm7
  have hM7 : MapL Tryz.prog 44 m7 (w.heap.size + 1 + 1) ((fieldsD (w.heap.size + 1)).drop 0) := hM7'
  clear hM7'
  go_wp2_with (with_reducible refine wl_insert rfl _ _ _ _ rfl _ _ _ rfl rfl rfl ?_)
  have hMF : MapL Tryz.prog 44 m7 (w.heap.size + 1 + 1) (fieldsD (w.heap.size + 1)) := hM7
  have hk07 : Keep (fun j => j = w.heap.size + 1 + 1) m0 m7 := hkm1.trans' (hkm2.trans' (hkm3.trans' (hkm4.trans' (hkm5.trans' (hkm6.trans' hkm7)))))
  have hz7 : m7.heap.size = w.heap.size + 1 + 1 + 1 := by omega
  have hB07 := (((hBW.keep hkV fun h => h).keep hkM fun h => h).keep hk07 fun e => by have e2 : w.heap.size = w.heap.size + 1 + 1 := e; omega)
  have hX07 := ((hBV.keep hkM fun h => h).keep hk07 fun e => by have e2 : W.heap.size = w.heap.size + 1 + 1 := e; omega)
  rw [hzW] at hX07
  have hkw7 : Keep No w m7 := ((hkW.trans' hkV).trans' hkM).trans hk07 fun j hj e => by have e2 : j = w.heap.size + 1 + 1 := e; omega
  clear hM0 hM1 hM2 hM3 hM4 hM5 hM6 hM7 hkm1 hkm2 hkm3 hkm4 hkm5 hkm6 hkm7 hzm1 hzm2 hzm3 hzm4 hzm5 hzm6 hzm7 hBW hBV hkW hkV hkM hk07 hzW hzV hzM hVs
  have hMS := MapL.made Tryz.prog 44 m7
  have hkS : Keep No m7 (m7.alloc (.map #[] 0)) := (Keep.refl _ _).alloc _
  have hzS : (m7.alloc (.map #[] 0)).heap.size = m7.heap.size + 1 := World.size_alloc _ _
  have hMF1 := hMF.keep hkS fun h => h
  have hR1 := hB07.keep hkS fun h => h
  have hX1 := hX07.keep hkS fun h => h
  have hkw1 := hkw7.trans' hkS
  generalize m7.alloc (.map #[] 0) = w1 at *
  rw [hz7] at hMS hzS
  clear hMF hB07 hX07 hkw7 hkS hz7 hmm
  go_loopw [7] (fun iv wr => ∃ (k : Nat) (x : Dy) (seen : List Bool) (vn : Value) (L : List (Lit × Value)), iv = .int .u64 ((16 * k : Nat) : Int) ∧ k ≤ b.length / 16 ∧ dyGo b (b.length / 16 + 1 - k) (16 * k) x seen = dyM b ∧ x.v.length = 7 ∧ seen.length = 7 ∧
      Blk wr (w.heap.size + 1) (vn :: x.v.map fun n : Nat => Value.int .u64 (n : Int)).toArray 145 ∧ FlO wr w1.heap.size 44 1 encN vn x.need ∧ x.need.length ≤ k ∧
      MapL Tryz.prog 44 wr (w.heap.size + 1 + 1) (fieldsD (w.heap.size + 1)) ∧ MapL Tryz.prog 44 wr (w.heap.size + 1 + 1 + 1) L ∧ SeenR L seen ∧ L.length ≤ k ∧
      Blk wr w.heap.size #[.slice none 0 0, .int .u64 0, .int .u64 0, .int .u64 0, .int .u64 0, .int .u64 0, .int .u64 0, .int .u64 0] 145 ∧ Keep No w wr ∧ w1.heap.size ≤ wr.heap.size) (fun iv _ => b.length / 16 + 1 - (intOf iv).toNat / 16)
  case atStart => exact ⟨0, dy0, [false, false, false, false, false, false, false], _, [], rfl, Nat.zero_le _, rfl, rfl, rfl, hX1, FlO.nil, Nat.zero_le _, hMF1, hMS, SeenR0, Nat.zero_le _, hR1, hkw1, Nat.le_refl _⟩
  case round =>
    clear hX1 hMF1 hMS hR1 hkw1
    obtain ⟨k, x, seen, vn, L, rfl, hk16, hgo, hv7, hs7, hX, hO, hnl, hMF, hMS, hSR, hLl, hR, hK, hsz⟩ := hrel
    generalize wr = wz at *
    have hgo2 : dyGo b (b.length / 16 + 1 - k) (16 * k) x seen = (if hasB b.length (16 * k) 16 = false then (10, dy0)
        else if getX b (16 * k) 8 = 0 then (if seenOk seen then (0, x) else (11, dy0))
        else if getX b (16 * k) 8 = 1 then dyGo b (b.length / 16 + 1 - (k + 1)) (16 * (k + 1)) { x with need := x.need ++ [getX b (16 * k + 8) 8] } seen
        else match tagAt (getX b (16 * k) 8) with
          | none => (11, dy0)
          | some q => if seen.getD q false then (12, dy0) else dyGo b (b.length / 16 + 1 - (k + 1)) (16 * (k + 1)) { x with v := x.v.set q (getX b (16 * k + 8) 8) } (seen.set q true)) := by
      rw [show b.length / 16 + 1 - k = (b.length / 16 + 1 - (k + 1)) + 1 by omega, show 16 * (k + 1) = 16 * k + 16 by omega]
      rfl
    rw [hgo2] at hgo
    have hg1 := oget_any (w := wz) b (16 * k) 8 (Sl.keep HB.out hK fun _ _ _ h => h) (by omega) (by omega) (by decide) (by decide)
    have hg2 := oget_any (w := wz) b (16 * k + 8) 8 (Sl.keep HB.out hK fun _ _ _ h => h) (by omega) (by omega) (by decide) (by decide)
    have h16 := hasB_two b.length (16 * k) hl
    have hhas : hasB b.length (16 * k) 16 = true → k + 1 ≤ b.length / 16 := by
      intro h
      simp only [hasB, Bool.and_eq_true, decide_eq_true_eq] at h
      omega
    have ht := getX_lt b (16 * k) 8
    have hvl := getX_lt b (16 * k + 8) 8
    rw [fits8] at hg1 hg2
    have ht : getX b (16 * k) 8 < 18446744073709551616 := ht
    have hvl : getX b (16 * k + 8) 8 < 18446744073709551616 := hvl
    clear hgo2
    generalize getX b (16 * k) 8 = tag at *
    generalize getX b (16 * k + 8) 8 = val at *
    generalize hasB b.length (16 * k) 8 = h8 at *
    generalize hasB b.length (16 * k + 8) 8 = h88 at *
    generalize hasB b.length (16 * k) 16 = hh at *
    cases h8 with
    | false =>
      simp only [Bool.false_and] at h16
      subst h16
      have HG := Lib.hid ((if_pos rfl).symm.trans hgo)
      clear hgo hhas
      rw [if_neg (by decide)] at hg1
      generalize (if h88 = true then 0 else 10) = e2 at hg2
      go_wp2_with fail
      refine hg1.mono ?_
      rintro e W1 ⟨rfl, rfl⟩
      go_wp2_with fail
      refine hg2.mono ?_
      rintro e W1 ⟨rfl, rfl⟩
      clear hg1 hg2
      go_wp2_with (with_reducible refine wl_stAgg rfl _ _ _ rfl _ _ rfl rfl ?_)
      refine rg_stAgg hR (by kernel_rfl) (by rfl) (by simp [Value.oneCell']) ?_
      intro w3 hB3 hk3 _
      go_wp2_with fail
      refine ret_blk_tmp rfl rfl hB3 Tryz.underlying145 rfl (by kernel_rfl) rfl ?_
      rw [← HG.out]
      exact ⟨.slice none 0 0, rfl, FlO.nil, hK.trans hk3 fun j hj e => by have e2 : j = w.heap.size := e; omega⟩
    | true =>
      rw [if_pos rfl] at hg1
      simp only [Bool.true_and] at h16
      subst h16
      cases hh with
      | false =>
        have HG := Lib.hid ((if_pos rfl).symm.trans hgo)
        clear hgo hhas
        rw [if_neg (by decide)] at hg2
        go_wp2_with fail
        refine hg1.mono ?_
        rintro e W1 ⟨rfl, rfl⟩
        go_wp2_with fail
        refine hg2.mono ?_
        rintro e W1 ⟨rfl, rfl⟩
        clear hg1 hg2
        go_wp2_with (with_reducible refine wl_stAgg rfl _ _ _ rfl _ _ rfl rfl ?_)
        refine rg_stAgg hR (by kernel_rfl) (by rfl) (by simp [Value.oneCell']) ?_
        intro w3 hB3 hk3 _
        go_wp2_with fail
        refine ret_blk_tmp rfl rfl hB3 Tryz.underlying145 rfl (by kernel_rfl) rfl ?_
        rw [← HG.out]
        exact ⟨.slice none 0 0, rfl, FlO.nil, hK.trans hk3 fun j hj e => by have e2 : j = w.heap.size := e; omega⟩
      | true =>
        rw [if_pos rfl] at hg2
        rw [if_neg (by decide)] at hgo
        have hk1 := hhas rfl
        clear hhas
        go_wp2_with fail
        refine hg1.mono ?_
        rintro e W1 ⟨rfl, rfl⟩
        go_wp2_with fail
        refine hg2.mono ?_
        rintro e W1 ⟨rfl, rfl⟩
        clear hg1 hg2
        by_cases ht0 : tag = 0
        · subst ht0
          rw [if_pos rfl] at hgo
          have hso : seenOk seen = (seen.getD 1 false && seen.getD 2 false && (seen.getD 3 false == seen.getD 4 false) && (seen.getD 5 false == seen.getD 6 false)) := rfl
          have l5 : (findL L (.int .u64 5)).getD (.bool false) = .bool (seen.getD 1 false) := hSR 5 1 rfl
          have l10 : (findL L (.int .u64 10)).getD (.bool false) = .bool (seen.getD 2 false) := hSR 10 2 rfl
          have l6 : (findL L (.int .u64 6)).getD (.bool false) = .bool (seen.getD 3 false) := hSR 6 3 rfl
          have lm : (findL L (.int .u64 1610612749)).getD (.bool false) = .bool (seen.getD 4 false) := hSR 1610612749 4 rfl
          have l7 : (findL L (.int .u64 7)).getD (.bool false) = .bool (seen.getD 5 false) := hSR 7 5 rfl
          have l8 : (findL L (.int .u64 8)).getD (.bool false) = .bool (seen.getD 6 false) := hSR 8 6 rfl
          rw [hso] at hgo
          clear hso hSR hMF HB
          obtain ⟨xn, xv⟩ := x
          obtain ⟨ax, cx, rfl, _, _⟩ := hO.fl.shape
          dsimp only at *
          obtain ⟨v0, v1, v2, v3, v4, v5, v6, rfl⟩ : ∃ v0 v1 v2 v3 v4 v5 v6, xv = [v0, v1, v2, v3, v4, v5, v6] := by
            match xv, hv7 with
            | [v0, v1, v2, v3, v4, v5, v6], _ => exact ⟨_, _, _, _, _, _, _, rfl⟩
          have c0 := hX.cell 0
          have c1 := hX.cell 1
          have c2 := hX.cell 2
          have c3 := hX.cell 3
          have c4 := hX.cell 4
          have c5 := hX.cell 5
          have c6 := hX.cell 6
          have c7 := hX.cell 7
          generalize seen.getD 1 false = s1 at *
          generalize seen.getD 2 false = s2 at *
          generalize seen.getD 3 false = s3 at *
          generalize seen.getD 4 false = s4 at *
          generalize seen.getD 5 false = s5 at *
          generalize seen.getD 6 false = s6 at *
          go_wp2_with (first | (at_lookup; refine wl_lookup rfl _ _ _ _ rfl _ _ rfl rfl ?_) | (with_reducible refine wl_lookupg (by with_unfolding_all rfl) _ _ _ _ rfl _ _ rfl rfl ?_))
          refine rg_lookup hMS kU64L Tryz.underlying206 (zBool _) (kOfI (a := 5) (by decide)) ?_
          rw [l5]
          cases s1 with
          | false =>
            have HG := Lib.hid ((if_neg (by simp)).symm.trans hgo)
            clear hgo
            go_wp2_with (with_reducible refine wl_stAgg rfl _ _ _ rfl _ _ rfl rfl ?_)
            refine rg_stAgg hR (by kernel_rfl) (by rfl) (by simp [Value.oneCell']) ?_
            intro w3 hB3 hk3 _
            go_wp2_with fail
            refine ret_blk_tmp rfl rfl hB3 Tryz.underlying145 rfl (by kernel_rfl) rfl ?_
            rw [← HG.out]
            exact ⟨.slice none 0 0, rfl, FlO.nil, hK.trans hk3 fun j hj e => by have e2 : j = w.heap.size := e; omega⟩
          | true =>
            go_wp2_with (first | (at_lookup; refine wl_lookup rfl _ _ _ _ rfl _ _ rfl rfl ?_) | (with_reducible refine wl_lookupg (by with_unfolding_all rfl) _ _ _ _ rfl _ _ rfl rfl ?_))
            refine rg_lookup hMS kU64L Tryz.underlying206 (zBool _) (kOfI (a := 10) (by decide)) ?_
            rw [l10]
            cases s2 with
            | false =>
              have HG := Lib.hid ((if_neg (by simp)).symm.trans hgo)
              clear hgo
              go_wp2_with (with_reducible refine wl_stAgg rfl _ _ _ rfl _ _ rfl rfl ?_)
              refine rg_stAgg hR (by kernel_rfl) (by rfl) (by simp [Value.oneCell']) ?_
              intro w3 hB3 hk3 _
              go_wp2_with fail
              refine ret_blk_tmp rfl rfl hB3 Tryz.underlying145 rfl (by kernel_rfl) rfl ?_
              rw [← HG.out]
              exact ⟨.slice none 0 0, rfl, FlO.nil, hK.trans hk3 fun j hj e => by have e2 : j = w.heap.size := e; omega⟩
            | true =>
              rw [Bool.and_self, Bool.true_and] at hgo
              go_wp2_with (first | (at_lookup; refine wl_lookup rfl _ _ _ _ rfl _ _ rfl rfl ?_) | (with_reducible refine wl_lookupg (by with_unfolding_all rfl) _ _ _ _ rfl _ _ rfl rfl ?_))
              refine rg_lookup hMS kU64L Tryz.underlying206 (zBool _) (kOfI (a := 6) (by decide)) ?_
              rw [l6]
              go_wp2_with (first | (at_lookup; refine wl_lookup rfl _ _ _ _ rfl _ _ rfl rfl ?_) | (with_reducible refine wl_lookupg (by with_unfolding_all rfl) _ _ _ _ rfl _ _ rfl rfl ?_))
              refine rg_lookup hMS kU64L Tryz.underlying206 (zBool _) (kOfI (a := 1610612749) (by decide)) ?_
              rw [lm]
              by_cases h34 : s3 = s4
              · subst h34
                rw [beq_self_eq_true, Bool.true_and] at hgo
                cases s3
                all_goals
                  go_wp2_with (first | (at_lookup; refine wl_lookup rfl _ _ _ _ rfl _ _ rfl rfl ?_) | (with_reducible refine wl_lookupg (by with_unfolding_all rfl) _ _ _ _ rfl _ _ rfl rfl ?_))
                  refine rg_lookup hMS kU64L Tryz.underlying206 (zBool _) (kOfI (a := 7) (by decide)) ?_
                  rw [l7]
                  go_wp2_with (first | (at_lookup; refine wl_lookup rfl _ _ _ _ rfl _ _ rfl rfl ?_) | (with_reducible refine wl_lookupg (by with_unfolding_all rfl) _ _ _ _ rfl _ _ rfl rfl ?_))
                  refine rg_lookup hMS kU64L Tryz.underlying206 (zBool _) (kOfI (a := 8) (by decide)) ?_
                  rw [l8]
                  by_cases h56 : s5 = s6
                  · subst h56
                    have HG := Lib.hid ((if_pos (beq_self_eq_true _)).symm.trans hgo)
                    clear hgo
                    cases s5
                    all_goals
                      go_wp2_with (with_reducible refine wl_stAgg rfl _ _ _ rfl _ _ rfl rfl ?_)
                      refine rg_stAgg hR (by kernel_rfl) (by rfl) (by simp [Value.oneCell']) ?_
                      intro w3 hB3 hk3 _
                      go_wp2_with fail
                      refine ret_blk_tmp rfl rfl hB3 Tryz.underlying145 rfl (by kernel_rfl) rfl ?_
                      rw [← HG.out]
                      exact ⟨_, rfl, own_base (own_keep hO hk3 fun j hj e => by have e2 : j = w.heap.size := e; omega) (by omega), hK.trans hk3 fun j hj e => by have e2 : j = w.heap.size := e; omega⟩
                  · have HG := Lib.hid ((if_neg (by simpa using h56)).symm.trans hgo)
                    clear hgo
                    cases s5 <;> cases s6
                    all_goals try (exfalso; exact h56 rfl)
                    all_goals
                      go_wp2_with (with_reducible refine wl_stAgg rfl _ _ _ rfl _ _ rfl rfl ?_)
                      refine rg_stAgg hR (by kernel_rfl) (by rfl) (by simp [Value.oneCell']) ?_
                      intro w3 hB3 hk3 _
                      go_wp2_with fail
                      refine ret_blk_tmp rfl rfl hB3 Tryz.underlying145 rfl (by kernel_rfl) rfl ?_
                      rw [← HG.out]
                      exact ⟨.slice none 0 0, rfl, FlO.nil, hK.trans hk3 fun j hj e => by have e2 : j = w.heap.size := e; omega⟩
              · have HG := Lib.hid ((if_neg (by simp [h34])).symm.trans hgo)
                clear hgo
                cases s3 <;> cases s4
                all_goals try (exfalso; exact h34 rfl)
                all_goals
                  go_wp2_with (with_reducible refine wl_stAgg rfl _ _ _ rfl _ _ rfl rfl ?_)
                  refine rg_stAgg hR (by kernel_rfl) (by rfl) (by simp [Value.oneCell']) ?_
                  intro w3 hB3 hk3 _
                  go_wp2_with fail
                  refine ret_blk_tmp rfl rfl hB3 Tryz.underlying145 rfl (by kernel_rfl) rfl ?_
                  rw [← HG.out]
                  exact ⟨.slice none 0 0, rfl, FlO.nil, hK.trans hk3 fun j hj e => by have e2 : j = w.heap.size := e; omega⟩
        · rw [if_neg ht0] at hgo
          have ht0i : ((tag : Int) == 0) = false := by rw [beq_eq_false_iff_ne]; omega
          have hft := fieldsD_find (w.heap.size + 1) tag
          have hsizes : w.heap.size + 1 < w1.heap.size ∧ w.heap.size + 1 + 1 < w1.heap.size ∧ w.heap.size + 1 + 1 + 1 < w1.heap.size ∧ w.heap.size < w1.heap.size := by omega
          obtain ⟨hs1, hs2, hs3, hs0⟩ := hsizes
          by_cases ht1 : tag = 1
          · rw [if_pos ht1] at hgo
            have HG := Lib.hid hgo
            clear hgo
            have hta : tagAt tag = none := by rw [ht1]; rfl
            have ht1i : ((tag : Int) == 1) = true := by rw [beq_iff_eq]; omega
            have hft : findL (fieldsD (w.heap.size + 1)) (.int .u64 1) = none := fieldsD_find (w.heap.size + 1) 1
            have d0 : wz.cell? ⟨w.heap.size + 1, 0, none⟩ = some vn := hX.cell 0
            go_wp2_with (at_lookup; refine wl_lookup rfl _ _ _ _ rfl _ _ rfl rfl ?_)
            refine rg_lookup_ok hMF kU64L Tryz.underlying205 (zU64P _) (kOfI (a := 1) (by decide)) ?_
            rw [hft]
            clear hft
            go_wp2_with (at_builtin; refine wl_append rfl _ _ _ _ rfl _ _ rfl rfl ?_)
            refine rg_push (P := Tryz.prog) (enc := encN) (x := val) (cs := #[.int .u64 (val : Int)]) (.int .u64 0) 8 (t := 92) (ty := 92) Tryz.underlying92 u64_info (by rfl) (by decide) (by rfl) (by rfl) (by intro u hu; rw [List.mem_singleton.1 hu]; rfl) hO (by omega) (by decide) hsz ?_
            intro v4 w4 ho4 hk4 _
            obtain ⟨n4, a4, q4, rfl⟩ : ∃ n a c, v4 = .slice a n c := by
              obtain ⟨a, c, e, _⟩ := ho4.fl.shape
              exact ⟨_, _, _, e⟩
            have hX4 := hX.own hO hk4 hs1
            have hR4 := hR.own hO hk4 hs0
            have hMF4 := hMF.keep hk4 fun e => absurd (World.ownsRow.lt hO _ e.symm).1 (by omega)
            have hMS4 := hMS.keep hk4 fun e => absurd (World.ownsRow.lt hO _ e.symm).1 (by omega)
            have hK4 : Keep No w w4 := hK.trans hk4 fun j hj e => absurd (World.ownsRow.lt hO _ e.symm).1 (by omega)
            have hsz4 := Nat.le_trans hsz hk4.size
            have hk5 : Keep (fun j => j = w.heap.size + 1) w4 (w4.setCell ⟨w.heap.size + 1, 0, none⟩ (.slice a4 n4 q4)) := (Keep.refl (fun j => j = w.heap.size + 1) w4).setCell (p := ⟨w.heap.size + 1, 0, none⟩) (fun _ => rfl) (.slice a4 n4 q4)
            have hX5 := hX4.set (i := 0) (.slice a4 n4 q4)
            have hfr := hX4.frozen 0
            have hce : w4.cell? ⟨w.heap.size + 1, 0, none⟩ = some vn := hX4.cell 0
            clear hX hO hMF hMS hR hk4 hX4 d0
            go_wp2_with fail
            generalize w4.setCell ⟨w.heap.size + 1, 0, none⟩ (.slice a4 n4 q4) = w5 at *
            go_roundw
            case rel =>
              refine ⟨k + 1, { x with need := x.need ++ [val] }, seen, _, L, ?_, hk1, HG.out, hv7, hs7, ?_, own_keep ho4 hk5 (fun j hj e => by have e2 : j = w.heap.size + 1 := e; omega), ?_, hMF4.keep hk5 (fun e => by have e2 : w.heap.size + 1 + 1 = w.heap.size + 1 := e; omega), hMS4.keep hk5 (fun e => by have e2 : w.heap.size + 1 + 1 + 1 = w.heap.size + 1 := e; omega), hSR, Nat.le_succ_of_le hLl, hR4.keep hk5 (fun e => by have e2 : w.heap.size = w.heap.size + 1 := e; omega), hK4.trans hk5 (fun j hj e => by have e2 : j = w.heap.size + 1 := e; omega), Nat.le_trans hsz4 hk5.size⟩
              · exact congrArg (Value.int .u64) (by omega)
              · simpa using hX5
              · simp only [List.length_append, List.length_singleton]; omega
            case measure => simp [intOf]; omega
          · rw [if_neg ht1] at hgo
            have ht1i : ((tag : Int) == 1) = false := by rw [beq_eq_false_iff_ne]; omega
            cases hta : tagAt tag with
            | none =>
              rw [hta] at hgo hft
              have HG := Lib.hid hgo
              rw [Option.map_none] at hft
              clear hgo
              go_wp2_with (at_lookup; refine wl_lookup rfl _ _ _ _ rfl _ _ rfl rfl ?_)
              refine rg_lookup_ok hMF kU64L Tryz.underlying205 (zU64P _) (kOfI (a := (tag : Int)) (by omega)) ?_
              rw [hft]
              clear hft
              go_wp2_with (with_reducible refine wl_stAgg rfl _ _ _ rfl _ _ rfl rfl ?_)
              refine rg_stAgg hR (by kernel_rfl) (by rfl) (by simp [Value.oneCell']) ?_
              intro w3 hB3 hk3 _
              go_wp2_with fail
              refine ret_blk_tmp rfl rfl hB3 Tryz.underlying145 rfl (by kernel_rfl) rfl ?_
              rw [← HG.out]
              exact ⟨.slice none 0 0, rfl, FlO.nil, hK.trans hk3 fun j hj e => by have e2 : j = w.heap.size := e; omega⟩
            | some q =>
              rw [hta] at hgo hft
              dsimp only at hgo
              rw [Option.map_some] at hft
              have hq := tagAt_lt hta
              have hls := hSR tag q hta
              have hSR2 := hSR.put hta ht hs7
              generalize hsq : seen.getD q false = sq at *
              go_wp2_with (at_lookup; refine wl_lookup rfl _ _ _ _ rfl _ _ rfl rfl ?_)
              refine rg_lookup_ok hMF kU64L Tryz.underlying205 (zU64P _) (kOfI (a := (tag : Int)) (by omega)) ?_
              rw [hft]
              clear hft
              go_wp2_with (at_lookup; refine wl_lookup rfl _ _ _ _ rfl _ _ rfl rfl ?_)
              refine rg_lookup hMS kU64L Tryz.underlying206 (zBool _) (kOfI (a := (tag : Int)) (by omega)) ?_
              rw [hls]
              clear hls
              cases sq with
              | true =>
                have HG := Lib.hid ((if_pos rfl).symm.trans hgo)
                clear hgo
                go_wp2_with (with_reducible refine wl_stAgg rfl _ _ _ rfl _ _ rfl rfl ?_)
                refine rg_stAgg hR (by kernel_rfl) (by rfl) (by simp [Value.oneCell']) ?_
                intro w3 hB3 hk3 _
                go_wp2_with fail
                refine ret_blk_tmp rfl rfl hB3 Tryz.underlying145 rfl (by kernel_rfl) rfl ?_
                rw [← HG.out]
                exact ⟨.slice none 0 0, rfl, FlO.nil, hK.trans hk3 fun j hj e => by have e2 : j = w.heap.size := e; omega⟩
              | false =>
                have HG := Lib.hid ((if_neg (by decide)).symm.trans hgo)
                clear hgo
                go_wp2_with (at_mapUpdate; refine wl_mapUpdate rfl _ _ _ _ rfl _ _ _ rfl rfl rfl ?_)
                refine rg_store hMS kU64L Tryz.underlying206 (by unfold maxLen; omega) (kOfI (a := (tag : Int)) (by omega)) ?_
                intro w4 hMS4 hk4 hz4
                have hX4 := hX.keep hk4 fun e => by have e2 : w.heap.size + 1 = w.heap.size + 1 + 1 + 1 := e; omega
                have hR4 := hR.keep hk4 fun e => by have e2 : w.heap.size = w.heap.size + 1 + 1 + 1 := e; omega
                have hMF4 := hMF.keep hk4 fun e => by have e2 : w.heap.size + 1 + 1 = w.heap.size + 1 + 1 + 1 := e; omega
                have hO4 := own_keep hO hk4 fun j hj e => by have e2 : j = w.heap.size + 1 + 1 + 1 := e; omega
                have hK4 : Keep No w w4 := hK.trans hk4 fun j hj e => by have e2 : j = w.heap.size + 1 + 1 + 1 := e; omega
                have hL4 := length_erase_le L (.int .u64 (tag : Int))
                have hk5 : Keep (fun j => j = w.heap.size + 1) w4 (w4.setCell ⟨w.heap.size + 1, q + 1, none⟩ (.int .u64 (val : Int))) := (Keep.refl (fun j => j = w.heap.size + 1) w4).setCell (p := ⟨w.heap.size + 1, q + 1, none⟩) (fun _ => rfl) _
                have hX5 := hX4.set (i := q + 1) (.int .u64 (val : Int))
                have hfr := hX4.frozen (q + 1)
                have hce : ∃ u, w4.cell? ⟨w.heap.size + 1, q + 1, none⟩ = some u := by
                  rw [hX4.cell]
                  exact ⟨_, Array.getElem?_eq_getElem (by simp; omega)⟩
                obtain ⟨u, hce⟩ := hce
                clear hX hO hMF hMS hR hX4
                go_wp2_with fail
                generalize w4.setCell ⟨w.heap.size + 1, q + 1, none⟩ (.int .u64 (val : Int)) = w5 at *
                go_roundw
                case rel =>
                  refine ⟨k + 1, { x with v := x.v.set q val }, seen.set q true, vn, _, ?_, hk1, HG.out, by rw [List.length_set]; exact hv7, by rw [List.length_set]; exact hs7, ?_, own_keep hO4 hk5 (fun j hj e => by have e2 : j = w.heap.size + 1 := e; omega), Nat.le_succ_of_le hnl, hMF4.keep hk5 (fun e => by have e2 : w.heap.size + 1 + 1 = w.heap.size + 1 := e; omega), hMS4.keep hk5 (fun e => by have e2 : w.heap.size + 1 + 1 + 1 = w.heap.size + 1 := e; omega), hSR2, ?_, hR4.keep hk5 (fun e => by have e2 : w.heap.size = w.heap.size + 1 := e; omega), hK4.trans hk5 (fun j hj e => by have e2 : j = w.heap.size + 1 := e; omega), Nat.le_trans hsz (Nat.le_trans hk4.size hk5.size)⟩
                  · exact congrArg (Value.int .u64) (by omega)
                  · simpa using hX5
                  · simp only [List.length_cons]; omega
                case measure => simp [intOf]; omega
end
end Go.Proofs.YtbnahidopemkiaaGreat
