/- The document's names in a row: at; rows of names compared. No condition. -/
import Derived.Test.YtbnahidopemkiaaGreatEnt
import Derived.Test.YtbnahidopemkiaaGreatIm5
import Derived.BigQuiet
set_option linter.unusedVariables false
set_option linter.unusedSimpArgs false
namespace Go.Dm.Ld
open Go Go.Dm.Oc
def sIdx : List BS → BS → Option Nat
  | [], _ => none
  | s :: r, k => if s = k then some 0 else (sIdx r k).map (· + 1)
def sIdxZ (l : List BS) (k : BS) : Int := match sIdx l k with | some i => (i : Int) | none => -1
theorem sIdx_at {l : List BS} {k : BS} {i : Nat} (hi : i < l.length) (h : l[i] = k) (hno : ∀ j, (hj : j < i) → (l[j]'(by omega)) ≠ k) : sIdx l k = some i := by
  induction l generalizing i with
  | nil => simp at hi
  | cons s r ih =>
    unfold sIdx
    cases i with
    | zero => rw [if_pos (show s = k from h)]
    | succ i =>
      rw [if_neg (show ¬ s = k from hno 0 (Nat.succ_pos _)), ih (by simpa using hi) h fun j hj => hno (j + 1) (by omega)]
      rfl
theorem sIdx_none {l : List BS} {k : BS} (hno : ∀ j, (hj : j < l.length) → l[j] ≠ k) : sIdx l k = none := by
  induction l with
  | nil => rfl
  | cons s r ih =>
    unfold sIdx
    rw [if_neg (show ¬ s = k from hno 0 (Nat.succ_pos _)), ih fun j hj => hno (j + 1) (by simpa using hj)]
    rfl
end Go.Dm.Ld
namespace Go.Proofs.YtbnahidopemkiaaGreat
open Go.RowKit Go.Dm Go.Dm.Oc Go.Dm.Ld
section
variable {A B : Nat → Prop} {w : World} {v v2 : Value}
set_option maxRecDepth 100000 in
theorem r15at_any (l : List BS) (k : BS) (hl : Fl A w 1 encS v l) : Calls Tryz.prog 19 #[v, .string ⟨k.toArray⟩] w fun e w' => e = .returned (.int .i64 (sIdxZ l k)) ∧ w = w' := by
  have HL := Lib.hid hl
  obtain ⟨ao, co, rfl, hc1, hc2⟩ := hl.shape
  have hib : (l.length : Int) ≤ 9223372036854775807 := by unfold maxLen at hc2; omega
  obtain ⟨r, hr⟩ : ∃ r, r = sIdxZ l k := ⟨_, rfl⟩
  rw [← hr]
  have HR := Lib.hid hr
  obtain ⟨n, hn⟩ : ∃ n, n = l.length := ⟨_, rfl⟩
  have HN := Lib.hid hn
  rw [← hn] at hib ⊢
  clear hl hc1 hc2 hr hn
  have h0 : Hid (∀ j (h : j < l.length), j < 0 → l[j] ≠ k) := Lib.hid fun j _ h => absurd h (Nat.not_lt_zero _)
  go_enter Tryz.func19, Tryz.ntmps19
  go_wp2_with fail
  go_loopw [5] (fun iv wr => ∃ i : Nat, iv = .int .i64 (i : Int) ∧ i ≤ n ∧ Hid (∀ j (h : j < l.length), j < i → l[j] ≠ k) ∧ w = wr) (fun iv _ => n - (intOf iv).toNat)
  case atStart => exact ⟨0, rfl, Nat.zero_le _, h0, rfl⟩
  case round =>
    obtain ⟨i, rfl, hi, HM, rfl⟩ := hrel
    clear h0
    rcases Nat.lt_or_ge i n with hlt | hge
    · have hil : i < l.length := by rw [← HN.out]; exact hlt
      obtain ⟨g, off, cap, ev, _, hg, _, _, hc⟩ := HL.out.at (fun _ => rfl) hil
      rw [← HN.out] at ev
      injection ev with e1 e2 e3
      subst e1 e3
      have d0 := hc 0 _ rfl
      have hiz : (i : Int) < (n : Int) := by omega
      have hfi := sIdx_at (k := k) hil
      generalize hs : l[i] = s at *
      have hstep : s ≠ k → ∀ j (h : j < l.length), j < i + 1 → l[j] ≠ k := fun h j hj hj2 => by
        rcases Nat.lt_or_ge j i with h3 | h3
        · exact HM.out j hj h3
        · obtain rfl : j = i := by omega
          rw [hs]
          exact h
      have hfi2 : s = k → r = (i : Int) := fun h => by
        rw [HR.out]
        unfold sIdxZ
        rw [hfi h fun j hj => HM.out j (by omega) hj]
      clear hc hs hfi e2
      rw [Nat.mul_one, Nat.add_zero] at d0
      have HS := Lib.hid hstep
      have HF := Lib.hid hfi2
      clear hstep hfi2
      by_cases h : s = k
      · have hr := HF.out h
        subst hr
        have hq : (s == k) = true := by rw [beq_iff_eq]; exact h
        go_wp2_with fail
        go_ret
        exact ⟨rfl, rfl⟩
      · have hq : (s == k) = false := by rw [beq_eq_false_iff_ne]; exact h
        have HM2 := Lib.hid (HS.out h)
        go_wp2_with fail
        go_roundw
        case rel => exact ⟨i + 1, by go_num, hlt, HM2, trivial⟩
        case measure => simp [intOf]; omega
    · obtain rfl : i = n := Nat.le_antisymm hi hge
      have hr : r = -1 := by
        rw [HR.out]
        unfold sIdxZ
        rw [sIdx_none fun j hj => HM.out j hj (by rw [HN.out]; exact hj)]
      subst hr
      go_wp2_with fail
      go_ret
      exact ⟨rfl, rfl⟩
set_option maxRecDepth 100000 in
theorem r09strs_any (l m : List BS) (hl : Fl A w 1 encS v l) (hm : Fl B w 1 encS v2 m) : Calls Tryz.prog 33 #[v, v2] w fun e w' => e = .returned (.bool (decide (l = m))) ∧ Keep No w w' := by
  have HL := Lib.hid hl
  have HM := Lib.hid hm
  obtain ⟨ao, co, rfl, hc1, hc2⟩ := hl.shape
  obtain ⟨a2, c2, rfl, hc3, hc4⟩ := hm.shape
  have hib : (l.length : Int) ≤ 9223372036854775807 := by unfold maxLen at hc2; omega
  obtain ⟨r, hr⟩ : ∃ r, r = decide (l = m) := ⟨_, rfl⟩
  rw [← hr]
  have HR := Lib.hid hr
  clear hl hm hr hc1 hc2 hc3 hc4
  by_cases hn : l.length = m.length
  · have hb : ((l.length : Int) != (m.length : Int)) = false := by rw [bne_eq_false_iff_eq]; omega
    rw [← hn] at hb ⊢
    have HN2 := Lib.hid hn
    obtain ⟨n, hn1⟩ : ∃ n, n = l.length := ⟨_, rfl⟩
    have HN := Lib.hid hn1
    rw [← hn1] at hb hib ⊢
    clear hn hn1
    have h0 : Hid (l.take 0 = m.take 0) := Lib.hid rfl
    go_enter Tryz.func33, Tryz.ntmps33
    go_wp2_with fail
    go_loopw [5] (fun iv wr => ∃ i : Nat, iv = .int .i64 (i : Int) ∧ i ≤ n ∧ Hid (l.take i = m.take i) ∧ Keep No w wr) (fun iv _ => n - (intOf iv).toNat)
    case atStart => exact ⟨0, rfl, Nat.zero_le _, h0, Keep.refl _ _⟩
    case round =>
      obtain ⟨i, rfl, hi, HT, hk⟩ := hrel
      clear h0
      generalize wr = wz at *
      rcases Nat.lt_or_ge i n with hlt | hge
      · have hil : i < l.length := by rw [← HN.out]; exact hlt
        have him : i < m.length := by rw [← HN2.out]; exact hil
        obtain ⟨g1, o1, p1, ev, _, hg1, _, _, hd1⟩ := (HL.out.no hk).at (fun _ => rfl) hil
        rw [← HN.out] at ev
        injection ev with e1 e2 e3
        subst e1 e3
        obtain ⟨g2, o2, p2, ev, _, hg2, _, _, hd2⟩ := (HM.out.no hk).at (fun _ => rfl) him
        rw [← HN2.out, ← HN.out] at ev
        injection ev with e4 e5 e6
        subst e4 e6
        have d1 := hd1 0 _ rfl
        have d2 := hd2 0 _ rfl
        rw [Nat.mul_one, Nat.add_zero] at d1 d2
        have hiz : (i : Int) < (n : Int) := by omega
        have t1 : l.take (i + 1) = l.take i ++ [l[i]] := List.take_succ_eq_append_getElem hil
        have t2 : m.take (i + 1) = m.take i ++ [m[i]] := List.take_succ_eq_append_getElem him
        have hno : l[i] ≠ m[i] → r = false := fun h => by
          rw [HR.out, decide_eq_false_iff_not]
          intro e
          exact h (by simp only [e])
        have hyes : l[i] = m[i] → l.take (i + 1) = m.take (i + 1) := fun h => by rw [t1, t2, HT.out, h]
        generalize l[i] = x at *
        generalize m[i] = y at *
        have HNO := Lib.hid hno
        have HY := Lib.hid hyes
        clear hd1 hd2 e2 e5 t1 t2 hno hyes
        by_cases h : x = y
        · have hq : (x != y) = false := by rw [bne_eq_false_iff_eq]; exact h
          have HT2 := Lib.hid (HY.out h)
          go_wp2_with fail
          go_quiet (fail)
          go_wp2_with fail
          go_roundw
          case rel => exact ⟨i + 1, by go_num, hlt, HT2, hk.drewN _⟩
          case measure => simp [intOf]; omega
        · have hq : (x != y) = true := by rw [bne_iff_ne]; exact h
          have hq2 : (x == y) = false := by rw [beq_eq_false_iff_ne]; exact h
          have hr := HNO.out h
          subst hr
          go_wp2_with fail
          go_quiet (fail)
          go_wp2_with fail
          go_ret
          exact ⟨rfl, hk.drewN _⟩
      · obtain rfl : i = n := Nat.le_antisymm hi hge
        have hr : r = true := by
          have h := HT.out
          rw [List.take_of_length_le (by rw [← HN.out]; exact Nat.le_refl _), List.take_of_length_le (by rw [← HN2.out, ← HN.out]; exact Nat.le_refl _)] at h
          rw [HR.out, decide_eq_true h]
        subst hr
        go_wp2_with fail
        go_ret
        exact ⟨rfl, hk⟩
  · have hb : ((l.length : Int) != (m.length : Int)) = true := by rw [bne_iff_ne]; omega
    have hr : r = false := by
      rw [HR.out, decide_eq_false_iff_not]
      intro e
      exact hn (by rw [e])
    subst hr
    generalize l.length = n1 at *
    generalize m.length = n2 at *
    go_enter Tryz.func33, Tryz.ntmps33
    go_wp2_with fail
    go_ret
    exact ⟨rfl, Keep.refl _ _⟩
end
end Go.Proofs.YtbnahidopemkiaaGreat
