/- The document's files: find. No condition. -/
import Derived.Test.YtbnahidopemkiaaGreatDzB
import Derived.Test.YtbnahidopemkiaaGreatRdF
set_option linter.unusedVariables false
set_option linter.unusedSimpArgs false
namespace Go.Proofs.YtbnahidopemkiaaGreat
open Go.RowKit Go.Dm Go.Dm.Oc Go.Dm.Ld
section
variable {A B : Nat → Prop} {w : World} {v v2 : Value}
set_option maxRecDepth 100000 in
theorem r15find_any (fs : Fs) (k : BS) (hf : FiR A w v fs) : Calls Tryz.prog 17 #[v, .string ⟨k.toArray⟩] w fun e w' => e = .returned (.int .i64 (sIdxZ (fs.map (·.1)) k)) ∧ w = w' := by
  obtain ⟨ps, hlen, hl, hfo⟩ := hf
  obtain ⟨l, hll⟩ : ∃ l, l = fs.map (·.1) := ⟨_, rfl⟩
  have hln : l.length = ps.length := by rw [hll, List.length_map, hlen]
  have hnm : ∀ i (h : i < l.length) (h2 : i < ps.length), (ps[i]).1 = .string ⟨(l[i]).toArray⟩ := fun i h h2 => by
    have h3 : i < fs.length := by omega
    have := (hfo i _ _ (List.getElem?_eq_getElem h2) (List.getElem?_eq_getElem h3)).1
    rw [this]
    simp only [hll, List.getElem_map]
  rw [← hll]
  have HNM := Lib.hid hnm
  have HLN := Lib.hid hln
  have HL := Lib.hid hl
  clear hnm hfo hlen hll
  obtain ⟨ao, co, rfl, hc1, hc2⟩ := hl.shape
  rw [← hln] at hc1 ⊢
  have hib : (l.length : Int) ≤ 9223372036854775807 := by unfold maxLen at hc2; omega
  clear hln
  obtain ⟨r, hr⟩ : ∃ r, r = sIdxZ l k := ⟨_, rfl⟩
  rw [← hr]
  have HR := Lib.hid hr
  obtain ⟨n, hn⟩ : ∃ n, n = l.length := ⟨_, rfl⟩
  have HN := Lib.hid hn
  rw [← hn] at hib ⊢
  clear hl hc1 hc2 hr hn
  have h0 : Hid (∀ j (h : j < l.length), j < 0 → l[j] ≠ k) := Lib.hid fun j _ h => absurd h (Nat.not_lt_zero _)
  go_enter Tryz.func17, Tryz.ntmps17
  go_wp2_with fail
  go_loopw [5] (fun iv wr => ∃ i : Nat, iv = .int .i64 (i : Int) ∧ i ≤ n ∧ Hid (∀ j (h : j < l.length), j < i → l[j] ≠ k) ∧ w = wr) (fun iv _ => n - (intOf iv).toNat)
  case atStart => exact ⟨0, rfl, Nat.zero_le _, h0, rfl⟩
  case round =>
    obtain ⟨i, rfl, hi, HM, rfl⟩ := hrel
    clear h0
    rcases Nat.lt_or_ge i n with hlt | hge
    · have hil : i < l.length := by rw [← HN.out]; exact hlt
      obtain ⟨g, off, cap, ev, _, hg, _, _, hc⟩ := HL.out.at encP_len (by rw [← HLN.out]; exact hil : i < ps.length)
      rw [← HLN.out, ← HN.out] at ev
      injection ev with e1 e2 e3
      subst e1 e3
      have d0 := hc 0 _ rfl
      rw [HNM.out i hil (by rw [← HLN.out]; exact hil)] at d0
      have hiz : (i : Int) < (n : Int) := by omega
      have hfi := sIdx_at (k := k) hil
      generalize hs : l[i] = s at *
      have hstep : s ≠ k → ∀ j (h : j < l.length), j < i + 1 → l[j] ≠ k := fun h j hj hj2 => by
        rcases Nat.lt_or_ge j i with h3 | h3
        · exact HM.out j hj h3
        · obtain rfl : j = i := by omega
          rw [hs]
          exact h
      have hfi2 : s = k → r = (i : Int) := fun h => by
        rw [HR.out]
        unfold sIdxZ
        rw [hfi h fun j hj => HM.out j (by omega) hj]
      clear hc hs hfi e2
      rw [Nat.add_zero] at d0
      have HS := Lib.hid hstep
      have HF := Lib.hid hfi2
      clear hstep hfi2
      by_cases h : s = k
      · have hr := HF.out h
        subst hr
        have hq : (s == k) = true := by rw [beq_iff_eq]; exact h
        go_wp2_with fail
        go_ret
        exact ⟨rfl, rfl⟩
      · have hq : (s == k) = false := by rw [beq_eq_false_iff_ne]; exact h
        have HM2 := Lib.hid (HS.out h)
        go_wp2_with fail
        go_roundw
        case rel => exact ⟨i + 1, by go_num, hlt, HM2, trivial⟩
        case measure => simp [intOf]; omega
    · obtain rfl : i = n := Nat.le_antisymm hi hge
      have hr : r = -1 := by
        rw [HR.out]
        unfold sIdxZ
        rw [sIdx_none fun j hj => HM.out j hj (by rw [HN.out]; exact hj)]
      subst hr
      go_wp2_with fail
      go_ret
      exact ⟨rfl, rfl⟩
end
end Go.Proofs.YtbnahidopemkiaaGreat
