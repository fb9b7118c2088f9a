/- The document's symbols: Check. No condition. -/
import Derived.Test.YtbnahidopemkiaaGreatDz5
import Derived.Test.YtbnahidopemkiaaGreatRl2
import Derived.BigQuiet
set_option linter.unusedVariables false
set_option linter.unusedSimpArgs false
namespace Go.Dm.Ld
open Go
/-- chkS, from a place on -/
def chkSG (l : List Sy) (i : Nat) : Nat := if i = 0 then chkS l else if (l.drop i).all mayS then 0 else 11
theorem chkSG_step {l : List Sy} {i : Nat} (hi : i < l.length) : chkSG l i = if (if i = 0 then decide (l[i] = sy0) else mayS l[i]) = true then chkSG l (i + 1) else 11 := by
  unfold chkSG
  rw [if_neg (show ¬ i + 1 = 0 by omega)]
  by_cases h0 : i = 0
  · subst h0
    rw [if_pos rfl, if_pos rfl]
    cases l with
    | nil => simp at hi
    | cons s r =>
      have e : chkS (s :: r) = if s = sy0 ∧ r.all mayS = true then 0 else 11 := rfl
      rw [e, List.getElem_cons_zero, List.drop_succ_cons, List.drop_zero]
      by_cases hs : s = sy0 <;> cases hr : r.all mayS <;> simp [hs]
  · rw [if_neg h0, if_neg h0, List.drop_eq_getElem_cons hi, List.all_cons]
    cases mayS l[i] with
    | true => rw [Bool.true_and, if_pos rfl]
    | false => rw [Bool.false_and, if_neg (by decide), if_neg (by decide)]
end Go.Dm.Ld
namespace Go.Proofs.YtbnahidopemkiaaGreat
open Go.RowKit Go.Dm Go.Dm.Oc Go.Dm.Ld
section
variable {A : Nat → Prop} {w : World} {v : Value}
set_option maxRecDepth 100000 in
set_option maxHeartbeats 4000000 in
theorem r06chk_any (l : List Sy) (hl : Fl A w 6 encSy v l) (hok : ∀ x ∈ l, SyOk x) :
    Calls Tryz.prog 105 #[v] w fun e w' => e = .returned (.int .i64 (chkSG l 0 : Nat)) ∧ Keep No w w' := by
  have HL := Lib.hid hl
  have HOK := Lib.hid hok
  obtain ⟨ao, co, rfl, hc1, hc2⟩ := hl.shape
  have hib : (l.length : Int) ≤ 9223372036854775807 := by unfold maxLen at hc2; omega
  obtain ⟨r, hr⟩ : ∃ r, r = chkSG l 0 := ⟨_, rfl⟩
  rw [← hr]
  have HR : Hid (r = chkSG l 0 ∨ (l = [] ∧ r = chkSG l 0)) := Lib.hid (.inl hr)
  obtain ⟨n, hn⟩ : ∃ n, n = l.length := ⟨_, rfl⟩
  have HN := Lib.hid hn
  rw [← hn] at hib ⊢
  clear hl hc1 hc2 hr hn hok
  go_enter Tryz.func105, Tryz.ntmps105
  go_wp2_with fail
  go_loopw [3, 4, 5, 6] (fun iv _ _ _ wr => ∃ i : Nat, iv = .int .i64 (i : Int) ∧ i ≤ n ∧ Hid (r = chkSG l i ∨ (l = [] ∧ r = chkSG l 0)) ∧ Keep No w wr) (fun iv _ _ _ _ => n - (intOf iv).toNat)
  case atStart => exact ⟨0, rfl, Nat.zero_le _, HR, Keep.refl _ _⟩
  case round =>
    obtain ⟨i, rfl, hi, HM, hk⟩ := hrel
    clear HR
    generalize wr = wz at *
    rcases Nat.lt_or_ge i n with hlt | hge
    · have hil : i < l.length := by rw [← HN.out]; exact hlt
      obtain ⟨g, off, cap, ev, _, hg, _, _, hc⟩ := (HL.out.no hk).at encSy_len hil
      rw [← HN.out] at ev
      injection ev with e1 e2 e3
      subst e1 e3
      have hiz : (i : Int) < (n : Int) := by omega
      have hsk := HOK.out _ (List.getElem_mem hil)
      have hm2 : r = chkSG l i := by
        rcases HM.out with h | ⟨h, _⟩
        · exact h
        · rw [h] at hil; simp at hil
      rw [chkSG_step hil] at hm2
      generalize l[i] = s at *
      have hone : (encSy s).toArray.all (·.oneCell') = true := by simp [encSy, Value.oneCell']
      have hgo : (if i = 0 then decide (s = sy0) else mayS s) = true → (r = chkSG l (i + 1) ∨ (l = [] ∧ r = chkSG l 0)) := fun h => .inl (by rw [hm2, if_pos h])
      have hst : (if i = 0 then decide (s = sy0) else mayS s) = false → r = 11 := fun h => by rw [hm2, if_neg (by rw [h]; decide)]
      have HGO := Lib.hid hgo
      have HST := Lib.hid hst
      clear hgo hst hm2 HM e2
      go_wp2_with (first | (with_reducible refine wl_ld rfl _ 46 rfl _ rfl ?_) | (with_reducible refine wl_stAgg rfl _ _ _ rfl _ _ rfl rfl ?_))
      refine rg_lds (l := encSy s) hc Tryz.underlying46 rfl (by kernel_rfl) ?_
      go_wp2_with (first | (with_reducible refine wl_ld rfl _ 46 rfl _ rfl ?_) | (with_reducible refine wl_stAgg rfl _ _ _ rfl _ _ rfl rfl ?_))
      have hkW : Keep No wz (wz.alloc (.cells #[.int .u32 0, .int .u8 0, .int .u8 0, .int .u16 0, .int .u64 0, .int .u64 0] 46)) := (Keep.refl _ _).alloc _
      have hBW : Blk (wz.alloc (.cells #[.int .u32 0, .int .u8 0, .int .u8 0, .int .u16 0, .int .u64 0, .int .u64 0] 46)) wz.heap.size #[.int .u32 0, .int .u8 0, .int .u8 0, .int .u16 0, .int .u64 0, .int .u64 0] 46 := Blk.new _ _ _
      have hzW : (wz.alloc (.cells #[.int .u32 0, .int .u8 0, .int .u8 0, .int .u16 0, .int .u64 0, .int .u64 0] 46)).heap.size = wz.heap.size + 1 := World.size_alloc _ _
      generalize wz.alloc (.cells #[.int .u32 0, .int .u8 0, .int .u8 0, .int .u16 0, .int .u64 0, .int .u64 0] 46) = W at *
      refine rg_stAgg hBW (by kernel_rfl) (by rfl) hone ?_
      intro w3 hB3 hk3 hz3
      have hkF : Keep No w w3 := hk.trans' (hkW.trans hk3 fun j hj e => by have e2 : j = wz.heap.size := e; omega)
      clear hBW hkW hzW hk3 hz3 hc hk hone
      obtain ⟨y0, y1, y2, y3, y4, y5⟩ := s
      obtain ⟨b0, b1, b2, b3, b4, b5⟩ := hsk
      dsimp only at b0 b1 b2 b3 b4 b5
      have d0 : w3.cell? ⟨wz.heap.size, 0, none⟩ = some (.int .u32 (y0 : Int)) := hB3.cell 0
      have d1 : w3.cell? ⟨wz.heap.size, 1, none⟩ = some (.int .u8 (y1 : Int)) := hB3.cell 1
      have d2 : w3.cell? ⟨wz.heap.size, 2, none⟩ = some (.int .u8 (y2 : Int)) := hB3.cell 2
      have d3 : w3.cell? ⟨wz.heap.size, 3, none⟩ = some (.int .u16 (y3 : Int)) := hB3.cell 3
      have d4 : w3.cell? ⟨wz.heap.size, 4, none⟩ = some (.int .u64 (y4 : Int)) := hB3.cell 4
      have d5 : w3.cell? ⟨wz.heap.size, 5, none⟩ = some (.int .u64 (y5 : Int)) := hB3.cell 5
      clear hB3
      by_cases hi0 : i = 0
      · subst hi0
        rw [if_pos rfl] at HGO HST
        have hs0 : decide ((⟨y0, y1, y2, y3, y4, y5⟩ : Sy) = sy0) = decide (y0 = 0 ∧ y1 = 0 ∧ y2 = 0 ∧ y3 = 0 ∧ y4 = 0 ∧ y5 = 0) := by
          congr 1
          simp [sy0]
        rw [hs0] at HGO HST
        clear hs0
        go_wp2_with fail
        all_goals first
          | (go_roundw
             case rel => exact ⟨1, by go_num, hlt, Lib.hid (HGO.out (by rw [decide_eq_true_eq]; first | omega | (simp only [bne_eq_false_iff_eq, bne_iff_ne, ne_eq, beq_iff_eq] at *; omega))), hkF⟩
             case measure => simp [intOf]; omega)
          | (have hr := HST.out (by rw [decide_eq_false_iff_not]; first | omega | (simp only [bne_eq_false_iff_eq, bne_iff_ne, ne_eq, beq_iff_eq] at *; omega))
             subst hr
             go_ret
             exact ⟨rfl, hkF⟩)
      · rw [if_neg hi0] at HGO HST
        have gi : ((i : Int) == 0) = false := by rw [beq_eq_false_iff_ne]; omega
        have hmay : mayS ⟨y0, y1, y2, y3, y4, y5⟩ = decide ((y1 / 16 ≤ 2 ∧ (y1 % 16 = 0 ∨ y1 % 16 = 1 ∨ y1 % 16 = 2 ∨ y1 % 16 = 6) ∧ y2 = 0 ∧ y3 ≤ 1 ∧ y0 ≠ 0) ∧ (y3 ≠ 0 ∨ (y4 = 0 ∧ y5 = 0 ∧ y1 / 16 ≠ 0))) := by
          unfold mayS
          dsimp only
          rw [Bool.eq_iff_iff]
          simp only [Bool.and_eq_true, Bool.or_eq_true, decide_eq_true_eq]
          constructor <;> (intro h; omega)
        rw [hmay] at HGO HST
        clear hmay
        go_wp2_with fail
        all_goals first
          | (go_roundw
             case rel => exact ⟨i + 1, by go_num, hlt, Lib.hid (HGO.out (by rw [decide_eq_true_eq]; simp only [bne_eq_false_iff_eq, bne_iff_ne, ne_eq, beq_iff_eq, beq_eq_false_iff_ne] at *; omega)), hkF⟩
             case measure => simp [intOf]; omega)
          | (have hr := HST.out (by rw [decide_eq_false_iff_not]; simp only [bne_eq_false_iff_eq, bne_iff_ne, ne_eq, beq_iff_eq, beq_eq_false_iff_ne] at *; omega)
             subst hr
             go_ret
             exact ⟨rfl, hkF⟩)
    · obtain rfl : i = n := Nat.le_antisymm hi hge
      have hr : r = 0 := by
        rcases HM.out with h | ⟨h, h2⟩
        · rw [h]
          unfold chkSG
          by_cases h0 : i = 0
          · rw [if_pos h0]
            have : l = [] := List.length_eq_zero_iff.1 (by rw [← HN.out]; exact h0)
            rw [this]
            rfl
          · rw [if_neg h0, List.drop_of_length_le (by rw [← HN.out]; exact Nat.le_refl _)]
            rfl
        · rw [h2, h]
          rfl
      subst hr
      go_wp2_with fail
      go_ret
      exact ⟨rfl, hk⟩
end
end Go.Proofs.YtbnahidopemkiaaGreat
