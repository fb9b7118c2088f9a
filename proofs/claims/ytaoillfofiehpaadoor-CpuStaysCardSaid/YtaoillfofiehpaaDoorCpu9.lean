/- The document's chapter 12: May, Encode, Decode. No condition. -/
import Derived.Test.YtaoillfofiehpaaDoorCpu8
namespace Go.Proofs.YtaoillfofiehpaaDoor
open Go.RowKit Go.Dm Go.Dm.Vm Go.Dm.Cp Go.Maps
section
variable {w : World}
theorem mayB_no {op a b c imm : Int} (h : mayF op a b c imm = false) : mayB op a b c imm = false := by unfold mayB; rw [h]; rfl
theorem mayB_yes {op a b c imm : Int} (h : mayF op a b c imm = true) : mayB op a b c imm = decide (-2147483648 ≤ imm ∧ imm ≤ 2147483647) := by unfold mayB; rw [h]; rfl
theorem hasM_le (op : Int) : hasM op ≤ 11 := by
  unfold hasM
  repeat' split
  all_goals decide
theorem half_mod (h k : Nat) : h / 2 ^ (k + 1) = h / 2 ^ k / 2 := by rw [Nat.pow_succ, Nat.div_div_eq_div_mul]
set_option maxRecDepth 100000 in
set_option maxHeartbeats 4000000 in
theorem r12may_any (op a b c imm : Int) : Calls Tryd.prog 20 #[.agg #[.int .i64 op, .int .i64 a, .int .i64 b, .int .i64 c, .int .i64 imm]] w fun e w' => e = .returned (.bool (mayB op a b c imm)) ∧ Keep No w w' := by
  have hwd := fun (W : World) => r12word_any (w := W) op
  go_enter Tryd.func20, Tryd.ntmps20
  go_wp2_with (first | (at_builtin; refine wl_append rfl _ _ _ _ rfl _ _ rfl rfl ?_) | (at_make; refine wl_make rfl _ _ _ rfl _ _ rfl rfl ?_) | (at_mapUpdate; refine wl_mapUpdate rfl _ _ _ _ rfl _ _ _ rfl rfl rfl ?_) | (at_lookup; refine wl_lookup rfl _ _ _ _ rfl _ _ rfl rfl ?_) | (at_delete; refine wl_delete rfl _ _ _ _ rfl _ _ rfl rfl ?_) | (with_reducible refine wl_len rfl _ _ rfl _ rfl ?_) | (with_reducible refine wl_range rfl _ _ rfl _ rfl ?_) | (with_reducible refine wl_next rfl _ rfl _ rfl ?_) | (with_reducible refine wl_copy rfl _ _ _ _ rfl _ _ rfl rfl ?_) | (with_reducible refine wl_max rfl _ _ _ _ rfl _ _ rfl rfl ?_) | (with_reducible refine wl_min rfl _ _ _ _ rfl _ _ rfl rfl ?_))
  have hkW1 : Keep No w (w.alloc (.cells #[.int .i64 op, .int .i64 a, .int .i64 b, .int .i64 c, .int .i64 imm] 44)) := (Keep.refl _ _).alloc _
  have hBW1 : Blk (w.alloc (.cells #[.int .i64 op, .int .i64 a, .int .i64 b, .int .i64 c, .int .i64 imm] 44)) w.heap.size #[.int .i64 op, .int .i64 a, .int .i64 b, .int .i64 c, .int .i64 imm] 44 := Blk.new _ _ _
  have hzW1 : (w.alloc (.cells #[.int .i64 op, .int .i64 a, .int .i64 b, .int .i64 c, .int .i64 imm] 44)).heap.size = w.heap.size + 1 := World.size_alloc _ _
  generalize w.alloc (.cells #[.int .i64 op, .int .i64 a, .int .i64 b, .int .i64 c, .int .i64 imm] 44) = W1 at *
  have q0 : W1.cell? ⟨w.heap.size, 0, none⟩ = some (.int .i64 op) := hBW1.cell 0
  have hwc := hwd W1
  go_wp2_with (first | (at_builtin; refine wl_append rfl _ _ _ _ rfl _ _ rfl rfl ?_) | (at_make; refine wl_make rfl _ _ _ rfl _ _ rfl rfl ?_) | (at_mapUpdate; refine wl_mapUpdate rfl _ _ _ _ rfl _ _ _ rfl rfl rfl ?_) | (at_lookup; refine wl_lookup rfl _ _ _ _ rfl _ _ rfl rfl ?_) | (at_delete; refine wl_delete rfl _ _ _ _ rfl _ _ rfl rfl ?_) | (with_reducible refine wl_len rfl _ _ rfl _ rfl ?_) | (with_reducible refine wl_range rfl _ _ rfl _ rfl ?_) | (with_reducible refine wl_next rfl _ rfl _ rfl ?_) | (with_reducible refine wl_copy rfl _ _ _ _ rfl _ _ rfl rfl ?_) | (with_reducible refine wl_max rfl _ _ _ _ rfl _ _ rfl rfl ?_) | (with_reducible refine wl_min rfl _ _ _ _ rfl _ _ rfl rfl ?_))
  refine hwc.mono ?_
  rintro e w2 ⟨⟨s, rfl, hs0, hs1⟩, hk2⟩
  clear hwc hwd
  cases hop : isOp op with
  | false =>
    have hff : mayB op a b c imm = false := mayB_no (by unfold mayF; rw [hop]; rfl)
    obtain rfl := hs0 hop
    have HFF := Lib.hid hff
    clear hs0 hs1 hff hop
    go_wp2_with (first | (at_builtin; refine wl_append rfl _ _ _ _ rfl _ _ rfl rfl ?_) | (at_make; refine wl_make rfl _ _ _ rfl _ _ rfl rfl ?_) | (at_mapUpdate; refine wl_mapUpdate rfl _ _ _ _ rfl _ _ _ rfl rfl rfl ?_) | (at_lookup; refine wl_lookup rfl _ _ _ _ rfl _ _ rfl rfl ?_) | (at_delete; refine wl_delete rfl _ _ _ _ rfl _ _ rfl rfl ?_) | (with_reducible refine wl_len rfl _ _ rfl _ rfl ?_) | (with_reducible refine wl_range rfl _ _ rfl _ rfl ?_) | (with_reducible refine wl_next rfl _ rfl _ rfl ?_) | (with_reducible refine wl_copy rfl _ _ _ _ rfl _ _ rfl rfl ?_) | (with_reducible refine wl_max rfl _ _ _ _ rfl _ _ rfl rfl ?_) | (with_reducible refine wl_min rfl _ _ _ _ rfl _ _ rfl rfl ?_))
    go_ret
    exact ⟨by rw [HFF.out]; rfl, hkW1.trans' hk2⟩
  | true =>
    obtain ⟨c0, r0, hcr⟩ := hs1 hop
    have he := (show (⟨#[]⟩ : ByteArray).toList = [] from by rw [Lib.toList_data])
    have hop2 : 1 ≤ op ∧ op ≤ 41 := by
      unfold isOp at hop
      have := of_decide_eq_true hop
      exact ⟨this.1, this.2.1⟩
    have HOP := Lib.hid hop
    have hB2 := hBW1.keep hk2 fun h => h
    have q0 : w2.cell? ⟨w.heap.size, 0, none⟩ = some (.int .i64 op) := hB2.cell 0
    have q1 : w2.cell? ⟨w.heap.size, 1, none⟩ = some (.int .i64 a) := hB2.cell 1
    have q2 : w2.cell? ⟨w.heap.size, 2, none⟩ = some (.int .i64 b) := hB2.cell 2
    have q3 : w2.cell? ⟨w.heap.size, 3, none⟩ = some (.int .i64 c) := hB2.cell 3
    have q4 : w2.cell? ⟨w.heap.size, 4, none⟩ = some (.int .i64 imm) := hB2.cell 4
    have hK2 := hkW1.trans' hk2
    have hlt := hB2.lt
    generalize (⟨#[]⟩ : ByteArray) = es at *
    clear hs0 hs1 hkW1 hzW1 hk2 hBW1 hop
    go_wp2_with (first | (at_builtin; refine wl_append rfl _ _ _ _ rfl _ _ rfl rfl ?_) | (at_make; refine wl_make rfl _ _ _ rfl _ _ rfl rfl ?_) | (at_mapUpdate; refine wl_mapUpdate rfl _ _ _ _ rfl _ _ _ rfl rfl rfl ?_) | (at_lookup; refine wl_lookup rfl _ _ _ _ rfl _ _ rfl rfl ?_) | (at_delete; refine wl_delete rfl _ _ _ _ rfl _ _ rfl rfl ?_) | (with_reducible refine wl_len rfl _ _ rfl _ rfl ?_) | (with_reducible refine wl_range rfl _ _ rfl _ rfl ?_) | (with_reducible refine wl_next rfl _ rfl _ rfl ?_) | (with_reducible refine wl_copy rfl _ _ _ _ rfl _ _ rfl rfl ?_) | (with_reducible refine wl_max rfl _ _ _ _ rfl _ _ rfl rfl ?_) | (with_reducible refine wl_min rfl _ _ _ _ rfl _ _ rfl rfl ?_))
    have hkW3 : Keep No w2 (w2.alloc (.cells #[.int .i64 a, .int .i64 b, .int .i64 c, .int .i64 imm] 2)) := (Keep.refl _ _).alloc _
    have hBW3 : Blk (w2.alloc (.cells #[.int .i64 a, .int .i64 b, .int .i64 c, .int .i64 imm] 2)) w2.heap.size #[.int .i64 a, .int .i64 b, .int .i64 c, .int .i64 imm] 2 := Blk.new _ _ _
    have hzW3 : (w2.alloc (.cells #[.int .i64 a, .int .i64 b, .int .i64 c, .int .i64 imm] 2)).heap.size = w2.heap.size + 1 := World.size_alloc _ _
    generalize w2.alloc (.cells #[.int .i64 a, .int .i64 b, .int .i64 c, .int .i64 imm] 2) = W3 at *
    have hK3 := hK2.trans' hkW3
    have hB3 := hB2.keep hkW3 fun h => h
    refine (r12has_any op hop2.1 hop2.2).mono ?_
    rintro e w3 ⟨rfl, rfl⟩
    have q4 : W3.cell? ⟨w.heap.size, 4, none⟩ = some (.int .i64 imm) := hB3.cell 4
    have r0 : W3.cell? ⟨w2.heap.size, 0, none⟩ = some (.int .i64 a) := hBW3.cell 0
    have r1 : W3.cell? ⟨w2.heap.size, 1, none⟩ = some (.int .i64 b) := hBW3.cell 1
    have r2 : W3.cell? ⟨w2.heap.size, 2, none⟩ = some (.int .i64 c) := hBW3.cell 2
    have r3 : W3.cell? ⟨w2.heap.size, 3, none⟩ = some (.int .i64 imm) := hBW3.cell 3
    clear q0 q1 q2 q3 hcr he hB2 hkW3 hBW3 hB3 hK2 hzW3 hlt
    obtain ⟨hm, hmE⟩ : ∃ h, hasM op = h := ⟨_, rfl⟩
    rw [hmE]
    have hml : hm ≤ 11 := by rw [← hmE]; exact hasM_le op
    have HME := Lib.hid hmE
    clear hmE
    go_wp2_with (first | (at_builtin; refine wl_append rfl _ _ _ _ rfl _ _ rfl rfl ?_) | (at_make; refine wl_make rfl _ _ _ rfl _ _ rfl rfl ?_) | (at_mapUpdate; refine wl_mapUpdate rfl _ _ _ _ rfl _ _ _ rfl rfl rfl ?_) | (at_lookup; refine wl_lookup rfl _ _ _ _ rfl _ _ rfl rfl ?_) | (at_delete; refine wl_delete rfl _ _ _ _ rfl _ _ rfl rfl ?_) | (with_reducible refine wl_len rfl _ _ rfl _ rfl ?_) | (with_reducible refine wl_range rfl _ _ rfl _ rfl ?_) | (with_reducible refine wl_next rfl _ rfl _ rfl ?_) | (with_reducible refine wl_copy rfl _ _ _ _ rfl _ _ rfl rfl ?_) | (with_reducible refine wl_max rfl _ _ _ _ rfl _ _ rfl rfl ?_) | (with_reducible refine wl_min rfl _ _ _ _ rfl _ _ rfl rfl ?_))
    go_loopw [4, 5] (fun hv kv wr => ∃ k : Nat, kv = .int .i64 (k : Int) ∧ k ≤ 4 ∧ hv = .int .i64 ((hm / 2 ^ k : Nat) : Int) ∧ (∀ j, j < k → mayK op a b c imm j = true) ∧ wr = W3) (fun _ kv _ => 4 - (intOf kv).toNat)
    case atStart => exact ⟨0, rfl, by omega, by simp, (fun j hj => absurd hj (Nat.not_lt_zero _)), rfl⟩
    case round =>
      obtain ⟨k, rfl, hk4, rfl, hall, rfl⟩ := hrel
      have hmE := HME.out
      have HALL := Lib.hid hall
      clear hall
      have hkc : k = 0 ∨ k = 1 ∨ k = 2 ∨ k = 3 ∨ k = 4 := by omega
      rcases hkc with rfl | rfl | rfl | rfl | rfl
      · skip
        obtain ⟨hk2, hk2E⟩ : ∃ q, hm / 2 ^ 0 = q := ⟨_, rfl⟩
        have hk2l : hk2 ≤ 11 := by rw [← hk2E]; exact Nat.le_trans (Nat.div_le_self _ _) hml
        by_cases hb1 : hm / 2 ^ 0 % 2 = 1
        · have hb2 : ((hk2 : Int) % 2 == 0) = false := by rw [hk2E] at hb1; simp; omega
          rw [hk2E]
          by_cases hx1 : a < 0
          · have hd1 : decide (a < 0) = true := by simpa using hx1
            have hokk : mayK op a b c imm 0 = false := by simp only [mayK, fieldB]; simp; omega
            have hff := mayB_no (mayF_no (imm := imm) (b := b) (c := c) (a := a) (op := op) _ (by omega) hokk)
            have HFF := Lib.hid hff
            clear hff hmE
            go_wp2_with (first | (at_builtin; refine wl_append rfl _ _ _ _ rfl _ _ rfl rfl ?_) | (at_make; refine wl_make rfl _ _ _ rfl _ _ rfl rfl ?_) | (at_mapUpdate; refine wl_mapUpdate rfl _ _ _ _ rfl _ _ _ rfl rfl rfl ?_) | (at_lookup; refine wl_lookup rfl _ _ _ _ rfl _ _ rfl rfl ?_) | (at_delete; refine wl_delete rfl _ _ _ _ rfl _ _ rfl rfl ?_) | (with_reducible refine wl_len rfl _ _ rfl _ rfl ?_) | (with_reducible refine wl_range rfl _ _ rfl _ rfl ?_) | (with_reducible refine wl_next rfl _ rfl _ rfl ?_) | (with_reducible refine wl_copy rfl _ _ _ _ rfl _ _ rfl rfl ?_) | (with_reducible refine wl_max rfl _ _ _ _ rfl _ _ rfl rfl ?_) | (with_reducible refine wl_min rfl _ _ _ _ rfl _ _ rfl rfl ?_))
            go_ret
            exact ⟨by rw [HFF.out]; rfl, hK3⟩
          · have hd1 : decide (a < 0) = false := by simpa using hx1
            by_cases hx2 : a > 31
            · have hd2 : decide (31 < a) = true := by simpa using hx2
              have hokk : mayK op a b c imm 0 = false := by simp only [mayK, fieldB]; simp; omega
              have hff := mayB_no (mayF_no (imm := imm) (b := b) (c := c) (a := a) (op := op) _ (by omega) hokk)
              have HFF := Lib.hid hff
              clear hff hmE
              go_wp2_with (first | (at_builtin; refine wl_append rfl _ _ _ _ rfl _ _ rfl rfl ?_) | (at_make; refine wl_make rfl _ _ _ rfl _ _ rfl rfl ?_) | (at_mapUpdate; refine wl_mapUpdate rfl _ _ _ _ rfl _ _ _ rfl rfl rfl ?_) | (at_lookup; refine wl_lookup rfl _ _ _ _ rfl _ _ rfl rfl ?_) | (at_delete; refine wl_delete rfl _ _ _ _ rfl _ _ rfl rfl ?_) | (with_reducible refine wl_len rfl _ _ rfl _ rfl ?_) | (with_reducible refine wl_range rfl _ _ rfl _ rfl ?_) | (with_reducible refine wl_next rfl _ rfl _ rfl ?_) | (with_reducible refine wl_copy rfl _ _ _ _ rfl _ _ rfl rfl ?_) | (with_reducible refine wl_max rfl _ _ _ _ rfl _ _ rfl rfl ?_) | (with_reducible refine wl_min rfl _ _ _ _ rfl _ _ rfl rfl ?_))
              go_ret
              exact ⟨by rw [HFF.out]; rfl, hK3⟩
            · have hd2 : decide (31 < a) = false := by simpa using hx2
              have hokk : mayK op a b c imm 0 = true := by
                simp only [mayK, fieldB, hmE]
                simp only [Nat.reducePow, Nat.div_one] at hb1
                simp [hb1]
                omega
              have HOK := Lib.hid hokk
              clear hokk hmE
              go_wp2_with (first | (at_builtin; refine wl_append rfl _ _ _ _ rfl _ _ rfl rfl ?_) | (at_make; refine wl_make rfl _ _ _ rfl _ _ rfl rfl ?_) | (at_mapUpdate; refine wl_mapUpdate rfl _ _ _ _ rfl _ _ _ rfl rfl rfl ?_) | (at_lookup; refine wl_lookup rfl _ _ _ _ rfl _ _ rfl rfl ?_) | (at_delete; refine wl_delete rfl _ _ _ _ rfl _ _ rfl rfl ?_) | (with_reducible refine wl_len rfl _ _ rfl _ rfl ?_) | (with_reducible refine wl_range rfl _ _ rfl _ rfl ?_) | (with_reducible refine wl_next rfl _ rfl _ rfl ?_) | (with_reducible refine wl_copy rfl _ _ _ _ rfl _ _ rfl rfl ?_) | (with_reducible refine wl_max rfl _ _ _ _ rfl _ _ rfl rfl ?_) | (with_reducible refine wl_min rfl _ _ _ _ rfl _ _ rfl rfl ?_))
              go_roundw
              case rel =>
                refine ⟨0 + 1, by go_num, by omega, ?_, fun j hj => ?_, (by first | exact trivial | rfl)⟩
                · rw [half_mod, hk2E]; go_num
                rcases Nat.lt_or_ge j 0 with h | h
                · exact HALL.out j h
                · obtain rfl : j = 0 := by omega
                  exact HOK.out
              case measure => simp [intOf]
        · have hb2 : ((hk2 : Int) % 2 == 0) = true := by rw [hk2E] at hb1; simp; omega
          rw [hk2E]
          by_cases hx : a = 0
          · have hx0 : (a != 0) = false := by simpa using hx
            have hd1 : decide (a < 0) = false := by simp; omega
            have hd2 : decide (31 < a) = false := by simp; omega
            have hokk : mayK op a b c imm 0 = true := by
              simp only [mayK, fieldB, immB, hmE]
              simp [hx]
            have HOK := Lib.hid hokk
            clear hokk hmE
            go_wp2_with (first | (at_builtin; refine wl_append rfl _ _ _ _ rfl _ _ rfl rfl ?_) | (at_make; refine wl_make rfl _ _ _ rfl _ _ rfl rfl ?_) | (at_mapUpdate; refine wl_mapUpdate rfl _ _ _ _ rfl _ _ _ rfl rfl rfl ?_) | (at_lookup; refine wl_lookup rfl _ _ _ _ rfl _ _ rfl rfl ?_) | (at_delete; refine wl_delete rfl _ _ _ _ rfl _ _ rfl rfl ?_) | (with_reducible refine wl_len rfl _ _ rfl _ rfl ?_) | (with_reducible refine wl_range rfl _ _ rfl _ rfl ?_) | (with_reducible refine wl_next rfl _ rfl _ rfl ?_) | (with_reducible refine wl_copy rfl _ _ _ _ rfl _ _ rfl rfl ?_) | (with_reducible refine wl_max rfl _ _ _ _ rfl _ _ rfl rfl ?_) | (with_reducible refine wl_min rfl _ _ _ _ rfl _ _ rfl rfl ?_))
            go_roundw
            case rel =>
              refine ⟨0 + 1, by go_num, by omega, ?_, fun j hj => ?_, (by first | exact trivial | rfl)⟩
              · rw [half_mod, hk2E]; go_num
              rcases Nat.lt_or_ge j 0 with h | h
              · exact HALL.out j h
              · obtain rfl : j = 0 := by omega
                exact HOK.out
            case measure => simp [intOf]
          · have hx0 : (a != 0) = true := by simpa using hx
            have hokk : mayK op a b c imm 0 = false := by
              simp only [mayK, fieldB, immB, hmE]
              simp only [Nat.reducePow, Nat.div_one] at hb1
              first | (simp [hx, hb1]; done) | (simp [hx]; omega)
            have hff := mayB_no (mayF_no (imm := imm) (b := b) (c := c) (a := a) (op := op) _ (by omega) hokk)
            have HFF := Lib.hid hff
            clear hff hmE
            go_wp2_with (first | (at_builtin; refine wl_append rfl _ _ _ _ rfl _ _ rfl rfl ?_) | (at_make; refine wl_make rfl _ _ _ rfl _ _ rfl rfl ?_) | (at_mapUpdate; refine wl_mapUpdate rfl _ _ _ _ rfl _ _ _ rfl rfl rfl ?_) | (at_lookup; refine wl_lookup rfl _ _ _ _ rfl _ _ rfl rfl ?_) | (at_delete; refine wl_delete rfl _ _ _ _ rfl _ _ rfl rfl ?_) | (with_reducible refine wl_len rfl _ _ rfl _ rfl ?_) | (with_reducible refine wl_range rfl _ _ rfl _ rfl ?_) | (with_reducible refine wl_next rfl _ rfl _ rfl ?_) | (with_reducible refine wl_copy rfl _ _ _ _ rfl _ _ rfl rfl ?_) | (with_reducible refine wl_max rfl _ _ _ _ rfl _ _ rfl rfl ?_) | (with_reducible refine wl_min rfl _ _ _ _ rfl _ _ rfl rfl ?_))
            go_ret
            exact ⟨by rw [HFF.out]; rfl, hK3⟩
      · skip
        obtain ⟨hk2, hk2E⟩ : ∃ q, hm / 2 ^ 1 = q := ⟨_, rfl⟩
        have hk2l : hk2 ≤ 11 := by rw [← hk2E]; exact Nat.le_trans (Nat.div_le_self _ _) hml
        by_cases hb1 : hm / 2 ^ 1 % 2 = 1
        · have hb2 : ((hk2 : Int) % 2 == 0) = false := by rw [hk2E] at hb1; simp; omega
          rw [hk2E]
          by_cases hx1 : b < 0
          · have hd1 : decide (b < 0) = true := by simpa using hx1
            have hokk : mayK op a b c imm 1 = false := by simp only [mayK, fieldB]; simp; omega
            have hff := mayB_no (mayF_no (imm := imm) (b := b) (c := c) (a := a) (op := op) _ (by omega) hokk)
            have HFF := Lib.hid hff
            clear hff hmE
            go_wp2_with (first | (at_builtin; refine wl_append rfl _ _ _ _ rfl _ _ rfl rfl ?_) | (at_make; refine wl_make rfl _ _ _ rfl _ _ rfl rfl ?_) | (at_mapUpdate; refine wl_mapUpdate rfl _ _ _ _ rfl _ _ _ rfl rfl rfl ?_) | (at_lookup; refine wl_lookup rfl _ _ _ _ rfl _ _ rfl rfl ?_) | (at_delete; refine wl_delete rfl _ _ _ _ rfl _ _ rfl rfl ?_) | (with_reducible refine wl_len rfl _ _ rfl _ rfl ?_) | (with_reducible refine wl_range rfl _ _ rfl _ rfl ?_) | (with_reducible refine wl_next rfl _ rfl _ rfl ?_) | (with_reducible refine wl_copy rfl _ _ _ _ rfl _ _ rfl rfl ?_) | (with_reducible refine wl_max rfl _ _ _ _ rfl _ _ rfl rfl ?_) | (with_reducible refine wl_min rfl _ _ _ _ rfl _ _ rfl rfl ?_))
            go_ret
            exact ⟨by rw [HFF.out]; rfl, hK3⟩
          · have hd1 : decide (b < 0) = false := by simpa using hx1
            by_cases hx2 : b > 31
            · have hd2 : decide (31 < b) = true := by simpa using hx2
              have hokk : mayK op a b c imm 1 = false := by simp only [mayK, fieldB]; simp; omega
              have hff := mayB_no (mayF_no (imm := imm) (b := b) (c := c) (a := a) (op := op) _ (by omega) hokk)
              have HFF := Lib.hid hff
              clear hff hmE
              go_wp2_with (first | (at_builtin; refine wl_append rfl _ _ _ _ rfl _ _ rfl rfl ?_) | (at_make; refine wl_make rfl _ _ _ rfl _ _ rfl rfl ?_) | (at_mapUpdate; refine wl_mapUpdate rfl _ _ _ _ rfl _ _ _ rfl rfl rfl ?_) | (at_lookup; refine wl_lookup rfl _ _ _ _ rfl _ _ rfl rfl ?_) | (at_delete; refine wl_delete rfl _ _ _ _ rfl _ _ rfl rfl ?_) | (with_reducible refine wl_len rfl _ _ rfl _ rfl ?_) | (with_reducible refine wl_range rfl _ _ rfl _ rfl ?_) | (with_reducible refine wl_next rfl _ rfl _ rfl ?_) | (with_reducible refine wl_copy rfl _ _ _ _ rfl _ _ rfl rfl ?_) | (with_reducible refine wl_max rfl _ _ _ _ rfl _ _ rfl rfl ?_) | (with_reducible refine wl_min rfl _ _ _ _ rfl _ _ rfl rfl ?_))
              go_ret
              exact ⟨by rw [HFF.out]; rfl, hK3⟩
            · have hd2 : decide (31 < b) = false := by simpa using hx2
              have hokk : mayK op a b c imm 1 = true := by
                simp only [mayK, fieldB, hmE]
                simp only [Nat.reducePow, Nat.div_one] at hb1
                simp [hb1]
                omega
              have HOK := Lib.hid hokk
              clear hokk hmE
              go_wp2_with (first | (at_builtin; refine wl_append rfl _ _ _ _ rfl _ _ rfl rfl ?_) | (at_make; refine wl_make rfl _ _ _ rfl _ _ rfl rfl ?_) | (at_mapUpdate; refine wl_mapUpdate rfl _ _ _ _ rfl _ _ _ rfl rfl rfl ?_) | (at_lookup; refine wl_lookup rfl _ _ _ _ rfl _ _ rfl rfl ?_) | (at_delete; refine wl_delete rfl _ _ _ _ rfl _ _ rfl rfl ?_) | (with_reducible refine wl_len rfl _ _ rfl _ rfl ?_) | (with_reducible refine wl_range rfl _ _ rfl _ rfl ?_) | (with_reducible refine wl_next rfl _ rfl _ rfl ?_) | (with_reducible refine wl_copy rfl _ _ _ _ rfl _ _ rfl rfl ?_) | (with_reducible refine wl_max rfl _ _ _ _ rfl _ _ rfl rfl ?_) | (with_reducible refine wl_min rfl _ _ _ _ rfl _ _ rfl rfl ?_))
              go_roundw
              case rel =>
                refine ⟨1 + 1, by go_num, by omega, ?_, fun j hj => ?_, (by first | exact trivial | rfl)⟩
                · rw [half_mod, hk2E]; go_num
                rcases Nat.lt_or_ge j 1 with h | h
                · exact HALL.out j h
                · obtain rfl : j = 1 := by omega
                  exact HOK.out
              case measure => simp [intOf]
        · have hb2 : ((hk2 : Int) % 2 == 0) = true := by rw [hk2E] at hb1; simp; omega
          rw [hk2E]
          by_cases hx : b = 0
          · have hx0 : (b != 0) = false := by simpa using hx
            have hd1 : decide (b < 0) = false := by simp; omega
            have hd2 : decide (31 < b) = false := by simp; omega
            have hokk : mayK op a b c imm 1 = true := by
              simp only [mayK, fieldB, immB, hmE]
              simp [hx]
            have HOK := Lib.hid hokk
            clear hokk hmE
            go_wp2_with (first | (at_builtin; refine wl_append rfl _ _ _ _ rfl _ _ rfl rfl ?_) | (at_make; refine wl_make rfl _ _ _ rfl _ _ rfl rfl ?_) | (at_mapUpdate; refine wl_mapUpdate rfl _ _ _ _ rfl _ _ _ rfl rfl rfl ?_) | (at_lookup; refine wl_lookup rfl _ _ _ _ rfl _ _ rfl rfl ?_) | (at_delete; refine wl_delete rfl _ _ _ _ rfl _ _ rfl rfl ?_) | (with_reducible refine wl_len rfl _ _ rfl _ rfl ?_) | (with_reducible refine wl_range rfl _ _ rfl _ rfl ?_) | (with_reducible refine wl_next rfl _ rfl _ rfl ?_) | (with_reducible refine wl_copy rfl _ _ _ _ rfl _ _ rfl rfl ?_) | (with_reducible refine wl_max rfl _ _ _ _ rfl _ _ rfl rfl ?_) | (with_reducible refine wl_min rfl _ _ _ _ rfl _ _ rfl rfl ?_))
            go_roundw
            case rel =>
              refine ⟨1 + 1, by go_num, by omega, ?_, fun j hj => ?_, (by first | exact trivial | rfl)⟩
              · rw [half_mod, hk2E]; go_num
              rcases Nat.lt_or_ge j 1 with h | h
              · exact HALL.out j h
              · obtain rfl : j = 1 := by omega
                exact HOK.out
            case measure => simp [intOf]
          · have hx0 : (b != 0) = true := by simpa using hx
            have hokk : mayK op a b c imm 1 = false := by
              simp only [mayK, fieldB, immB, hmE]
              simp only [Nat.reducePow, Nat.div_one] at hb1
              first | (simp [hx, hb1]; done) | (simp [hx]; omega)
            have hff := mayB_no (mayF_no (imm := imm) (b := b) (c := c) (a := a) (op := op) _ (by omega) hokk)
            have HFF := Lib.hid hff
            clear hff hmE
            go_wp2_with (first | (at_builtin; refine wl_append rfl _ _ _ _ rfl _ _ rfl rfl ?_) | (at_make; refine wl_make rfl _ _ _ rfl _ _ rfl rfl ?_) | (at_mapUpdate; refine wl_mapUpdate rfl _ _ _ _ rfl _ _ _ rfl rfl rfl ?_) | (at_lookup; refine wl_lookup rfl _ _ _ _ rfl _ _ rfl rfl ?_) | (at_delete; refine wl_delete rfl _ _ _ _ rfl _ _ rfl rfl ?_) | (with_reducible refine wl_len rfl _ _ rfl _ rfl ?_) | (with_reducible refine wl_range rfl _ _ rfl _ rfl ?_) | (with_reducible refine wl_next rfl _ rfl _ rfl ?_) | (with_reducible refine wl_copy rfl _ _ _ _ rfl _ _ rfl rfl ?_) | (with_reducible refine wl_max rfl _ _ _ _ rfl _ _ rfl rfl ?_) | (with_reducible refine wl_min rfl _ _ _ _ rfl _ _ rfl rfl ?_))
            go_ret
            exact ⟨by rw [HFF.out]; rfl, hK3⟩
      · skip
        obtain ⟨hk2, hk2E⟩ : ∃ q, hm / 2 ^ 2 = q := ⟨_, rfl⟩
        have hk2l : hk2 ≤ 11 := by rw [← hk2E]; exact Nat.le_trans (Nat.div_le_self _ _) hml
        by_cases hb1 : hm / 2 ^ 2 % 2 = 1
        · have hb2 : ((hk2 : Int) % 2 == 0) = false := by rw [hk2E] at hb1; simp; omega
          rw [hk2E]
          by_cases hx1 : c < 0
          · have hd1 : decide (c < 0) = true := by simpa using hx1
            have hokk : mayK op a b c imm 2 = false := by simp only [mayK, fieldB]; simp; omega
            have hff := mayB_no (mayF_no (imm := imm) (b := b) (c := c) (a := a) (op := op) _ (by omega) hokk)
            have HFF := Lib.hid hff
            clear hff hmE
            go_wp2_with (first | (at_builtin; refine wl_append rfl _ _ _ _ rfl _ _ rfl rfl ?_) | (at_make; refine wl_make rfl _ _ _ rfl _ _ rfl rfl ?_) | (at_mapUpdate; refine wl_mapUpdate rfl _ _ _ _ rfl _ _ _ rfl rfl rfl ?_) | (at_lookup; refine wl_lookup rfl _ _ _ _ rfl _ _ rfl rfl ?_) | (at_delete; refine wl_delete rfl _ _ _ _ rfl _ _ rfl rfl ?_) | (with_reducible refine wl_len rfl _ _ rfl _ rfl ?_) | (with_reducible refine wl_range rfl _ _ rfl _ rfl ?_) | (with_reducible refine wl_next rfl _ rfl _ rfl ?_) | (with_reducible refine wl_copy rfl _ _ _ _ rfl _ _ rfl rfl ?_) | (with_reducible refine wl_max rfl _ _ _ _ rfl _ _ rfl rfl ?_) | (with_reducible refine wl_min rfl _ _ _ _ rfl _ _ rfl rfl ?_))
            go_ret
            exact ⟨by rw [HFF.out]; rfl, hK3⟩
          · have hd1 : decide (c < 0) = false := by simpa using hx1
            by_cases hx2 : c > 31
            · have hd2 : decide (31 < c) = true := by simpa using hx2
              have hokk : mayK op a b c imm 2 = false := by simp only [mayK, fieldB]; simp; omega
              have hff := mayB_no (mayF_no (imm := imm) (b := b) (c := c) (a := a) (op := op) _ (by omega) hokk)
              have HFF := Lib.hid hff
              clear hff hmE
              go_wp2_with (first | (at_builtin; refine wl_append rfl _ _ _ _ rfl _ _ rfl rfl ?_) | (at_make; refine wl_make rfl _ _ _ rfl _ _ rfl rfl ?_) | (at_mapUpdate; refine wl_mapUpdate rfl _ _ _ _ rfl _ _ _ rfl rfl rfl ?_) | (at_lookup; refine wl_lookup rfl _ _ _ _ rfl _ _ rfl rfl ?_) | (at_delete; refine wl_delete rfl _ _ _ _ rfl _ _ rfl rfl ?_) | (with_reducible refine wl_len rfl _ _ rfl _ rfl ?_) | (with_reducible refine wl_range rfl _ _ rfl _ rfl ?_) | (with_reducible refine wl_next rfl _ rfl _ rfl ?_) | (with_reducible refine wl_copy rfl _ _ _ _ rfl _ _ rfl rfl ?_) | (with_reducible refine wl_max rfl _ _ _ _ rfl _ _ rfl rfl ?_) | (with_reducible refine wl_min rfl _ _ _ _ rfl _ _ rfl rfl ?_))
              go_ret
              exact ⟨by rw [HFF.out]; rfl, hK3⟩
            · have hd2 : decide (31 < c) = false := by simpa using hx2
              have hokk : mayK op a b c imm 2 = true := by
                simp only [mayK, fieldB, hmE]
                simp only [Nat.reducePow, Nat.div_one] at hb1
                simp [hb1]
                omega
              have HOK := Lib.hid hokk
              clear hokk hmE
              go_wp2_with (first | (at_builtin; refine wl_append rfl _ _ _ _ rfl _ _ rfl rfl ?_) | (at_make; refine wl_make rfl _ _ _ rfl _ _ rfl rfl ?_) | (at_mapUpdate; refine wl_mapUpdate rfl _ _ _ _ rfl _ _ _ rfl rfl rfl ?_) | (at_lookup; refine wl_lookup rfl _ _ _ _ rfl _ _ rfl rfl ?_) | (at_delete; refine wl_delete rfl _ _ _ _ rfl _ _ rfl rfl ?_) | (with_reducible refine wl_len rfl _ _ rfl _ rfl ?_) | (with_reducible refine wl_range rfl _ _ rfl _ rfl ?_) | (with_reducible refine wl_next rfl _ rfl _ rfl ?_) | (with_reducible refine wl_copy rfl _ _ _ _ rfl _ _ rfl rfl ?_) | (with_reducible refine wl_max rfl _ _ _ _ rfl _ _ rfl rfl ?_) | (with_reducible refine wl_min rfl _ _ _ _ rfl _ _ rfl rfl ?_))
              go_roundw
              case rel =>
                refine ⟨2 + 1, by go_num, by omega, ?_, fun j hj => ?_, (by first | exact trivial | rfl)⟩
                · rw [half_mod, hk2E]; go_num
                rcases Nat.lt_or_ge j 2 with h | h
                · exact HALL.out j h
                · obtain rfl : j = 2 := by omega
                  exact HOK.out
              case measure => simp [intOf]
        · have hb2 : ((hk2 : Int) % 2 == 0) = true := by rw [hk2E] at hb1; simp; omega
          rw [hk2E]
          by_cases hx : c = 0
          · have hx0 : (c != 0) = false := by simpa using hx
            have hd1 : decide (c < 0) = false := by simp; omega
            have hd2 : decide (31 < c) = false := by simp; omega
            have hokk : mayK op a b c imm 2 = true := by
              simp only [mayK, fieldB, immB, hmE]
              simp [hx]
            have HOK := Lib.hid hokk
            clear hokk hmE
            go_wp2_with (first | (at_builtin; refine wl_append rfl _ _ _ _ rfl _ _ rfl rfl ?_) | (at_make; refine wl_make rfl _ _ _ rfl _ _ rfl rfl ?_) | (at_mapUpdate; refine wl_mapUpdate rfl _ _ _ _ rfl _ _ _ rfl rfl rfl ?_) | (at_lookup; refine wl_lookup rfl _ _ _ _ rfl _ _ rfl rfl ?_) | (at_delete; refine wl_delete rfl _ _ _ _ rfl _ _ rfl rfl ?_) | (with_reducible refine wl_len rfl _ _ rfl _ rfl ?_) | (with_reducible refine wl_range rfl _ _ rfl _ rfl ?_) | (with_reducible refine wl_next rfl _ rfl _ rfl ?_) | (with_reducible refine wl_copy rfl _ _ _ _ rfl _ _ rfl rfl ?_) | (with_reducible refine wl_max rfl _ _ _ _ rfl _ _ rfl rfl ?_) | (with_reducible refine wl_min rfl _ _ _ _ rfl _ _ rfl rfl ?_))
            go_roundw
            case rel =>
              refine ⟨2 + 1, by go_num, by omega, ?_, fun j hj => ?_, (by first | exact trivial | rfl)⟩
              · rw [half_mod, hk2E]; go_num
              rcases Nat.lt_or_ge j 2 with h | h
              · exact HALL.out j h
              · obtain rfl : j = 2 := by omega
                exact HOK.out
            case measure => simp [intOf]
          · have hx0 : (c != 0) = true := by simpa using hx
            have hokk : mayK op a b c imm 2 = false := by
              simp only [mayK, fieldB, immB, hmE]
              simp only [Nat.reducePow, Nat.div_one] at hb1
              first | (simp [hx, hb1]; done) | (simp [hx]; omega)
            have hff := mayB_no (mayF_no (imm := imm) (b := b) (c := c) (a := a) (op := op) _ (by omega) hokk)
            have HFF := Lib.hid hff
            clear hff hmE
            go_wp2_with (first | (at_builtin; refine wl_append rfl _ _ _ _ rfl _ _ rfl rfl ?_) | (at_make; refine wl_make rfl _ _ _ rfl _ _ rfl rfl ?_) | (at_mapUpdate; refine wl_mapUpdate rfl _ _ _ _ rfl _ _ _ rfl rfl rfl ?_) | (at_lookup; refine wl_lookup rfl _ _ _ _ rfl _ _ rfl rfl ?_) | (at_delete; refine wl_delete rfl _ _ _ _ rfl _ _ rfl rfl ?_) | (with_reducible refine wl_len rfl _ _ rfl _ rfl ?_) | (with_reducible refine wl_range rfl _ _ rfl _ rfl ?_) | (with_reducible refine wl_next rfl _ rfl _ rfl ?_) | (with_reducible refine wl_copy rfl _ _ _ _ rfl _ _ rfl rfl ?_) | (with_reducible refine wl_max rfl _ _ _ _ rfl _ _ rfl rfl ?_) | (with_reducible refine wl_min rfl _ _ _ _ rfl _ _ rfl rfl ?_))
            go_ret
            exact ⟨by rw [HFF.out]; rfl, hK3⟩
      · skip
        obtain ⟨hk2, hk2E⟩ : ∃ q, hm / 2 ^ 3 = q := ⟨_, rfl⟩
        have hk2l : hk2 ≤ 11 := by rw [← hk2E]; exact Nat.le_trans (Nat.div_le_self _ _) hml
        by_cases hb1 : hm / 2 ^ 3 % 2 = 1
        · have hb2 : ((hk2 : Int) % 2 == 0) = false := by rw [hk2E] at hb1; simp; omega
          rw [hk2E]
          have hokk : mayK op a b c imm 3 = true := by
            simp only [mayK, immB, hmE]
            simp only [Nat.reducePow, Nat.div_one] at hb1
            simp [hb1]
          have HOK := Lib.hid hokk
          clear hokk hmE
          go_wp2_with (first | (at_builtin; refine wl_append rfl _ _ _ _ rfl _ _ rfl rfl ?_) | (at_make; refine wl_make rfl _ _ _ rfl _ _ rfl rfl ?_) | (at_mapUpdate; refine wl_mapUpdate rfl _ _ _ _ rfl _ _ _ rfl rfl rfl ?_) | (at_lookup; refine wl_lookup rfl _ _ _ _ rfl _ _ rfl rfl ?_) | (at_delete; refine wl_delete rfl _ _ _ _ rfl _ _ rfl rfl ?_) | (with_reducible refine wl_len rfl _ _ rfl _ rfl ?_) | (with_reducible refine wl_range rfl _ _ rfl _ rfl ?_) | (with_reducible refine wl_next rfl _ rfl _ rfl ?_) | (with_reducible refine wl_copy rfl _ _ _ _ rfl _ _ rfl rfl ?_) | (with_reducible refine wl_max rfl _ _ _ _ rfl _ _ rfl rfl ?_) | (with_reducible refine wl_min rfl _ _ _ _ rfl _ _ rfl rfl ?_))
          go_roundw
          case rel =>
            refine ⟨3 + 1, by go_num, by omega, ?_, fun j hj => ?_, (by first | exact trivial | rfl)⟩
            · rw [half_mod, hk2E]; go_num
            rcases Nat.lt_or_ge j 3 with h | h
            · exact HALL.out j h
            · obtain rfl : j = 3 := by omega
              exact HOK.out
          case measure => simp [intOf]
        · have hb2 : ((hk2 : Int) % 2 == 0) = true := by rw [hk2E] at hb1; simp; omega
          rw [hk2E]
          by_cases hx : imm = 0
          · have hx0 : (imm != 0) = false := by simpa using hx
            have hd1 : decide (imm < 0) = false := by simp; omega
            have hd2 : decide (31 < imm) = false := by simp; omega
            have hokk : mayK op a b c imm 3 = true := by
              simp only [mayK, fieldB, immB, hmE]
              simp [hx]
            have HOK := Lib.hid hokk
            clear hokk hmE
            go_wp2_with (first | (at_builtin; refine wl_append rfl _ _ _ _ rfl _ _ rfl rfl ?_) | (at_make; refine wl_make rfl _ _ _ rfl _ _ rfl rfl ?_) | (at_mapUpdate; refine wl_mapUpdate rfl _ _ _ _ rfl _ _ _ rfl rfl rfl ?_) | (at_lookup; refine wl_lookup rfl _ _ _ _ rfl _ _ rfl rfl ?_) | (at_delete; refine wl_delete rfl _ _ _ _ rfl _ _ rfl rfl ?_) | (with_reducible refine wl_len rfl _ _ rfl _ rfl ?_) | (with_reducible refine wl_range rfl _ _ rfl _ rfl ?_) | (with_reducible refine wl_next rfl _ rfl _ rfl ?_) | (with_reducible refine wl_copy rfl _ _ _ _ rfl _ _ rfl rfl ?_) | (with_reducible refine wl_max rfl _ _ _ _ rfl _ _ rfl rfl ?_) | (with_reducible refine wl_min rfl _ _ _ _ rfl _ _ rfl rfl ?_))
            go_roundw
            case rel =>
              refine ⟨3 + 1, by go_num, by omega, ?_, fun j hj => ?_, (by first | exact trivial | rfl)⟩
              · rw [half_mod, hk2E]; go_num
              rcases Nat.lt_or_ge j 3 with h | h
              · exact HALL.out j h
              · obtain rfl : j = 3 := by omega
                exact HOK.out
            case measure => simp [intOf]
          · have hx0 : (imm != 0) = true := by simpa using hx
            have hokk : mayK op a b c imm 3 = false := by
              simp only [mayK, fieldB, immB, hmE]
              simp only [Nat.reducePow, Nat.div_one] at hb1
              first | (simp [hx, hb1]; done) | (simp [hx]; omega)
            have hff := mayB_no (mayF_no (imm := imm) (b := b) (c := c) (a := a) (op := op) _ (by omega) hokk)
            have HFF := Lib.hid hff
            clear hff hmE
            go_wp2_with (first | (at_builtin; refine wl_append rfl _ _ _ _ rfl _ _ rfl rfl ?_) | (at_make; refine wl_make rfl _ _ _ rfl _ _ rfl rfl ?_) | (at_mapUpdate; refine wl_mapUpdate rfl _ _ _ _ rfl _ _ _ rfl rfl rfl ?_) | (at_lookup; refine wl_lookup rfl _ _ _ _ rfl _ _ rfl rfl ?_) | (at_delete; refine wl_delete rfl _ _ _ _ rfl _ _ rfl rfl ?_) | (with_reducible refine wl_len rfl _ _ rfl _ rfl ?_) | (with_reducible refine wl_range rfl _ _ rfl _ rfl ?_) | (with_reducible refine wl_next rfl _ rfl _ rfl ?_) | (with_reducible refine wl_copy rfl _ _ _ _ rfl _ _ rfl rfl ?_) | (with_reducible refine wl_max rfl _ _ _ _ rfl _ _ rfl rfl ?_) | (with_reducible refine wl_min rfl _ _ _ _ rfl _ _ rfl rfl ?_))
            go_ret
            exact ⟨by rw [HFF.out]; rfl, hK3⟩
      · have hyes := mayB_yes (mayF_yes HOP.out HALL.out)
        have HY := Lib.hid hyes
        clear hyes hmE
        by_cases h1 : -2147483648 ≤ imm
        · by_cases h2 : imm ≤ 2147483647
          · have hd1 : decide (-2147483648 ≤ imm) = true := by simpa using h1
            have hd2 : decide (imm ≤ 2147483647) = true := by simpa using h2
            have HD := Lib.hid (show decide (-2147483648 ≤ imm ∧ imm ≤ 2147483647) = true from decide_eq_true ⟨h1, h2⟩)
            go_wp2_with (first | (at_builtin; refine wl_append rfl _ _ _ _ rfl _ _ rfl rfl ?_) | (at_make; refine wl_make rfl _ _ _ rfl _ _ rfl rfl ?_) | (at_mapUpdate; refine wl_mapUpdate rfl _ _ _ _ rfl _ _ _ rfl rfl rfl ?_) | (at_lookup; refine wl_lookup rfl _ _ _ _ rfl _ _ rfl rfl ?_) | (at_delete; refine wl_delete rfl _ _ _ _ rfl _ _ rfl rfl ?_) | (with_reducible refine wl_len rfl _ _ rfl _ rfl ?_) | (with_reducible refine wl_range rfl _ _ rfl _ rfl ?_) | (with_reducible refine wl_next rfl _ rfl _ rfl ?_) | (with_reducible refine wl_copy rfl _ _ _ _ rfl _ _ rfl rfl ?_) | (with_reducible refine wl_max rfl _ _ _ _ rfl _ _ rfl rfl ?_) | (with_reducible refine wl_min rfl _ _ _ _ rfl _ _ rfl rfl ?_))
            go_ret
            exact ⟨by rw [HY.out, HD.out]; rfl, hK3⟩
          · have hd1 : decide (-2147483648 ≤ imm) = true := by simpa using h1
            have hd2 : decide (imm ≤ 2147483647) = false := by simpa using h2
            have HD := Lib.hid (show decide (-2147483648 ≤ imm ∧ imm ≤ 2147483647) = false from decide_eq_false fun h => h2 h.2)
            go_wp2_with (first | (at_builtin; refine wl_append rfl _ _ _ _ rfl _ _ rfl rfl ?_) | (at_make; refine wl_make rfl _ _ _ rfl _ _ rfl rfl ?_) | (at_mapUpdate; refine wl_mapUpdate rfl _ _ _ _ rfl _ _ _ rfl rfl rfl ?_) | (at_lookup; refine wl_lookup rfl _ _ _ _ rfl _ _ rfl rfl ?_) | (at_delete; refine wl_delete rfl _ _ _ _ rfl _ _ rfl rfl ?_) | (with_reducible refine wl_len rfl _ _ rfl _ rfl ?_) | (with_reducible refine wl_range rfl _ _ rfl _ rfl ?_) | (with_reducible refine wl_next rfl _ rfl _ rfl ?_) | (with_reducible refine wl_copy rfl _ _ _ _ rfl _ _ rfl rfl ?_) | (with_reducible refine wl_max rfl _ _ _ _ rfl _ _ rfl rfl ?_) | (with_reducible refine wl_min rfl _ _ _ _ rfl _ _ rfl rfl ?_))
            go_ret
            exact ⟨by rw [HY.out, HD.out]; rfl, hK3⟩
        · have hd1 : decide (-2147483648 ≤ imm) = false := by simpa using h1
          have HD := Lib.hid (show decide (-2147483648 ≤ imm ∧ imm ≤ 2147483647) = false from decide_eq_false fun h => h1 h.1)
          go_wp2_with (first | (at_builtin; refine wl_append rfl _ _ _ _ rfl _ _ rfl rfl ?_) | (at_make; refine wl_make rfl _ _ _ rfl _ _ rfl rfl ?_) | (at_mapUpdate; refine wl_mapUpdate rfl _ _ _ _ rfl _ _ _ rfl rfl rfl ?_) | (at_lookup; refine wl_lookup rfl _ _ _ _ rfl _ _ rfl rfl ?_) | (at_delete; refine wl_delete rfl _ _ _ _ rfl _ _ rfl rfl ?_) | (with_reducible refine wl_len rfl _ _ rfl _ rfl ?_) | (with_reducible refine wl_range rfl _ _ rfl _ rfl ?_) | (with_reducible refine wl_next rfl _ rfl _ rfl ?_) | (with_reducible refine wl_copy rfl _ _ _ _ rfl _ _ rfl rfl ?_) | (with_reducible refine wl_max rfl _ _ _ _ rfl _ _ rfl rfl ?_) | (with_reducible refine wl_min rfl _ _ _ _ rfl _ _ rfl rfl ?_))
          go_ret
          exact ⟨by rw [HY.out, HD.out]; rfl, hK3⟩
theorem enc_ref {op a b c imm : Int} (h : mayB op a b c imm = true) : 1 ≤ op ∧ op ≤ 41 ∧ 0 ≤ a ∧ a ≤ 31 ∧ 0 ≤ b ∧ b ≤ 31 ∧ 0 ≤ c ∧ c ≤ 31 ∧ -2147483648 ≤ imm ∧ imm ≤ 2147483647 := by
  unfold mayB mayF at h
  simp only [Bool.and_eq_true] at h
  obtain ⟨⟨⟨⟨⟨h0, h1⟩, h2⟩, h3⟩, _⟩, h5⟩ := h
  unfold isOp at h0
  unfold fieldB at h1 h2 h3
  simp only [Bool.and_eq_true, decide_eq_true_eq] at h0 h1 h2 h3 h5
  omega
set_option maxRecDepth 100000 in
set_option maxHeartbeats 4000000 in
theorem r12enc_any (op a b c imm : Int) : Calls Tryd.prog 10 #[.agg #[.int .i64 op, .int .i64 a, .int .i64 b, .int .i64 c, .int .i64 imm]] w fun e w' => e = .returned (.tuple #[.int .u64 ((if mayB op a b c imm then encM op a b c imm else 0 : Nat) : Int), .int .i64 ((if mayB op a b c imm then 0 else 42 : Nat) : Int)]) ∧ Keep No w w' := by
  have hmy := fun (W : World) => r12may_any (w := W) op a b c imm
  have href := enc_ref (op := op) (a := a) (b := b) (c := c) (imm := imm)
  generalize mayB op a b c imm = mb at *
  go_enter Tryd.func10, Tryd.ntmps10
  go_wp2_with (first | (at_builtin; refine wl_append rfl _ _ _ _ rfl _ _ rfl rfl ?_) | (at_make; refine wl_make rfl _ _ _ rfl _ _ rfl rfl ?_) | (at_mapUpdate; refine wl_mapUpdate rfl _ _ _ _ rfl _ _ _ rfl rfl rfl ?_) | (at_lookup; refine wl_lookup rfl _ _ _ _ rfl _ _ rfl rfl ?_) | (at_delete; refine wl_delete rfl _ _ _ _ rfl _ _ rfl rfl ?_) | (with_reducible refine wl_len rfl _ _ rfl _ rfl ?_) | (with_reducible refine wl_range rfl _ _ rfl _ rfl ?_) | (with_reducible refine wl_next rfl _ rfl _ rfl ?_) | (with_reducible refine wl_copy rfl _ _ _ _ rfl _ _ rfl rfl ?_) | (with_reducible refine wl_max rfl _ _ _ _ rfl _ _ rfl rfl ?_) | (with_reducible refine wl_min rfl _ _ _ _ rfl _ _ rfl rfl ?_))
  have hkW1 : Keep No w (w.alloc (.cells #[.int .i64 op, .int .i64 a, .int .i64 b, .int .i64 c, .int .i64 imm] 44)) := (Keep.refl _ _).alloc _
  have hBW1 : Blk (w.alloc (.cells #[.int .i64 op, .int .i64 a, .int .i64 b, .int .i64 c, .int .i64 imm] 44)) w.heap.size #[.int .i64 op, .int .i64 a, .int .i64 b, .int .i64 c, .int .i64 imm] 44 := Blk.new _ _ _
  have hzW1 : (w.alloc (.cells #[.int .i64 op, .int .i64 a, .int .i64 b, .int .i64 c, .int .i64 imm] 44)).heap.size = w.heap.size + 1 := World.size_alloc _ _
  generalize w.alloc (.cells #[.int .i64 op, .int .i64 a, .int .i64 b, .int .i64 c, .int .i64 imm] 44) = W1 at *
  have q0 : W1.cell? ⟨w.heap.size, 0, none⟩ = some (.int .i64 op) := hBW1.cell 0
  have q1 : W1.cell? ⟨w.heap.size, 1, none⟩ = some (.int .i64 a) := hBW1.cell 1
  have q2 : W1.cell? ⟨w.heap.size, 2, none⟩ = some (.int .i64 b) := hBW1.cell 2
  have q3 : W1.cell? ⟨w.heap.size, 3, none⟩ = some (.int .i64 c) := hBW1.cell 3
  have q4 : W1.cell? ⟨w.heap.size, 4, none⟩ = some (.int .i64 imm) := hBW1.cell 4
  have hmc := hmy W1
  go_wp2_with (first | (at_builtin; refine wl_append rfl _ _ _ _ rfl _ _ rfl rfl ?_) | (at_make; refine wl_make rfl _ _ _ rfl _ _ rfl rfl ?_) | (at_mapUpdate; refine wl_mapUpdate rfl _ _ _ _ rfl _ _ _ rfl rfl rfl ?_) | (at_lookup; refine wl_lookup rfl _ _ _ _ rfl _ _ rfl rfl ?_) | (at_delete; refine wl_delete rfl _ _ _ _ rfl _ _ rfl rfl ?_) | (with_reducible refine wl_len rfl _ _ rfl _ rfl ?_) | (with_reducible refine wl_range rfl _ _ rfl _ rfl ?_) | (with_reducible refine wl_next rfl _ rfl _ rfl ?_) | (with_reducible refine wl_copy rfl _ _ _ _ rfl _ _ rfl rfl ?_) | (with_reducible refine wl_max rfl _ _ _ _ rfl _ _ rfl rfl ?_) | (with_reducible refine wl_min rfl _ _ _ _ rfl _ _ rfl rfl ?_))
  refine hmc.mono ?_
  rintro e w2 ⟨rfl, hk2⟩
  have hB2 := hBW1.keep hk2 fun h => h
  have hK2 := hkW1.trans' hk2
  clear hmc hmy q0 q1 q2 q3 q4 hkW1 hzW1 hBW1 hk2
  cases mb with
  | false =>
    clear href
    go_wp2_with (first | (at_builtin; refine wl_append rfl _ _ _ _ rfl _ _ rfl rfl ?_) | (at_make; refine wl_make rfl _ _ _ rfl _ _ rfl rfl ?_) | (at_mapUpdate; refine wl_mapUpdate rfl _ _ _ _ rfl _ _ _ rfl rfl rfl ?_) | (at_lookup; refine wl_lookup rfl _ _ _ _ rfl _ _ rfl rfl ?_) | (at_delete; refine wl_delete rfl _ _ _ _ rfl _ _ rfl rfl ?_) | (with_reducible refine wl_len rfl _ _ rfl _ rfl ?_) | (with_reducible refine wl_range rfl _ _ rfl _ rfl ?_) | (with_reducible refine wl_next rfl _ rfl _ rfl ?_) | (with_reducible refine wl_copy rfl _ _ _ _ rfl _ _ rfl rfl ?_) | (with_reducible refine wl_max rfl _ _ _ _ rfl _ _ rfl rfl ?_) | (with_reducible refine wl_min rfl _ _ _ _ rfl _ _ rfl rfl ?_))
    go_ret2
    exact ⟨rfl, hK2⟩
  | true =>
    obtain ⟨o1, o2, a1, a2, b1, b2, c1, c2, i1, i2⟩ := href rfl
    have q0 : w2.cell? ⟨w.heap.size, 0, none⟩ = some (.int .i64 op) := hB2.cell 0
    have q1 : w2.cell? ⟨w.heap.size, 1, none⟩ = some (.int .i64 a) := hB2.cell 1
    have q2 : w2.cell? ⟨w.heap.size, 2, none⟩ = some (.int .i64 b) := hB2.cell 2
    have q3 : w2.cell? ⟨w.heap.size, 3, none⟩ = some (.int .i64 c) := hB2.cell 3
    have q4 : w2.cell? ⟨w.heap.size, 4, none⟩ = some (.int .i64 imm) := hB2.cell 4
    clear href hB2
    go_wp2_with (first | (at_builtin; refine wl_append rfl _ _ _ _ rfl _ _ rfl rfl ?_) | (at_make; refine wl_make rfl _ _ _ rfl _ _ rfl rfl ?_) | (at_mapUpdate; refine wl_mapUpdate rfl _ _ _ _ rfl _ _ _ rfl rfl rfl ?_) | (at_lookup; refine wl_lookup rfl _ _ _ _ rfl _ _ rfl rfl ?_) | (at_delete; refine wl_delete rfl _ _ _ _ rfl _ _ rfl rfl ?_) | (with_reducible refine wl_len rfl _ _ rfl _ rfl ?_) | (with_reducible refine wl_range rfl _ _ rfl _ rfl ?_) | (with_reducible refine wl_next rfl _ rfl _ rfl ?_) | (with_reducible refine wl_copy rfl _ _ _ _ rfl _ _ rfl rfl ?_) | (with_reducible refine wl_max rfl _ _ _ _ rfl _ _ rfl rfl ?_) | (with_reducible refine wl_min rfl _ _ _ _ rfl _ _ rfl rfl ?_))
    all_goals
      go_ret2
      refine ⟨congrArg (fun x => Ending.returned (Value.tuple #[Value.int .u64 x, Value.int .i64 0])) ?_, hK2⟩
      unfold encM u32
      split <;> omega
end
end Go.Proofs.YtaoillfofiehpaaDoor
