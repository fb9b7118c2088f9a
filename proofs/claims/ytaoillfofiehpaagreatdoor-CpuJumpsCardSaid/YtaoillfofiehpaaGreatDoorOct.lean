/- The document's chapter 12: May, Encode, Decode. cpu: one, fault, reckon, jumps. octets: has, width, fits, Get, Set. No condition. -/
import Derived.Test.YtaoillfofiehpaaGreatDoorCpu8
import Derived.Test.YtaoillfofiehpaaGreatDoorBits
import Derived.Test.YtaoillfofiehpaaGreatDoorCpu1
import Derived.Test.YtaoillfofiehpaaGreatDoorVmS
import Derived.Test.YtaoillfofiehpaaGreatDoorProg
import Derived.Laws.MakeOwn
import Derived.Laws.OwnMore
set_option linter.unusedVariables false
set_option linter.unusedSimpArgs false
namespace Go.Proofs.YtaoillfofiehpaaGreatDoor
open Go.RowKit Go.Dm Go.Dm.Vm Go.Dm.Cp Go.Maps
section
variable {w : World}
theorem mayB_no {op a b c imm : Int} (h : mayF op a b c imm = false) : mayB op a b c imm = false := by unfold mayB; rw [h]; rfl
theorem mayB_yes {op a b c imm : Int} (h : mayF op a b c imm = true) : mayB op a b c imm = decide (-2147483648 ≤ imm ∧ imm ≤ 2147483647) := by unfold mayB; rw [h]; rfl
theorem hasM_le (op : Int) : hasM op ≤ 11 := by
  unfold hasM
  repeat' split
  all_goals decide
theorem half_mod (h k : Nat) : h / 2 ^ (k + 1) = h / 2 ^ k / 2 := by rw [Nat.pow_succ, Nat.div_div_eq_div_mul]
set_option maxRecDepth 100000 in
set_option maxHeartbeats 4000000 in
theorem r12may_any (op a b c imm : Int) : Calls Tryz.prog 16 #[.agg #[.int .i64 op, .int .i64 a, .int .i64 b, .int .i64 c, .int .i64 imm]] w fun e w' => e = .returned (.bool (mayB op a b c imm)) ∧ Keep No w w' := by
  have hwd := fun (W : World) => r12word_any (w := W) op
  go_enter Tryz.func16, Tryz.ntmps16
  go_wp2_with fail
  have hkW1 : Keep No w (w.alloc (.cells #[.int .i64 op, .int .i64 a, .int .i64 b, .int .i64 c, .int .i64 imm] 30)) := (Keep.refl _ _).alloc _
  have hBW1 : Blk (w.alloc (.cells #[.int .i64 op, .int .i64 a, .int .i64 b, .int .i64 c, .int .i64 imm] 30)) w.heap.size #[.int .i64 op, .int .i64 a, .int .i64 b, .int .i64 c, .int .i64 imm] 30 := Blk.new _ _ _
  have hzW1 : (w.alloc (.cells #[.int .i64 op, .int .i64 a, .int .i64 b, .int .i64 c, .int .i64 imm] 30)).heap.size = w.heap.size + 1 := World.size_alloc _ _
  generalize w.alloc (.cells #[.int .i64 op, .int .i64 a, .int .i64 b, .int .i64 c, .int .i64 imm] 30) = W1 at *
  have q0 : W1.cell? ⟨w.heap.size, 0, none⟩ = some (.int .i64 op) := hBW1.cell 0
  have hwc := hwd W1
  go_wp2_with fail
  refine hwc.mono ?_
  rintro e w2 ⟨⟨s, rfl, hs0, hs1⟩, hk2⟩
  clear hwc hwd
  cases hop : isOp op with
  | false =>
    have hff : mayB op a b c imm = false := mayB_no (by unfold mayF; rw [hop]; rfl)
    obtain rfl := hs0 hop
    have HFF := Lib.hid hff
    clear hs0 hs1 hff hop
    go_wp2_with fail
    go_ret
    exact ⟨by rw [HFF.out]; rfl, hkW1.trans' hk2⟩
  | true =>
    obtain ⟨c0, r0, hcr⟩ := hs1 hop
    have he := (show (⟨#[]⟩ : ByteArray).toList = [] from by rw [Lib.toList_data])
    have hop2 : 1 ≤ op ∧ op ≤ 41 := by
      unfold isOp at hop
      have := of_decide_eq_true hop
      exact ⟨this.1, this.2.1⟩
    have HOP := Lib.hid hop
    have hB2 := hBW1.keep hk2 fun h => h
    have q0 : w2.cell? ⟨w.heap.size, 0, none⟩ = some (.int .i64 op) := hB2.cell 0
    have q1 : w2.cell? ⟨w.heap.size, 1, none⟩ = some (.int .i64 a) := hB2.cell 1
    have q2 : w2.cell? ⟨w.heap.size, 2, none⟩ = some (.int .i64 b) := hB2.cell 2
    have q3 : w2.cell? ⟨w.heap.size, 3, none⟩ = some (.int .i64 c) := hB2.cell 3
    have q4 : w2.cell? ⟨w.heap.size, 4, none⟩ = some (.int .i64 imm) := hB2.cell 4
    have hK2 := hkW1.trans' hk2
    have hlt := hB2.lt
    generalize (⟨#[]⟩ : ByteArray) = es at *
    clear hs0 hs1 hkW1 hzW1 hk2 hBW1 hop
    go_wp2_with fail
    have hkW3 : Keep No w2 (w2.alloc (.cells #[.int .i64 a, .int .i64 b, .int .i64 c, .int .i64 imm] 2)) := (Keep.refl _ _).alloc _
    have hBW3 : Blk (w2.alloc (.cells #[.int .i64 a, .int .i64 b, .int .i64 c, .int .i64 imm] 2)) w2.heap.size #[.int .i64 a, .int .i64 b, .int .i64 c, .int .i64 imm] 2 := Blk.new _ _ _
    have hzW3 : (w2.alloc (.cells #[.int .i64 a, .int .i64 b, .int .i64 c, .int .i64 imm] 2)).heap.size = w2.heap.size + 1 := World.size_alloc _ _
    generalize w2.alloc (.cells #[.int .i64 a, .int .i64 b, .int .i64 c, .int .i64 imm] 2) = W3 at *
    have hK3 := hK2.trans' hkW3
    have hB3 := hB2.keep hkW3 fun h => h
    refine (r12has_any op hop2.1 hop2.2).mono ?_
    rintro e w3 ⟨rfl, rfl⟩
    have q4 : W3.cell? ⟨w.heap.size, 4, none⟩ = some (.int .i64 imm) := hB3.cell 4
    have r0 : W3.cell? ⟨w2.heap.size, 0, none⟩ = some (.int .i64 a) := hBW3.cell 0
    have r1 : W3.cell? ⟨w2.heap.size, 1, none⟩ = some (.int .i64 b) := hBW3.cell 1
    have r2 : W3.cell? ⟨w2.heap.size, 2, none⟩ = some (.int .i64 c) := hBW3.cell 2
    have r3 : W3.cell? ⟨w2.heap.size, 3, none⟩ = some (.int .i64 imm) := hBW3.cell 3
    clear q0 q1 q2 q3 hcr he hB2 hkW3 hBW3 hB3 hK2 hzW3 hlt
    obtain ⟨hm, hmE⟩ : ∃ h, hasM op = h := ⟨_, rfl⟩
    rw [hmE]
    have hml : hm ≤ 11 := by rw [← hmE]; exact hasM_le op
    have HME := Lib.hid hmE
    clear hmE
    go_wp2_with fail
    go_loopw [4, 5] (fun hv kv wr => ∃ k : Nat, kv = .int .i64 (k : Int) ∧ k ≤ 4 ∧ hv = .int .i64 ((hm / 2 ^ k : Nat) : Int) ∧ (∀ j, j < k → mayK op a b c imm j = true) ∧ wr = W3) (fun _ kv _ => 4 - (intOf kv).toNat)
    case atStart => exact ⟨0, rfl, by omega, by simp, (fun j hj => absurd hj (Nat.not_lt_zero _)), rfl⟩
    case round =>
      obtain ⟨k, rfl, hk4, rfl, hall, rfl⟩ := hrel
      have hmE := HME.out
      have HALL := Lib.hid hall
      clear hall
      have hkc : k = 0 ∨ k = 1 ∨ k = 2 ∨ k = 3 ∨ k = 4 := by omega
      rcases hkc with rfl | rfl | rfl | rfl | rfl
      · skip
        obtain ⟨hk2, hk2E⟩ : ∃ q, hm / 2 ^ 0 = q := ⟨_, rfl⟩
        have hk2l : hk2 ≤ 11 := by rw [← hk2E]; exact Nat.le_trans (Nat.div_le_self _ _) hml
        by_cases hb1 : hm / 2 ^ 0 % 2 = 1
        · have hb2 : ((hk2 : Int) % 2 == 0) = false := by rw [hk2E] at hb1; simp; omega
          rw [hk2E]
          by_cases hx1 : a < 0
          · have hd1 : decide (a < 0) = true := by simpa using hx1
            have hokk : mayK op a b c imm 0 = false := by simp only [mayK, fieldB]; simp; omega
            have hff := mayB_no (mayF_no (imm := imm) (b := b) (c := c) (a := a) (op := op) _ (by omega) hokk)
            have HFF := Lib.hid hff
            clear hff hmE
            go_wp2_with fail
            go_ret
            exact ⟨by rw [HFF.out]; rfl, hK3⟩
          · have hd1 : decide (a < 0) = false := by simpa using hx1
            by_cases hx2 : a > 31
            · have hd2 : decide (31 < a) = true := by simpa using hx2
              have hokk : mayK op a b c imm 0 = false := by simp only [mayK, fieldB]; simp; omega
              have hff := mayB_no (mayF_no (imm := imm) (b := b) (c := c) (a := a) (op := op) _ (by omega) hokk)
              have HFF := Lib.hid hff
              clear hff hmE
              go_wp2_with fail
              go_ret
              exact ⟨by rw [HFF.out]; rfl, hK3⟩
            · have hd2 : decide (31 < a) = false := by simpa using hx2
              have hokk : mayK op a b c imm 0 = true := by
                simp only [mayK, fieldB, hmE]
                simp only [Nat.reducePow, Nat.div_one] at hb1
                simp [hb1]
                omega
              have HOK := Lib.hid hokk
              clear hokk hmE
              go_wp2_with fail
              go_roundw
              case rel =>
                refine ⟨0 + 1, by go_num, by omega, ?_, fun j hj => ?_, (by first | exact trivial | rfl)⟩
                · rw [half_mod, hk2E]; go_num
                rcases Nat.lt_or_ge j 0 with h | h
                · exact HALL.out j h
                · obtain rfl : j = 0 := by omega
                  exact HOK.out
              case measure => simp [intOf]
        · have hb2 : ((hk2 : Int) % 2 == 0) = true := by rw [hk2E] at hb1; simp; omega
          rw [hk2E]
          by_cases hx : a = 0
          · have hx0 : (a != 0) = false := by simpa using hx
            have hd1 : decide (a < 0) = false := by simp; omega
            have hd2 : decide (31 < a) = false := by simp; omega
            have hokk : mayK op a b c imm 0 = true := by
              simp only [mayK, fieldB, immB, hmE]
              simp [hx]
            have HOK := Lib.hid hokk
            clear hokk hmE
            go_wp2_with fail
            go_roundw
            case rel =>
              refine ⟨0 + 1, by go_num, by omega, ?_, fun j hj => ?_, (by first | exact trivial | rfl)⟩
              · rw [half_mod, hk2E]; go_num
              rcases Nat.lt_or_ge j 0 with h | h
              · exact HALL.out j h
              · obtain rfl : j = 0 := by omega
                exact HOK.out
            case measure => simp [intOf]
          · have hx0 : (a != 0) = true := by simpa using hx
            have hokk : mayK op a b c imm 0 = false := by
              simp only [mayK, fieldB, immB, hmE]
              simp only [Nat.reducePow, Nat.div_one] at hb1
              first | (simp [hx, hb1]; done) | (simp [hx]; omega)
            have hff := mayB_no (mayF_no (imm := imm) (b := b) (c := c) (a := a) (op := op) _ (by omega) hokk)
            have HFF := Lib.hid hff
            clear hff hmE
            go_wp2_with fail
            go_ret
            exact ⟨by rw [HFF.out]; rfl, hK3⟩
      · skip
        obtain ⟨hk2, hk2E⟩ : ∃ q, hm / 2 ^ 1 = q := ⟨_, rfl⟩
        have hk2l : hk2 ≤ 11 := by rw [← hk2E]; exact Nat.le_trans (Nat.div_le_self _ _) hml
        by_cases hb1 : hm / 2 ^ 1 % 2 = 1
        · have hb2 : ((hk2 : Int) % 2 == 0) = false := by rw [hk2E] at hb1; simp; omega
          rw [hk2E]
          by_cases hx1 : b < 0
          · have hd1 : decide (b < 0) = true := by simpa using hx1
            have hokk : mayK op a b c imm 1 = false := by simp only [mayK, fieldB]; simp; omega
            have hff := mayB_no (mayF_no (imm := imm) (b := b) (c := c) (a := a) (op := op) _ (by omega) hokk)
            have HFF := Lib.hid hff
            clear hff hmE
            go_wp2_with fail
            go_ret
            exact ⟨by rw [HFF.out]; rfl, hK3⟩
          · have hd1 : decide (b < 0) = false := by simpa using hx1
            by_cases hx2 : b > 31
            · have hd2 : decide (31 < b) = true := by simpa using hx2
              have hokk : mayK op a b c imm 1 = false := by simp only [mayK, fieldB]; simp; omega
              have hff := mayB_no (mayF_no (imm := imm) (b := b) (c := c) (a := a) (op := op) _ (by omega) hokk)
              have HFF := Lib.hid hff
              clear hff hmE
              go_wp2_with fail
              go_ret
              exact ⟨by rw [HFF.out]; rfl, hK3⟩
            · have hd2 : decide (31 < b) = false := by simpa using hx2
              have hokk : mayK op a b c imm 1 = true := by
                simp only [mayK, fieldB, hmE]
                simp only [Nat.reducePow, Nat.div_one] at hb1
                simp [hb1]
                omega
              have HOK := Lib.hid hokk
              clear hokk hmE
              go_wp2_with fail
              go_roundw
              case rel =>
                refine ⟨1 + 1, by go_num, by omega, ?_, fun j hj => ?_, (by first | exact trivial | rfl)⟩
                · rw [half_mod, hk2E]; go_num
                rcases Nat.lt_or_ge j 1 with h | h
                · exact HALL.out j h
                · obtain rfl : j = 1 := by omega
                  exact HOK.out
              case measure => simp [intOf]
        · have hb2 : ((hk2 : Int) % 2 == 0) = true := by rw [hk2E] at hb1; simp; omega
          rw [hk2E]
          by_cases hx : b = 0
          · have hx0 : (b != 0) = false := by simpa using hx
            have hd1 : decide (b < 0) = false := by simp; omega
            have hd2 : decide (31 < b) = false := by simp; omega
            have hokk : mayK op a b c imm 1 = true := by
              simp only [mayK, fieldB, immB, hmE]
              simp [hx]
            have HOK := Lib.hid hokk
            clear hokk hmE
            go_wp2_with fail
            go_roundw
            case rel =>
              refine ⟨1 + 1, by go_num, by omega, ?_, fun j hj => ?_, (by first | exact trivial | rfl)⟩
              · rw [half_mod, hk2E]; go_num
              rcases Nat.lt_or_ge j 1 with h | h
              · exact HALL.out j h
              · obtain rfl : j = 1 := by omega
                exact HOK.out
            case measure => simp [intOf]
          · have hx0 : (b != 0) = true := by simpa using hx
            have hokk : mayK op a b c imm 1 = false := by
              simp only [mayK, fieldB, immB, hmE]
              simp only [Nat.reducePow, Nat.div_one] at hb1
              first | (simp [hx, hb1]; done) | (simp [hx]; omega)
            have hff := mayB_no (mayF_no (imm := imm) (b := b) (c := c) (a := a) (op := op) _ (by omega) hokk)
            have HFF := Lib.hid hff
            clear hff hmE
            go_wp2_with fail
            go_ret
            exact ⟨by rw [HFF.out]; rfl, hK3⟩
      · skip
        obtain ⟨hk2, hk2E⟩ : ∃ q, hm / 2 ^ 2 = q := ⟨_, rfl⟩
        have hk2l : hk2 ≤ 11 := by rw [← hk2E]; exact Nat.le_trans (Nat.div_le_self _ _) hml
        by_cases hb1 : hm / 2 ^ 2 % 2 = 1
        · have hb2 : ((hk2 : Int) % 2 == 0) = false := by rw [hk2E] at hb1; simp; omega
          rw [hk2E]
          by_cases hx1 : c < 0
          · have hd1 : decide (c < 0) = true := by simpa using hx1
            have hokk : mayK op a b c imm 2 = false := by simp only [mayK, fieldB]; simp; omega
            have hff := mayB_no (mayF_no (imm := imm) (b := b) (c := c) (a := a) (op := op) _ (by omega) hokk)
            have HFF := Lib.hid hff
            clear hff hmE
            go_wp2_with fail
            go_ret
            exact ⟨by rw [HFF.out]; rfl, hK3⟩
          · have hd1 : decide (c < 0) = false := by simpa using hx1
            by_cases hx2 : c > 31
            · have hd2 : decide (31 < c) = true := by simpa using hx2
              have hokk : mayK op a b c imm 2 = false := by simp only [mayK, fieldB]; simp; omega
              have hff := mayB_no (mayF_no (imm := imm) (b := b) (c := c) (a := a) (op := op) _ (by omega) hokk)
              have HFF := Lib.hid hff
              clear hff hmE
              go_wp2_with fail
              go_ret
              exact ⟨by rw [HFF.out]; rfl, hK3⟩
            · have hd2 : decide (31 < c) = false := by simpa using hx2
              have hokk : mayK op a b c imm 2 = true := by
                simp only [mayK, fieldB, hmE]
                simp only [Nat.reducePow, Nat.div_one] at hb1
                simp [hb1]
                omega
              have HOK := Lib.hid hokk
              clear hokk hmE
              go_wp2_with fail
              go_roundw
              case rel =>
                refine ⟨2 + 1, by go_num, by omega, ?_, fun j hj => ?_, (by first | exact trivial | rfl)⟩
                · rw [half_mod, hk2E]; go_num
                rcases Nat.lt_or_ge j 2 with h | h
                · exact HALL.out j h
                · obtain rfl : j = 2 := by omega
                  exact HOK.out
              case measure => simp [intOf]
        · have hb2 : ((hk2 : Int) % 2 == 0) = true := by rw [hk2E] at hb1; simp; omega
          rw [hk2E]
          by_cases hx : c = 0
          · have hx0 : (c != 0) = false := by simpa using hx
            have hd1 : decide (c < 0) = false := by simp; omega
            have hd2 : decide (31 < c) = false := by simp; omega
            have hokk : mayK op a b c imm 2 = true := by
              simp only [mayK, fieldB, immB, hmE]
              simp [hx]
            have HOK := Lib.hid hokk
            clear hokk hmE
            go_wp2_with fail
            go_roundw
            case rel =>
              refine ⟨2 + 1, by go_num, by omega, ?_, fun j hj => ?_, (by first | exact trivial | rfl)⟩
              · rw [half_mod, hk2E]; go_num
              rcases Nat.lt_or_ge j 2 with h | h
              · exact HALL.out j h
              · obtain rfl : j = 2 := by omega
                exact HOK.out
            case measure => simp [intOf]
          · have hx0 : (c != 0) = true := by simpa using hx
            have hokk : mayK op a b c imm 2 = false := by
              simp only [mayK, fieldB, immB, hmE]
              simp only [Nat.reducePow, Nat.div_one] at hb1
              first | (simp [hx, hb1]; done) | (simp [hx]; omega)
            have hff := mayB_no (mayF_no (imm := imm) (b := b) (c := c) (a := a) (op := op) _ (by omega) hokk)
            have HFF := Lib.hid hff
            clear hff hmE
            go_wp2_with fail
            go_ret
            exact ⟨by rw [HFF.out]; rfl, hK3⟩
      · skip
        obtain ⟨hk2, hk2E⟩ : ∃ q, hm / 2 ^ 3 = q := ⟨_, rfl⟩
        have hk2l : hk2 ≤ 11 := by rw [← hk2E]; exact Nat.le_trans (Nat.div_le_self _ _) hml
        by_cases hb1 : hm / 2 ^ 3 % 2 = 1
        · have hb2 : ((hk2 : Int) % 2 == 0) = false := by rw [hk2E] at hb1; simp; omega
          rw [hk2E]
          have hokk : mayK op a b c imm 3 = true := by
            simp only [mayK, immB, hmE]
            simp only [Nat.reducePow, Nat.div_one] at hb1
            simp [hb1]
          have HOK := Lib.hid hokk
          clear hokk hmE
          go_wp2_with fail
          go_roundw
          case rel =>
            refine ⟨3 + 1, by go_num, by omega, ?_, fun j hj => ?_, (by first | exact trivial | rfl)⟩
            · rw [half_mod, hk2E]; go_num
            rcases Nat.lt_or_ge j 3 with h | h
            · exact HALL.out j h
            · obtain rfl : j = 3 := by omega
              exact HOK.out
          case measure => simp [intOf]
        · have hb2 : ((hk2 : Int) % 2 == 0) = true := by rw [hk2E] at hb1; simp; omega
          rw [hk2E]
          by_cases hx : imm = 0
          · have hx0 : (imm != 0) = false := by simpa using hx
            have hd1 : decide (imm < 0) = false := by simp; omega
            have hd2 : decide (31 < imm) = false := by simp; omega
            have hokk : mayK op a b c imm 3 = true := by
              simp only [mayK, fieldB, immB, hmE]
              simp [hx]
            have HOK := Lib.hid hokk
            clear hokk hmE
            go_wp2_with fail
            go_roundw
            case rel =>
              refine ⟨3 + 1, by go_num, by omega, ?_, fun j hj => ?_, (by first | exact trivial | rfl)⟩
              · rw [half_mod, hk2E]; go_num
              rcases Nat.lt_or_ge j 3 with h | h
              · exact HALL.out j h
              · obtain rfl : j = 3 := by omega
                exact HOK.out
            case measure => simp [intOf]
          · have hx0 : (imm != 0) = true := by simpa using hx
            have hokk : mayK op a b c imm 3 = false := by
              simp only [mayK, fieldB, immB, hmE]
              simp only [Nat.reducePow, Nat.div_one] at hb1
              first | (simp [hx, hb1]; done) | (simp [hx]; omega)
            have hff := mayB_no (mayF_no (imm := imm) (b := b) (c := c) (a := a) (op := op) _ (by omega) hokk)
            have HFF := Lib.hid hff
            clear hff hmE
            go_wp2_with fail
            go_ret
            exact ⟨by rw [HFF.out]; rfl, hK3⟩
      · have hyes := mayB_yes (mayF_yes HOP.out HALL.out)
        have HY := Lib.hid hyes
        clear hyes hmE
        by_cases h1 : -2147483648 ≤ imm
        · by_cases h2 : imm ≤ 2147483647
          · have hd1 : decide (-2147483648 ≤ imm) = true := by simpa using h1
            have hd2 : decide (imm ≤ 2147483647) = true := by simpa using h2
            have HD := Lib.hid (show decide (-2147483648 ≤ imm ∧ imm ≤ 2147483647) = true from decide_eq_true ⟨h1, h2⟩)
            go_wp2_with fail
            go_ret
            exact ⟨by rw [HY.out, HD.out]; rfl, hK3⟩
          · have hd1 : decide (-2147483648 ≤ imm) = true := by simpa using h1
            have hd2 : decide (imm ≤ 2147483647) = false := by simpa using h2
            have HD := Lib.hid (show decide (-2147483648 ≤ imm ∧ imm ≤ 2147483647) = false from decide_eq_false fun h => h2 h.2)
            go_wp2_with fail
            go_ret
            exact ⟨by rw [HY.out, HD.out]; rfl, hK3⟩
        · have hd1 : decide (-2147483648 ≤ imm) = false := by simpa using h1
          have HD := Lib.hid (show decide (-2147483648 ≤ imm ∧ imm ≤ 2147483647) = false from decide_eq_false fun h => h1 h.1)
          go_wp2_with fail
          go_ret
          exact ⟨by rw [HY.out, HD.out]; rfl, hK3⟩
theorem enc_ref {op a b c imm : Int} (h : mayB op a b c imm = true) : 1 ≤ op ∧ op ≤ 41 ∧ 0 ≤ a ∧ a ≤ 31 ∧ 0 ≤ b ∧ b ≤ 31 ∧ 0 ≤ c ∧ c ≤ 31 ∧ -2147483648 ≤ imm ∧ imm ≤ 2147483647 := by
  unfold mayB mayF at h
  simp only [Bool.and_eq_true] at h
  obtain ⟨⟨⟨⟨⟨h0, h1⟩, h2⟩, h3⟩, _⟩, h5⟩ := h
  unfold isOp at h0
  unfold fieldB at h1 h2 h3
  simp only [Bool.and_eq_true, decide_eq_true_eq] at h0 h1 h2 h3 h5
  omega
set_option maxRecDepth 100000 in
set_option maxHeartbeats 4000000 in
theorem r12enc_any (op a b c imm : Int) : Calls Tryz.prog 9 #[.agg #[.int .i64 op, .int .i64 a, .int .i64 b, .int .i64 c, .int .i64 imm]] w fun e w' => e = .returned (.tuple #[.int .u64 ((if mayB op a b c imm then encM op a b c imm else 0 : Nat) : Int), .int .i64 ((if mayB op a b c imm then 0 else 42 : Nat) : Int)]) ∧ Keep No w w' := by
  have hmy := fun (W : World) => r12may_any (w := W) op a b c imm
  have href := enc_ref (op := op) (a := a) (b := b) (c := c) (imm := imm)
  generalize mayB op a b c imm = mb at *
  go_enter Tryz.func9, Tryz.ntmps9
  go_wp2_with fail
  have hkW1 : Keep No w (w.alloc (.cells #[.int .i64 op, .int .i64 a, .int .i64 b, .int .i64 c, .int .i64 imm] 30)) := (Keep.refl _ _).alloc _
  have hBW1 : Blk (w.alloc (.cells #[.int .i64 op, .int .i64 a, .int .i64 b, .int .i64 c, .int .i64 imm] 30)) w.heap.size #[.int .i64 op, .int .i64 a, .int .i64 b, .int .i64 c, .int .i64 imm] 30 := Blk.new _ _ _
  have hzW1 : (w.alloc (.cells #[.int .i64 op, .int .i64 a, .int .i64 b, .int .i64 c, .int .i64 imm] 30)).heap.size = w.heap.size + 1 := World.size_alloc _ _
  generalize w.alloc (.cells #[.int .i64 op, .int .i64 a, .int .i64 b, .int .i64 c, .int .i64 imm] 30) = W1 at *
  have q0 : W1.cell? ⟨w.heap.size, 0, none⟩ = some (.int .i64 op) := hBW1.cell 0
  have q1 : W1.cell? ⟨w.heap.size, 1, none⟩ = some (.int .i64 a) := hBW1.cell 1
  have q2 : W1.cell? ⟨w.heap.size, 2, none⟩ = some (.int .i64 b) := hBW1.cell 2
  have q3 : W1.cell? ⟨w.heap.size, 3, none⟩ = some (.int .i64 c) := hBW1.cell 3
  have q4 : W1.cell? ⟨w.heap.size, 4, none⟩ = some (.int .i64 imm) := hBW1.cell 4
  have hmc := hmy W1
  go_wp2_with fail
  refine hmc.mono ?_
  rintro e w2 ⟨rfl, hk2⟩
  have hB2 := hBW1.keep hk2 fun h => h
  have hK2 := hkW1.trans' hk2
  clear hmc hmy q0 q1 q2 q3 q4 hkW1 hzW1 hBW1 hk2
  cases mb with
  | false =>
    clear href
    go_wp2_with fail
    go_ret2
    exact ⟨rfl, hK2⟩
  | true =>
    obtain ⟨o1, o2, a1, a2, b1, b2, c1, c2, i1, i2⟩ := href rfl
    have q0 : w2.cell? ⟨w.heap.size, 0, none⟩ = some (.int .i64 op) := hB2.cell 0
    have q1 : w2.cell? ⟨w.heap.size, 1, none⟩ = some (.int .i64 a) := hB2.cell 1
    have q2 : w2.cell? ⟨w.heap.size, 2, none⟩ = some (.int .i64 b) := hB2.cell 2
    have q3 : w2.cell? ⟨w.heap.size, 3, none⟩ = some (.int .i64 c) := hB2.cell 3
    have q4 : w2.cell? ⟨w.heap.size, 4, none⟩ = some (.int .i64 imm) := hB2.cell 4
    clear href hB2
    go_wp2_with fail
    all_goals
      go_ret2
      refine ⟨congrArg (fun x => Ending.returned (Value.tuple #[Value.int .u64 x, Value.int .i64 0])) ?_, hK2⟩
      unfold encM u32
      split <;> omega
end
end Go.Proofs.YtaoillfofiehpaaGreatDoor
namespace Go.Proofs.YtaoillfofiehpaaGreatDoor
open Go.RowKit Go.Dm Go.Dm.Vm Go.Dm.Cp Go.Maps
section
variable {w : World}
theorem cpuone1_any (b : Bool) (w : World) : Calls Tryz.prog 62 #[.bool b] w fun e w' => e = .returned (.int .u64 ((if b then 1 else 0 : Nat) : Int)) ∧ w = w' := by
  cases b with
  | true =>
    go_enter Tryz.func62, Tryz.ntmps62
    go_wp2_with fail
    go_ret
    exact ⟨rfl, rfl⟩
  | false =>
    go_enter Tryz.func62, Tryz.ntmps62
    go_wp2_with fail
    go_ret
    exact ⟨rfl, rfl⟩
def encO3 (o : Out) : Value := .agg #[.int .i64 (o.kind : Int), .int .i64 (o.err : Int), .int .u64 (o.at_ : Int)]
set_option maxRecDepth 100000 in
theorem cpufault_any (er at_ : Nat) (w : World) : Calls Tryz.prog 28 #[.int .i64 (er : Int), .int .u64 (at_ : Int)] w fun e w' => e = .returned (encO3 ⟨3, er, at_⟩) ∧ Keep No w w' := by
  go_enter Tryz.func28, Tryz.ntmps28
  go_wp2_with fail
  have hkW : Keep No w (w.alloc (.cells #[.int .i64 3, .int .i64 (er : Int), .int .u64 (at_ : Int)] 46)) := (Keep.refl _ _).alloc _
  have hBW : Blk (w.alloc (.cells #[.int .i64 3, .int .i64 (er : Int), .int .u64 (at_ : Int)] 46)) w.heap.size #[.int .i64 3, .int .i64 (er : Int), .int .u64 (at_ : Int)] 46 := Blk.new _ _ _
  have hzW : (w.alloc (.cells #[.int .i64 3, .int .i64 (er : Int), .int .u64 (at_ : Int)] 46)).heap.size = w.heap.size + 1 := World.size_alloc _ _
  generalize w.alloc (.cells #[.int .i64 3, .int .i64 (er : Int), .int .u64 (at_ : Int)] 46) = W at *
  refine ret_blk rfl rfl hBW Tryz.underlying46 rfl (by kernel_rfl) rfl ?_
  exact ⟨rfl, hkW⟩
theorem pow_cast (k : Nat) : ((2 ^ k : Nat) : Int) = 2 ^ k := by rw [Int.natCast_pow]; rfl
theorem of_3 (b c : Nat) : IntKind.u64.wrap ((b : Int) + c) = (ofM 3 b c : Nat) := by
  rw [IntKind.wrap_u64]
  rw [of3]
  omega
theorem of_4 (b c : Nat) (hb : b < 18446744073709551616) (hc : c < 18446744073709551616) : IntKind.u64.wrap ((b : Int) - c) = (ofM 4 b c : Nat) := by
  rw [IntKind.wrap_u64]
  rw [of4]
  unfold subM
  split <;> omega
theorem of_5 (b c : Nat) : IntKind.u64.wrap ((b : Int) * c) = (ofM 5 b c : Nat) := by
  rw [IntKind.wrap_u64, ← Int.natCast_mul]
  rw [of5]
  generalize b * c = p
  omega
theorem of_11 (b c : Nat) : IntKind.u64.wrap ((b : Int) * 2 ^ (c % 64)) = (ofM 11 b c : Nat) := by
  rw [IntKind.wrap_u64, ← pow_cast, ← Int.natCast_mul]
  rw [of11]
  generalize b * 2 ^ (c % 64) = p
  omega
theorem of_12 (b c : Nat) : (b : Int) / 2 ^ (c % 64) = (ofM 12 b c : Nat) := by
  rw [← pow_cast]
  rw [of12]
  rw [Int.natCast_ediv]
theorem of_8 (b c : Nat) (hb : b < 18446744073709551616) (hc : c < 18446744073709551616) : bits .and .u64 (b : Int) (c : Int) = (ofM 8 b c : Nat) := by
  rw [of8]; exact u64_and_nat b c hb hc
theorem of_9 (b c : Nat) (hb : b < 18446744073709551616) (hc : c < 18446744073709551616) : bits .or .u64 (b : Int) (c : Int) = (ofM 9 b c : Nat) := by
  rw [of9]; exact u64_or_nat b c hb hc
theorem of_10 (b c : Nat) (hb : b < 18446744073709551616) (hc : c < 18446744073709551616) : bits .xor .u64 (b : Int) (c : Int) = (ofM 10 b c : Nat) := by
  rw [of10]; exact u64_xor_nat b c hb hc
theorem wrap64_sgn (b : Nat) (hb : b < 18446744073709551616) : wrap64 (b : Int) = if b < 9223372036854775808 then (b : Int) else (b : Int) - 18446744073709551616 := by
  unfold wrap64
  split <;> omega
theorem of_13 (b c : Nat) (hb : b < 18446744073709551616) : IntKind.u64.wrap (wrap64 (b : Int) / 2 ^ (c % 64)) = (ofM 13 b c : Nat) := by
  rw [IntKind.wrap_u64, wrap64_sgn b hb, ← pow_cast]
  rw [of13]
  unfold sarM
  by_cases h : b / 9223372036854775808 = 1
  · rw [if_pos h, if_neg (by omega)]
    exact sar_eq b (c % 64) hb h
  · rw [if_neg h, if_pos (by omega)]
    have h1 : b / 2 ^ (c % 64) ≤ b := Nat.div_le_self _ _
    rw [show (b : Int) / ((2 ^ (c % 64) : Nat) : Int) = ((b / 2 ^ (c % 64) : Nat) : Int) from rfl]
    generalize b / 2 ^ (c % 64) = q at *
    omega
theorem of_14 (b c : Nat) (hb : b < 18446744073709551616) (hc : c < 18446744073709551616) : decide (wrap64 (b : Int) < wrap64 (c : Int)) = belowM b c := by
  rw [below_eq b c hb hc, wrap64_sgn b hb, wrap64_sgn c hc]
set_option maxRecDepth 100000 in
set_option maxHeartbeats 8000000 in
theorem cpureckon_any (op b c : Nat) (ho : 3 ≤ op ∧ op ≤ 15) (hb : b < 18446744073709551616) (hc : c < 18446744073709551616) (hz : ¬ ((op = 6 ∨ op = 7) ∧ c = 0)) :
    Calls Tryz.prog 47 #[.int .i64 (op : Int), .int .u64 (b : Int), .int .u64 (c : Int)] w fun e w' => e = .returned (.tuple #[.int .u64 ((ofM op b c : Nat) : Int), .bool true]) ∧ w = w' := by
  have e63 : bits .and .u64 (c : Int) 63 = ((c % 64 : Nat) : Int) := by
    have h := u64_and_nat c 63 hc (by decide)
    rw [nat_mask6] at h
    exact h
  have hk64 : c % 64 < 64 := Nat.mod_lt _ (by decide)
  have hop : op = 3 ∨ op = 4 ∨ op = 5 ∨ op = 6 ∨ op = 7 ∨ op = 8 ∨ op = 9 ∨ op = 10 ∨ op = 11 ∨ op = 12 ∨ op = 13 ∨ op = 14 ∨ op = 15 := by omega
  rcases hop with rfl | rfl | rfl | rfl | rfl | rfl | rfl | rfl | rfl | rfl | rfl | rfl | rfl
  · have hres := of_3 b c
    generalize ofM 3 b c = X at *
    have HR := Lib.hid hres
    clear hres
    go_enter Tryz.func47, Tryz.ntmps47
    go_wp2_with fail
    go_ret2
    have hres := HR.out
    exact ⟨congrArg (fun x => Ending.returned (.tuple #[.int .u64 x, .bool true])) hres, rfl⟩
  · have hres := of_4 b c hb hc
    generalize ofM 4 b c = X at *
    go_enter Tryz.func47, Tryz.ntmps47
    go_wp2_with fail
    go_ret2
    exact ⟨rfl, rfl⟩
  · have hres := of_5 b c
    generalize ofM 5 b c = X at *
    have HR := Lib.hid hres
    clear hres
    go_enter Tryz.func47, Tryz.ntmps47
    go_wp2_with fail
    go_ret2
    have hres := HR.out
    exact ⟨congrArg (fun x => Ending.returned (.tuple #[.int .u64 x, .bool true])) hres, rfl⟩
  · have hcz : c ≠ 0 := fun h => hz ⟨.inl rfl, h⟩
    have hcb : ((c : Int) == 0) = false := by simp; omega
    have hdv : (b : Int).tdiv (c : Int) = ((ofM 6 b c : Nat) : Int) := by rw [Int.tdiv_eq_ediv_of_nonneg (by omega)]; rw [of6, Int.natCast_ediv]
    have hle : ofM 6 b c ≤ b := by rw [of6]; exact Nat.div_le_self _ _
    generalize ofM 6 b c = X at *
    go_enter Tryz.func47, Tryz.ntmps47
    go_wp2_with fail
    go_ret2
    exact ⟨rfl, rfl⟩
  · have hcz : c ≠ 0 := fun h => hz ⟨.inr rfl, h⟩
    have hcb : ((c : Int) == 0) = false := by simp; omega
    have hdv : (b : Int).tmod (c : Int) = ((ofM 7 b c : Nat) : Int) := by rw [Int.tmod_eq_emod_of_nonneg (by omega)]; rw [of7, Int.natCast_emod]
    have hle : ofM 7 b c ≤ b := by rw [of7]; exact Nat.mod_le _ _
    generalize ofM 7 b c = X at *
    go_enter Tryz.func47, Tryz.ntmps47
    go_wp2_with fail
    go_ret2
    exact ⟨rfl, rfl⟩
  · have hres := of_8 b c hb hc
    generalize ofM 8 b c = X at *
    go_enter Tryz.func47, Tryz.ntmps47
    go_wp2_with fail
    go_ret2
    exact ⟨rfl, rfl⟩
  · have hres := of_9 b c hb hc
    generalize ofM 9 b c = X at *
    go_enter Tryz.func47, Tryz.ntmps47
    go_wp2_with fail
    go_ret2
    exact ⟨rfl, rfl⟩
  · have hres := of_10 b c hb hc
    generalize ofM 10 b c = X at *
    go_enter Tryz.func47, Tryz.ntmps47
    go_wp2_with fail
    go_ret2
    exact ⟨rfl, rfl⟩
  · have hres := of_11 b c
    generalize ofM 11 b c = X at *
    have HR := Lib.hid hres
    clear hres
    go_enter Tryz.func47, Tryz.ntmps47
    go_wp2_with fail
    go_ret2
    have hres := HR.out
    exact ⟨congrArg (fun x => Ending.returned (.tuple #[.int .u64 x, .bool true])) hres, rfl⟩
  · have hres := of_12 b c
    generalize ofM 12 b c = X at *
    have HR := Lib.hid hres
    clear hres
    go_enter Tryz.func47, Tryz.ntmps47
    go_wp2_with fail
    go_ret2
    have hres := HR.out
    exact ⟨congrArg (fun x => Ending.returned (.tuple #[.int .u64 x, .bool true])) hres, rfl⟩
  · have hres := of_13 b c hb
    generalize ofM 13 b c = X at *
    go_enter Tryz.func47, Tryz.ntmps47
    go_wp2_with fail
    go_ret2
    exact ⟨rfl, rfl⟩
  · have hbl := of_14 b c hb hc
    have hX : ofM 14 b c = if belowM b c then 1 else 0 := of14 b c
    have HX := Lib.hid hX
    clear hX
    generalize ofM 14 b c = X at *
    generalize belowM b c = bl at *
    go_enter Tryz.func47, Tryz.ntmps47
    go_wp2_with fail
    refine (cpuone1_any _ _).mono ?_
    rintro e w1 ⟨rfl, rfl⟩
    cases bl with
    | true =>
      go_wp2_with fail
      go_ret2
      rw [HX.out]
      exact ⟨rfl, rfl⟩
    | false =>
      go_wp2_with fail
      go_ret2
      rw [HX.out]
      exact ⟨rfl, rfl⟩
  · have hX : ofM 15 b c = if b < c then 1 else 0 := of15 b c
    have HX := Lib.hid hX
    clear hX
    generalize ofM 15 b c = X at *
    by_cases hlt : b < c
    · rw [if_pos hlt] at HX
      go_enter Tryz.func47, Tryz.ntmps47
      go_wp2_with fail
      refine (cpuone1_any _ _).mono ?_
      rintro e w1 ⟨rfl, rfl⟩
      go_wp2_with fail
      go_ret2
      rw [HX.out]
      exact ⟨rfl, rfl⟩
    · rw [if_neg hlt] at HX
      go_enter Tryz.func47, Tryz.ntmps47
      go_wp2_with fail
      refine (cpuone1_any _ _).mono ?_
      rintro e w1 ⟨rfl, rfl⟩
      go_wp2_with fail
      go_ret2
      rw [HX.out]
      exact ⟨rfl, rfl⟩
set_option maxRecDepth 100000 in
theorem cpureckon_zero (op b : Nat) (ho : op = 6 ∨ op = 7) :
    Calls Tryz.prog 47 #[.int .i64 (op : Int), .int .u64 (b : Int), .int .u64 0] w fun e w' => e = .returned (.tuple #[.int .u64 0, .bool false]) ∧ w = w' := by
  rcases ho with rfl | rfl
  · go_enter Tryz.func47, Tryz.ntmps47
    go_wp2_with fail
    go_ret2
    exact ⟨rfl, rfl⟩
  · go_enter Tryz.func47, Tryz.ntmps47
    go_wp2_with fail
    go_ret2
    exact ⟨rfl, rfl⟩
set_option maxRecDepth 100000 in
theorem cpujmp_any (op a b : Nat) (ho : 30 ≤ op ∧ op ≤ 33) (ha : a < 18446744073709551616) (hb : b < 18446744073709551616) :
    Calls Tryz.prog 49 #[.int .i64 (op : Int), .int .u64 (a : Int), .int .u64 (b : Int)] w fun e w' => e = .returned (.bool (jumpsM op a b)) ∧ w = w' := by
  have hop : op = 30 ∨ op = 31 ∨ op = 32 ∨ op = 33 := by omega
  have hbl := of_14 a b ha hb
  have heq : ((a : Int) == (b : Int)) = (a == b) := by
    rw [Bool.eq_iff_iff, beq_iff_eq, beq_iff_eq]; omega
  rcases hop with rfl | rfl | rfl | rfl
  · show Calls _ _ _ _ fun e w' => e = .returned (.bool (a == b)) ∧ w = w'
    generalize (a == b) = r at *
    go_enter Tryz.func49, Tryz.ntmps49
    go_wp2_with fail
    go_ret
    exact ⟨rfl, rfl⟩
  · show Calls _ _ _ _ fun e w' => e = .returned (.bool (!(a == b))) ∧ w = w'
    have hne : ((a : Int) != (b : Int)) = !(a == b) := by rw [bne, heq]
    generalize (a == b) = r at *
    go_enter Tryz.func49, Tryz.ntmps49
    go_wp2_with fail
    go_ret
    exact ⟨rfl, rfl⟩
  · show Calls _ _ _ _ fun e w' => e = .returned (.bool (belowM a b)) ∧ w = w'
    generalize belowM a b = r at *
    go_enter Tryz.func49, Tryz.ntmps49
    go_wp2_with fail
    go_ret
    exact ⟨rfl, rfl⟩
  · show Calls _ _ _ _ fun e w' => e = .returned (.bool (decide (a < b))) ∧ w = w'
    go_enter Tryz.func49, Tryz.ntmps49
    go_wp2_with fail
    go_ret
    exact ⟨rfl, rfl⟩
end
end Go.Proofs.YtaoillfofiehpaaGreatDoor
namespace Go.Proofs.YtaoillfofiehpaaGreatDoor
open Go.RowKit Go.Dm Go.Dm.Oc

theorem o_info : (Tryz.prog.info? 5).map (fun i => (i.zero, i.size, i.bytes)) = some (some (.int .u8 0), 1, 1) := by kernel_rfl
section
variable {A : Nat → Prop} {w : World}
theorem owidth_any (n : Int) (w : World) : Calls Tryz.prog 73 #[.int .i64 n] w fun e w' => e = .returned (.bool (widthB n)) ∧ w = w' := by
  go_enter Tryz.func73, Tryz.ntmps73
  go_wp2_with fail
  all_goals
    go_ret
    refine ⟨congrArg (fun b => Ending.returned (Value.bool b)) ?_, rfl⟩
    rw [Bool.eq_iff_iff]
    simp only [widthB, decide_eq_true_eq, true_iff, Bool.or_eq_true, beq_iff_eq]
    omega
theorem ohas_any (many at_ size : Nat) (hm : many < 9223372036854775808) (ha : at_ < 18446744073709551616) (hs : size < 18446744073709551616) (w : World) :
    Calls Tryz.prog 74 #[.int .i64 (many : Int), .int .u64 (at_ : Int), .int .u64 (size : Int)] w fun e w' => e = .returned (.bool (hasB many at_ size)) ∧ w = w' := by
  go_enter Tryz.func74, Tryz.ntmps74
  go_wp2_with fail
  all_goals
    go_ret
    refine ⟨congrArg (fun b => Ending.returned (Value.bool b)) ?_, rfl⟩
    rw [Bool.eq_iff_iff]
    simp only [hasB, Bool.and_eq_true, decide_eq_true_eq, Bool.false_eq_true, false_iff]
    omega
theorem ofits_any {v : Value} (b : List UInt8) (at_ : Nat) (n : Int) (hb : Bts A w v b) (hl : b.length ≤ 1099511627776) (ha : at_ < 18446744073709551616) (h0 : -9223372036854775808 ≤ n) (h1 : n < 9223372036854775808) :
    Calls Tryz.prog 60 #[v, .int .u64 (at_ : Int), .int .i64 n] w fun e w' => e = .returned (.int .i64 (fitsE b.length at_ n : Nat)) ∧ w = w' := by
  obtain ⟨a, c, rfl, hc, hc2⟩ := hb.shape
  have hd : fitsE b.length at_ n = if widthB n then if hasB b.length at_ n.toNat then 0 else 10 else 1 := rfl
  have HD := Lib.hid hd
  clear hd
  go_enter Tryz.func60, Tryz.ntmps60
  go_wp2_with fail
  refine (owidth_any n _).mono ?_
  rintro e x ⟨rfl, rfl⟩
  cases hw : widthB n with
  | false =>
    have HE := Lib.hid (show fitsE b.length at_ n = 1 by rw [HD.out, hw]; rfl)
    clear HD
    go_wp2_with fail
    go_ret
    rw [HE.out]
    exact ⟨rfl, rfl⟩
  | true =>
    have hn : n = (n.toNat : Int) := by simp only [widthB, decide_eq_true_eq] at hw; omega
    have hn8 : n.toNat ≤ 8 := by simp only [widthB, decide_eq_true_eq] at hw; omega
    have HE := Lib.hid (show fitsE b.length at_ n = if hasB b.length at_ n.toNat then 0 else 10 by rw [HD.out, hw]; rfl)
    clear HD hw
    generalize n.toNat = k at *
    subst hn
    go_wp2_with fail
    refine (ohas_any b.length at_ k (by omega) ha (by omega) _).mono ?_
    rintro e x ⟨rfl, rfl⟩
    cases hh : hasB b.length at_ k with
    | false =>
      have HE2 := Lib.hid (show fitsE b.length at_ (k : Int) = 10 by rw [HE.out, hh]; rfl)
      clear HE
      go_wp2_with fail
      go_ret
      rw [HE2.out]
      exact ⟨rfl, rfl⟩
    | true =>
      have HE2 := Lib.hid (show fitsE b.length at_ (k : Int) = 0 by rw [HE.out, hh]; rfl)
      clear HE
      go_wp2_with fail
      go_ret
      rw [HE2.out]
      exact ⟨rfl, rfl⟩
set_option maxRecDepth 100000 in
set_option maxHeartbeats 2000000 in
theorem oget_any {v : Value} (b : List UInt8) (at_ : Nat) (n : Int) (hb : Bts A w v b) (hl : b.length ≤ 1099511627776) (ha : at_ < 18446744073709551616) (h0 : -9223372036854775808 ≤ n) (h1 : n < 9223372036854775808) :
    Calls Tryz.prog 45 #[v, .int .u64 (at_ : Int), .int .i64 n] w fun e w' => e = .returned (.tuple #[.int .u64 (getX b at_ n : Nat), .int .i64 (fitsE b.length at_ n : Nat)]) ∧ w = w' := by
  have hfit := ofits_any b at_ n hb hl ha h0 h1
  obtain ⟨a, c, rfl, hc, hc2⟩ := hb.shape
  obtain ⟨X, hX⟩ : ∃ X, getX b at_ n = X := ⟨_, rfl⟩
  have hx : getX b at_ n = if fitsE b.length at_ n = 0 then leN ((b.drop at_).take n.toNat) else 0 := rfl
  have hparts := @fits_parts b.length at_ n
  rw [hX] at hx ⊢
  generalize fitsE b.length at_ n = er at *
  have HX := Lib.hid hx
  clear hx hX
  go_enter Tryz.func45, Tryz.ntmps45
  go_wp2_with fail
  refine hfit.mono ?_
  rintro e x ⟨rfl, rfl⟩
  clear hfit
  by_cases hf : er = 0
  · subst hf
    obtain ⟨hn, hat, hsz⟩ := hparts rfl
    have HE := Lib.hid (show X = leN ((b.drop at_).take n.toNat) by rw [HX.out, if_pos rfl])
    clear HX hparts
    have hnn : n = (n.toNat : Int) := by omega
    have hn8 : n.toNat ≤ 8 := by omega
    have hn1 : 1 ≤ n.toNat := by omega
    generalize n.toNat = k at *
    subst hnn
    clear hn
    go_wp2_with fail
    go_loopw [9, 19] (fun xv iv wr => ∃ i : Nat, xv = .int .u64 (leN ((b.drop at_).take i) : Nat) ∧ iv = .int .i64 i ∧ i ≤ k ∧ wr = w) (fun _ iv _ => k - (intOf iv).toNat)
    case atStart => exact ⟨0, rfl, rfl, Nat.zero_le _, rfl⟩
    case round =>
      obtain ⟨i, rfl, rfl, hi, rfl⟩ := hrel
      rcases Nat.lt_or_ge i k with hlt | hge
      · obtain ⟨g0, off, cap, e, hg0, hgl, _, _, hcell⟩ := hb.at (by omega)
        cases e
        have hin : at_ + i < b.length := by omega
        have qb : wr.cell? ⟨g0, off + (at_ + i), none⟩ = some (bv b[at_ + i]) := hcell (at_ + i) _ (by rw [List.getElem?_map, List.getElem?_eq_getElem hin]; rfl)
        have htk : (b.drop at_).take (i + 1) = (b.drop at_).take i ++ [b[at_ + i]] := by
          rw [List.take_succ_eq_append_getElem (by rw [List.length_drop]; omega), List.getElem_drop]
        have hlen : ((b.drop at_).take i).length = i := by rw [List.length_take, List.length_drop]; omega
        have hnx : leN ((b.drop at_).take (i + 1)) = leN ((b.drop at_).take i) + 2 ^ (8 * i) * b[at_ + i].toNat := by rw [htk, leN_snoc, hlen, pow256]
        have hlt8 : leN ((b.drop at_).take i) < 2 ^ (8 * i) := by
          have := leN_lt ((b.drop at_).take i)
          rw [hlen, pow256] at this
          exact this
        have hbb := b[at_ + i].toNat_lt
        generalize b[at_ + i] = y at *
        generalize leN ((b.drop at_).take i) = x at *
        have hor := or_top x y.toNat (8 * i) hlt8
        have hp64 : y.toNat * 2 ^ (8 * i) < 18446744073709551616 := by
          have h1 : y.toNat * 2 ^ (8 * i) < 256 * 2 ^ (8 * i) := Nat.mul_lt_mul_of_pos_right hbb (Nat.two_pow_pos _)
          have h2 : 256 * 2 ^ (8 * i) = 2 ^ (8 * (i + 1)) := by rw [show (256 : Nat) = 2 ^ 8 by rfl, ← Nat.pow_add]; congr 1; omega
          have h3 : 2 ^ (8 * (i + 1)) ≤ 2 ^ 64 := Nat.pow_le_pow_right (by decide) (by omega)
          omega
        have hx64 : x < 18446744073709551616 := by
          have h3 : 2 ^ (8 * i) ≤ 2 ^ 64 := Nat.pow_le_pow_right (by decide) (by omega)
          omega
        have hwr : IntKind.u64.wrap ((y.toNat : Int) * 2 ^ (8 * i)) = ((y.toNat * 2 ^ (8 * i) : Nat) : Int) := by
          rw [show ((y.toNat : Int) * 2 ^ (8 * i)) = ((y.toNat * 2 ^ (8 * i) : Nat) : Int) by push_cast; rfl, IntKind.wrap_u64]
          omega
        have hbor := u64_or_nat x (y.toNat * 2 ^ (8 * i)) hx64 hp64
        rw [hor, ← hnx, ← hwr] at hbor
        have HB := Lib.hid hbor
        have hltz : (i : Int) < (k : Int) := by omega
        have hsum : (at_ : Int) + (i : Int) = ((at_ + i : Nat) : Int) := by omega
        have hinz : ((at_ + i : Nat) : Int) < (b.length : Int) := by omega
        have hatz : (at_ : Int) < 9223372036854775808 := by omega
        have hi8 : (i : Int) ≤ 8 := by omega
        unfold bv at qb
        clear hor hnx htk hlt8 hcell HE hwr hbor hp64
        obtain ⟨j, hj⟩ : ∃ j, j = at_ + i := ⟨_, rfl⟩
        rw [← hj] at hsum hinz qb
        have hjz : (j : Int) < 9223372036854775808 := by omega
        clear hj hin
        go_wp2_with fail
        go_roundw
        case rel => exact ⟨i + 1, by rw [HB.out], by go_num, hlt, trivial⟩
        case measure => simp [intOf]; omega
      · obtain rfl : i = k := Nat.le_antisymm hi hge
        go_wp2_with fail
        go_ret2
        rw [HE.out]
        exact ⟨rfl, rfl⟩
  · have HE := Lib.hid (show X = 0 by rw [HX.out, if_neg hf])
    clear HX hparts
    have hne : (er : Int) ≠ 0 := by omega
    go_wp2_with fail
    go_ret2
    rw [HE.out]
    exact ⟨rfl, rfl⟩
set_option maxRecDepth 100000 in
set_option maxHeartbeats 400000 in
theorem oclone_any (v : Value) (xs : List UInt8) (w : World) (h : Bts A w v xs) (b1 : xs.length ≤ 1099511627776) :
    Calls Tryz.prog 93 #[v] w fun e w' => ∃ v', e = .returned v' ∧ w'.ownsRow w.heap.size 5 1 v' xs.length (xs.map bv) ∧ Keep No w w' := by
  obtain ⟨a, c, rfl, hc, hc2⟩ := h.shape
  have qT := fun (w : World) (a : Option Addr) (n c n' c' : Nat) => Lib.run_eql_slice_nil (P := Tryz.prog) w _ _ a n c n' c' Tryz.underlying24
  cases a with
  | none =>
    have e0 : xs.length = 0 := by
      obtain ⟨_, a', cap, e, c1, _, c2, _⟩ := h
      cases e
      have := c2 rfl
      omega
    obtain rfl : xs = [] := List.eq_nil_of_length_eq_zero e0
    go_enter Tryz.func93, Tryz.ntmps93
    go_wp2_with fail
    go_ret
    exact ⟨_, rfl, World.ownsRow_nil _ _ _ _, Keep.refl _ _⟩
  | some a =>
    go_enter Tryz.func93, Tryz.ntmps93
    go_wp2_with (at_builtin; refine wl_append rfl _ _ _ _ rfl _ _ rfl rfl ?_)
    have hown : (w.alloc (.cells #[] 5)).ownsRow w.heap.size 5 1 (.slice (some ⟨w.heap.size, 0, none⟩) 0 0) 0 [] := World.ownsRow_made w #[] 0 (Nat.le_refl _) (Nat.zero_le _) rfl
    refine rg_append w.heap.size 5 _ 1 1 Tryz.underlying24 o_info rfl (by decide) hown (h.keep ((Keep.refl No w).alloc _) fun _ _ _ h => h) (bv_one _) (by unfold maxLen; omega) (by omega) (by simp) ?_
    intro v' w2 ho hk _ _
    simp only [Nat.zero_add, List.nil_append] at ho
    go_wp2_with fail
    go_ret
    exact ⟨_, rfl, ho, ((Keep.refl No w).alloc _).trans hk fun j hj e => by
      simp only [Value.ownBlock, Option.some.injEq] at e; omega⟩
/-- bytes with a number -/
def setX (b : List UInt8) (at_ : Nat) (n : Int) (x : Nat) : List UInt8 := setR b at_ (le n.toNat x)
theorem oset_bad {v : Value} (b : List UInt8) (at_ : Nat) (n : Int) (x : Nat) (hb : Bts A w v b) (hl : b.length ≤ 1099511627776) (ha : at_ < 18446744073709551616) (h0 : -9223372036854775808 ≤ n) (h1 : n < 9223372036854775808) (hf : fitsE b.length at_ n ≠ 0) :
    Calls Tryz.prog 78 #[v, .int .u64 (at_ : Int), .int .i64 n, .int .u64 (x : Int)] w fun e w' => e = .returned (.tuple #[.slice none 0 0, .int .i64 (fitsE b.length at_ n : Nat)]) ∧ w = w' := by
  have hfit := ofits_any b at_ n hb hl ha h0 h1
  obtain ⟨a, c, rfl, hc, hc2⟩ := hb.shape
  generalize fitsE b.length at_ n = er at *
  have hne : (er : Int) ≠ 0 := by omega
  go_enter Tryz.func78, Tryz.ntmps78
  go_wp2_with fail
  refine hfit.mono ?_
  rintro e x ⟨rfl, rfl⟩
  go_wp2_with fail
  go_ret2
  exact ⟨rfl, rfl⟩
set_option maxRecDepth 100000 in
set_option maxHeartbeats 2000000 in
theorem oset_any {v : Value} (b : List UInt8) (at_ : Nat) (n : Int) (x : Nat) (hb : Bts A w v b) (hl : b.length ≤ 1099511627776) (ha : at_ < 18446744073709551616) (hx : x < 18446744073709551616) (hf : fitsE b.length at_ n = 0) :
    Calls Tryz.prog 78 #[v, .int .u64 (at_ : Int), .int .i64 n, .int .u64 (x : Int)] w fun e w' => ∃ v', e = .returned (.tuple #[v', .int .i64 0]) ∧ w'.ownsRow w.heap.size 5 1 v' b.length ((setX b at_ n x).map bv) ∧ Keep No w w' := by
  obtain ⟨hn, hat, hsz⟩ := fits_parts hf
  have hfit := ofits_any b at_ n hb hl ha (by omega) (by omega)
  have hcl := oclone_any v b w hb hl
  rw [hf] at hfit
  unfold setX
  have hnn : n = (n.toNat : Int) := by omega
  have hn8 : n.toNat ≤ 8 := by omega
  have hn1 : 1 ≤ n.toNat := by omega
  generalize n.toNat = k at *
  subst hnn
  clear hn hf
  obtain ⟨a, c, rfl, hc, hc2⟩ := hb.shape
  go_enter Tryz.func78, Tryz.ntmps78
  go_wp2_with fail
  refine hfit.mono ?_
  rintro e W ⟨rfl, rfl⟩
  clear hfit
  go_wp2_with fail
  refine hcl.mono ?_
  rintro e W ⟨v', rfl, ho, hK⟩
  clear hcl
  have hbl : 0 < b.length := by omega
  rcases ho.2 with ⟨_, h0⟩ | ⟨g, cap, cur, rfl, hgb, _⟩
  · omega
  go_wp2_with fail
  go_loopw [23] (fun iv wr => ∃ i : Nat, iv = .int .i64 i ∧ i ≤ k ∧ wr.ownsRow w.heap.size 5 1 (.slice (some ⟨g, 0, none⟩) b.length cap) b.length ((setR b at_ ((le k x).take i)).map bv) ∧ Keep No w wr) (fun iv _ => k - (intOf iv).toNat)
  case atStart => exact ⟨0, rfl, Nat.zero_le _, ho, hK⟩
  case round =>
    clear ho hK
    obtain ⟨i, rfl, hi, ho, hK⟩ := hrel
    rcases Nat.lt_or_ge i k with hlt | hge
    · have hin : at_ + i < b.length := by omega
      have hle := le_len k x
      have htk : (le k x).take (i + 1) = (le k x).take i ++ [UInt8.ofNat (x / 256 ^ i % 256)] := by
        rw [List.take_succ_eq_append_getElem (by omega), le_get k x i hlt]
      have hlen : ((le k x).take i).length = i := by rw [List.length_take]; omega
      have hnx : setR b at_ ((le k x).take (i + 1)) = (setR b at_ ((le k x).take i)).set (at_ + i) (UInt8.ofNat (x / 256 ^ i % 256)) := by rw [htk, setR_snoc, hlen]
      have hsl : (setR b at_ ((le k x).take i)).length = b.length := setR_len _ _ _
      have hc1 : wr.cell? ⟨g, at_ + i, none⟩ = some (bv ((setR b at_ ((le k x).take i))[at_ + i]'(by omega))) := by
        rw [ho.cellAt (at_ + i) (by omega), List.getElem?_map, List.getElem?_eq_getElem (by omega)]
        rfl
      have hfz : wr.frozen? ⟨g, at_ + i, none⟩ = false := ho.frozenAt _
      have ho2 := ho.stored (at_ + i) (bv (UInt8.ofNat (x / 256 ^ i % 256)))
      rw [← List.map_set, ← hnx] at ho2
      have hshr : (x : Int) / 2 ^ (8 * i) = ((x / 256 ^ i : Nat) : Int) := by rw [pow256]; push_cast; rfl
      have hbyte : IntKind.u8.wrap ((x / 256 ^ i : Nat) : Int) = ((UInt8.ofNat (x / 256 ^ i % 256)).toNat : Int) := by
        rw [IntKind.wrap_u8', UInt8.toNat_ofNat', Nat.mod_mod]
        omega
      have hk2 := hK.setCell (p := ⟨g, at_ + i, none⟩) (fun h => absurd h (Nat.not_lt.2 hgb)) (bv (UInt8.ofNat (x / 256 ^ i % 256)))
      unfold bv at hc1 ho2 hk2
      generalize (setR b at_ ((le k x).take i))[at_ + i]'(by omega) = y at *
      have hltz : (i : Int) < (k : Int) := by omega
      have hsum : (at_ : Int) + (i : Int) = ((at_ + i : Nat) : Int) := by omega
      have hinz : ((at_ + i : Nat) : Int) < (b.length : Int) := by omega
      have hatz : (at_ : Int) < 9223372036854775808 := by omega
      have hi8 : (i : Int) ≤ 8 := by omega
      clear hnx htk hsl ho hK
      obtain ⟨j, hj⟩ : ∃ j, j = at_ + i := ⟨_, rfl⟩
      rw [← hj] at hsum hinz hc1 hfz ho2 hk2
      have hjz : (j : Int) < 9223372036854775808 := by omega
      clear hj hin
      generalize UInt8.ofNat (x / 256 ^ i % 256) = z at *
      generalize x / 256 ^ i = q at *
      go_wp2_with fail
      go_roundw
      case rel => exact ⟨i + 1, by go_num, hlt, ho2.1, hk2⟩
      case measure => simp [intOf]; omega
    · obtain rfl : i = k := Nat.le_antisymm hi hge
      rw [List.take_of_length_le (by rw [le_len]; exact Nat.le_refl _)] at ho
      go_wp2_with fail
      go_ret2
      exact ⟨_, rfl, ho, hK⟩
end
end Go.Proofs.YtaoillfofiehpaaGreatDoor
