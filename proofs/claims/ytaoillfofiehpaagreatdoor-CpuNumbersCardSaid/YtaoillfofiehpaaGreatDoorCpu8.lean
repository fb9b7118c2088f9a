/- isa: may. isa: Encode, Decode. The document's chapter 12: Word, has, May, Encode. No condition. -/
import Derived.Test.YtaoillfofiehpaaGreatDoorCpu1
import Derived.Lib.Bytealg
import Derived.Deep.QuietTactic
import Derived.BigQuiet
set_option linter.unusedVariables false
set_option linter.unusedSimpArgs false
namespace Go.Proofs.YtaoillfofiehpaaGreatDoor
open Go.RowKit Go.Dm Go.Dm.Vm Go.Dm.Cp Go.Maps

def mayK (op a b c imm : Int) : Nat → Bool
  | 0 => fieldB (hasM op) a
  | 1 => fieldB (hasM op / 2) b
  | 2 => fieldB (hasM op / 4) c
  | _ => immB (hasM op / 8) imm
theorem mayF_no {op a b c imm : Int} : ∀ k, k < 4 → mayK op a b c imm k = false → mayF op a b c imm = false := by
  intro k hk h
  have : k = 0 ∨ k = 1 ∨ k = 2 ∨ k = 3 := by omega
  unfold mayF
  rcases this with rfl | rfl | rfl | rfl <;> simp only [mayK] at h <;> rw [h] <;> simp
theorem mayF_yes {op a b c imm : Int} (ho : isOp op = true) (h : ∀ j, j < 4 → mayK op a b c imm j = true) : mayF op a b c imm = true := by
  unfold mayF
  have h0 := h 0 (by omega)
  have h1 := h 1 (by omega)
  have h2 := h 2 (by omega)
  have h3 := h 3 (by omega)
  simp only [mayK] at h0 h1 h2 h3
  rw [ho, h0, h1, h2, h3]
  rfl
theorem idx4_0 (a b c d : Int) (w : World) : (Instr.index 130 (.agg #[.int .i64 a, .int .i64 b, .int .i64 c, .int .i64 d]) (.int .i64 0)).run Tryz.prog w = .ok (.int .i64 a) w := by kernel_rfl
theorem idx4_1 (a b c d : Int) (w : World) : (Instr.index 130 (.agg #[.int .i64 a, .int .i64 b, .int .i64 c, .int .i64 d]) (.int .i64 1)).run Tryz.prog w = .ok (.int .i64 b) w := by kernel_rfl
theorem idx4_2 (a b c d : Int) (w : World) : (Instr.index 130 (.agg #[.int .i64 a, .int .i64 b, .int .i64 c, .int .i64 d]) (.int .i64 2)).run Tryz.prog w = .ok (.int .i64 c) w := by kernel_rfl
theorem idx4_3 (a b c d : Int) (w : World) : (Instr.index 130 (.agg #[.int .i64 a, .int .i64 b, .int .i64 c, .int .i64 d]) (.int .i64 3)).run Tryz.prog w = .ok (.int .i64 d) w := by kernel_rfl
theorem idx_contains (l : List UInt8) (c : UInt8) : decide (0 ≤ Lib.indexByte l c) = l.contains c := by
  induction l with
  | nil => rfl
  | cons b r ih =>
    rw [List.contains_cons]
    unfold Lib.indexByte
    have hge : -1 ≤ Lib.indexByte r c := by
      clear ih
      induction r with
      | nil => exact Int.le_refl _
      | cons x t ih2 =>
        unfold Lib.indexByte
        split
        · decide
        · split
          · decide
          · omega
    by_cases h : b = c
    · subst h
      simp
    · have h1 : (b == c) = false := by simpa using h
      have h2 : (c == b) = false := by simpa using fun e => h e.symm
      rw [h1, h2, Bool.false_or, ← ih]
      simp only [Bool.false_eq_true, if_false]
      by_cases h3 : Lib.indexByte r c = -1
      · rw [h3]; decide
      · have h4 : (Lib.indexByte r c == -1) = false := by simpa using h3
        rw [h4]
        simp only [Bool.false_eq_true, if_false]
        rw [Bool.eq_iff_iff, decide_eq_true_eq, decide_eq_true_eq]
        omega
section
variable {w : World}
set_option maxRecDepth 100000 in
theorem slidxb_any (s : ByteArray) (c : Int) (w : World) : Calls Tryz.prog 102 #[.string s, .int .u8 c] w fun e w' => e = .returned (.int .i64 (Lib.indexByte s.data.toList c.toNat.toUInt8)) ∧ w' = w := by
  go_enter Tryz.func102, Tryz.ntmps102
  go_wp2
  rw [run_callFunc_extern Tryz.func106 (by kernel_rfl) (by kernel_rfl) (by kernel_rfl) (e := Extern.BytealgIndexByte.indexByte) (by kernel_rfl), Lib.run_indexByteString]
  simp only [Result.andThen]
  rw [Oper.upon_value]
  go_wp2
  go_ret
  exact ⟨rfl, rfl⟩
set_option maxRecDepth 100000 in
theorem slidx_any (s : ByteArray) (c : UInt8) (w : World) : Calls Tryz.prog 100 #[.string s, .string ⟨#[c]⟩] w fun e w' => e = .returned (.int .i64 (Lib.indexByte s.data.toList c)) ∧ w' = w := by
  go_enter Tryz.func100, Tryz.ntmps100
  go_wp2_with fail
  · have h : ([c] == s.toList) = true := by assumption
    go_ret
    refine ⟨?_, rfl⟩
    have e : s.data.toList = [c] := by rw [← Lib.toList_data]; exact (beq_iff_eq.1 h).symm
    rw [e]
    simp [Lib.indexByte]
  · refine (slidxb_any s _ _).mono ?_
    rintro e w' ⟨rfl, rfl⟩
    go_wp2_with fail
    go_ret
    exact ⟨rfl, rfl⟩
set_option maxRecDepth 100000 in
theorem sindex_any (s : ByteArray) (c : UInt8) (w : World) : Calls Tryz.prog 92 #[.string s, .string ⟨#[c]⟩] w fun e w' => e = .returned (.int .i64 (Lib.indexByte s.data.toList c)) ∧ w' = w := by
  go_enter Tryz.func92, Tryz.ntmps92
  go_wp2_with fail
  refine (slidx_any s c _).mono ?_
  rintro e w' ⟨rfl, rfl⟩
  go_wp2_with fail
  go_ret
  exact ⟨rfl, rfl⟩
set_option maxRecDepth 100000 in
theorem scontains_any (l : List UInt8) (c : UInt8) (w : World) : Calls Tryz.prog 77 #[.string ⟨l.toArray⟩, .string ⟨#[c]⟩] w fun e w' => e = .returned (.bool (l.contains c)) ∧ w' = w := by
  have h := sindex_any ⟨l.toArray⟩ c w
  rw [show (⟨l.toArray⟩ : ByteArray).data.toList = l from rfl] at h
  rw [← idx_contains]
  generalize (⟨l.toArray⟩ : ByteArray) = s at *
  generalize Lib.indexByte l c = r at *
  go_enter Tryz.func77, Tryz.ntmps77
  go_wp2_with fail
  refine h.mono ?_
  rintro e w' ⟨rfl, rfl⟩
  go_wp2_with fail
  go_ret
  exact ⟨rfl, rfl⟩
def sabci : ByteArray := ⟨#[97, 98, 99, 105]⟩
set_option maxRecDepth 100000 in
set_option maxHeartbeats 8000000 in
theorem isamay_any (op a b c imm : Int) (h1 : -2147483648 ≤ imm) (h2 : imm ≤ 2147483647) (hT : Tabs w) :
    Calls Tryz.prog 61 #[.agg #[.int .i64 op, .int .i64 a, .int .i64 b, .int .i64 c, .int .i32 imm]] w fun e w' => (∃ x y z, e = .returned (.tuple #[.agg #[.int .i64 x, .string y, .string z], .bool (mayF op a b c imm)])) ∧ Keep No w w' := by
  have HT := Lib.hid hT
  clear hT
  go_enter Tryz.func61, Tryz.ntmps61
  go_wp2_with fail
  have hkW1 : Keep No w (w.alloc (.cells #[.int .i64 op, .int .i64 a, .int .i64 b, .int .i64 c, .int .i32 imm] 80)) := (Keep.refl _ _).alloc _
  have hBW1 : Blk (w.alloc (.cells #[.int .i64 op, .int .i64 a, .int .i64 b, .int .i64 c, .int .i32 imm] 80)) w.heap.size #[.int .i64 op, .int .i64 a, .int .i64 b, .int .i64 c, .int .i32 imm] 80 := Blk.new _ _ _
  have hzW1 : (w.alloc (.cells #[.int .i64 op, .int .i64 a, .int .i64 b, .int .i64 c, .int .i32 imm] 80)).heap.size = w.heap.size + 1 := World.size_alloc _ _
  generalize w.alloc (.cells #[.int .i64 op, .int .i64 a, .int .i64 b, .int .i64 c, .int .i32 imm] 80) = W1 at *
  have hkW2 : Keep No W1 (W1.alloc (.cells #[.int .i64 0, .string ⟨#[]⟩, .string ⟨#[]⟩] 124)) := (Keep.refl _ _).alloc _
  have hBW2 : Blk (W1.alloc (.cells #[.int .i64 0, .string ⟨#[]⟩, .string ⟨#[]⟩] 124)) W1.heap.size #[.int .i64 0, .string ⟨#[]⟩, .string ⟨#[]⟩] 124 := Blk.new _ _ _
  have hzW2 : (W1.alloc (.cells #[.int .i64 0, .string ⟨#[]⟩, .string ⟨#[]⟩] 124)).heap.size = W1.heap.size + 1 := World.size_alloc _ _
  generalize W1.alloc (.cells #[.int .i64 0, .string ⟨#[]⟩, .string ⟨#[]⟩] 124) = W2 at *
  rw [hzW1] at hBW2 hzW2
  have b1 := hBW1.keep hkW2 fun h => h
  have hkW := hkW1.trans' hkW2
  have hfi := isafind_any (w := W2) op w.heap.size (HT.out.no hkW) (b1.cell 0) b1.lt
  go_wp2_with fail
  refine hfi.mono ?_
  rintro e w2 ⟨⟨n, s, t, rfl, hn⟩, hk2⟩
  have hB2 := hBW2.keep hk2 fun h => h
  have b12 := b1.keep hk2 fun h => h
  have hkw2 := hkW.trans' hk2
  have hz2 : w.heap.size + 2 ≤ w2.heap.size := by have := hk2.size; omega
  have hlt : w.heap.size < w2.heap.size := by omega
  clear hfi hBW1 hBW2 b1 hkW1 hkW2 hkW hk2 hzW1 hzW2
  cases hop : isOp op with
  | false =>
    have hff : mayF op a b c imm = false := by unfold mayF; rw [hop]; rfl
    clear hn
    go_wp2_with (with_reducible refine wl_stAgg rfl _ _ _ rfl _ _ rfl rfl ?_)
    have hka := (Keep.refl No w2).alloc (.cells #[.int .i64 0, .string ⟨#[]⟩, .string ⟨#[]⟩] 124)
    have hza : (w2.alloc (.cells #[.int .i64 0, .string ⟨#[]⟩, .string ⟨#[]⟩] 124)).heap.size = w2.heap.size + 1 := World.size_alloc _ _
    refine rg_stAgg (Blk.new _ _ _) (by kernel_rfl) (by rfl) (by simp [Value.oneCell']) ?_
    intro w3 hB3 hk3 hs3
    have hk23 : Keep No w2 w3 := hka.trans hk3 fun j hj e => absurd hj (by have e2 : j = w2.heap.size := e; omega)
    have hkw3 := hkw2.trans' hk23
    have hB23 := hB2.keep hk23 fun h => h
    have b13 := b12.keep hk23 fun h => h
    have hlt3 : w2.heap.size < w3.heap.size := hB3.lt
    clear hka hza hk3 hs3 hk23
    go_wp2_with (with_reducible refine wl_stAgg rfl _ _ _ rfl _ _ rfl rfl ?_)
    refine rg_stAgg hB23 (by kernel_rfl) (by rfl) (by simp [Value.oneCell']) ?_
    intro w5 hB5 hk5 _
    go_wp2_with fail
    refine ret_blk_tmp rfl rfl hB5 Tryz.underlying124 rfl (by kernel_rfl) rfl ?_
    refine ⟨⟨_, _, _, by rw [hff]; rfl⟩, hkw3.trans hk5 fun j hj e => ?_⟩
    have e2 : j = w.heap.size + 1 := e
    omega
  | true =>
    obtain ⟨rfl, rfl⟩ := hn hop
    have hfl : fieldsL n = (if hasM n % 2 = 1 then [97] else []) ++ (if hasM n / 2 % 2 = 1 then [98] else []) ++ (if hasM n / 4 % 2 = 1 then [99] else []) ++ (if hasM n / 8 % 2 = 1 then [105] else []) := rfl
    have HFL := Lib.hid hfl
    have HOP := Lib.hid hop
    clear hn hfl hop
    generalize fieldsL n = fl at *
    obtain ⟨hm, hmE⟩ : ∃ h, hasM n = h := ⟨_, rfl⟩
    rw [hmE] at HFL
    go_wp2_with (with_reducible refine wl_stAgg rfl _ _ _ rfl _ _ rfl rfl ?_)
    have hka := (Keep.refl No w2).alloc (.cells #[.int .i64 0, .string ⟨#[]⟩, .string ⟨#[]⟩] 124)
    have hza : (w2.alloc (.cells #[.int .i64 0, .string ⟨#[]⟩, .string ⟨#[]⟩] 124)).heap.size = w2.heap.size + 1 := World.size_alloc _ _
    refine rg_stAgg (Blk.new _ _ _) (by kernel_rfl) (by rfl) (by simp [Value.oneCell']) ?_
    intro w3 hB3 hk3 hs3
    have hk23 : Keep No w2 w3 := hka.trans hk3 fun j hj e => absurd hj (by have e2 : j = w2.heap.size := e; omega)
    have hkw3 := hkw2.trans' hk23
    have hB23 := hB2.keep hk23 fun h => h
    have b13 := b12.keep hk23 fun h => h
    have hlt3 : w2.heap.size < w3.heap.size := hB3.lt
    clear hka hza hk3 hs3 hk23
    have q1 : w3.cell? ⟨w.heap.size, 1, none⟩ = some (.int .i64 a) := b13.cell 1
    have q2 : w3.cell? ⟨w.heap.size, 2, none⟩ = some (.int .i64 b) := b13.cell 2
    have q3 : w3.cell? ⟨w.heap.size, 3, none⟩ = some (.int .i64 c) := b13.cell 3
    have q4 : w3.cell? ⟨w.heap.size, 4, none⟩ = some (.int .i32 imm) := b13.cell 4
    go_wp2_with fail
    go_loopw [6, 7, 8, 27] (fun _ _ _ iv wr => ∃ k : Nat, iv = .int .i64 (k : Int) ∧ k ≤ 4 ∧ (∀ j, j < k → mayK n a b c imm j = true) ∧ Keep No w3 wr) (fun _ _ _ iv _ => 4 - (intOf iv).toNat)
    case atStart => exact ⟨0, rfl, by omega, (fun j hj => absurd hj (Nat.not_lt_zero _)), Keep.refl _ _⟩
    case round =>
      obtain ⟨k, rfl, hk4, hall, hk⟩ := hrel
      generalize wr = wz at *
      have hB3z := hB3.keep hk fun h => h
      have q5 : wz.cell? ⟨w2.heap.size, 2, none⟩ = some (.string ⟨fl.toArray⟩) := hB3z.cell 2
      clear q1 q2 q3 q4
      have hkc : k = 0 ∨ k = 1 ∨ k = 2 ∨ k = 3 ∨ k = 4 := by omega
      rcases hkc with rfl | rfl | rfl | rfl | rfl
      · skip
        have hidx := idx4_0 a b c imm
        have hcon : fl.contains 97 = decide (hm / 2 ^ 0 % 2 = 1) := by rw [HFL.out]; exact fields_has hm 0 (by omega)
        have hct := fun W => scontains_any fl 97 W
        generalize fl.contains 97 = hv at *
        go_wp2_with fail
        go_quiet (first | (go_at_call 77; exact Calls.quiet_of_same (hct _)))
        have hkq := hk.drewN nq
        have hB2z := hB23.keep hkq fun h => h
        cases hv with
        | true =>
          have hb1 : hm / 2 ^ 0 % 2 = 1 := of_decide_eq_true hcon.symm
          clear hcon hct hidx
          by_cases hx : a < 0
          · have hff := mayF_no (imm := imm) (b := b) (c := c) (a := a) (op := n) 0 (by omega) (by simp only [mayK, fieldB]; simp; omega)
            go_wp2_with (with_reducible refine wl_stAgg rfl _ _ _ rfl _ _ rfl rfl ?_)
            refine rg_stAgg hB2z (by kernel_rfl) (by rfl) (by simp [Value.oneCell']) ?_
            intro w5 hB5 hk5 _
            go_wp2_with fail
            refine ret_blk_tmp rfl rfl hB5 Tryz.underlying124 rfl (by kernel_rfl) rfl ?_
            refine ⟨⟨_, _, _, by rw [hff]; rfl⟩, (hkw3.trans' hkq).trans hk5 fun j hj e => ?_⟩
            have e2 : j = w.heap.size + 1 := e
            omega
          · by_cases hx2 : a > 31
            · have hff := mayF_no (imm := imm) (b := b) (c := c) (a := a) (op := n) 0 (by omega) (by simp only [mayK, fieldB]; simp; omega)
              go_wp2_with (with_reducible refine wl_stAgg rfl _ _ _ rfl _ _ rfl rfl ?_)
              refine rg_stAgg hB2z (by kernel_rfl) (by rfl) (by simp [Value.oneCell']) ?_
              intro w5 hB5 hk5 _
              go_wp2_with fail
              refine ret_blk_tmp rfl rfl hB5 Tryz.underlying124 rfl (by kernel_rfl) rfl ?_
              refine ⟨⟨_, _, _, by rw [hff]; rfl⟩, (hkw3.trans' hkq).trans hk5 fun j hj e => ?_⟩
              have e2 : j = w.heap.size + 1 := e
              omega
            · have hokk : mayK n a b c imm 0 = true := by
                simp only [mayK, fieldB, hmE]
                simp at hb1
                simp [hb1]
                omega
              go_wp2_with fail
              go_roundw
              case rel =>
                refine ⟨0 + 1, by go_num, by omega, fun j hj => ?_, hkq⟩
                rcases Nat.lt_or_ge j 0 with h | h
                · exact hall j h
                · obtain rfl : j = 0 := by omega
                  exact hokk
              case measure => simp [intOf]
        | false =>
          have hb1 : ¬ hm / 2 ^ 0 % 2 = 1 := of_decide_eq_false hcon.symm
          clear hcon hct hidx
          by_cases hx : a = 0
          · have hxz : (a != 0) = false := by simpa using hx
            have hxl : ¬ a < 0 := by omega
            have hxg : ¬ a > 31 := by omega
            have hokk : mayK n a b c imm 0 = true := by
              simp only [mayK, fieldB, immB, hmE, Nat.pow_zero, Nat.div_one, Nat.pow_one] at *
              simp [hx]
            go_wp2_with fail
            go_roundw
            case rel =>
              refine ⟨0 + 1, by go_num, by omega, fun j hj => ?_, hkq⟩
              rcases Nat.lt_or_ge j 0 with h | h
              · exact hall j h
              · obtain rfl : j = 0 := by omega
                exact hokk
            case measure => simp [intOf]
          · have hxz : (a != 0) = true := by simpa using hx
            have hokk : mayK n a b c imm 0 = false := by
              simp only [mayK, fieldB, immB, hmE]
              simp at hb1
              simp [hx, hb1]
            have hff := mayF_no (imm := imm) (b := b) (c := c) (a := a) (op := n) 0 (by omega) hokk
            go_wp2_with (with_reducible refine wl_stAgg rfl _ _ _ rfl _ _ rfl rfl ?_)
            refine rg_stAgg hB2z (by kernel_rfl) (by rfl) (by simp [Value.oneCell']) ?_
            intro w5 hB5 hk5 _
            go_wp2_with fail
            refine ret_blk_tmp rfl rfl hB5 Tryz.underlying124 rfl (by kernel_rfl) rfl ?_
            refine ⟨⟨_, _, _, by rw [hff]; rfl⟩, (hkw3.trans' hkq).trans hk5 fun j hj e => ?_⟩
            have e2 : j = w.heap.size + 1 := e
            omega
      · skip
        have hidx := idx4_1 a b c imm
        have hcon : fl.contains 98 = decide (hm / 2 ^ 1 % 2 = 1) := by rw [HFL.out]; exact fields_has hm 1 (by omega)
        have hct := fun W => scontains_any fl 98 W
        generalize fl.contains 98 = hv at *
        go_wp2_with fail
        go_quiet (first | (go_at_call 77; exact Calls.quiet_of_same (hct _)))
        have hkq := hk.drewN nq
        have hB2z := hB23.keep hkq fun h => h
        cases hv with
        | true =>
          have hb1 : hm / 2 ^ 1 % 2 = 1 := of_decide_eq_true hcon.symm
          clear hcon hct hidx
          by_cases hx : b < 0
          · have hff := mayF_no (imm := imm) (b := b) (c := c) (a := a) (op := n) 1 (by omega) (by simp only [mayK, fieldB]; simp; omega)
            go_wp2_with (with_reducible refine wl_stAgg rfl _ _ _ rfl _ _ rfl rfl ?_)
            refine rg_stAgg hB2z (by kernel_rfl) (by rfl) (by simp [Value.oneCell']) ?_
            intro w5 hB5 hk5 _
            go_wp2_with fail
            refine ret_blk_tmp rfl rfl hB5 Tryz.underlying124 rfl (by kernel_rfl) rfl ?_
            refine ⟨⟨_, _, _, by rw [hff]; rfl⟩, (hkw3.trans' hkq).trans hk5 fun j hj e => ?_⟩
            have e2 : j = w.heap.size + 1 := e
            omega
          · by_cases hx2 : b > 31
            · have hff := mayF_no (imm := imm) (b := b) (c := c) (a := a) (op := n) 1 (by omega) (by simp only [mayK, fieldB]; simp; omega)
              go_wp2_with (with_reducible refine wl_stAgg rfl _ _ _ rfl _ _ rfl rfl ?_)
              refine rg_stAgg hB2z (by kernel_rfl) (by rfl) (by simp [Value.oneCell']) ?_
              intro w5 hB5 hk5 _
              go_wp2_with fail
              refine ret_blk_tmp rfl rfl hB5 Tryz.underlying124 rfl (by kernel_rfl) rfl ?_
              refine ⟨⟨_, _, _, by rw [hff]; rfl⟩, (hkw3.trans' hkq).trans hk5 fun j hj e => ?_⟩
              have e2 : j = w.heap.size + 1 := e
              omega
            · have hokk : mayK n a b c imm 1 = true := by
                simp only [mayK, fieldB, hmE]
                simp at hb1
                simp [hb1]
                omega
              go_wp2_with fail
              go_roundw
              case rel =>
                refine ⟨1 + 1, by go_num, by omega, fun j hj => ?_, hkq⟩
                rcases Nat.lt_or_ge j 1 with h | h
                · exact hall j h
                · obtain rfl : j = 1 := by omega
                  exact hokk
              case measure => simp [intOf]
        | false =>
          have hb1 : ¬ hm / 2 ^ 1 % 2 = 1 := of_decide_eq_false hcon.symm
          clear hcon hct hidx
          by_cases hx : b = 0
          · have hxz : (b != 0) = false := by simpa using hx
            have hxl : ¬ b < 0 := by omega
            have hxg : ¬ b > 31 := by omega
            have hokk : mayK n a b c imm 1 = true := by
              simp only [mayK, fieldB, immB, hmE, Nat.pow_zero, Nat.div_one, Nat.pow_one] at *
              simp [hx]
            go_wp2_with fail
            go_roundw
            case rel =>
              refine ⟨1 + 1, by go_num, by omega, fun j hj => ?_, hkq⟩
              rcases Nat.lt_or_ge j 1 with h | h
              · exact hall j h
              · obtain rfl : j = 1 := by omega
                exact hokk
            case measure => simp [intOf]
          · have hxz : (b != 0) = true := by simpa using hx
            have hokk : mayK n a b c imm 1 = false := by
              simp only [mayK, fieldB, immB, hmE]
              simp at hb1
              simp [hx, hb1]
            have hff := mayF_no (imm := imm) (b := b) (c := c) (a := a) (op := n) 1 (by omega) hokk
            go_wp2_with (with_reducible refine wl_stAgg rfl _ _ _ rfl _ _ rfl rfl ?_)
            refine rg_stAgg hB2z (by kernel_rfl) (by rfl) (by simp [Value.oneCell']) ?_
            intro w5 hB5 hk5 _
            go_wp2_with fail
            refine ret_blk_tmp rfl rfl hB5 Tryz.underlying124 rfl (by kernel_rfl) rfl ?_
            refine ⟨⟨_, _, _, by rw [hff]; rfl⟩, (hkw3.trans' hkq).trans hk5 fun j hj e => ?_⟩
            have e2 : j = w.heap.size + 1 := e
            omega
      · skip
        have hidx := idx4_2 a b c imm
        have hcon : fl.contains 99 = decide (hm / 2 ^ 2 % 2 = 1) := by rw [HFL.out]; exact fields_has hm 2 (by omega)
        have hct := fun W => scontains_any fl 99 W
        generalize fl.contains 99 = hv at *
        go_wp2_with fail
        go_quiet (first | (go_at_call 77; exact Calls.quiet_of_same (hct _)))
        have hkq := hk.drewN nq
        have hB2z := hB23.keep hkq fun h => h
        cases hv with
        | true =>
          have hb1 : hm / 2 ^ 2 % 2 = 1 := of_decide_eq_true hcon.symm
          clear hcon hct hidx
          by_cases hx : c < 0
          · have hff := mayF_no (imm := imm) (b := b) (c := c) (a := a) (op := n) 2 (by omega) (by simp only [mayK, fieldB]; simp; omega)
            go_wp2_with (with_reducible refine wl_stAgg rfl _ _ _ rfl _ _ rfl rfl ?_)
            refine rg_stAgg hB2z (by kernel_rfl) (by rfl) (by simp [Value.oneCell']) ?_
            intro w5 hB5 hk5 _
            go_wp2_with fail
            refine ret_blk_tmp rfl rfl hB5 Tryz.underlying124 rfl (by kernel_rfl) rfl ?_
            refine ⟨⟨_, _, _, by rw [hff]; rfl⟩, (hkw3.trans' hkq).trans hk5 fun j hj e => ?_⟩
            have e2 : j = w.heap.size + 1 := e
            omega
          · by_cases hx2 : c > 31
            · have hff := mayF_no (imm := imm) (b := b) (c := c) (a := a) (op := n) 2 (by omega) (by simp only [mayK, fieldB]; simp; omega)
              go_wp2_with (with_reducible refine wl_stAgg rfl _ _ _ rfl _ _ rfl rfl ?_)
              refine rg_stAgg hB2z (by kernel_rfl) (by rfl) (by simp [Value.oneCell']) ?_
              intro w5 hB5 hk5 _
              go_wp2_with fail
              refine ret_blk_tmp rfl rfl hB5 Tryz.underlying124 rfl (by kernel_rfl) rfl ?_
              refine ⟨⟨_, _, _, by rw [hff]; rfl⟩, (hkw3.trans' hkq).trans hk5 fun j hj e => ?_⟩
              have e2 : j = w.heap.size + 1 := e
              omega
            · have hokk : mayK n a b c imm 2 = true := by
                simp only [mayK, fieldB, hmE]
                simp at hb1
                simp [hb1]
                omega
              go_wp2_with fail
              go_roundw
              case rel =>
                refine ⟨2 + 1, by go_num, by omega, fun j hj => ?_, hkq⟩
                rcases Nat.lt_or_ge j 2 with h | h
                · exact hall j h
                · obtain rfl : j = 2 := by omega
                  exact hokk
              case measure => simp [intOf]
        | false =>
          have hb1 : ¬ hm / 2 ^ 2 % 2 = 1 := of_decide_eq_false hcon.symm
          clear hcon hct hidx
          by_cases hx : c = 0
          · have hxz : (c != 0) = false := by simpa using hx
            have hxl : ¬ c < 0 := by omega
            have hxg : ¬ c > 31 := by omega
            have hokk : mayK n a b c imm 2 = true := by
              simp only [mayK, fieldB, immB, hmE, Nat.pow_zero, Nat.div_one, Nat.pow_one] at *
              simp [hx]
            go_wp2_with fail
            go_roundw
            case rel =>
              refine ⟨2 + 1, by go_num, by omega, fun j hj => ?_, hkq⟩
              rcases Nat.lt_or_ge j 2 with h | h
              · exact hall j h
              · obtain rfl : j = 2 := by omega
                exact hokk
            case measure => simp [intOf]
          · have hxz : (c != 0) = true := by simpa using hx
            have hokk : mayK n a b c imm 2 = false := by
              simp only [mayK, fieldB, immB, hmE]
              simp at hb1
              simp [hx, hb1]
            have hff := mayF_no (imm := imm) (b := b) (c := c) (a := a) (op := n) 2 (by omega) hokk
            go_wp2_with (with_reducible refine wl_stAgg rfl _ _ _ rfl _ _ rfl rfl ?_)
            refine rg_stAgg hB2z (by kernel_rfl) (by rfl) (by simp [Value.oneCell']) ?_
            intro w5 hB5 hk5 _
            go_wp2_with fail
            refine ret_blk_tmp rfl rfl hB5 Tryz.underlying124 rfl (by kernel_rfl) rfl ?_
            refine ⟨⟨_, _, _, by rw [hff]; rfl⟩, (hkw3.trans' hkq).trans hk5 fun j hj e => ?_⟩
            have e2 : j = w.heap.size + 1 := e
            omega
      · skip
        have hidx := idx4_3 a b c imm
        have hcon : fl.contains 105 = decide (hm / 2 ^ 3 % 2 = 1) := by rw [HFL.out]; exact fields_has hm 3 (by omega)
        have hct := fun W => scontains_any fl 105 W
        generalize fl.contains 105 = hv at *
        go_wp2_with fail
        go_quiet (first | (go_at_call 77; exact Calls.quiet_of_same (hct _)))
        have hkq := hk.drewN nq
        have hB2z := hB23.keep hkq fun h => h
        cases hv with
        | true =>
          have hb1 : hm / 2 ^ 3 % 2 = 1 := of_decide_eq_true hcon.symm
          clear hcon hct hidx
          have hokk : mayK n a b c imm 3 = true := by
            simp only [mayK, immB, hmE]
            simp at hb1
            simp [hb1]
          go_wp2_with fail
          go_roundw
          case rel =>
            refine ⟨3 + 1, by go_num, by omega, fun j hj => ?_, hkq⟩
            rcases Nat.lt_or_ge j 3 with h | h
            · exact hall j h
            · obtain rfl : j = 3 := by omega
              exact hokk
          case measure => simp [intOf]
        | false =>
          have hb1 : ¬ hm / 2 ^ 3 % 2 = 1 := of_decide_eq_false hcon.symm
          clear hcon hct hidx
          by_cases hx : imm = 0
          · have hxz : (imm != 0) = false := by simpa using hx
            have hxl : ¬ imm < 0 := by omega
            have hxg : ¬ imm > 31 := by omega
            have hokk : mayK n a b c imm 3 = true := by
              simp only [mayK, fieldB, immB, hmE, Nat.pow_zero, Nat.div_one, Nat.pow_one] at *
              simp [hx]
            go_wp2_with fail
            go_roundw
            case rel =>
              refine ⟨3 + 1, by go_num, by omega, fun j hj => ?_, hkq⟩
              rcases Nat.lt_or_ge j 3 with h | h
              · exact hall j h
              · obtain rfl : j = 3 := by omega
                exact hokk
            case measure => simp [intOf]
          · have hxz : (imm != 0) = true := by simpa using hx
            have hokk : mayK n a b c imm 3 = false := by
              simp only [mayK, fieldB, immB, hmE]
              simp at hb1
              simp [hx, hb1]
            have hff := mayF_no (imm := imm) (b := b) (c := c) (a := a) (op := n) 3 (by omega) hokk
            go_wp2_with (with_reducible refine wl_stAgg rfl _ _ _ rfl _ _ rfl rfl ?_)
            refine rg_stAgg hB2z (by kernel_rfl) (by rfl) (by simp [Value.oneCell']) ?_
            intro w5 hB5 hk5 _
            go_wp2_with fail
            refine ret_blk_tmp rfl rfl hB5 Tryz.underlying124 rfl (by kernel_rfl) rfl ?_
            refine ⟨⟨_, _, _, by rw [hff]; rfl⟩, (hkw3.trans' hkq).trans hk5 fun j hj e => ?_⟩
            have e2 : j = w.heap.size + 1 := e
            omega
      · have hyes := mayF_yes HOP.out hall
        have q6 : wz.cell? ⟨w2.heap.size, 0, none⟩ = some (.int .i64 n) := hB3z.cell 0
        have q7 : wz.cell? ⟨w2.heap.size, 1, none⟩ = some (.string s) := hB3z.cell 1
        go_wp2_with (with_reducible refine wl_stAgg rfl _ _ _ rfl _ _ rfl rfl ?_)
        refine rg_stAgg (hB23.keep hk fun h => h) (by kernel_rfl) (by rfl) (by simp [Value.oneCell']) ?_
        intro w5 hB5 hk5 _
        go_wp2_with fail
        refine ret_blk_tmp rfl rfl hB5 Tryz.underlying124 rfl (by kernel_rfl) rfl ?_
        refine ⟨⟨_, _, _, by rw [hyes]; rfl⟩, (hkw3.trans' hk).trans hk5 fun j hj e => ?_⟩
        have e2 : j = w.heap.size + 1 := e
        omega
end
end Go.Proofs.YtaoillfofiehpaaGreatDoor
namespace Go.Proofs.YtaoillfofiehpaaGreatDoor
open Go.RowKit Go.Dm Go.Dm.Vm Go.Dm.Cp Go.Maps
section
variable {w : World}
set_option maxRecDepth 100000 in
set_option maxHeartbeats 8000000 in
theorem isaenc_any (op a b c : Nat) (imm : Int) (ho : op < 256) (ha : a < 32) (hb : b < 32) (hc : c < 32) (h1 : -2147483648 ≤ imm) (h2 : imm ≤ 2147483647) (hT : Tabs w) :
    Calls Tryz.prog 46 #[.agg #[.int .i64 (op : Int), .int .i64 (a : Int), .int .i64 (b : Int), .int .i64 (c : Int), .int .i32 imm]] w fun e w' => e = .returned (.tuple #[.int .u64 ((if mayF op a b c imm then encM op a b c imm else 0 : Nat) : Int), .int .i64 ((if mayF op a b c imm then 0 else 42 : Nat) : Int)]) ∧ Keep No w w' := by
  have hmy := fun (W : World) (hk : Keep No w W) => isamay_any (w := W) op a b c imm h1 h2 (hT.no hk)
  generalize mayF op a b c imm = mf at *
  have HM := Lib.hid hmy
  clear hmy hT
  go_enter Tryz.func46, Tryz.ntmps46
  go_wp2_with fail
  have hkW : Keep No w (w.alloc (.cells #[.int .i64 (op : Int), .int .i64 (a : Int), .int .i64 (b : Int), .int .i64 (c : Int), .int .i32 imm] 80)) := (Keep.refl _ _).alloc _
  have hBW : Blk (w.alloc (.cells #[.int .i64 (op : Int), .int .i64 (a : Int), .int .i64 (b : Int), .int .i64 (c : Int), .int .i32 imm] 80)) w.heap.size #[.int .i64 (op : Int), .int .i64 (a : Int), .int .i64 (b : Int), .int .i64 (c : Int), .int .i32 imm] 80 := Blk.new _ _ _
  have hzW : (w.alloc (.cells #[.int .i64 (op : Int), .int .i64 (a : Int), .int .i64 (b : Int), .int .i64 (c : Int), .int .i32 imm] 80)).heap.size = w.heap.size + 1 := World.size_alloc _ _
  generalize w.alloc (.cells #[.int .i64 (op : Int), .int .i64 (a : Int), .int .i64 (b : Int), .int .i64 (c : Int), .int .i32 imm] 80) = W at *
  have hml := HM.out W hkW
  have q0 : W.cell? ⟨w.heap.size, 0, none⟩ = some (.int .i64 (op : Int)) := hBW.cell 0
  have q1 : W.cell? ⟨w.heap.size, 1, none⟩ = some (.int .i64 (a : Int)) := hBW.cell 1
  have q2 : W.cell? ⟨w.heap.size, 2, none⟩ = some (.int .i64 (b : Int)) := hBW.cell 2
  have q3 : W.cell? ⟨w.heap.size, 3, none⟩ = some (.int .i64 (c : Int)) := hBW.cell 3
  have q4 : W.cell? ⟨w.heap.size, 4, none⟩ = some (.int .i32 imm) := hBW.cell 4
  go_wp2_with fail
  refine hml.mono ?_
  rintro e w2 ⟨⟨x, y, z, rfl⟩, hk2⟩
  have hkw2 := hkW.trans' hk2
  clear hml q0 q1 q2 q3 q4
  go_wp2_with (with_reducible refine wl_stAgg rfl _ _ _ rfl _ _ rfl rfl ?_)
  have hka := (Keep.refl No w2).alloc (.cells #[.int .i64 0, .string ⟨#[]⟩, .string ⟨#[]⟩] 124)
  refine rg_stAgg (Blk.new _ _ _) (by kernel_rfl) (by rfl) (by simp [Value.oneCell']) ?_
  intro w3 hB3 hk3 hs3
  have hk23 : Keep No w2 w3 := hka.trans hk3 fun j hj e => absurd hj (by have e2 : j = w2.heap.size := e; omega)
  have hB4 := (hBW.keep hk2 fun h => h).keep hk23 fun h => h
  have hkw3 := hkw2.trans' hk23
  clear hka hk3 hs3
  cases mf with
  | false =>
    go_wp2_with fail
    go_ret2
    exact ⟨rfl, hkw3⟩
  | true =>
    have q0 : w3.cell? ⟨w.heap.size, 0, none⟩ = some (.int .i64 (op : Int)) := hB4.cell 0
    have q1 : w3.cell? ⟨w.heap.size, 1, none⟩ = some (.int .i64 (a : Int)) := hB4.cell 1
    have q2 : w3.cell? ⟨w.heap.size, 2, none⟩ = some (.int .i64 (b : Int)) := hB4.cell 2
    have q3 : w3.cell? ⟨w.heap.size, 3, none⟩ = some (.int .i64 (c : Int)) := hB4.cell 3
    have q4 : w3.cell? ⟨w.heap.size, 4, none⟩ = some (.int .i32 imm) := hB4.cell 4
    have haz : (a : Int) ≤ 31 := by omega
    have hbz : (b : Int) ≤ 31 := by omega
    have hcz : (c : Int) ≤ 31 := by omega
    have hoz : (op : Int) ≤ 255 := by omega
    go_wp2_with fail
    go_ret2
    exact ⟨congrArg (fun x => Ending.returned (Value.tuple #[Value.int .u64 x, Value.int .i64 0])) (enc_bits ho ha hb hc h1 h2), hkw3⟩
def encI (i : Ins) : Value := .agg #[.int .i64 (i.op : Int), .int .i64 (i.a : Int), .int .i64 (i.b : Int), .int .i64 (i.c : Int), .int .i32 i.imm]
def zeroI : Value := .agg #[.int .i64 0, .int .i64 0, .int .i64 0, .int .i64 0, .int .i32 0]
set_option maxRecDepth 100000 in
set_option maxHeartbeats 8000000 in
theorem isadec_any (x : Nat) (hx : x < 18446744073709551616) (hT : Tabs w) :
    Calls Tryz.prog 29 #[.int .u64 (x : Int)] w fun e w' => e = .returned (.tuple #[if decE x = 0 then encI (decI x) else zeroI, .int .i64 (decE x : Nat)]) ∧ Keep No w w' := by
  obtain ⟨d1, d2, d3, d4⟩ := dec_fits x
  obtain ⟨i1, i2⟩ := dec_may_imm x hx
  have hen := fun (W : World) (hk : Keep No w W) => isaenc_any (w := W) (decI x).op (decI x).a (decI x).b (decI x).c (decI x).imm d1 d2 d3 d4 i1 i2 (hT.no hk)
  have hE : decE x = if mayF (decI x).op (decI x).a (decI x).b (decI x).c (decI x).imm && (encM (decI x).op (decI x).a (decI x).b (decI x).c (decI x).imm == x) then 0 else 42 := by
    rw [← may_eq ⟨i1, i2⟩]; rfl
  have hI : encI (decI x) = .agg #[.int .i64 ((decI x).op : Int), .int .i64 ((decI x).a : Int), .int .i64 ((decI x).b : Int), .int .i64 ((decI x).c : Int), .int .i32 (decI x).imm] := rfl
  have e1 : bits .and .u64 (x : Int) 255 = ((decI x).op : Int) := by
    have h := u64_and_nat x 255 hx (by decide)
    rw [nat_mask8] at h
    exact h
  have e2 : bits .and .u64 ((x : Int) / 256) 31 = ((decI x).a : Int) := by
    have h := u64_and_nat (x / 256) 31 (by omega) (by decide)
    rw [nat_mask5] at h
    exact h
  have e3 : bits .and .u64 ((x : Int) / 8192) 31 = ((decI x).b : Int) := by
    have h := u64_and_nat (x / 8192) 31 (by omega) (by decide)
    rw [nat_mask5] at h
    exact h
  have e4 : bits .and .u64 ((x : Int) / 262144) 31 = ((decI x).c : Int) := by
    have h := u64_and_nat (x / 262144) 31 (by omega) (by decide)
    rw [nat_mask5] at h
    exact h
  have e5 : wrap32 ((x : Int) / 4294967296) = (decI x).imm := by
    show wrap32 ((x : Int) / 4294967296) = s32 (x / 4294967296)
    unfold wrap32 s32
    split <;> omega
  have HI := Lib.hid hI
  have HE := Lib.hid hE
  have HEN := Lib.hid hen
  clear hI hE hen hT
  generalize decE x = E at *
  generalize encI (decI x) = I at *
  generalize (decI x).op = op at *
  generalize (decI x).a = a at *
  generalize (decI x).b = b at *
  generalize (decI x).c = c at *
  generalize (decI x).imm = imm at *
  generalize encM op a b c imm = en at *
  generalize mayF op a b c imm = mf at *
  obtain ⟨R, hR⟩ : ∃ R, R = if E = 0 then I else zeroI := ⟨_, rfl⟩
  rw [← hR]
  have HR := Lib.hid hR
  clear hR
  have haz : (a : Int) ≤ 31 := by omega
  have hbz : (b : Int) ≤ 31 := by omega
  have hcz : (c : Int) ≤ 31 := by omega
  have hoz : (op : Int) ≤ 255 := by omega
  go_enter Tryz.func29, Tryz.ntmps29
  go_wp2_with (with_reducible refine wl_stAgg rfl _ _ _ rfl _ _ rfl rfl ?_)
  have hkW1 : Keep No w (w.alloc (.cells #[.int .i64 0, .int .i64 0, .int .i64 0, .int .i64 0, .int .i32 0] 80)) := (Keep.refl _ _).alloc _
  have hBW1 : Blk (w.alloc (.cells #[.int .i64 0, .int .i64 0, .int .i64 0, .int .i64 0, .int .i32 0] 80)) w.heap.size #[.int .i64 0, .int .i64 0, .int .i64 0, .int .i64 0, .int .i32 0] 80 := Blk.new _ _ _
  have hzW1 : (w.alloc (.cells #[.int .i64 0, .int .i64 0, .int .i64 0, .int .i64 0, .int .i32 0] 80)).heap.size = w.heap.size + 1 := World.size_alloc _ _
  generalize w.alloc (.cells #[.int .i64 0, .int .i64 0, .int .i64 0, .int .i64 0, .int .i32 0] 80) = W1 at *
  have hnew := Blk.new W1 #[.int .i64 0, .int .i64 0, .int .i64 0, .int .i64 0, .int .i32 0] 80
  rw [hzW1] at hnew
  refine rg_stAgg hnew (by kernel_rfl) (by rfl) (by simp [Value.oneCell']) ?_
  intro w2 hB2 hk2 _
  have hk12 : Keep No W1 w2 := ((Keep.refl No W1).alloc _).trans hk2 fun j hj e => absurd hj (by have e2 : j = w.heap.size + 1 := e; omega)
  have hkw2 := hkW1.trans' hk12
  have hB12 := hBW1.keep hk12 fun h => h
  clear hnew hk2 e1 e2 e3 e4 e5 hk12 hBW1
  have r0 : w2.cell? ⟨w.heap.size + 1, 0, none⟩ = some (.int .i64 (op : Int)) := hB2.cell 0
  have r1 : w2.cell? ⟨w.heap.size + 1, 1, none⟩ = some (.int .i64 (a : Int)) := hB2.cell 1
  have r2 : w2.cell? ⟨w.heap.size + 1, 2, none⟩ = some (.int .i64 (b : Int)) := hB2.cell 2
  have r3 : w2.cell? ⟨w.heap.size + 1, 3, none⟩ = some (.int .i64 (c : Int)) := hB2.cell 3
  have r4 : w2.cell? ⟨w.heap.size + 1, 4, none⟩ = some (.int .i32 imm) := hB2.cell 4
  have hcall := HEN.out w2 hkw2
  go_wp2_with fail
  refine hcall.mono ?_
  rintro e w3 ⟨rfl, hk3⟩
  have hkw3 := hkw2.trans' hk3
  have hB13 := hB12.keep hk3 fun h => h
  have hB23 := hB2.keep hk3 fun h => h
  clear hcall r0 r1 r2 r3 r4
  cases mf with
  | false =>
    have hE' := HE.out
    simp only [Bool.false_and, Bool.false_eq_true, if_false] at hE'
    have HE' := Lib.hid hE'
    clear hE' HE
    go_wp2_with (with_reducible refine wl_stAgg rfl _ _ _ rfl _ _ rfl rfl ?_)
    refine rg_stAgg hB13 (by kernel_rfl) (by rfl) (by simp [Value.oneCell']) ?_
    intro w5 hB5 hk5 _
    go_wp2_with fail
    refine ret_blk_tmp rfl rfl hB5 Tryz.underlying80 rfl (by kernel_rfl) rfl ?_
    refine ⟨by rw [HR.out, HE'.out]; rfl, hkw3.trans hk5 fun j hj e => ?_⟩
    have e2 : j = w.heap.size := e
    omega
  | true =>
    by_cases hen : en = x
    · subst hen
      have hE' := HE.out
      simp only [Bool.true_and, beq_self_eq_true, if_true] at hE'
      have HE' := Lib.hid hE'
      clear hE' HE
      have r0 : w3.cell? ⟨w.heap.size + 1, 0, none⟩ = some (.int .i64 (op : Int)) := hB23.cell 0
      have r1 : w3.cell? ⟨w.heap.size + 1, 1, none⟩ = some (.int .i64 (a : Int)) := hB23.cell 1
      have r2 : w3.cell? ⟨w.heap.size + 1, 2, none⟩ = some (.int .i64 (b : Int)) := hB23.cell 2
      have r3 : w3.cell? ⟨w.heap.size + 1, 3, none⟩ = some (.int .i64 (c : Int)) := hB23.cell 3
      have r4 : w3.cell? ⟨w.heap.size + 1, 4, none⟩ = some (.int .i32 imm) := hB23.cell 4
      go_wp2_with (with_reducible refine wl_stAgg rfl _ _ _ rfl _ _ rfl rfl ?_)
      refine rg_stAgg hB13 (by kernel_rfl) (by rfl) (by simp [Value.oneCell']) ?_
      intro w5 hB5 hk5 _
      go_wp2_with fail
      refine ret_blk_tmp rfl rfl hB5 Tryz.underlying80 rfl (by kernel_rfl) rfl ?_
      refine ⟨by rw [HR.out, HE'.out, HI.out]; rfl, hkw3.trans hk5 fun j hj e => ?_⟩
      have e2 : j = w.heap.size := e
      omega
    · have hE' := HE.out
      have hbx : (en == x) = false := by simpa using hen
      rw [hbx] at hE'
      simp only [Bool.and_false, Bool.false_eq_true, if_false] at hE'
      have HE' := Lib.hid hE'
      have hnz : ((en : Int) == (x : Int)) = false := by simp; omega
      clear hE' HE hbx hen
      go_wp2_with (with_reducible refine wl_stAgg rfl _ _ _ rfl _ _ rfl rfl ?_)
      refine rg_stAgg hB13 (by kernel_rfl) (by rfl) (by simp [Value.oneCell']) ?_
      intro w5 hB5 hk5 _
      go_wp2_with fail
      refine ret_blk_tmp rfl rfl hB5 Tryz.underlying80 rfl (by kernel_rfl) rfl ?_
      refine ⟨by rw [HR.out, HE'.out]; rfl, hkw3.trans hk5 fun j hj e => ?_⟩
      have e2 : j = w.heap.size := e
      omega
end
end Go.Proofs.YtaoillfofiehpaaGreatDoor
namespace Go.Dm.Cp
open Go Go.Dm.Vm
def wordsT : List (List UInt8) := [[], [110, 111, 112], [109, 111, 118], [97, 100, 100], [115, 117, 98], [109, 117, 108], [100, 105, 118], [114, 101, 109], [97, 110, 100], [111, 114], [120, 111, 114], [115, 104, 108], [115, 104, 114], [115, 97, 114], [115, 108, 116], [115, 108, 116, 117], [97, 100, 100, 105], [109, 111, 118, 105], [109, 111, 118, 104, 105], [], [108, 100, 49], [108, 100, 50], [108, 100, 52], [108, 100, 56], [115, 116, 49], [115, 116, 50], [115, 116, 52], [115, 116, 56], [], [], [98, 101, 113], [98, 110, 101], [98, 108, 116], [98, 108, 116, 117], [106, 109, 112], [99, 97, 108, 108], [106, 114], [99, 97, 108, 108, 114], [108, 101, 97], [116, 108, 115], [115, 121, 115], [116, 114, 97, 112]]
theorem wordsT_no : ∀ i, i < 42 → isOp (i : Nat) = false → wordsT.getD i [] = [] := by decide
theorem wordsT_is : ∀ i, i < 42 → isOp (i : Nat) = true → ∃ c r, wordsT.getD i [] = c :: r := fun i hi h => by
  have : ∀ i, i < 42 → isOp (i : Nat) = true → (wordsT.getD i []).isEmpty = false := by decide
  have := this i hi h
  revert this
  generalize wordsT.getD i [] = l
  intro h
  cases l with
  | nil => cases h
  | cons c r => exact ⟨c, r, rfl⟩
end Go.Dm.Cp
namespace Go.Proofs.YtaoillfofiehpaaGreatDoor
open Go.RowKit Go.Dm Go.Dm.Vm Go.Dm.Cp Go.Maps
theorem words_at : ∀ i, i < 42 → (#[.string { data := #[] }, .string { data := #[110, 111, 112] }, .string { data := #[109, 111, 118] }, .string { data := #[97, 100, 100] }, .string { data := #[115, 117, 98] }, .string { data := #[109, 117, 108] }, .string { data := #[100, 105, 118] }, .string { data := #[114, 101, 109] }, .string { data := #[97, 110, 100] }, .string { data := #[111, 114] }, .string { data := #[120, 111, 114] }, .string { data := #[115, 104, 108] }, .string { data := #[115, 104, 114] }, .string { data := #[115, 97, 114] }, .string { data := #[115, 108, 116] }, .string { data := #[115, 108, 116, 117] }, .string { data := #[97, 100, 100, 105] }, .string { data := #[109, 111, 118, 105] }, .string { data := #[109, 111, 118, 104, 105] }, .string { data := #[] }, .string { data := #[108, 100, 49] }, .string { data := #[108, 100, 50] }, .string { data := #[108, 100, 52] }, .string { data := #[108, 100, 56] }, .string { data := #[115, 116, 49] }, .string { data := #[115, 116, 50] }, .string { data := #[115, 116, 52] }, .string { data := #[115, 116, 56] }, .string { data := #[] }, .string { data := #[] }, .string { data := #[98, 101, 113] }, .string { data := #[98, 110, 101] }, .string { data := #[98, 108, 116] }, .string { data := #[98, 108, 116, 117] }, .string { data := #[106, 109, 112] }, .string { data := #[99, 97, 108, 108] }, .string { data := #[106, 114] }, .string { data := #[99, 97, 108, 108, 114] }, .string { data := #[108, 101, 97] }, .string { data := #[116, 108, 115] }, .string { data := #[115, 121, 115] }, .string { data := #[116, 114, 97, 112] }] : Array Value)[i]? = some (.string ⟨(wordsT.getD i []).toArray⟩) := by
  intro i hi
  rcases i with _|_|_|_|_|_|_|_|_|_|_|_|_|_|_|_|_|_|_|_|_|_|_|_|_|_|_|_|_|_|_|_|_|_|_|_|_|_|_|_|_|_|i
  all_goals first | rfl | omega
theorem words_get (i : Nat) (hi : i < 42) (h : i < (#[.string { data := #[] }, .string { data := #[110, 111, 112] }, .string { data := #[109, 111, 118] }, .string { data := #[97, 100, 100] }, .string { data := #[115, 117, 98] }, .string { data := #[109, 117, 108] }, .string { data := #[100, 105, 118] }, .string { data := #[114, 101, 109] }, .string { data := #[97, 110, 100] }, .string { data := #[111, 114] }, .string { data := #[120, 111, 114] }, .string { data := #[115, 104, 108] }, .string { data := #[115, 104, 114] }, .string { data := #[115, 97, 114] }, .string { data := #[115, 108, 116] }, .string { data := #[115, 108, 116, 117] }, .string { data := #[97, 100, 100, 105] }, .string { data := #[109, 111, 118, 105] }, .string { data := #[109, 111, 118, 104, 105] }, .string { data := #[] }, .string { data := #[108, 100, 49] }, .string { data := #[108, 100, 50] }, .string { data := #[108, 100, 52] }, .string { data := #[108, 100, 56] }, .string { data := #[115, 116, 49] }, .string { data := #[115, 116, 50] }, .string { data := #[115, 116, 52] }, .string { data := #[115, 116, 56] }, .string { data := #[] }, .string { data := #[] }, .string { data := #[98, 101, 113] }, .string { data := #[98, 110, 101] }, .string { data := #[98, 108, 116] }, .string { data := #[98, 108, 116, 117] }, .string { data := #[106, 109, 112] }, .string { data := #[99, 97, 108, 108] }, .string { data := #[106, 114] }, .string { data := #[99, 97, 108, 108, 114] }, .string { data := #[108, 101, 97] }, .string { data := #[116, 108, 115] }, .string { data := #[115, 121, 115] }, .string { data := #[116, 114, 97, 112] }] : Array Value).size) : (#[.string { data := #[] }, .string { data := #[110, 111, 112] }, .string { data := #[109, 111, 118] }, .string { data := #[97, 100, 100] }, .string { data := #[115, 117, 98] }, .string { data := #[109, 117, 108] }, .string { data := #[100, 105, 118] }, .string { data := #[114, 101, 109] }, .string { data := #[97, 110, 100] }, .string { data := #[111, 114] }, .string { data := #[120, 111, 114] }, .string { data := #[115, 104, 108] }, .string { data := #[115, 104, 114] }, .string { data := #[115, 97, 114] }, .string { data := #[115, 108, 116] }, .string { data := #[115, 108, 116, 117] }, .string { data := #[97, 100, 100, 105] }, .string { data := #[109, 111, 118, 105] }, .string { data := #[109, 111, 118, 104, 105] }, .string { data := #[] }, .string { data := #[108, 100, 49] }, .string { data := #[108, 100, 50] }, .string { data := #[108, 100, 52] }, .string { data := #[108, 100, 56] }, .string { data := #[115, 116, 49] }, .string { data := #[115, 116, 50] }, .string { data := #[115, 116, 52] }, .string { data := #[115, 116, 56] }, .string { data := #[] }, .string { data := #[] }, .string { data := #[98, 101, 113] }, .string { data := #[98, 110, 101] }, .string { data := #[98, 108, 116] }, .string { data := #[98, 108, 116, 117] }, .string { data := #[106, 109, 112] }, .string { data := #[99, 97, 108, 108] }, .string { data := #[106, 114] }, .string { data := #[99, 97, 108, 108, 114] }, .string { data := #[108, 101, 97] }, .string { data := #[116, 108, 115] }, .string { data := #[115, 121, 115] }, .string { data := #[116, 114, 97, 112] }] : Array Value)[i] = .string ⟨(wordsT.getD i []).toArray⟩ := (Array.getElem?_eq_some_iff.1 (words_at i hi)).2
section
variable {w : World}
set_option maxRecDepth 100000 in
set_option maxHeartbeats 4000000 in
theorem r12word_any (op : Int) : Calls Tryz.prog 31 #[.int .i64 op] w fun e w' => (∃ s : ByteArray, e = .returned (.string s) ∧ (isOp op = false → s = ⟨#[]⟩) ∧ (isOp op = true → ∃ c r, s.toList = c :: r)) ∧ Keep No w w' := by
  by_cases h : 0 ≤ op ∧ op < 42
  · obtain ⟨n, rfl⟩ : ∃ n : Nat, op = n := ⟨op.toNat, by omega⟩
    have hn : n < 42 := by omega
    have h0 := wordsT_no n hn
    have h1 := wordsT_is n hn
    have hw := words_get n hn (by simpa using hn)
    have HW := Lib.hid hw
    generalize wordsT.getD n [] = l at *
    have hnz : (n : Int) < 42 := by omega
    have H0 := Lib.hid h0
    have H1 := Lib.hid h1
    clear h0 h1 hw h
    go_enter Tryz.func31, Tryz.ntmps31
    go_wp2_with fail
    go_ret
    refine ⟨⟨⟨l.toArray⟩, congrArg Ending.returned HW.out, fun h => by rw [H0.out h], fun h => by rw [Lib.toList_data]; exact H1.out h⟩, (Keep.refl _ _).alloc _⟩
  · have hf : isOp op = false := by unfold isOp; apply decide_eq_false; omega
    rcases Int.lt_or_le op 0 with h1 | h1
    · have h2 : decide (op < 0) = true := by simpa using h1
      go_enter Tryz.func31, Tryz.ntmps31
      go_wp2_with fail
      go_ret
      exact ⟨⟨_, rfl, fun _ => rfl, fun h => by rw [hf] at h; cases h⟩, (Keep.refl _ _).alloc _⟩
    · have h2 : decide (op < 0) = false := by simpa using h1
      have h3 : op ≥ 42 := by omega
      go_enter Tryz.func31, Tryz.ntmps31
      go_wp2_with fail
      go_ret
      exact ⟨⟨_, rfl, fun _ => rfl, fun h => by rw [hf] at h; cases h⟩, (Keep.refl _ _).alloc _⟩
set_option maxRecDepth 100000 in
set_option maxHeartbeats 4000000 in
theorem r12has_any (op : Int) (h1 : 1 ≤ op) (h2 : op ≤ 41) : Calls Tryz.prog 32 #[.int .i64 op] w fun e w' => e = .returned (.int .i64 (hasM op : Nat)) ∧ w = w' := by
  go_enter Tryz.func32, Tryz.ntmps32
  go_wp2_with fail
  all_goals
    go_ret
    refine ⟨congrArg (fun x => Ending.returned (Value.int .i64 x)) ?_, rfl⟩
    unfold hasM
    try simp only [beq_iff_eq, beq_eq_false_iff_ne] at *
    repeat' split
    all_goals first | omega | (exfalso; simp_all; done)
end
end Go.Proofs.YtaoillfofiehpaaGreatDoor
