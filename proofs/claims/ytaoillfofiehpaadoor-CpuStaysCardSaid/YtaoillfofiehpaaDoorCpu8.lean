/- isa: Encode, Decode. The document's chapter 12: Word, has, May, Encode. No condition. -/
import Derived.Test.YtaoillfofiehpaaDoorCpu2
namespace Go.Proofs.YtaoillfofiehpaaDoor
open Go.RowKit Go.Dm Go.Dm.Vm Go.Dm.Cp Go.Maps
section
variable {w : World}
set_option maxRecDepth 100000 in
set_option maxHeartbeats 8000000 in
theorem isaenc_any (op a b c : Nat) (imm : Int) (ho : op < 256) (ha : a < 32) (hb : b < 32) (hc : c < 32) (h1 : -2147483648 ≤ imm) (h2 : imm ≤ 2147483647) (hT : Tabs w) :
    Calls Tryd.prog 26 #[.agg #[.int .i64 (op : Int), .int .i64 (a : Int), .int .i64 (b : Int), .int .i64 (c : Int), .int .i32 imm]] w fun e w' => e = .returned (.tuple #[.int .u64 ((if mayF op a b c imm then encM op a b c imm else 0 : Nat) : Int), .int .i64 ((if mayF op a b c imm then 0 else 42 : Nat) : Int)]) ∧ Keep No w w' := by
  have hmy := fun (W : World) (hk : Keep No w W) => isamay_any (w := W) op a b c imm h1 h2 (hT.no hk)
  generalize mayF op a b c imm = mf at *
  have HM := Lib.hid hmy
  clear hmy hT
  go_enter Tryd.func26, Tryd.ntmps26
  go_wp2_with (first | (at_builtin; refine wl_append rfl _ _ _ _ rfl _ _ rfl rfl ?_) | (at_make; refine wl_make rfl _ _ _ rfl _ _ rfl rfl ?_) | (at_mapUpdate; refine wl_mapUpdate rfl _ _ _ _ rfl _ _ _ rfl rfl rfl ?_) | (at_lookup; refine wl_lookup rfl _ _ _ _ rfl _ _ rfl rfl ?_) | (at_delete; refine wl_delete rfl _ _ _ _ rfl _ _ rfl rfl ?_) | (with_reducible refine wl_len rfl _ _ rfl _ rfl ?_) | (with_reducible refine wl_range rfl _ _ rfl _ rfl ?_) | (with_reducible refine wl_next rfl _ rfl _ rfl ?_) | (with_reducible refine wl_copy rfl _ _ _ _ rfl _ _ rfl rfl ?_) | (with_reducible refine wl_max rfl _ _ _ _ rfl _ _ rfl rfl ?_) | (with_reducible refine wl_min rfl _ _ _ _ rfl _ _ rfl rfl ?_))
  have hkW : Keep No w (w.alloc (.cells #[.int .i64 (op : Int), .int .i64 (a : Int), .int .i64 (b : Int), .int .i64 (c : Int), .int .i32 imm] 61)) := (Keep.refl _ _).alloc _
  have hBW : Blk (w.alloc (.cells #[.int .i64 (op : Int), .int .i64 (a : Int), .int .i64 (b : Int), .int .i64 (c : Int), .int .i32 imm] 61)) w.heap.size #[.int .i64 (op : Int), .int .i64 (a : Int), .int .i64 (b : Int), .int .i64 (c : Int), .int .i32 imm] 61 := Blk.new _ _ _
  have hzW : (w.alloc (.cells #[.int .i64 (op : Int), .int .i64 (a : Int), .int .i64 (b : Int), .int .i64 (c : Int), .int .i32 imm] 61)).heap.size = w.heap.size + 1 := World.size_alloc _ _
  generalize w.alloc (.cells #[.int .i64 (op : Int), .int .i64 (a : Int), .int .i64 (b : Int), .int .i64 (c : Int), .int .i32 imm] 61) = W at *
  have hml := HM.out W hkW
  have q0 : W.cell? ⟨w.heap.size, 0, none⟩ = some (.int .i64 (op : Int)) := hBW.cell 0
  have q1 : W.cell? ⟨w.heap.size, 1, none⟩ = some (.int .i64 (a : Int)) := hBW.cell 1
  have q2 : W.cell? ⟨w.heap.size, 2, none⟩ = some (.int .i64 (b : Int)) := hBW.cell 2
  have q3 : W.cell? ⟨w.heap.size, 3, none⟩ = some (.int .i64 (c : Int)) := hBW.cell 3
  have q4 : W.cell? ⟨w.heap.size, 4, none⟩ = some (.int .i32 imm) := hBW.cell 4
  go_wp2_with (first | (at_builtin; refine wl_append rfl _ _ _ _ rfl _ _ rfl rfl ?_) | (at_make; refine wl_make rfl _ _ _ rfl _ _ rfl rfl ?_) | (at_mapUpdate; refine wl_mapUpdate rfl _ _ _ _ rfl _ _ _ rfl rfl rfl ?_) | (at_lookup; refine wl_lookup rfl _ _ _ _ rfl _ _ rfl rfl ?_) | (at_delete; refine wl_delete rfl _ _ _ _ rfl _ _ rfl rfl ?_) | (with_reducible refine wl_len rfl _ _ rfl _ rfl ?_) | (with_reducible refine wl_range rfl _ _ rfl _ rfl ?_) | (with_reducible refine wl_next rfl _ rfl _ rfl ?_) | (with_reducible refine wl_copy rfl _ _ _ _ rfl _ _ rfl rfl ?_) | (with_reducible refine wl_max rfl _ _ _ _ rfl _ _ rfl rfl ?_) | (with_reducible refine wl_min rfl _ _ _ _ rfl _ _ rfl rfl ?_))
  refine hml.mono ?_
  rintro e w2 ⟨⟨x, y, z, rfl⟩, hk2⟩
  have hkw2 := hkW.trans' hk2
  clear hml q0 q1 q2 q3 q4
  go_wp2_with (first | (at_builtin; refine wl_append rfl _ _ _ _ rfl _ _ rfl rfl ?_) | (at_make; refine wl_make rfl _ _ _ rfl _ _ rfl rfl ?_) | (at_mapUpdate; refine wl_mapUpdate rfl _ _ _ _ rfl _ _ _ rfl rfl rfl ?_) | (at_lookup; refine wl_lookup rfl _ _ _ _ rfl _ _ rfl rfl ?_) | (at_delete; refine wl_delete rfl _ _ _ _ rfl _ _ rfl rfl ?_) | (with_reducible refine wl_len rfl _ _ rfl _ rfl ?_) | (with_reducible refine wl_range rfl _ _ rfl _ rfl ?_) | (with_reducible refine wl_next rfl _ rfl _ rfl ?_) | (with_reducible refine wl_copy rfl _ _ _ _ rfl _ _ rfl rfl ?_) | (with_reducible refine wl_max rfl _ _ _ _ rfl _ _ rfl rfl ?_) | (with_reducible refine wl_min rfl _ _ _ _ rfl _ _ rfl rfl ?_) | (with_reducible refine wl_stAgg rfl _ _ _ rfl _ _ rfl rfl ?_))
  have hka := (Keep.refl No w2).alloc (.cells #[.int .i64 0, .string ⟨#[]⟩, .string ⟨#[]⟩] 84)
  refine rg_stAgg (Blk.new _ _ _) (by kernel_rfl) (by rfl) (by simp [Value.oneCell']) ?_
  intro w3 hB3 hk3 hs3
  have hk23 : Keep No w2 w3 := hka.trans hk3 fun j hj e => absurd hj (by have e2 : j = w2.heap.size := e; omega)
  have hB4 := (hBW.keep hk2 fun h => h).keep hk23 fun h => h
  have hkw3 := hkw2.trans' hk23
  clear hka hk3 hs3
  cases mf with
  | false =>
    go_wp2_with (first | (at_builtin; refine wl_append rfl _ _ _ _ rfl _ _ rfl rfl ?_) | (at_make; refine wl_make rfl _ _ _ rfl _ _ rfl rfl ?_) | (at_mapUpdate; refine wl_mapUpdate rfl _ _ _ _ rfl _ _ _ rfl rfl rfl ?_) | (at_lookup; refine wl_lookup rfl _ _ _ _ rfl _ _ rfl rfl ?_) | (at_delete; refine wl_delete rfl _ _ _ _ rfl _ _ rfl rfl ?_) | (with_reducible refine wl_len rfl _ _ rfl _ rfl ?_) | (with_reducible refine wl_range rfl _ _ rfl _ rfl ?_) | (with_reducible refine wl_next rfl _ rfl _ rfl ?_) | (with_reducible refine wl_copy rfl _ _ _ _ rfl _ _ rfl rfl ?_) | (with_reducible refine wl_max rfl _ _ _ _ rfl _ _ rfl rfl ?_) | (with_reducible refine wl_min rfl _ _ _ _ rfl _ _ rfl rfl ?_))
    go_ret2
    exact ⟨rfl, hkw3⟩
  | true =>
    have q0 : w3.cell? ⟨w.heap.size, 0, none⟩ = some (.int .i64 (op : Int)) := hB4.cell 0
    have q1 : w3.cell? ⟨w.heap.size, 1, none⟩ = some (.int .i64 (a : Int)) := hB4.cell 1
    have q2 : w3.cell? ⟨w.heap.size, 2, none⟩ = some (.int .i64 (b : Int)) := hB4.cell 2
    have q3 : w3.cell? ⟨w.heap.size, 3, none⟩ = some (.int .i64 (c : Int)) := hB4.cell 3
    have q4 : w3.cell? ⟨w.heap.size, 4, none⟩ = some (.int .i32 imm) := hB4.cell 4
    have haz : (a : Int) ≤ 31 := by omega
    have hbz : (b : Int) ≤ 31 := by omega
    have hcz : (c : Int) ≤ 31 := by omega
    have hoz : (op : Int) ≤ 255 := by omega
    go_wp2_with (first | (at_builtin; refine wl_append rfl _ _ _ _ rfl _ _ rfl rfl ?_) | (at_make; refine wl_make rfl _ _ _ rfl _ _ rfl rfl ?_) | (at_mapUpdate; refine wl_mapUpdate rfl _ _ _ _ rfl _ _ _ rfl rfl rfl ?_) | (at_lookup; refine wl_lookup rfl _ _ _ _ rfl _ _ rfl rfl ?_) | (at_delete; refine wl_delete rfl _ _ _ _ rfl _ _ rfl rfl ?_) | (with_reducible refine wl_len rfl _ _ rfl _ rfl ?_) | (with_reducible refine wl_range rfl _ _ rfl _ rfl ?_) | (with_reducible refine wl_next rfl _ rfl _ rfl ?_) | (with_reducible refine wl_copy rfl _ _ _ _ rfl _ _ rfl rfl ?_) | (with_reducible refine wl_max rfl _ _ _ _ rfl _ _ rfl rfl ?_) | (with_reducible refine wl_min rfl _ _ _ _ rfl _ _ rfl rfl ?_))
    go_ret2
    exact ⟨congrArg (fun x => Ending.returned (Value.tuple #[Value.int .u64 x, Value.int .i64 0])) (enc_bits ho ha hb hc h1 h2), hkw3⟩
def encI (i : Ins) : Value := .agg #[.int .i64 (i.op : Int), .int .i64 (i.a : Int), .int .i64 (i.b : Int), .int .i64 (i.c : Int), .int .i32 i.imm]
def zeroI : Value := .agg #[.int .i64 0, .int .i64 0, .int .i64 0, .int .i64 0, .int .i32 0]
set_option maxRecDepth 100000 in
set_option maxHeartbeats 8000000 in
theorem isadec_any (x : Nat) (hx : x < 18446744073709551616) (hT : Tabs w) :
    Calls Tryd.prog 18 #[.int .u64 (x : Int)] w fun e w' => e = .returned (.tuple #[if decE x = 0 then encI (decI x) else zeroI, .int .i64 (decE x : Nat)]) ∧ Keep No w w' := by
  obtain ⟨d1, d2, d3, d4⟩ := dec_fits x
  obtain ⟨i1, i2⟩ := dec_may_imm x hx
  have hen := fun (W : World) (hk : Keep No w W) => isaenc_any (w := W) (decI x).op (decI x).a (decI x).b (decI x).c (decI x).imm d1 d2 d3 d4 i1 i2 (hT.no hk)
  have hE : decE x = if mayF (decI x).op (decI x).a (decI x).b (decI x).c (decI x).imm && (encM (decI x).op (decI x).a (decI x).b (decI x).c (decI x).imm == x) then 0 else 42 := by
    rw [← may_eq ⟨i1, i2⟩]; rfl
  have hI : encI (decI x) = .agg #[.int .i64 ((decI x).op : Int), .int .i64 ((decI x).a : Int), .int .i64 ((decI x).b : Int), .int .i64 ((decI x).c : Int), .int .i32 (decI x).imm] := rfl
  have e1 : bits .and .u64 (x : Int) 255 = ((decI x).op : Int) := by
    have h := u64_and_nat x 255 hx (by decide)
    rw [nat_mask8] at h
    exact h
  have e2 : bits .and .u64 ((x : Int) / 256) 31 = ((decI x).a : Int) := by
    have h := u64_and_nat (x / 256) 31 (by omega) (by decide)
    rw [nat_mask5] at h
    exact h
  have e3 : bits .and .u64 ((x : Int) / 8192) 31 = ((decI x).b : Int) := by
    have h := u64_and_nat (x / 8192) 31 (by omega) (by decide)
    rw [nat_mask5] at h
    exact h
  have e4 : bits .and .u64 ((x : Int) / 262144) 31 = ((decI x).c : Int) := by
    have h := u64_and_nat (x / 262144) 31 (by omega) (by decide)
    rw [nat_mask5] at h
    exact h
  have e5 : wrap32 ((x : Int) / 4294967296) = (decI x).imm := by
    show wrap32 ((x : Int) / 4294967296) = s32 (x / 4294967296)
    unfold wrap32 s32
    split <;> omega
  have HI := Lib.hid hI
  have HE := Lib.hid hE
  have HEN := Lib.hid hen
  clear hI hE hen hT
  generalize decE x = E at *
  generalize encI (decI x) = I at *
  generalize (decI x).op = op at *
  generalize (decI x).a = a at *
  generalize (decI x).b = b at *
  generalize (decI x).c = c at *
  generalize (decI x).imm = imm at *
  generalize encM op a b c imm = en at *
  generalize mayF op a b c imm = mf at *
  obtain ⟨R, hR⟩ : ∃ R, R = if E = 0 then I else zeroI := ⟨_, rfl⟩
  rw [← hR]
  have HR := Lib.hid hR
  clear hR
  have haz : (a : Int) ≤ 31 := by omega
  have hbz : (b : Int) ≤ 31 := by omega
  have hcz : (c : Int) ≤ 31 := by omega
  have hoz : (op : Int) ≤ 255 := by omega
  go_enter Tryd.func18, Tryd.ntmps18
  go_wp2_with (first | (at_builtin; refine wl_append rfl _ _ _ _ rfl _ _ rfl rfl ?_) | (at_make; refine wl_make rfl _ _ _ rfl _ _ rfl rfl ?_) | (at_mapUpdate; refine wl_mapUpdate rfl _ _ _ _ rfl _ _ _ rfl rfl rfl ?_) | (at_lookup; refine wl_lookup rfl _ _ _ _ rfl _ _ rfl rfl ?_) | (at_delete; refine wl_delete rfl _ _ _ _ rfl _ _ rfl rfl ?_) | (with_reducible refine wl_len rfl _ _ rfl _ rfl ?_) | (with_reducible refine wl_range rfl _ _ rfl _ rfl ?_) | (with_reducible refine wl_next rfl _ rfl _ rfl ?_) | (with_reducible refine wl_copy rfl _ _ _ _ rfl _ _ rfl rfl ?_) | (with_reducible refine wl_max rfl _ _ _ _ rfl _ _ rfl rfl ?_) | (with_reducible refine wl_min rfl _ _ _ _ rfl _ _ rfl rfl ?_) | (with_reducible refine wl_stAgg rfl _ _ _ rfl _ _ rfl rfl ?_))
  have hkW1 : Keep No w (w.alloc (.cells #[.int .i64 0, .int .i64 0, .int .i64 0, .int .i64 0, .int .i32 0] 61)) := (Keep.refl _ _).alloc _
  have hBW1 : Blk (w.alloc (.cells #[.int .i64 0, .int .i64 0, .int .i64 0, .int .i64 0, .int .i32 0] 61)) w.heap.size #[.int .i64 0, .int .i64 0, .int .i64 0, .int .i64 0, .int .i32 0] 61 := Blk.new _ _ _
  have hzW1 : (w.alloc (.cells #[.int .i64 0, .int .i64 0, .int .i64 0, .int .i64 0, .int .i32 0] 61)).heap.size = w.heap.size + 1 := World.size_alloc _ _
  generalize w.alloc (.cells #[.int .i64 0, .int .i64 0, .int .i64 0, .int .i64 0, .int .i32 0] 61) = W1 at *
  have hnew := Blk.new W1 #[.int .i64 0, .int .i64 0, .int .i64 0, .int .i64 0, .int .i32 0] 61
  rw [hzW1] at hnew
  refine rg_stAgg hnew (by kernel_rfl) (by rfl) (by simp [Value.oneCell']) ?_
  intro w2 hB2 hk2 _
  have hk12 : Keep No W1 w2 := ((Keep.refl No W1).alloc _).trans hk2 fun j hj e => absurd hj (by have e2 : j = w.heap.size + 1 := e; omega)
  have hkw2 := hkW1.trans' hk12
  have hB12 := hBW1.keep hk12 fun h => h
  clear hnew hk2 e1 e2 e3 e4 e5 hk12 hBW1
  have r0 : w2.cell? ⟨w.heap.size + 1, 0, none⟩ = some (.int .i64 (op : Int)) := hB2.cell 0
  have r1 : w2.cell? ⟨w.heap.size + 1, 1, none⟩ = some (.int .i64 (a : Int)) := hB2.cell 1
  have r2 : w2.cell? ⟨w.heap.size + 1, 2, none⟩ = some (.int .i64 (b : Int)) := hB2.cell 2
  have r3 : w2.cell? ⟨w.heap.size + 1, 3, none⟩ = some (.int .i64 (c : Int)) := hB2.cell 3
  have r4 : w2.cell? ⟨w.heap.size + 1, 4, none⟩ = some (.int .i32 imm) := hB2.cell 4
  have hcall := HEN.out w2 hkw2
  go_wp2_with (first | (at_builtin; refine wl_append rfl _ _ _ _ rfl _ _ rfl rfl ?_) | (at_make; refine wl_make rfl _ _ _ rfl _ _ rfl rfl ?_) | (at_mapUpdate; refine wl_mapUpdate rfl _ _ _ _ rfl _ _ _ rfl rfl rfl ?_) | (at_lookup; refine wl_lookup rfl _ _ _ _ rfl _ _ rfl rfl ?_) | (at_delete; refine wl_delete rfl _ _ _ _ rfl _ _ rfl rfl ?_) | (with_reducible refine wl_len rfl _ _ rfl _ rfl ?_) | (with_reducible refine wl_range rfl _ _ rfl _ rfl ?_) | (with_reducible refine wl_next rfl _ rfl _ rfl ?_) | (with_reducible refine wl_copy rfl _ _ _ _ rfl _ _ rfl rfl ?_) | (with_reducible refine wl_max rfl _ _ _ _ rfl _ _ rfl rfl ?_) | (with_reducible refine wl_min rfl _ _ _ _ rfl _ _ rfl rfl ?_))
  refine hcall.mono ?_
  rintro e w3 ⟨rfl, hk3⟩
  have hkw3 := hkw2.trans' hk3
  have hB13 := hB12.keep hk3 fun h => h
  have hB23 := hB2.keep hk3 fun h => h
  clear hcall r0 r1 r2 r3 r4
  cases mf with
  | false =>
    have hE' := HE.out
    simp only [Bool.false_and, Bool.false_eq_true, if_false] at hE'
    have HE' := Lib.hid hE'
    clear hE' HE
    go_wp2_with (first | (at_builtin; refine wl_append rfl _ _ _ _ rfl _ _ rfl rfl ?_) | (at_make; refine wl_make rfl _ _ _ rfl _ _ rfl rfl ?_) | (at_mapUpdate; refine wl_mapUpdate rfl _ _ _ _ rfl _ _ _ rfl rfl rfl ?_) | (at_lookup; refine wl_lookup rfl _ _ _ _ rfl _ _ rfl rfl ?_) | (at_delete; refine wl_delete rfl _ _ _ _ rfl _ _ rfl rfl ?_) | (with_reducible refine wl_len rfl _ _ rfl _ rfl ?_) | (with_reducible refine wl_range rfl _ _ rfl _ rfl ?_) | (with_reducible refine wl_next rfl _ rfl _ rfl ?_) | (with_reducible refine wl_copy rfl _ _ _ _ rfl _ _ rfl rfl ?_) | (with_reducible refine wl_max rfl _ _ _ _ rfl _ _ rfl rfl ?_) | (with_reducible refine wl_min rfl _ _ _ _ rfl _ _ rfl rfl ?_) | (with_reducible refine wl_stAgg rfl _ _ _ rfl _ _ rfl rfl ?_))
    refine rg_stAgg hB13 (by kernel_rfl) (by rfl) (by simp [Value.oneCell']) ?_
    intro w5 hB5 hk5 _
    go_wp2_with (first | (at_builtin; refine wl_append rfl _ _ _ _ rfl _ _ rfl rfl ?_) | (at_make; refine wl_make rfl _ _ _ rfl _ _ rfl rfl ?_) | (at_mapUpdate; refine wl_mapUpdate rfl _ _ _ _ rfl _ _ _ rfl rfl rfl ?_) | (at_lookup; refine wl_lookup rfl _ _ _ _ rfl _ _ rfl rfl ?_) | (at_delete; refine wl_delete rfl _ _ _ _ rfl _ _ rfl rfl ?_) | (with_reducible refine wl_len rfl _ _ rfl _ rfl ?_) | (with_reducible refine wl_range rfl _ _ rfl _ rfl ?_) | (with_reducible refine wl_next rfl _ rfl _ rfl ?_) | (with_reducible refine wl_copy rfl _ _ _ _ rfl _ _ rfl rfl ?_) | (with_reducible refine wl_max rfl _ _ _ _ rfl _ _ rfl rfl ?_) | (with_reducible refine wl_min rfl _ _ _ _ rfl _ _ rfl rfl ?_))
    refine ret_blk_tmp rfl rfl hB5 Tryd.underlying61 rfl (by kernel_rfl) rfl ?_
    refine ⟨by rw [HR.out, HE'.out]; rfl, hkw3.trans hk5 fun j hj e => ?_⟩
    have e2 : j = w.heap.size := e
    omega
  | true =>
    by_cases hen : en = x
    · subst hen
      have hE' := HE.out
      simp only [Bool.true_and, beq_self_eq_true, if_true] at hE'
      have HE' := Lib.hid hE'
      clear hE' HE
      have r0 : w3.cell? ⟨w.heap.size + 1, 0, none⟩ = some (.int .i64 (op : Int)) := hB23.cell 0
      have r1 : w3.cell? ⟨w.heap.size + 1, 1, none⟩ = some (.int .i64 (a : Int)) := hB23.cell 1
      have r2 : w3.cell? ⟨w.heap.size + 1, 2, none⟩ = some (.int .i64 (b : Int)) := hB23.cell 2
      have r3 : w3.cell? ⟨w.heap.size + 1, 3, none⟩ = some (.int .i64 (c : Int)) := hB23.cell 3
      have r4 : w3.cell? ⟨w.heap.size + 1, 4, none⟩ = some (.int .i32 imm) := hB23.cell 4
      go_wp2_with (first | (at_builtin; refine wl_append rfl _ _ _ _ rfl _ _ rfl rfl ?_) | (at_make; refine wl_make rfl _ _ _ rfl _ _ rfl rfl ?_) | (at_mapUpdate; refine wl_mapUpdate rfl _ _ _ _ rfl _ _ _ rfl rfl rfl ?_) | (at_lookup; refine wl_lookup rfl _ _ _ _ rfl _ _ rfl rfl ?_) | (at_delete; refine wl_delete rfl _ _ _ _ rfl _ _ rfl rfl ?_) | (with_reducible refine wl_len rfl _ _ rfl _ rfl ?_) | (with_reducible refine wl_range rfl _ _ rfl _ rfl ?_) | (with_reducible refine wl_next rfl _ rfl _ rfl ?_) | (with_reducible refine wl_copy rfl _ _ _ _ rfl _ _ rfl rfl ?_) | (with_reducible refine wl_max rfl _ _ _ _ rfl _ _ rfl rfl ?_) | (with_reducible refine wl_min rfl _ _ _ _ rfl _ _ rfl rfl ?_) | (with_reducible refine wl_stAgg rfl _ _ _ rfl _ _ rfl rfl ?_))
      refine rg_stAgg hB13 (by kernel_rfl) (by rfl) (by simp [Value.oneCell']) ?_
      intro w5 hB5 hk5 _
      go_wp2_with (first | (at_builtin; refine wl_append rfl _ _ _ _ rfl _ _ rfl rfl ?_) | (at_make; refine wl_make rfl _ _ _ rfl _ _ rfl rfl ?_) | (at_mapUpdate; refine wl_mapUpdate rfl _ _ _ _ rfl _ _ _ rfl rfl rfl ?_) | (at_lookup; refine wl_lookup rfl _ _ _ _ rfl _ _ rfl rfl ?_) | (at_delete; refine wl_delete rfl _ _ _ _ rfl _ _ rfl rfl ?_) | (with_reducible refine wl_len rfl _ _ rfl _ rfl ?_) | (with_reducible refine wl_range rfl _ _ rfl _ rfl ?_) | (with_reducible refine wl_next rfl _ rfl _ rfl ?_) | (with_reducible refine wl_copy rfl _ _ _ _ rfl _ _ rfl rfl ?_) | (with_reducible refine wl_max rfl _ _ _ _ rfl _ _ rfl rfl ?_) | (with_reducible refine wl_min rfl _ _ _ _ rfl _ _ rfl rfl ?_))
      refine ret_blk_tmp rfl rfl hB5 Tryd.underlying61 rfl (by kernel_rfl) rfl ?_
      refine ⟨by rw [HR.out, HE'.out, HI.out]; rfl, hkw3.trans hk5 fun j hj e => ?_⟩
      have e2 : j = w.heap.size := e
      omega
    · have hE' := HE.out
      have hbx : (en == x) = false := by simpa using hen
      rw [hbx] at hE'
      simp only [Bool.and_false, Bool.false_eq_true, if_false] at hE'
      have HE' := Lib.hid hE'
      have hnz : ((en : Int) == (x : Int)) = false := by simp; omega
      clear hE' HE hbx hen
      go_wp2_with (first | (at_builtin; refine wl_append rfl _ _ _ _ rfl _ _ rfl rfl ?_) | (at_make; refine wl_make rfl _ _ _ rfl _ _ rfl rfl ?_) | (at_mapUpdate; refine wl_mapUpdate rfl _ _ _ _ rfl _ _ _ rfl rfl rfl ?_) | (at_lookup; refine wl_lookup rfl _ _ _ _ rfl _ _ rfl rfl ?_) | (at_delete; refine wl_delete rfl _ _ _ _ rfl _ _ rfl rfl ?_) | (with_reducible refine wl_len rfl _ _ rfl _ rfl ?_) | (with_reducible refine wl_range rfl _ _ rfl _ rfl ?_) | (with_reducible refine wl_next rfl _ rfl _ rfl ?_) | (with_reducible refine wl_copy rfl _ _ _ _ rfl _ _ rfl rfl ?_) | (with_reducible refine wl_max rfl _ _ _ _ rfl _ _ rfl rfl ?_) | (with_reducible refine wl_min rfl _ _ _ _ rfl _ _ rfl rfl ?_) | (with_reducible refine wl_stAgg rfl _ _ _ rfl _ _ rfl rfl ?_))
      refine rg_stAgg hB13 (by kernel_rfl) (by rfl) (by simp [Value.oneCell']) ?_
      intro w5 hB5 hk5 _
      go_wp2_with (first | (at_builtin; refine wl_append rfl _ _ _ _ rfl _ _ rfl rfl ?_) | (at_make; refine wl_make rfl _ _ _ rfl _ _ rfl rfl ?_) | (at_mapUpdate; refine wl_mapUpdate rfl _ _ _ _ rfl _ _ _ rfl rfl rfl ?_) | (at_lookup; refine wl_lookup rfl _ _ _ _ rfl _ _ rfl rfl ?_) | (at_delete; refine wl_delete rfl _ _ _ _ rfl _ _ rfl rfl ?_) | (with_reducible refine wl_len rfl _ _ rfl _ rfl ?_) | (with_reducible refine wl_range rfl _ _ rfl _ rfl ?_) | (with_reducible refine wl_next rfl _ rfl _ rfl ?_) | (with_reducible refine wl_copy rfl _ _ _ _ rfl _ _ rfl rfl ?_) | (with_reducible refine wl_max rfl _ _ _ _ rfl _ _ rfl rfl ?_) | (with_reducible refine wl_min rfl _ _ _ _ rfl _ _ rfl rfl ?_))
      refine ret_blk_tmp rfl rfl hB5 Tryd.underlying61 rfl (by kernel_rfl) rfl ?_
      refine ⟨by rw [HR.out, HE'.out]; rfl, hkw3.trans hk5 fun j hj e => ?_⟩
      have e2 : j = w.heap.size := e
      omega
end
end Go.Proofs.YtaoillfofiehpaaDoor
namespace Go.Dm.Cp
open Go Go.Dm.Vm
def wordsT : List (List UInt8) := [[], [110, 111, 112], [109, 111, 118], [97, 100, 100], [115, 117, 98], [109, 117, 108], [100, 105, 118], [114, 101, 109], [97, 110, 100], [111, 114], [120, 111, 114], [115, 104, 108], [115, 104, 114], [115, 97, 114], [115, 108, 116], [115, 108, 116, 117], [97, 100, 100, 105], [109, 111, 118, 105], [109, 111, 118, 104, 105], [], [108, 100, 49], [108, 100, 50], [108, 100, 52], [108, 100, 56], [115, 116, 49], [115, 116, 50], [115, 116, 52], [115, 116, 56], [], [], [98, 101, 113], [98, 110, 101], [98, 108, 116], [98, 108, 116, 117], [106, 109, 112], [99, 97, 108, 108], [106, 114], [99, 97, 108, 108, 114], [108, 101, 97], [116, 108, 115], [115, 121, 115], [116, 114, 97, 112]]
theorem wordsT_no : ∀ i, i < 42 → isOp (i : Nat) = false → wordsT.getD i [] = [] := by decide
theorem wordsT_is : ∀ i, i < 42 → isOp (i : Nat) = true → ∃ c r, wordsT.getD i [] = c :: r := fun i hi h => by
  have : ∀ i, i < 42 → isOp (i : Nat) = true → (wordsT.getD i []).isEmpty = false := by decide
  have := this i hi h
  revert this
  generalize wordsT.getD i [] = l
  intro h
  cases l with
  | nil => cases h
  | cons c r => exact ⟨c, r, rfl⟩
end Go.Dm.Cp
namespace Go.Proofs.YtaoillfofiehpaaDoor
open Go.RowKit Go.Dm Go.Dm.Vm Go.Dm.Cp Go.Maps
theorem words_at : ∀ i, i < 42 → (#[.string { data := #[] }, .string { data := #[110, 111, 112] }, .string { data := #[109, 111, 118] }, .string { data := #[97, 100, 100] }, .string { data := #[115, 117, 98] }, .string { data := #[109, 117, 108] }, .string { data := #[100, 105, 118] }, .string { data := #[114, 101, 109] }, .string { data := #[97, 110, 100] }, .string { data := #[111, 114] }, .string { data := #[120, 111, 114] }, .string { data := #[115, 104, 108] }, .string { data := #[115, 104, 114] }, .string { data := #[115, 97, 114] }, .string { data := #[115, 108, 116] }, .string { data := #[115, 108, 116, 117] }, .string { data := #[97, 100, 100, 105] }, .string { data := #[109, 111, 118, 105] }, .string { data := #[109, 111, 118, 104, 105] }, .string { data := #[] }, .string { data := #[108, 100, 49] }, .string { data := #[108, 100, 50] }, .string { data := #[108, 100, 52] }, .string { data := #[108, 100, 56] }, .string { data := #[115, 116, 49] }, .string { data := #[115, 116, 50] }, .string { data := #[115, 116, 52] }, .string { data := #[115, 116, 56] }, .string { data := #[] }, .string { data := #[] }, .string { data := #[98, 101, 113] }, .string { data := #[98, 110, 101] }, .string { data := #[98, 108, 116] }, .string { data := #[98, 108, 116, 117] }, .string { data := #[106, 109, 112] }, .string { data := #[99, 97, 108, 108] }, .string { data := #[106, 114] }, .string { data := #[99, 97, 108, 108, 114] }, .string { data := #[108, 101, 97] }, .string { data := #[116, 108, 115] }, .string { data := #[115, 121, 115] }, .string { data := #[116, 114, 97, 112] }] : Array Value)[i]? = some (.string ⟨(wordsT.getD i []).toArray⟩) := by
  intro i hi
  rcases i with _|_|_|_|_|_|_|_|_|_|_|_|_|_|_|_|_|_|_|_|_|_|_|_|_|_|_|_|_|_|_|_|_|_|_|_|_|_|_|_|_|_|i
  all_goals first | rfl | omega
theorem words_get (i : Nat) (hi : i < 42) (h : i < (#[.string { data := #[] }, .string { data := #[110, 111, 112] }, .string { data := #[109, 111, 118] }, .string { data := #[97, 100, 100] }, .string { data := #[115, 117, 98] }, .string { data := #[109, 117, 108] }, .string { data := #[100, 105, 118] }, .string { data := #[114, 101, 109] }, .string { data := #[97, 110, 100] }, .string { data := #[111, 114] }, .string { data := #[120, 111, 114] }, .string { data := #[115, 104, 108] }, .string { data := #[115, 104, 114] }, .string { data := #[115, 97, 114] }, .string { data := #[115, 108, 116] }, .string { data := #[115, 108, 116, 117] }, .string { data := #[97, 100, 100, 105] }, .string { data := #[109, 111, 118, 105] }, .string { data := #[109, 111, 118, 104, 105] }, .string { data := #[] }, .string { data := #[108, 100, 49] }, .string { data := #[108, 100, 50] }, .string { data := #[108, 100, 52] }, .string { data := #[108, 100, 56] }, .string { data := #[115, 116, 49] }, .string { data := #[115, 116, 50] }, .string { data := #[115, 116, 52] }, .string { data := #[115, 116, 56] }, .string { data := #[] }, .string { data := #[] }, .string { data := #[98, 101, 113] }, .string { data := #[98, 110, 101] }, .string { data := #[98, 108, 116] }, .string { data := #[98, 108, 116, 117] }, .string { data := #[106, 109, 112] }, .string { data := #[99, 97, 108, 108] }, .string { data := #[106, 114] }, .string { data := #[99, 97, 108, 108, 114] }, .string { data := #[108, 101, 97] }, .string { data := #[116, 108, 115] }, .string { data := #[115, 121, 115] }, .string { data := #[116, 114, 97, 112] }] : Array Value).size) : (#[.string { data := #[] }, .string { data := #[110, 111, 112] }, .string { data := #[109, 111, 118] }, .string { data := #[97, 100, 100] }, .string { data := #[115, 117, 98] }, .string { data := #[109, 117, 108] }, .string { data := #[100, 105, 118] }, .string { data := #[114, 101, 109] }, .string { data := #[97, 110, 100] }, .string { data := #[111, 114] }, .string { data := #[120, 111, 114] }, .string { data := #[115, 104, 108] }, .string { data := #[115, 104, 114] }, .string { data := #[115, 97, 114] }, .string { data := #[115, 108, 116] }, .string { data := #[115, 108, 116, 117] }, .string { data := #[97, 100, 100, 105] }, .string { data := #[109, 111, 118, 105] }, .string { data := #[109, 111, 118, 104, 105] }, .string { data := #[] }, .string { data := #[108, 100, 49] }, .string { data := #[108, 100, 50] }, .string { data := #[108, 100, 52] }, .string { data := #[108, 100, 56] }, .string { data := #[115, 116, 49] }, .string { data := #[115, 116, 50] }, .string { data := #[115, 116, 52] }, .string { data := #[115, 116, 56] }, .string { data := #[] }, .string { data := #[] }, .string { data := #[98, 101, 113] }, .string { data := #[98, 110, 101] }, .string { data := #[98, 108, 116] }, .string { data := #[98, 108, 116, 117] }, .string { data := #[106, 109, 112] }, .string { data := #[99, 97, 108, 108] }, .string { data := #[106, 114] }, .string { data := #[99, 97, 108, 108, 114] }, .string { data := #[108, 101, 97] }, .string { data := #[116, 108, 115] }, .string { data := #[115, 121, 115] }, .string { data := #[116, 114, 97, 112] }] : Array Value)[i] = .string ⟨(wordsT.getD i []).toArray⟩ := (Array.getElem?_eq_some_iff.1 (words_at i hi)).2
section
variable {w : World}
set_option maxRecDepth 100000 in
set_option maxHeartbeats 4000000 in
theorem r12word_any (op : Int) : Calls Tryd.prog 30 #[.int .i64 op] w fun e w' => (∃ s : ByteArray, e = .returned (.string s) ∧ (isOp op = false → s = ⟨#[]⟩) ∧ (isOp op = true → ∃ c r, s.toList = c :: r)) ∧ Keep No w w' := by
  by_cases h : 0 ≤ op ∧ op < 42
  · obtain ⟨n, rfl⟩ : ∃ n : Nat, op = n := ⟨op.toNat, by omega⟩
    have hn : n < 42 := by omega
    have h0 := wordsT_no n hn
    have h1 := wordsT_is n hn
    have hw := words_get n hn (by simpa using hn)
    have HW := Lib.hid hw
    generalize wordsT.getD n [] = l at *
    have hnz : (n : Int) < 42 := by omega
    have H0 := Lib.hid h0
    have H1 := Lib.hid h1
    clear h0 h1 hw h
    go_enter Tryd.func30, Tryd.ntmps30
    go_wp2_with (first | (at_builtin; refine wl_append rfl _ _ _ _ rfl _ _ rfl rfl ?_) | (at_make; refine wl_make rfl _ _ _ rfl _ _ rfl rfl ?_) | (at_mapUpdate; refine wl_mapUpdate rfl _ _ _ _ rfl _ _ _ rfl rfl rfl ?_) | (at_lookup; refine wl_lookup rfl _ _ _ _ rfl _ _ rfl rfl ?_) | (at_delete; refine wl_delete rfl _ _ _ _ rfl _ _ rfl rfl ?_) | (with_reducible refine wl_len rfl _ _ rfl _ rfl ?_) | (with_reducible refine wl_range rfl _ _ rfl _ rfl ?_) | (with_reducible refine wl_next rfl _ rfl _ rfl ?_) | (with_reducible refine wl_copy rfl _ _ _ _ rfl _ _ rfl rfl ?_) | (with_reducible refine wl_max rfl _ _ _ _ rfl _ _ rfl rfl ?_) | (with_reducible refine wl_min rfl _ _ _ _ rfl _ _ rfl rfl ?_))
    go_ret
    refine ⟨⟨⟨l.toArray⟩, congrArg Ending.returned HW.out, fun h => by rw [H0.out h], fun h => by rw [Lib.toList_data]; exact H1.out h⟩, (Keep.refl _ _).alloc _⟩
  · have hf : isOp op = false := by unfold isOp; apply decide_eq_false; omega
    rcases Int.lt_or_le op 0 with h1 | h1
    · have h2 : decide (op < 0) = true := by simpa using h1
      go_enter Tryd.func30, Tryd.ntmps30
      go_wp2_with (first | (at_builtin; refine wl_append rfl _ _ _ _ rfl _ _ rfl rfl ?_) | (at_make; refine wl_make rfl _ _ _ rfl _ _ rfl rfl ?_) | (at_mapUpdate; refine wl_mapUpdate rfl _ _ _ _ rfl _ _ _ rfl rfl rfl ?_) | (at_lookup; refine wl_lookup rfl _ _ _ _ rfl _ _ rfl rfl ?_) | (at_delete; refine wl_delete rfl _ _ _ _ rfl _ _ rfl rfl ?_) | (with_reducible refine wl_len rfl _ _ rfl _ rfl ?_) | (with_reducible refine wl_range rfl _ _ rfl _ rfl ?_) | (with_reducible refine wl_next rfl _ rfl _ rfl ?_) | (with_reducible refine wl_copy rfl _ _ _ _ rfl _ _ rfl rfl ?_) | (with_reducible refine wl_max rfl _ _ _ _ rfl _ _ rfl rfl ?_) | (with_reducible refine wl_min rfl _ _ _ _ rfl _ _ rfl rfl ?_))
      go_ret
      exact ⟨⟨_, rfl, fun _ => rfl, fun h => by rw [hf] at h; cases h⟩, (Keep.refl _ _).alloc _⟩
    · have h2 : decide (op < 0) = false := by simpa using h1
      have h3 : op ≥ 42 := by omega
      go_enter Tryd.func30, Tryd.ntmps30
      go_wp2_with (first | (at_builtin; refine wl_append rfl _ _ _ _ rfl _ _ rfl rfl ?_) | (at_make; refine wl_make rfl _ _ _ rfl _ _ rfl rfl ?_) | (at_mapUpdate; refine wl_mapUpdate rfl _ _ _ _ rfl _ _ _ rfl rfl rfl ?_) | (at_lookup; refine wl_lookup rfl _ _ _ _ rfl _ _ rfl rfl ?_) | (at_delete; refine wl_delete rfl _ _ _ _ rfl _ _ rfl rfl ?_) | (with_reducible refine wl_len rfl _ _ rfl _ rfl ?_) | (with_reducible refine wl_range rfl _ _ rfl _ rfl ?_) | (with_reducible refine wl_next rfl _ rfl _ rfl ?_) | (with_reducible refine wl_copy rfl _ _ _ _ rfl _ _ rfl rfl ?_) | (with_reducible refine wl_max rfl _ _ _ _ rfl _ _ rfl rfl ?_) | (with_reducible refine wl_min rfl _ _ _ _ rfl _ _ rfl rfl ?_))
      go_ret
      exact ⟨⟨_, rfl, fun _ => rfl, fun h => by rw [hf] at h; cases h⟩, (Keep.refl _ _).alloc _⟩
set_option maxRecDepth 100000 in
set_option maxHeartbeats 4000000 in
theorem r12has_any (op : Int) (h1 : 1 ≤ op) (h2 : op ≤ 41) : Calls Tryd.prog 31 #[.int .i64 op] w fun e w' => e = .returned (.int .i64 (hasM op : Nat)) ∧ w = w' := by
  go_enter Tryd.func31, Tryd.ntmps31
  go_wp2_with (first | (at_builtin; refine wl_append rfl _ _ _ _ rfl _ _ rfl rfl ?_) | (at_make; refine wl_make rfl _ _ _ rfl _ _ rfl rfl ?_) | (at_mapUpdate; refine wl_mapUpdate rfl _ _ _ _ rfl _ _ _ rfl rfl rfl ?_) | (at_lookup; refine wl_lookup rfl _ _ _ _ rfl _ _ rfl rfl ?_) | (at_delete; refine wl_delete rfl _ _ _ _ rfl _ _ rfl rfl ?_) | (with_reducible refine wl_len rfl _ _ rfl _ rfl ?_) | (with_reducible refine wl_range rfl _ _ rfl _ rfl ?_) | (with_reducible refine wl_next rfl _ rfl _ rfl ?_) | (with_reducible refine wl_copy rfl _ _ _ _ rfl _ _ rfl rfl ?_) | (with_reducible refine wl_max rfl _ _ _ _ rfl _ _ rfl rfl ?_) | (with_reducible refine wl_min rfl _ _ _ _ rfl _ _ rfl rfl ?_))
  all_goals
    go_ret
    refine ⟨congrArg (fun x => Ending.returned (Value.int .i64 x)) ?_, rfl⟩
    unfold hasM
    try simp only [beq_iff_eq, beq_eq_false_iff_ne] at *
    repeat' split
    all_goals first | omega | (exfalso; simp_all; done)
end
end Go.Proofs.YtaoillfofiehpaaDoor
