/- octets: has, width, fits, Get, Set. No condition. -/
import Derived.Test.YtaoillfofiehpaaFl
import Derived.Test.YtaoillfofiehpaaVmS
import Derived.Test.YtaoillfofiehpaaProg
import Derived.Laws.MakeOwn
import Derived.Laws.OwnMore
namespace Go.Proofs.Ytaoillfofiehpaa
open Go.RowKit Go.Dm Go.Dm.Oc

theorem o_info : (Try.prog.info? 5).map (fun i => (i.zero, i.size, i.bytes)) = some (some (.int .u8 0), 1, 1) := by kernel_rfl
section
variable {A : Nat → Prop} {w : World}
theorem owidth_any (n : Int) (w : World) : Calls Try.prog 63 #[.int .i64 n] w fun e w' => e = .returned (.bool (widthB n)) ∧ w = w' := by
  go_enter Try.func63, Try.ntmps63
  go_wp2_with (first | (at_builtin; refine wl_append rfl _ _ _ _ rfl _ _ rfl rfl ?_) | (at_make; refine wl_make rfl _ _ _ rfl _ _ rfl rfl ?_) | (at_mapUpdate; refine wl_mapUpdate rfl _ _ _ _ rfl _ _ _ rfl rfl rfl ?_) | (at_lookup; refine wl_lookup rfl _ _ _ _ rfl _ _ rfl rfl ?_) | (at_delete; refine wl_delete rfl _ _ _ _ rfl _ _ rfl rfl ?_) | (with_reducible refine wl_len rfl _ _ rfl _ rfl ?_) | (with_reducible refine wl_range rfl _ _ rfl _ rfl ?_) | (with_reducible refine wl_next rfl _ rfl _ rfl ?_) | (with_reducible refine wl_copy rfl _ _ _ _ rfl _ _ rfl rfl ?_) | (with_reducible refine wl_max rfl _ _ _ _ rfl _ _ rfl rfl ?_) | (with_reducible refine wl_min rfl _ _ _ _ rfl _ _ rfl rfl ?_))
  all_goals
    go_ret
    refine ⟨congrArg (fun b => Ending.returned (Value.bool b)) ?_, rfl⟩
    rw [Bool.eq_iff_iff]
    simp only [widthB, decide_eq_true_eq, true_iff, Bool.or_eq_true, beq_iff_eq]
    omega
theorem ohas_any (many at_ size : Nat) (hm : many < 9223372036854775808) (ha : at_ < 18446744073709551616) (hs : size < 18446744073709551616) (w : World) :
    Calls Try.prog 64 #[.int .i64 (many : Int), .int .u64 (at_ : Int), .int .u64 (size : Int)] w fun e w' => e = .returned (.bool (hasB many at_ size)) ∧ w = w' := by
  go_enter Try.func64, Try.ntmps64
  go_wp2_with (first | (at_builtin; refine wl_append rfl _ _ _ _ rfl _ _ rfl rfl ?_) | (at_make; refine wl_make rfl _ _ _ rfl _ _ rfl rfl ?_) | (at_mapUpdate; refine wl_mapUpdate rfl _ _ _ _ rfl _ _ _ rfl rfl rfl ?_) | (at_lookup; refine wl_lookup rfl _ _ _ _ rfl _ _ rfl rfl ?_) | (at_delete; refine wl_delete rfl _ _ _ _ rfl _ _ rfl rfl ?_) | (with_reducible refine wl_len rfl _ _ rfl _ rfl ?_) | (with_reducible refine wl_range rfl _ _ rfl _ rfl ?_) | (with_reducible refine wl_next rfl _ rfl _ rfl ?_) | (with_reducible refine wl_copy rfl _ _ _ _ rfl _ _ rfl rfl ?_) | (with_reducible refine wl_max rfl _ _ _ _ rfl _ _ rfl rfl ?_) | (with_reducible refine wl_min rfl _ _ _ _ rfl _ _ rfl rfl ?_))
  all_goals
    go_ret
    refine ⟨congrArg (fun b => Ending.returned (Value.bool b)) ?_, rfl⟩
    rw [Bool.eq_iff_iff]
    simp only [hasB, Bool.and_eq_true, decide_eq_true_eq, Bool.false_eq_true, false_iff]
    omega
theorem ofits_any {v : Value} (b : List UInt8) (at_ : Nat) (n : Int) (hb : Bts A w v b) (hl : b.length ≤ 1099511627776) (ha : at_ < 18446744073709551616) (h0 : -9223372036854775808 ≤ n) (h1 : n < 9223372036854775808) :
    Calls Try.prog 55 #[v, .int .u64 (at_ : Int), .int .i64 n] w fun e w' => e = .returned (.int .i64 (fitsE b.length at_ n : Nat)) ∧ w = w' := by
  obtain ⟨a, c, rfl, hc, hc2⟩ := hb.shape
  have hd : fitsE b.length at_ n = if widthB n then if hasB b.length at_ n.toNat then 0 else 10 else 1 := rfl
  have HD := Lib.hid hd
  clear hd
  go_enter Try.func55, Try.ntmps55
  go_wp2_with (first | (at_builtin; refine wl_append rfl _ _ _ _ rfl _ _ rfl rfl ?_) | (at_make; refine wl_make rfl _ _ _ rfl _ _ rfl rfl ?_) | (at_mapUpdate; refine wl_mapUpdate rfl _ _ _ _ rfl _ _ _ rfl rfl rfl ?_) | (at_lookup; refine wl_lookup rfl _ _ _ _ rfl _ _ rfl rfl ?_) | (at_delete; refine wl_delete rfl _ _ _ _ rfl _ _ rfl rfl ?_) | (with_reducible refine wl_len rfl _ _ rfl _ rfl ?_) | (with_reducible refine wl_range rfl _ _ rfl _ rfl ?_) | (with_reducible refine wl_next rfl _ rfl _ rfl ?_) | (with_reducible refine wl_copy rfl _ _ _ _ rfl _ _ rfl rfl ?_) | (with_reducible refine wl_max rfl _ _ _ _ rfl _ _ rfl rfl ?_) | (with_reducible refine wl_min rfl _ _ _ _ rfl _ _ rfl rfl ?_))
  refine (owidth_any n _).mono ?_
  rintro e x ⟨rfl, rfl⟩
  cases hw : widthB n with
  | false =>
    have HE := Lib.hid (show fitsE b.length at_ n = 1 by rw [HD.out, hw]; rfl)
    clear HD
    go_wp2_with (first | (at_builtin; refine wl_append rfl _ _ _ _ rfl _ _ rfl rfl ?_) | (at_make; refine wl_make rfl _ _ _ rfl _ _ rfl rfl ?_) | (at_mapUpdate; refine wl_mapUpdate rfl _ _ _ _ rfl _ _ _ rfl rfl rfl ?_) | (at_lookup; refine wl_lookup rfl _ _ _ _ rfl _ _ rfl rfl ?_) | (at_delete; refine wl_delete rfl _ _ _ _ rfl _ _ rfl rfl ?_) | (with_reducible refine wl_len rfl _ _ rfl _ rfl ?_) | (with_reducible refine wl_range rfl _ _ rfl _ rfl ?_) | (with_reducible refine wl_next rfl _ rfl _ rfl ?_) | (with_reducible refine wl_copy rfl _ _ _ _ rfl _ _ rfl rfl ?_) | (with_reducible refine wl_max rfl _ _ _ _ rfl _ _ rfl rfl ?_) | (with_reducible refine wl_min rfl _ _ _ _ rfl _ _ rfl rfl ?_))
    go_ret
    rw [HE.out]
    exact ⟨rfl, rfl⟩
  | true =>
    have hn : n = (n.toNat : Int) := by simp only [widthB, decide_eq_true_eq] at hw; omega
    have hn8 : n.toNat ≤ 8 := by simp only [widthB, decide_eq_true_eq] at hw; omega
    have HE := Lib.hid (show fitsE b.length at_ n = if hasB b.length at_ n.toNat then 0 else 10 by rw [HD.out, hw]; rfl)
    clear HD hw
    generalize n.toNat = k at *
    subst hn
    go_wp2_with (first | (at_builtin; refine wl_append rfl _ _ _ _ rfl _ _ rfl rfl ?_) | (at_make; refine wl_make rfl _ _ _ rfl _ _ rfl rfl ?_) | (at_mapUpdate; refine wl_mapUpdate rfl _ _ _ _ rfl _ _ _ rfl rfl rfl ?_) | (at_lookup; refine wl_lookup rfl _ _ _ _ rfl _ _ rfl rfl ?_) | (at_delete; refine wl_delete rfl _ _ _ _ rfl _ _ rfl rfl ?_) | (with_reducible refine wl_len rfl _ _ rfl _ rfl ?_) | (with_reducible refine wl_range rfl _ _ rfl _ rfl ?_) | (with_reducible refine wl_next rfl _ rfl _ rfl ?_) | (with_reducible refine wl_copy rfl _ _ _ _ rfl _ _ rfl rfl ?_) | (with_reducible refine wl_max rfl _ _ _ _ rfl _ _ rfl rfl ?_) | (with_reducible refine wl_min rfl _ _ _ _ rfl _ _ rfl rfl ?_))
    refine (ohas_any b.length at_ k (by omega) ha (by omega) _).mono ?_
    rintro e x ⟨rfl, rfl⟩
    cases hh : hasB b.length at_ k with
    | false =>
      have HE2 := Lib.hid (show fitsE b.length at_ (k : Int) = 10 by rw [HE.out, hh]; rfl)
      clear HE
      go_wp2_with (first | (at_builtin; refine wl_append rfl _ _ _ _ rfl _ _ rfl rfl ?_) | (at_make; refine wl_make rfl _ _ _ rfl _ _ rfl rfl ?_) | (at_mapUpdate; refine wl_mapUpdate rfl _ _ _ _ rfl _ _ _ rfl rfl rfl ?_) | (at_lookup; refine wl_lookup rfl _ _ _ _ rfl _ _ rfl rfl ?_) | (at_delete; refine wl_delete rfl _ _ _ _ rfl _ _ rfl rfl ?_) | (with_reducible refine wl_len rfl _ _ rfl _ rfl ?_) | (with_reducible refine wl_range rfl _ _ rfl _ rfl ?_) | (with_reducible refine wl_next rfl _ rfl _ rfl ?_) | (with_reducible refine wl_copy rfl _ _ _ _ rfl _ _ rfl rfl ?_) | (with_reducible refine wl_max rfl _ _ _ _ rfl _ _ rfl rfl ?_) | (with_reducible refine wl_min rfl _ _ _ _ rfl _ _ rfl rfl ?_))
      go_ret
      rw [HE2.out]
      exact ⟨rfl, rfl⟩
    | true =>
      have HE2 := Lib.hid (show fitsE b.length at_ (k : Int) = 0 by rw [HE.out, hh]; rfl)
      clear HE
      go_wp2_with (first | (at_builtin; refine wl_append rfl _ _ _ _ rfl _ _ rfl rfl ?_) | (at_make; refine wl_make rfl _ _ _ rfl _ _ rfl rfl ?_) | (at_mapUpdate; refine wl_mapUpdate rfl _ _ _ _ rfl _ _ _ rfl rfl rfl ?_) | (at_lookup; refine wl_lookup rfl _ _ _ _ rfl _ _ rfl rfl ?_) | (at_delete; refine wl_delete rfl _ _ _ _ rfl _ _ rfl rfl ?_) | (with_reducible refine wl_len rfl _ _ rfl _ rfl ?_) | (with_reducible refine wl_range rfl _ _ rfl _ rfl ?_) | (with_reducible refine wl_next rfl _ rfl _ rfl ?_) | (with_reducible refine wl_copy rfl _ _ _ _ rfl _ _ rfl rfl ?_) | (with_reducible refine wl_max rfl _ _ _ _ rfl _ _ rfl rfl ?_) | (with_reducible refine wl_min rfl _ _ _ _ rfl _ _ rfl rfl ?_))
      go_ret
      rw [HE2.out]
      exact ⟨rfl, rfl⟩
set_option maxRecDepth 100000 in
set_option maxHeartbeats 2000000 in
theorem oget_any {v : Value} (b : List UInt8) (at_ : Nat) (n : Int) (hb : Bts A w v b) (hl : b.length ≤ 1099511627776) (ha : at_ < 18446744073709551616) (h0 : -9223372036854775808 ≤ n) (h1 : n < 9223372036854775808) :
    Calls Try.prog 42 #[v, .int .u64 (at_ : Int), .int .i64 n] w fun e w' => e = .returned (.tuple #[.int .u64 (getX b at_ n : Nat), .int .i64 (fitsE b.length at_ n : Nat)]) ∧ w = w' := by
  have hfit := ofits_any b at_ n hb hl ha h0 h1
  obtain ⟨a, c, rfl, hc, hc2⟩ := hb.shape
  obtain ⟨X, hX⟩ : ∃ X, getX b at_ n = X := ⟨_, rfl⟩
  have hx : getX b at_ n = if fitsE b.length at_ n = 0 then leN ((b.drop at_).take n.toNat) else 0 := rfl
  have hparts := @fits_parts b.length at_ n
  rw [hX] at hx ⊢
  generalize fitsE b.length at_ n = er at *
  have HX := Lib.hid hx
  clear hx hX
  go_enter Try.func42, Try.ntmps42
  go_wp2_with (first | (at_builtin; refine wl_append rfl _ _ _ _ rfl _ _ rfl rfl ?_) | (at_make; refine wl_make rfl _ _ _ rfl _ _ rfl rfl ?_) | (at_mapUpdate; refine wl_mapUpdate rfl _ _ _ _ rfl _ _ _ rfl rfl rfl ?_) | (at_lookup; refine wl_lookup rfl _ _ _ _ rfl _ _ rfl rfl ?_) | (at_delete; refine wl_delete rfl _ _ _ _ rfl _ _ rfl rfl ?_) | (with_reducible refine wl_len rfl _ _ rfl _ rfl ?_) | (with_reducible refine wl_range rfl _ _ rfl _ rfl ?_) | (with_reducible refine wl_next rfl _ rfl _ rfl ?_) | (with_reducible refine wl_copy rfl _ _ _ _ rfl _ _ rfl rfl ?_) | (with_reducible refine wl_max rfl _ _ _ _ rfl _ _ rfl rfl ?_) | (with_reducible refine wl_min rfl _ _ _ _ rfl _ _ rfl rfl ?_))
  refine hfit.mono ?_
  rintro e x ⟨rfl, rfl⟩
  clear hfit
  by_cases hf : er = 0
  · subst hf
    obtain ⟨hn, hat, hsz⟩ := hparts rfl
    have HE := Lib.hid (show X = leN ((b.drop at_).take n.toNat) by rw [HX.out, if_pos rfl])
    clear HX hparts
    have hnn : n = (n.toNat : Int) := by omega
    have hn8 : n.toNat ≤ 8 := by omega
    have hn1 : 1 ≤ n.toNat := by omega
    generalize n.toNat = k at *
    subst hnn
    clear hn
    go_wp2_with (first | (at_builtin; refine wl_append rfl _ _ _ _ rfl _ _ rfl rfl ?_) | (at_make; refine wl_make rfl _ _ _ rfl _ _ rfl rfl ?_) | (at_mapUpdate; refine wl_mapUpdate rfl _ _ _ _ rfl _ _ _ rfl rfl rfl ?_) | (at_lookup; refine wl_lookup rfl _ _ _ _ rfl _ _ rfl rfl ?_) | (at_delete; refine wl_delete rfl _ _ _ _ rfl _ _ rfl rfl ?_) | (with_reducible refine wl_len rfl _ _ rfl _ rfl ?_) | (with_reducible refine wl_range rfl _ _ rfl _ rfl ?_) | (with_reducible refine wl_next rfl _ rfl _ rfl ?_) | (with_reducible refine wl_copy rfl _ _ _ _ rfl _ _ rfl rfl ?_) | (with_reducible refine wl_max rfl _ _ _ _ rfl _ _ rfl rfl ?_) | (with_reducible refine wl_min rfl _ _ _ _ rfl _ _ rfl rfl ?_))
    go_loopw [9, 19] (fun xv iv wr => ∃ i : Nat, xv = .int .u64 (leN ((b.drop at_).take i) : Nat) ∧ iv = .int .i64 i ∧ i ≤ k ∧ wr = w) (fun _ iv _ => k - (intOf iv).toNat)
    case atStart => exact ⟨0, rfl, rfl, Nat.zero_le _, rfl⟩
    case round =>
      obtain ⟨i, rfl, rfl, hi, rfl⟩ := hrel
      rcases Nat.lt_or_ge i k with hlt | hge
      · obtain ⟨g0, off, cap, e, hg0, hgl, _, _, hcell⟩ := hb.at (by omega)
        cases e
        have hin : at_ + i < b.length := by omega
        have qb : wr.cell? ⟨g0, off + (at_ + i), none⟩ = some (bv b[at_ + i]) := hcell (at_ + i) _ (by rw [List.getElem?_map, List.getElem?_eq_getElem hin]; rfl)
        have htk : (b.drop at_).take (i + 1) = (b.drop at_).take i ++ [b[at_ + i]] := by
          rw [List.take_succ_eq_append_getElem (by rw [List.length_drop]; omega), List.getElem_drop]
        have hlen : ((b.drop at_).take i).length = i := by rw [List.length_take, List.length_drop]; omega
        have hnx : leN ((b.drop at_).take (i + 1)) = leN ((b.drop at_).take i) + 2 ^ (8 * i) * b[at_ + i].toNat := by rw [htk, leN_snoc, hlen, pow256]
        have hlt8 : leN ((b.drop at_).take i) < 2 ^ (8 * i) := by
          have := leN_lt ((b.drop at_).take i)
          rw [hlen, pow256] at this
          exact this
        have hbb := b[at_ + i].toNat_lt
        generalize b[at_ + i] = y at *
        generalize leN ((b.drop at_).take i) = x at *
        have hor := or_top x y.toNat (8 * i) hlt8
        have hp64 : y.toNat * 2 ^ (8 * i) < 18446744073709551616 := by
          have h1 : y.toNat * 2 ^ (8 * i) < 256 * 2 ^ (8 * i) := Nat.mul_lt_mul_of_pos_right hbb (Nat.two_pow_pos _)
          have h2 : 256 * 2 ^ (8 * i) = 2 ^ (8 * (i + 1)) := by rw [show (256 : Nat) = 2 ^ 8 by rfl, ← Nat.pow_add]; congr 1; omega
          have h3 : 2 ^ (8 * (i + 1)) ≤ 2 ^ 64 := Nat.pow_le_pow_right (by decide) (by omega)
          omega
        have hx64 : x < 18446744073709551616 := by
          have h3 : 2 ^ (8 * i) ≤ 2 ^ 64 := Nat.pow_le_pow_right (by decide) (by omega)
          omega
        have hwr : IntKind.u64.wrap ((y.toNat : Int) * 2 ^ (8 * i)) = ((y.toNat * 2 ^ (8 * i) : Nat) : Int) := by
          rw [show ((y.toNat : Int) * 2 ^ (8 * i)) = ((y.toNat * 2 ^ (8 * i) : Nat) : Int) by push_cast; rfl, IntKind.wrap_u64]
          omega
        have hbor := u64_or_nat x (y.toNat * 2 ^ (8 * i)) hx64 hp64
        rw [hor, ← hnx, ← hwr] at hbor
        have HB := Lib.hid hbor
        have hltz : (i : Int) < (k : Int) := by omega
        have hsum : (at_ : Int) + (i : Int) = ((at_ + i : Nat) : Int) := by omega
        have hinz : ((at_ + i : Nat) : Int) < (b.length : Int) := by omega
        have hatz : (at_ : Int) < 9223372036854775808 := by omega
        have hi8 : (i : Int) ≤ 8 := by omega
        unfold bv at qb
        clear hor hnx htk hlt8 hcell HE hwr hbor hp64
        obtain ⟨j, hj⟩ : ∃ j, j = at_ + i := ⟨_, rfl⟩
        rw [← hj] at hsum hinz qb
        have hjz : (j : Int) < 9223372036854775808 := by omega
        clear hj hin
        go_wp2_with (first | (at_builtin; refine wl_append rfl _ _ _ _ rfl _ _ rfl rfl ?_) | (at_make; refine wl_make rfl _ _ _ rfl _ _ rfl rfl ?_) | (at_mapUpdate; refine wl_mapUpdate rfl _ _ _ _ rfl _ _ _ rfl rfl rfl ?_) | (at_lookup; refine wl_lookup rfl _ _ _ _ rfl _ _ rfl rfl ?_) | (at_delete; refine wl_delete rfl _ _ _ _ rfl _ _ rfl rfl ?_) | (with_reducible refine wl_len rfl _ _ rfl _ rfl ?_) | (with_reducible refine wl_range rfl _ _ rfl _ rfl ?_) | (with_reducible refine wl_next rfl _ rfl _ rfl ?_) | (with_reducible refine wl_copy rfl _ _ _ _ rfl _ _ rfl rfl ?_) | (with_reducible refine wl_max rfl _ _ _ _ rfl _ _ rfl rfl ?_) | (with_reducible refine wl_min rfl _ _ _ _ rfl _ _ rfl rfl ?_))
        go_roundw
        case rel => exact ⟨i + 1, by rw [HB.out], by go_num, hlt, trivial⟩
        case measure => simp [intOf]; omega
      · obtain rfl : i = k := Nat.le_antisymm hi hge
        go_wp2_with (first | (at_builtin; refine wl_append rfl _ _ _ _ rfl _ _ rfl rfl ?_) | (at_make; refine wl_make rfl _ _ _ rfl _ _ rfl rfl ?_) | (at_mapUpdate; refine wl_mapUpdate rfl _ _ _ _ rfl _ _ _ rfl rfl rfl ?_) | (at_lookup; refine wl_lookup rfl _ _ _ _ rfl _ _ rfl rfl ?_) | (at_delete; refine wl_delete rfl _ _ _ _ rfl _ _ rfl rfl ?_) | (with_reducible refine wl_len rfl _ _ rfl _ rfl ?_) | (with_reducible refine wl_range rfl _ _ rfl _ rfl ?_) | (with_reducible refine wl_next rfl _ rfl _ rfl ?_) | (with_reducible refine wl_copy rfl _ _ _ _ rfl _ _ rfl rfl ?_) | (with_reducible refine wl_max rfl _ _ _ _ rfl _ _ rfl rfl ?_) | (with_reducible refine wl_min rfl _ _ _ _ rfl _ _ rfl rfl ?_))
        go_ret2
        rw [HE.out]
        exact ⟨rfl, rfl⟩
  · have HE := Lib.hid (show X = 0 by rw [HX.out, if_neg hf])
    clear HX hparts
    have hne : (er : Int) ≠ 0 := by omega
    go_wp2_with (first | (at_builtin; refine wl_append rfl _ _ _ _ rfl _ _ rfl rfl ?_) | (at_make; refine wl_make rfl _ _ _ rfl _ _ rfl rfl ?_) | (at_mapUpdate; refine wl_mapUpdate rfl _ _ _ _ rfl _ _ _ rfl rfl rfl ?_) | (at_lookup; refine wl_lookup rfl _ _ _ _ rfl _ _ rfl rfl ?_) | (at_delete; refine wl_delete rfl _ _ _ _ rfl _ _ rfl rfl ?_) | (with_reducible refine wl_len rfl _ _ rfl _ rfl ?_) | (with_reducible refine wl_range rfl _ _ rfl _ rfl ?_) | (with_reducible refine wl_next rfl _ rfl _ rfl ?_) | (with_reducible refine wl_copy rfl _ _ _ _ rfl _ _ rfl rfl ?_) | (with_reducible refine wl_max rfl _ _ _ _ rfl _ _ rfl rfl ?_) | (with_reducible refine wl_min rfl _ _ _ _ rfl _ _ rfl rfl ?_))
    go_ret2
    rw [HE.out]
    exact ⟨rfl, rfl⟩
set_option maxRecDepth 100000 in
set_option maxHeartbeats 400000 in
theorem oclone_any (v : Value) (xs : List UInt8) (w : World) (h : Bts A w v xs) (b1 : xs.length ≤ 1099511627776) :
    Calls Try.prog 56 #[v] w fun e w' => ∃ v', e = .returned v' ∧ w'.ownsRow w.heap.size 5 1 v' xs.length (xs.map bv) ∧ Keep No w w' := by
  obtain ⟨a, c, rfl, hc, hc2⟩ := h.shape
  have qT := fun (w : World) (a : Option Addr) (n c n' c' : Nat) => Lib.run_eql_slice_nil (P := Try.prog) w _ _ a n c n' c' Try.underlying25
  cases a with
  | none =>
    have e0 : xs.length = 0 := by
      obtain ⟨_, a', cap, e, c1, _, c2, _⟩ := h
      cases e
      have := c2 rfl
      omega
    obtain rfl : xs = [] := List.eq_nil_of_length_eq_zero e0
    go_enter Try.func56, Try.ntmps56
    go_wp2_with (first | (at_builtin; refine wl_append rfl _ _ _ _ rfl _ _ rfl rfl ?_) | (at_make; refine wl_make rfl _ _ _ rfl _ _ rfl rfl ?_) | (at_mapUpdate; refine wl_mapUpdate rfl _ _ _ _ rfl _ _ _ rfl rfl rfl ?_) | (at_lookup; refine wl_lookup rfl _ _ _ _ rfl _ _ rfl rfl ?_) | (at_delete; refine wl_delete rfl _ _ _ _ rfl _ _ rfl rfl ?_) | (with_reducible refine wl_len rfl _ _ rfl _ rfl ?_) | (with_reducible refine wl_range rfl _ _ rfl _ rfl ?_) | (with_reducible refine wl_next rfl _ rfl _ rfl ?_) | (with_reducible refine wl_copy rfl _ _ _ _ rfl _ _ rfl rfl ?_) | (with_reducible refine wl_max rfl _ _ _ _ rfl _ _ rfl rfl ?_) | (with_reducible refine wl_min rfl _ _ _ _ rfl _ _ rfl rfl ?_))
    go_ret
    exact ⟨_, rfl, World.ownsRow_nil _ _ _ _, Keep.refl _ _⟩
  | some a =>
    go_enter Try.func56, Try.ntmps56
    go_wp2_with (first | (at_builtin; refine wl_append rfl _ _ _ _ rfl _ _ rfl rfl ?_) | (at_make; refine wl_make rfl _ _ _ rfl _ _ rfl rfl ?_) | (at_mapUpdate; refine wl_mapUpdate rfl _ _ _ _ rfl _ _ _ rfl rfl rfl ?_) | (at_lookup; refine wl_lookup rfl _ _ _ _ rfl _ _ rfl rfl ?_) | (at_delete; refine wl_delete rfl _ _ _ _ rfl _ _ rfl rfl ?_) | (with_reducible refine wl_len rfl _ _ rfl _ rfl ?_) | (with_reducible refine wl_range rfl _ _ rfl _ rfl ?_) | (with_reducible refine wl_next rfl _ rfl _ rfl ?_) | (with_reducible refine wl_copy rfl _ _ _ _ rfl _ _ rfl rfl ?_) | (with_reducible refine wl_max rfl _ _ _ _ rfl _ _ rfl rfl ?_) | (with_reducible refine wl_min rfl _ _ _ _ rfl _ _ rfl rfl ?_))
    have hown : (w.alloc (.cells #[] 5)).ownsRow w.heap.size 5 1 (.slice (some ⟨w.heap.size, 0, none⟩) 0 0) 0 [] := World.ownsRow_made w #[] 0 (Nat.le_refl _) (Nat.zero_le _) rfl
    refine rg_append w.heap.size 5 _ 1 1 Try.underlying25 o_info rfl (by decide) hown (h.keep ((Keep.refl No w).alloc _) fun _ _ _ h => h) (bv_one _) (by unfold maxLen; omega) (by omega) (by simp) ?_
    intro v' w2 ho hk _ _
    simp only [Nat.zero_add, List.nil_append] at ho
    go_wp2_with (first | (at_builtin; refine wl_append rfl _ _ _ _ rfl _ _ rfl rfl ?_) | (at_make; refine wl_make rfl _ _ _ rfl _ _ rfl rfl ?_) | (at_mapUpdate; refine wl_mapUpdate rfl _ _ _ _ rfl _ _ _ rfl rfl rfl ?_) | (at_lookup; refine wl_lookup rfl _ _ _ _ rfl _ _ rfl rfl ?_) | (at_delete; refine wl_delete rfl _ _ _ _ rfl _ _ rfl rfl ?_) | (with_reducible refine wl_len rfl _ _ rfl _ rfl ?_) | (with_reducible refine wl_range rfl _ _ rfl _ rfl ?_) | (with_reducible refine wl_next rfl _ rfl _ rfl ?_) | (with_reducible refine wl_copy rfl _ _ _ _ rfl _ _ rfl rfl ?_) | (with_reducible refine wl_max rfl _ _ _ _ rfl _ _ rfl rfl ?_) | (with_reducible refine wl_min rfl _ _ _ _ rfl _ _ rfl rfl ?_))
    go_ret
    exact ⟨_, rfl, ho, ((Keep.refl No w).alloc _).trans hk fun j hj e => by
      simp only [Value.ownBlock, Option.some.injEq] at e; omega⟩
/-- bytes with a number -/
def setX (b : List UInt8) (at_ : Nat) (n : Int) (x : Nat) : List UInt8 := setR b at_ (le n.toNat x)
theorem oset_bad {v : Value} (b : List UInt8) (at_ : Nat) (n : Int) (x : Nat) (hb : Bts A w v b) (hl : b.length ≤ 1099511627776) (ha : at_ < 18446744073709551616) (h0 : -9223372036854775808 ≤ n) (h1 : n < 9223372036854775808) (hf : fitsE b.length at_ n ≠ 0) :
    Calls Try.prog 38 #[v, .int .u64 (at_ : Int), .int .i64 n, .int .u64 (x : Int)] w fun e w' => e = .returned (.tuple #[.slice none 0 0, .int .i64 (fitsE b.length at_ n : Nat)]) ∧ w = w' := by
  have hfit := ofits_any b at_ n hb hl ha h0 h1
  obtain ⟨a, c, rfl, hc, hc2⟩ := hb.shape
  generalize fitsE b.length at_ n = er at *
  have hne : (er : Int) ≠ 0 := by omega
  go_enter Try.func38, Try.ntmps38
  go_wp2_with (first | (at_builtin; refine wl_append rfl _ _ _ _ rfl _ _ rfl rfl ?_) | (at_make; refine wl_make rfl _ _ _ rfl _ _ rfl rfl ?_) | (at_mapUpdate; refine wl_mapUpdate rfl _ _ _ _ rfl _ _ _ rfl rfl rfl ?_) | (at_lookup; refine wl_lookup rfl _ _ _ _ rfl _ _ rfl rfl ?_) | (at_delete; refine wl_delete rfl _ _ _ _ rfl _ _ rfl rfl ?_) | (with_reducible refine wl_len rfl _ _ rfl _ rfl ?_) | (with_reducible refine wl_range rfl _ _ rfl _ rfl ?_) | (with_reducible refine wl_next rfl _ rfl _ rfl ?_) | (with_reducible refine wl_copy rfl _ _ _ _ rfl _ _ rfl rfl ?_) | (with_reducible refine wl_max rfl _ _ _ _ rfl _ _ rfl rfl ?_) | (with_reducible refine wl_min rfl _ _ _ _ rfl _ _ rfl rfl ?_))
  refine hfit.mono ?_
  rintro e x ⟨rfl, rfl⟩
  go_wp2_with (first | (at_builtin; refine wl_append rfl _ _ _ _ rfl _ _ rfl rfl ?_) | (at_make; refine wl_make rfl _ _ _ rfl _ _ rfl rfl ?_) | (at_mapUpdate; refine wl_mapUpdate rfl _ _ _ _ rfl _ _ _ rfl rfl rfl ?_) | (at_lookup; refine wl_lookup rfl _ _ _ _ rfl _ _ rfl rfl ?_) | (at_delete; refine wl_delete rfl _ _ _ _ rfl _ _ rfl rfl ?_) | (with_reducible refine wl_len rfl _ _ rfl _ rfl ?_) | (with_reducible refine wl_range rfl _ _ rfl _ rfl ?_) | (with_reducible refine wl_next rfl _ rfl _ rfl ?_) | (with_reducible refine wl_copy rfl _ _ _ _ rfl _ _ rfl rfl ?_) | (with_reducible refine wl_max rfl _ _ _ _ rfl _ _ rfl rfl ?_) | (with_reducible refine wl_min rfl _ _ _ _ rfl _ _ rfl rfl ?_))
  go_ret2
  exact ⟨rfl, rfl⟩
set_option maxRecDepth 100000 in
set_option maxHeartbeats 2000000 in
theorem oset_any {v : Value} (b : List UInt8) (at_ : Nat) (n : Int) (x : Nat) (hb : Bts A w v b) (hl : b.length ≤ 1099511627776) (ha : at_ < 18446744073709551616) (hx : x < 18446744073709551616) (hf : fitsE b.length at_ n = 0) :
    Calls Try.prog 38 #[v, .int .u64 (at_ : Int), .int .i64 n, .int .u64 (x : Int)] w fun e w' => ∃ v', e = .returned (.tuple #[v', .int .i64 0]) ∧ w'.ownsRow w.heap.size 5 1 v' b.length ((setX b at_ n x).map bv) ∧ Keep No w w' := by
  obtain ⟨hn, hat, hsz⟩ := fits_parts hf
  have hfit := ofits_any b at_ n hb hl ha (by omega) (by omega)
  have hcl := oclone_any v b w hb hl
  rw [hf] at hfit
  unfold setX
  have hnn : n = (n.toNat : Int) := by omega
  have hn8 : n.toNat ≤ 8 := by omega
  have hn1 : 1 ≤ n.toNat := by omega
  generalize n.toNat = k at *
  subst hnn
  clear hn hf
  obtain ⟨a, c, rfl, hc, hc2⟩ := hb.shape
  go_enter Try.func38, Try.ntmps38
  go_wp2_with (first | (at_builtin; refine wl_append rfl _ _ _ _ rfl _ _ rfl rfl ?_) | (at_make; refine wl_make rfl _ _ _ rfl _ _ rfl rfl ?_) | (at_mapUpdate; refine wl_mapUpdate rfl _ _ _ _ rfl _ _ _ rfl rfl rfl ?_) | (at_lookup; refine wl_lookup rfl _ _ _ _ rfl _ _ rfl rfl ?_) | (at_delete; refine wl_delete rfl _ _ _ _ rfl _ _ rfl rfl ?_) | (with_reducible refine wl_len rfl _ _ rfl _ rfl ?_) | (with_reducible refine wl_range rfl _ _ rfl _ rfl ?_) | (with_reducible refine wl_next rfl _ rfl _ rfl ?_) | (with_reducible refine wl_copy rfl _ _ _ _ rfl _ _ rfl rfl ?_) | (with_reducible refine wl_max rfl _ _ _ _ rfl _ _ rfl rfl ?_) | (with_reducible refine wl_min rfl _ _ _ _ rfl _ _ rfl rfl ?_))
  refine hfit.mono ?_
  rintro e W ⟨rfl, rfl⟩
  clear hfit
  go_wp2_with (first | (at_builtin; refine wl_append rfl _ _ _ _ rfl _ _ rfl rfl ?_) | (at_make; refine wl_make rfl _ _ _ rfl _ _ rfl rfl ?_) | (at_mapUpdate; refine wl_mapUpdate rfl _ _ _ _ rfl _ _ _ rfl rfl rfl ?_) | (at_lookup; refine wl_lookup rfl _ _ _ _ rfl _ _ rfl rfl ?_) | (at_delete; refine wl_delete rfl _ _ _ _ rfl _ _ rfl rfl ?_) | (with_reducible refine wl_len rfl _ _ rfl _ rfl ?_) | (with_reducible refine wl_range rfl _ _ rfl _ rfl ?_) | (with_reducible refine wl_next rfl _ rfl _ rfl ?_) | (with_reducible refine wl_copy rfl _ _ _ _ rfl _ _ rfl rfl ?_) | (with_reducible refine wl_max rfl _ _ _ _ rfl _ _ rfl rfl ?_) | (with_reducible refine wl_min rfl _ _ _ _ rfl _ _ rfl rfl ?_))
  refine hcl.mono ?_
  rintro e W ⟨v', rfl, ho, hK⟩
  clear hcl
  have hbl : 0 < b.length := by omega
  rcases ho.2 with ⟨_, h0⟩ | ⟨g, cap, cur, rfl, hgb, _⟩
  · omega
  go_wp2_with (first | (at_builtin; refine wl_append rfl _ _ _ _ rfl _ _ rfl rfl ?_) | (at_make; refine wl_make rfl _ _ _ rfl _ _ rfl rfl ?_) | (at_mapUpdate; refine wl_mapUpdate rfl _ _ _ _ rfl _ _ _ rfl rfl rfl ?_) | (at_lookup; refine wl_lookup rfl _ _ _ _ rfl _ _ rfl rfl ?_) | (at_delete; refine wl_delete rfl _ _ _ _ rfl _ _ rfl rfl ?_) | (with_reducible refine wl_len rfl _ _ rfl _ rfl ?_) | (with_reducible refine wl_range rfl _ _ rfl _ rfl ?_) | (with_reducible refine wl_next rfl _ rfl _ rfl ?_) | (with_reducible refine wl_copy rfl _ _ _ _ rfl _ _ rfl rfl ?_) | (with_reducible refine wl_max rfl _ _ _ _ rfl _ _ rfl rfl ?_) | (with_reducible refine wl_min rfl _ _ _ _ rfl _ _ rfl rfl ?_))
  go_loopw [23] (fun iv wr => ∃ i : Nat, iv = .int .i64 i ∧ i ≤ k ∧ wr.ownsRow w.heap.size 5 1 (.slice (some ⟨g, 0, none⟩) b.length cap) b.length ((setR b at_ ((le k x).take i)).map bv) ∧ Keep No w wr) (fun iv _ => k - (intOf iv).toNat)
  case atStart => exact ⟨0, rfl, Nat.zero_le _, ho, hK⟩
  case round =>
    clear ho hK
    obtain ⟨i, rfl, hi, ho, hK⟩ := hrel
    rcases Nat.lt_or_ge i k with hlt | hge
    · have hin : at_ + i < b.length := by omega
      have hle := le_len k x
      have htk : (le k x).take (i + 1) = (le k x).take i ++ [UInt8.ofNat (x / 256 ^ i % 256)] := by
        rw [List.take_succ_eq_append_getElem (by omega), le_get k x i hlt]
      have hlen : ((le k x).take i).length = i := by rw [List.length_take]; omega
      have hnx : setR b at_ ((le k x).take (i + 1)) = (setR b at_ ((le k x).take i)).set (at_ + i) (UInt8.ofNat (x / 256 ^ i % 256)) := by rw [htk, setR_snoc, hlen]
      have hsl : (setR b at_ ((le k x).take i)).length = b.length := setR_len _ _ _
      have hc1 : wr.cell? ⟨g, at_ + i, none⟩ = some (bv ((setR b at_ ((le k x).take i))[at_ + i]'(by omega))) := by
        rw [ho.cellAt (at_ + i) (by omega), List.getElem?_map, List.getElem?_eq_getElem (by omega)]
        rfl
      have hfz : wr.frozen? ⟨g, at_ + i, none⟩ = false := ho.frozenAt _
      have ho2 := ho.stored (at_ + i) (bv (UInt8.ofNat (x / 256 ^ i % 256)))
      rw [← List.map_set, ← hnx] at ho2
      have hshr : (x : Int) / 2 ^ (8 * i) = ((x / 256 ^ i : Nat) : Int) := by rw [pow256]; push_cast; rfl
      have hbyte : IntKind.u8.wrap ((x / 256 ^ i : Nat) : Int) = ((UInt8.ofNat (x / 256 ^ i % 256)).toNat : Int) := by
        rw [IntKind.wrap_u8', UInt8.toNat_ofNat', Nat.mod_mod]
        omega
      have hk2 := hK.setCell (p := ⟨g, at_ + i, none⟩) (fun h => absurd h (Nat.not_lt.2 hgb)) (bv (UInt8.ofNat (x / 256 ^ i % 256)))
      unfold bv at hc1 ho2 hk2
      generalize (setR b at_ ((le k x).take i))[at_ + i]'(by omega) = y at *
      have hltz : (i : Int) < (k : Int) := by omega
      have hsum : (at_ : Int) + (i : Int) = ((at_ + i : Nat) : Int) := by omega
      have hinz : ((at_ + i : Nat) : Int) < (b.length : Int) := by omega
      have hatz : (at_ : Int) < 9223372036854775808 := by omega
      have hi8 : (i : Int) ≤ 8 := by omega
      clear hnx htk hsl ho hK
      obtain ⟨j, hj⟩ : ∃ j, j = at_ + i := ⟨_, rfl⟩
      rw [← hj] at hsum hinz hc1 hfz ho2 hk2
      have hjz : (j : Int) < 9223372036854775808 := by omega
      clear hj hin
      generalize UInt8.ofNat (x / 256 ^ i % 256) = z at *
      generalize x / 256 ^ i = q at *
      go_wp2_with (first | (at_builtin; refine wl_append rfl _ _ _ _ rfl _ _ rfl rfl ?_) | (at_make; refine wl_make rfl _ _ _ rfl _ _ rfl rfl ?_) | (at_mapUpdate; refine wl_mapUpdate rfl _ _ _ _ rfl _ _ _ rfl rfl rfl ?_) | (at_lookup; refine wl_lookup rfl _ _ _ _ rfl _ _ rfl rfl ?_) | (at_delete; refine wl_delete rfl _ _ _ _ rfl _ _ rfl rfl ?_) | (with_reducible refine wl_len rfl _ _ rfl _ rfl ?_) | (with_reducible refine wl_range rfl _ _ rfl _ rfl ?_) | (with_reducible refine wl_next rfl _ rfl _ rfl ?_) | (with_reducible refine wl_copy rfl _ _ _ _ rfl _ _ rfl rfl ?_) | (with_reducible refine wl_max rfl _ _ _ _ rfl _ _ rfl rfl ?_) | (with_reducible refine wl_min rfl _ _ _ _ rfl _ _ rfl rfl ?_))
      go_roundw
      case rel => exact ⟨i + 1, by go_num, hlt, ho2.1, hk2⟩
      case measure => simp [intOf]; omega
    · obtain rfl : i = k := Nat.le_antisymm hi hge
      rw [List.take_of_length_le (by rw [le_len]; exact Nat.le_refl _)] at ho
      go_wp2_with (first | (at_builtin; refine wl_append rfl _ _ _ _ rfl _ _ rfl rfl ?_) | (at_make; refine wl_make rfl _ _ _ rfl _ _ rfl rfl ?_) | (at_mapUpdate; refine wl_mapUpdate rfl _ _ _ _ rfl _ _ _ rfl rfl rfl ?_) | (at_lookup; refine wl_lookup rfl _ _ _ _ rfl _ _ rfl rfl ?_) | (at_delete; refine wl_delete rfl _ _ _ _ rfl _ _ rfl rfl ?_) | (with_reducible refine wl_len rfl _ _ rfl _ rfl ?_) | (with_reducible refine wl_range rfl _ _ rfl _ rfl ?_) | (with_reducible refine wl_next rfl _ rfl _ rfl ?_) | (with_reducible refine wl_copy rfl _ _ _ _ rfl _ _ rfl rfl ?_) | (with_reducible refine wl_max rfl _ _ _ _ rfl _ _ rfl rfl ?_) | (with_reducible refine wl_min rfl _ _ _ _ rfl _ _ rfl rfl ?_))
      go_ret2
      exact ⟨_, rfl, ho, hK⟩
end
end Go.Proofs.Ytaoillfofiehpaa
