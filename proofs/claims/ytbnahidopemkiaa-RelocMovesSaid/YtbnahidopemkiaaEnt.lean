/- octets: Cut, Down, Up; names: Check, At. names.At: the name at a place of a table. head: Equal of bytes. A region that draws its order, walked in one order that is given: operations that yield the same in every world of a class S are taken first; behind each of the others S is shown anew, where something may still come that leans on it. head.row: numbers, one behind the other. A call of a function value enters its function. No condition. -/
import Derived.Test.YtbnahidopemkiaaOct
import Derived.Test.YtbnahidopemkiaaLyM
import Derived.Laws.Tables
import Derived.BigQuiet
import Derived.OrdersHeld
import Derived.Test.YtbnahidopemkiaaProg
set_option linter.unusedVariables false
set_option linter.unusedSimpArgs false
namespace Go.Proofs.Ytbnahidopemkiaa
open Go.RowKit Go.Dm Go.Dm.Oc Go.Dm.Ld
section
variable {A : Nat → Prop} {w : World}
/-- a part of bytes -/
theorem bts_part {a : Option Addr} {b : List UInt8} {c : Nat} (hb : Bts A w (.slice a b.length c) b) {lo n : Nat} (h : lo + n ≤ b.length) :
    Bts A w (.slice (a.map fun x => x.add lo) n (c - lo)) ((b.drop lo).take n) := by
  have hl : ((b.drop lo).take n).length = n := by rw [List.length_take, List.length_drop]; omega
  obtain ⟨h1, a', cap, e, hc, hd, hf, hr⟩ := hb
  cases e
  unfold Bts
  rw [hl]
  refine ⟨by rw [List.length_map, hl]; omega, _, _, rfl, by omega, by omega, fun ha => ?_, fun hn => ?_⟩
  · have := hf (Option.map_eq_none_iff.1 ha)
    omega
  · obtain ⟨g, off, rfl, hA, hg, hr⟩ := hr (by omega)
    refine ⟨g, off + lo, by simp [Addr.add], hA, hg, fun j u hu => ?_⟩
    rw [Nat.add_assoc]
    refine hr _ _ ?_
    rw [List.getElem?_map, List.getElem?_take] at hu
    split at hu
    · rw [List.getElem?_map, ← List.getElem?_drop]; exact hu
    · cases hu
set_option maxRecDepth 100000 in
theorem ocut_any {v : Value} (b : List UInt8) (at_ size : Nat) (hb : Bts A w v b) (hl : b.length ≤ 1099511627776) (ha : at_ < 18446744073709551616) (hs : size < 18446744073709551616) :
    Calls Try.prog 83 #[v, .int .u64 (at_ : Int), .int .u64 (size : Int)] w fun e w' => ∃ v', e = .returned (.tuple #[v', .int .i64 ((cutM b at_ size).1 : Int)]) ∧ w'.ownsRow w.heap.size 5 1 v' (cutM b at_ size).2.length ((cutM b at_ size).2.map bv) ∧ Keep No w w' := by
  have hh := ohas_any b.length at_ size (by omega) ha hs w
  unfold cutM
  cases hq : hasB b.length at_ size with
  | false =>
    rw [hq] at hh
    rw [if_neg (by decide)]
    clear hq
    obtain ⟨a, c, rfl, hc, hc2⟩ := hb.shape
    go_enter Try.func83, Try.ntmps83
    go_wp2_with fail
    refine hh.mono ?_
    rintro e W ⟨rfl, rfl⟩
    go_wp2_with fail
    go_ret2
    exact ⟨_, rfl, World.ownsRow_nil _ _ _ _, Keep.refl _ _⟩
  | true =>
    rw [hq] at hh
    rw [if_pos rfl]
    simp only [hasB, Bool.and_eq_true, decide_eq_true_eq] at hq
    obtain ⟨h1, h2⟩ := hq
    have hadd : (IntKind.u64.wrap ((at_ : Int) + (size : Int))) = ((at_ + size : Nat) : Int) := by
      rw [IntKind.wrap_u64]
      omega
    obtain ⟨a, c, rfl, hc, hc2⟩ := hb.shape
    have hp := Lib.hid (bts_part hb (lo := at_) (n := size) (by omega))
    have hlen : ((b.drop at_).take size).length = size := by rw [List.length_take, List.length_drop]; omega
    generalize (b.drop at_).take size = cs at *
    go_enter Try.func83, Try.ntmps83
    go_wp2_with fail
    refine hh.mono ?_
    rintro e W ⟨rfl, rfl⟩
    clear hh
    go_wp2_with fail
    · obtain rfl : size = 0 := by omega
      obtain rfl : cs = [] := List.eq_nil_of_length_eq_zero hlen
      refine (oclone_any (A := A) _ [] _ ⟨rfl, a, 0, rfl, Nat.le_refl _, Nat.zero_le _, fun _ => rfl, fun h => absurd h (Nat.lt_irrefl _)⟩ (by simp)).mono ?_
      rintro e W ⟨v', rfl, ho, hk⟩
      go_wp2_with fail
      go_ret2
      exact ⟨_, rfl, ho, hk⟩
    · refine (oclone_any _ cs _ hp.out (by omega)).mono ?_
      rintro e W ⟨v', rfl, ho, hk⟩
      go_wp2_with fail
      go_ret2
      exact ⟨_, rfl, ho, hk⟩
set_option maxRecDepth 100000 in
theorem odown_any (x : Nat) (hx : x < 18446744073709551616) (w : World) :
    Calls Try.prog 74 #[.int .u64 (x : Int), .int .u64 256] w fun e w' => e = .returned (.tuple #[.int .u64 ((x / 256 * 256 : Nat) : Int), .int .i64 0]) ∧ w = w' := by
  have e255 := u64_andNot_nat x 255 hx (by decide)
  have em : x &&& (18446744073709551615 - 255) = x / 256 * 256 := by
    have h1 : (18446744073709551615 - 255 : Nat) = (2 ^ 56 - 1) * 2 ^ 8 := by decide
    rw [h1]
    apply Nat.eq_of_testBit_eq
    intro i
    rw [Nat.testBit_and, Nat.testBit_mul_two_pow, Nat.testBit_two_pow_sub_one, show (256 : Nat) = 2 ^ 8 from rfl, Nat.testBit_mul_two_pow, Nat.testBit_div_two_pow]
    by_cases h8 : 8 ≤ i
    · by_cases h56 : i - 8 < 56
      · simp [h8, h56]
      · have : x.testBit i = false := Nat.testBit_lt_two_pow (Nat.lt_of_lt_of_le hx (Nat.pow_le_pow_right (n := 2) (by decide) (show 64 ≤ i by omega)))
        simp [h8, h56, this]
    · simp [h8]
  rw [em] at e255
  have ed : bits .andNot .u64 (x : Int) 255 = ((x / 256 * 256 : Nat) : Int) := e255
  have ea : bits .and .u64 256 255 = 0 := by decide
  generalize x / 256 * 256 = y at *
  clear e255 em
  go_enter Try.func74, Try.ntmps74
  go_wp2_with fail
  all_goals
    go_ret2
    exact ⟨rfl, rfl⟩
set_option maxRecDepth 100000 in
theorem oup_any (x : Nat) (hx : x ≤ 18446744073709551360) (w : World) :
    Calls Try.prog 75 #[.int .u64 (x : Int), .int .u64 256] w fun e w' => e = .returned (.tuple #[.int .u64 (((x + 255) / 256 * 256 : Nat) : Int), .int .i64 0]) ∧ w = w' := by
  have hd := odown_any x (by omega) w
  have hy : x / 256 * 256 ≤ x := by omega
  have hz : (x + 255) / 256 * 256 = if x / 256 * 256 = x then x / 256 * 256 else x / 256 * 256 + 256 := by
    split <;> omega
  rw [hz]
  have hm : x / 256 * 256 ≠ x → x / 256 * 256 + 256 < 18446744073709551616 := by omega
  clear hz
  generalize x / 256 * 256 = y at *
  go_enter Try.func75, Try.ntmps75
  go_wp2_with fail
  refine hd.mono ?_
  rintro e W ⟨rfl, rfl⟩
  clear hd
  by_cases he : y = x
  · subst he
    go_wp2_with fail
    go_ret2
    exact ⟨rfl, rfl⟩
  · have hi : ¬ ((y : Int) = (x : Int)) := by omega
    have hm := hm he
    go_wp2_with fail
    go_ret2
    exact ⟨rfl, rfl⟩
set_option maxRecDepth 100000 in
theorem nchk_any {v : Value} (b : List UInt8) (hb : Bts A w v b) (hl : b.length ≤ 1099511627776) :
    Calls Try.prog 86 #[v] w fun e w' => e = .returned (.int .i64 (chkN b : Nat)) ∧ w = w' := by
  rcases Nat.eq_zero_or_pos b.length with h0 | hpos
  · obtain ⟨a, c, rfl, hc, hc2⟩ := hb.shape
    obtain rfl := List.eq_nil_of_length_eq_zero h0
    go_enter Try.func86, Try.ntmps86
    go_wp2_with fail
    go_ret
    exact ⟨rfl, rfl⟩
  · obtain ⟨g, off, cap, rfl, _, hg, hc, hc2, hr⟩ := Sl.at hb hpos
    have q0 : w.cell? ⟨g, off, none⟩ = some (.int .u8 ((b[0]'hpos).toNat : Int)) := hr 0 _ (by rw [List.getElem?_map, List.getElem?_eq_getElem hpos]; rfl)
    have q1 : w.cell? ⟨g, off + (b.length - 1), none⟩ = some (.int .u8 ((b[b.length - 1]'(by omega)).toNat : Int)) := hr (b.length - 1) _ (by rw [List.getElem?_map, List.getElem?_eq_getElem (by omega)]; rfl)
    have hres : chkN b = if (b[0]'hpos).toNat = 0 ∧ (b[b.length - 1]'(by omega)).toNat = 0 then 0 else 11 := by
      unfold chkN
      have e1 : b.head? = some (b[0]'hpos) := by rw [List.head?_eq_getElem?, List.getElem?_eq_getElem hpos]
      have e2 : b.getLast? = some (b[b.length - 1]'(by omega)) := by rw [List.getLast?_eq_getElem?, List.getElem?_eq_getElem (by omega)]
      rw [e1, e2]
      simp only [Option.some.injEq, ← UInt8.toNat_inj, UInt8.toNat_zero]
    have hx := (b[0]'hpos).toNat_lt
    have hy := (b[b.length - 1]'(by omega)).toNat_lt
    rw [hres]
    generalize (b[0]'hpos).toNat = x at *
    generalize (b[b.length - 1]'(by omega)).toNat = y at *
    clear hres hr hb
    generalize b.length = n at *
    have hn : ((n : Int) == 0) = false := by rw [beq_eq_false_iff_ne]; omega
    have hsub : (n : Int) - 1 = ((n - 1 : Nat) : Int) := by omega
    go_enter Try.func86, Try.ntmps86
    go_wp2_with fail
    all_goals
      go_ret
      refine ⟨?_, rfl⟩
      first
        | rfl
        | (exfalso
           simp_all
           done)
        | (exfalso
           simp only [bne_iff_ne, bne_eq_false_iff_eq, ne_eq] at *
           omega)
/-- where the first 0 stands -/
def zeroAt (b : List UInt8) : Int := if b.contains 0 then ((b.takeWhile (· != 0)).length : Int) else -1
theorem takeWhile_at {b : List UInt8} {i : Nat} (hi : i < b.length) (h0 : b[i] = 0) (hno : ∀ j, (hj : j < i) → b[j]'(by omega) ≠ 0) : b.contains 0 = true ∧ b.takeWhile (· != 0) = b.take i := by
  induction b generalizing i with
  | nil => simp at hi
  | cons c r ih =>
    cases i with
    | zero =>
      simp only [List.getElem_cons_zero] at h0
      subst h0
      simp
    | succ i =>
      have hc : c ≠ 0 := hno 0 (by omega)
      obtain ⟨h1, h2⟩ := ih (i := i) (by simpa using hi) (by simpa using h0) (fun j hj => by have := hno (j + 1) (by omega); simpa using this)
      constructor
      · simp only [List.contains_cons, h1, Bool.or_true]
      · rw [List.takeWhile_cons_of_pos (by simpa using hc), h2, List.take_succ_cons]
theorem zeroAt_at {b : List UInt8} {i : Nat} (hi : i < b.length) (h0 : b[i] = 0) (hno : ∀ j, (hj : j < i) → b[j]'(by omega) ≠ 0) : zeroAt b = i := by
  obtain ⟨h1, h2⟩ := takeWhile_at hi h0 hno
  unfold zeroAt
  rw [if_pos h1, h2, List.length_take]
  omega
theorem zeroAt_none {b : List UInt8} (hno : ∀ j, (hj : j < b.length) → b[j] ≠ 0) : zeroAt b = -1 := by
  unfold zeroAt
  rw [if_neg]
  intro h
  rw [List.contains_iff_mem] at h
  obtain ⟨j, hj, e⟩ := List.getElem_of_mem h
  exact hno j hj e
set_option maxRecDepth 100000 in
theorem idxB_any {v : Value} (b : List UInt8) (hb : Bts A w v b) (hl : b.length ≤ 1099511627776) :
    Calls Try.prog 103 #[v, .int .u8 0] w fun e w' => e = .returned (.int .i64 (zeroAt b)) ∧ w = w' := by
  have HB := Lib.hid hb
  obtain ⟨a, c, rfl, hc, hc2⟩ := hb.shape
  clear hb
  go_enter Try.func103, Try.ntmps103
  go_wp2_with fail
  go_loopw [5, 8] (fun _ iv wr => ∃ i : Nat, iv = .int .i64 i ∧ i ≤ b.length ∧ (∀ j, j < i → ∀ hj : j < b.length, b[j] ≠ 0) ∧ w = wr) (fun _ iv _ => b.length - (intOf iv).toNat)
  case atStart => exact ⟨0, rfl, Nat.zero_le _, (fun j hj => absurd hj (Nat.not_lt_zero _)), rfl⟩
  case round =>
    obtain ⟨i, rfl, hi, hno, rfl⟩ := hrel
    rcases Nat.lt_or_ge i b.length with hlt | hge
    · obtain ⟨g, off, cap, ev, _, _, _, _, hr⟩ := Sl.at HB.out (by omega)
      cases ev
      have q0 : w.cell? ⟨g, off + i, none⟩ = some (.int .u8 ((b[i]).toNat : Int)) := hr i _ (by rw [List.getElem?_map, List.getElem?_eq_getElem hlt]; rfl)
      have hx := (b[i]).toNat_lt
      have hz : (b[i]).toNat = 0 ↔ b[i] = 0 := by rw [← UInt8.toNat_inj]; rfl
      have HNo := Lib.hid hno
      have HR := Lib.hid hr
      clear hr hno
      by_cases h0 : b[i] = 0
      · have e0 := hz.2 h0
        have hres := zeroAt_at hlt h0 fun j hj => HNo.out j hj (by omega)
        have HRes := Lib.hid hres
        clear hres
        rw [e0] at q0
        clear hz hx e0
        go_wp2_with fail
        go_ret
        rw [HRes.out]
        exact ⟨rfl, rfl⟩
      · have e0 : (b[i]).toNat ≠ 0 := fun h => h0 (hz.1 h)
        clear hz
        generalize hX : (b[i]).toNat = x at *
        clear hX
        go_wp2_with fail
        go_roundw
        case rel =>
          refine ⟨i + 1, rfl, hlt, fun j hj hjl => ?_, trivial⟩
          rcases Nat.lt_succ_iff_lt_or_eq.1 hj with h | rfl
          · exact HNo.out j h hjl
          · exact h0
        case measure => simp [intOf]; omega
    · obtain rfl : i = b.length := by omega
      have hres := zeroAt_none fun j hj => hno j hj hj
      have HRes := Lib.hid hres
      clear hres
      go_wp2_with fail
      go_ret
      rw [HRes.out]
      exact ⟨rfl, rfl⟩
end
end Go.Proofs.Ytbnahidopemkiaa
namespace Go.Proofs.Ytbnahidopemkiaa
open Go.RowKit Go.Dm Go.Dm.Oc Go.Dm.Ld
section
variable {A : Nat → Prop} {w : World}
theorem under_u8 : Try.prog.underlying 5 = some (.int .u8) := Try.underlying5
/-- string(b) -/
theorem conv_str {v : Value} {l : List UInt8} (h : Bts A w v l) : (convert 26 9 v).run Try.prog w = .ok (.string ⟨l.toArray⟩) w := by
  obtain ⟨_, a, cap, rfl, hn, _, h0, hr⟩ := h
  cases a with
  | none =>
    obtain rfl := h0 rfl
    obtain rfl : l = [] := List.eq_nil_of_length_eq_zero (by omega)
    exact run_convert_bytes_nil (P := Try.prog) (w := w) 26 5 Try.underlying26 under_u8 0 0 9 Try.underlying9
  | some a =>
    refine run_convert_bytes_back (P := Try.prog) w 26 9 5 a cap l Try.underlying26 under_u8 Try.underlying9 fun j hj => ?_
    obtain ⟨g, off, e2, _, _, hc⟩ := hr (by omega)
    cases e2
    rw [Addr.add_lit]
    exact hc j (bv l[j]) (by simp [hj])
theorem takeWhile_zero (b : List UInt8) : b.take (zeroAt b).toNat = if b.contains 0 then b.takeWhile (· != 0) else [] := by
  unfold zeroAt
  split
  · rw [Int.toNat_natCast]
    exact (List.prefix_iff_eq_take.1 (List.takeWhile_prefix _)).symm
  · rfl
theorem zeroAt_le (b : List UInt8) : -1 ≤ zeroAt b ∧ zeroAt b ≤ b.length := by
  unfold zeroAt
  split
  · have := (List.takeWhile_prefix (l := b) (· != 0)).length_le
    omega
  · omega
set_option maxRecDepth 100000 in
theorem nat_any {v : Value} (b : List UInt8) (at_ : Nat) (hb : Bts A w v b) (hl : b.length ≤ 1099511627776) (ha : at_ < 18446744073709551616) :
    Calls Try.prog 87 #[v, .int .u64 (at_ : Int)] w fun e w' => e = .returned (.tuple #[.string ⟨(atM b at_).2.toArray⟩, .int .i64 ((atM b at_).1 : Int)]) ∧ w = w' := by
  unfold atM
  rcases Nat.lt_or_ge at_ b.length with hlt | hge
  · rw [if_neg (by omega)]
    obtain ⟨a, c, rfl, hc, hc2⟩ := hb.shape
    have hp := bts_part hb (lo := at_) (n := b.length - at_) (by omega)
    rw [List.take_of_length_le (by rw [List.length_drop]; exact Nat.le_refl _)] at hp
    have hdl : (b.drop at_).length = b.length - at_ := List.length_drop
    rw [← hdl] at hp
    have hsub : (b.length : Int) - at_ = ((b.drop at_).length : Int) := by omega
    have hdpos : 0 < (b.drop at_).length := by omega
    have hneq : ¬ c = at_ := by omega
    have hall := takeWhile_zero (b.drop at_)
    have hzl := zeroAt_le (b.drop at_)
    have hidx := idxB_any (b.drop at_) hp (by omega)
    have hp2 := fun n hn => bts_part (lo := 0) (n := n) hp (by omega)
    have hzn : (b.drop at_).contains 0 = true ↔ 0 ≤ zeroAt (b.drop at_) := by
      unfold zeroAt
      split
      · rename_i h
        simp only [h, true_iff]
        omega
      · rename_i h
        simp only [h]
        decide
    generalize b.drop at_ = d at *
    have HP2 := Lib.hid hp2
    clear hp2 hp hb
    generalize hB : b.length = n at *
    clear hB
    rcases Int.lt_or_le (zeroAt d) 0 with hneg | hpos
    · have hc0 : d.contains 0 = false := by
        cases hcc : d.contains 0 with
        | false => rfl
        | true => have := hzn.1 hcc; omega
      rw [hc0, if_neg (by decide)]
      clear hc0 hzn hall hzl
      generalize zeroAt d = z at *
      go_enter Try.func87, Try.ntmps87
      go_wp2_with fail
      rw [← hdl]
      refine hidx.mono ?_
      rintro e W ⟨rfl, rfl⟩
      clear hidx
      go_wp2_with fail
      go_ret2
      exact ⟨rfl, rfl⟩
    · have hc0 := hzn.2 hpos
      rw [hc0, if_pos rfl] at hall
      rw [hc0, if_pos rfl]
      have hpart := HP2.out (zeroAt d).toNat (by omega)
      rw [List.drop_zero, hall] at hpart
      have hcs := conv_str hpart
      have e0 : (fun x : Addr => x.add 0) = fun x => x := by funext x; simp [Addr.add]
      rw [e0, Option.map_map, Nat.sub_zero] at hcs
      clear hc0 hzn hall hpart
      have hzz : zeroAt d = ((zeroAt d).toNat : Int) := by omega
      generalize zeroAt d = zz at *
      generalize zz.toNat = z at *
      subst hzz
      generalize List.takeWhile (fun x => x != 0) d = s at *
      go_enter Try.func87, Try.ntmps87
      go_wp2_with fail
      rw [← hdl]
      refine hidx.mono ?_
      rintro e W ⟨rfl, rfl⟩
      clear hidx
      go_wp2_with fail
      go_ret2
      exact ⟨rfl, rfl⟩
  · rw [if_pos hge]
    obtain ⟨a, c, rfl, hc, hc2⟩ := hb.shape
    clear hb
    generalize b.length = n at *
    go_enter Try.func87, Try.ntmps87
    go_wp2_with fail
    go_ret2
    exact ⟨rfl, rfl⟩
end
end Go.Proofs.Ytbnahidopemkiaa
namespace Go.Proofs.Ytbnahidopemkiaa
open Go.RowKit Go.Dm Go.Dm.Oc Go.Dm.Ld
section
variable {A B : Nat → Prop} {w : World}
/-- bytes in a row of one's own -/
theorem own_no {base size n : Nat} {e : TypeId} {v : Value} {xs : List Value} {w' : World} (ho : w.ownsRow base e size v n xs) (hk : Keep No w w') : w'.ownsRow base e size v n xs := by
  refine ⟨ho.1, ho.2.imp id ?_⟩
  rintro ⟨g, cap, cur, rfl, a, b, r⟩
  exact ⟨g, cap, cur, rfl, a, (hk.block g (World.ownsRow.lt ho g rfl).2 fun h => h).trans b, r⟩
theorem bts_own {base : Nat} {v : Value} {l : List UInt8} (ho : w.ownsRow base 5 1 v l.length (l.map bv)) : Bts (fun k => base ≤ k ∧ some k = v.ownBlock) w v l := Sl.of_own ho
/-- append(v, m...) -/
theorem rg_bytes {base : Nat} {ty : TypeId} {v vs : Value} {l m : List UInt8} (ho : w.ownsRow base 5 1 v l.length (l.map bv)) (hs : Bts A w vs m) (hlen : l.length + m.length ≤ 1099511627776) (hbase : base ≤ w.heap.size) {K : Value → World → Prop}
    (h : ∀ v' w', w'.ownsRow base 5 1 v' (l ++ m).length ((l ++ m).map bv) → Keep (fun j => some j = v.ownBlock) w w' → (v'.ownBlock = v.ownBlock ∨ v'.ownBlock = some w.heap.size) → K v' w') : AppendGoal Try.prog 26 26 ty v vs w K := by
  refine rg_append base 5 (.int .u8 0) 1 1 Try.underlying26 o_info rfl (by decide) ho hs (bv_one _) (by unfold maxLen; omega) (by omega) hbase ?_
  intro v' w' ho' hk' _ hn
  refine h v' w' ?_ hk' hn
  rw [List.length_append, List.map_append]
  exact ho'
set_option maxRecDepth 100000 in
theorem eqB_any {v u : Value} (b c : List UInt8) (hb : Bts A w v b) (hc : Bts B w u c) (hl : b.length ≤ 1099511627776) (hl2 : c.length ≤ 1099511627776) :
    Calls Try.prog 96 #[v, u] w fun e w' => e = .returned (.bool (decide (b = c))) ∧ Keep No w w' := by
  have HB := Lib.hid hb
  have HC := Lib.hid hc
  obtain ⟨a, k, rfl, hk, hk2⟩ := hb.shape
  obtain ⟨a2, k2, rfl, hk3, hk4⟩ := hc.shape
  clear hb hc
  by_cases hle : b.length = c.length
  · go_enter Try.func96, Try.ntmps96
    go_wp2_with fail
    go_loopw [5, 13] (fun _ iv wr => ∃ i : Nat, iv = .int .i64 i ∧ i ≤ b.length ∧ b.take i = c.take i ∧ Keep No w wr) (fun _ iv _ => b.length - (intOf iv).toNat)
    case atStart => exact ⟨0, rfl, Nat.zero_le _, by simp, Keep.refl _ _⟩
    case round =>
      obtain ⟨i, rfl, hi, hno, hK⟩ := hrel
      rcases Nat.lt_or_ge i b.length with hlt | hge
      · obtain ⟨g, off, cap, ev, _, _, _, _, hr⟩ := Sl.at (Sl.keep HB.out hK fun _ _ _ h => h) (by omega)
        cases ev
        obtain ⟨g2, off2, cap2, ev2, _, _, _, _, hr2⟩ := Sl.at (Sl.keep HC.out hK fun _ _ _ h => h) (by omega)
        cases ev2
        have q0 : wr.cell? ⟨g, off + i, none⟩ = some (.int .u8 ((b[i]).toNat : Int)) := hr i _ (by rw [List.getElem?_map, List.getElem?_eq_getElem hlt]; rfl)
        have q1 : wr.cell? ⟨g2, off2 + i, none⟩ = some (.int .u8 ((c[i]'(by omega)).toNat : Int)) := hr2 i _ (by rw [List.getElem?_map, List.getElem?_eq_getElem (by omega)]; rfl)
        have hx := (b[i]).toNat_lt
        have hy := (c[i]'(by omega)).toNat_lt
        have hz : (b[i]).toNat = (c[i]'(by omega)).toNat ↔ b[i] = c[i]'(by omega) := UInt8.toNat_inj
        clear hr hr2
        have hlc : i < c.length := by omega
        by_cases h0 : b[i] = c[i]'(by omega)
        · have e0 := hz.2 h0
          have hn2 : b.take (i + 1) = c.take (i + 1) := by
            rw [List.take_succ_eq_append_getElem hlt, List.take_succ_eq_append_getElem hlc, hno, h0]
          rw [← e0] at q1
          clear hz e0 hy h0 hno
          have HN := Lib.hid hn2
          clear hn2
          generalize (b[i]).toNat = x at *
          go_wp2_with fail
          go_quiet (fail)
          go_wp2_with fail
          go_roundw
          case rel => exact ⟨i + 1, rfl, hlt, HN.out, hK.drewN _⟩
          case measure => simp [intOf]; omega
        · have e0 : ¬ (b[i]).toNat = (c[i]'(by omega)).toNat := fun h => h0 (hz.1 h)
          have hres : decide (b = c) = false := by
            rw [decide_eq_false_iff_not]
            rintro rfl
            exact h0 rfl
          have HR := Lib.hid hres
          clear hz h0 hno hres
          generalize (b[i]).toNat = x at *
          generalize (c[i]'(by omega)).toNat = y at *
          go_wp2_with fail
          go_quiet (fail)
          go_wp2_with fail
          go_ret
          rw [HR.out]
          exact ⟨rfl, hK.drewN _⟩
      · obtain rfl : i = b.length := by omega
        have hres : decide (b = c) = true := by
          rw [decide_eq_true_iff]
          rw [List.take_length, hle, List.take_length] at hno
          exact hno
        have HR := Lib.hid hres
        clear hno hres
        go_wp2_with fail
        go_ret
        rw [HR.out]
        exact ⟨rfl, hK⟩
  · have hdec : decide (b = c) = false := by
      rw [decide_eq_false_iff_not]
      rintro rfl
      exact hle rfl
    rw [hdec]
    clear hdec HB HC
    generalize b.length = m at *
    generalize c.length = n at *
    go_enter Try.func96, Try.ntmps96
    go_wp2_with fail
    go_ret
    exact ⟨rfl, Keep.refl _ _⟩
end
end Go.Proofs.Ytbnahidopemkiaa
namespace Go.Dm
open Go

section
variable {P : Program} {ops : Array Oper} {Q : Exit → Act → World → Prop} {md : Region.Mode} {S : World → Prop} {kb : Nat → Bool}

/-- Whatever order is picked from here on, and S behind each operation of kb. -/
def wpAnyK (P : Program) (md : Region.Mode) (ops : Array Oper) (Q : Exit → Act → World → Prop) (S : World → Prop) (kb : Nat → Bool) : Nat → Array Bool → Act → World → Prop
  | 0, listed, a, w => Region.ready md ops listed = [] ∧ Q .normal a w
  | fuel + 1, listed, a, w =>
    (Region.ready md ops listed = [] → Q .normal a w) ∧
    ∀ i ∈ Region.ready md ops listed, wpOp P ops Q i (fun a' w' => (kb i = true → S w') ∧ wpAnyK P md ops Q S kb fuel (listed.setIfInBounds i true) a' w') a w

theorem wpAny_of_K : ∀ (fuel : Nat) (listed : Array Bool) (a : Act) (w : World), wpAnyK P md ops Q S kb fuel listed a w → wpAny P md ops Q fuel listed a w
  | 0, _, _, _, h => h
  | fuel + 1, _, _, _, h => ⟨h.1, fun i hi => wpOp_mono (fun a' w' h' => wpAny_of_K fuel _ a' w' h'.2) (h.2 i hi)⟩

/-- does number j wait for number i, at once or through others? -/
def reach (md : Region.Mode) (ops : Array Oper) : Nat → Nat → Nat → Bool
  | 0, _, _ => false
  | f + 1, j, i => match ops[j]? with
    | none => false
    | some oj => oj.after.any fun e => Region.binds md e && (e.on == i || reach md ops f e.on i)
def Closed (md : Region.Mode) (ops : Array Oper) (listed : Array Bool) : Prop :=
  ∀ (k : Nat) (ok : Oper), ops[k]? = some ok → listed.getD k false = true → ∀ e ∈ ok.after, Region.binds md e = true → listed.getD e.on false = true
theorem reach_listed {listed : Array Bool} (hc : Closed md ops listed) {i : Nat} : ∀ (f j : Nat) (oj : Oper), ops[j]? = some oj → (∀ e ∈ oj.after, Region.binds md e = true → listed.getD e.on false = true) → reach md ops f j i = true → listed.getD i false = true
  | 0, _, _, _, _, h => by simp [reach] at h
  | f + 1, j, oj, hj, ha, h => by
    simp only [reach, hj] at h
    obtain ⟨e, he, hb⟩ := Array.any_eq_true'.1 h
    simp only [Bool.and_eq_true, Bool.or_eq_true, beq_iff_eq] at hb
    obtain ⟨hb, h1 | h1⟩ := hb
    · rw [← h1]; exact ha e he hb
    · cases hk : ops[e.on]? with
      | none => cases f with
        | zero => simp [reach] at h1
        | succ f => simp [reach, hk] at h1
      | some ok => exact reach_listed hc f e.on ok hk (hc e.on ok hk (ha e he hb)) h1
theorem getD_set_same {listed : Array Bool} {i : Nat} (h : i < listed.size) : (listed.setIfInBounds i true).getD i false = true := by simp [h]
theorem Closed.step {listed : Array Bool} (hc : Closed md ops listed) {i : Nat} (hr : i ∈ Region.ready md ops listed) : Closed md ops (listed.setIfInBounds i true) := by
  have hmono : ∀ k, listed.getD k false = true → (listed.setIfInBounds i true).getD k false = true := by
    intro k hk
    by_cases e : i = k
    · subst e
      refine getD_set_same ?_
      rcases Nat.lt_or_ge i listed.size with h | h
      · exact h
      · simp [Array.getElem?_eq_none h] at hk
    · rw [getD_set_ne false e]; exact hk
  intro k ok hk hl e he hb
  by_cases ek : i = k
  · subst ek
    obtain ⟨_, oj, hoj, hall⟩ := mem_ready.1 hr
    rw [hk] at hoj; cases hoj
    exact hmono _ (hall e he hb)
  · rw [getD_set_ne false ek] at hl
    exact hmono _ (hc k ok hk hl e he hb)

theorem wpAnyK_first {i : Nat} {oi : Oper} {v : Value} (hi : ops[i]? = some oi) (hsel : ∀ (j : Nat) (o : Oper) cs b, ops[j]? = some o → o.op ≠ .select cs b)
    (hQ : ∀ c a w, Q (.panic c) (a.put oi.dst v) w → Q (.panic c) a w) :
    ∀ (fuel : Nat) (listed : Array Bool) (a : Act) (w : World),
      (∀ j oj, ops[j]? = some oj → j ≠ i → listed.getD j true = false → reach md ops ops.size j i = false → oi.apart ops oj = true ∧ kb j = true) →
      Closed md ops listed → i ∈ Region.ready md ops listed → YieldsIf P ops S oi v a → S w →
      wpAnyK P md ops Q S kb fuel (listed.setIfInBounds i true) (a.put oi.dst v) w → wpAnyK P md ops Q S kb (fuel + 1) listed a w := by
  intro fuel
  induction fuel with
  | zero =>
    intro listed a w _ _ hr hy hS H
    refine ⟨fun h => (by rw [h] at hr; cases hr), fun j hj => ?_⟩
    by_cases hji : j = i
    · subst hji; exact hy.wpOp hi hS ⟨fun _ => hS, H⟩
    · have := ready_mono hj hji
      rw [H.1] at this
      cases this
  | succ fuel ih =>
    intro listed a w hfree hcl hr hy hS H
    refine ⟨fun h => (by rw [h] at hr; cases hr), fun j hj => ?_⟩
    by_cases hji : j = i
    · subst hji; exact hy.wpOp hi hS ⟨fun _ => hS, H⟩
    · have h1 := H.2 j (ready_mono hj hji)
      obtain ⟨hjun, oj, hoj, hall⟩ := mem_ready.1 hj
      have hnot : reach md ops ops.size j i = false := by
        cases hq : reach md ops ops.size j i with
        | false => rfl
        | true =>
          have h1 := reach_listed hcl _ j oj hoj hall hq
          have h0 := (mem_ready.1 hr).1
          rcases Nat.lt_or_ge i listed.size with h' | h'
          · simp [h'] at h0 h1; rw [h0] at h1; cases h1
          · simp [Array.getElem?_eq_none h'] at h1
      obtain ⟨hap, hkb⟩ := hfree j oj hoj hji hjun hnot
      have h2 := wpOp_putIf hoj hap (fun cs b => hsel i oi cs b hi) (fun cs b => hsel j oj cs b hoj) hQ hy h1
      have hfree' : ∀ k ok, ops[k]? = some ok → k ≠ i → (listed.setIfInBounds j true).getD k true = false →
          reach md ops ops.size k i = false → oi.apart ops ok = true ∧ kb k = true := fun k ok hk hki hun hno => by
        refine hfree k ok hk hki ?_ hno
        by_cases hjk : j = k
        · subst hjk; exact hjun
        · rw [getD_set_ne true hjk] at hun; exact hun
      refine wpOp_mono (fun a' w' h3 => ⟨h3.2.1, ih (listed.setIfInBounds j true) a' w' hfree' (hcl.step hj) (ready_mono hr (Ne.symm hji)) h3.1 (h3.2.1 hkb) ?_⟩) h2
      rw [Array.setIfInBounds_comm _ _ hji]
      exact h3.2.2

/-- does it wait for number i at once? -/
def direct (md : Region.Mode) (oj : Oper) (i : Nat) : Bool := oj.after.any fun e => e.on == i && Region.binds md e
theorem direct_reach {i j f : Nat} {oj : Oper} (hj : ops[j]? = some oj) (h : direct md oj i = true) : reach md ops (f + 1) j i = true := by
  obtain ⟨e, he, hb⟩ := Array.any_eq_true'.1 h
  simp only [reach, hj]
  refine Array.any_eq_true'.2 ⟨e, he, ?_⟩
  simp only [Bool.and_eq_true] at hb
  rw [hb.2, hb.1]
  rfl
/-- may number i be taken first? -/
def freeK (md : Region.Mode) (ops : Array Oper) (kb : Nat → Bool) (listed : Array Bool) (i : Nat) : Bool :=
  match ops[i]? with
  | none => false
  | some oi => (List.range ops.size).all fun j => j == i || listed.getD j true || match ops[j]? with
      | some oj => (oi.apart ops oj && kb j) || direct md oj i || reach md ops ops.size j i
      | none => true

theorem freeK_spec {i : Nat} {oi : Oper} {listed : Array Bool} (hi : ops[i]? = some oi) (h : freeK md ops kb listed i = true) (j : Nat) (oj : Oper)
    (hj : ops[j]? = some oj) (hne : j ≠ i) (hun : listed.getD j true = false) (hno : reach md ops ops.size j i = false) :
    oi.apart ops oj = true ∧ kb j = true := by
  simp only [freeK, hi, List.all_eq_true, List.mem_range] at h
  have h1 := h j (Array.getElem?_eq_some_iff.1 hj).1
  simp only [hj, Bool.or_eq_true, beq_iff_eq, hne, false_or, hun, Bool.false_eq_true] at h1
  rw [hno] at h1
  have hsz := (Array.getElem?_eq_some_iff.1 hj).1
  have hd : direct md oj i = false := by
    cases hd : direct md oj i with
    | false => rfl
    | true =>
      obtain ⟨f, hf⟩ : ∃ f, ops.size = f + 1 := ⟨ops.size - 1, by omega⟩
      rw [hf, direct_reach hj hd] at hno
      cases hno
  rw [hd] at h1
  simpa using h1

/-- The given order: (number, does it yield the same in every world of S?). -/
def sigB (md : Region.Mode) (ops : Array Oper) (kb : Nat → Bool) : List (Nat × Bool) → Array Bool → Bool → Bool
  | [], listed, _ => (Region.ready md ops listed).isEmpty
  | (i, true) :: r, listed, s => s && (Region.ready md ops listed).contains i && freeK md ops kb listed i && sigB md ops kb r (listed.setIfInBounds i true) s
  | (i, false) :: r, listed, s => (Region.ready md ops listed == [i]) && sigB md ops kb r (listed.setIfInBounds i true) (s && kb i)

/-- The walk in that order. -/
def wpSig (P : Program) (ops : Array Oper) (Q : Exit → Act → World → Prop) (S : World → Prop) (kb : Nat → Bool) : List (Nat × Bool) → Act → World → Prop
  | [], a, w => Q .normal a w
  | (i, true) :: r, a, w => ∃ o v, ops[i]? = some o ∧ YieldsIf P ops S o v a ∧ wpSig P ops Q S kb r (a.put o.dst v) w
  | (i, false) :: r, a, w => wpOp P ops Q i (fun a' w' => (kb i = true → S w') ∧ wpSig P ops Q S kb r a' w') a w

theorem wpSig_sound (hs : Region.noSelect ops = true) (hQ : ∀ c a d v w, Q (.panic c) (a.put d v) w → Q (.panic c) a w) :
    ∀ (l : List (Nat × Bool)) (listed : Array Bool) (s : Bool) (a : Act) (w : World), sigB md ops kb l listed s = true → Closed md ops listed → (s = true → S w) → wpSig P ops Q S kb l a w → wpAnyK P md ops Q S kb l.length listed a w
  | [], listed, s, a, w, h, _, _, hq => by
    have : Region.ready md ops listed = [] := by simpa [sigB] using h
    exact ⟨this, hq⟩
  | (i, true) :: r, listed, s, a, w, h, hcl, hS, ⟨o, v, ho, hy, hq⟩ => by
    simp only [sigB, Bool.and_eq_true] at h
    obtain ⟨⟨⟨h1, h2⟩, h3⟩, h4⟩ := h
    exact wpAnyK_first ho (Region.noSelect_spec hs) (fun c a w => hQ c a _ _ w) r.length listed a w (freeK_spec ho h3) hcl (by simpa using h2) hy (hS h1)
      (wpSig_sound hs hQ r _ s _ w h4 (hcl.step (by simpa using h2)) hS hq)
  | (i, false) :: r, listed, s, a, w, h, hcl, hS, hq => by
    simp only [sigB, Bool.and_eq_true, beq_iff_eq] at h
    refine ⟨fun h0 => (by rw [h.1] at h0; cases h0), fun j hj => ?_⟩
    rw [h.1] at hj
    obtain rfl : j = i := by simpa using hj
    exact wpOp_mono (fun a' w' h' => ⟨h'.1, wpSig_sound hs hQ r _ (s && kb j) a' w' h.2 (hcl.step (by rw [h.1]; simp)) (fun hsk => h'.1 (Bool.and_eq_true_iff.1 hsk).2) h'.2⟩) hq

/-- The beginning. -/
theorem wp_region_sig {id : Nat} {a : Act} {w : World} (S : World → Prop) (kb : Nat → Bool) (l : List (Nat × Bool)) {o : List Oper} (hm : P.follows .mixedOrders = true)
    (hB : (Region.noSelect o.toArray && sigB .any o.toArray kb l (Array.replicate o.toArray.size false) true && (l.length == o.toArray.size)) = true)
    (hQ : ∀ c a d v w, Q (.panic c) (a.put d v) w → Q (.panic c) a w) (hS : S w.drew)
    (h : wpSig P o.toArray Q S kb l a w.drew) : (Code.region id o.toArray true).wp P Q a w := by
  simp only [Bool.and_eq_true, beq_iff_eq] at hB
  refine wp_region_any hm (wpAny_of_K (S := S) (kb := kb) _ _ _ _ ?_)
  have h2 := wpSig_sound (md := .any) hB.1.1 hQ l _ true a _ hB.1.2 (fun k ok _ hl => by rw [Array.getD_eq_getD_getElem?, Array.getElem?_replicate] at hl; split at hl <;> cases hl) (fun _ => hS) h
  rw [hB.2] at h2
  exact h2

theorem sig_nil {a : Act} {w : World} (h : Q .normal a w) : wpSig P ops Q S kb [] a w := h
theorem sig_still {i : Nat} {r : List (Nat × Bool)} {a : Act} {w : World} {o : Oper} {v : Value} (ho : ops[i]? = some o) (hg : o.guard = none)
    (hy : ∀ w', S w' → (execOp a.eval o).run P w' = .ok (.value v) w') (h : wpSig P ops Q S kb r (a.put o.dst v) w) : wpSig P ops Q S kb ((i, true) :: r) a w :=
  ⟨o, v, ho, .inl ⟨by simp [Region.wanted, hg], hy⟩, h⟩
theorem sig_guard {i : Nat} {r : List (Nat × Bool)} {a : Act} {w : World} {o : Oper} {v : Value} (ho : ops[i]? = some o) (hg : Region.wanted o (yielded ops a.tmps) = true)
    (hy : ∀ w', S w' → (execOp a.eval o).run P w' = .ok (.value v) w') (h : wpSig P ops Q S kb r (a.put o.dst v) w) : wpSig P ops Q S kb ((i, true) :: r) a w :=
  ⟨o, v, ho, .inl ⟨hg, hy⟩, h⟩
theorem sig_skip {i : Nat} {r : List (Nat × Bool)} {a : Act} {w : World} {o : Oper} (ho : ops[i]? = some o) (hg : Region.wanted o (yielded ops a.tmps) = false)
    (h : wpSig P ops Q S kb r (a.put o.dst undef) w) : wpSig P ops Q S kb ((i, true) :: r) a w :=
  ⟨o, undef, ho, .inr ⟨hg, rfl⟩, h⟩
theorem sig_eff {i : Nat} {r : List (Nat × Bool)} {a : Act} {w : World} {o : Oper} (ho : ops[i]? = some o) (hg : o.guard = none)
    (h : ∀ K : Act → World → Prop, (∀ a' w', ((kb i = true → S w') ∧ wpSig P ops Q S kb r a' w') → K a' w') → o.wp P a w K Q) : wpSig P ops Q S kb ((i, false) :: r) a w := by
  show wpOp _ _ _ _ _ _ _
  unfold wpOp
  simp only [ho, Region.wanted, hg, if_true]
  exact .inl (h _ fun _ _ h => h)

theorem sig_effg {i : Nat} {r : List (Nat × Bool)} {a : Act} {w : World} {o : Oper} (ho : ops[i]? = some o) (hg : Region.wanted o (yielded ops a.tmps) = true)
    (h : ∀ K : Act → World → Prop, (∀ a' w', ((kb i = true → S w') ∧ wpSig P ops Q S kb r a' w') → K a' w') → o.wp P a w K Q) : wpSig P ops Q S kb ((i, false) :: r) a w := by
  show wpOp _ _ _ _ _ _ _
  unfold wpOp
  simp only [ho, hg, if_true]
  exact .inl (h _ fun _ _ h => h)
theorem wo_append {o : Oper} {a : Act} {w : World} {K : Act → World → Prop} (x y : Operand) (t1 t2 : TypeId) (ho : o.op = .call { callee := .builtin .append, args := #[x, y], argTypes := #[t1, t2] })
    (v1 v2 : Value) (h1 : a.eval x = v1) (h2 : a.eval y = v2) (h : AppendGoal P t1 t2 o.type v1 v2 w fun v w' => K (a.put o.dst v) w') : o.wp P a w K Q := by
  obtain ⟨v, w', hr, hk⟩ := h
  unfold Oper.wp execOp
  simp only [ho, resolve, invoke, builtin, Sem.run_bind, Sem.run_pure, Result.andThen_ok, List.map_toArray, List.map_cons, List.map_nil, h1, h2, hr]
  exact hk
end
end Go.Dm
namespace Go.Proofs.Ytbnahidopemkiaa
open Go.RowKit Go.Dm Go.Dm.Oc Go.Dm.Ld
theorem wo_make {P : Program} {o : Oper} {a : Act} {w : World} {Q : Exit → Act → World → Prop} {K : Act → World → Prop} (l c : Operand) (t : TypeId) (ho : o.op = Op.makeSlice t l c) (v1 v2 : Value) (h1 : a.eval l = v1) (h2 : a.eval c = v2)
    (h : MakeGoal P t v1 v2 w fun v w' => K (a.put o.dst v) w') : o.wp P a w K Q := by
  obtain ⟨v, w', hr, hk⟩ := h
  unfold Oper.wp execOp
  simp only [ho, h1, h2, hr, Sem.run_bind, Sem.run_pure, Result.andThen_ok]
  exact hk
/-- numbers of so many bytes, one behind the other -/
def rowB (l : List (Nat × Nat)) : BS := l.flatMap fun f => le f.1 f.2
def encF (f : Nat × Nat) : List Value := [.int .i64 (f.1 : Int), .int .u64 (f.2 : Int)]
theorem rowB_len (l : List (Nat × Nat)) (h : ∀ f ∈ l, f.1 ≤ 8) : (rowB l).length ≤ 8 * l.length := by
  induction l with
  | nil => simp [rowB]
  | cons f r ih =>
    have h1 := ih fun g hg => h g (List.mem_cons_of_mem _ hg)
    have h2 := h f (List.mem_cons_self ..)
    unfold rowB at *
    rw [List.flatMap_cons, List.length_append, le_len, List.length_cons]
    omega
theorem encF_len (f : Nat × Nat) : (encF f).length = 2 := rfl
section
variable {A : Nat → Prop} {w : World}
set_option maxRecDepth 100000 in
set_option maxHeartbeats 2000000 in
theorem hrow_any {v : Value} (l : List (Nat × Nat)) (hl : Fl A w 2 encF v l) (hn : l.length ≤ 1000) (hf : ∀ f ∈ l, (f.1 = 1 ∨ f.1 = 2 ∨ f.1 = 4 ∨ f.1 = 8) ∧ f.2 < 18446744073709551616) :
    Calls Try.prog 109 #[v] w fun e w' => ∃ v', e = .returned v' ∧ w'.ownsRow w.heap.size 5 1 v' (rowB l).length ((rowB l).map bv) ∧ Keep No w w' := by
  have HL := Lib.hid hl
  obtain ⟨a, c, rfl, hc1, hc2⟩ := hl.shape
  clear hl
  go_enter Try.func109, Try.ntmps109
  go_wp2_with fail
  go_loopw [3, 10] (fun vv iv wr => ∃ i : Nat, iv = .int .i64 i ∧ i ≤ l.length ∧ wr.ownsRow w.heap.size 5 1 vv (rowB (l.take i)).length ((rowB (l.take i)).map bv) ∧ Keep No w wr) (fun _ iv _ => l.length - (intOf iv).toNat)
  case atStart => exact ⟨0, rfl, Nat.zero_le _, World.ownsRow_nil _ _ _ _, Keep.refl _ _⟩
  case round =>
    obtain ⟨i, rfl, hi, ho, hK⟩ := hrel
    rcases Nat.lt_or_ge i l.length with hlt | hge
    · obtain ⟨g, off, cap, ev, _, _, _, _, hc⟩ := (HL.out.no hK).at encF_len hlt
      cases ev
      have hfi := hf _ (List.getElem_mem hlt)
      have htk : rowB (l.take (i + 1)) = rowB (l.take i) ++ le l[i].1 l[i].2 := by
        rw [List.take_succ_eq_append_getElem hlt, rowB, rowB, List.flatMap_append]
        simp
      have q0 : wr.cell? ⟨g, off + i * 2, none⟩ = some (.int .i64 (l[i].1 : Int)) := hc 0 _ rfl
      have q1 : wr.cell? ⟨g, off + i * 2 + 1, none⟩ = some (.int .u64 (l[i].2 : Int)) := hc 1 _ rfl
      have HT := Lib.hid htk
      clear htk hc
      generalize l[i].1 = n at *
      generalize l[i].2 = x at *
      go_wp2_with fail
      have hkw1 : Keep No wr (wr.alloc (.cells #[.int .i64 (n : Int), .int .u64 (x : Int)] 205)) := (Keep.refl _ _).alloc _
      have hBw1 : Blk (wr.alloc (.cells #[.int .i64 (n : Int), .int .u64 (x : Int)] 205)) wr.heap.size #[.int .i64 (n : Int), .int .u64 (x : Int)] 205 := Blk.new _ _ _
      have hzw1 : (wr.alloc (.cells #[.int .i64 (n : Int), .int .u64 (x : Int)] 205)).heap.size = wr.heap.size + 1 := World.size_alloc _ _
      generalize wr.alloc (.cells #[.int .i64 (n : Int), .int .u64 (x : Int)] 205) = w1 at *
      have c0 := hBw1.cell 0
      have c1 := hBw1.cell 1
      refine wp_region_sig (fun w' => w'.cell? ⟨wr.heap.size, 0, none⟩ = some (.int .i64 (n : Int)) ∧ w'.cell? ⟨wr.heap.size, 1, none⟩ = some (.int .u64 (x : Int))) (fun j => decide (j ≤ 12)) [(0, true), (1, true), (3, true), (4, true), (5, true), (6, true), (2, false), (7, false), (8, false), (9, true), (10, true), (11, true), (12, true)] (by kernel_rfl) (by kernel_rfl) (by intro c a d v w h; cases d <;> exact h) ⟨c0, c1⟩ ?_
      apply sig_still (o := ⟨some 15, _, _, _, _, _⟩) rfl rfl
      · intro w' hS
        obtain ⟨q1, q2⟩ := hS
        first | (go_simp; done) | (go_simp; rfl) | rfl
      go_frame
      apply sig_still (o := ⟨some 16, _, _, _, _, _⟩) rfl rfl
      · intro w' hS
        obtain ⟨q1, q2⟩ := hS
        first | (go_simp; done) | (go_simp; rfl) | rfl
      go_frame
      apply sig_still (o := ⟨some 18, _, _, _, _, _⟩) rfl rfl
      · intro w' hS
        obtain ⟨q1, q2⟩ := hS
        first | (go_simp; done) | (go_simp; rfl) | rfl
      go_frame
      apply sig_still (o := ⟨some 19, _, _, _, _, _⟩) rfl rfl
      · intro w' hS
        obtain ⟨q1, q2⟩ := hS
        first | (go_simp; done) | (go_simp; rfl) | rfl
      go_frame
      apply sig_still (o := ⟨some 20, _, _, _, _, _⟩) rfl rfl
      · intro w' hS
        obtain ⟨q1, q2⟩ := hS
        first | (go_simp; done) | (go_simp; rfl) | rfl
      go_frame
      apply sig_still (o := ⟨some 21, _, _, _, _, _⟩) rfl rfl
      · intro w' hS
        obtain ⟨q1, q2⟩ := hS
        first | (go_simp; done) | (go_simp; rfl) | rfl
      go_frame
      refine sig_eff (o := ⟨some 17, _, _, _, _, _⟩) rfl rfl (fun K hKe => ?_)
      refine wo_make (.tmp 16) (.tmp 16) 26 rfl _ _ rfl rfl ?_
      refine rg_make 5 (.int .u8 0) 1 1 Try.underlying26 o_info (by omega) (by unfold maxLen; omega) ?_
      intro W2 hmk hkm
      have hk2 : Keep No w1 W2 := ((Keep.refl No w1).drew).trans' hkm
      have hB2 := hBw1.keep hk2 fun h => h
      refine hKe _ _ ⟨fun _ => ⟨hB2.cell 0, hB2.cell 1⟩, ?_⟩
      have hmb : Bts (fun k => k = w1.heap.size) W2 (.slice (some ⟨w1.heap.size, 0, none⟩) n n) (List.replicate n 0) := by
        have := hmk
        rw [madeCells_u8] at this
        have hb := Bts.of_blk this (by rw [List.length_replicate]; unfold maxLen; omega)
        rw [List.length_replicate] at hb
        exact hb
      clear hKe hmk
      have hd0 : w1.drew.heap.size = w1.heap.size := rfl
      rw [hd0]
      clear hd0
      rw [hzw1] at hmb
      have hset := oset_any (List.replicate n 0) 0 (n : Int) x hmb (by rw [List.length_replicate]; omega) (by decide) hfi.2 (by
        unfold fitsE widthB hasB
        rw [List.length_replicate]
        rcases hfi.1 with rfl | rfl | rfl | rfl <;> decide)
      have hx0 : setX (List.replicate n 0) 0 (n : Int) x = le n x := by
        unfold setX
        rw [Int.toNat_natCast]
        exact setR_whole _ _ (by rw [le_len, List.length_replicate])
      rw [hx0, List.length_replicate] at hset
      clear hx0
      refine sig_eff (o := ⟨some 22, _, _, _, _, _⟩) rfl rfl (fun K hKe => ?_)
      go_wp2_with fail
      refine hset.mono ?_
      clear hset
      rintro e W3 ⟨v3, rfl, ho3, hk3⟩
      have hB3 := hB2.keep hk3 fun h => h
      go_wp2_with fail
      refine ⟨fun _ => ⟨hB3.cell 0, hB3.cell 1⟩, ?_⟩
      refine sig_eff (o := ⟨some 14, _, _, _, _, _⟩) rfl rfl (fun K hKe => ?_)
      go_wp2_with fail
      refine ⟨fun _ => ⟨hB3.cell 0, hB3.cell 1⟩, ?_⟩
      apply sig_still (o := ⟨some 23, _, _, _, _, _⟩) rfl rfl
      · intro w' hS
        obtain ⟨q1, q2⟩ := hS
        first | (go_simp; done) | (go_simp; rfl) | rfl
      go_frame
      apply sig_still (o := ⟨some 24, _, _, _, _, _⟩) rfl rfl
      · intro w' hS
        obtain ⟨q1, q2⟩ := hS
        first | (go_simp; done) | (go_simp; rfl) | rfl
      go_frame
      apply sig_still (o := ⟨some 6, _, _, _, _, _⟩) rfl rfl
      · intro w' hS
        obtain ⟨q1, q2⟩ := hS
        first | (go_simp; done) | (go_simp; rfl) | rfl
      go_frame
      apply sig_still (o := ⟨some 7, _, _, _, _, _⟩) rfl rfl
      · intro w' hS
        obtain ⟨q1, q2⟩ := hS
        first | (go_simp; done) | (go_simp; rfl) | rfl
      go_frame
      refine sig_nil ?_
      go_wp2_with (at_builtin; refine wl_append rfl _ _ _ _ rfl _ _ rfl rfl ?_)
      have hkA : Keep No wr W3 := (hkw1.trans' hk2).trans' hk3
      have hoA := own_no ho hkA
      have hbs : Bts _ W3 v3 (le n x) := bts_own (l := le n x) (by rw [le_len]; exact ho3)
      refine rg_bytes hoA hbs (by
        have := rowB_len (l.take i) fun f hm => by
          have := (hf f (List.mem_of_mem_take hm)).1
          omega
        rw [List.length_take] at this
        rw [le_len]
        omega) (Nat.le_trans hK.size hkA.size) ?_
      intro v4 W4 ho4 hk4 _
      rw [← HT.out] at ho4
      go_wp2_with fail
      go_roundw
      case rel => exact ⟨i + 1, rfl, hlt, ho4, Keep.own (hK.trans' hkA) hoA hk4⟩
      case measure => simp [intOf]; omega
    · obtain rfl : i = l.length := by omega
      rw [List.take_length] at ho
      go_wp2_with fail
      go_ret
      exact ⟨_, rfl, ho, hK⟩
end
end Go.Proofs.Ytbnahidopemkiaa
namespace Go.Proofs.Ytbnahidopemkiaa
open Go.RowKit Go.Dm
/-- a call of function f enters it -/
def Enters (f : Nat) (c : Array Value) : Prop := ∀ w : World, (callFunc f c).run Try.prog w = .ok (.enter f c) w
end Go.Proofs.Ytbnahidopemkiaa
