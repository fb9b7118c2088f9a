/- The document's answer: numbers behind bytes. The document's answer: fill, up, entries. append(b, s...) of a string's bytes onto a row of one's own: where the row lies then. No condition. -/
import Derived.Test.YtbnahidopemkiaaGreatSy2
import Derived.Test.YtbnahidopemkiaaGreatSg2
import Derived.Lib.AppendStr
set_option linter.unusedVariables false
set_option linter.unusedSimpArgs false
namespace Go.Proofs.YtbnahidopemkiaaGreat
open Go.RowKit Go.Dm Go.Dm.Oc
def e8 (b : UInt8) : List Value := [bv b]
theorem e8_one (b : UInt8) : ∀ u ∈ e8 b, u.oneCell' = true := by
  intro u hu; simp only [e8, List.mem_singleton] at hu; subst hu; rfl
theorem e8_map (l : List UInt8) : l.flatMap e8 = l.map bv := List.map_eq_flatMap.symm
/-- v' is v with bytes put behind it; what else was there stays -/
structure Pushed (base : Nat) (w w' : World) (v v' : Value) (l' : List UInt8) : Prop where
  row : FlO w' base 5 1 e8 v' l'
  kept : Keep (fun j => some j = v.ownBlock) w w'
  own : v'.ownBlock = v.ownBlock ∨ ∃ g, v'.ownBlock = some g ∧ w.heap.size ≤ g
section
variable {base : Nat} {w w1 w2 : World} {v v1 v2 : Value} {l l1 l2 : List UInt8}
theorem Pushed.refl (h : FlO w base 5 1 e8 v l) : Pushed base w w v v l := ⟨h, Keep.refl _ _, .inl rfl⟩
theorem Pushed.trans (h : Pushed base w w1 v v1 l1) (h2 : Pushed base w1 w2 v1 v2 l2) : Pushed base w w2 v v2 l2 := by
  refine ⟨h2.row, h.kept.trans h2.kept fun j hj e => ?_, ?_⟩
  · rcases h.own with e1 | ⟨g, e1, hg⟩
    · rw [e1] at e; exact e
    · rw [e1] at e
      cases e
      omega
  · rcases h2.own with e2 | ⟨g, e2, hg⟩
    · rw [e2]; exact h.own
    · exact .inr ⟨g, e2, Nat.le_trans h.kept.size hg⟩
theorem Pushed.step (h : Pushed base w w1 v v1 l1) (ho : FlO w2 base 5 1 e8 v2 l2) (hk : Keep (fun j => some j = v1.ownBlock) w1 w2) (hn : v2.ownBlock = v1.ownBlock ∨ v2.ownBlock = some (w1.heap.size + 1)) : Pushed base w w2 v v2 l2 :=
  h.trans ⟨ho, hk, hn.imp id fun e => ⟨_, e, Nat.le_succ _⟩⟩
/-- in a row of one's own -/
theorem Pushed.no {w0 : World} (h : Pushed base w w1 v v1 l1) (hb : w0.heap.size ≤ base) (ho : FlO w base 5 1 e8 v l) (hk : Keep No w0 w) : Keep No w0 w1 :=
  hk.trans h.kept fun j hj e => absurd (World.ownsRow.lt ho j e.symm).1 (by omega)
theorem wrapU64 (n : Int) : IntKind.u64.wrap n = n % 18446744073709551616 := by simp [IntKind.wrap, IntKind.bits, IntKind.signed]
theorem le_step {n k q : Nat} {acc all : List UInt8} (hk : k < n) (h : acc ++ le (n - k) q = all) : (acc ++ [UInt8.ofNat (q % 256)]) ++ le (n - (k + 1)) (q / 256) = all := by
  rw [← h, show n - k = (n - (k + 1)) + 1 from by omega]
  rw [List.append_assoc]
  rfl
set_option maxRecDepth 100000 in
set_option maxHeartbeats 4000000 in
theorem r03num_any (x n : Nat) (ho : FlO w base 5 1 e8 v l) (hx : x < 18446744073709551616) (hb : base ≤ w.heap.size)(hn : n ≤ 64) (hl : l.length ≤ 1000000) :
    Calls Tryz.prog 69 #[v, .int .u64 (x : Int), .int .i64 (n : Int)] w fun e w' => ∃ v', e = .returned v' ∧ Pushed base w w' v v' (l ++ le n x) := by
  have HO := Lib.hid ho
  obtain ⟨ao, co, rfl, _, _⟩ := ho.fl.shape
  clear ho
  go_enter Tryz.func69, Tryz.ntmps69
  go_wp2_with fail
  go_loopw [0, 1, 7] (fun ov xv kv wr => ∃ (k q : Nat) (acc : List UInt8), xv = .int .u64 (q : Int) ∧ kv = .int .i64 (k : Int) ∧ k ≤ n ∧ q < 18446744073709551616 ∧ acc.length = l.length + k ∧ Hid (acc ++ le (n - k) q = l ++ le n x) ∧ Pushed base w wr (.slice ao l.length co) ov acc) (fun _ _ kv _ => n - (intOf kv).toNat)
  case atStart => exact ⟨0, x, l, rfl, rfl, Nat.zero_le _, hx, rfl, Lib.hid rfl, Pushed.refl HO.out⟩
  case round =>
    obtain ⟨k, q, acc, rfl, rfl, hk, hq, hal, HA, hP⟩ := hrel
    generalize wr = wy at *
    obtain ⟨a1, c1, e1, _, _⟩ := hP.row.fl.shape
    subst e1
    rcases Nat.lt_or_ge k n with hlt | hge
    · have hkz : (k : Int) < (n : Int) := by omega
      have HL := Lib.hid hal
      have hs := hP.kept.size
      clear hal
      go_wp2_with (at_builtin; refine wl_append rfl _ _ _ _ rfl _ _ rfl rfl ?_)
      have hbv : Value.int .u8 ((q : Int) % 256) = bv (UInt8.ofNat (q % 256)) := by
        unfold bv
        rw [UInt8.toNat_ofNat', Nat.mod_mod]
        rfl
      rw [hbv]
      refine rg_push (w := wy) (cs := #[bv (UInt8.ofNat (q % 256))]) (enc := e8) (x := UInt8.ofNat (q % 256)) (l := acc) (base := base) _ 1 Tryz.underlying24 o_info rfl (by decide) rfl rfl (e8_one _) hP.row (by rw [HL.out]; omega) (by decide) (by omega) ?_
      intro v4 w4 ho4 hk4 hb4
      have hP4 := hP.step ho4 hk4 hb4
      have HA4 := Lib.hid (le_step hlt HA.out)
      obtain ⟨a4, n4, c4, rfl⟩ : ∃ a n c, v4 = .slice a n c := by
        obtain ⟨a, c, e, _⟩ := ho4.fl.shape
        exact ⟨_, _, _, e⟩
      clear hbv ho4 hk4 hb4 hP hs
      have hq2 : IntKind.u64.wrap ((q : Int).tdiv 256) = ((q / 256 : Nat) : Int) := by
        rw [Int.tdiv_eq_ediv_of_nonneg (by omega), wrapU64, Int.natCast_ediv]
        omega
      go_wp2_with fail
      go_roundw
      case rel => exact ⟨k + 1, q / 256, _, by go_num, by go_num, hlt, by omega, by rw [List.length_append, HL.out]; rfl, HA4, hP4⟩
      case measure => simp [intOf]; omega
    · obtain rfl : k = n := Nat.le_antisymm hk hge
      have hA := HA.out
      rw [Nat.sub_self] at hA
      have hA : acc ++ [] = l ++ le _ x := hA
      rw [List.append_nil] at hA
      subst hA
      clear hal HA
      go_wp2_with fail
      go_ret
      exact ⟨_, rfl, hP⟩
set_option maxRecDepth 100000 in
set_option maxHeartbeats 4000000 in
theorem r04eight_any (x n : Nat) (ho : FlO w base 5 1 e8 v l) (hx : x < 18446744073709551616) (hb : base ≤ w.heap.size)(hn : n ≤ 64) (hl : l.length ≤ 1000000) :
    Calls Tryz.prog 70 #[v, .int .u64 (x : Int), .int .i64 (n : Int)] w fun e w' => ∃ v', e = .returned v' ∧ Pushed base w w' v v' (l ++ le n x) := by
  have HO := Lib.hid ho
  obtain ⟨ao, co, rfl, _, _⟩ := ho.fl.shape
  clear ho
  go_enter Tryz.func70, Tryz.ntmps70
  go_wp2_with fail
  go_loopw [0, 1, 7] (fun ov xv kv wr => ∃ (k q : Nat) (acc : List UInt8), xv = .int .u64 (q : Int) ∧ kv = .int .i64 (k : Int) ∧ k ≤ n ∧ q < 18446744073709551616 ∧ acc.length = l.length + k ∧ Hid (acc ++ le (n - k) q = l ++ le n x) ∧ Pushed base w wr (.slice ao l.length co) ov acc) (fun _ _ kv _ => n - (intOf kv).toNat)
  case atStart => exact ⟨0, x, l, rfl, rfl, Nat.zero_le _, hx, rfl, Lib.hid rfl, Pushed.refl HO.out⟩
  case round =>
    obtain ⟨k, q, acc, rfl, rfl, hk, hq, hal, HA, hP⟩ := hrel
    generalize wr = wy at *
    obtain ⟨a1, c1, e1, _, _⟩ := hP.row.fl.shape
    subst e1
    rcases Nat.lt_or_ge k n with hlt | hge
    · have hkz : (k : Int) < (n : Int) := by omega
      have HL := Lib.hid hal
      have hs := hP.kept.size
      clear hal
      go_wp2_with (at_builtin; refine wl_append rfl _ _ _ _ rfl _ _ rfl rfl ?_)
      have hbv : Value.int .u8 ((q : Int) % 256) = bv (UInt8.ofNat (q % 256)) := by
        unfold bv
        rw [UInt8.toNat_ofNat', Nat.mod_mod]
        rfl
      rw [hbv]
      refine rg_push (w := wy) (cs := #[bv (UInt8.ofNat (q % 256))]) (enc := e8) (x := UInt8.ofNat (q % 256)) (l := acc) (base := base) _ 1 Tryz.underlying24 o_info rfl (by decide) rfl rfl (e8_one _) hP.row (by rw [HL.out]; omega) (by decide) (by omega) ?_
      intro v4 w4 ho4 hk4 hb4
      have hP4 := hP.step ho4 hk4 hb4
      have HA4 := Lib.hid (le_step hlt HA.out)
      obtain ⟨a4, n4, c4, rfl⟩ : ∃ a n c, v4 = .slice a n c := by
        obtain ⟨a, c, e, _⟩ := ho4.fl.shape
        exact ⟨_, _, _, e⟩
      clear hbv ho4 hk4 hb4 hP hs
      have hq2 : IntKind.u64.wrap ((q : Int).tdiv 256) = ((q / 256 : Nat) : Int) := by
        rw [Int.tdiv_eq_ediv_of_nonneg (by omega), wrapU64, Int.natCast_ediv]
        omega
      go_wp2_with fail
      go_roundw
      case rel => exact ⟨k + 1, q / 256, _, by go_num, by go_num, hlt, by omega, by rw [List.length_append, HL.out]; rfl, HA4, hP4⟩
      case measure => simp [intOf]; omega
    · obtain rfl : k = n := Nat.le_antisymm hk hge
      have hA := HA.out
      rw [Nat.sub_self] at hA
      have hA : acc ++ [] = l ++ le _ x := hA
      rw [List.append_nil] at hA
      subst hA
      clear hal HA
      go_wp2_with fail
      go_ret
      exact ⟨_, rfl, hP⟩
set_option maxRecDepth 100000 in
set_option maxHeartbeats 4000000 in
theorem r06num_any (x n : Nat) (ho : FlO w base 5 1 e8 v l) (hx : x < 18446744073709551616) (hb : base ≤ w.heap.size)(hn : n ≤ 64) (hl : l.length ≤ 1000000) :
    Calls Tryz.prog 71 #[v, .int .u64 (x : Int), .int .i64 (n : Int)] w fun e w' => ∃ v', e = .returned v' ∧ Pushed base w w' v v' (l ++ le n x) := by
  have HO := Lib.hid ho
  obtain ⟨ao, co, rfl, _, _⟩ := ho.fl.shape
  clear ho
  go_enter Tryz.func71, Tryz.ntmps71
  go_wp2_with fail
  go_loopw [0, 1, 7] (fun ov xv kv wr => ∃ (k q : Nat) (acc : List UInt8), xv = .int .u64 (q : Int) ∧ kv = .int .i64 (k : Int) ∧ k ≤ n ∧ q < 18446744073709551616 ∧ acc.length = l.length + k ∧ Hid (acc ++ le (n - k) q = l ++ le n x) ∧ Pushed base w wr (.slice ao l.length co) ov acc) (fun _ _ kv _ => n - (intOf kv).toNat)
  case atStart => exact ⟨0, x, l, rfl, rfl, Nat.zero_le _, hx, rfl, Lib.hid rfl, Pushed.refl HO.out⟩
  case round =>
    obtain ⟨k, q, acc, rfl, rfl, hk, hq, hal, HA, hP⟩ := hrel
    generalize wr = wy at *
    obtain ⟨a1, c1, e1, _, _⟩ := hP.row.fl.shape
    subst e1
    rcases Nat.lt_or_ge k n with hlt | hge
    · have hkz : (k : Int) < (n : Int) := by omega
      have HL := Lib.hid hal
      have hs := hP.kept.size
      clear hal
      go_wp2_with (at_builtin; refine wl_append rfl _ _ _ _ rfl _ _ rfl rfl ?_)
      have hbv : Value.int .u8 ((q : Int) % 256) = bv (UInt8.ofNat (q % 256)) := by
        unfold bv
        rw [UInt8.toNat_ofNat', Nat.mod_mod]
        rfl
      rw [hbv]
      refine rg_push (w := wy) (cs := #[bv (UInt8.ofNat (q % 256))]) (enc := e8) (x := UInt8.ofNat (q % 256)) (l := acc) (base := base) _ 1 Tryz.underlying24 o_info rfl (by decide) rfl rfl (e8_one _) hP.row (by rw [HL.out]; omega) (by decide) (by omega) ?_
      intro v4 w4 ho4 hk4 hb4
      have hP4 := hP.step ho4 hk4 hb4
      have HA4 := Lib.hid (le_step hlt HA.out)
      obtain ⟨a4, n4, c4, rfl⟩ : ∃ a n c, v4 = .slice a n c := by
        obtain ⟨a, c, e, _⟩ := ho4.fl.shape
        exact ⟨_, _, _, e⟩
      clear hbv ho4 hk4 hb4 hP hs
      have hq2 : IntKind.u64.wrap ((q : Int).tdiv 256) = ((q / 256 : Nat) : Int) := by
        rw [Int.tdiv_eq_ediv_of_nonneg (by omega), wrapU64, Int.natCast_ediv]
        omega
      go_wp2_with fail
      go_roundw
      case rel => exact ⟨k + 1, q / 256, _, by go_num, by go_num, hlt, by omega, by rw [List.length_append, HL.out]; rfl, HA4, hP4⟩
      case measure => simp [intOf]; omega
    · obtain rfl : k = n := Nat.le_antisymm hk hge
      have hA := HA.out
      rw [Nat.sub_self] at hA
      have hA : acc ++ [] = l ++ le _ x := hA
      rw [List.append_nil] at hA
      subst hA
      clear hal HA
      go_wp2_with fail
      go_ret
      exact ⟨_, rfl, hP⟩
set_option maxRecDepth 100000 in
set_option maxHeartbeats 4000000 in
theorem r07eight_any (x : Nat) (ho : FlO w base 5 1 e8 v l) (hx : x < 18446744073709551616) (hb : base ≤ w.heap.size) (hl : l.length ≤ 1000000) :
    Calls Tryz.prog 72 #[v, .int .u64 (x : Int)] w fun e w' => ∃ v', e = .returned v' ∧ Pushed base w w' v v' (l ++ le 8 x) := by
  have HO := Lib.hid ho
  obtain ⟨ao, co, rfl, _, _⟩ := ho.fl.shape
  clear ho
  go_enter Tryz.func72, Tryz.ntmps72
  go_wp2_with fail
  go_loopw [0, 1, 5] (fun ov xv kv wr => ∃ (k q : Nat) (acc : List UInt8), xv = .int .u64 (q : Int) ∧ kv = .int .i64 (k : Int) ∧ k ≤ 8 ∧ q < 18446744073709551616 ∧ acc.length = l.length + k ∧ Hid (acc ++ le (8 - k) q = l ++ le 8 x) ∧ Pushed base w wr (.slice ao l.length co) ov acc) (fun _ _ kv _ => 8 - (intOf kv).toNat)
  case atStart => exact ⟨0, x, l, rfl, rfl, Nat.zero_le _, hx, rfl, Lib.hid rfl, Pushed.refl HO.out⟩
  case round =>
    obtain ⟨k, q, acc, rfl, rfl, hk, hq, hal, HA, hP⟩ := hrel
    generalize wr = wy at *
    obtain ⟨a1, c1, e1, _, _⟩ := hP.row.fl.shape
    subst e1
    rcases Nat.lt_or_ge k 8 with hlt | hge
    · have hkz : (k : Int) < (8 : Int) := by omega
      have HL := Lib.hid hal
      have hs := hP.kept.size
      clear hal
      go_wp2_with (at_builtin; refine wl_append rfl _ _ _ _ rfl _ _ rfl rfl ?_)
      have hbv : Value.int .u8 ((q : Int) % 256) = bv (UInt8.ofNat (q % 256)) := by
        unfold bv
        rw [UInt8.toNat_ofNat', Nat.mod_mod]
        rfl
      rw [hbv]
      refine rg_push (w := wy) (cs := #[bv (UInt8.ofNat (q % 256))]) (enc := e8) (x := UInt8.ofNat (q % 256)) (l := acc) (base := base) _ 1 Tryz.underlying24 o_info rfl (by decide) rfl rfl (e8_one _) hP.row (by rw [HL.out]; omega) (by decide) (by omega) ?_
      intro v4 w4 ho4 hk4 hb4
      have hP4 := hP.step ho4 hk4 hb4
      have HA4 := Lib.hid (le_step hlt HA.out)
      obtain ⟨a4, n4, c4, rfl⟩ : ∃ a n c, v4 = .slice a n c := by
        obtain ⟨a, c, e, _⟩ := ho4.fl.shape
        exact ⟨_, _, _, e⟩
      clear hbv ho4 hk4 hb4 hP hs
      have hq2 : IntKind.u64.wrap ((q : Int).tdiv 256) = ((q / 256 : Nat) : Int) := by
        rw [Int.tdiv_eq_ediv_of_nonneg (by omega), wrapU64, Int.natCast_ediv]
        omega
      go_wp2_with fail
      go_roundw
      case rel => exact ⟨k + 1, q / 256, _, by go_num, by go_num, hlt, by omega, by rw [List.length_append, HL.out]; rfl, HA4, hP4⟩
      case measure => simp [intOf]; omega
    · obtain rfl : k = 8 := Nat.le_antisymm hk hge
      have hA := HA.out
      rw [Nat.sub_self] at hA
      have hA : acc ++ [] = l ++ le _ x := hA
      rw [List.append_nil] at hA
      subst hA
      clear hal HA
      go_wp2_with fail
      go_ret
      exact ⟨_, rfl, hP⟩
end
end Go.Proofs.YtbnahidopemkiaaGreat
namespace Go.Dm.Ld
open Go Go.Dm.Oc
/-- bytes up to a multiple -/
def padM (l : BS) (n : Nat) : BS := l ++ List.replicate ((n - l.length % n) % n) 0
def upM (x n : Nat) : Nat := (x + n - 1) / n * n
end Go.Dm.Ld
namespace Go.Proofs.YtbnahidopemkiaaGreat
open Go.RowKit Go.Dm Go.Dm.Oc Go.Dm.Ld
section
variable {base : Nat} {w w1 w2 : World} {v v1 v2 : Value} {l l1 l2 : List UInt8}
theorem pad_done {l : List UInt8} {n : Nat} (h : l.length % n = 0) : padM l n = l := by
  unfold padM
  rw [h, Nat.sub_zero, Nat.mod_self]
  simp
theorem pad_step {l : List UInt8} {n : Nat} (hn : 0 < n) (h : l.length % n ≠ 0) : padM (l ++ [0]) n = padM l n := by
  unfold padM
  rw [List.length_append, List.append_assoc]
  have h1 := Nat.mod_lt l.length hn
  have e : (n - l.length % n) % n = (n - (l.length + 1) % n) % n + 1 := by
    rw [Nat.mod_eq_of_lt (show n - l.length % n < n by omega)]
    rcases Nat.lt_or_ge (l.length % n + 1) n with h2 | h2
    · have e2 : (l.length + 1) % n = l.length % n + 1 := by
        rw [Nat.add_mod, Nat.mod_eq_of_lt (show 1 < n by omega), Nat.mod_eq_of_lt h2]
      rw [e2, Nat.mod_eq_of_lt (show n - (l.length % n + 1) < n by omega)]
      omega
    · have e3 : l.length % n + 1 = n := by omega
      have e2 : (l.length + 1) % n = 0 := by
        rw [Nat.add_mod]
        rcases Nat.eq_or_lt_of_le (show 1 ≤ n from hn) with h4 | h4
        · rw [← h4]; exact Nat.mod_one _
        · rw [Nat.mod_eq_of_lt h4, e3, Nat.mod_self]
      rw [e2, Nat.sub_zero, Nat.mod_self]
      omega
  rw [e]
  simp only [List.length_cons, List.length_nil]
  rw [List.replicate_succ]
  rfl
theorem pad_len (l : List UInt8) (n : Nat) : (padM l n).length = l.length + (n - l.length % n) % n := by
  unfold padM
  rw [List.length_append, List.length_replicate]
set_option maxRecDepth 100000 in
set_option maxHeartbeats 4000000 in
theorem r09fill_any (n : Nat) (ho : FlO w base 5 1 e8 v l) (hb : base ≤ w.heap.size) (hn0 : 0 < n) (hn : n ≤ 4096) (hl : l.length ≤ 100000000) :
    Calls Tryz.prog 40 #[v, .int .i64 (n : Int)] w fun e w' => ∃ v', e = .returned v' ∧ Pushed base w w' v v' (padM l n) := by
  have HO := Lib.hid ho
  obtain ⟨ao, co, rfl, _, _⟩ := ho.fl.shape
  clear ho
  go_enter Tryz.func40, Tryz.ntmps40
  go_wp2_with fail
  go_loopw [0] (fun ov wr => ∃ acc : List UInt8, Hid (padM acc n = padM l n) ∧ Pushed base w wr (.slice ao l.length co) ov acc) (fun ov _ => match ov with | .slice _ k _ => (n - k % n) % n | _ => 0)
  case atStart => exact ⟨l, Lib.hid rfl, Pushed.refl HO.out⟩
  case round =>
    obtain ⟨acc, HA, hP⟩ := hrel
    generalize wr = wy at *
    obtain ⟨a1, c1, e1, _, _⟩ := hP.row.fl.shape
    subst e1
    have hs := hP.kept.size
    have hal : acc.length ≤ l.length + n := by
      have h1 := pad_len acc n
      have h2 := pad_len l n
      have h3 := Nat.mod_lt (n - l.length % n) hn0
      rw [HA.out] at h1
      omega
    have htm : ((acc.length : Int)).tmod (n : Int) = ((acc.length % n : Nat) : Int) := by
      rw [Int.tmod_eq_emod_of_nonneg (by omega)]; push_cast; rfl
    have hn00 : ((n : Int) == 0) = false := by rw [beq_eq_false_iff_ne]; omega
    have hnz : (n : Int) ≠ 0 := by omega
    have hr1 := Nat.mod_lt acc.length hn0
    have hrb : acc.length % n < 4096 := Nat.lt_of_lt_of_le hr1 hn
    have hwr : wrap64 ((acc.length % n : Nat) : Int) = ((acc.length % n : Nat) : Int) := by
      generalize acc.length % n = r at *
      clear htm hr1 hal
      unfold wrap64
      have : r < 4096 := hrb
      clear hrb
      omega
    rcases Nat.eq_zero_or_pos (acc.length % n) with hz | hz
    · have hpd := pad_done hz
      rw [HA.out] at hpd
      subst hpd
      rw [hz] at htm
      clear hwr hr1 HA hrb
      go_wp2_with fail
      go_ret
      exact ⟨_, rfl, hP⟩
    · have hst := pad_step (l := acc) hn0 (Nat.pos_iff_ne_zero.1 hz)
      have h1 := pad_len (acc ++ [0]) n
      have h2 := pad_len acc n
      rw [hst, List.length_append] at h1
      simp only [List.length_cons, List.length_nil] at h1
      have hmeas : (n - (acc.length + 1) % n) % n < (n - acc.length % n) % n := by
        revert h1 h2
        generalize (n - (acc.length + 1) % n) % n = p1
        generalize (n - acc.length % n) % n = p2
        generalize (padM acc n).length = p3
        intro h1 h2
        clear hal htm hr1 hrb hwr hz
        omega
      have HM := Lib.hid hmeas
      have HS := Lib.hid hst
      have hnz2 : (((acc.length % n : Nat) : Int) != 0) = true := by
        rw [bne_iff_ne]
        exact fun h => Nat.pos_iff_ne_zero.1 hz (Int.ofNat.inj h)
      clear h1 h2 hmeas hst hz
      generalize hr : acc.length % n = r at *
      have HRR := Lib.hid hr
      clear hr
      go_wp2_with (at_builtin; refine wl_append rfl _ _ _ _ rfl _ _ rfl rfl ?_)
      refine rg_push (w := wy) (cs := #[bv 0]) (enc := e8) (x := 0) (l := acc) (base := base) _ 1 Tryz.underlying24 o_info rfl (by decide) rfl rfl (e8_one _) hP.row (by omega) (by decide) (by omega) ?_
      intro v4 w4 ho4 hk4 hb4
      have hP4 := hP.step ho4 hk4 hb4
      obtain ⟨a4, c4, e4, _, _⟩ := ho4.fl.shape
      obtain ⟨n4, hn4⟩ : ∃ n4, n4 = (acc ++ [0]).length := ⟨_, rfl⟩
      rw [← hn4] at e4
      subst e4
      have HN4 := Lib.hid hn4
      clear hn4
      clear ho4 hk4 hb4 hP hs
      go_wp2_with fail
      go_roundw
      case rel => exact ⟨_, Lib.hid (HS.out.trans HA.out), hP4⟩
      case measure =>
        have h := HN4.out
        rw [List.length_append] at h
        show (n - n4 % n) % n < (n - acc.length % n) % n
        rw [h, HRR.out]
        exact HM.out
set_option maxHeartbeats 1000000 in
theorem r09up_any (x n : Nat) (h : x + n < 18446744073709551616) (hn : 0 < n) :
    Calls Tryz.prog 37 #[.int .u64 (x : Int), .int .u64 (n : Int)] w fun e w' => e = .returned (.int .u64 (upM x n : Int)) ∧ w' = w := by
  have hnz : ((n : Int) == 0) = false := by rw [beq_eq_false_iff_ne]; omega
  have hn0 : (n : Int) ≠ 0 := by omega
  have e1 : IntKind.u64.wrap ((x : Int) + n) = ((x + n : Nat) : Int) := by rw [wrapU64]; omega
  have e2 : IntKind.u64.wrap (((x + n : Nat) : Int) - 1) = ((x + n - 1 : Nat) : Int) := by rw [wrapU64]; omega
  have hle : (x + n - 1) / n * n ≤ x + n - 1 := Nat.div_mul_le_self _ _
  have hle2 : (x + n - 1) / n ≤ x + n - 1 := Nat.div_le_self _ _
  have e3 : IntKind.u64.wrap (((x + n - 1 : Nat) : Int).tdiv (n : Int)) = (((x + n - 1) / n : Nat) : Int) := by
    rw [Int.tdiv_eq_ediv_of_nonneg (by omega), wrapU64, ← Int.natCast_ediv]
    generalize (x + n - 1) / n = q at *
    omega
  have e4 : IntKind.u64.wrap ((((x + n - 1) / n : Nat) : Int) * (n : Int)) = (upM x n : Int) := by
    rw [wrapU64, ← Int.natCast_mul]
    unfold upM
    generalize (x + n - 1) / n * n = z at *
    omega
  have e5 : IntKind.u64.wrap (((x + n - 1 : Nat) : Int) / (n : Int)) = (((x + n - 1) / n : Nat) : Int) := by
    rw [wrapU64, ← Int.natCast_ediv]
    generalize (x + n - 1) / n = q at *
    omega
  generalize upM x n = y at *
  generalize (x + n - 1) / n = q at *
  generalize x + n - 1 = p at *
  generalize x + n = s at *
  go_enter Tryz.func37, Tryz.ntmps37
  go_wp2_with fail
  go_ret
  exact ⟨rfl, rfl⟩
end
end Go.Proofs.YtbnahidopemkiaaGreat
namespace Go.Proofs.YtbnahidopemkiaaGreat
open Go.RowKit Go.Dm Go.Dm.Oc
section
variable {base : Nat} {w : World} {v : Value} {l : List UInt8}
theorem strCells_bv (s : List UInt8) : Lib.strCells ⟨s.toArray⟩ = s.flatMap e8 := by
  rw [e8_map]
  show (s.toArray.toList.map fun b => Value.int .u8 b.toNat) = s.map bv
  rw [List.toList_toArray]
  rfl
theorem rg_appstr {t u ty : TypeId} (ht : Tryz.prog.underlying t = some (.slice 5)) (hu : Tryz.prog.underlying u = some .string) (s : List UInt8) {bs : ByteArray} (hbs : (⟨s.toArray⟩ : ByteArray) = bs) (hp : 0 < l.length) (ho : FlO w base 5 1 e8 v l) (hlen : l.length + s.length ≤ 1099511627776) (hb : base ≤ w.heap.size) {K : Value → World → Prop}
    (h : ∀ v' w', Pushed base w w' v v' (l ++ s) → K v' w') : AppendGoal Tryz.prog t u ty v (.string bs) w K := by
  subst hbs
  have hi := @o_info
  obtain ⟨i, hi1, hi2⟩ := Option.map_eq_some_iff.1 hi
  simp only [Prod.mk.injEq] at hi2
  obtain ⟨e1, e2, e3⟩ := hi2
  have hsz : (⟨s.toArray⟩ : ByteArray).size = s.length := by show s.toArray.size = _; rw [List.size_toArray]
  have ho' := ho
  unfold FlO at ho'
  obtain ⟨v', w', hr, hw, hg, _⟩ := Lib.run_append_own_string (P := Tryz.prog) (w := w) (ty := ty) base t u 5 i ht hu hi1 e1 e2 e3 v l.length (l.flatMap e8) ho' ⟨s.toArray⟩ (by rw [hsz]; unfold maxLen; omega) (by rw [hsz]; omega) hb
  have hrow : FlO w' base 5 1 e8 v' (l ++ s) := by
    unfold FlO
    rw [List.length_append, List.flatMap_append, ← strCells_bv s, ← hsz]
    exact hw
  refine .mk hr (h v' w' ⟨hrow, Keep.of_grown hg, ?_⟩)
  rcases ho'.2 with ⟨rfl, hn⟩ | ⟨g, cap, cur, rfl, hbg, hgg, hnc, hcm, hcs, htake⟩
  · omega
  · by_cases hroom : l.length + s.length ≤ cap
    · have hr2 := Lib.run_append_room_string (P := Tryz.prog) w t u ty 5 i ht hu hi1 e2 g l.length cap cur hgg ⟨s.toArray⟩ (by rw [hsz]; exact hroom) (by rw [hsz]; omega)
      rw [hr] at hr2
      injection hr2 with q1 q2
      subst q1
      exact .inl rfl
    · have holds : ∀ j u, (l.flatMap e8)[j]? = some u → w.cell? ((⟨g, 0, none⟩ : Addr).add j) = some u := ho'.cells (g := g) rfl
      have hr2 := Lib.run_append_grow_string (P := Tryz.prog) w t u ty 5 i (.int .u8 0) ht hu hi1 e1 ⟨g, 0, none⟩ l.length cap (l.flatMap e8) (by rw [e2]; exact ho'.1) holds ⟨s.toArray⟩ (by rw [hsz]; omega) (by rw [hsz]; omega) (by rw [hsz, e3]; exact growslice_fits (by omega) (by omega))
      rw [hr] at hr2
      injection hr2 with q1 q2
      subst q1
      exact .inr ⟨_, rfl, Nat.le_refl _⟩
end
end Go.Proofs.YtbnahidopemkiaaGreat
