/- head: Put. The document's answer: numbers behind bytes. The document's answer: fill, up, entries. head: Get. symbols: one, Table. symbols: Table. No condition. -/
import Derived.Test.YtbnahidopemkiaaApZ
import Derived.Test.YtbnahidopemkiaaSigT
set_option linter.unusedVariables false
set_option linter.unusedSimpArgs false
namespace Go.Proofs.Ytbnahidopemkiaa
open Go.RowKit Go.Dm Go.Dm.Oc Go.Dm.Ld
section
variable {A : Nat → Prop} {w : World}
/-- a block known whole is a row of one's own -/
theorem own_blk {g base n size : Nat} {cs : Array Value} {t : TypeId} (h : Blk w g cs t) (hb : base ≤ g) (hs : cs.size = n * size) (hn : n ≤ maxLen) : w.ownsRow base t size (.slice (some ⟨g, 0, none⟩) n n) n cs.toList :=
  ⟨by simpa using hs, .inr ⟨g, n, cs, rfl, hb, h, Nat.le_refl _, hn, hs, by rw [List.take_of_length_le]; rw [Array.length_toList, hs]; exact Nat.le_refl _⟩⟩
/-- append(v, make([]byte, m)...) -/
theorem rg_zeros {base : Nat} {ty : TypeId} {v : Value} {l : List UInt8} {m : Nat} (ho : w.ownsRow base 5 1 v l.length (l.map bv)) (hm : 0 < m) (hlen : l.length + m ≤ 1099511627776) (hbase : base ≤ w.heap.size) {K : Value → World → Prop}
    (h : ∀ v' w', w'.ownsRow base 5 1 v' (l ++ List.replicate m 0).length ((l ++ List.replicate m 0).map bv) → Keep (fun j => some j = v.ownBlock) w w' → (v'.ownBlock = v.ownBlock ∨ v'.ownBlock = some w.heap.size) → K v' w') : AppendGoal Try.prog 26 3 ty v (.int .i64 (m : Int)) w K := by
  obtain ⟨v', w', hr, ho', hg, hl⟩ := run_zeros_own (P := Try.prog) w base 26 3 ty 5 (.int .u8 0) 1 1 Try.underlying26 Try.underlying3 o_info rfl (by decide) ho hm (by rw [zeroCells_u8]; exact bv_one _) (by unfold maxLen; omega) (by omega) hbase
  refine .mk hr (h v' w' ?_ (Keep.of_grown hg) hl)
  rw [List.length_append, List.map_append, List.length_replicate]
  rw [zeroCells_u8] at ho'
  exact ho'
def encHd (h : Hd) : List Value := [.int .i64 (h.kind : Int), .int .u64 (h.entry : Int), .int .u64 (h.segs : Int), .int .i64 (h.count : Int)]
def hdRow (h : Hd) : List (Nat × Nat) := [(2, h.kind), (2, 19823), (4, 1), (8, h.entry), (8, h.segs), (8, 0), (4, 0), (2, 64), (2, 56), (2, h.count), (2, 0), (2, 0), (2, 0)]
theorem headB_row (h : Hd) : magic ++ rowB (hdRow h) = headB h := by
  simp only [rowB, hdRow, headB, List.flatMap_cons, List.flatMap_nil, List.append_nil, List.append_assoc]
def hputM (h : Hd) : Nat × BS := if headOk h then (0, headB h) else (1, [])
set_option maxRecDepth 100000 in
set_option maxHeartbeats 4000000 in
theorem hput_any (h : Hd) (h1 : h.kind < 9223372036854775808) (h2 : h.entry < 18446744073709551616) (h3 : h.segs < 18446744073709551616) (h4 : h.count < 9223372036854775808) :
    Calls Try.prog 95 #[.agg (encHd h).toArray] w fun e w' => ∃ v', e = .returned (.tuple #[v', .int .i64 ((hputM h).1 : Nat)]) ∧ w'.ownsRow w.heap.size 5 1 v' (hputM h).2.length ((hputM h).2.map bv) ∧ Keep No w w' := by
  have hH : hputM h = if headOk h then (0, headB h) else (1, []) := rfl
  rw [← headB_row] at hH
  have hf : ∀ f ∈ hdRow h, (f.1 = 1 ∨ f.1 = 2 ∨ f.1 = 4 ∨ f.1 = 8) ∧ f.2 < 18446744073709551616 := by
    intro f hf
    simp only [hdRow, List.mem_cons, List.not_mem_nil, or_false] at hf
    rcases hf with rfl | rfl | rfl | rfl | rfl | rfl | rfl | rfl | rfl | rfl | rfl | rfl | rfl <;> (dsimp only; omega)
  have hok : headOk h = (decide (2 ≤ h.kind) && decide (h.kind ≤ 4) && decide (h.count ≤ 64)) := rfl
  rw [hok] at hH
  clear hok
  have hrl : (rowB (hdRow h)).length = 48 := rfl
  have hcells : (hdRow h).flatMap encF = [.int .i64 2, .int .u64 (h.kind : Int), .int .i64 2, .int .u64 19823, .int .i64 4, .int .u64 1, .int .i64 8, .int .u64 (h.entry : Int), .int .i64 8, .int .u64 (h.segs : Int), .int .i64 8, .int .u64 0, .int .i64 4, .int .u64 0, .int .i64 2, .int .u64 64, .int .i64 2, .int .u64 56, .int .i64 2, .int .u64 (h.count : Int), .int .i64 2, .int .u64 0, .int .i64 2, .int .u64 0, .int .i64 2, .int .u64 0] := rfl
  have hl13 : (hdRow h).length = 13 := rfl
  unfold encHd
  generalize hdRow h = rw_ at *
  generalize hputM h = res at *
  generalize h.kind = x0 at *
  generalize h.entry = x1 at *
  generalize h.segs = x2 at *
  generalize h.count = x3 at *
  by_cases hok : 2 ≤ x0 ∧ x0 ≤ 4 ∧ x3 ≤ 64
  · rw [if_pos (by simp; omega)] at hH
    subst hH
    obtain ⟨k1, k2, k3⟩ := hok
    go_enter Try.func95, Try.ntmps95
    go_wp2_with (at_builtin; refine wl_append rfl _ _ _ _ rfl _ _ rfl rfl ?_)
    have hkW : Keep No w (w.alloc (.cells #[.int .i64 (x0 : Int), .int .u64 (x1 : Int), .int .u64 (x2 : Int), .int .i64 (x3 : Int)] 36)) := (Keep.refl _ _).alloc _
    have hBW : Blk (w.alloc (.cells #[.int .i64 (x0 : Int), .int .u64 (x1 : Int), .int .u64 (x2 : Int), .int .i64 (x3 : Int)] 36)) w.heap.size #[.int .i64 (x0 : Int), .int .u64 (x1 : Int), .int .u64 (x2 : Int), .int .i64 (x3 : Int)] 36 := Blk.new _ _ _
    have hzW : (w.alloc (.cells #[.int .i64 (x0 : Int), .int .u64 (x1 : Int), .int .u64 (x2 : Int), .int .i64 (x3 : Int)] 36)).heap.size = w.heap.size + 1 := World.size_alloc _ _
    generalize w.alloc (.cells #[.int .i64 (x0 : Int), .int .u64 (x1 : Int), .int .u64 (x2 : Int), .int .i64 (x3 : Int)] 36) = W at *
    have hkV : Keep No W (W.alloc (.cells #[.int .u8 127, .int .u8 69, .int .u8 76, .int .u8 70, .int .u8 2, .int .u8 1, .int .u8 1] 5)) := (Keep.refl _ _).alloc _
    have hBV : Blk (W.alloc (.cells #[.int .u8 127, .int .u8 69, .int .u8 76, .int .u8 70, .int .u8 2, .int .u8 1, .int .u8 1] 5)) W.heap.size #[.int .u8 127, .int .u8 69, .int .u8 76, .int .u8 70, .int .u8 2, .int .u8 1, .int .u8 1] 5 := Blk.new _ _ _
    have hzV : (W.alloc (.cells #[.int .u8 127, .int .u8 69, .int .u8 76, .int .u8 70, .int .u8 2, .int .u8 1, .int .u8 1] 5)).heap.size = W.heap.size + 1 := World.size_alloc _ _
    generalize W.alloc (.cells #[.int .u8 127, .int .u8 69, .int .u8 76, .int .u8 70, .int .u8 2, .int .u8 1, .int .u8 1] 5) = V at *
    rw [← hzW]
    have ho1 : V.ownsRow w.heap.size 5 1 (.slice (some ⟨W.heap.size, 0, none⟩) 7 7) ([127, 69, 76, 70, 2, 1, 1] : BS).length (([127, 69, 76, 70, 2, 1, 1] : BS).map bv) := own_blk (cs := #[.int .u8 127, .int .u8 69, .int .u8 76, .int .u8 70, .int .u8 2, .int .u8 1, .int .u8 1]) hBV hkW.size (by rfl) (by decide)
    have hkwV := hkW.trans' hkV
    have hBW2 := hBW.keep hkV fun h => h
    refine rg_zeros (m := 9) ho1 (by decide) (by decide) hkwV.size ?_
    intro v1 w1 ho2 hk1 hown
    have hkw1 : Keep No w w1 := Keep.own hkwV ho1 hk1
    have hB1 := hBW2.keep hk1 fun e => by
      simp only [Value.ownBlock, Option.some.injEq] at e
      omega
    have ho3 : w1.ownsRow w.heap.size 5 1 v1 magic.length (magic.map bv) := ho2
    have d0 := hB1.cell 0
    have d1 := hB1.cell 1
    have d2 := hB1.cell 2
    have d3 := hB1.cell 3
    clear ho2 ho1 hk1 hown hBW hBW2 hB1 hBV hkV
    go_wp2_with fail
    have hkw2 : Keep No w1 (w1.alloc (.cells #[.int .i64 2, .int .u64 (x0 : Int), .int .i64 2, .int .u64 19823, .int .i64 4, .int .u64 1, .int .i64 8, .int .u64 (x1 : Int), .int .i64 8, .int .u64 (x2 : Int), .int .i64 8, .int .u64 0, .int .i64 4, .int .u64 0, .int .i64 2, .int .u64 64, .int .i64 2, .int .u64 56, .int .i64 2, .int .u64 (x3 : Int), .int .i64 2, .int .u64 0, .int .i64 2, .int .u64 0, .int .i64 2, .int .u64 0] 205)) := (Keep.refl _ _).alloc _
    have hBw2 : Blk (w1.alloc (.cells #[.int .i64 2, .int .u64 (x0 : Int), .int .i64 2, .int .u64 19823, .int .i64 4, .int .u64 1, .int .i64 8, .int .u64 (x1 : Int), .int .i64 8, .int .u64 (x2 : Int), .int .i64 8, .int .u64 0, .int .i64 4, .int .u64 0, .int .i64 2, .int .u64 64, .int .i64 2, .int .u64 56, .int .i64 2, .int .u64 (x3 : Int), .int .i64 2, .int .u64 0, .int .i64 2, .int .u64 0, .int .i64 2, .int .u64 0] 205)) w1.heap.size #[.int .i64 2, .int .u64 (x0 : Int), .int .i64 2, .int .u64 19823, .int .i64 4, .int .u64 1, .int .i64 8, .int .u64 (x1 : Int), .int .i64 8, .int .u64 (x2 : Int), .int .i64 8, .int .u64 0, .int .i64 4, .int .u64 0, .int .i64 2, .int .u64 64, .int .i64 2, .int .u64 56, .int .i64 2, .int .u64 (x3 : Int), .int .i64 2, .int .u64 0, .int .i64 2, .int .u64 0, .int .i64 2, .int .u64 0] 205 := Blk.new _ _ _
    have hzw2 : (w1.alloc (.cells #[.int .i64 2, .int .u64 (x0 : Int), .int .i64 2, .int .u64 19823, .int .i64 4, .int .u64 1, .int .i64 8, .int .u64 (x1 : Int), .int .i64 8, .int .u64 (x2 : Int), .int .i64 8, .int .u64 0, .int .i64 4, .int .u64 0, .int .i64 2, .int .u64 64, .int .i64 2, .int .u64 56, .int .i64 2, .int .u64 (x3 : Int), .int .i64 2, .int .u64 0, .int .i64 2, .int .u64 0, .int .i64 2, .int .u64 0] 205)).heap.size = w1.heap.size + 1 := World.size_alloc _ _
    generalize w1.alloc (.cells #[.int .i64 2, .int .u64 (x0 : Int), .int .i64 2, .int .u64 19823, .int .i64 4, .int .u64 1, .int .i64 8, .int .u64 (x1 : Int), .int .i64 8, .int .u64 (x2 : Int), .int .i64 8, .int .u64 0, .int .i64 4, .int .u64 0, .int .i64 2, .int .u64 64, .int .i64 2, .int .u64 56, .int .i64 2, .int .u64 (x3 : Int), .int .i64 2, .int .u64 0, .int .i64 2, .int .u64 0, .int .i64 2, .int .u64 0] 205) = w2 at *
    have hfl : Fl (fun j => j = w1.heap.size) w2 2 encF (.slice (some ⟨w1.heap.size, 0, none⟩) 13 13) rw_ := by
      have h13 : Sl (fun j => j = w1.heap.size) w2 2 (.slice (some ⟨w1.heap.size, 0, none⟩) 13 13) 13 (rw_.flatMap encF) := by
        rw [hcells]
        refine Sl.mk (by rfl) rfl hBw2.lt (Nat.le_refl _) (by decide) fun j u hu => ?_
        rw [hBw2.cell, Nat.zero_add, List.getElem?_toArray]
        exact hu
      unfold Fl
      rw [hl13]
      exact h13
    refine (hrow_any rw_ hfl (by omega) hf).mono ?_
    clear d0 d1 d2 d3 hfl
    rintro e w3 ⟨v3, rfl, ho4, hk3⟩
    go_wp2_with (at_builtin; refine wl_append rfl _ _ _ _ rfl _ _ rfl rfl ?_)
    have hk23 := hkw2.trans' hk3
    have ho5 := own_no ho3 hk23
    refine rg_bytes ho5 (bts_own ho4) (by rw [hrl]; decide) (hkw1.trans' hk23).size ?_
    intro v5 w5 ho6 hk5 _
    go_wp2_with fail
    go_ret2
    exact ⟨_, rfl, ho6, Keep.own (hkw1.trans' hk23) ho5 hk5⟩
  · rw [if_neg (by simp; omega)] at hH
    subst hH
    go_enter Try.func95, Try.ntmps95
    go_wp2_with fail
    all_goals first
      | (exfalso; omega)
      | (go_ret2
         exact ⟨_, rfl, World.ownsRow_nil _ _ _ _, (Keep.refl _ _).alloc _⟩)
end
end Go.Proofs.Ytbnahidopemkiaa
namespace Go.Proofs.Ytbnahidopemkiaa
open Go.RowKit Go.Dm Go.Dm.Oc
def e8 (b : UInt8) : List Value := [bv b]
theorem e8_one (b : UInt8) : ∀ u ∈ e8 b, u.oneCell' = true := by
  intro u hu; simp only [e8, List.mem_singleton] at hu; subst hu; rfl
theorem e8_map (l : List UInt8) : l.flatMap e8 = l.map bv := List.map_eq_flatMap.symm
/-- v' is v with bytes put behind it; what else was there stays -/
structure Pushed (base : Nat) (w w' : World) (v v' : Value) (l' : List UInt8) : Prop where
  row : FlO w' base 5 1 e8 v' l'
  kept : Keep (fun j => some j = v.ownBlock) w w'
  own : v'.ownBlock = v.ownBlock ∨ ∃ g, v'.ownBlock = some g ∧ w.heap.size ≤ g
section
variable {base : Nat} {w w1 w2 : World} {v v1 v2 : Value} {l l1 l2 : List UInt8}
theorem Pushed.refl (h : FlO w base 5 1 e8 v l) : Pushed base w w v v l := ⟨h, Keep.refl _ _, .inl rfl⟩
theorem Pushed.trans (h : Pushed base w w1 v v1 l1) (h2 : Pushed base w1 w2 v1 v2 l2) : Pushed base w w2 v v2 l2 := by
  refine ⟨h2.row, h.kept.trans h2.kept fun j hj e => ?_, ?_⟩
  · rcases h.own with e1 | ⟨g, e1, hg⟩
    · rw [e1] at e; exact e
    · rw [e1] at e
      cases e
      omega
  · rcases h2.own with e2 | ⟨g, e2, hg⟩
    · rw [e2]; exact h.own
    · exact .inr ⟨g, e2, Nat.le_trans h.kept.size hg⟩
theorem Pushed.step (h : Pushed base w w1 v v1 l1) (ho : FlO w2 base 5 1 e8 v2 l2) (hk : Keep (fun j => some j = v1.ownBlock) w1 w2) (hn : v2.ownBlock = v1.ownBlock ∨ v2.ownBlock = some (w1.heap.size + 1)) : Pushed base w w2 v v2 l2 :=
  h.trans ⟨ho, hk, hn.imp id fun e => ⟨_, e, Nat.le_succ _⟩⟩
/-- in a row of one's own -/
theorem Pushed.no {w0 : World} (h : Pushed base w w1 v v1 l1) (hb : w0.heap.size ≤ base) (ho : FlO w base 5 1 e8 v l) (hk : Keep No w0 w) : Keep No w0 w1 :=
  hk.trans h.kept fun j hj e => absurd (World.ownsRow.lt ho j e.symm).1 (by omega)
theorem wrapU64 (n : Int) : IntKind.u64.wrap n = n % 18446744073709551616 := by simp [IntKind.wrap, IntKind.bits, IntKind.signed]
theorem le_step {n k q : Nat} {acc all : List UInt8} (hk : k < n) (h : acc ++ le (n - k) q = all) : (acc ++ [UInt8.ofNat (q % 256)]) ++ le (n - (k + 1)) (q / 256) = all := by
  rw [← h, show n - k = (n - (k + 1)) + 1 from by omega]
  rw [List.append_assoc]
  rfl
set_option maxRecDepth 100000 in
set_option maxHeartbeats 4000000 in
theorem r03num_any (x n : Nat) (ho : FlO w base 5 1 e8 v l) (hx : x < 18446744073709551616) (hb : base ≤ w.heap.size)(hn : n ≤ 64) (hl : l.length ≤ 1000000) :
    Calls Try.prog 55 #[v, .int .u64 (x : Int), .int .i64 (n : Int)] w fun e w' => ∃ v', e = .returned v' ∧ Pushed base w w' v v' (l ++ le n x) := by
  have HO := Lib.hid ho
  obtain ⟨ao, co, rfl, _, _⟩ := ho.fl.shape
  clear ho
  go_enter Try.func55, Try.ntmps55
  go_wp2_with fail
  go_loopw [0, 1, 7] (fun ov xv kv wr => ∃ (k q : Nat) (acc : List UInt8), xv = .int .u64 (q : Int) ∧ kv = .int .i64 (k : Int) ∧ k ≤ n ∧ q < 18446744073709551616 ∧ acc.length = l.length + k ∧ Hid (acc ++ le (n - k) q = l ++ le n x) ∧ Pushed base w wr (.slice ao l.length co) ov acc) (fun _ _ kv _ => n - (intOf kv).toNat)
  case atStart => exact ⟨0, x, l, rfl, rfl, Nat.zero_le _, hx, rfl, Lib.hid rfl, Pushed.refl HO.out⟩
  case round =>
    obtain ⟨k, q, acc, rfl, rfl, hk, hq, hal, HA, hP⟩ := hrel
    generalize wr = wy at *
    obtain ⟨a1, c1, e1, _, _⟩ := hP.row.fl.shape
    subst e1
    rcases Nat.lt_or_ge k n with hlt | hge
    · have hkz : (k : Int) < (n : Int) := by omega
      have HL := Lib.hid hal
      have hs := hP.kept.size
      clear hal
      go_wp2_with (at_builtin; refine wl_append rfl _ _ _ _ rfl _ _ rfl rfl ?_)
      have hbv : Value.int .u8 ((q : Int) % 256) = bv (UInt8.ofNat (q % 256)) := by
        unfold bv
        rw [UInt8.toNat_ofNat', Nat.mod_mod]
        rfl
      rw [hbv]
      refine rg_push (w := wy) (cs := #[bv (UInt8.ofNat (q % 256))]) (enc := e8) (x := UInt8.ofNat (q % 256)) (l := acc) (base := base) _ 1 Try.underlying26 o_info rfl (by decide) rfl rfl (e8_one _) hP.row (by rw [HL.out]; omega) (by decide) (by omega) ?_
      intro v4 w4 ho4 hk4 hb4
      have hP4 := hP.step ho4 hk4 hb4
      have HA4 := Lib.hid (le_step hlt HA.out)
      obtain ⟨a4, n4, c4, rfl⟩ : ∃ a n c, v4 = .slice a n c := by
        obtain ⟨a, c, e, _⟩ := ho4.fl.shape
        exact ⟨_, _, _, e⟩
      clear hbv ho4 hk4 hb4 hP hs
      have hq2 : IntKind.u64.wrap ((q : Int).tdiv 256) = ((q / 256 : Nat) : Int) := by
        rw [Int.tdiv_eq_ediv_of_nonneg (by omega), wrapU64, Int.natCast_ediv]
        omega
      go_wp2_with fail
      go_roundw
      case rel => exact ⟨k + 1, q / 256, _, by go_num, by go_num, hlt, by omega, by rw [List.length_append, HL.out]; rfl, HA4, hP4⟩
      case measure => simp [intOf]; omega
    · obtain rfl : k = n := Nat.le_antisymm hk hge
      have hA := HA.out
      rw [Nat.sub_self] at hA
      have hA : acc ++ [] = l ++ le _ x := hA
      rw [List.append_nil] at hA
      subst hA
      clear hal HA
      go_wp2_with fail
      go_ret
      exact ⟨_, rfl, hP⟩
set_option maxRecDepth 100000 in
set_option maxHeartbeats 4000000 in
theorem r04eight_any (x n : Nat) (ho : FlO w base 5 1 e8 v l) (hx : x < 18446744073709551616) (hb : base ≤ w.heap.size)(hn : n ≤ 64) (hl : l.length ≤ 1000000) :
    Calls Try.prog 56 #[v, .int .u64 (x : Int), .int .i64 (n : Int)] w fun e w' => ∃ v', e = .returned v' ∧ Pushed base w w' v v' (l ++ le n x) := by
  have HO := Lib.hid ho
  obtain ⟨ao, co, rfl, _, _⟩ := ho.fl.shape
  clear ho
  go_enter Try.func56, Try.ntmps56
  go_wp2_with fail
  go_loopw [0, 1, 7] (fun ov xv kv wr => ∃ (k q : Nat) (acc : List UInt8), xv = .int .u64 (q : Int) ∧ kv = .int .i64 (k : Int) ∧ k ≤ n ∧ q < 18446744073709551616 ∧ acc.length = l.length + k ∧ Hid (acc ++ le (n - k) q = l ++ le n x) ∧ Pushed base w wr (.slice ao l.length co) ov acc) (fun _ _ kv _ => n - (intOf kv).toNat)
  case atStart => exact ⟨0, x, l, rfl, rfl, Nat.zero_le _, hx, rfl, Lib.hid rfl, Pushed.refl HO.out⟩
  case round =>
    obtain ⟨k, q, acc, rfl, rfl, hk, hq, hal, HA, hP⟩ := hrel
    generalize wr = wy at *
    obtain ⟨a1, c1, e1, _, _⟩ := hP.row.fl.shape
    subst e1
    rcases Nat.lt_or_ge k n with hlt | hge
    · have hkz : (k : Int) < (n : Int) := by omega
      have HL := Lib.hid hal
      have hs := hP.kept.size
      clear hal
      go_wp2_with (at_builtin; refine wl_append rfl _ _ _ _ rfl _ _ rfl rfl ?_)
      have hbv : Value.int .u8 ((q : Int) % 256) = bv (UInt8.ofNat (q % 256)) := by
        unfold bv
        rw [UInt8.toNat_ofNat', Nat.mod_mod]
        rfl
      rw [hbv]
      refine rg_push (w := wy) (cs := #[bv (UInt8.ofNat (q % 256))]) (enc := e8) (x := UInt8.ofNat (q % 256)) (l := acc) (base := base) _ 1 Try.underlying26 o_info rfl (by decide) rfl rfl (e8_one _) hP.row (by rw [HL.out]; omega) (by decide) (by omega) ?_
      intro v4 w4 ho4 hk4 hb4
      have hP4 := hP.step ho4 hk4 hb4
      have HA4 := Lib.hid (le_step hlt HA.out)
      obtain ⟨a4, n4, c4, rfl⟩ : ∃ a n c, v4 = .slice a n c := by
        obtain ⟨a, c, e, _⟩ := ho4.fl.shape
        exact ⟨_, _, _, e⟩
      clear hbv ho4 hk4 hb4 hP hs
      have hq2 : IntKind.u64.wrap ((q : Int).tdiv 256) = ((q / 256 : Nat) : Int) := by
        rw [Int.tdiv_eq_ediv_of_nonneg (by omega), wrapU64, Int.natCast_ediv]
        omega
      go_wp2_with fail
      go_roundw
      case rel => exact ⟨k + 1, q / 256, _, by go_num, by go_num, hlt, by omega, by rw [List.length_append, HL.out]; rfl, HA4, hP4⟩
      case measure => simp [intOf]; omega
    · obtain rfl : k = n := Nat.le_antisymm hk hge
      have hA := HA.out
      rw [Nat.sub_self] at hA
      have hA : acc ++ [] = l ++ le _ x := hA
      rw [List.append_nil] at hA
      subst hA
      clear hal HA
      go_wp2_with fail
      go_ret
      exact ⟨_, rfl, hP⟩
set_option maxRecDepth 100000 in
set_option maxHeartbeats 4000000 in
theorem r06num_any (x n : Nat) (ho : FlO w base 5 1 e8 v l) (hx : x < 18446744073709551616) (hb : base ≤ w.heap.size)(hn : n ≤ 64) (hl : l.length ≤ 1000000) :
    Calls Try.prog 57 #[v, .int .u64 (x : Int), .int .i64 (n : Int)] w fun e w' => ∃ v', e = .returned v' ∧ Pushed base w w' v v' (l ++ le n x) := by
  have HO := Lib.hid ho
  obtain ⟨ao, co, rfl, _, _⟩ := ho.fl.shape
  clear ho
  go_enter Try.func57, Try.ntmps57
  go_wp2_with fail
  go_loopw [0, 1, 7] (fun ov xv kv wr => ∃ (k q : Nat) (acc : List UInt8), xv = .int .u64 (q : Int) ∧ kv = .int .i64 (k : Int) ∧ k ≤ n ∧ q < 18446744073709551616 ∧ acc.length = l.length + k ∧ Hid (acc ++ le (n - k) q = l ++ le n x) ∧ Pushed base w wr (.slice ao l.length co) ov acc) (fun _ _ kv _ => n - (intOf kv).toNat)
  case atStart => exact ⟨0, x, l, rfl, rfl, Nat.zero_le _, hx, rfl, Lib.hid rfl, Pushed.refl HO.out⟩
  case round =>
    obtain ⟨k, q, acc, rfl, rfl, hk, hq, hal, HA, hP⟩ := hrel
    generalize wr = wy at *
    obtain ⟨a1, c1, e1, _, _⟩ := hP.row.fl.shape
    subst e1
    rcases Nat.lt_or_ge k n with hlt | hge
    · have hkz : (k : Int) < (n : Int) := by omega
      have HL := Lib.hid hal
      have hs := hP.kept.size
      clear hal
      go_wp2_with (at_builtin; refine wl_append rfl _ _ _ _ rfl _ _ rfl rfl ?_)
      have hbv : Value.int .u8 ((q : Int) % 256) = bv (UInt8.ofNat (q % 256)) := by
        unfold bv
        rw [UInt8.toNat_ofNat', Nat.mod_mod]
        rfl
      rw [hbv]
      refine rg_push (w := wy) (cs := #[bv (UInt8.ofNat (q % 256))]) (enc := e8) (x := UInt8.ofNat (q % 256)) (l := acc) (base := base) _ 1 Try.underlying26 o_info rfl (by decide) rfl rfl (e8_one _) hP.row (by rw [HL.out]; omega) (by decide) (by omega) ?_
      intro v4 w4 ho4 hk4 hb4
      have hP4 := hP.step ho4 hk4 hb4
      have HA4 := Lib.hid (le_step hlt HA.out)
      obtain ⟨a4, n4, c4, rfl⟩ : ∃ a n c, v4 = .slice a n c := by
        obtain ⟨a, c, e, _⟩ := ho4.fl.shape
        exact ⟨_, _, _, e⟩
      clear hbv ho4 hk4 hb4 hP hs
      have hq2 : IntKind.u64.wrap ((q : Int).tdiv 256) = ((q / 256 : Nat) : Int) := by
        rw [Int.tdiv_eq_ediv_of_nonneg (by omega), wrapU64, Int.natCast_ediv]
        omega
      go_wp2_with fail
      go_roundw
      case rel => exact ⟨k + 1, q / 256, _, by go_num, by go_num, hlt, by omega, by rw [List.length_append, HL.out]; rfl, HA4, hP4⟩
      case measure => simp [intOf]; omega
    · obtain rfl : k = n := Nat.le_antisymm hk hge
      have hA := HA.out
      rw [Nat.sub_self] at hA
      have hA : acc ++ [] = l ++ le _ x := hA
      rw [List.append_nil] at hA
      subst hA
      clear hal HA
      go_wp2_with fail
      go_ret
      exact ⟨_, rfl, hP⟩
set_option maxRecDepth 100000 in
set_option maxHeartbeats 4000000 in
theorem r07eight_any (x : Nat) (ho : FlO w base 5 1 e8 v l) (hx : x < 18446744073709551616) (hb : base ≤ w.heap.size) (hl : l.length ≤ 1000000) :
    Calls Try.prog 58 #[v, .int .u64 (x : Int)] w fun e w' => ∃ v', e = .returned v' ∧ Pushed base w w' v v' (l ++ le 8 x) := by
  have HO := Lib.hid ho
  obtain ⟨ao, co, rfl, _, _⟩ := ho.fl.shape
  clear ho
  go_enter Try.func58, Try.ntmps58
  go_wp2_with fail
  go_loopw [0, 1, 5] (fun ov xv kv wr => ∃ (k q : Nat) (acc : List UInt8), xv = .int .u64 (q : Int) ∧ kv = .int .i64 (k : Int) ∧ k ≤ 8 ∧ q < 18446744073709551616 ∧ acc.length = l.length + k ∧ Hid (acc ++ le (8 - k) q = l ++ le 8 x) ∧ Pushed base w wr (.slice ao l.length co) ov acc) (fun _ _ kv _ => 8 - (intOf kv).toNat)
  case atStart => exact ⟨0, x, l, rfl, rfl, Nat.zero_le _, hx, rfl, Lib.hid rfl, Pushed.refl HO.out⟩
  case round =>
    obtain ⟨k, q, acc, rfl, rfl, hk, hq, hal, HA, hP⟩ := hrel
    generalize wr = wy at *
    obtain ⟨a1, c1, e1, _, _⟩ := hP.row.fl.shape
    subst e1
    rcases Nat.lt_or_ge k 8 with hlt | hge
    · have hkz : (k : Int) < (8 : Int) := by omega
      have HL := Lib.hid hal
      have hs := hP.kept.size
      clear hal
      go_wp2_with (at_builtin; refine wl_append rfl _ _ _ _ rfl _ _ rfl rfl ?_)
      have hbv : Value.int .u8 ((q : Int) % 256) = bv (UInt8.ofNat (q % 256)) := by
        unfold bv
        rw [UInt8.toNat_ofNat', Nat.mod_mod]
        rfl
      rw [hbv]
      refine rg_push (w := wy) (cs := #[bv (UInt8.ofNat (q % 256))]) (enc := e8) (x := UInt8.ofNat (q % 256)) (l := acc) (base := base) _ 1 Try.underlying26 o_info rfl (by decide) rfl rfl (e8_one _) hP.row (by rw [HL.out]; omega) (by decide) (by omega) ?_
      intro v4 w4 ho4 hk4 hb4
      have hP4 := hP.step ho4 hk4 hb4
      have HA4 := Lib.hid (le_step hlt HA.out)
      obtain ⟨a4, n4, c4, rfl⟩ : ∃ a n c, v4 = .slice a n c := by
        obtain ⟨a, c, e, _⟩ := ho4.fl.shape
        exact ⟨_, _, _, e⟩
      clear hbv ho4 hk4 hb4 hP hs
      have hq2 : IntKind.u64.wrap ((q : Int).tdiv 256) = ((q / 256 : Nat) : Int) := by
        rw [Int.tdiv_eq_ediv_of_nonneg (by omega), wrapU64, Int.natCast_ediv]
        omega
      go_wp2_with fail
      go_roundw
      case rel => exact ⟨k + 1, q / 256, _, by go_num, by go_num, hlt, by omega, by rw [List.length_append, HL.out]; rfl, HA4, hP4⟩
      case measure => simp [intOf]; omega
    · obtain rfl : k = 8 := Nat.le_antisymm hk hge
      have hA := HA.out
      rw [Nat.sub_self] at hA
      have hA : acc ++ [] = l ++ le _ x := hA
      rw [List.append_nil] at hA
      subst hA
      clear hal HA
      go_wp2_with fail
      go_ret
      exact ⟨_, rfl, hP⟩
end
end Go.Proofs.Ytbnahidopemkiaa
namespace Go.Dm.Ld
open Go Go.Dm.Oc
/-- bytes up to a multiple -/
def padM (l : BS) (n : Nat) : BS := l ++ List.replicate ((n - l.length % n) % n) 0
def upM (x n : Nat) : Nat := (x + n - 1) / n * n
end Go.Dm.Ld
namespace Go.Proofs.Ytbnahidopemkiaa
open Go.RowKit Go.Dm Go.Dm.Oc Go.Dm.Ld
section
variable {base : Nat} {w w1 w2 : World} {v v1 v2 : Value} {l l1 l2 : List UInt8}
theorem pad_done {l : List UInt8} {n : Nat} (h : l.length % n = 0) : padM l n = l := by
  unfold padM
  rw [h, Nat.sub_zero, Nat.mod_self]
  simp
theorem pad_step {l : List UInt8} {n : Nat} (hn : 0 < n) (h : l.length % n ≠ 0) : padM (l ++ [0]) n = padM l n := by
  unfold padM
  rw [List.length_append, List.append_assoc]
  have h1 := Nat.mod_lt l.length hn
  have e : (n - l.length % n) % n = (n - (l.length + 1) % n) % n + 1 := by
    rw [Nat.mod_eq_of_lt (show n - l.length % n < n by omega)]
    rcases Nat.lt_or_ge (l.length % n + 1) n with h2 | h2
    · have e2 : (l.length + 1) % n = l.length % n + 1 := by
        rw [Nat.add_mod, Nat.mod_eq_of_lt (show 1 < n by omega), Nat.mod_eq_of_lt h2]
      rw [e2, Nat.mod_eq_of_lt (show n - (l.length % n + 1) < n by omega)]
      omega
    · have e3 : l.length % n + 1 = n := by omega
      have e2 : (l.length + 1) % n = 0 := by
        rw [Nat.add_mod]
        rcases Nat.eq_or_lt_of_le (show 1 ≤ n from hn) with h4 | h4
        · rw [← h4]; exact Nat.mod_one _
        · rw [Nat.mod_eq_of_lt h4, e3, Nat.mod_self]
      rw [e2, Nat.sub_zero, Nat.mod_self]
      omega
  rw [e]
  simp only [List.length_cons, List.length_nil]
  rw [List.replicate_succ]
  rfl
theorem pad_len (l : List UInt8) (n : Nat) : (padM l n).length = l.length + (n - l.length % n) % n := by
  unfold padM
  rw [List.length_append, List.length_replicate]
set_option maxRecDepth 100000 in
set_option maxHeartbeats 4000000 in
theorem r09fill_any (n : Nat) (ho : FlO w base 5 1 e8 v l) (hb : base ≤ w.heap.size) (hn0 : 0 < n) (hn : n ≤ 4096) (hl : l.length ≤ 100000000) :
    Calls Try.prog 34 #[v, .int .i64 (n : Int)] w fun e w' => ∃ v', e = .returned v' ∧ Pushed base w w' v v' (padM l n) := by
  have HO := Lib.hid ho
  obtain ⟨ao, co, rfl, _, _⟩ := ho.fl.shape
  clear ho
  go_enter Try.func34, Try.ntmps34
  go_wp2_with fail
  go_loopw [0] (fun ov wr => ∃ acc : List UInt8, Hid (padM acc n = padM l n) ∧ Pushed base w wr (.slice ao l.length co) ov acc) (fun ov _ => match ov with | .slice _ k _ => (n - k % n) % n | _ => 0)
  case atStart => exact ⟨l, Lib.hid rfl, Pushed.refl HO.out⟩
  case round =>
    obtain ⟨acc, HA, hP⟩ := hrel
    generalize wr = wy at *
    obtain ⟨a1, c1, e1, _, _⟩ := hP.row.fl.shape
    subst e1
    have hs := hP.kept.size
    have hal : acc.length ≤ l.length + n := by
      have h1 := pad_len acc n
      have h2 := pad_len l n
      have h3 := Nat.mod_lt (n - l.length % n) hn0
      rw [HA.out] at h1
      omega
    have htm : ((acc.length : Int)).tmod (n : Int) = ((acc.length % n : Nat) : Int) := by
      rw [Int.tmod_eq_emod_of_nonneg (by omega)]; push_cast; rfl
    have hn00 : ((n : Int) == 0) = false := by rw [beq_eq_false_iff_ne]; omega
    have hnz : (n : Int) ≠ 0 := by omega
    have hr1 := Nat.mod_lt acc.length hn0
    have hrb : acc.length % n < 4096 := Nat.lt_of_lt_of_le hr1 hn
    have hwr : wrap64 ((acc.length % n : Nat) : Int) = ((acc.length % n : Nat) : Int) := by
      generalize acc.length % n = r at *
      clear htm hr1 hal
      unfold wrap64
      have : r < 4096 := hrb
      clear hrb
      omega
    rcases Nat.eq_zero_or_pos (acc.length % n) with hz | hz
    · have hpd := pad_done hz
      rw [HA.out] at hpd
      subst hpd
      rw [hz] at htm
      clear hwr hr1 HA hrb
      go_wp2_with fail
      go_ret
      exact ⟨_, rfl, hP⟩
    · have hst := pad_step (l := acc) hn0 (Nat.pos_iff_ne_zero.1 hz)
      have h1 := pad_len (acc ++ [0]) n
      have h2 := pad_len acc n
      rw [hst, List.length_append] at h1
      simp only [List.length_cons, List.length_nil] at h1
      have hmeas : (n - (acc.length + 1) % n) % n < (n - acc.length % n) % n := by
        revert h1 h2
        generalize (n - (acc.length + 1) % n) % n = p1
        generalize (n - acc.length % n) % n = p2
        generalize (padM acc n).length = p3
        intro h1 h2
        clear hal htm hr1 hrb hwr hz
        omega
      have HM := Lib.hid hmeas
      have HS := Lib.hid hst
      have hnz2 : (((acc.length % n : Nat) : Int) != 0) = true := by
        rw [bne_iff_ne]
        exact fun h => Nat.pos_iff_ne_zero.1 hz (Int.ofNat.inj h)
      clear h1 h2 hmeas hst hz
      generalize hr : acc.length % n = r at *
      have HRR := Lib.hid hr
      clear hr
      go_wp2_with (at_builtin; refine wl_append rfl _ _ _ _ rfl _ _ rfl rfl ?_)
      refine rg_push (w := wy) (cs := #[bv 0]) (enc := e8) (x := 0) (l := acc) (base := base) _ 1 Try.underlying26 o_info rfl (by decide) rfl rfl (e8_one _) hP.row (by omega) (by decide) (by omega) ?_
      intro v4 w4 ho4 hk4 hb4
      have hP4 := hP.step ho4 hk4 hb4
      obtain ⟨a4, c4, e4, _, _⟩ := ho4.fl.shape
      obtain ⟨n4, hn4⟩ : ∃ n4, n4 = (acc ++ [0]).length := ⟨_, rfl⟩
      rw [← hn4] at e4
      subst e4
      have HN4 := Lib.hid hn4
      clear hn4
      clear ho4 hk4 hb4 hP hs
      go_wp2_with fail
      go_roundw
      case rel => exact ⟨_, Lib.hid (HS.out.trans HA.out), hP4⟩
      case measure =>
        have h := HN4.out
        rw [List.length_append] at h
        show (n - n4 % n) % n < (n - acc.length % n) % n
        rw [h, HRR.out]
        exact HM.out
set_option maxHeartbeats 1000000 in
theorem r09up_any (x n : Nat) (h : x + n < 18446744073709551616) (hn : 0 < n) :
    Calls Try.prog 31 #[.int .u64 (x : Int), .int .u64 (n : Int)] w fun e w' => e = .returned (.int .u64 (upM x n : Int)) ∧ w' = w := by
  have hnz : ((n : Int) == 0) = false := by rw [beq_eq_false_iff_ne]; omega
  have hn0 : (n : Int) ≠ 0 := by omega
  have e1 : IntKind.u64.wrap ((x : Int) + n) = ((x + n : Nat) : Int) := by rw [wrapU64]; omega
  have e2 : IntKind.u64.wrap (((x + n : Nat) : Int) - 1) = ((x + n - 1 : Nat) : Int) := by rw [wrapU64]; omega
  have hle : (x + n - 1) / n * n ≤ x + n - 1 := Nat.div_mul_le_self _ _
  have hle2 : (x + n - 1) / n ≤ x + n - 1 := Nat.div_le_self _ _
  have e3 : IntKind.u64.wrap (((x + n - 1 : Nat) : Int).tdiv (n : Int)) = (((x + n - 1) / n : Nat) : Int) := by
    rw [Int.tdiv_eq_ediv_of_nonneg (by omega), wrapU64, ← Int.natCast_ediv]
    generalize (x + n - 1) / n = q at *
    omega
  have e4 : IntKind.u64.wrap ((((x + n - 1) / n : Nat) : Int) * (n : Int)) = (upM x n : Int) := by
    rw [wrapU64, ← Int.natCast_mul]
    unfold upM
    generalize (x + n - 1) / n * n = z at *
    omega
  have e5 : IntKind.u64.wrap (((x + n - 1 : Nat) : Int) / (n : Int)) = (((x + n - 1) / n : Nat) : Int) := by
    rw [wrapU64, ← Int.natCast_ediv]
    generalize (x + n - 1) / n = q at *
    omega
  generalize upM x n = y at *
  generalize (x + n - 1) / n = q at *
  generalize x + n - 1 = p at *
  generalize x + n = s at *
  go_enter Try.func31, Try.ntmps31
  go_wp2_with fail
  go_ret
  exact ⟨rfl, rfl⟩
end
end Go.Proofs.Ytbnahidopemkiaa
namespace Go.Proofs.Ytbnahidopemkiaa
open Go.RowKit Go.Dm Go.Dm.Oc Go.Dm.Ld
section
variable {A : Nat → Prop} {w : World}
theorem bts_upto {a : Option Addr} {c n : Nat} {l : BS} (hl : Bts A w (.slice a n c) l) {i : Nat} (hi : i ≤ l.length) : Bts A w (.slice a i c) (l.take i) := by
  have h : Fl A w 1 (fun x : UInt8 => [bv x]) (.slice a n c) l := by
    unfold Fl
    rw [← List.map_eq_flatMap]
    exact hl
  have h2 := fl_upto h (fun _ => rfl) hi
  unfold Fl at h2
  rw [← List.map_eq_flatMap] at h2
  exact h2
set_option maxHeartbeats 1000000 in
theorem hget1_any {v : Value} (b : BS) (at_ n q : Nat) (hb : Bts A w v b) (hl : b.length ≤ 1099511627776) (ha : at_ < 18446744073709551616) (hn : n < 65536) (hq : w.cell? ⟨q, 0, none⟩ = some v) :
    Calls Try.prog 93 #[.int .u64 (at_ : Int), .int .i64 (n : Int), .pointer (some ⟨q, 0, none⟩)] w fun e w' => e = .returned (.int .u64 (getX b at_ n : Nat)) ∧ w = w' := by
  have hg := oget_any b at_ n hb hl ha (by omega) (by omega)
  obtain ⟨ao, co, rfl, hc1, hc2⟩ := hb.shape
  clear hb
  generalize getX b at_ n = x at *
  generalize fitsE b.length at_ n = y at *
  generalize b.length = nb at *
  go_enter Try.func93, Try.ntmps93
  go_wp2_with fail
  refine hg.mono ?_
  rintro e W ⟨rfl, rfl⟩
  go_wp2_with fail
  go_ret
  exact ⟨rfl, rfl⟩
set_option maxRecDepth 100000 in
set_option maxHeartbeats 4000000 in
theorem hget_any {v : Value} (b : BS) (hb : Bts A w v b) (hl : b.length ≤ 1099511627776) :
    Calls Try.prog 80 #[v] w fun e w' => e = .returned (.tuple #[.agg (encHd (headM b).2).toArray, .int .i64 ((headM b).1 : Nat)]) ∧ Keep No w w' := by
  have hH : headM b = if b.length < 64 then (10, hd0) else if headOk (headIn b) && decide (headB (headIn b) = b.take 64) then (0, headIn b) else (11, hd0) := rfl
  by_cases hlt : b.length < 64
  · rw [if_pos hlt] at hH
    have HH := Lib.hid hH
    clear hH
    obtain ⟨ao, co, rfl, hc1, hc2⟩ := hb.shape
    clear hb
    generalize b.length = n at *
    go_enter Try.func80, Try.ntmps80
    go_wp2_with (with_reducible refine wl_stAgg rfl _ _ _ rfl _ _ rfl rfl ?_)
    have hkW : Keep No w (w.alloc (.cells #[.slice ao n co] 26)) := (Keep.refl _ _).alloc _
    have hBW : Blk (w.alloc (.cells #[.slice ao n co] 26)) w.heap.size #[.slice ao n co] 26 := Blk.new _ _ _
    have hzW : (w.alloc (.cells #[.slice ao n co] 26)).heap.size = w.heap.size + 1 := World.size_alloc _ _
    generalize w.alloc (.cells #[.slice ao n co] 26) = W at *
    have hkV : Keep No W (W.alloc (.cells #[.int .i64 0, .int .u64 0, .int .u64 0, .int .i64 0] 36)) := (Keep.refl _ _).alloc _
    have hBV : Blk (W.alloc (.cells #[.int .i64 0, .int .u64 0, .int .u64 0, .int .i64 0] 36)) W.heap.size #[.int .i64 0, .int .u64 0, .int .u64 0, .int .i64 0] 36 := Blk.new _ _ _
    have hzV : (W.alloc (.cells #[.int .i64 0, .int .u64 0, .int .u64 0, .int .i64 0] 36)).heap.size = W.heap.size + 1 := World.size_alloc _ _
    generalize W.alloc (.cells #[.int .i64 0, .int .u64 0, .int .u64 0, .int .i64 0] 36) = V at *
    rw [hzW] at hBV
    refine rg_stAgg hBV (by kernel_rfl) (by rfl) (by simp [Value.oneCell']) ?_
    intro w3 hB3 hk3 _
    go_wp2_with fail
    refine ret_blk_tmp rfl rfl hB3 Try.underlying36 rfl (by kernel_rfl) rfl ?_
    exact ⟨by rw [HH.out]; rfl, (hkW.trans' hkV).trans hk3 fun j hj e => by omega⟩
  · rw [if_neg hlt] at hH
    have hx0 := getX_lt b 16 2
    have hx1 := getX_lt b 24 8
    have hx2 := getX_lt b 32 8
    have hx3 := getX_lt b 56 2
    have hx0 : getX b 16 2 < 65536 := hx0
    have hx1 : getX b 24 8 < 18446744073709551616 := hx1
    have hx2 : getX b 32 8 < 18446744073709551616 := hx2
    have hx3 : getX b 56 2 < 65536 := hx3
    have hput := fun w => hput_any (w := w) (headIn b) (by unfold headIn; dsimp only; omega) hx1 hx2 (by unfold headIn; dsimp only; omega)
    have hg16 : ∀ W q, Keep No w W → W.cell? ⟨q, 0, none⟩ = some v → Calls Try.prog 93 #[.int .u64 16, .int .i64 2, .pointer (some ⟨q, 0, none⟩)] W fun e w' => e = .returned (.int .u64 (getX b 16 2 : Nat)) ∧ W = w' := fun W q hk hq =>
      hget1_any b 16 2 q (Sl.keep hb hk fun _ _ _ h => h) hl (by decide) (by decide) hq
    have hg24 : ∀ W q, Keep No w W → W.cell? ⟨q, 0, none⟩ = some v → Calls Try.prog 93 #[.int .u64 24, .int .i64 8, .pointer (some ⟨q, 0, none⟩)] W fun e w' => e = .returned (.int .u64 (getX b 24 8 : Nat)) ∧ W = w' := fun W q hk hq =>
      hget1_any b 24 8 q (Sl.keep hb hk fun _ _ _ h => h) hl (by decide) (by decide) hq
    have hg32 : ∀ W q, Keep No w W → W.cell? ⟨q, 0, none⟩ = some v → Calls Try.prog 93 #[.int .u64 32, .int .i64 8, .pointer (some ⟨q, 0, none⟩)] W fun e w' => e = .returned (.int .u64 (getX b 32 8 : Nat)) ∧ W = w' := fun W q hk hq =>
      hget1_any b 32 8 q (Sl.keep hb hk fun _ _ _ h => h) hl (by decide) (by decide) hq
    have hg56 : ∀ W q, Keep No w W → W.cell? ⟨q, 0, none⟩ = some v → Calls Try.prog 93 #[.int .u64 56, .int .i64 2, .pointer (some ⟨q, 0, none⟩)] W fun e w' => e = .returned (.int .u64 (getX b 56 2 : Nat)) ∧ W = w' := fun W q hk hq =>
      hget1_any b 56 2 q (Sl.keep hb hk fun _ _ _ h => h) hl (by decide) (by decide) hq
    have hpM : hputM (headIn b) = if headOk (headIn b) then (0, headB (headIn b)) else (1, []) := rfl
    have hcs : (encHd (headIn b)).toArray = #[.int .i64 (getX b 16 2 : Int), .int .u64 (getX b 24 8 : Int), .int .u64 (getX b 32 8 : Int), .int .i64 (getX b 56 2 : Int)] := rfl
    obtain ⟨ao, co, rfl, hc1, hc2⟩ := hb.shape
    have heq : ∀ W u c, Keep No w W → Bts (fun k => w.heap.size ≤ k) W u c → c.length ≤ 1099511627776 → Calls Try.prog 96 #[u, .slice ao 64 co] W fun e w' => e = .returned (.bool (decide (c = b.take 64))) ∧ Keep No W w' := by
      intro W u c hk hu hc
      exact eqB_any c (b.take 64) hu (bts_upto (Sl.keep hb hk fun _ _ _ h => h) (by omega)) hc (by rw [List.length_take]; omega)
    clear hb
    have hent : ∀ (a1 a2 : Value) (q : Nat) (w : World), (callFunc 93 (#[a1, a2] ++ #[.pointer (some ⟨q, 0, none⟩)])).run Try.prog w = .ok (.enter 93 (#[a1, a2] ++ #[.pointer (some ⟨q, 0, none⟩)])) w := fun a1 a2 q w => by kernel_rfl
    have h64 : (64 : Int) ≤ (co : Int) := by omega
    generalize hin : headIn b = hi at *
    rw [hcs] at hput
    have hH := Lib.hid hH
    have hP := Lib.hid hpM
    have HCS := Lib.hid hcs
    clear hpM hcs hin
    generalize getX b 16 2 = x0 at *
    generalize getX b 24 8 = x1 at *
    generalize getX b 32 8 = x2 at *
    generalize getX b 56 2 = x3 at *
    generalize b.length = nb at *
    go_enter Try.func80, Try.ntmps80
    go_wp2_with fail
    have hkW : Keep No w (w.alloc (.cells #[.slice ao nb co] 26)) := (Keep.refl _ _).alloc _
    have hBW : Blk (w.alloc (.cells #[.slice ao nb co] 26)) w.heap.size #[.slice ao nb co] 26 := Blk.new _ _ _
    have hzW : (w.alloc (.cells #[.slice ao nb co] 26)).heap.size = w.heap.size + 1 := World.size_alloc _ _
    generalize w.alloc (.cells #[.slice ao nb co] 26) = W at *
    have hkV : Keep No W (W.alloc (.cells #[.int .i64 0, .int .u64 0, .int .u64 0, .int .i64 0] 36)) := (Keep.refl _ _).alloc _
    have hBV : Blk (W.alloc (.cells #[.int .i64 0, .int .u64 0, .int .u64 0, .int .i64 0] 36)) W.heap.size #[.int .i64 0, .int .u64 0, .int .u64 0, .int .i64 0] 36 := Blk.new _ _ _
    have hzV : (W.alloc (.cells #[.int .i64 0, .int .u64 0, .int .u64 0, .int .i64 0] 36)).heap.size = W.heap.size + 1 := World.size_alloc _ _
    generalize W.alloc (.cells #[.int .i64 0, .int .u64 0, .int .u64 0, .int .i64 0] 36) = V at *
    have hBV2 := hBW.keep hkV fun h => h
    rw [hzW] at hBV
    have hq := hBV2.cell 0
    have hkwV := hkW.trans' hkV
    refine (hg16 V _ hkwV hq).mono ?_
    rintro e V1 ⟨rfl, rfl⟩
    go_wp2_with fail
    refine (hg24 V _ hkwV hq).mono ?_
    rintro e V1 ⟨rfl, rfl⟩
    go_wp2_with fail
    refine (hg32 V _ hkwV hq).mono ?_
    rintro e V1 ⟨rfl, rfl⟩
    go_wp2_with fail
    refine (hg56 V _ hkwV hq).mono ?_
    rintro e V1 ⟨rfl, rfl⟩
    clear hg16 hg24 hg32 hg56
    go_wp2_with fail
    have hkU : Keep No V (V.alloc (.cells #[.int .i64 (x0 : Int), .int .u64 (x1 : Int), .int .u64 (x2 : Int), .int .i64 (x3 : Int)] 36)) := (Keep.refl _ _).alloc _
    have hBU : Blk (V.alloc (.cells #[.int .i64 (x0 : Int), .int .u64 (x1 : Int), .int .u64 (x2 : Int), .int .i64 (x3 : Int)] 36)) V.heap.size #[.int .i64 (x0 : Int), .int .u64 (x1 : Int), .int .u64 (x2 : Int), .int .i64 (x3 : Int)] 36 := Blk.new _ _ _
    have hzU : (V.alloc (.cells #[.int .i64 (x0 : Int), .int .u64 (x1 : Int), .int .u64 (x2 : Int), .int .i64 (x3 : Int)] 36)).heap.size = V.heap.size + 1 := World.size_alloc _ _
    generalize V.alloc (.cells #[.int .i64 (x0 : Int), .int .u64 (x1 : Int), .int .u64 (x2 : Int), .int .i64 (x3 : Int)] 36) = U at *
    refine (hput U).mono ?_
    clear hput hq
    rintro e U1 ⟨v1, rfl, ho1, hk1⟩
    have hkU : Keep No V U1 := hkU.trans' hk1
    have hkF : Keep No w U1 := hkwV.trans' hkU
    have hBr := hBV.keep hkU fun h => h
    have hBb := hBV2.keep hkU fun h => h
    have hBh := hBU.keep hk1 fun h => h
    have hle : w.heap.size ≤ U.heap.size := Nat.le_trans hkwV.size (by rw [hzU]; exact Nat.le_succ _)
    rw [hzV, hzW] at hBh
    clear hBV hBV2 hBU hzU
    have hqb := hBb.cell 0
    have d0 := hBh.cell 0
    have d1 := hBh.cell 1
    have d2 := hBh.cell 2
    have d3 := hBh.cell 3
    have hbt : Bts (fun k => w.heap.size ≤ k) U1 v1 (hputM hi).2 := (bts_own ho1).mono fun k _ h => Nat.le_trans hle h.1
    have hpl : (hputM hi).2.length ≤ 64 := by
      rw [hP.out]
      split
      · rw [headB_len]; exact Nat.le_refl _
      · exact Nat.zero_le _
    have hequ := heq U1 v1 (hputM hi).2 hkF hbt (by omega)
    clear ho1 hbt heq hpl hle
    cases hok : headOk hi with
    | false =>
      have hPo := hP.out
      rw [hok, if_neg (by decide)] at hPo
      have hHo := hH.out
      rw [hok, Bool.false_and, if_neg (by decide)] at hHo
      have HH := Lib.hid hHo
      rw [hPo]
      clear hPo hHo hequ
      have hbl := hBr.lt
      go_wp2_with (with_reducible refine wl_stAgg rfl _ _ _ rfl _ _ rfl rfl ?_)
      refine rg_stAgg hBr (by kernel_rfl) (by rfl) (by simp [Value.oneCell']) ?_
      intro w3 hB3 hk3 _
      go_wp2_with fail
      refine ret_blk_tmp rfl rfl hB3 Try.underlying36 rfl (by kernel_rfl) rfl ?_
      exact ⟨by rw [HH.out]; rfl, hkF.trans hk3 fun j hj e => by have e2 : j = w.heap.size + 1 := e; omega⟩
    | true =>
      have hPo := hP.out
      rw [hok, if_pos rfl] at hPo
      have hHo := hH.out
      rw [hok, Bool.true_and] at hHo
      rw [hPo] at hequ
      rw [hPo]
      dsimp only at hequ
      generalize decide (headB hi = b.take 64) = q at *
      have HH := Lib.hid hHo
      clear hPo hHo
      go_wp2_with fail
      refine hequ.mono ?_
      rintro e U2 ⟨rfl, hk2⟩
      have hBr2 := hBr.keep hk2 fun h => h
      have hBh2 := hBh.keep hk2 fun h => h
      have hkF2 := hkF.trans' hk2
      clear hequ hBr hBh hBb hqb d0 d1 d2 d3
      cases q with
      | false =>
        have HH2 := Lib.hid ((HH.out).trans (if_neg (by decide)))
        clear HH
        go_wp2_with (with_reducible refine wl_stAgg rfl _ _ _ rfl _ _ rfl rfl ?_)
        refine rg_stAgg hBr2 (by kernel_rfl) (by rfl) (by simp [Value.oneCell']) ?_
        intro w3 hB3 hk3 _
        go_wp2_with fail
        refine ret_blk_tmp rfl rfl hB3 Try.underlying36 rfl (by kernel_rfl) rfl ?_
        exact ⟨by rw [HH2.out]; rfl, hkF2.trans hk3 fun j hj e => by have e2 : j = w.heap.size + 1 := e; omega⟩
      | true =>
        have HH2 := Lib.hid ((HH.out).trans (if_pos rfl))
        clear HH
        have d0 := hBh2.cell 0
        have d1 := hBh2.cell 1
        have d2 := hBh2.cell 2
        have d3 := hBh2.cell 3
        go_wp2_with (with_reducible refine wl_stAgg rfl _ _ _ rfl _ _ rfl rfl ?_)
        refine rg_stAgg hBr2 (by kernel_rfl) (by rfl) (by simp [Value.oneCell']) ?_
        intro w3 hB3 hk3 _
        go_wp2_with fail
        refine ret_blk_tmp rfl rfl hB3 Try.underlying36 rfl (by kernel_rfl) rfl ?_
        exact ⟨by rw [HH2.out, HCS.out]; rfl, hkF2.trans hk3 fun j hj e => by have e2 : j = w.heap.size + 1 := e; omega⟩
end
end Go.Proofs.Ytbnahidopemkiaa
namespace Go.Dm.Ld
open Go Go.Dm.Oc
theorem getX_part (b : BS) (o m a n : Nat) (h1 : o + m ≤ b.length) (h2 : a + n ≤ m) (hn : n = 1 ∨ n = 2 ∨ n = 4 ∨ n = 8) : getX ((b.drop o).take m) a (n : Int) = getX b (o + a) (n : Int) := by
  have hl : ((b.drop o).take m).length = m := by rw [List.length_take, List.length_drop]; omega
  have hw : widthB (n : Int) = true := by
    unfold widthB
    rw [decide_eq_true_eq]
    omega
  have f1 : fitsE ((b.drop o).take m).length a (n : Int) = 0 := by
    unfold fitsE hasB
    rw [hl, hw, if_pos rfl, if_pos]
    rw [Bool.and_eq_true, decide_eq_true_eq, decide_eq_true_eq, Int.toNat_natCast]
    omega
  have f2 : fitsE b.length (o + a) (n : Int) = 0 := by
    unfold fitsE hasB
    rw [hw, if_pos rfl, if_pos]
    rw [Bool.and_eq_true, decide_eq_true_eq, decide_eq_true_eq, Int.toNat_natCast]
    omega
  unfold getX
  rw [if_pos f1, if_pos f2, Int.toNat_natCast, List.drop_take, List.drop_drop, List.take_take, Nat.min_eq_left (by omega)]
end Go.Dm.Ld
namespace Go.Proofs.Ytbnahidopemkiaa
open Go.RowKit Go.Dm Go.Dm.Oc Go.Dm.Ld
def encSy (s : Sy) : List Value := [.int .u32 (s.nm : Int), .int .u8 (s.inf : Int), .int .u8 (s.oth : Int), .int .u16 (s.sec : Int), .int .u64 (s.val : Int), .int .u64 (s.sz : Int)]
theorem encSy_len (s : Sy) : (encSy s).length = 6 := rfl
theorem encSy_one (s : Sy) : ∀ u ∈ encSy s, u.oneCell' = true := by
  intro u hu
  simp only [encSy, List.mem_cons, List.not_mem_nil, or_false] at hu
  rcases hu with rfl | rfl | rfl | rfl | rfl | rfl <;> rfl
theorem symT_info : (Try.prog.info? 108).map (fun i => (i.zero, i.size, i.bytes)) = some (some (.agg #[.int .u32 0, .int .u8 0, .int .u8 0, .int .u16 0, .int .u64 0, .int .u64 0]), 6, 24) := by kernel_rfl
section
variable {A : Nat → Prop} {w : World}
set_option maxHeartbeats 1000000 in
theorem syone1_any {v : Value} (b : BS) (at_ n q : Nat) (hb : Bts A w v b) (hl : b.length ≤ 1099511627776) (ha : at_ < 18446744073709551616) (hn : n < 65536) (hq : w.cell? ⟨q, 0, none⟩ = some v) :
    Calls Try.prog 112 #[.int .u64 (at_ : Int), .int .i64 (n : Int), .pointer (some ⟨q, 0, none⟩)] w fun e w' => e = .returned (.int .u64 (getX b at_ n : Nat)) ∧ w = w' := by
  have hg := oget_any b at_ n hb hl ha (by omega) (by omega)
  obtain ⟨ao, co, rfl, hc1, hc2⟩ := hb.shape
  clear hb
  generalize getX b at_ n = x at *
  generalize fitsE b.length at_ n = y at *
  generalize b.length = nb at *
  go_enter Try.func112, Try.ntmps112
  go_wp2_with fail
  refine hg.mono ?_
  rintro e W ⟨rfl, rfl⟩
  go_wp2_with fail
  go_ret
  exact ⟨rfl, rfl⟩
theorem syIn_ok (b : BS) (i : Nat) : SyOk (syIn b i) := ⟨getX_lt b i 4, getX_lt b (i + 4) 1, getX_lt b (i + 5) 1, getX_lt b (i + 6) 2, getX_lt b (i + 8) 8, getX_lt b (i + 16) 8⟩
set_option maxRecDepth 100000 in
set_option maxHeartbeats 4000000 in
theorem syone_any {v : Value} (b : BS) (hb : Bts A w v b) (hl : b.length ≤ 1099511627776) :
    Calls Try.prog 104 #[v] w fun e w' => e = .returned (.agg (encSy (syIn b 0)).toArray) ∧ Keep No w w' := by
  have hg0 : ∀ W q, Keep No w W → W.cell? ⟨q, 0, none⟩ = some v → Calls Try.prog 112 #[.int .u64 0, .int .i64 4, .pointer (some ⟨q, 0, none⟩)] W fun e w' => e = .returned (.int .u64 (getX b (0 + 0) 4 : Nat)) ∧ W = w' := fun W q hk hq =>
    syone1_any b (0 + 0) 4 q (Sl.keep hb hk fun _ _ _ h => h) hl (by decide) (by decide) hq
  have hg4 : ∀ W q, Keep No w W → W.cell? ⟨q, 0, none⟩ = some v → Calls Try.prog 112 #[.int .u64 4, .int .i64 1, .pointer (some ⟨q, 0, none⟩)] W fun e w' => e = .returned (.int .u64 (getX b (0 + 4) 1 : Nat)) ∧ W = w' := fun W q hk hq =>
    syone1_any b (0 + 4) 1 q (Sl.keep hb hk fun _ _ _ h => h) hl (by decide) (by decide) hq
  have hg5 : ∀ W q, Keep No w W → W.cell? ⟨q, 0, none⟩ = some v → Calls Try.prog 112 #[.int .u64 5, .int .i64 1, .pointer (some ⟨q, 0, none⟩)] W fun e w' => e = .returned (.int .u64 (getX b (0 + 5) 1 : Nat)) ∧ W = w' := fun W q hk hq =>
    syone1_any b (0 + 5) 1 q (Sl.keep hb hk fun _ _ _ h => h) hl (by decide) (by decide) hq
  have hg6 : ∀ W q, Keep No w W → W.cell? ⟨q, 0, none⟩ = some v → Calls Try.prog 112 #[.int .u64 6, .int .i64 2, .pointer (some ⟨q, 0, none⟩)] W fun e w' => e = .returned (.int .u64 (getX b (0 + 6) 2 : Nat)) ∧ W = w' := fun W q hk hq =>
    syone1_any b (0 + 6) 2 q (Sl.keep hb hk fun _ _ _ h => h) hl (by decide) (by decide) hq
  have hg8 : ∀ W q, Keep No w W → W.cell? ⟨q, 0, none⟩ = some v → Calls Try.prog 112 #[.int .u64 8, .int .i64 8, .pointer (some ⟨q, 0, none⟩)] W fun e w' => e = .returned (.int .u64 (getX b (0 + 8) 8 : Nat)) ∧ W = w' := fun W q hk hq =>
    syone1_any b (0 + 8) 8 q (Sl.keep hb hk fun _ _ _ h => h) hl (by decide) (by decide) hq
  have hg16 : ∀ W q, Keep No w W → W.cell? ⟨q, 0, none⟩ = some v → Calls Try.prog 112 #[.int .u64 16, .int .i64 8, .pointer (some ⟨q, 0, none⟩)] W fun e w' => e = .returned (.int .u64 (getX b (0 + 16) 8 : Nat)) ∧ W = w' := fun W q hk hq =>
    syone1_any b (0 + 16) 8 q (Sl.keep hb hk fun _ _ _ h => h) hl (by decide) (by decide) hq
  obtain ⟨o0, o1, o2, o3, o4, o5⟩ := syIn_ok b 0
  have hcs : (encSy (syIn b 0)).toArray = #[.int .u32 ((syIn b 0).nm : Int), .int .u8 ((syIn b 0).inf : Int), .int .u8 ((syIn b 0).oth : Int), .int .u16 ((syIn b 0).sec : Int), .int .u64 ((syIn b 0).val : Int), .int .u64 ((syIn b 0).sz : Int)] := rfl
  rw [hcs]
  have e0 : getX b (0 + 0) 4 = (syIn b 0).nm := rfl
  have e1 : getX b (0 + 4) 1 = (syIn b 0).inf := rfl
  have e2 : getX b (0 + 5) 1 = (syIn b 0).oth := rfl
  have e3 : getX b (0 + 6) 2 = (syIn b 0).sec := rfl
  have e4 : getX b (0 + 8) 8 = (syIn b 0).val := rfl
  have e5 : getX b (0 + 16) 8 = (syIn b 0).sz := rfl
  rw [e0] at hg0
  rw [e1] at hg4
  rw [e2] at hg5
  rw [e3] at hg6
  rw [e4] at hg8
  rw [e5] at hg16
  clear e0 e1 e2 e3 e4 e5 hcs
  obtain ⟨ao, co, rfl, hc1, hc2⟩ := hb.shape
  clear hb
  generalize (syIn b 0).nm = x0 at *
  generalize (syIn b 0).inf = x1 at *
  generalize (syIn b 0).oth = x2 at *
  generalize (syIn b 0).sec = x3 at *
  generalize (syIn b 0).val = x4 at *
  generalize (syIn b 0).sz = x5 at *
  generalize b.length = nb at *
  have hent : ∀ (a1 a2 : Value) (q : Nat) (w : World), (callFunc 112 (#[a1, a2] ++ #[.pointer (some ⟨q, 0, none⟩)])).run Try.prog w = .ok (.enter 112 (#[a1, a2] ++ #[.pointer (some ⟨q, 0, none⟩)])) w := fun a1 a2 q w => by kernel_rfl
  go_enter Try.func104, Try.ntmps104
  go_wp2_with fail
  have hkW : Keep No w (w.alloc (.cells #[.slice ao nb co] 26)) := (Keep.refl _ _).alloc _
  have hBW : Blk (w.alloc (.cells #[.slice ao nb co] 26)) w.heap.size #[.slice ao nb co] 26 := Blk.new _ _ _
  have hzW : (w.alloc (.cells #[.slice ao nb co] 26)).heap.size = w.heap.size + 1 := World.size_alloc _ _
  generalize w.alloc (.cells #[.slice ao nb co] 26) = W at *
  have hkV : Keep No W (W.alloc (.cells #[.int .u32 0, .int .u8 0, .int .u8 0, .int .u16 0, .int .u64 0, .int .u64 0] 108)) := (Keep.refl _ _).alloc _
  have hBV : Blk (W.alloc (.cells #[.int .u32 0, .int .u8 0, .int .u8 0, .int .u16 0, .int .u64 0, .int .u64 0] 108)) W.heap.size #[.int .u32 0, .int .u8 0, .int .u8 0, .int .u16 0, .int .u64 0, .int .u64 0] 108 := Blk.new _ _ _
  have hzV : (W.alloc (.cells #[.int .u32 0, .int .u8 0, .int .u8 0, .int .u16 0, .int .u64 0, .int .u64 0] 108)).heap.size = W.heap.size + 1 := World.size_alloc _ _
  generalize W.alloc (.cells #[.int .u32 0, .int .u8 0, .int .u8 0, .int .u16 0, .int .u64 0, .int .u64 0] 108) = V at *
  have hBV2 := hBW.keep hkV fun h => h
  rw [hzW] at hBV
  have hq := hBV2.cell 0
  have hkwV := hkW.trans' hkV
  refine (hg0 V _ hkwV hq).mono ?_
  rintro e V1 ⟨rfl, rfl⟩
  go_wp2_with fail
  refine (hg4 V _ hkwV hq).mono ?_
  rintro e V1 ⟨rfl, rfl⟩
  go_wp2_with fail
  refine (hg5 V _ hkwV hq).mono ?_
  rintro e V1 ⟨rfl, rfl⟩
  go_wp2_with fail
  refine (hg6 V _ hkwV hq).mono ?_
  rintro e V1 ⟨rfl, rfl⟩
  go_wp2_with fail
  refine (hg8 V _ hkwV hq).mono ?_
  rintro e V1 ⟨rfl, rfl⟩
  go_wp2_with fail
  refine (hg16 V _ hkwV hq).mono ?_
  rintro e V1 ⟨rfl, rfl⟩
  clear hg0 hg4 hg5 hg6 hg8 hg16
  go_wp2_with (with_reducible refine wl_stAgg rfl _ _ _ rfl _ _ rfl rfl ?_)
  refine rg_stAgg hBV (by kernel_rfl) (by rfl) (by simp [Value.oneCell']) ?_
  intro w3 hB3 hk3 _
  go_wp2_with fail
  refine ret_blk rfl rfl hB3 Try.underlying108 rfl (by kernel_rfl) rfl ?_
  exact ⟨rfl, hkwV.trans hk3 fun j hj e => by have e2 : j = w.heap.size + 1 := e; omega⟩
end
end Go.Proofs.Ytbnahidopemkiaa
namespace Go.Dm.Ld
open Go Go.Dm.Oc
theorem syIn_part (b : BS) (o : Nat) (h : o + 24 ≤ b.length) : syIn ((b.drop o).take 24) 0 = syIn b o := by
  unfold syIn
  have e := fun (a n : Nat) (h2 : a + n ≤ 24) (hn : n = 1 ∨ n = 2 ∨ n = 4 ∨ n = 8) => getX_part b o 24 a n h h2 hn
  have e0 : getX ((b.drop o).take 24) 0 4 = getX b o 4 := e 0 4 (by decide) (by decide)
  have e1 : getX ((b.drop o).take 24) (0 + 4) 1 = getX b (o + 4) 1 := e 4 1 (by decide) (by decide)
  have e2 : getX ((b.drop o).take 24) (0 + 5) 1 = getX b (o + 5) 1 := e 5 1 (by decide) (by decide)
  have e3 : getX ((b.drop o).take 24) (0 + 6) 2 = getX b (o + 6) 2 := e 6 2 (by decide) (by decide)
  have e4 : getX ((b.drop o).take 24) (0 + 8) 8 = getX b (o + 8) 8 := e 8 8 (by decide) (by decide)
  have e5 : getX ((b.drop o).take 24) (0 + 16) 8 = getX b (o + 16) 8 := e 16 8 (by decide) (by decide)
  rw [e0, e1, e2, e3, e4, e5]
theorem syTab_ok (b : BS) : ∀ s ∈ (syTab b).2, SyOk s := by
  unfold syTab
  split
  · intro s hs
    obtain ⟨i, _, rfl⟩ := List.mem_map.1 hs
    exact Go.Proofs.Ytbnahidopemkiaa.syIn_ok _ _
  · intro s hs; cases hs
end Go.Dm.Ld
namespace Go.Proofs.Ytbnahidopemkiaa
open Go.RowKit Go.Dm Go.Dm.Oc Go.Dm.Ld
section
variable {A : Nat → Prop} {w : World}
set_option maxRecDepth 100000 in
set_option maxHeartbeats 4000000 in
theorem sytable_any {v : Value} (b : BS) (hb : Bts A w v b) (hl : b.length ≤ 1099511627776) :
    Calls Try.prog 88 #[v] w fun e w' => ∃ v', e = .returned (.tuple #[v', .int .i64 ((syTab b).1 : Nat)]) ∧ FlO w' w.heap.size 108 6 encSy v' (syTab b).2 ∧ Keep No w w' := by
  have hH : syTab b = if b.length % 24 = 0 then (0, (List.range (b.length / 24)).map fun i => syIn b (24 * i)) else (10, []) := rfl
  by_cases h24 : b.length % 24 = 0
  · rw [if_pos h24] at hH
    have HH := Lib.hid hH
    have HB := Lib.hid hb
    obtain ⟨ao, co, rfl, hc1, hc2⟩ := hb.shape
    clear hb hH
    have h24i : (b.length : Int) % 24 = 0 := by omega
    go_enter Try.func88, Try.ntmps88
    go_wp2_with fail
    go_loopw [0, 4] (fun sv ov wr => ∃ (k : Nat) (a : Option Addr) (c : Nat), sv = .slice a (b.length - 24 * k) c ∧ b.length - 24 * k ≤ c ∧ c ≤ maxLen ∧ k ≤ b.length / 24 ∧ Bts (fun j => j < w.heap.size) wr (.slice a (b.length - 24 * k) c) (b.drop (24 * k)) ∧ FlO wr w.heap.size 108 6 encSy ov ((List.range k).map fun i => syIn b (24 * i)) ∧ Keep No w wr) (fun sv _ _ => match sv with | .slice _ n _ => n | _ => 0)
    case atStart => exact ⟨0, ao, co, rfl, by omega, hc2, Nat.zero_le _, HB.out.mono (fun j hj _ => hj), FlO.nil, Keep.refl _ _⟩
    case round =>
      obtain ⟨k, a, c, rfl, hnc, hcm, hk24, hbt, hO, hK⟩ := hrel
      generalize wr = wz at *
      rcases Nat.lt_or_ge k (b.length / 24) with hlt | hge
      · have hdl : (b.drop (24 * k)).length = b.length - 24 * k := List.length_drop
        have hp : 24 ≤ b.length - 24 * k := by omega
        have hb24 := bts_upto (i := 24) (by rw [← hdl] at hbt; exact hbt) (by omega)
        have hb24' : Bts (fun j => j < w.heap.size) wz (.slice a 24 24) ((b.drop (24 * k)).take 24) := by
          have hl24 : ((b.drop (24 * k)).take 24).length = 24 := by rw [List.length_take, hdl]; omega
          have e := hb24
          unfold Bts at e ⊢
          rw [hl24] at e ⊢
          obtain ⟨h1, a', cap, ev, h2, h3, h4, h5⟩ := e
          cases ev
          exact ⟨h1, a, 24, rfl, Nat.le_refl _, by decide, fun h => absurd (h4 h) (by omega), h5⟩
        have hone := syone_any (w := wz) _ hb24' (by rw [List.length_take]; omega)
        rw [syIn_part b (24 * k) (by omega)] at hone
        have hnext := bts_part (lo := 24) (n := b.length - 24 * k - 24) (by rw [← hdl] at hbt; exact hbt) (by omega)
        have hdd : ((b.drop (24 * k)).drop 24).take (b.length - 24 * k - 24) = b.drop (24 * (k + 1)) := by
          rw [List.drop_drop, List.take_of_length_le (by rw [List.length_drop]; omega)]
          rfl
        rw [hdd] at hnext
        have hrl : ((List.range k).map fun i => syIn b (24 * i)).length = k := by rw [List.length_map, List.length_range]
        have hrs : ((List.range (k + 1)).map fun i => syIn b (24 * i)) = ((List.range k).map fun i => syIn b (24 * i)) ++ [syIn b (24 * k)] := by
          rw [List.range_succ, List.map_append]
          rfl
        have HRS := Lib.hid hrs
        have hn1 : b.length - 24 * (k + 1) = b.length - 24 * k - 24 := by omega
        have HN1 := Lib.hid hn1
        clear hb24 hb24' hbt hdd hrs hn1 hdl h24i
        generalize hnn : b.length - 24 * k = n at *
        have hni : (24 : Int) ≤ (n : Int) := by omega
        have hpos : (0 : Int) < (n : Int) := by omega
        have hsub : (n : Int) - 24 = ((n - 24 : Nat) : Int) := by omega
        have hci : (24 : Int) ≤ (c : Int) := by omega
        generalize syIn b (24 * k) = s at *
        have hcs : (encSy s).toArray = #[.int .u32 (s.nm : Int), .int .u8 (s.inf : Int), .int .u8 (s.oth : Int), .int .u16 (s.sec : Int), .int .u64 (s.val : Int), .int .u64 (s.sz : Int)] := rfl
        rw [hcs] at hone
        have HX := Lib.hid hnext
        have hkb : k < b.length := by omega
        clear hnext hnn hcs
        go_wp2_with fail
        refine hone.mono ?_
        clear hone
        rintro e w2 ⟨rfl, hk2⟩
        go_wp2_with (at_builtin; refine wl_append rfl _ _ _ _ rfl _ _ rfl rfl ?_)
        refine rg_push (x := s) _ _ Try.underlying38 symT_info (by rfl) (by decide) (by rfl) (by rfl) (encSy_one _) (hO.no hk2) (by rw [hrl]; omega) (by decide) (Nat.le_trans hK.size hk2.size) ?_
        intro v4 w4 ho4 hk4 _
        have hkF : Keep No w w4 := Keep.own (hK.trans' hk2) (hO.no hk2) hk4
        have HX4 := Lib.hid ((HX.out.keep hk2 fun _ _ _ h => h).keep hk4 fun j hj hl e => absurd (World.ownsRow.lt hO _ e.symm).1 (by omega))
        rw [← HRS.out] at ho4
        clear hO hk4 HX
        by_cases hc24 : c = 24
        · obtain rfl : n = 24 := by omega
          subst hc24
          go_wp2_with fail
          go_roundw
          case rel =>
            refine ⟨k + 1, a, 0, by rw [HN1.out], by rw [HN1.out]; exact Nat.le_refl _, Nat.zero_le _, hlt, ?_, ho4, hkF⟩
            have hdl : b.drop (24 * (k + 1)) = [] := List.drop_eq_nil_of_le (by have := HN1.out; omega)
            rw [HN1.out, hdl]
            have hx := HX4.out
            rw [hdl] at hx
            obtain ⟨h1, a', cap, ev, h2, h3, h4, h5⟩ := hx
            exact ⟨rfl, a, 0, rfl, Nat.le_refl _, Nat.zero_le _, fun _ => rfl, fun h => absurd h (Nat.lt_irrefl _)⟩
          case measure => simp
        · have hneq : ¬ c = 24 := hc24
          go_wp2_with fail
          go_roundw
          case rel => exact ⟨k + 1, _, _, by rw [HN1.out], by rw [HN1.out]; omega, by omega, hlt, by rw [HN1.out]; exact HX4.out, ho4, hkF⟩
          case measure => simp; omega
      · obtain rfl : k = b.length / 24 := by omega
        have h0 : b.length - 24 * (b.length / 24) = 0 := by omega
        clear h24i
        generalize b.length - 24 * (b.length / 24) = n at *
        subst h0
        go_wp2_with fail
        go_ret2
        rw [HH.out]
        exact ⟨_, rfl, hO, hK⟩
  · rw [if_neg h24] at hH
    rw [hH]
    clear hH
    obtain ⟨ao, co, rfl, hc1, hc2⟩ := hb.shape
    clear hb
    have h24i : ¬ ((b.length : Int) % 24 = 0) := by omega
    generalize b.length = n at *
    go_enter Try.func88, Try.ntmps88
    go_wp2_with fail
    go_ret2
    exact ⟨_, rfl, FlO.nil, Keep.refl _ _⟩
end
end Go.Proofs.Ytbnahidopemkiaa
