/- head: Put. head: Get. symbols: one, Table. symbols: Defined, Bind, Kind, may, Check. No condition. -/
import Derived.Test.YtbnahidopemkiaaGreatSg5
import Derived.Test.YtbnahidopemkiaaGreatApZ
set_option linter.unusedVariables false
set_option linter.unusedSimpArgs false
namespace Go.Proofs.YtbnahidopemkiaaGreat
open Go.RowKit Go.Dm Go.Dm.Oc Go.Dm.Ld
section
variable {A : Nat → Prop} {w : World}
/-- a block known whole is a row of one's own -/
theorem own_blk {g base n size : Nat} {cs : Array Value} {t : TypeId} (h : Blk w g cs t) (hb : base ≤ g) (hs : cs.size = n * size) (hn : n ≤ maxLen) : w.ownsRow base t size (.slice (some ⟨g, 0, none⟩) n n) n cs.toList :=
  ⟨by simpa using hs, .inr ⟨g, n, cs, rfl, hb, h, Nat.le_refl _, hn, hs, by rw [List.take_of_length_le]; rw [Array.length_toList, hs]; exact Nat.le_refl _⟩⟩
/-- append(v, make([]byte, m)...) -/
theorem rg_zeros {base : Nat} {ty : TypeId} {v : Value} {l : List UInt8} {m : Nat} (ho : w.ownsRow base 5 1 v l.length (l.map bv)) (hm : 0 < m) (hlen : l.length + m ≤ 1099511627776) (hbase : base ≤ w.heap.size) {K : Value → World → Prop}
    (h : ∀ v' w', w'.ownsRow base 5 1 v' (l ++ List.replicate m 0).length ((l ++ List.replicate m 0).map bv) → Keep (fun j => some j = v.ownBlock) w w' → (v'.ownBlock = v.ownBlock ∨ v'.ownBlock = some w.heap.size) → K v' w') : AppendGoal Tryz.prog 24 3 ty v (.int .i64 (m : Int)) w K := by
  obtain ⟨v', w', hr, ho', hg, hl⟩ := run_zeros_own (P := Tryz.prog) w base 24 3 ty 5 (.int .u8 0) 1 1 Tryz.underlying24 Tryz.underlying3 o_info rfl (by decide) ho hm (by rw [zeroCells_u8]; exact bv_one _) (by unfold maxLen; omega) (by omega) hbase
  refine .mk hr (h v' w' ?_ (Keep.of_grown hg) hl)
  rw [List.length_append, List.map_append, List.length_replicate]
  rw [zeroCells_u8] at ho'
  exact ho'
def encHd (h : Hd) : List Value := [.int .i64 (h.kind : Int), .int .u64 (h.entry : Int), .int .u64 (h.segs : Int), .int .i64 (h.count : Int)]
def hdRow (h : Hd) : List (Nat × Nat) := [(2, h.kind), (2, 19823), (4, 1), (8, h.entry), (8, h.segs), (8, 0), (4, 0), (2, 64), (2, 56), (2, h.count), (2, 0), (2, 0), (2, 0)]
theorem headB_row (h : Hd) : magic ++ rowB (hdRow h) = headB h := by
  simp only [rowB, hdRow, headB, List.flatMap_cons, List.flatMap_nil, List.append_nil, List.append_assoc]
def hputM (h : Hd) : Nat × BS := if headOk h then (0, headB h) else (1, [])
set_option maxRecDepth 100000 in
set_option maxHeartbeats 4000000 in
theorem hput_any (h : Hd) (h1 : h.kind < 9223372036854775808) (h2 : h.entry < 18446744073709551616) (h3 : h.segs < 18446744073709551616) (h4 : h.count < 9223372036854775808) :
    Calls Tryz.prog 112 #[.agg (encHd h).toArray] w fun e w' => ∃ v', e = .returned (.tuple #[v', .int .i64 ((hputM h).1 : Nat)]) ∧ w'.ownsRow w.heap.size 5 1 v' (hputM h).2.length ((hputM h).2.map bv) ∧ Keep No w w' := by
  have hH : hputM h = if headOk h then (0, headB h) else (1, []) := rfl
  rw [← headB_row] at hH
  have hf : ∀ f ∈ hdRow h, (f.1 = 1 ∨ f.1 = 2 ∨ f.1 = 4 ∨ f.1 = 8) ∧ f.2 < 18446744073709551616 := by
    intro f hf
    simp only [hdRow, List.mem_cons, List.not_mem_nil, or_false] at hf
    rcases hf with rfl | rfl | rfl | rfl | rfl | rfl | rfl | rfl | rfl | rfl | rfl | rfl | rfl <;> (dsimp only; omega)
  have hok : headOk h = (decide (2 ≤ h.kind) && decide (h.kind ≤ 4) && decide (h.count ≤ 64)) := rfl
  rw [hok] at hH
  clear hok
  have hrl : (rowB (hdRow h)).length = 48 := rfl
  have hcells : (hdRow h).flatMap encF = [.int .i64 2, .int .u64 (h.kind : Int), .int .i64 2, .int .u64 19823, .int .i64 4, .int .u64 1, .int .i64 8, .int .u64 (h.entry : Int), .int .i64 8, .int .u64 (h.segs : Int), .int .i64 8, .int .u64 0, .int .i64 4, .int .u64 0, .int .i64 2, .int .u64 64, .int .i64 2, .int .u64 56, .int .i64 2, .int .u64 (h.count : Int), .int .i64 2, .int .u64 0, .int .i64 2, .int .u64 0, .int .i64 2, .int .u64 0] := rfl
  have hl13 : (hdRow h).length = 13 := rfl
  unfold encHd
  generalize hdRow h = rw_ at *
  generalize hputM h = res at *
  generalize h.kind = x0 at *
  generalize h.entry = x1 at *
  generalize h.segs = x2 at *
  generalize h.count = x3 at *
  by_cases hok : 2 ≤ x0 ∧ x0 ≤ 4 ∧ x3 ≤ 64
  · rw [if_pos (by simp; omega)] at hH
    subst hH
    obtain ⟨k1, k2, k3⟩ := hok
    go_enter Tryz.func112, Tryz.ntmps112
    go_wp2_with (at_builtin; refine wl_append rfl _ _ _ _ rfl _ _ rfl rfl ?_)
    have hkW : Keep No w (w.alloc (.cells #[.int .i64 (x0 : Int), .int .u64 (x1 : Int), .int .u64 (x2 : Int), .int .i64 (x3 : Int)] 55)) := (Keep.refl _ _).alloc _
    have hBW : Blk (w.alloc (.cells #[.int .i64 (x0 : Int), .int .u64 (x1 : Int), .int .u64 (x2 : Int), .int .i64 (x3 : Int)] 55)) w.heap.size #[.int .i64 (x0 : Int), .int .u64 (x1 : Int), .int .u64 (x2 : Int), .int .i64 (x3 : Int)] 55 := Blk.new _ _ _
    have hzW : (w.alloc (.cells #[.int .i64 (x0 : Int), .int .u64 (x1 : Int), .int .u64 (x2 : Int), .int .i64 (x3 : Int)] 55)).heap.size = w.heap.size + 1 := World.size_alloc _ _
    generalize w.alloc (.cells #[.int .i64 (x0 : Int), .int .u64 (x1 : Int), .int .u64 (x2 : Int), .int .i64 (x3 : Int)] 55) = W at *
    have hkV : Keep No W (W.alloc (.cells #[.int .u8 127, .int .u8 69, .int .u8 76, .int .u8 70, .int .u8 2, .int .u8 1, .int .u8 1] 5)) := (Keep.refl _ _).alloc _
    have hBV : Blk (W.alloc (.cells #[.int .u8 127, .int .u8 69, .int .u8 76, .int .u8 70, .int .u8 2, .int .u8 1, .int .u8 1] 5)) W.heap.size #[.int .u8 127, .int .u8 69, .int .u8 76, .int .u8 70, .int .u8 2, .int .u8 1, .int .u8 1] 5 := Blk.new _ _ _
    have hzV : (W.alloc (.cells #[.int .u8 127, .int .u8 69, .int .u8 76, .int .u8 70, .int .u8 2, .int .u8 1, .int .u8 1] 5)).heap.size = W.heap.size + 1 := World.size_alloc _ _
    generalize W.alloc (.cells #[.int .u8 127, .int .u8 69, .int .u8 76, .int .u8 70, .int .u8 2, .int .u8 1, .int .u8 1] 5) = V at *
    rw [← hzW]
    have ho1 : V.ownsRow w.heap.size 5 1 (.slice (some ⟨W.heap.size, 0, none⟩) 7 7) ([127, 69, 76, 70, 2, 1, 1] : BS).length (([127, 69, 76, 70, 2, 1, 1] : BS).map bv) := own_blk (cs := #[.int .u8 127, .int .u8 69, .int .u8 76, .int .u8 70, .int .u8 2, .int .u8 1, .int .u8 1]) hBV hkW.size (by rfl) (by decide)
    have hkwV := hkW.trans' hkV
    have hBW2 := hBW.keep hkV fun h => h
    refine rg_zeros (m := 9) ho1 (by decide) (by decide) hkwV.size ?_
    intro v1 w1 ho2 hk1 hown
    have hkw1 : Keep No w w1 := Keep.own hkwV ho1 hk1
    have hB1 := hBW2.keep hk1 fun e => by
      simp only [Value.ownBlock, Option.some.injEq] at e
      omega
    have ho3 : w1.ownsRow w.heap.size 5 1 v1 magic.length (magic.map bv) := ho2
    have d0 := hB1.cell 0
    have d1 := hB1.cell 1
    have d2 := hB1.cell 2
    have d3 := hB1.cell 3
    clear ho2 ho1 hk1 hown hBW hBW2 hB1 hBV hkV
    go_wp2_with fail
    have hkw2 : Keep No w1 (w1.alloc (.cells #[.int .i64 2, .int .u64 (x0 : Int), .int .i64 2, .int .u64 19823, .int .i64 4, .int .u64 1, .int .i64 8, .int .u64 (x1 : Int), .int .i64 8, .int .u64 (x2 : Int), .int .i64 8, .int .u64 0, .int .i64 4, .int .u64 0, .int .i64 2, .int .u64 64, .int .i64 2, .int .u64 56, .int .i64 2, .int .u64 (x3 : Int), .int .i64 2, .int .u64 0, .int .i64 2, .int .u64 0, .int .i64 2, .int .u64 0] 219)) := (Keep.refl _ _).alloc _
    have hBw2 : Blk (w1.alloc (.cells #[.int .i64 2, .int .u64 (x0 : Int), .int .i64 2, .int .u64 19823, .int .i64 4, .int .u64 1, .int .i64 8, .int .u64 (x1 : Int), .int .i64 8, .int .u64 (x2 : Int), .int .i64 8, .int .u64 0, .int .i64 4, .int .u64 0, .int .i64 2, .int .u64 64, .int .i64 2, .int .u64 56, .int .i64 2, .int .u64 (x3 : Int), .int .i64 2, .int .u64 0, .int .i64 2, .int .u64 0, .int .i64 2, .int .u64 0] 219)) w1.heap.size #[.int .i64 2, .int .u64 (x0 : Int), .int .i64 2, .int .u64 19823, .int .i64 4, .int .u64 1, .int .i64 8, .int .u64 (x1 : Int), .int .i64 8, .int .u64 (x2 : Int), .int .i64 8, .int .u64 0, .int .i64 4, .int .u64 0, .int .i64 2, .int .u64 64, .int .i64 2, .int .u64 56, .int .i64 2, .int .u64 (x3 : Int), .int .i64 2, .int .u64 0, .int .i64 2, .int .u64 0, .int .i64 2, .int .u64 0] 219 := Blk.new _ _ _
    have hzw2 : (w1.alloc (.cells #[.int .i64 2, .int .u64 (x0 : Int), .int .i64 2, .int .u64 19823, .int .i64 4, .int .u64 1, .int .i64 8, .int .u64 (x1 : Int), .int .i64 8, .int .u64 (x2 : Int), .int .i64 8, .int .u64 0, .int .i64 4, .int .u64 0, .int .i64 2, .int .u64 64, .int .i64 2, .int .u64 56, .int .i64 2, .int .u64 (x3 : Int), .int .i64 2, .int .u64 0, .int .i64 2, .int .u64 0, .int .i64 2, .int .u64 0] 219)).heap.size = w1.heap.size + 1 := World.size_alloc _ _
    generalize w1.alloc (.cells #[.int .i64 2, .int .u64 (x0 : Int), .int .i64 2, .int .u64 19823, .int .i64 4, .int .u64 1, .int .i64 8, .int .u64 (x1 : Int), .int .i64 8, .int .u64 (x2 : Int), .int .i64 8, .int .u64 0, .int .i64 4, .int .u64 0, .int .i64 2, .int .u64 64, .int .i64 2, .int .u64 56, .int .i64 2, .int .u64 (x3 : Int), .int .i64 2, .int .u64 0, .int .i64 2, .int .u64 0, .int .i64 2, .int .u64 0] 219) = w2 at *
    have hfl : Fl (fun j => j = w1.heap.size) w2 2 encF (.slice (some ⟨w1.heap.size, 0, none⟩) 13 13) rw_ := by
      have h13 : Sl (fun j => j = w1.heap.size) w2 2 (.slice (some ⟨w1.heap.size, 0, none⟩) 13 13) 13 (rw_.flatMap encF) := by
        rw [hcells]
        refine Sl.mk (by rfl) rfl hBw2.lt (Nat.le_refl _) (by decide) fun j u hu => ?_
        rw [hBw2.cell, Nat.zero_add, List.getElem?_toArray]
        exact hu
      unfold Fl
      rw [hl13]
      exact h13
    refine (hrow_any rw_ hfl (by omega) hf).mono ?_
    clear d0 d1 d2 d3 hfl
    rintro e w3 ⟨v3, rfl, ho4, hk3⟩
    go_wp2_with (at_builtin; refine wl_append rfl _ _ _ _ rfl _ _ rfl rfl ?_)
    have hk23 := hkw2.trans' hk3
    have ho5 := own_no ho3 hk23
    refine rg_bytes ho5 (bts_own ho4) (by rw [hrl]; decide) (hkw1.trans' hk23).size ?_
    intro v5 w5 ho6 hk5 _
    go_wp2_with fail
    go_ret2
    exact ⟨_, rfl, ho6, Keep.own (hkw1.trans' hk23) ho5 hk5⟩
  · rw [if_neg (by simp; omega)] at hH
    subst hH
    go_enter Tryz.func112, Tryz.ntmps112
    go_wp2_with fail
    all_goals first
      | (exfalso; omega)
      | (go_ret2
         exact ⟨_, rfl, World.ownsRow_nil _ _ _ _, (Keep.refl _ _).alloc _⟩)
end
end Go.Proofs.YtbnahidopemkiaaGreat
namespace Go.Proofs.YtbnahidopemkiaaGreat
open Go.RowKit Go.Dm Go.Dm.Oc Go.Dm.Ld
section
variable {A : Nat → Prop} {w : World}
theorem bts_upto {a : Option Addr} {c n : Nat} {l : BS} (hl : Bts A w (.slice a n c) l) {i : Nat} (hi : i ≤ l.length) : Bts A w (.slice a i c) (l.take i) := by
  have h : Fl A w 1 (fun x : UInt8 => [bv x]) (.slice a n c) l := by
    unfold Fl
    rw [← List.map_eq_flatMap]
    exact hl
  have h2 := fl_upto h (fun _ => rfl) hi
  unfold Fl at h2
  rw [← List.map_eq_flatMap] at h2
  exact h2
set_option maxHeartbeats 1000000 in
theorem hget1_any {v : Value} (b : BS) (at_ n q : Nat) (hb : Bts A w v b) (hl : b.length ≤ 1099511627776) (ha : at_ < 18446744073709551616) (hn : n < 65536) (hq : w.cell? ⟨q, 0, none⟩ = some v) :
    Calls Tryz.prog 110 #[.int .u64 (at_ : Int), .int .i64 (n : Int), .pointer (some ⟨q, 0, none⟩)] w fun e w' => e = .returned (.int .u64 (getX b at_ n : Nat)) ∧ w = w' := by
  have hg := oget_any b at_ n hb hl ha (by omega) (by omega)
  obtain ⟨ao, co, rfl, hc1, hc2⟩ := hb.shape
  clear hb
  generalize getX b at_ n = x at *
  generalize fitsE b.length at_ n = y at *
  generalize b.length = nb at *
  go_enter Tryz.func110, Tryz.ntmps110
  go_wp2_with fail
  refine hg.mono ?_
  rintro e W ⟨rfl, rfl⟩
  go_wp2_with fail
  go_ret
  exact ⟨rfl, rfl⟩
set_option maxRecDepth 100000 in
set_option maxHeartbeats 4000000 in
theorem hget_any {v : Value} (b : BS) (hb : Bts A w v b) (hl : b.length ≤ 1099511627776) :
    Calls Tryz.prog 80 #[v] w fun e w' => e = .returned (.tuple #[.agg (encHd (headM b).2).toArray, .int .i64 ((headM b).1 : Nat)]) ∧ Keep No w w' := by
  have hH : headM b = if b.length < 64 then (10, hd0) else if headOk (headIn b) && decide (headB (headIn b) = b.take 64) then (0, headIn b) else (11, hd0) := rfl
  by_cases hlt : b.length < 64
  · rw [if_pos hlt] at hH
    have HH := Lib.hid hH
    clear hH
    obtain ⟨ao, co, rfl, hc1, hc2⟩ := hb.shape
    clear hb
    generalize b.length = n at *
    go_enter Tryz.func80, Tryz.ntmps80
    go_wp2_with (with_reducible refine wl_stAgg rfl _ _ _ rfl _ _ rfl rfl ?_)
    have hkW : Keep No w (w.alloc (.cells #[.slice ao n co] 24)) := (Keep.refl _ _).alloc _
    have hBW : Blk (w.alloc (.cells #[.slice ao n co] 24)) w.heap.size #[.slice ao n co] 24 := Blk.new _ _ _
    have hzW : (w.alloc (.cells #[.slice ao n co] 24)).heap.size = w.heap.size + 1 := World.size_alloc _ _
    generalize w.alloc (.cells #[.slice ao n co] 24) = W at *
    have hkV : Keep No W (W.alloc (.cells #[.int .i64 0, .int .u64 0, .int .u64 0, .int .i64 0] 55)) := (Keep.refl _ _).alloc _
    have hBV : Blk (W.alloc (.cells #[.int .i64 0, .int .u64 0, .int .u64 0, .int .i64 0] 55)) W.heap.size #[.int .i64 0, .int .u64 0, .int .u64 0, .int .i64 0] 55 := Blk.new _ _ _
    have hzV : (W.alloc (.cells #[.int .i64 0, .int .u64 0, .int .u64 0, .int .i64 0] 55)).heap.size = W.heap.size + 1 := World.size_alloc _ _
    generalize W.alloc (.cells #[.int .i64 0, .int .u64 0, .int .u64 0, .int .i64 0] 55) = V at *
    rw [hzW] at hBV
    refine rg_stAgg hBV (by kernel_rfl) (by rfl) (by simp [Value.oneCell']) ?_
    intro w3 hB3 hk3 _
    go_wp2_with fail
    refine ret_blk_tmp rfl rfl hB3 Tryz.underlying55 rfl (by kernel_rfl) rfl ?_
    exact ⟨by rw [HH.out]; rfl, (hkW.trans' hkV).trans hk3 fun j hj e => by omega⟩
  · rw [if_neg hlt] at hH
    have hx0 := getX_lt b 16 2
    have hx1 := getX_lt b 24 8
    have hx2 := getX_lt b 32 8
    have hx3 := getX_lt b 56 2
    have hx0 : getX b 16 2 < 65536 := hx0
    have hx1 : getX b 24 8 < 18446744073709551616 := hx1
    have hx2 : getX b 32 8 < 18446744073709551616 := hx2
    have hx3 : getX b 56 2 < 65536 := hx3
    have hput := fun w => hput_any (w := w) (headIn b) (by unfold headIn; dsimp only; omega) hx1 hx2 (by unfold headIn; dsimp only; omega)
    have hg16 : ∀ W q, Keep No w W → W.cell? ⟨q, 0, none⟩ = some v → Calls Tryz.prog 110 #[.int .u64 16, .int .i64 2, .pointer (some ⟨q, 0, none⟩)] W fun e w' => e = .returned (.int .u64 (getX b 16 2 : Nat)) ∧ W = w' := fun W q hk hq =>
      hget1_any b 16 2 q (Sl.keep hb hk fun _ _ _ h => h) hl (by decide) (by decide) hq
    have hg24 : ∀ W q, Keep No w W → W.cell? ⟨q, 0, none⟩ = some v → Calls Tryz.prog 110 #[.int .u64 24, .int .i64 8, .pointer (some ⟨q, 0, none⟩)] W fun e w' => e = .returned (.int .u64 (getX b 24 8 : Nat)) ∧ W = w' := fun W q hk hq =>
      hget1_any b 24 8 q (Sl.keep hb hk fun _ _ _ h => h) hl (by decide) (by decide) hq
    have hg32 : ∀ W q, Keep No w W → W.cell? ⟨q, 0, none⟩ = some v → Calls Tryz.prog 110 #[.int .u64 32, .int .i64 8, .pointer (some ⟨q, 0, none⟩)] W fun e w' => e = .returned (.int .u64 (getX b 32 8 : Nat)) ∧ W = w' := fun W q hk hq =>
      hget1_any b 32 8 q (Sl.keep hb hk fun _ _ _ h => h) hl (by decide) (by decide) hq
    have hg56 : ∀ W q, Keep No w W → W.cell? ⟨q, 0, none⟩ = some v → Calls Tryz.prog 110 #[.int .u64 56, .int .i64 2, .pointer (some ⟨q, 0, none⟩)] W fun e w' => e = .returned (.int .u64 (getX b 56 2 : Nat)) ∧ W = w' := fun W q hk hq =>
      hget1_any b 56 2 q (Sl.keep hb hk fun _ _ _ h => h) hl (by decide) (by decide) hq
    have hpM : hputM (headIn b) = if headOk (headIn b) then (0, headB (headIn b)) else (1, []) := rfl
    have hcs : (encHd (headIn b)).toArray = #[.int .i64 (getX b 16 2 : Int), .int .u64 (getX b 24 8 : Int), .int .u64 (getX b 32 8 : Int), .int .i64 (getX b 56 2 : Int)] := rfl
    obtain ⟨ao, co, rfl, hc1, hc2⟩ := hb.shape
    have heq : ∀ W u c, Keep No w W → Bts (fun k => w.heap.size ≤ k) W u c → c.length ≤ 1099511627776 → Calls Tryz.prog 113 #[u, .slice ao 64 co] W fun e w' => e = .returned (.bool (decide (c = b.take 64))) ∧ Keep No W w' := by
      intro W u c hk hu hc
      exact eqB_any c (b.take 64) hu (bts_upto (Sl.keep hb hk fun _ _ _ h => h) (by omega)) hc (by rw [List.length_take]; omega)
    clear hb
    have hent : ∀ (a1 a2 : Value) (q : Nat) (w : World), (callFunc 110 (#[a1, a2] ++ #[.pointer (some ⟨q, 0, none⟩)])).run Tryz.prog w = .ok (.enter 110 (#[a1, a2] ++ #[.pointer (some ⟨q, 0, none⟩)])) w := fun a1 a2 q w => by kernel_rfl
    have h64 : (64 : Int) ≤ (co : Int) := by omega
    generalize hin : headIn b = hi at *
    rw [hcs] at hput
    have hH := Lib.hid hH
    have hP := Lib.hid hpM
    have HCS := Lib.hid hcs
    clear hpM hcs hin
    generalize getX b 16 2 = x0 at *
    generalize getX b 24 8 = x1 at *
    generalize getX b 32 8 = x2 at *
    generalize getX b 56 2 = x3 at *
    generalize b.length = nb at *
    go_enter Tryz.func80, Tryz.ntmps80
    go_wp2_with fail
    have hkW : Keep No w (w.alloc (.cells #[.slice ao nb co] 24)) := (Keep.refl _ _).alloc _
    have hBW : Blk (w.alloc (.cells #[.slice ao nb co] 24)) w.heap.size #[.slice ao nb co] 24 := Blk.new _ _ _
    have hzW : (w.alloc (.cells #[.slice ao nb co] 24)).heap.size = w.heap.size + 1 := World.size_alloc _ _
    generalize w.alloc (.cells #[.slice ao nb co] 24) = W at *
    have hkV : Keep No W (W.alloc (.cells #[.int .i64 0, .int .u64 0, .int .u64 0, .int .i64 0] 55)) := (Keep.refl _ _).alloc _
    have hBV : Blk (W.alloc (.cells #[.int .i64 0, .int .u64 0, .int .u64 0, .int .i64 0] 55)) W.heap.size #[.int .i64 0, .int .u64 0, .int .u64 0, .int .i64 0] 55 := Blk.new _ _ _
    have hzV : (W.alloc (.cells #[.int .i64 0, .int .u64 0, .int .u64 0, .int .i64 0] 55)).heap.size = W.heap.size + 1 := World.size_alloc _ _
    generalize W.alloc (.cells #[.int .i64 0, .int .u64 0, .int .u64 0, .int .i64 0] 55) = V at *
    have hBV2 := hBW.keep hkV fun h => h
    rw [hzW] at hBV
    have hq := hBV2.cell 0
    have hkwV := hkW.trans' hkV
    refine (hg16 V _ hkwV hq).mono ?_
    rintro e V1 ⟨rfl, rfl⟩
    go_wp2_with fail
    refine (hg24 V _ hkwV hq).mono ?_
    rintro e V1 ⟨rfl, rfl⟩
    go_wp2_with fail
    refine (hg32 V _ hkwV hq).mono ?_
    rintro e V1 ⟨rfl, rfl⟩
    go_wp2_with fail
    refine (hg56 V _ hkwV hq).mono ?_
    rintro e V1 ⟨rfl, rfl⟩
    clear hg16 hg24 hg32 hg56
    go_wp2_with fail
    have hkU : Keep No V (V.alloc (.cells #[.int .i64 (x0 : Int), .int .u64 (x1 : Int), .int .u64 (x2 : Int), .int .i64 (x3 : Int)] 55)) := (Keep.refl _ _).alloc _
    have hBU : Blk (V.alloc (.cells #[.int .i64 (x0 : Int), .int .u64 (x1 : Int), .int .u64 (x2 : Int), .int .i64 (x3 : Int)] 55)) V.heap.size #[.int .i64 (x0 : Int), .int .u64 (x1 : Int), .int .u64 (x2 : Int), .int .i64 (x3 : Int)] 55 := Blk.new _ _ _
    have hzU : (V.alloc (.cells #[.int .i64 (x0 : Int), .int .u64 (x1 : Int), .int .u64 (x2 : Int), .int .i64 (x3 : Int)] 55)).heap.size = V.heap.size + 1 := World.size_alloc _ _
    generalize V.alloc (.cells #[.int .i64 (x0 : Int), .int .u64 (x1 : Int), .int .u64 (x2 : Int), .int .i64 (x3 : Int)] 55) = U at *
    refine (hput U).mono ?_
    clear hput hq
    rintro e U1 ⟨v1, rfl, ho1, hk1⟩
    have hkU : Keep No V U1 := hkU.trans' hk1
    have hkF : Keep No w U1 := hkwV.trans' hkU
    have hBr := hBV.keep hkU fun h => h
    have hBb := hBV2.keep hkU fun h => h
    have hBh := hBU.keep hk1 fun h => h
    have hle : w.heap.size ≤ U.heap.size := Nat.le_trans hkwV.size (by rw [hzU]; exact Nat.le_succ _)
    rw [hzV, hzW] at hBh
    clear hBV hBV2 hBU hzU
    have hqb := hBb.cell 0
    have d0 := hBh.cell 0
    have d1 := hBh.cell 1
    have d2 := hBh.cell 2
    have d3 := hBh.cell 3
    have hbt : Bts (fun k => w.heap.size ≤ k) U1 v1 (hputM hi).2 := (bts_own ho1).mono fun k _ h => Nat.le_trans hle h.1
    have hpl : (hputM hi).2.length ≤ 64 := by
      rw [hP.out]
      split
      · rw [headB_len]; exact Nat.le_refl _
      · exact Nat.zero_le _
    have hequ := heq U1 v1 (hputM hi).2 hkF hbt (by omega)
    clear ho1 hbt heq hpl hle
    cases hok : headOk hi with
    | false =>
      have hPo := hP.out
      rw [hok, if_neg (by decide)] at hPo
      have hHo := hH.out
      rw [hok, Bool.false_and, if_neg (by decide)] at hHo
      have HH := Lib.hid hHo
      rw [hPo]
      clear hPo hHo hequ
      have hbl := hBr.lt
      go_wp2_with (with_reducible refine wl_stAgg rfl _ _ _ rfl _ _ rfl rfl ?_)
      refine rg_stAgg hBr (by kernel_rfl) (by rfl) (by simp [Value.oneCell']) ?_
      intro w3 hB3 hk3 _
      go_wp2_with fail
      refine ret_blk_tmp rfl rfl hB3 Tryz.underlying55 rfl (by kernel_rfl) rfl ?_
      exact ⟨by rw [HH.out]; rfl, hkF.trans hk3 fun j hj e => by have e2 : j = w.heap.size + 1 := e; omega⟩
    | true =>
      have hPo := hP.out
      rw [hok, if_pos rfl] at hPo
      have hHo := hH.out
      rw [hok, Bool.true_and] at hHo
      rw [hPo] at hequ
      rw [hPo]
      dsimp only at hequ
      generalize decide (headB hi = b.take 64) = q at *
      have HH := Lib.hid hHo
      clear hPo hHo
      go_wp2_with fail
      refine hequ.mono ?_
      rintro e U2 ⟨rfl, hk2⟩
      have hBr2 := hBr.keep hk2 fun h => h
      have hBh2 := hBh.keep hk2 fun h => h
      have hkF2 := hkF.trans' hk2
      clear hequ hBr hBh hBb hqb d0 d1 d2 d3
      cases q with
      | false =>
        have HH2 := Lib.hid ((HH.out).trans (if_neg (by decide)))
        clear HH
        go_wp2_with (with_reducible refine wl_stAgg rfl _ _ _ rfl _ _ rfl rfl ?_)
        refine rg_stAgg hBr2 (by kernel_rfl) (by rfl) (by simp [Value.oneCell']) ?_
        intro w3 hB3 hk3 _
        go_wp2_with fail
        refine ret_blk_tmp rfl rfl hB3 Tryz.underlying55 rfl (by kernel_rfl) rfl ?_
        exact ⟨by rw [HH2.out]; rfl, hkF2.trans hk3 fun j hj e => by have e2 : j = w.heap.size + 1 := e; omega⟩
      | true =>
        have HH2 := Lib.hid ((HH.out).trans (if_pos rfl))
        clear HH
        have d0 := hBh2.cell 0
        have d1 := hBh2.cell 1
        have d2 := hBh2.cell 2
        have d3 := hBh2.cell 3
        go_wp2_with (with_reducible refine wl_stAgg rfl _ _ _ rfl _ _ rfl rfl ?_)
        refine rg_stAgg hBr2 (by kernel_rfl) (by rfl) (by simp [Value.oneCell']) ?_
        intro w3 hB3 hk3 _
        go_wp2_with fail
        refine ret_blk_tmp rfl rfl hB3 Tryz.underlying55 rfl (by kernel_rfl) rfl ?_
        exact ⟨by rw [HH2.out, HCS.out]; rfl, hkF2.trans hk3 fun j hj e => by have e2 : j = w.heap.size + 1 := e; omega⟩
end
end Go.Proofs.YtbnahidopemkiaaGreat
namespace Go.Dm.Ld
open Go Go.Dm.Oc
theorem getX_part (b : BS) (o m a n : Nat) (h1 : o + m ≤ b.length) (h2 : a + n ≤ m) (hn : n = 1 ∨ n = 2 ∨ n = 4 ∨ n = 8) : getX ((b.drop o).take m) a (n : Int) = getX b (o + a) (n : Int) := by
  have hl : ((b.drop o).take m).length = m := by rw [List.length_take, List.length_drop]; omega
  have hw : widthB (n : Int) = true := by
    unfold widthB
    rw [decide_eq_true_eq]
    omega
  have f1 : fitsE ((b.drop o).take m).length a (n : Int) = 0 := by
    unfold fitsE hasB
    rw [hl, hw, if_pos rfl, if_pos]
    rw [Bool.and_eq_true, decide_eq_true_eq, decide_eq_true_eq, Int.toNat_natCast]
    omega
  have f2 : fitsE b.length (o + a) (n : Int) = 0 := by
    unfold fitsE hasB
    rw [hw, if_pos rfl, if_pos]
    rw [Bool.and_eq_true, decide_eq_true_eq, decide_eq_true_eq, Int.toNat_natCast]
    omega
  unfold getX
  rw [if_pos f1, if_pos f2, Int.toNat_natCast, List.drop_take, List.drop_drop, List.take_take, Nat.min_eq_left (by omega)]
end Go.Dm.Ld
namespace Go.Proofs.YtbnahidopemkiaaGreat
open Go.RowKit Go.Dm Go.Dm.Oc Go.Dm.Ld
def encSy (s : Sy) : List Value := [.int .u32 (s.nm : Int), .int .u8 (s.inf : Int), .int .u8 (s.oth : Int), .int .u16 (s.sec : Int), .int .u64 (s.val : Int), .int .u64 (s.sz : Int)]
theorem encSy_len (s : Sy) : (encSy s).length = 6 := rfl
theorem encSy_one (s : Sy) : ∀ u ∈ encSy s, u.oneCell' = true := by
  intro u hu
  simp only [encSy, List.mem_cons, List.not_mem_nil, or_false] at hu
  rcases hu with rfl | rfl | rfl | rfl | rfl | rfl <;> rfl
theorem symT_info : (Tryz.prog.info? 46).map (fun i => (i.zero, i.size, i.bytes)) = some (some (.agg #[.int .u32 0, .int .u8 0, .int .u8 0, .int .u16 0, .int .u64 0, .int .u64 0]), 6, 24) := by kernel_rfl
section
variable {A : Nat → Prop} {w : World}
set_option maxHeartbeats 1000000 in
theorem syone1_any {v : Value} (b : BS) (at_ n q : Nat) (hb : Bts A w v b) (hl : b.length ≤ 1099511627776) (ha : at_ < 18446744073709551616) (hn : n < 65536) (hq : w.cell? ⟨q, 0, none⟩ = some v) :
    Calls Tryz.prog 135 #[.int .u64 (at_ : Int), .int .i64 (n : Int), .pointer (some ⟨q, 0, none⟩)] w fun e w' => e = .returned (.int .u64 (getX b at_ n : Nat)) ∧ w = w' := by
  have hg := oget_any b at_ n hb hl ha (by omega) (by omega)
  obtain ⟨ao, co, rfl, hc1, hc2⟩ := hb.shape
  clear hb
  generalize getX b at_ n = x at *
  generalize fitsE b.length at_ n = y at *
  generalize b.length = nb at *
  go_enter Tryz.func135, Tryz.ntmps135
  go_wp2_with fail
  refine hg.mono ?_
  rintro e W ⟨rfl, rfl⟩
  go_wp2_with fail
  go_ret
  exact ⟨rfl, rfl⟩
theorem syIn_ok (b : BS) (i : Nat) : SyOk (syIn b i) := ⟨getX_lt b i 4, getX_lt b (i + 4) 1, getX_lt b (i + 5) 1, getX_lt b (i + 6) 2, getX_lt b (i + 8) 8, getX_lt b (i + 16) 8⟩
set_option maxRecDepth 100000 in
set_option maxHeartbeats 4000000 in
theorem syone_any {v : Value} (b : BS) (hb : Bts A w v b) (hl : b.length ≤ 1099511627776) :
    Calls Tryz.prog 121 #[v] w fun e w' => e = .returned (.agg (encSy (syIn b 0)).toArray) ∧ Keep No w w' := by
  have hg0 : ∀ W q, Keep No w W → W.cell? ⟨q, 0, none⟩ = some v → Calls Tryz.prog 135 #[.int .u64 0, .int .i64 4, .pointer (some ⟨q, 0, none⟩)] W fun e w' => e = .returned (.int .u64 (getX b (0 + 0) 4 : Nat)) ∧ W = w' := fun W q hk hq =>
    syone1_any b (0 + 0) 4 q (Sl.keep hb hk fun _ _ _ h => h) hl (by decide) (by decide) hq
  have hg4 : ∀ W q, Keep No w W → W.cell? ⟨q, 0, none⟩ = some v → Calls Tryz.prog 135 #[.int .u64 4, .int .i64 1, .pointer (some ⟨q, 0, none⟩)] W fun e w' => e = .returned (.int .u64 (getX b (0 + 4) 1 : Nat)) ∧ W = w' := fun W q hk hq =>
    syone1_any b (0 + 4) 1 q (Sl.keep hb hk fun _ _ _ h => h) hl (by decide) (by decide) hq
  have hg5 : ∀ W q, Keep No w W → W.cell? ⟨q, 0, none⟩ = some v → Calls Tryz.prog 135 #[.int .u64 5, .int .i64 1, .pointer (some ⟨q, 0, none⟩)] W fun e w' => e = .returned (.int .u64 (getX b (0 + 5) 1 : Nat)) ∧ W = w' := fun W q hk hq =>
    syone1_any b (0 + 5) 1 q (Sl.keep hb hk fun _ _ _ h => h) hl (by decide) (by decide) hq
  have hg6 : ∀ W q, Keep No w W → W.cell? ⟨q, 0, none⟩ = some v → Calls Tryz.prog 135 #[.int .u64 6, .int .i64 2, .pointer (some ⟨q, 0, none⟩)] W fun e w' => e = .returned (.int .u64 (getX b (0 + 6) 2 : Nat)) ∧ W = w' := fun W q hk hq =>
    syone1_any b (0 + 6) 2 q (Sl.keep hb hk fun _ _ _ h => h) hl (by decide) (by decide) hq
  have hg8 : ∀ W q, Keep No w W → W.cell? ⟨q, 0, none⟩ = some v → Calls Tryz.prog 135 #[.int .u64 8, .int .i64 8, .pointer (some ⟨q, 0, none⟩)] W fun e w' => e = .returned (.int .u64 (getX b (0 + 8) 8 : Nat)) ∧ W = w' := fun W q hk hq =>
    syone1_any b (0 + 8) 8 q (Sl.keep hb hk fun _ _ _ h => h) hl (by decide) (by decide) hq
  have hg16 : ∀ W q, Keep No w W → W.cell? ⟨q, 0, none⟩ = some v → Calls Tryz.prog 135 #[.int .u64 16, .int .i64 8, .pointer (some ⟨q, 0, none⟩)] W fun e w' => e = .returned (.int .u64 (getX b (0 + 16) 8 : Nat)) ∧ W = w' := fun W q hk hq =>
    syone1_any b (0 + 16) 8 q (Sl.keep hb hk fun _ _ _ h => h) hl (by decide) (by decide) hq
  obtain ⟨o0, o1, o2, o3, o4, o5⟩ := syIn_ok b 0
  have hcs : (encSy (syIn b 0)).toArray = #[.int .u32 ((syIn b 0).nm : Int), .int .u8 ((syIn b 0).inf : Int), .int .u8 ((syIn b 0).oth : Int), .int .u16 ((syIn b 0).sec : Int), .int .u64 ((syIn b 0).val : Int), .int .u64 ((syIn b 0).sz : Int)] := rfl
  rw [hcs]
  have e0 : getX b (0 + 0) 4 = (syIn b 0).nm := rfl
  have e1 : getX b (0 + 4) 1 = (syIn b 0).inf := rfl
  have e2 : getX b (0 + 5) 1 = (syIn b 0).oth := rfl
  have e3 : getX b (0 + 6) 2 = (syIn b 0).sec := rfl
  have e4 : getX b (0 + 8) 8 = (syIn b 0).val := rfl
  have e5 : getX b (0 + 16) 8 = (syIn b 0).sz := rfl
  rw [e0] at hg0
  rw [e1] at hg4
  rw [e2] at hg5
  rw [e3] at hg6
  rw [e4] at hg8
  rw [e5] at hg16
  clear e0 e1 e2 e3 e4 e5 hcs
  obtain ⟨ao, co, rfl, hc1, hc2⟩ := hb.shape
  clear hb
  generalize (syIn b 0).nm = x0 at *
  generalize (syIn b 0).inf = x1 at *
  generalize (syIn b 0).oth = x2 at *
  generalize (syIn b 0).sec = x3 at *
  generalize (syIn b 0).val = x4 at *
  generalize (syIn b 0).sz = x5 at *
  generalize b.length = nb at *
  have hent : ∀ (a1 a2 : Value) (q : Nat) (w : World), (callFunc 135 (#[a1, a2] ++ #[.pointer (some ⟨q, 0, none⟩)])).run Tryz.prog w = .ok (.enter 135 (#[a1, a2] ++ #[.pointer (some ⟨q, 0, none⟩)])) w := fun a1 a2 q w => by kernel_rfl
  go_enter Tryz.func121, Tryz.ntmps121
  go_wp2_with fail
  have hkW : Keep No w (w.alloc (.cells #[.slice ao nb co] 24)) := (Keep.refl _ _).alloc _
  have hBW : Blk (w.alloc (.cells #[.slice ao nb co] 24)) w.heap.size #[.slice ao nb co] 24 := Blk.new _ _ _
  have hzW : (w.alloc (.cells #[.slice ao nb co] 24)).heap.size = w.heap.size + 1 := World.size_alloc _ _
  generalize w.alloc (.cells #[.slice ao nb co] 24) = W at *
  have hkV : Keep No W (W.alloc (.cells #[.int .u32 0, .int .u8 0, .int .u8 0, .int .u16 0, .int .u64 0, .int .u64 0] 46)) := (Keep.refl _ _).alloc _
  have hBV : Blk (W.alloc (.cells #[.int .u32 0, .int .u8 0, .int .u8 0, .int .u16 0, .int .u64 0, .int .u64 0] 46)) W.heap.size #[.int .u32 0, .int .u8 0, .int .u8 0, .int .u16 0, .int .u64 0, .int .u64 0] 46 := Blk.new _ _ _
  have hzV : (W.alloc (.cells #[.int .u32 0, .int .u8 0, .int .u8 0, .int .u16 0, .int .u64 0, .int .u64 0] 46)).heap.size = W.heap.size + 1 := World.size_alloc _ _
  generalize W.alloc (.cells #[.int .u32 0, .int .u8 0, .int .u8 0, .int .u16 0, .int .u64 0, .int .u64 0] 46) = V at *
  have hBV2 := hBW.keep hkV fun h => h
  rw [hzW] at hBV
  have hq := hBV2.cell 0
  have hkwV := hkW.trans' hkV
  refine (hg0 V _ hkwV hq).mono ?_
  rintro e V1 ⟨rfl, rfl⟩
  go_wp2_with fail
  refine (hg4 V _ hkwV hq).mono ?_
  rintro e V1 ⟨rfl, rfl⟩
  go_wp2_with fail
  refine (hg5 V _ hkwV hq).mono ?_
  rintro e V1 ⟨rfl, rfl⟩
  go_wp2_with fail
  refine (hg6 V _ hkwV hq).mono ?_
  rintro e V1 ⟨rfl, rfl⟩
  go_wp2_with fail
  refine (hg8 V _ hkwV hq).mono ?_
  rintro e V1 ⟨rfl, rfl⟩
  go_wp2_with fail
  refine (hg16 V _ hkwV hq).mono ?_
  rintro e V1 ⟨rfl, rfl⟩
  clear hg0 hg4 hg5 hg6 hg8 hg16
  go_wp2_with (with_reducible refine wl_stAgg rfl _ _ _ rfl _ _ rfl rfl ?_)
  refine rg_stAgg hBV (by kernel_rfl) (by rfl) (by simp [Value.oneCell']) ?_
  intro w3 hB3 hk3 _
  go_wp2_with fail
  refine ret_blk rfl rfl hB3 Tryz.underlying46 rfl (by kernel_rfl) rfl ?_
  exact ⟨rfl, hkwV.trans hk3 fun j hj e => by have e2 : j = w.heap.size + 1 := e; omega⟩
end
end Go.Proofs.YtbnahidopemkiaaGreat
namespace Go.Proofs.YtbnahidopemkiaaGreat
open Go.RowKit Go.Dm Go.Dm.Oc Go.Dm.Ld
section
variable {A : Nat → Prop} {w : World}
set_option maxRecDepth 100000 in
set_option maxHeartbeats 1000000 in
theorem sydef_any (s : Sy) : Calls Tryz.prog 51 #[.agg (encSy s).toArray] w fun e w' => e = .returned (.bool (decide (s.sec ≠ 0))) ∧ Keep No w w' := by
  have hb : (!(((s.sec : Int)) == 0)) = decide (s.sec ≠ 0) := by
    rw [Bool.eq_iff_iff]
    simp
  rw [← hb]
  unfold encSy
  generalize s.sec = x at *
  go_enter Tryz.func51, Tryz.ntmps51
  go_wp2_with fail
  go_ret
  exact ⟨rfl, (Keep.refl _ _).alloc _⟩
set_option maxRecDepth 100000 in
set_option maxHeartbeats 1000000 in
theorem sybind_any (s : Sy) (h : s.inf < 256) : Calls Tryz.prog 52 #[.agg (encSy s).toArray] w fun e w' => e = .returned (.int .i64 ((s.inf / 16 : Nat) : Int)) ∧ Keep No w w' := by
  unfold encSy
  have hd : (s.inf : Int) / 16 = ((s.inf / 16 : Nat) : Int) := by omega
  have hlt : s.inf / 16 < 16 := by omega
  generalize s.inf = x at *
  have HD := Lib.hid hd
  clear hd hlt
  go_enter Tryz.func52, Tryz.ntmps52
  go_wp2_with fail
  go_ret
  exact ⟨by rw [← HD.out]; rfl, (Keep.refl _ _).alloc _⟩
set_option maxRecDepth 100000 in
set_option maxHeartbeats 1000000 in
theorem sykind_any (s : Sy) (h : s.inf < 256) : Calls Tryz.prog 93 #[.agg (encSy s).toArray] w fun e w' => e = .returned (.int .i64 ((s.inf % 16 : Nat) : Int)) ∧ Keep No w w' := by
  unfold encSy
  have hd : (s.inf : Int) % 16 = ((s.inf % 16 : Nat) : Int) := by omega
  generalize s.inf = x at *
  have HD := Lib.hid hd
  clear hd
  go_enter Tryz.func93, Tryz.ntmps93
  go_wp2_with fail
  go_ret
  exact ⟨by rw [← HD.out]; rfl, (Keep.refl _ _).alloc _⟩
set_option maxRecDepth 100000 in
set_option maxHeartbeats 1000000 in
theorem idxI_any {v : Value} (l : List Nat) (x : Nat) (hl : Fl A w 1 (fun n : Nat => [.int .i64 (n : Int)]) v l) :
    Calls Tryz.prog 140 #[v, .int .i64 (x : Int)] w fun e w' => e = .returned (.int .i64 (posM (fun n => n == x) l)) ∧ Keep No w w' := by
  have HL := Lib.hid hl
  obtain ⟨ao, co, rfl, hc1, hc2⟩ := hl.shape
  have hlen : l.length ≤ 9223372036854775807 := by unfold maxLen at hc2; omega
  clear hl hc1 hc2
  go_enter Tryz.func140, Tryz.ntmps140
  go_wp2_with fail
  go_loopw [5, 8] (fun _ iv wr => ∃ i : Nat, iv = .int .i64 i ∧ i ≤ l.length ∧ (∀ j, j < i → ∀ y, l[j]? = some y → (y == x) = false) ∧ Keep No w wr) (fun _ iv _ => l.length - (intOf iv).toNat)
  case atStart => exact ⟨0, rfl, Nat.zero_le _, (fun j hj => absurd hj (Nat.not_lt_zero _)), Keep.refl _ _⟩
  case round =>
    obtain ⟨i, rfl, hi, hno, hk⟩ := hrel
    generalize wr = wz at *
    rcases Nat.lt_or_ge i l.length with hlt | hge
    · obtain ⟨g1, off, cap, ev, _, _, _, _, hc⟩ := (HL.out.no hk).at (fun _ => rfl) hlt
      cases ev
      have hiz : (i : Int) < (l.length : Int) := by omega
      have hfin : (l[i] == x) = true → posM (fun n => n == x) l = (i : Int) := fun h => posM_some hlt h fun j hj => hno j hj _ (List.getElem?_eq_getElem _)
      have hno2 : (l[i] == x) = false → ∀ j, j < i + 1 → ∀ y, l[j]? = some y → (y == x) = false := fun h j hji y hy => by
        rcases Nat.lt_or_ge j i with h2 | h2
        · exact hno j h2 y hy
        · obtain rfl : j = i := by omega
          rw [List.getElem?_eq_getElem hlt] at hy
          cases hy
          exact h
      have HF := Lib.hid hfin
      have HN := Lib.hid hno2
      clear hno hfin hno2
      have c0 := hc 0 _ rfl
      rw [Nat.add_zero, Nat.mul_one] at c0
      clear hc
      generalize hy : l[i] = y at *
      rcases Nat.decEq y x with hne | rfl
      · have hni : ¬ ((y : Int) = (x : Int)) := by omega
        have hb : (y == x) = false := by rw [beq_eq_false_iff_ne]; exact hne
        have hbi : ((x : Int) == (y : Int)) = false := by rw [beq_eq_false_iff_ne]; omega
        have hbi2 : ((y : Int) == (x : Int)) = false := by rw [beq_eq_false_iff_ne]; omega
        go_wp2_with fail
        try go_quiet (fail)
        go_wp2_with fail
        go_roundw
        case rel => exact ⟨i + 1, by go_num, hlt, HN.out hb, by first | exact hk | exact hk.drewN _⟩
        case measure => simp [intOf]; omega
      · go_wp2_with fail
        try go_quiet (fail)
        go_wp2_with fail
        go_ret
        rw [HF.out (by simp)]
        exact ⟨rfl, by first | exact hk | exact hk.drewN _⟩
    · obtain rfl : i = l.length := Nat.le_antisymm hi hge
      have hof := posM_none (p := fun n => n == x) (l := l) fun j hj => hno j hj _ (List.getElem?_eq_getElem hj)
      go_wp2_with fail
      go_ret
      rw [hof]
      exact ⟨rfl, hk⟩
set_option maxHeartbeats 1000000 in
theorem hasI_any {v : Value} (l : List Nat) (x : Nat) (hl : Fl A w 1 (fun n : Nat => [.int .i64 (n : Int)]) v l) :
    Calls Tryz.prog 136 #[v, .int .i64 (x : Int)] w fun e w' => e = .returned (.bool (l.contains x)) ∧ Keep No w w' := by
  have hc := idxI_any l x hl
  have hb : decide (0 ≤ posM (fun n => n == x) l) = l.contains x := by
    unfold posM
    rw [List.contains_eq_any_beq]
    have e : l.any (fun n => n == x) = l.any fun n => x == n := by
      congr 1
      funext n
      exact Bool.beq_comm
    rw [← e]
    cases l.any (fun n => n == x) with
    | false => rfl
    | true => simp
  clear hl
  generalize posM (fun n => n == x) l = r at *
  generalize l.contains x = b at *
  go_enter Tryz.func136, Tryz.ntmps136
  go_wp2_with fail
  refine hc.mono ?_
  rintro e w2 ⟨rfl, hk2⟩
  go_wp2_with fail
  go_ret
  exact ⟨by rw [← hb]; rfl, hk2⟩
set_option maxRecDepth 100000 in
set_option maxHeartbeats 8000000 in
theorem symay_any (s : Sy) (hs : SyOk s) : Calls Tryz.prog 122 #[.agg (encSy s).toArray] w fun e w' => e = .returned (.bool (mayS s)) ∧ Keep No w w' := by
  obtain ⟨o0, o1, o2, o3, o4, o5⟩ := hs
  have hdef := fun w => sydef_any (w := w) s
  have hbind := fun w => sybind_any (w := w) s o1
  have hkind := fun w => sykind_any (w := w) s o1
  have hkk : ([0, 1, 2, 6] : List Nat).contains (s.inf % 16) = decide (s.inf % 16 = 0 ∨ s.inf % 16 = 1 ∨ s.inf % 16 = 2 ∨ s.inf % 16 = 6) := by
    rw [Bool.eq_iff_iff]
    simp
  have HM : Hid (mayS s = (decide (s.inf / 16 ≤ 2) && decide (s.inf % 16 = 0 ∨ s.inf % 16 = 1 ∨ s.inf % 16 = 2 ∨ s.inf % 16 = 6) && decide (s.oth = 0) && decide (s.sec ≤ 1) && decide (s.nm ≠ 0) && (decide (s.sec ≠ 0) || decide (s.val = 0 ∧ s.sz = 0 ∧ s.inf / 16 ≠ 0)))) := Lib.hid rfl
  have hib : s.inf / 16 < 16 := by omega
  have hik : s.inf % 16 < 16 := by omega
  have hcs : (encSy s).toArray = #[.int .u32 (s.nm : Int), .int .u8 (s.inf : Int), .int .u8 (s.oth : Int), .int .u16 (s.sec : Int), .int .u64 (s.val : Int), .int .u64 (s.sz : Int)] := rfl
  rw [hcs] at hdef hbind hkind ⊢
  generalize mayS s = res at *
  generalize s.inf / 16 = ib at *
  generalize s.inf % 16 = ik at *
  generalize s.nm = x0 at *
  generalize s.inf = x1 at *
  generalize s.oth = x2 at *
  generalize s.sec = x3 at *
  generalize s.val = x4 at *
  generalize s.sz = x5 at *
  clear hcs
  go_enter Tryz.func122, Tryz.ntmps122
  go_wp2_with fail
  have hkW : Keep No w (w.alloc (.cells #[.int .u32 (x0 : Int), .int .u8 (x1 : Int), .int .u8 (x2 : Int), .int .u16 (x3 : Int), .int .u64 (x4 : Int), .int .u64 (x5 : Int)] 46)) := (Keep.refl _ _).alloc _
  have hBW : Blk (w.alloc (.cells #[.int .u32 (x0 : Int), .int .u8 (x1 : Int), .int .u8 (x2 : Int), .int .u16 (x3 : Int), .int .u64 (x4 : Int), .int .u64 (x5 : Int)] 46)) w.heap.size #[.int .u32 (x0 : Int), .int .u8 (x1 : Int), .int .u8 (x2 : Int), .int .u16 (x3 : Int), .int .u64 (x4 : Int), .int .u64 (x5 : Int)] 46 := Blk.new _ _ _
  have hzW : (w.alloc (.cells #[.int .u32 (x0 : Int), .int .u8 (x1 : Int), .int .u8 (x2 : Int), .int .u16 (x3 : Int), .int .u64 (x4 : Int), .int .u64 (x5 : Int)] 46)).heap.size = w.heap.size + 1 := World.size_alloc _ _
  generalize w.alloc (.cells #[.int .u32 (x0 : Int), .int .u8 (x1 : Int), .int .u8 (x2 : Int), .int .u16 (x3 : Int), .int .u64 (x4 : Int), .int .u64 (x5 : Int)] 46) = W at *
  have hkV : Keep No W (W.alloc (.cells #[.int .i64 0, .int .i64 1, .int .i64 2, .int .i64 6] 3)) := (Keep.refl _ _).alloc _
  have hBV : Blk (W.alloc (.cells #[.int .i64 0, .int .i64 1, .int .i64 2, .int .i64 6] 3)) W.heap.size #[.int .i64 0, .int .i64 1, .int .i64 2, .int .i64 6] 3 := Blk.new _ _ _
  have hzV : (W.alloc (.cells #[.int .i64 0, .int .i64 1, .int .i64 2, .int .i64 6] 3)).heap.size = W.heap.size + 1 := World.size_alloc _ _
  generalize W.alloc (.cells #[.int .i64 0, .int .i64 1, .int .i64 2, .int .i64 6] 3) = V at *
  have hBX0 := hBW.keep hkV fun h => h
  have hLX0 : Fl (fun j => j = W.heap.size) V 1 (fun n : Nat => [.int .i64 (n : Int)]) (.slice (some ⟨W.heap.size, 0, none⟩) 4 4) [0, 1, 2, 6] := by
    refine Sl.mk (by rfl) rfl hBV.lt (Nat.le_refl _) (by unfold maxLen; omega) fun j u hu => ?_
    rw [hBV.cell, Nat.zero_add, List.getElem?_toArray]
    exact hu
  rw [hzW] at hLX0
  have hkwV := hkW.trans' hkV
  clear hBW hBV hkW hkV hzW hzV
  refine (hdef V).mono ?_
  rintro e w1 ⟨rfl, hk1⟩
  have hk0 := hkwV.trans' hk1
  have hBX := hBX0.keep hk1 fun h => h
  have hLX := hLX0.no hk1
  clear hBX0 hLX0 hkwV hk1
  have c0 := hBX.cell 4
  have c1 := hBX.cell 5
  by_cases hx3 : x3 = 0
  · have hd : decide (x3 ≠ 0) = false := by simp [hx3]
    rw [hd] at HM ⊢
    have hx3i : (x3 : Int) = 0 := by omega
    by_cases hx4 : x4 = 0
    · have hx4i : ((x4 : Int) == 0) = true := by rw [beq_iff_eq]; omega
      by_cases hx5 : x5 = 0
      · have hx5i : ((x5 : Int) == 0) = true := by rw [beq_iff_eq]; omega
        have a0 := hBX.cell 0
        have a1 := hBX.cell 1
        have a2 := hBX.cell 2
        have a3 := hBX.cell 3
        have HMf : Hid (ib = 0 → res = (decide (ib ≤ 2) && decide (ik = 0 ∨ ik = 1 ∨ ik = 2 ∨ ik = 6) && decide (x2 = 0) && decide (x3 ≤ 1) && decide (x0 ≠ 0) && false)) := Lib.hid fun h => by rw [HM.out, show (false || decide (x4 = 0 ∧ x5 = 0 ∧ ib ≠ 0)) = false by simp [h]]
        have HMt : Hid (ib ≠ 0 → res = (decide (ib ≤ 2) && decide (ik = 0 ∨ ik = 1 ∨ ik = 2 ∨ ik = 6) && decide (x2 = 0) && decide (x3 ≤ 1) && decide (x0 ≠ 0) && true)) := Lib.hid fun h => by rw [HM.out, show (false || decide (x4 = 0 ∧ x5 = 0 ∧ ib ≠ 0)) = true by simp [h, hx4, hx5]]
        clear HM
        subst hx3
        subst hx4
        subst hx5
        clear hx3i hx4i hx5i
        go_wp2_with fail
        refine (hbind w1).mono ?_
        rintro e wb ⟨rfl, hkb_⟩
        have hBY := hBX.keep hkb_ fun h => h
        have hLY := hLX.no hkb_
        have hk0' := hk0.trans' hkb_
        clear hBX hLX a0 a1 a2 a3 c0 c1 hk0
        have hBX := hBY
        have hLX := hLY
        have hk0 := hk0'
        by_cases hib0 : ib = 0
        · have HM := Lib.hid (HMf.out hib0)
          have hib0i : ((ib : Int) == 0) = true := by rw [beq_iff_eq]; omega
          clear HMf HMt
          have hkx : Keep No w wb := by first | exact hk0 | exact (hk0.trans' hkA) | exact (hk0.trans' hkA).trans' hkB
          have a0 := hBX.cell 0
          have a1 := hBX.cell 1
          have a2 := hBX.cell 2
          have a3 := hBX.cell 3
          have a4 := hBX.cell 4
          have a5 := hBX.cell 5
          go_wp2_with fail
          refine (hbind wb).mono ?_
          rintro e w2 ⟨rfl, hk2⟩
          have hB2 := hBX.keep hk2 fun h => h
          have hL2 := hLX.no hk2
          have hkw2 := hkx.trans' hk2
          clear hBX hLX a0 a1 a2 a3 a4 a5
          have d0 := hB2.cell 0
          have d1 := hB2.cell 1
          have d2 := hB2.cell 2
          have d3 := hB2.cell 3
          have d4 := hB2.cell 4
          have d5 := hB2.cell 5
          by_cases hb2 : ib ≤ 2
          · have hb2i : (ib : Int) ≤ 2 := by omega
            go_wp2_with fail
            refine (hkind w2).mono ?_
            rintro e w3 ⟨rfl, hk3⟩
            have hB3 := hB2.keep hk3 fun h => h
            have hL3 := hL2.no hk3
            clear hB2 hL2 d0 d1 d2 d3 d4 d5
            go_wp2_with fail
            have hh := hasI_any _ ik hL3
            rw [hkk] at hh
            refine hh.mono ?_
            clear hh
            rintro e w4 ⟨rfl, hk4⟩
            have hB4 := hB3.keep hk4 fun h => h
            have d0 := hB4.cell 0
            have d2 := hB4.cell 2
            have d3 := hB4.cell 3
            have hkF := (hkw2.trans' hk3).trans' hk4
            clear hB3 hB4 hL3 hbind hkind hdef hk0
            cases hkb : decide (ik = 0 ∨ ik = 1 ∨ ik = 2 ∨ ik = 6) with
            | false =>
              rw [hkb] at HM
              clear d0 d2 d3
              go_wp2_with fail
              go_ret
              rw [HM.out]
              exact ⟨by simp, hkF⟩
            | true =>
              rw [hkb] at HM
              go_wp2_with fail
              all_goals
                go_ret
                rw [HM.out]
                refine ⟨congrArg (fun b => Ending.returned (Value.bool b)) ?_, hkF⟩
                clear d0 d2 d3 HM
                rw [Bool.eq_iff_iff]
                simp only [Bool.and_eq_true, Bool.or_eq_true, Bool.and_true, Bool.true_and, decide_eq_true_eq, beq_iff_eq, bne_iff_ne, Bool.not_eq_true', beq_eq_false_iff_ne, ne_eq, Bool.false_eq_true, false_iff, true_iff, iff_true, iff_false, not_and, not_or, and_true, true_and, Bool.and_false, and_false, not_false_eq_true, implies_true, true_or, false_or, or_true] at *
                try omega
          · have hb2i : ¬ ((ib : Int) ≤ 2) := by omega
            first
              | (exfalso
                 omega)
              | (go_wp2_with fail
                 go_ret
                 rw [HM.out]
                 refine ⟨congrArg (fun b => Ending.returned (Value.bool b)) ?_, hkw2⟩
                 simp [hb2])
        · have HM := Lib.hid (HMt.out hib0)
          have hib0i : ((ib : Int) == 0) = false := by rw [beq_eq_false_iff_ne]; omega
          clear HMf HMt
          have hkx : Keep No w wb := by first | exact hk0 | exact (hk0.trans' hkA) | exact (hk0.trans' hkA).trans' hkB
          have a0 := hBX.cell 0
          have a1 := hBX.cell 1
          have a2 := hBX.cell 2
          have a3 := hBX.cell 3
          have a4 := hBX.cell 4
          have a5 := hBX.cell 5
          go_wp2_with fail
          refine (hbind wb).mono ?_
          rintro e w2 ⟨rfl, hk2⟩
          have hB2 := hBX.keep hk2 fun h => h
          have hL2 := hLX.no hk2
          have hkw2 := hkx.trans' hk2
          clear hBX hLX a0 a1 a2 a3 a4 a5
          have d0 := hB2.cell 0
          have d1 := hB2.cell 1
          have d2 := hB2.cell 2
          have d3 := hB2.cell 3
          have d4 := hB2.cell 4
          have d5 := hB2.cell 5
          by_cases hb2 : ib ≤ 2
          · have hb2i : (ib : Int) ≤ 2 := by omega
            go_wp2_with fail
            refine (hkind w2).mono ?_
            rintro e w3 ⟨rfl, hk3⟩
            have hB3 := hB2.keep hk3 fun h => h
            have hL3 := hL2.no hk3
            clear hB2 hL2 d0 d1 d2 d3 d4 d5
            go_wp2_with fail
            have hh := hasI_any _ ik hL3
            rw [hkk] at hh
            refine hh.mono ?_
            clear hh
            rintro e w4 ⟨rfl, hk4⟩
            have hB4 := hB3.keep hk4 fun h => h
            have d0 := hB4.cell 0
            have d2 := hB4.cell 2
            have d3 := hB4.cell 3
            have hkF := (hkw2.trans' hk3).trans' hk4
            clear hB3 hB4 hL3 hbind hkind hdef hk0
            cases hkb : decide (ik = 0 ∨ ik = 1 ∨ ik = 2 ∨ ik = 6) with
            | false =>
              rw [hkb] at HM
              clear d0 d2 d3
              go_wp2_with fail
              go_ret
              rw [HM.out]
              exact ⟨by simp, hkF⟩
            | true =>
              rw [hkb] at HM
              go_wp2_with fail
              all_goals
                go_ret
                rw [HM.out]
                refine ⟨congrArg (fun b => Ending.returned (Value.bool b)) ?_, hkF⟩
                clear d0 d2 d3 HM
                rw [Bool.eq_iff_iff]
                simp only [Bool.and_eq_true, Bool.or_eq_true, Bool.and_true, Bool.true_and, decide_eq_true_eq, beq_iff_eq, bne_iff_ne, Bool.not_eq_true', beq_eq_false_iff_ne, ne_eq, Bool.false_eq_true, false_iff, true_iff, iff_true, iff_false, not_and, not_or, and_true, true_and, Bool.and_false, and_false, not_false_eq_true, implies_true, true_or, false_or, or_true] at *
                try omega
          · have hb2i : ¬ ((ib : Int) ≤ 2) := by omega
            first
              | (exfalso
                 omega)
              | (go_wp2_with fail
                 go_ret
                 rw [HM.out]
                 refine ⟨congrArg (fun b => Ending.returned (Value.bool b)) ?_, hkw2⟩
                 simp [hb2])
      · have hx5i : ((x5 : Int) == 0) = false := by rw [beq_eq_false_iff_ne]; omega
        rw [show (false || decide (x4 = 0 ∧ x5 = 0 ∧ ib ≠ 0)) = false by simp [hx5]] at HM
        subst hx3
        subst hx4
        clear hx3i hx4i
        have hkx : Keep No w w1 := by first | exact hk0 | exact (hk0.trans' hkA) | exact (hk0.trans' hkA).trans' hkB
        have a0 := hBX.cell 0
        have a1 := hBX.cell 1
        have a2 := hBX.cell 2
        have a3 := hBX.cell 3
        have a4 := hBX.cell 4
        have a5 := hBX.cell 5
        go_wp2_with fail
        refine (hbind w1).mono ?_
        rintro e w2 ⟨rfl, hk2⟩
        have hB2 := hBX.keep hk2 fun h => h
        have hL2 := hLX.no hk2
        have hkw2 := hkx.trans' hk2
        clear hBX hLX a0 a1 a2 a3 a4 a5
        have d0 := hB2.cell 0
        have d1 := hB2.cell 1
        have d2 := hB2.cell 2
        have d3 := hB2.cell 3
        have d4 := hB2.cell 4
        have d5 := hB2.cell 5
        by_cases hb2 : ib ≤ 2
        · have hb2i : (ib : Int) ≤ 2 := by omega
          go_wp2_with fail
          refine (hkind w2).mono ?_
          rintro e w3 ⟨rfl, hk3⟩
          have hB3 := hB2.keep hk3 fun h => h
          have hL3 := hL2.no hk3
          clear hB2 hL2 d0 d1 d2 d3 d4 d5
          go_wp2_with fail
          have hh := hasI_any _ ik hL3
          rw [hkk] at hh
          refine hh.mono ?_
          clear hh
          rintro e w4 ⟨rfl, hk4⟩
          have hB4 := hB3.keep hk4 fun h => h
          have d0 := hB4.cell 0
          have d2 := hB4.cell 2
          have d3 := hB4.cell 3
          have hkF := (hkw2.trans' hk3).trans' hk4
          clear hB3 hB4 hL3 hbind hkind hdef hk0
          cases hkb : decide (ik = 0 ∨ ik = 1 ∨ ik = 2 ∨ ik = 6) with
          | false =>
            rw [hkb] at HM
            clear d0 d2 d3
            go_wp2_with fail
            go_ret
            rw [HM.out]
            exact ⟨by simp, hkF⟩
          | true =>
            rw [hkb] at HM
            go_wp2_with fail
            all_goals
              go_ret
              rw [HM.out]
              refine ⟨congrArg (fun b => Ending.returned (Value.bool b)) ?_, hkF⟩
              clear d0 d2 d3 HM
              rw [Bool.eq_iff_iff]
              simp only [Bool.and_eq_true, Bool.or_eq_true, Bool.and_true, Bool.true_and, decide_eq_true_eq, beq_iff_eq, bne_iff_ne, Bool.not_eq_true', beq_eq_false_iff_ne, ne_eq, Bool.false_eq_true, false_iff, true_iff, iff_true, iff_false, not_and, not_or, and_true, true_and, Bool.and_false, and_false, not_false_eq_true, implies_true, true_or, false_or, or_true] at *
              try omega
        · have hb2i : ¬ ((ib : Int) ≤ 2) := by omega
          first
            | (exfalso
               omega)
            | (go_wp2_with fail
               go_ret
               rw [HM.out]
               refine ⟨congrArg (fun b => Ending.returned (Value.bool b)) ?_, hkw2⟩
               simp [hb2])
    · have hx4i : ((x4 : Int) == 0) = false := by rw [beq_eq_false_iff_ne]; omega
      rw [show (false || decide (x4 = 0 ∧ x5 = 0 ∧ ib ≠ 0)) = false by simp [hx4]] at HM
      clear c1
      subst hx3
      clear hx3i
      have hkx : Keep No w w1 := by first | exact hk0 | exact (hk0.trans' hkA) | exact (hk0.trans' hkA).trans' hkB
      have a0 := hBX.cell 0
      have a1 := hBX.cell 1
      have a2 := hBX.cell 2
      have a3 := hBX.cell 3
      have a4 := hBX.cell 4
      have a5 := hBX.cell 5
      go_wp2_with fail
      refine (hbind w1).mono ?_
      rintro e w2 ⟨rfl, hk2⟩
      have hB2 := hBX.keep hk2 fun h => h
      have hL2 := hLX.no hk2
      have hkw2 := hkx.trans' hk2
      clear hBX hLX a0 a1 a2 a3 a4 a5
      have d0 := hB2.cell 0
      have d1 := hB2.cell 1
      have d2 := hB2.cell 2
      have d3 := hB2.cell 3
      have d4 := hB2.cell 4
      have d5 := hB2.cell 5
      by_cases hb2 : ib ≤ 2
      · have hb2i : (ib : Int) ≤ 2 := by omega
        go_wp2_with fail
        refine (hkind w2).mono ?_
        rintro e w3 ⟨rfl, hk3⟩
        have hB3 := hB2.keep hk3 fun h => h
        have hL3 := hL2.no hk3
        clear hB2 hL2 d0 d1 d2 d3 d4 d5
        go_wp2_with fail
        have hh := hasI_any _ ik hL3
        rw [hkk] at hh
        refine hh.mono ?_
        clear hh
        rintro e w4 ⟨rfl, hk4⟩
        have hB4 := hB3.keep hk4 fun h => h
        have d0 := hB4.cell 0
        have d2 := hB4.cell 2
        have d3 := hB4.cell 3
        have hkF := (hkw2.trans' hk3).trans' hk4
        clear hB3 hB4 hL3 hbind hkind hdef hk0
        cases hkb : decide (ik = 0 ∨ ik = 1 ∨ ik = 2 ∨ ik = 6) with
        | false =>
          rw [hkb] at HM
          clear d0 d2 d3
          go_wp2_with fail
          go_ret
          rw [HM.out]
          exact ⟨by simp, hkF⟩
        | true =>
          rw [hkb] at HM
          go_wp2_with fail
          all_goals
            go_ret
            rw [HM.out]
            refine ⟨congrArg (fun b => Ending.returned (Value.bool b)) ?_, hkF⟩
            clear d0 d2 d3 HM
            rw [Bool.eq_iff_iff]
            simp only [Bool.and_eq_true, Bool.or_eq_true, Bool.and_true, Bool.true_and, decide_eq_true_eq, beq_iff_eq, bne_iff_ne, Bool.not_eq_true', beq_eq_false_iff_ne, ne_eq, Bool.false_eq_true, false_iff, true_iff, iff_true, iff_false, not_and, not_or, and_true, true_and, Bool.and_false, and_false, not_false_eq_true, implies_true, true_or, false_or, or_true] at *
            try omega
      · have hb2i : ¬ ((ib : Int) ≤ 2) := by omega
        first
          | (exfalso
             omega)
          | (go_wp2_with fail
             go_ret
             rw [HM.out]
             refine ⟨congrArg (fun b => Ending.returned (Value.bool b)) ?_, hkw2⟩
             simp [hb2])
  · have hd : decide (x3 ≠ 0) = true := by simp [hx3]
    rw [hd] at HM ⊢
    clear c0 c1
    have hkx : Keep No w w1 := by first | exact hk0 | exact (hk0.trans' hkA) | exact (hk0.trans' hkA).trans' hkB
    have a0 := hBX.cell 0
    have a1 := hBX.cell 1
    have a2 := hBX.cell 2
    have a3 := hBX.cell 3
    have a4 := hBX.cell 4
    have a5 := hBX.cell 5
    go_wp2_with fail
    refine (hbind w1).mono ?_
    rintro e w2 ⟨rfl, hk2⟩
    have hB2 := hBX.keep hk2 fun h => h
    have hL2 := hLX.no hk2
    have hkw2 := hkx.trans' hk2
    clear hBX hLX a0 a1 a2 a3 a4 a5
    have d0 := hB2.cell 0
    have d1 := hB2.cell 1
    have d2 := hB2.cell 2
    have d3 := hB2.cell 3
    have d4 := hB2.cell 4
    have d5 := hB2.cell 5
    by_cases hb2 : ib ≤ 2
    · have hb2i : (ib : Int) ≤ 2 := by omega
      go_wp2_with fail
      refine (hkind w2).mono ?_
      rintro e w3 ⟨rfl, hk3⟩
      have hB3 := hB2.keep hk3 fun h => h
      have hL3 := hL2.no hk3
      clear hB2 hL2 d0 d1 d2 d3 d4 d5
      go_wp2_with fail
      have hh := hasI_any _ ik hL3
      rw [hkk] at hh
      refine hh.mono ?_
      clear hh
      rintro e w4 ⟨rfl, hk4⟩
      have hB4 := hB3.keep hk4 fun h => h
      have d0 := hB4.cell 0
      have d2 := hB4.cell 2
      have d3 := hB4.cell 3
      have hkF := (hkw2.trans' hk3).trans' hk4
      clear hB3 hB4 hL3 hbind hkind hdef hk0
      cases hkb : decide (ik = 0 ∨ ik = 1 ∨ ik = 2 ∨ ik = 6) with
      | false =>
        rw [hkb] at HM
        clear d0 d2 d3
        go_wp2_with fail
        go_ret
        rw [HM.out]
        exact ⟨by simp, hkF⟩
      | true =>
        rw [hkb] at HM
        go_wp2_with fail
        all_goals
          go_ret
          rw [HM.out]
          refine ⟨congrArg (fun b => Ending.returned (Value.bool b)) ?_, hkF⟩
          clear d0 d2 d3 HM
          rw [Bool.eq_iff_iff]
          simp only [Bool.and_eq_true, Bool.or_eq_true, Bool.and_true, Bool.true_and, decide_eq_true_eq, beq_iff_eq, bne_iff_ne, Bool.not_eq_true', beq_eq_false_iff_ne, ne_eq, Bool.false_eq_true, false_iff, true_iff, iff_true, iff_false, not_and, not_or, and_true, true_and, Bool.and_false, and_false, not_false_eq_true, implies_true, true_or, false_or, or_true] at *
          try omega
    · have hb2i : ¬ ((ib : Int) ≤ 2) := by omega
      first
        | (exfalso
           omega)
        | (go_wp2_with fail
           go_ret
           rw [HM.out]
           refine ⟨congrArg (fun b => Ending.returned (Value.bool b)) ?_, hkw2⟩
           simp [hb2])
end
end Go.Proofs.YtbnahidopemkiaaGreat
